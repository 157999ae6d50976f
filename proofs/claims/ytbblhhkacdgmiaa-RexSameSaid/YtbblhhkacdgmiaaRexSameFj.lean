/- Whether any two are the same is the document's: for every input, of any size. -/
import Derived.Test.YtbblhhkacdgmiaaAwake3
import Derived.Test.YtbblhhkacdgmiaaSr1
import Derived.Test.YtbblhhkacdgmiaaBd
import Derived.WalkKit
import Derived.OpenShut
import Derived.JoinedCond
namespace Go.Proofs.Ytbblhhkacdgmiaa
open Go.RowKit
set_option linter.unusedVariables false
set_option linter.unusedSimpArgs false

theorem two_pre_s (w : World) (h : RH) (A : Option Addr) (n c : Nat) (h2 : RH) (A2 : Option Addr) (n2 c2 : Nat) : ∃ W, (w.alloc (.cells (reA h A n c) 30)).alloc (.cells (reA h2 A2 n2 c2) 30) = W ∧ Below w.heap.size w W ∧ W.heap[w.heap.size]? = some (.cells (reA h A n c) 30 (0, 0)) ∧ W.heap[w.heap.size + 1]? = some (.cells (reA h2 A2 n2 c2) 30 (0, 0)) := by
  obtain ⟨e1, e2⟩ := two_new (w := w) (.cells (reA h A n c) 30) (.cells (reA h2 A2 n2 c2) 30)
  exact ⟨_, rfl, below_new (below_new (Below.refl _ _) _) _, e1, e2⟩
set_option maxRecDepth 100000 in
set_option maxHeartbeats 16000000 in
theorem rexSameF_walk (h : RH) (ks : List Re) (A : Option Addr) (c : Nat) (h2 : RH) (ks2 : List Re) (A2 : Option Addr) (c2 : Nat) (w : World) (hm : T.short (T.mk h ks)) (hc : ks.length ≤ c) (hr : InRow RE (fun _ => True) w ks A 0) (hm2 : T.short (T.mk h2 ks2)) (hc2 : ks2.length ≤ c2) (hr2 : InRow RE (fun _ => True) w ks2 A2 0) :
    Calls Try.prog 4 #[reV h A ks.length c, reV h2 A2 ks2.length c2] w fun e w' => e = .returned (.bool true) ∧ Below w.heap.size w w' := by
  obtain ⟨W, hW, hbW, e1, e2⟩ := two_pre_s w h A ks.length c h2 A2 ks2.length c2
  have CG1 : Hid (∀ X, Below W.heap.size W X → Calls Try.prog 18 #[reV h A ks.length c, .int .i64 200] X fun e w' => (∃ b, e = .returned (.bool b)) ∧ Below X.heap.size X w') := fun X hX => Great_s h ks A c 200 X hm hc (hr.below (below_from hbW hX))
  have CG2 : Hid (∀ X, Below W.heap.size W X → Calls Try.prog 18 #[reV h2 A2 ks2.length c2, .int .i64 200] X fun e w' => (∃ b, e = .returned (.bool b)) ∧ Below X.heap.size X w') := fun X hX => Great_s h2 ks2 A2 c2 200 X hm2 hc2 (hr2.below (below_from hbW hX))
  have CA : Hid (∀ X, Below W.heap.size W X → Calls Try.prog 7 #[] X fun e w' => e = .returned (.bool true) ∧ Below X.heap.size X w') := fun X hX => awake3_any X
  have CR : Hid (∀ X, Below W.heap.size W X → Calls Try.prog 8 #[reV h A ks.length c, reV h2 A2 ks2.length c2] X fun e w' => e = .returned (.bool (sameT (.mk h ks) (.mk h2 ks2))) ∧ Below X.heap.size X w') := fun X hX => refSame_s _ (fun _ => True) h h2 ks ks2 A A2 c c2 X (Nat.le_refl _) hm hm2 (hr.below (below_from hbW hX)) (hr2.below (below_from hbW hX))
  have CV : Hid (∀ X, Below W.heap.size W X → Calls Try.prog 19 #[reV h A ks.length c, reV h2 A2 ks2.length c2] X fun e w' => e = .returned (.bool (sameT (.mk h ks) (.mk h2 ks2))) ∧ Below X.heap.size X w') := fun X hX => rexSame_s _ (fun _ => True) h h2 ks ks2 A A2 c c2 X (Nat.le_refl _) hm hm2 (hr.below (below_from hbW hX)) (hr2.below (below_from hbW hX))
  have CU : Hid (∀ X, Below W.heap.size W X → Calls Try.prog 19 #[reV h2 A2 ks2.length c2, reV h A ks.length c] X fun e w' => e = .returned (.bool (sameT (.mk h ks) (.mk h2 ks2))) ∧ Below X.heap.size X w') := fun X hX => by
    have := rexSame_s _ (fun _ => True) h2 h ks2 ks A2 A c2 c X (Nat.le_refl _) hm2 hm (hr2.below (below_from hbW hX)) (hr.below (below_from hbW hX))
    rw [sameT_comm] at this
    exact this
  have CT : Hid (∀ X, Below W.heap.size W X → Calls Try.prog 19 #[reV h A ks.length c, reV h A ks.length c] X fun e w' => e = .returned (.bool true) ∧ Below X.heap.size X w') := fun X hX => by
    have := rexSame_s _ (fun _ => True) h h ks ks A A c c X (Nat.le_refl _) hm hm (hr.below (below_from hbW hX)) (hr.below (below_from hbW hX))
    rw [sameT_refl] at this
    exact this
  generalize sameT (.mk h ks) (.mk h2 ks2) = sb at *
  have HW := Lib.hid hbW
  have HE := Lib.hid hW
  have E1 := Lib.hid e1
  have E2 := Lib.hid e2
  clear hW hr hr2 hbW e1 e2 hm hm2 hc hc2
  have HB0 : Hid (Below W.heap.size W W) := Below.refl _ _
  have g0 : (sb == sb) = true := by simp
  go_enter Try.func4, Try.ntmps4
  go_wp2_with fail
  rw [HE.out]
  refine (CG1.out _ HB0.out).mono ?_
  rintro e w0 ⟨⟨b1, rfl⟩, hb0⟩
  have HB1_ := Lib.hid (below_from HB0.out hb0)
  have Ex1_ := Lib.hid ((hb0.block _ (lt_of_block E1.out)).trans E1.out)
  have Ey1_ := Lib.hid ((hb0.block _ (lt_of_block E2.out)).trans E2.out)
  cases b1 with
  | true =>
    go_wp2_with fail
    refine (CA.out _ HB1_.out).mono ?_
    rintro e w9 ⟨rfl, hb9⟩
    have hb := below_from HW.out (below_from HB1_.out hb9)
    clear hb9
    go_wp2_with fail
    go_ret
    exact ⟨rfl, hb⟩
  | false =>
    obtain ⟨y0, y1, y2, y3, y4, y5⟩ := re_at_box Ey1_.out
    go_wp2_with fail
    refine (CG2.out _ HB1_.out).mono ?_
    rintro e w1 ⟨⟨b2, rfl⟩, hb1⟩
    clear y0 y1 y2 y3 y4 y5
    have HB2_ := Lib.hid (below_from HB1_.out hb1)
    have Ex2_ := Lib.hid ((hb1.block _ (lt_of_block Ex1_.out)).trans Ex1_.out)
    have Ey2_ := Lib.hid ((hb1.block _ (lt_of_block Ey1_.out)).trans Ey1_.out)
    cases b2 with
    | true =>
      go_wp2_with fail
      refine (CA.out _ HB2_.out).mono ?_
      rintro e w9 ⟨rfl, hb9⟩
      have hb := below_from HW.out (below_from HB2_.out hb9)
      clear hb9
      go_wp2_with fail
      go_ret
      exact ⟨rfl, hb⟩
    | false =>
      obtain ⟨x0, x1, x2, x3, x4, x5⟩ := re_at_box Ex2_.out
      obtain ⟨y0, y1, y2, y3, y4, y5⟩ := re_at_box Ey2_.out
      go_wp2_with fail
      refine (CR.out _ HB2_.out).mono ?_
      rintro e w2 ⟨rfl, hb2⟩
      clear x0 x1 x2 x3 x4 x5 y0 y1 y2 y3 y4 y5
      have HB3_ := Lib.hid (below_from HB2_.out hb2)
      have Ex3_ := Lib.hid ((hb2.block _ (lt_of_block Ex2_.out)).trans Ex2_.out)
      have Ey3_ := Lib.hid ((hb2.block _ (lt_of_block Ey2_.out)).trans Ey2_.out)
      obtain ⟨x0, x1, x2, x3, x4, x5⟩ := re_at_box Ex3_.out
      obtain ⟨y0, y1, y2, y3, y4, y5⟩ := re_at_box Ey3_.out
      go_wp2_with fail
      refine (CV.out _ HB3_.out).mono ?_
      rintro e w3 ⟨rfl, hb3⟩
      clear x0 x1 x2 x3 x4 x5 y0 y1 y2 y3 y4 y5
      have HB4_ := Lib.hid (below_from HB3_.out hb3)
      have Ex4_ := Lib.hid ((hb3.block _ (lt_of_block Ex3_.out)).trans Ex3_.out)
      have Ey4_ := Lib.hid ((hb3.block _ (lt_of_block Ey3_.out)).trans Ey3_.out)
      obtain ⟨x0, x1, x2, x3, x4, x5⟩ := re_at_box Ex4_.out
      obtain ⟨y0, y1, y2, y3, y4, y5⟩ := re_at_box Ey4_.out
      go_wp2_with fail
      refine (CU.out _ HB4_.out).mono ?_
      rintro e w4 ⟨rfl, hb4⟩
      clear x0 x1 x2 x3 x4 x5 y0 y1 y2 y3 y4 y5
      have HB5_ := Lib.hid (below_from HB4_.out hb4)
      have Ex5_ := Lib.hid ((hb4.block _ (lt_of_block Ex4_.out)).trans Ex4_.out)
      have Ey5_ := Lib.hid ((hb4.block _ (lt_of_block Ey4_.out)).trans Ey4_.out)
      obtain ⟨x0, x1, x2, x3, x4, x5⟩ := re_at_box Ex5_.out
      go_wp2_with fail
      refine (CT.out _ HB5_.out).mono ?_
      rintro e w5 ⟨rfl, hb5⟩
      clear x0 x1 x2 x3 x4 x5
      have HB6_ := Lib.hid (below_from HB5_.out hb5)
      have Ex6_ := Lib.hid ((hb5.block _ (lt_of_block Ex5_.out)).trans Ex5_.out)
      have Ey6_ := Lib.hid ((hb5.block _ (lt_of_block Ey5_.out)).trans Ey5_.out)
      go_wp2_with fail
      refine (CA.out _ HB6_.out).mono ?_
      rintro e w9 ⟨rfl, hb9⟩
      have hb := below_from HW.out (below_from HB6_.out hb9)
      clear hb9
      go_wp2_with fail
      go_ret
      exact ⟨rfl, hb⟩
namespace lawRexSameF
open Go.ChangeShapes Go.WideShapes Go.ChangeAt
open Go.ChangeMaps (open_string)
set_option maxRecDepth 100000 in
theorem lifted (os : Os) (started : os.Started) (H : Type) (enc : TypeId × Value → H) :
    ReturnsInHanded {} Try.checked os 4 .any (Rows.rexSameSpec.pre6 enc Try.prog Try.f4 Rows.rexSameRow.domain false) (Rows.rexSameSpec.post enc Try.prog Try.f4 false true false false) := by
  refine returnsInHanded_of_change (C := Try.checked) Try.own started (by kernel_rfl) Try.func4
    (ChangeSpec.witness6 (enc := enc) (C := Try.checked) false ⟨#[], #[.agg #[.int .u8 0, .int .u64 0, .int .u64 0, .int .u64 0, .int .u64 0, .slice none 0 0], .agg #[.int .u8 0, .int .u64 0, .int .u64 0, .int .u64 0, .int .u64 0, .slice none 0 0]], []⟩ 8 (by kernel_rfl) (by kernel_rfl) (by kernel_rfl) (by kernel_rfl)) ?_
  intro W base args ds gs before hval0 hW hcnd _
  have hval : ∀ (j : Nat) t v, Try.f4.params[j]? = some t → args[j]? = some v → Value.okWide Try.prog W .any base t v := hval0
  have hW' := hW
  obtain ⟨p, q, hA0, hV, rfl, hfz, hnd⟩ := hW
  have hA : DataW.TrodAll enc Try.prog W 0 (fun _ => true) true Try.f4.params.toList args.toList ds p := hA0
  rw [Try.params4] at hA hval
  obtain ⟨v0, vs0, d0, ds0, p0, q0, hargs, rfl, rfl, h0, r0⟩ := trodAll_cons hA
  obtain ⟨v1, vs1, d1, ds1, p1, q1, rfl, rfl, rfl, h1, r1⟩ := trodAll_cons r0
  obtain ⟨rfl, rfl, rfl⟩ := trodAll_nil r1
  obtain rfl : args = #[v0, v1] := by cases args; simp_all
  obtain ⟨rfl, rfl⟩ := trodVars_none hV
  obtain ⟨hx, kx, A0, c0, rfl, hc0, hr0, hz0⟩ := open_re_s (hval 0 30 v0 rfl rfl) h0
  obtain ⟨hy, ky, A1, c1, rfl, hc1, hr1, hz1⟩ := open_re_s (hval 1 30 v1 rfl rfl) h1
  refine (rexSameF_walk hx kx A0 c0 hy ky A1 c1 W hz0 hc0 hr0 hz1 hc1 hr1).mono fun e W' ⟨he, hb⟩ => ?_
  subst he
  exact ⟨_, rfl, post_true Try.laidOut (by rw [Try.params4]; intro t ht; simp at ht; rcases ht with rfl <;> exact ⟨by kernel_rfl, of_decide_eq_true (by kernel_rfl)⟩) hW' rfl rfl rfl Try.underlying4 hb⟩
theorem proved : Rows.RexSameSaid :=
  OpenClaim.holds_of_wide 4 Try.f4 rfl rfl rfl rfl rfl rfl rfl ⟨rfl, rfl, rfl, rfl, rfl⟩ rfl rfl rfl rfl rfl (by kernel_rfl) Try.func4 (by kernel_rfl)
    (of_decide_eq_true (by kernel_rfl)) (by unfold Func.isWrapper; first | (rw [if_pos (by decide +kernel)]; kernel_rfl) | (rw [if_neg (by decide +kernel)]; exact ⟨rfl, rfl⟩))
    (fun os started H enc _ => lifted os started H enc)
end lawRexSameF
end Go.Proofs.Ytbblhhkacdgmiaa
