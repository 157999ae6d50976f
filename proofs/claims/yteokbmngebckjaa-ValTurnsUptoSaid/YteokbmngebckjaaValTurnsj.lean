/- Of one of two the right value is the first one's, if that fits the text, else the second one's. For every input that is not too large. -/
import Derived.Test.YteokbmngebckjaaAwake14
import Derived.Test.YteokbmngebckjaaRc1
import Derived.Test.YteokbmngebckjaaBv
import Derived.Test.YteokbmngebckjaaBx
import Derived.Test.YteokbmngebckjaaBd
import Derived.Test.YteokbmngebckjaaBw
import Derived.WalkKit
import Derived.OpenShut
import Derived.JoinedCond
namespace Go.Proofs.Yteokbmngebckjaa
open Go.RowKit
set_option linter.unusedVariables false
set_option linter.unusedSimpArgs false

theorem turn_left {a b : Re} {s : List UInt8} {v x : Va} {c : Bool} (hm : mayB (rAlt a b) = true) (hv : RightRel (rAlt a b) s v c) (hx : RightRel a s x true) : c = true ∧ v = vLeft x := by
  rcases hx with ⟨_, _, hx⟩ | ⟨e, _⟩
  · have h := rightRel_one hv (.inl ⟨rfl, hm, RV.left a b s x hx⟩)
    exact ⟨h.2, h.1⟩
  · cases e
theorem turn_right {a b : Re} {s : List UInt8} {v x y : Va} {c : Bool} (hm : mayB (rAlt a b) = true) (ha : mayB a = true) (hv : RightRel (rAlt a b) s v c) (hx : RightRel a s x false) (hy : RightRel b s y true) : c = true ∧ v = vRight y := by
  rcases hx with ⟨e, _⟩ | ⟨_, _, hn⟩
  · cases e
  rcases hy with ⟨_, _, hy⟩ | ⟨e, _⟩
  · have h := rightRel_one hv (.inl ⟨rfl, hm, RV.right a b s y (fun hl => hn ⟨ha, hl⟩) hy⟩)
    exact ⟨h.2, h.1⟩
  · cases e
theorem turn_none {a b : Re} {s : List UInt8} {v x y : Va} {c : Bool} (hm : mayB (rAlt a b) = true) (ha : mayB a = true) (hb : mayB b = true) (hv : RightRel (rAlt a b) s v c) (hx : RightRel a s x false) (hy : RightRel b s y false) : c = false ∧ v = .mk vaH0 [] := by
  rcases hx with ⟨e, _⟩ | ⟨_, _, hn⟩
  · cases e
  rcases hy with ⟨e, _⟩ | ⟨_, _, hn2⟩
  · cases e
  have h := rightRel_one hv (.inr ⟨rfl, rfl, fun hh => by
    rcases (LT_alt _ _ _).1 hh.2 with h | h
    · exact hn ⟨ha, h⟩
    · exact hn2 ⟨hb, h⟩⟩)
  exact ⟨h.2, h.1⟩
theorem may_alt {a b : Re} (ha : mayB a = true) (hb : mayB b = true) (h : a.size + b.size ≤ 1999) : mayB (rAlt a b) = true := by
  unfold mayB at ha hb ⊢
  rw [Bool.and_eq_true] at ha hb ⊢
  refine ⟨?_, by simp only [T.size, T.sizes]; exact decide_eq_true (by omega)⟩
  simp [okT, okL, okNode, ha.1, hb.1]
set_option maxRecDepth 100000 in
set_option maxHeartbeats 4000000 in
theorem valTurns_walk (h : RH) (ks : List Re) (A : Option Addr) (c : Nat) (h2 : RH) (ks2 : List Re) (A2 : Option Addr) (c2 : Nat) (S : ByteArray) (w : World) (hm : T.sizes ks ≤ 1048576) (hc : ks.length ≤ c) (hr : InRow RE (fun _ => True) w ks A 0) (hm2 : T.sizes ks2 ≤ 1048576) (hc2 : ks2.length ≤ c2) (hr2 : InRow RE (fun _ => True) w ks2 A2 0) :
    Calls Try.prog 5 #[reV h A ks.length c, reV h2 A2 ks2.length c2, .string S] w fun e w' => e = .returned (.bool true) ∧ Below w.heap.size w w' := by
  obtain ⟨W, hW⟩ : ∃ W, (w.alloc (.cells (reA h A ks.length c) 34)).alloc (.cells (reA h2 A2 ks2.length c2) 34) = W := ⟨_, rfl⟩
  have hbW : Below w.heap.size w W := by rw [← hW]; exact below_new (below_new (Below.refl _ _) _) _
  have e1 : W.heap[w.heap.size]? = some (.cells (reA h A ks.length c) 34 (0, 0)) := by rw [← hW]; exact heap_keep1 (new_at1 _) _
  have e2 : W.heap[w.heap.size + 1]? = some (.cells (reA h2 A2 ks2.length c2) 34 (0, 0)) := by
    rw [← hW]
    have := new_at1 (w := w.alloc (.cells (reA h A ks.length c) 34)) (.cells (reA h2 A2 ks2.length c2) 34)
    rw [World.size_alloc] at this
    exact this
  have CG1 : Hid (∀ X, Below W.heap.size W X → Calls Try.prog 13 #[reV h A ks.length c, .int .i64 30] X fun e w' => e = .returned (.bool (greatB 30 (.mk h ks))) ∧ Below X.heap.size X w') := fun X hX => Great_any h ks A c 30 X (by omega) hc (hr.below (below_from hbW hX))
  have CG2 : Hid (∀ X, Below W.heap.size W X → Calls Try.prog 13 #[reV h2 A2 ks2.length c2, .int .i64 30] X fun e w' => e = .returned (.bool (greatB 30 (.mk h2 ks2))) ∧ Below X.heap.size X w') := fun X hX => Great_any h2 ks2 A2 c2 30 X (by omega) hc2 (hr2.below (below_from hbW hX))
  have CM1 : Hid (∀ X, Below W.heap.size W X → Calls Try.prog 16 #[reV h A ks.length c] X fun e w' => e = .returned (.bool (mayB (.mk h ks))) ∧ Below X.heap.size X w') := fun X hX => refMay_any h ks A c X (by omega) hc (hr.below (below_from hbW hX))
  have CM2 : Hid (∀ X, Below W.heap.size W X → Calls Try.prog 16 #[reV h2 A2 ks2.length c2] X fun e w' => e = .returned (.bool (mayB (.mk h2 ks2))) ∧ Below X.heap.size X w') := fun X hX => refMay_any h2 ks2 A2 c2 X (by omega) hc2 (hr2.below (below_from hbW hX))
  have CA : Hid (∀ X, Below W.heap.size W X → Calls Try.prog 17 #[] X fun e w' => e = .returned (.bool (true)) ∧ Below X.heap.size X w') := fun X hX => awake14_any X
  have CT : Hid (∀ X, Below W.heap.size W X → Calls Try.prog 19 #[.int .u8 5, reV h A ks.length c, reV h2 A2 ks2.length c2] X (RePost (fun _ => True) (rAlt (.mk h ks) (.mk h2 ks2)) X)) := fun X hX => two_any 5 5 rfl h h2 ks ks2 A A2 c c2 X hc hc2 (hr.below (below_from hbW hX)) (hr2.below (below_from hbW hX))
  have HR := Lib.hid hr
  have HR2 := Lib.hid hr2
  have HW := Lib.hid hbW
  have HE := Lib.hid hW
  have E1 := Lib.hid e1
  have E2 := Lib.hid e2
  clear hW hr hr2 hbW e1 e2
  have HB0 : Hid (Below W.heap.size W W) := Below.refl _ _
  rcases hg : greatB 30 (.mk h ks) with _ | _
  case true =>
    rw [hg] at CG1
    clear hg
    go_enter Try.func5, Try.ntmps5
    go_wp2_with fail
    rw [HE.out]
    refine (CG1.out _ HB0.out).mono ?_
    rintro e w0 ⟨rfl, hb0⟩
    have HB1_ := Lib.hid (below_from HB0.out hb0)
    have Ex1_ := Lib.hid ((hb0.block _ (lt_of_block E1.out)).trans E1.out)
    have Ey1_ := Lib.hid ((hb0.block _ (lt_of_block E2.out)).trans E2.out)
    go_wp2_with fail
    refine (CA.out _ HB1_.out).mono ?_
    rintro e w9 ⟨rfl, hb9⟩
    have hb := below_from HW.out (below_from HB1_.out hb9)
    clear hb9
    go_wp2_with fail
    go_ret
    exact ⟨rfl, hb⟩
  have hsz : 1 + T.sizes ks ≤ 30 := by
    have := of_decide_eq_false hg
    simp only [T.size] at this
    omega
  rw [hg] at CG1
  rcases hg2 : greatB 30 (.mk h2 ks2) with _ | _
  case true =>
    rw [hg2] at CG2
    clear hg hg2
    go_enter Try.func5, Try.ntmps5
    go_wp2_with fail
    rw [HE.out]
    refine (CG1.out _ HB0.out).mono ?_
    rintro e w0 ⟨rfl, hb0⟩
    have HB1_ := Lib.hid (below_from HB0.out hb0)
    have Ex1_ := Lib.hid ((hb0.block _ (lt_of_block E1.out)).trans E1.out)
    have Ey1_ := Lib.hid ((hb0.block _ (lt_of_block E2.out)).trans E2.out)
    obtain ⟨y0, y1, y2, y3, y4, y5⟩ := re_at_box Ey1_.out
    go_wp2_with fail
    refine (CG2.out _ HB1_.out).mono ?_
    rintro e w1 ⟨rfl, hb1⟩
    clear y0 y1 y2 y3 y4 y5
    have HB2_ := Lib.hid (below_from HB1_.out hb1)
    have Ex2_ := Lib.hid ((hb1.block _ (lt_of_block Ex1_.out)).trans Ex1_.out)
    have Ey2_ := Lib.hid ((hb1.block _ (lt_of_block Ey1_.out)).trans Ey1_.out)
    go_wp2_with fail
    refine (CA.out _ HB2_.out).mono ?_
    rintro e w9 ⟨rfl, hb9⟩
    have hb := below_from HW.out (below_from HB2_.out hb9)
    clear hb9
    go_wp2_with fail
    go_ret
    exact ⟨rfl, hb⟩
  have hsz2 : 1 + T.sizes ks2 ≤ 30 := by
    have := of_decide_eq_false hg2
    simp only [T.size] at this
    omega
  rw [hg2] at CG2
  clear hg hg2
  by_cases lS : 8 < S.size
  · have gls : decide (((S.size : Nat) : Int) > 8) = true := by simp; omega
    go_enter Try.func5, Try.ntmps5
    go_wp2_with fail
    rw [HE.out]
    refine (CG1.out _ HB0.out).mono ?_
    rintro e w0 ⟨rfl, hb0⟩
    have HB1_ := Lib.hid (below_from HB0.out hb0)
    have Ex1_ := Lib.hid ((hb0.block _ (lt_of_block E1.out)).trans E1.out)
    have Ey1_ := Lib.hid ((hb0.block _ (lt_of_block E2.out)).trans E2.out)
    obtain ⟨y0, y1, y2, y3, y4, y5⟩ := re_at_box Ey1_.out
    go_wp2_with fail
    refine (CG2.out _ HB1_.out).mono ?_
    rintro e w1 ⟨rfl, hb1⟩
    clear y0 y1 y2 y3 y4 y5
    have HB2_ := Lib.hid (below_from HB1_.out hb1)
    have Ex2_ := Lib.hid ((hb1.block _ (lt_of_block Ex1_.out)).trans Ex1_.out)
    have Ey2_ := Lib.hid ((hb1.block _ (lt_of_block Ey1_.out)).trans Ey1_.out)
    go_wp2_with fail
    refine (CA.out _ HB2_.out).mono ?_
    rintro e w9 ⟨rfl, hb9⟩
    have hb := below_from HW.out (below_from HB2_.out hb9)
    clear hb9
    go_wp2_with fail
    go_ret
    exact ⟨rfl, hb⟩
  have gls : decide (((S.size : Nat) : Int) > 8) = false := by simp; omega
  rcases hy1 : mayB (.mk h ks) with _ | _
  case false =>
    rw [hy1] at CM1
    clear hy1
    go_enter Try.func5, Try.ntmps5
    go_wp2_with fail
    rw [HE.out]
    refine (CG1.out _ HB0.out).mono ?_
    rintro e w0 ⟨rfl, hb0⟩
    have HB1_ := Lib.hid (below_from HB0.out hb0)
    have Ex1_ := Lib.hid ((hb0.block _ (lt_of_block E1.out)).trans E1.out)
    have Ey1_ := Lib.hid ((hb0.block _ (lt_of_block E2.out)).trans E2.out)
    obtain ⟨y0, y1, y2, y3, y4, y5⟩ := re_at_box Ey1_.out
    go_wp2_with fail
    refine (CG2.out _ HB1_.out).mono ?_
    rintro e w1 ⟨rfl, hb1⟩
    clear y0 y1 y2 y3 y4 y5
    have HB2_ := Lib.hid (below_from HB1_.out hb1)
    have Ex2_ := Lib.hid ((hb1.block _ (lt_of_block Ex1_.out)).trans Ex1_.out)
    have Ey2_ := Lib.hid ((hb1.block _ (lt_of_block Ey1_.out)).trans Ey1_.out)
    obtain ⟨x0, x1, x2, x3, x4, x5⟩ := re_at_box Ex2_.out
    go_wp2_with fail
    refine (CM1.out _ HB2_.out).mono ?_
    rintro e w2 ⟨rfl, hb2⟩
    clear x0 x1 x2 x3 x4 x5
    have HB3_ := Lib.hid (below_from HB2_.out hb2)
    have Ex3_ := Lib.hid ((hb2.block _ (lt_of_block Ex2_.out)).trans Ex2_.out)
    have Ey3_ := Lib.hid ((hb2.block _ (lt_of_block Ey2_.out)).trans Ey2_.out)
    go_wp2_with fail
    refine (CA.out _ HB3_.out).mono ?_
    rintro e w9 ⟨rfl, hb9⟩
    have hb := below_from HW.out (below_from HB3_.out hb9)
    clear hb9
    go_wp2_with fail
    go_ret
    exact ⟨rfl, hb⟩
  rcases hy2 : mayB (.mk h2 ks2) with _ | _
  case false =>
    rw [hy1] at CM1
    rw [hy2] at CM2
    clear hy1 hy2
    go_enter Try.func5, Try.ntmps5
    go_wp2_with fail
    rw [HE.out]
    refine (CG1.out _ HB0.out).mono ?_
    rintro e w0 ⟨rfl, hb0⟩
    have HB1_ := Lib.hid (below_from HB0.out hb0)
    have Ex1_ := Lib.hid ((hb0.block _ (lt_of_block E1.out)).trans E1.out)
    have Ey1_ := Lib.hid ((hb0.block _ (lt_of_block E2.out)).trans E2.out)
    obtain ⟨y0, y1, y2, y3, y4, y5⟩ := re_at_box Ey1_.out
    go_wp2_with fail
    refine (CG2.out _ HB1_.out).mono ?_
    rintro e w1 ⟨rfl, hb1⟩
    clear y0 y1 y2 y3 y4 y5
    have HB2_ := Lib.hid (below_from HB1_.out hb1)
    have Ex2_ := Lib.hid ((hb1.block _ (lt_of_block Ex1_.out)).trans Ex1_.out)
    have Ey2_ := Lib.hid ((hb1.block _ (lt_of_block Ey1_.out)).trans Ey1_.out)
    obtain ⟨x0, x1, x2, x3, x4, x5⟩ := re_at_box Ex2_.out
    go_wp2_with fail
    refine (CM1.out _ HB2_.out).mono ?_
    rintro e w2 ⟨rfl, hb2⟩
    clear x0 x1 x2 x3 x4 x5
    have HB3_ := Lib.hid (below_from HB2_.out hb2)
    have Ex3_ := Lib.hid ((hb2.block _ (lt_of_block Ex2_.out)).trans Ex2_.out)
    have Ey3_ := Lib.hid ((hb2.block _ (lt_of_block Ey2_.out)).trans Ey2_.out)
    obtain ⟨y0, y1, y2, y3, y4, y5⟩ := re_at_box Ey3_.out
    go_wp2_with fail
    refine (CM2.out _ HB3_.out).mono ?_
    rintro e w3 ⟨rfl, hb3⟩
    clear y0 y1 y2 y3 y4 y5
    have HB4_ := Lib.hid (below_from HB3_.out hb3)
    have Ex4_ := Lib.hid ((hb3.block _ (lt_of_block Ex3_.out)).trans Ex3_.out)
    have Ey4_ := Lib.hid ((hb3.block _ (lt_of_block Ey3_.out)).trans Ey3_.out)
    go_wp2_with fail
    refine (CA.out _ HB4_.out).mono ?_
    rintro e w9 ⟨rfl, hb9⟩
    have hb := below_from HW.out (below_from HB4_.out hb9)
    clear hb9
    go_wp2_with fail
    go_ret
    exact ⟨rfl, hb⟩
  have hmt := may_alt hy1 hy2 (by simp only [T.size]; omega)
  have CR1 : Hid (∀ X, Below W.heap.size W X → Calls Try.prog 18 #[reV h A ks.length c, .string S] X (RightPost (.mk h ks) S.data.toList X)) := fun X hX => vRight_any h ks A c S X (by omega) hc (HR.out.below (below_from HW.out hX)) (by omega)
  have CR2 : Hid (∀ X, Below W.heap.size W X → Calls Try.prog 18 #[reV h2 A2 ks2.length c2, .string S] X (RightPost (.mk h2 ks2) S.data.toList X)) := fun X hX => vRight_any h2 ks2 A2 c2 S X (by omega) hc2 (HR2.out.below (below_from HW.out hX)) (by omega)
  have hS8 : S.size ≤ 8 := by omega
  rw [hy1] at CM1
  rw [hy2] at CM2
  have HMT := Lib.hid hmt
  have HY1 := Lib.hid hy1
  have HY2 := Lib.hid hy2
  have HSS := Lib.hid hS8
  clear hmt hy1 hy2 lS hS8
  go_enter Try.func5, Try.ntmps5
  go_wp2_with fail
  rw [HE.out]
  refine (CG1.out _ HB0.out).mono ?_
  rintro e w0 ⟨rfl, hb0⟩
  have HB1_ := Lib.hid (below_from HB0.out hb0)
  have Ex1_ := Lib.hid ((hb0.block _ (lt_of_block E1.out)).trans E1.out)
  have Ey1_ := Lib.hid ((hb0.block _ (lt_of_block E2.out)).trans E2.out)
  obtain ⟨y0, y1, y2, y3, y4, y5⟩ := re_at_box Ey1_.out
  go_wp2_with fail
  refine (CG2.out _ HB1_.out).mono ?_
  rintro e w1 ⟨rfl, hb1⟩
  clear y0 y1 y2 y3 y4 y5
  have HB2_ := Lib.hid (below_from HB1_.out hb1)
  have Ex2_ := Lib.hid ((hb1.block _ (lt_of_block Ex1_.out)).trans Ex1_.out)
  have Ey2_ := Lib.hid ((hb1.block _ (lt_of_block Ey1_.out)).trans Ey1_.out)
  obtain ⟨x0, x1, x2, x3, x4, x5⟩ := re_at_box Ex2_.out
  go_wp2_with fail
  refine (CM1.out _ HB2_.out).mono ?_
  rintro e w2 ⟨rfl, hb2⟩
  clear x0 x1 x2 x3 x4 x5
  have HB3_ := Lib.hid (below_from HB2_.out hb2)
  have Ex3_ := Lib.hid ((hb2.block _ (lt_of_block Ex2_.out)).trans Ex2_.out)
  have Ey3_ := Lib.hid ((hb2.block _ (lt_of_block Ey2_.out)).trans Ey2_.out)
  obtain ⟨y0, y1, y2, y3, y4, y5⟩ := re_at_box Ey3_.out
  go_wp2_with fail
  refine (CM2.out _ HB3_.out).mono ?_
  rintro e w3 ⟨rfl, hb3⟩
  clear y0 y1 y2 y3 y4 y5
  have HB4_ := Lib.hid (below_from HB3_.out hb3)
  have Ex4_ := Lib.hid ((hb3.block _ (lt_of_block Ex3_.out)).trans Ex3_.out)
  have Ey4_ := Lib.hid ((hb3.block _ (lt_of_block Ey3_.out)).trans Ey3_.out)
  obtain ⟨x0, x1, x2, x3, x4, x5⟩ := re_at_box Ex4_.out
  obtain ⟨y0, y1, y2, y3, y4, y5⟩ := re_at_box Ey4_.out
  go_wp2_with fail
  refine (CT.out _ HB4_.out).mono ?_
  rintro e w4 ⟨vt, rfl, ⟨ht, kt, At, ct, et, hct, rfl, hrt⟩, hb4⟩
  clear x0 x1 x2 x3 x4 x5 y0 y1 y2 y3 y4 y5
  have HB5_ := Lib.hid (below_from HB4_.out hb4)
  have Ex5_ := Lib.hid ((hb4.block _ (lt_of_block Ex4_.out)).trans Ex4_.out)
  have Ey5_ := Lib.hid ((hb4.block _ (lt_of_block Ey4_.out)).trans Ey4_.out)
  have hst : T.sizes kt ≤ 900000 := by have := congrArg T.size et; simp only [T.size, T.sizes] at this; omega
  have CRT := Lib.hid (vRight_any ht kt At ct S w4 hst hct hrt (by have := HSS.out; omega))
  rw [← et] at CRT
  clear et hct hrt hst
  go_wp2_with fail
  refine (CRT.out).mono ?_
  rintro e w5 ⟨hv, kv, Av, cv, b1, rfl, hl1, hcv, hrv, hb5⟩
  have HB6_ := Lib.hid (below_from HB5_.out hb5)
  have Ex6_ := Lib.hid ((hb5.block _ (lt_of_block Ex5_.out)).trans Ex5_.out)
  have Ey6_ := Lib.hid ((hb5.block _ (lt_of_block Ey5_.out)).trans Ey5_.out)
  have HL1 := Lib.hid hl1
  have HC1 := Lib.hid hcv
  have RV1 := Lib.hid (hrv.weak (ok' := fun _ => True) fun _ _ => trivial)
  clear hl1 hcv hrv hb5 CRT hb4
  obtain ⟨X7_, hX7_⟩ : ∃ X, w5.alloc (.cells (vaA hv Av kv.length cv) 24) = X := ⟨_, rfl⟩
  have hbX7_ : Below w5.heap.size w5 X7_ := by rw [← hX7_]; exact below_new (Below.refl _ _) _
  have Ev7_ : Hid (X7_.heap[w5.heap.size]? = some (.cells (vaA hv Av kv.length cv) 24 (0, 0))) := by unfold Hid; rw [← hX7_]; exact new_at1 _
  have HX7_ := Lib.hid hX7_
  have HB8_ := Lib.hid (below_from HB6_.out hbX7_)
  have Ex8_ := Lib.hid ((hbX7_.block _ (lt_of_block Ex6_.out)).trans Ex6_.out)
  have Ey8_ := Lib.hid ((hbX7_.block _ (lt_of_block Ey6_.out)).trans Ey6_.out)
  have Rv8_ := Lib.hid (RV1.out.below hbX7_)
  clear hX7_ hbX7_
  go_upto_region 4 with fail
  rw [show w5.alloc _ = X7_ from HX7_.out]
  obtain ⟨x0, x1, x2, x3, x4, x5⟩ := re_at_box Ex8_.out
  go_wp2_with fail
  refine (CR1.out _ HB8_.out).mono ?_
  rintro e w6 ⟨hx, kx, Ax, cx, b2, rfl, hl2, hcx, hrx, hb6⟩
  clear x0 x1 x2 x3 x4 x5
  have HB9_ := Lib.hid (below_from HB8_.out hb6)
  have Ex9_ := Lib.hid ((hb6.block _ (lt_of_block Ex8_.out)).trans Ex8_.out)
  have Ey9_ := Lib.hid ((hb6.block _ (lt_of_block Ey8_.out)).trans Ey8_.out)
  have Ev9_ := Lib.hid ((hb6.block _ (lt_of_block Ev7_.out)).trans Ev7_.out)
  have Rv9_ := Lib.hid (Rv8_.out.below hb6)
  have HL2 := Lib.hid hl2
  have HC2 := Lib.hid hcx
  have RV2 := Lib.hid (hrx.weak (ok' := fun _ => True) fun _ _ => trivial)
  clear hl2 hcx hrx hb6
  obtain ⟨X10_, hX10_⟩ : ∃ X, w6.alloc (.cells (vaA hx Ax kx.length cx) 24) = X := ⟨_, rfl⟩
  have hbX10_ : Below w6.heap.size w6 X10_ := by rw [← hX10_]; exact below_new (Below.refl _ _) _
  have Ea10_ : Hid (X10_.heap[w6.heap.size]? = some (.cells (vaA hx Ax kx.length cx) 24 (0, 0))) := by unfold Hid; rw [← hX10_]; exact new_at1 _
  have HX10_ := Lib.hid hX10_
  have HB11_ := Lib.hid (below_from HB9_.out hbX10_)
  have Ex11_ := Lib.hid ((hbX10_.block _ (lt_of_block Ex9_.out)).trans Ex9_.out)
  have Ey11_ := Lib.hid ((hbX10_.block _ (lt_of_block Ey9_.out)).trans Ey9_.out)
  have Ev11_ := Lib.hid ((hbX10_.block _ (lt_of_block Ev9_.out)).trans Ev9_.out)
  have Rv11_ := Lib.hid (Rv9_.out.below hbX10_)
  have Ra11_ := Lib.hid (RV2.out.below hbX10_)
  clear hX10_ hbX10_
  go_upto_region 5 with fail
  rw [show w6.alloc _ = X10_ from HX10_.out]
  obtain ⟨y0, y1, y2, y3, y4, y5⟩ := re_at_box Ey11_.out
  go_wp2_with fail
  refine (CR2.out _ HB11_.out).mono ?_
  rintro e w7 ⟨hy, ky, Ay, cy, b3, rfl, hl3, hcy, hry, hb7⟩
  clear y0 y1 y2 y3 y4 y5
  have HB12_ := Lib.hid (below_from HB11_.out hb7)
  have Ex12_ := Lib.hid ((hb7.block _ (lt_of_block Ex11_.out)).trans Ex11_.out)
  have Ey12_ := Lib.hid ((hb7.block _ (lt_of_block Ey11_.out)).trans Ey11_.out)
  have Ev12_ := Lib.hid ((hb7.block _ (lt_of_block Ev11_.out)).trans Ev11_.out)
  have Ea12_ := Lib.hid ((hb7.block _ (lt_of_block Ea10_.out)).trans Ea10_.out)
  have Rv12_ := Lib.hid (Rv11_.out.below hb7)
  have Ra12_ := Lib.hid (Ra11_.out.below hb7)
  have HL3 := Lib.hid hl3
  have HC3 := Lib.hid hcy
  have RV3 := Lib.hid (hry.weak (ok' := fun _ => True) fun _ _ => trivial)
  clear hl3 hcy hry hb7
  obtain ⟨X13_, hX13_⟩ : ∃ X, w7.alloc (.cells (vaA hy Ay ky.length cy) 24) = X := ⟨_, rfl⟩
  have hbX13_ : Below w7.heap.size w7 X13_ := by rw [← hX13_]; exact below_new (Below.refl _ _) _
  have Eb13_ : Hid (X13_.heap[w7.heap.size]? = some (.cells (vaA hy Ay ky.length cy) 24 (0, 0))) := by unfold Hid; rw [← hX13_]; exact new_at1 _
  have HX13_ := Lib.hid hX13_
  have HB14_ := Lib.hid (below_from HB12_.out hbX13_)
  have Ex14_ := Lib.hid ((hbX13_.block _ (lt_of_block Ex12_.out)).trans Ex12_.out)
  have Ey14_ := Lib.hid ((hbX13_.block _ (lt_of_block Ey12_.out)).trans Ey12_.out)
  have Ev14_ := Lib.hid ((hbX13_.block _ (lt_of_block Ev12_.out)).trans Ev12_.out)
  have Ea14_ := Lib.hid ((hbX13_.block _ (lt_of_block Ea12_.out)).trans Ea12_.out)
  have Rv14_ := Lib.hid (Rv12_.out.below hbX13_)
  have Ra14_ := Lib.hid (Ra12_.out.below hbX13_)
  have Rb14_ := Lib.hid (RV3.out.below hbX13_)
  clear hX13_ hbX13_
  go_upto_region 6 with fail
  rw [show w7.alloc _ = X13_ from HX13_.out]
  obtain ⟨U, hU⟩ : ∃ U, U = X13_ := ⟨_, rfl⟩
  have EUx : Hid (U.heap[w.heap.size]? = some (.cells (reA h A ks.length c) 34 (0, 0))) := by unfold Hid; rw [hU]; exact Ex14_.out
  have EUy : Hid (U.heap[w.heap.size + 1]? = some (.cells (reA h2 A2 ks2.length c2) 34 (0, 0))) := by unfold Hid; rw [hU]; exact Ey14_.out
  have EUv : Hid (U.heap[w5.heap.size]? = some (.cells (vaA hv Av kv.length cv) 24 (0, 0))) := by unfold Hid; rw [hU]; exact Ev14_.out
  have EUa : Hid (U.heap[w6.heap.size]? = some (.cells (vaA hx Ax kx.length cx) 24 (0, 0))) := by unfold Hid; rw [hU]; exact Ea14_.out
  have EUb : Hid (U.heap[w7.heap.size]? = some (.cells (vaA hy Ay ky.length cy) 24 (0, 0))) := by unfold Hid; rw [hU]; exact Eb13_.out
  have RUv : Hid (InRow VE (fun _ => True) U kv Av 0) := by unfold Hid; rw [hU]; exact Rv14_.out
  have RUa : Hid (InRow VE (fun _ => True) U kx Ax 0) := by unfold Hid; rw [hU]; exact Ra14_.out
  have RUb : Hid (InRow VE (fun _ => True) U ky Ay 0) := by unfold Hid; rw [hU]; exact Rb14_.out
  have HBU : Hid (Below W.heap.size W U) := by unfold Hid; rw [hU]; exact HB14_.out
  go_upto_region 7 with fail
  rw [← hU]
  clear hU
  obtain ⟨Z, hZ⟩ : ∃ Z, U.alloc (.cells vaZ 24) = Z := ⟨_, rfl⟩
  have hbZ : Below U.heap.size U Z := by rw [← hZ]; exact below_new (Below.refl _ _) _
  have eZ : Z.heap[U.heap.size]? = some (.cells vaZ 24 (0, 0)) := by rw [← hZ]; exact new_at1 _
  rw [show U.alloc _ = Z from hZ]
  have HBZ := Lib.hid hbZ
  have EZ := Lib.hid eZ
  have HSZ : Hid (Z.heap.size = U.heap.size + 1) := by unfold Hid; rw [← hZ, World.size_alloc]
  clear hZ hbZ eZ
  cases b2 with
  | true =>
    obtain ⟨rfl, heq⟩ := turn_left HMT.out HL1.out HL2.out
    have HEQ := Lib.hid heq
    clear heq
    obtain ⟨q0, q1, q2⟩ := va_at_box ((HBZ.out.block _ (lt_of_block EUa.out)).trans EUa.out)
    have hrow : InRow VE (fun _ => True) Z kx Ax 0 := RUa.out.below HBZ.out
    obtain ⟨Y, hY⟩ : ∃ Y, Z.alloc (.cells (vaA hx Ax kx.length cx) 24) = Y := ⟨_, rfl⟩
    have hbY : Below Z.heap.size Z Y := by rw [← hY]; exact below_new (Below.refl _ _) _
    have eY : Y.heap[Z.heap.size]? = some (.cells (vaA hx Ax kx.length cx) 24 (0, 0)) := by rw [← hY]; exact new_at1 _
    have eW := (hbY.block _ (lt_of_block EZ.out)).trans EZ.out
    obtain ⟨⟨n0, n1, n2⟩, m0, m1, m2⟩ := va_cells eW
    rw [← hY] at n0 n1 n2 m0 m1 m2
    have HROW : Hid (InRow VE (fun x => True ∧ x ≠ U.heap.size) Y [.mk hx kx] (some ⟨Z.heap.size, 0, none⟩) 0) := by
      refine va_one eY ⟨trivial, by have := HSZ.out; omega⟩ HC2.out ?_
      refine (((RUa.out.there).below (below_from HBZ.out hbY)).weak fun x hx => ⟨trivial, by have := hx.2; omega⟩)
    have HBY := Lib.hid (below_from HBZ.out hbY)
    have EY := Lib.hid eW
    have HYY := Lib.hid hY
    clear hY hbY eY eW hrow
    go_upto_region 11 with fail
    obtain ⟨X, hX⟩ : ∃ X, (((Y.setCell ⟨U.heap.size, 0, none⟩ (.int .u8 4)).setCell ⟨U.heap.size, 1, none⟩ (.int .u8 0)).setCell ⟨U.heap.size, 2, none⟩ (.slice (some ⟨Z.heap.size, 0, none⟩) 1 1)) = X := ⟨_, rfl⟩
    rw [show Z.alloc _ = Y from HYY.out]
    rw [hX]
    have hbX : Below U.heap.size U X := by rw [← hX]; exact three_below HBY.out (Nat.le_refl _)
    have EQ : Hid (X.heap[U.heap.size]? = some (.cells (vaA ⟨4, 0⟩ (some ⟨Z.heap.size, 0, none⟩) 1 1) 24 (0, 0))) := by unfold Hid; rw [← hX]; exact three_setCells EY.out
    have RQ : Hid (InRow VE (fun _ => True) X [.mk hx kx] (some ⟨Z.heap.size, 0, none⟩) 0) := by unfold Hid; rw [← hX]; exact (row_three HROW.out fun x hx => hx.2).weak fun _ _ => trivial
    clear hX n0 n1 n2 m0 m1 m2 q0 q1 q2 HROW
    have HB15_ := Lib.hid (below_from HBU.out hbX)
    have Ex15_ := Lib.hid ((hbX.block _ (lt_of_block EUx.out)).trans EUx.out)
    have Ey15_ := Lib.hid ((hbX.block _ (lt_of_block EUy.out)).trans EUy.out)
    have Ev15_ := Lib.hid ((hbX.block _ (lt_of_block EUv.out)).trans EUv.out)
    have Ea15_ := Lib.hid ((hbX.block _ (lt_of_block EUa.out)).trans EUa.out)
    have Eb15_ := Lib.hid ((hbX.block _ (lt_of_block EUb.out)).trans EUb.out)
    have Rv15_ := Lib.hid (RUv.out.below hbX)
    have Ra15_ := Lib.hid (RUa.out.below hbX)
    have Rb15_ := Lib.hid (RUb.out.below hbX)
    have sv : T.sizes kv ≤ 100000 := by
      have hh1 := rightRel_size HL1.out
      rw [sl_] at hh1
      have hh2 := HSS.out
      have hh3 := Nat.mul_le_mul (show (rAlt (.mk h ks) (.mk h2 ks2)).size ≤ 61 by simp only [T.size, T.sizes]; omega) (show S.size + 1 ≤ 9 by omega)
      have hh4 := Nat.le_trans hh1 hh3
      simp only [T.size] at hh4
      omega
    have CS : Hid (Calls Try.prog 20 #[vaV hv Av kv.length cv, vaV ⟨4, 0⟩ (some ⟨Z.heap.size, 0, none⟩) 1 1] X fun e w' => e = .returned (.bool true) ∧ Below X.heap.size X w') := by
      have := refSameV_upto 1000000000 (fun _ => True) hv ⟨4, 0⟩ kv [.mk hx kx] Av (some ⟨Z.heap.size, 0, none⟩) cv 1 X (by omega) (Nat.le_refl _) (by have := congrArg T.size HEQ.out; simp only [T.size, T.sizes] at this ⊢; omega) Rv15_.out RQ.out
      rw [HEQ.out, sameV_refl] at this
      exact this
    clear sv RQ HEQ
    obtain ⟨p0, p1, p2⟩ := va_at_box Ev15_.out
    obtain ⟨q0, q1, q2⟩ := va_at_box EQ.out
    go_wp2_with fail
    refine CS.out.mono ?_
    rintro e w8 ⟨rfl, hb8⟩
    clear p0 p1 p2 q0 q1 q2
    have HB16_ := Lib.hid (below_from HB15_.out hb8)
    have Ex16_ := Lib.hid ((hb8.block _ (lt_of_block Ex15_.out)).trans Ex15_.out)
    have Ey16_ := Lib.hid ((hb8.block _ (lt_of_block Ey15_.out)).trans Ey15_.out)
    have Ev16_ := Lib.hid ((hb8.block _ (lt_of_block Ev15_.out)).trans Ev15_.out)
    have Ea16_ := Lib.hid ((hb8.block _ (lt_of_block Ea15_.out)).trans Ea15_.out)
    have Eb16_ := Lib.hid ((hb8.block _ (lt_of_block Eb15_.out)).trans Eb15_.out)
    have Rv16_ := Lib.hid (Rv15_.out.below hb8)
    have Ra16_ := Lib.hid (Ra15_.out.below hb8)
    have Rb16_ := Lib.hid (Rb15_.out.below hb8)
    go_wp2_with fail
    refine (CA.out _ HB16_.out).mono ?_
    rintro e w9 ⟨rfl, hb9⟩
    have hb := below_from HW.out (below_from HB16_.out hb9)
    clear hb9
    go_wp2_with fail
    go_ret
    exact ⟨rfl, hb⟩
  | false =>
    cases b3 with
    | true =>
      obtain ⟨rfl, heq⟩ := turn_right HMT.out HY1.out HL1.out HL2.out HL3.out
      have HEQ := Lib.hid heq
      clear heq
      obtain ⟨q0, q1, q2⟩ := va_at_box ((HBZ.out.block _ (lt_of_block EUb.out)).trans EUb.out)
      have hrow : InRow VE (fun _ => True) Z ky Ay 0 := RUb.out.below HBZ.out
      obtain ⟨Y, hY⟩ : ∃ Y, Z.alloc (.cells (vaA hy Ay ky.length cy) 24) = Y := ⟨_, rfl⟩
      have hbY : Below Z.heap.size Z Y := by rw [← hY]; exact below_new (Below.refl _ _) _
      have eY : Y.heap[Z.heap.size]? = some (.cells (vaA hy Ay ky.length cy) 24 (0, 0)) := by rw [← hY]; exact new_at1 _
      have eW := (hbY.block _ (lt_of_block EZ.out)).trans EZ.out
      obtain ⟨⟨n0, n1, n2⟩, m0, m1, m2⟩ := va_cells eW
      rw [← hY] at n0 n1 n2 m0 m1 m2
      have HROW : Hid (InRow VE (fun x => True ∧ x ≠ U.heap.size) Y [.mk hy ky] (some ⟨Z.heap.size, 0, none⟩) 0) := by
        refine va_one eY ⟨trivial, by have := HSZ.out; omega⟩ HC3.out ?_
        refine (((RUb.out.there).below (below_from HBZ.out hbY)).weak fun x hx => ⟨trivial, by have := hx.2; omega⟩)
      have HBY := Lib.hid (below_from HBZ.out hbY)
      have EY := Lib.hid eW
      have HYY := Lib.hid hY
      clear hY hbY eY eW hrow
      go_upto_region 11 with fail
      obtain ⟨X, hX⟩ : ∃ X, (((Y.setCell ⟨U.heap.size, 0, none⟩ (.int .u8 5)).setCell ⟨U.heap.size, 1, none⟩ (.int .u8 0)).setCell ⟨U.heap.size, 2, none⟩ (.slice (some ⟨Z.heap.size, 0, none⟩) 1 1)) = X := ⟨_, rfl⟩
      rw [show Z.alloc _ = Y from HYY.out]
      rw [hX]
      have hbX : Below U.heap.size U X := by rw [← hX]; exact three_below HBY.out (Nat.le_refl _)
      have EQ : Hid (X.heap[U.heap.size]? = some (.cells (vaA ⟨5, 0⟩ (some ⟨Z.heap.size, 0, none⟩) 1 1) 24 (0, 0))) := by unfold Hid; rw [← hX]; exact three_setCells EY.out
      have RQ : Hid (InRow VE (fun _ => True) X [.mk hy ky] (some ⟨Z.heap.size, 0, none⟩) 0) := by unfold Hid; rw [← hX]; exact (row_three HROW.out fun x hx => hx.2).weak fun _ _ => trivial
      clear hX n0 n1 n2 m0 m1 m2 q0 q1 q2 HROW
      have HB15_ := Lib.hid (below_from HBU.out hbX)
      have Ex15_ := Lib.hid ((hbX.block _ (lt_of_block EUx.out)).trans EUx.out)
      have Ey15_ := Lib.hid ((hbX.block _ (lt_of_block EUy.out)).trans EUy.out)
      have Ev15_ := Lib.hid ((hbX.block _ (lt_of_block EUv.out)).trans EUv.out)
      have Ea15_ := Lib.hid ((hbX.block _ (lt_of_block EUa.out)).trans EUa.out)
      have Eb15_ := Lib.hid ((hbX.block _ (lt_of_block EUb.out)).trans EUb.out)
      have Rv15_ := Lib.hid (RUv.out.below hbX)
      have Ra15_ := Lib.hid (RUa.out.below hbX)
      have Rb15_ := Lib.hid (RUb.out.below hbX)
      have sv : T.sizes kv ≤ 100000 := by
        have hh1 := rightRel_size HL1.out
        rw [sl_] at hh1
        have hh2 := HSS.out
        have hh3 := Nat.mul_le_mul (show (rAlt (.mk h ks) (.mk h2 ks2)).size ≤ 61 by simp only [T.size, T.sizes]; omega) (show S.size + 1 ≤ 9 by omega)
        have hh4 := Nat.le_trans hh1 hh3
        simp only [T.size] at hh4
        omega
      have CS : Hid (Calls Try.prog 20 #[vaV hv Av kv.length cv, vaV ⟨5, 0⟩ (some ⟨Z.heap.size, 0, none⟩) 1 1] X fun e w' => e = .returned (.bool true) ∧ Below X.heap.size X w') := by
        have := refSameV_upto 1000000000 (fun _ => True) hv ⟨5, 0⟩ kv [.mk hy ky] Av (some ⟨Z.heap.size, 0, none⟩) cv 1 X (by omega) (Nat.le_refl _) (by have := congrArg T.size HEQ.out; simp only [T.size, T.sizes] at this ⊢; omega) Rv15_.out RQ.out
        rw [HEQ.out, sameV_refl] at this
        exact this
      clear sv RQ HEQ
      obtain ⟨p0, p1, p2⟩ := va_at_box Ev15_.out
      obtain ⟨q0, q1, q2⟩ := va_at_box EQ.out
      go_wp2_with fail
      refine CS.out.mono ?_
      rintro e w8 ⟨rfl, hb8⟩
      clear p0 p1 p2 q0 q1 q2
      have HB16_ := Lib.hid (below_from HB15_.out hb8)
      have Ex16_ := Lib.hid ((hb8.block _ (lt_of_block Ex15_.out)).trans Ex15_.out)
      have Ey16_ := Lib.hid ((hb8.block _ (lt_of_block Ey15_.out)).trans Ey15_.out)
      have Ev16_ := Lib.hid ((hb8.block _ (lt_of_block Ev15_.out)).trans Ev15_.out)
      have Ea16_ := Lib.hid ((hb8.block _ (lt_of_block Ea15_.out)).trans Ea15_.out)
      have Eb16_ := Lib.hid ((hb8.block _ (lt_of_block Eb15_.out)).trans Eb15_.out)
      have Rv16_ := Lib.hid (Rv15_.out.below hb8)
      have Ra16_ := Lib.hid (Ra15_.out.below hb8)
      have Rb16_ := Lib.hid (Rb15_.out.below hb8)
      go_wp2_with fail
      refine (CA.out _ HB16_.out).mono ?_
      rintro e w9 ⟨rfl, hb9⟩
      have hb := below_from HW.out (below_from HB16_.out hb9)
      clear hb9
      go_wp2_with fail
      go_ret
      exact ⟨rfl, hb⟩
    | false =>
      obtain ⟨rfl, heq⟩ := turn_none HMT.out HY1.out HY2.out HL1.out HL2.out HL3.out
      have HEQ := Lib.hid heq
      clear heq
      have hbX := HBZ.out
      have HB15_ := Lib.hid (below_from HBU.out hbX)
      have Ex15_ := Lib.hid ((hbX.block _ (lt_of_block EUx.out)).trans EUx.out)
      have Ey15_ := Lib.hid ((hbX.block _ (lt_of_block EUy.out)).trans EUy.out)
      have Ev15_ := Lib.hid ((hbX.block _ (lt_of_block EUv.out)).trans EUv.out)
      have Ea15_ := Lib.hid ((hbX.block _ (lt_of_block EUa.out)).trans EUa.out)
      have Eb15_ := Lib.hid ((hbX.block _ (lt_of_block EUb.out)).trans EUb.out)
      have Rv15_ := Lib.hid (RUv.out.below hbX)
      have Ra15_ := Lib.hid (RUa.out.below hbX)
      have Rb15_ := Lib.hid (RUb.out.below hbX)
      have sv : T.sizes kv ≤ 100000 := by
        have hh1 := rightRel_size HL1.out
        rw [sl_] at hh1
        have hh2 := HSS.out
        have hh3 := Nat.mul_le_mul (show (rAlt (.mk h ks) (.mk h2 ks2)).size ≤ 61 by simp only [T.size, T.sizes]; omega) (show S.size + 1 ≤ 9 by omega)
        have hh4 := Nat.le_trans hh1 hh3
        simp only [T.size] at hh4
        omega
      have CS : Hid (Calls Try.prog 20 #[vaV hv Av kv.length cv, .agg #[.int .u8 0, .int .u8 0, .slice none 0 0]] Z fun e w' => e = .returned (.bool true) ∧ Below Z.heap.size Z w') := by
        have := refSameV_upto 1000000000 (fun _ => True) hv vaH0 kv [] Av none cv 0 Z (by omega) (Nat.le_refl _) (by simp [T.sizes]) Rv15_.out (by simp [InRow])
        rw [HEQ.out, sameV_refl] at this
        exact this
      clear sv HEQ
      obtain ⟨p0, p1, p2⟩ := va_at_box Ev15_.out
      obtain ⟨q0, q1, q2⟩ := va_at_box EZ.out
      go_wp2_with fail
      refine CS.out.mono ?_
      rintro e w8 ⟨rfl, hb8⟩
      clear p0 p1 p2 q0 q1 q2
      have HB16_ := Lib.hid (below_from HB15_.out hb8)
      have Ex16_ := Lib.hid ((hb8.block _ (lt_of_block Ex15_.out)).trans Ex15_.out)
      have Ey16_ := Lib.hid ((hb8.block _ (lt_of_block Ey15_.out)).trans Ey15_.out)
      have Ev16_ := Lib.hid ((hb8.block _ (lt_of_block Ev15_.out)).trans Ev15_.out)
      have Ea16_ := Lib.hid ((hb8.block _ (lt_of_block Ea15_.out)).trans Ea15_.out)
      have Eb16_ := Lib.hid ((hb8.block _ (lt_of_block Eb15_.out)).trans Eb15_.out)
      have Rv16_ := Lib.hid (Rv15_.out.below hb8)
      have Ra16_ := Lib.hid (Ra15_.out.below hb8)
      have Rb16_ := Lib.hid (Rb15_.out.below hb8)
      go_wp2_with fail
      refine (CA.out _ HB16_.out).mono ?_
      rintro e w9 ⟨rfl, hb9⟩
      have hb := below_from HW.out (below_from HB16_.out hb9)
      clear hb9
      go_wp2_with fail
      go_ret
      exact ⟨rfl, hb⟩
namespace lawValTurns
open Go.ChangeShapes Go.WideShapes Go.ChangeAt
open Go.ChangeMaps (open_string)
set_option maxRecDepth 100000 in
theorem contract (H : Type) (enc : TypeId × Value → H) (W : World) (base : Nat) (args : Array Value) (ds gs : List (DataW H)) (before : List MemPlace)
    (hval : ∀ (j : Nat) t v, Try.f5.params[j]? = some t → args[j]? = some v → Value.okWide Try.prog W .any base t v)
    (hW : DataW.Whole enc Try.prog Try.f5.params.toList Rows.valTurnsSpec.vars false W args.toList ds gs before) (hk : Rows.uptoSmall H (ds ++ gs) = true) :
    Calls Try.prog 5 args W fun e W' => ∃ v, e = .returned v ∧ Rows.valTurnsSpec.post enc Try.prog Try.f5 false true false false W args v W' := by
  have hW' := hW
  obtain ⟨p, q, hA0, hV, rfl, hfz, hnd⟩ := hW
  have hA : DataW.TrodAll enc Try.prog W 0 (fun _ => true) true Try.f5.params.toList args.toList ds p := hA0
  rw [Try.params5] at hA hval
  obtain ⟨v0, vs0, d0, ds0, p0, q0, hargs, rfl, rfl, h0, r0⟩ := trodAll_cons hA
  obtain ⟨v1, vs1, d1, ds1, p1, q1, rfl, rfl, rfl, h1, r1⟩ := trodAll_cons r0
  obtain ⟨v2, vs2, d2, ds2, p2, q2, rfl, rfl, rfl, h2, r2⟩ := trodAll_cons r1
  obtain ⟨rfl, rfl, rfl⟩ := trodAll_nil r2
  obtain rfl : args = #[v0, v1, v2] := by cases args; simp_all
  obtain ⟨rfl, rfl⟩ := trodVars_none hV
  have hkk : Rows.uptoBulk d0 + Rows.uptoBulk d1 + Rows.uptoBulk d2 ≤ 1048576 := by simp [Rows.uptoSmall, Rows.uptoBulkAll] at hk; omega
  obtain ⟨ha, ka, A0, c0, rfl, hc0, hr0, hz0⟩ := open_re (hval 0 34 v0 rfl rfl) h0
  obtain ⟨hB, kb, A1, c1, rfl, hc1, hr1, hz1⟩ := open_re (hval 1 34 v1 rfl rfl) h1
  obtain ⟨s, rfl, rfl, rfl, hs2⟩ := open_string Try.underlying9 (hval 2 9 v2 rfl rfl) h2
  refine (valTurns_walk ha ka A0 c0 hB kb A1 c1 s W (by omega) hc0 hr0 (by omega) hc1 hr1).mono fun e W' ⟨he, hb⟩ => ?_
  subst he
  exact ⟨_, rfl, post_true Try.laidOut (by rw [Try.params5]; intro t ht; simp at ht; rcases ht with rfl | rfl <;> exact ⟨by kernel_rfl, of_decide_eq_true (by kernel_rfl)⟩) hW' rfl rfl rfl Try.underlying4 hb⟩
set_option maxRecDepth 100000 in
theorem lifted (os : Os) (started : os.Started) (H : Type) (enc : TypeId × Value → H) (F : Stop.Interp) :
    ReturnsInHanded {} Try.checked os 5 .any ((Rows.OpenSpec.upto Rows.valTurnsSpec).pre6 enc Try.prog Try.f5 Rows.valTurnsUptoRow.domain false) (((Rows.OpenSpec.upto Rows.valTurnsSpec).at F).post enc Try.prog Try.f5 false true false false) := by
  refine returnsInHanded_of_cond (C := Try.checked) (s := Rows.OpenSpec.upto Rows.valTurnsSpec) (k := Rows.uptoSmall) rfl Try.own started (by kernel_rfl) Try.func5
    (OpenSpec.witness (enc := enc) (C := Try.checked) (s := Rows.OpenSpec.upto Rows.valTurnsSpec) (k := Rows.uptoSmall) rfl false ⟨#[], #[.agg #[.int .u8 0, .int .u64 0, .int .u64 0, .int .u64 0, .int .u64 0, .slice none 0 0], .agg #[.int .u8 0, .int .u64 0, .int .u64 0, .int .u64 0, .int .u64 0, .slice none 0 0], .string ByteArray.empty], []⟩ 8 (by kernel_rfl) (by kernel_rfl) (by kernel_rfl)
      (x := ([.agg [.lit (.int .u8 0), .agg [.lit (.int .u64 0), .lit (.int .u64 0), .lit (.int .u64 0), .lit (.int .u64 0)], .nil], .agg [.lit (.int .u8 0), .agg [.lit (.int .u64 0), .lit (.int .u64 0), .lit (.int .u64 0), .lit (.int .u64 0)], .nil], .lit (.string [])], [], [])) (by kernel_rfl) rfl (by kernel_rfl)) ?_
  intro W base args ds gs before hval hW _ hk _
  exact contract H enc W base args ds gs before hval hW hk
theorem proved : Rows.ValTurnsUptoSaid :=
  OpenClaim.holds_of_cond 5 Try.f5 rfl rfl rfl rfl rfl rfl rfl ⟨rfl, rfl, rfl, rfl, rfl⟩ rfl rfl rfl rfl rfl (by kernel_rfl) Try.func5 (by kernel_rfl)
    (of_decide_eq_true (by kernel_rfl)) (by unfold Func.isWrapper; first | (rw [if_pos (by decide +kernel)]; kernel_rfl) | (rw [if_neg (by decide +kernel)]; exact ⟨rfl, rfl⟩))
    (fun os started H enc _ F => lifted os started H enc F)
end lawValTurns
end Go.Proofs.Yteokbmngebckjaa
