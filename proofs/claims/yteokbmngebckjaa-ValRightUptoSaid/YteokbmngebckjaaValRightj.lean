/- The right value of any expression and text is the document's; it is a value of the expression, of that text; there is one just if it fits. For every input that is not too large. -/
import Derived.Test.YteokbmngebckjaaAwake14
import Derived.Test.YteokbmngebckjaaVp1
import Derived.Test.YteokbmngebckjaaVj4
import Derived.Test.YteokbmngebckjaaCd
import Derived.Test.YteokbmngebckjaaCa
import Derived.Test.YteokbmngebckjaaBw
import Derived.WalkKit
import Derived.OpenShut
import Derived.JoinedCond
namespace Go.Proofs.Yteokbmngebckjaa
open Go.RowKit
set_option linter.unusedVariables false
set_option linter.unusedSimpArgs false

theorem rightRel_bool {t : Re} {s : List UInt8} {v : Va} {b : Bool} (h : RightRel t s v b) : b = (mayB t && fitB t s) := by
  rcases h with ⟨rfl, hm, hv⟩ | ⟨rfl, _, hn⟩
  · rw [hm, Bool.true_and]
    exact ((fitB_true).2 (RV_LT hv)).symm
  · symm
    rw [Bool.and_eq_false_iff]
    by_cases hm : mayB t = true
    · right
      rcases hf : fitB t s with _ | _
      · rfl
      · exact absurd ⟨hm, (fitB_true).1 hf⟩ hn
    · left
      simpa using hm
set_option maxRecDepth 100000 in
set_option maxHeartbeats 4000000 in
theorem valRight_walk (h : RH) (ks : List Re) (A : Option Addr) (c : Nat) (S : ByteArray) (w : World) (hm : T.sizes ks ≤ 1048576) (hc : ks.length ≤ c) (hr : InRow RE (fun _ => True) w ks A 0) :
    Calls Try.prog 7 #[reV h A ks.length c, .string S] w fun e w' => e = .returned (.bool true) ∧ Below w.heap.size w w' := by
  obtain ⟨W, hW⟩ : ∃ W, w.alloc (.cells (reA h A ks.length c) 34) = W := ⟨_, rfl⟩
  have hbW : Below w.heap.size w W := by rw [← hW]; exact below_new (Below.refl _ _) _
  have e1 : W.heap[w.heap.size]? = some (.cells (reA h A ks.length c) 34 (0, 0)) := by rw [← hW]; exact new_at1 _
  have CG1 : Hid (∀ X, Below W.heap.size W X → Calls Try.prog 13 #[reV h A ks.length c, .int .i64 40] X fun e w' => e = .returned (.bool (greatB 40 (.mk h ks))) ∧ Below X.heap.size X w') := fun X hX => Great_any h ks A c 40 X (by omega) hc (hr.below (below_from hbW hX))
  have CA : Hid (∀ X, Below W.heap.size W X → Calls Try.prog 17 #[] X fun e w' => e = .returned (.bool true) ∧ Below X.heap.size X w') := fun X hX => awake14_any X
  have HR := Lib.hid hr
  have HW := Lib.hid hbW
  have HE := Lib.hid hW
  have E1 := Lib.hid e1
  clear hW hr hbW e1
  have HB0 : Hid (Below W.heap.size W W) := Below.refl _ _
  rcases hg : greatB 40 (.mk h ks) with _ | _
  case true =>
    rw [hg] at CG1
    clear hg
    go_enter Try.func7, Try.ntmps7
    go_wp2_with fail
    rw [HE.out]
    refine (CG1.out _ HB0.out).mono ?_
    rintro e w0 ⟨rfl, hb0⟩
    have HB1_ := Lib.hid (below_from HB0.out hb0)
    have Ex1_ := Lib.hid ((hb0.block _ (lt_of_block E1.out)).trans E1.out)
    go_wp2_with fail
    refine (CA.out _ HB1_.out).mono ?_
    rintro e w9 ⟨rfl, hb9⟩
    have hb := below_from HW.out (below_from HB1_.out hb9)
    clear hb9
    go_wp2_with fail
    go_ret
    exact ⟨rfl, hb⟩
  have hsz : 1 + T.sizes ks ≤ 40 := by
    have := of_decide_eq_false hg
    simp only [T.size] at this
    omega
  rw [hg] at CG1
  clear hg
  by_cases ls : 8 < S.size
  · have gls : decide (((S.size : Nat) : Int) > 8) = true := by simp; omega
    go_enter Try.func7, Try.ntmps7
    go_wp2_with fail
    rw [HE.out]
    refine (CG1.out _ HB0.out).mono ?_
    rintro e w0 ⟨rfl, hb0⟩
    have HB1_ := Lib.hid (below_from HB0.out hb0)
    have Ex1_ := Lib.hid ((hb0.block _ (lt_of_block E1.out)).trans E1.out)
    go_wp2_with fail
    refine (CA.out _ HB1_.out).mono ?_
    rintro e w9 ⟨rfl, hb9⟩
    have hb := below_from HW.out (below_from HB1_.out hb9)
    clear hb9
    go_wp2_with fail
    go_ret
    exact ⟨rfl, hb⟩
  have gls : decide (((S.size : Nat) : Int) > 8) = false := by simp; omega
  have hS : S.size ≤ 100 := by omega
  have HSV : Hid (∀ v b, RightRel (.mk h ks) S.data.toList v b → v.size ≤ 10000) := fun v b hv => by
    have h1 := rightRel_size hv
    rw [sl_] at h1
    have h2 := Nat.mul_le_mul (show (T.mk h ks).size ≤ 40 by simp only [T.size]; omega) (show S.size + 1 ≤ 101 by omega)
    omega
  have CR1 : Hid (∀ X, Below W.heap.size W X → Calls Try.prog 18 #[reV h A ks.length c, .string S] X (RightPost (.mk h ks) S.data.toList X)) := fun X hX => vRight_any h ks A c S X (by omega) hc (HR.out.below (below_from HW.out hX)) hS
  have CR2 : Hid (∀ X, Below W.heap.size W X → Calls Try.prog 22 #[reV h A ks.length c, .string S] X (RightPost (.mk h ks) S.data.toList X)) := fun X hX => right_any h ks A c S X (by omega) hc (HR.out.below (below_from HW.out hX)) hS
  have CF : Hid (∀ X, Below W.heap.size W X → Calls Try.prog 23 #[reV h A ks.length c, .slice (some ⟨X.heap.size, 0, none⟩) 1 1] (X.alloc (.cells #[.string S] 9)) fun e w' => e = .returned (.bool (mayB (.mk h ks) && fitB (.mk h ks) S.data.toList)) ∧ Below (X.alloc (.cells #[.string S] 9)).heap.size (X.alloc (.cells #[.string S] 9)) w') := fun X hX => mFits_any h ks A c S _ 1 _ (by omega) hc (HR.out.below (below_from HW.out (below_from hX (below_new (Below.refl _ _) _)))) hS (row1_new _ _ _)
  clear ls
  go_enter Try.func7, Try.ntmps7
  go_wp2_with fail
  rw [HE.out]
  refine (CG1.out _ HB0.out).mono ?_
  rintro e w0 ⟨rfl, hb0⟩
  have HB1_ := Lib.hid (below_from HB0.out hb0)
  have Ex1_ := Lib.hid ((hb0.block _ (lt_of_block E1.out)).trans E1.out)
  obtain ⟨x0, x1, x2, x3, x4, x5⟩ := re_at_box Ex1_.out
  go_wp2_with fail
  refine (CR1.out _ HB1_.out).mono ?_
  rintro e w1 ⟨h1, k1, A1, c1, b1, rfl, hl1, hc1, hr1, hb1⟩
  clear x0 x1 x2 x3 x4 x5
  have HB2_ := Lib.hid (below_from HB1_.out hb1)
  have Ex2_ := Lib.hid ((hb1.block _ (lt_of_block Ex1_.out)).trans Ex1_.out)
  have HL1 := Lib.hid hl1
  have HC1 := Lib.hid hc1
  have HR1 := Lib.hid (hr1.weak (ok' := fun _ => True) fun _ _ => trivial)
  clear hl1 hc1 hr1 hb1
  obtain ⟨X3_, hX3_⟩ : ∃ X, w1.alloc (.cells (vaA h1 A1 k1.length c1) 24) = X := ⟨_, rfl⟩
  have hbX3_ : Below w1.heap.size w1 X3_ := by rw [← hX3_]; exact below_new (Below.refl _ _) _
  have Ev3_ : Hid (X3_.heap[w1.heap.size]? = some (.cells (vaA h1 A1 k1.length c1) 24 (0, 0))) := by unfold Hid; rw [← hX3_]; exact new_at1 _
  have HX3_ := Lib.hid hX3_
  have HB4_ := Lib.hid (below_from HB2_.out hbX3_)
  have Ex4_ := Lib.hid ((hbX3_.block _ (lt_of_block Ex2_.out)).trans Ex2_.out)
  have Rv4_ := Lib.hid (HR1.out.below hbX3_)
  clear hX3_ hbX3_
  go_upto_region 4 with fail
  rw [show w1.alloc _ = X3_ from HX3_.out]
  obtain ⟨x0, x1, x2, x3, x4, x5⟩ := re_at_box Ex4_.out
  go_wp2_with fail
  refine (CR2.out _ HB4_.out).mono ?_
  rintro e w2 ⟨h2, k2, A2, c2, b2, rfl, hl2, hc2, hr2, hb2⟩
  clear x0 x1 x2 x3 x4 x5
  have HB5_ := Lib.hid (below_from HB4_.out hb2)
  have Ex5_ := Lib.hid ((hb2.block _ (lt_of_block Ex4_.out)).trans Ex4_.out)
  have Ev5_ := Lib.hid ((hb2.block _ (lt_of_block Ev3_.out)).trans Ev3_.out)
  have Rv5_ := Lib.hid (Rv4_.out.below hb2)
  obtain ⟨hee, rfl⟩ := rightRel_one HL1.out hl2
  obtain ⟨rfl, rfl⟩ := T.mk.inj hee
  have HC2 := Lib.hid hc2
  have HR2 := Lib.hid (hr2.weak (ok' := fun _ => True) fun _ _ => trivial)
  have hs1 : T.sizes k1 ≤ 10000 := by have := HSV.out _ _ HL1.out; simp only [T.size] at this; omega
  clear hee hl2 hc2 hr2 hb2
  obtain ⟨X6_, hX6_⟩ : ∃ X, w2.alloc (.cells (vaA h1 A2 k1.length c2) 24) = X := ⟨_, rfl⟩
  have hbX6_ : Below w2.heap.size w2 X6_ := by rw [← hX6_]; exact below_new (Below.refl _ _) _
  have Eq6_ : Hid (X6_.heap[w2.heap.size]? = some (.cells (vaA h1 A2 k1.length c2) 24 (0, 0))) := by unfold Hid; rw [← hX6_]; exact new_at1 _
  have HX6_ := Lib.hid hX6_
  have HB7_ := Lib.hid (below_from HB5_.out hbX6_)
  have Ex7_ := Lib.hid ((hbX6_.block _ (lt_of_block Ex5_.out)).trans Ex5_.out)
  have Ev7_ := Lib.hid ((hbX6_.block _ (lt_of_block Ev5_.out)).trans Ev5_.out)
  have Rv7_ := Lib.hid (Rv5_.out.below hbX6_)
  have Rq7_ := Lib.hid (HR2.out.below hbX6_)
  clear hX6_ hbX6_
  go_upto_region 5 with fail
  rw [show w2.alloc _ = X6_ from HX6_.out]
  have CS : Hid (Calls Try.prog 20 #[vaV h1 A1 k1.length c1, vaV h1 A2 k1.length c2] X6_ fun e w' => e = .returned (.bool true) ∧ Below X6_.heap.size X6_ w') := by
    have := refSameV_upto 1000000000 (fun _ => True) h1 h1 k1 k1 A1 A2 c1 c2 X6_ (by omega) (Nat.le_refl _) (by omega) Rv7_.out Rq7_.out
    rw [sameV_refl] at this
    exact this
  have gnb : (b1 != b1) = false := by simp
  obtain ⟨v0, v1, v2⟩ := va_at_box Ev7_.out
  obtain ⟨q0, q1, q2⟩ := va_at_box Eq6_.out
  go_wp2_with fail
  refine (CS.out).mono ?_
  rintro e w3 ⟨rfl, hb3⟩
  clear v0 v1 v2 q0 q1 q2
  have HB8_ := Lib.hid (below_from HB7_.out hb3)
  have Ex8_ := Lib.hid ((hb3.block _ (lt_of_block Ex7_.out)).trans Ex7_.out)
  have Ev8_ := Lib.hid ((hb3.block _ (lt_of_block Ev7_.out)).trans Ev7_.out)
  have Eq8_ := Lib.hid ((hb3.block _ (lt_of_block Eq6_.out)).trans Eq6_.out)
  have Rv8_ := Lib.hid (Rv7_.out.below hb3)
  have Rq8_ := Lib.hid (Rq7_.out.below hb3)
  have HCF := Lib.hid (CF.out w3 HB8_.out)
  rw [← rightRel_bool HL1.out] at HCF
  obtain ⟨x0, x1, x2, x3, x4, x5⟩ := re_at_box Ex8_.out
  go_wp2_with fail
  refine HCF.out.mono ?_
  rintro e w4 ⟨rfl, hb4'⟩
  have hb4 := below_from (below_new (Below.refl w3.heap.size w3) (.cells #[.string S] 9)) hb4'
  clear hb4' HCF
  clear x0 x1 x2 x3 x4 x5
  have HB9_ := Lib.hid (below_from HB8_.out hb4)
  have Ex9_ := Lib.hid ((hb4.block _ (lt_of_block Ex8_.out)).trans Ex8_.out)
  have Ev9_ := Lib.hid ((hb4.block _ (lt_of_block Ev8_.out)).trans Ev8_.out)
  have Eq9_ := Lib.hid ((hb4.block _ (lt_of_block Eq8_.out)).trans Eq8_.out)
  have Rv9_ := Lib.hid (Rv8_.out.below hb4)
  have Rq9_ := Lib.hid (Rq8_.out.below hb4)
  clear hb4 CS CF CR1 CR2
  cases b1 with
  | false =>
    go_wp2_with fail
    refine (CA.out _ HB9_.out).mono ?_
    rintro e w9 ⟨rfl, hb9⟩
    have hb := below_from HW.out (below_from HB9_.out hb9)
    clear hb9
    go_wp2_with fail
    go_ret
    exact ⟨rfl, hb⟩
  | true =>
    obtain ⟨hmy, hrv⟩ : mayB (.mk h ks) = true ∧ RV (.mk h ks) S.data.toList (.mk h1 k1) := by
      rcases HL1.out with ⟨_, a, b⟩ | ⟨e, _⟩
      · exact ⟨a, b⟩
      · cases e
    have HFL := Lib.hid (RV_flat hrv)
    have HIB : Hid (isB (.mk h1 k1) (.mk h ks) = true) := (isB_iff _ (.mk h1 k1) (.mk h ks) (Nat.le_refl _) (may_okT hmy)).2 (RV_IsV hrv)
    have HMY := Lib.hid hmy
    clear hrv hmy
    have CI : Hid (Calls Try.prog 24 #[reV h A ks.length c, vaV h1 A1 k1.length c1] w4 fun e w' => e = .returned (.bool true) ∧ Below w4.heap.size w4 w') := by
      have := rIs_any (fun _ => True) (fun _ => True) h ks A c h1 k1 A1 c1 w4 (by omega) (by omega) hc HC1.out (HR.out.below (below_from HW.out HB9_.out)) Rv9_.out
      rw [HMY.out, HIB.out] at this
      exact this
    obtain ⟨x0, x1, x2, x3, x4, x5⟩ := re_at_box Ex9_.out
    obtain ⟨v0, v1, v2⟩ := va_at_box Ev9_.out
    go_wp2_with fail
    refine (CI.out).mono ?_
    rintro e w5 ⟨rfl, hb5⟩
    clear x0 x1 x2 x3 x4 x5 v0 v1 v2
    have HB10_ := Lib.hid (below_from HB9_.out hb5)
    have Ex10_ := Lib.hid ((hb5.block _ (lt_of_block Ex9_.out)).trans Ex9_.out)
    have Ev10_ := Lib.hid ((hb5.block _ (lt_of_block Ev9_.out)).trans Ev9_.out)
    have Eq10_ := Lib.hid ((hb5.block _ (lt_of_block Eq9_.out)).trans Eq9_.out)
    have Rv10_ := Lib.hid (Rv9_.out.below hb5)
    have Rq10_ := Lib.hid (Rq9_.out.below hb5)
    obtain ⟨Y, hY⟩ : ∃ Y, w5.alloc (.cells (vaA h1 A1 k1.length c1) 24) = Y := ⟨_, rfl⟩
    have hbY : Below w5.heap.size w5 Y := by rw [← hY]; exact below_new (Below.refl _ _) _
    have eY : Y.heap[w5.heap.size]? = some (.cells (vaA h1 A1 k1.length c1) 24 (0, 0)) := by rw [← hY]; exact new_at1 _
    have CFL : Hid (Calls Try.prog 25 #[.slice (some ⟨w5.heap.size, 0, none⟩) 1 1] Y fun e w' => e = .returned (.string S) ∧ Below Y.heap.size Y w') := by
      have hrow := va_one (P := fun _ => True) eY trivial HC1.out (Rv10_.out.below hbY)
      have := vflat_upto 1000000000 (fun _ => True) [.mk h1 k1] (some ⟨w5.heap.size, 0, none⟩) 1 Y (by simp only [T.sizes, T.size]; omega) (Nat.le_refl _) hrow
      rw [show flatVs [T.mk h1 k1] = S.data.toList by rw [← HFL.out]; simp [flatVs], ← ba_str S] at this
      exact this
    have HYY := Lib.hid hY
    clear eY hY
    obtain ⟨v0, v1, v2⟩ := va_at_box Ev10_.out
    go_wp2_with fail
    rw [show w5.alloc _ = Y from HYY.out]
    refine CFL.out.mono ?_
    rintro e w6 ⟨rfl, hb6'⟩
    have hb6 := below_from hbY hb6'
    clear hb6' hbY CFL HYY
    clear v0 v1 v2
    have HB11_ := Lib.hid (below_from HB10_.out hb6)
    have Ex11_ := Lib.hid ((hb6.block _ (lt_of_block Ex10_.out)).trans Ex10_.out)
    have Ev11_ := Lib.hid ((hb6.block _ (lt_of_block Ev10_.out)).trans Ev10_.out)
    have Eq11_ := Lib.hid ((hb6.block _ (lt_of_block Eq10_.out)).trans Eq10_.out)
    have Rv11_ := Lib.hid (Rv10_.out.below hb6)
    have Rq11_ := Lib.hid (Rq10_.out.below hb6)
    have gss : (S.data.toList == S.data.toList) = true := by simp
    obtain ⟨Y, hY⟩ : ∃ Y, w6.alloc (.cells (vaA h1 A1 k1.length c1) 24) = Y := ⟨_, rfl⟩
    have hbY : Below w6.heap.size w6 Y := by rw [← hY]; exact below_new (Below.refl _ _) _
    have eY : Y.heap[w6.heap.size]? = some (.cells (vaA h1 A1 k1.length c1) 24 (0, 0)) := by rw [← hY]; exact new_at1 _
    have CPO : Hid (Calls Try.prog 26 #[reV h A ks.length c, .slice (some ⟨w6.heap.size, 0, none⟩) 1 1] Y fun e w' => e = .returned (.bool true) ∧ Below Y.heap.size Y w') := vPosix_any (fun _ => True) (fun _ => True) h ks A c h1 k1 A1 c1 w6.heap.size S Y (by omega) HMY.out hc HC1.out (HR.out.below (below_from HW.out (below_from HB11_.out hbY))) (Rv11_.out.below hbY) eY HFL.out hS (by omega) HL1.out
    have HYY := Lib.hid hY
    clear eY hY
    obtain ⟨x0, x1, x2, x3, x4, x5⟩ := re_at_box Ex11_.out
    obtain ⟨v0, v1, v2⟩ := va_at_box Ev11_.out
    go_wp2_with fail
    rw [show w6.alloc _ = Y from HYY.out]
    refine CPO.out.mono ?_
    rintro e w7 ⟨rfl, hb7'⟩
    have hb7 := below_from hbY hb7'
    clear hb7' hbY CPO HYY
    clear x0 x1 x2 x3 x4 x5 v0 v1 v2
    have HB12_ := Lib.hid (below_from HB11_.out hb7)
    have Ex12_ := Lib.hid ((hb7.block _ (lt_of_block Ex11_.out)).trans Ex11_.out)
    have Ev12_ := Lib.hid ((hb7.block _ (lt_of_block Ev11_.out)).trans Ev11_.out)
    have Eq12_ := Lib.hid ((hb7.block _ (lt_of_block Eq11_.out)).trans Eq11_.out)
    have Rv12_ := Lib.hid (Rv11_.out.below hb7)
    have Rq12_ := Lib.hid (Rq11_.out.below hb7)
    go_wp2_with fail
    refine (CA.out _ HB12_.out).mono ?_
    rintro e w9 ⟨rfl, hb9⟩
    have hb := below_from HW.out (below_from HB12_.out hb9)
    clear hb9
    go_wp2_with fail
    go_ret
    exact ⟨rfl, hb⟩
namespace lawValRight
open Go.ChangeShapes Go.WideShapes Go.ChangeAt
open Go.ChangeMaps (open_string)
set_option maxRecDepth 100000 in
theorem contract (H : Type) (enc : TypeId × Value → H) (W : World) (base : Nat) (args : Array Value) (ds gs : List (DataW H)) (before : List MemPlace)
    (hval : ∀ (j : Nat) t v, Try.f7.params[j]? = some t → args[j]? = some v → Value.okWide Try.prog W .any base t v)
    (hW : DataW.Whole enc Try.prog Try.f7.params.toList Rows.valRightSpec.vars false W args.toList ds gs before) (hk : Rows.uptoSmall H (ds ++ gs) = true) :
    Calls Try.prog 7 args W fun e W' => ∃ v, e = .returned v ∧ Rows.valRightSpec.post enc Try.prog Try.f7 false true false false W args v W' := by
  have hW' := hW
  obtain ⟨p, q, hA0, hV, rfl, hfz, hnd⟩ := hW
  have hA : DataW.TrodAll enc Try.prog W 0 (fun _ => true) true Try.f7.params.toList args.toList ds p := hA0
  rw [Try.params7] at hA hval
  obtain ⟨v0, vs0, d0, ds0, p0, q0, hargs, rfl, rfl, h0, r0⟩ := trodAll_cons hA
  obtain ⟨v1, vs1, d1, ds1, p1, q1, rfl, rfl, rfl, h1, r1⟩ := trodAll_cons r0
  obtain ⟨rfl, rfl, rfl⟩ := trodAll_nil r1
  obtain rfl : args = #[v0, v1] := by cases args; simp_all
  obtain ⟨rfl, rfl⟩ := trodVars_none hV
  have hkk : Rows.uptoBulk d0 + Rows.uptoBulk d1 ≤ 1048576 := by simp [Rows.uptoSmall, Rows.uptoBulkAll] at hk; omega
  obtain ⟨hx, kx, A0, c0, rfl, hc0, hr0, hz0⟩ := open_re (hval 0 34 v0 rfl rfl) h0
  obtain ⟨s, rfl, rfl, rfl, hs1⟩ := open_string Try.underlying9 (hval 1 9 v1 rfl rfl) h1
  refine (valRight_walk hx kx A0 c0 s W (by omega) hc0 hr0).mono fun e W' ⟨he, hb⟩ => ?_
  subst he
  exact ⟨_, rfl, post_true Try.laidOut (by rw [Try.params7]; intro t ht; simp at ht; rcases ht with rfl | rfl <;> exact ⟨by kernel_rfl, of_decide_eq_true (by kernel_rfl)⟩) hW' rfl rfl rfl Try.underlying4 hb⟩
set_option maxRecDepth 100000 in
theorem lifted (os : Os) (started : os.Started) (H : Type) (enc : TypeId × Value → H) (F : Stop.Interp) :
    ReturnsInHanded {} Try.checked os 7 .any ((Rows.OpenSpec.upto Rows.valRightSpec).pre6 enc Try.prog Try.f7 Rows.valRightUptoRow.domain false) (((Rows.OpenSpec.upto Rows.valRightSpec).at F).post enc Try.prog Try.f7 false true false false) := by
  refine returnsInHanded_of_cond (C := Try.checked) (s := Rows.OpenSpec.upto Rows.valRightSpec) (k := Rows.uptoSmall) rfl Try.own started (by kernel_rfl) Try.func7
    (OpenSpec.witness (enc := enc) (C := Try.checked) (s := Rows.OpenSpec.upto Rows.valRightSpec) (k := Rows.uptoSmall) rfl false ⟨#[], #[.agg #[.int .u8 0, .int .u64 0, .int .u64 0, .int .u64 0, .int .u64 0, .slice none 0 0], .string ByteArray.empty], []⟩ 8 (by kernel_rfl) (by kernel_rfl) (by kernel_rfl)
      (x := ([.agg [.lit (.int .u8 0), .agg [.lit (.int .u64 0), .lit (.int .u64 0), .lit (.int .u64 0), .lit (.int .u64 0)], .nil], .lit (.string [])], [], [])) (by kernel_rfl) rfl (by kernel_rfl)) ?_
  intro W base args ds gs before hval hW _ hk _
  exact contract H enc W base args ds gs before hval hW hk
theorem proved : Rows.ValRightUptoSaid :=
  OpenClaim.holds_of_cond 7 Try.f7 rfl rfl rfl rfl rfl rfl rfl ⟨rfl, rfl, rfl, rfl, rfl⟩ rfl rfl rfl rfl rfl (by kernel_rfl) Try.func7 (by kernel_rfl)
    (of_decide_eq_true (by kernel_rfl)) (by unfold Func.isWrapper; first | (rw [if_pos (by decide +kernel)]; kernel_rfl) | (rw [if_neg (by decide +kernel)]; exact ⟨rfl, rfl⟩))
    (fun os started H enc _ F => lifted os started H enc F)
end lawValRight
end Go.Proofs.Yteokbmngebckjaa
