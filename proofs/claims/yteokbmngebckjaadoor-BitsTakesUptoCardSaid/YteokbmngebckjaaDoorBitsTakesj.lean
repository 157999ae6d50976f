/- The value with whose bits any text begins, and what stands behind, are the document's; so is what is decoded. For every input that is not too large. -/
import Derived.Test.YteokbmngebckjaaDoorAwake15
import Derived.Test.YteokbmngebckjaaDoorRk5
import Derived.Test.YteokbmngebckjaaDoorBv
import Derived.Test.YteokbmngebckjaaDoorBw
import Derived.Test.YteokbmngebckjaaDoorBg
import Derived.Test.YteokbmngebckjaaDoorBe
namespace Go.Proofs.YteokbmngebckjaaDoor
open Go.RowKit
set_option linter.unusedVariables false
set_option linter.unusedSimpArgs false

theorem takeR_rest {t : Re} {s r : List UInt8} {v : Va} {b : Bool} (h : takeR t s = (v, r, b)) (hs : s.length ≤ 100) : r.length ≤ 100 := by
  unfold takeR at h
  split at h
  · rename_i hm
    rcases e : takeT t s with _ | ⟨v2, r2⟩
    · rw [e] at h; cases h; simp
    · rw [e] at h
      cases h
      have := (take_size t (may_okT hm) _ _ _ e).1
      omega
  · cases h; simp
def TkP (v : Va) (r : List UInt8) (b : Bool) (w : World) (e : Ending) (w' : World) : Prop := ∃ h' k' A' c', e = .returned (.tuple #[vaV h' A' k'.length c', .string (str r), .bool b]) ∧ v = .mk h' k' ∧ k'.length ≤ c' ∧ InRow VE (fun y => w.heap.size ≤ y) w' k' A' 0 ∧ Below w.heap.size w w'
def DkP (v : Va) (b : Bool) (w : World) (e : Ending) (w' : World) : Prop := ∃ h' k' A' c', e = .returned (.tuple #[vaV h' A' k'.length c', .bool b]) ∧ v = .mk h' k' ∧ k'.length ≤ c' ∧ InRow VE (fun y => w.heap.size ≤ y) w' k' A' 0 ∧ Below w.heap.size w w'
set_option maxRecDepth 100000 in
set_option maxHeartbeats 16000000 in
theorem bitsTakes_walk (h : RH) (ks : List Re) (A : Option Addr) (c : Nat) (S : ByteArray) (w : World) (hm : T.sizes ks ≤ 1048576) (hc : ks.length ≤ c) (hr : InRow RE (fun _ => True) w ks A 0) (htz : TzOk w) :
    Calls Tryd.prog 3 #[reV h A ks.length c, .string S] w fun e w' => e = .returned (.bool true) ∧ Below w.heap.size w w' := by
  obtain ⟨W, hW⟩ : ∃ W, w.alloc (.cells (reA h A ks.length c) 27) = W := ⟨_, rfl⟩
  have hbW : Below w.heap.size w W := by rw [← hW]; exact below_new (Below.refl _ _) _
  have e1 : W.heap[w.heap.size]? = some (.cells (reA h A ks.length c) 27 (0, 0)) := by rw [← hW]; exact new_at1 _
  have CG : Hid (∀ X, Below W.heap.size W X → Calls Tryd.prog 6 #[reV h A ks.length c, .int .i64 60] X fun e w' => e = .returned (.bool (greatB 60 (.mk h ks))) ∧ Below X.heap.size X w') := fun X hX => Great_any h ks A c 60 X (by omega) hc (hr.below (below_from hbW hX))
  have CA : Hid (∀ X, Below W.heap.size W X → Calls Tryd.prog 7 #[] X fun e w' => e = .returned (.bool true) ∧ Below X.heap.size X w') := fun X hX => awake15_any X
  have HR := Lib.hid hr
  have HTZ := Lib.hid htz
  have HW := Lib.hid hbW
  have HE := Lib.hid hW
  have E1 := Lib.hid e1
  clear hW hr hbW e1 htz
  have HB0 : Hid (Below W.heap.size W W) := Below.refl _ _
  rcases hg : greatB 60 (.mk h ks) with _ | _
  case true =>
    rw [hg] at CG
    clear hg
    go_enter Tryd.func3, Tryd.ntmps3
    go_wp2_with fail
    rw [HE.out]
    refine (CG.out _ HB0.out).mono ?_
    rintro e w0 ⟨rfl, hb0⟩
    have HB1_ := Lib.hid (below_from HB0.out hb0)
    have Ex1_ := Lib.hid ((hb0.block _ (lt_of_block E1.out)).trans E1.out)
    go_wp2_with fail
    refine (CA.out _ HB1_.out).mono ?_
    rintro e w9 ⟨rfl, hb9⟩
    have hb := below_from HW.out (below_from HB1_.out hb9)
    clear hb9
    go_wp2_with fail
    go_ret
    exact ⟨rfl, hb⟩
  have hsz : 1 + T.sizes ks ≤ 60 := by
    have := of_decide_eq_false hg
    simp only [T.size] at this
    omega
  rw [hg] at CG
  clear hg
  by_cases ls : 60 < S.size
  · have gls : decide (((S.size : Nat) : Int) > 60) = true := by simp; omega
    go_enter Tryd.func3, Tryd.ntmps3
    go_wp2_with fail
    rw [HE.out]
    refine (CG.out _ HB0.out).mono ?_
    rintro e w0 ⟨rfl, hb0⟩
    have HB1_ := Lib.hid (below_from HB0.out hb0)
    have Ex1_ := Lib.hid ((hb0.block _ (lt_of_block E1.out)).trans E1.out)
    go_wp2_with fail
    refine (CA.out _ HB1_.out).mono ?_
    rintro e w9 ⟨rfl, hb9⟩
    have hb := below_from HW.out (below_from HB1_.out hb9)
    clear hb9
    go_wp2_with fail
    go_ret
    exact ⟨rfl, hb⟩
  have gls : decide (((S.size : Nat) : Int) > 60) = false := by simp; omega
  have hS : S.size ≤ 1000000000 := by omega
  rcases hx : takeR (.mk h ks) S.data.toList with ⟨v, r, b⟩
  have hvs : v.size ≤ 4000 := by
    have h1 := takeR_size (.mk h ks) S.data.toList
    rw [hx, sl_] at h1
    have h2 := Nat.mul_le_mul (show (T.mk h ks).size ≤ 60 by simp only [T.size]; omega) (show S.size + 1 ≤ 61 by omega)
    simp only at h1
    omega
  have hrs := takeR_rest hx (by rw [sl_]; omega)
  have CT : Hid (∀ X, Below W.heap.size W X → Calls Tryd.prog 8 #[reV h A ks.length c, .string S] X (TkP v r b X)) := fun X hX => by
    have hh := take_any h ks A c S X (by omega) hc (HR.out.below (below_from HW.out hX)) hS (HTZ.out.below (below_from HW.out hX))
    rw [hx] at hh; exact hh
  have CU : Hid (∀ X, Below W.heap.size W X → Calls Tryd.prog 9 #[reV h A ks.length c, .string S] X (TkP v r b X)) := fun X hX => by
    have hh := rTake_any h ks A c S X (by omega) hc (HR.out.below (below_from HW.out hX)) hS
    rw [hx] at hh; exact hh
  have CD : Hid (∀ X, Below W.heap.size W X → Calls Tryd.prog 10 #[reV h A ks.length c, .string S] X (DkP (decR (v, r, b)).1 (decR (v, r, b)).2 X)) := fun X hX => by
    have hh := dec_any h ks A c S X (by omega) hc (HR.out.below (below_from HW.out hX)) hS (HTZ.out.below (below_from HW.out hX))
    rw [hx] at hh; exact hh
  clear hx ls
  have HVS := Lib.hid hvs
  clear hvs
  cases b with
  | false =>
    rw [show decR (v, r, false) = (.mk vaH0 [], false) by simp [decR]] at CD
    have CD2 : Hid (∀ X, Below W.heap.size W X → Calls Tryd.prog 10 #[reV h A ks.length c, .string S] X (DkP (.mk vaH0 []) false X)) := CD
    clear CD
    rename _ => CD
    go_enter Tryd.func3, Tryd.ntmps3
    go_wp2_with fail
    rw [HE.out]
    refine (CG.out _ HB0.out).mono ?_
    rintro e w0 ⟨rfl, hb0⟩
    have HB1_ := Lib.hid (below_from HB0.out hb0)
    have Ex1_ := Lib.hid ((hb0.block _ (lt_of_block E1.out)).trans E1.out)
    obtain ⟨x0, x1, x2, x3, x4, x5⟩ := re_at_box Ex1_.out
    go_wp2_with fail
    refine (CT.out _ HB1_.out).mono ?_
    rintro e w1 ⟨h3, k3, A3, c3, rfl, e3, hc3, hr3, hb1⟩
    clear x0 x1 x2 x3 x4 x5
    have HB2_ := Lib.hid (below_from HB1_.out hb1)
    have Ex2_ := Lib.hid ((hb1.block _ (lt_of_block Ex1_.out)).trans Ex1_.out)
    have E3 := Lib.hid e3
    have HRp := Lib.hid (hr3.weak (ok' := fun _ => True) fun _ _ => trivial)
    clear e3 hc3 hr3 hb1
    obtain ⟨X3_, hX3_⟩ : ∃ X, w1.alloc (.cells (vaA h3 A3 k3.length c3) 32) = X := ⟨_, rfl⟩
    have hbX3_ : Below w1.heap.size w1 X3_ := by rw [← hX3_]; exact below_new (Below.refl _ _) _
    have Ep3_ : Hid (X3_.heap[w1.heap.size]? = some (.cells (vaA h3 A3 k3.length c3) 32 (0, 0))) := by unfold Hid; rw [← hX3_]; exact new_at1 _
    have HX3_ := Lib.hid hX3_
    have HB4_ := Lib.hid (below_from HB2_.out hbX3_)
    have Ex4_ := Lib.hid ((hbX3_.block _ (lt_of_block Ex2_.out)).trans Ex2_.out)
    have Rp4_ := Lib.hid (HRp.out.below hbX3_)
    clear hX3_ hbX3_
    go_upto_region 4 with fail
    rw [show w1.alloc _ = X3_ from HX3_.out]
    obtain ⟨x0, x1, x2, x3, x4, x5⟩ := re_at_box Ex4_.out
    go_wp2_with fail
    refine (CU.out _ HB4_.out).mono ?_
    rintro e w2 ⟨h4, k4, A4, c4, rfl, e4, hc4, hr4, hb2⟩
    clear x0 x1 x2 x3 x4 x5
    have HB5_ := Lib.hid (below_from HB4_.out hb2)
    have Ex5_ := Lib.hid ((hb2.block _ (lt_of_block Ex4_.out)).trans Ex4_.out)
    have Ep5_ := Lib.hid ((hb2.block _ (lt_of_block Ep3_.out)).trans Ep3_.out)
    have Rp5_ := Lib.hid (Rp4_.out.below hb2)
    have E4 := Lib.hid e4
    have HRq := Lib.hid (hr4.weak (ok' := fun _ => True) fun _ _ => trivial)
    clear e4 hc4 hr4 hb2
    obtain ⟨X6_, hX6_⟩ : ∃ X, w2.alloc (.cells (vaA h4 A4 k4.length c4) 32) = X := ⟨_, rfl⟩
    have hbX6_ : Below w2.heap.size w2 X6_ := by rw [← hX6_]; exact below_new (Below.refl _ _) _
    have Eq6_ : Hid (X6_.heap[w2.heap.size]? = some (.cells (vaA h4 A4 k4.length c4) 32 (0, 0))) := by unfold Hid; rw [← hX6_]; exact new_at1 _
    have HX6_ := Lib.hid hX6_
    have HB7_ := Lib.hid (below_from HB5_.out hbX6_)
    have Ex7_ := Lib.hid ((hbX6_.block _ (lt_of_block Ex5_.out)).trans Ex5_.out)
    have Ep7_ := Lib.hid ((hbX6_.block _ (lt_of_block Ep5_.out)).trans Ep5_.out)
    have Rp7_ := Lib.hid (Rp5_.out.below hbX6_)
    have Rq7_ := Lib.hid (HRq.out.below hbX6_)
    clear hX6_ hbX6_
    go_upto_region 5 with fail
    rw [show w2.alloc _ = X6_ from HX6_.out]
    obtain ⟨x0, x1, x2, x3, x4, x5⟩ := re_at_box Ex7_.out
    go_wp2_with fail
    refine (CD.out _ HB7_.out).mono ?_
    rintro e w3 ⟨h5, k5, A5, c5, rfl, e5, hc5, hr5, hb3⟩
    clear x0 x1 x2 x3 x4 x5
    have HB8_ := Lib.hid (below_from HB7_.out hb3)
    have Ex8_ := Lib.hid ((hb3.block _ (lt_of_block Ex7_.out)).trans Ex7_.out)
    have Ep8_ := Lib.hid ((hb3.block _ (lt_of_block Ep7_.out)).trans Ep7_.out)
    have Eq8_ := Lib.hid ((hb3.block _ (lt_of_block Eq6_.out)).trans Eq6_.out)
    have Rp8_ := Lib.hid (Rp7_.out.below hb3)
    have Rq8_ := Lib.hid (Rq7_.out.below hb3)
    have E5 := Lib.hid e5
    have HRd := Lib.hid (hr5.weak (ok' := fun _ => True) fun _ _ => trivial)
    clear e5 hc5 hr5 hb3
    obtain ⟨X9_, hX9_⟩ : ∃ X, w3.alloc (.cells (vaA h5 A5 k5.length c5) 32) = X := ⟨_, rfl⟩
    have hbX9_ : Below w3.heap.size w3 X9_ := by rw [← hX9_]; exact below_new (Below.refl _ _) _
    have Ed9_ : Hid (X9_.heap[w3.heap.size]? = some (.cells (vaA h5 A5 k5.length c5) 32 (0, 0))) := by unfold Hid; rw [← hX9_]; exact new_at1 _
    have HX9_ := Lib.hid hX9_
    have HB10_ := Lib.hid (below_from HB8_.out hbX9_)
    have Ex10_ := Lib.hid ((hbX9_.block _ (lt_of_block Ex8_.out)).trans Ex8_.out)
    have Ep10_ := Lib.hid ((hbX9_.block _ (lt_of_block Ep8_.out)).trans Ep8_.out)
    have Eq10_ := Lib.hid ((hbX9_.block _ (lt_of_block Eq8_.out)).trans Eq8_.out)
    have Rp10_ := Lib.hid (Rp8_.out.below hbX9_)
    have Rq10_ := Lib.hid (Rq8_.out.below hbX9_)
    have Rd10_ := Lib.hid (HRd.out.below hbX9_)
    clear hX9_ hbX9_
    go_upto_region 6 with fail
    rw [show w3.alloc _ = X9_ from HX9_.out]
    have CS1 : Hid (∀ X, Below X9_.heap.size X9_ X → Calls Tryd.prog 11 #[vaV h3 A3 k3.length c3, vaV h4 A4 k4.length c4] X fun e w' => e = .returned (.bool true) ∧ Below X.heap.size X w') := fun X hX => by
      have hh := refSameV_upto 1000000000 (fun _ => True) h3 h4 k3 k4 A3 A4 c3 c4 X (by have h0 := HVS.out; rw [E3.out] at h0; simp only [T.size] at h0; omega) (Nat.le_refl _) (by have h0 := HVS.out; rw [E4.out] at h0; simp only [T.size] at h0; omega) (Rp10_.out.below hX) (Rq10_.out.below hX)
      rw [← E3.out, ← E4.out, sameV_refl] at hh
      exact hh
    have CS2 : Hid (∀ X, Below X9_.heap.size X9_ X → Calls Tryd.prog 11 #[vaV h5 A5 k5.length c5, vaV vaH0 none 0 0] X fun e w' => e = .returned (.bool true) ∧ Below X.heap.size X w') := fun X hX => by
      have h1 : T.sizes k5 = 0 := by have h0 := congrArg T.size E5.out; simp only [T.size, T.sizes] at h0; omega
      have hh := refSameV_upto 1000000000 (fun _ => True) h5 vaH0 k5 [] A5 none c5 0 X (by omega) (Nat.le_refl _) (by simp [T.sizes]) (Rd10_.out.below hX) (by simp [InRow])
      rw [← E5.out, sameV_refl] at hh
      exact hh
    have HBR0 := Lib.hid (Below.refl X9_.heap.size X9_)
    obtain ⟨p0, p1, p2⟩ := va_at_box Ep10_.out
    obtain ⟨q0, q1, q2⟩ := va_at_box Eq10_.out
    go_wp2_with fail
    refine (CS1.out _ HBR0.out).mono ?_
    rintro e w4 ⟨rfl, hb4⟩
    clear p0 p1 p2 q0 q1 q2
    have HB11_ := Lib.hid (below_from HB10_.out hb4)
    have Ex11_ := Lib.hid ((hb4.block _ (lt_of_block Ex10_.out)).trans Ex10_.out)
    have Ep11_ := Lib.hid ((hb4.block _ (lt_of_block Ep10_.out)).trans Ep10_.out)
    have Eq11_ := Lib.hid ((hb4.block _ (lt_of_block Eq10_.out)).trans Eq10_.out)
    have Ed11_ := Lib.hid ((hb4.block _ (lt_of_block Ed9_.out)).trans Ed9_.out)
    have Rp11_ := Lib.hid (Rp10_.out.below hb4)
    have Rq11_ := Lib.hid (Rq10_.out.below hb4)
    have Rd11_ := Lib.hid (Rd10_.out.below hb4)
    replace HBR0 := Lib.hid (below_from HBR0.out hb4)
    clear hb4
    obtain ⟨d0, d1, d2⟩ := va_at_box Ed11_.out
    go_wp2_with fail
    refine (CS2.out _ HBR0.out).mono ?_
    rintro e w5 ⟨rfl, hb5⟩
    clear d0 d1 d2
    have HB12_ := Lib.hid (below_from HB11_.out hb5)
    have Ex12_ := Lib.hid ((hb5.block _ (lt_of_block Ex11_.out)).trans Ex11_.out)
    have Ep12_ := Lib.hid ((hb5.block _ (lt_of_block Ep11_.out)).trans Ep11_.out)
    have Eq12_ := Lib.hid ((hb5.block _ (lt_of_block Eq11_.out)).trans Eq11_.out)
    have Ed12_ := Lib.hid ((hb5.block _ (lt_of_block Ed11_.out)).trans Ed11_.out)
    have Rp12_ := Lib.hid (Rp11_.out.below hb5)
    have Rq12_ := Lib.hid (Rq11_.out.below hb5)
    have Rd12_ := Lib.hid (Rd11_.out.below hb5)
    go_wp2_with fail
    refine (CA.out _ HB12_.out).mono ?_
    rintro e w9 ⟨rfl, hb9⟩
    have hb := below_from HW.out (below_from HB12_.out hb9)
    clear hb9
    go_wp2_with fail
    go_ret
    exact ⟨rfl, hb⟩
  | true =>
    by_cases hr0 : r = []
    · subst hr0
      rw [show decR (v, [], true) = (v, true) by simp [decR]] at CD
      have CD2 : Hid (∀ X, Below W.heap.size W X → Calls Tryd.prog 10 #[reV h A ks.length c, .string S] X (DkP v true X)) := CD
      clear CD
      rename _ => CD
      go_enter Tryd.func3, Tryd.ntmps3
      go_wp2_with fail
      rw [HE.out]
      refine (CG.out _ HB0.out).mono ?_
      rintro e w0 ⟨rfl, hb0⟩
      have HB1_ := Lib.hid (below_from HB0.out hb0)
      have Ex1_ := Lib.hid ((hb0.block _ (lt_of_block E1.out)).trans E1.out)
      obtain ⟨x0, x1, x2, x3, x4, x5⟩ := re_at_box Ex1_.out
      go_wp2_with fail
      refine (CT.out _ HB1_.out).mono ?_
      rintro e w1 ⟨h3, k3, A3, c3, rfl, e3, hc3, hr3, hb1⟩
      clear x0 x1 x2 x3 x4 x5
      have HB2_ := Lib.hid (below_from HB1_.out hb1)
      have Ex2_ := Lib.hid ((hb1.block _ (lt_of_block Ex1_.out)).trans Ex1_.out)
      have E3 := Lib.hid e3
      have HRp := Lib.hid (hr3.weak (ok' := fun _ => True) fun _ _ => trivial)
      clear e3 hc3 hr3 hb1
      obtain ⟨X3_, hX3_⟩ : ∃ X, w1.alloc (.cells (vaA h3 A3 k3.length c3) 32) = X := ⟨_, rfl⟩
      have hbX3_ : Below w1.heap.size w1 X3_ := by rw [← hX3_]; exact below_new (Below.refl _ _) _
      have Ep3_ : Hid (X3_.heap[w1.heap.size]? = some (.cells (vaA h3 A3 k3.length c3) 32 (0, 0))) := by unfold Hid; rw [← hX3_]; exact new_at1 _
      have HX3_ := Lib.hid hX3_
      have HB4_ := Lib.hid (below_from HB2_.out hbX3_)
      have Ex4_ := Lib.hid ((hbX3_.block _ (lt_of_block Ex2_.out)).trans Ex2_.out)
      have Rp4_ := Lib.hid (HRp.out.below hbX3_)
      clear hX3_ hbX3_
      go_upto_region 4 with fail
      rw [show w1.alloc _ = X3_ from HX3_.out]
      obtain ⟨x0, x1, x2, x3, x4, x5⟩ := re_at_box Ex4_.out
      go_wp2_with fail
      refine (CU.out _ HB4_.out).mono ?_
      rintro e w2 ⟨h4, k4, A4, c4, rfl, e4, hc4, hr4, hb2⟩
      clear x0 x1 x2 x3 x4 x5
      have HB5_ := Lib.hid (below_from HB4_.out hb2)
      have Ex5_ := Lib.hid ((hb2.block _ (lt_of_block Ex4_.out)).trans Ex4_.out)
      have Ep5_ := Lib.hid ((hb2.block _ (lt_of_block Ep3_.out)).trans Ep3_.out)
      have Rp5_ := Lib.hid (Rp4_.out.below hb2)
      have E4 := Lib.hid e4
      have HRq := Lib.hid (hr4.weak (ok' := fun _ => True) fun _ _ => trivial)
      clear e4 hc4 hr4 hb2
      obtain ⟨X6_, hX6_⟩ : ∃ X, w2.alloc (.cells (vaA h4 A4 k4.length c4) 32) = X := ⟨_, rfl⟩
      have hbX6_ : Below w2.heap.size w2 X6_ := by rw [← hX6_]; exact below_new (Below.refl _ _) _
      have Eq6_ : Hid (X6_.heap[w2.heap.size]? = some (.cells (vaA h4 A4 k4.length c4) 32 (0, 0))) := by unfold Hid; rw [← hX6_]; exact new_at1 _
      have HX6_ := Lib.hid hX6_
      have HB7_ := Lib.hid (below_from HB5_.out hbX6_)
      have Ex7_ := Lib.hid ((hbX6_.block _ (lt_of_block Ex5_.out)).trans Ex5_.out)
      have Ep7_ := Lib.hid ((hbX6_.block _ (lt_of_block Ep5_.out)).trans Ep5_.out)
      have Rp7_ := Lib.hid (Rp5_.out.below hbX6_)
      have Rq7_ := Lib.hid (HRq.out.below hbX6_)
      clear hX6_ hbX6_
      go_upto_region 5 with fail
      rw [show w2.alloc _ = X6_ from HX6_.out]
      obtain ⟨x0, x1, x2, x3, x4, x5⟩ := re_at_box Ex7_.out
      go_wp2_with fail
      refine (CD.out _ HB7_.out).mono ?_
      rintro e w3 ⟨h5, k5, A5, c5, rfl, e5, hc5, hr5, hb3⟩
      clear x0 x1 x2 x3 x4 x5
      have HB8_ := Lib.hid (below_from HB7_.out hb3)
      have Ex8_ := Lib.hid ((hb3.block _ (lt_of_block Ex7_.out)).trans Ex7_.out)
      have Ep8_ := Lib.hid ((hb3.block _ (lt_of_block Ep7_.out)).trans Ep7_.out)
      have Eq8_ := Lib.hid ((hb3.block _ (lt_of_block Eq6_.out)).trans Eq6_.out)
      have Rp8_ := Lib.hid (Rp7_.out.below hb3)
      have Rq8_ := Lib.hid (Rq7_.out.below hb3)
      have E5 := Lib.hid e5
      have HRd := Lib.hid (hr5.weak (ok' := fun _ => True) fun _ _ => trivial)
      clear e5 hc5 hr5 hb3
      obtain ⟨X9_, hX9_⟩ : ∃ X, w3.alloc (.cells (vaA h5 A5 k5.length c5) 32) = X := ⟨_, rfl⟩
      have hbX9_ : Below w3.heap.size w3 X9_ := by rw [← hX9_]; exact below_new (Below.refl _ _) _
      have Ed9_ : Hid (X9_.heap[w3.heap.size]? = some (.cells (vaA h5 A5 k5.length c5) 32 (0, 0))) := by unfold Hid; rw [← hX9_]; exact new_at1 _
      have HX9_ := Lib.hid hX9_
      have HB10_ := Lib.hid (below_from HB8_.out hbX9_)
      have Ex10_ := Lib.hid ((hbX9_.block _ (lt_of_block Ex8_.out)).trans Ex8_.out)
      have Ep10_ := Lib.hid ((hbX9_.block _ (lt_of_block Ep8_.out)).trans Ep8_.out)
      have Eq10_ := Lib.hid ((hbX9_.block _ (lt_of_block Eq8_.out)).trans Eq8_.out)
      have Rp10_ := Lib.hid (Rp8_.out.below hbX9_)
      have Rq10_ := Lib.hid (Rq8_.out.below hbX9_)
      have Rd10_ := Lib.hid (HRd.out.below hbX9_)
      clear hX9_ hbX9_
      go_upto_region 6 with fail
      rw [show w3.alloc _ = X9_ from HX9_.out]
      have CS1 : Hid (∀ X, Below X9_.heap.size X9_ X → Calls Tryd.prog 11 #[vaV h3 A3 k3.length c3, vaV h4 A4 k4.length c4] X fun e w' => e = .returned (.bool true) ∧ Below X.heap.size X w') := fun X hX => by
        have hh := refSameV_upto 1000000000 (fun _ => True) h3 h4 k3 k4 A3 A4 c3 c4 X (by have h0 := HVS.out; rw [E3.out] at h0; simp only [T.size] at h0; omega) (Nat.le_refl _) (by have h0 := HVS.out; rw [E4.out] at h0; simp only [T.size] at h0; omega) (Rp10_.out.below hX) (Rq10_.out.below hX)
        rw [← E3.out, ← E4.out, sameV_refl] at hh
        exact hh
      have CS2 : Hid (∀ X, Below X9_.heap.size X9_ X → Calls Tryd.prog 11 #[vaV h5 A5 k5.length c5, vaV h4 A4 k4.length c4] X fun e w' => e = .returned (.bool true) ∧ Below X.heap.size X w') := fun X hX => by
        have hh := refSameV_upto 1000000000 (fun _ => True) h5 h4 k5 k4 A5 A4 c5 c4 X (by have h0 := HVS.out; rw [E5.out] at h0; simp only [T.size] at h0; omega) (Nat.le_refl _) (by have h0 := HVS.out; rw [E4.out] at h0; simp only [T.size] at h0; omega) (Rd10_.out.below hX) (Rq10_.out.below hX)
        rw [← E5.out, ← E4.out, sameV_refl] at hh
        exact hh
      have HBR0 := Lib.hid (Below.refl X9_.heap.size X9_)
      obtain ⟨p0, p1, p2⟩ := va_at_box Ep10_.out
      obtain ⟨q0, q1, q2⟩ := va_at_box Eq10_.out
      go_wp2_with fail
      refine (CS1.out _ HBR0.out).mono ?_
      rintro e w4 ⟨rfl, hb4⟩
      clear p0 p1 p2 q0 q1 q2
      have HB11_ := Lib.hid (below_from HB10_.out hb4)
      have Ex11_ := Lib.hid ((hb4.block _ (lt_of_block Ex10_.out)).trans Ex10_.out)
      have Ep11_ := Lib.hid ((hb4.block _ (lt_of_block Ep10_.out)).trans Ep10_.out)
      have Eq11_ := Lib.hid ((hb4.block _ (lt_of_block Eq10_.out)).trans Eq10_.out)
      have Ed11_ := Lib.hid ((hb4.block _ (lt_of_block Ed9_.out)).trans Ed9_.out)
      have Rp11_ := Lib.hid (Rp10_.out.below hb4)
      have Rq11_ := Lib.hid (Rq10_.out.below hb4)
      have Rd11_ := Lib.hid (Rd10_.out.below hb4)
      replace HBR0 := Lib.hid (below_from HBR0.out hb4)
      clear hb4
      obtain ⟨d0, d1, d2⟩ := va_at_box Ed11_.out
      obtain ⟨q0, q1, q2⟩ := va_at_box Eq11_.out
      go_wp2_with fail
      refine (CS2.out _ HBR0.out).mono ?_
      rintro e w5 ⟨rfl, hb5⟩
      clear d0 d1 d2 q0 q1 q2
      have HB12_ := Lib.hid (below_from HB11_.out hb5)
      have Ex12_ := Lib.hid ((hb5.block _ (lt_of_block Ex11_.out)).trans Ex11_.out)
      have Ep12_ := Lib.hid ((hb5.block _ (lt_of_block Ep11_.out)).trans Ep11_.out)
      have Eq12_ := Lib.hid ((hb5.block _ (lt_of_block Eq11_.out)).trans Eq11_.out)
      have Ed12_ := Lib.hid ((hb5.block _ (lt_of_block Ed11_.out)).trans Ed11_.out)
      have Rp12_ := Lib.hid (Rp11_.out.below hb5)
      have Rq12_ := Lib.hid (Rq11_.out.below hb5)
      have Rd12_ := Lib.hid (Rd11_.out.below hb5)
      go_wp2_with fail
      refine (CA.out _ HB12_.out).mono ?_
      rintro e w9 ⟨rfl, hb9⟩
      have hb := below_from HW.out (below_from HB12_.out hb9)
      clear hb9
      go_wp2_with fail
      go_ret
      exact ⟨rfl, hb⟩
    · rw [show decR (v, r, true) = (.mk vaH0 [], false) by simp [decR, hr0]] at CD
      have t2 := sl_full (S := str r) (by rw [str_size]; exact fun e => hr0 (List.eq_nil_of_length_eq_zero e))
      have t3 : r.isEmpty = false := by simpa using hr0
      have t4 : (r == []) = false := by simpa using hr0
      have t5 : decide (r = []) = false := by simpa using hr0
      have CD2 : Hid (∀ X, Below W.heap.size W X → Calls Tryd.prog 10 #[reV h A ks.length c, .string S] X (DkP (.mk vaH0 []) false X)) := CD
      clear CD
      rename _ => CD
      go_enter Tryd.func3, Tryd.ntmps3
      go_wp2_with fail
      rw [HE.out]
      refine (CG.out _ HB0.out).mono ?_
      rintro e w0 ⟨rfl, hb0⟩
      have HB1_ := Lib.hid (below_from HB0.out hb0)
      have Ex1_ := Lib.hid ((hb0.block _ (lt_of_block E1.out)).trans E1.out)
      obtain ⟨x0, x1, x2, x3, x4, x5⟩ := re_at_box Ex1_.out
      go_wp2_with fail
      refine (CT.out _ HB1_.out).mono ?_
      rintro e w1 ⟨h3, k3, A3, c3, rfl, e3, hc3, hr3, hb1⟩
      clear x0 x1 x2 x3 x4 x5
      have HB2_ := Lib.hid (below_from HB1_.out hb1)
      have Ex2_ := Lib.hid ((hb1.block _ (lt_of_block Ex1_.out)).trans Ex1_.out)
      have E3 := Lib.hid e3
      have HRp := Lib.hid (hr3.weak (ok' := fun _ => True) fun _ _ => trivial)
      clear e3 hc3 hr3 hb1
      obtain ⟨X3_, hX3_⟩ : ∃ X, w1.alloc (.cells (vaA h3 A3 k3.length c3) 32) = X := ⟨_, rfl⟩
      have hbX3_ : Below w1.heap.size w1 X3_ := by rw [← hX3_]; exact below_new (Below.refl _ _) _
      have Ep3_ : Hid (X3_.heap[w1.heap.size]? = some (.cells (vaA h3 A3 k3.length c3) 32 (0, 0))) := by unfold Hid; rw [← hX3_]; exact new_at1 _
      have HX3_ := Lib.hid hX3_
      have HB4_ := Lib.hid (below_from HB2_.out hbX3_)
      have Ex4_ := Lib.hid ((hbX3_.block _ (lt_of_block Ex2_.out)).trans Ex2_.out)
      have Rp4_ := Lib.hid (HRp.out.below hbX3_)
      clear hX3_ hbX3_
      go_upto_region 4 with fail
      rw [show w1.alloc _ = X3_ from HX3_.out]
      obtain ⟨x0, x1, x2, x3, x4, x5⟩ := re_at_box Ex4_.out
      go_wp2_with fail
      refine (CU.out _ HB4_.out).mono ?_
      rintro e w2 ⟨h4, k4, A4, c4, rfl, e4, hc4, hr4, hb2⟩
      clear x0 x1 x2 x3 x4 x5
      have HB5_ := Lib.hid (below_from HB4_.out hb2)
      have Ex5_ := Lib.hid ((hb2.block _ (lt_of_block Ex4_.out)).trans Ex4_.out)
      have Ep5_ := Lib.hid ((hb2.block _ (lt_of_block Ep3_.out)).trans Ep3_.out)
      have Rp5_ := Lib.hid (Rp4_.out.below hb2)
      have E4 := Lib.hid e4
      have HRq := Lib.hid (hr4.weak (ok' := fun _ => True) fun _ _ => trivial)
      clear e4 hc4 hr4 hb2
      obtain ⟨X6_, hX6_⟩ : ∃ X, w2.alloc (.cells (vaA h4 A4 k4.length c4) 32) = X := ⟨_, rfl⟩
      have hbX6_ : Below w2.heap.size w2 X6_ := by rw [← hX6_]; exact below_new (Below.refl _ _) _
      have Eq6_ : Hid (X6_.heap[w2.heap.size]? = some (.cells (vaA h4 A4 k4.length c4) 32 (0, 0))) := by unfold Hid; rw [← hX6_]; exact new_at1 _
      have HX6_ := Lib.hid hX6_
      have HB7_ := Lib.hid (below_from HB5_.out hbX6_)
      have Ex7_ := Lib.hid ((hbX6_.block _ (lt_of_block Ex5_.out)).trans Ex5_.out)
      have Ep7_ := Lib.hid ((hbX6_.block _ (lt_of_block Ep5_.out)).trans Ep5_.out)
      have Rp7_ := Lib.hid (Rp5_.out.below hbX6_)
      have Rq7_ := Lib.hid (HRq.out.below hbX6_)
      clear hX6_ hbX6_
      go_upto_region 5 with fail
      rw [show w2.alloc _ = X6_ from HX6_.out]
      obtain ⟨x0, x1, x2, x3, x4, x5⟩ := re_at_box Ex7_.out
      go_wp2_with fail
      refine (CD.out _ HB7_.out).mono ?_
      rintro e w3 ⟨h5, k5, A5, c5, rfl, e5, hc5, hr5, hb3⟩
      clear x0 x1 x2 x3 x4 x5
      have HB8_ := Lib.hid (below_from HB7_.out hb3)
      have Ex8_ := Lib.hid ((hb3.block _ (lt_of_block Ex7_.out)).trans Ex7_.out)
      have Ep8_ := Lib.hid ((hb3.block _ (lt_of_block Ep7_.out)).trans Ep7_.out)
      have Eq8_ := Lib.hid ((hb3.block _ (lt_of_block Eq6_.out)).trans Eq6_.out)
      have Rp8_ := Lib.hid (Rp7_.out.below hb3)
      have Rq8_ := Lib.hid (Rq7_.out.below hb3)
      have E5 := Lib.hid e5
      have HRd := Lib.hid (hr5.weak (ok' := fun _ => True) fun _ _ => trivial)
      clear e5 hc5 hr5 hb3
      obtain ⟨X9_, hX9_⟩ : ∃ X, w3.alloc (.cells (vaA h5 A5 k5.length c5) 32) = X := ⟨_, rfl⟩
      have hbX9_ : Below w3.heap.size w3 X9_ := by rw [← hX9_]; exact below_new (Below.refl _ _) _
      have Ed9_ : Hid (X9_.heap[w3.heap.size]? = some (.cells (vaA h5 A5 k5.length c5) 32 (0, 0))) := by unfold Hid; rw [← hX9_]; exact new_at1 _
      have HX9_ := Lib.hid hX9_
      have HB10_ := Lib.hid (below_from HB8_.out hbX9_)
      have Ex10_ := Lib.hid ((hbX9_.block _ (lt_of_block Ex8_.out)).trans Ex8_.out)
      have Ep10_ := Lib.hid ((hbX9_.block _ (lt_of_block Ep8_.out)).trans Ep8_.out)
      have Eq10_ := Lib.hid ((hbX9_.block _ (lt_of_block Eq8_.out)).trans Eq8_.out)
      have Rp10_ := Lib.hid (Rp8_.out.below hbX9_)
      have Rq10_ := Lib.hid (Rq8_.out.below hbX9_)
      have Rd10_ := Lib.hid (HRd.out.below hbX9_)
      clear hX9_ hbX9_
      go_upto_region 6 with fail
      rw [show w3.alloc _ = X9_ from HX9_.out]
      have CS1 : Hid (∀ X, Below X9_.heap.size X9_ X → Calls Tryd.prog 11 #[vaV h3 A3 k3.length c3, vaV h4 A4 k4.length c4] X fun e w' => e = .returned (.bool true) ∧ Below X.heap.size X w') := fun X hX => by
        have hh := refSameV_upto 1000000000 (fun _ => True) h3 h4 k3 k4 A3 A4 c3 c4 X (by have h0 := HVS.out; rw [E3.out] at h0; simp only [T.size] at h0; omega) (Nat.le_refl _) (by have h0 := HVS.out; rw [E4.out] at h0; simp only [T.size] at h0; omega) (Rp10_.out.below hX) (Rq10_.out.below hX)
        rw [← E3.out, ← E4.out, sameV_refl] at hh
        exact hh
      have CS2 : Hid (∀ X, Below X9_.heap.size X9_ X → Calls Tryd.prog 11 #[vaV h5 A5 k5.length c5, vaV vaH0 none 0 0] X fun e w' => e = .returned (.bool true) ∧ Below X.heap.size X w') := fun X hX => by
        have h1 : T.sizes k5 = 0 := by have h0 := congrArg T.size E5.out; simp only [T.size, T.sizes] at h0; omega
        have hh := refSameV_upto 1000000000 (fun _ => True) h5 vaH0 k5 [] A5 none c5 0 X (by omega) (Nat.le_refl _) (by simp [T.sizes]) (Rd10_.out.below hX) (by simp [InRow])
        rw [← E5.out, sameV_refl] at hh
        exact hh
      have HBR0 := Lib.hid (Below.refl X9_.heap.size X9_)
      obtain ⟨p0, p1, p2⟩ := va_at_box Ep10_.out
      obtain ⟨q0, q1, q2⟩ := va_at_box Eq10_.out
      go_wp2_with fail
      refine (CS1.out _ HBR0.out).mono ?_
      rintro e w4 ⟨rfl, hb4⟩
      clear p0 p1 p2 q0 q1 q2
      have HB11_ := Lib.hid (below_from HB10_.out hb4)
      have Ex11_ := Lib.hid ((hb4.block _ (lt_of_block Ex10_.out)).trans Ex10_.out)
      have Ep11_ := Lib.hid ((hb4.block _ (lt_of_block Ep10_.out)).trans Ep10_.out)
      have Eq11_ := Lib.hid ((hb4.block _ (lt_of_block Eq10_.out)).trans Eq10_.out)
      have Ed11_ := Lib.hid ((hb4.block _ (lt_of_block Ed9_.out)).trans Ed9_.out)
      have Rp11_ := Lib.hid (Rp10_.out.below hb4)
      have Rq11_ := Lib.hid (Rq10_.out.below hb4)
      have Rd11_ := Lib.hid (Rd10_.out.below hb4)
      replace HBR0 := Lib.hid (below_from HBR0.out hb4)
      clear hb4
      obtain ⟨d0, d1, d2⟩ := va_at_box Ed11_.out
      go_wp2_with fail
      refine (CS2.out _ HBR0.out).mono ?_
      rintro e w5 ⟨rfl, hb5⟩
      clear d0 d1 d2
      have HB12_ := Lib.hid (below_from HB11_.out hb5)
      have Ex12_ := Lib.hid ((hb5.block _ (lt_of_block Ex11_.out)).trans Ex11_.out)
      have Ep12_ := Lib.hid ((hb5.block _ (lt_of_block Ep11_.out)).trans Ep11_.out)
      have Eq12_ := Lib.hid ((hb5.block _ (lt_of_block Eq11_.out)).trans Eq11_.out)
      have Ed12_ := Lib.hid ((hb5.block _ (lt_of_block Ed11_.out)).trans Ed11_.out)
      have Rp12_ := Lib.hid (Rp11_.out.below hb5)
      have Rq12_ := Lib.hid (Rq11_.out.below hb5)
      have Rd12_ := Lib.hid (Rd11_.out.below hb5)
      go_wp2_with fail
      refine (CA.out _ HB12_.out).mono ?_
      rintro e w9 ⟨rfl, hb9⟩
      have hb := below_from HW.out (below_from HB12_.out hb9)
      clear hb9
      go_wp2_with fail
      go_ret
      exact ⟨rfl, hb⟩
namespace lawBitsTakes
open Go.ChangeShapes Go.WideShapes Go.ChangeAt
open Go.ChangeMaps (open_string)
set_option maxRecDepth 100000 in
theorem contract (H : Type) (enc : TypeId × Value → H) (W : World) (base : Nat) (args : Array Value) (ds gs : List (DataW H)) (before : List MemPlace)
    (hval : ∀ (j : Nat) t v, Tryd.f3.params[j]? = some t → args[j]? = some v → Value.okWide Tryd.prog W .any base t v)
    (hW : DataW.Whole enc Tryd.prog Tryd.f3.params.toList Rows.bitsTakesSpec.vars false W args.toList ds gs before) (hL : laidMetH Tryd.prog Rows.bitsTakesUptoRow.laid W) (hk : Rows.uptoSmall H (ds ++ gs) = true) :
    Calls Tryd.prog 3 args W fun e W' => ∃ v, e = .returned v ∧ Rows.bitsTakesSpec.post enc Tryd.prog Tryd.f3 false true false false W args v W' := by
  have hW' := hW
  obtain ⟨p, q, hA0, hV, rfl, hfz, hnd⟩ := hW
  have hA : DataW.TrodAll enc Tryd.prog W 0 (fun _ => true) true Tryd.f3.params.toList args.toList ds p := hA0
  rw [Tryd.params3] at hA hval
  obtain ⟨v0, vs0, d0, ds0, p0, q0, hargs, rfl, rfl, h0, r0⟩ := trodAll_cons hA
  obtain ⟨v1, vs1, d1, ds1, p1, q1, rfl, rfl, rfl, h1, r1⟩ := trodAll_cons r0
  obtain ⟨rfl, rfl, rfl⟩ := trodAll_nil r1
  obtain rfl : args = #[v0, v1] := by cases args; simp_all
  obtain ⟨rfl, rfl⟩ := trodVars_none hV
  have hkk : Rows.uptoBulk d0 + Rows.uptoBulk d1 ≤ 1048576 := by simp [Rows.uptoSmall, Rows.uptoBulkAll] at hk; omega
  obtain ⟨x, kx, A0, c0, rfl, hc0, hr0, hz0⟩ := open_re (hval 0 27 v0 rfl rfl) h0
  obtain ⟨s, rfl, rfl, rfl, hs1⟩ := open_string Tryd.underlying9 (hval 1 9 v1 rfl rfl) h1
  have HT : TzOk W := tz_of_laid hL
  refine (bitsTakes_walk x kx A0 c0 s W (by omega) hc0 hr0 HT).mono fun e W' ⟨he, hb⟩ => ?_
  subst he
  exact ⟨_, rfl, post_true Tryd.laidOut (by rw [Tryd.params3]; intro t ht; simp at ht; rcases ht with rfl | rfl <;> exact ⟨by kernel_rfl, of_decide_eq_true (by kernel_rfl)⟩) hW' rfl rfl rfl Tryd.underlying4 hb⟩
theorem laid_met (os : Os) : laidMet Tryd.prog Rows.bitsTakesUptoRow.laid ((tzWorld os).forCall (fun _ _ => 0) ⟨#[], #[.agg #[.int .u8 0, .int .u64 0, .int .u64 0, .int .u64 0, .int .u64 0, .slice none 0 0], .string ByteArray.empty], []⟩).memory :=
  laidMet_of_run' 70 (by kernel_rfl) (by kernel_rfl)
theorem reads (os : Os) {H : Type} (enc : TypeId × Value → H) : ∃ places, DataW.whole enc Tryd.prog ((tzWorld os).forCall (fun _ _ => 0) ⟨#[], #[.agg #[.int .u8 0, .int .u64 0, .int .u64 0, .int .u64 0, .int .u64 0, .slice none 0 0], .string ByteArray.empty], []⟩).memory Tryd.f3.params.toList Rows.bitsTakesSpec.vars false (#[.agg #[.int .u8 0, .int .u64 0, .int .u64 0, .int .u64 0, .int .u64 0, .slice none 0 0], .string ByteArray.empty] : Array Value).toList 8 = some ([.agg [.lit (.int .u8 0), .agg [.lit (.int .u64 0), .lit (.int .u64 0), .lit (.int .u64 0), .lit (.int .u64 0)], .nil], .lit (.string [])], [], places) :=
  ⟨[], by kernel_rfl⟩
set_option maxRecDepth 100000 in
theorem lifted (os : Os) (started : os.Started) (H : Type) (enc : TypeId × Value → H) (F : Stop.Interp) :
    ReturnsInHanded {} Tryd.checked os 3 .any ((Rows.OpenSpec.upto Rows.bitsTakesSpec).preRow enc Tryd.prog Tryd.f3 Rows.bitsTakesUptoRow.domain false Rows.bitsTakesUptoRow.laid) (((Rows.OpenSpec.upto Rows.bitsTakesSpec).at F).post enc Tryd.prog Tryd.f3 false true false false) := by
  obtain ⟨places, hx⟩ := reads os enc
  refine returnsInHanded_of_row (C := Tryd.checked) (s := Rows.OpenSpec.upto Rows.bitsTakesSpec) Tryd.own started (by kernel_rfl) Tryd.func3
    (witness_row_at (enc := enc) (C := Tryd.checked) false (tzWorld os) #[.agg #[.int .u8 0, .int .u64 0, .int .u64 0, .int .u64 0, .int .u64 0, .slice none 0 0], .string ByteArray.empty] rfl (by kernel_rfl) (by kernel_rfl) (by kernel_rfl)
      (OpenSpec.preRow_of_cond 8 hx (by kernel_rfl) (fun k hk => by cases hk; kernel_rfl) (by kernel_rfl) (laid_met os))) ?_
  intro W base args ds gs before hval hW _ hcond _ hL _ _
  exact contract H enc W base args ds gs before hval hW hL (hcond _ rfl)
theorem said : Rows.BitsTakesUptoSaid :=
  OpenClaim.holds_of_cond 3 Tryd.f3 rfl rfl rfl rfl rfl rfl rfl ⟨rfl, rfl, rfl, rfl, rfl⟩ rfl rfl rfl rfl rfl (by kernel_rfl) Tryd.func3 (by kernel_rfl)
    (of_decide_eq_true (by kernel_rfl)) (by unfold Func.isWrapper; first | (rw [if_pos (by decide +kernel)]; kernel_rfl) | (rw [if_neg (by decide +kernel)]; exact ⟨rfl, rfl⟩))
    (fun os started H enc _ F => by rw [OpenClaim.pre_eq_preRow]; exact lifted os started H enc F)
theorem plain (f : FuncId) (fn : Func) (hf : Tryd.pinned.checked.prog.funcNamed "quill/quilllaw15.BitsTakes" = some f) (hfn : Tryd.pinned.checked.prog.funcs[f]? = some fn) :
    true = Tryd.pinned.checked.prog.looks [] ∧ ∀ (j : Nat) t, fn.params[j]? = some t → Tryd.pinned.checked.prog.wantsStandIn t = false := by
  obtain rfl : f = 3 := Option.some.inj ((show Tryd.prog.funcNamed "quill/quilllaw15.BitsTakes" = some 3 by kernel_rfl).symm.trans hf) |>.symm
  obtain rfl : fn = Tryd.f3 := (Option.some.inj (Tryd.func3.symm.trans hfn)).symm
  refine ⟨by kernel_rfl, fun j t ht => ?_⟩
  rw [Tryd.params3] at ht
  have hm := Array.mem_of_getElem? ht
  simp at hm
  rcases hm with rfl | rfl
  · exact (show Tryd.prog.wantsStandIn 27 = false by kernel_rfl)
  · exact (show Tryd.prog.wantsStandIn 9 = false by kernel_rfl)
theorem proved : Rows.BitsTakesUptoCardSaid :=
  Claim7.holds_tied_plain_at .later [] _ _ _ _ said (fun _ h => by cases h) (by kernel_rfl) (fun _ h => by cases h) bitsTakesUpto_row_tie rfl ⟨rfl, rfl⟩ (by kernel_rfl) rfl plain (by kernel_rfl)
end lawBitsTakes
end Go.Proofs.YteokbmngebckjaaDoor
