/- The value of any text is the right one: it is one of the expression, of that text, and there is one just if the expression fits it. For every input that is not too large. -/
import Derived.Test.YtgdigbbfgpenpaaGreatDoorBr
import Derived.Test.YtgdigbbfgpenpaaGreatDoorBz
import Derived.Test.YtgdigbbfgpenpaaGreatDoorCa
import Derived.Test.YtgdigbbfgpenpaaGreatDoorCb
import Derived.Test.YtgdigbbfgpenpaaGreatDoorBv
import Derived.Test.YtgdigbbfgpenpaaGreatDoorBg
namespace Go.Proofs.YtgdigbbfgpenpaaGreatDoor
open Go.RowKit
set_option linter.unusedVariables false
set_option linter.unusedSimpArgs false

theorem bits_of {t : Re} {s : List UInt8} {v : Va} (hs : s.length ≤ 100) (h0 : (lastBits (walkR stepE stepT t s)).2 = 0) (hm : mayB t = true) (hv : RV t s v) : lastBits (walkR stepE stepT t s) = (codeV v, 0) := by
  rcases lex_all keeps_step good_step (t := t) (s := s) hs with ⟨h1, _, h2⟩ | ⟨_, h1⟩ | ⟨h1, _⟩
  · unfold lastBits
    rw [if_pos h1]
    rcases h2 with ⟨h2, h3⟩ | ⟨v2, h3, h2⟩
    · exact (h3 (RV_LT hv)).elim
    · rw [h2, RV_one (may_okT hm) h3 hv]
  · rw [hm] at h1; cases h1
  · unfold lastBits at h0
    rw [if_neg (by rw [h1]; decide), h1] at h0
    exact absurd h0 (by decide)
set_option maxRecDepth 100000 in
set_option maxHeartbeats 16000000 in
theorem posixLex_walk (h : RH) (ks : List Re) (A : Option Addr) (c : Nat) (S : ByteArray) (w : World) (hm : T.sizes ks ≤ 1048576) (hc : ks.length ≤ c) (hr : InRow RE (fun _ => True) w ks A 0) (htz : TzOk w) :
    Calls Tryz.prog 3 #[reV h A ks.length c, .string S] w fun e w' => e = .returned (.bool true) ∧ Below w.heap.size w w' := by
  obtain ⟨W, hW⟩ : ∃ W, w.alloc (.cells (reA h A ks.length c) 27) = W := ⟨_, rfl⟩
  have hbW : Below w.heap.size w W := by rw [← hW]; exact below_new (Below.refl _ _) _
  have e1 : W.heap[w.heap.size]? = some (.cells (reA h A ks.length c) 27 (0, 0)) := by rw [← hW]; exact new_at1 _
  have CG : Hid (∀ X, Below W.heap.size W X → Calls Tryz.prog 4 #[reV h A ks.length c, .int .i64 20] X fun e w' => e = .returned (.bool (greatB 20 (.mk h ks))) ∧ Below X.heap.size X w') := fun X hX => Great_any h ks A c 20 X (by omega) hc (hr.below (below_from hbW hX))
  have CA : Hid (∀ X, Below W.heap.size W X → Calls Tryz.prog 5 #[] X fun e w' => e = .returned (.bool true) ∧ Below X.heap.size X w') := fun X hX => awake17_any X
  have HR := Lib.hid hr
  have HTZ := Lib.hid htz
  have HW := Lib.hid hbW
  have HE := Lib.hid hW
  have E1 := Lib.hid e1
  clear hW hr hbW e1 htz
  have HB0 : Hid (Below W.heap.size W W) := Below.refl _ _
  rcases hg : greatB 20 (.mk h ks) with _ | _
  case true =>
    rw [hg] at CG
    clear hg
    go_enter Tryz.func3, Tryz.ntmps3
    go_wp2_with fail
    rw [HE.out]
    refine (CG.out _ HB0.out).mono ?_
    rintro e w0 ⟨rfl, hb0⟩
    have HB1_ := Lib.hid (below_from HB0.out hb0)
    have Ex1_ := Lib.hid ((hb0.block _ (lt_of_block E1.out)).trans E1.out)
    go_wp2_with fail
    refine (CA.out _ HB1_.out).mono ?_
    rintro e w9 ⟨rfl, hb9⟩
    have hb := below_from HW.out (below_from HB1_.out hb9)
    clear hb9
    go_wp2_with fail
    go_ret
    exact ⟨rfl, hb⟩
  have hsz : 1 + T.sizes ks ≤ 20 := by
    have := of_decide_eq_false hg
    simp only [T.size] at this
    omega
  rw [hg] at CG
  clear hg
  by_cases ls : 6 < S.size
  · have gls : decide (((S.size : Nat) : Int) > 6) = true := by simp; omega
    go_enter Tryz.func3, Tryz.ntmps3
    go_wp2_with fail
    rw [HE.out]
    refine (CG.out _ HB0.out).mono ?_
    rintro e w0 ⟨rfl, hb0⟩
    have HB1_ := Lib.hid (below_from HB0.out hb0)
    have Ex1_ := Lib.hid ((hb0.block _ (lt_of_block E1.out)).trans E1.out)
    go_wp2_with fail
    refine (CA.out _ HB1_.out).mono ?_
    rintro e w9 ⟨rfl, hb9⟩
    have hb := below_from HW.out (below_from HB1_.out hb9)
    clear hb9
    go_wp2_with fail
    go_ret
    exact ⟨rfl, hb⟩
  have gls : decide (((S.size : Nat) : Int) > 6) = false := by simp; omega
  have hS : S.size ≤ 100 := by omega
  have HTS : Hid ((T.mk h ks).size * (S.data.toList.length + 1) ≤ 1000) := by unfold Hid; rw [sl_]; exact Nat.le_trans (Nat.mul_le_mul (show (T.mk h ks).size ≤ 20 from hsz) (show S.size + 1 ≤ 7 by omega)) (by decide)
  have CL : Hid (∀ X, Below W.heap.size W X → Calls Tryz.prog 6 #[reV h A ks.length c, .string S] X (LexPostB (lastBits (walkR stepE stepT (.mk h ks) S.data.toList)).2 (.mk h ks) S.data.toList X)) := fun X hX => pLexB_any h ks A c S X (by omega) hc (HR.out.below (below_from HW.out hX)) hS (HTZ.out.below (below_from HW.out hX))
  have CR : Hid (∀ X, Below W.heap.size W X → Calls Tryz.prog 8 #[reV h A ks.length c, .string S] X (RightPost (.mk h ks) S.data.toList X)) := fun X hX => right_any h ks A c S X (by omega) hc (HR.out.below (below_from HW.out hX)) hS
  have CM : Hid (∀ X, Below W.heap.size W X → Calls Tryz.prog 9 #[reV h A ks.length c] X fun e w' => e = .returned (.bool (mayB (.mk h ks))) ∧ Below X.heap.size X w') := fun X hX => refMay_any h ks A c X (by omega) hc (HR.out.below (below_from HW.out hX))
  have CF : Hid (∀ X, Below W.heap.size W X → Calls Tryz.prog 10 #[reV h A ks.length c, .string S] X (FitsPost (.mk h ks) S X)) := fun X hX => fits_any h ks A c S X (by omega) hc (HR.out.below (below_from HW.out hX)) hS
  have CB : Hid (∀ X, Below W.heap.size W X → Calls Tryz.prog 11 #[reV h A ks.length c, .string S] X fun e w' => e = .returned (.tuple #[.string (str (lastBits (walkR stepE stepT (.mk h ks) S.data.toList)).1), .int .i64 (lastBits (walkR stepE stepT (.mk h ks) S.data.toList)).2]) ∧ Below X.heap.size X w') := fun X hX => pBits_any h ks A c S X (by omega) hc (HR.out.below (below_from HW.out hX)) hS
  clear ls
  go_enter Tryz.func3, Tryz.ntmps3
  go_wp2_with fail
  rw [HE.out]
  refine (CG.out _ HB0.out).mono ?_
  rintro e w0 ⟨rfl, hb0⟩
  have HB1_ := Lib.hid (below_from HB0.out hb0)
  have Ex1_ := Lib.hid ((hb0.block _ (lt_of_block E1.out)).trans E1.out)
  obtain ⟨x0, x1, x2, x3, x4, x5⟩ := re_at_box Ex1_.out
  go_wp2_with fail
  refine (CL.out _ HB1_.out).mono ?_
  rintro e w1 ⟨h1, k1, A1, c1, e1, rfl, ⟨hrl, hbe⟩, hc1, hr1, hb1⟩
  clear x0 x1 x2 x3 x4 x5
  have HB2_ := Lib.hid (below_from HB1_.out hb1)
  have Ex2_ := Lib.hid ((hb1.block _ (lt_of_block Ex1_.out)).trans Ex1_.out)
  have HRL := Lib.hid hrl
  have HR1 := Lib.hid hr1
  have HBE := Lib.hid hbe
  clear hrl hr1 hb1 hbe
  obtain ⟨X3_, hX3_⟩ : ∃ X, w1.alloc (.cells (vaA h1 A1 k1.length c1) 32) = X := ⟨_, rfl⟩
  have hbX3_ : Below w1.heap.size w1 X3_ := by rw [← hX3_]; exact below_new (Below.refl _ _) _
  have Ep3_ : Hid (X3_.heap[w1.heap.size]? = some (.cells (vaA h1 A1 k1.length c1) 32 (0, 0))) := by unfold Hid; rw [← hX3_]; exact new_at1 _
  have HX3_ := Lib.hid hX3_
  have HB4_ := Lib.hid (below_from HB2_.out hbX3_)
  have Ex4_ := Lib.hid ((hbX3_.block _ (lt_of_block Ex2_.out)).trans Ex2_.out)
  have Ra4_ := Lib.hid (HR1.out.below hbX3_)
  clear hX3_ hbX3_
  go_upto_region 4 with fail
  rw [show w1.alloc _ = X3_ from HX3_.out]
  rcases HRL.out with ⟨rfl, hmy, hrv⟩ | ⟨hv0, ⟨hmy, rfl⟩ | ⟨hmy, rfl⟩ | ⟨hmy, hnl, rfl⟩⟩
  · have HMY := Lib.hid hmy
    obtain ⟨x0, x1, x2, x3, x4, x5⟩ := re_at_box Ex4_.out
    go_wp2_with fail
    refine (CR.out _ HB4_.out).mono ?_
    rintro e w2 ⟨h2, k2, A2, c2, b2, rfl, hrr, hc2, hr2, hb2⟩
    clear x0 x1 x2 x3 x4 x5
    have HB5_ := Lib.hid (below_from HB4_.out hb2)
    have Ex5_ := Lib.hid ((hb2.block _ (lt_of_block Ex4_.out)).trans Ex4_.out)
    have Ep5_ := Lib.hid ((hb2.block _ (lt_of_block Ep3_.out)).trans Ep3_.out)
    have Ra5_ := Lib.hid (Ra4_.out.below hb2)
    have hbt : b2 = true ∧ T.mk h2 k2 = T.mk h1 k1 := by
      rcases hrr with ⟨hb, _, hrv2⟩ | ⟨_, _, hno⟩
      · exact ⟨hb, RV_one (may_okT HMY.out) hrv2 hrv⟩
      · exact (hno ⟨HMY.out, RV_LT hrv⟩).elim
    obtain ⟨rfl, hee⟩ := hbt
    have hs1 : T.sizes k1 ≤ 1000 := by have := RV_size hrv; have h2 := HTS.out; simp only [T.size] at this h2; omega
    have hs2 : T.sizes k2 ≤ 1000 := by have := congrArg T.size hee; simp only [T.size] at this; omega
    have HBB := Lib.hid (bits_of (by rw [sl_]; exact hS) (HBE.out (by first | exact rfl | trivial)) HMY.out hrv)
    have HR2 := Lib.hid hr2
    have HC2 := Lib.hid hc2
    clear hr2 hrr hb2 hc2
    obtain ⟨X6_, hX6_⟩ : ∃ X, w2.alloc (.cells (vaA h2 A2 k2.length c2) 32) = X := ⟨_, rfl⟩
    have hbX6_ : Below w2.heap.size w2 X6_ := by rw [← hX6_]; exact below_new (Below.refl _ _) _
    have Eq6_ : Hid (X6_.heap[w2.heap.size]? = some (.cells (vaA h2 A2 k2.length c2) 32 (0, 0))) := by unfold Hid; rw [← hX6_]; exact new_at1 _
    have HX6_ := Lib.hid hX6_
    have HB7_ := Lib.hid (below_from HB5_.out hbX6_)
    have Ex7_ := Lib.hid ((hbX6_.block _ (lt_of_block Ex5_.out)).trans Ex5_.out)
    have Ep7_ := Lib.hid ((hbX6_.block _ (lt_of_block Ep5_.out)).trans Ep5_.out)
    have Ra7_ := Lib.hid (Ra5_.out.below hbX6_)
    have Rb7_ := Lib.hid (HR2.out.below hbX6_)
    clear hX6_ hbX6_
    go_upto_region 7 with fail
    rw [show w2.alloc _ = X6_ from HX6_.out]
    have CBB := Lib.hid (CB.out _ HB7_.out)
    rw [HBB.out] at CBB
    simp only at CBB
    obtain ⟨x0, x1, x2, x3, x4, x5⟩ := re_at_box Ex7_.out
    go_wp2_with fail
    refine (CBB.out).mono ?_
    rintro e w3 ⟨rfl, hb3⟩
    clear x0 x1 x2 x3 x4 x5
    have HB8_ := Lib.hid (below_from HB7_.out hb3)
    have Ex8_ := Lib.hid ((hb3.block _ (lt_of_block Ex7_.out)).trans Ex7_.out)
    have Ep8_ := Lib.hid ((hb3.block _ (lt_of_block Ep7_.out)).trans Ep7_.out)
    have Eq8_ := Lib.hid ((hb3.block _ (lt_of_block Eq6_.out)).trans Eq6_.out)
    have Ra8_ := Lib.hid (Ra7_.out.below hb3)
    have Rb8_ := Lib.hid (Rb7_.out.below hb3)
    have CS : Hid (Calls Tryz.prog 7 #[vaV h1 A1 k1.length c1, vaV h2 A2 k2.length c2] w3 fun e w' => e = .returned (.bool true) ∧ Below w3.heap.size w3 w') := by
      have := refSameV_upto 1000000000 (fun _ => True) h1 h2 k1 k2 A1 A2 c1 c2 w3 (by omega) (Nat.le_refl _) (by omega) (Ra8_.out.weak fun _ _ => trivial) (Rb8_.out.weak fun _ _ => trivial)
      rw [hee, sameV_refl] at this
      exact this
    obtain ⟨p0, p1, p2⟩ := va_at_box Ep8_.out
    obtain ⟨q0, q1, q2⟩ := va_at_box Eq8_.out
    go_wp2_with fail
    refine (CS.out).mono ?_
    rintro e w5 ⟨rfl, hb5⟩
    clear p0 p1 p2 q0 q1 q2
    have HB9_ := Lib.hid (below_from HB8_.out hb5)
    have Ex9_ := Lib.hid ((hb5.block _ (lt_of_block Ex8_.out)).trans Ex8_.out)
    have Ep9_ := Lib.hid ((hb5.block _ (lt_of_block Ep8_.out)).trans Ep8_.out)
    have Eq9_ := Lib.hid ((hb5.block _ (lt_of_block Eq8_.out)).trans Eq8_.out)
    have Ra9_ := Lib.hid (Ra8_.out.below hb5)
    have Rb9_ := Lib.hid (Rb8_.out.below hb5)
    have CC : Hid (Calls Tryz.prog 12 #[vaV h2 A2 k2.length c2] w5 fun e w' => e = .returned (.string (str (codeV (.mk h1 k1)))) ∧ Below w5.heap.size w5 w') := by
      have := refCode_upto 1000000000 _ h2 k2 A2 c2 w5 (by omega) (Nat.le_refl _) HC2.out Rb9_.out
      rw [hee] at this
      exact this
    obtain ⟨q0, q1, q2⟩ := va_at_box Eq9_.out
    go_wp2_with fail
    refine (CC.out).mono ?_
    rintro e w6 ⟨rfl, hb6⟩
    clear q0 q1 q2
    have HB10_ := Lib.hid (below_from HB9_.out hb6)
    have Ex10_ := Lib.hid ((hb6.block _ (lt_of_block Ex9_.out)).trans Ex9_.out)
    have Ep10_ := Lib.hid ((hb6.block _ (lt_of_block Ep9_.out)).trans Ep9_.out)
    have Eq10_ := Lib.hid ((hb6.block _ (lt_of_block Eq9_.out)).trans Eq9_.out)
    have Ra10_ := Lib.hid (Ra9_.out.below hb6)
    have Rb10_ := Lib.hid (Rb9_.out.below hb6)
    go_wp2_with fail
    refine (CA.out _ HB10_.out).mono ?_
    rintro e w9 ⟨rfl, hb9⟩
    have hb := below_from HW.out (below_from HB10_.out hb9)
    clear hb9
    go_wp2_with fail
    go_ret
    exact ⟨rfl, hb⟩
  · have HMY := Lib.hid hmy
    obtain ⟨x0, x1, x2, x3, x4, x5⟩ := re_at_box Ex4_.out
    go_wp2_with fail
    refine (CR.out _ HB4_.out).mono ?_
    rintro e w2 ⟨h2, k2, A2, c2, b2, rfl, hrr, hc2, hr2, hb2⟩
    clear x0 x1 x2 x3 x4 x5
    have HB5_ := Lib.hid (below_from HB4_.out hb2)
    have Ex5_ := Lib.hid ((hb2.block _ (lt_of_block Ex4_.out)).trans Ex4_.out)
    have Ep5_ := Lib.hid ((hb2.block _ (lt_of_block Ep3_.out)).trans Ep3_.out)
    have Ra5_ := Lib.hid (Ra4_.out.below hb2)
    have hno : ¬ (mayB (.mk h ks) = true ∧ LT (.mk h ks) S.data.toList) := fun hh => by rw [HMY.out] at hh; exact absurd hh.1 (by decide)
    have HNO := Lib.hid hno
    have hbt : b2 = false ∧ T.mk h2 k2 = T.mk vaH0 [] := by
      rcases hrr with ⟨hb, hm2, hrv2⟩ | ⟨hb, hv2, _⟩
      · exact (hno ⟨hm2, RV_LT hrv2⟩).elim
      · exact ⟨hb, hv2⟩
    obtain ⟨rfl, hee⟩ := hbt
    have hs1 : T.sizes k1 ≤ 1000 := by have := congrArg T.size hv0; simp only [T.size, T.sizes] at this; omega
    clear hno
    have HR2 := Lib.hid hr2
    have HC2 := Lib.hid hc2
    clear hr2 hrr hb2 hc2
    obtain ⟨X6_, hX6_⟩ : ∃ X, w2.alloc (.cells (vaA h2 A2 k2.length c2) 32) = X := ⟨_, rfl⟩
    have hbX6_ : Below w2.heap.size w2 X6_ := by rw [← hX6_]; exact below_new (Below.refl _ _) _
    have Eq6_ : Hid (X6_.heap[w2.heap.size]? = some (.cells (vaA h2 A2 k2.length c2) 32 (0, 0))) := by unfold Hid; rw [← hX6_]; exact new_at1 _
    have HX6_ := Lib.hid hX6_
    have HB7_ := Lib.hid (below_from HB5_.out hbX6_)
    have Ex7_ := Lib.hid ((hbX6_.block _ (lt_of_block Ex5_.out)).trans Ex5_.out)
    have Ep7_ := Lib.hid ((hbX6_.block _ (lt_of_block Ep5_.out)).trans Ep5_.out)
    have Ra7_ := Lib.hid (Ra5_.out.below hbX6_)
    have Rb7_ := Lib.hid (HR2.out.below hbX6_)
    clear hX6_ hbX6_
    go_upto_region 7 with fail
    rw [show w2.alloc _ = X6_ from HX6_.out]
    have hmc : mayB (.mk h ks) = false := HMY.out
    have CMM := Lib.hid (CM.out _ HB7_.out)
    rw [hmc] at CMM
    clear hmc
    obtain ⟨x0, x1, x2, x3, x4, x5⟩ := re_at_box Ex7_.out
    go_wp2_with fail
    refine (CMM.out).mono ?_
    rintro e w3 ⟨rfl, hb3⟩
    clear x0 x1 x2 x3 x4 x5
    have HB8_ := Lib.hid (below_from HB7_.out hb3)
    have Ex8_ := Lib.hid ((hb3.block _ (lt_of_block Ex7_.out)).trans Ex7_.out)
    have Ep8_ := Lib.hid ((hb3.block _ (lt_of_block Ep7_.out)).trans Ep7_.out)
    have Eq8_ := Lib.hid ((hb3.block _ (lt_of_block Eq6_.out)).trans Eq6_.out)
    have Ra8_ := Lib.hid (Ra7_.out.below hb3)
    have Rb8_ := Lib.hid (Rb7_.out.below hb3)
    have CS : Hid (Calls Tryz.prog 7 #[vaV h1 A1 k1.length c1, .agg #[.int .u8 0, .int .u8 0, .slice none 0 0]] w3 fun e w' => e = .returned (.bool true) ∧ Below w3.heap.size w3 w') := by
      have := refSameV_upto 1000000000 (fun _ => True) h1 vaH0 k1 [] A1 none c1 0 w3 (by omega) (Nat.le_refl _) (by simp [T.sizes]) (Ra8_.out.weak fun _ _ => trivial) (by simp [InRow])
      rw [hv0, sameV_refl] at this
      exact this
    obtain ⟨p0, p1, p2⟩ := va_at_box Ep8_.out
    go_wp2_with fail
    refine (CS.out).mono ?_
    rintro e w5 ⟨rfl, hb5⟩
    clear p0 p1 p2
    have HB9_ := Lib.hid (below_from HB8_.out hb5)
    have Ex9_ := Lib.hid ((hb5.block _ (lt_of_block Ex8_.out)).trans Ex8_.out)
    have Ep9_ := Lib.hid ((hb5.block _ (lt_of_block Ep8_.out)).trans Ep8_.out)
    have Eq9_ := Lib.hid ((hb5.block _ (lt_of_block Eq8_.out)).trans Eq8_.out)
    have Ra9_ := Lib.hid (Ra8_.out.below hb5)
    have Rb9_ := Lib.hid (Rb8_.out.below hb5)
    obtain ⟨x0, x1, x2, x3, x4, x5⟩ := re_at_box Ex9_.out
    go_wp2_with fail
    refine (CF.out _ HB9_.out).mono ?_
    rintro e w6 ⟨b6, rfl, hbi, hb6⟩
    obtain rfl : b6 = false := by
      cases b6 with
      | false => rfl
      | true => exact (HNO.out (hbi.1 rfl)).elim
    clear x0 x1 x2 x3 x4 x5
    have HB10_ := Lib.hid (below_from HB9_.out hb6)
    have Ex10_ := Lib.hid ((hb6.block _ (lt_of_block Ex9_.out)).trans Ex9_.out)
    have Ep10_ := Lib.hid ((hb6.block _ (lt_of_block Ep9_.out)).trans Ep9_.out)
    have Eq10_ := Lib.hid ((hb6.block _ (lt_of_block Eq9_.out)).trans Eq9_.out)
    have Ra10_ := Lib.hid (Ra9_.out.below hb6)
    have Rb10_ := Lib.hid (Rb9_.out.below hb6)
    go_wp2_with fail
    refine (CA.out _ HB10_.out).mono ?_
    rintro e w9 ⟨rfl, hb9⟩
    have hb := below_from HW.out (below_from HB10_.out hb9)
    clear hb9
    go_wp2_with fail
    go_ret
    exact ⟨rfl, hb⟩
  · clear HRL
    have hs1 : T.sizes k1 ≤ 1000 := by have := congrArg T.size hv0; simp only [T.size, T.sizes] at this; omega
    have CS : Hid (Calls Tryz.prog 7 #[vaV h1 A1 k1.length c1, .agg #[.int .u8 0, .int .u8 0, .slice none 0 0]] X3_ fun e w' => e = .returned (.bool true) ∧ Below X3_.heap.size X3_ w') := by
      have := refSameV_upto 1000000000 (fun _ => True) h1 vaH0 k1 [] A1 none c1 0 X3_ (by omega) (Nat.le_refl _) (by simp [T.sizes]) (Ra4_.out.weak fun _ _ => trivial) (by simp [InRow])
      rw [hv0, sameV_refl] at this
      exact this
    obtain ⟨p0, p1, p2⟩ := va_at_box Ep3_.out
    go_wp2_with fail
    refine (CS.out).mono ?_
    rintro e w5 ⟨rfl, hb5⟩
    clear p0 p1 p2
    have HB5_ := Lib.hid (below_from HB4_.out hb5)
    have Ex5_ := Lib.hid ((hb5.block _ (lt_of_block Ex4_.out)).trans Ex4_.out)
    have Ep5_ := Lib.hid ((hb5.block _ (lt_of_block Ep3_.out)).trans Ep3_.out)
    have Ra5_ := Lib.hid (Ra4_.out.below hb5)
    go_wp2_with fail
    refine (CA.out _ HB5_.out).mono ?_
    rintro e w9 ⟨rfl, hb9⟩
    have hb := below_from HW.out (below_from HB5_.out hb9)
    clear hb9
    go_wp2_with fail
    go_ret
    exact ⟨rfl, hb⟩
  · have HMY := Lib.hid hmy
    obtain ⟨x0, x1, x2, x3, x4, x5⟩ := re_at_box Ex4_.out
    go_wp2_with fail
    refine (CR.out _ HB4_.out).mono ?_
    rintro e w2 ⟨h2, k2, A2, c2, b2, rfl, hrr, hc2, hr2, hb2⟩
    clear x0 x1 x2 x3 x4 x5
    have HB5_ := Lib.hid (below_from HB4_.out hb2)
    have Ex5_ := Lib.hid ((hb2.block _ (lt_of_block Ex4_.out)).trans Ex4_.out)
    have Ep5_ := Lib.hid ((hb2.block _ (lt_of_block Ep3_.out)).trans Ep3_.out)
    have Ra5_ := Lib.hid (Ra4_.out.below hb2)
    have hno : ¬ (mayB (.mk h ks) = true ∧ LT (.mk h ks) S.data.toList) := fun hh => hnl hh.2
    have HNO := Lib.hid hno
    have hbt : b2 = false ∧ T.mk h2 k2 = T.mk vaH0 [] := by
      rcases hrr with ⟨hb, hm2, hrv2⟩ | ⟨hb, hv2, _⟩
      · exact (hno ⟨hm2, RV_LT hrv2⟩).elim
      · exact ⟨hb, hv2⟩
    obtain ⟨rfl, hee⟩ := hbt
    have hs1 : T.sizes k1 ≤ 1000 := by have := congrArg T.size hv0; simp only [T.size, T.sizes] at this; omega
    clear hno
    have HR2 := Lib.hid hr2
    have HC2 := Lib.hid hc2
    clear hr2 hrr hb2 hc2
    obtain ⟨X6_, hX6_⟩ : ∃ X, w2.alloc (.cells (vaA h2 A2 k2.length c2) 32) = X := ⟨_, rfl⟩
    have hbX6_ : Below w2.heap.size w2 X6_ := by rw [← hX6_]; exact below_new (Below.refl _ _) _
    have Eq6_ : Hid (X6_.heap[w2.heap.size]? = some (.cells (vaA h2 A2 k2.length c2) 32 (0, 0))) := by unfold Hid; rw [← hX6_]; exact new_at1 _
    have HX6_ := Lib.hid hX6_
    have HB7_ := Lib.hid (below_from HB5_.out hbX6_)
    have Ex7_ := Lib.hid ((hbX6_.block _ (lt_of_block Ex5_.out)).trans Ex5_.out)
    have Ep7_ := Lib.hid ((hbX6_.block _ (lt_of_block Ep5_.out)).trans Ep5_.out)
    have Ra7_ := Lib.hid (Ra5_.out.below hbX6_)
    have Rb7_ := Lib.hid (HR2.out.below hbX6_)
    clear hX6_ hbX6_
    go_upto_region 7 with fail
    rw [show w2.alloc _ = X6_ from HX6_.out]
    have hmc : mayB (.mk h ks) = true := HMY.out
    have CMM := Lib.hid (CM.out _ HB7_.out)
    rw [hmc] at CMM
    clear hmc
    obtain ⟨x0, x1, x2, x3, x4, x5⟩ := re_at_box Ex7_.out
    go_wp2_with fail
    refine (CMM.out).mono ?_
    rintro e w3 ⟨rfl, hb3⟩
    clear x0 x1 x2 x3 x4 x5
    have HB8_ := Lib.hid (below_from HB7_.out hb3)
    have Ex8_ := Lib.hid ((hb3.block _ (lt_of_block Ex7_.out)).trans Ex7_.out)
    have Ep8_ := Lib.hid ((hb3.block _ (lt_of_block Ep7_.out)).trans Ep7_.out)
    have Eq8_ := Lib.hid ((hb3.block _ (lt_of_block Eq6_.out)).trans Eq6_.out)
    have Ra8_ := Lib.hid (Ra7_.out.below hb3)
    have Rb8_ := Lib.hid (Rb7_.out.below hb3)
    have CS : Hid (Calls Tryz.prog 7 #[vaV h1 A1 k1.length c1, .agg #[.int .u8 0, .int .u8 0, .slice none 0 0]] w3 fun e w' => e = .returned (.bool true) ∧ Below w3.heap.size w3 w') := by
      have := refSameV_upto 1000000000 (fun _ => True) h1 vaH0 k1 [] A1 none c1 0 w3 (by omega) (Nat.le_refl _) (by simp [T.sizes]) (Ra8_.out.weak fun _ _ => trivial) (by simp [InRow])
      rw [hv0, sameV_refl] at this
      exact this
    obtain ⟨p0, p1, p2⟩ := va_at_box Ep8_.out
    go_wp2_with fail
    refine (CS.out).mono ?_
    rintro e w5 ⟨rfl, hb5⟩
    clear p0 p1 p2
    have HB9_ := Lib.hid (below_from HB8_.out hb5)
    have Ex9_ := Lib.hid ((hb5.block _ (lt_of_block Ex8_.out)).trans Ex8_.out)
    have Ep9_ := Lib.hid ((hb5.block _ (lt_of_block Ep8_.out)).trans Ep8_.out)
    have Eq9_ := Lib.hid ((hb5.block _ (lt_of_block Eq8_.out)).trans Eq8_.out)
    have Ra9_ := Lib.hid (Ra8_.out.below hb5)
    have Rb9_ := Lib.hid (Rb8_.out.below hb5)
    obtain ⟨x0, x1, x2, x3, x4, x5⟩ := re_at_box Ex9_.out
    go_wp2_with fail
    refine (CF.out _ HB9_.out).mono ?_
    rintro e w6 ⟨b6, rfl, hbi, hb6⟩
    obtain rfl : b6 = false := by
      cases b6 with
      | false => rfl
      | true => exact (HNO.out (hbi.1 rfl)).elim
    clear x0 x1 x2 x3 x4 x5
    have HB10_ := Lib.hid (below_from HB9_.out hb6)
    have Ex10_ := Lib.hid ((hb6.block _ (lt_of_block Ex9_.out)).trans Ex9_.out)
    have Ep10_ := Lib.hid ((hb6.block _ (lt_of_block Ep9_.out)).trans Ep9_.out)
    have Eq10_ := Lib.hid ((hb6.block _ (lt_of_block Eq9_.out)).trans Eq9_.out)
    have Ra10_ := Lib.hid (Ra9_.out.below hb6)
    have Rb10_ := Lib.hid (Rb9_.out.below hb6)
    go_wp2_with fail
    refine (CA.out _ HB10_.out).mono ?_
    rintro e w9 ⟨rfl, hb9⟩
    have hb := below_from HW.out (below_from HB10_.out hb9)
    clear hb9
    go_wp2_with fail
    go_ret
    exact ⟨rfl, hb⟩
namespace lawPosixLex
open Go.ChangeShapes Go.WideShapes Go.ChangeAt
open Go.ChangeMaps (open_string)
set_option maxRecDepth 100000 in
theorem contract (H : Type) (enc : TypeId × Value → H) (W : World) (base : Nat) (args : Array Value) (ds gs : List (DataW H)) (before : List MemPlace)
    (hval : ∀ (j : Nat) t v, Tryz.f3.params[j]? = some t → args[j]? = some v → Value.okWide Tryz.prog W .any base t v)
    (hW : DataW.Whole enc Tryz.prog Tryz.f3.params.toList Rows.posixLexSpec.vars false W args.toList ds gs before) (hL : laidMetH Tryz.prog Rows.posixLexUptoRow.laid W) (hk : Rows.uptoSmall H (ds ++ gs) = true) :
    Calls Tryz.prog 3 args W fun e W' => ∃ v, e = .returned v ∧ Rows.posixLexSpec.post enc Tryz.prog Tryz.f3 false true false false W args v W' := by
  have hW' := hW
  obtain ⟨p, q, hA0, hV, rfl, hfz, hnd⟩ := hW
  have hA : DataW.TrodAll enc Tryz.prog W 0 (fun _ => true) true Tryz.f3.params.toList args.toList ds p := hA0
  rw [Tryz.params3] at hA hval
  obtain ⟨v0, vs0, d0, ds0, p0, q0, hargs, rfl, rfl, h0, r0⟩ := trodAll_cons hA
  obtain ⟨v1, vs1, d1, ds1, p1, q1, rfl, rfl, rfl, h1, r1⟩ := trodAll_cons r0
  obtain ⟨rfl, rfl, rfl⟩ := trodAll_nil r1
  obtain rfl : args = #[v0, v1] := by cases args; simp_all
  obtain ⟨rfl, rfl⟩ := trodVars_none hV
  have hkk : Rows.uptoBulk d0 + Rows.uptoBulk d1 ≤ 1048576 := by simp [Rows.uptoSmall, Rows.uptoBulkAll] at hk; omega
  obtain ⟨x, kx, A0, c0, rfl, hc0, hr0, hz0⟩ := open_re (hval 0 27 v0 rfl rfl) h0
  obtain ⟨s, rfl, rfl, rfl, hs1⟩ := open_string Tryz.underlying9 (hval 1 9 v1 rfl rfl) h1
  have HT : TzOk W := tz_of_laid hL
  refine (posixLex_walk x kx A0 c0 s W (by omega) hc0 hr0 HT).mono fun e W' ⟨he, hb⟩ => ?_
  subst he
  exact ⟨_, rfl, post_true Tryz.laidOut (by rw [Tryz.params3]; intro t ht; simp at ht; rcases ht with rfl | rfl <;> exact ⟨by kernel_rfl, of_decide_eq_true (by kernel_rfl)⟩) hW' rfl rfl rfl Tryz.underlying4 hb⟩
theorem laid_met (os : Os) : laidMet Tryz.prog Rows.posixLexUptoRow.laid ((utfWorld os).forCall (fun _ _ => 0) ⟨#[], #[.agg #[.int .u8 0, .int .u64 0, .int .u64 0, .int .u64 0, .int .u64 0, .slice none 0 0], .string ByteArray.empty], []⟩).memory :=
  laidMet_of_run' 600 (by kernel_rfl) (by kernel_rfl)
theorem reads (os : Os) {H : Type} (enc : TypeId × Value → H) : ∃ places, DataW.whole enc Tryz.prog ((utfWorld os).forCall (fun _ _ => 0) ⟨#[], #[.agg #[.int .u8 0, .int .u64 0, .int .u64 0, .int .u64 0, .int .u64 0, .slice none 0 0], .string ByteArray.empty], []⟩).memory Tryz.f3.params.toList Rows.posixLexSpec.vars false (#[.agg #[.int .u8 0, .int .u64 0, .int .u64 0, .int .u64 0, .int .u64 0, .slice none 0 0], .string ByteArray.empty] : Array Value).toList 8 = some ([.agg [.lit (.int .u8 0), .agg [.lit (.int .u64 0), .lit (.int .u64 0), .lit (.int .u64 0), .lit (.int .u64 0)], .nil], .lit (.string [])], [], places) :=
  ⟨[], by kernel_rfl⟩
set_option maxRecDepth 100000 in
theorem lifted (os : Os) (started : os.Started) (H : Type) (enc : TypeId × Value → H) (F : Stop.Interp) :
    ReturnsInHanded {} Tryz.checked os 3 .any ((Rows.OpenSpec.upto Rows.posixLexSpec).preRow enc Tryz.prog Tryz.f3 Rows.posixLexUptoRow.domain false Rows.posixLexUptoRow.laid) (((Rows.OpenSpec.upto Rows.posixLexSpec).at F).post enc Tryz.prog Tryz.f3 false true false false) := by
  obtain ⟨places, hx⟩ := reads os enc
  refine returnsInHanded_of_row (C := Tryz.checked) (s := Rows.OpenSpec.upto Rows.posixLexSpec) Tryz.own started (by kernel_rfl) Tryz.func3
    (witness_row_at (enc := enc) (C := Tryz.checked) false (utfWorld os) #[.agg #[.int .u8 0, .int .u64 0, .int .u64 0, .int .u64 0, .int .u64 0, .slice none 0 0], .string ByteArray.empty] rfl (by kernel_rfl) (by kernel_rfl) (by kernel_rfl)
      (OpenSpec.preRow_of_cond 8 hx (by kernel_rfl) (fun k hk => by cases hk; kernel_rfl) (by kernel_rfl) (laid_met os))) ?_
  intro W base args ds gs before hval hW _ hcond _ hL _ _
  exact contract H enc W base args ds gs before hval hW hL (hcond _ rfl)
theorem said : Rows.PosixLexUptoSaid :=
  OpenClaim.holds_of_cond 3 Tryz.f3 rfl rfl rfl rfl rfl rfl rfl ⟨rfl, rfl, rfl, rfl, rfl⟩ rfl rfl rfl rfl rfl (by kernel_rfl) Tryz.func3 (by kernel_rfl)
    (of_decide_eq_true (by kernel_rfl)) (by unfold Func.isWrapper; first | (rw [if_pos (by decide +kernel)]; kernel_rfl) | (rw [if_neg (by decide +kernel)]; exact ⟨rfl, rfl⟩))
    (fun os started H enc _ F => by rw [OpenClaim.pre_eq_preRow]; exact lifted os started H enc F)
theorem plain (f : FuncId) (fn : Func) (hf : Tryz.pinned.checked.prog.funcNamed "quill/quilllaw17.PosixLex" = some f) (hfn : Tryz.pinned.checked.prog.funcs[f]? = some fn) :
    true = Tryz.pinned.checked.prog.looks [] ∧ ∀ (j : Nat) t, fn.params[j]? = some t → Tryz.pinned.checked.prog.wantsStandIn t = false := by
  obtain rfl : f = 3 := Option.some.inj ((show Tryz.prog.funcNamed "quill/quilllaw17.PosixLex" = some 3 by kernel_rfl).symm.trans hf) |>.symm
  obtain rfl : fn = Tryz.f3 := (Option.some.inj (Tryz.func3.symm.trans hfn)).symm
  refine ⟨by kernel_rfl, fun j t ht => ?_⟩
  rw [Tryz.params3] at ht
  have hm := Array.mem_of_getElem? ht
  simp at hm
  rcases hm with rfl | rfl
  · exact (show Tryz.prog.wantsStandIn 27 = false by kernel_rfl)
  · exact (show Tryz.prog.wantsStandIn 9 = false by kernel_rfl)
theorem proved : Rows.PosixLexUptoCardSaid :=
  Claim7.holds_tied_plain_at .later [] _ _ _ _ said (fun _ h => by cases h) (by kernel_rfl) (fun _ h => by cases h) posixLexUpto_row_tie rfl ⟨rfl, rfl⟩ (by kernel_rfl) rfl plain (by kernel_rfl)
end lawPosixLex
end Go.Proofs.YtgdigbbfgpenpaaGreatDoor
