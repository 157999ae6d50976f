/- What is decoded of a value's bits has these bits, and is a value of the expression, too; where each class has one byte it is that value. For every input that is not too large. -/
import Derived.Test.YteokbmngebckjaaDoorAwake15
import Derived.Test.YteokbmngebckjaaDoorVj4
import Derived.Test.YteokbmngebckjaaDoorSg
import Derived.Test.YteokbmngebckjaaDoorBy
import Derived.Test.YteokbmngebckjaaDoorBv
import Derived.Test.YteokbmngebckjaaDoorBw
import Derived.Test.YteokbmngebckjaaDoorBg
import Derived.Test.YteokbmngebckjaaDoorBe
namespace Go.Proofs.YteokbmngebckjaaDoor
open Go.RowKit
set_option linter.unusedVariables false
set_option linter.unusedSimpArgs false

def aloneP (t : Re) : Bool := decide (t.head.k ≠ 3) || singleB t.head.s
theorem alone_of {r : Re} (h : r.all.all aloneP = true) : AloneT r := by
  intro t ht hk
  have := List.all_eq_true.1 h t ht
  unfold aloneP at this
  rw [Bool.or_eq_true] at this
  rcases this with e | e
  · exact absurd hk (of_decide_eq_true e)
  · exact single_only e
theorem alone_snoc {l : List Re} {k : Nat} {t : Re} (h : l[k]? = some t) : (l.take (k + 1)).all aloneP = ((l.take k).all aloneP && aloneP t) := by
  rw [List.take_add_one, h, List.all_append]
  simp
set_option maxRecDepth 100000 in
set_option maxHeartbeats 4000000 in
theorem bitsBack_walk (h : RH) (ks : List Re) (A : Option Addr) (c : Nat) (h2 : VH) (ls : List Va) (A2 : Option Addr) (c2 : Nat) (w : World) (hm : T.sizes ks ≤ 1048576) (hc : ks.length ≤ c) (hr : InRow RE (fun _ => True) w ks A 0) (hm2 : T.sizes ls ≤ 1048576) (hc2 : ls.length ≤ c2) (hr2 : InRow VE (fun _ => True) w ls A2 0) (htz : TzOk w) :
    Calls Tryd.prog 4 #[reV h A ks.length c, vaV h2 A2 ls.length c2] w fun e w' => e = .returned (.bool true) ∧ Below w.heap.size w w' := by
  obtain ⟨W, hW, hbW, _, e1, e2⟩ := rv_pre w h A ks.length c h2 A2 ls.length c2
  have CG1 : Hid (∀ X, Below W.heap.size W X → Calls Tryd.prog 6 #[reV h A ks.length c, .int .i64 60] X fun e w' => e = .returned (.bool (greatB 60 (.mk h ks))) ∧ Below X.heap.size X w') := fun X hX => Great_any h ks A c 60 X (by omega) hc (hr.below (below_from hbW hX))
  have CG2 : Hid (∀ X, Below W.heap.size W X → Calls Tryd.prog 12 #[vaV h2 A2 ls.length c2, .int .i64 60] X fun e w' => e = .returned (.bool (greatB 60 (.mk h2 ls))) ∧ Below X.heap.size X w') := fun X hX => vGreat_any h2 ls A2 c2 60 X (by omega) hc2 (hr2.below (below_from hbW hX))
  have CI : Hid (∀ X, Below W.heap.size W X → Calls Tryd.prog 13 #[reV h A ks.length c, vaV h2 A2 ls.length c2] X fun e w' => e = .returned (.bool (mayB (.mk h ks) && isB (.mk h2 ls) (.mk h ks))) ∧ Below X.heap.size X w') := fun X hX => rIs_any (fun _ => True) (fun _ => True) h ks A c h2 ls A2 c2 X (by omega) (by omega) hc hc2 (hr.below (below_from hbW hX)) (hr2.below (below_from hbW hX))
  have CA : Hid (∀ X, Below W.heap.size W X → Calls Tryd.prog 7 #[] X fun e w' => e = .returned (.bool true) ∧ Below X.heap.size X w') := fun X hX => awake15_any X
  have CC : Hid (∀ X, Below W.heap.size W X → Calls Tryd.prog 14 #[vaV h2 A2 ls.length c2] X fun e w' => e = .returned (.string (str (codeV (.mk h2 ls)))) ∧ Below X.heap.size X w') := fun X hX => code_any h2 ls A2 c2 X (by omega) hc2 (hr2.below (below_from hbW hX))
  have HR := Lib.hid hr
  have HR2 := Lib.hid hr2
  have HTZ := Lib.hid htz
  have HW := Lib.hid hbW
  have HE := Lib.hid hW
  have E1 := Lib.hid e1
  have E2 := Lib.hid e2
  clear hW hr hr2 hbW e1 e2 htz
  have HB0 : Hid (Below W.heap.size W W) := Below.refl _ _
  rcases hg : greatB 60 (.mk h ks) with _ | _
  case true =>
    rw [hg] at CG1
    clear hg
    go_enter Tryd.func4, Tryd.ntmps4
    go_wp2_with fail
    rw [HE.out]
    refine (CG1.out _ HB0.out).mono ?_
    rintro e w0 ⟨rfl, hb0⟩
    have HB1_ := Lib.hid (below_from HB0.out hb0)
    have Ex1_ := Lib.hid ((hb0.block _ (lt_of_block E1.out)).trans E1.out)
    have Ey1_ := Lib.hid ((hb0.block _ (lt_of_block E2.out)).trans E2.out)
    go_wp2_with fail
    refine (CA.out _ HB1_.out).mono ?_
    rintro e w9 ⟨rfl, hb9⟩
    have hb := below_from HW.out (below_from HB1_.out hb9)
    clear hb9
    go_wp2_with fail
    go_ret
    exact ⟨rfl, hb⟩
  have hsz : 1 + T.sizes ks ≤ 60 := by
    have := of_decide_eq_false hg
    simp only [T.size] at this
    omega
  rw [hg] at CG1
  rcases hg2 : greatB 60 (.mk h2 ls) with _ | _
  case true =>
    rw [hg2] at CG2
    clear hg hg2
    go_enter Tryd.func4, Tryd.ntmps4
    go_wp2_with fail
    rw [HE.out]
    refine (CG1.out _ HB0.out).mono ?_
    rintro e w0 ⟨rfl, hb0⟩
    have HB1_ := Lib.hid (below_from HB0.out hb0)
    have Ex1_ := Lib.hid ((hb0.block _ (lt_of_block E1.out)).trans E1.out)
    have Ey1_ := Lib.hid ((hb0.block _ (lt_of_block E2.out)).trans E2.out)
    obtain ⟨y0, y1, y2⟩ := va_at_box Ey1_.out
    go_wp2_with fail
    refine (CG2.out _ HB1_.out).mono ?_
    rintro e w1 ⟨rfl, hb1⟩
    clear y0 y1 y2
    have HB2_ := Lib.hid (below_from HB1_.out hb1)
    have Ex2_ := Lib.hid ((hb1.block _ (lt_of_block Ex1_.out)).trans Ex1_.out)
    have Ey2_ := Lib.hid ((hb1.block _ (lt_of_block Ey1_.out)).trans Ey1_.out)
    go_wp2_with fail
    refine (CA.out _ HB2_.out).mono ?_
    rintro e w9 ⟨rfl, hb9⟩
    have hb := below_from HW.out (below_from HB2_.out hb9)
    clear hb9
    go_wp2_with fail
    go_ret
    exact ⟨rfl, hb⟩
  have hsz2 : 1 + T.sizes ls ≤ 60 := by
    have := of_decide_eq_false hg2
    simp only [T.size] at this
    omega
  rw [hg2] at CG2
  clear hg hg2
  rcases hi : (mayB (.mk h ks) && isB (.mk h2 ls) (.mk h ks)) with _ | _
  case false =>
    rw [hi] at CI
    clear hi
    go_enter Tryd.func4, Tryd.ntmps4
    go_wp2_with fail
    rw [HE.out]
    refine (CG1.out _ HB0.out).mono ?_
    rintro e w0 ⟨rfl, hb0⟩
    have HB1_ := Lib.hid (below_from HB0.out hb0)
    have Ex1_ := Lib.hid ((hb0.block _ (lt_of_block E1.out)).trans E1.out)
    have Ey1_ := Lib.hid ((hb0.block _ (lt_of_block E2.out)).trans E2.out)
    obtain ⟨y0, y1, y2⟩ := va_at_box Ey1_.out
    go_wp2_with fail
    refine (CG2.out _ HB1_.out).mono ?_
    rintro e w1 ⟨rfl, hb1⟩
    clear y0 y1 y2
    have HB2_ := Lib.hid (below_from HB1_.out hb1)
    have Ex2_ := Lib.hid ((hb1.block _ (lt_of_block Ex1_.out)).trans Ex1_.out)
    have Ey2_ := Lib.hid ((hb1.block _ (lt_of_block Ey1_.out)).trans Ey1_.out)
    obtain ⟨x0, x1, x2, x3, x4, x5⟩ := re_at_box Ex2_.out
    obtain ⟨y0, y1, y2⟩ := va_at_box Ey2_.out
    go_wp2_with fail
    refine (CI.out _ HB2_.out).mono ?_
    rintro e w2 ⟨rfl, hb2⟩
    clear x0 x1 x2 x3 x4 x5 y0 y1 y2
    have HB3_ := Lib.hid (below_from HB2_.out hb2)
    have Ex3_ := Lib.hid ((hb2.block _ (lt_of_block Ex2_.out)).trans Ex2_.out)
    have Ey3_ := Lib.hid ((hb2.block _ (lt_of_block Ey2_.out)).trans Ey2_.out)
    go_wp2_with fail
    refine (CA.out _ HB3_.out).mono ?_
    rintro e w9 ⟨rfl, hb9⟩
    have hb := below_from HW.out (below_from HB3_.out hb9)
    clear hb9
    go_wp2_with fail
    go_ret
    exact ⟨rfl, hb⟩
  rw [hi] at CI
  rw [Bool.and_eq_true] at hi
  obtain ⟨hmy, hib⟩ := hi
  have hv := (isB_iff _ (.mk h2 ls) (.mk h ks) (Nat.le_refl _) (may_okT hmy)).1 hib
  obtain ⟨v0, ht0, hcd, hv0, hal⟩ := IsV_take hv (may_okT hmy)
  have hvs := IsV_takes hv (may_okT hmy) v0 [] (ht0 [])
  simp only [T.size] at hvs
  have HV0C := Lib.hid hcd
  have hcs := code_size (T.mk h2 ls)
  simp only [T.size] at hcs
  obtain ⟨cv, hcv⟩ : ∃ cv, codeV (.mk h2 ls) = cv := ⟨_, rfl⟩
  rw [hcv] at CC HV0C hcs ht0
  have HTK : Hid (takeT (.mk h ks) (str cv).data.toList = some (v0, [])) := by unfold Hid; simpa using ht0 []
  have HSZ : Hid ((str cv).size ≤ 1000000000) := by unfold Hid; rw [str_size]; omega
  have CD : Hid (∀ X, Below W.heap.size W X → Calls Tryd.prog 10 #[reV h A ks.length c, .string (str cv)] X (DecPost v0 true X)) := fun X hX => by
    have hh := dec_some h ks A c _ X v0 _ (by omega) hmy hc (HR.out.below (below_from HW.out hX)) HSZ.out (HTZ.out.below (below_from HW.out hX)) HTK.out
    rwa [if_pos rfl, show decide (([] : List UInt8) = []) = true from rfl] at hh
  have CAL : Hid (∀ X, Below W.heap.size W X → Calls Tryd.prog 15 #[reV h A ks.length c] X (AllPost (fun b => True ∧ b < w.heap.size) (.mk h ks) X)) := fun X hX => All_upto 1000000000 _ h ks A c X (by omega) (Nat.le_refl _) hc (HR.out.there.below (below_from HW.out hX)) (fun b hb => by have h1 := hb.2; have h2 := (below_from HW.out hX).size; omega)
  have HIB : Hid (isB v0 (.mk h ks) = true) := (isB_iff _ v0 (.mk h ks) (Nat.le_refl _) (may_okT hmy)).2 hv0
  have HAL := Lib.hid hal
  have HMY := Lib.hid hmy
  have HVS := Lib.hid hvs
  clear hib hv ht0 hcd hv0 hal hcv hvs hmy
  go_enter Tryd.func4, Tryd.ntmps4
  go_wp2_with fail
  rw [HE.out]
  refine (CG1.out _ HB0.out).mono ?_
  rintro e w0 ⟨rfl, hb0⟩
  have HB1_ := Lib.hid (below_from HB0.out hb0)
  have Ex1_ := Lib.hid ((hb0.block _ (lt_of_block E1.out)).trans E1.out)
  have Ey1_ := Lib.hid ((hb0.block _ (lt_of_block E2.out)).trans E2.out)
  obtain ⟨y0, y1, y2⟩ := va_at_box Ey1_.out
  go_wp2_with fail
  refine (CG2.out _ HB1_.out).mono ?_
  rintro e w1 ⟨rfl, hb1⟩
  clear y0 y1 y2
  have HB2_ := Lib.hid (below_from HB1_.out hb1)
  have Ex2_ := Lib.hid ((hb1.block _ (lt_of_block Ex1_.out)).trans Ex1_.out)
  have Ey2_ := Lib.hid ((hb1.block _ (lt_of_block Ey1_.out)).trans Ey1_.out)
  obtain ⟨x0, x1, x2, x3, x4, x5⟩ := re_at_box Ex2_.out
  obtain ⟨y0, y1, y2⟩ := va_at_box Ey2_.out
  go_wp2_with fail
  refine (CI.out _ HB2_.out).mono ?_
  rintro e w2 ⟨rfl, hb2⟩
  clear x0 x1 x2 x3 x4 x5 y0 y1 y2
  have HB3_ := Lib.hid (below_from HB2_.out hb2)
  have Ex3_ := Lib.hid ((hb2.block _ (lt_of_block Ex2_.out)).trans Ex2_.out)
  have Ey3_ := Lib.hid ((hb2.block _ (lt_of_block Ey2_.out)).trans Ey2_.out)
  obtain ⟨y0, y1, y2⟩ := va_at_box Ey3_.out
  go_wp2_with fail
  refine (CC.out _ HB3_.out).mono ?_
  rintro e w3 ⟨rfl, hb3⟩
  clear y0 y1 y2
  have HB4_ := Lib.hid (below_from HB3_.out hb3)
  have Ex4_ := Lib.hid ((hb3.block _ (lt_of_block Ex3_.out)).trans Ex3_.out)
  have Ey4_ := Lib.hid ((hb3.block _ (lt_of_block Ey3_.out)).trans Ey3_.out)
  obtain ⟨x0, x1, x2, x3, x4, x5⟩ := re_at_box Ex4_.out
  go_wp2_with fail
  refine (CD.out _ HB4_.out).mono ?_
  rintro e w4 ⟨h3, k3, A3, c3, rfl, e3, hc3, hr3, hb4⟩
  clear x0 x1 x2 x3 x4 x5
  have HB5_ := Lib.hid (below_from HB4_.out hb4)
  have Ex5_ := Lib.hid ((hb4.block _ (lt_of_block Ex4_.out)).trans Ex4_.out)
  have Ey5_ := Lib.hid ((hb4.block _ (lt_of_block Ey4_.out)).trans Ey4_.out)
  have HC3 := Lib.hid hc3
  have HR3 := Lib.hid (hr3.weak (ok' := fun _ => True) fun _ _ => trivial)
  have E3 := Lib.hid e3
  have hs3 : T.sizes k3 ≤ 1000 := by have hh1 := HVS.out; have hh2 := congrArg T.size e3; simp only [T.size] at hh2; omega
  clear hc3 hr3 e3 hb4
  obtain ⟨X6_, hX6_⟩ : ∃ X, w4.alloc (.cells (vaA h3 A3 k3.length c3) 32) = X := ⟨_, rfl⟩
  have hbX6_ : Below w4.heap.size w4 X6_ := by rw [← hX6_]; exact below_new (Below.refl _ _) _
  have Ep6_ : Hid (X6_.heap[w4.heap.size]? = some (.cells (vaA h3 A3 k3.length c3) 32 (0, 0))) := by unfold Hid; rw [← hX6_]; exact new_at1 _
  have HX6_ := Lib.hid hX6_
  have HB7_ := Lib.hid (below_from HB5_.out hbX6_)
  have Ex7_ := Lib.hid ((hbX6_.block _ (lt_of_block Ex5_.out)).trans Ex5_.out)
  have Ey7_ := Lib.hid ((hbX6_.block _ (lt_of_block Ey5_.out)).trans Ey5_.out)
  have Rp7_ := Lib.hid (HR3.out.below hbX6_)
  clear hX6_ hbX6_
  go_upto_region 5 with fail
  rw [show w4.alloc _ = X6_ from HX6_.out]
  obtain ⟨x0, x1, x2, x3, x4, x5⟩ := re_at_box Ex7_.out
  go_wp2_with fail
  refine (CAL.out _ HB7_.out).mono ?_
  rintro e w5 ⟨vl, rfl, hol, hb5⟩
  clear x0 x1 x2 x3 x4 x5
  have HB8_ := Lib.hid (below_from HB7_.out hb5)
  have Ex8_ := Lib.hid ((hb5.block _ (lt_of_block Ex7_.out)).trans Ex7_.out)
  have Ey8_ := Lib.hid ((hb5.block _ (lt_of_block Ey7_.out)).trans Ey7_.out)
  have Ep8_ := Lib.hid ((hb5.block _ (lt_of_block Ep6_.out)).trans Ep6_.out)
  have Rp8_ := Lib.hid (Rp7_.out.below hb5)
  obtain ⟨Al, cl, rfl, hcl, hrl⟩ := hol.row
  have HRL := Lib.hid hrl
  clear hol hrl hcl hb5
  obtain ⟨al, hal2⟩ : ∃ al, (T.mk h ks).all = al := ⟨_, rfl⟩
  rw [hal2] at HRL ⊢
  have HA2 := Lib.hid hal2
  have hall : al.length ≤ 1000 := by rw [← hal2, T.all_length]; simp only [T.size]; omega
  clear hal2
  obtain ⟨X0, hX0⟩ : ∃ X0, X0 = w5 := ⟨_, rfl⟩
  have EXx : Hid (X0.heap[w.heap.size]? = some (.cells (reA h A ks.length c) 27 (0, 0))) := by unfold Hid; rw [hX0]; exact Ex8_.out
  have EXy : Hid (X0.heap[w.heap.size + 1]? = some (.cells (vaA h2 A2 ls.length c2) 32 (0, 0))) := by unfold Hid; rw [hX0]; exact Ey8_.out
  have EXp : Hid (X0.heap[w4.heap.size]? = some (.cells (vaA h3 A3 k3.length c3) 32 (0, 0))) := by unfold Hid; rw [hX0]; exact Ep8_.out
  have RXp : Hid (InRow VE (fun _ => True) X0 k3 A3 0) := by unfold Hid; rw [hX0]; exact Rp8_.out
  have HBX : Hid (Below W.heap.size W X0) := by unfold Hid; rw [hX0]; exact HB8_.out
  rw [← hX0] at HRL
  go_upto_region 8 with fail
  rw [← hX0]
  clear hX0
  go_loopw [8, 10] (fun a i wr => ∃ (k : Nat) (b : Bool), k ≤ al.length ∧ i = .int .i64 k ∧ a = .bool b ∧ Hid (b = (al.take k).all aloneP) ∧ Hid (Below X0.heap.size X0 wr)) (fun _ i _ => al.length - (intOf i).toNat)
  case atStart => exact ⟨0, true, Nat.zero_le _, rfl, rfl, rfl, Lib.hid (Below.refl _ _)⟩
  case round =>
    obtain ⟨k, b, hk, rfl, rfl, HBB, HBR⟩ := hrel
    by_cases hlt : k < al.length
    · obtain ⟨t, ad, h1, l1, A1, c1, hA, hx, rfl, hc1, hr1, q0, q1, q2, q3, q4, q5⟩ := re_at (HRL.out.below HBR.out) hlt
      subst hA
      have HSN := Lib.hid (alone_snoc hx)
      clear hx hr1
      cases b with
      | false =>
        have HB2 : Hid (false = (al.take (k + 1)).all aloneP) := by unfold Hid; rw [HSN.out, ← HBB.out]; rfl
        clear HSN HBB
        go_wp2_with fail
        go_roundw
        case rel => exact ⟨k + 1, false, by omega, by go_num, rfl, HB2, HBR⟩
        case measure => simp [intOf]; omega
      | true =>
        by_cases h3k : h1.k = 3
        · have g3 : ((h1.k.toNat : Int) != 3) = false := by rw [h3k]; rfl
          have HB2 : Hid (singleB h1.s = (al.take (k + 1)).all aloneP) := by unfold Hid; rw [HSN.out, ← HBB.out]; simp [aloneP, T.head, h3k]
          have CSG := Lib.hid (single_any h1.s wr)
          generalize singleB h1.s = sb at *
          clear HSN HBB h3k
          go_wp2_with fail
          refine CSG.out.mono ?_
          rintro e w9 ⟨rfl, hb9⟩
          have HB9 := Lib.hid (below_from HBR.out hb9)
          clear hb9 CSG q0 q1 q2 q3 q4 q5
          go_wp2_with fail
          go_roundw
          case rel => exact ⟨k + 1, sb, by omega, by go_num, rfl, HB2, HB9⟩
          case measure => simp [intOf]; omega
        · have g3 : ((h1.k.toNat : Int) != 3) = true := by have := u8_ne (n := 3) (by decide) h3k; simpa using this
          have HB2 : Hid (true = (al.take (k + 1)).all aloneP) := by unfold Hid; rw [HSN.out, ← HBB.out]; simp [aloneP, T.head, h3k]
          clear HSN HBB h3k
          go_wp2_with fail
          go_roundw
          case rel => exact ⟨k + 1, true, by omega, by go_num, rfl, HB2, HBR⟩
          case measure => simp [intOf]; omega
    · have hkk : k = al.length := by omega
      subst hkk
      have HBA : Hid (b = al.all aloneP) := by have := HBB.out; rwa [List.take_length] at this
      clear hlt hk HBB
      have hbr := HBR.out
      have HB9_ := Lib.hid (below_from HBX.out hbr)
      have Ex9_ := Lib.hid ((hbr.block _ (lt_of_block EXx.out)).trans EXx.out)
      have Ey9_ := Lib.hid ((hbr.block _ (lt_of_block EXy.out)).trans EXy.out)
      have Ep9_ := Lib.hid ((hbr.block _ (lt_of_block EXp.out)).trans EXp.out)
      have Rp9_ := Lib.hid (RXp.out.below hbr)
      clear hbr HBR
      have CP : Hid (∀ X, Below wr.heap.size wr X → Calls Tryd.prog 14 #[vaV h3 A3 k3.length c3] X fun e w' => e = .returned (.string (str cv)) ∧ Below X.heap.size X w') := fun X hX => by
        have := code_any h3 k3 A3 c3 X (by omega) HC3.out (Rp9_.out.below hX)
        rw [← E3.out, HV0C.out] at this
        exact this
      have CI2 : Hid (∀ X, Below wr.heap.size wr X → Calls Tryd.prog 13 #[reV h A ks.length c, vaV h3 A3 k3.length c3] X fun e w' => e = .returned (.bool true) ∧ Below X.heap.size X w') := fun X hX => by
        have := rIs_any (fun _ => True) (fun _ => True) h ks A c h3 k3 A3 c3 X (by omega) (by omega) hc HC3.out (HR.out.below (below_from HW.out (below_from HB9_.out hX))) (Rp9_.out.below hX)
        rw [← E3.out, HMY.out, HIB.out] at this
        exact this
      have HBR0 := Lib.hid (Below.refl wr.heap.size wr)
      have gss : (cv == cv) = true := by simp
      cases b with
      | false =>
        obtain ⟨p0, p1, p2⟩ := va_at_box Ep9_.out
        go_wp2_with fail
        refine (CP.out _ HBR0.out).mono ?_
        rintro e w6 ⟨rfl, hb6⟩
        clear p0 p1 p2
        have HB10_ := Lib.hid (below_from HB9_.out hb6)
        have Ex10_ := Lib.hid ((hb6.block _ (lt_of_block Ex9_.out)).trans Ex9_.out)
        have Ey10_ := Lib.hid ((hb6.block _ (lt_of_block Ey9_.out)).trans Ey9_.out)
        have Ep10_ := Lib.hid ((hb6.block _ (lt_of_block Ep9_.out)).trans Ep9_.out)
        have Rp10_ := Lib.hid (Rp9_.out.below hb6)
        replace HBR0 := Lib.hid (below_from HBR0.out hb6)
        obtain ⟨x0, x1, x2, x3, x4, x5⟩ := re_at_box Ex10_.out
        obtain ⟨p0, p1, p2⟩ := va_at_box Ep10_.out
        go_wp2_with fail
        refine (CI2.out _ HBR0.out).mono ?_
        rintro e w7 ⟨rfl, hb7⟩
        clear x0 x1 x2 x3 x4 x5 p0 p1 p2
        have HB11_ := Lib.hid (below_from HB10_.out hb7)
        have Ex11_ := Lib.hid ((hb7.block _ (lt_of_block Ex10_.out)).trans Ex10_.out)
        have Ey11_ := Lib.hid ((hb7.block _ (lt_of_block Ey10_.out)).trans Ey10_.out)
        have Ep11_ := Lib.hid ((hb7.block _ (lt_of_block Ep10_.out)).trans Ep10_.out)
        have Rp11_ := Lib.hid (Rp10_.out.below hb7)
        replace HBR0 := Lib.hid (below_from HBR0.out hb7)
        go_wp2_with fail
        refine (CA.out _ HB11_.out).mono ?_
        rintro e w9 ⟨rfl, hb9⟩
        have hb := below_from HW.out (below_from HB11_.out hb9)
        clear hb9
        go_wp2_with fail
        go_ret
        exact ⟨rfl, hb⟩
      | true =>
        have CS : Hid (∀ X, Below wr.heap.size wr X → Calls Tryd.prog 11 #[vaV h3 A3 k3.length c3, vaV h2 A2 ls.length c2] X fun e w' => e = .returned (.bool true) ∧ Below X.heap.size X w') := fun X hX => by
          have := refSameV_upto 1000000000 (fun _ => True) h3 h2 k3 ls A3 A2 c3 c2 X (by omega) (Nat.le_refl _) (by omega) (Rp9_.out.below hX) (HR2.out.below (below_from HW.out (below_from HB9_.out hX)))
          rw [← E3.out, HAL.out (alone_of (by rw [HA2.out]; exact HBA.out.symm)), sameV_refl] at this
          exact this
        obtain ⟨p0, p1, p2⟩ := va_at_box Ep9_.out
        go_wp2_with fail
        refine (CP.out _ HBR0.out).mono ?_
        rintro e w6 ⟨rfl, hb6⟩
        clear p0 p1 p2
        have HB10_ := Lib.hid (below_from HB9_.out hb6)
        have Ex10_ := Lib.hid ((hb6.block _ (lt_of_block Ex9_.out)).trans Ex9_.out)
        have Ey10_ := Lib.hid ((hb6.block _ (lt_of_block Ey9_.out)).trans Ey9_.out)
        have Ep10_ := Lib.hid ((hb6.block _ (lt_of_block Ep9_.out)).trans Ep9_.out)
        have Rp10_ := Lib.hid (Rp9_.out.below hb6)
        replace HBR0 := Lib.hid (below_from HBR0.out hb6)
        obtain ⟨x0, x1, x2, x3, x4, x5⟩ := re_at_box Ex10_.out
        obtain ⟨p0, p1, p2⟩ := va_at_box Ep10_.out
        go_wp2_with fail
        refine (CI2.out _ HBR0.out).mono ?_
        rintro e w7 ⟨rfl, hb7⟩
        clear x0 x1 x2 x3 x4 x5 p0 p1 p2
        have HB11_ := Lib.hid (below_from HB10_.out hb7)
        have Ex11_ := Lib.hid ((hb7.block _ (lt_of_block Ex10_.out)).trans Ex10_.out)
        have Ey11_ := Lib.hid ((hb7.block _ (lt_of_block Ey10_.out)).trans Ey10_.out)
        have Ep11_ := Lib.hid ((hb7.block _ (lt_of_block Ep10_.out)).trans Ep10_.out)
        have Rp11_ := Lib.hid (Rp10_.out.below hb7)
        replace HBR0 := Lib.hid (below_from HBR0.out hb7)
        obtain ⟨p0, p1, p2⟩ := va_at_box Ep11_.out
        obtain ⟨y0, y1, y2⟩ := va_at_box Ey11_.out
        go_wp2_with fail
        refine (CS.out _ HBR0.out).mono ?_
        rintro e w8 ⟨rfl, hb8⟩
        clear p0 p1 p2 y0 y1 y2
        have HB12_ := Lib.hid (below_from HB11_.out hb8)
        have Ex12_ := Lib.hid ((hb8.block _ (lt_of_block Ex11_.out)).trans Ex11_.out)
        have Ey12_ := Lib.hid ((hb8.block _ (lt_of_block Ey11_.out)).trans Ey11_.out)
        have Ep12_ := Lib.hid ((hb8.block _ (lt_of_block Ep11_.out)).trans Ep11_.out)
        have Rp12_ := Lib.hid (Rp11_.out.below hb8)
        replace HBR0 := Lib.hid (below_from HBR0.out hb8)
        go_wp2_with fail
        refine (CA.out _ HB12_.out).mono ?_
        rintro e w9 ⟨rfl, hb9⟩
        have hb := below_from HW.out (below_from HB12_.out hb9)
        clear hb9
        go_wp2_with fail
        go_ret
        exact ⟨rfl, hb⟩
namespace lawBitsBack
open Go.ChangeShapes Go.WideShapes Go.ChangeAt
open Go.ChangeMaps (open_string)
set_option maxRecDepth 100000 in
theorem contract (H : Type) (enc : TypeId × Value → H) (W : World) (base : Nat) (args : Array Value) (ds gs : List (DataW H)) (before : List MemPlace)
    (hval : ∀ (j : Nat) t v, Tryd.f4.params[j]? = some t → args[j]? = some v → Value.okWide Tryd.prog W .any base t v)
    (hW : DataW.Whole enc Tryd.prog Tryd.f4.params.toList Rows.bitsBackSpec.vars false W args.toList ds gs before) (hL : laidMetH Tryd.prog Rows.bitsBackUptoRow.laid W) (hk : Rows.uptoSmall H (ds ++ gs) = true) :
    Calls Tryd.prog 4 args W fun e W' => ∃ v, e = .returned v ∧ Rows.bitsBackSpec.post enc Tryd.prog Tryd.f4 false true false false W args v W' := by
  have hW' := hW
  obtain ⟨p, q, hA0, hV, rfl, hfz, hnd⟩ := hW
  have hA : DataW.TrodAll enc Tryd.prog W 0 (fun _ => true) true Tryd.f4.params.toList args.toList ds p := hA0
  rw [Tryd.params4] at hA hval
  obtain ⟨v0, vs0, d0, ds0, p0, q0, hargs, rfl, rfl, h0, r0⟩ := trodAll_cons hA
  obtain ⟨v1, vs1, d1, ds1, p1, q1, rfl, rfl, rfl, h1, r1⟩ := trodAll_cons r0
  obtain ⟨rfl, rfl, rfl⟩ := trodAll_nil r1
  obtain rfl : args = #[v0, v1] := by cases args; simp_all
  obtain ⟨rfl, rfl⟩ := trodVars_none hV
  have hkk : Rows.uptoBulk d0 + Rows.uptoBulk d1 ≤ 1048576 := by simp [Rows.uptoSmall, Rows.uptoBulkAll] at hk; omega
  obtain ⟨x, kx, A0, c0, rfl, hc0, hr0, hz0⟩ := open_re (hval 0 27 v0 rfl rfl) h0
  obtain ⟨v, kv, A1, c1, rfl, hc1, hr1, hz1⟩ := open_val (hval 1 32 v1 rfl rfl) h1
  have HT : TzOk W := tz_of_laid hL
  refine (bitsBack_walk x kx A0 c0 v kv A1 c1 W (by omega) hc0 hr0 (by omega) hc1 hr1 HT).mono fun e W' ⟨he, hb⟩ => ?_
  subst he
  exact ⟨_, rfl, post_true Tryd.laidOut (by rw [Tryd.params4]; intro t ht; simp at ht; rcases ht with rfl | rfl <;> exact ⟨by kernel_rfl, of_decide_eq_true (by kernel_rfl)⟩) hW' rfl rfl rfl Tryd.underlying4 hb⟩
theorem laid_met (os : Os) : laidMet Tryd.prog Rows.bitsBackUptoRow.laid ((tzWorld os).forCall (fun _ _ => 0) ⟨#[], #[.agg #[.int .u8 0, .int .u64 0, .int .u64 0, .int .u64 0, .int .u64 0, .slice none 0 0], .agg #[.int .u8 0, .int .u8 0, .slice none 0 0]], []⟩).memory :=
  laidMet_of_run' 70 (by kernel_rfl) (by kernel_rfl)
theorem reads (os : Os) {H : Type} (enc : TypeId × Value → H) : ∃ places, DataW.whole enc Tryd.prog ((tzWorld os).forCall (fun _ _ => 0) ⟨#[], #[.agg #[.int .u8 0, .int .u64 0, .int .u64 0, .int .u64 0, .int .u64 0, .slice none 0 0], .agg #[.int .u8 0, .int .u8 0, .slice none 0 0]], []⟩).memory Tryd.f4.params.toList Rows.bitsBackSpec.vars false (#[.agg #[.int .u8 0, .int .u64 0, .int .u64 0, .int .u64 0, .int .u64 0, .slice none 0 0], .agg #[.int .u8 0, .int .u8 0, .slice none 0 0]] : Array Value).toList 8 = some ([.agg [.lit (.int .u8 0), .agg [.lit (.int .u64 0), .lit (.int .u64 0), .lit (.int .u64 0), .lit (.int .u64 0)], .nil], .agg [.lit (.int .u8 0), .lit (.int .u8 0), .nil]], [], places) :=
  ⟨[], by kernel_rfl⟩
set_option maxRecDepth 100000 in
theorem lifted (os : Os) (started : os.Started) (H : Type) (enc : TypeId × Value → H) (F : Stop.Interp) :
    ReturnsInHanded {} Tryd.checked os 4 .any ((Rows.OpenSpec.upto Rows.bitsBackSpec).preRow enc Tryd.prog Tryd.f4 Rows.bitsBackUptoRow.domain false Rows.bitsBackUptoRow.laid) (((Rows.OpenSpec.upto Rows.bitsBackSpec).at F).post enc Tryd.prog Tryd.f4 false true false false) := by
  obtain ⟨places, hx⟩ := reads os enc
  refine returnsInHanded_of_row (C := Tryd.checked) (s := Rows.OpenSpec.upto Rows.bitsBackSpec) Tryd.own started (by kernel_rfl) Tryd.func4
    (witness_row_at (enc := enc) (C := Tryd.checked) false (tzWorld os) #[.agg #[.int .u8 0, .int .u64 0, .int .u64 0, .int .u64 0, .int .u64 0, .slice none 0 0], .agg #[.int .u8 0, .int .u8 0, .slice none 0 0]] rfl (by kernel_rfl) (by kernel_rfl) (by kernel_rfl)
      (OpenSpec.preRow_of_cond 8 hx (by kernel_rfl) (fun k hk => by cases hk; kernel_rfl) (by kernel_rfl) (laid_met os))) ?_
  intro W base args ds gs before hval hW _ hcond _ hL _ _
  exact contract H enc W base args ds gs before hval hW hL (hcond _ rfl)
theorem said : Rows.BitsBackUptoSaid :=
  OpenClaim.holds_of_cond 4 Tryd.f4 rfl rfl rfl rfl rfl rfl rfl ⟨rfl, rfl, rfl, rfl, rfl⟩ rfl rfl rfl rfl rfl (by kernel_rfl) Tryd.func4 (by kernel_rfl)
    (of_decide_eq_true (by kernel_rfl)) (by unfold Func.isWrapper; first | (rw [if_pos (by decide +kernel)]; kernel_rfl) | (rw [if_neg (by decide +kernel)]; exact ⟨rfl, rfl⟩))
    (fun os started H enc _ F => by rw [OpenClaim.pre_eq_preRow]; exact lifted os started H enc F)
theorem plain (f : FuncId) (fn : Func) (hf : Tryd.pinned.checked.prog.funcNamed "quill/quilllaw15.BitsBack" = some f) (hfn : Tryd.pinned.checked.prog.funcs[f]? = some fn) :
    true = Tryd.pinned.checked.prog.looks [] ∧ ∀ (j : Nat) t, fn.params[j]? = some t → Tryd.pinned.checked.prog.wantsStandIn t = false := by
  obtain rfl : f = 4 := Option.some.inj ((show Tryd.prog.funcNamed "quill/quilllaw15.BitsBack" = some 4 by kernel_rfl).symm.trans hf) |>.symm
  obtain rfl : fn = Tryd.f4 := (Option.some.inj (Tryd.func4.symm.trans hfn)).symm
  refine ⟨by kernel_rfl, fun j t ht => ?_⟩
  rw [Tryd.params4] at ht
  have hm := Array.mem_of_getElem? ht
  simp at hm
  rcases hm with rfl | rfl
  · exact (show Tryd.prog.wantsStandIn 27 = false by kernel_rfl)
  · exact (show Tryd.prog.wantsStandIn 32 = false by kernel_rfl)
theorem proved : Rows.BitsBackUptoCardSaid :=
  Claim7.holds_tied_plain_at .later [] _ _ _ _ said (fun _ h => by cases h) (by kernel_rfl) (fun _ h => by cases h) bitsBackUpto_row_tie rfl ⟨rfl, rfl⟩ (by kernel_rfl) rfl plain (by kernel_rfl)
end lawBitsBack
end Go.Proofs.YteokbmngebckjaaDoor
