/- Of a value's bits, and others behind them, just those are taken. For every input that is not too large. -/
import Derived.Test.YteokbmngebckjaaDoorAwake15
import Derived.Test.YteokbmngebckjaaDoorVj4
import Derived.Test.YteokbmngebckjaaDoorIsQ
import Derived.Test.YteokbmngebckjaaDoorBy
import Derived.Test.YteokbmngebckjaaDoorBv
import Derived.Test.YteokbmngebckjaaDoorBw
import Derived.Test.YteokbmngebckjaaDoorBg
import Derived.Test.YteokbmngebckjaaDoorBe
import Derived.Deep.RegionHeld3
namespace Go.Proofs.YteokbmngebckjaaDoor
open Go.RowKit
set_option linter.unusedVariables false
set_option linter.unusedSimpArgs false

theorem nk3 {w0 wi : World} {o : Obj} (h : Below (w0.alloc o).heap.size (w0.alloc o) wi) : wi.heap[w0.heap.size]? = some o := (h.block _ (by rw [World.size_alloc]; omega)).trans (new_at1 _)
set_option maxRecDepth 100000 in
set_option maxHeartbeats 4000000 in
theorem bitsTails_walk (h : RH) (ks : List Re) (A : Option Addr) (c : Nat) (h2 : VH) (ls : List Va) (A2 : Option Addr) (c2 : Nat) (S : ByteArray) (w : World) (hm : T.sizes ks ≤ 1048576) (hc : ks.length ≤ c) (hr : InRow RE (fun _ => True) w ks A 0) (hm2 : T.sizes ls ≤ 1048576) (hc2 : ls.length ≤ c2) (hr2 : InRow VE (fun _ => True) w ls A2 0) (htz : TzOk w) :
    Calls Tryd.prog 5 #[reV h A ks.length c, vaV h2 A2 ls.length c2, .string S] w fun e w' => e = .returned (.bool true) ∧ Below w.heap.size w w' := by
  obtain ⟨W, hW, hbW, _, e1, e2⟩ := rv_pre w h A ks.length c h2 A2 ls.length c2
  have CG1 : Hid (∀ X, Below W.heap.size W X → Calls Tryd.prog 6 #[reV h A ks.length c, .int .i64 60] X fun e w' => e = .returned (.bool (greatB 60 (.mk h ks))) ∧ Below X.heap.size X w') := fun X hX => Great_any h ks A c 60 X (by omega) hc (hr.below (below_from hbW hX))
  have CG2 : Hid (∀ X, Below W.heap.size W X → Calls Tryd.prog 12 #[vaV h2 A2 ls.length c2, .int .i64 60] X fun e w' => e = .returned (.bool (greatB 60 (.mk h2 ls))) ∧ Below X.heap.size X w') := fun X hX => vGreat_any h2 ls A2 c2 60 X (by omega) hc2 (hr2.below (below_from hbW hX))
  have CI : Hid (∀ X, Below W.heap.size W X → Calls Tryd.prog 13 #[reV h A ks.length c, vaV h2 A2 ls.length c2] X fun e w' => e = .returned (.bool (mayB (.mk h ks) && isB (.mk h2 ls) (.mk h ks))) ∧ Below X.heap.size X w') := fun X hX => rIs_any (fun _ => True) (fun _ => True) h ks A c h2 ls A2 c2 X (by omega) (by omega) hc hc2 (hr.below (below_from hbW hX)) (hr2.below (below_from hbW hX))
  have CA : Hid (∀ X, Below W.heap.size W X → Calls Tryd.prog 7 #[] X fun e w' => e = .returned (.bool true) ∧ Below X.heap.size X w') := fun X hX => awake15_any X
  have CC : Hid (∀ X, Below W.heap.size W X → Calls Tryd.prog 14 #[vaV h2 A2 ls.length c2] X fun e w' => e = .returned (.string (str (codeV (.mk h2 ls)))) ∧ Below X.heap.size X w') := fun X hX => code_any h2 ls A2 c2 X (by omega) hc2 (hr2.below (below_from hbW hX))
  have HR := Lib.hid hr
  have HR2 := Lib.hid hr2
  have HTZ := Lib.hid htz
  have HW := Lib.hid hbW
  have HE := Lib.hid hW
  have E1 := Lib.hid e1
  have E2 := Lib.hid e2
  clear hW hr hr2 hbW e1 e2 htz
  have HB0 : Hid (Below W.heap.size W W) := Below.refl _ _
  rcases hg : greatB 60 (.mk h ks) with _ | _
  case true =>
    rw [hg] at CG1
    clear hg
    go_enter Tryd.func5, Tryd.ntmps5
    go_wp2_with fail
    rw [HE.out]
    refine (CG1.out _ HB0.out).mono ?_
    rintro e w0 ⟨rfl, hb0⟩
    have HB1_ := Lib.hid (below_from HB0.out hb0)
    have Ex1_ := Lib.hid ((hb0.block _ (lt_of_block E1.out)).trans E1.out)
    have Ey1_ := Lib.hid ((hb0.block _ (lt_of_block E2.out)).trans E2.out)
    go_wp2_with fail
    refine (CA.out _ HB1_.out).mono ?_
    rintro e w9 ⟨rfl, hb9⟩
    have hb := below_from HW.out (below_from HB1_.out hb9)
    clear hb9
    go_wp2_with fail
    go_ret
    exact ⟨rfl, hb⟩
  have hsz : 1 + T.sizes ks ≤ 60 := by
    have := of_decide_eq_false hg
    simp only [T.size] at this
    omega
  rw [hg] at CG1
  rcases hg2 : greatB 60 (.mk h2 ls) with _ | _
  case true =>
    rw [hg2] at CG2
    clear hg hg2
    go_enter Tryd.func5, Tryd.ntmps5
    go_wp2_with fail
    rw [HE.out]
    refine (CG1.out _ HB0.out).mono ?_
    rintro e w0 ⟨rfl, hb0⟩
    have HB1_ := Lib.hid (below_from HB0.out hb0)
    have Ex1_ := Lib.hid ((hb0.block _ (lt_of_block E1.out)).trans E1.out)
    have Ey1_ := Lib.hid ((hb0.block _ (lt_of_block E2.out)).trans E2.out)
    obtain ⟨y0, y1, y2⟩ := va_at_box Ey1_.out
    go_wp2_with fail
    refine (CG2.out _ HB1_.out).mono ?_
    rintro e w1 ⟨rfl, hb1⟩
    clear y0 y1 y2
    have HB2_ := Lib.hid (below_from HB1_.out hb1)
    have Ex2_ := Lib.hid ((hb1.block _ (lt_of_block Ex1_.out)).trans Ex1_.out)
    have Ey2_ := Lib.hid ((hb1.block _ (lt_of_block Ey1_.out)).trans Ey1_.out)
    go_wp2_with fail
    refine (CA.out _ HB2_.out).mono ?_
    rintro e w9 ⟨rfl, hb9⟩
    have hb := below_from HW.out (below_from HB2_.out hb9)
    clear hb9
    go_wp2_with fail
    go_ret
    exact ⟨rfl, hb⟩
  have hsz2 : 1 + T.sizes ls ≤ 60 := by
    have := of_decide_eq_false hg2
    simp only [T.size] at this
    omega
  rw [hg2] at CG2
  clear hg hg2
  by_cases lS : 50 < S.size
  · have gls : decide (((S.size : Nat) : Int) > 50) = true := by simp; omega
    go_enter Tryd.func5, Tryd.ntmps5
    go_wp2_with fail
    rw [HE.out]
    refine (CG1.out _ HB0.out).mono ?_
    rintro e w0 ⟨rfl, hb0⟩
    have HB1_ := Lib.hid (below_from HB0.out hb0)
    have Ex1_ := Lib.hid ((hb0.block _ (lt_of_block E1.out)).trans E1.out)
    have Ey1_ := Lib.hid ((hb0.block _ (lt_of_block E2.out)).trans E2.out)
    obtain ⟨y0, y1, y2⟩ := va_at_box Ey1_.out
    go_wp2_with fail
    refine (CG2.out _ HB1_.out).mono ?_
    rintro e w1 ⟨rfl, hb1⟩
    clear y0 y1 y2
    have HB2_ := Lib.hid (below_from HB1_.out hb1)
    have Ex2_ := Lib.hid ((hb1.block _ (lt_of_block Ex1_.out)).trans Ex1_.out)
    have Ey2_ := Lib.hid ((hb1.block _ (lt_of_block Ey1_.out)).trans Ey1_.out)
    go_wp2_with fail
    refine (CA.out _ HB2_.out).mono ?_
    rintro e w9 ⟨rfl, hb9⟩
    have hb := below_from HW.out (below_from HB2_.out hb9)
    clear hb9
    go_wp2_with fail
    go_ret
    exact ⟨rfl, hb⟩
  have gls : decide (((S.size : Nat) : Int) > 50) = false := by simp; omega
  rcases hi : (mayB (.mk h ks) && isB (.mk h2 ls) (.mk h ks)) with _ | _
  case false =>
    rw [hi] at CI
    clear hi
    go_enter Tryd.func5, Tryd.ntmps5
    go_wp2_with fail
    rw [HE.out]
    refine (CG1.out _ HB0.out).mono ?_
    rintro e w0 ⟨rfl, hb0⟩
    have HB1_ := Lib.hid (below_from HB0.out hb0)
    have Ex1_ := Lib.hid ((hb0.block _ (lt_of_block E1.out)).trans E1.out)
    have Ey1_ := Lib.hid ((hb0.block _ (lt_of_block E2.out)).trans E2.out)
    obtain ⟨y0, y1, y2⟩ := va_at_box Ey1_.out
    go_wp2_with fail
    refine (CG2.out _ HB1_.out).mono ?_
    rintro e w1 ⟨rfl, hb1⟩
    clear y0 y1 y2
    have HB2_ := Lib.hid (below_from HB1_.out hb1)
    have Ex2_ := Lib.hid ((hb1.block _ (lt_of_block Ex1_.out)).trans Ex1_.out)
    have Ey2_ := Lib.hid ((hb1.block _ (lt_of_block Ey1_.out)).trans Ey1_.out)
    obtain ⟨x0, x1, x2, x3, x4, x5⟩ := re_at_box Ex2_.out
    obtain ⟨y0, y1, y2⟩ := va_at_box Ey2_.out
    go_wp2_with fail
    refine (CI.out _ HB2_.out).mono ?_
    rintro e w2 ⟨rfl, hb2⟩
    clear x0 x1 x2 x3 x4 x5 y0 y1 y2
    have HB3_ := Lib.hid (below_from HB2_.out hb2)
    have Ex3_ := Lib.hid ((hb2.block _ (lt_of_block Ex2_.out)).trans Ex2_.out)
    have Ey3_ := Lib.hid ((hb2.block _ (lt_of_block Ey2_.out)).trans Ey2_.out)
    go_wp2_with fail
    refine (CA.out _ HB3_.out).mono ?_
    rintro e w9 ⟨rfl, hb9⟩
    have hb := below_from HW.out (below_from HB3_.out hb9)
    clear hb9
    go_wp2_with fail
    go_ret
    exact ⟨rfl, hb⟩
  rw [hi] at CI
  rw [Bool.and_eq_true] at hi
  obtain ⟨hmy, hib⟩ := hi
  have hv := (isB_iff _ (.mk h2 ls) (.mk h ks) (Nat.le_refl _) (may_okT hmy)).1 hib
  obtain ⟨v0, ht0, hcd, hv0, hal⟩ := IsV_take hv (may_okT hmy)
  have hvs := IsV_takes hv (may_okT hmy) v0 [] (ht0 [])
  simp only [T.size] at hvs
  have HV0C := Lib.hid hcd
  have hcs := code_size (T.mk h2 ls)
  simp only [T.size] at hcs
  obtain ⟨cv, hcv⟩ : ∃ cv, codeV (.mk h2 ls) = cv := ⟨_, rfl⟩
  rw [hcv] at CC HV0C hcs ht0
  have HTK : Hid (takeT (.mk h ks) (str (cv ++ S.data.toList)).data.toList = some (v0, S.data.toList)) := by unfold Hid; simpa using ht0 S.data.toList
  have HSZ : Hid ((str (cv ++ S.data.toList)).size ≤ 1000000000) := by unfold Hid; rw [str_size, List.length_append, sl_]; omega
  have hcat : ∀ w, (Op.stringOp .add (str cv) S).run Tryd.prog w = .ok (.string (str (cv ++ S.data.toList))) w := by
    intro w
    have := run_cat (P := Tryd.prog) cv S.data.toList (by rw [sl_]; omega) w
    rw [← ba_str S] at this
    exact this
  have CT : Hid (∀ X, Below W.heap.size W X → Calls Tryd.prog 8 #[reV h A ks.length c, .string (str (cv ++ S.data.toList))] X (TakePost v0 S.data.toList X)) := fun X hX => take_some h ks A c _ X v0 _ (by omega) hmy hc (HR.out.below (below_from HW.out hX)) HSZ.out (HTZ.out.below (below_from HW.out hX)) HTK.out
  have CD : Hid (∀ X, Below W.heap.size W X → Calls Tryd.prog 10 #[reV h A ks.length c, .string (str (cv ++ S.data.toList))] X (DecPost (if S.data.toList = [] then v0 else .mk vaH0 []) (decide (S.data.toList = [])) X)) := fun X hX => dec_some h ks A c _ X v0 _ (by omega) hmy hc (HR.out.below (below_from HW.out hX)) HSZ.out (HTZ.out.below (below_from HW.out hX)) HTK.out
  obtain ⟨vv, hvv⟩ : ∃ vv, (if S.data.toList = [] then v0 else .mk vaH0 []) = vv := ⟨_, rfl⟩
  obtain ⟨bb, hbb⟩ : ∃ bb, decide (S.data.toList = []) = bb := ⟨_, rfl⟩
  rw [hvv, hbb] at CD
  have HVV := Lib.hid hvv
  have HBB := Lib.hid hbb
  clear hmy hib hv ht0 hcd hv0 hal hcv hvv hbb
  go_enter Tryd.func5, Tryd.ntmps5
  go_wp2_with fail
  rw [HE.out]
  refine (CG1.out _ HB0.out).mono ?_
  rintro e w0 ⟨rfl, hb0⟩
  have HB1_ := Lib.hid (below_from HB0.out hb0)
  have Ex1_ := Lib.hid ((hb0.block _ (lt_of_block E1.out)).trans E1.out)
  have Ey1_ := Lib.hid ((hb0.block _ (lt_of_block E2.out)).trans E2.out)
  obtain ⟨y0, y1, y2⟩ := va_at_box Ey1_.out
  go_wp2_with fail
  refine (CG2.out _ HB1_.out).mono ?_
  rintro e w1 ⟨rfl, hb1⟩
  clear y0 y1 y2
  have HB2_ := Lib.hid (below_from HB1_.out hb1)
  have Ex2_ := Lib.hid ((hb1.block _ (lt_of_block Ex1_.out)).trans Ex1_.out)
  have Ey2_ := Lib.hid ((hb1.block _ (lt_of_block Ey1_.out)).trans Ey1_.out)
  obtain ⟨x0, x1, x2, x3, x4, x5⟩ := re_at_box Ex2_.out
  obtain ⟨y0, y1, y2⟩ := va_at_box Ey2_.out
  go_wp2_with fail
  refine (CI.out _ HB2_.out).mono ?_
  rintro e w2 ⟨rfl, hb2⟩
  clear x0 x1 x2 x3 x4 x5 y0 y1 y2
  have HB3_ := Lib.hid (below_from HB2_.out hb2)
  have Ex3_ := Lib.hid ((hb2.block _ (lt_of_block Ex2_.out)).trans Ex2_.out)
  have Ey3_ := Lib.hid ((hb2.block _ (lt_of_block Ey2_.out)).trans Ey2_.out)
  have HVS := Lib.hid hvs
  clear hvs
  obtain ⟨U1, hU⟩ : ∃ U1, U1 = w2 := ⟨_, rfl⟩
  have HBU1 : Hid (Below W.heap.size W U1) := by unfold Hid; rw [hU]; exact HB3_.out
  have EU1x : Hid (U1.heap[w.heap.size]? = some (.cells (reA h A ks.length c) 27 (0, 0))) := by unfold Hid; rw [hU]; exact Ex3_.out
  have EU1y : Hid (U1.heap[w.heap.size + 1]? = some (.cells (vaA h2 A2 ls.length c2) 32 (0, 0))) := by unfold Hid; rw [hU]; exact Ey3_.out
  go_upto_region 3 with fail
  rw [← hU]
  clear hU
  go_cut [7, 8, 9] from 30 to 39 (fun q s e wx => s = .string S ∧ e = .bool true ∧ BoxV (fun _ => True) U1 v0 q wx)
  case first =>
    have Q : Hid (∀ X, Below U1.heap.size U1 X → X.cell? ⟨w.heap.size, 0, none⟩ = some (.int .u8 (h.k.toNat : Int)) ∧ X.cell? ⟨w.heap.size, 1, none⟩ = some (.int .u64 (h.s.a.toNat : Int)) ∧ X.cell? ⟨w.heap.size, 2, none⟩ = some (.int .u64 (h.s.b.toNat : Int)) ∧ X.cell? ⟨w.heap.size, 3, none⟩ = some (.int .u64 (h.s.c.toNat : Int)) ∧ X.cell? ⟨w.heap.size, 4, none⟩ = some (.int .u64 (h.s.d.toNat : Int)) ∧ X.cell? ⟨w.heap.size, 5, none⟩ = some (.slice A ks.length c) ∧ X.cell? ⟨w.heap.size + 1, 0, none⟩ = some (.int .u8 (h2.k.toNat : Int)) ∧ X.cell? ⟨w.heap.size + 1, 1, none⟩ = some (.int .u8 (h2.b.toNat : Int)) ∧ X.cell? ⟨w.heap.size + 1, 2, none⟩ = some (.slice A2 ls.length c2)) := fun X hX => by
      obtain ⟨x0, x1, x2, x3, x4, x5⟩ := re_at_box ((hX.block _ (lt_of_block EU1x.out)).trans EU1x.out)
      obtain ⟨y0, y1, y2⟩ := va_at_box ((hX.block _ (lt_of_block EU1y.out)).trans EU1y.out)
      exact ⟨x0, x1, x2, x3, x4, x5, y0, y1, y2⟩
    have CC2 : Hid (∀ X, Below U1.heap.size U1 X → Calls Tryd.prog 14 #[vaV h2 A2 ls.length c2] X fun e w' => e = .returned (.string (str cv)) ∧ Below X.heap.size X w') := fun X hX => CC.out X (below_from HBU1.out hX)
    have CB2 := Lib.hid (fun X (hX : Below U1.heap.size U1 X) => CT.out X (below_from HBU1.out hX))
    have hz := Below.refl U1.heap.size U1
    obtain ⟨x0, x1, x2, x3, x4, x5, y0, y1, y2⟩ := Q.out _ hz
    clear CC CT CD CA CI CG1 CG2
    go_region_held3 (fun X => X.cell? ⟨w.heap.size, 0, none⟩ = some (.int .u8 (h.k.toNat : Int)) ∧ X.cell? ⟨w.heap.size, 1, none⟩ = some (.int .u64 (h.s.a.toNat : Int)) ∧ X.cell? ⟨w.heap.size, 2, none⟩ = some (.int .u64 (h.s.b.toNat : Int)) ∧ X.cell? ⟨w.heap.size, 3, none⟩ = some (.int .u64 (h.s.c.toNat : Int)) ∧ X.cell? ⟨w.heap.size, 4, none⟩ = some (.int .u64 (h.s.d.toNat : Int)) ∧ X.cell? ⟨w.heap.size, 5, none⟩ = some (.slice A ks.length c) ∧ X.cell? ⟨w.heap.size + 1, 0, none⟩ = some (.int .u8 (h2.k.toNat : Int)) ∧ X.cell? ⟨w.heap.size + 1, 1, none⟩ = some (.int .u8 (h2.b.toNat : Int)) ∧ X.cell? ⟨w.heap.size + 1, 2, none⟩ = some (.slice A2 ls.length c2))
      ((refine Q.out _ ?_; (repeat (first | with_reducible exact hz | with_reducible refine Below.drew ?_ | with_reducible refine below_new ?_ _ | (with_reducible refine Below.setCell ?_ (by first | exact Nat.le_refl _ | (simp; done) | (simp; omega)) _)))))
      (first
        | (go_at_call 14; (with_reducible refine (CC2.out _ ?_).mono ?_); (repeat (first | with_reducible exact hz | with_reducible refine Below.drew ?_ | with_reducible refine below_new ?_ _ | (with_reducible refine Below.setCell ?_ (by first | exact Nat.le_refl _ | (simp; done) | (simp; omega)) _))); rintro e wf ⟨rfl, hbf⟩; (try (first | (have hq : Below (World.alloc U1 (.cells #[.int .u8 0, .int .u8 0, .slice none 0 0] 32)).drew.heap.size (World.alloc U1 (.cells #[.int .u8 0, .int .u8 0, .slice none 0 0] 32)).drew wf := (by with_reducible exact hbf); have hnk := new_kept hq; obtain ⟨⟨r0, r1, r2⟩, g0, g1, g2⟩ := va_cells hnk; have zr0 := fun o => keep_cell (below_new (Below.refl _ wf) o) r0; have zr1 := fun o => keep_cell (below_new (Below.refl _ wf) o) r1; have zr2 := fun o => keep_cell (below_new (Below.refl _ wf) o) r2; have zg0 := fun o => (va_cells (heap_keep1 hnk o)).2.1; have zg1 := fun o => (va_cells (heap_keep1 hnk o)).2.2.1; have zg2 := fun o => (va_cells (heap_keep1 hnk o)).2.2.2) | (have hq : Below (World.alloc (World.drew U1) (.cells #[.int .u8 0, .int .u8 0, .slice none 0 0] 32)).heap.size (World.alloc (World.drew U1) (.cells #[.int .u8 0, .int .u8 0, .slice none 0 0] 32)) wf := (by with_reducible exact hbf); have hnk := new_kept2 hq; obtain ⟨⟨r0, r1, r2⟩, g0, g1, g2⟩ := va_cells hnk; have zr0 := fun o => keep_cell (below_new (Below.refl _ wf) o) r0; have zr1 := fun o => keep_cell (below_new (Below.refl _ wf) o) r1; have zr2 := fun o => keep_cell (below_new (Below.refl _ wf) o) r2; have zg0 := fun o => (va_cells (heap_keep1 hnk o)).2.1; have zg1 := fun o => (va_cells (heap_keep1 hnk o)).2.2.1; have zg2 := fun o => (va_cells (heap_keep1 hnk o)).2.2.2))); have hz : Below U1.heap.size U1 wf := (by refine below_from ?_ hbf; (repeat (first | with_reducible exact hz | with_reducible refine Below.drew ?_ | with_reducible refine below_new ?_ _ | (with_reducible refine Below.setCell ?_ (by first | exact Nat.le_refl _ | (simp; done) | (simp; omega)) _)))); have hzf := hz.size; obtain ⟨x0, x1, x2, x3, x4, x5, y0, y1, y2⟩ := Q.out _ hz)
        | (have hmk := hbf; go_at_call 8; (with_reducible refine (CB2.out _ ?_).mono ?_); (repeat (first | with_reducible exact hz | with_reducible refine Below.drew ?_ | with_reducible refine below_new ?_ _ | (with_reducible refine Below.setCell ?_ (by first | exact Nat.le_refl _ | (simp; done) | (simp; omega)) _))); rintro e wi ⟨h3, k3, A3, c3, S2, rfl, e3, hc3, hr3, hs2, hbi⟩; obtain rfl : S = S2 := (ba_eq hs2).symm; have EN := Lib.hid e3; clear e3; (try (have hnk := (hbi.block _ (lt_of_block hnk)).trans hnk; obtain ⟨⟨r0, r1, r2⟩, g0, g1, g2⟩ := va_cells hnk; have zr0 := fun o => keep_cell (below_new (Below.refl _ wi) o) r0; have zr1 := fun o => keep_cell (below_new (Below.refl _ wi) o) r1; have zr2 := fun o => keep_cell (below_new (Below.refl _ wi) o) r2; have zg0 := fun o => (va_cells (heap_keep1 hnk o)).2.1; have zg1 := fun o => (va_cells (heap_keep1 hnk o)).2.2.1; have zg2 := fun o => (va_cells (heap_keep1 hnk o)).2.2.2)); (try (have hq : Below (World.alloc wf (.cells #[.int .u8 0, .int .u8 0, .slice none 0 0] 32)).heap.size (World.alloc wf (.cells #[.int .u8 0, .int .u8 0, .slice none 0 0] 32)) wi := (by with_reducible exact hbi); have hnk := nk3 hq; obtain ⟨⟨r0, r1, r2⟩, g0, g1, g2⟩ := va_cells hnk; have zr0 := fun o => keep_cell (below_new (Below.refl _ wi) o) r0; have zr1 := fun o => keep_cell (below_new (Below.refl _ wi) o) r1; have zr2 := fun o => keep_cell (below_new (Below.refl _ wi) o) r2; have zg0 := fun o => (va_cells (heap_keep1 hnk o)).2.1; have zg1 := fun o => (va_cells (heap_keep1 hnk o)).2.2.1; have zg2 := fun o => (va_cells (heap_keep1 hnk o)).2.2.2)); have hz : Below U1.heap.size U1 wi := (by refine below_from ?_ hbi; (repeat (first | with_reducible exact hz | with_reducible refine Below.drew ?_ | with_reducible refine below_new ?_ _ | (with_reducible refine Below.setCell ?_ (by first | exact Nat.le_refl _ | (simp; done) | (simp; omega)) _)))); obtain ⟨x0, x1, x2, x3, x4, x5, y0, y1, y2⟩ := Q.out _ hz)
        | fail)
    all_goals go_wp2_with fail
    all_goals go_meet
    all_goals have hzs := hz.size
    all_goals have hbs := hbf.size
    all_goals first
      | (have hlk := lt_of_block hnk
         refine ⟨rfl, rfl, _, h3, k3, A3, c3, rfl, EN.out, hc3, three_setCells hnk, ?_, three_below hz (by omega), by omega⟩
         refine (row_three (hr3.weak (ok' := fun x => wf.heap.size + 1 ≤ x) fun x hx => ?_) fun x hx => by omega).weak fun x hx => ⟨trivial, by omega⟩
         have e : (World.alloc wf (.cells #[.int .u8 0, .int .u8 0, .slice none 0 0] 32)).heap.size = wf.heap.size + 1 := World.size_alloc _ _
         have h2 : (World.alloc wf (.cells #[.int .u8 0, .int .u8 0, .slice none 0 0] 32)).heap.size ≤ x := hx
         omega)
      | (have hbs' : U1.heap.size + 1 ≤ wf.heap.size := (by simpa using hbs)
         refine ⟨rfl, rfl, _, h3, k3, A3, c3, rfl, EN.out, hc3, three_setCells hnk, ?_, three_below hz (by omega), by omega⟩
         exact (row_three (hr3.weak (ok' := fun x => wf.heap.size ≤ x) fun x hx => hx) fun x hx => by omega).weak fun x hx => ⟨trivial, by omega⟩)
      | (refine ⟨rfl, rfl, _, h3, k3, A3, c3, rfl, EN.out, hc3, new_at1 (w := wi) _, (hr3.there.below (below_new (Below.refl _ _) _)).weak (fun x hx => ⟨trivial, by have := hx.2; omega⟩), below_new hz _, by omega⟩; done)
      | fail
  case rest =>
    obtain ⟨rfl, rfl, b9, h3, k3, A3, c3, rfl, e3, hc3, n9, hr3, hz3, hb9⟩ := hcut
    obtain ⟨X3, rfl⟩ : ∃ x, x = wc := ⟨_, rfl⟩
    have HB4_ := Lib.hid (below_from HBU1.out hz3)
    have Ex4_ := Lib.hid ((hz3.block _ (lt_of_block EU1x.out)).trans EU1x.out)
    have Ey4_ := Lib.hid ((hz3.block _ (lt_of_block EU1y.out)).trans EU1y.out)
    have N9 := Lib.hid n9
    have hs3 : T.sizes k3 ≤ 1000000 := by have h1 := HVS.out; have h2 := congrArg T.size e3; simp only [T.size] at h2; omega
    have CP0 : Hid (∀ X, Below X3.heap.size X3 X → Calls Tryd.prog 14 #[vaV h3 A3 k3.length c3] X fun e w' => e = .returned (.string (str cv)) ∧ Below X.heap.size X w') := fun X hX => by
      have := code_any h3 k3 A3 c3 X (by omega) hc3 (hr3.below hX)
      rw [← e3, HV0C.out] at this
      exact this
    clear n9 hz3 hb9 hr3 hc3 e3 hs3
    obtain ⟨U2, hU⟩ : ∃ U2, U2 = X3 := ⟨_, rfl⟩
    have HBU2 : Hid (Below W.heap.size W U2) := by unfold Hid; rw [hU]; exact HB4_.out
    have EU2x : Hid (U2.heap[w.heap.size]? = some (.cells (reA h A ks.length c) 27 (0, 0))) := by unfold Hid; rw [hU]; exact Ex4_.out
    have EU2y : Hid (U2.heap[w.heap.size + 1]? = some (.cells (vaA h2 A2 ls.length c2) 32 (0, 0))) := by unfold Hid; rw [hU]; exact Ey4_.out
    have EU2p : Hid (U2.heap[b9]? = some (.cells (vaA h3 A3 k3.length c3) 32 (0, 0))) := by unfold Hid; rw [hU]; exact N9.out
    go_upto_region 4 with fail
    rw [← hU]
    rw [← hU] at CP0
    clear hU
    go_cut [10, 11] from 40 to 48 (fun q e wx => e = .bool bb ∧ BoxV (fun _ => True) U2 vv q wx)
    case first =>
      have Q : Hid (∀ X, Below U2.heap.size U2 X → X.cell? ⟨w.heap.size, 0, none⟩ = some (.int .u8 (h.k.toNat : Int)) ∧ X.cell? ⟨w.heap.size, 1, none⟩ = some (.int .u64 (h.s.a.toNat : Int)) ∧ X.cell? ⟨w.heap.size, 2, none⟩ = some (.int .u64 (h.s.b.toNat : Int)) ∧ X.cell? ⟨w.heap.size, 3, none⟩ = some (.int .u64 (h.s.c.toNat : Int)) ∧ X.cell? ⟨w.heap.size, 4, none⟩ = some (.int .u64 (h.s.d.toNat : Int)) ∧ X.cell? ⟨w.heap.size, 5, none⟩ = some (.slice A ks.length c) ∧ X.cell? ⟨w.heap.size + 1, 0, none⟩ = some (.int .u8 (h2.k.toNat : Int)) ∧ X.cell? ⟨w.heap.size + 1, 1, none⟩ = some (.int .u8 (h2.b.toNat : Int)) ∧ X.cell? ⟨w.heap.size + 1, 2, none⟩ = some (.slice A2 ls.length c2)) := fun X hX => by
        obtain ⟨x0, x1, x2, x3, x4, x5⟩ := re_at_box ((hX.block _ (lt_of_block EU2x.out)).trans EU2x.out)
        obtain ⟨y0, y1, y2⟩ := va_at_box ((hX.block _ (lt_of_block EU2y.out)).trans EU2y.out)
        exact ⟨x0, x1, x2, x3, x4, x5, y0, y1, y2⟩
      have CC2 : Hid (∀ X, Below U2.heap.size U2 X → Calls Tryd.prog 14 #[vaV h2 A2 ls.length c2] X fun e w' => e = .returned (.string (str cv)) ∧ Below X.heap.size X w') := fun X hX => CC.out X (below_from HBU2.out hX)
      have CB2 := Lib.hid (fun X (hX : Below U2.heap.size U2 X) => CD.out X (below_from HBU2.out hX))
      have hz := Below.refl U2.heap.size U2
      obtain ⟨x0, x1, x2, x3, x4, x5, y0, y1, y2⟩ := Q.out _ hz
      clear CC CT CD CA CI CG1 CG2
      go_region_held3 (fun X => X.cell? ⟨w.heap.size, 0, none⟩ = some (.int .u8 (h.k.toNat : Int)) ∧ X.cell? ⟨w.heap.size, 1, none⟩ = some (.int .u64 (h.s.a.toNat : Int)) ∧ X.cell? ⟨w.heap.size, 2, none⟩ = some (.int .u64 (h.s.b.toNat : Int)) ∧ X.cell? ⟨w.heap.size, 3, none⟩ = some (.int .u64 (h.s.c.toNat : Int)) ∧ X.cell? ⟨w.heap.size, 4, none⟩ = some (.int .u64 (h.s.d.toNat : Int)) ∧ X.cell? ⟨w.heap.size, 5, none⟩ = some (.slice A ks.length c) ∧ X.cell? ⟨w.heap.size + 1, 0, none⟩ = some (.int .u8 (h2.k.toNat : Int)) ∧ X.cell? ⟨w.heap.size + 1, 1, none⟩ = some (.int .u8 (h2.b.toNat : Int)) ∧ X.cell? ⟨w.heap.size + 1, 2, none⟩ = some (.slice A2 ls.length c2))
        ((refine Q.out _ ?_; (repeat (first | with_reducible exact hz | with_reducible refine Below.drew ?_ | with_reducible refine below_new ?_ _ | (with_reducible refine Below.setCell ?_ (by first | exact Nat.le_refl _ | (simp; done) | (simp; omega)) _)))))
        (first
          | (go_at_call 14; (with_reducible refine (CC2.out _ ?_).mono ?_); (repeat (first | with_reducible exact hz | with_reducible refine Below.drew ?_ | with_reducible refine below_new ?_ _ | (with_reducible refine Below.setCell ?_ (by first | exact Nat.le_refl _ | (simp; done) | (simp; omega)) _))); rintro e wf ⟨rfl, hbf⟩; (try (first | (have hq : Below (World.alloc U2 (.cells #[.int .u8 0, .int .u8 0, .slice none 0 0] 32)).drew.heap.size (World.alloc U2 (.cells #[.int .u8 0, .int .u8 0, .slice none 0 0] 32)).drew wf := (by with_reducible exact hbf); have hnk := new_kept hq; obtain ⟨⟨r0, r1, r2⟩, g0, g1, g2⟩ := va_cells hnk; have zr0 := fun o => keep_cell (below_new (Below.refl _ wf) o) r0; have zr1 := fun o => keep_cell (below_new (Below.refl _ wf) o) r1; have zr2 := fun o => keep_cell (below_new (Below.refl _ wf) o) r2; have zg0 := fun o => (va_cells (heap_keep1 hnk o)).2.1; have zg1 := fun o => (va_cells (heap_keep1 hnk o)).2.2.1; have zg2 := fun o => (va_cells (heap_keep1 hnk o)).2.2.2) | (have hq : Below (World.alloc (World.drew U2) (.cells #[.int .u8 0, .int .u8 0, .slice none 0 0] 32)).heap.size (World.alloc (World.drew U2) (.cells #[.int .u8 0, .int .u8 0, .slice none 0 0] 32)) wf := (by with_reducible exact hbf); have hnk := new_kept2 hq; obtain ⟨⟨r0, r1, r2⟩, g0, g1, g2⟩ := va_cells hnk; have zr0 := fun o => keep_cell (below_new (Below.refl _ wf) o) r0; have zr1 := fun o => keep_cell (below_new (Below.refl _ wf) o) r1; have zr2 := fun o => keep_cell (below_new (Below.refl _ wf) o) r2; have zg0 := fun o => (va_cells (heap_keep1 hnk o)).2.1; have zg1 := fun o => (va_cells (heap_keep1 hnk o)).2.2.1; have zg2 := fun o => (va_cells (heap_keep1 hnk o)).2.2.2))); have hz : Below U2.heap.size U2 wf := (by refine below_from ?_ hbf; (repeat (first | with_reducible exact hz | with_reducible refine Below.drew ?_ | with_reducible refine below_new ?_ _ | (with_reducible refine Below.setCell ?_ (by first | exact Nat.le_refl _ | (simp; done) | (simp; omega)) _)))); have hzf := hz.size; obtain ⟨x0, x1, x2, x3, x4, x5, y0, y1, y2⟩ := Q.out _ hz)
          | (have hmk := hbf; go_at_call 10; (with_reducible refine (CB2.out _ ?_).mono ?_); (repeat (first | with_reducible exact hz | with_reducible refine Below.drew ?_ | with_reducible refine below_new ?_ _ | (with_reducible refine Below.setCell ?_ (by first | exact Nat.le_refl _ | (simp; done) | (simp; omega)) _))); rintro e wi ⟨h5, k5, A5, c5, rfl, e3, hc3, hr3, hbi⟩; have EN := Lib.hid e3; clear e3; (try (have hnk := (hbi.block _ (lt_of_block hnk)).trans hnk; obtain ⟨⟨r0, r1, r2⟩, g0, g1, g2⟩ := va_cells hnk; have zr0 := fun o => keep_cell (below_new (Below.refl _ wi) o) r0; have zr1 := fun o => keep_cell (below_new (Below.refl _ wi) o) r1; have zr2 := fun o => keep_cell (below_new (Below.refl _ wi) o) r2; have zg0 := fun o => (va_cells (heap_keep1 hnk o)).2.1; have zg1 := fun o => (va_cells (heap_keep1 hnk o)).2.2.1; have zg2 := fun o => (va_cells (heap_keep1 hnk o)).2.2.2)); (try (have hq : Below (World.alloc wf (.cells #[.int .u8 0, .int .u8 0, .slice none 0 0] 32)).heap.size (World.alloc wf (.cells #[.int .u8 0, .int .u8 0, .slice none 0 0] 32)) wi := (by with_reducible exact hbi); have hnk := nk3 hq; obtain ⟨⟨r0, r1, r2⟩, g0, g1, g2⟩ := va_cells hnk; have zr0 := fun o => keep_cell (below_new (Below.refl _ wi) o) r0; have zr1 := fun o => keep_cell (below_new (Below.refl _ wi) o) r1; have zr2 := fun o => keep_cell (below_new (Below.refl _ wi) o) r2; have zg0 := fun o => (va_cells (heap_keep1 hnk o)).2.1; have zg1 := fun o => (va_cells (heap_keep1 hnk o)).2.2.1; have zg2 := fun o => (va_cells (heap_keep1 hnk o)).2.2.2)); have hz : Below U2.heap.size U2 wi := (by refine below_from ?_ hbi; (repeat (first | with_reducible exact hz | with_reducible refine Below.drew ?_ | with_reducible refine below_new ?_ _ | (with_reducible refine Below.setCell ?_ (by first | exact Nat.le_refl _ | (simp; done) | (simp; omega)) _)))); obtain ⟨x0, x1, x2, x3, x4, x5, y0, y1, y2⟩ := Q.out _ hz)
          | fail)
      all_goals go_wp2_with fail
      all_goals go_meet
      all_goals have hzs := hz.size
      all_goals have hbs := hbf.size
      all_goals first
        | (have hlk := lt_of_block hnk
           refine ⟨rfl, _, h5, k5, A5, c5, rfl, EN.out, hc3, three_setCells hnk, ?_, three_below hz (by omega), by omega⟩
           refine (row_three (hr3.weak (ok' := fun x => wf.heap.size + 1 ≤ x) fun x hx => ?_) fun x hx => by omega).weak fun x hx => ⟨trivial, by omega⟩
           have e : (World.alloc wf (.cells #[.int .u8 0, .int .u8 0, .slice none 0 0] 32)).heap.size = wf.heap.size + 1 := World.size_alloc _ _
           have h2 : (World.alloc wf (.cells #[.int .u8 0, .int .u8 0, .slice none 0 0] 32)).heap.size ≤ x := hx
           omega)
        | (have hbs' : U2.heap.size + 1 ≤ wf.heap.size := (by simpa using hbs)
           refine ⟨rfl, _, h5, k5, A5, c5, rfl, EN.out, hc3, three_setCells hnk, ?_, three_below hz (by omega), by omega⟩
           exact (row_three (hr3.weak (ok' := fun x => wf.heap.size ≤ x) fun x hx => hx) fun x hx => by omega).weak fun x hx => ⟨trivial, by omega⟩)
        | (refine ⟨rfl, _, h5, k5, A5, c5, rfl, EN.out, hc3, new_at1 (w := wi) _, (hr3.there.below (below_new (Below.refl _ _) _)).weak (fun x hx => ⟨trivial, by have := hx.2; omega⟩), below_new hz _, by omega⟩; done)
        | fail
    case rest =>
      obtain ⟨rfl, b10, h4, k4, A4, c4, rfl, _, _, _, _, hz4, _⟩ := hcut
      obtain ⟨X4, rfl⟩ : ∃ x, x = wc := ⟨_, rfl⟩
      have HB5_ := Lib.hid (below_from HBU2.out hz4)
      have Ex5_ := Lib.hid ((hz4.block _ (lt_of_block EU2x.out)).trans EU2x.out)
      have Ey5_ := Lib.hid ((hz4.block _ (lt_of_block EU2y.out)).trans EU2y.out)
      have Ep5_ := Lib.hid ((hz4.block _ (lt_of_block EU2p.out)).trans EU2p.out)
      have CP : Hid (∀ X, Below W.heap.size W X → Below X4.heap.size X4 X → Calls Tryd.prog 14 #[vaV h3 A3 k3.length c3] X fun e w' => e = .returned (.string (str cv)) ∧ Below X.heap.size X w') := fun X _ hX => CP0.out X (below_from hz4 hX)
      clear hz4 CP0
      have gss : (S.data.toList == S.data.toList) = true := by simp
      rcases hbq : bb with _ | _
      · have l0 : ¬ S.size = 0 := fun e => by have h1 := HBB.out; rw [hbq] at h1; have h2 := of_decide_eq_false h1; exact h2 (List.eq_nil_of_length_eq_zero (by rw [sl_]; exact e))
        have t2 := sl_full l0
        clear l0 hbq HBB HVV
        obtain ⟨y0, y1, y2⟩ := va_at_box Ey5_.out
        obtain ⟨p0, p1, p2⟩ := va_at_box Ep5_.out
        have fy0 := fun p : BelowBy X4 => BelowBy.cell y0 p
        have fy1 := fun p : BelowBy X4 => BelowBy.cell y1 p
        have fy2 := fun p : BelowBy X4 => BelowBy.cell y2 p
        have fp0 := fun p : BelowBy X4 => BelowBy.cell p0 p
        have fp1 := fun p : BelowBy X4 => BelowBy.cell p1 p
        have fp2 := fun p : BelowBy X4 => BelowBy.cell p2 p
        go_wp2_with fail
        refine wp_region_below (by kernel_rfl) (by kernel_rfl) (Below.refl _ _) ?_
        repeat (go_big_quiet_step (first | (go_at_call 14; with_reducible exact Calls.below_of (CP.out _ (below_from HB5_.out (BelowBy.h _)) (BelowBy.h _))) | (go_at_call 14; with_reducible exact Calls.below_of (CC.out _ (below_from HB5_.out (BelowBy.h _)))) | (go_at_call 7; exact Calls.below_of (CA.out _ (below_from HB5_.out (BelowBy.h _)))) | fail))
        refine wpQuiet_nil ?_
        intro _ hw1
        obtain ⟨⟨wq, hq⟩, hw2⟩ := hw1
        subst hw2
        have hb := below_from HW.out (below_from HB5_.out hq)
        go_wp2_with fail
        go_ret
        exact ⟨by simp, hb⟩
      · have l0 : S.size = 0 := by have h1 := HBB.out; rw [hbq] at h1; have h2 := of_decide_eq_true h1; rw [← sl_, h2]; rfl
        have t2 := sl_empty l0
        clear l0 hbq HBB HVV
        obtain ⟨y0, y1, y2⟩ := va_at_box Ey5_.out
        obtain ⟨p0, p1, p2⟩ := va_at_box Ep5_.out
        have fy0 := fun p : BelowBy X4 => BelowBy.cell y0 p
        have fy1 := fun p : BelowBy X4 => BelowBy.cell y1 p
        have fy2 := fun p : BelowBy X4 => BelowBy.cell y2 p
        have fp0 := fun p : BelowBy X4 => BelowBy.cell p0 p
        have fp1 := fun p : BelowBy X4 => BelowBy.cell p1 p
        have fp2 := fun p : BelowBy X4 => BelowBy.cell p2 p
        go_wp2_with fail
        refine wp_region_below (by kernel_rfl) (by kernel_rfl) (Below.refl _ _) ?_
        repeat (go_big_quiet_step (first | (go_at_call 14; with_reducible exact Calls.below_of (CP.out _ (below_from HB5_.out (BelowBy.h _)) (BelowBy.h _))) | (go_at_call 14; with_reducible exact Calls.below_of (CC.out _ (below_from HB5_.out (BelowBy.h _)))) | (go_at_call 7; exact Calls.below_of (CA.out _ (below_from HB5_.out (BelowBy.h _)))) | fail))
        refine wpQuiet_nil ?_
        intro _ hw1
        obtain ⟨⟨wq, hq⟩, hw2⟩ := hw1
        subst hw2
        have hb := below_from HW.out (below_from HB5_.out hq)
        go_wp2_with fail
        go_ret
        exact ⟨by simp, hb⟩
namespace lawBitsTails
open Go.ChangeShapes Go.WideShapes Go.ChangeAt
open Go.ChangeMaps (open_string)
set_option maxRecDepth 100000 in
theorem contract (H : Type) (enc : TypeId × Value → H) (W : World) (base : Nat) (args : Array Value) (ds gs : List (DataW H)) (before : List MemPlace)
    (hval : ∀ (j : Nat) t v, Tryd.f5.params[j]? = some t → args[j]? = some v → Value.okWide Tryd.prog W .any base t v)
    (hW : DataW.Whole enc Tryd.prog Tryd.f5.params.toList Rows.bitsTailsSpec.vars false W args.toList ds gs before) (hL : laidMetH Tryd.prog Rows.bitsTailsUptoRow.laid W) (hk : Rows.uptoSmall H (ds ++ gs) = true) :
    Calls Tryd.prog 5 args W fun e W' => ∃ v, e = .returned v ∧ Rows.bitsTailsSpec.post enc Tryd.prog Tryd.f5 false true false false W args v W' := by
  have hW' := hW
  obtain ⟨p, q, hA0, hV, rfl, hfz, hnd⟩ := hW
  have hA : DataW.TrodAll enc Tryd.prog W 0 (fun _ => true) true Tryd.f5.params.toList args.toList ds p := hA0
  rw [Tryd.params5] at hA hval
  obtain ⟨v0, vs0, d0, ds0, p0, q0, hargs, rfl, rfl, h0, r0⟩ := trodAll_cons hA
  obtain ⟨v1, vs1, d1, ds1, p1, q1, rfl, rfl, rfl, h1, r1⟩ := trodAll_cons r0
  obtain ⟨v2, vs2, d2, ds2, p2, q2, rfl, rfl, rfl, h2, r2⟩ := trodAll_cons r1
  obtain ⟨rfl, rfl, rfl⟩ := trodAll_nil r2
  obtain rfl : args = #[v0, v1, v2] := by cases args; simp_all
  obtain ⟨rfl, rfl⟩ := trodVars_none hV
  have hkk : Rows.uptoBulk d0 + Rows.uptoBulk d1 + Rows.uptoBulk d2 ≤ 1048576 := by simp [Rows.uptoSmall, Rows.uptoBulkAll] at hk; omega
  obtain ⟨x, kx, A0, c0, rfl, hc0, hr0, hz0⟩ := open_re (hval 0 27 v0 rfl rfl) h0
  obtain ⟨v, kv, A1, c1, rfl, hc1, hr1, hz1⟩ := open_val (hval 1 32 v1 rfl rfl) h1
  obtain ⟨s, rfl, rfl, rfl, hs2⟩ := open_string Tryd.underlying9 (hval 2 9 v2 rfl rfl) h2
  have HT : TzOk W := tz_of_laid hL
  refine (bitsTails_walk x kx A0 c0 v kv A1 c1 s W (by omega) hc0 hr0 (by omega) hc1 hr1 HT).mono fun e W' ⟨he, hb⟩ => ?_
  subst he
  exact ⟨_, rfl, post_true Tryd.laidOut (by rw [Tryd.params5]; intro t ht; simp at ht; rcases ht with rfl | rfl | rfl <;> exact ⟨by kernel_rfl, of_decide_eq_true (by kernel_rfl)⟩) hW' rfl rfl rfl Tryd.underlying4 hb⟩
theorem laid_met (os : Os) : laidMet Tryd.prog Rows.bitsTailsUptoRow.laid ((tzWorld os).forCall (fun _ _ => 0) ⟨#[], #[.agg #[.int .u8 0, .int .u64 0, .int .u64 0, .int .u64 0, .int .u64 0, .slice none 0 0], .agg #[.int .u8 0, .int .u8 0, .slice none 0 0], .string ByteArray.empty], []⟩).memory :=
  laidMet_of_run' 70 (by kernel_rfl) (by kernel_rfl)
theorem reads (os : Os) {H : Type} (enc : TypeId × Value → H) : ∃ places, DataW.whole enc Tryd.prog ((tzWorld os).forCall (fun _ _ => 0) ⟨#[], #[.agg #[.int .u8 0, .int .u64 0, .int .u64 0, .int .u64 0, .int .u64 0, .slice none 0 0], .agg #[.int .u8 0, .int .u8 0, .slice none 0 0], .string ByteArray.empty], []⟩).memory Tryd.f5.params.toList Rows.bitsTailsSpec.vars false (#[.agg #[.int .u8 0, .int .u64 0, .int .u64 0, .int .u64 0, .int .u64 0, .slice none 0 0], .agg #[.int .u8 0, .int .u8 0, .slice none 0 0], .string ByteArray.empty] : Array Value).toList 8 = some ([.agg [.lit (.int .u8 0), .agg [.lit (.int .u64 0), .lit (.int .u64 0), .lit (.int .u64 0), .lit (.int .u64 0)], .nil], .agg [.lit (.int .u8 0), .lit (.int .u8 0), .nil], .lit (.string [])], [], places) :=
  ⟨[], by kernel_rfl⟩
set_option maxRecDepth 100000 in
theorem lifted (os : Os) (started : os.Started) (H : Type) (enc : TypeId × Value → H) (F : Stop.Interp) :
    ReturnsInHanded {} Tryd.checked os 5 .any ((Rows.OpenSpec.upto Rows.bitsTailsSpec).preRow enc Tryd.prog Tryd.f5 Rows.bitsTailsUptoRow.domain false Rows.bitsTailsUptoRow.laid) (((Rows.OpenSpec.upto Rows.bitsTailsSpec).at F).post enc Tryd.prog Tryd.f5 false true false false) := by
  obtain ⟨places, hx⟩ := reads os enc
  refine returnsInHanded_of_row (C := Tryd.checked) (s := Rows.OpenSpec.upto Rows.bitsTailsSpec) Tryd.own started (by kernel_rfl) Tryd.func5
    (witness_row_at (enc := enc) (C := Tryd.checked) false (tzWorld os) #[.agg #[.int .u8 0, .int .u64 0, .int .u64 0, .int .u64 0, .int .u64 0, .slice none 0 0], .agg #[.int .u8 0, .int .u8 0, .slice none 0 0], .string ByteArray.empty] rfl (by kernel_rfl) (by kernel_rfl) (by kernel_rfl)
      (OpenSpec.preRow_of_cond 8 hx (by kernel_rfl) (fun k hk => by cases hk; kernel_rfl) (by kernel_rfl) (laid_met os))) ?_
  intro W base args ds gs before hval hW _ hcond _ hL _ _
  exact contract H enc W base args ds gs before hval hW hL (hcond _ rfl)
theorem said : Rows.BitsTailsUptoSaid :=
  OpenClaim.holds_of_cond 5 Tryd.f5 rfl rfl rfl rfl rfl rfl rfl ⟨rfl, rfl, rfl, rfl, rfl⟩ rfl rfl rfl rfl rfl (by kernel_rfl) Tryd.func5 (by kernel_rfl)
    (of_decide_eq_true (by kernel_rfl)) (by unfold Func.isWrapper; first | (rw [if_pos (by decide +kernel)]; kernel_rfl) | (rw [if_neg (by decide +kernel)]; exact ⟨rfl, rfl⟩))
    (fun os started H enc _ F => by rw [OpenClaim.pre_eq_preRow]; exact lifted os started H enc F)
theorem plain (f : FuncId) (fn : Func) (hf : Tryd.pinned.checked.prog.funcNamed "quill/quilllaw15.BitsTails" = some f) (hfn : Tryd.pinned.checked.prog.funcs[f]? = some fn) :
    true = Tryd.pinned.checked.prog.looks [] ∧ ∀ (j : Nat) t, fn.params[j]? = some t → Tryd.pinned.checked.prog.wantsStandIn t = false := by
  obtain rfl : f = 5 := Option.some.inj ((show Tryd.prog.funcNamed "quill/quilllaw15.BitsTails" = some 5 by kernel_rfl).symm.trans hf) |>.symm
  obtain rfl : fn = Tryd.f5 := (Option.some.inj (Tryd.func5.symm.trans hfn)).symm
  refine ⟨by kernel_rfl, fun j t ht => ?_⟩
  rw [Tryd.params5] at ht
  have hm := Array.mem_of_getElem? ht
  simp at hm
  rcases hm with rfl | rfl | rfl
  · exact (show Tryd.prog.wantsStandIn 27 = false by kernel_rfl)
  · exact (show Tryd.prog.wantsStandIn 32 = false by kernel_rfl)
  · exact (show Tryd.prog.wantsStandIn 9 = false by kernel_rfl)
theorem proved : Rows.BitsTailsUptoCardSaid :=
  Claim7.holds_tied_plain_at .later [] _ _ _ _ said (fun _ h => by cases h) (by kernel_rfl) (fun _ h => by cases h) bitsTailsUpto_row_tie rfl ⟨rfl, rfl⟩ (by kernel_rfl) rfl plain (by kernel_rfl)
end lawBitsTails
end Go.Proofs.YteokbmngebckjaaDoor
