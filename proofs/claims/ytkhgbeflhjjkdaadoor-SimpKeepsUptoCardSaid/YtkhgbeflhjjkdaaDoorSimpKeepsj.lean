/- What is made simpler has no more nodes, the same Ends, and stands for what fits the same texts. For every input that is not too large. -/
import Derived.Test.YtkhgbeflhjjkdaaDoorBp
import Derived.Test.YtkhgbeflhjjkdaaDoorBs
import Derived.Test.YtkhgbeflhjjkdaaDoorBh
import Derived.Test.YtkhgbeflhjjkdaaDoorBf
import Derived.Test.YtkhgbeflhjjkdaaDoorBg
namespace Go.Proofs.YtkhgbeflhjjkdaaDoor
open Go.RowKit
set_option linter.unusedVariables false
set_option linter.unusedSimpArgs false

theorem new_atK {w : World} {N : Nat} {o : Obj} (h : N = w.heap.size) : (w.alloc o).heap[N]? = some o := by rw [h]; exact new_at1 o
theorem drew_atK {w : World} {N : Nat} {o : Option Obj} (h : w.heap[N]? = o) : w.drew.heap[N]? = o := h
theorem may_bare {t : Co} (h : okC t = true) (hz : t.size ≤ 900) : mayB (bareT t) = true := by
  have h1 := bare_ok t h
  have h2 := bare_size t
  unfold mayB
  simp only [Bool.and_eq_true, decide_eq_true_eq]
  exact ⟨h1, by omega⟩
theorem bare_sizesK {t : Co} (hz : t.size ≤ 900) (h : RH) (k : List Re) (e : bareT t = .mk h k) : T.sizes k ≤ 900000 := by
  have h2 := bare_size t
  rw [e] at h2
  simp only [T.size] at h2
  omega
theorem great_pot30 {t : Co} (h : greatC 30 t = false) (ho : okC t = true) : potV t + 2 * potS t ≤ 1000000000 := by
  obtain ⟨hz, hb⟩ := great_few (m := 30) h
  obtain ⟨a, b⟩ := potV_le (m := 100) t ho hb
  have a1 : t.size * (100 + 1) ≤ 30 * 101 := Nat.mul_le_mul hz (by omega)
  have a2 : t.size * (t.size * (100 + 1)) ≤ 30 * (30 * 101) := Nat.mul_le_mul hz a1
  omega
set_option maxRecDepth 100000 in
set_option maxHeartbeats 16000000 in
theorem simpKeeps_walk (h : CH) (ks : List Co) (A : Option Addr) (c : Nat) (S : ByteArray) (w : World) (hm : T.sizes ks ≤ 1048576) (hc : ks.length ≤ c) (hr : InRow CE (fun _ => True) w ks A 0) :
    Calls Tryd.prog 3 #[coV h A ks.length c, .string S] w fun e w' => e = .returned (.bool true) ∧ Below w.heap.size w w' := by
  obtain ⟨W, hW⟩ : ∃ W, w.alloc (.cells (coA h A ks.length c) 27) = W := ⟨_, rfl⟩
  have hbW : Below w.heap.size w W := by rw [← hW]; exact below_new (Below.refl _ _) _
  have e1 : W.heap[w.heap.size]? = some (.cells (coA h A ks.length c) 27 (0, 0)) := by rw [← hW]; exact new_at1 _
  have CG : Hid (∀ X, Below W.heap.size W X → Calls Tryd.prog 10 #[coV h A ks.length c, .int .i64 30] X fun e w' => e = .returned (.bool (greatC 30 (.mk h ks))) ∧ Below X.heap.size X w') := fun X hX => cGreat_any h ks A c 30 X (by omega) hc (hr.below (below_from hbW hX))
  have CA : Hid (∀ X, Below W.heap.size W X → Calls Tryd.prog 12 #[] X fun e w' => e = .returned (.bool true) ∧ Below X.heap.size X w') := fun X hX => awake18_any X
  have Q1 : Hid (∀ X, Below W.heap.size W X → X.cell? ⟨w.heap.size, 0, none⟩ = some (.int .u8 (h.k.toNat : Int)) ∧ X.cell? ⟨w.heap.size, 1, none⟩ = some (.string (str h.b)) ∧ X.cell? ⟨w.heap.size, 2, none⟩ = some (.int .u64 (h.s.a.toNat : Int)) ∧ X.cell? ⟨w.heap.size, 3, none⟩ = some (.int .u64 (h.s.b.toNat : Int)) ∧ X.cell? ⟨w.heap.size, 4, none⟩ = some (.int .u64 (h.s.c.toNat : Int)) ∧ X.cell? ⟨w.heap.size, 5, none⟩ = some (.int .u64 (h.s.d.toNat : Int)) ∧ X.cell? ⟨w.heap.size, 6, none⟩ = some (.slice A ks.length c)) := by
    intro X hX
    obtain ⟨x0, x1, x2, x3, x4, x5, x6⟩ := co_at_box ((hX.block _ (lt_of_block e1)).trans e1)
    exact ⟨x0, x1, x2, x3, x4, x5, x6⟩
  have HR := Lib.hid hr
  have HW := Lib.hid hbW
  have HE := Lib.hid hW
  have E1 := Lib.hid e1
  clear hW hr hbW e1
  rcases hg : greatC 30 (.mk h ks) with _ | _
  · have hgf := great_few (m := 30) hg
    have hsh : shortC (.mk h ks) := fun x hx => Nat.le_trans (hgf.2 x hx) (by decide)
    have hpot := fun ho => great_pot30 hg ho
    have CM : Hid (∀ X, Below W.heap.size W X → Calls Tryd.prog 11 #[coV h A ks.length c] X fun e w' => e = .returned (.bool (mayC (.mk h ks))) ∧ Below X.heap.size X w') := fun X hX => refMayC_any h ks A c X (by omega) hc (HR.out.below (below_from HW.out hX)) hsh
    rw [hg] at CG
    by_cases ls : 6 < S.size
    · have gls : decide (((S.size : Nat) : Int) > 6) = true := by simp; omega
      clear hg hgf hsh hpot CM
      go_enter Tryd.func3, Tryd.ntmps3
      go_wp2_with fail
      rw [HE.out]
      refine (CG.out _ (Below.refl _ _)).mono ?_
      rintro e w0 ⟨rfl, hb0⟩
      have HB0 := Lib.hid hb0
      clear hb0
      go_wp2_with fail
      refine (CA.out _ HB0.out).mono ?_
      rintro e w4 ⟨rfl, hb4⟩
      have hb := below_from HW.out (below_from HB0.out hb4)
      clear hb4
      go_wp2_with fail
      go_ret
      exact ⟨rfl, hb⟩
    have gls : decide (((S.size : Nat) : Int) > 6) = false := by simp; omega
    have hS : S.size ≤ 100 := by omega
    rcases hmy : mayC (.mk h ks) with _ | _
    · rw [hmy] at CM
      clear hg hgf hsh hpot hmy
      go_enter Tryd.func3, Tryd.ntmps3
      go_wp2_with fail
      rw [HE.out]
      refine (CG.out _ (Below.refl _ _)).mono ?_
      rintro e w0 ⟨rfl, hb0⟩
      have HB0 := Lib.hid hb0
      obtain ⟨x0, x1, x2, x3, x4, x5, x6⟩ := Q1.out _ hb0
      clear hb0
      go_wp2_with fail
      refine (CM.out _ HB0.out).mono ?_
      rintro e w0' ⟨rfl, hb0'⟩
      have HB1 := Lib.hid (below_from HB0.out hb0')
      clear hb0' x0 x1 x2 x3 x4 x5 x6
      go_wp2_with fail
      refine (CA.out _ HB1.out).mono ?_
      rintro e w4 ⟨rfl, hb4⟩
      have hb := below_from HW.out (below_from HB1.out hb4)
      clear hb4
      go_wp2_with fail
      go_ret
      exact ⟨rfl, hb⟩
    rw [hmy] at CM
    have hok := (may_okC hmy).1
    have hoks := simp_ok _ hok
    have hszs := simp_size _ hok
    have hps := simp_pot _ hok
    have hpc := hpot hok
    have hz0 := hgf.1
    have CP : Hid (∀ X, Below W.heap.size W X → Calls Tryd.prog 13 #[coV h A ks.length c] X (SimpPost (fun _ => True) (.mk h ks) true X)) := fun X hX => by
      have := simpS_any h ks A c X (by omega) hc (HR.out.below (below_from HW.out hX)) hsh (fun ho => by have := hpot ho; omega)
      rw [hmy] at this
      exact this
    obtain ⟨es, ev, hev⟩ : ∃ es ev, endsV (endsC (.mk h ks)) = .tuple #[.string es, .bool ev] := by
      cases endsC (.mk h ks) with
      | none => exact ⟨_, _, rfl⟩
      | some u => exact ⟨_, _, rfl⟩
    have CE1 : Hid (∀ X, Below W.heap.size W X → Calls Tryd.prog 14 #[coV h A ks.length c] X fun e w' => e = .returned (.tuple #[.string es, .bool ev]) ∧ Below X.heap.size X w') := fun X hX => by
      have := cEnds_any h ks A c X (by omega) hc (HR.out.below (below_from HW.out hX)) hsh (by omega)
      rw [show endsM (.mk h ks) = endsC (.mk h ks) by unfold endsM; rw [if_pos hmy], hev] at this
      exact this
    have HXT : Hid (simpMT (.mk h ks) = simpC (.mk h ks)) := by unfold Hid simpMT; rw [if_pos hmy]
    have CE2 : Hid (∀ (h1 : CH) (k1 : List Co) (A1 : Option Addr) (c1 : Nat) (X : World), simpC (.mk h ks) = .mk h1 k1 → k1.length ≤ c1 → InRow CE (fun _ => True) X k1 A1 0 → Calls Tryd.prog 14 #[coV h1 A1 k1.length c1] X fun e w' => e = .returned (.tuple #[.string es, .bool ev]) ∧ Below X.heap.size X w') := fun h1 k1 A1 c1 X ex hc1 hr1 => by
      have hm1 : (T.mk h1 k1 : Co).size ≤ 30 := by rw [← ex]; exact Nat.le_trans hszs hz0
      have hoe : okC (.mk h1 k1) = true := by rw [← ex]; exact hoks
      have hpe : potV (T.mk h1 k1) + potS (T.mk h1 k1) ≤ 1000000000 := by rw [← ex]; omega
      have := cEnds_any h1 k1 A1 c1 X (by simp only [T.size] at hm1; omega) hc1 hr1 (pot_short hoe hpe) (by omega)
      rw [show endsM (.mk h1 k1) = endsC (.mk h ks) by unfold endsM mayC; rw [hoe, ← ex, simp_ends hok, if_pos (by simp; omega)], hev] at this
      exact this
    obtain ⟨nx, hnx⟩ : ∃ nx, (simpC (.mk h ks)).size = nx := ⟨_, rfl⟩
    obtain ⟨nc, hnc⟩ : ∃ nc, (T.mk h ks : Co).size = nc := ⟨_, rfl⟩
    have gnn : decide ((nx : Int) > (nc : Int)) = false := by simp; omega
    have gnn2 : decide (nc < nx) = false := by simp; omega
    have gnn3 : decide ((nc : Int) < (nx : Int)) = false := by simp; omega
    have hle : nx ≤ nc := by omega
    have CZ1 : Hid (∀ (h1 : CH) (k1 : List Co) (A1 : Option Addr) (c1 N : Nat) (X : World), simpC (.mk h ks) = .mk h1 k1 → k1.length ≤ c1 → InRow CE (fun _ => True) X k1 A1 0 → X.heap[N]? = some (.cells (coA h1 A1 k1.length c1) 27 (0, 0)) → Calls Tryd.prog 15 #[.slice (some ⟨N, 0, none⟩) 1 1] X fun e w' => e = .returned (.int .i64 (nx : Int)) ∧ Below X.heap.size X w') := fun h1 k1 A1 c1 N X ex hc1 hr1 hN => by
      have hm1 : (T.mk h1 k1 : Co).size ≤ 30 := by rw [← ex]; exact Nat.le_trans hszs hz0
      have := cSize_upto 1000 (fun _ => True) [.mk h1 k1] (some ⟨N, 0, none⟩) 1 X (by simp only [T.sizes]; omega) (by decide) (co_one hN trivial hc1 hr1)
      rw [show T.sizes [T.mk h1 k1] = nx by rw [← ex]; simp only [T.sizes]; omega] at this
      exact this
    have CZ2 : Hid (∀ (N : Nat) (X : World), Below W.heap.size W X → X.heap[N]? = some (.cells (coA h A ks.length c) 27 (0, 0)) → Calls Tryd.prog 15 #[.slice (some ⟨N, 0, none⟩) 1 1] X fun e w' => e = .returned (.int .i64 (nc : Int)) ∧ Below X.heap.size X w') := fun N X hX hN => by
      have := cSize_upto 1000 (fun _ => True) [.mk h ks] (some ⟨N, 0, none⟩) 1 X (by simp only [T.sizes]; omega) (by decide) (co_one hN trivial hc (HR.out.below (below_from HW.out hX)))
      rw [show T.sizes [T.mk h ks] = nc by simp only [T.sizes]; omega] at this
      exact this
    have HBZ2 : Hid (∀ (h6 : RH) (k6 : List Re), bareT (.mk h ks) = .mk h6 k6 → T.sizes k6 ≤ 900000) := fun h6 k6 e => bare_sizesK (by omega) h6 k6 e
    have HBZ0 : Hid (∀ (h5 : RH) (k5 : List Re), bareT (simpC (.mk h ks)) = .mk h5 k5 → T.sizes k5 ≤ 900000) := fun h5 k5 e => bare_sizesK (by omega) h5 k5 e
    have HBB0 : Hid (∀ b1 b2 : Bool, (b1 = true ↔ (mayB (bareT (simpC (.mk h ks))) = true ∧ LT (bareT (simpC (.mk h ks))) S.data.toList)) → (b2 = true ↔ (mayB (bareT (.mk h ks)) = true ∧ LT (bareT (.mk h ks)) S.data.toList)) → b2 = b1) := fun b1 b2 h1 h2 => by
      rw [may_bare hoks (by omega), ← LC_bare _ hoks, simp_L _ hok] at h1
      rw [may_bare hok (by omega), ← LC_bare _ hok] at h2
      rw [Bool.eq_iff_iff, h1, h2]
    have CB2 : Hid (∀ X, Below W.heap.size W X → Calls Tryd.prog 17 #[coV h A ks.length c] X (ReNew (bareT (.mk h ks)) X)) := fun X hX => refBareC_upto (1 + T.sizes ks) (fun _ => True) h ks A c X (Nat.le_refl _) (by omega) hc (HR.out.below (below_from HW.out hX))
    have CB0 : Hid (∀ (h1 : CH) (k1 : List Co) (A1 : Option Addr) (c1 : Nat) (X : World), simpC (.mk h ks) = .mk h1 k1 → k1.length ≤ c1 → InRow CE (fun _ => True) X k1 A1 0 → Calls Tryd.prog 17 #[coV h1 A1 k1.length c1] X (ReNew (bareT (.mk h1 k1)) X)) := fun h1 k1 A1 c1 X ex hc1 hr1 => by
      have hm1 : (T.mk h1 k1 : Co).size ≤ 30 := by rw [← ex]; exact Nat.le_trans hszs hz0
      simp only [T.size] at hm1
      exact refBareC_upto (1 + T.sizes k1) (fun _ => True) h1 k1 A1 c1 X (Nat.le_refl _) (by omega) hc1 hr1
    clear hg hgf hsh hpot hmy hok hoks hszs hps hpc hz0 hnx hnc hev ls HR
    go_enter Tryd.func3, Tryd.ntmps3
    go_wp2_with fail
    rw [HE.out]
    refine (CG.out _ (Below.refl _ _)).mono ?_
    rintro e w0 ⟨rfl, hb0⟩
    have HB0 := Lib.hid hb0
    obtain ⟨x0, x1, x2, x3, x4, x5, x6⟩ := Q1.out _ hb0
    clear hb0 CG
    go_wp2_with fail
    refine (CM.out _ HB0.out).mono ?_
    rintro e w0' ⟨rfl, hb0'⟩
    have HB1 := Lib.hid (below_from HB0.out hb0')
    clear hb0' x0 x1 x2 x3 x4 x5 x6 HB0 CM
    obtain ⟨x0, x1, x2, x3, x4, x5, x6⟩ := Q1.out _ HB1.out
    go_wp2_with fail
    refine (CP.out _ HB1.out).mono ?_
    rintro e w1 ⟨h1, k1, A1, c1, rfl, ex1, hc1, hr1, hb1⟩
    obtain ⟨U, hU⟩ : ∃ U, w1.alloc (.cells (coA h1 A1 k1.length c1) 27) = U := ⟨_, rfl⟩
    have hbU : Below w1.heap.size w1 U := by rw [← hU]; exact below_new (Below.refl _ _) _
    have n1 : U.heap[w1.heap.size]? = some (.cells (coA h1 A1 k1.length c1) 27 (0, 0)) := by rw [← hU]; exact new_at1 _
    have HBU := Lib.hid (below_from (below_from HB1.out hb1) hbU)
    have N1 := Lib.hid n1
    have HU := Lib.hid hU
    have HR1 := Lib.hid ((hr1.below hbU).weak (ok' := fun _ => True) fun _ _ => trivial)
    have EX1 : Hid (simpC (.mk h ks) = .mk h1 k1) := by unfold Hid; rw [← HXT.out]; exact ex1
    clear x0 x1 x2 x3 x4 x5 x6 hU hbU n1 hb1 hr1 ex1 HB1 CP HXT
    go_upto_region 4 with fail
    rw [show w1.alloc _ = U from HU.out]
    obtain ⟨b5, hb5⟩ : ∃ b5, w1.heap.size = b5 := ⟨_, rfl⟩
    rw [hb5] at N1 ⊢
    obtain ⟨x0, x1, x2, x3, x4, x5, x6⟩ := Q1.out _ HBU.out
    clear hb5 HU
    go_wp2_with fail
    refine (CE1.out _ HBU.out).mono ?_
    rintro e w2 ⟨rfl, hb2⟩
    have HB2 := Lib.hid hb2
    obtain ⟨p0, p1, p2, p3, p4, p5, p6⟩ := co_at_box ((hb2.block _ (lt_of_block N1.out)).trans N1.out)
    have CE2' := Lib.hid (CE2.out h1 k1 A1 c1 w2 EX1.out hc1 (HR1.out.below hb2))
    clear x0 x1 x2 x3 x4 x5 x6 hb2 CE1 CE2
    go_wp2_with fail
    refine CE2'.out.mono ?_
    rintro e V ⟨rfl, hb3⟩
    have hz3 := below_from HB2.out hb3
    have HBV := Lib.hid (below_from HBU.out hz3)
    have HR13 := Lib.hid (HR1.out.below hz3)
    have N13 := Lib.hid ((hz3.block _ (lt_of_block N1.out)).trans N1.out)
    have E13 := Lib.hid ((HBV.out.block _ (lt_of_block E1.out)).trans E1.out)
    have Q : Hid (∀ X, Below V.heap.size V X → X.cell? ⟨w.heap.size, 0, none⟩ = some (.int .u8 (h.k.toNat : Int)) ∧ X.cell? ⟨w.heap.size, 1, none⟩ = some (.string (str h.b)) ∧ X.cell? ⟨w.heap.size, 2, none⟩ = some (.int .u64 (h.s.a.toNat : Int)) ∧ X.cell? ⟨w.heap.size, 3, none⟩ = some (.int .u64 (h.s.b.toNat : Int)) ∧ X.cell? ⟨w.heap.size, 4, none⟩ = some (.int .u64 (h.s.c.toNat : Int)) ∧ X.cell? ⟨w.heap.size, 5, none⟩ = some (.int .u64 (h.s.d.toNat : Int)) ∧ X.cell? ⟨w.heap.size, 6, none⟩ = some (.slice A ks.length c) ∧ X.cell? ⟨b5, 0, none⟩ = some (.int .u8 (h1.k.toNat : Int)) ∧ X.cell? ⟨b5, 1, none⟩ = some (.string (str h1.b)) ∧ X.cell? ⟨b5, 2, none⟩ = some (.int .u64 (h1.s.a.toNat : Int)) ∧ X.cell? ⟨b5, 3, none⟩ = some (.int .u64 (h1.s.b.toNat : Int)) ∧ X.cell? ⟨b5, 4, none⟩ = some (.int .u64 (h1.s.c.toNat : Int)) ∧ X.cell? ⟨b5, 5, none⟩ = some (.int .u64 (h1.s.d.toNat : Int)) ∧ X.cell? ⟨b5, 6, none⟩ = some (.slice A1 k1.length c1)) := fun X hX => by
      obtain ⟨x0, x1, x2, x3, x4, x5, x6⟩ := co_at_box ((hX.block _ (lt_of_block E13.out)).trans E13.out)
      obtain ⟨p0, p1, p2, p3, p4, p5, p6⟩ := co_at_box ((hX.block _ (lt_of_block N13.out)).trans N13.out)
      exact ⟨x0, x1, x2, x3, x4, x5, x6, p0, p1, p2, p3, p4, p5, p6⟩
    have HBZ1 : Hid (∀ (h5 : RH) (k5 : List Re), bareT (.mk h1 k1) = .mk h5 k5 → T.sizes k5 ≤ 900000) := by have := HBZ0.out; rw [EX1.out] at this; exact this
    have HBB : Hid (∀ b1 b2 : Bool, (b1 = true ↔ (mayB (bareT (.mk h1 k1)) = true ∧ LT (bareT (.mk h1 k1)) S.data.toList)) → (b2 = true ↔ (mayB (bareT (.mk h ks)) = true ∧ LT (bareT (.mk h ks)) S.data.toList)) → b2 = b1) := by have := HBB0.out; rw [EX1.out] at this; exact this
    have CZ1' : Hid (∀ N X, Below V.heap.size V X → X.heap[N]? = some (.cells (coA h1 A1 k1.length c1) 27 (0, 0)) → Calls Tryd.prog 15 #[.slice (some ⟨N, 0, none⟩) 1 1] X fun e w' => e = .returned (.int .i64 (nx : Int)) ∧ Below X.heap.size X w') := fun N X hX hN => CZ1.out h1 k1 A1 c1 N X EX1.out hc1 (HR13.out.below hX) hN
    have CZ2' : Hid (∀ N X, Below V.heap.size V X → X.heap[N]? = some (.cells (coA h A ks.length c) 27 (0, 0)) → Calls Tryd.prog 15 #[.slice (some ⟨N, 0, none⟩) 1 1] X fun e w' => e = .returned (.int .i64 (nc : Int)) ∧ Below X.heap.size X w') := fun N X hX hN => CZ2.out N X (below_from HBV.out hX) hN
    have CB1 : Hid (∀ X, Below V.heap.size V X → Calls Tryd.prog 17 #[coV h1 A1 k1.length c1] X (ReNew (bareT (.mk h1 k1)) X)) := fun X hX => CB0.out h1 k1 A1 c1 X EX1.out hc1 (HR13.out.below hX)
    have CB2 := Lib.hid (fun X (hX : Below V.heap.size V X) => CB2.out X (below_from HBV.out hX))
    have gev : (ev != ev) = false := by cases ev <;> rfl
    clear p0 p1 p2 p3 p4 p5 p6 hb3 hz3 HB2 CE2' HBZ0 HBB0 CB0 CZ1 CZ2 N1 EX1 HBU HR1
    go_upto_region 6 with fail
    have hz := Below.refl V.heap.size V
    obtain ⟨x0, x1, x2, x3, x4, x5, x6, p0, p1, p2, p3, p4, p5, p6⟩ := Q.out _ hz
    go_region_held3 (fun X => X.cell? ⟨w.heap.size, 0, none⟩ = some (.int .u8 (h.k.toNat : Int)) ∧ X.cell? ⟨w.heap.size, 1, none⟩ = some (.string (str h.b)) ∧ X.cell? ⟨w.heap.size, 2, none⟩ = some (.int .u64 (h.s.a.toNat : Int)) ∧ X.cell? ⟨w.heap.size, 3, none⟩ = some (.int .u64 (h.s.b.toNat : Int)) ∧ X.cell? ⟨w.heap.size, 4, none⟩ = some (.int .u64 (h.s.c.toNat : Int)) ∧ X.cell? ⟨w.heap.size, 5, none⟩ = some (.int .u64 (h.s.d.toNat : Int)) ∧ X.cell? ⟨w.heap.size, 6, none⟩ = some (.slice A ks.length c) ∧ X.cell? ⟨b5, 0, none⟩ = some (.int .u8 (h1.k.toNat : Int)) ∧ X.cell? ⟨b5, 1, none⟩ = some (.string (str h1.b)) ∧ X.cell? ⟨b5, 2, none⟩ = some (.int .u64 (h1.s.a.toNat : Int)) ∧ X.cell? ⟨b5, 3, none⟩ = some (.int .u64 (h1.s.b.toNat : Int)) ∧ X.cell? ⟨b5, 4, none⟩ = some (.int .u64 (h1.s.c.toNat : Int)) ∧ X.cell? ⟨b5, 5, none⟩ = some (.int .u64 (h1.s.d.toNat : Int)) ∧ X.cell? ⟨b5, 6, none⟩ = some (.slice A1 k1.length c1))
      ((refine Q.out _ ?_; (repeat (first | with_reducible exact hz | with_reducible refine Below.drew ?_ | with_reducible refine below_new ?_ _))))
      (first
        | (go_at_call 15; (with_reducible refine (CZ1'.out _ _ ?_ ?_).mono ?_); (repeat (first | with_reducible exact hz | with_reducible refine Below.drew ?_ | with_reducible refine below_new ?_ _)); (· (first | ((refine new_atK ?_); (first | rfl | exact (World.size_alloc _ _).symm)) | ((refine heap_keep1 (new_atK ?_) _); (first | rfl | exact (World.size_alloc _ _).symm)))); rintro e wi ⟨rfl, hbi⟩; have hz : Below V.heap.size V wi := (by refine below_from ?_ hbi; (repeat (first | with_reducible exact hz | with_reducible refine Below.drew ?_ | with_reducible refine below_new ?_ _))); obtain ⟨x0, x1, x2, x3, x4, x5, x6, p0, p1, p2, p3, p4, p5, p6⟩ := Q.out _ hz)
        | (go_at_call 15; (with_reducible refine (CZ2'.out _ _ ?_ ?_).mono ?_); (repeat (first | with_reducible exact hz | with_reducible refine Below.drew ?_ | with_reducible refine below_new ?_ _)); (· (first | (first | ((refine new_atK ?_); (first | rfl | exact (World.size_alloc _ _).symm)) | ((refine heap_keep1 (new_atK ?_) _); (first | rfl | exact (World.size_alloc _ _).symm))) | ((refine (hbi.block _ (lt_of_block (o := .cells (coA h A ks.length c) 27 (0, 0)) ?_)).trans ?_) <;> (try refine drew_atK ?_) <;> (first | ((refine new_atK ?_); (first | rfl | exact (World.size_alloc _ _).symm)) | ((refine heap_keep1 (new_atK ?_) _); (first | rfl | exact (World.size_alloc _ _).symm)))))); rintro e wj ⟨rfl, hbj⟩; have hz : Below V.heap.size V wj := (by refine below_from ?_ hbj; (repeat (first | with_reducible exact hz | with_reducible refine Below.drew ?_ | with_reducible refine below_new ?_ _))); obtain ⟨x0, x1, x2, x3, x4, x5, x6, p0, p1, p2, p3, p4, p5, p6⟩ := Q.out _ hz)
        | fail)
    all_goals
      have HZ6 := Lib.hid hz
      clear x0 x1 x2 x3 x4 x5 x6 p0 p1 p2 p3 p4 p5 p6 hbi hbj hz
      go_upto_region 8 with fail
      have hz := HZ6.out
      refine wp_region_held_drew (S := fun X => X.cell? ⟨w.heap.size, 0, none⟩ = some (.int .u8 (h.k.toNat : Int)) ∧ X.cell? ⟨w.heap.size, 1, none⟩ = some (.string (str h.b)) ∧ X.cell? ⟨w.heap.size, 2, none⟩ = some (.int .u64 (h.s.a.toNat : Int)) ∧ X.cell? ⟨w.heap.size, 3, none⟩ = some (.int .u64 (h.s.b.toNat : Int)) ∧ X.cell? ⟨w.heap.size, 4, none⟩ = some (.int .u64 (h.s.c.toNat : Int)) ∧ X.cell? ⟨w.heap.size, 5, none⟩ = some (.int .u64 (h.s.d.toNat : Int)) ∧ X.cell? ⟨w.heap.size, 6, none⟩ = some (.slice A ks.length c) ∧ X.cell? ⟨b5, 0, none⟩ = some (.int .u8 (h1.k.toNat : Int)) ∧ X.cell? ⟨b5, 1, none⟩ = some (.string (str h1.b)) ∧ X.cell? ⟨b5, 2, none⟩ = some (.int .u64 (h1.s.a.toNat : Int)) ∧ X.cell? ⟨b5, 3, none⟩ = some (.int .u64 (h1.s.b.toNat : Int)) ∧ X.cell? ⟨b5, 4, none⟩ = some (.int .u64 (h1.s.c.toNat : Int)) ∧ X.cell? ⟨b5, 5, none⟩ = some (.int .u64 (h1.s.d.toNat : Int)) ∧ X.cell? ⟨b5, 6, none⟩ = some (.slice A1 k1.length c1)) (by kernel_rfl) (Q.out _ hz.drew) (fun hHeld => ?_)
      refine wpAnyH_take (i := 0) (oi := ⟨some 60, _, _, _, _, _⟩) (v := coV h1 A1 k1.length c1) rfl (by kernel_rfl) (by kernel_rfl) (by kernel_rfl) (fun _ _ _ h => h) (Or.inl ⟨by rfl, ?_⟩) (by assumption) ?_
      · intro wx hSw
        obtain ⟨x0, x1, x2, x3, x4, x5, x6, p0, p1, p2, p3, p4, p5, p6⟩ := hSw
        first | (go_simp; done) | (go_simp; with_reducible rfl) | (go_simp; exact ⟨rfl, rfl, rfl, rfl⟩)
      try simp only [Act.put, List.setIfInBounds_toArray, List.set_cons_zero, List.set_cons_succ]
      refine wpAnyH_take (i := 2) (oi := ⟨some 62, _, _, _, _, _⟩) (v := .string S) rfl (by kernel_rfl) (by kernel_rfl) (by kernel_rfl) (fun _ _ _ h => h) (Or.inl ⟨by rfl, ?_⟩) (by assumption) ?_
      · intro wx hSw
        obtain ⟨x0, x1, x2, x3, x4, x5, x6, p0, p1, p2, p3, p4, p5, p6⟩ := hSw
        first | (go_simp; done) | (go_simp; with_reducible rfl) | (go_simp; exact ⟨rfl, rfl, rfl, rfl⟩)
      try simp only [Act.put, List.setIfInBounds_toArray, List.set_cons_zero, List.set_cons_succ]
      refine wpAnyH_take (i := 4) (oi := ⟨some 64, _, _, _, _, _⟩) (v := coV h A ks.length c) rfl (by kernel_rfl) (by kernel_rfl) (by kernel_rfl) (fun _ _ _ h => h) (Or.inl ⟨by rfl, ?_⟩) (by assumption) ?_
      · intro wx hSw
        obtain ⟨x0, x1, x2, x3, x4, x5, x6, p0, p1, p2, p3, p4, p5, p6⟩ := hSw
        first | (go_simp; done) | (go_simp; with_reducible rfl) | (go_simp; exact ⟨rfl, rfl, rfl, rfl⟩)
      try simp only [Act.put, List.setIfInBounds_toArray, List.set_cons_zero, List.set_cons_succ]
      refine wpAnyH_take (i := 6) (oi := ⟨some 66, _, _, _, _, _⟩) (v := .string S) rfl (by kernel_rfl) (by kernel_rfl) (by kernel_rfl) (fun _ _ _ h => h) (Or.inl ⟨by rfl, ?_⟩) (by assumption) ?_
      · intro wx hSw
        obtain ⟨x0, x1, x2, x3, x4, x5, x6, p0, p1, p2, p3, p4, p5, p6⟩ := hSw
        first | (go_simp; done) | (go_simp; with_reducible rfl) | (go_simp; exact ⟨rfl, rfl, rfl, rfl⟩)
      try simp only [Act.put, List.setIfInBounds_toArray, List.set_cons_zero, List.set_cons_succ]
      refine wpAnyH_ready (rs := [1]) (by kernel_rfl) (by simp) ?_
      refine AllReadyH.cons (o := ⟨some 61, .call _, _, _, _, _⟩) rfl (fun K hK => ?_) AllReadyH.nil
      have HK := Lib.hid hK
      clear hK
      go_simp
      refine (CB1.out _ hz.drew).mono ?_
      rintro e wa ⟨h5, k5, A5, c5, rfl, e5, hc5, hr5, hba⟩
      have hz : Below V.heap.size V wa := below_from hz.drew hba
      have hm5 : T.sizes k5 ≤ 900000 := HBZ1.out h5 k5 e5
      have F1 := Lib.hid (fits_any h5 k5 A5 c5 S wa hm5 hc5 hr5 hS)
      clear hba hr5
      refine HK.out _ _ (Q.out _ hz) (fun hHeld2 => ?_)
      clear HK hHeld
      have hHeld := hHeld2
      clear hHeld2
      try simp only [Act.put, List.setIfInBounds_toArray, List.set_cons_zero, List.set_cons_succ]
      refine wpAnyH_ready (rs := [3]) (by kernel_rfl) (by simp) ?_
      refine AllReadyH.cons (o := ⟨some 63, .call _, _, _, _, _⟩) rfl (fun K hK => ?_) AllReadyH.nil
      have HK := Lib.hid hK
      clear hK
      go_simp
      refine (F1.out).mono ?_
      rintro e wb ⟨b1, rfl, hb1, hbb⟩
      have hz : Below V.heap.size V wb := below_from hz hbb
      clear hbb F1
      refine HK.out _ _ (Q.out _ hz) (fun hHeld2 => ?_)
      clear HK hHeld
      have hHeld := hHeld2
      clear hHeld2
      try simp only [Act.put, List.setIfInBounds_toArray, List.set_cons_zero, List.set_cons_succ]
      refine wpAnyH_ready (rs := [5]) (by kernel_rfl) (by simp) ?_
      refine AllReadyH.cons (o := ⟨some 65, .call _, _, _, _, _⟩) rfl (fun K hK => ?_) AllReadyH.nil
      have HK := Lib.hid hK
      clear hK
      go_simp
      refine (CB2.out _ hz).mono ?_
      rintro e wc ⟨h6, k6, A6, c6, rfl, e6, hc6, hr6, hbc⟩
      have hz : Below V.heap.size V wc := below_from hz hbc
      have hm6 : T.sizes k6 ≤ 900000 := HBZ2.out h6 k6 e6
      have F2 := Lib.hid (fits_any h6 k6 A6 c6 S wc hm6 hc6 hr6 hS)
      clear hbc hr6
      refine HK.out _ _ (Q.out _ hz) (fun hHeld2 => ?_)
      clear HK hHeld
      have hHeld := hHeld2
      clear hHeld2
      try simp only [Act.put, List.setIfInBounds_toArray, List.set_cons_zero, List.set_cons_succ]
      refine wpAnyH_ready (rs := [7]) (by kernel_rfl) (by simp) ?_
      refine AllReadyH.cons (o := ⟨some 67, .call _, _, _, _, _⟩) rfl (fun K hK => ?_) AllReadyH.nil
      have HK := Lib.hid hK
      clear hK
      go_simp
      refine (F2.out).mono ?_
      rintro e wd ⟨b2, rfl, hb2, hbd⟩
      have hz : Below V.heap.size V wd := below_from hz hbd
      have hbe : b2 = b1 := HBB.out b1 b2 (by rw [e5]; exact hb1) (by rw [e6]; exact hb2)
      subst hbe
      have gb : (b2 == b2) = true := by cases b2 <;> rfl
      clear hbd F2 hb1 hb2 e5 e6
      refine HK.out _ _ (Q.out _ hz) (fun hHeld2 => ?_)
      clear HK hHeld
      have hHeld := hHeld2
      clear hHeld2
      try simp only [Act.put, List.setIfInBounds_toArray, List.set_cons_zero, List.set_cons_succ]
      refine wpAnyH_take (i := 8) (oi := ⟨some 68, _, _, _, _, _⟩) (v := .bool true) rfl (by kernel_rfl) (by kernel_rfl) (by kernel_rfl) (fun _ _ _ h => h) (Or.inl ⟨by rfl, ?_⟩) (by assumption) ?_
      · intro wx hSw
        obtain ⟨x0, x1, x2, x3, x4, x5, x6, p0, p1, p2, p3, p4, p5, p6⟩ := hSw
        first | (go_simp; done) | (go_simp; with_reducible rfl) | (go_simp; exact ⟨rfl, rfl, rfl, rfl⟩)
      try simp only [Act.put, List.setIfInBounds_toArray, List.set_cons_zero, List.set_cons_succ]
      refine wpAnyH_take (i := 9) (oi := ⟨some 69, _, _, _, _, _⟩) (v := .bool true) rfl (by kernel_rfl) (by kernel_rfl) (by kernel_rfl) (fun _ _ _ h => h) (Or.inl ⟨by rfl, ?_⟩) (by assumption) ?_
      · intro wx hSw
        obtain ⟨x0, x1, x2, x3, x4, x5, x6, p0, p1, p2, p3, p4, p5, p6⟩ := hSw
        first | (go_simp; done) | (go_simp; with_reducible rfl) | (go_simp; exact ⟨rfl, rfl, rfl, rfl⟩)
      try simp only [Act.put, List.setIfInBounds_toArray, List.set_cons_zero, List.set_cons_succ]
      refine wpAnyH_ready (rs := [10]) (by kernel_rfl) (by simp) ?_
      refine AllReadyH.cons (o := ⟨some 70, .call _, _, _, _, _⟩) rfl (fun K hK => ?_) AllReadyH.nil
      have HK := Lib.hid hK
      clear hK
      go_simp
      refine (CA.out _ (below_from HBV.out hz)).mono ?_
      rintro e wr ⟨rfl, hbr⟩
      have hz : Below V.heap.size V wr := below_from hz hbr
      refine HK.out _ _ (Q.out _ hz) (fun hHeld2 => ?_)
      clear HK hHeld
      have hHeld := hHeld2
      clear hHeld2
      try simp only [Act.put, List.setIfInBounds_toArray, List.set_cons_zero, List.set_cons_succ]
      refine wpAnyH_take (i := 11) (oi := ⟨some 71, _, _, _, _, _⟩) (v := .bool true) rfl (by kernel_rfl) (by kernel_rfl) (by kernel_rfl) (fun _ _ _ h => h) (Or.inl ⟨by rfl, ?_⟩) (by assumption) ?_
      · intro wx hSw
        obtain ⟨x0, x1, x2, x3, x4, x5, x6, p0, p1, p2, p3, p4, p5, p6⟩ := hSw
        first | (go_simp; done) | (go_simp; with_reducible rfl) | (go_simp; exact ⟨rfl, rfl, rfl, rfl⟩)
      try simp only [Act.put, List.setIfInBounds_toArray, List.set_cons_zero, List.set_cons_succ]
      refine wpAnyH_take (i := 12) (oi := ⟨some 4, _, _, _, _, _⟩) (v := .bool true) rfl (by kernel_rfl) (by kernel_rfl) (by kernel_rfl) (fun _ _ _ h => h) (Or.inl ⟨by rfl, ?_⟩) (by assumption) ?_
      · intro wx hSw
        obtain ⟨x0, x1, x2, x3, x4, x5, x6, p0, p1, p2, p3, p4, p5, p6⟩ := hSw
        first | (go_simp; done) | (go_simp; with_reducible rfl) | (go_simp; exact ⟨rfl, rfl, rfl, rfl⟩)
      try simp only [Act.put, List.setIfInBounds_toArray, List.set_cons_zero, List.set_cons_succ]
      refine wpAnyH_done (by kernel_rfl) ?_ _
      have hbf := below_from HW.out (below_from HBV.out hz)
      go_wp2_with fail
      go_ret
      exact ⟨rfl, hbf⟩
  · rw [hg] at CG
    clear hg
    go_enter Tryd.func3, Tryd.ntmps3
    go_wp2_with fail
    rw [HE.out]
    refine (CG.out _ (Below.refl _ _)).mono ?_
    rintro e w0 ⟨rfl, hb0⟩
    have HB0 := Lib.hid hb0
    clear hb0
    go_wp2_with fail
    refine (CA.out _ HB0.out).mono ?_
    rintro e w4 ⟨rfl, hb4⟩
    have hb := below_from HW.out (below_from HB0.out hb4)
    clear hb4
    go_wp2_with fail
    go_ret
    exact ⟨rfl, hb⟩
namespace lawSimpKeeps
open Go.ChangeShapes Go.WideShapes Go.ChangeAt
open Go.ChangeMaps (open_string)
set_option maxRecDepth 100000 in
theorem contract (H : Type) (enc : TypeId × Value → H) (W : World) (base : Nat) (args : Array Value) (ds gs : List (DataW H)) (before : List MemPlace)
    (hval : ∀ (j : Nat) t v, Tryd.f3.params[j]? = some t → args[j]? = some v → Value.okWide Tryd.prog W .any base t v)
    (hW : DataW.Whole enc Tryd.prog Tryd.f3.params.toList Rows.simpKeepsSpec.vars false W args.toList ds gs before) (hL : laidMetH Tryd.prog Rows.simpKeepsUptoRow.laid W) (hk : Rows.uptoSmall H (ds ++ gs) = true) :
    Calls Tryd.prog 3 args W fun e W' => ∃ v, e = .returned v ∧ Rows.simpKeepsSpec.post enc Tryd.prog Tryd.f3 false true false false W args v W' := by
  have hW' := hW
  obtain ⟨p, q, hA0, hV, rfl, hfz, hnd⟩ := hW
  have hA : DataW.TrodAll enc Tryd.prog W 0 (fun _ => true) true Tryd.f3.params.toList args.toList ds p := hA0
  rw [Tryd.params3] at hA hval
  obtain ⟨v0, vs0, d0, ds0, p0, q0, hargs, rfl, rfl, h0, r0⟩ := trodAll_cons hA
  obtain ⟨v1, vs1, d1, ds1, p1, q1, rfl, rfl, rfl, h1, r1⟩ := trodAll_cons r0
  obtain ⟨rfl, rfl, rfl⟩ := trodAll_nil r1
  obtain rfl : args = #[v0, v1] := by cases args; simp_all
  obtain ⟨rfl, rfl⟩ := trodVars_none hV
  have hkk : Rows.uptoBulk d0 + Rows.uptoBulk d1 ≤ 1048576 := by simp [Rows.uptoSmall, Rows.uptoBulkAll] at hk; omega
  obtain ⟨x, kx, A0, c0, rfl, hc0, hr0, hz0⟩ := open_coded (hval 0 27 v0 rfl rfl) h0
  obtain ⟨s, rfl, rfl, rfl, hs1⟩ := open_string Tryd.underlying9 (hval 1 9 v1 rfl rfl) h1
  refine (simpKeeps_walk x kx A0 c0 s W (by omega) hc0 hr0).mono fun e W' ⟨he, hb⟩ => ?_
  subst he
  exact ⟨_, rfl, post_true Tryd.laidOut (by rw [Tryd.params3]; intro t ht; simp at ht; rcases ht with rfl | rfl <;> exact ⟨by kernel_rfl, of_decide_eq_true (by kernel_rfl)⟩) hW' rfl rfl rfl Tryd.underlying4 hb⟩
theorem laid_met (os : Os) : laidMet Tryd.prog Rows.simpKeepsUptoRow.laid ((utfWorld os).forCall (fun _ _ => 0) ⟨#[], #[.agg #[.int .u8 0, .string ByteArray.empty, .int .u64 0, .int .u64 0, .int .u64 0, .int .u64 0, .slice none 0 0], .string ByteArray.empty], []⟩).memory :=
  laidMet_of_run' 600 (by kernel_rfl) (by kernel_rfl)
theorem reads (os : Os) {H : Type} (enc : TypeId × Value → H) : ∃ places, DataW.whole enc Tryd.prog ((utfWorld os).forCall (fun _ _ => 0) ⟨#[], #[.agg #[.int .u8 0, .string ByteArray.empty, .int .u64 0, .int .u64 0, .int .u64 0, .int .u64 0, .slice none 0 0], .string ByteArray.empty], []⟩).memory Tryd.f3.params.toList Rows.simpKeepsSpec.vars false (#[.agg #[.int .u8 0, .string ByteArray.empty, .int .u64 0, .int .u64 0, .int .u64 0, .int .u64 0, .slice none 0 0], .string ByteArray.empty] : Array Value).toList 8 = some ([.agg [.lit (.int .u8 0), .lit (.string []), .agg [.lit (.int .u64 0), .lit (.int .u64 0), .lit (.int .u64 0), .lit (.int .u64 0)], .nil], .lit (.string [])], [], places) :=
  ⟨[], by kernel_rfl⟩
set_option maxRecDepth 100000 in
theorem lifted (os : Os) (started : os.Started) (H : Type) (enc : TypeId × Value → H) (F : Stop.Interp) :
    ReturnsInHanded {} Tryd.checked os 3 .any ((Rows.OpenSpec.upto Rows.simpKeepsSpec).preRow enc Tryd.prog Tryd.f3 Rows.simpKeepsUptoRow.domain false Rows.simpKeepsUptoRow.laid) (((Rows.OpenSpec.upto Rows.simpKeepsSpec).at F).post enc Tryd.prog Tryd.f3 false true false false) := by
  obtain ⟨places, hx⟩ := reads os enc
  refine returnsInHanded_of_row (C := Tryd.checked) (s := Rows.OpenSpec.upto Rows.simpKeepsSpec) Tryd.own started (by kernel_rfl) Tryd.func3
    (witness_row_at (enc := enc) (C := Tryd.checked) false (utfWorld os) #[.agg #[.int .u8 0, .string ByteArray.empty, .int .u64 0, .int .u64 0, .int .u64 0, .int .u64 0, .slice none 0 0], .string ByteArray.empty] rfl (by kernel_rfl) (by kernel_rfl) (by kernel_rfl)
      (OpenSpec.preRow_of_cond 8 hx (by kernel_rfl) (fun k hk => by cases hk; kernel_rfl) (by kernel_rfl) (laid_met os))) ?_
  intro W base args ds gs before hval hW _ hcond _ hL _ _
  exact contract H enc W base args ds gs before hval hW hL (hcond _ rfl)
theorem said : Rows.SimpKeepsUptoSaid :=
  OpenClaim.holds_of_cond 3 Tryd.f3 rfl rfl rfl rfl rfl rfl rfl ⟨rfl, rfl, rfl, rfl, rfl⟩ rfl rfl rfl rfl rfl (by kernel_rfl) Tryd.func3 (by kernel_rfl)
    (of_decide_eq_true (by kernel_rfl)) (by unfold Func.isWrapper; first | (rw [if_pos (by decide +kernel)]; kernel_rfl) | (rw [if_neg (by decide +kernel)]; exact ⟨rfl, rfl⟩))
    (fun os started H enc _ F => by rw [OpenClaim.pre_eq_preRow]; exact lifted os started H enc F)
theorem plain (f : FuncId) (fn : Func) (hf : Tryd.pinned.checked.prog.funcNamed "quill/quilllaw18.SimpKeeps" = some f) (hfn : Tryd.pinned.checked.prog.funcs[f]? = some fn) :
    true = Tryd.pinned.checked.prog.looks [] ∧ ∀ (j : Nat) t, fn.params[j]? = some t → Tryd.pinned.checked.prog.wantsStandIn t = false := by
  obtain rfl : f = 3 := Option.some.inj ((show Tryd.prog.funcNamed "quill/quilllaw18.SimpKeeps" = some 3 by kernel_rfl).symm.trans hf) |>.symm
  obtain rfl : fn = Tryd.f3 := (Option.some.inj (Tryd.func3.symm.trans hfn)).symm
  refine ⟨by kernel_rfl, fun j t ht => ?_⟩
  rw [Tryd.params3] at ht
  have hm := Array.mem_of_getElem? ht
  simp at hm
  rcases hm with rfl | rfl
  · exact (show Tryd.prog.wantsStandIn 27 = false by kernel_rfl)
  · exact (show Tryd.prog.wantsStandIn 9 = false by kernel_rfl)
theorem proved : Rows.SimpKeepsUptoCardSaid :=
  Claim7.holds_tied_plain_at .later [] _ _ _ _ said (fun _ h => by cases h) (by kernel_rfl) (fun _ h => by cases h) simpKeepsUpto_row_tie rfl ⟨rfl, rfl⟩ (by kernel_rfl) rfl plain (by kernel_rfl)
end lawSimpKeeps
end Go.Proofs.YtkhgbeflhjjkdaaDoor
