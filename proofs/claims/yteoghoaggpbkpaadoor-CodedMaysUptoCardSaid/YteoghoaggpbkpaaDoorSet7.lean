/- Sets of bytes: of a range. -/
import Derived.Test.YteoghoaggpbkpaaDoorSet6
namespace Go.Proofs.YteoghoaggpbkpaaDoor
open Go.RowKit
set_option linter.unusedVariables false
set_option linter.unusedSimpArgs false

set_option maxRecDepth 100000 in
set_option maxHeartbeats 8000000 in
theorem setRange_any (lo hi : Int) (w : World) (h0 : 0 ≤ lo) (h1 : lo ≤ 255) (h2 : 0 ≤ hi) (h3 : hi ≤ 255) :
    Calls Tryd.prog 115 #[.int .u8 lo, .int .u8 hi] w fun e w' => e = .returned (setV (setRun lo.toNat (hi.toNat + 1 - lo.toNat))) ∧ Below w.heap.size w w' := by
  obtain ⟨l, rfl⟩ : ∃ l : Nat, lo = (l : Int) := ⟨lo.toNat, by omega⟩
  obtain ⟨u, rfl⟩ : ∃ u : Nat, hi = (u : Int) := ⟨hi.toNat, by omega⟩
  simp only [Int.toNat_natCast]
  go_enter Tryd.func115, Tryd.ntmps115
  go_wp2_with fail
  obtain ⟨e1, e2⟩ := two_blocks (w := w) (o1 := .cells (setA S4.zero) 27) (o2 := .cells (setA S4.zero) 27) (Below.refl _ _)
  have hb0 : Below w.heap.size w ((w.alloc (.cells (setA S4.zero) 27)).alloc (.cells (setA S4.zero) 27)) := below_new (below_new (Below.refl _ _) _) _
  have E1 := Lib.hid e1
  have E2 := Lib.hid e2
  clear e1 e2
  go_loopw [6] (fun i wr => ∃ (k : Nat), k ≤ u + 1 - l ∧ i = .int .i64 (l + k : Nat) ∧ Hid (wr.heap[w.heap.size]? = some (.cells (setA S4.zero) 27 (0, 0))) ∧ Hid (wr.heap[w.heap.size + 1]? = some (.cells (setA (setRun l k)) 27 (0, 0))) ∧ Below w.heap.size w wr) (fun i _ => 300 - (intOf i).toNat)
  case atStart => exact ⟨0, Nat.zero_le _, rfl, E1, E2, hb0⟩
  case round =>
    clear E1 E2 hb0
    obtain ⟨k, hk, rfl, E1, E2, hb⟩ := hrel
    obtain ⟨⟨x0, x1, x2, x3⟩, f0, f1, f2, f3⟩ := cells4_of E1.out
    obtain ⟨⟨y0, y1, y2, y3⟩, g0, g1, g2, g3⟩ := cells4_of E2.out
    by_cases hlt : l + k ≤ u
    · have hT : Hid (setRun l (k + 1) = (setRun l k).with' (l + k)) := rfl
      generalize setRun l k = s0 at *
      obtain ⟨m, hm⟩ : ∃ m, l + k = m := ⟨_, rfl⟩
      rw [hm] at hT hlt ⊢
      have HM := Lib.hid hm
      clear hm
      have g : decide ((m : Int) ≤ (u : Int)) = true := by simp; omega
      obtain ⟨j, hj, hjj⟩ : ∃ j : Nat, m / 64 = j ∧ (j = 0 ∨ j = 1 ∨ j = 2 ∨ j = 3) := ⟨_, rfl, by omega⟩
      obtain ⟨r, hrr, hr64⟩ : ∃ r : Nat, m % 64 = r ∧ r < 64 := ⟨_, rfl, by omega⟩
      have HWi : Hid (s0.with' m = s0.withAt j r) := by unfold Hid S4.with'; rw [hj, hrr]
      have hq : (m : Int).tdiv 64 = j := by rw [Int.tdiv_eq_ediv_of_nonneg (by omega)]; omega
      have hm2 : (m : Int).tmod 64 = r := by rw [Int.tmod_eq_emod_of_nonneg (by omega)]; omega
      clear hj hrr
      rcases hjj with rfl | rfl | rfl | rfl
      · have hw := bits_or_word (x := s0.a) hr64
        have HWi' : Hid (s0.with' m = { s0 with a := UInt64.ofNat (orBit s0.a.toNat r) }) := HWi.out
        generalize UInt64.ofNat (orBit s0.a.toNat r) = v at *
        go_wp2_with fail
        go_region
        go_wp2_with fail
        go_roundw
        case rel => exact ⟨k + 1, by have := HM.out; omega, by have := HM.out; go_num, (Below.heap_setCell _ _ _ _ (by simp)).trans E1.out, by rw [hT.out, HWi'.out]; exact (four_set E2.out).1, (hb.setCell (by simp) _).drew⟩
        case measure => simp [intOf]; omega
      · have hw := bits_or_word (x := s0.b) hr64
        have HWi' : Hid (s0.with' m = { s0 with b := UInt64.ofNat (orBit s0.b.toNat r) }) := HWi.out
        generalize UInt64.ofNat (orBit s0.b.toNat r) = v at *
        go_wp2_with fail
        go_region
        go_wp2_with fail
        go_roundw
        case rel => exact ⟨k + 1, by have := HM.out; omega, by have := HM.out; go_num, (Below.heap_setCell _ _ _ _ (by simp)).trans E1.out, by rw [hT.out, HWi'.out]; exact (four_set E2.out).2.1, (hb.setCell (by simp) _).drew⟩
        case measure => simp [intOf]; omega
      · have hw := bits_or_word (x := s0.c) hr64
        have HWi' : Hid (s0.with' m = { s0 with c := UInt64.ofNat (orBit s0.c.toNat r) }) := HWi.out
        generalize UInt64.ofNat (orBit s0.c.toNat r) = v at *
        go_wp2_with fail
        go_region
        go_wp2_with fail
        go_roundw
        case rel => exact ⟨k + 1, by have := HM.out; omega, by have := HM.out; go_num, (Below.heap_setCell _ _ _ _ (by simp)).trans E1.out, by rw [hT.out, HWi'.out]; exact (four_set E2.out).2.2.1, (hb.setCell (by simp) _).drew⟩
        case measure => simp [intOf]; omega
      · have hw := bits_or_word (x := s0.d) hr64
        have HWi' : Hid (s0.with' m = { s0 with d := UInt64.ofNat (orBit s0.d.toNat r) }) := HWi.out
        generalize UInt64.ofNat (orBit s0.d.toNat r) = v at *
        go_wp2_with fail
        go_region
        go_wp2_with fail
        go_roundw
        case rel => exact ⟨k + 1, by have := HM.out; omega, by have := HM.out; go_num, (Below.heap_setCell _ _ _ _ (by simp)).trans E1.out, by rw [hT.out, HWi'.out]; exact (four_set E2.out).2.2.2, (hb.setCell (by simp) _).drew⟩
        case measure => simp [intOf]; omega
    · have he : k = u + 1 - l := by omega
      subst he
      have g : decide (((l + (u + 1 - l) : Nat) : Int) ≤ (u : Int)) = false := by simp; omega
      go_wp2_with fail
      refine bodyPost_ret (v := setV (setRun l (u + 1 - l))) (by simp [results, Tryd.results115, go_sem, x0, x1, x2, x3, y0, y1, y2, y3]) rfl ⟨rfl, ?_⟩
      exact four_below hb (Nat.le_refl _)
end Go.Proofs.YteoghoaggpbkpaaDoor
