/- Sets of bytes: of bytes. -/
import Derived.Test.YteoghoaggpbkpaaDoorSet3
namespace Go.Proofs.YteoghoaggpbkpaaDoor
open Go.RowKit
set_option linter.unusedVariables false
set_option linter.unusedSimpArgs false

theorem bits_or_word {x : UInt64} {r : Nat} (hr : r < 64) : Go.bits BinOp.or IntKind.u64 (x.toNat : Int) (IntKind.u64.wrap (2 ^ r)) = ((UInt64.ofNat (orBit x.toNat r)).toNat : Int) := by
  have h2 := pow2_lt hr
  unfold pow2 at h2
  have e : IntKind.u64.wrap ((2 ^ r : Nat) : Int) = ((2 ^ r : Nat) : Int) := wrap_u64 _ h2
  rw [show ((2 : Int) ^ r) = ((2 ^ r : Nat) : Int) by simp, e, UInt64.toNat_ofNat', Nat.mod_eq_of_lt (orBit_lt x.toNat_lt hr)]
  have hx := x.toNat_lt
  generalize x.toNat = a at *
  unfold orBit
  generalize 2 ^ r = b at *
  simp [Go.bits, IntKind.bits, IntKind.signed, IntKind.wrap]
  have h3 : a ||| b < 2 ^ 64 := Nat.or_lt_two_pow hx h2
  have k : (BitVec.ofNat 64 a ||| BitVec.ofNat 64 b).toNat = a ||| b := by
    rw [BitVec.toNat_or, BitVec.toNat_ofNat, BitVec.toNat_ofNat, Nat.mod_eq_of_lt (by omega : a < 2 ^ 64), Nat.mod_eq_of_lt (by omega : b < 2 ^ 64)]
  have m : (((BitVec.ofNat 64 a ||| BitVec.ofNat 64 b).toNat : Nat) : Int) % 18446744073709551616 = ((a ||| b : Nat) : Int) := by rw [k]; omega
  exact m
theorem four_set {w : World} {b : Nat} {v0 v1 v2 v3 u : Value} {t : TypeId} (h : w.heap[b]? = some (.cells #[v0, v1, v2, v3] t (0, 0))) :
    (w.setCell ⟨b, 0, none⟩ u).heap[b]? = some (.cells #[u, v1, v2, v3] t (0, 0)) ∧ (w.setCell ⟨b, 1, none⟩ u).heap[b]? = some (.cells #[v0, u, v2, v3] t (0, 0)) ∧
    (w.setCell ⟨b, 2, none⟩ u).heap[b]? = some (.cells #[v0, v1, u, v3] t (0, 0)) ∧ (w.setCell ⟨b, 3, none⟩ u).heap[b]? = some (.cells #[v0, v1, v2, u] t (0, 0)) := by
  refine ⟨?_, ?_, ?_, ?_⟩ <;> simp [World.setCell, Array.getElem?_modify, h]

set_option maxHeartbeats 8000000 in
theorem setOf_any (l : List UInt8) (A : Option Addr) (c : Nat) (w : World) (hm : l.length ≤ 1000000000) (hc : l.length ≤ c) (hr : Row1 encB w A l) :
    Calls Tryd.prog 118 #[.slice A l.length c] w fun e w' => e = .returned (setV (setOf l)) ∧ Below w.heap.size w w' := by
  have HO : Hid (setOf l = setFrom S4.zero l) := rfl
  go_enter Tryd.func118, Tryd.ntmps118
  go_wp2_with fail
  obtain ⟨e1, e2⟩ := two_blocks (w := w) (o1 := .cells (setA S4.zero) 27) (o2 := .cells (setA S4.zero) 27) (Below.refl _ _)
  have hb0 : Below w.heap.size w ((w.alloc (.cells (setA S4.zero) 27)).alloc (.cells (setA S4.zero) 27)) := below_new (below_new (Below.refl _ _) _) _
  have E1 := Lib.hid e1
  have E2 := Lib.hid e2
  clear e1 e2
  go_loopw [5, 8] (fun _ i wr => ∃ (k : Nat), k ≤ l.length ∧ i = .int .i64 k ∧ Hid (wr.heap[w.heap.size]? = some (.cells (setA S4.zero) 27 (0, 0))) ∧ Hid (wr.heap[w.heap.size + 1]? = some (.cells (setA (setFrom S4.zero (l.take k))) 27 (0, 0))) ∧ Below w.heap.size w wr) (fun _ i _ => l.length - (intOf i).toNat)
  case atStart => exact ⟨0, Nat.zero_le _, rfl, E1, E2, hb0⟩
  case round =>
    clear E1 E2 hb0
    obtain ⟨k, hk, rfl, E1, E2, hb⟩ := hrel
    obtain ⟨⟨x0, x1, x2, x3⟩, f0, f1, f2, f3⟩ := cells4_of E1.out
    obtain ⟨⟨y0, y1, y2, y3⟩, g0, g1, g2, g3⟩ := cells4_of E2.out
    by_cases hlt : k < l.length
    · have hT := Lib.hid (setFrom_take (l := l) (k := k) (x := l[k]) (by simp [hlt]) S4.zero)
      generalize setFrom S4.zero (l.take k) = s0 at *
      obtain ⟨ad, hA, hcell⟩ := (hr.below hb) k l[k] (by simp [hlt])
      subst hA
      have hx := l[k].toNat_lt
      generalize l[k] = x at *
      obtain ⟨j, hj, hjj⟩ : ∃ j : Nat, x.toNat / 64 = j ∧ (j = 0 ∨ j = 1 ∨ j = 2 ∨ j = 3) := ⟨_, rfl, by omega⟩
      obtain ⟨r, hrr, hr64⟩ : ∃ r : Nat, x.toNat % 64 = r ∧ r < 64 := ⟨_, rfl, by omega⟩
      have HWi : Hid (s0.with' x.toNat = s0.withAt j r) := by unfold Hid S4.with'; rw [hj, hrr]
      have hq : (x.toNat : Int).tdiv 64 = j := by rw [Int.tdiv_eq_ediv_of_nonneg (by omega)]; omega
      have hm2 : (x.toNat : Int).tmod 64 = r := by rw [Int.tmod_eq_emod_of_nonneg (by omega)]; omega
      clear hj hrr hr
      rcases hjj with rfl | rfl | rfl | rfl
      · have hw := bits_or_word (x := s0.a) hr64
        have HWi' : Hid (s0.with' x.toNat = { s0 with a := UInt64.ofNat (orBit s0.a.toNat r) }) := HWi.out
        generalize UInt64.ofNat (orBit s0.a.toNat r) = u at *
        go_wp2_with fail
        go_roundw
        case rel => exact ⟨k + 1, by omega, by go_num, (Below.heap_setCell _ _ _ _ (by simp)).trans E1.out, by rw [hT.out, HWi'.out]; exact (four_set E2.out).1, hb.setCell (by simp) _⟩
        case measure => simp [intOf]; omega
      · have hw := bits_or_word (x := s0.b) hr64
        have HWi' : Hid (s0.with' x.toNat = { s0 with b := UInt64.ofNat (orBit s0.b.toNat r) }) := HWi.out
        generalize UInt64.ofNat (orBit s0.b.toNat r) = u at *
        go_wp2_with fail
        go_roundw
        case rel => exact ⟨k + 1, by omega, by go_num, (Below.heap_setCell _ _ _ _ (by simp)).trans E1.out, by rw [hT.out, HWi'.out]; exact (four_set E2.out).2.1, hb.setCell (by simp) _⟩
        case measure => simp [intOf]; omega
      · have hw := bits_or_word (x := s0.c) hr64
        have HWi' : Hid (s0.with' x.toNat = { s0 with c := UInt64.ofNat (orBit s0.c.toNat r) }) := HWi.out
        generalize UInt64.ofNat (orBit s0.c.toNat r) = u at *
        go_wp2_with fail
        go_roundw
        case rel => exact ⟨k + 1, by omega, by go_num, (Below.heap_setCell _ _ _ _ (by simp)).trans E1.out, by rw [hT.out, HWi'.out]; exact (four_set E2.out).2.2.1, hb.setCell (by simp) _⟩
        case measure => simp [intOf]; omega
      · have hw := bits_or_word (x := s0.d) hr64
        have HWi' : Hid (s0.with' x.toNat = { s0 with d := UInt64.ofNat (orBit s0.d.toNat r) }) := HWi.out
        generalize UInt64.ofNat (orBit s0.d.toNat r) = u at *
        go_wp2_with fail
        go_roundw
        case rel => exact ⟨k + 1, by omega, by go_num, (Below.heap_setCell _ _ _ _ (by simp)).trans E1.out, by rw [hT.out, HWi'.out]; exact (four_set E2.out).2.2.2, hb.setCell (by simp) _⟩
        case measure => simp [intOf]; omega
    · have he : k = l.length := by omega
      subst he
      have g : decide ((l.length : Int) < (l.length : Int)) = false := by simp
      rw [List.take_length] at E2 y0 y1 y2 y3
      have HB := Lib.hid hb
      go_wp2_with fail
      refine bodyPost_ret (v := setV (setOf l)) (by rw [HO.out]; simp [results, Tryd.results118, go_sem, x0, x1, x2, x3, y0, y1, y2, y3]) rfl ⟨rfl, ?_⟩
      exact four_below hb (Nat.le_refl _)
end Go.Proofs.YteoghoaggpbkpaaDoor
