/- Sets of bytes: a byte more; of bytes. -/
import Derived.Test.YthagcmpehpgmpaaDoorSet1
namespace Go.Proofs.YthagcmpehpgmpaaDoor
open Go.RowKit
set_option linter.unusedVariables false
set_option linter.unusedSimpArgs false

/-- a power of two -/
def pow2 (k : Nat) : Nat := 2 ^ k
theorem pow2_zero : pow2 0 = 1 := rfl
theorem pow2_succ (k : Nat) : pow2 (k + 1) = 2 * pow2 k := by unfold pow2; rw [Nat.pow_succ, Nat.mul_comm]
theorem pow2_lt {k : Nat} (h : k < 64) : pow2 k < 18446744073709551616 := Nat.pow_lt_pow_right (a := 2) (n := 64) (by decide) h
/-- what is added to a word -/
def plusBit (x r : Nat) : Nat := if bitOf x r then x else x + pow2 r
theorem plusBit_or {x r : Nat} (hx : x < 18446744073709551616) (hr : r < 64) : plusBit x r = orBit x r := by
  unfold plusBit
  cases h : bitOf x r with
  | true => simp [orBit_same h]
  | false => simp [pow2, orBit_add hx hr h]

/-- two new blocks, still there -/
theorem one_block {w w1 : World} {o1 : Obj} (hb : Below (w.alloc o1).heap.size (w.alloc o1) w1) : w1.heap[w.heap.size]? = some o1 := by
  rw [hb.block _ (by simp)]
  show (w.heap.push o1)[w.heap.size]? = _
  simp
theorem two_blocks {w w1 : World} {o1 o2 : Obj} (hb : Below ((w.alloc o1).alloc o2).heap.size ((w.alloc o1).alloc o2) w1) : w1.heap[w.heap.size]? = some o1 ∧ w1.heap[w.heap.size + 1]? = some o2 := by
  constructor
  · rw [hb.block _ (by simp; omega), Below.heap_alloc _ _ _ (by simp)]
    show (w.heap.push o1)[w.heap.size]? = _
    simp
  · have h := one_block hb
    simpa using h
/-- a block of four cells -/
theorem cells4_of {w : World} {b : Nat} {v0 v1 v2 v3 : Value} {t : TypeId} (h : w.heap[b]? = some (.cells #[v0, v1, v2, v3] t (0, 0))) :
    (w.cell? ⟨b, 0, none⟩ = some v0 ∧ w.cell? ⟨b, 1, none⟩ = some v1 ∧ w.cell? ⟨b, 2, none⟩ = some v2 ∧ w.cell? ⟨b, 3, none⟩ = some v3) ∧
    w.frozen? ⟨b, 0, none⟩ = false ∧ w.frozen? ⟨b, 1, none⟩ = false ∧ w.frozen? ⟨b, 2, none⟩ = false ∧ w.frozen? ⟨b, 3, none⟩ = false := by
  refine ⟨⟨?_, ?_, ?_, ?_⟩, ?_, ?_, ?_, ?_⟩ <;> simp [World.cell?, World.frozen?, h]
set_option maxHeartbeats 8000000 in
theorem refWith_any (s : S4) (b : Int) (w : World) (h0 : 0 ≤ b) (h1 : b ≤ 255) :
    Calls Tryd.prog 63 #[setV s, .int .i64 b] w fun e w' => e = .returned (setV (s.with' b.toNat)) ∧ Below w.heap.size w w' := by
  obtain ⟨j, hj, hjj⟩ : ∃ j : Nat, b.toNat / 64 = j ∧ (j = 0 ∨ j = 1 ∨ j = 2 ∨ j = 3) := ⟨_, rfl, by omega⟩
  obtain ⟨r, hr, hrr⟩ : ∃ r : Nat, b.toNat % 64 = r ∧ r < 64 := ⟨_, rfl, by omega⟩
  have hq : b.tdiv 64 = j := by rw [Int.tdiv_eq_ediv_of_nonneg h0]; omega
  have hm : b.tmod 64 = r := by rw [Int.tmod_eq_emod_of_nonneg h0]; omega
  have HH : Hid (s.has b.toNat = bitOf (s.get j).toNat r) := by unfold Hid S4.has; rw [hj, hr]
  rcases hjj with rfl | rfl | rfl | rfl
  · have HW : Hid (s.with' b.toNat = { s with a := UInt64.ofNat (orBit s.a.toNat r) }) := by unfold Hid S4.with'; rw [hj, hr]; rfl
    have hX := s.a.toNat_lt
    have HB : Hid (s.has b.toNat = bitOf s.a.toNat r) := HH.out
    clear hj hr HH
    go_enter Tryd.func63, Tryd.ntmps63
    go_wp2_with fail
    refine (refHas_any s b _ h0 h1).mono ?_
    rintro e w1 ⟨rfl, hb1⟩
    have hb2 := below_from (below_new (below_new (Below.refl _ _) _) _) hb1
    obtain ⟨e1, e2⟩ := two_blocks hb1
    obtain ⟨⟨x0, x1, x2, x3⟩, f0, f1, f2, f3⟩ := cells4_of e1
    obtain ⟨⟨y0, y1, y2, y3⟩, g0, g1, g2, g3⟩ := cells4_of e2
    clear e1 e2
    clear hb1
    cases hh : s.has b.toNat with
    | true =>
      have HE : Hid (s.with' b.toNat = s) := by
        unfold Hid
        rw [HW.out, orBit_same (by rw [← HB.out]; exact hh)]
        simp
      clear hh
      go_wp2_with fail
      refine bodyPost_ret (v := setV s) (by simp [results, Tryd.results63, go_sem, x0, x1, x2, x3, y0, y1, y2, y3]) rfl ⟨by rw [HE.out], ?_⟩
      repeat (first | exact hb2 | refine Below.setCell ?_ (by simp) _)
    | false =>
      have HE : Hid (UInt64.toNat (UInt64.ofNat (orBit s.a.toNat r)) = s.a.toNat + pow2 r) := by
        unfold Hid
        rw [← orBit_add hX hrr (by rw [← HB.out]; exact hh), UInt64.toNat_ofNat', Nat.mod_eq_of_lt]
        · rfl
        · rw [orBit_add hX hrr (by rw [← HB.out]; exact hh)]; exact orBit_lt hX hrr
      have HL : Hid (s.a.toNat + pow2 r < 18446744073709551616) := by
        unfold Hid
        rw [← HE.out]
        exact UInt64.toNat_lt _
      clear hh
      go_wp2_with fail
      go_loopw [5, 6] (fun x i wr => ∃ k : Nat, k ≤ r ∧ i = .int .i64 k ∧ x = .int .u64 (pow2 k : Int) ∧ wr = w1) (fun _ i _ => r - (intOf i).toNat)
      case atStart => exact ⟨0, Nat.zero_le _, rfl, rfl, rfl⟩
      case round =>
        obtain ⟨k, hk, rfl, rfl, rfl⟩ := hrel
        by_cases hlt : k < r
        · have g : decide ((k : Int) < (r : Int)) = true := by simp; omega
          have p1 := pow2_succ k
          have p2 := pow2_lt (show k + 1 < 64 by omega)
          generalize e3 : pow2 (k + 1) = y1 at *
          generalize pow2 k = y at *
          go_wp2_with fail
          go_roundw
          case rel => exact ⟨k + 1, by omega, by go_num, by rw [e3]; simp [IntKind.wrap, IntKind.bits, IntKind.signed]; omega, trivial⟩
          case measure => simp [intOf]; omega
        · have hk : k = r := by omega
          subst hk
          have g : decide ((k : Int) < (k : Int)) = false := by simp
          have q0 := HL.out
          have q1 : IntKind.u64.wrap ((s.a.toNat : Int) + (pow2 k : Int)) = (s.a.toNat : Int) + (pow2 k : Int) := by
            simp [IntKind.wrap, IntKind.bits, IntKind.signed]; omega
          go_wp2_with fail
          refine bodyPost_ret (v := setV (s.with' b.toNat)) (by rw [HW.out]; simp [results, Tryd.results63, go_sem, x0, x1, x2, x3, y0, y1, y2, y3]; have := HE.out; simp at this; omega) rfl ⟨rfl, ?_⟩
          repeat (first | exact hb2 | refine Below.setCell ?_ (by simp) _)
  · have HW : Hid (s.with' b.toNat = { s with b := UInt64.ofNat (orBit s.b.toNat r) }) := by unfold Hid S4.with'; rw [hj, hr]; rfl
    have hX := s.b.toNat_lt
    have HB : Hid (s.has b.toNat = bitOf s.b.toNat r) := HH.out
    clear hj hr HH
    go_enter Tryd.func63, Tryd.ntmps63
    go_wp2_with fail
    refine (refHas_any s b _ h0 h1).mono ?_
    rintro e w1 ⟨rfl, hb1⟩
    have hb2 := below_from (below_new (below_new (Below.refl _ _) _) _) hb1
    obtain ⟨e1, e2⟩ := two_blocks hb1
    obtain ⟨⟨x0, x1, x2, x3⟩, f0, f1, f2, f3⟩ := cells4_of e1
    obtain ⟨⟨y0, y1, y2, y3⟩, g0, g1, g2, g3⟩ := cells4_of e2
    clear e1 e2
    clear hb1
    cases hh : s.has b.toNat with
    | true =>
      have HE : Hid (s.with' b.toNat = s) := by
        unfold Hid
        rw [HW.out, orBit_same (by rw [← HB.out]; exact hh)]
        simp
      clear hh
      go_wp2_with fail
      refine bodyPost_ret (v := setV s) (by simp [results, Tryd.results63, go_sem, x0, x1, x2, x3, y0, y1, y2, y3]) rfl ⟨by rw [HE.out], ?_⟩
      repeat (first | exact hb2 | refine Below.setCell ?_ (by simp) _)
    | false =>
      have HE : Hid (UInt64.toNat (UInt64.ofNat (orBit s.b.toNat r)) = s.b.toNat + pow2 r) := by
        unfold Hid
        rw [← orBit_add hX hrr (by rw [← HB.out]; exact hh), UInt64.toNat_ofNat', Nat.mod_eq_of_lt]
        · rfl
        · rw [orBit_add hX hrr (by rw [← HB.out]; exact hh)]; exact orBit_lt hX hrr
      have HL : Hid (s.b.toNat + pow2 r < 18446744073709551616) := by
        unfold Hid
        rw [← HE.out]
        exact UInt64.toNat_lt _
      clear hh
      go_wp2_with fail
      go_loopw [5, 6] (fun x i wr => ∃ k : Nat, k ≤ r ∧ i = .int .i64 k ∧ x = .int .u64 (pow2 k : Int) ∧ wr = w1) (fun _ i _ => r - (intOf i).toNat)
      case atStart => exact ⟨0, Nat.zero_le _, rfl, rfl, rfl⟩
      case round =>
        obtain ⟨k, hk, rfl, rfl, rfl⟩ := hrel
        by_cases hlt : k < r
        · have g : decide ((k : Int) < (r : Int)) = true := by simp; omega
          have p1 := pow2_succ k
          have p2 := pow2_lt (show k + 1 < 64 by omega)
          generalize e3 : pow2 (k + 1) = y1 at *
          generalize pow2 k = y at *
          go_wp2_with fail
          go_roundw
          case rel => exact ⟨k + 1, by omega, by go_num, by rw [e3]; simp [IntKind.wrap, IntKind.bits, IntKind.signed]; omega, trivial⟩
          case measure => simp [intOf]; omega
        · have hk : k = r := by omega
          subst hk
          have g : decide ((k : Int) < (k : Int)) = false := by simp
          have q0 := HL.out
          have q1 : IntKind.u64.wrap ((s.b.toNat : Int) + (pow2 k : Int)) = (s.b.toNat : Int) + (pow2 k : Int) := by
            simp [IntKind.wrap, IntKind.bits, IntKind.signed]; omega
          go_wp2_with fail
          refine bodyPost_ret (v := setV (s.with' b.toNat)) (by rw [HW.out]; simp [results, Tryd.results63, go_sem, x0, x1, x2, x3, y0, y1, y2, y3]; have := HE.out; simp at this; omega) rfl ⟨rfl, ?_⟩
          repeat (first | exact hb2 | refine Below.setCell ?_ (by simp) _)
  · have HW : Hid (s.with' b.toNat = { s with c := UInt64.ofNat (orBit s.c.toNat r) }) := by unfold Hid S4.with'; rw [hj, hr]; rfl
    have hX := s.c.toNat_lt
    have HB : Hid (s.has b.toNat = bitOf s.c.toNat r) := HH.out
    clear hj hr HH
    go_enter Tryd.func63, Tryd.ntmps63
    go_wp2_with fail
    refine (refHas_any s b _ h0 h1).mono ?_
    rintro e w1 ⟨rfl, hb1⟩
    have hb2 := below_from (below_new (below_new (Below.refl _ _) _) _) hb1
    obtain ⟨e1, e2⟩ := two_blocks hb1
    obtain ⟨⟨x0, x1, x2, x3⟩, f0, f1, f2, f3⟩ := cells4_of e1
    obtain ⟨⟨y0, y1, y2, y3⟩, g0, g1, g2, g3⟩ := cells4_of e2
    clear e1 e2
    clear hb1
    cases hh : s.has b.toNat with
    | true =>
      have HE : Hid (s.with' b.toNat = s) := by
        unfold Hid
        rw [HW.out, orBit_same (by rw [← HB.out]; exact hh)]
        simp
      clear hh
      go_wp2_with fail
      refine bodyPost_ret (v := setV s) (by simp [results, Tryd.results63, go_sem, x0, x1, x2, x3, y0, y1, y2, y3]) rfl ⟨by rw [HE.out], ?_⟩
      repeat (first | exact hb2 | refine Below.setCell ?_ (by simp) _)
    | false =>
      have HE : Hid (UInt64.toNat (UInt64.ofNat (orBit s.c.toNat r)) = s.c.toNat + pow2 r) := by
        unfold Hid
        rw [← orBit_add hX hrr (by rw [← HB.out]; exact hh), UInt64.toNat_ofNat', Nat.mod_eq_of_lt]
        · rfl
        · rw [orBit_add hX hrr (by rw [← HB.out]; exact hh)]; exact orBit_lt hX hrr
      have HL : Hid (s.c.toNat + pow2 r < 18446744073709551616) := by
        unfold Hid
        rw [← HE.out]
        exact UInt64.toNat_lt _
      clear hh
      go_wp2_with fail
      go_loopw [5, 6] (fun x i wr => ∃ k : Nat, k ≤ r ∧ i = .int .i64 k ∧ x = .int .u64 (pow2 k : Int) ∧ wr = w1) (fun _ i _ => r - (intOf i).toNat)
      case atStart => exact ⟨0, Nat.zero_le _, rfl, rfl, rfl⟩
      case round =>
        obtain ⟨k, hk, rfl, rfl, rfl⟩ := hrel
        by_cases hlt : k < r
        · have g : decide ((k : Int) < (r : Int)) = true := by simp; omega
          have p1 := pow2_succ k
          have p2 := pow2_lt (show k + 1 < 64 by omega)
          generalize e3 : pow2 (k + 1) = y1 at *
          generalize pow2 k = y at *
          go_wp2_with fail
          go_roundw
          case rel => exact ⟨k + 1, by omega, by go_num, by rw [e3]; simp [IntKind.wrap, IntKind.bits, IntKind.signed]; omega, trivial⟩
          case measure => simp [intOf]; omega
        · have hk : k = r := by omega
          subst hk
          have g : decide ((k : Int) < (k : Int)) = false := by simp
          have q0 := HL.out
          have q1 : IntKind.u64.wrap ((s.c.toNat : Int) + (pow2 k : Int)) = (s.c.toNat : Int) + (pow2 k : Int) := by
            simp [IntKind.wrap, IntKind.bits, IntKind.signed]; omega
          go_wp2_with fail
          refine bodyPost_ret (v := setV (s.with' b.toNat)) (by rw [HW.out]; simp [results, Tryd.results63, go_sem, x0, x1, x2, x3, y0, y1, y2, y3]; have := HE.out; simp at this; omega) rfl ⟨rfl, ?_⟩
          repeat (first | exact hb2 | refine Below.setCell ?_ (by simp) _)
  · have HW : Hid (s.with' b.toNat = { s with d := UInt64.ofNat (orBit s.d.toNat r) }) := by unfold Hid S4.with'; rw [hj, hr]; rfl
    have hX := s.d.toNat_lt
    have HB : Hid (s.has b.toNat = bitOf s.d.toNat r) := HH.out
    clear hj hr HH
    go_enter Tryd.func63, Tryd.ntmps63
    go_wp2_with fail
    refine (refHas_any s b _ h0 h1).mono ?_
    rintro e w1 ⟨rfl, hb1⟩
    have hb2 := below_from (below_new (below_new (Below.refl _ _) _) _) hb1
    obtain ⟨e1, e2⟩ := two_blocks hb1
    obtain ⟨⟨x0, x1, x2, x3⟩, f0, f1, f2, f3⟩ := cells4_of e1
    obtain ⟨⟨y0, y1, y2, y3⟩, g0, g1, g2, g3⟩ := cells4_of e2
    clear e1 e2
    clear hb1
    cases hh : s.has b.toNat with
    | true =>
      have HE : Hid (s.with' b.toNat = s) := by
        unfold Hid
        rw [HW.out, orBit_same (by rw [← HB.out]; exact hh)]
        simp
      clear hh
      go_wp2_with fail
      refine bodyPost_ret (v := setV s) (by simp [results, Tryd.results63, go_sem, x0, x1, x2, x3, y0, y1, y2, y3]) rfl ⟨by rw [HE.out], ?_⟩
      repeat (first | exact hb2 | refine Below.setCell ?_ (by simp) _)
    | false =>
      have HE : Hid (UInt64.toNat (UInt64.ofNat (orBit s.d.toNat r)) = s.d.toNat + pow2 r) := by
        unfold Hid
        rw [← orBit_add hX hrr (by rw [← HB.out]; exact hh), UInt64.toNat_ofNat', Nat.mod_eq_of_lt]
        · rfl
        · rw [orBit_add hX hrr (by rw [← HB.out]; exact hh)]; exact orBit_lt hX hrr
      have HL : Hid (s.d.toNat + pow2 r < 18446744073709551616) := by
        unfold Hid
        rw [← HE.out]
        exact UInt64.toNat_lt _
      clear hh
      go_wp2_with fail
      go_loopw [5, 6] (fun x i wr => ∃ k : Nat, k ≤ r ∧ i = .int .i64 k ∧ x = .int .u64 (pow2 k : Int) ∧ wr = w1) (fun _ i _ => r - (intOf i).toNat)
      case atStart => exact ⟨0, Nat.zero_le _, rfl, rfl, rfl⟩
      case round =>
        obtain ⟨k, hk, rfl, rfl, rfl⟩ := hrel
        by_cases hlt : k < r
        · have g : decide ((k : Int) < (r : Int)) = true := by simp; omega
          have p1 := pow2_succ k
          have p2 := pow2_lt (show k + 1 < 64 by omega)
          generalize e3 : pow2 (k + 1) = y1 at *
          generalize pow2 k = y at *
          go_wp2_with fail
          go_roundw
          case rel => exact ⟨k + 1, by omega, by go_num, by rw [e3]; simp [IntKind.wrap, IntKind.bits, IntKind.signed]; omega, trivial⟩
          case measure => simp [intOf]; omega
        · have hk : k = r := by omega
          subst hk
          have g : decide ((k : Int) < (k : Int)) = false := by simp
          have q0 := HL.out
          have q1 : IntKind.u64.wrap ((s.d.toNat : Int) + (pow2 k : Int)) = (s.d.toNat : Int) + (pow2 k : Int) := by
            simp [IntKind.wrap, IntKind.bits, IntKind.signed]; omega
          go_wp2_with fail
          refine bodyPost_ret (v := setV (s.with' b.toNat)) (by rw [HW.out]; simp [results, Tryd.results63, go_sem, x0, x1, x2, x3, y0, y1, y2, y3]; have := HE.out; simp at this; omega) rfl ⟨rfl, ?_⟩
          repeat (first | exact hb2 | refine Below.setCell ?_ (by simp) _)
end Go.Proofs.YthagcmpehpgmpaaDoor
