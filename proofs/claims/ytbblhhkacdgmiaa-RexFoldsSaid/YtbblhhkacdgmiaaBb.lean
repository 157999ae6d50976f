/- Sets of bytes: is a byte in one? Sets of bytes: a byte more; of bytes. Sets of bytes: the document's, of bytes. Sets of bytes: of bytes. -/
import Derived.Test.YtbblhhkacdgmiaaBa
import Derived.Deep.QuietTactic
import Derived.BigQuiet
import Derived.StillTailTactics
namespace Go.Proofs.Ytbblhhkacdgmiaa
open Go.RowKit
set_option linter.unusedVariables false
set_option linter.unusedSimpArgs false

abbrev setV (s : S4) : Value := .agg #[.int .u64 (s.a.toNat : Int), .int .u64 (s.b.toNat : Int), .int .u64 (s.c.toNat : Int), .int .u64 (s.d.toNat : Int)]
/-- a set's word -/
def S4.get (s : S4) : Nat → UInt64
  | 0 => s.a
  | 1 => s.b
  | 2 => s.c
  | _ => s.d
/-- a byte's bit in a word -/
def bitOf (x r : Nat) : Bool := decide (x / 2 ^ r % 2 = 1)
def S4.has (s : S4) (b : Nat) : Bool := bitOf (s.get (b / 64)).toNat (b % 64)

theorem wrap_u64 (x : Nat) (h : x < 18446744073709551616) : IntKind.u64.wrap (x : Int) = (x : Int) := by
  simp [IntKind.wrap, IntKind.bits, IntKind.signed]
  omega
/-- a word, halved -/
def half (x k : Nat) : Nat := x / 2 ^ k
theorem half_zero (x : Nat) : half x 0 = x := by simp [half]
theorem half_succ (x k : Nat) : half x (k + 1) = half x k / 2 := by
  unfold half
  rw [Nat.pow_succ, ← Nat.div_div_eq_div_mul]
theorem half_le (x k : Nat) : half x k ≤ x := Nat.div_le_self _ _
theorem half_bit (x k : Nat) : bitOf x k = decide (half x k % 2 = 1) := rfl
set_option maxHeartbeats 4000000 in
theorem refHas_any (s : S4) (b : Int) (w : World) (h0 : 0 ≤ b) (h1 : b ≤ 255) :
    Calls Try.prog 38 #[setV s, .int .i64 b] w fun e w' => e = .returned (.bool (s.has b.toNat)) ∧ Below w.heap.size w w' := by
  obtain ⟨j, hj, hjj⟩ : ∃ j : Nat, b.toNat / 64 = j ∧ (j = 0 ∨ j = 1 ∨ j = 2 ∨ j = 3) := ⟨_, rfl, by omega⟩
  obtain ⟨r, hr, hrr⟩ : ∃ r : Nat, b.toNat % 64 = r ∧ r < 64 := ⟨_, rfl, by omega⟩
  have hq : b.tdiv 64 = j := by rw [Int.tdiv_eq_ediv_of_nonneg h0]; omega
  have hm : b.tmod 64 = r := by rw [Int.tmod_eq_emod_of_nonneg h0]; omega
  have HS : Hid (s.has b.toNat = bitOf (s.get j).toNat r) := by unfold Hid S4.has; rw [hj, hr]
  clear hj hr
  rcases hjj with rfl | rfl | rfl | rfl
  · have HB : Hid (s.has b.toNat = bitOf s.a.toNat r) := HS.out
    have hX := s.a.toNat_lt
    go_enter Try.func38, Try.ntmps38
    go_wp2_with fail
    generalize hXX : s.a.toNat = X at *
    go_loopw [5, 6] (fun x i wr => ∃ k : Nat, k ≤ r ∧ i = .int .i64 k ∧ x = .int .u64 (half X k : Int) ∧ Below w.heap.size w wr) (fun _ i _ => r - (intOf i).toNat)
    case atStart => exact ⟨0, Nat.zero_le _, rfl, by rw [half_zero], below_new (Below.refl _ _) _⟩
    case round =>
      obtain ⟨k, hk, rfl, rfl, hb⟩ := hrel
      have e1 := half_le X k
      have e2 := half_succ X k
      have HF := Lib.hid (half_bit X k)
      generalize e3 : half X (k + 1) = y1 at *
      generalize half X k = y at *
      have d1 : (y : Int).tdiv 2 = (y1 : Int) := by rw [Int.tdiv_eq_ediv_of_nonneg (by omega)]; omega
      have d2 : (y : Int).tmod 2 = ((y % 2 : Nat) : Int) := by rw [Int.tmod_eq_emod_of_nonneg (by omega)]; omega
      have d3 := wrap_u64 y1 (by omega)
      by_cases hlt : k < r
      · have g : decide ((k : Int) < (r : Int)) = true := by simp; omega
        go_wp2_with fail
        go_roundw
        case rel => exact ⟨k + 1, by omega, by go_num, by simp [d1, d3, e3]; omega, hb⟩
        case measure => simp [intOf]; omega
      · have hk : k = r := by omega
        subst hk
        have g : decide ((k : Int) < (k : Int)) = false := by simp
        go_wp2_with fail
        go_ret
        exact ⟨by rw [HB.out, HF.out]; simp; rw [Bool.eq_iff_iff]; simp; omega, hb⟩
  · have HB : Hid (s.has b.toNat = bitOf s.b.toNat r) := HS.out
    have hX := s.b.toNat_lt
    go_enter Try.func38, Try.ntmps38
    go_wp2_with fail
    generalize hXX : s.b.toNat = X at *
    go_loopw [5, 6] (fun x i wr => ∃ k : Nat, k ≤ r ∧ i = .int .i64 k ∧ x = .int .u64 (half X k : Int) ∧ Below w.heap.size w wr) (fun _ i _ => r - (intOf i).toNat)
    case atStart => exact ⟨0, Nat.zero_le _, rfl, by rw [half_zero], below_new (Below.refl _ _) _⟩
    case round =>
      obtain ⟨k, hk, rfl, rfl, hb⟩ := hrel
      have e1 := half_le X k
      have e2 := half_succ X k
      have HF := Lib.hid (half_bit X k)
      generalize e3 : half X (k + 1) = y1 at *
      generalize half X k = y at *
      have d1 : (y : Int).tdiv 2 = (y1 : Int) := by rw [Int.tdiv_eq_ediv_of_nonneg (by omega)]; omega
      have d2 : (y : Int).tmod 2 = ((y % 2 : Nat) : Int) := by rw [Int.tmod_eq_emod_of_nonneg (by omega)]; omega
      have d3 := wrap_u64 y1 (by omega)
      by_cases hlt : k < r
      · have g : decide ((k : Int) < (r : Int)) = true := by simp; omega
        go_wp2_with fail
        go_roundw
        case rel => exact ⟨k + 1, by omega, by go_num, by simp [d1, d3, e3]; omega, hb⟩
        case measure => simp [intOf]; omega
      · have hk : k = r := by omega
        subst hk
        have g : decide ((k : Int) < (k : Int)) = false := by simp
        go_wp2_with fail
        go_ret
        exact ⟨by rw [HB.out, HF.out]; simp; rw [Bool.eq_iff_iff]; simp; omega, hb⟩
  · have HB : Hid (s.has b.toNat = bitOf s.c.toNat r) := HS.out
    have hX := s.c.toNat_lt
    go_enter Try.func38, Try.ntmps38
    go_wp2_with fail
    generalize hXX : s.c.toNat = X at *
    go_loopw [5, 6] (fun x i wr => ∃ k : Nat, k ≤ r ∧ i = .int .i64 k ∧ x = .int .u64 (half X k : Int) ∧ Below w.heap.size w wr) (fun _ i _ => r - (intOf i).toNat)
    case atStart => exact ⟨0, Nat.zero_le _, rfl, by rw [half_zero], below_new (Below.refl _ _) _⟩
    case round =>
      obtain ⟨k, hk, rfl, rfl, hb⟩ := hrel
      have e1 := half_le X k
      have e2 := half_succ X k
      have HF := Lib.hid (half_bit X k)
      generalize e3 : half X (k + 1) = y1 at *
      generalize half X k = y at *
      have d1 : (y : Int).tdiv 2 = (y1 : Int) := by rw [Int.tdiv_eq_ediv_of_nonneg (by omega)]; omega
      have d2 : (y : Int).tmod 2 = ((y % 2 : Nat) : Int) := by rw [Int.tmod_eq_emod_of_nonneg (by omega)]; omega
      have d3 := wrap_u64 y1 (by omega)
      by_cases hlt : k < r
      · have g : decide ((k : Int) < (r : Int)) = true := by simp; omega
        go_wp2_with fail
        go_roundw
        case rel => exact ⟨k + 1, by omega, by go_num, by simp [d1, d3, e3]; omega, hb⟩
        case measure => simp [intOf]; omega
      · have hk : k = r := by omega
        subst hk
        have g : decide ((k : Int) < (k : Int)) = false := by simp
        go_wp2_with fail
        go_ret
        exact ⟨by rw [HB.out, HF.out]; simp; rw [Bool.eq_iff_iff]; simp; omega, hb⟩
  · have HB : Hid (s.has b.toNat = bitOf s.d.toNat r) := HS.out
    have hX := s.d.toNat_lt
    go_enter Try.func38, Try.ntmps38
    go_wp2_with fail
    generalize hXX : s.d.toNat = X at *
    go_loopw [5, 6] (fun x i wr => ∃ k : Nat, k ≤ r ∧ i = .int .i64 k ∧ x = .int .u64 (half X k : Int) ∧ Below w.heap.size w wr) (fun _ i _ => r - (intOf i).toNat)
    case atStart => exact ⟨0, Nat.zero_le _, rfl, by rw [half_zero], below_new (Below.refl _ _) _⟩
    case round =>
      obtain ⟨k, hk, rfl, rfl, hb⟩ := hrel
      have e1 := half_le X k
      have e2 := half_succ X k
      have HF := Lib.hid (half_bit X k)
      generalize e3 : half X (k + 1) = y1 at *
      generalize half X k = y at *
      have d1 : (y : Int).tdiv 2 = (y1 : Int) := by rw [Int.tdiv_eq_ediv_of_nonneg (by omega)]; omega
      have d2 : (y : Int).tmod 2 = ((y % 2 : Nat) : Int) := by rw [Int.tmod_eq_emod_of_nonneg (by omega)]; omega
      have d3 := wrap_u64 y1 (by omega)
      by_cases hlt : k < r
      · have g : decide ((k : Int) < (r : Int)) = true := by simp; omega
        go_wp2_with fail
        go_roundw
        case rel => exact ⟨k + 1, by omega, by go_num, by simp [d1, d3, e3]; omega, hb⟩
        case measure => simp [intOf]; omega
      · have hk : k = r := by omega
        subst hk
        have g : decide ((k : Int) < (k : Int)) = false := by simp
        go_wp2_with fail
        go_ret
        exact ⟨by rw [HB.out, HF.out]; simp; rw [Bool.eq_iff_iff]; simp; omega, hb⟩

/-- a word with one bit more -/
def orBit (x r : Nat) : Nat := x ||| 2 ^ r
theorem orBit_lt {x r : Nat} (h : x < 18446744073709551616) (hr : r < 64) : orBit x r < 18446744073709551616 := by
  unfold orBit
  have h2 : 2 ^ r < 2 ^ 64 := Nat.pow_lt_pow_right (by decide) hr
  exact Nat.or_lt_two_pow (n := 64) h h2
theorem bitOf_test (x r : Nat) : bitOf x r = x.testBit r := by
  unfold bitOf
  rw [Nat.testBit_eq_decide_div_mod_eq]
theorem orBit_same {x r : Nat} (h : bitOf x r = true) : orBit x r = x := by
  rw [bitOf_test] at h
  unfold orBit
  apply Nat.eq_of_testBit_eq
  intro i
  rw [Nat.testBit_or, Nat.testBit_two_pow]
  by_cases hi : r = i
  · subst hi; simp [h]
  · simp [hi]
theorem orBit_add {x r : Nat} (hx : x < 18446744073709551616) (hr : r < 64) (h : bitOf x r = false) : x + 2 ^ r = orBit x r := by
  rw [bitOf_test] at h
  unfold orBit
  have h2 : x &&& 2 ^ r = 0 := by
    apply Nat.eq_of_testBit_eq
    intro k
    rw [Nat.testBit_and, Nat.testBit_two_pow, Nat.zero_testBit]
    by_cases hk : r = k
    · subst hk; simp [h]
    · simp [hk]
  have hp : 2 ^ r < 18446744073709551616 := Nat.pow_lt_pow_right (a := 2) (n := 64) (by decide) hr
  generalize 2 ^ r = y at *
  have e := BitVec.add_eq_or_of_and_eq_zero (BitVec.ofNat 66 x) (BitVec.ofNat 66 y) (by
    apply BitVec.eq_of_toNat_eq
    rw [BitVec.toNat_and, BitVec.toNat_ofNat, BitVec.toNat_ofNat, Nat.mod_eq_of_lt (by omega), Nat.mod_eq_of_lt (by omega), h2]
    rfl)
  have e2 := congrArg BitVec.toNat e
  rw [BitVec.toNat_add, BitVec.toNat_or, BitVec.toNat_ofNat, BitVec.toNat_ofNat, Nat.mod_eq_of_lt (a := x) (by omega), Nat.mod_eq_of_lt (a := y) (by omega), Nat.mod_eq_of_lt (by omega)] at e2
  exact e2
/-- a set with a bit more in a word -/
def S4.withAt (s : S4) (j r : Nat) : S4 :=
  match j with
  | 0 => { s with a := UInt64.ofNat (orBit s.a.toNat r) }
  | 1 => { s with b := UInt64.ofNat (orBit s.b.toNat r) }
  | 2 => { s with c := UInt64.ofNat (orBit s.c.toNat r) }
  | _ => { s with d := UInt64.ofNat (orBit s.d.toNat r) }
/-- a set with a byte more -/
def S4.with' (s : S4) (b : Nat) : S4 := s.withAt (b / 64) (b % 64)
/-- the set of bytes -/
def setFrom (s : S4) : List UInt8 → S4
  | [] => s
  | b :: r => setFrom (s.with' b.toNat) r
def setOf (l : List UInt8) : S4 := setFrom S4.zero l
theorem setFrom_append (s : S4) (l r : List UInt8) : setFrom s (l ++ r) = setFrom (setFrom s l) r := by
  induction l generalizing s with
  | nil => rfl
  | cons b l ih => exact ih _
end Go.Proofs.Ytbblhhkacdgmiaa
namespace Go.Proofs.Ytbblhhkacdgmiaa
open Go.RowKit
set_option linter.unusedVariables false
set_option linter.unusedSimpArgs false

/-- a power of two -/
def pow2 (k : Nat) : Nat := 2 ^ k
theorem pow2_zero : pow2 0 = 1 := rfl
theorem pow2_succ (k : Nat) : pow2 (k + 1) = 2 * pow2 k := by unfold pow2; rw [Nat.pow_succ, Nat.mul_comm]
theorem pow2_lt {k : Nat} (h : k < 64) : pow2 k < 18446744073709551616 := Nat.pow_lt_pow_right (a := 2) (n := 64) (by decide) h
/-- what is added to a word -/
def plusBit (x r : Nat) : Nat := if bitOf x r then x else x + pow2 r
theorem plusBit_or {x r : Nat} (hx : x < 18446744073709551616) (hr : r < 64) : plusBit x r = orBit x r := by
  unfold plusBit
  cases h : bitOf x r with
  | true => simp [orBit_same h]
  | false => simp [pow2, orBit_add hx hr h]

/-- two new blocks, still there -/
theorem one_block {w w1 : World} {o1 : Obj} (hb : Below (w.alloc o1).heap.size (w.alloc o1) w1) : w1.heap[w.heap.size]? = some o1 := by
  rw [hb.block _ (by simp)]
  show (w.heap.push o1)[w.heap.size]? = _
  simp
theorem two_blocks {w w1 : World} {o1 o2 : Obj} (hb : Below ((w.alloc o1).alloc o2).heap.size ((w.alloc o1).alloc o2) w1) : w1.heap[w.heap.size]? = some o1 ∧ w1.heap[w.heap.size + 1]? = some o2 := by
  constructor
  · rw [hb.block _ (by simp; omega), Below.heap_alloc _ _ _ (by simp)]
    show (w.heap.push o1)[w.heap.size]? = _
    simp
  · have h := one_block hb
    simpa using h
/-- a block of four cells -/
theorem cells4_of {w : World} {b : Nat} {v0 v1 v2 v3 : Value} {t : TypeId} (h : w.heap[b]? = some (.cells #[v0, v1, v2, v3] t (0, 0))) :
    (w.cell? ⟨b, 0, none⟩ = some v0 ∧ w.cell? ⟨b, 1, none⟩ = some v1 ∧ w.cell? ⟨b, 2, none⟩ = some v2 ∧ w.cell? ⟨b, 3, none⟩ = some v3) ∧
    w.frozen? ⟨b, 0, none⟩ = false ∧ w.frozen? ⟨b, 1, none⟩ = false ∧ w.frozen? ⟨b, 2, none⟩ = false ∧ w.frozen? ⟨b, 3, none⟩ = false := by
  refine ⟨⟨?_, ?_, ?_, ?_⟩, ?_, ?_, ?_, ?_⟩ <;> simp [World.cell?, World.frozen?, h]
set_option maxHeartbeats 8000000 in
theorem refWith_any (s : S4) (b : Int) (w : World) (h0 : 0 ≤ b) (h1 : b ≤ 255) :
    Calls Try.prog 33 #[setV s, .int .i64 b] w fun e w' => e = .returned (setV (s.with' b.toNat)) ∧ Below w.heap.size w w' := by
  obtain ⟨j, hj, hjj⟩ : ∃ j : Nat, b.toNat / 64 = j ∧ (j = 0 ∨ j = 1 ∨ j = 2 ∨ j = 3) := ⟨_, rfl, by omega⟩
  obtain ⟨r, hr, hrr⟩ : ∃ r : Nat, b.toNat % 64 = r ∧ r < 64 := ⟨_, rfl, by omega⟩
  have hq : b.tdiv 64 = j := by rw [Int.tdiv_eq_ediv_of_nonneg h0]; omega
  have hm : b.tmod 64 = r := by rw [Int.tmod_eq_emod_of_nonneg h0]; omega
  have HH : Hid (s.has b.toNat = bitOf (s.get j).toNat r) := by unfold Hid S4.has; rw [hj, hr]
  rcases hjj with rfl | rfl | rfl | rfl
  · have HW : Hid (s.with' b.toNat = { s with a := UInt64.ofNat (orBit s.a.toNat r) }) := by unfold Hid S4.with'; rw [hj, hr]; rfl
    have hX := s.a.toNat_lt
    have HB : Hid (s.has b.toNat = bitOf s.a.toNat r) := HH.out
    clear hj hr HH
    go_enter Try.func33, Try.ntmps33
    go_wp2_with fail
    refine (refHas_any s b _ h0 h1).mono ?_
    rintro e w1 ⟨rfl, hb1⟩
    have hb2 := below_from (below_new (below_new (Below.refl _ _) _) _) hb1
    obtain ⟨e1, e2⟩ := two_blocks hb1
    obtain ⟨⟨x0, x1, x2, x3⟩, f0, f1, f2, f3⟩ := cells4_of e1
    obtain ⟨⟨y0, y1, y2, y3⟩, g0, g1, g2, g3⟩ := cells4_of e2
    clear e1 e2
    clear hb1
    cases hh : s.has b.toNat with
    | true =>
      have HE : Hid (s.with' b.toNat = s) := by
        unfold Hid
        rw [HW.out, orBit_same (by rw [← HB.out]; exact hh)]
        simp
      clear hh
      go_wp2_with fail
      refine bodyPost_ret (v := setV s) (by simp [results, Try.results33, go_sem, x0, x1, x2, x3, y0, y1, y2, y3]) rfl ⟨by rw [HE.out], ?_⟩
      repeat (first | exact hb2 | refine Below.setCell ?_ (by simp) _)
    | false =>
      have HE : Hid (UInt64.toNat (UInt64.ofNat (orBit s.a.toNat r)) = s.a.toNat + pow2 r) := by
        unfold Hid
        rw [← orBit_add hX hrr (by rw [← HB.out]; exact hh), UInt64.toNat_ofNat', Nat.mod_eq_of_lt]
        · rfl
        · rw [orBit_add hX hrr (by rw [← HB.out]; exact hh)]; exact orBit_lt hX hrr
      have HL : Hid (s.a.toNat + pow2 r < 18446744073709551616) := by
        unfold Hid
        rw [← HE.out]
        exact UInt64.toNat_lt _
      clear hh
      go_wp2_with fail
      go_loopw [5, 6] (fun x i wr => ∃ k : Nat, k ≤ r ∧ i = .int .i64 k ∧ x = .int .u64 (pow2 k : Int) ∧ wr = w1) (fun _ i _ => r - (intOf i).toNat)
      case atStart => exact ⟨0, Nat.zero_le _, rfl, rfl, rfl⟩
      case round =>
        obtain ⟨k, hk, rfl, rfl, rfl⟩ := hrel
        by_cases hlt : k < r
        · have g : decide ((k : Int) < (r : Int)) = true := by simp; omega
          have p1 := pow2_succ k
          have p2 := pow2_lt (show k + 1 < 64 by omega)
          generalize e3 : pow2 (k + 1) = y1 at *
          generalize pow2 k = y at *
          go_wp2_with fail
          go_roundw
          case rel => exact ⟨k + 1, by omega, by go_num, by rw [e3]; simp [IntKind.wrap, IntKind.bits, IntKind.signed]; omega, trivial⟩
          case measure => simp [intOf]; omega
        · have hk : k = r := by omega
          subst hk
          have g : decide ((k : Int) < (k : Int)) = false := by simp
          have q0 := HL.out
          have q1 : IntKind.u64.wrap ((s.a.toNat : Int) + (pow2 k : Int)) = (s.a.toNat : Int) + (pow2 k : Int) := by
            simp [IntKind.wrap, IntKind.bits, IntKind.signed]; omega
          go_wp2_with fail
          refine bodyPost_ret (v := setV (s.with' b.toNat)) (by rw [HW.out]; simp [results, Try.results33, go_sem, x0, x1, x2, x3, y0, y1, y2, y3]; have := HE.out; simp at this; omega) rfl ⟨rfl, ?_⟩
          repeat (first | exact hb2 | refine Below.setCell ?_ (by simp) _)
  · have HW : Hid (s.with' b.toNat = { s with b := UInt64.ofNat (orBit s.b.toNat r) }) := by unfold Hid S4.with'; rw [hj, hr]; rfl
    have hX := s.b.toNat_lt
    have HB : Hid (s.has b.toNat = bitOf s.b.toNat r) := HH.out
    clear hj hr HH
    go_enter Try.func33, Try.ntmps33
    go_wp2_with fail
    refine (refHas_any s b _ h0 h1).mono ?_
    rintro e w1 ⟨rfl, hb1⟩
    have hb2 := below_from (below_new (below_new (Below.refl _ _) _) _) hb1
    obtain ⟨e1, e2⟩ := two_blocks hb1
    obtain ⟨⟨x0, x1, x2, x3⟩, f0, f1, f2, f3⟩ := cells4_of e1
    obtain ⟨⟨y0, y1, y2, y3⟩, g0, g1, g2, g3⟩ := cells4_of e2
    clear e1 e2
    clear hb1
    cases hh : s.has b.toNat with
    | true =>
      have HE : Hid (s.with' b.toNat = s) := by
        unfold Hid
        rw [HW.out, orBit_same (by rw [← HB.out]; exact hh)]
        simp
      clear hh
      go_wp2_with fail
      refine bodyPost_ret (v := setV s) (by simp [results, Try.results33, go_sem, x0, x1, x2, x3, y0, y1, y2, y3]) rfl ⟨by rw [HE.out], ?_⟩
      repeat (first | exact hb2 | refine Below.setCell ?_ (by simp) _)
    | false =>
      have HE : Hid (UInt64.toNat (UInt64.ofNat (orBit s.b.toNat r)) = s.b.toNat + pow2 r) := by
        unfold Hid
        rw [← orBit_add hX hrr (by rw [← HB.out]; exact hh), UInt64.toNat_ofNat', Nat.mod_eq_of_lt]
        · rfl
        · rw [orBit_add hX hrr (by rw [← HB.out]; exact hh)]; exact orBit_lt hX hrr
      have HL : Hid (s.b.toNat + pow2 r < 18446744073709551616) := by
        unfold Hid
        rw [← HE.out]
        exact UInt64.toNat_lt _
      clear hh
      go_wp2_with fail
      go_loopw [5, 6] (fun x i wr => ∃ k : Nat, k ≤ r ∧ i = .int .i64 k ∧ x = .int .u64 (pow2 k : Int) ∧ wr = w1) (fun _ i _ => r - (intOf i).toNat)
      case atStart => exact ⟨0, Nat.zero_le _, rfl, rfl, rfl⟩
      case round =>
        obtain ⟨k, hk, rfl, rfl, rfl⟩ := hrel
        by_cases hlt : k < r
        · have g : decide ((k : Int) < (r : Int)) = true := by simp; omega
          have p1 := pow2_succ k
          have p2 := pow2_lt (show k + 1 < 64 by omega)
          generalize e3 : pow2 (k + 1) = y1 at *
          generalize pow2 k = y at *
          go_wp2_with fail
          go_roundw
          case rel => exact ⟨k + 1, by omega, by go_num, by rw [e3]; simp [IntKind.wrap, IntKind.bits, IntKind.signed]; omega, trivial⟩
          case measure => simp [intOf]; omega
        · have hk : k = r := by omega
          subst hk
          have g : decide ((k : Int) < (k : Int)) = false := by simp
          have q0 := HL.out
          have q1 : IntKind.u64.wrap ((s.b.toNat : Int) + (pow2 k : Int)) = (s.b.toNat : Int) + (pow2 k : Int) := by
            simp [IntKind.wrap, IntKind.bits, IntKind.signed]; omega
          go_wp2_with fail
          refine bodyPost_ret (v := setV (s.with' b.toNat)) (by rw [HW.out]; simp [results, Try.results33, go_sem, x0, x1, x2, x3, y0, y1, y2, y3]; have := HE.out; simp at this; omega) rfl ⟨rfl, ?_⟩
          repeat (first | exact hb2 | refine Below.setCell ?_ (by simp) _)
  · have HW : Hid (s.with' b.toNat = { s with c := UInt64.ofNat (orBit s.c.toNat r) }) := by unfold Hid S4.with'; rw [hj, hr]; rfl
    have hX := s.c.toNat_lt
    have HB : Hid (s.has b.toNat = bitOf s.c.toNat r) := HH.out
    clear hj hr HH
    go_enter Try.func33, Try.ntmps33
    go_wp2_with fail
    refine (refHas_any s b _ h0 h1).mono ?_
    rintro e w1 ⟨rfl, hb1⟩
    have hb2 := below_from (below_new (below_new (Below.refl _ _) _) _) hb1
    obtain ⟨e1, e2⟩ := two_blocks hb1
    obtain ⟨⟨x0, x1, x2, x3⟩, f0, f1, f2, f3⟩ := cells4_of e1
    obtain ⟨⟨y0, y1, y2, y3⟩, g0, g1, g2, g3⟩ := cells4_of e2
    clear e1 e2
    clear hb1
    cases hh : s.has b.toNat with
    | true =>
      have HE : Hid (s.with' b.toNat = s) := by
        unfold Hid
        rw [HW.out, orBit_same (by rw [← HB.out]; exact hh)]
        simp
      clear hh
      go_wp2_with fail
      refine bodyPost_ret (v := setV s) (by simp [results, Try.results33, go_sem, x0, x1, x2, x3, y0, y1, y2, y3]) rfl ⟨by rw [HE.out], ?_⟩
      repeat (first | exact hb2 | refine Below.setCell ?_ (by simp) _)
    | false =>
      have HE : Hid (UInt64.toNat (UInt64.ofNat (orBit s.c.toNat r)) = s.c.toNat + pow2 r) := by
        unfold Hid
        rw [← orBit_add hX hrr (by rw [← HB.out]; exact hh), UInt64.toNat_ofNat', Nat.mod_eq_of_lt]
        · rfl
        · rw [orBit_add hX hrr (by rw [← HB.out]; exact hh)]; exact orBit_lt hX hrr
      have HL : Hid (s.c.toNat + pow2 r < 18446744073709551616) := by
        unfold Hid
        rw [← HE.out]
        exact UInt64.toNat_lt _
      clear hh
      go_wp2_with fail
      go_loopw [5, 6] (fun x i wr => ∃ k : Nat, k ≤ r ∧ i = .int .i64 k ∧ x = .int .u64 (pow2 k : Int) ∧ wr = w1) (fun _ i _ => r - (intOf i).toNat)
      case atStart => exact ⟨0, Nat.zero_le _, rfl, rfl, rfl⟩
      case round =>
        obtain ⟨k, hk, rfl, rfl, rfl⟩ := hrel
        by_cases hlt : k < r
        · have g : decide ((k : Int) < (r : Int)) = true := by simp; omega
          have p1 := pow2_succ k
          have p2 := pow2_lt (show k + 1 < 64 by omega)
          generalize e3 : pow2 (k + 1) = y1 at *
          generalize pow2 k = y at *
          go_wp2_with fail
          go_roundw
          case rel => exact ⟨k + 1, by omega, by go_num, by rw [e3]; simp [IntKind.wrap, IntKind.bits, IntKind.signed]; omega, trivial⟩
          case measure => simp [intOf]; omega
        · have hk : k = r := by omega
          subst hk
          have g : decide ((k : Int) < (k : Int)) = false := by simp
          have q0 := HL.out
          have q1 : IntKind.u64.wrap ((s.c.toNat : Int) + (pow2 k : Int)) = (s.c.toNat : Int) + (pow2 k : Int) := by
            simp [IntKind.wrap, IntKind.bits, IntKind.signed]; omega
          go_wp2_with fail
          refine bodyPost_ret (v := setV (s.with' b.toNat)) (by rw [HW.out]; simp [results, Try.results33, go_sem, x0, x1, x2, x3, y0, y1, y2, y3]; have := HE.out; simp at this; omega) rfl ⟨rfl, ?_⟩
          repeat (first | exact hb2 | refine Below.setCell ?_ (by simp) _)
  · have HW : Hid (s.with' b.toNat = { s with d := UInt64.ofNat (orBit s.d.toNat r) }) := by unfold Hid S4.with'; rw [hj, hr]; rfl
    have hX := s.d.toNat_lt
    have HB : Hid (s.has b.toNat = bitOf s.d.toNat r) := HH.out
    clear hj hr HH
    go_enter Try.func33, Try.ntmps33
    go_wp2_with fail
    refine (refHas_any s b _ h0 h1).mono ?_
    rintro e w1 ⟨rfl, hb1⟩
    have hb2 := below_from (below_new (below_new (Below.refl _ _) _) _) hb1
    obtain ⟨e1, e2⟩ := two_blocks hb1
    obtain ⟨⟨x0, x1, x2, x3⟩, f0, f1, f2, f3⟩ := cells4_of e1
    obtain ⟨⟨y0, y1, y2, y3⟩, g0, g1, g2, g3⟩ := cells4_of e2
    clear e1 e2
    clear hb1
    cases hh : s.has b.toNat with
    | true =>
      have HE : Hid (s.with' b.toNat = s) := by
        unfold Hid
        rw [HW.out, orBit_same (by rw [← HB.out]; exact hh)]
        simp
      clear hh
      go_wp2_with fail
      refine bodyPost_ret (v := setV s) (by simp [results, Try.results33, go_sem, x0, x1, x2, x3, y0, y1, y2, y3]) rfl ⟨by rw [HE.out], ?_⟩
      repeat (first | exact hb2 | refine Below.setCell ?_ (by simp) _)
    | false =>
      have HE : Hid (UInt64.toNat (UInt64.ofNat (orBit s.d.toNat r)) = s.d.toNat + pow2 r) := by
        unfold Hid
        rw [← orBit_add hX hrr (by rw [← HB.out]; exact hh), UInt64.toNat_ofNat', Nat.mod_eq_of_lt]
        · rfl
        · rw [orBit_add hX hrr (by rw [← HB.out]; exact hh)]; exact orBit_lt hX hrr
      have HL : Hid (s.d.toNat + pow2 r < 18446744073709551616) := by
        unfold Hid
        rw [← HE.out]
        exact UInt64.toNat_lt _
      clear hh
      go_wp2_with fail
      go_loopw [5, 6] (fun x i wr => ∃ k : Nat, k ≤ r ∧ i = .int .i64 k ∧ x = .int .u64 (pow2 k : Int) ∧ wr = w1) (fun _ i _ => r - (intOf i).toNat)
      case atStart => exact ⟨0, Nat.zero_le _, rfl, rfl, rfl⟩
      case round =>
        obtain ⟨k, hk, rfl, rfl, rfl⟩ := hrel
        by_cases hlt : k < r
        · have g : decide ((k : Int) < (r : Int)) = true := by simp; omega
          have p1 := pow2_succ k
          have p2 := pow2_lt (show k + 1 < 64 by omega)
          generalize e3 : pow2 (k + 1) = y1 at *
          generalize pow2 k = y at *
          go_wp2_with fail
          go_roundw
          case rel => exact ⟨k + 1, by omega, by go_num, by rw [e3]; simp [IntKind.wrap, IntKind.bits, IntKind.signed]; omega, trivial⟩
          case measure => simp [intOf]; omega
        · have hk : k = r := by omega
          subst hk
          have g : decide ((k : Int) < (k : Int)) = false := by simp
          have q0 := HL.out
          have q1 : IntKind.u64.wrap ((s.d.toNat : Int) + (pow2 k : Int)) = (s.d.toNat : Int) + (pow2 k : Int) := by
            simp [IntKind.wrap, IntKind.bits, IntKind.signed]; omega
          go_wp2_with fail
          refine bodyPost_ret (v := setV (s.with' b.toNat)) (by rw [HW.out]; simp [results, Try.results33, go_sem, x0, x1, x2, x3, y0, y1, y2, y3]; have := HE.out; simp at this; omega) rfl ⟨rfl, ?_⟩
          repeat (first | exact hb2 | refine Below.setCell ?_ (by simp) _)
end Go.Proofs.Ytbblhhkacdgmiaa
namespace Go.Proofs.Ytbblhhkacdgmiaa
open Go.RowKit
set_option linter.unusedVariables false
set_option linter.unusedSimpArgs false

abbrev setA (s : S4) : Array Value := #[.int .u64 (s.a.toNat : Int), .int .u64 (s.b.toNat : Int), .int .u64 (s.c.toNat : Int), .int .u64 (s.d.toNat : Int)]
/-- a block of four cells, written -/
theorem four_setCells {w : World} {b : Nat} {v0 v1 v2 v3 u0 u1 u2 u3 : Value} {t : TypeId} (h : w.heap[b]? = some (.cells #[v0, v1, v2, v3] t (0, 0))) :
    ((((w.setCell ⟨b, 0, none⟩ u0).setCell ⟨b, 1, none⟩ u1).setCell ⟨b, 2, none⟩ u2).setCell ⟨b, 3, none⟩ u3).heap[b]? = some (.cells #[u0, u1, u2, u3] t (0, 0)) := by
  have hlt := lt_of_block h
  have h' : w.heap[b] = .cells #[v0, v1, v2, v3] t (0, 0) := by simpa [Array.getElem?_eq_getElem hlt] using h
  simp [World.setCell, Array.getElem?_modify, h]
theorem four_other {w : World} {b k : Nat} {u0 u1 u2 u3 : Value} (hk : k ≠ b) :
    ((((w.setCell ⟨b, 0, none⟩ u0).setCell ⟨b, 1, none⟩ u1).setCell ⟨b, 2, none⟩ u2).setCell ⟨b, 3, none⟩ u3).heap[k]? = w.heap[k]? := by
  rw [Below.heap_setCell _ _ _ _ hk, Below.heap_setCell _ _ _ _ hk, Below.heap_setCell _ _ _ _ hk, Below.heap_setCell _ _ _ _ hk]
theorem four_below {w x : World} {b B : Nat} {u0 u1 u2 u3 : Value} (hb : Below B w x) (hB : B ≤ b) :
    Below B w ((((x.setCell ⟨b, 0, none⟩ u0).setCell ⟨b, 1, none⟩ u1).setCell ⟨b, 2, none⟩ u2).setCell ⟨b, 3, none⟩ u3) :=
  (((hb.setCell hB _).setCell hB _).setCell hB _).setCell hB _

theorem setFrom_take {l : List UInt8} {k : Nat} {x : UInt8} (h : l[k]? = some x) (s : S4) : setFrom s (l.take (k + 1)) = (setFrom s (l.take k)).with' x.toNat := by
  rw [List.take_add_one, h, setFrom_append]
  rfl

set_option maxRecDepth 100000 in
set_option maxHeartbeats 8000000 in
theorem refOf_any (l : List UInt8) (A : Option Addr) (c : Nat) (w : World) (hm : l.length ≤ 1000000000) (hc : l.length ≤ c) (hr : Row1 encB w A l) :
    Calls Try.prog 26 #[.slice A l.length c] w fun e w' => e = .returned (setV (setOf l)) ∧ Below w.heap.size w w' := by
  have HO : Hid (setOf l = setFrom S4.zero l) := rfl
  go_enter Try.func26, Try.ntmps26
  go_wp2_with fail
  obtain ⟨e1, e2⟩ := two_blocks (w := w) (o1 := .cells (setA S4.zero) 25) (o2 := .cells (setA S4.zero) 25) (Below.refl _ _)
  have hb0 : Below w.heap.size w ((w.alloc (.cells (setA S4.zero) 25)).alloc (.cells (setA S4.zero) 25)) := below_new (below_new (Below.refl _ _) _) _
  have E1 := Lib.hid e1
  have E2 := Lib.hid e2
  clear e1 e2
  go_loopw [4, 8] (fun _ i wr => ∃ (k : Nat), k ≤ l.length ∧ i = .int .i64 k ∧ Hid (wr.heap[w.heap.size]? = some (.cells (setA S4.zero) 25 (0, 0))) ∧ Hid (wr.heap[w.heap.size + 1]? = some (.cells (setA (setFrom S4.zero (l.take k))) 25 (0, 0))) ∧ Below w.heap.size w wr) (fun _ i _ => l.length - (intOf i).toNat)
  case atStart => exact ⟨0, Nat.zero_le _, rfl, E1, E2, hb0⟩
  case round =>
    clear E1 E2 hb0
    obtain ⟨k, hk, rfl, E1, E2, hb⟩ := hrel
    obtain ⟨⟨x0, x1, x2, x3⟩, f0, f1, f2, f3⟩ := cells4_of E1.out
    obtain ⟨⟨y0, y1, y2, y3⟩, g0, g1, g2, g3⟩ := cells4_of E2.out
    by_cases hlt : k < l.length
    · have hT := Lib.hid (setFrom_take (l := l) (k := k) (x := l[k]) (by simp [hlt]) S4.zero)
      generalize setFrom S4.zero (l.take k) = s0 at *
      obtain ⟨ad, hA, hcell⟩ := (hr.below hb) k l[k] (by simp [hlt])
      subst hA
      have hx := l[k].toNat_lt
      generalize l[k] = x at *
      go_wp2_with fail
      have L1 := Lib.hid (lt_of_block E1.out)
      have L2 := Lib.hid (lt_of_block E2.out)
      go_still_tail 6, (by kernel_rfl)
      go_wp2_with fail
      refine (refWith_any s0 _ _ (by omega) (by omega)).mono ?_
      rintro e w1 ⟨rfl, hb1⟩
      have hb2 : Below w.heap.size w w1 := below_from (pw_drewN hb 1) hb1
      have E3 := Lib.hid ((hb1.block _ L1.out).trans E1.out)
      have E4 := Lib.hid ((hb1.block _ L2.out).trans E2.out)
      obtain ⟨⟨z0, z1, z2, z3⟩, h0, h1, h2, h3⟩ := cells4_of E4.out
      have hT' : Hid (setFrom S4.zero (l.take (k + 1)) = s0.with' ((x.toNat : Int)).toNat) := by unfold Hid; rw [hT.out]; simp
      generalize s0.with' ((x.toNat : Int)).toNat = s2 at *
      clear hb1 hcell hr x0 x1 x2 x3 f0 f1 f2 f3 y0 y1 y2 y3 g0 g1 g2 g3
      go_wp2_with fail
      go_roundw
      case rel => exact ⟨k + 1, by omega, by go_num, (four_other (by omega)).trans E3.out, by rw [hT'.out]; exact four_setCells E4.out, four_below hb2 (by omega)⟩
      case measure => simp [intOf]; omega
    · have he : k = l.length := by omega
      subst he
      have g : decide ((l.length : Int) < (l.length : Int)) = false := by simp
      rw [List.take_length] at E2 y0 y1 y2 y3
      have HB := Lib.hid hb
      go_wp2_with fail
      refine bodyPost_ret (v := setV (setOf l)) (by rw [HO.out]; simp [results, Try.results26, go_sem, x0, x1, x2, x3, y0, y1, y2, y3]) rfl ⟨rfl, ?_⟩
      exact four_below hb (Nat.le_refl _)
end Go.Proofs.Ytbblhhkacdgmiaa
namespace Go.Proofs.Ytbblhhkacdgmiaa
open Go.RowKit
set_option linter.unusedVariables false
set_option linter.unusedSimpArgs false

theorem bits_or_word {x : UInt64} {r : Nat} (hr : r < 64) : Go.bits BinOp.or IntKind.u64 (x.toNat : Int) (IntKind.u64.wrap (2 ^ r)) = ((UInt64.ofNat (orBit x.toNat r)).toNat : Int) := by
  have h2 := pow2_lt hr
  unfold pow2 at h2
  have e : IntKind.u64.wrap ((2 ^ r : Nat) : Int) = ((2 ^ r : Nat) : Int) := wrap_u64 _ h2
  rw [show ((2 : Int) ^ r) = ((2 ^ r : Nat) : Int) by simp, e, UInt64.toNat_ofNat', Nat.mod_eq_of_lt (orBit_lt x.toNat_lt hr)]
  have hx := x.toNat_lt
  generalize x.toNat = a at *
  unfold orBit
  generalize 2 ^ r = b at *
  simp [Go.bits, IntKind.bits, IntKind.signed, IntKind.wrap]
  have h3 : a ||| b < 2 ^ 64 := Nat.or_lt_two_pow hx h2
  have k : (BitVec.ofNat 64 a ||| BitVec.ofNat 64 b).toNat = a ||| b := by
    rw [BitVec.toNat_or, BitVec.toNat_ofNat, BitVec.toNat_ofNat, Nat.mod_eq_of_lt (by omega : a < 2 ^ 64), Nat.mod_eq_of_lt (by omega : b < 2 ^ 64)]
  have m : (((BitVec.ofNat 64 a ||| BitVec.ofNat 64 b).toNat : Nat) : Int) % 18446744073709551616 = ((a ||| b : Nat) : Int) := by rw [k]; omega
  exact m
theorem four_set {w : World} {b : Nat} {v0 v1 v2 v3 u : Value} {t : TypeId} (h : w.heap[b]? = some (.cells #[v0, v1, v2, v3] t (0, 0))) :
    (w.setCell ⟨b, 0, none⟩ u).heap[b]? = some (.cells #[u, v1, v2, v3] t (0, 0)) ∧ (w.setCell ⟨b, 1, none⟩ u).heap[b]? = some (.cells #[v0, u, v2, v3] t (0, 0)) ∧
    (w.setCell ⟨b, 2, none⟩ u).heap[b]? = some (.cells #[v0, v1, u, v3] t (0, 0)) ∧ (w.setCell ⟨b, 3, none⟩ u).heap[b]? = some (.cells #[v0, v1, v2, u] t (0, 0)) := by
  refine ⟨?_, ?_, ?_, ?_⟩ <;> simp [World.setCell, Array.getElem?_modify, h]

set_option maxHeartbeats 8000000 in
theorem setOf_any (l : List UInt8) (A : Option Addr) (c : Nat) (w : World) (hm : l.length ≤ 1000000000) (hc : l.length ≤ c) (hr : Row1 encB w A l) :
    Calls Try.prog 25 #[.slice A l.length c] w fun e w' => e = .returned (setV (setOf l)) ∧ Below w.heap.size w w' := by
  have HO : Hid (setOf l = setFrom S4.zero l) := rfl
  go_enter Try.func25, Try.ntmps25
  go_wp2_with fail
  obtain ⟨e1, e2⟩ := two_blocks (w := w) (o1 := .cells (setA S4.zero) 25) (o2 := .cells (setA S4.zero) 25) (Below.refl _ _)
  have hb0 : Below w.heap.size w ((w.alloc (.cells (setA S4.zero) 25)).alloc (.cells (setA S4.zero) 25)) := below_new (below_new (Below.refl _ _) _) _
  have E1 := Lib.hid e1
  have E2 := Lib.hid e2
  clear e1 e2
  go_loopw [5, 8] (fun _ i wr => ∃ (k : Nat), k ≤ l.length ∧ i = .int .i64 k ∧ Hid (wr.heap[w.heap.size]? = some (.cells (setA S4.zero) 25 (0, 0))) ∧ Hid (wr.heap[w.heap.size + 1]? = some (.cells (setA (setFrom S4.zero (l.take k))) 25 (0, 0))) ∧ Below w.heap.size w wr) (fun _ i _ => l.length - (intOf i).toNat)
  case atStart => exact ⟨0, Nat.zero_le _, rfl, E1, E2, hb0⟩
  case round =>
    clear E1 E2 hb0
    obtain ⟨k, hk, rfl, E1, E2, hb⟩ := hrel
    obtain ⟨⟨x0, x1, x2, x3⟩, f0, f1, f2, f3⟩ := cells4_of E1.out
    obtain ⟨⟨y0, y1, y2, y3⟩, g0, g1, g2, g3⟩ := cells4_of E2.out
    by_cases hlt : k < l.length
    · have hT := Lib.hid (setFrom_take (l := l) (k := k) (x := l[k]) (by simp [hlt]) S4.zero)
      generalize setFrom S4.zero (l.take k) = s0 at *
      obtain ⟨ad, hA, hcell⟩ := (hr.below hb) k l[k] (by simp [hlt])
      subst hA
      have hx := l[k].toNat_lt
      generalize l[k] = x at *
      obtain ⟨j, hj, hjj⟩ : ∃ j : Nat, x.toNat / 64 = j ∧ (j = 0 ∨ j = 1 ∨ j = 2 ∨ j = 3) := ⟨_, rfl, by omega⟩
      obtain ⟨r, hrr, hr64⟩ : ∃ r : Nat, x.toNat % 64 = r ∧ r < 64 := ⟨_, rfl, by omega⟩
      have HWi : Hid (s0.with' x.toNat = s0.withAt j r) := by unfold Hid S4.with'; rw [hj, hrr]
      have hq : (x.toNat : Int).tdiv 64 = j := by rw [Int.tdiv_eq_ediv_of_nonneg (by omega)]; omega
      have hm2 : (x.toNat : Int).tmod 64 = r := by rw [Int.tmod_eq_emod_of_nonneg (by omega)]; omega
      clear hj hrr hr
      rcases hjj with rfl | rfl | rfl | rfl
      · have hw := bits_or_word (x := s0.a) hr64
        have HWi' : Hid (s0.with' x.toNat = { s0 with a := UInt64.ofNat (orBit s0.a.toNat r) }) := HWi.out
        generalize UInt64.ofNat (orBit s0.a.toNat r) = u at *
        go_wp2_with fail
        go_roundw
        case rel => exact ⟨k + 1, by omega, by go_num, (Below.heap_setCell _ _ _ _ (by simp)).trans E1.out, by rw [hT.out, HWi'.out]; exact (four_set E2.out).1, hb.setCell (by simp) _⟩
        case measure => simp [intOf]; omega
      · have hw := bits_or_word (x := s0.b) hr64
        have HWi' : Hid (s0.with' x.toNat = { s0 with b := UInt64.ofNat (orBit s0.b.toNat r) }) := HWi.out
        generalize UInt64.ofNat (orBit s0.b.toNat r) = u at *
        go_wp2_with fail
        go_roundw
        case rel => exact ⟨k + 1, by omega, by go_num, (Below.heap_setCell _ _ _ _ (by simp)).trans E1.out, by rw [hT.out, HWi'.out]; exact (four_set E2.out).2.1, hb.setCell (by simp) _⟩
        case measure => simp [intOf]; omega
      · have hw := bits_or_word (x := s0.c) hr64
        have HWi' : Hid (s0.with' x.toNat = { s0 with c := UInt64.ofNat (orBit s0.c.toNat r) }) := HWi.out
        generalize UInt64.ofNat (orBit s0.c.toNat r) = u at *
        go_wp2_with fail
        go_roundw
        case rel => exact ⟨k + 1, by omega, by go_num, (Below.heap_setCell _ _ _ _ (by simp)).trans E1.out, by rw [hT.out, HWi'.out]; exact (four_set E2.out).2.2.1, hb.setCell (by simp) _⟩
        case measure => simp [intOf]; omega
      · have hw := bits_or_word (x := s0.d) hr64
        have HWi' : Hid (s0.with' x.toNat = { s0 with d := UInt64.ofNat (orBit s0.d.toNat r) }) := HWi.out
        generalize UInt64.ofNat (orBit s0.d.toNat r) = u at *
        go_wp2_with fail
        go_roundw
        case rel => exact ⟨k + 1, by omega, by go_num, (Below.heap_setCell _ _ _ _ (by simp)).trans E1.out, by rw [hT.out, HWi'.out]; exact (four_set E2.out).2.2.2, hb.setCell (by simp) _⟩
        case measure => simp [intOf]; omega
    · have he : k = l.length := by omega
      subst he
      have g : decide ((l.length : Int) < (l.length : Int)) = false := by simp
      rw [List.take_length] at E2 y0 y1 y2 y3
      have HB := Lib.hid hb
      go_wp2_with fail
      refine bodyPost_ret (v := setV (setOf l)) (by rw [HO.out]; simp [results, Try.results25, go_sem, x0, x1, x2, x3, y0, y1, y2, y3]) rfl ⟨rfl, ?_⟩
      exact four_below hb (Nat.le_refl _)
end Go.Proofs.Ytbblhhkacdgmiaa
