/- Sets of bytes: is a byte in one? -/
import Derived.Test.YteoghoaggpbkpaaDoorTree
import Derived.Deep.QuietTactic
import Derived.BigQuiet
namespace Go.Proofs.YteoghoaggpbkpaaDoor
open Go.RowKit
set_option linter.unusedVariables false
set_option linter.unusedSimpArgs false

abbrev setV (s : S4) : Value := .agg #[.int .u64 (s.a.toNat : Int), .int .u64 (s.b.toNat : Int), .int .u64 (s.c.toNat : Int), .int .u64 (s.d.toNat : Int)]
/-- a set's word -/
def S4.get (s : S4) : Nat → UInt64
  | 0 => s.a
  | 1 => s.b
  | 2 => s.c
  | _ => s.d
/-- a byte's bit in a word -/
def bitOf (x r : Nat) : Bool := decide (x / 2 ^ r % 2 = 1)
def S4.has (s : S4) (b : Nat) : Bool := bitOf (s.get (b / 64)).toNat (b % 64)

theorem wrap_u64 (x : Nat) (h : x < 18446744073709551616) : IntKind.u64.wrap (x : Int) = (x : Int) := by
  simp [IntKind.wrap, IntKind.bits, IntKind.signed]
  omega
/-- a word, halved -/
def half (x k : Nat) : Nat := x / 2 ^ k
theorem half_zero (x : Nat) : half x 0 = x := by simp [half]
theorem half_succ (x k : Nat) : half x (k + 1) = half x k / 2 := by
  unfold half
  rw [Nat.pow_succ, ← Nat.div_div_eq_div_mul]
theorem half_le (x k : Nat) : half x k ≤ x := Nat.div_le_self _ _
theorem half_bit (x k : Nat) : bitOf x k = decide (half x k % 2 = 1) := rfl
set_option maxHeartbeats 4000000 in
theorem refHas_any (s : S4) (b : Int) (w : World) (h0 : 0 ≤ b) (h1 : b ≤ 255) :
    Calls Tryd.prog 49 #[setV s, .int .i64 b] w fun e w' => e = .returned (.bool (s.has b.toNat)) ∧ Below w.heap.size w w' := by
  obtain ⟨j, hj, hjj⟩ : ∃ j : Nat, b.toNat / 64 = j ∧ (j = 0 ∨ j = 1 ∨ j = 2 ∨ j = 3) := ⟨_, rfl, by omega⟩
  obtain ⟨r, hr, hrr⟩ : ∃ r : Nat, b.toNat % 64 = r ∧ r < 64 := ⟨_, rfl, by omega⟩
  have hq : b.tdiv 64 = j := by rw [Int.tdiv_eq_ediv_of_nonneg h0]; omega
  have hm : b.tmod 64 = r := by rw [Int.tmod_eq_emod_of_nonneg h0]; omega
  have HS : Hid (s.has b.toNat = bitOf (s.get j).toNat r) := by unfold Hid S4.has; rw [hj, hr]
  clear hj hr
  rcases hjj with rfl | rfl | rfl | rfl
  · have HB : Hid (s.has b.toNat = bitOf s.a.toNat r) := HS.out
    have hX := s.a.toNat_lt
    go_enter Tryd.func49, Tryd.ntmps49
    go_wp2_with fail
    generalize hXX : s.a.toNat = X at *
    go_loopw [5, 6] (fun x i wr => ∃ k : Nat, k ≤ r ∧ i = .int .i64 k ∧ x = .int .u64 (half X k : Int) ∧ Below w.heap.size w wr) (fun _ i _ => r - (intOf i).toNat)
    case atStart => exact ⟨0, Nat.zero_le _, rfl, by rw [half_zero], below_new (Below.refl _ _) _⟩
    case round =>
      obtain ⟨k, hk, rfl, rfl, hb⟩ := hrel
      have e1 := half_le X k
      have e2 := half_succ X k
      have HF := Lib.hid (half_bit X k)
      generalize e3 : half X (k + 1) = y1 at *
      generalize half X k = y at *
      have d1 : (y : Int).tdiv 2 = (y1 : Int) := by rw [Int.tdiv_eq_ediv_of_nonneg (by omega)]; omega
      have d2 : (y : Int).tmod 2 = ((y % 2 : Nat) : Int) := by rw [Int.tmod_eq_emod_of_nonneg (by omega)]; omega
      have d3 := wrap_u64 y1 (by omega)
      by_cases hlt : k < r
      · have g : decide ((k : Int) < (r : Int)) = true := by simp; omega
        go_wp2_with fail
        go_roundw
        case rel => exact ⟨k + 1, by omega, by go_num, by simp [d1, d3, e3]; omega, hb⟩
        case measure => simp [intOf]; omega
      · have hk : k = r := by omega
        subst hk
        have g : decide ((k : Int) < (k : Int)) = false := by simp
        go_wp2_with fail
        go_ret
        exact ⟨by rw [HB.out, HF.out]; simp; rw [Bool.eq_iff_iff]; simp; omega, hb⟩
  · have HB : Hid (s.has b.toNat = bitOf s.b.toNat r) := HS.out
    have hX := s.b.toNat_lt
    go_enter Tryd.func49, Tryd.ntmps49
    go_wp2_with fail
    generalize hXX : s.b.toNat = X at *
    go_loopw [5, 6] (fun x i wr => ∃ k : Nat, k ≤ r ∧ i = .int .i64 k ∧ x = .int .u64 (half X k : Int) ∧ Below w.heap.size w wr) (fun _ i _ => r - (intOf i).toNat)
    case atStart => exact ⟨0, Nat.zero_le _, rfl, by rw [half_zero], below_new (Below.refl _ _) _⟩
    case round =>
      obtain ⟨k, hk, rfl, rfl, hb⟩ := hrel
      have e1 := half_le X k
      have e2 := half_succ X k
      have HF := Lib.hid (half_bit X k)
      generalize e3 : half X (k + 1) = y1 at *
      generalize half X k = y at *
      have d1 : (y : Int).tdiv 2 = (y1 : Int) := by rw [Int.tdiv_eq_ediv_of_nonneg (by omega)]; omega
      have d2 : (y : Int).tmod 2 = ((y % 2 : Nat) : Int) := by rw [Int.tmod_eq_emod_of_nonneg (by omega)]; omega
      have d3 := wrap_u64 y1 (by omega)
      by_cases hlt : k < r
      · have g : decide ((k : Int) < (r : Int)) = true := by simp; omega
        go_wp2_with fail
        go_roundw
        case rel => exact ⟨k + 1, by omega, by go_num, by simp [d1, d3, e3]; omega, hb⟩
        case measure => simp [intOf]; omega
      · have hk : k = r := by omega
        subst hk
        have g : decide ((k : Int) < (k : Int)) = false := by simp
        go_wp2_with fail
        go_ret
        exact ⟨by rw [HB.out, HF.out]; simp; rw [Bool.eq_iff_iff]; simp; omega, hb⟩
  · have HB : Hid (s.has b.toNat = bitOf s.c.toNat r) := HS.out
    have hX := s.c.toNat_lt
    go_enter Tryd.func49, Tryd.ntmps49
    go_wp2_with fail
    generalize hXX : s.c.toNat = X at *
    go_loopw [5, 6] (fun x i wr => ∃ k : Nat, k ≤ r ∧ i = .int .i64 k ∧ x = .int .u64 (half X k : Int) ∧ Below w.heap.size w wr) (fun _ i _ => r - (intOf i).toNat)
    case atStart => exact ⟨0, Nat.zero_le _, rfl, by rw [half_zero], below_new (Below.refl _ _) _⟩
    case round =>
      obtain ⟨k, hk, rfl, rfl, hb⟩ := hrel
      have e1 := half_le X k
      have e2 := half_succ X k
      have HF := Lib.hid (half_bit X k)
      generalize e3 : half X (k + 1) = y1 at *
      generalize half X k = y at *
      have d1 : (y : Int).tdiv 2 = (y1 : Int) := by rw [Int.tdiv_eq_ediv_of_nonneg (by omega)]; omega
      have d2 : (y : Int).tmod 2 = ((y % 2 : Nat) : Int) := by rw [Int.tmod_eq_emod_of_nonneg (by omega)]; omega
      have d3 := wrap_u64 y1 (by omega)
      by_cases hlt : k < r
      · have g : decide ((k : Int) < (r : Int)) = true := by simp; omega
        go_wp2_with fail
        go_roundw
        case rel => exact ⟨k + 1, by omega, by go_num, by simp [d1, d3, e3]; omega, hb⟩
        case measure => simp [intOf]; omega
      · have hk : k = r := by omega
        subst hk
        have g : decide ((k : Int) < (k : Int)) = false := by simp
        go_wp2_with fail
        go_ret
        exact ⟨by rw [HB.out, HF.out]; simp; rw [Bool.eq_iff_iff]; simp; omega, hb⟩
  · have HB : Hid (s.has b.toNat = bitOf s.d.toNat r) := HS.out
    have hX := s.d.toNat_lt
    go_enter Tryd.func49, Tryd.ntmps49
    go_wp2_with fail
    generalize hXX : s.d.toNat = X at *
    go_loopw [5, 6] (fun x i wr => ∃ k : Nat, k ≤ r ∧ i = .int .i64 k ∧ x = .int .u64 (half X k : Int) ∧ Below w.heap.size w wr) (fun _ i _ => r - (intOf i).toNat)
    case atStart => exact ⟨0, Nat.zero_le _, rfl, by rw [half_zero], below_new (Below.refl _ _) _⟩
    case round =>
      obtain ⟨k, hk, rfl, rfl, hb⟩ := hrel
      have e1 := half_le X k
      have e2 := half_succ X k
      have HF := Lib.hid (half_bit X k)
      generalize e3 : half X (k + 1) = y1 at *
      generalize half X k = y at *
      have d1 : (y : Int).tdiv 2 = (y1 : Int) := by rw [Int.tdiv_eq_ediv_of_nonneg (by omega)]; omega
      have d2 : (y : Int).tmod 2 = ((y % 2 : Nat) : Int) := by rw [Int.tmod_eq_emod_of_nonneg (by omega)]; omega
      have d3 := wrap_u64 y1 (by omega)
      by_cases hlt : k < r
      · have g : decide ((k : Int) < (r : Int)) = true := by simp; omega
        go_wp2_with fail
        go_roundw
        case rel => exact ⟨k + 1, by omega, by go_num, by simp [d1, d3, e3]; omega, hb⟩
        case measure => simp [intOf]; omega
      · have hk : k = r := by omega
        subst hk
        have g : decide ((k : Int) < (k : Int)) = false := by simp
        go_wp2_with fail
        go_ret
        exact ⟨by rw [HB.out, HF.out]; simp; rw [Bool.eq_iff_iff]; simp; omega, hb⟩

/-- a word with one bit more -/
def orBit (x r : Nat) : Nat := x ||| 2 ^ r
theorem orBit_lt {x r : Nat} (h : x < 18446744073709551616) (hr : r < 64) : orBit x r < 18446744073709551616 := by
  unfold orBit
  have h2 : 2 ^ r < 2 ^ 64 := Nat.pow_lt_pow_right (by decide) hr
  exact Nat.or_lt_two_pow (n := 64) h h2
theorem bitOf_test (x r : Nat) : bitOf x r = x.testBit r := by
  unfold bitOf
  rw [Nat.testBit_eq_decide_div_mod_eq]
theorem orBit_same {x r : Nat} (h : bitOf x r = true) : orBit x r = x := by
  rw [bitOf_test] at h
  unfold orBit
  apply Nat.eq_of_testBit_eq
  intro i
  rw [Nat.testBit_or, Nat.testBit_two_pow]
  by_cases hi : r = i
  · subst hi; simp [h]
  · simp [hi]
theorem orBit_add {x r : Nat} (hx : x < 18446744073709551616) (hr : r < 64) (h : bitOf x r = false) : x + 2 ^ r = orBit x r := by
  rw [bitOf_test] at h
  unfold orBit
  have h2 : x &&& 2 ^ r = 0 := by
    apply Nat.eq_of_testBit_eq
    intro k
    rw [Nat.testBit_and, Nat.testBit_two_pow, Nat.zero_testBit]
    by_cases hk : r = k
    · subst hk; simp [h]
    · simp [hk]
  have hp : 2 ^ r < 18446744073709551616 := Nat.pow_lt_pow_right (a := 2) (n := 64) (by decide) hr
  generalize 2 ^ r = y at *
  have e := BitVec.add_eq_or_of_and_eq_zero (BitVec.ofNat 66 x) (BitVec.ofNat 66 y) (by
    apply BitVec.eq_of_toNat_eq
    rw [BitVec.toNat_and, BitVec.toNat_ofNat, BitVec.toNat_ofNat, Nat.mod_eq_of_lt (by omega), Nat.mod_eq_of_lt (by omega), h2]
    rfl)
  have e2 := congrArg BitVec.toNat e
  rw [BitVec.toNat_add, BitVec.toNat_or, BitVec.toNat_ofNat, BitVec.toNat_ofNat, Nat.mod_eq_of_lt (a := x) (by omega), Nat.mod_eq_of_lt (a := y) (by omega), Nat.mod_eq_of_lt (by omega)] at e2
  exact e2
/-- a set with a bit more in a word -/
def S4.withAt (s : S4) (j r : Nat) : S4 :=
  match j with
  | 0 => { s with a := UInt64.ofNat (orBit s.a.toNat r) }
  | 1 => { s with b := UInt64.ofNat (orBit s.b.toNat r) }
  | 2 => { s with c := UInt64.ofNat (orBit s.c.toNat r) }
  | _ => { s with d := UInt64.ofNat (orBit s.d.toNat r) }
/-- a set with a byte more -/
def S4.with' (s : S4) (b : Nat) : S4 := s.withAt (b / 64) (b % 64)
/-- the set of bytes -/
def setFrom (s : S4) : List UInt8 → S4
  | [] => s
  | b :: r => setFrom (s.with' b.toNat) r
def setOf (l : List UInt8) : S4 := setFrom S4.zero l
theorem setFrom_append (s : S4) (l r : List UInt8) : setFrom s (l ++ r) = setFrom (setFrom s l) r := by
  induction l generalizing s with
  | nil => rfl
  | cons b l ih => exact ih _
end Go.Proofs.YteoghoaggpbkpaaDoor
