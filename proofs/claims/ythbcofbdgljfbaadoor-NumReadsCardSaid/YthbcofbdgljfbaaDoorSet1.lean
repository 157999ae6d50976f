/- Sets of bytes: is a byte in one? -/
import Derived.Test.YthbcofbdgljfbaaDoorTree
import Derived.Deep.QuietTactic
import Derived.BigQuiet
namespace Go.Proofs.YthbcofbdgljfbaaDoor
open Go.RowKit
set_option linter.unusedVariables false
set_option linter.unusedSimpArgs false

abbrev setV (s : S4) : Value := .agg #[.int .u64 (s.a.toNat : Int), .int .u64 (s.b.toNat : Int), .int .u64 (s.c.toNat : Int), .int .u64 (s.d.toNat : Int)]
/-- a set's word -/
def S4.get (s : S4) : Nat → UInt64
  | 0 => s.a
  | 1 => s.b
  | 2 => s.c
  | _ => s.d
/-- a byte's bit in a word -/
def bitOf (x r : Nat) : Bool := decide (x / 2 ^ r % 2 = 1)
def S4.has (s : S4) (b : Nat) : Bool := bitOf (s.get (b / 64)).toNat (b % 64)

theorem wrap_u64 (x : Nat) (h : x < 18446744073709551616) : IntKind.u64.wrap (x : Int) = (x : Int) := by
  simp [IntKind.wrap, IntKind.bits, IntKind.signed]
  omega
/-- a word, halved -/
def half (x k : Nat) : Nat := x / 2 ^ k
theorem half_zero (x : Nat) : half x 0 = x := by simp [half]
theorem half_succ (x k : Nat) : half x (k + 1) = half x k / 2 := by
  unfold half
  rw [Nat.pow_succ, ← Nat.div_div_eq_div_mul]
theorem half_le (x k : Nat) : half x k ≤ x := Nat.div_le_self _ _
theorem half_bit (x k : Nat) : bitOf x k = decide (half x k % 2 = 1) := rfl
/-- a word with one bit more -/
def orBit (x r : Nat) : Nat := x ||| 2 ^ r
theorem orBit_lt {x r : Nat} (h : x < 18446744073709551616) (hr : r < 64) : orBit x r < 18446744073709551616 := by
  unfold orBit
  have h2 : 2 ^ r < 2 ^ 64 := Nat.pow_lt_pow_right (by decide) hr
  exact Nat.or_lt_two_pow (n := 64) h h2
theorem bitOf_test (x r : Nat) : bitOf x r = x.testBit r := by
  unfold bitOf
  rw [Nat.testBit_eq_decide_div_mod_eq]
theorem orBit_same {x r : Nat} (h : bitOf x r = true) : orBit x r = x := by
  rw [bitOf_test] at h
  unfold orBit
  apply Nat.eq_of_testBit_eq
  intro i
  rw [Nat.testBit_or, Nat.testBit_two_pow]
  by_cases hi : r = i
  · subst hi; simp [h]
  · simp [hi]
theorem orBit_add {x r : Nat} (hx : x < 18446744073709551616) (hr : r < 64) (h : bitOf x r = false) : x + 2 ^ r = orBit x r := by
  rw [bitOf_test] at h
  unfold orBit
  have h2 : x &&& 2 ^ r = 0 := by
    apply Nat.eq_of_testBit_eq
    intro k
    rw [Nat.testBit_and, Nat.testBit_two_pow, Nat.zero_testBit]
    by_cases hk : r = k
    · subst hk; simp [h]
    · simp [hk]
  have hp : 2 ^ r < 18446744073709551616 := Nat.pow_lt_pow_right (a := 2) (n := 64) (by decide) hr
  generalize 2 ^ r = y at *
  have e := BitVec.add_eq_or_of_and_eq_zero (BitVec.ofNat 66 x) (BitVec.ofNat 66 y) (by
    apply BitVec.eq_of_toNat_eq
    rw [BitVec.toNat_and, BitVec.toNat_ofNat, BitVec.toNat_ofNat, Nat.mod_eq_of_lt (by omega), Nat.mod_eq_of_lt (by omega), h2]
    rfl)
  have e2 := congrArg BitVec.toNat e
  rw [BitVec.toNat_add, BitVec.toNat_or, BitVec.toNat_ofNat, BitVec.toNat_ofNat, Nat.mod_eq_of_lt (a := x) (by omega), Nat.mod_eq_of_lt (a := y) (by omega), Nat.mod_eq_of_lt (by omega)] at e2
  exact e2
/-- a set with a bit more in a word -/
def S4.withAt (s : S4) (j r : Nat) : S4 :=
  match j with
  | 0 => { s with a := UInt64.ofNat (orBit s.a.toNat r) }
  | 1 => { s with b := UInt64.ofNat (orBit s.b.toNat r) }
  | 2 => { s with c := UInt64.ofNat (orBit s.c.toNat r) }
  | _ => { s with d := UInt64.ofNat (orBit s.d.toNat r) }
/-- a set with a byte more -/
def S4.with' (s : S4) (b : Nat) : S4 := s.withAt (b / 64) (b % 64)
/-- the set of bytes -/
def setFrom (s : S4) : List UInt8 → S4
  | [] => s
  | b :: r => setFrom (s.with' b.toNat) r
def setOf (l : List UInt8) : S4 := setFrom S4.zero l
theorem setFrom_append (s : S4) (l r : List UInt8) : setFrom s (l ++ r) = setFrom (setFrom s l) r := by
  induction l generalizing s with
  | nil => rfl
  | cons b l ih => exact ih _
end Go.Proofs.YthbcofbdgljfbaaDoor
