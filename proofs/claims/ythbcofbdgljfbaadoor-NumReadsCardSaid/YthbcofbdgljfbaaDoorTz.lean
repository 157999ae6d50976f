/- The lowest bit of a word: plain. -/
import Derived.Test.YthbcofbdgljfbaaDoorBytesRef
namespace Go.Proofs.YthbcofbdgljfbaaDoor
set_option linter.unusedVariables false

/-- how many zeros a word ends in -/
def tzN : Nat → Nat → Nat
  | 0, _ => 0
  | n + 1, x => if x % 2 = 1 then 0 else tzN n (x / 2) + 1
theorem tz_spec : ∀ (n x : Nat), 0 < x → x < 2 ^ n → ∃ m, x = 2 ^ tzN n x * (2 * m + 1) ∧ tzN n x < n
  | 0, x, h0, h1 => by simp at h1; omega
  | n + 1, x, h0, h1 => by
    unfold tzN
    split
    · rename_i h
      exact ⟨x / 2, by simp; omega, by omega⟩
    · rename_i h
      obtain ⟨m, e, hl⟩ := tz_spec n (x / 2) (by omega) (by rw [Nat.pow_succ] at h1; omega)
      refine ⟨m, ?_, by omega⟩
      have hx : x = 2 * (x / 2) := by omega
      rw [hx, show (2 * (x / 2)) / 2 = x / 2 by omega]
      conv => lhs; rw [e]
      rw [Nat.pow_succ]
      rw [← Nat.mul_assoc, Nat.mul_comm 2 (2 ^ _)]
theorem and_shift (k a b : Nat) : (2 ^ k * a) &&& (2 ^ k * b) = 2 ^ k * (a &&& b) := by
  apply Nat.eq_of_testBit_eq
  intro i
  simp only [Nat.testBit_and, Nat.testBit_two_pow_mul]
  by_cases h : k ≤ i <;> simp [h]
/-- the lowest bit alone -/
theorem low_bit (w m : Nat) (hm : m < 2 ^ w) : (2 * m + 1) &&& (2 * (2 ^ w - 1 - m) + 1) = 1 := by
  apply Nat.eq_of_testBit_eq
  intro i
  rw [Nat.testBit_and]
  cases i with
  | zero => simp [Nat.testBit_zero]
  | succ i =>
    rw [Nat.testBit_succ, Nat.testBit_succ, Nat.testBit_succ, show (2 * m + 1) / 2 = m by omega, show (2 * (2 ^ w - 1 - m) + 1) / 2 = 2 ^ w - 1 - m by omega,
      show 2 ^ w - 1 - m = 2 ^ w - (m + 1) by omega, Nat.testBit_two_pow_sub_succ hm]
    cases m.testBit i <;> simp
end Go.Proofs.YthbcofbdgljfbaaDoor
