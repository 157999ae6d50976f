/- A word's bits, from the lowest on: plain. -/
import Derived.Test.YteoghoaggpbkpaaDoorTz2
namespace Go.Proofs.YteoghoaggpbkpaaDoor
set_option linter.unusedVariables false
set_option linter.unusedSimpArgs false

theorem tz_bits (x : Nat) (h0 : 0 < x) (h1 : x < 18446744073709551616) :
    tzN 64 x < 64 ∧ x.testBit (tzN 64 x) = true ∧ (∀ j, j < tzN 64 x → x.testBit j = false) ∧ ∀ j, (x &&& (x - 1)).testBit j = (decide (tzN 64 x < j) && x.testBit j) := by
  obtain ⟨m, e, hk⟩ := tz_spec 64 x h0 h1
  generalize tzN 64 x = k at *
  have hpos : 0 < 2 ^ k := Nat.two_pow_pos k
  have hlow : ∀ j, j < k → x.testBit j = false := by
    intro j hj
    rw [e, Nat.testBit_two_pow_mul]
    simp; omega
  have hat : x.testBit k = true := by
    rw [e, Nat.testBit_two_pow_mul]
    simp [Nat.testBit_zero]
  refine ⟨hk, hat, hlow, fun j => ?_⟩
  rw [Nat.testBit_and]
  rcases Nat.lt_trichotomy j k with h | h | h
  · rw [hlow j h]; simp
  · subst h
    have e2 : x - 1 = 2 ^ j * (2 * m) + (2 ^ j - 1) := by
      rw [e, Nat.mul_add, Nat.mul_one]; omega
    have : (x - 1).testBit j = false := by
      rw [e2, Nat.testBit_two_pow_mul_add _ (by omega)]
      simp [Nat.testBit_zero]
    rw [this]; simp
  · have e2 : x - 1 = 2 ^ k * (2 * m) + (2 ^ k - 1) := by
      rw [e, Nat.mul_add, Nat.mul_one]; omega
    obtain ⟨t, rfl⟩ : ∃ t, j = k + (t + 1) := ⟨j - k - 1, by omega⟩
    have a : x.testBit (k + (t + 1)) = m.testBit t := by
      rw [e, Nat.testBit_two_pow_mul, show k + (t + 1) - k = t + 1 by omega, Nat.testBit_succ, show (2 * m + 1) / 2 = m by omega]
      rw [decide_eq_true (by omega : k + (t + 1) ≥ k), Bool.true_and]
    have b : (x - 1).testBit (k + (t + 1)) = m.testBit t := by
      rw [e2, Nat.testBit_two_pow_mul_add _ (by omega), if_neg (by omega), show k + (t + 1) - k = t + 1 by omega, Nat.testBit_succ, show (2 * m) / 2 = m by omega]
    rw [a, b, Bool.and_self, decide_eq_true (by omega : k < k + (t + 1)), Bool.true_and]
theorem has_test (s : S4) (i j : Nat) (hj : j < 64) : s.has (64 * i + j) = (s.get i).toNat.testBit j := by
  unfold S4.has
  rw [bitOf_test, show (64 * i + j) / 64 = i by omega, show (64 * i + j) % 64 = j by omega]
theorem bytesTo_skip (s : S4) (a : Nat) : ∀ n, (∀ j, j < n → s.has (a + j) = false) → bytesTo s (a + n) = bytesTo s a
  | 0, _ => rfl
  | n + 1, h => by
    show bytesTo s (a + n + 1) = _
    simp only [bytesTo]
    rw [h n (Nat.lt_succ_self n)]
    simpa using bytesTo_skip s a n fun j hj => h j (Nat.lt_succ_of_lt hj)
/-- what is left of the i-th word from its p-th bit on -/
def Rest (s : S4) (i p x : Nat) : Prop := ∀ j, x.testBit j = (decide (p ≤ j) && (s.get i).toNat.testBit j)
theorem rest_start (s : S4) (i : Nat) : Rest s i 0 (s.get i).toNat := fun j => by simp
theorem rest_end (s : S4) {i p : Nat} (h : Rest s i p 0) (hp : p ≤ 64) : bytesTo s (64 * i + 64) = bytesTo s (64 * i + p) := by
  obtain ⟨n, hn⟩ : ∃ n, 64 = p + n := ⟨64 - p, by omega⟩
  have := bytesTo_skip s (64 * i + p) n fun j hj => by
    rw [Nat.add_assoc, has_test s i (p + j) (by omega)]
    have h1 := h (p + j)
    rw [Nat.zero_testBit, decide_eq_true (by omega : p ≤ p + j), Bool.true_and] at h1
    exact h1.symm
  rwa [Nat.add_assoc, ← hn] at this
theorem rest_step (s : S4) {i p x : Nat} (h : Rest s i p x) (hp : p ≤ 64) (h0 : 0 < x) (h1 : x < 18446744073709551616) :
    tzN 64 x < 64 ∧ Rest s i (tzN 64 x + 1) (x &&& (x - 1)) ∧ bytesTo s (64 * i + (tzN 64 x + 1)) = bytesTo s (64 * i + p) ++ [UInt8.ofNat (64 * i + tzN 64 x)] := by
  obtain ⟨hk, hat, hlow, hnext⟩ := tz_bits x h0 h1
  generalize tzN 64 x = k at *
  have hpk : p ≤ k := by
    rcases Nat.lt_or_ge k p with hlt | hge
    · have := h k
      rw [hat] at this
      simp at this
      omega
    · exact hge
  have hX : (s.get i).toNat.testBit k = true := by
    have := h k
    rw [hat] at this
    simpa [hpk] using this.symm
  refine ⟨hk, fun j => ?_, ?_⟩
  · rw [hnext j, h j]
    by_cases h2 : k < j
    · simp [h2, show p ≤ j by omega, show k + 1 ≤ j by omega]
    · simp [h2, show ¬ (k + 1 ≤ j) by omega]
  · have e1 : bytesTo s (64 * i + k) = bytesTo s (64 * i + p) := by
      obtain ⟨n, rfl⟩ : ∃ n, k = p + n := ⟨k - p, by omega⟩
      have := bytesTo_skip s (64 * i + p) n fun j hj => by
        rw [Nat.add_assoc, has_test s i (p + j) (by omega)]
        have h2 := h (p + j)
        rw [hlow (p + j) (by omega)] at h2
        simpa using h2.symm
      rwa [Nat.add_assoc] at this
    show bytesTo s (64 * i + k + 1) = _
    simp only [bytesTo]
    rw [has_test s i k hk, hX, e1]
    simp
end Go.Proofs.YteoghoaggpbkpaaDoor
