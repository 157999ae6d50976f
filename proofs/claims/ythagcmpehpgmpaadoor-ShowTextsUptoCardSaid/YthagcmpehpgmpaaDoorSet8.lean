/- Sets, two by two: plain. -/
import Derived.Test.YthagcmpehpgmpaaDoorTz3
namespace Go.Proofs.YthagcmpehpgmpaaDoor
set_option linter.unusedVariables false
set_option linter.unusedSimpArgs false

def S4.or (s t : S4) : S4 := ⟨s.a ||| t.a, s.b ||| t.b, s.c ||| t.c, s.d ||| t.d⟩
def S4.and (s t : S4) : S4 := ⟨s.a &&& t.a, s.b &&& t.b, s.c &&& t.c, s.d &&& t.d⟩
/-- what is in one, and not in the other -/
def S4.less (s t : S4) : S4 := ⟨s.a &&& ~~~t.a, s.b &&& ~~~t.b, s.c &&& ~~~t.c, s.d &&& ~~~t.d⟩
theorem word_ext {x y : UInt64} (h : ∀ j, j < 64 → x.toNat.testBit j = y.toNat.testBit j) : x = y := by
  apply UInt64.toNat_inj.1
  apply Nat.eq_of_testBit_eq
  intro i
  by_cases hi : i < 64
  · exact h i hi
  · have hp : 2 ^ 64 ≤ 2 ^ i := Nat.pow_le_pow_right (by decide) (by omega)
    rw [Nat.testBit_lt_two_pow (Nat.lt_of_lt_of_le x.toNat_lt hp), Nat.testBit_lt_two_pow (Nat.lt_of_lt_of_le y.toNat_lt hp)]
theorem S4.ext_has {s t : S4} (h : ∀ b, b < 256 → s.has b = t.has b) : s = t := by
  have hw : ∀ i j, i < 4 → j < 64 → (s.get i).toNat.testBit j = (t.get i).toNat.testBit j := fun i j hi hj => by
    rw [← has_test s i j hj, ← has_test t i j hj]; exact h _ (by omega)
  rw [S4.ext_iff_]
  exact ⟨word_ext fun j hj => hw 0 j (by decide) hj, word_ext fun j hj => hw 1 j (by decide) hj, word_ext fun j hj => hw 2 j (by decide) hj, word_ext fun j hj => hw 3 j (by decide) hj⟩
/-- a byte, as a word and a bit -/
theorem byte_split (b : Nat) (hb : b < 256) : ∃ i j, i < 4 ∧ j < 64 ∧ b = 64 * i + j := ⟨b / 64, b % 64, by omega, by omega, by omega⟩
theorem orBit_test {x r : Nat} (j : Nat) (hx : x < 18446744073709551616) (hr : r < 64) : (UInt64.ofNat (orBit x r)).toNat.testBit j = (decide (r = j) || x.testBit j) := by
  rw [UInt64.toNat_ofNat', Nat.mod_eq_of_lt (orBit_lt hx hr)]
  unfold orBit
  rw [Nat.testBit_or, Nat.testBit_two_pow, Bool.or_comm]
theorem has_with (s : S4) (n b : Nat) (hn : n < 256) (hb : b < 256) : (s.with' n).has b = (decide (b = n) || s.has b) := by
  obtain ⟨i, j, hi, hj, rfl⟩ := byte_split b hb
  obtain ⟨k, r, hk, hr, rfl⟩ := byte_split n hn
  rw [has_test _ i j hj, has_test _ i j hj]
  unfold S4.with'
  rw [show (64 * k + r) / 64 = k by omega, show (64 * k + r) % 64 = r by omega]
  have e : decide (64 * i + j = 64 * k + r) = (decide (i = k) && decide (r = j)) := by
    rw [Bool.eq_iff_iff]; simp; omega
  rw [e]
  obtain rfl | rfl | rfl | rfl : k = 0 ∨ k = 1 ∨ k = 2 ∨ k = 3 := by omega
  all_goals
    obtain rfl | rfl | rfl | rfl : i = 0 ∨ i = 1 ∨ i = 2 ∨ i = 3 := by omega
    all_goals
      simp only [S4.withAt, S4.get]
      first
      | (rw [orBit_test j (UInt64.toNat_lt _) hr]; simp)
      | simp
theorem has_or (s t : S4) (b : Nat) (hb : b < 256) : (s.or t).has b = (s.has b || t.has b) := by
  obtain ⟨i, j, hi, hj, rfl⟩ := byte_split b hb
  rw [has_test _ i j hj, has_test _ i j hj, has_test _ i j hj]
  obtain rfl | rfl | rfl | rfl : i = 0 ∨ i = 1 ∨ i = 2 ∨ i = 3 := by omega
  all_goals simp [S4.or, S4.get, Nat.testBit_or]
theorem has_and (s t : S4) (b : Nat) (hb : b < 256) : (s.and t).has b = (s.has b && t.has b) := by
  obtain ⟨i, j, hi, hj, rfl⟩ := byte_split b hb
  rw [has_test _ i j hj, has_test _ i j hj, has_test _ i j hj]
  obtain rfl | rfl | rfl | rfl : i = 0 ∨ i = 1 ∨ i = 2 ∨ i = 3 := by omega
  all_goals simp [S4.and, S4.get, Nat.testBit_and]
theorem word_not (x : UInt64) (j : Nat) (hj : j < 64) : (~~~x).toNat.testBit j = !x.toNat.testBit j := by
  rw [UInt64.toNat_not, show UInt64.size - 1 - x.toNat = 2 ^ 64 - (x.toNat + 1) by simp [UInt64.size], Nat.testBit_two_pow_sub_succ x.toNat_lt]
  simp [hj]
theorem has_less (s t : S4) (b : Nat) (hb : b < 256) : (s.less t).has b = (s.has b && !t.has b) := by
  obtain ⟨i, j, hi, hj, rfl⟩ := byte_split b hb
  rw [has_test _ i j hj, has_test _ i j hj, has_test _ i j hj]
  obtain rfl | rfl | rfl | rfl : i = 0 ∨ i = 1 ∨ i = 2 ∨ i = 3 := by omega
  all_goals simp only [S4.less, S4.get, UInt64.toNat_and, Nat.testBit_and, word_not _ j hj]
theorem has_zero (b : Nat) (hb : b < 256) : S4.zero.has b = false := by
  obtain ⟨i, j, hi, hj, rfl⟩ := byte_split b hb
  rw [has_test _ i j hj]
  obtain rfl | rfl | rfl | rfl : i = 0 ∨ i = 1 ∨ i = 2 ∨ i = 3 := by omega
  all_goals simp [S4.zero, S4.get]
/-- the document's: byte by byte -/
def joinTo (s t : S4) : Nat → S4
  | 0 => s
  | k + 1 => if t.has k then (joinTo s t k).with' k else joinTo s t k
theorem joinTo_has (s t : S4) (b : Nat) (hb : b < 256) : ∀ k, k ≤ 256 → (joinTo s t k).has b = (s.has b || (decide (b < k) && t.has b))
  | 0, _ => by simp [joinTo]
  | k + 1, hk => by
    have ih := joinTo_has s t b hb k (by omega)
    unfold joinTo
    cases ht : t.has k with
    | false =>
      simp only [Bool.false_eq_true, if_false, ih]
      by_cases e : b = k
      · subst e; simp [ht]
      · rw [show decide (b < k + 1) = decide (b < k) by rw [Bool.eq_iff_iff]; simp; omega]
    | true =>
      simp only [if_true]
      rw [has_with _ _ _ (by omega) hb, ih]
      by_cases e : b = k
      · subst e; simp [ht]
      · rw [show decide (b < k + 1) = decide (b < k) by rw [Bool.eq_iff_iff]; simp; omega]
        simp [e]
theorem joinTo_all (s t : S4) : joinTo s t 256 = s.or t := S4.ext_has fun b hb => by
  rw [joinTo_has s t b hb 256 (Nat.le_refl _), has_or s t b hb]
  simp [hb]
def meetTo (s t : S4) (both : Bool) : Nat → S4
  | 0 => S4.zero
  | k + 1 => if s.has k && (t.has k == both) then (meetTo s t both k).with' k else meetTo s t both k
theorem meetTo_has (s t : S4) (both : Bool) (b : Nat) (hb : b < 256) : ∀ k, k ≤ 256 → (meetTo s t both k).has b = (decide (b < k) && (s.has b && (t.has b == both)))
  | 0, _ => by simp [meetTo, has_zero b hb]
  | k + 1, hk => by
    have ih := meetTo_has s t both b hb k (by omega)
    unfold meetTo
    cases ht : (s.has k && (t.has k == both)) with
    | false =>
      simp only [Bool.false_eq_true, if_false, ih]
      by_cases e : b = k
      · subst e; simp [ht]
      · rw [show decide (b < k + 1) = decide (b < k) by rw [Bool.eq_iff_iff]; simp; omega]
    | true =>
      simp only [if_true]
      rw [has_with _ _ _ (by omega) hb, ih]
      by_cases e : b = k
      · subst e; simp [ht]
      · rw [show decide (b < k + 1) = decide (b < k) by rw [Bool.eq_iff_iff]; simp; omega]
        simp [e]
theorem meetTo_and (s t : S4) : meetTo s t true 256 = s.and t := S4.ext_has fun b hb => by
  rw [meetTo_has s t true b hb 256 (Nat.le_refl _), has_and s t b hb]
  simp [hb]
theorem meetTo_less (s t : S4) : meetTo s t false 256 = s.less t := S4.ext_has fun b hb => by
  rw [meetTo_has s t false b hb 256 (Nat.le_refl _), has_less s t b hb]
  simp [hb]
theorem or_comm_ (s t : S4) : s.or t = t.or s := S4.ext_has fun b hb => by rw [has_or s t b hb, has_or t s b hb, Bool.or_comm]
theorem and_comm_ (s t : S4) : s.and t = t.and s := S4.ext_has fun b hb => by rw [has_and s t b hb, has_and t s b hb, Bool.and_comm]
/-- what the code has behind j words -/
def S4.orTo (o s : S4) : Nat → S4
  | 0 => o
  | 1 => ⟨o.a ||| s.a, o.b, o.c, o.d⟩
  | 2 => ⟨o.a ||| s.a, o.b ||| s.b, o.c, o.d⟩
  | 3 => ⟨o.a ||| s.a, o.b ||| s.b, o.c ||| s.c, o.d⟩
  | _ => o.or s
def S4.andTo (o s : S4) : Nat → S4
  | 0 => o
  | 1 => ⟨o.a &&& s.a, o.b, o.c, o.d⟩
  | 2 => ⟨o.a &&& s.a, o.b &&& s.b, o.c, o.d⟩
  | 3 => ⟨o.a &&& s.a, o.b &&& s.b, o.c &&& s.c, o.d⟩
  | _ => o.and s
def S4.lessTo (o s : S4) : Nat → S4
  | 0 => o
  | 1 => ⟨o.a &&& ~~~s.a, o.b, o.c, o.d⟩
  | 2 => ⟨o.a &&& ~~~s.a, o.b &&& ~~~s.b, o.c, o.d⟩
  | 3 => ⟨o.a &&& ~~~s.a, o.b &&& ~~~s.b, o.c &&& ~~~s.c, o.d⟩
  | _ => o.less s
theorem bits_or_u (x y : UInt64) : Go.bits BinOp.or IntKind.u64 (x.toNat : Int) (y.toNat : Int) = ((x ||| y).toNat : Int) := by
  have hx := x.toNat_lt
  have hy := y.toNat_lt
  rw [UInt64.toNat_or]
  generalize x.toNat = a at *
  generalize y.toNat = b at *
  simp [Go.bits, IntKind.bits, IntKind.signed, IntKind.wrap]
  have h3 : a ||| b < 2 ^ 64 := Nat.or_lt_two_pow hx hy
  have k : (BitVec.ofNat 64 a ||| BitVec.ofNat 64 b).toNat = a ||| b := by
    rw [BitVec.toNat_or, BitVec.toNat_ofNat, BitVec.toNat_ofNat, Nat.mod_eq_of_lt (by omega : a < 2 ^ 64), Nat.mod_eq_of_lt (by omega : b < 2 ^ 64)]
  have m : (((BitVec.ofNat 64 a ||| BitVec.ofNat 64 b).toNat : Nat) : Int) % 18446744073709551616 = ((a ||| b : Nat) : Int) := by rw [k]; omega
  exact m
theorem bits_and_u (x y : UInt64) : Go.bits BinOp.and IntKind.u64 (x.toNat : Int) (y.toNat : Int) = ((x &&& y).toNat : Int) := by
  rw [UInt64.toNat_and]
  exact bits_and_word _ _ x.toNat_lt y.toNat_lt
theorem bits_less_u (x y : UInt64) : Go.bits BinOp.andNot IntKind.u64 (x.toNat : Int) (y.toNat : Int) = ((x &&& ~~~y).toNat : Int) := by
  have e : Go.bits BinOp.andNot IntKind.u64 (x.toNat : Int) (y.toNat : Int) = Go.bits BinOp.and IntKind.u64 (x.toNat : Int) ((~~~y).toNat : Int) := by
    have hx := x.toNat_lt
    have hy := y.toNat_lt
    have h2 : BitVec.ofNat 64 (18446744073709551615 - y.toNat) = ~~~y.toBitVec := by
      apply BitVec.eq_of_toNat_eq
      rw [BitVec.toNat_not, BitVec.toNat_ofNat, Nat.mod_eq_of_lt (by omega)]
      simp
    simp [Go.bits, IntKind.bits, IntKind.signed, IntKind.wrap, h2]
    rfl
  rw [e]
  exact bits_and_u x (~~~y)
end Go.Proofs.YthagcmpehpgmpaaDoor
