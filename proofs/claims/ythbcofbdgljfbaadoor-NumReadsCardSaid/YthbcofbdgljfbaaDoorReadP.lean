/- Numbers of texts: plain. -/
import Derived.Test.YthbcofbdgljfbaaDoorNumE
import Derived.Lib.AtoiAllCases
namespace Go.Proofs.YthbcofbdgljfbaaDoor
set_option linter.unusedVariables false
set_option linter.unusedSimpArgs false

def isDig (c : UInt8) : Bool := decide (48 ≤ c.toNat ∧ c.toNat ≤ 57)
/-- the number of digits, behind others -/
def valF (acc : Nat) : List UInt8 → Nat
  | [] => acc
  | c :: r => valF (acc * 10 + (c.toNat - 48)) r
theorem valF_le : ∀ (l : List UInt8) (acc : Nat), acc ≤ valF acc l
  | [], acc => Nat.le_refl _
  | c :: r, acc => by
    have h1 := valF_le r (acc * 10 + (c.toNat - 48))
    have h2 : acc ≤ acc * 10 + (c.toNat - 48) := by omega
    exact Nat.le_trans h2 h1
theorem valF_snoc (l : List UInt8) (c : UInt8) : ∀ acc, valF acc (l ++ [c]) = valF acc l * 10 + (c.toNat - 48) := by
  induction l with
  | nil => intro acc; rfl
  | cons x l ih => intro acc; exact ih _
theorem valF_take {l : List UInt8} {k : Nat} {c : UInt8} (h : l[k]? = some c) : valF 0 (l.take (k + 1)) = valF 0 (l.take k) * 10 + (c.toNat - 48) := by
  rw [List.take_add_one, h]
  exact valF_snoc _ _ _
theorem valF_take_le (l : List UInt8) (k : Nat) : valF 0 (l.take k) ≤ valF 0 l := by
  have key : ∀ (a b : List UInt8) (acc : Nat), valF acc a ≤ valF acc (a ++ b) := by
    intro a
    induction a with
    | nil => intro b acc; exact valF_le b acc
    | cons x a ih => intro b acc; exact ih b _
  have := key (l.take k) (l.drop k) 0
  rwa [List.take_append_drop] at this
theorem parse_step (c : UInt8) (r : List UInt8) (acc : Nat) (hc : 48 ≤ c.toNat ∧ c.toNat ≤ 57) :
    Lib.parseUint10 acc (c :: r) = if 1844674407370955162 ≤ acc then .range else if 18446744073709551616 ≤ acc * 10 + (c.toNat - 48) then .range else Lib.parseUint10 (acc * 10 + (c.toNat - 48)) r := by
  rw [Lib.parseUint10, if_pos hc]
theorem great_ten {acc d : Nat} (h : 1844674407370955162 ≤ acc) : 18446744073709551616 ≤ acc * 10 + d := by omega
theorem parse_digs (l : List UInt8) : ∀ (acc : Nat), l.all isDig = true → acc < 18446744073709551616 →
    (Lib.parseUint10 acc l = .ok (valF acc l) ∧ valF acc l < 18446744073709551616) ∨ (Lib.parseUint10 acc l = .range ∧ 18446744073709551616 ≤ valF acc l) := by
  induction l with
  | nil => intro acc _ ha; exact .inl ⟨rfl, ha⟩
  | cons c r ih =>
    intro acc h ha
    have hcr : (48 ≤ c.toNat ∧ c.toNat ≤ 57) ∧ r.all isDig = true := by simpa [isDig] using h
    rw [parse_step c r acc hcr.1, show valF acc (c :: r) = valF (acc * 10 + (c.toNat - 48)) r from rfl]
    have hm := valF_le r (acc * 10 + (c.toNat - 48))
    have ih2 := ih (acc * 10 + (c.toNat - 48)) hcr.2
    have h4 := fun h : 1844674407370955162 ≤ acc => great_ten (d := c.toNat - 48) h
    generalize valF (acc * 10 + (c.toNat - 48)) r = v at hm ih2 ⊢
    generalize acc * 10 + (c.toNat - 48) = n at *
    generalize Lib.parseUint10 n r = pp at *
    by_cases h1 : 1844674407370955162 ≤ acc
    · rw [if_pos h1]
      exact Or.inr ⟨rfl, Nat.le_trans (h4 h1) hm⟩
    · rw [if_neg h1]
      by_cases h2 : 18446744073709551616 ≤ n
      · rw [if_pos h2]
        exact Or.inr ⟨rfl, Nat.le_trans h2 hm⟩
      · rw [if_neg h2]
        exact ih2 (Nat.lt_of_not_le h2)
/-- what the library answers at digits -/
theorem atoi_digs (l : List UInt8) (hl : l ≠ []) (h : l.all isDig = true) :
    (Lib.atoiAll l = .ok (valF 0 l : Nat) ∧ valF 0 l < 9223372036854775808) ∨ (Lib.atoiAll l = .range ∧ 9223372036854775808 ≤ valF 0 l) := by
  cases l with
  | nil => exact absurd rfl hl
  | cons c r =>
    have h0 := h
    simp only [List.all_cons, Bool.and_eq_true, isDig, decide_eq_true_eq] at h
    have hp := parse_digs (c :: r) 0 h0 (by decide)
    have hneg : ¬ c.toNat = 45 := by omega
    have hpl : ¬ (c.toNat = 43 ∨ c.toNat = 45) := by omega
    have e2 : Lib.parseMag (c :: r) = Lib.parseUint10 0 (c :: r) := by simp [Lib.parseMag]
    simp only [Lib.atoiAll]
    rw [if_neg hpl, e2]
    rcases hp with ⟨h1, h2⟩ | ⟨h1, h2⟩
    · rw [h1]
      by_cases h3 : 9223372036854775808 ≤ valF 0 (c :: r)
      · right
        exact ⟨by simp only; rw [if_pos ⟨hneg, h3⟩], h3⟩
      · left
        refine ⟨?_, by omega⟩
        simp only
        rw [if_neg (by omega), if_neg (by omega), if_neg hneg]
    · rw [h1]
      exact .inr ⟨rfl, by omega⟩
/-- the number of a text, and the error's -/
def readN (l : List UInt8) : Int × Int :=
  if l.all isDig = false then (0, 2)
  else if l = [] ∨ (1 < l.length ∧ l.head? = some 48) then (0, 2)
  else if 1000000 < valF 0 l then (0, 4)
  else (((valF 0 l : Nat) : Int), 0)
theorem readN_odd {l : List UInt8} (h : l.all isDig = false) : readN l = (0, 2) := by unfold readN; rw [if_pos h]
theorem readN_form {l : List UInt8} (h : l = [] ∨ (1 < l.length ∧ l.head? = some 48)) : readN l = (0, 2) := by
  unfold readN
  by_cases h1 : l.all isDig = false
  · rw [if_pos h1]
  · rw [if_neg h1, if_pos h]
theorem readN_great {l : List UInt8} (h : l.all isDig = true) (h1 : ¬ (l = [] ∨ (1 < l.length ∧ l.head? = some 48))) (h2 : 1000000 < valF 0 l) : readN l = (0, 4) := by
  unfold readN
  rw [if_neg (by simp [h]), if_neg h1, if_pos h2]
theorem readN_ok {l : List UInt8} (h : l.all isDig = true) (h1 : ¬ (l = [] ∨ (1 < l.length ∧ l.head? = some 48))) (h2 : ¬ 1000000 < valF 0 l) : readN l = (((valF 0 l : Nat) : Int), 0) := by
  unfold readN
  rw [if_neg (by simp [h]), if_neg h1, if_neg h2]
theorem all_false_at {l : List UInt8} {k : Nat} {c : UInt8} (h : l[k]? = some c) (hc : isDig c = false) : l.all isDig = false := by
  rw [List.all_eq_false]
  exact ⟨c, List.mem_of_getElem? h, by simp [hc]⟩
theorem all_true_at {l : List UInt8} (h : ∀ (k : Nat) (c : UInt8), l[k]? = some c → isDig c = true) : l.all isDig = true := by
  rw [List.all_eq_true]
  intro c hc
  obtain ⟨k, hk, rfl⟩ := List.mem_iff_getElem.1 hc
  exact h k _ (by simp [hk])
end Go.Proofs.YthbcofbdgljfbaaDoor
