/- The document's bound on coded expressions. Whether a coded expression may be, as the document has it. -/
import Derived.Test.YteokbmngebckjaaBa
import Derived.Test.YteokbmngebckjaaBb
import Derived.Test.YteokbmngebckjaaBc
import Derived.Test.YteokbmngebckjaaBd
import Derived.Test.YteokbmngebckjaaBe
import Derived.Deep.CutRange
namespace Go.Proofs.Yteokbmngebckjaa
open Go.RowKit
set_option linter.unusedVariables false
set_option linter.unusedSimpArgs false

/-- more than m nodes, or bits of 100 in one -/
def greatC (m : Int) (t : Co) : Bool := greatB m t || t.all.any fun x => decide (100 < x.head.b.length)
theorem great_few {m : Nat} {t : Co} (h : greatC m t = false) : t.size ≤ m ∧ ∀ x ∈ t.all, x.head.b.length ≤ 100 := by
  unfold greatC at h
  rw [Bool.or_eq_false_iff] at h
  obtain ⟨h1, h2⟩ := h
  refine ⟨?_, fun x hx => ?_⟩
  · unfold greatB at h1
    have := of_decide_eq_false h1
    omega
  · have := List.any_eq_false.1 h2 x hx
    simpa using this
end Go.Proofs.Yteokbmngebckjaa
namespace Go.Proofs.Yteokbmngebckjaa
open Go.RowKit
set_option linter.unusedVariables false
set_option linter.unusedSimpArgs false

mutual
theorem okC_all : ∀ t : Co, okC t = t.all.all fun x => okNodeC x.head x.kids.length
  | .mk h ks => by
    simp only [okC, T.all, List.all_cons, T.head, T.kids, okCL_alls ks]
theorem okCL_alls : ∀ ts : List Co, okCL ts = (T.alls ts).all fun x => okNodeC x.head x.kids.length
  | [] => rfl
  | t :: ts => by
    simp only [okCL, T.alls, List.all_append, okC_all t, okCL_alls ts]
end
def bitOk (c : UInt8) : Bool := c == 48 || c == 49
theorem bits_all (l : List UInt8) : bitsB l = l.all bitOk := rfl
theorem bits_no {s : ByteArray} {k : Nat} (hlt : k < s.size) (h : bitOk (s[k]'hlt) = false) : bitsB s.data.toList = false := by
  rw [bits_all]
  exact all_no (text_at s k hlt) h
theorem bits_yes {s : ByteArray} (h : ∀ (j : Nat) (hj : j < s.size), bitOk (s[j]'hj) = true) : bitsB s.data.toList = true := by
  rw [bits_all]
  refine all_yes fun j t hj ht => ?_
  rw [text_len] at hj
  rw [text_at s j hj] at ht
  cases ht
  exact h j hj
theorem bits_step {s : ByteArray} {k : Nat} {c : UInt8} (hlt : k < s.size) (hc : c = s[k]'hlt) (h : ∀ j, ∀ h : j < s.size, j < k → bitOk (s[j]'h) = true) (hl : bitOk c = true) : Hid (∀ j, ∀ h : j < s.size, j < k + 1 → bitOk (s[j]'h) = true) := fun j hj hjk => by
  rcases Nat.lt_or_ge j k with h1 | h1
  · exact h j hj h1
  · obtain rfl : j = k := by omega
    rw [← hc]; exact hl
end Go.Proofs.Yteokbmngebckjaa
