/- Expressions' texts tell where they end: items, plain. -/
import Derived.Test.YthagcmpehpgmpaaDoorShowP1
namespace Go.Proofs.YthagcmpehpgmpaaDoor
set_option linter.unusedVariables false

/-- an expression's text among others behind one another; as a row among alternatives -/
def itemT (t : Re) : List UInt8 := brk (t.head.k == 4 || t.head.k == 5) (showT t)
def rowT (t : Re) : List UInt8 := brk (t.head.k == 5) (showT t)
/-- what may stand behind an item; behind a row; behind all -/
def endI (r : List UInt8) : Prop := r.head? ≠ some 42
def endR (r : List UInt8) : Prop := r = [] ∨ r.head? = some 124 ∨ r.head? = some 41
def endA (r : List UInt8) : Prop := r = [] ∨ r.head? = some 41
theorem endA.row {r : List UInt8} (h : endA r) : endR r := h.elim .inl fun h => .inr (.inr h)
theorem endR.item {r : List UInt8} (h : endR r) : endI r := by
  rcases h with rfl | h | h
  · simp [endI]
  · rw [endI, h]; decide
  · rw [endI, h]; decide
theorem show_seq {h : RH} {a b : Re} (e : h.k = 4) : showT (.mk h [a, b]) = itemT a ++ rowT b := show_4 e
theorem show_alt {h : RH} {a b : Re} (e : h.k = 5) : showT (.mk h [a, b]) = rowT a ++ (124 :: showT b) := show_5 e
theorem show_star {h : RH} {a : Re} (e : h.k = 6) : showT (.mk h [a]) = itemT a ++ [42] := show_6 e
/-- an item begins with a byte that ends none -/
theorem item_head (n : Nat) : ∀ t : Re, t.size ≤ n → okT t = true → ∃ c r, itemT t = c :: r ∧ itemHead c := by
  induction n with
  | zero => intro t hn; have := t.size_pos; omega
  | succ n ih =>
    intro t hn ho
    obtain ⟨h, ks⟩ := t
    rcases ok_shape ho with ⟨e, rfl⟩ | ⟨e, rfl⟩ | ⟨e, rfl, _⟩ | ⟨a, b, e, rfl, h1, h2⟩ | ⟨a, b, e, rfl, h1, h2⟩ | ⟨a, e, rfl, h1⟩
    · exact ⟨91, [93], by simp [itemT, T.head, e, brk, show_1 e], by decide, by decide, by decide⟩
    · exact ⟨40, [41], by simp [itemT, T.head, e, brk, show_2 e], by decide, by decide, by decide⟩
    · obtain ⟨c, r, h1, _, h2⟩ := text_head h.s
      exact ⟨c, r, by simp [itemT, T.head, e, brk, show_3 e, h1], h2⟩
    · exact ⟨40, _, by simp [itemT, T.head, e, brk]; rfl, by decide, by decide, by decide⟩
    · exact ⟨40, _, by simp [itemT, T.head, e, brk]; rfl, by decide, by decide, by decide⟩
    · simp only [T.size, T.sizes] at hn
      obtain ⟨c, r, h2, h3⟩ := ih a (by omega) h1
      have e2 : itemT (.mk h [a]) = itemT a ++ [42] := by
        rw [← show_star e]
        simp [itemT, T.head, e, brk]
      exact ⟨c, r ++ [42], by rw [e2, h2]; rfl, h3⟩
end Go.Proofs.YthagcmpehpgmpaaDoor
