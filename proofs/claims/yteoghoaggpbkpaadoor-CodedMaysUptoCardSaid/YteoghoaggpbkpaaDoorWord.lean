/- A text's bytes, one behind the other. -/
import Derived.Test.YteoghoaggpbkpaaDoorMake2
import Derived.Test.YteoghoaggpbkpaaDoorSet4
import Derived.Test.YteoghoaggpbkpaaDoorRexD
namespace Go.Proofs.YteoghoaggpbkpaaDoor
open Go.RowKit
set_option linter.unusedVariables false
set_option linter.unusedSimpArgs false

theorem text_at (s : ByteArray) (k : Nat) (h : k < s.size) : s.data.toList[k]? = some (s[k]'h) := by
  have h' : k < s.data.toList.length := by rw [Array.length_toList]; exact h
  rw [List.getElem?_eq_getElem h']
  rfl
theorem text_len (s : ByteArray) : s.data.toList.length = s.size := by rw [Array.length_toList]; rfl
def leaf (b : UInt8) : Re := .mk (ofH (setOf [b])) []
def wordL (l : List UInt8) : List Re := l.map leaf
theorem wordL_length (l : List UInt8) : (wordL l).length = l.length := by simp [wordL]
theorem leaf_src {P : Nat → Prop} {w : World} (h : RH) : ∀ (k : Nat) (t : Re), [T.mk h []][k]? = some t → ∃ c, (∀ j u, c[j]? = some u → (reA h none 0 0).toList[k * 6 + j]? = some u) ∧ InT RE P w t c := by
  intro k t ht
  cases k with
  | succ k => simp at ht
  | zero =>
    simp at ht
    subst ht
    refine ⟨RH.cells h ++ [.slice none 0 0], fun j u hu => by simpa [RH.cells] using hu, ?_⟩
    simp only [InT, InRow]
    exact ⟨none, 0, rfl, Nat.le_refl _, trivial⟩

end Go.Proofs.YteoghoaggpbkpaaDoor
