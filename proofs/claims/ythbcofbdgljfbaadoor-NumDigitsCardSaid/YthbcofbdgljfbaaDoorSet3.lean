/- Sets of bytes: the document's, of bytes. -/
import Derived.Test.YthbcofbdgljfbaaDoorSet2
import Derived.Test.YthbcofbdgljfbaaDoorBytes
import Derived.StillTailTactics
namespace Go.Proofs.YthbcofbdgljfbaaDoor
open Go.RowKit
set_option linter.unusedVariables false
set_option linter.unusedSimpArgs false

abbrev setA (s : S4) : Array Value := #[.int .u64 (s.a.toNat : Int), .int .u64 (s.b.toNat : Int), .int .u64 (s.c.toNat : Int), .int .u64 (s.d.toNat : Int)]
/-- a block of four cells, written -/
theorem four_setCells {w : World} {b : Nat} {v0 v1 v2 v3 u0 u1 u2 u3 : Value} {t : TypeId} (h : w.heap[b]? = some (.cells #[v0, v1, v2, v3] t (0, 0))) :
    ((((w.setCell ⟨b, 0, none⟩ u0).setCell ⟨b, 1, none⟩ u1).setCell ⟨b, 2, none⟩ u2).setCell ⟨b, 3, none⟩ u3).heap[b]? = some (.cells #[u0, u1, u2, u3] t (0, 0)) := by
  have hlt := lt_of_block h
  have h' : w.heap[b] = .cells #[v0, v1, v2, v3] t (0, 0) := by simpa [Array.getElem?_eq_getElem hlt] using h
  simp [World.setCell, Array.getElem?_modify, h]
theorem four_other {w : World} {b k : Nat} {u0 u1 u2 u3 : Value} (hk : k ≠ b) :
    ((((w.setCell ⟨b, 0, none⟩ u0).setCell ⟨b, 1, none⟩ u1).setCell ⟨b, 2, none⟩ u2).setCell ⟨b, 3, none⟩ u3).heap[k]? = w.heap[k]? := by
  rw [Below.heap_setCell _ _ _ _ hk, Below.heap_setCell _ _ _ _ hk, Below.heap_setCell _ _ _ _ hk, Below.heap_setCell _ _ _ _ hk]
theorem four_below {w x : World} {b B : Nat} {u0 u1 u2 u3 : Value} (hb : Below B w x) (hB : B ≤ b) :
    Below B w ((((x.setCell ⟨b, 0, none⟩ u0).setCell ⟨b, 1, none⟩ u1).setCell ⟨b, 2, none⟩ u2).setCell ⟨b, 3, none⟩ u3) :=
  (((hb.setCell hB _).setCell hB _).setCell hB _).setCell hB _

theorem setFrom_take {l : List UInt8} {k : Nat} {x : UInt8} (h : l[k]? = some x) (s : S4) : setFrom s (l.take (k + 1)) = (setFrom s (l.take k)).with' x.toNat := by
  rw [List.take_add_one, h, setFrom_append]
  rfl

end Go.Proofs.YthbcofbdgljfbaaDoor
