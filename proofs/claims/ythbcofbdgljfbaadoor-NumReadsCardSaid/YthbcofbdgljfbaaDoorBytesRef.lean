/- A set's bytes, as the document has them. -/
import Derived.Test.YthbcofbdgljfbaaDoorSet7
import Derived.Test.YthbcofbdgljfbaaDoorNum4
namespace Go.Proofs.YthbcofbdgljfbaaDoor
open Go.RowKit
set_option linter.unusedVariables false
set_option linter.unusedSimpArgs false

/-- a set's bytes below n -/
def bytesTo (s : S4) : Nat → List UInt8
  | 0 => []
  | n + 1 => if s.has n then bytesTo s n ++ [UInt8.ofNat n] else bytesTo s n
def bytesOf (s : S4) : List UInt8 := bytesTo s 256
theorem bytesTo_length (s : S4) (n : Nat) : (bytesTo s n).length ≤ n := by
  induction n with
  | zero => simp [bytesTo]
  | succ n ih =>
    simp only [bytesTo]
    split
    · rw [List.length_append, List.length_singleton]; omega
    · omega
theorem new_at1 {w : World} (o : Obj) : (w.alloc o).heap[w.heap.size]? = some o := heap_alloc_new w o
theorem heap_keep1 {W : World} {b : Nat} {x : Obj} (h : W.heap[b]? = some x) (o : Obj) : (W.alloc o).heap[b]? = some x :=
  (Below.heap_alloc W o b (lt_of_block h)).trans h
def BytesPost (l : List UInt8) (w : World) (e : Ending) (w' : World) : Prop := ∃ A c, e = .returned (.slice A l.length c) ∧ l.length ≤ c ∧ Row1 encB w' A l ∧ Below w.heap.size w w'

end Go.Proofs.YthbcofbdgljfbaaDoor
