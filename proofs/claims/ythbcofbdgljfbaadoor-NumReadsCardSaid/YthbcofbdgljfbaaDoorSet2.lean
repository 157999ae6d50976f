/- Sets of bytes: a byte more; of bytes. -/
import Derived.Test.YthbcofbdgljfbaaDoorSet1
namespace Go.Proofs.YthbcofbdgljfbaaDoor
open Go.RowKit
set_option linter.unusedVariables false
set_option linter.unusedSimpArgs false

/-- a power of two -/
def pow2 (k : Nat) : Nat := 2 ^ k
theorem pow2_zero : pow2 0 = 1 := rfl
theorem pow2_succ (k : Nat) : pow2 (k + 1) = 2 * pow2 k := by unfold pow2; rw [Nat.pow_succ, Nat.mul_comm]
theorem pow2_lt {k : Nat} (h : k < 64) : pow2 k < 18446744073709551616 := Nat.pow_lt_pow_right (a := 2) (n := 64) (by decide) h
/-- what is added to a word -/
def plusBit (x r : Nat) : Nat := if bitOf x r then x else x + pow2 r
theorem plusBit_or {x r : Nat} (hx : x < 18446744073709551616) (hr : r < 64) : plusBit x r = orBit x r := by
  unfold plusBit
  cases h : bitOf x r with
  | true => simp [orBit_same h]
  | false => simp [pow2, orBit_add hx hr h]

/-- two new blocks, still there -/
theorem one_block {w w1 : World} {o1 : Obj} (hb : Below (w.alloc o1).heap.size (w.alloc o1) w1) : w1.heap[w.heap.size]? = some o1 := by
  rw [hb.block _ (by simp)]
  show (w.heap.push o1)[w.heap.size]? = _
  simp
theorem two_blocks {w w1 : World} {o1 o2 : Obj} (hb : Below ((w.alloc o1).alloc o2).heap.size ((w.alloc o1).alloc o2) w1) : w1.heap[w.heap.size]? = some o1 ∧ w1.heap[w.heap.size + 1]? = some o2 := by
  constructor
  · rw [hb.block _ (by simp; omega), Below.heap_alloc _ _ _ (by simp)]
    show (w.heap.push o1)[w.heap.size]? = _
    simp
  · have h := one_block hb
    simpa using h
/-- a block of four cells -/
theorem cells4_of {w : World} {b : Nat} {v0 v1 v2 v3 : Value} {t : TypeId} (h : w.heap[b]? = some (.cells #[v0, v1, v2, v3] t (0, 0))) :
    (w.cell? ⟨b, 0, none⟩ = some v0 ∧ w.cell? ⟨b, 1, none⟩ = some v1 ∧ w.cell? ⟨b, 2, none⟩ = some v2 ∧ w.cell? ⟨b, 3, none⟩ = some v3) ∧
    w.frozen? ⟨b, 0, none⟩ = false ∧ w.frozen? ⟨b, 1, none⟩ = false ∧ w.frozen? ⟨b, 2, none⟩ = false ∧ w.frozen? ⟨b, 3, none⟩ = false := by
  refine ⟨⟨?_, ?_, ?_, ?_⟩, ?_, ?_, ?_, ?_⟩ <;> simp [World.cell?, World.frozen?, h]
end Go.Proofs.YthbcofbdgljfbaaDoor
