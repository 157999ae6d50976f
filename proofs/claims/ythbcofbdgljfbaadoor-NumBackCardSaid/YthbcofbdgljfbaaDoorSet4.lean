/- Sets of bytes: of bytes. -/
import Derived.Test.YthbcofbdgljfbaaDoorSet3
namespace Go.Proofs.YthbcofbdgljfbaaDoor
open Go.RowKit
set_option linter.unusedVariables false
set_option linter.unusedSimpArgs false

theorem bits_or_word {x : UInt64} {r : Nat} (hr : r < 64) : Go.bits BinOp.or IntKind.u64 (x.toNat : Int) (IntKind.u64.wrap (2 ^ r)) = ((UInt64.ofNat (orBit x.toNat r)).toNat : Int) := by
  have h2 := pow2_lt hr
  unfold pow2 at h2
  have e : IntKind.u64.wrap ((2 ^ r : Nat) : Int) = ((2 ^ r : Nat) : Int) := wrap_u64 _ h2
  rw [show ((2 : Int) ^ r) = ((2 ^ r : Nat) : Int) by simp, e, UInt64.toNat_ofNat', Nat.mod_eq_of_lt (orBit_lt x.toNat_lt hr)]
  have hx := x.toNat_lt
  generalize x.toNat = a at *
  unfold orBit
  generalize 2 ^ r = b at *
  simp [Go.bits, IntKind.bits, IntKind.signed, IntKind.wrap]
  have h3 : a ||| b < 2 ^ 64 := Nat.or_lt_two_pow hx h2
  have k : (BitVec.ofNat 64 a ||| BitVec.ofNat 64 b).toNat = a ||| b := by
    rw [BitVec.toNat_or, BitVec.toNat_ofNat, BitVec.toNat_ofNat, Nat.mod_eq_of_lt (by omega : a < 2 ^ 64), Nat.mod_eq_of_lt (by omega : b < 2 ^ 64)]
  have m : (((BitVec.ofNat 64 a ||| BitVec.ofNat 64 b).toNat : Nat) : Int) % 18446744073709551616 = ((a ||| b : Nat) : Int) := by rw [k]; omega
  exact m
theorem four_set {w : World} {b : Nat} {v0 v1 v2 v3 u : Value} {t : TypeId} (h : w.heap[b]? = some (.cells #[v0, v1, v2, v3] t (0, 0))) :
    (w.setCell ⟨b, 0, none⟩ u).heap[b]? = some (.cells #[u, v1, v2, v3] t (0, 0)) ∧ (w.setCell ⟨b, 1, none⟩ u).heap[b]? = some (.cells #[v0, u, v2, v3] t (0, 0)) ∧
    (w.setCell ⟨b, 2, none⟩ u).heap[b]? = some (.cells #[v0, v1, u, v3] t (0, 0)) ∧ (w.setCell ⟨b, 3, none⟩ u).heap[b]? = some (.cells #[v0, v1, v2, u] t (0, 0)) := by
  refine ⟨?_, ?_, ?_, ?_⟩ <;> simp [World.setCell, Array.getElem?_modify, h]

end Go.Proofs.YthbcofbdgljfbaaDoor
