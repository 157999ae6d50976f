/- Sets of bytes: is a byte in one? -/
import Derived.Test.YthbcofbdgljfbaaDoorSet4
namespace Go.Proofs.YthbcofbdgljfbaaDoor
open Go.RowKit
set_option linter.unusedVariables false
set_option linter.unusedSimpArgs false

theorem bits_and_one (y : Nat) (h : y < 18446744073709551616) : Go.bits BinOp.and IntKind.u64 (y : Int) 1 = ((y % 2 : Nat) : Int) := by
  simp [Go.bits, IntKind.bits, IntKind.signed, IntKind.wrap]
  have k : (BitVec.ofNat 64 y &&& 1#64).toNat = y % 2 := by
    rw [BitVec.toNat_and, BitVec.toNat_ofNat, Nat.mod_eq_of_lt (by omega : y < 2 ^ 64)]
    simp [Nat.and_one_is_mod]
  have m : (((BitVec.ofNat 64 y &&& 1#64).toNat : Nat) : Int) % 18446744073709551616 = (y : Int) % 2 := by rw [k]; omega
  exact m
theorem bit_test (x : UInt64) (r : Nat) : (Go.bits BinOp.and IntKind.u64 ((x.toNat : Int) / 2 ^ r) 1 == 1) = bitOf x.toNat r := by
  have e : ((x.toNat : Int) / 2 ^ r) = ((half x.toNat r : Nat) : Int) := by unfold half; simp
  have h1 := half_le x.toNat r
  have h2 := x.toNat_lt
  rw [e, bits_and_one _ (by omega), half_bit, Bool.eq_iff_iff]
  simp
  omega

end Go.Proofs.YthbcofbdgljfbaaDoor
