/- Expressions, opened. -/
import Derived.Test.YthbcofbdgljfbaaDoorOpen
import Derived.Deep.Strs
import Derived.Test.YthbcofbdgljfbaaDoorRexA
import Derived.Test.YthbcofbdgljfbaaDoorSet1
namespace Go.Proofs.YthbcofbdgljfbaaDoor
open Go.RowKit Go.ChangeShapes Go.WideShapes Go.ChangeAt
set_option linter.unusedVariables false
set_option linter.unusedSimpArgs false

theorem u8_of {n : Int} (h : (Lit.int .u8 n).wf = true) : ∃ x : UInt8, n = (x.toNat : Int) := by
  have hx : 0 ≤ n ∧ n ≤ 255 := by simpa [Lit.wf, IntKind.min, IntKind.max, IntKind.signed, IntKind.bits] using h
  exact ⟨UInt8.ofNat n.toNat, by simp [UInt8.toNat_ofNat]; omega⟩
theorem u64_of {n : Int} (h : (Lit.int .u64 n).wf = true) : ∃ x : UInt64, n = (x.toNat : Int) := by
  have hx : 0 ≤ n ∧ n ≤ 18446744073709551615 := by simpa [Lit.wf, IntKind.min, IntKind.max, IntKind.signed, IntKind.bits] using h
  exact ⟨UInt64.ofNat n.toNat, by simp [UInt64.toNat_ofNat]; omega⟩

section
variable {H : Type} {enc : TypeId × Value → H} {w : World} {base : Nat} {spare : Nat → Bool} {held : Bool}
end
end Go.Proofs.YthbcofbdgljfbaaDoor
