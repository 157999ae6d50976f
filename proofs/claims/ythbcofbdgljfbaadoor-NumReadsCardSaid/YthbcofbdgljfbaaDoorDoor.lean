/- The table that counts zeros, as the rows list it. -/
import Derived.Test.YthbcofbdgljfbaaDoorCards
import Derived.Test.YthbcofbdgljfbaaDoorTie
import Derived.Test.YthbcofbdgljfbaaDoorOpenRe
import Derived.Test.YthbcofbdgljfbaaDoorTz2
import Derived.Deep.DeepHandedRow
import Derived.Lib.LaidTab
namespace Go.Proofs.YthbcofbdgljfbaaDoor
open Go.ChangeShapes Go.WideShapes Go.ChangeAt Go.RowKit
set_option linter.unusedVariables false

theorem Tryd.gTz : Tryd.prog.globalNamed "math/bits.deBruijn64tab" = some 5 := by kernel_rfl
theorem Tryd.gTzType : (Tryd.prog.globals[5]?).map (·.type) = some 89 := by kernel_rfl
theorem Tryd.cells_tz : Tryd.prog.cellsOf 89 = 64 := by kernel_rfl
theorem Tryd.cells_b : Tryd.prog.cellsOf 5 = 1 := by kernel_rfl
/-- the table's numbers -/
def tzInts : List Int := [0, 1, 56, 2, 57, 49, 28, 3, 61, 58, 42, 50, 38, 29, 17, 4, 62, 47, 59, 36, 45, 43, 51, 22, 53, 39, 33, 30, 24, 18, 12, 5, 63, 55, 48, 27, 60, 41, 37, 16, 46, 35, 44, 21, 52, 32, 23, 11, 54, 26, 40, 15, 34, 20, 31, 10, 25, 14, 19, 9, 13, 8, 7, 6]
theorem tzInts_at : ∀ n : Fin 64, tzInts.getD n.val 0 = ((tzTab[n.val]'(by have := n.isLt; simp [tzTab]) : Nat) : Int) := by decide +kernel
theorem tz_of_laid {W : World} {rest : List (String × DataW Unit)} (h : laidMet Tryd.prog (("math/bits.deBruijn64tab", Rows.laid_math_bits_deBruijn64tab) :: rest) W) : TzOk W := by
  have ht : Lib.TabIs Tryd.prog W "math/bits.deBruijn64tab" .u8 tzInts :=
    Lib.tabIs_of_head (rest := rest) Tryd.gTz Tryd.gTzType Tryd.underlying89 Tryd.underlying5 Tryd.cells_b Tryd.cells_tz h
  intro n
  have := ht.cell Tryd.gTz n.val (by have := n.isLt; simp [tzInts])
  rw [this, tzInts_at]
/-- a world in which the table lies -/
noncomputable def tzWorld (os : Os) : World :=
  { World.holding Tryd.prog os ⟨#[], #[], []⟩ with heap := (World.holding Tryd.prog os ⟨#[], #[], []⟩).heap.modify 5 fun
      | .cells _ t frozen => .cells (tzInts.map fun z => Value.int .u8 z).toArray t frozen
      | o => o }
end Go.Proofs.YthbcofbdgljfbaaDoor
