/- The tables and the errors that numbers' reading needs, as the rows list them. -/
import Derived.Test.YthbcofbdgljfbaaDoorDoorN
import Derived.Test.YthbcofbdgljfbaaDoorRead1
namespace Go.Proofs.YthbcofbdgljfbaaDoor
open Go.ChangeShapes Go.WideShapes Go.ChangeAt Go.RowKit
set_option linter.unusedVariables false
set_option linter.unusedSimpArgs false

theorem Tryd.gErrType : (Tryd.prog.globals[1]?).map (·.type) = some 40 := by kernel_rfl
theorem Tryd.cells_err : Tryd.prog.cellsOf 79 = 1 := by kernel_rfl
theorem Tryd.cells_str : Tryd.prog.cellsOf 9 = 1 := by kernel_rfl
theorem star_err : "*" ++ "errors.errorString" = "*errors.errorString" := by decide
theorem row_err (u : TypeId) (h : Tryd.prog.typeName? 3 u = some "*errors.errorString") : u = 77 :=
  typeName_ptr_named (nm := "errors.errorString") (by rw [star_err]; kernel_rfl) (by kernel_rfl) (by decide) u (by rw [star_err]; exact h)
theorem err_of_laid {W : World} {rest : List (String × DataW Unit)} (h : laidMet Tryd.prog (("math/bits.deBruijn32tab", Rows.laid_math_bits_deBruijn32tab) :: ("math/bits.deBruijn64tab", Rows.laid_math_bits_deBruijn64tab) :: ("internal/strconv.uint64pow10", Rows.laid_internal_strconv_uint64pow10) :: ("strconv.ErrRange", Rows.laid_strconv_ErrRange) :: rest) W) : PowOk W ∧ ErrOk W := by
  refine ⟨pow_of_laid h, ?_⟩
  obtain ⟨a, s, hv, _⟩ := laid_sentinel h.tail.tail.tail Tryd.gErr Tryd.gErrType Tryd.underlying40 row_err Tryd.underlying77 Tryd.underlying79 rfl rfl Tryd.underlying9 Tryd.cells_err Tryd.cells_str
  exact ⟨_, _, hv⟩
def rangeS : ByteArray := ⟨#[118, 97, 108, 117, 101, 32, 111, 117, 116, 32, 111, 102, 32, 114, 97, 110, 103, 101]⟩
def syntaxS : ByteArray := ⟨#[105, 110, 118, 97, 108, 105, 100, 32, 115, 121, 110, 116, 97, 120]⟩
noncomputable def lowW : Nat := (World.holding Tryd.prog default ⟨#[], #[], []⟩).heap.size
noncomputable def layErr (k : Nat) : Obj → Obj
  | .cells _ t frozen => .cells #[.iface 77 (.pointer (some ⟨lowW + k, 0, none⟩))] t frozen
  | o => o
noncomputable def errHeld (os : Os) : World := World.holding Tryd.prog os ⟨#[.cells #[.string rangeS] 79, .cells #[.string syntaxS] 79], #[], []⟩
/-- a world in which tables and errors lie -/
noncomputable def errWorld (os : Os) : World :=
  { errHeld os with heap := (((((errHeld os).heap.modify 5 (layTab .u8 tzInts)).modify 4 (layTab .u8 tz32Ints)).modify 3 (layTab .u64 Lib.pow10Tab)).modify 1 (layErr 0)).modify 0 (layErr 1) }
end Go.Proofs.YthbcofbdgljfbaaDoor
