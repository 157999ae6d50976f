/- The tables that numbers' digits read, as the rows list them. -/
import Derived.Test.YthbcofbdgljfbaaDoorDoor
import Derived.Test.YthbcofbdgljfbaaDoorNumE
import Derived.Stop.LaidErr
namespace Go.Proofs.YthbcofbdgljfbaaDoor
open Go.ChangeShapes Go.WideShapes Go.ChangeAt Go.RowKit
set_option linter.unusedVariables false
set_option linter.unusedSimpArgs false

theorem Tryd.gPowType : (Tryd.prog.globals[3]?).map (·.type) = some 82 := by kernel_rfl
theorem Tryd.cells_pow : Tryd.prog.cellsOf 82 = 20 := by kernel_rfl
theorem Tryd.cells_u64 : Tryd.prog.cellsOf 65 = 1 := by kernel_rfl
theorem pow_of_laid {W : World} {rest : List (String × DataW Unit)} (h : laidMet Tryd.prog (("math/bits.deBruijn32tab", Rows.laid_math_bits_deBruijn32tab) :: ("math/bits.deBruijn64tab", Rows.laid_math_bits_deBruijn64tab) :: ("internal/strconv.uint64pow10", Rows.laid_internal_strconv_uint64pow10) :: rest) W) : PowOk W :=
  Lib.tabIs_of_head (rest := rest) Tryd.gPow Tryd.gPowType Tryd.underlying82 Tryd.underlying65 Tryd.cells_u64 Tryd.cells_pow h.tail.tail
/-- the other table's numbers -/
def tz32Ints : List Int := [0, 1, 28, 2, 29, 14, 24, 3, 30, 22, 20, 15, 25, 17, 4, 8, 31, 27, 13, 23, 21, 19, 16, 7, 26, 12, 18, 6, 11, 5, 10, 9]
def layTab (k : IntKind) (zs : List Int) : Obj → Obj
  | .cells _ t frozen => .cells (zs.map fun z => Value.int k z).toArray t frozen
  | o => o
/-- a world in which the tables lie -/
noncomputable def powWorld (os : Os) : World :=
  { World.holding Tryd.prog os ⟨#[], #[], []⟩ with heap := (((World.holding Tryd.prog os ⟨#[], #[], []⟩).heap.modify 5 (layTab .u8 tzInts)).modify 4 (layTab .u8 tz32Ints)).modify 3 (layTab .u64 Lib.pow10Tab) }
theorem Tryd.cells_int : Tryd.prog.cellsOf 3 = 1 := by kernel_rfl
set_option maxRecDepth 100000 in
/-- a slice of numbers -/
theorem open_ints1 {H : Type} {enc : TypeId × Value → H} {w : World} {base : Nat} {spare : Nat → Bool} {held : Bool} {v : Value} {d : DataW H} {p : List MemPlace} {r : Reach} {b0 : Nat}
    (hv : Value.okWide Tryd.prog w r b0 22 v) (h : DataW.Trod enc Tryd.prog w base spare held 22 v d p) :
    ∃ (xs : List Int) (A : Option Addr) (c : Nat), v = .slice A xs.length c ∧ xs.length ≤ c ∧ c ≤ maxLen ∧ (Row1 encI w A xs ∧ ∀ n ∈ xs, -9223372036854775808 ≤ n ∧ n ≤ 9223372036854775807) := by
  obtain ⟨a0, len, cap, rfl⟩ := okWide_slice Tryd.underlying22 hv
  obtain ⟨fuel, hf⟩ := h
  rcases open_ints Tryd.underlying22 Tryd.underlying3 Tryd.cells_int hf with ⟨hcs, hx⟩ | ⟨a, len', cap', zs, hcs, _, hl, hm, hz, hx, hcell, hws⟩
  · simp [Value.cells] at hcs
    obtain ⟨rfl, rfl, rfl⟩ := hcs
    exact ⟨[], none, 0, rfl, Nat.le_refl _, by unfold maxLen; omega, fun k x h => by simp at h, fun n h => by simp at h⟩
  · simp [Value.cells] at hcs
    obtain ⟨rfl, rfl, rfl⟩ := hcs
    have hle : len ≤ zs.length := by rw [hz]; split <;> omega
    have hlen : (zs.take len).length = len := by rw [List.length_take, Nat.min_eq_left hle]
    refine ⟨zs.take len, some a, cap, by rw [hlen], by rw [hlen]; exact hl, hm, fun k x hk => ⟨a, rfl, ?_⟩, fun n hn => ?_⟩
    · rw [List.getElem?_take] at hk
      split at hk
      · rename_i hkl
        rw [hcell k (by omega), List.getD_eq_getElem?_getD, hk]
        rfl
      · cases hk
    · have hw := hws n (List.mem_of_mem_take hn)
      simpa [Lit.wf, IntKind.min, IntKind.max, IntKind.signed, IntKind.bits] using hw
end Go.Proofs.YthbcofbdgljfbaaDoor
