/- Coded expressions, opened; the tables that the rows list. -/
import Derived.Test.YteoghoaggpbkpaaDoorOpenRe
import Derived.Test.YteoghoaggpbkpaaDoorDoor
import Derived.Test.YteoghoaggpbkpaaDoorCodAm
import Derived.Lib.SmallJoins
namespace Go.Proofs.YteoghoaggpbkpaaDoor
open Go.RowKit Go.ChangeShapes Go.WideShapes Go.ChangeAt
set_option linter.unusedVariables false
set_option linter.unusedSimpArgs false

theorem str_eta (s : ByteArray) : str s.data.toList = s := by cases s; rfl
section
variable {H : Type} {enc : TypeId × Value → H} {w : World} {base : Nat} {spare : Nat → Bool} {held : Bool}
set_option maxRecDepth 100000 in
theorem open_co1 (n : Nat) (cs : List Value) (x : DataW H × List MemPlace) (h : DataW.trod enc Tryd.prog w base spare held n 29 cs = some x) :
    ∃ (a : CH) (v : Value) (n' : Nat) (y : DataW H × List MemPlace), cs = CE.cells a ++ [v] ∧ DataW.trod enc Tryd.prog w base spare held n' 22 [v] = some y ∧ Rows.uptoBulk y.1 < Rows.uptoBulk x.1 := by
  obtain ⟨y0, y1, y2, y3, n', rfl, hl, h0, h1, h2, h3⟩ := Go.Joins.trod_struct4 Tryd.underlying29 h
  have hz : Tryd.prog.cellsOf 29 = 7 := by kernel_rfl
  have hz0 : Tryd.prog.cellsOf 5 = 1 := by kernel_rfl
  have hz1 : Tryd.prog.cellsOf 9 = 1 := by kernel_rfl
  have hz2 : Tryd.prog.cellsOf 27 = 4 := by kernel_rfl
  have hz3 : Tryd.prog.cellsOf 22 = 1 := by kernel_rfl
  rw [hz] at hl
  match cs, hl with
  | [c0, c1, c2, c3, c4, c5, c6], _ =>
  simp [hz0, hz1, hz2, hz3] at h0 h1 h2 h3
  obtain ⟨n0, e0, _, w0⟩ := DataW.trod_int Tryd.underlying5 h0
  obtain ⟨b, e1, _, _⟩ := DataW.trod_string Tryd.underlying9 h1
  obtain ⟨s, hs⟩ := open_set rfl h2
  obtain ⟨x0, rfl⟩ := u8_of w0
  simp only [List.cons.injEq, and_true] at e0 e1 hs
  obtain ⟨rfl, rfl, rfl, rfl⟩ := hs
  subst e0 e1
  refine ⟨⟨x0, b.data.toList, s⟩, c6, n', y3, ?_, h3, ?_⟩
  · show _ = [.int .u8 (x0.toNat : Int), .string (str b.data.toList), _, _, _, _] ++ [c6]
    rw [str_eta]
    rfl
  · simp only [Rows.uptoBulk, Rows.uptoBulkAll]
    omega
set_option maxRecDepth 100000 in
/-- a row of coded expressions -/
theorem open_codeds {v : Value} {d : DataW H} {p : List MemPlace} {r : Reach} {b0 : Nat} (hv : Value.okWide Tryd.prog w r b0 22 v) (h : DataW.Trod enc Tryd.prog w base spare held 22 v d p) :
    ∃ (ts : List Co) (A : Option Addr) (c : Nat), v = .slice A ts.length c ∧ ts.length ≤ c ∧ InRow CE (fun _ => True) w ts A 0 ∧ T.sizes ts + 1 ≤ Rows.uptoBulk d := by
  obtain ⟨a0, len, cap, rfl⟩ := okWide_slice Tryd.underlying22 hv
  obtain ⟨fuel, hf⟩ := h
  obtain ⟨ts, A, c, e, hc, hr, hs⟩ := open_trees (E := CE) Tryd.underlying22 (by kernel_rfl) open_co1 _ _ _ _ hf (Nat.le_refl _)
  simp only [Value.cells, List.cons.injEq, and_true] at e
  exact ⟨ts, A, c, e, hc, hr, hs⟩
set_option maxRecDepth 100000 in
/-- a coded expression -/
theorem open_coded {v : Value} {d : DataW H} {p : List MemPlace} {r : Reach} {b0 : Nat} (hv : Value.okWide Tryd.prog w r b0 29 v) (h : DataW.Trod enc Tryd.prog w base spare held 29 v d p) :
    ∃ (h : CH) (ks : List Co) (A : Option Addr) (c : Nat), v = coV h A ks.length c ∧ ks.length ≤ c ∧ InRow CE (fun _ => True) w ks A 0 ∧ T.sizes ks + 2 ≤ Rows.uptoBulk d := by
  obtain ⟨cs, rfl, hcs⟩ := okWide_struct Tryd.underlying29 hv
  obtain ⟨fuel, hf⟩ := h
  obtain ⟨a, v, n', y, e, hy, hlt⟩ := open_co1 _ _ _ hf
  obtain ⟨ks, A, c, e2, hc, hr, hs⟩ := open_trees (E := CE) Tryd.underlying22 (by kernel_rfl) open_co1 _ _ _ _ hy (Nat.le_refl _)
  simp only [List.cons.injEq, and_true] at e2
  subst e2
  refine ⟨a, ks, A, c, ?_, hc, hr, ?_⟩
  · have : cs.toList = [.int .u8 (a.k.toNat : Int), .string (str a.b), .int .u64 (a.s.a.toNat : Int), .int .u64 (a.s.b.toNat : Int), .int .u64 (a.s.c.toNat : Int), .int .u64 (a.s.d.toNat : Int), .slice A ks.length c] := e
    have h2 : cs = coA a A ks.length c := by
      rw [← Array.toList_inj]; exact this
    rw [h2]
  · simp only at hlt; omega
end
noncomputable def layTabU (l : List Int) : Obj → Obj
  | .cells _ t frozen => .cells (l.map fun z => Value.int .u8 z).toArray t frozen
  | o => o
def acceptInts : List Int := [128, 191, 160, 191, 128, 159, 144, 191, 128, 143, 0, 0, 0, 0, 0, 0, 0, 0, 0, 0, 0, 0, 0, 0, 0, 0, 0, 0, 0, 0, 0, 0]
def firstInts : List Int := List.replicate 128 240 ++ List.replicate 66 241 ++ List.replicate 30 2 ++ [19] ++ List.replicate 12 3 ++ [35] ++ [3, 3] ++ [52] ++ List.replicate 3 4 ++ [68] ++ List.replicate 11 241
/-- a world in which the tables lie -/
noncomputable def utfWorld (os : Os) : World :=
  { World.holding Tryd.prog os ⟨#[], #[], []⟩ with heap := (((World.holding Tryd.prog os ⟨#[], #[], []⟩).heap.modify 0 (layTabU tzInts)).modify 3 (layTabU acceptInts)).modify 2 (layTabU firstInts) }
end Go.Proofs.YteoghoaggpbkpaaDoor
