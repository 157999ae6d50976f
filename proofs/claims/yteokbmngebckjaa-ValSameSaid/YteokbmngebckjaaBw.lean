/- A value with bytes, as the document has it. A value with all bytes of a text, as the document has it. A value with bytes: the program's filler. A value with all bytes of a text: posix.Fill. Values, opened. -/
import Derived.Test.YteokbmngebckjaaBv
import Derived.Test.YteokbmngebckjaaBk
import Derived.Test.YteokbmngebckjaaBm
import Derived.Test.YteokbmngebckjaaBg
namespace Go.Proofs.Yteokbmngebckjaa
open Go.RowKit
set_option linter.unusedVariables false
set_option linter.unusedSimpArgs false

/-- what a fill answers: a value, and how many bytes, or none and -1 -/
def FillRel (t : Va) (s : List UInt8) (v : Va) (z : Int) : Prop := (fillV t s = none ∧ z = -1 ∧ v = .mk vaH0 []) ∨ (∃ s2, fillV t s = some (v, s2) ∧ z = ((flatV t).length : Nat))
def VFPost (t : Va) (s : List UInt8) (w : World) (e : Ending) (w' : World) : Prop := ∃ h' k' A' c' z, e = .returned (.tuple #[vaV h' A' k'.length c', .int .i64 z]) ∧ FillRel t s (.mk h' k') z ∧ k'.length ≤ c' ∧ InRow VE (fun x => w.heap.size ≤ x) w' k' A' 0 ∧ Below w.heap.size w w'
theorem ext_drop (S : ByteArray) (n : Nat) : (S.extract n S.size).data.toList = S.data.toList.drop n := by
  simp
  exact List.take_of_length_le (by rw [List.length_drop]; exact Nat.le_refl _)
theorem ext_size (S : ByteArray) (n : Nat) (h : n ≤ S.size) : (S.extract n S.size).size = S.size - n := by simp
theorem sl_ (S : ByteArray) : S.data.toList.length = S.size := by simp
theorem sl_nil {S : ByteArray} (h : S.size = 0) : S = ⟨#[]⟩ := by
  have h0 : S.data.toList = [] := List.eq_nil_of_length_eq_zero (by rw [sl_]; exact h)
  rw [← str_data S, h0]
theorem sl_empty {S : ByteArray} (h : S.size = 0) : S.toList.isEmpty = true := by
  have h0 : S.data.toList = [] := List.eq_nil_of_length_eq_zero (by rw [sl_]; exact h)
  rw [ByteArray.toList_eq, h0]; rfl
theorem sl_full {S : ByteArray} (h : S.size ≠ 0) : S.toList.isEmpty = false := by
  have h0 : S.data.toList ≠ [] := fun e => h (by rw [← sl_, e]; rfl)
  rw [ByteArray.toList_eq]; simpa using h0
theorem fill_2 {h : VH} (e : h.k = 2) (ks : List Va) (b : UInt8) (s : List UInt8) : fillV (.mk h ks) (b :: s) = (fillVs ks s).map fun r => (.mk ⟨h.k, b⟩ r.1, r.2) := by simp [fillV, e]
theorem fill_2n {h : VH} (e : h.k = 2) (ks : List Va) : fillV (.mk h ks) [] = none := by simp [fillV, e]
theorem fill_n {h : VH} (e : h.k ≠ 2) (ks : List Va) (s : List UInt8) : fillV (.mk h ks) s = (fillVs ks s).map fun r => (.mk h r.1, r.2) := by simp [fillV, e]
end Go.Proofs.Yteokbmngebckjaa
namespace Go.Proofs.Yteokbmngebckjaa
open Go.RowKit
set_option linter.unusedVariables false
set_option linter.unusedSimpArgs false

def FullRel (t : Va) (s : List UInt8) (v : Va) (b : Bool) : Prop := (fullV t s = none ∧ b = false ∧ v = .mk vaH0 []) ∨ (fullV t s = some v ∧ b = true)
def FullPost (t : Va) (s : List UInt8) (w : World) (e : Ending) (w' : World) : Prop := ∃ h' k' A' c' b, e = .returned (.tuple #[vaV h' A' k'.length c', .bool b]) ∧ FullRel t s (.mk h' k') b ∧ k'.length ≤ c' ∧ InRow VE (fun x => w.heap.size ≤ x) w' k' A' 0 ∧ Below w.heap.size w w'
theorem full_some {t : Va} {s : List UInt8} {v : Va} {s2 : List UInt8} (h : fillV t s = some (v, s2)) : fullV t s = if s2 = [] then some v else none := by
  unfold fullV
  rw [h]
  cases s2 <;> simp
theorem full_none {t : Va} {s : List UInt8} (h : fillV t s = none) : fullV t s = none := by unfold fullV; rw [h]
end Go.Proofs.Yteokbmngebckjaa
namespace Go.Proofs.Yteokbmngebckjaa
open Go.RowKit
set_option linter.unusedVariables false
set_option linter.unusedSimpArgs false

/-- all but block b of what lay in w is as it was -/
abbrev Kept (w : World) (b : Nat) (w' : World) : Prop := w.grownBy w' (some b)
theorem kept_below {w x : World} {b : Nat} (h : Below w.heap.size w x) : Kept w b x := ⟨h.os, h.tape, h.output, h.size, fun j hj _ => h.block j hj⟩
theorem kept_grown {w x y : World} {b : Nat} {r : Option Nat} (h : Kept w b x) (g : x.grownBy y r) (hr : ∀ j, r = some j → w.heap.size ≤ j ∨ j = b) : Kept w b y :=
  ⟨g.os.trans h.os, g.tape.trans h.tape, g.output.trans h.output, Nat.le_trans h.size g.size, fun j hj hn => (g.block j (Nat.lt_of_lt_of_le hj h.size) fun e => by rcases hr j e.symm with h1 | h1; omega; exact hn (by rw [h1])).trans (h.block j hj hn)⟩
theorem kept_set {w x : World} {b g o : Nat} {u : Value} (h : Kept w b x) (hg : w.heap.size ≤ g ∨ g = b) : Kept w b (x.setCell ⟨g, o, none⟩ u) :=
  kept_grown h (set_grown x g o u) fun j e => by cases e; exact hg
theorem kept_new {w x : World} {b : Nat} (h : Kept w b x) (ob : Obj) : Kept w b (x.alloc ob) :=
  kept_grown h (kept_below (b := w.heap.size) (below_new (Below.refl _ _) ob)) fun j e => by cases e; exact .inl (Nat.le_refl _)
theorem kept_drew {w x : World} {b : Nat} (h : Kept w b x) : Kept w b x.drew := ⟨h.os, h.tape, h.output, h.size, h.block⟩
theorem kept_trans {w x y : World} {b : Nat} (h : Kept w b x) (k : Kept x b y) : Kept w b y := kept_grown h k fun j e => by cases e; exact .inr rfl
def PRel (t : Va) (s : List UInt8) (v : Va) (b : Bool) (S2 : ByteArray) : Prop := (fillV t s = none ∧ b = false ∧ v = .mk vaH0 []) ∨ (fillV t s = some (v, S2.data.toList) ∧ b = true)
theorem fil_cells {w : World} {b : Nat} {v0 : Value} {t : TypeId} (h : w.heap[b]? = some (.cells #[v0] t (0, 0))) : w.cell? ⟨b, 0, none⟩ = some v0 ∧ w.frozen? ⟨b, 0, none⟩ = false := by
  refine ⟨?_, ?_⟩ <;> simp [World.cell?, World.frozen?, h]
theorem fil_set {w : World} {b : Nat} {v0 u : Value} {t : TypeId} (h : w.heap[b]? = some (.cells #[v0] t (0, 0))) : (w.setCell ⟨b, 0, none⟩ u).heap[b]? = some (.cells #[u] t (0, 0)) := by
  simp [World.setCell, Array.getElem?_modify, h]
end Go.Proofs.Yteokbmngebckjaa
namespace Go.Proofs.Yteokbmngebckjaa
open Go.RowKit
set_option linter.unusedVariables false
set_option linter.unusedSimpArgs false

end Go.Proofs.Yteokbmngebckjaa
namespace Go.Proofs.Yteokbmngebckjaa
open Go.RowKit Go.ChangeShapes Go.WideShapes Go.ChangeAt
set_option linter.unusedVariables false
set_option linter.unusedSimpArgs false

section
variable {H : Type} {enc : TypeId × Value → H} {w : World} {base : Nat} {spare : Nat → Bool} {held : Bool}
set_option maxRecDepth 100000 in
theorem open_va1 (n : Nat) (cs : List Value) (x : DataW H × List MemPlace) (h : DataW.trod enc Try.prog w base spare held n 24 cs = some x) :
    ∃ (a : VH) (v : Value) (n' : Nat) (y : DataW H × List MemPlace), cs = VE.cells a ++ [v] ∧ DataW.trod enc Try.prog w base spare held n' 22 [v] = some y ∧ Rows.uptoBulk y.1 < Rows.uptoBulk x.1 := by
  obtain ⟨y0, y1, y2, n', rfl, hl, h0, h1, h2⟩ := Deep.trod_struct3 Try.underlying24 h
  have hz : Try.prog.cellsOf 24 = 3 := by kernel_rfl
  have hz0 : Try.prog.cellsOf 5 = 1 := by kernel_rfl
  have hz2 : Try.prog.cellsOf 22 = 1 := by kernel_rfl
  rw [hz] at hl
  match cs, hl with
  | [c0, c1, c2], _ =>
  simp [hz0, hz2] at h0 h1 h2
  obtain ⟨n0, e0, _, w0⟩ := DataW.trod_int Try.underlying5 h0
  obtain ⟨n1, e1, _, w1⟩ := DataW.trod_int Try.underlying5 h1
  obtain ⟨x0, rfl⟩ := u8_of w0
  obtain ⟨x1, rfl⟩ := u8_of w1
  simp only [List.cons.injEq, and_true] at e0 e1
  subst e0 e1
  refine ⟨⟨x0, x1⟩, c2, n', y2, rfl, h2, ?_⟩
  simp only [Rows.uptoBulk, Rows.uptoBulkAll]
  omega
set_option maxRecDepth 100000 in
/-- a row of values -/
theorem open_vals {v : Value} {d : DataW H} {p : List MemPlace} {r : Reach} {b0 : Nat} (hv : Value.okWide Try.prog w r b0 22 v) (h : DataW.Trod enc Try.prog w base spare held 22 v d p) :
    ∃ (ts : List Va) (A : Option Addr) (c : Nat), v = .slice A ts.length c ∧ ts.length ≤ c ∧ InRow VE (fun _ => True) w ts A 0 ∧ T.sizes ts + 1 ≤ Rows.uptoBulk d := by
  obtain ⟨a0, len, cap, rfl⟩ := okWide_slice Try.underlying22 hv
  obtain ⟨fuel, hf⟩ := h
  obtain ⟨ts, A, c, e, hc, hr, hs⟩ := open_trees (E := VE) Try.underlying22 (by kernel_rfl) open_va1 _ _ _ _ hf (Nat.le_refl _)
  simp only [Value.cells, List.cons.injEq, and_true] at e
  exact ⟨ts, A, c, e, hc, hr, hs⟩
set_option maxRecDepth 100000 in
/-- a value -/
theorem open_val {v : Value} {d : DataW H} {p : List MemPlace} {r : Reach} {b0 : Nat} (hv : Value.okWide Try.prog w r b0 24 v) (h : DataW.Trod enc Try.prog w base spare held 24 v d p) :
    ∃ (h : VH) (ks : List Va) (A : Option Addr) (c : Nat), v = vaV h A ks.length c ∧ ks.length ≤ c ∧ InRow VE (fun _ => True) w ks A 0 ∧ T.sizes ks + 2 ≤ Rows.uptoBulk d := by
  obtain ⟨cs, rfl, hcs⟩ := okWide_struct Try.underlying24 hv
  obtain ⟨fuel, hf⟩ := h
  obtain ⟨a, v, n', y, e, hy, hlt⟩ := open_va1 _ _ _ hf
  obtain ⟨ks, A, c, e2, hc, hr, hs⟩ := open_trees (E := VE) Try.underlying22 (by kernel_rfl) open_va1 _ _ _ _ hy (Nat.le_refl _)
  simp only [List.cons.injEq, and_true] at e2
  subst e2
  refine ⟨a, ks, A, c, ?_, hc, hr, ?_⟩
  · have : cs.toList = [.int .u8 (a.k.toNat : Int), .int .u8 (a.b.toNat : Int), .slice A ks.length c] := e
    have h2 : cs = vaA a A ks.length c := by
      rw [← Array.toList_inj]; exact this
    rw [h2]
  · simp only at hlt; omega
end
end Go.Proofs.Yteokbmngebckjaa
