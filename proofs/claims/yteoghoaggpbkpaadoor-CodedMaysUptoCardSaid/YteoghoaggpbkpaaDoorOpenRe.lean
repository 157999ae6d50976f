/- Expressions, opened. -/
import Derived.Test.YteoghoaggpbkpaaDoorOpen
import Derived.Deep.Strs
import Derived.Test.YteoghoaggpbkpaaDoorRexA
import Derived.Test.YteoghoaggpbkpaaDoorSet1
namespace Go.Proofs.YteoghoaggpbkpaaDoor
open Go.RowKit Go.ChangeShapes Go.WideShapes Go.ChangeAt
set_option linter.unusedVariables false
set_option linter.unusedSimpArgs false

theorem u8_of {n : Int} (h : (Lit.int .u8 n).wf = true) : ∃ x : UInt8, n = (x.toNat : Int) := by
  have hx : 0 ≤ n ∧ n ≤ 255 := by simpa [Lit.wf, IntKind.min, IntKind.max, IntKind.signed, IntKind.bits] using h
  exact ⟨UInt8.ofNat n.toNat, by simp [UInt8.toNat_ofNat]; omega⟩
theorem u64_of {n : Int} (h : (Lit.int .u64 n).wf = true) : ∃ x : UInt64, n = (x.toNat : Int) := by
  have hx : 0 ≤ n ∧ n ≤ 18446744073709551615 := by simpa [Lit.wf, IntKind.min, IntKind.max, IntKind.signed, IntKind.bits] using h
  exact ⟨UInt64.ofNat n.toNat, by simp [UInt64.toNat_ofNat]; omega⟩

section
variable {H : Type} {enc : TypeId × Value → H} {w : World} {base : Nat} {spare : Nat → Bool} {held : Bool}
theorem open_set {n : Nat} {cs : List Value} {x : DataW H × List MemPlace} (hl : cs.length = 4) (h : DataW.trod enc Tryd.prog w base spare held n 27 cs = some x) :
    ∃ s : S4, cs = [.int .u64 (s.a.toNat : Int), .int .u64 (s.b.toNat : Int), .int .u64 (s.c.toNat : Int), .int .u64 (s.d.toNat : Int)] := by
  match cs, hl with
  | [c0, c1, c2, c3], _ =>
  obtain ⟨y0, y1, y2, y3, n', _, h0, h1, h2, h3⟩ := trod_array4 Tryd.underlying27 (by kernel_rfl) h
  obtain ⟨n0, e0, _, w0⟩ := DataW.trod_int Tryd.underlying25 h0
  obtain ⟨n1, e1, _, w1⟩ := DataW.trod_int Tryd.underlying25 h1
  obtain ⟨n2, e2, _, w2⟩ := DataW.trod_int Tryd.underlying25 h2
  obtain ⟨n3, e3, _, w3⟩ := DataW.trod_int Tryd.underlying25 h3
  obtain ⟨x0, rfl⟩ := u64_of w0
  obtain ⟨x1, rfl⟩ := u64_of w1
  obtain ⟨x2, rfl⟩ := u64_of w2
  obtain ⟨x3, rfl⟩ := u64_of w3
  simp only [List.cons.injEq, and_true] at e0 e1 e2 e3
  subst e0 e1 e2 e3
  exact ⟨⟨x0, x1, x2, x3⟩, rfl⟩

set_option maxRecDepth 100000 in
theorem open_re1 (n : Nat) (cs : List Value) (x : DataW H × List MemPlace) (h : DataW.trod enc Tryd.prog w base spare held n 42 cs = some x) :
    ∃ (a : RH) (v : Value) (n' : Nat) (y : DataW H × List MemPlace), cs = RE.cells a ++ [v] ∧ DataW.trod enc Tryd.prog w base spare held n' 40 [v] = some y ∧ Rows.uptoBulk y.1 < Rows.uptoBulk x.1 := by
  obtain ⟨y0, y1, y2, n', rfl, hl, h0, h1, h2⟩ := Deep.trod_struct3 Tryd.underlying42 h
  have hz : Tryd.prog.cellsOf 42 = 6 := by kernel_rfl
  have hz0 : Tryd.prog.cellsOf 5 = 1 := by kernel_rfl
  have hz1 : Tryd.prog.cellsOf 27 = 4 := by kernel_rfl
  have hz2 : Tryd.prog.cellsOf 40 = 1 := by kernel_rfl
  rw [hz] at hl
  match cs, hl with
  | [c0, c1, c2, c3, c4, c5], _ =>
  simp [hz0, hz1, hz2] at h0 h1 h2
  obtain ⟨n0, e0, _, w0⟩ := DataW.trod_int Tryd.underlying5 h0
  obtain ⟨s, hs⟩ := open_set rfl h1
  obtain ⟨x0, rfl⟩ := u8_of w0
  simp only [List.cons.injEq, and_true] at e0 hs
  obtain ⟨rfl, rfl, rfl, rfl⟩ := hs
  subst e0
  refine ⟨⟨x0, s⟩, c5, n', y2, rfl, h2, ?_⟩
  simp only [Rows.uptoBulk, Rows.uptoBulkAll]
  omega

set_option maxRecDepth 100000 in
/-- a row of expressions -/
theorem open_res {v : Value} {d : DataW H} {p : List MemPlace} {r : Reach} {b0 : Nat} (hv : Value.okWide Tryd.prog w r b0 40 v) (h : DataW.Trod enc Tryd.prog w base spare held 40 v d p) :
    ∃ (ts : List Re) (A : Option Addr) (c : Nat), v = .slice A ts.length c ∧ ts.length ≤ c ∧ InRow RE (fun _ => True) w ts A 0 ∧ T.sizes ts + 1 ≤ Rows.uptoBulk d := by
  obtain ⟨a0, len, cap, rfl⟩ := okWide_slice Tryd.underlying40 hv
  obtain ⟨fuel, hf⟩ := h
  obtain ⟨ts, A, c, e, hc, hr, hs⟩ := open_trees (E := RE) Tryd.underlying40 (by kernel_rfl) open_re1 _ _ _ _ hf (Nat.le_refl _)
  simp only [Value.cells, List.cons.injEq, and_true] at e
  exact ⟨ts, A, c, e, hc, hr, hs⟩
set_option maxRecDepth 100000 in
/-- an expression -/
theorem open_re {v : Value} {d : DataW H} {p : List MemPlace} {r : Reach} {b0 : Nat} (hv : Value.okWide Tryd.prog w r b0 42 v) (h : DataW.Trod enc Tryd.prog w base spare held 42 v d p) :
    ∃ (h : RH) (ks : List Re) (A : Option Addr) (c : Nat), v = reV h A ks.length c ∧ ks.length ≤ c ∧ InRow RE (fun _ => True) w ks A 0 ∧ T.sizes ks + 2 ≤ Rows.uptoBulk d := by
  obtain ⟨cs, rfl, hcs⟩ := okWide_struct Tryd.underlying42 hv
  obtain ⟨fuel, hf⟩ := h
  obtain ⟨a, v, n', y, e, hy, hlt⟩ := open_re1 _ _ _ hf
  obtain ⟨ks, A, c, e2, hc, hr, hs⟩ := open_trees (E := RE) Tryd.underlying40 (by kernel_rfl) open_re1 _ _ _ _ hy (Nat.le_refl _)
  simp only [List.cons.injEq, and_true] at e2
  subst e2
  refine ⟨a, ks, A, c, ?_, hc, hr, ?_⟩
  · have : cs.toList = [.int .u8 (a.k.toNat : Int), .int .u64 (a.s.a.toNat : Int), .int .u64 (a.s.b.toNat : Int), .int .u64 (a.s.c.toNat : Int), .int .u64 (a.s.d.toNat : Int), .slice A ks.length c] := e
    have h2 : cs = #[.int .u8 (a.k.toNat : Int), .int .u64 (a.s.a.toNat : Int), .int .u64 (a.s.b.toNat : Int), .int .u64 (a.s.c.toNat : Int), .int .u64 (a.s.d.toNat : Int), .slice A ks.length c] := by
      rw [← Array.toList_inj]; exact this
    rw [h2]
  · simp only at hlt; omega
set_option maxRecDepth 100000 in
/-- a set -/
theorem open_set1 {v : Value} {d : DataW H} {p : List MemPlace} {r : Reach} {b0 : Nat} (hv : Value.okWide Tryd.prog w r b0 27 v) (h : DataW.Trod enc Tryd.prog w base spare held 27 v d p) :
    ∃ s : S4, v = setV s := by
  obtain ⟨cs, rfl, hcs⟩ : ∃ cs, v = .agg cs ∧ cs.size = Tryd.prog.cellsOf 27 := by
    simp only [Value.okWide, Tryd.underlying27] at hv
    obtain ⟨cs, h1, h2, _⟩ := hv
    exact ⟨cs, h1, h2⟩
  obtain ⟨fuel, hf⟩ := h
  have hz : Tryd.prog.cellsOf 27 = 4 := by kernel_rfl
  rw [hz] at hcs
  obtain ⟨s, hs⟩ := open_set (by simpa [Value.cells] using hcs) hf
  refine ⟨s, ?_⟩
  have h2 : cs = #[.int .u64 (s.a.toNat : Int), .int .u64 (s.b.toNat : Int), .int .u64 (s.c.toNat : Int), .int .u64 (s.d.toNat : Int)] := by
    rw [← Array.toList_inj]; exact hs
  rw [h2]
end
end Go.Proofs.YteoghoaggpbkpaaDoor
