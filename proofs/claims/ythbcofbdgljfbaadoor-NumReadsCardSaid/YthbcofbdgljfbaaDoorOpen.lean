/- A row of trees, opened: what is handed in. -/
import Derived.Test.YthbcofbdgljfbaaDoorClose
import Derived.Test.YthbcofbdgljfbaaDoorTree
import Derived.Laws.IdiomArrays
namespace Go.Proofs.YthbcofbdgljfbaaDoor
open Go.RowKit Go.ChangeShapes Go.WideShapes Go.ChangeAt
set_option linter.unusedVariables false
set_option linter.unusedSimpArgs false

theorem bulk_one {H : Type} (d : DataW H) : 1 ≤ Rows.uptoBulk d := by
  cases d with
  | lit l => cases l <;> simp [Rows.uptoBulk]
  | nil => simp [Rows.uptoBulk]
  | ptr d => simp [Rows.uptoBulk]
  | slice elems spare => simp [Rows.uptoBulk]
  | agg parts => simp [Rows.uptoBulk]
  | iface t d => simp [Rows.uptoBulk]
  | map entries => simp [Rows.uptoBulk]
  | held h => simp [Rows.uptoBulk]
theorem bulk_append {H : Type} (l r : List (DataW H)) : Rows.uptoBulkAll (l ++ r) = Rows.uptoBulkAll l + Rows.uptoBulkAll r := by
  induction l with
  | nil => simp [Rows.uptoBulkAll]
  | cons x l ih => simp only [List.cons_append, Rows.uptoBulkAll, ih]; omega
theorem bulk_part {H : Type} {d : DataW H} {l : List (DataW H)} (h : d ∈ l) : Rows.uptoBulk d ≤ Rows.uptoBulkAll l := by
  induction l with
  | nil => cases h
  | cons x r ih =>
    simp only [Rows.uptoBulkAll]
    cases List.mem_cons.1 h with
    | inl e => subst e; omega
    | inr e => have := ih e; omega
theorem bulk_length {H : Type} (l : List (DataW H)) : l.length ≤ Rows.uptoBulkAll l := by
  induction l with
  | nil => simp [Rows.uptoBulkAll]
  | cons x r ih => have := bulk_one x; simp only [Rows.uptoBulkAll, List.length_cons]; omega

section
variable {H : Type} {enc : TypeId × Value → H} {P : Program} {w : World} {base : Nat} {spare : Nat → Bool} {held : Bool}
variable {α : Type} {E : Enc α}

theorem open_trees {e t : TypeId} (ht : P.underlying t = some (.slice e)) (hc : P.cellsOf e = E.sz + 1)
    (hopen : ∀ n cs x, DataW.trod enc P w base spare held n e cs = some x → ∃ a v n' y, cs = E.cells a ++ [v] ∧ DataW.trod enc P w base spare held n' t [v] = some y ∧ Rows.uptoBulk y.1 < Rows.uptoBulk x.1) :
    ∀ N n cs x, DataW.trod enc P w base spare held n t cs = some x → Rows.uptoBulk x.1 ≤ N →
      ∃ (ts : List (T α)) (A : Option Addr) (c : Nat), cs = [.slice A ts.length c] ∧ ts.length ≤ c ∧ InRow E (fun _ => True) w ts A 0 ∧ T.sizes ts + 1 ≤ Rows.uptoBulk x.1
  | 0, n, cs, x, h, hN => by have := bulk_one x.1; omega
  | N + 1, n, cs, x, h, hN => by
    rcases Deep.open_slice ht h with ⟨rfl, rfl⟩ | ⟨a, len, cap, m, n', D, Pl, rfl, hb, hl, hm, hmm, rfl, hel⟩
    · exact ⟨[], none, 0, rfl, Nat.le_refl _, by simp [InRow], by simp [T.sizes, Rows.uptoBulk]⟩
    · have hlm : len ≤ m := by rw [hmm]; split <;> omega
      have hB : Rows.uptoBulkAll ((List.range len).map D) + 1 ≤ N + 1 := by
        simp only [Rows.uptoBulk] at hN; omega
      have key : ∀ k i, i + k = len → ∃ ts : List (T α), ts.length = k ∧ InRow E (fun _ => True) w ts (some a) i ∧ T.sizes ts ≤ Rows.uptoBulkAll ((List.range' i k).map D) := by
        intro k
        induction k with
        | zero => intro i hi; exact ⟨[], rfl, by simp [InRow], by simp [T.sizes]⟩
        | succ k ih =>
          intro i hi
          obtain ⟨ts, h1, h2, h3⟩ := ih (i + 1) (by omega)
          obtain ⟨cs', hcs, hd⟩ := hel i (by omega)
          obtain ⟨a', v, n2, y, rfl, hy, hlt⟩ := hopen _ _ _ hd
          have hDi : Rows.uptoBulk (D i) ≤ Rows.uptoBulkAll ((List.range len).map D) := bulk_part (List.mem_map.2 ⟨i, by simp; omega, rfl⟩)
          obtain ⟨ks, A, c, hv, hkc, hr, hs⟩ := open_trees ht hc hopen N n2 [v] y hy (by simp only at hlt; omega)
          simp only [List.cons.injEq, and_true] at hv
          subst hv
          obtain ⟨_, hlen, hcell⟩ := World.cells?_some hcs
          refine ⟨.mk a' ks :: ts, by simp [h1], ?_, ?_⟩
          · simp only [InRow, InT]
            refine ⟨⟨a, _, rfl, trivial, fun j u hu => ?_, A, c, rfl, hkc, hr⟩, h2⟩
            have hj : j < P.cellsOf e := by
              rw [← hlen]
              rcases Nat.lt_or_ge j (E.cells a' ++ [Value.slice A ks.length c]).length with h | h
              · exact h
              · rw [List.getElem?_eq_none h] at hu; simp at hu
            have := hcell j hj
            rw [hu] at this
            rw [← this, hc, add_add_]
          · simp only [List.range'_succ, List.map_cons, Rows.uptoBulkAll, T.sizes, T.size]
            simp only at hlt
            omega
      obtain ⟨ts, h1, h2, h3⟩ := key len 0 (by omega)
      subst h1
      refine ⟨ts, some a, cap, rfl, hl, h2, ?_⟩
      simp only [Rows.uptoBulk]
      rw [← List.range_eq_range'] at h3
      omega
end
end Go.Proofs.YthbcofbdgljfbaaDoor
