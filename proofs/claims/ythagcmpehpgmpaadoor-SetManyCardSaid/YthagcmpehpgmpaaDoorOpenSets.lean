/- A row of sets, opened. -/
import Derived.Test.YthagcmpehpgmpaaDoorDoor
import Derived.Test.YthagcmpehpgmpaaDoorSet10
namespace Go.Proofs.YthagcmpehpgmpaaDoor
open Go.RowKit Go.ChangeShapes Go.WideShapes Go.ChangeAt
set_option linter.unusedVariables false
set_option linter.unusedSimpArgs false

section
variable {H : Type} {enc : TypeId × Value → H} {w : World} {base : Nat} {spare : Nat → Bool} {held : Bool}
set_option maxRecDepth 100000 in
/-- a row of sets -/
theorem open_sets {v : Value} {d : DataW H} {p : List MemPlace} {r : Reach} {b0 : Nat} (hv : Value.okWide Tryd.prog w r b0 39 v) (h : DataW.Trod enc Tryd.prog w base spare held 39 v d p) :
    ∃ (l : List S4) (A : Option Addr) (c : Nat), v = .slice A l.length c ∧ l.length ≤ c ∧ c ≤ maxLen ∧ RowS w A l := by
  obtain ⟨a0, len, cap, rfl⟩ := okWide_slice Tryd.underlying39 hv
  obtain ⟨fuel, hf⟩ := h
  have hz : Tryd.prog.cellsOf 24 = 4 := by kernel_rfl
  rcases Deep.open_slice Tryd.underlying39 hf with ⟨hcs, _⟩ | ⟨a, len', cap', m, n', D, Pl, hcs, hb, hl, hm, hmm, _, hel⟩
  · simp only [Value.cells, List.cons.injEq, and_true, Value.slice.injEq] at hcs
    obtain ⟨rfl, rfl, rfl⟩ := hcs
    exact ⟨[], none, 0, rfl, Nat.le_refl _, by unfold maxLen; omega, fun k s hk => by simp at hk⟩
  · simp only [Value.cells, List.cons.injEq, and_true, Value.slice.injEq] at hcs
    obtain ⟨rfl, rfl, rfl⟩ := hcs
    have hlm : len ≤ m := by rw [hmm]; split <;> omega
    have key : ∀ k, k ≤ len → ∃ l : List S4, l.length = k ∧ RowS w (some a) l := by
      intro k
      induction k with
      | zero => intro _; exact ⟨[], rfl, fun k s hk => by simp at hk⟩
      | succ k ih =>
        intro hk
        obtain ⟨l, h1, h2⟩ := ih (by omega)
        obtain ⟨cs', hcs, hd⟩ := hel k (by omega)
        rw [hz] at hcs
        obtain ⟨_, hlen, hcell⟩ := World.cells?_some hcs
        obtain ⟨s, hs⟩ := open_set hlen hd
        refine ⟨l ++ [s], by simp [h1], fun i x hi => ?_⟩
        by_cases e : i < k
        · rw [List.getElem?_append_left (by omega)] at hi
          exact h2 i x hi
        · have hik : i = k := by
            rcases Nat.lt_or_ge i (l ++ [s]).length with h | h
            · simp at h; omega
            · rw [List.getElem?_eq_none h] at hi; cases hi
          subst hik
          rw [List.getElem?_append_right (by omega), h1, Nat.sub_self] at hi
          obtain rfl : s = x := Option.some.inj hi
          refine ⟨a, rfl, fun j u hu => ?_⟩
          have hj : j < 4 := by
            rcases Nat.lt_or_ge j 4 with h | h
            · exact h
            · rw [List.getElem?_eq_none (by simpa using h)] at hu; cases hu
          have := hcell j hj
          rw [hs, hu] at this
          rw [← this, add_add_]
    obtain ⟨l, h1, h2⟩ := key len (Nat.le_refl _)
    subst h1
    exact ⟨l, some a, cap, rfl, hl, hm, h2⟩
end
end Go.Proofs.YthagcmpehpgmpaaDoor
