/- Trees that any slices hold, opened: no slice is longer than a slice may be. -/
import Derived.Test.YtbblhhkacdgmiaaBg
namespace Go.Proofs.Ytbblhhkacdgmiaa
open Go.RowKit Go.ChangeShapes Go.WideShapes Go.ChangeAt
set_option linter.unusedVariables false
set_option linter.unusedSimpArgs false

namespace T
variable {α : Type}
mutual
/-- no node has more kids than a slice may hold -/
def short : T α → Prop
  | .mk _ ks => ks.length ≤ 9223372036854775807 ∧ shorts ks
def shorts : List (T α) → Prop
  | [] => True
  | t :: ts => short t ∧ shorts ts
end
theorem shorts_mem {t : T α} {ts : List (T α)} (h : t ∈ ts) (hs : shorts ts) : short t := by
  induction ts with
  | nil => cases h
  | cons x r ih =>
    simp only [shorts] at hs
    cases List.mem_cons.1 h with
    | inl e => subst e; exact hs.1
    | inr e => exact ih e hs.2
theorem short.len {a : α} {ks : List (T α)} (h : short (.mk a ks)) : ks.length ≤ 9223372036854775807 := by simp only [short] at h; exact h.1
theorem short.kids {a : α} {ks : List (T α)} (h : short (.mk a ks)) : shorts ks := by simp only [short] at h; exact h.2
theorem short.mem {a : α} {ks : List (T α)} (h : short (.mk a ks)) {t : T α} (ht : t ∈ ks) : short t := shorts_mem ht h.kids
theorem short.mk {a : α} {ks : List (T α)} (h1 : ks.length ≤ 9223372036854775807) (h2 : shorts ks) : short (.mk a ks) := by simp only [short]; exact ⟨h1, h2⟩
theorem shorts_append {xs ys : List (T α)} (h1 : shorts xs) (h2 : shorts ys) : shorts (xs ++ ys) := by
  induction xs with
  | nil => exact h2
  | cons x r ih => simp only [shorts] at h1; simp only [List.cons_append, shorts]; exact ⟨h1.1, ih h1.2⟩
end T

section
variable {H : Type} {enc : TypeId × Value → H} {P : Program} {w : World} {base : Nat} {spare : Nat → Bool} {held : Bool}
variable {α : Type} {E : Enc α}

theorem open_trees_s {e t : TypeId} (ht : P.underlying t = some (.slice e)) (hc : P.cellsOf e = E.sz + 1)
    (hopen : ∀ n cs x, DataW.trod enc P w base spare held n e cs = some x → ∃ a v n' y, cs = E.cells a ++ [v] ∧ DataW.trod enc P w base spare held n' t [v] = some y ∧ Rows.uptoBulk y.1 < Rows.uptoBulk x.1) :
    ∀ N n cs x, DataW.trod enc P w base spare held n t cs = some x → Rows.uptoBulk x.1 ≤ N →
      ∃ (ts : List (T α)) (A : Option Addr) (c : Nat), cs = [.slice A ts.length c] ∧ ts.length ≤ c ∧ InRow E (fun _ => True) w ts A 0 ∧ ts.length ≤ 9223372036854775807 ∧ T.shorts ts
  | 0, n, cs, x, h, hN => by have := bulk_one x.1; omega
  | N + 1, n, cs, x, h, hN => by
    rcases Deep.open_slice ht h with ⟨rfl, rfl⟩ | ⟨a, len, cap, m, n', D, Pl, rfl, hb, hl, hm, hmm, rfl, hel⟩
    · exact ⟨[], none, 0, rfl, Nat.le_refl _, by simp [InRow], by simp, by simp [T.shorts]⟩
    · have hlm : len ≤ m := by rw [hmm]; split <;> omega
      have hmx : len ≤ 9223372036854775807 := Nat.le_trans hl hm
      have hB : Rows.uptoBulkAll ((List.range len).map D) + 1 ≤ N + 1 := by
        simp only [Rows.uptoBulk] at hN; omega
      have key : ∀ k i, i + k = len → ∃ ts : List (T α), ts.length = k ∧ InRow E (fun _ => True) w ts (some a) i ∧ T.shorts ts := by
        intro k
        induction k with
        | zero => intro i hi; exact ⟨[], rfl, by simp [InRow], by simp [T.shorts]⟩
        | succ k ih =>
          intro i hi
          obtain ⟨ts, h1, h2, h3⟩ := ih (i + 1) (by omega)
          obtain ⟨cs', hcs, hd⟩ := hel i (by omega)
          obtain ⟨a', v, n2, y, rfl, hy, hlt⟩ := hopen _ _ _ hd
          have hDi : Rows.uptoBulk (D i) ≤ Rows.uptoBulkAll ((List.range len).map D) := bulk_part (List.mem_map.2 ⟨i, by simp; omega, rfl⟩)
          obtain ⟨ks, A, c, hv, hkc, hr, hs, hss⟩ := open_trees_s ht hc hopen N n2 [v] y hy (by simp only at hlt; omega)
          simp only [List.cons.injEq, and_true] at hv
          subst hv
          obtain ⟨_, hlen, hcell⟩ := World.cells?_some hcs
          refine ⟨.mk a' ks :: ts, by simp [h1], ?_, by simp only [T.shorts]; exact ⟨.mk hs hss, h3⟩⟩
          · simp only [InRow, InT]
            refine ⟨⟨a, _, rfl, trivial, fun j u hu => ?_, A, c, rfl, hkc, hr⟩, h2⟩
            have hj : j < P.cellsOf e := by
              rw [← hlen]
              rcases Nat.lt_or_ge j (E.cells a' ++ [Value.slice A ks.length c]).length with h | h
              · exact h
              · rw [List.getElem?_eq_none h] at hu; simp at hu
            have := hcell j hj
            rw [hu] at this
            rw [← this, hc, add_add_]
      obtain ⟨ts, h1, h2, h3⟩ := key len 0 (by omega)
      subst h1
      exact ⟨ts, some a, cap, rfl, hl, h2, hmx, h3⟩
end
end Go.Proofs.Ytbblhhkacdgmiaa
