/- How many values lie in what is taken of a value's bits (plain). -/
import Derived.Test.YteokbmngebckjaaDoorVtP
namespace Go.Proofs.YteokbmngebckjaaDoor
open Go.RowKit
set_option linter.unusedVariables false
set_option linter.unusedSimpArgs false

theorem IsV_takes {r : Re} {v : Va} (h : IsV r v) : okT r = true → ∀ v0 z, takeT r (codeV v ++ z) = some (v0, z) → v0.size = v.size := by
  induction h with
  | void => intro _ v0 z e; cases e; rfl
  | byte S b h => intro _ v0 z e; cases e; rfl
  | left x y v h ih =>
    intro ho v0 z e
    obtain ⟨hx, hy⟩ := okT_two ho
    obtain ⟨u, a1, _⟩ := IsV_take h hx
    rw [take_alt, show codeV (vLeft v) = 48 :: codeV v by simp [codeV, codeVs], List.cons_append] at e
    simp [a1] at e
    rw [← e]
    have := ih hx u z (a1 z)
    simp [T.size, T.sizes, this]
  | right x y v h ih =>
    intro ho v0 z e
    obtain ⟨hx, hy⟩ := okT_two ho
    obtain ⟨u, a1, _⟩ := IsV_take h hy
    rw [take_alt, show codeV (vRight v) = 49 :: codeV v by simp [codeV, codeVs], List.cons_append] at e
    simp [a1] at e
    rw [← e]
    have := ih hy u z (a1 z)
    simp [T.size, T.sizes, this]
  | pair x y v w h1 h2 ih1 ih2 =>
    intro ho v0 z e
    obtain ⟨hx, hy⟩ := okT_two ho
    obtain ⟨u, a1, _⟩ := IsV_take h1 hx
    obtain ⟨t, b1, _⟩ := IsV_take h2 hy
    rw [take_seq, show codeV (vPair v w) = codeV v ++ codeV w by simp [codeV, codeVs], List.append_assoc, a1] at e
    simp [b1] at e
    rw [← e]
    have h3 := ih1 hx u _ (a1 (codeV w ++ z))
    have h4 := ih2 hy t z (b1 z)
    simp [T.size, T.sizes, h3, h4]
  | nil x =>
    intro ho v0 z e
    rw [take_starT, show codeV (vStars []) = [49] by simp [codeV, codeVs], List.cons_append, starT_end] at e
    simp at e
    rw [← e]
  | cons x v l h1 h2 ih1 ih2 =>
    intro ho v0 z e
    obtain ⟨u, a1, _⟩ := IsV_take h1 (okT_one ho)
    obtain ⟨t, b1, _⟩ := IsV_take h2 ho
    have h3 := ih1 (okT_one ho) u _ (a1 (codeV (vStars l) ++ z))
    have h4 := ih2 ho t z (b1 z)
    rw [take_starT, show codeV (vStars (v :: l)) = 48 :: (codeV v ++ codeV (vStars l)) by simp [codeV, codeVs], List.cons_append, starT_more (okT_one ho), List.append_assoc, a1] at e
    have b2 := b1 z
    rw [take_starT] at b2
    rcases e2 : starT x (codeV (vStars l) ++ z) with _ | ⟨m, z2⟩
    · rw [e2] at b2; simp at b2
    · rw [e2] at b2
      simp only [Option.map_some, Option.some.injEq, Prod.mk.injEq] at b2
      obtain ⟨rfl, rfl⟩ := b2
      simp only [e2, Option.map_some, Option.some.injEq, Prod.mk.injEq, and_true] at e
      rw [← e]
      simp only [T.size, T.sizes] at h3 h4 ⊢
      omega
theorem ba_eq {a b : ByteArray} (h : a.data.toList = b.data.toList) : a = b := by
  obtain ⟨a⟩ := a
  obtain ⟨b⟩ := b
  simp only [ByteArray.mk.injEq]
  exact Array.toList_inj.1 h
theorem ba_str (a : ByteArray) : a = str a.data.toList := ba_eq (by simp)
end Go.Proofs.YteokbmngebckjaaDoor
