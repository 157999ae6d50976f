/- Texts of sets, and what stands behind them: plain. -/
import Derived.Test.YthagcmpehpgmpaaDoorShow1
import Derived.Test.YthagcmpehpgmpaaDoorText4
namespace Go.Proofs.YthagcmpehpgmpaaDoor
set_option linter.unusedVariables false

theorem sgn_all2 : ∀ n : Fin 256, (signB (UInt8.ofNat n.val)).head? ≠ some 40 ∧ (signB (UInt8.ofNat n.val)).head? ≠ some 41 ∧ (signB (UInt8.ofNat n.val)).head? ≠ some 42 ∧ (signB (UInt8.ofNat n.val)).head? ≠ some 124 := by decide +kernel
/-- a byte that an item may begin with -/
def itemHead (c : UInt8) : Prop := c ≠ 41 ∧ c ≠ 42 ∧ c ≠ 124
theorem sign_head2 (b : UInt8) : ∃ c r, signB b = c :: r ∧ c ≠ 40 ∧ itemHead c := by
  obtain ⟨h1, h2, h3, h4⟩ := sgn_all2 ⟨b.toNat, b.toNat_lt⟩
  simp only [UInt8.ofNat_toNat] at h1 h2 h3 h4
  have h5 := signB_length b
  generalize signB b = l at *
  cases l with
  | nil => simp at h5
  | cons c r => exact ⟨c, r, rfl, by simpa using h1, by simpa using h2, by simpa using h3, by simpa using h4⟩
theorem text_head (s : S4) : ∃ c r, textS s = c :: r ∧ c ≠ 40 ∧ itemHead c := by
  rcases textS_cases s with ⟨_, h⟩ | ⟨x, _, h⟩ | h
  · exact ⟨46, [], h, by decide, by decide, by decide, by decide⟩
  · obtain ⟨c, r, h1, h2, h3⟩ := sign_head2 x
    exact ⟨c, r, h.trans h1, h2, h3⟩
  · exact ⟨91, _, h, by decide, by decide, by decide, by decide⟩
/-- a set's text tells where it ends -/
theorem text_pre {s t : S4} {r1 r2 : List UInt8} (h : textS s ++ r1 = textS t ++ r2) : s = t ∧ r1 = r2 := by
  have key : s = t := by
    rcases textS_cases s with ⟨e1, h1⟩ | ⟨x, e1, h1⟩ | h1 <;> rcases textS_cases t with ⟨e2, h2⟩ | ⟨y, e2, h2⟩ | h2 <;> rw [h1, h2] at h
    · rw [e1, e2]
    · obtain ⟨c, r, hs, _, _, _, h46⟩ := sign_head y
      rw [hs] at h
      exact absurd (List.cons.inj h).1.symm h46
    · exact absurd (List.cons.inj h).1 (by decide)
    · obtain ⟨c, r, hs, _, _, _, h46⟩ := sign_head x
      rw [hs] at h
      exact absurd (List.cons.inj h).1 h46
    · have hx := sgn_sign x r1
      have hy := sgn_sign y r2
      rw [h, hy] at hx
      have : y = x := by
        have := Option.some.inj hx
        exact (Prod.mk.inj this).1
      exact bytesOf_inj (by rw [e1, e2, this])
    · obtain ⟨c, r, hs, _, _, h91, _⟩ := sign_head x
      rw [hs] at h
      exact absurd (List.cons.inj h).1 h91
    · exact absurd (List.cons.inj h).1.symm (by decide)
    · obtain ⟨c, r, hs, _, _, h91, _⟩ := sign_head y
      rw [hs] at h
      exact absurd (List.cons.inj h).1.symm h91
    · have h3 : (txt s 0 ++ [93]) ++ r1 = (txt t 0 ++ [93]) ++ r2 := (List.cons.inj h).2
      rw [List.append_assoc, List.append_assoc] at h3
      have a := items_txt s r1 256 0 257 (by omega) (by omega)
      have b := items_txt t r2 256 0 257 (by omega) (by omega)
      have h4 : txt s 0 ++ 93 :: r1 = txt t 0 ++ 93 :: r2 := h3
      rw [h4, b] at a
      exact (memb_inj a).symm
  subst key
  exact ⟨rfl, List.append_cancel_left h⟩
end Go.Proofs.YthagcmpehpgmpaaDoor
