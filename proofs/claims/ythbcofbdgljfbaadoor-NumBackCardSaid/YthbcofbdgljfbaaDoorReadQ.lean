/- Numbers of texts, there and back: plain. -/
import Derived.Test.YthbcofbdgljfbaaDoorReadP
namespace Go.Proofs.YthbcofbdgljfbaaDoor
set_option linter.unusedVariables false
set_option linter.unusedSimpArgs false

theorem digc_nat : ∀ d : Fin 10, (digc d.val).toNat = 48 + d.val := by decide +kernel
theorem digc_of (c : UInt8) (h : isDig c = true) : digc (c.toNat - 48) = c := by
  have h' : 48 ≤ c.toNat ∧ c.toNat ≤ 57 := by simpa [isDig] using h
  have := digc_nat ⟨c.toNat - 48, by omega⟩
  simp only at this
  exact UInt8.toNat_inj.1 (by omega)
theorem digc_dig {d : Nat} (h : d < 10) : isDig (digc d) = true := by
  have := digc_nat ⟨d, h⟩
  simp only at this
  simp [isDig, this]
  omega
theorem digc_val {d : Nat} (h : d < 10) : (digc d).toNat - 48 = d := by
  have := digc_nat ⟨d, h⟩
  simp only at this
  omega
theorem dec_snoc {m : Nat} (h : 9 < m) : Lib.decDigits m = Lib.decDigits (m / 10) ++ [digc (m % 10)] := by
  rw [decRest_start]; unfold decRest; rw [if_pos h]
theorem dec_one {m : Nat} (h : m < 10) : Lib.decDigits m = [digc m] := by
  rw [decRest_start]; unfold decRest; rw [if_neg (by omega), Nat.mod_eq_of_lt h]; rfl
structure DecOk (m : Nat) (l : List UInt8) : Prop where
  digs : l.all isDig = true
  some_ : l ≠ []
  head : 1 ≤ m → l.head? ≠ some 48
  val : valF 0 l = m
theorem dec_ok (m : Nat) : DecOk m (Lib.decDigits m) := by
  induction m using Nat.strongRecOn with
  | _ m ih =>
    by_cases h : 9 < m
    · have i := ih (m / 10) (by omega)
      rw [dec_snoc h]
      refine ⟨?_, by simp, fun _ => ?_, ?_⟩
      · rw [List.all_append, i.digs]
        simp [digc_dig (Nat.mod_lt m (by decide : 0 < 10))]
      · have hh := i.head (by omega)
        have hs := i.some_
        generalize Lib.decDigits (m / 10) = l at *
        cases l with
        | nil => exact absurd rfl hs
        | cons c r => exact hh
      · rw [valF_snoc, i.val, digc_val (Nat.mod_lt m (by decide : 0 < 10))]
        omega
    · rw [dec_one (by omega)]
      refine ⟨by simp [digc_dig (show m < 10 by omega)], by simp, fun h1 => ?_, ?_⟩
      · intro h2
        have h3 : digc m = 48 := by simpa using h2
        have h4 := digc_val (show m < 10 by omega)
        rw [h3] at h4
        have : ((48 : UInt8).toNat - 48) = 0 := by decide
        omega
      · show valF (0 * 10 + ((digc m).toNat - 48)) [] = m
        rw [digc_val (by omega)]
        show 0 * 10 + m = m
        omega
theorem readN_dig {n : Nat} (h : n ≤ 1000000) : readN (digN n) = ((n : Int), 0) := by
  rw [digN_in h]
  have i := dec_ok n
  rw [readN_ok i.digs ?_ (by rw [i.val]; omega), i.val]
  rintro (h1 | ⟨h1, h2⟩)
  · exact i.some_ h1
  · have hn : n = 0 := by
      apply Classical.byContradiction
      intro hn
      exact i.head (by omega) h2
    subst hn
    rw [dec_one (by omega)] at h1
    simp at h1
theorem readN_out {n : Int} (h : n < 0 ∨ 1000000 < n) : readN (digN n) = (0, 2) := by
  rw [digN_out h]; exact readN_form (.inl rfl)
theorem val_pos {l : List UInt8} (hd : l.all isDig = true) (hl : l ≠ []) (hh : l.head? ≠ some 48) : 1 ≤ valF 0 l := by
  cases l with
  | nil => exact absurd rfl hl
  | cons c r =>
    have h2 : 48 ≤ c.toNat ∧ c.toNat ≤ 57 := by
      simp only [List.all_cons, Bool.and_eq_true] at hd
      simpa [isDig] using hd.1
    have h3 : c.toNat ≠ 48 := fun e => hh (by rw [show c = 48 from UInt8.toNat_inj.1 e]; rfl)
    have := valF_le r (0 * 10 + (c.toNat - 48))
    show 1 ≤ valF (0 * 10 + (c.toNat - 48)) r
    omega
theorem dec_val (n : Nat) : ∀ l : List UInt8, l.length = n + 1 → l.all isDig = true → (1 < l.length → l.head? ≠ some 48) → Lib.decDigits (valF 0 l) = l := by
  induction n with
  | zero =>
    intro l hl hd _
    match l, hl with
    | [c], _ =>
      have hc : isDig c = true := by simpa using hd
      have h' : 48 ≤ c.toNat ∧ c.toNat ≤ 57 := by simpa [isDig] using hc
      have e : valF 0 [c] = c.toNat - 48 := by show 0 * 10 + (c.toNat - 48) = _; omega
      rw [e, dec_one (by omega), digc_of c hc]
  | succ n ih =>
    intro l hl hd hh
    obtain ⟨r, c, rfl⟩ : ∃ r c, l = r ++ [c] := ⟨l.dropLast, l.getLast (by intro h; rw [h] at hl; simp at hl), (List.dropLast_concat_getLast _).symm⟩
    have hr : r.length = n + 1 := by simpa using hl
    rw [List.all_append, Bool.and_eq_true] at hd
    have hc : isDig c = true := by simpa using hd.2
    have h' : 48 ≤ c.toNat ∧ c.toNat ≤ 57 := by simpa [isDig] using hc
    have hne : r ≠ [] := by intro h; rw [h] at hr; simp at hr
    have hhd : r.head? ≠ some 48 := by
      have := hh (by simp; omega)
      cases r with
      | nil => exact absurd rfl hne
      | cons x r => exact this
    have hp := val_pos hd.1 hne hhd
    rw [valF_snoc, dec_snoc (by omega), show (valF 0 r * 10 + (c.toNat - 48)) / 10 = valF 0 r by omega, show (valF 0 r * 10 + (c.toNat - 48)) % 10 = c.toNat - 48 by omega, ih r hr hd.1 (fun _ => hhd), digc_of c hc]
theorem digN_read {l : List UInt8} (h : (readN l).2 = 0) : digN (readN l).1 = l := by
  unfold readN at h ⊢
  by_cases h1 : l.all isDig = false
  · rw [if_pos h1] at h; simp at h
  · rw [if_neg h1] at h ⊢
    by_cases h2 : l = [] ∨ (1 < l.length ∧ l.head? = some 48)
    · rw [if_pos h2] at h; simp at h
    · rw [if_neg h2] at h ⊢
      by_cases h3 : 1000000 < valF 0 l
      · rw [if_pos h3] at h; simp at h
      · rw [if_neg h3]
        show digN ((valF 0 l : Nat) : Int) = l
        rw [digN_in (by omega)]
        have hne : l ≠ [] := fun h => h2 (.inl h)
        have hlen : 0 < l.length := List.length_pos_iff.2 hne
        exact dec_val (l.length - 1) l (by omega) (by simpa using h1) fun h4 h5 => h2 (.inr ⟨h4, h5⟩)
theorem readN_range (l : List UInt8) : -9223372036854775808 ≤ (readN l).1 ∧ (readN l).1 ≤ 9223372036854775807 := by
  unfold readN
  repeat' split
  all_goals simp only
  all_goals omega
end Go.Proofs.YthbcofbdgljfbaaDoor
