/- A set's text: plain. -/
import Derived.Test.YteoghoaggpbkpaaDoorBytes2
import Derived.Test.YteoghoaggpbkpaaDoorSign2
namespace Go.Proofs.YteoghoaggpbkpaaDoor
set_option linter.unusedVariables false
set_option linter.unusedSimpArgs false

/-- where a run of bytes ends -/
def runE (s : S4) : Nat → Nat → Nat
  | 0, b => b
  | f + 1, b => if s.has (b + 1) then runE s f (b + 1) else b
def runEnd (s : S4) (b : Nat) : Nat := runE s (255 - b) b
theorem runEnd_last (s : S4) {b : Nat} (h : 255 ≤ b) : runEnd s b = b := by
  unfold runEnd
  rw [show 255 - b = 0 by omega]
  rfl
theorem runEnd_step (s : S4) {b : Nat} (h : b < 255) (hh : s.has (b + 1) = true) : runEnd s b = runEnd s (b + 1) := by
  unfold runEnd
  rw [show 255 - b = (255 - (b + 1)) + 1 by omega]
  simp [runE, hh]
theorem runEnd_stop (s : S4) {b : Nat} (hh : s.has (b + 1) = false) : runEnd s b = b := by
  unfold runEnd
  cases 255 - b with
  | zero => rfl
  | succ f => simp [runE, hh]
theorem runE_le (s : S4) : ∀ f b, b ≤ runE s f b ∧ runE s f b ≤ b + f
  | 0, b => ⟨Nat.le_refl _, Nat.le_refl _⟩
  | f + 1, b => by
    simp only [runE]
    split
    · have := runE_le s f (b + 1); omega
    · omega
theorem runEnd_le (s : S4) {b : Nat} (h : b ≤ 255) : b ≤ runEnd s b ∧ runEnd s b ≤ 255 := by
  have := runE_le s (255 - b) b
  unfold runEnd
  omega
/-- a run's text -/
def runText (b e : Nat) : List UInt8 := signB (UInt8.ofNat b) ++ (if b + 1 < e then [45] else []) ++ (if b < e then signB (UInt8.ofNat e) else [])
def txtF (s : S4) : Nat → Nat → List UInt8
  | 0, _ => []
  | f + 1, b => if 256 ≤ b then [] else if s.has b then runText b (runEnd s b) ++ txtF s f (runEnd s b + 1) else txtF s f (b + 1)
/-- the text of the bytes from b on -/
def txt (s : S4) (b : Nat) : List UInt8 := txtF s (256 - b) b
theorem txtF_end (s : S4) {b : Nat} (h : 256 ≤ b) : ∀ f, txtF s f b = []
  | 0 => rfl
  | f + 1 => by simp [txtF, h]
theorem txtF_more (s : S4) : ∀ (n b f g : Nat), 256 - b ≤ n → 256 - b ≤ f → 256 - b ≤ g → txtF s f b = txtF s g b
  | n, b, f, g, hn, hf, hg => by
    by_cases h : b < 256
    · cases n with
      | zero => omega
      | succ m =>
        obtain ⟨f, rfl⟩ : ∃ x, f = x + 1 := ⟨f - 1, by omega⟩
        obtain ⟨g, rfl⟩ : ∃ x, g = x + 1 := ⟨g - 1, by omega⟩
        have he := runEnd_le s (show b ≤ 255 by omega)
        simp only [txtF]
        rw [txtF_more s m (runEnd s b + 1) f g (by omega) (by omega) (by omega), txtF_more s m (b + 1) f g (by omega) (by omega) (by omega)]
    · rw [txtF_end s (by omega), txtF_end s (by omega)]
theorem txt_end (s : S4) {b : Nat} (h : 256 ≤ b) : txt s b = [] := txtF_end s h _
theorem txt_skip (s : S4) {b : Nat} (h : b < 256) (hh : s.has b = false) : txt s b = txt s (b + 1) := by
  unfold txt
  rw [show 256 - b = (256 - (b + 1)) + 1 by omega]
  simp only [txtF]
  rw [if_neg (by omega), hh]
  simp
theorem txt_take (s : S4) {b : Nat} (h : b < 256) (hh : s.has b = true) : txt s b = runText b (runEnd s b) ++ txt s (runEnd s b + 1) := by
  have he := runEnd_le s (show b ≤ 255 by omega)
  unfold txt
  rw [show 256 - b = (256 - (b + 1)) + 1 by omega]
  simp only [txtF]
  rw [if_neg (by omega), hh]
  simp only [if_true]
  rw [txtF_more s 256 (runEnd s b + 1) (256 - (b + 1)) (256 - (runEnd s b + 1)) (by omega) (by omega) (by omega)]
theorem bytesTo_has (s : S4) {b : Nat} (hh : s.has b = true) : bytesTo s (b + 1) = bytesTo s b ++ [UInt8.ofNat b] := by simp [bytesTo, hh]
theorem bytesTo_not (s : S4) {b : Nat} (hh : s.has b = false) : bytesTo s (b + 1) = bytesTo s b := by simp [bytesTo, hh]
theorem bytesTo_front (s : S4) (b : Nat) : ∀ n, ∃ r, bytesTo s (b + n) = bytesTo s b ++ r
  | 0 => ⟨[], by simp⟩
  | n + 1 => by
    obtain ⟨r, h⟩ := bytesTo_front s b n
    rw [← Nat.add_assoc]
    cases hh : s.has (b + n) with
    | true => exact ⟨r ++ [UInt8.ofNat (b + n)], by rw [bytesTo_has s hh, h, List.append_assoc]⟩
    | false => exact ⟨r, by rw [bytesTo_not s hh, h]⟩
theorem bytesTo_le (s : S4) {b c : Nat} (h : b ≤ c) : (bytesTo s b).length ≤ (bytesTo s c).length := by
  obtain ⟨n, rfl⟩ := Nat.exists_eq_add_of_le h
  obtain ⟨r, h⟩ := bytesTo_front s b n
  rw [h, List.length_append]; omega
theorem bytes_at (s : S4) {b : Nat} (h : b < 256) (hh : s.has b = true) : (bytesOf s)[(bytesTo s b).length]? = some (UInt8.ofNat b) ∧ (bytesTo s b).length < (bytesOf s).length := by
  obtain ⟨n, hn⟩ := Nat.exists_eq_add_of_le (show b + 1 ≤ 256 by omega)
  obtain ⟨r, hr⟩ := bytesTo_front s (b + 1) n
  unfold bytesOf
  rw [hn, hr, bytesTo_has s hh]
  constructor
  · simp
  · simp
theorem bytesTo_mem (s : S4) : ∀ n, n ≤ 256 → ∀ x ∈ bytesTo s n, s.has x.toNat = true
  | 0, _, x, hx => by simp [bytesTo] at hx
  | n + 1, hn, x, hx => by
    cases hh : s.has n with
    | true =>
      rw [bytesTo_has s hh, List.mem_append, List.mem_singleton] at hx
      rcases hx with hx | hx
      · exact bytesTo_mem s n (by omega) x hx
      · subst hx
        rw [UInt8.toNat_ofNat', Nat.mod_eq_of_lt (by omega)]
        exact hh
    | false =>
      rw [bytesTo_not s hh] at hx
      exact bytesTo_mem s n (by omega) x hx
theorem next_member (s : S4) : ∀ n b, 256 - b ≤ n → b ≤ 256 → (bytesTo s b).length < (bytesOf s).length →
    ∃ c, b ≤ c ∧ c < 256 ∧ s.has c = true ∧ bytesTo s c = bytesTo s b ∧ txt s c = txt s b
  | n, b, hn, hb, hl => by
    by_cases h : b < 256
    · cases n with
      | zero => omega
      | succ m =>
        cases hh : s.has b with
        | true => exact ⟨b, Nat.le_refl _, h, hh, rfl, rfl⟩
        | false =>
          obtain ⟨c, h1, h2, h3, h4, h5⟩ := next_member s m (b + 1) (by omega) (by omega) (by rw [bytesTo_not s hh]; exact hl)
          exact ⟨c, by omega, h2, h3, by rw [h4, bytesTo_not s hh], by rw [h5, txt_skip s h hh]⟩
    · have : b = 256 := by omega
      subst this
      exact absurd hl (Nat.lt_irrefl _)
theorem no_member (s : S4) : ∀ n b, 256 - b ≤ n → b ≤ 256 → (bytesTo s b).length = (bytesOf s).length → txt s b = []
  | n, b, hn, hb, hl => by
    by_cases h : b < 256
    · cases n with
      | zero => omega
      | succ m =>
        cases hh : s.has b with
        | true => have := (bytes_at s h hh).2; omega
        | false =>
          rw [txt_skip s h hh]
          exact no_member s m (b + 1) (by omega) (by omega) (by rw [bytesTo_not s hh]; exact hl)
    · exact txt_end s (by omega)
theorem full_has (s : S4) : ∀ n, (bytesTo s n).length = n → ∀ b, b < n → s.has b = true
  | 0, _, b, hb => by omega
  | n + 1, h, b, hb => by
    cases hh : s.has n with
    | true =>
      rw [bytesTo_has s hh, List.length_append, List.length_singleton] at h
      by_cases e : b = n
      · subst e; exact hh
      · exact full_has s n (by omega) b (by omega)
    | false =>
      rw [bytesTo_not s hh] at h
      have := bytesTo_length s n
      omega
def S4.all : S4 := ⟨18446744073709551615, 18446744073709551615, 18446744073709551615, 18446744073709551615⟩
theorem word_full (x : UInt64) (h : ∀ j, j < 64 → x.toNat.testBit j = true) : x = 18446744073709551615 := by
  apply UInt64.toNat_inj.1
  show x.toNat = 2 ^ 64 - 1
  apply Nat.eq_of_testBit_eq
  intro i
  rw [Nat.testBit_two_pow_sub_one]
  by_cases hi : i < 64
  · rw [h i hi]; simp [hi]
  · rw [Nat.testBit_lt_two_pow (Nat.lt_of_lt_of_le x.toNat_lt (Nat.pow_le_pow_right (by decide) (by omega)))]
    simp [hi]
theorem all_full : (bytesOf S4.all).length = 256 := by decide +kernel
theorem all_iff (s : S4) : decide (s = S4.all) = decide ((bytesOf s).length = 256) := by
  rw [Bool.eq_iff_iff, decide_eq_true_eq, decide_eq_true_eq]
  constructor
  · rintro rfl; exact all_full
  · intro h
    have hh := full_has s 256 h
    have hw : ∀ i j, i < 4 → j < 64 → (s.get i).toNat.testBit j = true := fun i j hi hj => by rw [← has_test s i j hj]; exact hh _ (by omega)
    rw [S4.ext_iff_]
    exact ⟨word_full _ fun j hj => hw 0 j (by decide) hj, word_full _ fun j hj => hw 1 j (by decide) hj, word_full _ fun j hj => hw 2 j (by decide) hj, word_full _ fun j hj => hw 3 j (by decide) hj⟩
theorem signB_length (b : UInt8) : 1 ≤ (signB b).length ∧ (signB b).length ≤ 3 := by
  unfold signB
  split
  · rw [List.length_cons, hexOf_length]; simp
  · simp
theorem runText_length (b e : Nat) : (runText b e).length ≤ 7 := by
  unfold runText
  have h1 := signB_length (UInt8.ofNat b)
  have h2 := signB_length (UInt8.ofNat e)
  simp only [List.length_append]
  split <;> split <;> simp <;> omega
/-- a set's text -/
def textS (s : S4) : List UInt8 :=
  if (bytesOf s).length = 256 then [46] else
  match bytesOf s with
  | [b] => signB b
  | _ => 91 :: (txt s 0 ++ [93])
theorem textS_all (s : S4) (h : (bytesOf s).length = 256) : textS s = [46] := by simp [textS, h]
theorem textS_one (s : S4) {b : UInt8} (h : bytesOf s = [b]) : textS s = signB b := by simp [textS, h]
theorem textS_many (s : S4) (h : (bytesOf s).length ≠ 256) (h1 : (bytesOf s).length ≠ 1) : textS s = 91 :: (txt s 0 ++ [93]) := by
  unfold textS
  rw [if_neg h]
  split
  · rename_i b hb; rw [hb] at h1; simp at h1
  · rfl
theorem txtF_length (s : S4) : ∀ f b, (txtF s f b).length ≤ 7 * f
  | 0, b => by simp [txtF]
  | f + 1, b => by
    simp only [txtF]
    split
    · simp
    · split
      · have h1 := txtF_length s f (runEnd s b + 1)
        have h2 := runText_length b (runEnd s b)
        rw [List.length_append]; omega
      · have h1 := txtF_length s f (b + 1)
        omega
theorem txt_length (s : S4) (b : Nat) : (txt s b).length ≤ 1792 := by
  have := txtF_length s (256 - b) b
  unfold txt
  omega
theorem textS_length (s : S4) : 1 ≤ (textS s).length ∧ (textS s).length ≤ 2000 := by
  unfold textS
  split
  · simp
  · split
    · rename_i b _; have := signB_length b; omega
    · have := txt_length s 0
      simp; omega
end Go.Proofs.YteoghoaggpbkpaaDoor
