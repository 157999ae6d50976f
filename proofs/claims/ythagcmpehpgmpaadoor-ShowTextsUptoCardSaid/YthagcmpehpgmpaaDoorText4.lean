/- A set's text tells the set: plain. -/
import Derived.Test.YthagcmpehpgmpaaDoorText1
import Derived.Test.YthagcmpehpgmpaaDoorSet8
namespace Go.Proofs.YthagcmpehpgmpaaDoor
set_option linter.unusedVariables false
set_option linter.unusedSimpArgs false

/-- a hexadecimal digit's value -/
def hexVal (c : UInt8) : Nat := if c.toNat < 58 then c.toNat - 48 else c.toNat - 87
/-- the sign that a text begins with, and the rest -/
def sgn : List UInt8 → Option (UInt8 × List UInt8)
  | [] => none
  | c :: r => if c = 92 then (match r with
      | a :: b :: r2 => some (UInt8.ofNat (16 * hexVal a + hexVal b), r2)
      | _ => none) else some (c, r)
def sgnOk (x : UInt8) : List UInt8 → Bool
  | [c] => decide (c ≠ 92) && decide (c = x)
  | [c, a, b] => decide (c = 92) && decide (UInt8.ofNat (16 * hexVal a + hexVal b) = x)
  | _ => false
theorem sgn_all : ∀ n : Fin 256, (signB (UInt8.ofNat n.val)).head? ≠ some 45 ∧ (signB (UInt8.ofNat n.val)).head? ≠ some 93 ∧ (signB (UInt8.ofNat n.val)).head? ≠ some 91 ∧ (signB (UInt8.ofNat n.val)).head? ≠ some 46 ∧
    sgnOk (UInt8.ofNat n.val) (signB (UInt8.ofNat n.val)) = true := by decide +kernel
theorem sgn_sign (b : UInt8) (r : List UInt8) : sgn (signB b ++ r) = some (b, r) := by
  have h := (sgn_all ⟨b.toNat, b.toNat_lt⟩).2.2.2.2
  simp only [UInt8.ofNat_toNat] at h
  generalize signB b = l at *
  match l, h with
  | [c], h =>
    simp only [sgnOk, Bool.and_eq_true, decide_eq_true_eq] at h
    obtain ⟨h1, rfl⟩ := h
    simp only [List.cons_append, List.nil_append, sgn]
    rw [if_neg h1]
  | [c, a, d], h =>
    simp only [sgnOk, Bool.and_eq_true, decide_eq_true_eq] at h
    obtain ⟨rfl, h2⟩ := h
    simp only [List.cons_append, List.nil_append, sgn, if_true]
    rw [h2]
theorem sign_head (b : UInt8) : ∃ c r, signB b = c :: r ∧ c ≠ 45 ∧ c ≠ 93 ∧ c ≠ 91 ∧ c ≠ 46 := by
  obtain ⟨h1, h2, h3, h4, _⟩ := sgn_all ⟨b.toNat, b.toNat_lt⟩
  simp only [UInt8.ofNat_toNat] at h1 h2 h3 h4
  have h5 := signB_length b
  generalize signB b = l at *
  cases l with
  | nil => simp at h5
  | cons c r => exact ⟨c, r, rfl, by simpa using h1, by simpa using h2, by simpa using h3, by simpa using h4⟩
/-- the bytes from one on, so many -/
def bytesRun (b : Nat) : Nat → List Nat
  | 0 => []
  | n + 1 => b :: bytesRun (b + 1) n
/-- the bytes that items tell, up to a closing bracket -/
def items : Nat → List UInt8 → List Nat
  | 0, _ => []
  | f + 1, l => if l.head? = some 93 then [] else match sgn l with
    | none => []
    | some (x, r) => if r.head? = some 45 then (match sgn r.tail with
        | none => []
        | some (y, r2) => bytesRun x.toNat (y.toNat + 1 - x.toNat) ++ items f r2)
      else x.toNat :: items f r
theorem items_end (f : Nat) (r : List UInt8) : items (f + 1) (93 :: r) = [] := by simp [items]
theorem items_one (f : Nat) (x : UInt8) (r : List UInt8) (h : r.head? ≠ some 45) : items (f + 1) (signB x ++ r) = x.toNat :: items f r := by
  obtain ⟨c, r2, hs, _, h93, _⟩ := sign_head x
  have h1 : (signB x ++ r).head? ≠ some 93 := by rw [hs]; simpa using h93
  simp only [items]
  rw [if_neg h1, sgn_sign]
  simp only
  rw [if_neg h]
theorem items_run (f : Nat) (x y : UInt8) (r : List UInt8) : items (f + 1) (signB x ++ (45 :: (signB y ++ r))) = bytesRun x.toNat (y.toNat + 1 - x.toNat) ++ items f r := by
  obtain ⟨c, r2, hs, _, h93, _⟩ := sign_head x
  have h1 : (signB x ++ (45 :: (signB y ++ r))).head? ≠ some 93 := by rw [hs]; simpa using h93
  simp only [items]
  rw [if_neg h1, sgn_sign]
  simp only [List.head?_cons, if_true, List.tail_cons]
  rw [sgn_sign]
theorem txt_head (s : S4) (r : List UInt8) : ∀ n b, 256 - b ≤ n → (txt s b ++ 93 :: r).head? ≠ some 45
  | n, b, hn => by
    by_cases h : b < 256
    · cases n with
      | zero => omega
      | succ n =>
        cases hh : s.has b with
        | false => rw [txt_skip s h hh]; exact txt_head s r n (b + 1) (by omega)
        | true =>
          obtain ⟨c, r2, hs, h45, _⟩ := sign_head (UInt8.ofNat b)
          rw [txt_take s h hh, runText, hs]
          simpa using h45
    · rw [txt_end s (by omega)]
      simp
/-- the members from b on -/
def membF (s : S4) : Nat → Nat → List Nat
  | 0, _ => []
  | f + 1, b => if 256 ≤ b then [] else if s.has b then b :: membF s f (b + 1) else membF s f (b + 1)
def memb (s : S4) (b : Nat) : List Nat := membF s (256 - b) b
theorem memb_end (s : S4) {b : Nat} (h : 256 ≤ b) : memb s b = [] := by
  unfold memb
  rw [show 256 - b = 0 by omega]
  rfl
theorem memb_skip (s : S4) {b : Nat} (h : b < 256) (hh : s.has b = false) : memb s b = memb s (b + 1) := by
  unfold memb
  rw [show 256 - b = (256 - (b + 1)) + 1 by omega]
  simp only [membF]
  rw [if_neg (by omega), hh]
  simp
theorem memb_take (s : S4) {b : Nat} (h : b < 256) (hh : s.has b = true) : memb s b = b :: memb s (b + 1) := by
  unfold memb
  rw [show 256 - b = (256 - (b + 1)) + 1 by omega]
  simp only [membF]
  rw [if_neg (by omega), hh]
  simp
theorem memb_run (s : S4) : ∀ n b, b ≤ 255 → s.has b = true → runEnd s b = b + n → memb s b = bytesRun b (n + 1) ++ memb s (b + n + 1)
  | 0, b, hb, hh, he => by
    rw [memb_take s (by omega) hh]
    rfl
  | n + 1, b, hb, hh, he => by
    have h255 : b < 255 := by
      rcases Nat.lt_or_ge b 255 with h | h
      · exact h
      · rw [runEnd_last s h] at he; omega
    have h1 : s.has (b + 1) = true := by
      cases h : s.has (b + 1) with
      | true => rfl
      | false => rw [runEnd_stop s h] at he; omega
    rw [runEnd_step s h255 h1] at he
    rw [memb_take s (by omega) hh, memb_run s n (b + 1) (by omega) h1 (by omega)]
    rw [show b + 1 + n + 1 = b + (n + 1) + 1 by omega]
    rfl
theorem items_txt (s : S4) (r : List UInt8) : ∀ n b f, 256 - b ≤ n → 256 - b < f → items f (txt s b ++ 93 :: r) = memb s b
  | n, b, f, hn, hf => by
    obtain ⟨f, rfl⟩ : ∃ g, f = g + 1 := ⟨f - 1, by omega⟩
    by_cases h : b < 256
    · cases n with
      | zero => omega
      | succ n =>
        cases hh : s.has b with
        | false =>
          rw [txt_skip s h hh, memb_skip s h hh]
          exact items_txt s r n (b + 1) (f + 1) (by omega) (by omega)
        | true =>
          have he := runEnd_le s (show b ≤ 255 by omega)
          obtain ⟨m, hm⟩ : ∃ m, runEnd s b = b + m := ⟨runEnd s b - b, by omega⟩
          rw [txt_take s h hh, memb_run s m b (by omega) hh hm, hm]
          have hb8 : (UInt8.ofNat b).toNat = b := by simp; omega
          have he8 : (UInt8.ofNat (b + m)).toNat = b + m := by simp; omega
          have hd := txt_head s r 256 (b + m + 1) (by omega)
          match m with
          | 0 =>
            rw [show runText b (b + 0) = signB (UInt8.ofNat b) by simp [runText], List.append_assoc, items_one f _ _ hd, hb8, items_txt s r n (b + 0 + 1) f (by omega) (by omega)]
            rfl
          | 1 =>
            obtain ⟨f, rfl⟩ : ∃ g, f = g + 1 := ⟨f - 1, by omega⟩
            obtain ⟨c, r2, hs, h45, _⟩ := sign_head (UInt8.ofNat (b + 1))
            rw [show runText b (b + 1) = signB (UInt8.ofNat b) ++ signB (UInt8.ofNat (b + 1)) by simp [runText], List.append_assoc, List.append_assoc, items_one (f + 1) _ _ (by rw [hs]; simpa using h45), items_one f _ _ hd, hb8, he8,
              items_txt s r n (b + 1 + 1) f (by omega) (by omega)]
            rfl
          | m + 2 =>
            rw [show runText b (b + (m + 2)) = signB (UInt8.ofNat b) ++ (45 :: signB (UInt8.ofNat (b + (m + 2)))) by unfold runText; rw [if_pos (by omega), if_pos (by omega)]; simp]
            rw [show (signB (UInt8.ofNat b) ++ (45 :: signB (UInt8.ofNat (b + (m + 2)))) ++ txt s (b + (m + 2) + 1)) ++ 93 :: r = signB (UInt8.ofNat b) ++ (45 :: (signB (UInt8.ofNat (b + (m + 2))) ++ (txt s (b + (m + 2) + 1) ++ 93 :: r))) by simp]
            rw [items_run, hb8, he8, items_txt s r n (b + (m + 2) + 1) f (by omega) (by omega), show b + (m + 2) + 1 - b = m + 2 + 1 by omega]
    · rw [txt_end s (by omega), memb_end s (by omega)]
      exact items_end f r
theorem memb_mem (s : S4) (x : Nat) : ∀ n b, 256 - b ≤ n → (x ∈ memb s b ↔ b ≤ x ∧ x < 256 ∧ s.has x = true)
  | n, b, hn => by
    by_cases h : b < 256
    · cases n with
      | zero => omega
      | succ n =>
        have ih := memb_mem s x n (b + 1) (by omega)
        cases hh : s.has b with
        | false =>
          rw [memb_skip s h hh, ih]
          constructor
          · rintro ⟨a, c, d⟩; exact ⟨by omega, c, d⟩
          · rintro ⟨a, c, d⟩
            refine ⟨?_, c, d⟩
            rcases Nat.lt_or_ge b x with h1 | h1
            · omega
            · have : x = b := by omega
              rw [this, hh] at d; cases d
        | true =>
          rw [memb_take s h hh, List.mem_cons, ih]
          constructor
          · rintro (rfl | ⟨a, c, d⟩)
            · exact ⟨Nat.le_refl _, h, hh⟩
            · exact ⟨by omega, c, d⟩
          · rintro ⟨a, c, d⟩
            rcases Nat.lt_or_ge b x with h1 | h1
            · exact .inr ⟨by omega, c, d⟩
            · exact .inl (by omega)
    · rw [memb_end s (by omega)]
      simp
      omega
theorem memb_inj {s t : S4} (h : memb s 0 = memb t 0) : s = t := S4.ext_has fun b hb => by
  have h1 := memb_mem s b 256 0 (by omega)
  have h2 := memb_mem t b 256 0 (by omega)
  rw [h] at h1
  rw [Bool.eq_iff_iff]
  constructor
  · intro h3; exact (h2.1 (h1.2 ⟨Nat.zero_le _, hb, h3⟩)).2.2
  · intro h3; exact (h1.1 (h2.2 ⟨Nat.zero_le _, hb, h3⟩)).2.2
theorem bytesOf_mem (s : S4) {b : Nat} (hb : b < 256) : UInt8.ofNat b ∈ bytesOf s ↔ s.has b = true := by
  constructor
  · intro h
    have := bytesTo_mem s 256 (Nat.le_refl _) _ h
    rwa [UInt8.toNat_ofNat', Nat.mod_eq_of_lt hb] at this
  · intro h
    exact List.mem_of_getElem? (bytes_at s hb h).1
theorem bytesOf_inj {s t : S4} (h : bytesOf s = bytesOf t) : s = t := S4.ext_has fun b hb => by
  have h1 := bytesOf_mem s hb
  have h2 := bytesOf_mem t hb
  rw [h] at h1
  rw [Bool.eq_iff_iff]
  exact ⟨fun h3 => h2.1 (h1.2 h3), fun h3 => h1.1 (h2.2 h3)⟩
/-- what a set's text is, by its bytes -/
theorem textS_cases (s : S4) : (s = S4.all ∧ textS s = [46]) ∨ (∃ x, bytesOf s = [x] ∧ textS s = signB x) ∨ textS s = 91 :: (txt s 0 ++ [93]) := by
  by_cases h : (bytesOf s).length = 256
  · have := all_iff s
    rw [decide_eq_true h, decide_eq_true_eq] at this
    exact .inl ⟨this, textS_all s h⟩
  · by_cases h1 : (bytesOf s).length = 1
    · obtain ⟨x, hx⟩ := List.length_eq_one_iff.1 h1
      exact .inr (.inl ⟨x, hx, textS_one s hx⟩)
    · exact .inr (.inr (textS_many s h h1))
theorem textS_inj {s t : S4} (h : textS s = textS t) : s = t := by
  rcases textS_cases s with ⟨e1, h1⟩ | ⟨x, e1, h1⟩ | h1 <;> rcases textS_cases t with ⟨e2, h2⟩ | ⟨y, e2, h2⟩ | h2 <;> rw [h1, h2] at h
  · rw [e1, e2]
  · obtain ⟨c, r, hs, _, _, _, h46⟩ := sign_head y
    rw [hs] at h
    exact absurd (List.cons.inj h).1.symm h46
  · exact absurd (List.cons.inj h).1 (by decide)
  · obtain ⟨c, r, hs, _, _, _, h46⟩ := sign_head x
    rw [hs] at h
    exact absurd (List.cons.inj h).1 h46
  · have hx := sgn_sign x []
    have hy := sgn_sign y []
    rw [h, hy] at hx
    have : y = x := by simpa using hx
    exact bytesOf_inj (by rw [e1, e2, this])
  · obtain ⟨c, r, hs, _, _, h91, _⟩ := sign_head x
    rw [hs] at h
    exact absurd (List.cons.inj h).1 h91
  · exact absurd (List.cons.inj h).1.symm (by decide)
  · obtain ⟨c, r, hs, _, _, h91, _⟩ := sign_head y
    rw [hs] at h
    exact absurd (List.cons.inj h).1.symm h91
  · have h3 := (List.cons.inj h).2
    have a := items_txt s [] 256 0 257 (by omega) (by omega)
    have b := items_txt t [] 256 0 257 (by omega) (by omega)
    rw [h3, b] at a
    exact (memb_inj a).symm
theorem textS_eq (s t : S4) : decide (textS s = textS t) = decide (s = t) := by
  rw [Bool.eq_iff_iff, decide_eq_true_eq, decide_eq_true_eq]
  exact ⟨textS_inj, fun h => by rw [h]⟩
end Go.Proofs.YthagcmpehpgmpaaDoor
