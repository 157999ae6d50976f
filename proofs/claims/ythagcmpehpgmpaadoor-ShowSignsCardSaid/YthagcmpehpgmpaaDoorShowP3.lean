/- Expressions' texts tell where they end: stars, plain. -/
import Derived.Test.YthagcmpehpgmpaaDoorShowP2
namespace Go.Proofs.YthagcmpehpgmpaaDoor
set_option linter.unusedVariables false

/-- with so many stars -/
def starN : Nat → Re → Re
  | 0, t => t
  | n + 1, t => .mk ⟨6, S4.zero⟩ [starN n t]
theorem starN_in (t : Re) : ∀ n, starN n (.mk ⟨6, S4.zero⟩ [t]) = starN (n + 1) t
  | 0 => rfl
  | n + 1 => by
    show T.mk (α := RH) ⟨6, S4.zero⟩ [starN n (.mk ⟨6, S4.zero⟩ [t])] = T.mk (α := RH) ⟨6, S4.zero⟩ [starN (n + 1) t]
    rw [starN_in t n]
theorem stars_snoc (n : Nat) (r : List UInt8) : List.replicate n (42 : UInt8) ++ (42 :: r) = List.replicate (n + 1) 42 ++ r := by
  rw [List.replicate_succ', List.append_assoc]; rfl
theorem item_star {h : RH} {a : Re} (e : h.k = 6) : itemT (.mk h [a]) = itemT a ++ [42] := by
  rw [← show_star e]
  simp [itemT, T.head, e, brk]
theorem item_brk {t : Re} (e : t.head.k = 4 ∨ t.head.k = 5) : itemT t = 40 :: (showT t ++ [41]) := by
  rcases e with e | e <;> simp [itemT, e, brk]
/-- what P1, P2, P3 say: an item tells where it ends but for stars; a row, an alternative tell where they end -/
def P1 (a b : Re) : Prop := ∀ r1 r2, itemT a ++ r1 = itemT b ++ r2 → (∃ n, a = starN n b ∧ r2 = List.replicate n 42 ++ r1) ∨ (∃ n, b = starN n a ∧ r1 = List.replicate n 42 ++ r2)
def P2 (a b : Re) : Prop := ∀ r1 r2, endR r1 → endR r2 → rowT a ++ r1 = rowT b ++ r2 → a = b ∧ r1 = r2
def P3 (a b : Re) : Prop := ∀ r1 r2, endA r1 → endA r2 → showT a ++ r1 = showT b ++ r2 → a = b ∧ r1 = r2
theorem P1.symm {a b : Re} (h : P1 a b) : P1 b a := fun r1 r2 e => (h r2 r1 e.symm).symm
theorem P2.symm {a b : Re} (h : P2 a b) : P2 b a := fun r1 r2 e1 e2 e => let ⟨x, y⟩ := h r2 r1 e2 e1 e.symm; ⟨x.symm, y.symm⟩
theorem P3.symm {a b : Re} (h : P3 a b) : P3 b a := fun r1 r2 e1 e2 e => let ⟨x, y⟩ := h r2 r1 e2 e1 e.symm; ⟨x.symm, y.symm⟩
/-- smaller ones are told -/
def Told (n : Nat) : Prop := ∀ a b : Re, a.size + b.size < n → okT a = true → okT b = true → P1 a b ∧ P2 a b ∧ P3 a b
theorem rep_pos {n : Nat} (h : n ≠ 0) (r : List UInt8) : (List.replicate n (42 : UInt8) ++ r).head? = some 42 := by
  cases n with
  | zero => exact absurd rfl h
  | succ n => rfl
theorem row_4 {h : RH} {a b : Re} (e : h.k = 4) : rowT (.mk h [a, b]) = itemT a ++ rowT b := by
  rw [← show_seq e]; simp [rowT, T.head, e, brk]
theorem row_5 {h : RH} {ks : List Re} (e : h.k = 5) : rowT (.mk h ks) = itemT (.mk h ks) := by
  simp [rowT, itemT, T.head, e, brk]
theorem row_item {t : Re} (e : t.head.k ≠ 4) : rowT t = itemT t := by
  have h4 : (t.head.k == 4) = false := by simpa using e
  rw [rowT, itemT, h4, Bool.false_or]
theorem all_row {t : Re} (e : t.head.k ≠ 5) : showT t = rowT t := by
  simp [rowT, brk, e]
/-- a row begins as an item does -/
theorem row_head (n : Nat) : ∀ t : Re, t.size ≤ n → okT t = true → ∃ c r, rowT t = c :: r ∧ itemHead c := by
  intro t hn ho
  by_cases e : t.head.k = 4
  · obtain ⟨h, ks⟩ := t
    have e' : h.k = 4 := e
    rcases ok_shape ho with ⟨e1, rfl⟩ | ⟨e1, rfl⟩ | ⟨e1, rfl, _⟩ | ⟨a, b, e1, rfl, h1, h2⟩ | ⟨a, b, e1, rfl, h1, h2⟩ | ⟨a, e1, rfl, h1⟩
    case inr.inr.inr.inl =>
      obtain ⟨c, r, h3, h4⟩ := item_head a.size a (Nat.le_refl _) h1
      exact ⟨c, r ++ rowT b, by rw [row_4 e1, h3]; rfl, h4⟩
    all_goals rw [e1] at e'; exact absurd e' (by decide)
  · rw [row_item e]
    exact item_head n t hn ho
theorem row_no {t : Re} {r r2 : List UInt8} (ho : okT t = true) (h : endR r2) : r2 ≠ rowT t ++ r := by
  obtain ⟨c, q, e, h1, h2, h3⟩ := row_head t.size t (Nat.le_refl _) ho
  rw [e]
  rintro rfl
  rcases h with h | h | h
  · cases h
  · exact h3 (by simpa using h)
  · exact h1 (by simpa using h)
theorem row_star {t : Re} {r r2 : List UInt8} {n : Nat} (ho : okT t = true) (h : rowT t ++ r = List.replicate n 42 ++ r2) : n = 0 := by
  obtain ⟨c, q, e, h1, h2, h3⟩ := row_head t.size t (Nat.le_refl _) ho
  cases n with
  | zero => rfl
  | succ n =>
    rw [e] at h
    exact absurd (List.cons.inj h).1 h2
theorem end_star {r r2 : List UInt8} {n : Nat} (he : endR r) (h : r = List.replicate n 42 ++ r2) : n = 0 := by
  cases n with
  | zero => rfl
  | succ n =>
    subst h
    exact absurd rfl he.item
/-- heads that may be, of one kind but 3, are the same -/
theorem ok_zero {h : RH} {ks : List Re} (ho : okT (.mk h ks) = true) (e : h.k ≠ 3) : h.s = S4.zero := by
  simp only [okT, Bool.and_eq_true] at ho
  obtain ⟨H1, _⟩ := ho
  unfold okNode at H1
  have e3 : h.k.toNat ≠ 3 := fun h3 => e (UInt8.toNat_inj.1 (by rw [h3]; rfl))
  split at H1
  · simp at H1; exact H1.2
  · split at H1
    · simp at H1; exact H1.2
    · split at H1
      · simp at H1; exact H1.2
      · cases H1
theorem ok_head {h g : RH} {ks ls : List Re} (h1 : okT (.mk h ks) = true) (h2 : okT (.mk g ls) = true) (e : h.k = g.k) (e3 : h.k ≠ 3) : h = g := by
  have a := ok_zero h1 e3
  have b := ok_zero h2 (by rw [← e]; exact e3)
  obtain ⟨hk, hs⟩ := h
  obtain ⟨gk, gs⟩ := g
  simp only at e a b
  rw [e, a, b]
theorem row_seq_other {n : Nat} (H : Told n) {h : RH} {a b t : Re} (e : h.k = 4) (hs : (T.mk h [a, b]).size + t.size ≤ n) (ho : okT (.mk h [a, b]) = true) (oa : okT a = true) (ob : okT b = true) (ot : okT t = true) (e2 : t.head.k ≠ 4) :
    P2 (.mk h [a, b]) t := by
  intro r1 r2 h1 h2 he
  rw [row_4 e, row_item e2, List.append_assoc] at he
  simp only [T.size, T.sizes] at hs
  exfalso
  rcases (H a t (by omega) oa ot).1 _ _ he with ⟨m, _, h3⟩ | ⟨m, _, h3⟩
  · have := end_star h2 h3
    subst this
    exact row_no ob h2 h3
  · have := row_star ob h3
    subst this
    exact row_no ob h2 h3.symm
theorem row_step {n : Nat} (H : Told n) (t1 t2 : Re) (hs : t1.size + t2.size ≤ n) (h1 : okT t1 = true) (h2 : okT t2 = true) (hp : t1.head.k ≠ 4 → t2.head.k ≠ 4 → P1 t1 t2) : P2 t1 t2 := by
  by_cases e1 : t1.head.k = 4
  · obtain ⟨h, ks⟩ := t1
    have e1' : h.k = 4 := e1
    rcases ok_shape h1 with ⟨x1, rfl⟩ | ⟨x1, rfl⟩ | ⟨x1, rfl, _⟩ | ⟨a, b, x1, rfl, oa, ob⟩ | ⟨a, b, x1, rfl, _, _⟩ | ⟨a, x1, rfl, _⟩
    case inr.inr.inr.inl =>
      by_cases e2 : t2.head.k = 4
      · obtain ⟨g, ls⟩ := t2
        have e2' : g.k = 4 := e2
        rcases ok_shape h2 with ⟨x2, rfl⟩ | ⟨x2, rfl⟩ | ⟨x2, rfl, _⟩ | ⟨c, d, x2, rfl, oc, od⟩ | ⟨c, d, x2, rfl, _, _⟩ | ⟨c, x2, rfl, _⟩
        case inr.inr.inr.inl =>
          intro r1 r2 f1 f2 he
          rw [row_4 x1, row_4 x2, List.append_assoc, List.append_assoc] at he
          simp only [T.size, T.sizes] at hs
          have hh := ok_head h1 h2 (by rw [x1, x2]) (by rw [x1]; decide)
          have main : a = c ∧ rowT b ++ r1 = rowT d ++ r2 := by
            rcases (H a c (by omega) oa oc).1 _ _ he with ⟨m, h3, h4⟩ | ⟨m, h3, h4⟩
            · have := row_star od h4
              subst this
              exact ⟨h3, h4.symm⟩
            · have := row_star ob h4
              subst this
              exact ⟨h3.symm, h4⟩
          obtain ⟨rfl, he2⟩ := main
          obtain ⟨rfl, rfl⟩ := (H b d (by omega) ob od).2.1 _ _ f1 f2 he2
          rw [hh]
          exact ⟨rfl, rfl⟩
        all_goals rw [x2] at e2'; exact absurd e2' (by decide)
      · exact row_seq_other H x1 hs h1 oa ob h2 e2
    all_goals rw [x1] at e1'; exact absurd e1' (by decide)
  · by_cases e2 : t2.head.k = 4
    · obtain ⟨g, ls⟩ := t2
      have e2' : g.k = 4 := e2
      rcases ok_shape h2 with ⟨x2, rfl⟩ | ⟨x2, rfl⟩ | ⟨x2, rfl, _⟩ | ⟨c, d, x2, rfl, oc, od⟩ | ⟨c, d, x2, rfl, _, _⟩ | ⟨c, x2, rfl, _⟩
      case inr.inr.inr.inl => exact (row_seq_other H x2 (by rw [Nat.add_comm]; exact hs) h2 oc od h1 e1).symm
      all_goals rw [x2] at e2'; exact absurd e2' (by decide)
    · intro r1 r2 f1 f2 he
      rw [row_item e1, row_item e2] at he
      rcases hp e1 e2 _ _ he with ⟨m, h3, h4⟩ | ⟨m, h3, h4⟩
      · have := end_star f2 h4
        subst this
        exact ⟨h3, h4.symm⟩
      · have := end_star f1 h4
        subst this
        exact ⟨h3.symm, h4⟩
theorem end_bar (r : List UInt8) : endR (124 :: r) := .inr (.inl rfl)
theorem all_alt_other {n : Nat} (H : Told n) {h : RH} {a b t : Re} (e : h.k = 5) (hs : (T.mk h [a, b]).size + t.size ≤ n) (oa : okT a = true) (ot : okT t = true) (e2 : t.head.k ≠ 5) :
    P3 (.mk h [a, b]) t := by
  intro r1 r2 h1 h2 he
  rw [show_alt e, all_row e2, List.append_assoc] at he
  simp only [T.size, T.sizes] at hs
  obtain ⟨_, h3⟩ := (H a t (by omega) oa ot).2.1 _ _ (end_bar _) h2.row he
  rw [← h3] at h2
  exfalso
  rcases h2 with h2 | h2
  · cases h2
  · simp at h2
theorem all_step {n : Nat} (H : Told n) (t1 t2 : Re) (hs : t1.size + t2.size ≤ n) (h1 : okT t1 = true) (h2 : okT t2 = true) (hp : t1.head.k ≠ 5 → t2.head.k ≠ 5 → P2 t1 t2) : P3 t1 t2 := by
  by_cases e1 : t1.head.k = 5
  · obtain ⟨h, ks⟩ := t1
    have e1' : h.k = 5 := e1
    rcases ok_shape h1 with ⟨x1, rfl⟩ | ⟨x1, rfl⟩ | ⟨x1, rfl, _⟩ | ⟨a, b, x1, rfl, _, _⟩ | ⟨a, b, x1, rfl, oa, ob⟩ | ⟨a, x1, rfl, _⟩
    case inr.inr.inr.inr.inl =>
      by_cases e2 : t2.head.k = 5
      · obtain ⟨g, ls⟩ := t2
        have e2' : g.k = 5 := e2
        rcases ok_shape h2 with ⟨x2, rfl⟩ | ⟨x2, rfl⟩ | ⟨x2, rfl, _⟩ | ⟨c, d, x2, rfl, _, _⟩ | ⟨c, d, x2, rfl, oc, od⟩ | ⟨c, x2, rfl, _⟩
        case inr.inr.inr.inr.inl =>
          intro r1 r2 f1 f2 he
          rw [show_alt x1, show_alt x2, List.append_assoc, List.append_assoc] at he
          simp only [T.size, T.sizes] at hs
          have hh := ok_head h1 h2 (by rw [x1, x2]) (by rw [x1]; decide)
          obtain ⟨rfl, he2⟩ := (H a c (by omega) oa oc).2.1 _ _ (end_bar _) (end_bar _) he
          obtain ⟨rfl, rfl⟩ := (H b d (by omega) ob od).2.2 _ _ f1 f2 (List.cons.inj he2).2
          rw [hh]
          exact ⟨rfl, rfl⟩
        all_goals rw [x2] at e2'; exact absurd e2' (by decide)
      · exact all_alt_other H x1 hs oa h2 e2
    all_goals rw [x1] at e1'; exact absurd e1' (by decide)
  · by_cases e2 : t2.head.k = 5
    · obtain ⟨g, ls⟩ := t2
      have e2' : g.k = 5 := e2
      rcases ok_shape h2 with ⟨x2, rfl⟩ | ⟨x2, rfl⟩ | ⟨x2, rfl, _⟩ | ⟨c, d, x2, rfl, _, _⟩ | ⟨c, d, x2, rfl, oc, od⟩ | ⟨c, x2, rfl, _⟩
      case inr.inr.inr.inr.inl => exact (all_alt_other H x2 (by rw [Nat.add_comm]; exact hs) oc h1 e1).symm
      all_goals rw [x2] at e2'; exact absurd e2' (by decide)
    · intro r1 r2 f1 f2 he
      rw [all_row e1, all_row e2] at he
      exact hp e1 e2 _ _ f1.row f2.row he
theorem text_zero : textS S4.zero = [91, 93] := by decide +kernel
end Go.Proofs.YthagcmpehpgmpaaDoor
