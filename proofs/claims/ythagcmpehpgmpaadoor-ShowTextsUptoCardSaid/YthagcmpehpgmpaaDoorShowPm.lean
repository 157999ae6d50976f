/- Texts of sets, and what stands behind them: plain. Expressions' texts tell where they end: items, plain. Expressions' texts tell where they end: stars, plain. Two expressions that may be have one text just if they are the same: plain. -/
import Derived.Test.YthagcmpehpgmpaaDoorShow1
import Derived.Test.YthagcmpehpgmpaaDoorText4
namespace Go.Proofs.YthagcmpehpgmpaaDoor
set_option linter.unusedVariables false

theorem sgn_all2 : ∀ n : Fin 256, (signB (UInt8.ofNat n.val)).head? ≠ some 40 ∧ (signB (UInt8.ofNat n.val)).head? ≠ some 41 ∧ (signB (UInt8.ofNat n.val)).head? ≠ some 42 ∧ (signB (UInt8.ofNat n.val)).head? ≠ some 124 := by decide +kernel
/-- a byte that an item may begin with -/
def itemHead (c : UInt8) : Prop := c ≠ 41 ∧ c ≠ 42 ∧ c ≠ 124
theorem sign_head2 (b : UInt8) : ∃ c r, signB b = c :: r ∧ c ≠ 40 ∧ itemHead c := by
  obtain ⟨h1, h2, h3, h4⟩ := sgn_all2 ⟨b.toNat, b.toNat_lt⟩
  simp only [UInt8.ofNat_toNat] at h1 h2 h3 h4
  have h5 := signB_length b
  generalize signB b = l at *
  cases l with
  | nil => simp at h5
  | cons c r => exact ⟨c, r, rfl, by simpa using h1, by simpa using h2, by simpa using h3, by simpa using h4⟩
theorem text_head (s : S4) : ∃ c r, textS s = c :: r ∧ c ≠ 40 ∧ itemHead c := by
  rcases textS_cases s with ⟨_, h⟩ | ⟨x, _, h⟩ | h
  · exact ⟨46, [], h, by decide, by decide, by decide, by decide⟩
  · obtain ⟨c, r, h1, h2, h3⟩ := sign_head2 x
    exact ⟨c, r, h.trans h1, h2, h3⟩
  · exact ⟨91, _, h, by decide, by decide, by decide, by decide⟩
/-- a set's text tells where it ends -/
theorem text_pre {s t : S4} {r1 r2 : List UInt8} (h : textS s ++ r1 = textS t ++ r2) : s = t ∧ r1 = r2 := by
  have key : s = t := by
    rcases textS_cases s with ⟨e1, h1⟩ | ⟨x, e1, h1⟩ | h1 <;> rcases textS_cases t with ⟨e2, h2⟩ | ⟨y, e2, h2⟩ | h2 <;> rw [h1, h2] at h
    · rw [e1, e2]
    · obtain ⟨c, r, hs, _, _, _, h46⟩ := sign_head y
      rw [hs] at h
      exact absurd (List.cons.inj h).1.symm h46
    · exact absurd (List.cons.inj h).1 (by decide)
    · obtain ⟨c, r, hs, _, _, _, h46⟩ := sign_head x
      rw [hs] at h
      exact absurd (List.cons.inj h).1 h46
    · have hx := sgn_sign x r1
      have hy := sgn_sign y r2
      rw [h, hy] at hx
      have : y = x := by
        have := Option.some.inj hx
        exact (Prod.mk.inj this).1
      exact bytesOf_inj (by rw [e1, e2, this])
    · obtain ⟨c, r, hs, _, _, h91, _⟩ := sign_head x
      rw [hs] at h
      exact absurd (List.cons.inj h).1 h91
    · exact absurd (List.cons.inj h).1.symm (by decide)
    · obtain ⟨c, r, hs, _, _, h91, _⟩ := sign_head y
      rw [hs] at h
      exact absurd (List.cons.inj h).1.symm h91
    · have h3 : (txt s 0 ++ [93]) ++ r1 = (txt t 0 ++ [93]) ++ r2 := (List.cons.inj h).2
      rw [List.append_assoc, List.append_assoc] at h3
      have a := items_txt s r1 256 0 257 (by omega) (by omega)
      have b := items_txt t r2 256 0 257 (by omega) (by omega)
      have h4 : txt s 0 ++ 93 :: r1 = txt t 0 ++ 93 :: r2 := h3
      rw [h4, b] at a
      exact (memb_inj a).symm
  subst key
  exact ⟨rfl, List.append_cancel_left h⟩
end Go.Proofs.YthagcmpehpgmpaaDoor
namespace Go.Proofs.YthagcmpehpgmpaaDoor
set_option linter.unusedVariables false

/-- an expression's text among others behind one another; as a row among alternatives -/
def itemT (t : Re) : List UInt8 := brk (t.head.k == 4 || t.head.k == 5) (showT t)
def rowT (t : Re) : List UInt8 := brk (t.head.k == 5) (showT t)
/-- what may stand behind an item; behind a row; behind all -/
def endI (r : List UInt8) : Prop := r.head? ≠ some 42
def endR (r : List UInt8) : Prop := r = [] ∨ r.head? = some 124 ∨ r.head? = some 41
def endA (r : List UInt8) : Prop := r = [] ∨ r.head? = some 41
theorem endA.row {r : List UInt8} (h : endA r) : endR r := h.elim .inl fun h => .inr (.inr h)
theorem endR.item {r : List UInt8} (h : endR r) : endI r := by
  rcases h with rfl | h | h
  · simp [endI]
  · rw [endI, h]; decide
  · rw [endI, h]; decide
theorem show_seq {h : RH} {a b : Re} (e : h.k = 4) : showT (.mk h [a, b]) = itemT a ++ rowT b := show_4 e
theorem show_alt {h : RH} {a b : Re} (e : h.k = 5) : showT (.mk h [a, b]) = rowT a ++ (124 :: showT b) := show_5 e
theorem show_star {h : RH} {a : Re} (e : h.k = 6) : showT (.mk h [a]) = itemT a ++ [42] := show_6 e
/-- an item begins with a byte that ends none -/
theorem item_head (n : Nat) : ∀ t : Re, t.size ≤ n → okT t = true → ∃ c r, itemT t = c :: r ∧ itemHead c := by
  induction n with
  | zero => intro t hn; have := t.size_pos; omega
  | succ n ih =>
    intro t hn ho
    obtain ⟨h, ks⟩ := t
    rcases ok_shape ho with ⟨e, rfl⟩ | ⟨e, rfl⟩ | ⟨e, rfl, _⟩ | ⟨a, b, e, rfl, h1, h2⟩ | ⟨a, b, e, rfl, h1, h2⟩ | ⟨a, e, rfl, h1⟩
    · exact ⟨91, [93], by simp [itemT, T.head, e, brk, show_1 e], by decide, by decide, by decide⟩
    · exact ⟨40, [41], by simp [itemT, T.head, e, brk, show_2 e], by decide, by decide, by decide⟩
    · obtain ⟨c, r, h1, _, h2⟩ := text_head h.s
      exact ⟨c, r, by simp [itemT, T.head, e, brk, show_3 e, h1], h2⟩
    · exact ⟨40, _, by simp [itemT, T.head, e, brk]; rfl, by decide, by decide, by decide⟩
    · exact ⟨40, _, by simp [itemT, T.head, e, brk]; rfl, by decide, by decide, by decide⟩
    · simp only [T.size, T.sizes] at hn
      obtain ⟨c, r, h2, h3⟩ := ih a (by omega) h1
      have e2 : itemT (.mk h [a]) = itemT a ++ [42] := by
        rw [← show_star e]
        simp [itemT, T.head, e, brk]
      exact ⟨c, r ++ [42], by rw [e2, h2]; rfl, h3⟩
end Go.Proofs.YthagcmpehpgmpaaDoor
namespace Go.Proofs.YthagcmpehpgmpaaDoor
set_option linter.unusedVariables false

/-- with so many stars -/
def starN : Nat → Re → Re
  | 0, t => t
  | n + 1, t => .mk ⟨6, S4.zero⟩ [starN n t]
theorem starN_in (t : Re) : ∀ n, starN n (.mk ⟨6, S4.zero⟩ [t]) = starN (n + 1) t
  | 0 => rfl
  | n + 1 => by
    show T.mk (α := RH) ⟨6, S4.zero⟩ [starN n (.mk ⟨6, S4.zero⟩ [t])] = T.mk (α := RH) ⟨6, S4.zero⟩ [starN (n + 1) t]
    rw [starN_in t n]
theorem stars_snoc (n : Nat) (r : List UInt8) : List.replicate n (42 : UInt8) ++ (42 :: r) = List.replicate (n + 1) 42 ++ r := by
  rw [List.replicate_succ', List.append_assoc]; rfl
theorem item_star {h : RH} {a : Re} (e : h.k = 6) : itemT (.mk h [a]) = itemT a ++ [42] := by
  rw [← show_star e]
  simp [itemT, T.head, e, brk]
theorem item_brk {t : Re} (e : t.head.k = 4 ∨ t.head.k = 5) : itemT t = 40 :: (showT t ++ [41]) := by
  rcases e with e | e <;> simp [itemT, e, brk]
/-- what P1, P2, P3 say: an item tells where it ends but for stars; a row, an alternative tell where they end -/
def P1 (a b : Re) : Prop := ∀ r1 r2, itemT a ++ r1 = itemT b ++ r2 → (∃ n, a = starN n b ∧ r2 = List.replicate n 42 ++ r1) ∨ (∃ n, b = starN n a ∧ r1 = List.replicate n 42 ++ r2)
def P2 (a b : Re) : Prop := ∀ r1 r2, endR r1 → endR r2 → rowT a ++ r1 = rowT b ++ r2 → a = b ∧ r1 = r2
def P3 (a b : Re) : Prop := ∀ r1 r2, endA r1 → endA r2 → showT a ++ r1 = showT b ++ r2 → a = b ∧ r1 = r2
theorem P1.symm {a b : Re} (h : P1 a b) : P1 b a := fun r1 r2 e => (h r2 r1 e.symm).symm
theorem P2.symm {a b : Re} (h : P2 a b) : P2 b a := fun r1 r2 e1 e2 e => let ⟨x, y⟩ := h r2 r1 e2 e1 e.symm; ⟨x.symm, y.symm⟩
theorem P3.symm {a b : Re} (h : P3 a b) : P3 b a := fun r1 r2 e1 e2 e => let ⟨x, y⟩ := h r2 r1 e2 e1 e.symm; ⟨x.symm, y.symm⟩
/-- smaller ones are told -/
def Told (n : Nat) : Prop := ∀ a b : Re, a.size + b.size < n → okT a = true → okT b = true → P1 a b ∧ P2 a b ∧ P3 a b
theorem rep_pos {n : Nat} (h : n ≠ 0) (r : List UInt8) : (List.replicate n (42 : UInt8) ++ r).head? = some 42 := by
  cases n with
  | zero => exact absurd rfl h
  | succ n => rfl
theorem row_4 {h : RH} {a b : Re} (e : h.k = 4) : rowT (.mk h [a, b]) = itemT a ++ rowT b := by
  rw [← show_seq e]; simp [rowT, T.head, e, brk]
theorem row_5 {h : RH} {ks : List Re} (e : h.k = 5) : rowT (.mk h ks) = itemT (.mk h ks) := by
  simp [rowT, itemT, T.head, e, brk]
theorem row_item {t : Re} (e : t.head.k ≠ 4) : rowT t = itemT t := by
  have h4 : (t.head.k == 4) = false := by simpa using e
  rw [rowT, itemT, h4, Bool.false_or]
theorem all_row {t : Re} (e : t.head.k ≠ 5) : showT t = rowT t := by
  simp [rowT, brk, e]
/-- a row begins as an item does -/
theorem row_head (n : Nat) : ∀ t : Re, t.size ≤ n → okT t = true → ∃ c r, rowT t = c :: r ∧ itemHead c := by
  intro t hn ho
  by_cases e : t.head.k = 4
  · obtain ⟨h, ks⟩ := t
    have e' : h.k = 4 := e
    rcases ok_shape ho with ⟨e1, rfl⟩ | ⟨e1, rfl⟩ | ⟨e1, rfl, _⟩ | ⟨a, b, e1, rfl, h1, h2⟩ | ⟨a, b, e1, rfl, h1, h2⟩ | ⟨a, e1, rfl, h1⟩
    case inr.inr.inr.inl =>
      obtain ⟨c, r, h3, h4⟩ := item_head a.size a (Nat.le_refl _) h1
      exact ⟨c, r ++ rowT b, by rw [row_4 e1, h3]; rfl, h4⟩
    all_goals rw [e1] at e'; exact absurd e' (by decide)
  · rw [row_item e]
    exact item_head n t hn ho
theorem row_no {t : Re} {r r2 : List UInt8} (ho : okT t = true) (h : endR r2) : r2 ≠ rowT t ++ r := by
  obtain ⟨c, q, e, h1, h2, h3⟩ := row_head t.size t (Nat.le_refl _) ho
  rw [e]
  rintro rfl
  rcases h with h | h | h
  · cases h
  · exact h3 (by simpa using h)
  · exact h1 (by simpa using h)
theorem row_star {t : Re} {r r2 : List UInt8} {n : Nat} (ho : okT t = true) (h : rowT t ++ r = List.replicate n 42 ++ r2) : n = 0 := by
  obtain ⟨c, q, e, h1, h2, h3⟩ := row_head t.size t (Nat.le_refl _) ho
  cases n with
  | zero => rfl
  | succ n =>
    rw [e] at h
    exact absurd (List.cons.inj h).1 h2
theorem end_star {r r2 : List UInt8} {n : Nat} (he : endR r) (h : r = List.replicate n 42 ++ r2) : n = 0 := by
  cases n with
  | zero => rfl
  | succ n =>
    subst h
    exact absurd rfl he.item
/-- heads that may be, of one kind but 3, are the same -/
theorem ok_zero {h : RH} {ks : List Re} (ho : okT (.mk h ks) = true) (e : h.k ≠ 3) : h.s = S4.zero := by
  simp only [okT, Bool.and_eq_true] at ho
  obtain ⟨H1, _⟩ := ho
  unfold okNode at H1
  have e3 : h.k.toNat ≠ 3 := fun h3 => e (UInt8.toNat_inj.1 (by rw [h3]; rfl))
  split at H1
  · simp at H1; exact H1.2
  · split at H1
    · simp at H1; exact H1.2
    · split at H1
      · simp at H1; exact H1.2
      · cases H1
theorem ok_head {h g : RH} {ks ls : List Re} (h1 : okT (.mk h ks) = true) (h2 : okT (.mk g ls) = true) (e : h.k = g.k) (e3 : h.k ≠ 3) : h = g := by
  have a := ok_zero h1 e3
  have b := ok_zero h2 (by rw [← e]; exact e3)
  obtain ⟨hk, hs⟩ := h
  obtain ⟨gk, gs⟩ := g
  simp only at e a b
  rw [e, a, b]
theorem row_seq_other {n : Nat} (H : Told n) {h : RH} {a b t : Re} (e : h.k = 4) (hs : (T.mk h [a, b]).size + t.size ≤ n) (ho : okT (.mk h [a, b]) = true) (oa : okT a = true) (ob : okT b = true) (ot : okT t = true) (e2 : t.head.k ≠ 4) :
    P2 (.mk h [a, b]) t := by
  intro r1 r2 h1 h2 he
  rw [row_4 e, row_item e2, List.append_assoc] at he
  simp only [T.size, T.sizes] at hs
  exfalso
  rcases (H a t (by omega) oa ot).1 _ _ he with ⟨m, _, h3⟩ | ⟨m, _, h3⟩
  · have := end_star h2 h3
    subst this
    exact row_no ob h2 h3
  · have := row_star ob h3
    subst this
    exact row_no ob h2 h3.symm
theorem row_step {n : Nat} (H : Told n) (t1 t2 : Re) (hs : t1.size + t2.size ≤ n) (h1 : okT t1 = true) (h2 : okT t2 = true) (hp : t1.head.k ≠ 4 → t2.head.k ≠ 4 → P1 t1 t2) : P2 t1 t2 := by
  by_cases e1 : t1.head.k = 4
  · obtain ⟨h, ks⟩ := t1
    have e1' : h.k = 4 := e1
    rcases ok_shape h1 with ⟨x1, rfl⟩ | ⟨x1, rfl⟩ | ⟨x1, rfl, _⟩ | ⟨a, b, x1, rfl, oa, ob⟩ | ⟨a, b, x1, rfl, _, _⟩ | ⟨a, x1, rfl, _⟩
    case inr.inr.inr.inl =>
      by_cases e2 : t2.head.k = 4
      · obtain ⟨g, ls⟩ := t2
        have e2' : g.k = 4 := e2
        rcases ok_shape h2 with ⟨x2, rfl⟩ | ⟨x2, rfl⟩ | ⟨x2, rfl, _⟩ | ⟨c, d, x2, rfl, oc, od⟩ | ⟨c, d, x2, rfl, _, _⟩ | ⟨c, x2, rfl, _⟩
        case inr.inr.inr.inl =>
          intro r1 r2 f1 f2 he
          rw [row_4 x1, row_4 x2, List.append_assoc, List.append_assoc] at he
          simp only [T.size, T.sizes] at hs
          have hh := ok_head h1 h2 (by rw [x1, x2]) (by rw [x1]; decide)
          have main : a = c ∧ rowT b ++ r1 = rowT d ++ r2 := by
            rcases (H a c (by omega) oa oc).1 _ _ he with ⟨m, h3, h4⟩ | ⟨m, h3, h4⟩
            · have := row_star od h4
              subst this
              exact ⟨h3, h4.symm⟩
            · have := row_star ob h4
              subst this
              exact ⟨h3.symm, h4⟩
          obtain ⟨rfl, he2⟩ := main
          obtain ⟨rfl, rfl⟩ := (H b d (by omega) ob od).2.1 _ _ f1 f2 he2
          rw [hh]
          exact ⟨rfl, rfl⟩
        all_goals rw [x2] at e2'; exact absurd e2' (by decide)
      · exact row_seq_other H x1 hs h1 oa ob h2 e2
    all_goals rw [x1] at e1'; exact absurd e1' (by decide)
  · by_cases e2 : t2.head.k = 4
    · obtain ⟨g, ls⟩ := t2
      have e2' : g.k = 4 := e2
      rcases ok_shape h2 with ⟨x2, rfl⟩ | ⟨x2, rfl⟩ | ⟨x2, rfl, _⟩ | ⟨c, d, x2, rfl, oc, od⟩ | ⟨c, d, x2, rfl, _, _⟩ | ⟨c, x2, rfl, _⟩
      case inr.inr.inr.inl => exact (row_seq_other H x2 (by rw [Nat.add_comm]; exact hs) h2 oc od h1 e1).symm
      all_goals rw [x2] at e2'; exact absurd e2' (by decide)
    · intro r1 r2 f1 f2 he
      rw [row_item e1, row_item e2] at he
      rcases hp e1 e2 _ _ he with ⟨m, h3, h4⟩ | ⟨m, h3, h4⟩
      · have := end_star f2 h4
        subst this
        exact ⟨h3, h4.symm⟩
      · have := end_star f1 h4
        subst this
        exact ⟨h3.symm, h4⟩
theorem end_bar (r : List UInt8) : endR (124 :: r) := .inr (.inl rfl)
theorem all_alt_other {n : Nat} (H : Told n) {h : RH} {a b t : Re} (e : h.k = 5) (hs : (T.mk h [a, b]).size + t.size ≤ n) (oa : okT a = true) (ot : okT t = true) (e2 : t.head.k ≠ 5) :
    P3 (.mk h [a, b]) t := by
  intro r1 r2 h1 h2 he
  rw [show_alt e, all_row e2, List.append_assoc] at he
  simp only [T.size, T.sizes] at hs
  obtain ⟨_, h3⟩ := (H a t (by omega) oa ot).2.1 _ _ (end_bar _) h2.row he
  rw [← h3] at h2
  exfalso
  rcases h2 with h2 | h2
  · cases h2
  · simp at h2
theorem all_step {n : Nat} (H : Told n) (t1 t2 : Re) (hs : t1.size + t2.size ≤ n) (h1 : okT t1 = true) (h2 : okT t2 = true) (hp : t1.head.k ≠ 5 → t2.head.k ≠ 5 → P2 t1 t2) : P3 t1 t2 := by
  by_cases e1 : t1.head.k = 5
  · obtain ⟨h, ks⟩ := t1
    have e1' : h.k = 5 := e1
    rcases ok_shape h1 with ⟨x1, rfl⟩ | ⟨x1, rfl⟩ | ⟨x1, rfl, _⟩ | ⟨a, b, x1, rfl, _, _⟩ | ⟨a, b, x1, rfl, oa, ob⟩ | ⟨a, x1, rfl, _⟩
    case inr.inr.inr.inr.inl =>
      by_cases e2 : t2.head.k = 5
      · obtain ⟨g, ls⟩ := t2
        have e2' : g.k = 5 := e2
        rcases ok_shape h2 with ⟨x2, rfl⟩ | ⟨x2, rfl⟩ | ⟨x2, rfl, _⟩ | ⟨c, d, x2, rfl, _, _⟩ | ⟨c, d, x2, rfl, oc, od⟩ | ⟨c, x2, rfl, _⟩
        case inr.inr.inr.inr.inl =>
          intro r1 r2 f1 f2 he
          rw [show_alt x1, show_alt x2, List.append_assoc, List.append_assoc] at he
          simp only [T.size, T.sizes] at hs
          have hh := ok_head h1 h2 (by rw [x1, x2]) (by rw [x1]; decide)
          obtain ⟨rfl, he2⟩ := (H a c (by omega) oa oc).2.1 _ _ (end_bar _) (end_bar _) he
          obtain ⟨rfl, rfl⟩ := (H b d (by omega) ob od).2.2 _ _ f1 f2 (List.cons.inj he2).2
          rw [hh]
          exact ⟨rfl, rfl⟩
        all_goals rw [x2] at e2'; exact absurd e2' (by decide)
      · exact all_alt_other H x1 hs oa h2 e2
    all_goals rw [x1] at e1'; exact absurd e1' (by decide)
  · by_cases e2 : t2.head.k = 5
    · obtain ⟨g, ls⟩ := t2
      have e2' : g.k = 5 := e2
      rcases ok_shape h2 with ⟨x2, rfl⟩ | ⟨x2, rfl⟩ | ⟨x2, rfl, _⟩ | ⟨c, d, x2, rfl, _, _⟩ | ⟨c, d, x2, rfl, oc, od⟩ | ⟨c, x2, rfl, _⟩
      case inr.inr.inr.inr.inl => exact (all_alt_other H x2 (by rw [Nat.add_comm]; exact hs) oc h1 e1).symm
      all_goals rw [x2] at e2'; exact absurd e2' (by decide)
    · intro r1 r2 f1 f2 he
      rw [all_row e1, all_row e2] at he
      exact hp e1 e2 _ _ f1.row f2.row he
theorem text_zero : textS S4.zero = [91, 93] := by decide +kernel
end Go.Proofs.YthagcmpehpgmpaaDoor
namespace Go.Proofs.YthagcmpehpgmpaaDoor
set_option linter.unusedVariables false

/-- what an item that is no star is -/
theorem item_base {h : RH} {ks : List Re} (ho : okT (.mk h ks) = true) (e6 : h.k ≠ 6) :
    (h.k = 1 ∧ ks = [] ∧ itemT (.mk h ks) = [91, 93]) ∨ (h.k = 2 ∧ ks = [] ∧ itemT (.mk h ks) = [40, 41]) ∨ (h.k = 3 ∧ ks = [] ∧ h.s ≠ S4.zero ∧ itemT (.mk h ks) = textS h.s) ∨
    ((h.k = 4 ∨ h.k = 5) ∧ itemT (.mk h ks) = 40 :: (showT (.mk h ks) ++ [41])) := by
  rcases ok_shape ho with ⟨e, rfl⟩ | ⟨e, rfl⟩ | ⟨e, rfl, hz⟩ | ⟨a, b, e, rfl, h1, h2⟩ | ⟨a, b, e, rfl, h1, h2⟩ | ⟨a, e, rfl, h1⟩
  · exact .inl ⟨e, rfl, by simp [itemT, T.head, e, brk, show_1 e]⟩
  · exact .inr (.inl ⟨e, rfl, by simp [itemT, T.head, e, brk, show_2 e]⟩)
  · exact .inr (.inr (.inl ⟨e, rfl, hz, by simp [itemT, T.head, e, brk, show_3 e]⟩))
  · exact .inr (.inr (.inr ⟨.inl e, item_brk (.inl e)⟩))
  · exact .inr (.inr (.inr ⟨.inr e, item_brk (.inr e)⟩))
  · exact absurd e e6
/-- an expression's text does not begin with a closing bracket -/
theorem all_head {t : Re} (ho : okT t = true) : ∃ c r, showT t = c :: r ∧ c ≠ 41 := by
  obtain ⟨h, ks⟩ := t
  by_cases e : h.k = 5
  · rcases ok_shape ho with ⟨x1, rfl⟩ | ⟨x1, rfl⟩ | ⟨x1, rfl, _⟩ | ⟨a, b, x1, rfl, _, _⟩ | ⟨a, b, x1, rfl, oa, ob⟩ | ⟨a, x1, rfl, _⟩
    case inr.inr.inr.inr.inl =>
      obtain ⟨c, q, e1, h1, _⟩ := row_head a.size a (Nat.le_refl _) oa
      exact ⟨c, q ++ (124 :: showT b), by rw [show_alt e, e1]; rfl, h1⟩
    all_goals rw [x1] at e; exact absurd e (by decide)
  · obtain ⟨c, q, e1, h1, _⟩ := row_head _ (.mk h ks) (Nat.le_refl _) ho
    exact ⟨c, q, (all_row (t := .mk h ks) e).trans e1, h1⟩
theorem item_step_base {n : Nat} (H : Told n) (h g : RH) (ks ls : List Re) (h1 : okT (.mk h ks) = true) (h2 : okT (.mk g ls) = true) (e1 : h.k ≠ 6) (e2 : g.k ≠ 6)
    (hp : (h.k = 4 ∨ h.k = 5) → (g.k = 4 ∨ g.k = 5) → P3 (.mk h ks) (.mk g ls)) (r1 r2 : List UInt8) (he : itemT (.mk h ks) ++ r1 = itemT (.mk g ls) ++ r2) : T.mk h ks = T.mk g ls ∧ r1 = r2 := by
  rcases item_base h1 e1 with ⟨x, rfl, i1⟩ | ⟨x, rfl, i1⟩ | ⟨x, rfl, z, i1⟩ | ⟨x, i1⟩ <;>
  rcases item_base h2 e2 with ⟨y, rfl, i2⟩ | ⟨y, rfl, i2⟩ | ⟨y, rfl, z2, i2⟩ | ⟨y, i2⟩ <;> rw [i1, i2] at he
  · rw [ok_head h1 h2 (by rw [x, y]) (by rw [x]; decide)]
    exact ⟨rfl, List.append_cancel_left he⟩
  · exact absurd (List.cons.inj he).1 (by decide)
  · rw [← text_zero] at he
    exact absurd (text_pre he).1.symm z2
  · exact absurd (List.cons.inj he).1 (by decide)
  · exact absurd (List.cons.inj he).1 (by decide)
  · rw [ok_head h1 h2 (by rw [x, y]) (by rw [x]; decide)]
    exact ⟨rfl, List.append_cancel_left he⟩
  · obtain ⟨c, r, h3, h4, _⟩ := text_head g.s
    rw [h3] at he
    exact absurd (List.cons.inj he).1.symm h4
  · obtain ⟨c, r, h3, h4⟩ := all_head h2
    rw [h3] at he
    exact absurd (List.cons.inj (List.cons.inj he).2).1.symm h4
  · rw [← text_zero] at he
    exact absurd (text_pre he).1 z
  · obtain ⟨c, r, h3, h4, _⟩ := text_head h.s
    rw [h3] at he
    exact absurd (List.cons.inj he).1 h4
  · obtain ⟨h3, h4⟩ := text_pre he
    obtain ⟨hk, hs⟩ := h
    obtain ⟨gk, gs⟩ := g
    simp only at x y h3
    rw [x, y, h3]
    exact ⟨rfl, h4⟩
  · obtain ⟨c, r, h3, h4, _⟩ := text_head h.s
    rw [h3] at he
    exact absurd (List.cons.inj he).1 h4
  · exact absurd (List.cons.inj he).1 (by decide)
  · obtain ⟨c, r, h3, h4⟩ := all_head h1
    rw [h3] at he
    exact absurd (List.cons.inj (List.cons.inj he).2).1 h4
  · obtain ⟨c, r, h3, h4, _⟩ := text_head g.s
    rw [h3] at he
    exact absurd (List.cons.inj he).1.symm h4
  · have he2 : (showT (.mk h ks) ++ [41]) ++ r1 = (showT (.mk g ls) ++ [41]) ++ r2 := (List.cons.inj he).2
    rw [List.append_assoc, List.append_assoc] at he2
    obtain ⟨h3, h4⟩ := hp x y _ _ (.inr rfl) (.inr rfl) he2
    exact ⟨h3, (List.cons.inj h4).2⟩
theorem star_of {h : RH} {ks : List Re} (ho : okT (.mk h ks) = true) (e : h.k = 6) : ∃ a, h = ⟨6, S4.zero⟩ ∧ ks = [a] ∧ okT a = true := by
  rcases ok_shape ho with ⟨x1, rfl⟩ | ⟨x1, rfl⟩ | ⟨x1, rfl, _⟩ | ⟨a, b, x1, rfl, _, _⟩ | ⟨a, b, x1, rfl, oa, ob⟩ | ⟨a, x1, rfl, oa⟩
  case inr.inr.inr.inr.inr =>
    have hz := ok_zero ho (by rw [x1]; decide)
    obtain ⟨hk, hs⟩ := h
    simp only at x1 hz
    exact ⟨a, by rw [x1, hz], rfl, oa⟩
  all_goals rw [x1] at e; exact absurd e (by decide)
/-- one star more -/
theorem item_star_step {n : Nat} (H : Told n) (a t : Re) (hs : (T.mk (α := RH) ⟨6, S4.zero⟩ [a]).size + t.size ≤ n) (oa : okT a = true) (ot : okT t = true) : P1 (.mk ⟨6, S4.zero⟩ [a]) t := by
  intro r1 r2 he
  rw [item_star rfl, List.append_assoc] at he
  simp only [T.size, T.sizes] at hs
  have he2 : itemT a ++ (42 :: r1) = itemT t ++ r2 := he
  rcases (H a t (by omega) oa ot).1 _ _ he2 with ⟨m, rfl, h4⟩ | ⟨m, rfl, h4⟩
  · exact .inl ⟨m + 1, rfl, by rw [h4, stars_snoc]⟩
  · cases m with
    | zero => exact .inl ⟨1, rfl, h4.symm⟩
    | succ m => exact .inr ⟨m, (starN_in a m).symm, (List.cons.inj h4).2⟩
theorem item_step {n : Nat} (H : Told n) (t1 t2 : Re) (hs : t1.size + t2.size ≤ n) (h1 : okT t1 = true) (h2 : okT t2 = true) (hp : (t1.head.k = 4 ∨ t1.head.k = 5) → (t2.head.k = 4 ∨ t2.head.k = 5) → P3 t1 t2) : P1 t1 t2 := by
  obtain ⟨h, ks⟩ := t1
  obtain ⟨g, ls⟩ := t2
  by_cases e1 : h.k = 6
  · obtain ⟨a, rfl, rfl, oa⟩ := star_of h1 e1
    exact item_star_step H a _ hs oa h2
  · by_cases e2 : g.k = 6
    · obtain ⟨a, rfl, rfl, oa⟩ := star_of h2 e2
      exact (item_star_step H a _ (by rw [Nat.add_comm]; exact hs) oa h1).symm
    · intro r1 r2 he
      obtain ⟨h3, h4⟩ := item_step_base H h g ks ls h1 h2 e1 e2 hp r1 r2 he
      exact .inl ⟨0, h3, h4.symm⟩
theorem told_all : ∀ n, Told n
  | 0 => fun a b h => by omega
  | n + 1 => fun a b h h1 h2 => by
    have H := told_all n
    have hs : a.size + b.size ≤ n := by omega
    have i3 : (a.head.k = 4 ∨ a.head.k = 5) → (b.head.k = 4 ∨ b.head.k = 5) → P3 a b := fun ka kb => all_step H a b hs h1 h2 fun na nb => row_step H a b hs h1 h2 fun ma mb => by
      rcases ka with ka | ka
      · exact absurd ka ma
      · exact absurd ka na
    have i1 := item_step H a b hs h1 h2 i3
    have i2 := row_step H a b hs h1 h2 fun _ _ => i1
    exact ⟨i1, i2, all_step H a b hs h1 h2 fun _ _ => i2⟩
/-- two expressions that may be have one text just if they are the same -/
theorem show_inj {a b : Re} (h1 : okT a = true) (h2 : okT b = true) (h : showT a = showT b) : a = b := by
  have := (told_all (a.size + b.size + 1) a b (by omega) h1 h2).2.2 [] [] (.inl rfl) (.inl rfl) (by rw [h])
  exact this.1
end Go.Proofs.YthagcmpehpgmpaaDoor
