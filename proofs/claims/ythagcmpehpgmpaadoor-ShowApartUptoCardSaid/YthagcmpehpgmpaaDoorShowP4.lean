/- Two expressions that may be have one text just if they are the same: plain. -/
import Derived.Test.YthagcmpehpgmpaaDoorShowP3
namespace Go.Proofs.YthagcmpehpgmpaaDoor
set_option linter.unusedVariables false

/-- what an item that is no star is -/
theorem item_base {h : RH} {ks : List Re} (ho : okT (.mk h ks) = true) (e6 : h.k ≠ 6) :
    (h.k = 1 ∧ ks = [] ∧ itemT (.mk h ks) = [91, 93]) ∨ (h.k = 2 ∧ ks = [] ∧ itemT (.mk h ks) = [40, 41]) ∨ (h.k = 3 ∧ ks = [] ∧ h.s ≠ S4.zero ∧ itemT (.mk h ks) = textS h.s) ∨
    ((h.k = 4 ∨ h.k = 5) ∧ itemT (.mk h ks) = 40 :: (showT (.mk h ks) ++ [41])) := by
  rcases ok_shape ho with ⟨e, rfl⟩ | ⟨e, rfl⟩ | ⟨e, rfl, hz⟩ | ⟨a, b, e, rfl, h1, h2⟩ | ⟨a, b, e, rfl, h1, h2⟩ | ⟨a, e, rfl, h1⟩
  · exact .inl ⟨e, rfl, by simp [itemT, T.head, e, brk, show_1 e]⟩
  · exact .inr (.inl ⟨e, rfl, by simp [itemT, T.head, e, brk, show_2 e]⟩)
  · exact .inr (.inr (.inl ⟨e, rfl, hz, by simp [itemT, T.head, e, brk, show_3 e]⟩))
  · exact .inr (.inr (.inr ⟨.inl e, item_brk (.inl e)⟩))
  · exact .inr (.inr (.inr ⟨.inr e, item_brk (.inr e)⟩))
  · exact absurd e e6
/-- an expression's text does not begin with a closing bracket -/
theorem all_head {t : Re} (ho : okT t = true) : ∃ c r, showT t = c :: r ∧ c ≠ 41 := by
  obtain ⟨h, ks⟩ := t
  by_cases e : h.k = 5
  · rcases ok_shape ho with ⟨x1, rfl⟩ | ⟨x1, rfl⟩ | ⟨x1, rfl, _⟩ | ⟨a, b, x1, rfl, _, _⟩ | ⟨a, b, x1, rfl, oa, ob⟩ | ⟨a, x1, rfl, _⟩
    case inr.inr.inr.inr.inl =>
      obtain ⟨c, q, e1, h1, _⟩ := row_head a.size a (Nat.le_refl _) oa
      exact ⟨c, q ++ (124 :: showT b), by rw [show_alt e, e1]; rfl, h1⟩
    all_goals rw [x1] at e; exact absurd e (by decide)
  · obtain ⟨c, q, e1, h1, _⟩ := row_head _ (.mk h ks) (Nat.le_refl _) ho
    exact ⟨c, q, (all_row (t := .mk h ks) e).trans e1, h1⟩
theorem item_step_base {n : Nat} (H : Told n) (h g : RH) (ks ls : List Re) (h1 : okT (.mk h ks) = true) (h2 : okT (.mk g ls) = true) (e1 : h.k ≠ 6) (e2 : g.k ≠ 6)
    (hp : (h.k = 4 ∨ h.k = 5) → (g.k = 4 ∨ g.k = 5) → P3 (.mk h ks) (.mk g ls)) (r1 r2 : List UInt8) (he : itemT (.mk h ks) ++ r1 = itemT (.mk g ls) ++ r2) : T.mk h ks = T.mk g ls ∧ r1 = r2 := by
  rcases item_base h1 e1 with ⟨x, rfl, i1⟩ | ⟨x, rfl, i1⟩ | ⟨x, rfl, z, i1⟩ | ⟨x, i1⟩ <;>
  rcases item_base h2 e2 with ⟨y, rfl, i2⟩ | ⟨y, rfl, i2⟩ | ⟨y, rfl, z2, i2⟩ | ⟨y, i2⟩ <;> rw [i1, i2] at he
  · rw [ok_head h1 h2 (by rw [x, y]) (by rw [x]; decide)]
    exact ⟨rfl, List.append_cancel_left he⟩
  · exact absurd (List.cons.inj he).1 (by decide)
  · rw [← text_zero] at he
    exact absurd (text_pre he).1.symm z2
  · exact absurd (List.cons.inj he).1 (by decide)
  · exact absurd (List.cons.inj he).1 (by decide)
  · rw [ok_head h1 h2 (by rw [x, y]) (by rw [x]; decide)]
    exact ⟨rfl, List.append_cancel_left he⟩
  · obtain ⟨c, r, h3, h4, _⟩ := text_head g.s
    rw [h3] at he
    exact absurd (List.cons.inj he).1.symm h4
  · obtain ⟨c, r, h3, h4⟩ := all_head h2
    rw [h3] at he
    exact absurd (List.cons.inj (List.cons.inj he).2).1.symm h4
  · rw [← text_zero] at he
    exact absurd (text_pre he).1 z
  · obtain ⟨c, r, h3, h4, _⟩ := text_head h.s
    rw [h3] at he
    exact absurd (List.cons.inj he).1 h4
  · obtain ⟨h3, h4⟩ := text_pre he
    obtain ⟨hk, hs⟩ := h
    obtain ⟨gk, gs⟩ := g
    simp only at x y h3
    rw [x, y, h3]
    exact ⟨rfl, h4⟩
  · obtain ⟨c, r, h3, h4, _⟩ := text_head h.s
    rw [h3] at he
    exact absurd (List.cons.inj he).1 h4
  · exact absurd (List.cons.inj he).1 (by decide)
  · obtain ⟨c, r, h3, h4⟩ := all_head h1
    rw [h3] at he
    exact absurd (List.cons.inj (List.cons.inj he).2).1 h4
  · obtain ⟨c, r, h3, h4, _⟩ := text_head g.s
    rw [h3] at he
    exact absurd (List.cons.inj he).1.symm h4
  · have he2 : (showT (.mk h ks) ++ [41]) ++ r1 = (showT (.mk g ls) ++ [41]) ++ r2 := (List.cons.inj he).2
    rw [List.append_assoc, List.append_assoc] at he2
    obtain ⟨h3, h4⟩ := hp x y _ _ (.inr rfl) (.inr rfl) he2
    exact ⟨h3, (List.cons.inj h4).2⟩
theorem star_of {h : RH} {ks : List Re} (ho : okT (.mk h ks) = true) (e : h.k = 6) : ∃ a, h = ⟨6, S4.zero⟩ ∧ ks = [a] ∧ okT a = true := by
  rcases ok_shape ho with ⟨x1, rfl⟩ | ⟨x1, rfl⟩ | ⟨x1, rfl, _⟩ | ⟨a, b, x1, rfl, _, _⟩ | ⟨a, b, x1, rfl, oa, ob⟩ | ⟨a, x1, rfl, oa⟩
  case inr.inr.inr.inr.inr =>
    have hz := ok_zero ho (by rw [x1]; decide)
    obtain ⟨hk, hs⟩ := h
    simp only at x1 hz
    exact ⟨a, by rw [x1, hz], rfl, oa⟩
  all_goals rw [x1] at e; exact absurd e (by decide)
/-- one star more -/
theorem item_star_step {n : Nat} (H : Told n) (a t : Re) (hs : (T.mk (α := RH) ⟨6, S4.zero⟩ [a]).size + t.size ≤ n) (oa : okT a = true) (ot : okT t = true) : P1 (.mk ⟨6, S4.zero⟩ [a]) t := by
  intro r1 r2 he
  rw [item_star rfl, List.append_assoc] at he
  simp only [T.size, T.sizes] at hs
  have he2 : itemT a ++ (42 :: r1) = itemT t ++ r2 := he
  rcases (H a t (by omega) oa ot).1 _ _ he2 with ⟨m, rfl, h4⟩ | ⟨m, rfl, h4⟩
  · exact .inl ⟨m + 1, rfl, by rw [h4, stars_snoc]⟩
  · cases m with
    | zero => exact .inl ⟨1, rfl, h4.symm⟩
    | succ m => exact .inr ⟨m, (starN_in a m).symm, (List.cons.inj h4).2⟩
theorem item_step {n : Nat} (H : Told n) (t1 t2 : Re) (hs : t1.size + t2.size ≤ n) (h1 : okT t1 = true) (h2 : okT t2 = true) (hp : (t1.head.k = 4 ∨ t1.head.k = 5) → (t2.head.k = 4 ∨ t2.head.k = 5) → P3 t1 t2) : P1 t1 t2 := by
  obtain ⟨h, ks⟩ := t1
  obtain ⟨g, ls⟩ := t2
  by_cases e1 : h.k = 6
  · obtain ⟨a, rfl, rfl, oa⟩ := star_of h1 e1
    exact item_star_step H a _ hs oa h2
  · by_cases e2 : g.k = 6
    · obtain ⟨a, rfl, rfl, oa⟩ := star_of h2 e2
      exact (item_star_step H a _ (by rw [Nat.add_comm]; exact hs) oa h1).symm
    · intro r1 r2 he
      obtain ⟨h3, h4⟩ := item_step_base H h g ks ls h1 h2 e1 e2 hp r1 r2 he
      exact .inl ⟨0, h3, h4.symm⟩
theorem told_all : ∀ n, Told n
  | 0 => fun a b h => by omega
  | n + 1 => fun a b h h1 h2 => by
    have H := told_all n
    have hs : a.size + b.size ≤ n := by omega
    have i3 : (a.head.k = 4 ∨ a.head.k = 5) → (b.head.k = 4 ∨ b.head.k = 5) → P3 a b := fun ka kb => all_step H a b hs h1 h2 fun na nb => row_step H a b hs h1 h2 fun ma mb => by
      rcases ka with ka | ka
      · exact absurd ka ma
      · exact absurd ka na
    have i1 := item_step H a b hs h1 h2 i3
    have i2 := row_step H a b hs h1 h2 fun _ _ => i1
    exact ⟨i1, i2, all_step H a b hs h1 h2 fun _ _ => i2⟩
/-- two expressions that may be have one text just if they are the same -/
theorem show_inj {a b : Re} (h1 : okT a = true) (h2 : okT b = true) (h : showT a = showT b) : a = b := by
  have := (told_all (a.size + b.size + 1) a b (by omega) h1 h2).2.2 [] [] (.inl rfl) (.inl rfl) (by rw [h])
  exact this.1
end Go.Proofs.YthagcmpehpgmpaaDoor
