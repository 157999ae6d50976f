/- Values' texts; whether a value is one of an expression (plain). -/
import Derived.Test.YteokbmngebckjaaBv
import Derived.Test.YteokbmngebckjaaBx
import Derived.Test.YteokbmngebckjaaBb
import Derived.Lib.Join
namespace Go.Proofs.Yteokbmngebckjaa
open Go.RowKit
set_option linter.unusedVariables false
set_option linter.unusedSimpArgs false

/-- has a kind so many kids? -/
def kidsB (k : UInt8) (n : Nat) : Bool := if k = 1 ∨ k = 2 then decide (n = 0) else if k = 3 then decide (n = 2) else if k = 4 ∨ k = 5 then decide (n = 1) else decide (k = 6)
def textVK (h : VH) (l : List (List UInt8)) : List UInt8 :=
  if kidsB h.k l.length = true then
    if h.k = 1 then [40, 41] else if h.k = 2 then signB h.b else if h.k = 3 then 40 :: (Lib.join l [44] ++ [41]) else if h.k = 4 then 76 :: Lib.join l [44] else if h.k = 5 then 82 :: Lib.join l [44] else 91 :: (Lib.join l [44] ++ [93])
  else [63]
mutual
def textV : Va → List UInt8
  | .mk h ks => textVK h (textVs ks)
def textVs : List Va → List (List UInt8)
  | [] => []
  | t :: ts => textV t :: textVs ts
end
theorem textVs_map : ∀ ts : List Va, textVs ts = ts.map textV
  | [] => rfl
  | t :: ts => by simp only [textVs, List.map_cons, textVs_map ts]
theorem textVs_length (ks : List Va) : (textVs ks).length = ks.length := by rw [textVs_map, List.length_map]
theorem textVs_take {ks : List Va} {k : Nat} {t : Va} (h : ks[k]? = some t) : textVs (ks.take (k + 1)) = textVs (ks.take k) ++ [textV t] := by
  rw [textVs_map, textVs_map, List.take_add_one, h]
  simp
def lensV (l : List (List UInt8)) : Nat := (l.map List.length).sum
theorem joinV_le : ∀ (l : List (List UInt8)), (Lib.join l [44]).length ≤ lensV l + l.length
  | [] => by simp [Lib.join, List.intercalate]
  | [x] => by simp [Lib.join, List.intercalate, lensV]
  | x :: y :: l => by
    have ih := joinV_le (y :: l)
    have e : Lib.join (x :: y :: l) [44] = x ++ ([44] ++ Lib.join (y :: l) [44]) := by simp [Lib.join, List.intercalate, List.intersperse]
    rw [e]
    simp only [List.length_append, lensV, List.map_cons, List.sum_cons, List.length_cons, List.length_nil] at ih ⊢
    omega
theorem textVK_le (h : VH) (l : List (List UInt8)) : (textVK h l).length ≤ lensV l + l.length + 3 := by
  have j := joinV_le l
  have s := (signB_length h.b).2
  unfold textVK
  split
  · split
    · simp
    · split
      · omega
      · split
        · simp; omega
        · split
          · simp; omega
          · split
            · simp; omega
            · simp; omega
  · simp
theorem lensV_le (n : Nat) (ih : ∀ t : Va, t.size ≤ n → (textV t).length + 1 ≤ 4 * t.size) : ∀ l : List Va, T.sizes l ≤ n → lensV (textVs l) + (textVs l).length ≤ 4 * T.sizes l
  | [], _ => by simp [textVs, lensV, T.sizes]
  | t :: l, h => by
    simp only [T.sizes] at h
    have h1 := ih t (by omega)
    have h2 := lensV_le n ih l (by omega)
    simp only [textVs, lensV, List.map_cons, List.sum_cons, List.length_cons, T.sizes] at h2 ⊢
    omega
theorem textV_le (n : Nat) : ∀ t : Va, t.size ≤ n → (textV t).length + 1 ≤ 4 * t.size := by
  induction n with
  | zero => intro t hn; have := t.size_pos; omega
  | succ n ih =>
    intro t hn
    obtain ⟨h, ks⟩ := t
    simp only [T.size] at hn
    have h1 := lensV_le n ih ks (by omega)
    have h2 := textVK_le h (textVs ks)
    simp only [textV, T.size]
    omega
theorem joinVs_le (ks : List Va) : (Lib.join (textVs ks) [44]).length ≤ 4 * T.sizes ks := by
  have h1 := lensV_le (T.sizes ks) (fun t h => textV_le t.size t (Nat.le_refl _)) ks (Nat.le_refl _)
  have h2 := joinV_le (textVs ks)
  omega

/-- is a value one of an expression? of its kids' answers -/
def isHd (h : VH) (n : Nat) : Bool := (decide (h.k = 2) || decide (h.b = 0)) && kidsB h.k n
def isBody (h : VH) (fs : List (Re → Bool)) (r : Re) : Bool :=
  if h.k = 1 then decide (r.head.k = 2)
  else if h.k = 2 then decide (r.head.k = 3) && r.head.s.has h.b.toNat
  else if h.k = 3 then decide (r.head.k = 4) && (match fs, r.kids with | [f, g], [x, y] => f x && g y | _, _ => false)
  else if h.k = 4 then decide (r.head.k = 5) && (match fs, r.kids with | [f], [x, y] => f x | _, _ => false)
  else if h.k = 5 then decide (r.head.k = 5) && (match fs, r.kids with | [f], [x, y] => f y | _, _ => false)
  else decide (r.head.k = 6) && (match r.kids with | [x] => fs.all fun f => f x | _ => false)
def isVK (h : VH) (fs : List (Re → Bool)) (r : Re) : Bool := isHd h fs.length && isBody h fs r
mutual
def isB : Va → Re → Bool
  | .mk h ks => isVK h (isBs ks)
def isBs : List Va → List (Re → Bool)
  | [] => []
  | v :: vs => isB v :: isBs vs
end
theorem isBs_map : ∀ ts : List Va, isBs ts = ts.map isB
  | [] => rfl
  | t :: ts => by simp only [isBs, List.map_cons, isBs_map ts]
theorem isB_mk (h : VH) (ks : List Va) (r : Re) : isB (.mk h ks) r = (isHd h ks.length && isBody h (ks.map isB) r) := by
  simp only [isB, isVK, isBs_map, List.length_map]
theorem isB_no {h : VH} {ks : List Va} {r : Re} (e : isHd h ks.length = false) : isB (.mk h ks) r = false := by rw [isB_mk, e]; rfl
theorem isB_all (x : Re) (ks : List Va) : ((ks.map isB).all fun f => f x) = ks.all fun v => isB v x := by
  rw [List.all_map]; rfl
theorem isHd_iff (h : VH) (n : Nat) : isHd h n = true ↔ (h.k = 2 ∨ h.b = 0) ∧ ((h.k = 1 ∧ n = 0) ∨ (h.k = 2 ∧ n = 0) ∨ (h.k = 3 ∧ n = 2) ∨ (h.k = 4 ∧ n = 1) ∨ (h.k = 5 ∧ n = 1) ∨ h.k = 6) := by
  unfold isHd kidsB
  rw [Bool.and_eq_true, Bool.or_eq_true, decide_eq_true_iff, decide_eq_true_iff]
  refine and_congr Iff.rfl ?_
  by_cases h1 : h.k = 1
  · simp [h1]
  by_cases h2 : h.k = 2
  · simp [h2]
  by_cases h3 : h.k = 3
  · simp [h3]
  by_cases h4 : h.k = 4
  · simp [h4]
  by_cases h5 : h.k = 5
  · simp [h5]
  simp [h1, h2, h3, h4, h5]
theorem isB_iff (n : Nat) : ∀ (v : Va) (r : Re), v.size ≤ n → okT r = true → (isB v r = true ↔ IsV r v) := by
  induction n with
  | zero => intro v r hn; have := v.size_pos; omega
  | succ n ih =>
    rintro ⟨h, ks⟩ r hn ho
    simp only [T.size] at hn
    have hk : ∀ t ∈ ks, t.size ≤ n := fun t ht => by have := T.sizes_mem ht; omega
    obtain ⟨hk0, hb0⟩ := h
    rw [isB_mk, Bool.and_eq_true, isHd_iff]
    have hsh := okT_cases ho
    constructor
    · rintro ⟨⟨hb, hkk⟩, hbd⟩
      simp only at hb hkk
      rcases hkk with ⟨rfl, hl⟩ | ⟨rfl, hl⟩ | ⟨rfl, hl⟩ | ⟨rfl, hl⟩ | ⟨rfl, hl⟩ | rfl
      · obtain rfl := List.eq_nil_of_length_eq_zero hl
        obtain rfl : hb0 = 0 := hb.resolve_left (by decide)
        simp [isBody] at hbd
        rcases hsh with rfl | rfl | ⟨S, _, rfl⟩ | ⟨x, y, _, _, rfl⟩ | ⟨x, y, _, _, rfl⟩ | ⟨x, _, rfl⟩ <;> simp [T.head] at hbd
        exact .void
      · obtain rfl := List.eq_nil_of_length_eq_zero hl
        simp [isBody] at hbd
        rcases hsh with rfl | rfl | ⟨S, _, rfl⟩ | ⟨x, y, _, _, rfl⟩ | ⟨x, y, _, _, rfl⟩ | ⟨x, _, rfl⟩ <;> simp [T.head] at hbd
        exact .byte S hb0 hbd
      · obtain rfl : hb0 = 0 := hb.resolve_left (by decide)
        rcases ks with _ | ⟨v, _ | ⟨u, _ | ⟨z, ks⟩⟩⟩ <;> simp at hl
        simp [isBody] at hbd
        rcases hsh with rfl | rfl | ⟨S, _, rfl⟩ | ⟨x, y, hx, hy, rfl⟩ | ⟨x, y, _, _, rfl⟩ | ⟨x, _, rfl⟩ <;> simp [T.head, T.kids] at hbd
        exact .pair x y v u ((ih v x (hk v (by simp)) hx).1 hbd.1) ((ih u y (hk u (by simp)) hy).1 hbd.2)
      · obtain rfl : hb0 = 0 := hb.resolve_left (by decide)
        rcases ks with _ | ⟨v, _ | ⟨u, ks⟩⟩ <;> simp at hl
        simp [isBody] at hbd
        rcases hsh with rfl | rfl | ⟨S, _, rfl⟩ | ⟨x, y, hx, hy, rfl⟩ | ⟨x, y, hx, hy, rfl⟩ | ⟨x, _, rfl⟩ <;> simp [T.head, T.kids] at hbd
        exact .left x y v ((ih v x (hk v (by simp)) hx).1 hbd)
      · obtain rfl : hb0 = 0 := hb.resolve_left (by decide)
        rcases ks with _ | ⟨v, _ | ⟨u, ks⟩⟩ <;> simp at hl
        simp [isBody] at hbd
        rcases hsh with rfl | rfl | ⟨S, _, rfl⟩ | ⟨x, y, hx, hy, rfl⟩ | ⟨x, y, hx, hy, rfl⟩ | ⟨x, _, rfl⟩ <;> simp [T.head, T.kids] at hbd
        exact .right x y v ((ih v y (hk v (by simp)) hy).1 hbd)
      · obtain rfl : hb0 = 0 := hb.resolve_left (by decide)
        simp [isBody] at hbd
        rcases hsh with rfl | rfl | ⟨S, _, rfl⟩ | ⟨x, y, hx, hy, rfl⟩ | ⟨x, y, hx, hy, rfl⟩ | ⟨x, hx, rfl⟩ <;> simp [T.head, T.kids] at hbd
        exact IsV_stars.2 ⟨x, rfl, fun v hv => (ih v x (hk v hv) hx).1 (hbd v hv)⟩
    · intro hv
      cases hv with
      | void => exact ⟨by simp, by simp [isBody, T.head]⟩
      | byte S b hh => exact ⟨by simp, by simp [isBody, T.head, hh]⟩
      | pair x y v w h1 h2 =>
        obtain ⟨hx, hy⟩ := okT_two ho
        exact ⟨by simp, by simp [isBody, T.head, T.kids, (ih v x (hk v (by simp)) hx).2 h1, (ih w y (hk w (by simp)) hy).2 h2]⟩
      | left x y v h1 =>
        obtain ⟨hx, hy⟩ := okT_two ho
        exact ⟨by simp, by simp [isBody, T.head, T.kids, (ih v x (hk v (by simp)) hx).2 h1]⟩
      | right x y v h1 =>
        obtain ⟨hx, hy⟩ := okT_two ho
        exact ⟨by simp, by simp [isBody, T.head, T.kids, (ih v y (hk v (by simp)) hy).2 h1]⟩
      | nil x => exact ⟨by simp, by simp [isBody, T.head, T.kids]⟩
      | cons x v l h1 h2 =>
        have hx := okT_one ho
        obtain ⟨x', e, hm⟩ := IsV_stars.1 (IsV.cons x v l h1 h2)
        injection e with _ e2
        injection e2 with e3
        subst e3
        refine ⟨by simp, ?_⟩
        have := fun u hu => (ih u x (hk u hu) hx).2 (hm u hu)
        simp only [isBody, T.head, T.kids]
        rw [isB_all]
        simpa using this
end Go.Proofs.Yteokbmngebckjaa
