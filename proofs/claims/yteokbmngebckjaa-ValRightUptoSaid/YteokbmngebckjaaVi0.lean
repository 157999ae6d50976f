/- Values' kids, as they lie; whether a value is one of an expression, of its kids. -/
import Derived.Test.YteokbmngebckjaaVtP
import Derived.Test.YteokbmngebckjaaBx
import Derived.Test.YteokbmngebckjaaCb
import Derived.Test.YteokbmngebckjaaBe
import Derived.Test.YteokbmngebckjaaBi
namespace Go.Proofs.Yteokbmngebckjaa
open Go.RowKit
set_option linter.unusedVariables false
set_option linter.unusedSimpArgs false

theorem vkid0 {ok : Nat → Prop} {w : World} {h : VH} {ks r : List Va} {A : Option Addr} (hr : InRow VE ok w (.mk h ks :: r) A 0) :
    ∃ (ad : Addr) (A1 : Option Addr) (c1 : Nat), A = some ad ∧ ks.length ≤ c1 ∧ InRow VE ok w ks A1 0 ∧
      w.cell? ad = some (.int .u8 (h.k.toNat : Int)) ∧ w.cell? ⟨ad.block, ad.off + 1, none⟩ = some (.int .u8 (h.b.toNat : Int)) ∧ w.cell? ⟨ad.block, ad.off + 2, none⟩ = some (.slice A1 ks.length c1) := by
  obtain ⟨t, ad, h', ks', A1, c1, hA, hx, e, hc, hr1, q0, q1, q2⟩ := va_at hr (k := 0) (by simp)
  subst e
  obtain ⟨rfl, rfl⟩ := T.mk.inj (Option.some.inj hx)
  exact ⟨ad, A1, c1, hA, hc, hr1, q0, q1, q2⟩
theorem vkid1 {ok : Nat → Prop} {w : World} {t0 : Va} {h : VH} {ks r : List Va} {A : Option Addr} (hr : InRow VE ok w (t0 :: .mk h ks :: r) A 0) :
    ∃ (ad : Addr) (A1 : Option Addr) (c1 : Nat), A = some ad ∧ ks.length ≤ c1 ∧ InRow VE ok w ks A1 0 ∧
      w.cell? ⟨ad.block, ad.off + 3, none⟩ = some (.int .u8 (h.k.toNat : Int)) ∧ w.cell? ⟨ad.block, ad.off + 3 + 1, none⟩ = some (.int .u8 (h.b.toNat : Int)) ∧ w.cell? ⟨ad.block, ad.off + 3 + 2, none⟩ = some (.slice A1 ks.length c1) := by
  obtain ⟨t, ad, h', ks', A1, c1, hA, hx, e, hc, hr1, q0, q1, q2⟩ := va_at hr (k := 1) (by simp)
  subst e
  obtain ⟨rfl, rfl⟩ := T.mk.inj (Option.some.inj hx)
  exact ⟨ad, A1, c1, hA, hc, hr1, q0, q1, q2⟩
theorem rv_pre (w : World) (h : RH) (A : Option Addr) (n c : Nat) (h2 : VH) (A2 : Option Addr) (n2 c2 : Nat) : ∃ W, (w.alloc (.cells (reA h A n c) 34)).alloc (.cells (vaA h2 A2 n2 c2) 24) = W ∧ Below w.heap.size w W ∧ W.heap.size = w.heap.size + 1 + 1 ∧ W.heap[w.heap.size]? = some (.cells (reA h A n c) 34 (0, 0)) ∧ W.heap[w.heap.size + 1]? = some (.cells (vaA h2 A2 n2 c2) 24 (0, 0)) := by
  refine ⟨_, rfl, below_new (below_new (Below.refl _ _) _) _, by simp, heap_keep1 (new_at1 _) _, ?_⟩
  have := new_at1 (w := w.alloc (.cells (reA h A n c) 34)) (.cells (vaA h2 A2 n2 c2) 24)
  rw [World.size_alloc] at this
  exact this
/-- an expression that may be, by its kind -/
theorem okT_kind {h : RH} {ks : List Re} (ho : okT (.mk h ks) = true) : (h.k ≠ 4 ∧ h.k ≠ 5 ∧ h.k ≠ 6) ∨ (∃ x y, okT x = true ∧ okT y = true ∧ h.k = 4 ∧ ks = [x, y]) ∨ (∃ x y, okT x = true ∧ okT y = true ∧ h.k = 5 ∧ ks = [x, y]) ∨ (∃ x, okT x = true ∧ h.k = 6 ∧ ks = [x]) := by
  rcases okT_cases ho with e | e | ⟨s, _, e⟩ | ⟨x, y, hx, hy, e⟩ | ⟨x, y, hx, hy, e⟩ | ⟨x, hx, e⟩ <;> cases e
  · exact .inl ⟨by decide, by decide, by decide⟩
  · exact .inl ⟨by decide, by decide, by decide⟩
  · exact .inl ⟨show (3 : UInt8) ≠ 4 by decide, show (3 : UInt8) ≠ 5 by decide, show (3 : UInt8) ≠ 6 by decide⟩
  · exact .inr (.inl ⟨x, y, hx, hy, rfl, rfl⟩)
  · exact .inr (.inr (.inl ⟨x, y, hx, hy, rfl, rfl⟩))
  · exact .inr (.inr (.inr ⟨x, hx, rfl, rfl⟩))
theorem isB_1 {h2 : VH} {h : RH} {ls : List Va} {ks : List Re} (hd : isHd h2 ls.length = true) (e : h2.k = 1) : isB (.mk h2 ls) (.mk h ks) = decide (h.k = 2) := by
  rw [isB_mk, hd, Bool.true_and]; unfold isBody; rw [if_pos e]; rfl
theorem isB_2 {h2 : VH} {h : RH} {ls : List Va} {ks : List Re} (hd : isHd h2 ls.length = true) (e : h2.k = 2) : isB (.mk h2 ls) (.mk h ks) = (decide (h.k = 3) && h.s.has h2.b.toNat) := by
  rw [isB_mk, hd, Bool.true_and]; unfold isBody; rw [if_neg (by rw [e]; decide), if_pos e]; rfl
theorem isB_3n {h2 : VH} {h : RH} {ls : List Va} {ks : List Re} (e : h2.k = 3) (n : h.k ≠ 4) : isB (.mk h2 ls) (.mk h ks) = false := by
  rw [isB_mk]; simp [isBody, e, T.head, n]
theorem isB_3 {h2 : VH} {h : RH} {v u : Va} {x y : Re} (hd : isHd h2 [v, u].length = true) (e : h2.k = 3) (n : h.k = 4) : isB (.mk h2 [v, u]) (.mk h [x, y]) = (isB v x && isB u y) := by
  rw [isB_mk, hd]; simp [isBody, e, T.head, T.kids, n]
theorem isB_4n {h2 : VH} {h : RH} {ls : List Va} {ks : List Re} (e : h2.k = 4) (n : h.k ≠ 5) : isB (.mk h2 ls) (.mk h ks) = false := by
  rw [isB_mk]; simp [isBody, e, T.head, n]
theorem isB_4 {h2 : VH} {h : RH} {v : Va} {x y : Re} (hd : isHd h2 [v].length = true) (e : h2.k = 4) (n : h.k = 5) : isB (.mk h2 [v]) (.mk h [x, y]) = isB v x := by
  rw [isB_mk, hd]; simp [isBody, e, T.head, T.kids, n]
theorem isB_5n {h2 : VH} {h : RH} {ls : List Va} {ks : List Re} (e : h2.k = 5) (n : h.k ≠ 5) : isB (.mk h2 ls) (.mk h ks) = false := by
  rw [isB_mk]; simp [isBody, e, T.head, n]
theorem isB_5 {h2 : VH} {h : RH} {v : Va} {x y : Re} (hd : isHd h2 [v].length = true) (e : h2.k = 5) (n : h.k = 5) : isB (.mk h2 [v]) (.mk h [x, y]) = isB v y := by
  rw [isB_mk, hd]; simp [isBody, e, T.head, T.kids, n]
theorem isB_6n {h2 : VH} {h : RH} {ls : List Va} {ks : List Re} (e : h2.k = 6) (n : h.k ≠ 6) : isB (.mk h2 ls) (.mk h ks) = false := by
  rw [isB_mk]; simp [isBody, e, T.head, n]
theorem isB_6 {h2 : VH} {h : RH} {ls : List Va} {x : Re} (hd : isHd h2 ls.length = true) (e : h2.k = 6) (n : h.k = 6) : isB (.mk h2 ls) (.mk h [x]) = ls.all fun v => isB v x := by
  rw [isB_mk, hd]; simp [isBody, e, T.head, T.kids, n, List.all_map, Function.comp_def]
/-- a value's head: it may not be, or one of six kinds -/
theorem isHd_no {h : VH} {n : Nat} (e : isHd h n = false) : (h.k ≠ 2 ∧ h.b ≠ 0) ∨ ((h.k = 2 ∨ h.b = 0) ∧ kidsB h.k n = false) := by
  unfold isHd at e
  rw [Bool.and_eq_false_iff, Bool.or_eq_false_iff, decide_eq_false_iff_not, decide_eq_false_iff_not] at e
  rcases e with ⟨a, b⟩ | e
  · exact .inl ⟨a, b⟩
  · by_cases h2 : h.k = 2
    · exact .inr ⟨.inl h2, e⟩
    · by_cases hb : h.b = 0
      · exact .inr ⟨.inr hb, e⟩
      · exact .inl ⟨h2, hb⟩
theorem va_len1 {ls : List Va} (h : ls.length = 1) : ∃ v, ls = [v] := List.length_eq_one_iff.1 h
theorem va_len2 {ls : List Va} (h : ls.length = 2) : ∃ v u, ls = [v, u] := by
  rcases ls with _ | ⟨a, _ | ⟨b, _ | ⟨c, l⟩⟩⟩ <;> simp at h
  exact ⟨a, b, rfl⟩
end Go.Proofs.Yteokbmngebckjaa
