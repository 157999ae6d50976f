/- Sets, two by two: plain. The right value: there is one where the expression fits; only one; how large it is (plain). Values of an expression; what is decoded of their bits (plain). Values: rows of one and of two; an expression's box and a value's box. -/
import Derived.Test.YteokbmngebckjaaBb
import Derived.Test.YteokbmngebckjaaBv
import Derived.Test.YteokbmngebckjaaBw
import Derived.Test.YteokbmngebckjaaBd
import Derived.Test.YteokbmngebckjaaBi
namespace Go.Proofs.Yteokbmngebckjaa
set_option linter.unusedVariables false
set_option linter.unusedSimpArgs false

def S4.or (s t : S4) : S4 := ⟨s.a ||| t.a, s.b ||| t.b, s.c ||| t.c, s.d ||| t.d⟩
def S4.and (s t : S4) : S4 := ⟨s.a &&& t.a, s.b &&& t.b, s.c &&& t.c, s.d &&& t.d⟩
/-- what is in one, and not in the other -/
def S4.less (s t : S4) : S4 := ⟨s.a &&& ~~~t.a, s.b &&& ~~~t.b, s.c &&& ~~~t.c, s.d &&& ~~~t.d⟩
theorem word_ext {x y : UInt64} (h : ∀ j, j < 64 → x.toNat.testBit j = y.toNat.testBit j) : x = y := by
  apply UInt64.toNat_inj.1
  apply Nat.eq_of_testBit_eq
  intro i
  by_cases hi : i < 64
  · exact h i hi
  · have hp : 2 ^ 64 ≤ 2 ^ i := Nat.pow_le_pow_right (by decide) (by omega)
    rw [Nat.testBit_lt_two_pow (Nat.lt_of_lt_of_le x.toNat_lt hp), Nat.testBit_lt_two_pow (Nat.lt_of_lt_of_le y.toNat_lt hp)]
theorem S4.ext_has {s t : S4} (h : ∀ b, b < 256 → s.has b = t.has b) : s = t := by
  have hw : ∀ i j, i < 4 → j < 64 → (s.get i).toNat.testBit j = (t.get i).toNat.testBit j := fun i j hi hj => by
    rw [← has_test s i j hj, ← has_test t i j hj]; exact h _ (by omega)
  rw [S4.ext_iff_]
  exact ⟨word_ext fun j hj => hw 0 j (by decide) hj, word_ext fun j hj => hw 1 j (by decide) hj, word_ext fun j hj => hw 2 j (by decide) hj, word_ext fun j hj => hw 3 j (by decide) hj⟩
/-- a byte, as a word and a bit -/
theorem byte_split (b : Nat) (hb : b < 256) : ∃ i j, i < 4 ∧ j < 64 ∧ b = 64 * i + j := ⟨b / 64, b % 64, by omega, by omega, by omega⟩
theorem orBit_test {x r : Nat} (j : Nat) (hx : x < 18446744073709551616) (hr : r < 64) : (UInt64.ofNat (orBit x r)).toNat.testBit j = (decide (r = j) || x.testBit j) := by
  rw [UInt64.toNat_ofNat', Nat.mod_eq_of_lt (orBit_lt hx hr)]
  unfold orBit
  rw [Nat.testBit_or, Nat.testBit_two_pow, Bool.or_comm]
theorem has_with (s : S4) (n b : Nat) (hn : n < 256) (hb : b < 256) : (s.with' n).has b = (decide (b = n) || s.has b) := by
  obtain ⟨i, j, hi, hj, rfl⟩ := byte_split b hb
  obtain ⟨k, r, hk, hr, rfl⟩ := byte_split n hn
  rw [has_test _ i j hj, has_test _ i j hj]
  unfold S4.with'
  rw [show (64 * k + r) / 64 = k by omega, show (64 * k + r) % 64 = r by omega]
  have e : decide (64 * i + j = 64 * k + r) = (decide (i = k) && decide (r = j)) := by
    rw [Bool.eq_iff_iff]; simp; omega
  rw [e]
  obtain rfl | rfl | rfl | rfl : k = 0 ∨ k = 1 ∨ k = 2 ∨ k = 3 := by omega
  all_goals
    obtain rfl | rfl | rfl | rfl : i = 0 ∨ i = 1 ∨ i = 2 ∨ i = 3 := by omega
    all_goals
      simp only [S4.withAt, S4.get]
      first
      | (rw [orBit_test j (UInt64.toNat_lt _) hr]; simp)
      | simp
theorem has_or (s t : S4) (b : Nat) (hb : b < 256) : (s.or t).has b = (s.has b || t.has b) := by
  obtain ⟨i, j, hi, hj, rfl⟩ := byte_split b hb
  rw [has_test _ i j hj, has_test _ i j hj, has_test _ i j hj]
  obtain rfl | rfl | rfl | rfl : i = 0 ∨ i = 1 ∨ i = 2 ∨ i = 3 := by omega
  all_goals simp [S4.or, S4.get, Nat.testBit_or]
theorem has_and (s t : S4) (b : Nat) (hb : b < 256) : (s.and t).has b = (s.has b && t.has b) := by
  obtain ⟨i, j, hi, hj, rfl⟩ := byte_split b hb
  rw [has_test _ i j hj, has_test _ i j hj, has_test _ i j hj]
  obtain rfl | rfl | rfl | rfl : i = 0 ∨ i = 1 ∨ i = 2 ∨ i = 3 := by omega
  all_goals simp [S4.and, S4.get, Nat.testBit_and]
theorem word_not (x : UInt64) (j : Nat) (hj : j < 64) : (~~~x).toNat.testBit j = !x.toNat.testBit j := by
  rw [UInt64.toNat_not, show UInt64.size - 1 - x.toNat = 2 ^ 64 - (x.toNat + 1) by simp [UInt64.size], Nat.testBit_two_pow_sub_succ x.toNat_lt]
  simp [hj]
theorem has_less (s t : S4) (b : Nat) (hb : b < 256) : (s.less t).has b = (s.has b && !t.has b) := by
  obtain ⟨i, j, hi, hj, rfl⟩ := byte_split b hb
  rw [has_test _ i j hj, has_test _ i j hj, has_test _ i j hj]
  obtain rfl | rfl | rfl | rfl : i = 0 ∨ i = 1 ∨ i = 2 ∨ i = 3 := by omega
  all_goals simp only [S4.less, S4.get, UInt64.toNat_and, Nat.testBit_and, word_not _ j hj]
theorem has_zero (b : Nat) (hb : b < 256) : S4.zero.has b = false := by
  obtain ⟨i, j, hi, hj, rfl⟩ := byte_split b hb
  rw [has_test _ i j hj]
  obtain rfl | rfl | rfl | rfl : i = 0 ∨ i = 1 ∨ i = 2 ∨ i = 3 := by omega
  all_goals simp [S4.zero, S4.get]
/-- the document's: byte by byte -/
def joinTo (s t : S4) : Nat → S4
  | 0 => s
  | k + 1 => if t.has k then (joinTo s t k).with' k else joinTo s t k
theorem joinTo_has (s t : S4) (b : Nat) (hb : b < 256) : ∀ k, k ≤ 256 → (joinTo s t k).has b = (s.has b || (decide (b < k) && t.has b))
  | 0, _ => by simp [joinTo]
  | k + 1, hk => by
    have ih := joinTo_has s t b hb k (by omega)
    unfold joinTo
    cases ht : t.has k with
    | false =>
      simp only [Bool.false_eq_true, if_false, ih]
      by_cases e : b = k
      · subst e; simp [ht]
      · rw [show decide (b < k + 1) = decide (b < k) by rw [Bool.eq_iff_iff]; simp; omega]
    | true =>
      simp only [if_true]
      rw [has_with _ _ _ (by omega) hb, ih]
      by_cases e : b = k
      · subst e; simp [ht]
      · rw [show decide (b < k + 1) = decide (b < k) by rw [Bool.eq_iff_iff]; simp; omega]
        simp [e]
theorem joinTo_all (s t : S4) : joinTo s t 256 = s.or t := S4.ext_has fun b hb => by
  rw [joinTo_has s t b hb 256 (Nat.le_refl _), has_or s t b hb]
  simp [hb]
def meetTo (s t : S4) (both : Bool) : Nat → S4
  | 0 => S4.zero
  | k + 1 => if s.has k && (t.has k == both) then (meetTo s t both k).with' k else meetTo s t both k
theorem meetTo_has (s t : S4) (both : Bool) (b : Nat) (hb : b < 256) : ∀ k, k ≤ 256 → (meetTo s t both k).has b = (decide (b < k) && (s.has b && (t.has b == both)))
  | 0, _ => by simp [meetTo, has_zero b hb]
  | k + 1, hk => by
    have ih := meetTo_has s t both b hb k (by omega)
    unfold meetTo
    cases ht : (s.has k && (t.has k == both)) with
    | false =>
      simp only [Bool.false_eq_true, if_false, ih]
      by_cases e : b = k
      · subst e; simp [ht]
      · rw [show decide (b < k + 1) = decide (b < k) by rw [Bool.eq_iff_iff]; simp; omega]
    | true =>
      simp only [if_true]
      rw [has_with _ _ _ (by omega) hb, ih]
      by_cases e : b = k
      · subst e; simp [ht]
      · rw [show decide (b < k + 1) = decide (b < k) by rw [Bool.eq_iff_iff]; simp; omega]
        simp [e]
theorem meetTo_and (s t : S4) : meetTo s t true 256 = s.and t := S4.ext_has fun b hb => by
  rw [meetTo_has s t true b hb 256 (Nat.le_refl _), has_and s t b hb]
  simp [hb]
theorem meetTo_less (s t : S4) : meetTo s t false 256 = s.less t := S4.ext_has fun b hb => by
  rw [meetTo_has s t false b hb 256 (Nat.le_refl _), has_less s t b hb]
  simp [hb]
theorem or_comm_ (s t : S4) : s.or t = t.or s := S4.ext_has fun b hb => by rw [has_or s t b hb, has_or t s b hb, Bool.or_comm]
theorem and_comm_ (s t : S4) : s.and t = t.and s := S4.ext_has fun b hb => by rw [has_and s t b hb, has_and t s b hb, Bool.and_comm]
/-- what the code has behind j words -/
def S4.orTo (o s : S4) : Nat → S4
  | 0 => o
  | 1 => ⟨o.a ||| s.a, o.b, o.c, o.d⟩
  | 2 => ⟨o.a ||| s.a, o.b ||| s.b, o.c, o.d⟩
  | 3 => ⟨o.a ||| s.a, o.b ||| s.b, o.c ||| s.c, o.d⟩
  | _ => o.or s
def S4.andTo (o s : S4) : Nat → S4
  | 0 => o
  | 1 => ⟨o.a &&& s.a, o.b, o.c, o.d⟩
  | 2 => ⟨o.a &&& s.a, o.b &&& s.b, o.c, o.d⟩
  | 3 => ⟨o.a &&& s.a, o.b &&& s.b, o.c &&& s.c, o.d⟩
  | _ => o.and s
def S4.lessTo (o s : S4) : Nat → S4
  | 0 => o
  | 1 => ⟨o.a &&& ~~~s.a, o.b, o.c, o.d⟩
  | 2 => ⟨o.a &&& ~~~s.a, o.b &&& ~~~s.b, o.c, o.d⟩
  | 3 => ⟨o.a &&& ~~~s.a, o.b &&& ~~~s.b, o.c &&& ~~~s.c, o.d⟩
  | _ => o.less s
theorem bits_or_u (x y : UInt64) : Go.bits BinOp.or IntKind.u64 (x.toNat : Int) (y.toNat : Int) = ((x ||| y).toNat : Int) := by
  have hx := x.toNat_lt
  have hy := y.toNat_lt
  rw [UInt64.toNat_or]
  generalize x.toNat = a at *
  generalize y.toNat = b at *
  simp [Go.bits, IntKind.bits, IntKind.signed, IntKind.wrap]
  have h3 : a ||| b < 2 ^ 64 := Nat.or_lt_two_pow hx hy
  have k : (BitVec.ofNat 64 a ||| BitVec.ofNat 64 b).toNat = a ||| b := by
    rw [BitVec.toNat_or, BitVec.toNat_ofNat, BitVec.toNat_ofNat, Nat.mod_eq_of_lt (by omega : a < 2 ^ 64), Nat.mod_eq_of_lt (by omega : b < 2 ^ 64)]
  have m : (((BitVec.ofNat 64 a ||| BitVec.ofNat 64 b).toNat : Nat) : Int) % 18446744073709551616 = ((a ||| b : Nat) : Int) := by rw [k]; omega
  exact m
theorem bits_and_u (x y : UInt64) : Go.bits BinOp.and IntKind.u64 (x.toNat : Int) (y.toNat : Int) = ((x &&& y).toNat : Int) := by
  rw [UInt64.toNat_and]
  exact bits_and_word _ _ x.toNat_lt y.toNat_lt
theorem bits_less_u (x y : UInt64) : Go.bits BinOp.andNot IntKind.u64 (x.toNat : Int) (y.toNat : Int) = ((x &&& ~~~y).toNat : Int) := by
  have e : Go.bits BinOp.andNot IntKind.u64 (x.toNat : Int) (y.toNat : Int) = Go.bits BinOp.and IntKind.u64 (x.toNat : Int) ((~~~y).toNat : Int) := by
    have hx := x.toNat_lt
    have hy := y.toNat_lt
    have h2 : BitVec.ofNat 64 (18446744073709551615 - y.toNat) = ~~~y.toBitVec := by
      apply BitVec.eq_of_toNat_eq
      rw [BitVec.toNat_not, BitVec.toNat_ofNat, Nat.mod_eq_of_lt (by omega)]
      simp
    simp [Go.bits, IntKind.bits, IntKind.signed, IntKind.wrap, h2]
    rfl
  rw [e]
  exact bits_and_u x (~~~y)
end Go.Proofs.Yteokbmngebckjaa
namespace Go.Proofs.Yteokbmngebckjaa
open Go.RowKit
set_option linter.unusedVariables false
set_option linter.unusedSimpArgs false

theorem full_same {t : Va} {s : List UInt8} {v v2 : Va} {b b2 : Bool} (h : FullRel t s v b) (h2 : FullRel t s v2 b2) : v2 = v ∧ b2 = b := by
  rcases h with ⟨a1, a2, a3⟩ | ⟨a1, a2⟩ <;> rcases h2 with ⟨c1, c2, c3⟩ | ⟨c1, c2⟩
  · exact ⟨c3.trans a3.symm, c2.trans a2.symm⟩
  · rw [a1] at c1; cases c1
  · rw [a1] at c1; cases c1
  · rw [a1] at c1; exact ⟨(Option.some.inj c1).symm, c2.trans a2.symm⟩
mutual
theorem fillV_size : ∀ (t : Va) (s : List UInt8) (v : Va) (s1 : List UInt8), fillV t s = some (v, s1) → v.size = t.size
  | .mk h ks, s, v, s1, e => by
    simp only [fillV] at e
    by_cases hk : h.k = 2
    · rw [if_pos hk] at e
      cases s with
      | nil => cases e
      | cons b s =>
        simp only at e
        obtain ⟨r, h1, h2⟩ := Option.map_eq_some_iff.1 e
        have h3 := fillVs_size ks s r.1 r.2 h1
        have h4 : T.mk ⟨h.k, b⟩ r.1 = v := congrArg Prod.fst h2
        rw [← h4]
        simp only [T.size, h3]
    · rw [if_neg hk] at e
      obtain ⟨r, h1, h2⟩ := Option.map_eq_some_iff.1 e
      have h3 := fillVs_size ks s r.1 r.2 h1
      have h4 : T.mk h r.1 = v := congrArg Prod.fst h2
      rw [← h4]
      simp only [T.size, h3]
theorem fillVs_size : ∀ (ts : List Va) (s : List UInt8) (l : List Va) (s1 : List UInt8), fillVs ts s = some (l, s1) → T.sizes l = T.sizes ts
  | [], s, l, s1, e => by
    simp only [fillVs] at e
    cases e
    rfl
  | v :: vs, s, l, s1, e => by
    simp only [fillVs] at e
    cases h1 : fillV v s with
    | none => rw [h1] at e; cases e
    | some r =>
      rw [h1] at e
      obtain ⟨x, s2⟩ := r
      simp only at e
      obtain ⟨q, h3, h4⟩ := Option.map_eq_some_iff.1 e
      have h5 := fillV_size v s x s2 h1
      have h6 := fillVs_size vs s2 q.1 q.2 h3
      have h7 : x :: q.1 = l := congrArg Prod.fst h4
      rw [← h7]
      simp only [T.sizes, h5, h6]
end
theorem full_size {t : Va} {s : List UInt8} {v : Va} {b : Bool} (h : FullRel t s v b) : v.size ≤ t.size := by
  rcases h with ⟨_, _, rfl⟩ | ⟨a1, _⟩
  · obtain ⟨h, ks⟩ := t
    simp only [T.size, T.sizes]
    omega
  · unfold fullV at a1
    cases hf : fillV t s with
    | none => rw [hf] at a1; cases a1
    | some r =>
      obtain ⟨x, s2⟩ := r
      rw [hf] at a1
      cases s2 with
      | nil => cases a1; exact Nat.le_of_eq (fillV_size t s _ _ hf)
      | cons y s2 => cases a1
theorem full_flat {t v : Va} {b : Bool} (h : FullRel t (flatV t) v b) : v = t ∧ b = true := by
  rcases h with ⟨a1, _⟩ | ⟨a1, a2⟩
  · rw [full_own] at a1; cases a1
  · rw [full_own] at a1; exact ⟨(Option.some.inj a1).symm, a2⟩

/-- the longest front -/
theorem longest {P : Nat → Prop} (n : Nat) : (∃ k, k ≤ n ∧ P k) → ∃ k, k ≤ n ∧ P k ∧ ∀ j, k < j → j ≤ n → ¬ P j := by
  induction n with
  | zero => rintro ⟨k, hk, h⟩; exact ⟨k, hk, h, fun j h1 h2 => by omega⟩
  | succ n ih =>
    rintro ⟨k, hk, h⟩
    by_cases hp : P (n + 1)
    · exact ⟨n + 1, Nat.le_refl _, hp, fun j h1 h2 => by omega⟩
    · have hk2 : k ≤ n := by
        rcases Nat.lt_or_ge n k with h1 | h1
        · have : k = n + 1 := by omega
          subst this; exact absurd h hp
        · exact h1
      obtain ⟨m, a, b, d⟩ := ih ⟨k, hk2, h⟩
      refine ⟨m, by omega, b, fun j h1 h2 => ?_⟩
      rcases Nat.lt_or_ge n j with h3 | h3
      · rw [show j = n + 1 by omega]; exact hp
      · exact d j h1 h3
theorem nomore_of {P Q : List UInt8 → Prop} {S : List UInt8} {n : Nat} (hn : n ≤ S.length) (h : ∀ j, n < j → j ≤ S.length → ¬ (P (S.take j) ∧ Q (S.drop j))) : NoMore P Q (S.take n) (S.drop n) := by
  intro p q hp e hh
  have hl : p.length ≠ 0 := fun e => hp (List.eq_nil_of_length_eq_zero e)
  have hl2 : (S.drop n).length = p.length + q.length := by rw [e, List.length_append]
  rw [List.length_drop] at hl2
  refine h (n + p.length) (by omega) (by omega) ?_
  have e1 : S.take (n + p.length) = S.take n ++ p := by
    rw [List.take_add, e, List.take_left]
  have e2 : S.drop (n + p.length) = q := by
    rw [← List.drop_drop, e, List.drop_left]
  rw [e1, e2]
  exact hh
/-- where it may be cut, there is a longest front -/
theorem cut_ex {P Q : List UInt8 → Prop} {S u v : List UInt8} (e : S = u ++ v) (h1 : P u) (h2 : Q v) : ∃ u v, S = u ++ v ∧ P u ∧ Q v ∧ NoMore P Q u v := by
  obtain ⟨k, hk, ⟨a, b⟩, d⟩ := longest (P := fun k => P (S.take k) ∧ Q (S.drop k)) S.length ⟨u.length, by rw [e, List.length_append]; omega, by rw [e, List.take_left]; exact h1, by rw [e, List.drop_left]; exact h2⟩
  exact ⟨S.take k, S.drop k, (List.take_append_drop _ _).symm, a, b, nomore_of hk d⟩
theorem NoMore.from {P P' Q : List UInt8 → Prop} {s t : List UInt8} (h : NoMore P' Q s t) (hp : ∀ p, p ≠ [] → P (s ++ p) → P' (s ++ p)) : NoMore P Q s t :=
  fun p q h1 h2 h3 => h p q h1 h2 ⟨hp p h1 h3.1, h3.2⟩
theorem star_ex {x : Re} (hx : ∀ s, LT x s → ∃ v, RV x s v) : ∀ (n : Nat) (s : List UInt8), s.length ≤ n → StarP (LT x) s → ∃ l, RV (rStar x) s (vStars l) := by
  intro n
  induction n with
  | zero =>
    intro s hs h
    have : s = [] := List.eq_nil_of_length_eq_zero (by omega)
    subst this
    exact ⟨[], .nil x⟩
  | succ n ih =>
    intro s hs h
    cases h with
    | nil => exact ⟨[], .nil x⟩
    | @cons u v h1 h2 h3 =>
      obtain ⟨u', v', e, ⟨a1, a2⟩, b, d⟩ := cut_ex (P := fun u => LT x u ∧ u ≠ []) (Q := StarP (LT x)) rfl ⟨h1, h2⟩ h3
      have hlen : v'.length ≤ n := by
        have e3 := congrArg List.length e
        have : u'.length ≠ 0 := fun e => a2 (List.eq_nil_of_length_eq_zero e)
        rw [List.length_append] at e3
        rw [List.length_append] at e3 hs
        omega
      obtain ⟨w, hw⟩ := hx u' a1
      obtain ⟨l, hl⟩ := ih v' hlen b
      rw [e]
      exact ⟨w :: l, .cons x u' v' w l hw a2 hl (d.from fun p hp h => ⟨h, by simp [hp]⟩)⟩
theorem RV_ex : ∀ t : Re, okT t = true → ∀ s, LT t s → ∃ v, RV t s v := by
  refine okT_ind ?_ ?_ ?_ ?_ ?_ ?_
  · intro s h; exact ((LT_emp _).1 h).elim
  · intro s h; rw [LT_eps] at h; subst h; exact ⟨_, .eps⟩
  · intro S hS s h
    obtain ⟨b, rfl, hb⟩ := (LT_cls _ _).1 h
    exact ⟨_, .cls S b hb⟩
  · intro x y hx hy ihx ihy s h
    obtain ⟨u, v, e, h1, h2⟩ := (LT_seq _ _ _).1 h
    obtain ⟨u, v, rfl, a, b, d⟩ := cut_ex e h1 h2
    obtain ⟨v1, e1⟩ := ihx u a
    obtain ⟨v2, e2⟩ := ihy v b
    exact ⟨_, .pair x y u v v1 v2 e1 e2 d⟩
  · intro x y hx hy ihx ihy s h
    by_cases h1 : LT x s
    · obtain ⟨v, e⟩ := ihx s h1
      exact ⟨_, .left x y s v e⟩
    · obtain ⟨v, e⟩ := ihy s (((LT_alt _ _ _).1 h).resolve_left h1)
      exact ⟨_, .right x y s v h1 e⟩
  · intro x hx ih s h
    obtain ⟨l, e⟩ := star_ex ih s.length s (Nat.le_refl _) ((LT_star _ _).1 h)
    exact ⟨_, e⟩
theorem RV_one {r : Re} {s : List UInt8} {v w : Va} (ho : okT r = true) (h : RV r s v) (k : RV r s w) : v = w := by
  have e := PB_one _ (of_ok r ho) s _ _ (RV_PB h ho) (RV_PB k ho)
  obtain ⟨v0, a1, a2⟩ := RV_take h ho
  obtain ⟨w0, b1, b2⟩ := RV_take k ho
  have c1 := a1 []
  rw [e, b1 []] at c1
  have hvw : w0 = v0 := by simpa using c1
  subst hvw
  have c2 := a2 []
  rw [b2 []] at c2
  simpa using c2.symm
theorem RV_size' {r : Re} {s : List UInt8} {v : Va} (h : RV r s v) : v.size ≤ r.size * max s.length 1 ∧ ∀ x l, r = rStar x → v = vStars l → T.sizes l ≤ x.size * s.length := by
  induction h with
  | eps => exact ⟨by simp [T.size, T.sizes], fun x l e => by cases e⟩
  | cls S b h => exact ⟨by simp [T.size, T.sizes], fun x l e => by cases e⟩
  | left x y s v h ih =>
    refine ⟨?_, fun x l e => by cases e⟩
    simp only [T.size, T.sizes, Nat.add_zero]
    have h1 := ih.1
    have h2 : 1 ≤ max s.length 1 := Nat.le_max_right _ _
    generalize max s.length 1 = m at *
    rw [Nat.add_mul, Nat.add_mul, Nat.one_mul]
    omega
  | right x y s v hn h ih =>
    refine ⟨?_, fun x l e => by cases e⟩
    simp only [T.size, T.sizes, Nat.add_zero]
    have h1 := ih.1
    have h2 : 1 ≤ max s.length 1 := Nat.le_max_right _ _
    generalize max s.length 1 = m at *
    rw [Nat.add_mul, Nat.add_mul, Nat.one_mul]
    omega
  | pair x y s t v w h1 h2 hn ih1 ih2 =>
    refine ⟨?_, fun x l e => by cases e⟩
    simp only [T.size, T.sizes, Nat.add_zero]
    have a1 := ih1.1
    have a2 := ih2.1
    have a3 : x.size * max s.length 1 ≤ x.size * max (s ++ t).length 1 := Nat.mul_le_mul_left _ (by rw [List.length_append]; omega)
    have a4 : y.size * max t.length 1 ≤ y.size * max (s ++ t).length 1 := Nat.mul_le_mul_left _ (by rw [List.length_append]; omega)
    have h2 : 1 ≤ max (s ++ t).length 1 := Nat.le_max_right _ _
    generalize max (s ++ t).length 1 = m at *
    rw [Nat.add_mul, Nat.add_mul, Nat.one_mul]
    omega
  | nil x => exact ⟨by simp [T.size, T.sizes], fun x l e e2 => by cases e2; simp [T.sizes]⟩
  | cons x s t v l h1 hs h2 hn ih1 ih2 =>
    have a1 := ih1.1
    have a2 := ih2.2 x l rfl rfl
    have hl : s.length ≠ 0 := fun e => hs (List.eq_nil_of_length_eq_zero e)
    rw [show max s.length 1 = s.length by omega] at a1
    have key : T.sizes (v :: l) ≤ x.size * (s ++ t).length := by
      simp only [T.sizes]
      rw [List.length_append, Nat.mul_add]
      omega
    refine ⟨?_, fun x' l' e e2 => by cases e; cases e2; exact key⟩
    have h3 : max (s ++ t).length 1 = (s ++ t).length := by rw [List.length_append]; omega
    have h4 : 1 ≤ (s ++ t).length := by rw [List.length_append]; omega
    rw [h3]
    rw [show (vStars (v :: l)).size = 1 + T.sizes (v :: l) from rfl, show (rStar x).size = 1 + (x.size + 0) from rfl]
    rw [Nat.add_zero, Nat.add_mul, Nat.one_mul]
    omega
theorem RV_size {r : Re} {s : List UInt8} {v : Va} (h : RV r s v) : v.size ≤ r.size * (s.length + 1) :=
  Nat.le_trans (RV_size' h).1 (Nat.mul_le_mul_left _ (by omega))
mutual
theorem code_size : ∀ v : Va, (codeV v).length + 1 ≤ 2 * v.size
  | .mk h ks => by
    simp only [codeV, T.size]
    split
    · simp only [List.length_nil]; omega
    · have := codes_size (decide (h.k = 6)) ks
      have h1 : (if h.k = 4 then ([48] : List UInt8) else if h.k = 5 then [49] else []).length + (if h.k = 6 then ([49] : List UInt8) else []).length ≤ 1 := by
        by_cases h4 : h.k = 4
        · rw [if_pos h4, if_neg (by rw [h4]; decide)]; simp
        · rw [if_neg h4]
          by_cases h5 : h.k = 5
          · rw [if_pos h5, if_neg (by rw [h5]; decide)]; simp
          · rw [if_neg h5]; split <;> simp
      simp only [List.length_append]
      omega
theorem codes_size : ∀ (st : Bool) (l : List Va), (codeVs st l).length ≤ 2 * T.sizes l
  | _, [] => by simp [codeVs]
  | st, v :: l => by
    have h1 := code_size v
    have h2 := codes_size st l
    have h3 : (if st = true then ([48] : List UInt8) else []).length ≤ 1 := by split <;> simp
    simp only [codeVs, T.sizes, List.length_append]
    omega
end
end Go.Proofs.Yteokbmngebckjaa
namespace Go.Proofs.Yteokbmngebckjaa
open Go.RowKit
set_option linter.unusedVariables false
set_option linter.unusedSimpArgs false

theorem bytesTo_head (s : S4) : ∀ n : Nat, (bytesTo s n).head? = ((List.range n).find? fun k => s.has k).map UInt8.ofNat
  | 0 => rfl
  | n + 1 => by
    rw [List.range_succ, List.find?_append]
    simp only [bytesTo]
    cases hh : s.has n with
    | false =>
      simp only [Bool.false_eq_true, if_false]
      rw [bytesTo_head s n]
      simp [hh]
    | true =>
      simp only [if_true]
      rw [List.head?_append, bytesTo_head s n]
      cases (List.range n).find? fun k => s.has k <;> simp [hh]
theorem find_has {s : S4} (h : s ≠ S4.zero) : ∃ k, k < 256 ∧ ((List.range 256).find? fun k => s.has k) = some k ∧ s.has k = true := by
  rcases e : (List.range 256).find? fun k => s.has k with _ | k
  · exfalso
    refine h (S4.ext_has fun b hb => ?_)
    rw [has_zero b hb]
    have := List.find?_eq_none.1 e b (List.mem_range.2 hb)
    simpa using this
  · exact ⟨k, List.mem_range.1 (List.mem_of_find?_eq_some e), rfl, by simpa using List.find?_some e⟩
theorem firstB_bytes {s : S4} (h : s ≠ S4.zero) : ∃ l, bytesOf s = firstB s :: l := by
  obtain ⟨k, hk, e, hh⟩ := find_has h
  have h1 := bytesTo_head s 256
  rw [e] at h1
  have h2 : firstB s = UInt8.ofNat k := by unfold firstB; rw [e]; rfl
  unfold bytesOf
  rcases hb : bytesTo s 256 with _ | ⟨b, l⟩
  · rw [hb] at h1; cases h1
  · rw [hb] at h1
    simp only [List.head?_cons, Option.map_some, Option.some.injEq] at h1
    exact ⟨l, by rw [h2, h1]⟩
theorem firstB_has {s : S4} (h : s ≠ S4.zero) : s.has (firstB s).toNat = true := by
  obtain ⟨k, hk, e, hh⟩ := find_has h
  have h2 : firstB s = UInt8.ofNat k := by unfold firstB; rw [e]; rfl
  rw [h2, UInt8.toNat_ofNat_of_lt' (by simpa using hk)]
  exact hh

/-- a value of an expression -/
inductive IsV : Re → Va → Prop
  | void : IsV rEps vVoid
  | byte (S : S4) (b : UInt8) : S.has b.toNat = true → IsV (rCls S) (vByte b)
  | pair (x y : Re) (v w : Va) : IsV x v → IsV y w → IsV (rSeq x y) (vPair v w)
  | left (x y : Re) (v : Va) : IsV x v → IsV (rAlt x y) (vLeft v)
  | right (x y : Re) (v : Va) : IsV y v → IsV (rAlt x y) (vRight v)
  | nil (x : Re) : IsV (rStar x) (vStars [])
  | cons (x : Re) (v : Va) (l : List Va) : IsV x v → IsV (rStar x) (vStars l) → IsV (rStar x) (vStars (v :: l))
theorem IsV_void {t : Re} : IsV t vVoid ↔ t = rEps := ⟨fun h => by cases h; rfl, fun e => e ▸ .void⟩
theorem IsV_byte {t : Re} {b : UInt8} : IsV t (vByte b) ↔ ∃ S, t = rCls S ∧ S.has b.toNat = true := ⟨fun h => by cases h with | byte S _ h => exact ⟨S, rfl, h⟩, fun ⟨S, e, h⟩ => e ▸ .byte S b h⟩
theorem IsV_pair {t : Re} {v w : Va} : IsV t (vPair v w) ↔ ∃ x y, t = rSeq x y ∧ IsV x v ∧ IsV y w := ⟨fun h => by cases h with | pair x y _ _ h k => exact ⟨x, y, rfl, h, k⟩, fun ⟨x, y, e, h, k⟩ => e ▸ .pair x y v w h k⟩
theorem IsV_left {t : Re} {v : Va} : IsV t (vLeft v) ↔ ∃ x y, t = rAlt x y ∧ IsV x v := ⟨fun h => by cases h with | left x y _ h => exact ⟨x, y, rfl, h⟩, fun ⟨x, y, e, h⟩ => e ▸ .left x y v h⟩
theorem IsV_right {t : Re} {v : Va} : IsV t (vRight v) ↔ ∃ x y, t = rAlt x y ∧ IsV y v := ⟨fun h => by cases h with | right x y _ h => exact ⟨x, y, rfl, h⟩, fun ⟨x, y, e, h⟩ => e ▸ .right x y v h⟩
theorem IsV_stars {t : Re} : ∀ {l : List Va}, IsV t (vStars l) ↔ ∃ x, t = rStar x ∧ ∀ v ∈ l, IsV x v
  | [] => ⟨fun h => by cases h with | nil x => exact ⟨x, rfl, fun v hv => by cases hv⟩, fun ⟨x, e, _⟩ => e ▸ .nil x⟩
  | v :: l => ⟨fun h => by
      cases h with
      | cons x _ _ h k =>
        obtain ⟨x', e, h2⟩ := IsV_stars.1 k
        injection e with _ e2
        injection e2 with e3
        subst e3
        exact ⟨x, rfl, fun u hu => by rcases List.mem_cons.1 hu with e | hu; rw [e]; exact h; exact h2 u hu⟩,
    fun ⟨x, e, h⟩ => e ▸ .cons x v l (h v (List.mem_cons_self ..)) (IsV_stars.2 ⟨x, rfl, fun u hu => h u (List.mem_cons_of_mem _ hu)⟩)⟩
theorem IsV_head {t : Re} {h : VH} {ks : List Va} (k : IsV t (.mk h ks)) : (h.k ≠ 2 → h.b = 0) ∧ ((h.k = 1 ∧ ks = []) ∨ (h.k = 2 ∧ ks = []) ∨ (h.k = 3 ∧ ks.length = 2) ∨ (h.k = 4 ∧ ks.length = 1) ∨ (h.k = 5 ∧ ks.length = 1) ∨ h.k = 6) := by
  cases k with
  | void => exact ⟨fun _ => rfl, .inl ⟨rfl, rfl⟩⟩
  | byte S b h => exact ⟨fun h => absurd rfl h, .inr (.inl ⟨rfl, rfl⟩)⟩
  | pair x y v w h k => exact ⟨fun _ => rfl, .inr (.inr (.inl ⟨rfl, rfl⟩))⟩
  | left x y v h => exact ⟨fun _ => rfl, .inr (.inr (.inr (.inl ⟨rfl, rfl⟩)))⟩
  | right x y v h => exact ⟨fun _ => rfl, .inr (.inr (.inr (.inr (.inl ⟨rfl, rfl⟩))))⟩
  | nil x => exact ⟨fun _ => rfl, .inr (.inr (.inr (.inr (.inr rfl))))⟩
  | cons x v l h k => exact ⟨fun _ => rfl, .inr (.inr (.inr (.inr (.inr rfl))))⟩
theorem RV_IsV {r : Re} {s : List UInt8} {v : Va} (h : RV r s v) : IsV r v := by
  induction h with
  | eps => exact .void
  | cls S b h => exact .byte S b h
  | left x y s v h ih => exact .left x y v ih
  | right x y s v hn h ih => exact .right x y v ih
  | pair x y s t v w h1 h2 hn ih1 ih2 => exact .pair x y v w ih1 ih2
  | nil x => exact .nil x
  | cons x s t v l h1 hs h2 hn ih1 ih2 => exact .cons x v l ih1 ih2
/-- each class has one byte -/
def OnlyOne (s : S4) : Prop := ∀ a b : UInt8, s.has a.toNat = true → s.has b.toNat = true → a = b
def AloneT (r : Re) : Prop := ∀ t ∈ r.all, t.head.k = 3 → OnlyOne t.head.s
theorem alls_memR {x t : Re} : ∀ {ks : List Re}, t ∈ ks → x ∈ t.all → x ∈ T.alls ks
  | k :: ks, h, hx => by
    simp only [T.alls, List.mem_append]
    rcases List.mem_cons.1 h with rfl | h
    · exact .inl hx
    · exact .inr (alls_memR h hx)
theorem alone_kids {h : RH} {ks : List Re} (ha : AloneT (.mk h ks)) {x : Re} (hx : x ∈ ks) : AloneT x := fun t ht => ha t (by
  rw [T.all]
  exact List.mem_cons_of_mem _ (alls_memR hx ht))
/-- what is taken of a value's bits: a value of the expression with these bits -/
theorem IsV_take {r : Re} {v : Va} (h : IsV r v) : okT r = true → ∃ v0, (∀ z, takeT r (codeV v ++ z) = some (v0, z)) ∧ codeV v0 = codeV v ∧ IsV r v0 ∧ (AloneT r → v0 = v) := by
  induction h with
  | void => intro _; exact ⟨vVoid, fun z => rfl, rfl, .void, fun _ => rfl⟩
  | byte S b h =>
    intro ho
    have hz : S ≠ S4.zero := fun e => by rw [e, has_zero _ (by have := b.toNat_lt; omega)] at h; cases h
    refine ⟨vByte (firstB S), fun z => rfl, rfl, .byte S _ (firstB_has hz), fun ha => ?_⟩
    have h1 : OnlyOne S := ha _ (List.mem_cons_self ..) rfl
    rw [show firstB S = b from h1 _ _ (firstB_has hz) h]
  | left x y v h ih =>
    intro ho
    obtain ⟨hx, hy⟩ := okT_two ho
    obtain ⟨v0, a1, a2, a3, a4⟩ := ih hx
    refine ⟨vLeft v0, fun z => ?_, by simp [codeV, codeVs, a2], .left x y v0 a3, fun ha => by rw [a4 (alone_kids ha (List.mem_cons_self ..))]⟩
    rw [take_alt, show codeV (vLeft v) = 48 :: codeV v by simp [codeV, codeVs], List.cons_append]
    simp [a1]
  | right x y v h ih =>
    intro ho
    obtain ⟨hx, hy⟩ := okT_two ho
    obtain ⟨v0, a1, a2, a3, a4⟩ := ih hy
    refine ⟨vRight v0, fun z => ?_, by simp [codeV, codeVs, a2], .right x y v0 a3, fun ha => by rw [a4 (alone_kids ha (by simp))]⟩
    rw [take_alt, show codeV (vRight v) = 49 :: codeV v by simp [codeV, codeVs], List.cons_append]
    simp [a1]
  | pair x y v w h1 h2 ih1 ih2 =>
    intro ho
    obtain ⟨hx, hy⟩ := okT_two ho
    obtain ⟨v0, a1, a2, a3, a4⟩ := ih1 hx
    obtain ⟨w0, b1, b2, b3, b4⟩ := ih2 hy
    refine ⟨vPair v0 w0, fun z => ?_, by simp [codeV, codeVs, a2, b2], .pair x y v0 w0 a3 b3, fun ha => by rw [a4 (alone_kids ha (by simp)), b4 (alone_kids ha (by simp))]⟩
    rw [take_seq, show codeV (vPair v w) = codeV v ++ codeV w by simp [codeV, codeVs], List.append_assoc, a1]
    simp [b1]
  | nil x =>
    intro ho
    refine ⟨vStars [], fun z => ?_, rfl, .nil x, fun _ => rfl⟩
    rw [take_starT, show codeV (vStars []) = [49] by simp [codeV, codeVs], List.cons_append, starT_end]
    rfl
  | cons x v l h1 h2 ih1 ih2 =>
    intro ho
    obtain ⟨v0, a1, a2, a3, a4⟩ := ih1 (okT_one ho)
    obtain ⟨w0, b1, b2, b3, b4⟩ := ih2 ho
    have b1' : ∀ z, ∃ l0, starT x (codeV (vStars l) ++ z) = some (l0, z) ∧ w0 = vStars l0 := fun z => by
      have := b1 z
      rw [take_starT] at this
      rcases e : starT x (codeV (vStars l) ++ z) with _ | ⟨l0, z0⟩
      · rw [e] at this; cases this
      · rw [e] at this
        simp only [Option.map_some, Option.some.injEq, Prod.mk.injEq] at this
        exact ⟨l0, by rw [this.2], this.1.symm⟩
    obtain ⟨l0, _, rfl⟩ := b1' []
    have hcode : ∀ (u : Va) (m : List Va), codeV (vStars (u :: m)) = 48 :: (codeV u ++ codeV (vStars m)) := fun u m => by simp [codeV, codeVs]
    refine ⟨vStars (v0 :: l0), fun z => ?_, by rw [hcode, hcode, a2, b2], .cons x v0 l0 a3 b3, fun ha => ?_⟩
    · rw [take_starT, hcode, List.cons_append, starT_more (okT_one ho), List.append_assoc, a1]
      obtain ⟨l1, c1, c2⟩ := b1' z
      simp only [c1, Option.map_some]
      injection c2 with _ c3
      rw [c3]
    · have e2 := b4 ha
      injection e2 with _ e3
      rw [a4 (alone_kids ha (List.mem_cons_self ..)), e3]
/-- what is taken is a value of the expression, and its bits are what was read -/
theorem take_starLoop : ∀ (n : Nat) (f : List UInt8 → Option (Va × List UInt8)) (x : Re), (∀ s v s', f s = some (v, s') → s = codeV v ++ s') → ∀ s l s', starB f n s = some (l, s') → s = codeV (vStars l) ++ s'
  | 0, f, x, _, s, l, s', h => by simp [starB] at h
  | n + 1, f, x, hf, [], l, s', h => by simp [starB] at h
  | n + 1, f, x, hf, c :: s, l, s', h => by
    simp only [starB] at h
    split at h
    · rename_i hc
      subst hc
      rcases e : f s with _ | ⟨v, s1⟩
      · rw [e] at h; cases h
      · rw [e] at h
        simp only at h
        rcases e2 : starB f n s1 with _ | ⟨l2, s2⟩
        · rw [e2] at h; cases h
        · rw [e2] at h
          simp only [Option.map_some, Option.some.injEq, Prod.mk.injEq] at h
          have h1 := hf _ _ _ e
          have h2 := take_starLoop n f x hf s1 l2 s2 e2
          rw [← h.1, ← h.2, h1, h2]
          simp [codeV, codeVs]
    · split at h
      · rename_i hc
        subst hc
        simp only [Option.some.injEq, Prod.mk.injEq] at h
        rw [← h.1, ← h.2]
        simp [codeV, codeVs]
      · cases h
end Go.Proofs.Yteokbmngebckjaa
namespace Go.Proofs.Yteokbmngebckjaa
open Go.RowKit
set_option linter.unusedVariables false
set_option linter.unusedSimpArgs false

theorem va_one {P : Nat → Prop} {Y : World} {N : Nat} {t : TypeId} {h : VH} {ks : List Va} {A : Option Addr} {c : Nat} (hN : Y.heap[N]? = some (.cells (vaA h A ks.length c) t (0, 0))) (hP : P N) (hc : ks.length ≤ c) (hr : InRow VE P Y ks A 0) :
    InRow VE P Y [.mk h ks] (some ⟨N, 0, none⟩) 0 := by
  simp only [InRow, InT]
  refine ⟨⟨_, VH.cells h ++ [.slice A ks.length c], rfl, hP, fun j u hu => ?_, A, c, rfl, hc, hr⟩, trivial⟩
  rw [cell_heap hN, ← hu]
  simp [VH.cells]
theorem va_two {P : Nat → Prop} {Y : World} {N : Nat} {t : TypeId} {h h2 : VH} {ks ks2 : List Va} {A A2 : Option Addr} {c c2 : Nat} {x : Array Value} (hN : Y.heap[N]? = some (.cells x t (0, 0))) (hx : x = vaA h A ks.length c ++ vaA h2 A2 ks2.length c2) (hP : P N)
    (hc : ks.length ≤ c) (hr : InRow VE P Y ks A 0) (hc2 : ks2.length ≤ c2) (hr2 : InRow VE P Y ks2 A2 0) : InRow VE P Y [.mk h ks, .mk h2 ks2] (some ⟨N, 0, none⟩) 0 := by
  simp only [InRow, InT]
  refine ⟨⟨_, VH.cells h ++ [.slice A ks.length c], rfl, hP, fun j u hu => ?_, A, c, rfl, hc, hr⟩, ⟨_, VH.cells h2 ++ [.slice A2 ks2.length c2], rfl, hP, fun j u hu => ?_, A2, c2, rfl, hc2, hr2⟩, trivial⟩
  · rw [cell_heap hN, hx, Array.getElem?_append]
    have hj : j < 3 := by
      rcases Nat.lt_or_ge j 3 with h | h
      · exact h
      · rw [List.getElem?_eq_none (by simpa [VH.cells] using h)] at hu; cases hu
    rw [if_pos (by simpa using hj), ← hu]
    simp [VH.cells]
  · rw [cell_heap hN, hx, Array.getElem?_append, if_neg (by simp [VE]), ← hu]
    simp [VH.cells, VE]
/-- an expression's box, then a value's: how every walk from an expression to a value begins -/
theorem reva_pre (w : World) (h : RH) (A : Option Addr) (n c : Nat) : ∃ W, (w.alloc (.cells (reA h A n c) 34)).alloc (.cells vaZ 24) = W ∧ Below w.heap.size w W ∧ W.heap.size = w.heap.size + 1 + 1 ∧ W.heap[w.heap.size]? = some (.cells (reA h A n c) 34 (0, 0)) ∧ W.heap[w.heap.size + 1]? = some (.cells vaZ 24 (0, 0)) := by
  refine ⟨_, rfl, below_new (below_new (Below.refl _ _) _) _, by simp, heap_keep1 (new_at1 _) _, ?_⟩
  have := new_at1 (w := w.alloc (.cells (reA h A n c) 34)) (.cells vaZ 24)
  rw [World.size_alloc] at this
  exact this
/-- the kids' cells, in every later world -/
theorem kid_keep {w X : World} {hx : RH} {kx : Nat} {A1 : Option Addr} {c1 : Nat} {ad : Addr} (hX : Below w.heap.size w X)
    (h : w.cell? ad = some (.int .u8 (hx.k.toNat : Int)) ∧ w.cell? ⟨ad.block, ad.off + 1, none⟩ = some (.int .u64 (hx.s.a.toNat : Int)) ∧ w.cell? ⟨ad.block, ad.off + 2, none⟩ = some (.int .u64 (hx.s.b.toNat : Int)) ∧ w.cell? ⟨ad.block, ad.off + 3, none⟩ = some (.int .u64 (hx.s.c.toNat : Int)) ∧ w.cell? ⟨ad.block, ad.off + 4, none⟩ = some (.int .u64 (hx.s.d.toNat : Int)) ∧ w.cell? ⟨ad.block, ad.off + 5, none⟩ = some (.slice A1 kx c1)) :
    X.cell? ad = some (.int .u8 (hx.k.toNat : Int)) ∧ X.cell? ⟨ad.block, ad.off + 1, none⟩ = some (.int .u64 (hx.s.a.toNat : Int)) ∧ X.cell? ⟨ad.block, ad.off + 2, none⟩ = some (.int .u64 (hx.s.b.toNat : Int)) ∧ X.cell? ⟨ad.block, ad.off + 3, none⟩ = some (.int .u64 (hx.s.c.toNat : Int)) ∧ X.cell? ⟨ad.block, ad.off + 4, none⟩ = some (.int .u64 (hx.s.d.toNat : Int)) ∧ X.cell? ⟨ad.block, ad.off + 5, none⟩ = some (.slice A1 kx c1) := by
  obtain ⟨u0, u1, u2, u3, u4, u5⟩ := h
  exact ⟨keep_cell hX u0, keep_cell hX u1, keep_cell hX u2, keep_cell hX u3, keep_cell hX u4, keep_cell hX u5⟩
end Go.Proofs.Yteokbmngebckjaa
