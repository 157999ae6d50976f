/- Trees in memory: a node's head cells, and behind them a slice of its kids. -/
import Derived.Test.YthbcofbdgljfbaaDoorProg
import Derived.Test.YthbcofbdgljfbaaDoorRow1
namespace Go.Proofs.YthbcofbdgljfbaaDoor
open Go.RowKit
set_option linter.unusedVariables false
set_option linter.unusedSimpArgs false

/-- A tree: a head, and kids. -/
inductive T (α : Type) where
  | mk (a : α) (kids : List (T α))

namespace T
variable {α : Type}
def head : T α → α | .mk a _ => a
def kids : T α → List (T α) | .mk _ ks => ks

mutual
/-- how many nodes -/
def size : T α → Nat
  | .mk _ ks => 1 + sizes ks
def sizes : List (T α) → Nat
  | [] => 0
  | t :: ts => size t + sizes ts
end
theorem size_pos (t : T α) : 1 ≤ t.size := by cases t; simp only [size]; omega
theorem sizes_mem {t : T α} {ts : List (T α)} (h : t ∈ ts) : t.size ≤ sizes ts := by
  induction ts with
  | nil => cases h
  | cons x r ih =>
    simp only [sizes]
    cases List.mem_cons.1 h with
    | inl e => subst e; omega
    | inr e => have := ih e; omega
theorem length_le_sizes (ts : List (T α)) : ts.length ≤ sizes ts := by
  induction ts with
  | nil => simp
  | cons x r ih => have := size_pos x; simp only [sizes, List.length_cons]; omega
theorem sizes_append (xs ys : List (T α)) : sizes (xs ++ ys) = sizes xs + sizes ys := by
  induction xs with
  | nil => simp [sizes]
  | cons x r ih => simp only [List.cons_append, sizes, ih]; omega
end T

/-- How a head lies in memory: so many cells, the slice of the kids behind them. -/
structure Enc (α : Type) where
  sz : Nat
  cells : α → List Value
  len : ∀ a, (cells a).length = sz
  one : ∀ a, ∀ u ∈ cells a, u.oneCell' = true

section
variable {α : Type} (E : Enc α)
mutual
/-- the cells of a tree; what it leads to lies in blocks that are ok -/
def InT (ok : Nat → Prop) (w : World) : T α → List Value → Prop
  | .mk a ks, cs => ∃ A c, cs = E.cells a ++ [.slice A ks.length c] ∧ ks.length ≤ c ∧ InRow ok w ks A 0
/-- a row of trees, from the i-th place on -/
def InRow (ok : Nat → Prop) (w : World) : List (T α) → Option Addr → Nat → Prop
  | [], _, _ => True
  | t :: ts, A, i => (∃ ad cs, A = some ad ∧ ok ad.block ∧ (∀ j u, cs[j]? = some u → w.cell? (ad.add (i * (E.sz + 1) + j)) = some u) ∧ InT ok w t cs) ∧ InRow ok w ts A (i + 1)
end
variable {E} {ok : Nat → Prop}
theorem InT.length {w : World} {t : T α} {cs : List Value} (h : InT E ok w t cs) : cs.length = E.sz + 1 := by
  cases t with
  | mk a ks =>
    simp only [InT] at h
    obtain ⟨A, c, rfl, _⟩ := h
    simp [E.len]
theorem InRow.at_ {w : World} : ∀ {ts : List (T α)} {A : Option Addr} {i : Nat}, InRow E ok w ts A i → ∀ (k : Nat) (t : T α), ts[k]? = some t →
    ∃ ad cs, A = some ad ∧ ok ad.block ∧ (∀ j u, cs[j]? = some u → w.cell? (ad.add ((i + k) * (E.sz + 1) + j)) = some u) ∧ InT E ok w t cs
  | [], _, _, _, k, t, hk => by simp at hk
  | x :: ts, A, i, h, 0, t, hk => by
    simp only [List.getElem?_cons_zero, Option.some.injEq] at hk
    subst hk
    simp only [InRow] at h
    exact h.1
  | x :: ts, A, i, h, k + 1, t, hk => by
    simp only [List.getElem?_cons_succ] at hk
    have h2 : InRow E ok w ts A (i + 1) := by
      simp only [InRow] at h
      exact h.2
    have := h2.at_ k t hk
    rwa [show i + 1 + k = i + (k + 1) by omega] at this
theorem InRow.mk_ {w : World} {A : Option Addr} : ∀ (ts : List (T α)) (i : Nat),
    (∀ k t, ts[k]? = some t → ∃ ad cs, A = some ad ∧ ok ad.block ∧ (∀ j u, cs[j]? = some u → w.cell? (ad.add ((i + k) * (E.sz + 1) + j)) = some u) ∧ InT E ok w t cs) → InRow E ok w ts A i
  | [], i, _ => by simp [InRow]
  | x :: ts, i, h => by
    simp only [InRow]
    refine ⟨h 0 x rfl, InRow.mk_ ts (i + 1) fun k t hk => ?_⟩
    rw [show i + 1 + k = i + (k + 1) by omega]
    exact h (k + 1) t (by simpa using hk)
mutual
theorem InT.keep {ok' : Nat → Prop} {w w' : World} (hok : ∀ b, ok b → ok' b) (hk : ∀ a v, ok a.block → w.cell? a = some v → w'.cell? a = some v) : ∀ {t : T α} {cs : List Value}, InT E ok w t cs → InT E ok' w' t cs
  | .mk a ks, cs, h => by
    simp only [InT] at h ⊢
    obtain ⟨A, c, e, hc, hr⟩ := h
    exact ⟨A, c, e, hc, InRow.keep hok hk hr⟩
theorem InRow.keep {ok' : Nat → Prop} {w w' : World} (hok : ∀ b, ok b → ok' b) (hk : ∀ a v, ok a.block → w.cell? a = some v → w'.cell? a = some v) : ∀ {ts : List (T α)} {A : Option Addr} {i : Nat}, InRow E ok w ts A i → InRow E ok' w' ts A i
  | [], _, _, _ => by simp [InRow]
  | t :: ts, A, i, h => by
    simp only [InRow] at h ⊢
    obtain ⟨⟨ad, cs, e, ho, hc, ht⟩, hr⟩ := h
    exact ⟨⟨ad, cs, e, hok _ ho, fun j u hu => hk _ _ (by rw [block_add]; exact ho) (hc j u hu), InT.keep hok hk ht⟩, InRow.keep hok hk hr⟩
end
theorem InT.below {w w' : World} (hb : Below w.heap.size w w') {t : T α} {cs : List Value} (h : InT E ok w t cs) : InT E ok w' t cs := h.keep (fun _ h => h) fun _ _ _ => keep_cell hb
theorem InRow.below {w w' : World} (hb : Below w.heap.size w w') {ts : List (T α)} {A : Option Addr} {i : Nat} (h : InRow E ok w ts A i) : InRow E ok w' ts A i := h.keep (fun _ h => h) fun _ _ _ => keep_cell hb
theorem InT.weak {ok' : Nat → Prop} {w : World} (hok : ∀ b, ok b → ok' b) {t : T α} {cs : List Value} (h : InT E ok w t cs) : InT E ok' w t cs := h.keep hok fun _ _ _ h => h
theorem InRow.weak {ok' : Nat → Prop} {w : World} (hok : ∀ b, ok b → ok' b) {ts : List (T α)} {A : Option Addr} {i : Nat} (h : InRow E ok w ts A i) : InRow E ok' w ts A i := h.keep hok fun _ _ _ h => h
/-- behind an append or a make: only the row's own block may have turned, and that is not ok -/
theorem InT.grown {w w' : World} {row : Option Nat} (hg : w.grownBy w' row) (hne : ∀ b, ok b → some b ≠ row) {t : T α} {cs : List Value} (h : InT E ok w t cs) : InT E ok w' t cs :=
  h.keep (fun _ h => h) fun a v ho hc => hg.cell hc (hne _ ho)
theorem InRow.grown {w w' : World} {row : Option Nat} (hg : w.grownBy w' row) (hne : ∀ b, ok b → some b ≠ row) {ts : List (T α)} {A : Option Addr} {i : Nat} (h : InRow E ok w ts A i) : InRow E ok w' ts A i :=
  h.keep (fun _ h => h) fun a v ho hc => hg.cell hc (hne _ ho)
mutual
/-- the blocks that a tree leads to are there -/
theorem InT.there {w : World} : ∀ {t : T α} {cs : List Value}, InT E ok w t cs → InT E (fun b => ok b ∧ b < w.heap.size) w t cs
  | .mk a ks, cs, h => by
    simp only [InT] at h ⊢
    obtain ⟨A, c, e, hc, hr⟩ := h
    exact ⟨A, c, e, hc, InRow.there hr⟩
theorem InRow.there {w : World} : ∀ {ts : List (T α)} {A : Option Addr} {i : Nat}, InRow E ok w ts A i → InRow E (fun b => ok b ∧ b < w.heap.size) w ts A i
  | [], _, _, _ => by simp [InRow]
  | t :: ts, A, i, h => by
    simp only [InRow] at h ⊢
    obtain ⟨⟨ad, cs, e, ho, hc, ht⟩, hr⟩ := h
    have hl : 0 < cs.length := by rw [ht.length]; omega
    have := World.block_lt_of_cell? w _ (hc 0 cs[0] (by simp [hl]))
    rw [block_add] at this
    exact ⟨⟨ad, cs, e, ⟨ho, this⟩, hc, InT.there ht⟩, InRow.there hr⟩
end

/-- the cells of a row, one behind the other -/
theorem InRow.cells {w : World} : ∀ {ts : List (T α)} {A : Option Addr} {i : Nat}, InRow E ok w ts A i →
    ∃ news : List Value, news.length = ts.length * (E.sz + 1) ∧ (∀ j u, news[j]? = some u → ∃ ad, A = some ad ∧ w.cell? (ad.add (i * (E.sz + 1) + j)) = some u) ∧ (∀ u ∈ news, u.oneCell' = true) ∧
      ∀ (k : Nat) (t : T α), ts[k]? = some t → ∃ c, (∀ j u, c[j]? = some u → news[k * (E.sz + 1) + j]? = some u) ∧ InT E ok w t c
  | [], A, i, _ => ⟨[], by simp, fun j u h => by simp at h, fun u h => by simp at h, fun k t h => by simp at h⟩
  | t :: ts, A, i, h => by
    simp only [InRow] at h
    obtain ⟨⟨ad, cs, e, ho, hc, ht⟩, hr⟩ := h
    obtain ⟨news, hl, hn, h1, hk⟩ := InRow.cells hr
    have hcl := ht.length
    refine ⟨cs ++ news, by rw [List.length_append, hcl, hl, List.length_cons, Nat.succ_mul]; omega, fun j u hu => ?_, fun u hu => ?_, fun k x hx => ?_⟩
    · by_cases hj : j < cs.length
      · rw [List.getElem?_append_left hj] at hu
        exact ⟨ad, e, hc j u hu⟩
      · rw [List.getElem?_append_right (by omega), hcl] at hu
        obtain ⟨ad', e', hc'⟩ := hn _ u hu
        refine ⟨ad', e', ?_⟩
        rw [← hc']
        congr 2
        rw [Nat.succ_mul]
        omega
    · rw [List.mem_append] at hu
      rcases hu with hu | hu
      · obtain ⟨a, ks⟩ := t
        simp only [InT] at ht
        obtain ⟨A', c', rfl, _⟩ := ht
        rw [List.mem_append] at hu
        rcases hu with hu | hu
        · exact E.one a u hu
        · simp at hu; subst hu; rfl
      · exact h1 u hu
    · cases k with
      | zero =>
        simp only [List.getElem?_cons_zero, Option.some.injEq] at hx
        subst hx
        exact ⟨cs, fun j u hu => by rw [Nat.zero_mul, Nat.zero_add, List.getElem?_append_left (List.getElem?_eq_some_iff.1 hu).1]; exact hu, ht⟩
      | succ k =>
        obtain ⟨c, h2, h3⟩ := hk k x (by simpa using hx)
        refine ⟨c, fun j u hu => ?_, h3⟩
        rw [List.getElem?_append_right (by rw [hcl, Nat.succ_mul]; omega), ← h2 j u hu, hcl]
        congr 1
        rw [Nat.succ_mul]
        omega

/-- A slice value of the call's own that holds these trees; what they lead to lies outside the slice's own block. -/
def OwnT (E : Enc α) (ok : Nat → Prop) (w : World) (base : Nat) (e : TypeId) (v : Value) (ts : List (T α)) : Prop :=
  (∀ b, ok b → some b ≠ v.ownBlock) ∧ ∃ cs, w.ownsRow base e (E.sz + 1) v ts.length cs ∧ ∀ (k : Nat) (t : T α), ts[k]? = some t → ∃ c, (∀ j u, c[j]? = some u → cs[k * (E.sz + 1) + j]? = some u) ∧ InT E ok w t c
section
variable {w w' : World} {base : Nat} {e : TypeId} {v v' : Value} {ts ys : List (T α)}
theorem OwnT.nil_ (E : Enc α) (ok : Nat → Prop) (w : World) (base : Nat) (e : TypeId) : OwnT E ok w base e (.slice none 0 0) [] :=
  ⟨fun b _ => by simp [Value.ownBlock], [], World.ownsRow_nil _ _ _ _, fun k t h => by simp at h⟩
/-- it is a slice, and reads as a row -/
theorem OwnT.row (h : OwnT E ok w base e v ts) : ∃ A c, v = .slice A ts.length c ∧ ts.length ≤ c ∧ InRow E (fun b => ok b ∨ v.ownBlock = some b) w ts A 0 := by
  obtain ⟨_, cs, ho, hk⟩ := h
  obtain ⟨A, c, rfl, hc, hs⟩ := own_slice ho
  refine ⟨A, c, rfl, hc, InRow.mk_ ts 0 fun k t ht => ?_⟩
  obtain ⟨c1, h1, h2⟩ := hk k t ht
  have hl : 0 < c1.length := by rw [h2.length]; omega
  obtain ⟨ad, e1, _⟩ := hs.2 _ c1[0] (h1 0 c1[0] (by simp [hl]))
  refine ⟨ad, c1, e1, .inr (by rw [e1]; rfl), fun j u hu => ?_, h2.weak fun b hb => .inl hb⟩
  obtain ⟨ad', e2, hc2⟩ := hs.2 _ u (h1 j u hu)
  rw [e1] at e2
  cases e2
  rw [Nat.zero_add]
  exact hc2
theorem OwnT.keep (h : OwnT E ok w base e v ts) (hb : Below w.heap.size w w') : OwnT E ok w' base e v ts := by
  obtain ⟨h0, cs, ho, hk⟩ := h
  refine ⟨h0, cs, ?_, fun k t ht => ?_⟩
  · refine ho.kept (w' := w') (row := none) ⟨hb.os, hb.tape, hb.output, hb.size, fun k hk _ => hb.block k hk⟩ (by cases hv : v.ownBlock <;> simp)
  · obtain ⟨c, h1, h2⟩ := hk k t ht
    exact ⟨c, h1, h2.below hb⟩
theorem OwnT.own (h : OwnT E ok w base e v ts) : ∃ cs, w.ownsRow base e (E.sz + 1) v ts.length cs := h.2.elim fun cs h => ⟨cs, h.1⟩
/-- what lies in it, as an append takes it -/
theorem OwnT.src (h : OwnT E ok w base e v ts) : ∃ cs A c, v = .slice A ts.length c ∧ Src w A ts.length (E.sz + 1) cs ∧ (∀ u ∈ cs, u.oneCell' = true) ∧
    ∀ (k : Nat) (t : T α), ts[k]? = some t → ∃ c, (∀ j u, c[j]? = some u → cs[k * (E.sz + 1) + j]? = some u) ∧ InT E ok w t c := by
  obtain ⟨_, cs, ho, hk⟩ := h
  obtain ⟨A, c, rfl, _, hs⟩ := own_slice ho
  refine ⟨cs, A, c, rfl, hs, fun u hu => ?_, hk⟩
  obtain ⟨i, hi, rfl⟩ := List.mem_iff_getElem.1 hu
  have hi' : i < ts.length * (E.sz + 1) := by rw [← hs.1]; exact hi
  have hkl : i / (E.sz + 1) < ts.length := Nat.div_lt_of_lt_mul (by rw [Nat.mul_comm]; exact hi')
  obtain ⟨c1, h1, h2⟩ := hk (i / (E.sz + 1)) ts[i / (E.sz + 1)] (by simp [hkl])
  have hj : i % (E.sz + 1) < c1.length := by rw [h2.length]; exact Nat.mod_lt _ (by omega)
  have h3 := h1 _ _ (List.getElem?_eq_getElem hj)
  rw [show i / (E.sz + 1) * (E.sz + 1) + i % (E.sz + 1) = i by rw [Nat.mul_comm]; exact Nat.div_add_mod i _] at h3
  have h4 : cs[i] = c1[i % (E.sz + 1)] := by rw [List.getElem?_eq_getElem hi] at h3; exact Option.some.inj h3
  rw [h4]
  generalize ts[i / (E.sz + 1)] = t at h2
  obtain ⟨a, ks⟩ := t
  simp only [InT] at h2
  obtain ⟨A', c', rfl, _⟩ := h2
  have hm := List.getElem_mem hj
  rw [List.mem_append] at hm
  rcases hm with hm | hm
  · exact E.one a _ hm
  · simp only [List.mem_singleton] at hm; rw [hm]; rfl
theorem own_lower {xs : List Value} {size n base' : Nat} (h : w.ownsRow base e size v n xs) (hb : base' ≤ base) : w.ownsRow base' e size v n xs := by
  obtain ⟨h1, h2⟩ := h
  refine ⟨h1, ?_⟩
  rcases h2 with h2 | ⟨g, cap, cur, hv, hg, r⟩
  · exact .inl h2
  · exact .inr ⟨g, cap, cur, hv, Nat.le_trans hb hg, r⟩
theorem OwnT.lower {base' : Nat} (h : OwnT E ok w base e v ts) (hb : base' ≤ base) : OwnT E ok w base' e v ts :=
  ⟨h.1, h.2.elim fun cs h => ⟨cs, own_lower h.1 hb, h.2⟩⟩
theorem OwnT.narrow {ok' : Nat → Prop} (h : OwnT E ok w base e v ts) (hok : ∀ b, ok b → ok' b) (h0 : ∀ b, ok' b → some b ≠ v.ownBlock) : OwnT E ok' w base e v ts :=
  ⟨h0, h.2.elim fun cs h => ⟨cs, h.1, fun k t ht => (h.2 k t ht).elim fun c h => ⟨c, h.1, h.2.weak hok⟩⟩⟩
/-- what an append leaves -/
theorem OwnT.app {cs news : List Value} (h0 : ∀ b, ok b → some b ≠ v.ownBlock) (ho : w.ownsRow base e (E.sz + 1) v ts.length cs)
    (hk : ∀ (k : Nat) (t : T α), ts[k]? = some t → ∃ c, (∀ j u, c[j]? = some u → cs[k * (E.sz + 1) + j]? = some u) ∧ InT E ok w t c)
    (hkn : ∀ (k : Nat) (t : T α), ys[k]? = some t → ∃ c, (∀ j u, c[j]? = some u → news[k * (E.sz + 1) + j]? = some u) ∧ InT E ok w t c)
    (ho' : w'.ownsRow base e (E.sz + 1) v' (ts.length + ys.length) (cs ++ news)) (hg : w.grownBy w' v.ownBlock) (hat : v'.ownBlock = v.ownBlock ∨ v'.ownBlock = some w.heap.size) (hlt : ∀ b, ok b → b < w.heap.size) :
    OwnT E ok w' base e v' (ts ++ ys) := by
  refine ⟨fun b hb => ?_, cs ++ news, by rw [List.length_append]; exact ho', fun k t ht => ?_⟩
  · rcases hat with hat | hat
    · rw [hat]; exact h0 b hb
    · rw [hat]; intro e; cases e; exact Nat.lt_irrefl _ (hlt _ hb)
  · by_cases hkl : k < ts.length
    · rw [List.getElem?_append_left hkl] at ht
      obtain ⟨c, h1, h2⟩ := hk k t ht
      refine ⟨c, fun j u hu => ?_, h2.grown hg h0⟩
      have := h1 j u hu
      rw [List.getElem?_append_left (List.getElem?_eq_some_iff.1 this).1]
      exact this
    · rw [List.getElem?_append_right (by omega)] at ht
      obtain ⟨c, h1, h2⟩ := hkn _ t ht
      refine ⟨c, fun j u hu => ?_, h2.grown hg h0⟩
      have := h1 j u hu
      have e1 : k * (E.sz + 1) = ts.length * (E.sz + 1) + (k - ts.length) * (E.sz + 1) := by rw [← Nat.add_mul]; congr 1; omega
      rw [List.getElem?_append_right (by rw [ho.1, e1]; omega), ho.1, ← this]
      congr 1
      omega
end
end

/-- A set: its four words. -/
structure S4 where
  a : UInt64
  b : UInt64
  c : UInt64
  d : UInt64
  deriving DecidableEq

theorem run_equalIn_four {P : Program} (w : World) (d : Nat) (t e : TypeId) (ht : P.underlying t = some (.array 4 e)) (he : P.underlying e = some (.int .u64)) (hs : ∀ w, (sizeOf e).run P w = .ok 1 w) (ha : ∀ w, (isAgg e).run P w = .ok false w) (x0 x1 x2 x3 y0 y1 y2 y3 : Int) :
    (Op.equalIn (d + 2) t (.agg #[.int .u64 x0, .int .u64 x1, .int .u64 x2, .int .u64 x3]) (.agg #[.int .u64 y0, .int .u64 y1, .int .u64 y2, .int .u64 y3])).run P w = .ok (x0 == y0 && (x1 == y1 && (x2 == y2 && x3 == y3))) w := by
  rw [Op.equalIn]
  simp only [Sem.run_bind, run_underlying ht, Result.andThen]
  simp [hs, ha, Std.Legacy.Range.forIn_eq_forIn_range', List.range', part, Result.andThen, run_equalIn_int w d e .u64 .u64 _ _ he]
  by_cases h0 : x0 = y0 <;> by_cases h1 : x1 = y1 <;> by_cases h2 : x2 = y2 <;> by_cases h3 : x3 = y3 <;> simp [h0, h1, h2, h3, ha, Result.andThen, Sem.run_pure, Sem.run_bind, run_equalIn_int w d e .u64 .u64 _ _ he, Functor.map]
theorem run_eql_four {P : Program} (w : World) (t e : TypeId) (ht : P.underlying t = some (.array 4 e)) (he : P.underlying e = some (.int .u64)) (hs : ∀ w, (sizeOf e).run P w = .ok 1 w) (ha : ∀ w, (isAgg e).run P w = .ok false w) (x0 x1 x2 x3 y0 y1 y2 y3 : Int) :
    (binOp .eql t (.agg #[.int .u64 x0, .int .u64 x1, .int .u64 x2, .int .u64 x3]) (.agg #[.int .u64 y0, .int .u64 y1, .int .u64 y2, .int .u64 y3])).run P w = .ok (.bool (x0 == y0 && (x1 == y1 && (x2 == y2 && x3 == y3)))) w := by
  rw [run_eql_struct, run_equalIn_four w 9998 t e ht he hs ha]
  rfl
theorem run_neq_four {P : Program} (w : World) (t e : TypeId) (ht : P.underlying t = some (.array 4 e)) (he : P.underlying e = some (.int .u64)) (hs : ∀ w, (sizeOf e).run P w = .ok 1 w) (ha : ∀ w, (isAgg e).run P w = .ok false w) (x0 x1 x2 x3 y0 y1 y2 y3 : Int) :
    (binOp .neq t (.agg #[.int .u64 x0, .int .u64 x1, .int .u64 x2, .int .u64 x3]) (.agg #[.int .u64 y0, .int .u64 y1, .int .u64 y2, .int .u64 y3])).run P w = .ok (.bool (!(x0 == y0 && (x1 == y1 && (x2 == y2 && x3 == y3))))) w := by
  rw [run_neq_struct, run_equalIn_four w 9998 t e ht he hs ha]
  rfl

theorem S4.ext_iff_ {s t : S4} : s = t ↔ s.a = t.a ∧ s.b = t.b ∧ s.c = t.c ∧ s.d = t.d := by
  constructor
  · rintro rfl; exact ⟨rfl, rfl, rfl, rfl⟩
  · cases s; cases t; rintro ⟨rfl, rfl, rfl, rfl⟩; rfl
theorem u64_beq (x y : UInt64) : ((x.toNat : Int) == (y.toNat : Int)) = decide (x = y) := by
  rw [Bool.eq_iff_iff]
  simp only [beq_iff_eq, decide_eq_true_eq, Int.natCast_inj]
  exact ⟨fun h => UInt64.toNat_inj.1 h, fun h => by rw [h]⟩
theorem S4.beq (s t : S4) : ((s.a.toNat : Int) == (t.a.toNat : Int) && ((s.b.toNat : Int) == (t.b.toNat : Int) && ((s.c.toNat : Int) == (t.c.toNat : Int) && (s.d.toNat : Int) == (t.d.toNat : Int)))) = decide (s = t) := by
  simp only [u64_beq]
  rw [Bool.eq_iff_iff]
  simp [S4.ext_iff_]
def S4.zero : S4 := ⟨0, 0, 0, 0⟩
/-- An expression's head: its kind and its set. -/
structure RH where
  k : UInt8
  s : S4
  deriving DecidableEq
abbrev Re := T RH
def RH.cells (h : RH) : List Value := [.int .u8 (h.k.toNat : Int), .int .u64 (h.s.a.toNat : Int), .int .u64 (h.s.b.toNat : Int), .int .u64 (h.s.c.toNat : Int), .int .u64 (h.s.d.toNat : Int)]
def RE : Enc RH := ⟨5, RH.cells, fun _ => rfl, fun a u hu => by simp [RH.cells] at hu; rcases hu with rfl | rfl | rfl | rfl | rfl <;> rfl⟩
end Go.Proofs.YthbcofbdgljfbaaDoor
