/- Rows of one-cell elements. Trees in memory: a node's head cells, and behind them a slice of its kids. Expressions: how many nodes; whether they may be. The document's bound on expressions: how many nodes, as far as some more. Bytes and texts. Expressions: whether they may be, and how many nodes they have. The nodes of an expression, and whether it may be, as the document has it. -/
import Derived.Test.YtbblhhkacdgmiaaProg
import Derived.WalkKit
import Derived.Below
import Derived.Lib.Hide
import Derived.Maps.AppendAt
import Derived.Deep.Draws
import Derived.Deep.QuietTactic
import Derived.BigQuiet
import Derived.Laws.BytesArg
namespace Go.Proofs.Ytbblhhkacdgmiaa
open Go.RowKit
set_option linter.unusedVariables false
set_option linter.unusedSimpArgs false

theorem ret_int {k : IntKind} {a b : Int} (h : a = b) : Ending.returned (.int k a) = .returned (.int k b) := by rw [h]
theorem ret_bool {a b : Bool} (h : a = b) : Ending.returned (.bool a) = .returned (.bool b) := by rw [h]
theorem ret_str {a b : ByteArray} (h : a = b) : Ending.returned (.string a) = .returned (.string b) := by rw [h]
/-- A slice's cells hold these, one cell each. -/
def Row1 {α : Type} (enc : α → Value) (w : World) (A : Option Addr) (xs : List α) : Prop :=
  ∀ k x, xs[k]? = some x → ∃ ad, A = some ad ∧ w.cell? (ad.add k) = some (enc x)
theorem keep_cell {w w' : World} (hb : Below w.heap.size w w') {a : Addr} {v : Value} (h : w.cell? a = some v) : w'.cell? a = some v :=
  (hb.cell (World.block_lt_of_cell? w a h)).trans h
theorem Row1.below {α : Type} {enc : α → Value} {w w' : World} {A : Option Addr} {xs : List α} (h : Row1 enc w A xs) (hb : Below w.heap.size w w') : Row1 enc w' A xs :=
  fun k x hk => by
    obtain ⟨ad, e, hc⟩ := h k x hk
    exact ⟨ad, e, keep_cell hb hc⟩
theorem Row1.at_ {α : Type} {enc : α → Value} {w : World} {A : Option Addr} {xs : List α} (h : Row1 enc w A xs) {k : Nat} (hk : k < xs.length) :
    ∃ ad x, A = some ad ∧ xs[k]? = some x ∧ w.cell? (ad.add k) = some (enc x) := by
  obtain ⟨ad, e, hc⟩ := h k xs[k] (by simp [hk])
  exact ⟨ad, xs[k], e, by simp [hk], hc⟩
theorem block_add (a : Addr) (n : Nat) : (a.add n).block = a.block := by unfold Addr.add; split <;> rfl
theorem add_add_ (a : Addr) (i j : Nat) : (a.add i).add j = a.add (i + j) := by
  unfold Addr.add
  by_cases hi : i = 0 <;> by_cases hj : j = 0 <;> simp [hi, hj, Nat.add_assoc]
/-- what lies below stays, if nothing below was written -/
theorem below_from {w a b : World} (h : Below w.heap.size w a) (k : Below a.heap.size a b) : Below w.heap.size w b := h.trans (k.mono h.size)
theorem below_new {w a : World} (h : Below w.heap.size w a) (o : Obj) : Below w.heap.size w (a.alloc o) := h.alloc h.size o

theorem pw_drewN {B : Nat} {a w : World} (h : Below B a w) (n : Nat) : Below B a (w.drewN n) := ⟨h.os, h.tape, h.output, h.size, h.block⟩
/-- What an append takes from: these cells, behind one another. -/
def Src (w : World) (A : Option Addr) (m size : Nat) (news : List Value) : Prop :=
  news.length = m * size ∧ ∀ j u, news[j]? = some u → ∃ ad, A = some ad ∧ w.cell? (ad.add j) = some u
theorem run_app_nil {P : Program} {w : World} {base : Nat} {t ty e : TypeId} {i : TypeInfo} {size : Nat} (ht : P.underlying t = some (.slice e)) (hi : P.info? e = some i)
    {v : Value} {n : Nat} {xs : List Value} (hown : w.ownsRow base e size v n xs) (c : Nat) : (Builtin.append_ #[t, t] ty #[v, .slice none 0 c]).run P w = .ok v w := by
  rcases hown.2 with ⟨rfl, rfl⟩ | ⟨g, cap, cur, rfl, _, _, hnc, _⟩
  · simp [Builtin.append_, run_underlying ht, sizeOf, typeInfo, hi, Builtin.lenOf, Builtin.firstCells]
  · simp [Builtin.append_, run_underlying ht, sizeOf, typeInfo, hi, Builtin.lenOf, Builtin.firstCells, hnc, storeCells]
theorem run_app {P : Program} {w : World} (base : Nat) (t ty e : TypeId) (z : Value) (size bytes : Nat) (ht : P.underlying t = some (.slice e))
    (hinfo : (P.info? e).map (fun i => (i.zero, i.size, i.bytes)) = some (some z, size, bytes)) (hzs : z.cells.size = size) (hsz : 0 < size)
    (v : Value) (n : Nat) (xs : List Value) (hown : w.ownsRow base e size v n xs) (A : Option Addr) (m c : Nat) (news : List Value) (hr : Src w A m size news) (h1 : ∀ u ∈ news, u.oneCell' = true)
    (h63 : n + m ≤ maxLen) (hbytes : (n + m) * bytes ≤ 140737488355328) (hbase : base ≤ w.heap.size) :
    ∃ v' w', (Builtin.append_ #[t, t] ty #[v, .slice A m c]).run P w = .ok v' w' ∧ w'.ownsRow base e size v' (n + m) (xs ++ news) ∧ w.grownBy w' v.ownBlock ∧
      (v'.ownBlock = v.ownBlock ∨ v'.ownBlock = some w.heap.size) := by
  obtain ⟨i, hi, hz, hsize, hby⟩ := info_parts hinfo
  rcases A with _ | ad
  · have hm : m = 0 := by
      rcases Nat.eq_zero_or_pos m with h0 | h0
      · exact h0
      · have hl : 0 < news.length := by rw [hr.1]; exact Nat.mul_pos h0 hsz
        obtain ⟨ad, h, _⟩ := hr.2 0 news[0] (by simp [hl])
        cases h
    subst hm
    have hn : news = [] := List.eq_nil_of_length_eq_zero (by simpa using hr.1)
    subst hn
    exact ⟨v, w, run_app_nil ht hi hown c, by simpa using hown, World.grownBy.refl w _, .inl rfl⟩
  · obtain ⟨v', w', hrun, h2, h3, _, h5⟩ := run_append_own_at (P := P) w base t ty e i z size bytes ht hi hz hsize hby hzs hsz v n xs hown ad m c news hr.1
      (fun j u hu => by obtain ⟨ad', e, hc⟩ := hr.2 j u hu; cases e; exact hc) h1 h63 hbytes hbase
    exact ⟨v', w', hrun, h2, h3, h5⟩
/-- append onto a row of the call's own, the source whatever -/
theorem wpList_app {P : Program} (w : World) {ops : Array Oper} {rest : List Oper} {o : Oper} {a : Act} {Q : Exit → Act → World → Prop} (hgd : o.guard = none) (s x : Operand) (t : TypeId)
    (ho : o.op = .call { callee := .builtin .append, args := #[s, x], argTypes := #[t, t] })
    (base : Nat) (e : TypeId) (z : Value) (size bytes : Nat) (ht : P.underlying t = some (.slice e))
    (hinfo : (P.info? e).map (fun i => (i.zero, i.size, i.bytes)) = some (some z, size, bytes)) (hzs : z.cells.size = size) (hsz : 0 < size)
    (v : Value) (n : Nat) (xs : List Value) (hs : a.eval s = v) (hown : w.ownsRow base e size v n xs)
    (A : Option Addr) (m c : Nat) (news : List Value) (hx : a.eval x = .slice A m c) (hr : Src w A m size news) (h1 : ∀ u ∈ news, u.oneCell' = true)
    (h63 : n + m ≤ maxLen) (hbytes : (n + m) * bytes ≤ 140737488355328) (hbase : base ≤ w.heap.size)
    (h : ∀ v' w', w'.ownsRow base e size v' (n + m) (xs ++ news) → w.grownBy w' v.ownBlock → (v'.ownBlock = v.ownBlock ∨ v'.ownBlock = some w.heap.size) → wpList P ops Q rest (a.put o.dst v') w') :
    wpList P ops Q (o :: rest) a w := by
  refine wpList_plain hgd fun K hK => ?_
  obtain ⟨v', w', hr, h2, h3, h5⟩ := run_app (P := P) base t o.type e z size bytes ht hinfo hzs hsz v n xs hown A m c news hr h1 h63 hbytes hbase
  unfold Oper.wp execOp
  simp only [ho, resolve, invoke, builtin, Sem.run_bind, Sem.run_pure, Result.andThen_ok, List.map_toArray, List.map_cons, List.map_nil, hs, hx, hr]
  exact hK _ _ (h v' w' h2 h3 h5)
/-- the row's own block lies from base on -/
theorem own_base {w : World} {base : Nat} {e : TypeId} {size n : Nat} {v : Value} {xs : List Value} (h : w.ownsRow base e size v n xs) (k : Nat) (hk : v.ownBlock = some k) : base ≤ k := (h.lt k hk).1
theorem below_own {w0 w w' : World} {base : Nat} {e : TypeId} {size n : Nat} {v : Value} {xs : List Value} (hb : Below w0.heap.size w0 w) (h : w.ownsRow base e size v n xs) (h0 : w0.heap.size ≤ base) (hg : w.grownBy w' v.ownBlock) : Below w0.heap.size w0 w' :=
  hb.grown hg hb.size fun k hk => Nat.le_trans h0 (own_base h k hk)
/-- an owned row is a slice -/
theorem own_slice {w : World} {base n : Nat} {e : TypeId} {size : Nat} {v : Value} {xs : List Value} (h : w.ownsRow base e size v n xs) :
    ∃ A c, v = .slice A n c ∧ n ≤ c ∧ Src w A n size xs := by
  refine ?_
  rcases h.2 with ⟨rfl, rfl⟩ | ⟨g, cap, cur, rfl, _, hh, hnc, _, _⟩
  · refine ⟨none, 0, rfl, Nat.le_refl _, h.1, fun j u hu => ?_⟩
    have : xs = [] := List.eq_nil_of_length_eq_zero (by simpa using h.1)
    subst this
    simp at hu
  · exact ⟨_, cap, rfl, hnc, h.1, fun j u hu => ⟨_, rfl, h.cells (g := g) rfl j u hu⟩⟩
theorem Src.row1 {α : Type} {enc : α → Value} {w : World} {A : Option Addr} {m : Nat} {xs : List α} (h : Src w A m 1 (xs.map enc)) : Row1 enc w A xs :=
  fun k x hk => h.2 k (enc x) (by simp [hk])
theorem Row1.src {α : Type} {enc : α → Value} {w : World} {A : Option Addr} {xs : List α} (h : Row1 enc w A xs) : Src w A xs.length 1 (xs.map enc) :=
  ⟨by simp, fun j u hu => by
    simp only [List.getElem?_map, Option.map_eq_some_iff] at hu
    obtain ⟨x, hx, rfl⟩ := hu
    exact h j x hx⟩

theorem plain_add (g j : Nat) : (⟨g, 0, none⟩ : Addr).add j = ⟨g, j, none⟩ := by unfold Addr.add; split <;> simp_all
/-- a new block of these cells -/
theorem new_row {α : Type} (enc : α → Value) (w : World) (xs : List α) (cs : Array Value) (t : TypeId) (h : cs = (xs.map enc).toArray) : Row1 enc (w.alloc (.cells cs t)) (some ⟨w.heap.size, 0, none⟩) xs := by
  subst h
  intro k x hx
  refine ⟨_, rfl, ?_⟩
  rw [plain_add, cell_of_row _ _ _ _ _ _ (heap_alloc_new w _)]
  simp [hx]
theorem new_src (w : World) (m size : Nat) (cs : Array Value) (t : TypeId) (h : cs.size = m * size) : Src (w.alloc (.cells cs t)) (some ⟨w.heap.size, 0, none⟩) m size cs.toList :=
  ⟨by simpa using h, fun j u hu => ⟨_, rfl, by rw [plain_add, cell_of_row _ _ _ _ _ _ (heap_alloc_new w _)]; simpa using hu⟩⟩

/-- the place of the first one of which p holds; -1 -/
def idx {α : Type} (p : α → Bool) : List α → Int
  | [] => -1
  | x :: r => if p x then 0 else if idx p r < 0 then -1 else idx p r + 1
theorem idx_any {α : Type} (p : α → Bool) (xs : List α) : decide (0 ≤ idx p xs) = xs.any p := by
  induction xs with
  | nil => rfl
  | cons x r ih =>
    simp only [idx, List.any_cons]
    by_cases h : p x = true
    · simp [h]
    · simp only [h, if_false, Bool.false_or]
      rw [← ih]
      by_cases h2 : idx p r < 0
      · rw [if_pos h2]; simp; omega
      · rw [if_neg h2]; simp; omega
theorem idx_at {α : Type} (p : α → Bool) : ∀ (xs : List α) (k : Nat) (x : α), xs[k]? = some x → (∀ (j : Nat) (y : α), j < k → xs[j]? = some y → p y = false) → p x = true → idx p xs = k
  | [], k, x, h, _, _ => by simp at h
  | y :: r, 0, x, h, _, hp => by
    simp only [List.getElem?_cons_zero, Option.some.injEq] at h
    subst h
    simp [idx, hp]
  | y :: r, k + 1, x, h, hn, hp => by
    have h0 : p y = false := hn 0 y (by omega) rfl
    have ih := idx_at p r k x (by simpa using h) (fun j z hj hz => hn (j + 1) z (by omega) (by simpa using hz)) hp
    simp only [idx, h0, ih]
    simp
    omega
theorem idx_none {α : Type} (p : α → Bool) : ∀ (xs : List α), (∀ (j : Nat) (y : α), xs[j]? = some y → p y = false) → idx p xs = -1
  | [], _ => rfl
  | y :: r, hn => by
    have h0 : p y = false := hn 0 y rfl
    have ih := idx_none p r fun j z hz => hn (j + 1) z (by simpa using hz)
    simp [idx, h0, ih]
end Go.Proofs.Ytbblhhkacdgmiaa
namespace Go.Proofs.Ytbblhhkacdgmiaa
open Go.RowKit
set_option linter.unusedVariables false
set_option linter.unusedSimpArgs false

/-- A tree: a head, and kids. -/
inductive T (α : Type) where
  | mk (a : α) (kids : List (T α))

namespace T
variable {α : Type}
def head : T α → α | .mk a _ => a
def kids : T α → List (T α) | .mk _ ks => ks

mutual
/-- how many nodes -/
def size : T α → Nat
  | .mk _ ks => 1 + sizes ks
def sizes : List (T α) → Nat
  | [] => 0
  | t :: ts => size t + sizes ts
end
theorem size_pos (t : T α) : 1 ≤ t.size := by cases t; simp only [size]; omega
theorem sizes_mem {t : T α} {ts : List (T α)} (h : t ∈ ts) : t.size ≤ sizes ts := by
  induction ts with
  | nil => cases h
  | cons x r ih =>
    simp only [sizes]
    cases List.mem_cons.1 h with
    | inl e => subst e; omega
    | inr e => have := ih e; omega
theorem length_le_sizes (ts : List (T α)) : ts.length ≤ sizes ts := by
  induction ts with
  | nil => simp
  | cons x r ih => have := size_pos x; simp only [sizes, List.length_cons]; omega
theorem sizes_append (xs ys : List (T α)) : sizes (xs ++ ys) = sizes xs + sizes ys := by
  induction xs with
  | nil => simp [sizes]
  | cons x r ih => simp only [List.cons_append, sizes, ih]; omega
end T

/-- How a head lies in memory: so many cells, the slice of the kids behind them. -/
structure Enc (α : Type) where
  sz : Nat
  cells : α → List Value
  len : ∀ a, (cells a).length = sz
  one : ∀ a, ∀ u ∈ cells a, u.oneCell' = true

section
variable {α : Type} (E : Enc α)
mutual
/-- the cells of a tree; what it leads to lies in blocks that are ok -/
def InT (ok : Nat → Prop) (w : World) : T α → List Value → Prop
  | .mk a ks, cs => ∃ A c, cs = E.cells a ++ [.slice A ks.length c] ∧ ks.length ≤ c ∧ InRow ok w ks A 0
/-- a row of trees, from the i-th place on -/
def InRow (ok : Nat → Prop) (w : World) : List (T α) → Option Addr → Nat → Prop
  | [], _, _ => True
  | t :: ts, A, i => (∃ ad cs, A = some ad ∧ ok ad.block ∧ (∀ j u, cs[j]? = some u → w.cell? (ad.add (i * (E.sz + 1) + j)) = some u) ∧ InT ok w t cs) ∧ InRow ok w ts A (i + 1)
end
variable {E} {ok : Nat → Prop}
theorem InT.length {w : World} {t : T α} {cs : List Value} (h : InT E ok w t cs) : cs.length = E.sz + 1 := by
  cases t with
  | mk a ks =>
    simp only [InT] at h
    obtain ⟨A, c, rfl, _⟩ := h
    simp [E.len]
theorem InRow.at_ {w : World} : ∀ {ts : List (T α)} {A : Option Addr} {i : Nat}, InRow E ok w ts A i → ∀ (k : Nat) (t : T α), ts[k]? = some t →
    ∃ ad cs, A = some ad ∧ ok ad.block ∧ (∀ j u, cs[j]? = some u → w.cell? (ad.add ((i + k) * (E.sz + 1) + j)) = some u) ∧ InT E ok w t cs
  | [], _, _, _, k, t, hk => by simp at hk
  | x :: ts, A, i, h, 0, t, hk => by
    simp only [List.getElem?_cons_zero, Option.some.injEq] at hk
    subst hk
    simp only [InRow] at h
    exact h.1
  | x :: ts, A, i, h, k + 1, t, hk => by
    simp only [List.getElem?_cons_succ] at hk
    have h2 : InRow E ok w ts A (i + 1) := by
      simp only [InRow] at h
      exact h.2
    have := h2.at_ k t hk
    rwa [show i + 1 + k = i + (k + 1) by omega] at this
theorem InRow.mk_ {w : World} {A : Option Addr} : ∀ (ts : List (T α)) (i : Nat),
    (∀ k t, ts[k]? = some t → ∃ ad cs, A = some ad ∧ ok ad.block ∧ (∀ j u, cs[j]? = some u → w.cell? (ad.add ((i + k) * (E.sz + 1) + j)) = some u) ∧ InT E ok w t cs) → InRow E ok w ts A i
  | [], i, _ => by simp [InRow]
  | x :: ts, i, h => by
    simp only [InRow]
    refine ⟨h 0 x rfl, InRow.mk_ ts (i + 1) fun k t hk => ?_⟩
    rw [show i + 1 + k = i + (k + 1) by omega]
    exact h (k + 1) t (by simpa using hk)
mutual
theorem InT.keep {ok' : Nat → Prop} {w w' : World} (hok : ∀ b, ok b → ok' b) (hk : ∀ a v, ok a.block → w.cell? a = some v → w'.cell? a = some v) : ∀ {t : T α} {cs : List Value}, InT E ok w t cs → InT E ok' w' t cs
  | .mk a ks, cs, h => by
    simp only [InT] at h ⊢
    obtain ⟨A, c, e, hc, hr⟩ := h
    exact ⟨A, c, e, hc, InRow.keep hok hk hr⟩
theorem InRow.keep {ok' : Nat → Prop} {w w' : World} (hok : ∀ b, ok b → ok' b) (hk : ∀ a v, ok a.block → w.cell? a = some v → w'.cell? a = some v) : ∀ {ts : List (T α)} {A : Option Addr} {i : Nat}, InRow E ok w ts A i → InRow E ok' w' ts A i
  | [], _, _, _ => by simp [InRow]
  | t :: ts, A, i, h => by
    simp only [InRow] at h ⊢
    obtain ⟨⟨ad, cs, e, ho, hc, ht⟩, hr⟩ := h
    exact ⟨⟨ad, cs, e, hok _ ho, fun j u hu => hk _ _ (by rw [block_add]; exact ho) (hc j u hu), InT.keep hok hk ht⟩, InRow.keep hok hk hr⟩
end
theorem InT.below {w w' : World} (hb : Below w.heap.size w w') {t : T α} {cs : List Value} (h : InT E ok w t cs) : InT E ok w' t cs := h.keep (fun _ h => h) fun _ _ _ => keep_cell hb
theorem InRow.below {w w' : World} (hb : Below w.heap.size w w') {ts : List (T α)} {A : Option Addr} {i : Nat} (h : InRow E ok w ts A i) : InRow E ok w' ts A i := h.keep (fun _ h => h) fun _ _ _ => keep_cell hb
theorem InT.weak {ok' : Nat → Prop} {w : World} (hok : ∀ b, ok b → ok' b) {t : T α} {cs : List Value} (h : InT E ok w t cs) : InT E ok' w t cs := h.keep hok fun _ _ _ h => h
theorem InRow.weak {ok' : Nat → Prop} {w : World} (hok : ∀ b, ok b → ok' b) {ts : List (T α)} {A : Option Addr} {i : Nat} (h : InRow E ok w ts A i) : InRow E ok' w ts A i := h.keep hok fun _ _ _ h => h
/-- behind an append or a make: only the row's own block may have turned, and that is not ok -/
theorem InT.grown {w w' : World} {row : Option Nat} (hg : w.grownBy w' row) (hne : ∀ b, ok b → some b ≠ row) {t : T α} {cs : List Value} (h : InT E ok w t cs) : InT E ok w' t cs :=
  h.keep (fun _ h => h) fun a v ho hc => hg.cell hc (hne _ ho)
theorem InRow.grown {w w' : World} {row : Option Nat} (hg : w.grownBy w' row) (hne : ∀ b, ok b → some b ≠ row) {ts : List (T α)} {A : Option Addr} {i : Nat} (h : InRow E ok w ts A i) : InRow E ok w' ts A i :=
  h.keep (fun _ h => h) fun a v ho hc => hg.cell hc (hne _ ho)
mutual
/-- the blocks that a tree leads to are there -/
theorem InT.there {w : World} : ∀ {t : T α} {cs : List Value}, InT E ok w t cs → InT E (fun b => ok b ∧ b < w.heap.size) w t cs
  | .mk a ks, cs, h => by
    simp only [InT] at h ⊢
    obtain ⟨A, c, e, hc, hr⟩ := h
    exact ⟨A, c, e, hc, InRow.there hr⟩
theorem InRow.there {w : World} : ∀ {ts : List (T α)} {A : Option Addr} {i : Nat}, InRow E ok w ts A i → InRow E (fun b => ok b ∧ b < w.heap.size) w ts A i
  | [], _, _, _ => by simp [InRow]
  | t :: ts, A, i, h => by
    simp only [InRow] at h ⊢
    obtain ⟨⟨ad, cs, e, ho, hc, ht⟩, hr⟩ := h
    have hl : 0 < cs.length := by rw [ht.length]; omega
    have := World.block_lt_of_cell? w _ (hc 0 cs[0] (by simp [hl]))
    rw [block_add] at this
    exact ⟨⟨ad, cs, e, ⟨ho, this⟩, hc, InT.there ht⟩, InRow.there hr⟩
end

/-- the cells of a row, one behind the other -/
theorem InRow.cells {w : World} : ∀ {ts : List (T α)} {A : Option Addr} {i : Nat}, InRow E ok w ts A i →
    ∃ news : List Value, news.length = ts.length * (E.sz + 1) ∧ (∀ j u, news[j]? = some u → ∃ ad, A = some ad ∧ w.cell? (ad.add (i * (E.sz + 1) + j)) = some u) ∧ (∀ u ∈ news, u.oneCell' = true) ∧
      ∀ (k : Nat) (t : T α), ts[k]? = some t → ∃ c, (∀ j u, c[j]? = some u → news[k * (E.sz + 1) + j]? = some u) ∧ InT E ok w t c
  | [], A, i, _ => ⟨[], by simp, fun j u h => by simp at h, fun u h => by simp at h, fun k t h => by simp at h⟩
  | t :: ts, A, i, h => by
    simp only [InRow] at h
    obtain ⟨⟨ad, cs, e, ho, hc, ht⟩, hr⟩ := h
    obtain ⟨news, hl, hn, h1, hk⟩ := InRow.cells hr
    have hcl := ht.length
    refine ⟨cs ++ news, by rw [List.length_append, hcl, hl, List.length_cons, Nat.succ_mul]; omega, fun j u hu => ?_, fun u hu => ?_, fun k x hx => ?_⟩
    · by_cases hj : j < cs.length
      · rw [List.getElem?_append_left hj] at hu
        exact ⟨ad, e, hc j u hu⟩
      · rw [List.getElem?_append_right (by omega), hcl] at hu
        obtain ⟨ad', e', hc'⟩ := hn _ u hu
        refine ⟨ad', e', ?_⟩
        rw [← hc']
        congr 2
        rw [Nat.succ_mul]
        omega
    · rw [List.mem_append] at hu
      rcases hu with hu | hu
      · obtain ⟨a, ks⟩ := t
        simp only [InT] at ht
        obtain ⟨A', c', rfl, _⟩ := ht
        rw [List.mem_append] at hu
        rcases hu with hu | hu
        · exact E.one a u hu
        · simp at hu; subst hu; rfl
      · exact h1 u hu
    · cases k with
      | zero =>
        simp only [List.getElem?_cons_zero, Option.some.injEq] at hx
        subst hx
        exact ⟨cs, fun j u hu => by rw [Nat.zero_mul, Nat.zero_add, List.getElem?_append_left (List.getElem?_eq_some_iff.1 hu).1]; exact hu, ht⟩
      | succ k =>
        obtain ⟨c, h2, h3⟩ := hk k x (by simpa using hx)
        refine ⟨c, fun j u hu => ?_, h3⟩
        rw [List.getElem?_append_right (by rw [hcl, Nat.succ_mul]; omega), ← h2 j u hu, hcl]
        congr 1
        rw [Nat.succ_mul]
        omega

/-- A slice value of the call's own that holds these trees; what they lead to lies outside the slice's own block. -/
def OwnT (E : Enc α) (ok : Nat → Prop) (w : World) (base : Nat) (e : TypeId) (v : Value) (ts : List (T α)) : Prop :=
  (∀ b, ok b → some b ≠ v.ownBlock) ∧ ∃ cs, w.ownsRow base e (E.sz + 1) v ts.length cs ∧ ∀ (k : Nat) (t : T α), ts[k]? = some t → ∃ c, (∀ j u, c[j]? = some u → cs[k * (E.sz + 1) + j]? = some u) ∧ InT E ok w t c
section
variable {w w' : World} {base : Nat} {e : TypeId} {v v' : Value} {ts ys : List (T α)}
theorem OwnT.nil_ (E : Enc α) (ok : Nat → Prop) (w : World) (base : Nat) (e : TypeId) : OwnT E ok w base e (.slice none 0 0) [] :=
  ⟨fun b _ => by simp [Value.ownBlock], [], World.ownsRow_nil _ _ _ _, fun k t h => by simp at h⟩
/-- it is a slice, and reads as a row -/
theorem OwnT.row (h : OwnT E ok w base e v ts) : ∃ A c, v = .slice A ts.length c ∧ ts.length ≤ c ∧ InRow E (fun b => ok b ∨ v.ownBlock = some b) w ts A 0 := by
  obtain ⟨_, cs, ho, hk⟩ := h
  obtain ⟨A, c, rfl, hc, hs⟩ := own_slice ho
  refine ⟨A, c, rfl, hc, InRow.mk_ ts 0 fun k t ht => ?_⟩
  obtain ⟨c1, h1, h2⟩ := hk k t ht
  have hl : 0 < c1.length := by rw [h2.length]; omega
  obtain ⟨ad, e1, _⟩ := hs.2 _ c1[0] (h1 0 c1[0] (by simp [hl]))
  refine ⟨ad, c1, e1, .inr (by rw [e1]; rfl), fun j u hu => ?_, h2.weak fun b hb => .inl hb⟩
  obtain ⟨ad', e2, hc2⟩ := hs.2 _ u (h1 j u hu)
  rw [e1] at e2
  cases e2
  rw [Nat.zero_add]
  exact hc2
theorem OwnT.keep (h : OwnT E ok w base e v ts) (hb : Below w.heap.size w w') : OwnT E ok w' base e v ts := by
  obtain ⟨h0, cs, ho, hk⟩ := h
  refine ⟨h0, cs, ?_, fun k t ht => ?_⟩
  · refine ho.kept (w' := w') (row := none) ⟨hb.os, hb.tape, hb.output, hb.size, fun k hk _ => hb.block k hk⟩ (by cases hv : v.ownBlock <;> simp)
  · obtain ⟨c, h1, h2⟩ := hk k t ht
    exact ⟨c, h1, h2.below hb⟩
theorem OwnT.own (h : OwnT E ok w base e v ts) : ∃ cs, w.ownsRow base e (E.sz + 1) v ts.length cs := h.2.elim fun cs h => ⟨cs, h.1⟩
/-- what lies in it, as an append takes it -/
theorem OwnT.src (h : OwnT E ok w base e v ts) : ∃ cs A c, v = .slice A ts.length c ∧ Src w A ts.length (E.sz + 1) cs ∧ (∀ u ∈ cs, u.oneCell' = true) ∧
    ∀ (k : Nat) (t : T α), ts[k]? = some t → ∃ c, (∀ j u, c[j]? = some u → cs[k * (E.sz + 1) + j]? = some u) ∧ InT E ok w t c := by
  obtain ⟨_, cs, ho, hk⟩ := h
  obtain ⟨A, c, rfl, _, hs⟩ := own_slice ho
  refine ⟨cs, A, c, rfl, hs, fun u hu => ?_, hk⟩
  obtain ⟨i, hi, rfl⟩ := List.mem_iff_getElem.1 hu
  have hi' : i < ts.length * (E.sz + 1) := by rw [← hs.1]; exact hi
  have hkl : i / (E.sz + 1) < ts.length := Nat.div_lt_of_lt_mul (by rw [Nat.mul_comm]; exact hi')
  obtain ⟨c1, h1, h2⟩ := hk (i / (E.sz + 1)) ts[i / (E.sz + 1)] (by simp [hkl])
  have hj : i % (E.sz + 1) < c1.length := by rw [h2.length]; exact Nat.mod_lt _ (by omega)
  have h3 := h1 _ _ (List.getElem?_eq_getElem hj)
  rw [show i / (E.sz + 1) * (E.sz + 1) + i % (E.sz + 1) = i by rw [Nat.mul_comm]; exact Nat.div_add_mod i _] at h3
  have h4 : cs[i] = c1[i % (E.sz + 1)] := by rw [List.getElem?_eq_getElem hi] at h3; exact Option.some.inj h3
  rw [h4]
  generalize ts[i / (E.sz + 1)] = t at h2
  obtain ⟨a, ks⟩ := t
  simp only [InT] at h2
  obtain ⟨A', c', rfl, _⟩ := h2
  have hm := List.getElem_mem hj
  rw [List.mem_append] at hm
  rcases hm with hm | hm
  · exact E.one a _ hm
  · simp only [List.mem_singleton] at hm; rw [hm]; rfl
theorem own_lower {xs : List Value} {size n base' : Nat} (h : w.ownsRow base e size v n xs) (hb : base' ≤ base) : w.ownsRow base' e size v n xs := by
  obtain ⟨h1, h2⟩ := h
  refine ⟨h1, ?_⟩
  rcases h2 with h2 | ⟨g, cap, cur, hv, hg, r⟩
  · exact .inl h2
  · exact .inr ⟨g, cap, cur, hv, Nat.le_trans hb hg, r⟩
theorem OwnT.lower {base' : Nat} (h : OwnT E ok w base e v ts) (hb : base' ≤ base) : OwnT E ok w base' e v ts :=
  ⟨h.1, h.2.elim fun cs h => ⟨cs, own_lower h.1 hb, h.2⟩⟩
theorem OwnT.narrow {ok' : Nat → Prop} (h : OwnT E ok w base e v ts) (hok : ∀ b, ok b → ok' b) (h0 : ∀ b, ok' b → some b ≠ v.ownBlock) : OwnT E ok' w base e v ts :=
  ⟨h0, h.2.elim fun cs h => ⟨cs, h.1, fun k t ht => (h.2 k t ht).elim fun c h => ⟨c, h.1, h.2.weak hok⟩⟩⟩
/-- what an append leaves -/
theorem OwnT.app {cs news : List Value} (h0 : ∀ b, ok b → some b ≠ v.ownBlock) (ho : w.ownsRow base e (E.sz + 1) v ts.length cs)
    (hk : ∀ (k : Nat) (t : T α), ts[k]? = some t → ∃ c, (∀ j u, c[j]? = some u → cs[k * (E.sz + 1) + j]? = some u) ∧ InT E ok w t c)
    (hkn : ∀ (k : Nat) (t : T α), ys[k]? = some t → ∃ c, (∀ j u, c[j]? = some u → news[k * (E.sz + 1) + j]? = some u) ∧ InT E ok w t c)
    (ho' : w'.ownsRow base e (E.sz + 1) v' (ts.length + ys.length) (cs ++ news)) (hg : w.grownBy w' v.ownBlock) (hat : v'.ownBlock = v.ownBlock ∨ v'.ownBlock = some w.heap.size) (hlt : ∀ b, ok b → b < w.heap.size) :
    OwnT E ok w' base e v' (ts ++ ys) := by
  refine ⟨fun b hb => ?_, cs ++ news, by rw [List.length_append]; exact ho', fun k t ht => ?_⟩
  · rcases hat with hat | hat
    · rw [hat]; exact h0 b hb
    · rw [hat]; intro e; cases e; exact Nat.lt_irrefl _ (hlt _ hb)
  · by_cases hkl : k < ts.length
    · rw [List.getElem?_append_left hkl] at ht
      obtain ⟨c, h1, h2⟩ := hk k t ht
      refine ⟨c, fun j u hu => ?_, h2.grown hg h0⟩
      have := h1 j u hu
      rw [List.getElem?_append_left (List.getElem?_eq_some_iff.1 this).1]
      exact this
    · rw [List.getElem?_append_right (by omega)] at ht
      obtain ⟨c, h1, h2⟩ := hkn _ t ht
      refine ⟨c, fun j u hu => ?_, h2.grown hg h0⟩
      have := h1 j u hu
      have e1 : k * (E.sz + 1) = ts.length * (E.sz + 1) + (k - ts.length) * (E.sz + 1) := by rw [← Nat.add_mul]; congr 1; omega
      rw [List.getElem?_append_right (by rw [ho.1, e1]; omega), ho.1, ← this]
      congr 1
      omega
end
end

/-- A set: its four words. -/
structure S4 where
  a : UInt64
  b : UInt64
  c : UInt64
  d : UInt64
  deriving DecidableEq

theorem run_equalIn_four {P : Program} (w : World) (d : Nat) (t e : TypeId) (ht : P.underlying t = some (.array 4 e)) (he : P.underlying e = some (.int .u64)) (hs : ∀ w, (sizeOf e).run P w = .ok 1 w) (ha : ∀ w, (isAgg e).run P w = .ok false w) (x0 x1 x2 x3 y0 y1 y2 y3 : Int) :
    (Op.equalIn (d + 2) t (.agg #[.int .u64 x0, .int .u64 x1, .int .u64 x2, .int .u64 x3]) (.agg #[.int .u64 y0, .int .u64 y1, .int .u64 y2, .int .u64 y3])).run P w = .ok (x0 == y0 && (x1 == y1 && (x2 == y2 && x3 == y3))) w := by
  rw [Op.equalIn]
  simp only [Sem.run_bind, run_underlying ht, Result.andThen]
  simp [hs, ha, Std.Legacy.Range.forIn_eq_forIn_range', List.range', part, Result.andThen, run_equalIn_int w d e .u64 .u64 _ _ he]
  by_cases h0 : x0 = y0 <;> by_cases h1 : x1 = y1 <;> by_cases h2 : x2 = y2 <;> by_cases h3 : x3 = y3 <;> simp [h0, h1, h2, h3, ha, Result.andThen, Sem.run_pure, Sem.run_bind, run_equalIn_int w d e .u64 .u64 _ _ he, Functor.map]
theorem run_eql_four {P : Program} (w : World) (t e : TypeId) (ht : P.underlying t = some (.array 4 e)) (he : P.underlying e = some (.int .u64)) (hs : ∀ w, (sizeOf e).run P w = .ok 1 w) (ha : ∀ w, (isAgg e).run P w = .ok false w) (x0 x1 x2 x3 y0 y1 y2 y3 : Int) :
    (binOp .eql t (.agg #[.int .u64 x0, .int .u64 x1, .int .u64 x2, .int .u64 x3]) (.agg #[.int .u64 y0, .int .u64 y1, .int .u64 y2, .int .u64 y3])).run P w = .ok (.bool (x0 == y0 && (x1 == y1 && (x2 == y2 && x3 == y3)))) w := by
  rw [run_eql_struct, run_equalIn_four w 9998 t e ht he hs ha]
  rfl
theorem run_neq_four {P : Program} (w : World) (t e : TypeId) (ht : P.underlying t = some (.array 4 e)) (he : P.underlying e = some (.int .u64)) (hs : ∀ w, (sizeOf e).run P w = .ok 1 w) (ha : ∀ w, (isAgg e).run P w = .ok false w) (x0 x1 x2 x3 y0 y1 y2 y3 : Int) :
    (binOp .neq t (.agg #[.int .u64 x0, .int .u64 x1, .int .u64 x2, .int .u64 x3]) (.agg #[.int .u64 y0, .int .u64 y1, .int .u64 y2, .int .u64 y3])).run P w = .ok (.bool (!(x0 == y0 && (x1 == y1 && (x2 == y2 && x3 == y3))))) w := by
  rw [run_neq_struct, run_equalIn_four w 9998 t e ht he hs ha]
  rfl

theorem S4.ext_iff_ {s t : S4} : s = t ↔ s.a = t.a ∧ s.b = t.b ∧ s.c = t.c ∧ s.d = t.d := by
  constructor
  · rintro rfl; exact ⟨rfl, rfl, rfl, rfl⟩
  · cases s; cases t; rintro ⟨rfl, rfl, rfl, rfl⟩; rfl
theorem u64_beq (x y : UInt64) : ((x.toNat : Int) == (y.toNat : Int)) = decide (x = y) := by
  rw [Bool.eq_iff_iff]
  simp only [beq_iff_eq, decide_eq_true_eq, Int.natCast_inj]
  exact ⟨fun h => UInt64.toNat_inj.1 h, fun h => by rw [h]⟩
theorem S4.beq (s t : S4) : ((s.a.toNat : Int) == (t.a.toNat : Int) && ((s.b.toNat : Int) == (t.b.toNat : Int) && ((s.c.toNat : Int) == (t.c.toNat : Int) && (s.d.toNat : Int) == (t.d.toNat : Int)))) = decide (s = t) := by
  simp only [u64_beq]
  rw [Bool.eq_iff_iff]
  simp [S4.ext_iff_]
def S4.zero : S4 := ⟨0, 0, 0, 0⟩
/-- '==' of two sets -/
theorem run_eql_set (s t : S4) : ∀ w : World, (binOp .eql 25 (.agg #[.int .u64 (s.a.toNat : Int), .int .u64 (s.b.toNat : Int), .int .u64 (s.c.toNat : Int), .int .u64 (s.d.toNat : Int)])
    (.agg #[.int .u64 (t.a.toNat : Int), .int .u64 (t.b.toNat : Int), .int .u64 (t.c.toNat : Int), .int .u64 (t.d.toNat : Int)])).run Try.prog w = .ok (.bool (decide (s = t))) w := by
  intro w
  rw [run_eql_four w 25 23 Try.underlying25 Try.underlying23 Try.sizeOf23 Try.isAgg23, S4.beq]
theorem run_neq_set (s t : S4) : ∀ w : World, (binOp .neq 25 (.agg #[.int .u64 (s.a.toNat : Int), .int .u64 (s.b.toNat : Int), .int .u64 (s.c.toNat : Int), .int .u64 (s.d.toNat : Int)])
    (.agg #[.int .u64 (t.a.toNat : Int), .int .u64 (t.b.toNat : Int), .int .u64 (t.c.toNat : Int), .int .u64 (t.d.toNat : Int)])).run Try.prog w = .ok (.bool (!decide (s = t))) w := by
  intro w
  rw [run_neq_four w 25 23 Try.underlying25 Try.underlying23 Try.sizeOf23 Try.isAgg23, S4.beq]
theorem run_eql_zero (s : S4) : ∀ w : World, (binOp .eql 25 (.agg #[.int .u64 (s.a.toNat : Int), .int .u64 (s.b.toNat : Int), .int .u64 (s.c.toNat : Int), .int .u64 (s.d.toNat : Int)])
    (.agg #[.int .u64 0, .int .u64 0, .int .u64 0, .int .u64 0])).run Try.prog w = .ok (.bool (decide (s = S4.zero))) w := run_eql_set s S4.zero

/-- An expression's head: its kind and its set. -/
structure RH where
  k : UInt8
  s : S4
  deriving DecidableEq
abbrev Re := T RH
def RH.cells (h : RH) : List Value := [.int .u8 (h.k.toNat : Int), .int .u64 (h.s.a.toNat : Int), .int .u64 (h.s.b.toNat : Int), .int .u64 (h.s.c.toNat : Int), .int .u64 (h.s.d.toNat : Int)]
def RE : Enc RH := ⟨5, RH.cells, fun _ => rfl, fun a u hu => by simp [RH.cells] at hu; rcases hu with rfl | rfl | rfl | rfl | rfl <;> rfl⟩
end Go.Proofs.Ytbblhhkacdgmiaa
namespace Go.Proofs.Ytbblhhkacdgmiaa
open Go.RowKit
set_option linter.unusedVariables false
set_option linter.unusedSimpArgs false

theorem cell_0 {ad : Addr} {w : World} {i s : Nat} {cs : List Value} (h : ∀ j u, cs[j]? = some u → w.cell? (ad.add (i * s + j)) = some u) {u : Value} (hu : cs[0]? = some u) :
    w.cell? (ad.add (i * s)) = some u := by
  have := h 0 u hu
  simpa using this
theorem cell_j {ad : Addr} {w : World} {i s : Nat} {cs : List Value} (h : ∀ j u, cs[j]? = some u → w.cell? (ad.add (i * s + j)) = some u) (j : Nat) (hj : j ≠ 0) {u : Value} (hu : cs[j]? = some u) :
    w.cell? ⟨(ad.add (i * s)).block, (ad.add (i * s)).off + j, none⟩ = some u := by
  have := h j u hu
  rw [← this]
  congr 1
  unfold Addr.add
  by_cases h0 : i * s = 0 <;> simp [h0, hj, Nat.add_assoc]

/-- an expression as a value -/
abbrev reV (h : RH) (A : Option Addr) (n c : Nat) : Value :=
  .agg #[.int .u8 (h.k.toNat : Int), .int .u64 (h.s.a.toNat : Int), .int .u64 (h.s.b.toNat : Int), .int .u64 (h.s.c.toNat : Int), .int .u64 (h.s.d.toNat : Int), .slice A n c]
/-- an expression in a row: its cells -/
theorem re_at {ok : Nat → Prop} {w : World} {ts : List Re} {A : Option Addr} (hr : InRow RE ok w ts A 0) {k : Nat} (hk : k < ts.length) :
    ∃ (t : Re) (ad : Addr) (h : RH) (ks : List Re) (A1 : Option Addr) (c1 : Nat), A = some ad ∧ ts[k]? = some t ∧ t = .mk h ks ∧ ks.length ≤ c1 ∧ InRow RE ok w ks A1 0 ∧
      w.cell? (ad.add (k * 6)) = some (.int .u8 (h.k.toNat : Int)) ∧
      w.cell? ⟨(ad.add (k * 6)).block, (ad.add (k * 6)).off + 1, none⟩ = some (.int .u64 (h.s.a.toNat : Int)) ∧
      w.cell? ⟨(ad.add (k * 6)).block, (ad.add (k * 6)).off + 2, none⟩ = some (.int .u64 (h.s.b.toNat : Int)) ∧
      w.cell? ⟨(ad.add (k * 6)).block, (ad.add (k * 6)).off + 3, none⟩ = some (.int .u64 (h.s.c.toNat : Int)) ∧
      w.cell? ⟨(ad.add (k * 6)).block, (ad.add (k * 6)).off + 4, none⟩ = some (.int .u64 (h.s.d.toNat : Int)) ∧
      w.cell? ⟨(ad.add (k * 6)).block, (ad.add (k * 6)).off + 5, none⟩ = some (.slice A1 ks.length c1) := by
  have hk' : ts[k]? = some ts[k] := by simp [hk]
  obtain ⟨ad, cs, hA, _, hc, ht⟩ := hr.at_ k _ hk'
  rw [Nat.zero_add] at hc
  generalize ts[k] = t at *
  obtain ⟨h, ks⟩ := t
  simp only [InT] at ht
  obtain ⟨A1, c1, rfl, hc1, hr1⟩ := ht
  exact ⟨_, ad, h, ks, A1, c1, hA, hk', rfl, hc1, hr1, cell_0 hc rfl, cell_j hc 1 (by decide) rfl, cell_j hc 2 (by decide) rfl, cell_j hc 3 (by decide) rfl, cell_j hc 4 (by decide) rfl, cell_j hc 5 (by decide) rfl⟩

/-- a node alone may be: its head, and how many kids it has -/
def okNode (h : RH) (n : Nat) : Bool :=
  if h.k.toNat = 1 ∨ h.k.toNat = 2 then decide (n = 0) && decide (h.s = S4.zero)
  else if h.k.toNat = 3 then decide (n = 0) && !decide (h.s = S4.zero)
  else if h.k.toNat = 4 ∨ h.k.toNat = 5 then decide (n = 2) && decide (h.s = S4.zero)
  else if h.k.toNat = 6 then decide (n = 1) && decide (h.s = S4.zero)
  else false
mutual
def okT : Re → Bool
  | .mk h ks => okNode h ks.length && okL ks
def okL : List Re → Bool
  | [] => true
  | t :: ts => okT t && okL ts
end
theorem okL_all (ts : List Re) : okL ts = ts.all okT := by
  induction ts with
  | nil => simp [okL]
  | cons t r ih => simp [okL, ih]
/-- an expression may be -/
def mayB (t : Re) : Bool := okT t && decide (t.size ≤ 2000)

set_option maxHeartbeats 1000000 in
theorem node_any (h : RH) (A : Option Addr) (n c : Nat) (w : World) (hn : n ≤ 1000000000) :
    Calls Try.prog 35 #[reV h A n c] w fun e w' => e = .returned (.bool (okNode h n)) ∧ Below w.heap.size w w' := by
  have hk := h.k.toNat_lt
  have hq := run_eql_zero h.s
  have hb : Below w.heap.size w (w.alloc (.cells #[.int .u8 (h.k.toNat : Int), .int .u64 (h.s.a.toNat : Int), .int .u64 (h.s.b.toNat : Int), .int .u64 (h.s.c.toNat : Int), .int .u64 (h.s.d.toNat : Int), .slice A n c] 30)) := below_new (Below.refl _ _) _
  have HO : Hid (okNode h n = if h.k.toNat = 1 ∨ h.k.toNat = 2 then decide (n = 0) && decide (h.s = S4.zero)
      else if h.k.toNat = 3 then decide (n = 0) && !decide (h.s = S4.zero)
      else if h.k.toNat = 4 ∨ h.k.toNat = 5 then decide (n = 2) && decide (h.s = S4.zero)
      else if h.k.toNat = 6 then decide (n = 1) && decide (h.s = S4.zero) else false) := rfl
  have e0 : ((n : Int) == 0) = decide (n = 0) := by rw [Bool.eq_iff_iff]; simp
  have e1 : ((n : Int) == 1) = decide (n = 1) := by rw [Bool.eq_iff_iff]; simp; omega
  have e2 : ((n : Int) == 2) = decide (n = 2) := by rw [Bool.eq_iff_iff]; simp; omega
  generalize decide (h.s = S4.zero) = bz at *
  go_enter Try.func35, Try.ntmps35
  go_wp2_with fail
  go_quiet (fail)
  clear hq
  have hbq := pw_drewN hb nq
  have hcase : h.k.toNat = 1 ∨ h.k.toNat = 2 ∨ h.k.toNat = 3 ∨ h.k.toNat = 4 ∨ h.k.toNat = 5 ∨ h.k.toNat = 6 ∨ h.k.toNat = 0 ∨ 6 < h.k.toNat := by omega
  generalize h.k.toNat = kk at *
  rcases hcase with rfl | rfl | rfl | rfl | rfl | rfl | rfl | h6
  · by_cases hm : n = 0
    · subst hm
      go_wp2_with fail
      go_ret
      exact ⟨by rw [HO.out]; rfl, hbq⟩
    · rw [decide_eq_false hm] at e0
      go_wp2_with fail
      go_ret
      refine ⟨?_, hbq⟩
      rw [HO.out]
      refine ret_bool ?_
      simp [hm]
  · by_cases hm : n = 0
    · subst hm
      go_wp2_with fail
      go_ret
      exact ⟨by rw [HO.out]; rfl, hbq⟩
    · rw [decide_eq_false hm] at e0
      go_wp2_with fail
      go_ret
      refine ⟨?_, hbq⟩
      rw [HO.out]
      refine ret_bool ?_
      simp [hm]
  · by_cases hm : n = 0
    · subst hm
      go_wp2_with fail
      go_ret
      exact ⟨by rw [HO.out]; rfl, hbq⟩
    · rw [decide_eq_false hm] at e0
      go_wp2_with fail
      go_ret
      refine ⟨?_, hbq⟩
      rw [HO.out]
      refine ret_bool ?_
      simp [hm]
  · by_cases hm : n = 2
    · subst hm
      go_wp2_with fail
      go_ret
      exact ⟨by rw [HO.out]; rfl, hbq⟩
    · rw [decide_eq_false hm] at e2
      go_wp2_with fail
      go_ret
      refine ⟨?_, hbq⟩
      rw [HO.out]
      refine ret_bool ?_
      simp [hm]
  · by_cases hm : n = 2
    · subst hm
      go_wp2_with fail
      go_ret
      exact ⟨by rw [HO.out]; rfl, hbq⟩
    · rw [decide_eq_false hm] at e2
      go_wp2_with fail
      go_ret
      refine ⟨?_, hbq⟩
      rw [HO.out]
      refine ret_bool ?_
      simp [hm]
  · by_cases hm : n = 1
    · subst hm
      go_wp2_with fail
      go_ret
      exact ⟨by rw [HO.out]; rfl, hbq⟩
    · rw [decide_eq_false hm] at e1
      go_wp2_with fail
      go_ret
      refine ⟨?_, hbq⟩
      rw [HO.out]
      refine ret_bool ?_
      simp [hm]
  · go_wp2_with fail
    go_ret
    exact ⟨by rw [HO.out]; rfl, hbq⟩
  · go_wp2_with fail
    go_ret
    refine ⟨?_, hbq⟩
    rw [HO.out, if_neg (by omega), if_neg (by omega), if_neg (by omega), if_neg (by omega)]
    rfl
end Go.Proofs.Ytbblhhkacdgmiaa
namespace Go.Proofs.Ytbblhhkacdgmiaa
open Go.RowKit
set_option linter.unusedVariables false
set_option linter.unusedSimpArgs false

section
variable {α : Type}
mutual
def cnt (m : Int) : T α → Int
  | .mk _ ks => cnts m 1 ks
def cnts (m : Int) (n : Int) : List (T α) → Int
  | [] => n
  | t :: ts => if m < n then n else cnts m (n + cnt m t) ts
end
mutual
theorem cnt_spec (m : Int) : ∀ t : T α, (cnt m t ≤ m → cnt m t = t.size) ∧ cnt m t ≤ t.size ∧ 1 ≤ cnt m t
  | .mk a ks => by
    have := cnts_spec m 1 (by omega) ks
    simp only [cnt, T.size]
    omega
theorem cnts_spec (m : Int) (n : Int) (hn : 0 ≤ n) : ∀ ts : List (T α), (cnts m n ts ≤ m → cnts m n ts = n + T.sizes ts) ∧ cnts m n ts ≤ n + T.sizes ts ∧ n ≤ cnts m n ts
  | [] => by simp [cnts, T.sizes]
  | t :: ts => by
    have h1 := cnt_spec m t
    simp only [cnts, T.sizes]
    split
    · omega
    · have h2 := cnts_spec m (n + cnt m t) (by omega) ts
      omega
end
/-- more than m nodes -/
def greatB (m : Int) (t : T α) : Bool := decide (m < (t.size : Int))
theorem great_cnt (m : Int) (t : T α) : decide (m < cnt m t) = greatB m t := by
  have := cnt_spec m t
  unfold greatB
  rw [Bool.eq_iff_iff]
  simp only [decide_eq_true_eq]
  omega
theorem cnts_skip (m n : Int) (ts : List (T α)) (k : Nat) (t : T α) (h : ts[k]? = some t) (hn : ¬ m < n) : cnts m n (ts.drop k) = cnts m (n + cnt m t) (ts.drop (k + 1)) := by
  have hk : k < ts.length := (List.getElem?_eq_some_iff.1 h).1
  rw [List.drop_eq_getElem_cons hk, (List.getElem?_eq_some_iff.1 h).2]
  simp only [cnts]
  rw [if_neg hn]
theorem cnts_stop (m n : Int) (ts : List (T α)) (k : Nat) (hk : k < ts.length) (hn : m < n) : cnts m n (ts.drop k) = n := by
  rw [List.drop_eq_getElem_cons hk]
  simp only [cnts]
  rw [if_pos hn]
end

/-- a box's cells, behind what has left them alone -/
theorem re_box {w w1 : World} {t : TypeId} {h : RH} {A : Option Addr} {n c : Nat} (hb : Below (w.alloc (.cells #[.int .u8 (h.k.toNat : Int), .int .u64 (h.s.a.toNat : Int), .int .u64 (h.s.b.toNat : Int), .int .u64 (h.s.c.toNat : Int), .int .u64 (h.s.d.toNat : Int), .slice A n c] t)).heap.size
      (w.alloc (.cells #[.int .u8 (h.k.toNat : Int), .int .u64 (h.s.a.toNat : Int), .int .u64 (h.s.b.toNat : Int), .int .u64 (h.s.c.toNat : Int), .int .u64 (h.s.d.toNat : Int), .slice A n c] t)) w1) :
    w1.cell? ⟨w.heap.size, 0, none⟩ = some (.int .u8 (h.k.toNat : Int)) ∧ w1.cell? ⟨w.heap.size, 1, none⟩ = some (.int .u64 (h.s.a.toNat : Int)) ∧ w1.cell? ⟨w.heap.size, 2, none⟩ = some (.int .u64 (h.s.b.toNat : Int)) ∧
    w1.cell? ⟨w.heap.size, 3, none⟩ = some (.int .u64 (h.s.c.toNat : Int)) ∧ w1.cell? ⟨w.heap.size, 4, none⟩ = some (.int .u64 (h.s.d.toNat : Int)) ∧ w1.cell? ⟨w.heap.size, 5, none⟩ = some (.slice A n c) := by
  have q : ∀ j u, (#[Value.int .u8 (h.k.toNat : Int), .int .u64 (h.s.a.toNat : Int), .int .u64 (h.s.b.toNat : Int), .int .u64 (h.s.c.toNat : Int), .int .u64 (h.s.d.toNat : Int), .slice A n c] : Array Value)[j]? = some u → w1.cell? ⟨w.heap.size, j, none⟩ = some u :=
    fun j u hu => keep_cell hb (by rw [cell_of_row _ _ _ _ _ _ (heap_alloc_new w _)]; exact hu)
  exact ⟨q 0 _ rfl, q 1 _ rfl, q 2 _ rfl, q 3 _ rfl, q 4 _ rfl, q 5 _ rfl⟩

set_option maxHeartbeats 1000000 in
theorem count_upto (n : Nat) : ∀ (ok : Nat → Prop) (h : RH) (ks : List Re) (A : Option Addr) (c : Nat) (m : Int) (w : World), 1 + T.sizes ks ≤ n → n ≤ 1000000000 → ks.length ≤ c → InRow RE ok w ks A 0 →
    Calls Try.prog 27 #[reV h A ks.length c, .int .i64 m] w fun e w' => e = .returned (.int .i64 (cnt m (.mk h ks))) ∧ Below w.heap.size w w' := by
  induction n with
  | zero => intro ok h ks A c m w h0; omega
  | succ n ih =>
    intro ok h ks A c m w hn hm hc hr
    have hl := T.length_le_sizes ks
    have IH := Lib.hid ih
    clear ih
    have HO : Hid (cnt m (.mk h ks) = cnts m 1 ks) := by simp only [Hid, cnt]
    have hsz : ∀ t ∈ ks, t.size ≤ n := fun t ht => by have := T.sizes_mem ht; omega
    have HS := Lib.hid hsz
    clear hsz
    have hlm : ks.length ≤ 1000000000 := by omega
    go_enter Try.func27, Try.ntmps27
    go_wp2_with fail
    generalize hW : w.alloc _ = W
    have hbW : Below w.heap.size w W := by rw [← hW]; exact below_new (Below.refl _ _) _
    go_loopw [4, 5, 6, 10] (fun r s _ i wr => ∃ (k : Nat) (z : Int), k ≤ ks.length ∧ i = .int .i64 k ∧ s = .int .i64 z ∧ r = .int .i64 0 ∧ 0 ≤ z ∧ z ≤ 1 + T.sizes (ks.take k) ∧ cnts m z (ks.drop k) = cnts m 1 ks ∧ Below W.heap.size W wr) (fun _ _ _ i _ => ks.length - (intOf i).toNat)
    case atStart => exact ⟨0, 1, Nat.zero_le _, rfl, rfl, rfl, by omega, by simp [T.sizes], by simp, Below.refl _ _⟩
    case round =>
      obtain ⟨k, z, hk, rfl, rfl, rfl, hz0, hz1, hcn, hb⟩ := hrel
      have HN := Lib.hid hcn
      clear hcn
      have hbx := hb
      rw [← hW] at hbx
      obtain ⟨x0, x1, x2, x3, x4, x5⟩ := re_box hbx
      clear hbx x0 x1 x2 x3 x4
      by_cases hlt : k < ks.length
      · obtain ⟨t, ad, h1, ls, A1, c1, hA, hx, rfl, hc1, hr1, q0, q1, q2, q3, q4, q5⟩ := re_at ((hr.below hbW).below hb) hlt
        subst hA
        have hmem := List.mem_of_getElem? hx
        have hs1 := HS.out _ hmem
        simp only [T.size] at hs1
        have hcs := cnt_spec m (T.mk h1 ls)
        simp only [T.size] at hcs
        have htk : Hid (T.sizes (ks.take (k + 1)) = T.sizes (ks.take k) + (1 + T.sizes ls)) := by
          unfold Hid
          rw [List.take_add_one, hx, T.sizes_append]
          simp [T.sizes, T.size]
        have hle : T.sizes (ks.take (k + 1)) ≤ T.sizes ks := by
          conv => rhs; rw [← List.take_append_drop (k + 1) ks, T.sizes_append]
          omega
        have hz2 : z + (1 + T.sizes ls) ≤ 1000000001 := by have := htk.out; omega
        by_cases hgt : m < z
        · have HF := Lib.hid (cnts_stop m z ks k hlt hgt)
          clear hx hr hcs
          go_wp2_with fail
          go_ret
          exact ⟨by rw [HO.out, ← HN.out, HF.out]; rfl, hbW.trans (hb.mono hbW.size)⟩
        · have HF := Lib.hid (cnts_skip m z ks k _ hx hgt)
          have hcs2 := hcs.2
          clear hx hr hcs
          go_wp2_with fail
          refine (IH.out ok h1 ls A1 c1 m _ hs1 (by omega) hc1 hr1).mono ?_
          rintro e w1 ⟨rfl, hb1⟩
          have hb2 := below_from hb hb1
          clear hb1 hr1 q0 q1 q2 q3 q4 q5 x5
          generalize cnt m (T.mk h1 ls) = cc at *
          go_wp2_with fail
          go_roundw
          case rel => exact ⟨k + 1, z + cc, by omega, by go_num, rfl, rfl, by omega, by rw [htk.out]; omega, by rw [← HF.out, HN.out], hb2⟩
          case measure => simp [intOf]; omega
      · have hkk : k = ks.length := by omega
        subst hkk
        have HE : Hid (z = cnts m 1 ks) := by
          have := HN.out
          rwa [List.drop_length] at this
        clear hlt
        go_wp2_with fail
        go_ret
        exact ⟨by rw [HO.out, ← HE.out]; rfl, hbW.trans (hb.mono hbW.size)⟩

theorem Great_any {ok : Nat → Prop} (h : RH) (ks : List Re) (A : Option Addr) (c : Nat) (m : Int) (w : World) (hm : T.sizes ks ≤ 900000000) (hc : ks.length ≤ c) (hr : InRow RE ok w ks A 0) :
    Calls Try.prog 18 #[reV h A ks.length c, .int .i64 m] w fun e w' => e = .returned (.bool (greatB m (.mk h ks))) ∧ Below w.heap.size w w' := by
  have HG := Lib.hid (great_cnt m (T.mk h ks))
  go_enter Try.func18, Try.ntmps18
  go_wp2_with fail
  refine (count_upto 1000000000 ok h ks A c m _ (by omega) (Nat.le_refl _) hc (hr.below (below_new (Below.refl _ _) _))).mono ?_
  rintro e w1 ⟨rfl, hb⟩
  have hb2 := below_from (below_new (Below.refl _ _) _) hb
  clear hb hr
  go_wp2_with fail
  go_ret
  exact ⟨by rw [← HG.out]; rfl, hb2⟩

/-- more than 20 of them, or more than m nodes in one -/
def greatAllB {α : Type} (m : Int) (ts : List (T α)) : Bool := decide (20 < ts.length) || ts.any (greatB m)
set_option maxHeartbeats 1000000 in
theorem GreatAll_any {ok : Nat → Prop} (ts : List Re) (A : Option Addr) (c : Nat) (m : Int) (w : World) (hm : T.sizes ts ≤ 900000000) (hr : InRow RE ok w ts A 0) :
    Calls Try.prog 6 #[.slice A ts.length c, .int .i64 m] w fun e w' => e = .returned (.bool (greatAllB m ts)) ∧ Below w.heap.size w w' := by
  have hl := T.length_le_sizes ts
  have HG : Hid (greatAllB m ts = (decide (20 < ts.length) || ts.any (greatB m))) := rfl
  have hsz : ∀ t ∈ ts, t.size ≤ 900000000 := fun t ht => by have := T.sizes_mem ht; omega
  have HS := Lib.hid hsz
  clear hsz
  by_cases h20 : 20 < ts.length
  · rw [decide_eq_true h20, Bool.true_or] at HG
    go_enter Try.func6, Try.ntmps6
    go_wp2_with fail
    go_ret
    exact ⟨by rw [HG.out]; rfl, Below.refl _ _⟩
  · rw [decide_eq_false h20, Bool.false_or] at HG
    go_enter Try.func6, Try.ntmps6
    go_wp2_with fail
    go_loopw [4, 5, 11] (fun r _ i wr => ∃ (k : Nat), k ≤ ts.length ∧ i = .int .i64 k ∧ r = .bool false ∧ (∀ (j : Nat) (t : Re), j < k → ts[j]? = some t → greatB m t = false) ∧ Below w.heap.size w wr) (fun _ _ i _ => ts.length - (intOf i).toNat)
    case atStart => exact ⟨0, Nat.zero_le _, rfl, rfl, fun j t h => absurd h (by omega), Below.refl _ _⟩
    case round =>
      obtain ⟨k, hk, rfl, rfl, hn, hb⟩ := hrel
      have HN := Lib.hid hn
      clear hn
      by_cases hlt : k < ts.length
      · obtain ⟨t, ad, h1, ls, A1, c1, hA, hx, rfl, hc1, hr1, q0, q1, q2, q3, q4, q5⟩ := re_at (hr.below hb) hlt
        subst hA
        have hmem := List.mem_of_getElem? hx
        have hs1 := HS.out _ hmem
        simp only [T.size] at hs1
        have HX := Lib.hid hx
        clear hx hr
        go_wp2_with fail
        refine (Great_any h1 ls A1 c1 m _ (by omega) hc1 hr1).mono ?_
        rintro e w1 ⟨rfl, hb1⟩
        have hb2 := below_from hb hb1
        clear hb1 hr1 q0 q1 q2 q3 q4 q5
        rcases hg : greatB m (T.mk h1 ls) with _ | _
        · have HB := Lib.hid hg
          clear hg
          go_wp2_with fail
          go_roundw
          case rel => exact ⟨k + 1, by omega, by go_num, rfl, fun j t hj ht => by
            by_cases e : j = k
            · subst e; rw [HX.out] at ht; cases ht; exact HB.out
            · exact HN.out j t (by omega) ht, hb2⟩
          case measure => simp [intOf]; omega
        · have HB : Hid (ts.any (greatB m) = true) := List.any_eq_true.2 ⟨_, hmem, hg⟩
          clear hg
          go_wp2_with fail
          go_ret
          exact ⟨by rw [HG.out, HB.out]; rfl, hb2⟩
      · have HB : Hid (ts.any (greatB m) = false) := by
          unfold Hid
          rw [List.any_eq_false]
          intro t ht
          obtain ⟨j, hj, e⟩ := List.mem_iff_getElem.1 ht
          rw [HN.out j t (by omega) (by rw [← e]; simp [hj])]
          simp
        go_wp2_with fail
        go_ret
        exact ⟨by rw [HG.out, HB.out]; rfl, hb⟩
end Go.Proofs.Ytbblhhkacdgmiaa
namespace Go.Proofs.Ytbblhhkacdgmiaa
open Go.RowKit
set_option linter.unusedVariables false
set_option linter.unusedSimpArgs false

abbrev encB (b : UInt8) : Value := .int .u8 (b.toNat : Int)
abbrev str (l : List UInt8) : ByteArray := ⟨l.toArray⟩
theorem str_size (l : List UInt8) : (str l).size = l.length := by simp [str, ByteArray.size]
theorem str_inj {l m : List UInt8} (h : str l = str m) : l = m := by
  have : l.toArray = m.toArray := congrArg ByteArray.data h
  simpa using this
theorem str_data (s : ByteArray) : str s.data.toList = s := by cases s; rfl
/-- two texts, one behind the other -/
theorem run_cat {P : Program} (x y : List UInt8) (h : x.length + y.length ≤ 9223372036854775807) : ∀ w : World, (Op.stringOp .add (str x) (str y)).run P w = .ok (.string (str (x ++ y))) w := by
  intro w
  rw [run_string_add_sum w _ _ (by rw [str_size, str_size]; exact h), ByteArray.mk_append_mk]
theorem bytes_one (l : List UInt8) : ∀ u ∈ l.map encB, u.oneCell' = true := by
  intro u hu
  obtain ⟨b, _, rfl⟩ := List.mem_map.1 hu
  rfl
theorem fold_bytes (l : List UInt8) : ∀ s : ByteArray, (l.map fun b : UInt8 => (b.toNat : Int)).foldl (fun r n => r.push (UInt8.ofNat n.toNat)) s = ⟨s.data ++ l.toArray⟩ := by
  induction l with
  | nil => intro s; cases s; simp
  | cons b l ih =>
    intro s
    simp only [List.map_cons, List.foldl_cons, ih]
    cases s
    simp [ByteArray.push]
theorem conv_bytes {P : Program} {w : World} {src dst e : TypeId} (hs : P.underlying src = some (.slice e)) (he : P.underlying e = some (.int .u8)) (hd : P.underlying dst = some .string)
    {A : Option Addr} (n c : Nat) {l : List UInt8} (hn : l.length = n) (h : Row1 encB w A l) : (convert src dst (.slice A n c)).run P w = .ok (.string (str l)) w := by
  subst hn
  rcases A with _ | ad
  · have hl : l = [] := by
      cases l with
      | nil => rfl
      | cons b r => obtain ⟨ad, h, _⟩ := h 0 b rfl; cases h
    subst hl
    exact run_convert_bytes_nil w src e hs he _ _ dst hd
  · have hl : (loadCells ad l.length).run P w = .ok ((l.map fun b : UInt8 => (b.toNat : Int)).map (Value.int .u8)).toArray w := by
      have := run_loadCells_list (P := P) w ad (l.map encB) (fun j v hj => by
        simp only [List.getElem?_map, Option.map_eq_some_iff] at hj
        obtain ⟨x, hx, rfl⟩ := hj
        obtain ⟨ad', e, hc⟩ := h j x hx
        cases e
        exact hc)
      simpa [List.map_map, Function.comp_def] using this
    rw [run_convert_bytes_string w src dst e _ _ c hs he hd, run_bytesToString w ad _ c _ hl, fold_bytes]
    simp
end Go.Proofs.Ytbblhhkacdgmiaa
namespace Go.Proofs.Ytbblhhkacdgmiaa
open Go.RowKit
set_option linter.unusedVariables false
set_option linter.unusedSimpArgs false

set_option maxHeartbeats 1000000 in
theorem idx_nodes {ok : Nat → Prop} (p : Re → Bool) (ts : List Re) (A : Option Addr) (c : Nat) (w : World)  (hr : InRow RE ok w ts A 0) (hm : ts.length ≤ 1000000000)
    (hcall : ∀ (h : RH) (ks : List Re) (A1 : Option Addr) (c1 : Nat) (w1 : World), T.mk h ks ∈ ts → ks.length ≤ c1 → InRow RE ok w1 ks A1 0 → Below w.heap.size w w1 →
      Calls Try.prog 36 #[reV h A1 ks.length c1] w1 fun e w' => e = .returned (.bool (p (.mk h ks))) ∧ Below w1.heap.size w1 w') :
    Calls Try.prog 34 #[.slice A ts.length c, .func (.func 36) #[] #[]] w fun e w' => e = .returned (.int .i64 (idx p ts)) ∧ Below w.heap.size w w' := by
  have HC := Lib.hid hcall
  clear hcall
  go_enter Try.func34, Try.ntmps34
  go_wp2_with fail
  go_loopw [5, 8] (fun _ i wr => ∃ k : Nat, k ≤ ts.length ∧ i = .int .i64 k ∧ (∀ (j : Nat) (y : Re), j < k → ts[j]? = some y → p y = false) ∧ Below w.heap.size w wr) (fun _ i _ => ts.length - (intOf i).toNat)
  case atStart => exact ⟨0, Nat.zero_le _, rfl, fun j y h => absurd h (by omega), Below.refl _ _⟩
  case round =>
    obtain ⟨k, hk, rfl, hn, hb⟩ := hrel
    have HN := Lib.hid hn
    clear hn
    by_cases hlt : k < ts.length
    · obtain ⟨t, ad, h, ks, A1, c1, hA, hx, rfl, hc1, hr1, q0, q1, q2, q3, q4, q5⟩ := re_at (hr.below hb) hlt
      subst hA
      have HX := Lib.hid hx
      have hmem := List.mem_of_getElem? hx
      clear hx hr
      go_wp2_with fail
      refine (HC.out h ks A1 c1 _ hmem hc1 hr1 hb).mono ?_
      rintro e w1 ⟨rfl, hb1⟩
      have hb2 := below_from hb hb1
      clear hb1 hr1 q0 q1 q2 q3 q4 q5
      rcases hp : p (.mk h ks) with _ | _
      · have HP := Lib.hid hp
        clear hp
        go_wp2_with fail
        go_roundw
        case rel => exact ⟨k + 1, by omega, by go_num, fun j y hj hy => by
          by_cases e : j = k
          · subst e; rw [HX.out] at hy; cases hy; exact HP.out
          · exact HN.out j y (by omega) hy, hb2⟩
        case measure => simp [intOf]; omega
      · have HP := Lib.hid hp
        clear hp
        go_wp2_with fail
        go_ret
        exact ⟨by rw [idx_at _ ts k _ HX.out (fun j y hj hy => HN.out j y hj hy) HP.out]; rfl, hb2⟩
    · have hfin := Lib.hid (idx_none p ts fun j y hy => HN.out j y (by
        have := (List.getElem?_eq_some_iff.1 hy).1; omega) hy)
      go_wp2_with fail
      go_ret
      exact ⟨by rw [hfin.out]; rfl, hb⟩

theorem has_nodes {ok : Nat → Prop} (p : Re → Bool) (ts : List Re) (A : Option Addr) (c : Nat) (w : World)  (hr : InRow RE ok w ts A 0) (hm : ts.length ≤ 1000000000)
    (hcall : ∀ (h : RH) (ks : List Re) (A1 : Option Addr) (c1 : Nat) (w1 : World), T.mk h ks ∈ ts → ks.length ≤ c1 → InRow RE ok w1 ks A1 0 → Below w.heap.size w w1 →
      Calls Try.prog 36 #[reV h A1 ks.length c1] w1 fun e w' => e = .returned (.bool (p (.mk h ks))) ∧ Below w1.heap.size w1 w') :
    Calls Try.prog 29 #[.slice A ts.length c, .func (.func 36) #[] #[]] w fun e w' => e = .returned (.bool (ts.any p)) ∧ Below w.heap.size w w' := by
  have HC := Lib.hid hcall
  clear hcall
  have HA := Lib.hid (idx_any p ts)
  go_enter Try.func29, Try.ntmps29
  go_wp2_with fail
  refine (idx_nodes p ts A c _ hr hm HC.out).mono ?_
  rintro e w1 ⟨rfl, hb⟩
  go_wp2_with fail
  go_ret
  exact ⟨by rw [← HA.out]; rfl, hb⟩


set_option maxHeartbeats 1000000 in
theorem idx_may {ok : Nat → Prop} (p : Re → Bool) (ts : List Re) (A : Option Addr) (c : Nat) (w : World)  (hr : InRow RE ok w ts A 0) (hm : ts.length ≤ 1000000000)
    (hcall : ∀ (h : RH) (ks : List Re) (A1 : Option Addr) (c1 : Nat) (w1 : World), T.mk h ks ∈ ts → ks.length ≤ c1 → InRow RE ok w1 ks A1 0 → Below w.heap.size w w1 →
      Calls Try.prog 30 #[reV h A1 ks.length c1] w1 fun e w' => e = .returned (.bool (p (.mk h ks))) ∧ Below w1.heap.size w1 w') :
    Calls Try.prog 34 #[.slice A ts.length c, .func (.func 30) #[] #[]] w fun e w' => e = .returned (.int .i64 (idx p ts)) ∧ Below w.heap.size w w' := by
  have HC := Lib.hid hcall
  clear hcall
  go_enter Try.func34, Try.ntmps34
  go_wp2_with fail
  go_loopw [5, 8] (fun _ i wr => ∃ k : Nat, k ≤ ts.length ∧ i = .int .i64 k ∧ (∀ (j : Nat) (y : Re), j < k → ts[j]? = some y → p y = false) ∧ Below w.heap.size w wr) (fun _ i _ => ts.length - (intOf i).toNat)
  case atStart => exact ⟨0, Nat.zero_le _, rfl, fun j y h => absurd h (by omega), Below.refl _ _⟩
  case round =>
    obtain ⟨k, hk, rfl, hn, hb⟩ := hrel
    have HN := Lib.hid hn
    clear hn
    by_cases hlt : k < ts.length
    · obtain ⟨t, ad, h, ks, A1, c1, hA, hx, rfl, hc1, hr1, q0, q1, q2, q3, q4, q5⟩ := re_at (hr.below hb) hlt
      subst hA
      have HX := Lib.hid hx
      have hmem := List.mem_of_getElem? hx
      clear hx hr
      go_wp2_with fail
      refine (HC.out h ks A1 c1 _ hmem hc1 hr1 hb).mono ?_
      rintro e w1 ⟨rfl, hb1⟩
      have hb2 := below_from hb hb1
      clear hb1 hr1 q0 q1 q2 q3 q4 q5
      rcases hp : p (.mk h ks) with _ | _
      · have HP := Lib.hid hp
        clear hp
        go_wp2_with fail
        go_roundw
        case rel => exact ⟨k + 1, by omega, by go_num, fun j y hj hy => by
          by_cases e : j = k
          · subst e; rw [HX.out] at hy; cases hy; exact HP.out
          · exact HN.out j y (by omega) hy, hb2⟩
        case measure => simp [intOf]; omega
      · have HP := Lib.hid hp
        clear hp
        go_wp2_with fail
        go_ret
        exact ⟨by rw [idx_at _ ts k _ HX.out (fun j y hj hy => HN.out j y hj hy) HP.out]; rfl, hb2⟩
    · have hfin := Lib.hid (idx_none p ts fun j y hy => HN.out j y (by
        have := (List.getElem?_eq_some_iff.1 hy).1; omega) hy)
      go_wp2_with fail
      go_ret
      exact ⟨by rw [hfin.out]; rfl, hb⟩

theorem has_may {ok : Nat → Prop} (p : Re → Bool) (ts : List Re) (A : Option Addr) (c : Nat) (w : World)  (hr : InRow RE ok w ts A 0) (hm : ts.length ≤ 1000000000)
    (hcall : ∀ (h : RH) (ks : List Re) (A1 : Option Addr) (c1 : Nat) (w1 : World), T.mk h ks ∈ ts → ks.length ≤ c1 → InRow RE ok w1 ks A1 0 → Below w.heap.size w w1 →
      Calls Try.prog 30 #[reV h A1 ks.length c1] w1 fun e w' => e = .returned (.bool (p (.mk h ks))) ∧ Below w1.heap.size w1 w') :
    Calls Try.prog 29 #[.slice A ts.length c, .func (.func 30) #[] #[]] w fun e w' => e = .returned (.bool (ts.any p)) ∧ Below w.heap.size w w' := by
  have HC := Lib.hid hcall
  clear hcall
  have HA := Lib.hid (idx_any p ts)
  go_enter Try.func29, Try.ntmps29
  go_wp2_with fail
  refine (idx_may p ts A c _ hr hm HC.out).mono ?_
  rintro e w1 ⟨rfl, hb⟩
  go_wp2_with fail
  go_ret
  exact ⟨by rw [← HA.out]; rfl, hb⟩

theorem any_not_okT (ts : List Re) : (!ts.any fun t => !okT t) = okL ts := by rw [okL_all, List.all_eq_not_any_not]
set_option maxHeartbeats 1000000 in
theorem nodes_upto (n : Nat) : ∀ (ok : Nat → Prop) (h : RH) (ks : List Re) (A : Option Addr) (c : Nat) (w : World), 1 + T.sizes ks ≤ n → n ≤ 1000000000 → ks.length ≤ c → InRow RE ok w ks A 0 →
    Calls Try.prog 31 #[reV h A ks.length c] w fun e w' => e = .returned (.bool (okT (.mk h ks))) ∧ Below w.heap.size w w' := by
  induction n with
  | zero => intro ok h ks A c w h0; omega
  | succ n ih =>
    intro ok h ks A c w hn hm hc hr
    have hl := T.length_le_sizes ks
    have IH := Lib.hid ih
    clear ih
    have HO : Hid (okT (.mk h ks) = (okNode h ks.length && okL ks)) := by simp [Hid, okT]
    have HA := Lib.hid (any_not_okT ks)
    have hsz : ∀ t ∈ ks, t.size ≤ n := fun t ht => by have := T.sizes_mem ht; omega
    have HS := Lib.hid hsz
    clear hsz
    have hlm : ks.length ≤ 1000000000 := by omega
    have hcall : ∀ (h1 : RH) (ls : List Re) (A1 : Option Addr) (c1 : Nat) (w1 : World), T.mk h1 ls ∈ ks → ls.length ≤ c1 → InRow RE ok w1 ls A1 0 →
        Calls Try.prog 36 #[reV h1 A1 ls.length c1] w1 fun e w' => e = .returned (.bool (!okT (.mk h1 ls))) ∧ Below w1.heap.size w1 w' := by
      intro h1 ls A1 c1 w1 hmem hc1 hr1
      have hsz1 := HS.out _ hmem
      simp only [T.size] at hsz1
      clear hr HO HA
      go_enter Try.func36, Try.ntmps36
      go_wp2_with fail
      refine (IH.out ok h1 ls A1 c1 _ hsz1 (by omega) hc1 (hr1.below (below_new (Below.refl _ _) _))).mono ?_
      rintro e w2 ⟨rfl, hb⟩
      have hb2 := below_from (below_new (Below.refl _ _) _) hb
      clear hb
      go_wp2_with fail
      go_ret
      exact ⟨rfl, hb2⟩
    replace hcall := Lib.hid hcall
    have hrn : ∀ o, InRow RE ok (w.alloc o) ks A 0 := fun o => hr.below (below_new (Below.refl _ _) o)
    go_enter Try.func31, Try.ntmps31
    go_wp2_with fail
    refine (node_any h A ks.length c _ hlm).mono ?_
    rintro e w1 ⟨rfl, hb1⟩
    have hr1 := (hrn _).below hb1
    have hq5 : w1.cell? ⟨w.heap.size, 5, none⟩ = some (.slice A ks.length c) := keep_cell hb1 (by rw [cell_of_row _ _ _ _ _ _ (heap_alloc_new w _)]; rfl)
    have hb2 := below_from (below_new (Below.refl _ _) _) hb1
    clear hb1 hrn hr
    rcases hnode : okNode h ks.length with _ | _
    · rw [hnode] at HO
      clear hnode
      go_wp2_with fail
      go_ret
      exact ⟨by rw [HO.out]; rfl, hb2⟩
    · rw [hnode] at HO
      clear hnode
      go_wp2_with fail
      refine (has_nodes (fun t => !okT t) ks A c _ hr1 hlm (fun h1 ls A1 c1 w2 hmem hc1 hr2 _ => hcall.out h1 ls A1 c1 w2 hmem hc1 hr2)).mono ?_
      rintro e w3 ⟨rfl, hb3⟩
      have hb4 := below_from hb2 hb3
      clear hb3 hb2
      go_wp2_with fail
      go_ret
      exact ⟨by rw [HO.out, ← HA.out]; rfl, hb4⟩

/-- the sizes of the kids of the first k -/
def subs {α : Type} (ts : List (T α)) : Nat := (ts.map fun t => T.sizes t.kids).sum
theorem sizes_eq {α : Type} (ts : List (T α)) : T.sizes ts = ts.length + subs ts := by
  induction ts with
  | nil => simp [T.sizes, subs]
  | cons t r ih =>
    cases t
    simp only [T.sizes, T.size, ih, subs, List.map_cons, List.sum_cons, T.kids, List.length_cons]; omega
theorem subs_take {α : Type} {ts : List (T α)} {k : Nat} {t : T α} (h : ts[k]? = some t) : subs (ts.take (k + 1)) = subs (ts.take k) + T.sizes t.kids := by
  rw [List.take_add_one, h]
  simp [subs]
theorem subs_le {α : Type} (ts : List (T α)) (k : Nat) : subs (ts.take k) ≤ subs ts := by
  induction ts generalizing k with
  | nil => simp
  | cons x r ih =>
    cases k with
    | zero => simp [subs]
    | succ k => have := ih k; simp only [subs, List.take_succ_cons, List.map_cons, List.sum_cons] at this ⊢; omega

set_option maxHeartbeats 400000 in
theorem Size_upto (n : Nat) : ∀ (ok : Nat → Prop) (ts : List Re) (A : Option Addr) (c : Nat) (w : World), T.sizes ts ≤ n → n ≤ 1000000000 → InRow RE ok w ts A 0 →
    Calls Try.prog 20 #[.slice A ts.length c] w fun e w' => e = .returned (.int .i64 (T.sizes ts)) ∧ Below w.heap.size w w' := by
  induction n with
  | zero =>
    intro ok ts A c w hn hm hr
    have hl := T.length_le_sizes ts
    have h0 : ts = [] := List.eq_nil_of_length_eq_zero (by omega)
    subst h0
    show Calls Try.prog 20 #[.slice A 0 c] w _
    go_enter Try.func20, Try.ntmps20
    go_wp2_with fail
    go_loopw [3, 10] (fun s i wr => i = .int .i64 0 ∧ s = .int .i64 0 ∧ wr = w) (fun _ i _ => 0)
    case atStart => exact ⟨rfl, rfl, rfl⟩
    case round =>
      obtain ⟨rfl, rfl, rfl⟩ := hrel
      go_wp2_with fail
      go_ret
      exact ⟨rfl, Below.refl _ _⟩
  | succ n ih =>
    intro ok ts A c w hn hm hr
    have hl := T.length_le_sizes ts
    have hse := Lib.hid (sizes_eq ts)
    have IH := Lib.hid ih
    clear ih
    go_enter Try.func20, Try.ntmps20
    go_wp2_with fail
    go_loopw [3, 10] (fun s i wr => ∃ k : Nat, k ≤ ts.length ∧ i = .int .i64 k ∧ s = .int .i64 ((ts.length + subs (ts.take k) : Nat) : Int) ∧ Below w.heap.size w wr) (fun _ i _ => ts.length - (intOf i).toNat)
    case atStart => exact ⟨0, Nat.zero_le _, rfl, by simp [subs], Below.refl _ _⟩
    case round =>
      obtain ⟨k, hk, rfl, rfl, hb⟩ := hrel
      have hsub := subs_le ts k
      have hsz' : ts.length + subs ts ≤ n + 1 := by have := hse.out; omega
      by_cases hlt : k < ts.length
      · obtain ⟨t, ad, h, ks, A1, c1, hA, hx, rfl, hc1, hr1, q0, q1, q2, q3, q4, q5⟩ := re_at (hr.below hb) hlt
        subst hA
        have hst := Lib.hid (subs_take hx)
        have hle2 := subs_le ts (k+1)
        have hks : T.sizes ks ≤ n := by have := hst.out; simp only [T.kids] at this; omega
        clear hx hr
        have hr2 : ∀ o, InRow RE ok (wr.alloc o) ks A1 0 := fun o => hr1.below (below_new (Below.refl _ _) o)
        go_wp2_with fail
        refine (IH.out ok ks A1 c1 _ hks (by omega) (hr2 _)).mono ?_
        rintro e w1 ⟨rfl, hb1⟩
        have hb2 := below_from (below_new hb _) hb1
        clear hb1 hr2 hr1 q0 q1 q2 q3 q4 q5
        go_wp2_with fail
        go_roundw
        case rel => exact ⟨k + 1, by omega, by go_num, by have := hst.out; simp only [T.kids] at this; rw [this]; go_num, hb2⟩
        case measure => simp [intOf]; omega
      · have hkk : k = ts.length := by omega
        subst hkk
        clear hlt
        go_wp2_with fail
        go_ret
        refine ⟨?_, hb⟩
        rw [hse.out]; simp

set_option maxHeartbeats 400000 in
theorem mayLit_any {ok : Nat → Prop} (h : RH) (ks : List Re) (A : Option Addr) (c : Nat) (w : World) (hm : T.sizes ks ≤ 900000000) (hc : ks.length ≤ c) (hr : InRow RE ok w ks A 0) :
    Calls Try.prog 30 #[reV h A ks.length c] w fun e w' => e = .returned (.bool (!mayB (.mk h ks))) ∧ Below w.heap.size w w' := by
  have HM : Hid (mayB (.mk h ks) = (okT (.mk h ks) && decide (1 + T.sizes ks ≤ 2000))) := by unfold Hid mayB; rw [show T.size (T.mk h ks) = 1 + T.sizes ks by simp only [T.size]]
  have hrn : ∀ o, InRow RE ok (w.alloc o) ks A 0 := fun o => hr.below (below_new (Below.refl _ _) o)
  go_enter Try.func30, Try.ntmps30
  go_wp2_with fail
  refine (nodes_upto 1000000000 ok h ks A c _ (by omega) (Nat.le_refl _) hc (hrn _)).mono ?_
  rintro e w1 ⟨rfl, hb1⟩
  have q : ∀ j u, (#[Value.int .u8 (h.k.toNat : Int), .int .u64 (h.s.a.toNat : Int), .int .u64 (h.s.b.toNat : Int), .int .u64 (h.s.c.toNat : Int), .int .u64 (h.s.d.toNat : Int), .slice A ks.length c] : Array Value)[j]? = some u → w1.cell? ⟨w.heap.size, j, none⟩ = some u :=
    fun j u hu => keep_cell hb1 (by rw [cell_of_row _ _ _ _ _ _ (heap_alloc_new w _)]; exact hu)
  have q0 := q 0 _ rfl
  have q1 := q 1 _ rfl
  have q2 := q 2 _ rfl
  have q3 := q 3 _ rfl
  have q4 := q 4 _ rfl
  have q5 := q 5 _ rfl
  clear q
  have hr1 := (hrn _).below hb1
  have hb2 := below_from (below_new (Below.refl _ _) _) hb1
  clear hb1 hrn hr
  rcases hnode : okT (.mk h ks) with _ | _
  · rw [hnode] at HM
    clear hnode
    go_wp2_with fail
    go_ret
    exact ⟨by rw [HM.out]; rfl, hb2⟩
  · rw [hnode] at HM
    clear hnode
    have hrow : ∀ cs, cs = #[Value.int .u8 (h.k.toNat : Int), .int .u64 (h.s.a.toNat : Int), .int .u64 (h.s.b.toNat : Int), .int .u64 (h.s.c.toNat : Int), .int .u64 (h.s.d.toNat : Int), .slice A ks.length c] →
        InRow RE (fun _ => True) (w1.alloc (.cells cs 30)) [.mk h ks] (some ⟨w1.heap.size, 0, none⟩) 0 := by
      rintro cs rfl
      simp only [InRow, InT]
      refine ⟨⟨_, _, rfl, trivial, fun j u hu => ?_, A, c, rfl, hc, (hr1.weak fun _ _ => trivial).below (below_new (Below.refl _ _) _)⟩, trivial⟩
      rw [plain_add, cell_of_row _ _ _ _ _ _ (heap_alloc_new w1 _)]
      simpa [RE, RH.cells] using hu
    go_wp2_with fail
    refine (Size_upto 1000000000 _ [.mk h ks] _ 1 _ (by simp only [T.sizes, T.size]; omega) (Nat.le_refl _) (hrow _ rfl)).mono ?_
    rintro e w3 ⟨rfl, hb3⟩
    have hb4 := below_from (below_new hb2 _) hb3
    clear hb3 hb2 hrow hr1 q0 q1 q2 q3 q4 q5
    have e1 : T.sizes [T.mk h ks] = 1 + T.sizes ks := by simp [T.sizes, T.size]
    rw [e1]
    clear e1
    go_wp2_with fail
    go_ret
    refine ⟨?_, hb4⟩
    rw [HM.out]
    refine ret_bool ?_
    rw [Bool.eq_iff_iff]; simp; omega

theorem May_any {ok : Nat → Prop} (ts : List Re) (A : Option Addr) (c : Nat) (w : World) (hm : T.sizes ts ≤ 900000000) (hr : InRow RE ok w ts A 0) :
    Calls Try.prog 21 #[.slice A ts.length c] w fun e w' => e = .returned (.bool (ts.all mayB)) ∧ Below w.heap.size w w' := by
  have hl := T.length_le_sizes ts
  have hcall : ∀ (h1 : RH) (ls : List Re) (A1 : Option Addr) (c1 : Nat) (w1 : World), T.mk h1 ls ∈ ts → ls.length ≤ c1 → InRow RE ok w1 ls A1 0 → Below w.heap.size w w1 →
      Calls Try.prog 30 #[reV h1 A1 ls.length c1] w1 fun e w' => e = .returned (.bool (!mayB (.mk h1 ls))) ∧ Below w1.heap.size w1 w' := by
    intro h1 ls A1 c1 w1 hmem hc1 hr1 _
    have := T.sizes_mem hmem
    simp only [T.size] at this
    exact mayLit_any h1 ls A1 c1 w1 (by omega) hc1 hr1
  replace hcall := Lib.hid hcall
  have HA : Hid ((!ts.any fun t => !mayB t) = ts.all mayB) := by rw [List.all_eq_not_any_not]; rfl
  go_enter Try.func21, Try.ntmps21
  go_wp2_with fail
  refine (has_may (fun t => !mayB t) ts A c _ hr (by omega) hcall.out).mono ?_
  rintro e w1 ⟨rfl, hb⟩
  go_wp2_with fail
  go_ret
  exact ⟨by rw [← HA.out]; rfl, hb⟩
end Go.Proofs.Ytbblhhkacdgmiaa
namespace Go.Proofs.Ytbblhhkacdgmiaa
open Go.RowKit
set_option linter.unusedVariables false
set_option linter.unusedSimpArgs false

mutual
/-- the nodes, each ahead of its kids -/
def T.all {α : Type} : T α → List (T α)
  | .mk a ks => .mk a ks :: T.alls ks
def T.alls {α : Type} : List (T α) → List (T α)
  | [] => []
  | t :: ts => T.all t ++ T.alls ts
end
mutual
theorem T.all_length {α : Type} : ∀ t : T α, t.all.length = t.size
  | .mk a ks => by simp only [T.all, T.size, List.length_cons, T.alls_length ks]; omega
theorem T.alls_length {α : Type} : ∀ ts : List (T α), (T.alls ts).length = T.sizes ts
  | [] => rfl
  | t :: ts => by simp only [T.alls, T.sizes, List.length_append, T.all_length t, T.alls_length ts]
end
theorem T.alls_append {α : Type} (xs ys : List (T α)) : T.alls (xs ++ ys) = T.alls xs ++ T.alls ys := by
  induction xs with
  | nil => rfl
  | cons x r ih => simp only [List.cons_append, T.alls, ih, List.append_assoc]
theorem Try.info_re : (Try.prog.info? 30).map (fun i => (i.zero, i.size, i.bytes)) = some (some (.agg #[.int .u8 0, .int .u64 0, .int .u64 0, .int .u64 0, .int .u64 0, .slice none 0 0]), 6, 64) := by kernel_rfl

/-- a new block that holds one expression -/
theorem re_new {ok : Nat → Prop} {w : World} {h : RH} {ks : List Re} {A : Option Addr} {c : Nat} {t : TypeId} (hc : ks.length ≤ c) (hr : InRow RE ok w ks A 0) (hlt : ∀ b, ok b → b < w.heap.size) (base : Nat) (hbase : base ≤ w.heap.size) :
    OwnT RE ok (w.alloc (.cells #[.int .u8 (h.k.toNat : Int), .int .u64 (h.s.a.toNat : Int), .int .u64 (h.s.b.toNat : Int), .int .u64 (h.s.c.toNat : Int), .int .u64 (h.s.d.toNat : Int), .slice A ks.length c] t)) base t (.slice (some ⟨w.heap.size, 0, none⟩) 1 1) [.mk h ks] := by
  refine ⟨fun b hb e => ?_, _, World.ownsRow_lit w _ 1 hbase (by unfold maxLen; omega) rfl, fun k x hx => ?_⟩
  · cases e; exact Nat.lt_irrefl _ (hlt _ hb)
  · cases k with
    | succ k => simp at hx
    | zero =>
      simp at hx
      subst hx
      refine ⟨RH.cells h ++ [.slice A ks.length c], fun j u hu => by simpa [RE, RH.cells] using hu, ?_⟩
      simp only [InT]
      exact ⟨A, c, rfl, hc, hr.below (below_new (Below.refl _ _) _)⟩

/-- what All leaves -/
def AllPost (ok : Nat → Prop) (t : Re) (w : World) (e : Ending) (w' : World) : Prop :=
  ∃ v, e = .returned v ∧ OwnT RE ok w' w.heap.size 30 v t.all ∧ Below w.heap.size w w'
end Go.Proofs.Ytbblhhkacdgmiaa
