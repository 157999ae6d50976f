/- Rows of one-cell elements. -/
import Derived.Test.YthbcofbdgljfbaaDoorProg
import Derived.WalkKit
import Derived.Below
import Derived.Lib.Hide
import Derived.Maps.AppendAt
import Derived.Deep.Draws
namespace Go.Proofs.YthbcofbdgljfbaaDoor
open Go.RowKit
set_option linter.unusedVariables false
set_option linter.unusedSimpArgs false

theorem ret_int {k : IntKind} {a b : Int} (h : a = b) : Ending.returned (.int k a) = .returned (.int k b) := by rw [h]
theorem ret_bool {a b : Bool} (h : a = b) : Ending.returned (.bool a) = .returned (.bool b) := by rw [h]
theorem ret_str {a b : ByteArray} (h : a = b) : Ending.returned (.string a) = .returned (.string b) := by rw [h]
/-- A slice's cells hold these, one cell each. -/
def Row1 {α : Type} (enc : α → Value) (w : World) (A : Option Addr) (xs : List α) : Prop :=
  ∀ k x, xs[k]? = some x → ∃ ad, A = some ad ∧ w.cell? (ad.add k) = some (enc x)
theorem keep_cell {w w' : World} (hb : Below w.heap.size w w') {a : Addr} {v : Value} (h : w.cell? a = some v) : w'.cell? a = some v :=
  (hb.cell (World.block_lt_of_cell? w a h)).trans h
theorem Row1.below {α : Type} {enc : α → Value} {w w' : World} {A : Option Addr} {xs : List α} (h : Row1 enc w A xs) (hb : Below w.heap.size w w') : Row1 enc w' A xs :=
  fun k x hk => by
    obtain ⟨ad, e, hc⟩ := h k x hk
    exact ⟨ad, e, keep_cell hb hc⟩
theorem Row1.at_ {α : Type} {enc : α → Value} {w : World} {A : Option Addr} {xs : List α} (h : Row1 enc w A xs) {k : Nat} (hk : k < xs.length) :
    ∃ ad x, A = some ad ∧ xs[k]? = some x ∧ w.cell? (ad.add k) = some (enc x) := by
  obtain ⟨ad, e, hc⟩ := h k xs[k] (by simp [hk])
  exact ⟨ad, xs[k], e, by simp [hk], hc⟩
theorem block_add (a : Addr) (n : Nat) : (a.add n).block = a.block := by unfold Addr.add; split <;> rfl
theorem add_add_ (a : Addr) (i j : Nat) : (a.add i).add j = a.add (i + j) := by
  unfold Addr.add
  by_cases hi : i = 0 <;> by_cases hj : j = 0 <;> simp [hi, hj, Nat.add_assoc]
/-- what lies below stays, if nothing below was written -/
theorem below_from {w a b : World} (h : Below w.heap.size w a) (k : Below a.heap.size a b) : Below w.heap.size w b := h.trans (k.mono h.size)
theorem below_new {w a : World} (h : Below w.heap.size w a) (o : Obj) : Below w.heap.size w (a.alloc o) := h.alloc h.size o

theorem pw_drewN {B : Nat} {a w : World} (h : Below B a w) (n : Nat) : Below B a (w.drewN n) := ⟨h.os, h.tape, h.output, h.size, h.block⟩
/-- What an append takes from: these cells, behind one another. -/
def Src (w : World) (A : Option Addr) (m size : Nat) (news : List Value) : Prop :=
  news.length = m * size ∧ ∀ j u, news[j]? = some u → ∃ ad, A = some ad ∧ w.cell? (ad.add j) = some u
theorem run_app_nil {P : Program} {w : World} {base : Nat} {t ty e : TypeId} {i : TypeInfo} {size : Nat} (ht : P.underlying t = some (.slice e)) (hi : P.info? e = some i)
    {v : Value} {n : Nat} {xs : List Value} (hown : w.ownsRow base e size v n xs) (c : Nat) : (Builtin.append_ #[t, t] ty #[v, .slice none 0 c]).run P w = .ok v w := by
  rcases hown.2 with ⟨rfl, rfl⟩ | ⟨g, cap, cur, rfl, _, _, hnc, _⟩
  · simp [Builtin.append_, run_underlying ht, sizeOf, typeInfo, hi, Builtin.lenOf, Builtin.firstCells]
  · simp [Builtin.append_, run_underlying ht, sizeOf, typeInfo, hi, Builtin.lenOf, Builtin.firstCells, hnc, storeCells]
theorem run_app {P : Program} {w : World} (base : Nat) (t ty e : TypeId) (z : Value) (size bytes : Nat) (ht : P.underlying t = some (.slice e))
    (hinfo : (P.info? e).map (fun i => (i.zero, i.size, i.bytes)) = some (some z, size, bytes)) (hzs : z.cells.size = size) (hsz : 0 < size)
    (v : Value) (n : Nat) (xs : List Value) (hown : w.ownsRow base e size v n xs) (A : Option Addr) (m c : Nat) (news : List Value) (hr : Src w A m size news) (h1 : ∀ u ∈ news, u.oneCell' = true)
    (h63 : n + m ≤ maxLen) (hbytes : (n + m) * bytes ≤ 140737488355328) (hbase : base ≤ w.heap.size) :
    ∃ v' w', (Builtin.append_ #[t, t] ty #[v, .slice A m c]).run P w = .ok v' w' ∧ w'.ownsRow base e size v' (n + m) (xs ++ news) ∧ w.grownBy w' v.ownBlock ∧
      (v'.ownBlock = v.ownBlock ∨ v'.ownBlock = some w.heap.size) := by
  obtain ⟨i, hi, hz, hsize, hby⟩ := info_parts hinfo
  rcases A with _ | ad
  · have hm : m = 0 := by
      rcases Nat.eq_zero_or_pos m with h0 | h0
      · exact h0
      · have hl : 0 < news.length := by rw [hr.1]; exact Nat.mul_pos h0 hsz
        obtain ⟨ad, h, _⟩ := hr.2 0 news[0] (by simp [hl])
        cases h
    subst hm
    have hn : news = [] := List.eq_nil_of_length_eq_zero (by simpa using hr.1)
    subst hn
    exact ⟨v, w, run_app_nil ht hi hown c, by simpa using hown, World.grownBy.refl w _, .inl rfl⟩
  · obtain ⟨v', w', hrun, h2, h3, _, h5⟩ := run_append_own_at (P := P) w base t ty e i z size bytes ht hi hz hsize hby hzs hsz v n xs hown ad m c news hr.1
      (fun j u hu => by obtain ⟨ad', e, hc⟩ := hr.2 j u hu; cases e; exact hc) h1 h63 hbytes hbase
    exact ⟨v', w', hrun, h2, h3, h5⟩
/-- append onto a row of the call's own, the source whatever -/
theorem wpList_app {P : Program} (w : World) {ops : Array Oper} {rest : List Oper} {o : Oper} {a : Act} {Q : Exit → Act → World → Prop} (hgd : o.guard = none) (s x : Operand) (t : TypeId)
    (ho : o.op = .call { callee := .builtin .append, args := #[s, x], argTypes := #[t, t] })
    (base : Nat) (e : TypeId) (z : Value) (size bytes : Nat) (ht : P.underlying t = some (.slice e))
    (hinfo : (P.info? e).map (fun i => (i.zero, i.size, i.bytes)) = some (some z, size, bytes)) (hzs : z.cells.size = size) (hsz : 0 < size)
    (v : Value) (n : Nat) (xs : List Value) (hs : a.eval s = v) (hown : w.ownsRow base e size v n xs)
    (A : Option Addr) (m c : Nat) (news : List Value) (hx : a.eval x = .slice A m c) (hr : Src w A m size news) (h1 : ∀ u ∈ news, u.oneCell' = true)
    (h63 : n + m ≤ maxLen) (hbytes : (n + m) * bytes ≤ 140737488355328) (hbase : base ≤ w.heap.size)
    (h : ∀ v' w', w'.ownsRow base e size v' (n + m) (xs ++ news) → w.grownBy w' v.ownBlock → (v'.ownBlock = v.ownBlock ∨ v'.ownBlock = some w.heap.size) → wpList P ops Q rest (a.put o.dst v') w') :
    wpList P ops Q (o :: rest) a w := by
  refine wpList_plain hgd fun K hK => ?_
  obtain ⟨v', w', hr, h2, h3, h5⟩ := run_app (P := P) base t o.type e z size bytes ht hinfo hzs hsz v n xs hown A m c news hr h1 h63 hbytes hbase
  unfold Oper.wp execOp
  simp only [ho, resolve, invoke, builtin, Sem.run_bind, Sem.run_pure, Result.andThen_ok, List.map_toArray, List.map_cons, List.map_nil, hs, hx, hr]
  exact hK _ _ (h v' w' h2 h3 h5)
/-- the row's own block lies from base on -/
theorem own_base {w : World} {base : Nat} {e : TypeId} {size n : Nat} {v : Value} {xs : List Value} (h : w.ownsRow base e size v n xs) (k : Nat) (hk : v.ownBlock = some k) : base ≤ k := (h.lt k hk).1
theorem below_own {w0 w w' : World} {base : Nat} {e : TypeId} {size n : Nat} {v : Value} {xs : List Value} (hb : Below w0.heap.size w0 w) (h : w.ownsRow base e size v n xs) (h0 : w0.heap.size ≤ base) (hg : w.grownBy w' v.ownBlock) : Below w0.heap.size w0 w' :=
  hb.grown hg hb.size fun k hk => Nat.le_trans h0 (own_base h k hk)
/-- an owned row is a slice -/
theorem own_slice {w : World} {base n : Nat} {e : TypeId} {size : Nat} {v : Value} {xs : List Value} (h : w.ownsRow base e size v n xs) :
    ∃ A c, v = .slice A n c ∧ n ≤ c ∧ Src w A n size xs := by
  refine ?_
  rcases h.2 with ⟨rfl, rfl⟩ | ⟨g, cap, cur, rfl, _, hh, hnc, _, _⟩
  · refine ⟨none, 0, rfl, Nat.le_refl _, h.1, fun j u hu => ?_⟩
    have : xs = [] := List.eq_nil_of_length_eq_zero (by simpa using h.1)
    subst this
    simp at hu
  · exact ⟨_, cap, rfl, hnc, h.1, fun j u hu => ⟨_, rfl, h.cells (g := g) rfl j u hu⟩⟩
theorem Src.row1 {α : Type} {enc : α → Value} {w : World} {A : Option Addr} {m : Nat} {xs : List α} (h : Src w A m 1 (xs.map enc)) : Row1 enc w A xs :=
  fun k x hk => h.2 k (enc x) (by simp [hk])
theorem Row1.src {α : Type} {enc : α → Value} {w : World} {A : Option Addr} {xs : List α} (h : Row1 enc w A xs) : Src w A xs.length 1 (xs.map enc) :=
  ⟨by simp, fun j u hu => by
    simp only [List.getElem?_map, Option.map_eq_some_iff] at hu
    obtain ⟨x, hx, rfl⟩ := hu
    exact h j x hx⟩

theorem plain_add (g j : Nat) : (⟨g, 0, none⟩ : Addr).add j = ⟨g, j, none⟩ := by unfold Addr.add; split <;> simp_all
/-- a new block of these cells -/
theorem new_row {α : Type} (enc : α → Value) (w : World) (xs : List α) (cs : Array Value) (t : TypeId) (h : cs = (xs.map enc).toArray) : Row1 enc (w.alloc (.cells cs t)) (some ⟨w.heap.size, 0, none⟩) xs := by
  subst h
  intro k x hx
  refine ⟨_, rfl, ?_⟩
  rw [plain_add, cell_of_row _ _ _ _ _ _ (heap_alloc_new w _)]
  simp [hx]
theorem new_src (w : World) (m size : Nat) (cs : Array Value) (t : TypeId) (h : cs.size = m * size) : Src (w.alloc (.cells cs t)) (some ⟨w.heap.size, 0, none⟩) m size cs.toList :=
  ⟨by simpa using h, fun j u hu => ⟨_, rfl, by rw [plain_add, cell_of_row _ _ _ _ _ _ (heap_alloc_new w _)]; simpa using hu⟩⟩

/-- the place of the first one of which p holds; -1 -/
def idx {α : Type} (p : α → Bool) : List α → Int
  | [] => -1
  | x :: r => if p x then 0 else if idx p r < 0 then -1 else idx p r + 1
theorem idx_any {α : Type} (p : α → Bool) (xs : List α) : decide (0 ≤ idx p xs) = xs.any p := by
  induction xs with
  | nil => rfl
  | cons x r ih =>
    simp only [idx, List.any_cons]
    by_cases h : p x = true
    · simp [h]
    · simp only [h, if_false, Bool.false_or]
      rw [← ih]
      by_cases h2 : idx p r < 0
      · rw [if_pos h2]; simp; omega
      · rw [if_neg h2]; simp; omega
theorem idx_at {α : Type} (p : α → Bool) : ∀ (xs : List α) (k : Nat) (x : α), xs[k]? = some x → (∀ (j : Nat) (y : α), j < k → xs[j]? = some y → p y = false) → p x = true → idx p xs = k
  | [], k, x, h, _, _ => by simp at h
  | y :: r, 0, x, h, _, hp => by
    simp only [List.getElem?_cons_zero, Option.some.injEq] at h
    subst h
    simp [idx, hp]
  | y :: r, k + 1, x, h, hn, hp => by
    have h0 : p y = false := hn 0 y (by omega) rfl
    have ih := idx_at p r k x (by simpa using h) (fun j z hj hz => hn (j + 1) z (by omega) (by simpa using hz)) hp
    simp only [idx, h0, ih]
    simp
    omega
theorem idx_none {α : Type} (p : α → Bool) : ∀ (xs : List α), (∀ (j : Nat) (y : α), xs[j]? = some y → p y = false) → idx p xs = -1
  | [], _ => rfl
  | y :: r, hn => by
    have h0 : p y = false := hn 0 y rfl
    have ih := idx_none p r fun j z hz => hn (j + 1) z (by simpa using hz)
    simp [idx, h0, ih]
end Go.Proofs.YthbcofbdgljfbaaDoor
