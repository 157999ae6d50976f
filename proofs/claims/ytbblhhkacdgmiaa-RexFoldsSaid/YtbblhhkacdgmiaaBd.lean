/- Expressions, from the last to the first: slices.Backward. Whether an expression may be, as the document has it. Some expressions, two by two. What is made of sets and expressions: nodes. Some expressions, two by two: the walk. What is made of expressions: one behind the other, one of some. A text's bytes, one behind the other. -/
import Derived.Test.YtbblhhkacdgmiaaBa
import Derived.RangeFuncNested
import Derived.RangeFuncBound
import Derived.RangeFuncCalls
import Derived.RangeFuncLeaves
import Derived.RangeFuncBox
import Derived.Shelf.Abstract
import Derived.Shelf.RegionOpen
import Derived.WalkKit
import Derived.OwnWalkIn
import Derived.TacticsInMore
import Derived.LoopNIn
import Derived.LoopIn
import Derived.Test.YtbblhhkacdgmiaaBb
import Derived.Deep.RegionHeld3
namespace Go.Proofs.Ytbblhhkacdgmiaa
open Go.RowKit Go.Shelf
set_option linter.unusedVariables false
set_option linter.unusedSimpArgs false
attribute [local go_sem] Oper.semAt_some

/-- an expression of a row, and where it stands -/
structure El (P : Nat → Prop) (W0 : World) where
  i : Nat
  h : RH
  ks : List Re
  A : Option Addr
  c : Nat
  hc : ks.length ≤ c
  hr : InRow RE P W0 ks A 0
abbrev El.encs {P : Nat → Prop} {W0 : World} (x : El P W0) : Array Value := #[.int .i64 (x.i : Int), reV x.h x.A x.ks.length x.c]
def El.t {P : Nat → Prop} {W0 : World} (x : El P W0) : Re := .mk x.h x.ks
/-- its cells -/
def El.At {P : Nat → Prop} {W0 : World} (W : World) (ad : Addr) (x : El P W0) : Prop :=
      W.cell? (ad.add (x.i * 6)) = some (.int .u8 (x.h.k.toNat : Int)) ∧
      W.cell? ⟨(ad.add (x.i * 6)).block, (ad.add (x.i * 6)).off + 1, none⟩ = some (.int .u64 (x.h.s.a.toNat : Int)) ∧
      W.cell? ⟨(ad.add (x.i * 6)).block, (ad.add (x.i * 6)).off + 2, none⟩ = some (.int .u64 (x.h.s.b.toNat : Int)) ∧
      W.cell? ⟨(ad.add (x.i * 6)).block, (ad.add (x.i * 6)).off + 3, none⟩ = some (.int .u64 (x.h.s.c.toNat : Int)) ∧
      W.cell? ⟨(ad.add (x.i * 6)).block, (ad.add (x.i * 6)).off + 4, none⟩ = some (.int .u64 (x.h.s.d.toNat : Int)) ∧
      W.cell? ⟨(ad.add (x.i * 6)).block, (ad.add (x.i * 6)).off + 5, none⟩ = some (.slice x.A x.ks.length x.c)

/-- what a round keeps: what lies below n₀, and the slice's box -/
def BackK (n₀ Bs : Nat) (W W' : World) : Prop := Below n₀ W W' ∧ W'.heap[Bs]? = W.heap[Bs]?
theorem BackK.refl (n₀ Bs : Nat) (W : World) : BackK n₀ Bs W W := ⟨Below.refl _ _, rfl⟩
theorem BackK.trans {n₀ Bs : Nat} {A B C : World} (h : BackK n₀ Bs A B) (k : BackK n₀ Bs B C) : BackK n₀ Bs A C := ⟨h.1.trans k.1, k.2.trans h.2⟩

theorem add_blk (a : Addr) (i : Nat) : (a.add i).block = a.block := by unfold Addr.add; split <;> rfl
theorem El.At.keep {P : Nat → Prop} {W0 W W' : World} {n : Nat} {ad : Addr} {x : El P W0} (h : x.At W ad) (hb : Below n W W') (hn : ad.block < n) : x.At W' ad := by
  obtain ⟨h0, h1, h2, h3, h4, h5⟩ := h
  refine ⟨(hb.cell (by rw [add_blk]; exact hn)).trans h0, (hb.cell ?_).trans h1, (hb.cell ?_).trans h2, (hb.cell ?_).trans h3, (hb.cell ?_).trans h4, (hb.cell ?_).trans h5⟩ <;>
  · show (ad.add (x.i * 6)).block < n
    rw [add_blk]; exact hn

set_option maxRecDepth 100000 in
set_option maxHeartbeats 4000000 in
theorem back1_in {P : Nat → Prop} {W0 : World} (F : Fence) (n : Nat) (hf : F.fn 37) (hro : F.round = none) (hn : 1 ≤ n) (l Bs n₀ c : Nat) (ad : Addr) (rs : List (El P W0)) (hlm : rs.length ≤ 1000000000) (hb : ad.block < n₀) (J Jx : List (El P W0) → World → Prop)
    (hY : ∀ pre x W, J pre W → pre.length < rs.length → YieldAt F (n - 1) Try.prog l x.encs W fun e W' =>
      (e = .returned (.bool true) ∧ J (pre ++ [x]) W' ∧ BackK n₀ Bs W W') ∨ (e = .returned (.bool false) ∧ Jx (pre ++ [x]) W'))
    (W : World) (hBs : W.cell? ⟨Bs, 0, none⟩ = some (.slice (some ad) rs.length c)) (hel : ∀ k x, rs[k]? = some x → x.i + k + 1 = rs.length ∧ x.At W ad) (h0 : J [] W) :
    CallsIn F n Try.prog 37 #[.func (.yield l) #[] #[], .pointer (some ⟨Bs, 0, none⟩)] W fun e W' => (∃ v, e = .returned v) ∧
      ((∃ ys, ys = rs ∧ J ys W') ∨ (∃ pre, pre <+: rs ∧ Jx pre W')) := by
  refine callsIn_of_wp Try.func37 rfl hf ?_ hro
  simp only [Try.ntmps37, List.size_toArray, List.length_cons, List.length_nil, Nat.reduceAdd, Nat.reduceSub, Array.replicate_succ, Array.replicate_zero, List.push_toArray, List.append_toArray, List.nil_append, List.cons_append]
  gi_wp2
  gi_loopw [3] (fun i wr => ∃ j : Nat, j ≤ rs.length ∧ i = .int .i64 ((j : Int) - 1) ∧ J (rs.take (rs.length - j)) wr ∧ BackK n₀ Bs W wr)
    (fun i _ => (intOf i + 1).toNat)
  case atStart => exact ⟨rs.length, Nat.le_refl _, rfl, by simpa using h0, BackK.refl _ _ _⟩
  case round =>
    obtain ⟨j, hj, rfl, hJs, hnx⟩ := hrel
    have hBs' : wr.cell? ⟨Bs, 0, none⟩ = some (.slice (some ad) rs.length c) := (World.cell?_of_block hnx.2).trans hBs
    cases j with
    | zero =>
      have hT : rs.take (rs.length - 0) = rs := by simp
      rw [hT] at hJs
      have g : decide (((0 : Nat) : Int) - 1 ≥ 0) = false := rfl
      gi_wp2
      go_end0
      exact ⟨⟨_, rfl⟩, .inl ⟨_, rfl, hJs⟩⟩
    | succ m =>
      have hk : rs.length - (m + 1) < rs.length := by omega
      have hx : rs[rs.length - (m + 1)]? = some rs[rs.length - (m + 1)] := by simp [hk]
      have hT : rs.take (rs.length - m) = rs.take (rs.length - (m + 1)) ++ [rs[rs.length - (m + 1)]] := by
        rw [show rs.length - m = (rs.length - (m + 1)) + 1 by omega, List.take_add_one, hx]
        rfl
      have HT := Lib.hid hT
      clear hT
      obtain ⟨hi, hat⟩ := hel _ _ hx
      obtain ⟨fn, tmps, assign, body, hy, hR⟩ := hY _ rs[rs.length - (m + 1)] wr hJs (by rw [List.length_take]; omega)
      generalize rs[rs.length - (m + 1)] = x at *
      have hxi : x.i = m := by omega
      obtain ⟨i, h, ks, A, c1, hc1, hr1⟩ := x
      dsimp only at hxi hy hi
      subst hxi
      obtain ⟨q0, q1, q2, q3, q4, q5⟩ := hat.keep hnx.1 hb
      dsimp only at q0 q1 q2 q3 q4 q5
      have g : decide (((i + 1 : Nat) : Int) - 1 ≥ 0) = true := by simp
      have ei : ((i + 1 : Nat) : Int) - 1 = (i : Int) := by omega
      rw [ei]
      simp only [El.encs] at hy
      clear hBs hel hY hat hx
      gi_wp2
      refine hR.mono ?_
      rintro e W3 (⟨rfl, hJ3, hk3⟩ | ⟨rfl, hJx3⟩)
      · gi_wp2
        go_roundw
        case rel => exact ⟨i, by omega, by simp, by rw [HT.out]; exact hJ3, hnx.trans hk3⟩
        case measure => simp [intOf]
      · gi_wp2
        refine bodyPost_ret (results_none rfl _ _ _) rfl ?_
        exact ⟨⟨_, rfl⟩, .inr ⟨_, by rw [← HT.out]; exact List.take_prefix _ _, hJx3⟩⟩

set_option maxHeartbeats 1000000 in
theorem back_in (F : Fence) (n : Nat) (hf : F.fn 32) (hro : F.round = none) (a : Option Addr) (len cap : Nat) (w : World) :
    CallsIn F n Try.prog 32 #[.slice a len cap] w fun e w' => e = .returned (.func (.func 37) #[] #[.pointer (some ⟨w.heap.size, 0, none⟩)]) ∧ w' = w.alloc (.cells #[.slice a len cap] 22) := by
  refine callsIn_of_wp Try.func32 rfl hf ?_ hro
  simp only [Try.ntmps32, List.size_toArray, List.length_cons, List.length_nil, Nat.reduceAdd, Nat.reduceSub, Array.replicate_succ, Array.replicate_zero, List.push_toArray, List.append_toArray, List.nil_append, List.cons_append]
  gi_wp2
  go_ret
  exact ⟨rfl, rfl⟩

theorem back_stops {P : Nat → Prop} {W0 : World} (F : Fence) (n : Nat) (hf : F.fn 37) (hro : F.round = none) (hn : 1 ≤ n) (Bs n₀ c : Nat) (ad : Addr) (rs : List (El P W0)) (hlm : rs.length ≤ 1000000000) (w : World) (hBs : Bs < w.heap.size) (hn₀ : n₀ ≤ w.heap.size) (hb : ad.block < n₀)
    (hc : w.cell? ⟨Bs, 0, none⟩ = some (.slice (some ad) rs.length c)) (hel : ∀ k x, rs[k]? = some x → x.i + k + 1 = rs.length ∧ x.At w ad) :
    SeqStopsK F n Try.prog 37 #[.pointer (some ⟨Bs, 0, none⟩)] (fun x : El P W0 => x.encs) (BackK n₀ Bs) (fun ys => ys = rs) (fun pre => pre <+: rs) rs.length w := fun l J Jx W hW _ _ hY h0 =>
  back1_in F n hf hro hn l Bs n₀ c ad rs hlm hb J Jx hY W ((hW.cell (p := ⟨Bs, 0, none⟩) hBs).trans hc) (fun k x hx => ⟨(hel k x hx).1, (hel k x hx).2.keep hW (by omega)⟩) h0

/-- a row's expressions, from the last to the first -/
theorem els_of {ok : Nat → Prop} {w : World} {ts : List Re} {ad : Addr} (hr : InRow RE ok w ts (some ad) 0) : ∀ n, n ≤ ts.length →
    ∃ rs : List (El (fun b => ok b ∧ b < w.heap.size) w), rs.length = n ∧ (rs.map El.t) = (ts.take n).reverse ∧ ∀ k x, rs[k]? = some x → x.i + k + 1 = n ∧ x.At w ad
  | 0, _ => ⟨[], rfl, by simp, fun k x h => by simp at h⟩
  | n + 1, hn => by
    obtain ⟨rs, h1, h2, h3⟩ := els_of hr n (by omega)
    obtain ⟨t, ad', h, ks, A1, c1, hA, hx, rfl, hc1, hr1, q⟩ := re_at hr (show n < ts.length by omega)
    cases hA
    refine ⟨⟨n, h, ks, A1, c1, hc1, hr1.there⟩ :: rs, by simp [h1], ?_, ?_⟩
    · simp only [List.map_cons, h2, El.t]
      rw [List.take_add_one, hx]
      simp
    · intro k x hk
      cases k with
      | zero =>
        simp only [List.getElem?_cons_zero, Option.some.injEq] at hk
        subst hk
        exact ⟨by simp, q⟩
      | succ k =>
        simp only [List.getElem?_cons_succ] at hk
        obtain ⟨e1, e2⟩ := h3 k x hk
        exact ⟨by omega, e2⟩
end Go.Proofs.Ytbblhhkacdgmiaa
namespace Go.Proofs.Ytbblhhkacdgmiaa
open Go.RowKit
set_option linter.unusedVariables false
set_option linter.unusedSimpArgs false

mutual
theorem okT_all : ∀ t : Re, okT t = t.all.all fun x => okNode x.head x.kids.length
  | .mk h ks => by
    simp only [okT, T.all, List.all_cons, T.head, T.kids, okL_alls ks]
theorem okL_alls : ∀ ts : List Re, okL ts = (T.alls ts).all fun x => okNode x.head x.kids.length
  | [] => rfl
  | t :: ts => by
    simp only [okL, T.alls, List.all_append, okT_all t, okL_alls ts]
end

mutual
theorem T.all_le {α : Type} : ∀ (t : T α) {x : T α}, x ∈ t.all → x.size ≤ t.size
  | .mk a ks, x, h => by
    simp only [T.all, List.mem_cons] at h
    rcases h with rfl | h
    · exact Nat.le_refl _
    · have := T.alls_le ks h; simp only [T.size]; omega
theorem T.alls_le {α : Type} : ∀ (ts : List (T α)) {x : T α}, x ∈ T.alls ts → x.size ≤ T.sizes ts
  | [], x, h => by simp [T.alls] at h
  | t :: ts, x, h => by
    simp only [T.alls, List.mem_append] at h
    rcases h with h | h
    · have := T.all_le t h; simp only [T.sizes]; omega
    · have := T.alls_le ts h; simp only [T.sizes]; omega
end
theorem all_no {α : Type} {l : List α} {p : α → Bool} {k : Nat} {t : α} (h : l[k]? = some t) (hp : p t = false) : l.all p = false := by
  rw [List.all_eq_false]
  exact ⟨t, List.mem_of_getElem? h, by simp [hp]⟩
theorem all_yes {α : Type} {l : List α} {p : α → Bool} (h : ∀ (j : Nat) (t : α), j < l.length → l[j]? = some t → p t = true) : l.all p = true := by
  rw [List.all_eq_true]
  intro t ht
  obtain ⟨j, hj⟩ := List.getElem?_of_mem ht
  exact h j t (by rcases Nat.lt_or_ge j l.length with h | h; exact h; rw [List.getElem?_eq_none h] at hj; simp at hj) hj

theorem pw_drew {B : Nat} {a w : World} (h : Below B a w) : Below B a w.drew := ⟨h.os, h.tape, h.output, h.size, h.block⟩

end Go.Proofs.Ytbblhhkacdgmiaa
namespace Go.Proofs.Ytbblhhkacdgmiaa
open Go.RowKit Go.Shelf
set_option linter.unusedVariables false
set_option linter.unusedSimpArgs false
attribute [local go_sem] Oper.semAt_some

/-- a value that is an expression -/
def IsRe (ok : Nat → Prop) (w : World) (t : Re) (v : Value) : Prop := ∃ h ks A c, t = .mk h ks ∧ ks.length ≤ c ∧ v = reV h A ks.length c ∧ InRow RE ok w ks A 0
def RePost (ok : Nat → Prop) (t : Re) (w : World) (e : Ending) (w' : World) : Prop := ∃ v, e = .returned v ∧ IsRe (fun b => ok b ∨ w.heap.size ≤ b) w' t v ∧ Below w.heap.size w w'

/-- some, two by two -/
def foldT (kd nn : UInt8) : List Re → Re
  | [] => .mk ⟨nn, S4.zero⟩ []
  | [t] => t
  | t :: u :: ts => .mk ⟨kd, S4.zero⟩ [t, foldT kd nn (u :: ts)]
def foldAcc (kd : UInt8) (z : Re) (ts : List Re) : Re := ts.foldl (fun o t => .mk ⟨kd, S4.zero⟩ [t, o]) z
theorem foldT_acc (kd nn : UInt8) (z : Re) : ∀ ts : List Re, foldT kd nn (ts ++ [z]) = foldAcc kd z ts.reverse
  | [] => rfl
  | [t] => rfl
  | t :: u :: ts => by
    have := foldT_acc kd nn z (u :: ts)
    simp only [List.cons_append] at this ⊢
    rw [foldT, this]
    simp [foldAcc]

abbrev reA (h : RH) (A : Option Addr) (n c : Nat) : Array Value := #[.int .u8 (h.k.toNat : Int), .int .u64 (h.s.a.toNat : Int), .int .u64 (h.s.b.toNat : Int), .int .u64 (h.s.c.toNat : Int), .int .u64 (h.s.d.toNat : Int), .slice A n c]
/-- a variable that holds an expression, which leads to neither its block nor the result's -/
def OutAt (P : Nat → Prop) (W : World) (b b' : Nat) (t : Re) : Prop := ∃ h ks A c, t = .mk h ks ∧ ks.length ≤ c ∧ W.heap[b]? = some (.cells (reA h A ks.length c) 30 (0, 0)) ∧ InRow RE (fun x => P x ∧ x ≠ b ∧ x ≠ b') W ks A 0
theorem re_cells {w : World} {b : Nat} {v0 v1 v2 v3 v4 v5 : Value} {t : TypeId} (h : w.heap[b]? = some (.cells #[v0, v1, v2, v3, v4, v5] t (0, 0))) :
    (w.cell? ⟨b, 0, none⟩ = some v0 ∧ w.cell? ⟨b, 1, none⟩ = some v1 ∧ w.cell? ⟨b, 2, none⟩ = some v2 ∧ w.cell? ⟨b, 3, none⟩ = some v3 ∧ w.cell? ⟨b, 4, none⟩ = some v4 ∧ w.cell? ⟨b, 5, none⟩ = some v5) ∧
    w.frozen? ⟨b, 0, none⟩ = false ∧ w.frozen? ⟨b, 1, none⟩ = false ∧ w.frozen? ⟨b, 2, none⟩ = false ∧ w.frozen? ⟨b, 3, none⟩ = false ∧ w.frozen? ⟨b, 4, none⟩ = false ∧ w.frozen? ⟨b, 5, none⟩ = false := by
  refine ⟨⟨?_, ?_, ?_, ?_, ?_, ?_⟩, ?_, ?_, ?_, ?_, ?_, ?_⟩ <;> simp [World.cell?, World.frozen?, h]
theorem six_setCells {w : World} {b : Nat} {v0 v1 v2 v3 v4 v5 u0 u1 u2 u3 u4 u5 : Value} {t : TypeId} (h : w.heap[b]? = some (.cells #[v0, v1, v2, v3, v4, v5] t (0, 0))) :
    ((((((w.setCell ⟨b, 0, none⟩ u0).setCell ⟨b, 1, none⟩ u1).setCell ⟨b, 2, none⟩ u2).setCell ⟨b, 3, none⟩ u3).setCell ⟨b, 4, none⟩ u4).setCell ⟨b, 5, none⟩ u5).heap[b]? = some (.cells #[u0, u1, u2, u3, u4, u5] t (0, 0)) := by
  simp [World.setCell, Array.getElem?_modify, h]
theorem six_other {w : World} {b k : Nat} {u0 u1 u2 u3 u4 u5 : Value} (hk : k ≠ b) :
    ((((((w.setCell ⟨b, 0, none⟩ u0).setCell ⟨b, 1, none⟩ u1).setCell ⟨b, 2, none⟩ u2).setCell ⟨b, 3, none⟩ u3).setCell ⟨b, 4, none⟩ u4).setCell ⟨b, 5, none⟩ u5).heap[k]? = w.heap[k]? := by
  rw [Below.heap_setCell _ _ _ _ hk, Below.heap_setCell _ _ _ _ hk, Below.heap_setCell _ _ _ _ hk, Below.heap_setCell _ _ _ _ hk, Below.heap_setCell _ _ _ _ hk, Below.heap_setCell _ _ _ _ hk]
theorem six_below {w x : World} {b B : Nat} {u0 u1 u2 u3 u4 u5 : Value} (hb : Below B w x) (hB : B ≤ b) :
    Below B w ((((((x.setCell ⟨b, 0, none⟩ u0).setCell ⟨b, 1, none⟩ u1).setCell ⟨b, 2, none⟩ u2).setCell ⟨b, 3, none⟩ u3).setCell ⟨b, 4, none⟩ u4).setCell ⟨b, 5, none⟩ u5) :=
  (((((hb.setCell hB _).setCell hB _).setCell hB _).setCell hB _).setCell hB _).setCell hB _
theorem cell_heap {w : World} {b : Nat} {cs : Array Value} {t : TypeId} (h : w.heap[b]? = some (.cells cs t (0, 0))) (j : Nat) : w.cell? (Addr.add ⟨b, 0, none⟩ j) = cs[j]? := by
  unfold Addr.add
  split
  · rename_i h0; subst h0; simp [World.cell?, h]
  · simp [World.cell?, h]

theorem outAt_own {P : Nat → Prop} {b b' : Nat} {β : Type} (f : β → Re) : Own (fun s W => OutAt P W b b' (f s)) := by
  rintro s X Y row ⟨h, ks, A, c, e, hc, hh, hr⟩ hg hrow
  refine ⟨h, ks, A, c, e, hc, (grownBy_keeps_cells hg hrow hh rfl).trans hh, hr.keep (fun _ h => h) fun a v _ hv => cell_kept hv hg hrow⟩
theorem OutAt.alloc {P : Nat → Prop} {W : World} {b b' : Nat} {t : Re} (h : OutAt P W b b' t) (o : Obj) : OutAt P (W.alloc o) b b' t :=
  (Own.from (outAt_own (fun (_ : Unit) => t)) 0).alloc (s := ()) o h
theorem heap_keep {W : World} {b : Nat} {x : Obj} (h : W.heap[b]? = some x) (o : Obj) : (W.alloc o).heap[b]? = some x :=
  (Below.heap_alloc W o b (lt_of_block h)).trans h
/-- a round: two by two -/
theorem out_step {P : Nat → Prop} {W : World} {b b' : Nat} {kd : UInt8} {h' h2 : RH} {ks' ks2 : List Re} {A' A2 : Option Addr} {c' c2 : Nat} {x : Array Value}
    (hb : W.heap[b]? = some (.cells (reA h2 A2 ks2.length c2) 30 (0, 0))) (hb' : b' < W.heap.size) (hP : P W.heap.size) (hc' : ks'.length ≤ c') (hc2 : ks2.length ≤ c2)
    (hr' : InRow RE (fun x => P x ∧ x ≠ b ∧ x ≠ b') W ks' A' 0) (hr2 : InRow RE (fun x => P x ∧ x ≠ b ∧ x ≠ b') W ks2 A2 0) (hx : x = reA h' A' ks'.length c' ++ reA h2 A2 ks2.length c2) :
    OutAt P (((((((W.alloc (.cells x 30)).setCell ⟨b, 0, none⟩ (.int .u8 (kd.toNat : Int))).setCell ⟨b, 1, none⟩ (.int .u64 0)).setCell ⟨b, 2, none⟩ (.int .u64 0)).setCell ⟨b, 3, none⟩ (.int .u64 0)).setCell ⟨b, 4, none⟩ (.int .u64 0)).setCell ⟨b, 5, none⟩ (.slice (some ⟨W.heap.size, 0, none⟩) 2 2))
      b b' (.mk ⟨kd, S4.zero⟩ [.mk h' ks', .mk h2 ks2]) := by
  have hblt := lt_of_block hb
  have h1 := six_setCells (u0 := .int .u8 (kd.toNat : Int)) (u1 := .int .u64 0) (u2 := .int .u64 0) (u3 := .int .u64 0) (u4 := .int .u64 0) (u5 := .slice (some ⟨W.heap.size, 0, none⟩) 2 2) (heap_keep hb (.cells x 30))
  have h2' := (six_other (w := W.alloc (.cells x 30)) (b := b) (k := W.heap.size) (u0 := .int .u8 (kd.toNat : Int)) (u1 := .int .u64 0) (u2 := .int .u64 0) (u3 := .int .u64 0) (u4 := .int .u64 0) (u5 := .slice (some ⟨W.heap.size, 0, none⟩) 2 2) (by omega)).trans (World.alloc_heap_new W _)
  have hk : ∀ (a : Addr) (v : Value), (P a.block ∧ a.block ≠ b ∧ a.block ≠ b') → W.cell? a = some v → (((((((W.alloc (.cells x 30)).setCell ⟨b, 0, none⟩ (.int .u8 (kd.toNat : Int))).setCell ⟨b, 1, none⟩ (.int .u64 0)).setCell ⟨b, 2, none⟩ (.int .u64 0)).setCell ⟨b, 3, none⟩ (.int .u64 0)).setCell ⟨b, 4, none⟩ (.int .u64 0)).setCell ⟨b, 5, none⟩ (.slice (some ⟨W.heap.size, 0, none⟩) 2 2)).cell? a = some v := by
    intro a v ha hv
    exact (World.cell?_of_block ((six_other ha.2.1).trans (Below.heap_alloc W _ _ (World.block_lt_of_cell? _ _ hv)))).trans hv
  generalize ((((((W.alloc (.cells x 30)).setCell ⟨b, 0, none⟩ (.int .u8 (kd.toNat : Int))).setCell ⟨b, 1, none⟩ (.int .u64 0)).setCell ⟨b, 2, none⟩ (.int .u64 0)).setCell ⟨b, 3, none⟩ (.int .u64 0)).setCell ⟨b, 4, none⟩ (.int .u64 0)).setCell ⟨b, 5, none⟩ (.slice (some ⟨W.heap.size, 0, none⟩) 2 2) = Y at *
  refine ⟨⟨kd, S4.zero⟩, [.mk h' ks', .mk h2 ks2], some ⟨W.heap.size, 0, none⟩, 2, rfl, Nat.le_refl _, h1, ?_⟩
  have hn1 : W.heap.size ≠ b := by omega
  have hn2 : W.heap.size ≠ b' := by omega
  simp only [InRow, InT]
  refine ⟨⟨_, RH.cells h' ++ [.slice A' ks'.length c'], rfl, ⟨hP, hn1, hn2⟩, fun j u hu => ?_, A', c', rfl, hc', hr'.keep (fun _ h => h) hk⟩, ⟨_, RH.cells h2 ++ [.slice A2 ks2.length c2], rfl, ⟨hP, hn1, hn2⟩, fun j u hu => ?_, A2, c2, rfl, hc2, hr2.keep (fun _ h => h) hk⟩, trivial⟩
  · rw [cell_heap h2', hx, Array.getElem?_append]
    have hj : j < 6 := by
      rcases Nat.lt_or_ge j 6 with h | h
      · exact h
      · rw [List.getElem?_eq_none (by simpa [RH.cells] using h)] at hu; cases hu
    rw [if_pos (by simpa using hj), ← hu]
    simp [RH.cells]
  · rw [cell_heap h2', hx, Array.getElem?_append, if_neg (by simp [RE]), ← hu]
    simp [RH.cells, RE]
end Go.Proofs.Ytbblhhkacdgmiaa
namespace Go.Proofs.Ytbblhhkacdgmiaa
open Go.RowKit
set_option linter.unusedVariables false
set_option linter.unusedSimpArgs false

theorem new_at {w : World} {n : Nat} (o : Obj) (h : w.heap.size = n) : (w.alloc o).heap[n]? = some o := by
  subst h
  exact World.alloc_heap_new w o
theorem row_one {P : Nat → Prop} {Y : World} {N : Nat} {t : TypeId} {h : RH} {ks : List Re} {A : Option Addr} {c : Nat} (hN : Y.heap[N]? = some (.cells (reA h A ks.length c) t (0, 0))) (hP : P N) (hc : ks.length ≤ c) (hr : InRow RE P Y ks A 0) :
    InRow RE P Y [.mk h ks] (some ⟨N, 0, none⟩) 0 := by
  simp only [InRow, InT]
  refine ⟨⟨_, RH.cells h ++ [.slice A ks.length c], rfl, hP, fun j u hu => ?_, A, c, rfl, hc, hr⟩, trivial⟩
  rw [cell_heap hN, ← hu]
  simp [RH.cells]
theorem row_two {P : Nat → Prop} {Y : World} {N : Nat} {t : TypeId} {h h2 : RH} {ks ks2 : List Re} {A A2 : Option Addr} {c c2 : Nat} {x : Array Value} (hN : Y.heap[N]? = some (.cells x t (0, 0))) (hx : x = reA h A ks.length c ++ reA h2 A2 ks2.length c2) (hP : P N)
    (hc : ks.length ≤ c) (hr : InRow RE P Y ks A 0) (hc2 : ks2.length ≤ c2) (hr2 : InRow RE P Y ks2 A2 0) : InRow RE P Y [.mk h ks, .mk h2 ks2] (some ⟨N, 0, none⟩) 0 := by
  simp only [InRow, InT]
  refine ⟨⟨_, RH.cells h ++ [.slice A ks.length c], rfl, hP, fun j u hu => ?_, A, c, rfl, hc, hr⟩, ⟨_, RH.cells h2 ++ [.slice A2 ks2.length c2], rfl, hP, fun j u hu => ?_, A2, c2, rfl, hc2, hr2⟩, trivial⟩
  · rw [cell_heap hN, hx, Array.getElem?_append]
    have hj : j < 6 := by
      rcases Nat.lt_or_ge j 6 with h | h
      · exact h
      · rw [List.getElem?_eq_none (by simpa [RH.cells] using h)] at hu; cases hu
    rw [if_pos (by simpa using hj), ← hu]
    simp [RH.cells]
  · rw [cell_heap hN, hx, Array.getElem?_append, if_neg (by simp [RE]), ← hu]
    simp [RH.cells, RE]

def ofH (s : S4) : RH := if s = S4.zero then ⟨1, S4.zero⟩ else ⟨3, s⟩

set_option maxHeartbeats 4000000 in
theorem bare_any (kv : Int) (k : UInt8) (hk : kv = (k.toNat : Int)) (w : World) :
    Calls Try.prog 23 #[.int .u8 kv] w fun e w' => e = .returned (reV ⟨k, S4.zero⟩ none 0 0) ∧ Below w.heap.size w w' := by
  subst hk
  go_enter Try.func23, Try.ntmps23
  go_wp2_with fail
  refine bodyPost_ret (v := reV ⟨k, S4.zero⟩ none 0 0) (by simp [results, Try.results23, go_sem]; exact ⟨rfl, rfl, rfl, rfl⟩) rfl ⟨rfl, below_new (Below.refl _ _) _⟩

set_option maxHeartbeats 4000000 in
theorem rexOf_any (s : S4) (w : World) :
    Calls Try.prog 12 #[setV s] w fun e w' => e = .returned (reV (ofH s) none 0 0) ∧ Below w.heap.size w w' := by
  have hq := run_eql_zero s
  by_cases hs : s = S4.zero
  · have HO : Hid (ofH s = ⟨1, S4.zero⟩) := by unfold Hid ofH; rw [if_pos hs]
    have hd : decide (s = S4.zero) = true := by simp [hs]
    rw [hd] at hq
    clear hs hd
    go_enter Try.func12, Try.ntmps12
    go_wp2_with fail
    refine bodyPost_ret (v := reV ⟨1, S4.zero⟩ none 0 0) (by simp [results, Try.results12, go_sem]; exact ⟨rfl, rfl, rfl, rfl⟩) rfl ⟨by rw [HO.out], below_new (below_new (Below.refl _ _) _) _⟩
  · have HO : Hid (ofH s = ⟨3, s⟩) := by unfold Hid ofH; rw [if_neg hs]
    have hd : decide (s = S4.zero) = false := by simp [hs]
    rw [hd] at hq
    clear hs hd
    go_enter Try.func12, Try.ntmps12
    go_wp2_with fail
    refine bodyPost_ret (v := reV ⟨3, s⟩ none 0 0) (by simp [results, Try.results12, go_sem]) rfl ⟨by rw [HO.out], below_new (below_new (Below.refl _ _) _) _⟩

set_option maxHeartbeats 4000000 in
theorem refOfRe_any (s : S4) (w : World) :
    Calls Try.prog 13 #[setV s] w fun e w' => e = .returned (reV (ofH s) none 0 0) ∧ Below w.heap.size w w' := by
  have hq := run_eql_zero s
  by_cases hs : s = S4.zero
  · have HO : Hid (ofH s = ⟨1, S4.zero⟩) := by unfold Hid ofH; rw [if_pos hs]
    have hd : decide (s = S4.zero) = true := by simp [hs]
    rw [hd] at hq
    clear hs hd
    go_enter Try.func13, Try.ntmps13
    go_wp2_with fail
    refine (bare_any _ 1 rfl _).mono ?_
    rintro e w1 ⟨rfl, hb1⟩
    have hb2 := below_from (below_new (below_new (Below.refl _ _) _) _) hb1
    obtain ⟨e1, e2⟩ := two_blocks hb1
    obtain ⟨⟨x0, x1, x2, x3, x4, x5⟩, f0, f1, f2, f3, f4, f5⟩ := re_cells e2
    clear e1 hb1
    have E2 := Lib.hid e2
    clear e2
    go_wp2_with fail
    refine bodyPost_ret (v := reV ⟨1, S4.zero⟩ none 0 0) (by simp [results, Try.results13, go_sem, x0, x1, x2, x3, x4, x5]) rfl ⟨by rw [HO.out], six_below hb2 (by omega)⟩
  · have HO : Hid (ofH s = ⟨3, s⟩) := by unfold Hid ofH; rw [if_neg hs]
    have hd : decide (s = S4.zero) = false := by simp [hs]
    rw [hd] at hq
    clear hs hd
    go_enter Try.func13, Try.ntmps13
    go_wp2_with fail
    refine bodyPost_ret (v := reV ⟨3, s⟩ none 0 0) (by simp [results, Try.results13, go_sem]) rfl ⟨by rw [HO.out], below_new (below_new (Below.refl _ _) _) _⟩

set_option maxHeartbeats 4000000 in
theorem rexMany_any {ok : Nat → Prop} (h : RH) (ks : List Re) (A : Option Addr) (c : Nat) (w : World) (hc : ks.length ≤ c) (hr : InRow RE ok w ks A 0) :
    Calls Try.prog 16 #[reV h A ks.length c] w (RePost ok (.mk ⟨6, S4.zero⟩ [.mk h ks]) w) := by
  go_enter Try.func16, Try.ntmps16
  go_wp2_with fail
  have hb := fun o1 o2 o3 => below_new (below_new (below_new (Below.refl _ w) o1) o2) o3
  refine bodyPost_ret (v := reV ⟨6, S4.zero⟩ (some ⟨w.heap.size + 1 + 1, 0, none⟩) 1 1) (by simp [results, Try.results16, go_sem]; exact ⟨rfl, rfl, rfl, rfl⟩) rfl ⟨_, rfl, ⟨_, _, _, _, rfl, Nat.le_refl _, rfl, ?_⟩, hb _ _ _⟩
  exact row_one (new_at _ (by simp)) (.inr (by omega)) hc ((hr.below (hb _ _ _)).weak fun b hb => .inl hb)

set_option maxHeartbeats 4000000 in
theorem refMany_any {ok : Nat → Prop} (h : RH) (ks : List Re) (A : Option Addr) (c : Nat) (w : World) (hc : ks.length ≤ c) (hr : InRow RE ok w ks A 0) :
    Calls Try.prog 17 #[reV h A ks.length c] w (RePost ok (.mk ⟨6, S4.zero⟩ [.mk h ks]) w) := by
  go_enter Try.func17, Try.ntmps17
  go_wp2_with fail
  have hb := fun o1 o2 o3 => below_new (below_new (below_new (Below.refl _ w) o1) o2) o3
  refine bodyPost_ret (v := reV ⟨6, S4.zero⟩ (some ⟨w.heap.size + 1 + 1, 0, none⟩) 1 1) (by simp [results, Try.results17, go_sem]; exact ⟨rfl, rfl, rfl, rfl⟩) rfl ⟨_, rfl, ⟨_, _, _, _, rfl, Nat.le_refl _, rfl, ?_⟩, hb _ _ _⟩
  exact row_one (new_at _ (by simp)) (.inr (by omega)) hc ((hr.below (hb _ _ _)).weak fun b hb => .inl hb)

set_option maxHeartbeats 4000000 in
theorem two_any {ok : Nat → Prop} (kv : Int) (k : UInt8) (hk : kv = (k.toNat : Int)) (h h2 : RH) (ks ks2 : List Re) (A A2 : Option Addr) (c c2 : Nat) (w : World) (hc : ks.length ≤ c) (hc2 : ks2.length ≤ c2) (hr : InRow RE ok w ks A 0) (hr2 : InRow RE ok w ks2 A2 0) :
    Calls Try.prog 24 #[.int .u8 kv, reV h A ks.length c, reV h2 A2 ks2.length c2] w (RePost ok (.mk ⟨k, S4.zero⟩ [.mk h ks, .mk h2 ks2]) w) := by
  subst hk
  go_enter Try.func24, Try.ntmps24
  go_wp2_with fail
  have hb := fun o1 o2 o3 o4 => below_new (below_new (below_new (below_new (Below.refl _ w) o1) o2) o3) o4
  refine bodyPost_ret (v := reV ⟨k, S4.zero⟩ (some ⟨w.heap.size + 1 + 1 + 1, 0, none⟩) 2 2) (by simp [results, Try.results24, go_sem]; exact ⟨rfl, rfl, rfl, rfl⟩) rfl ⟨_, rfl, ⟨_, _, _, _, rfl, Nat.le_refl _, rfl, ?_⟩, hb _ _ _ _⟩
  exact row_two (new_at _ (by simp)) rfl (.inr (by omega)) hc ((hr.below (hb _ _ _ _)).weak fun b hb => .inl hb) hc2 ((hr2.below (hb _ _ _ _)).weak fun b hb => .inl hb)
end Go.Proofs.Ytbblhhkacdgmiaa
namespace Go.Proofs.Ytbblhhkacdgmiaa
open Go.RowKit Go.Shelf
set_option linter.unusedVariables false
set_option linter.unusedSimpArgs false
attribute [local go_sem] Oper.semAt_some

theorem block_own {b : Nat} {cs : Array Value} {t : TypeId} {f : Nat × Nat} {β : Type} : Own (fun (_ : β) W => W.heap[b]? = some (.cells cs t f)) := fun s X Y row hs hg hrow =>
  (grownBy_keeps_cells hg hrow hs rfl).trans hs
theorem four_blocks (w : World) (o1 o2 o3 o4 : Obj) : (((((w.alloc o1).alloc o2).alloc o3).alloc o4).heap[w.heap.size]? = some o1 ∧ ((((w.alloc o1).alloc o2).alloc o3).alloc o4).heap[w.heap.size + 1]? = some o2 ∧
    ((((w.alloc o1).alloc o2).alloc o3).alloc o4).heap[w.heap.size + 1 + 1]? = some o3 ∧ ((((w.alloc o1).alloc o2).alloc o3).alloc o4).heap[w.heap.size + 1 + 1 + 1]? = some o4) := by
  refine ⟨?_, ?_, ?_, ?_⟩
  · rw [Below.heap_alloc _ _ _ (by simp only [World.size_alloc]; omega), Below.heap_alloc _ _ _ (by simp only [World.size_alloc]; omega), Below.heap_alloc _ _ _ (by simp)]
    exact World.alloc_heap_new w o1
  · rw [Below.heap_alloc _ _ _ (by simp only [World.size_alloc]; omega), Below.heap_alloc _ _ _ (by simp)]
    have := World.alloc_heap_new (w.alloc o1) o2
    simpa using this
  · rw [Below.heap_alloc _ _ _ (by simp)]
    have := World.alloc_heap_new ((w.alloc o1).alloc o2) o3
    simpa using this
  · have := World.alloc_heap_new (((w.alloc o1).alloc o2).alloc o3) o4
    simpa using this

set_option maxRecDepth 100000 in
set_option maxHeartbeats 8000000 in
theorem fold_in (F : Fence) (n : Nat) (h1 : F.fn 22) (h2 : F.fn 32) (h3 : F.fn 37) (hro : F.round = none) (hn : 6 ≤ n)
    {ok : Nat → Prop} (kv nv : Int) (kd nn : UInt8) (hkv : kv = (kd.toNat : Int)) (hnv : nv = (nn.toNat : Int)) (ts : List Re) (A : Option Addr) (c : Nat) (w : World) (hm : ts.length ≤ 1000000000) (hc : ts.length ≤ c) (hr : InRow RE ok w ts A 0) :
    CallsIn F n Try.prog 22 #[.int .u8 kv, .int .u8 nv, .slice A ts.length c] w (RePost ok (foldT kd nn ts) w) := by
  subst hkv hnv
  have h1n : 1 ≤ n := by omega
  refine callsIn_of_wp_marks Try.func22 rfl h1 ?_ hro
  simp only [Try.ntmps22, List.size_toArray, List.length_cons, List.length_nil, Nat.reduceAdd, Nat.reduceSub, Array.replicate_succ, Array.replicate_zero, List.push_toArray, List.append_toArray, List.nil_append, List.cons_append]
  rcases List.eq_nil_or_concat ts with rfl | ⟨xs, z, hcat⟩
  · gi_wp2
    refine ⟨reV ⟨nn, S4.zero⟩ none 0 0, by simp [results, Try.results22, go_sem]; exact ⟨rfl, rfl, rfl, rfl⟩, _, rfl, ⟨⟨nn, S4.zero⟩, [], none, 0, rfl, Nat.le_refl _, rfl, by simp [InRow]⟩, below_new (below_new (Below.refl _ _) _) _⟩
  · rw [List.concat_eq_append] at hcat
    subst hcat
    have hT := Lib.hid (foldT_acc kd nn z xs)
    obtain ⟨len, hlen⟩ : ∃ len, xs.length = len := ⟨_, rfl⟩
    have hl1 : (xs ++ [z]).length = len + 1 := by simp [hlen]
    obtain ⟨t, ad, h, ks, A1, c1, hA, hx, hz, hc1, hr1, q0, q1, q2, q3, q4, q5⟩ := re_at hr (show len < (xs ++ [z]).length by omega)
    subst hA
    have hzt : t = z := by
      rw [List.getElem?_append_right (by omega)] at hx
      simp [hlen] at hx
      exact hx.symm
    subst hzt
    obtain ⟨rs, e1, e2, e3⟩ := els_of hr len (by omega)
    have HRS := Lib.hid e2
    have HE := Lib.hid e3
    have HR := Lib.hid hr
    have HZ := Lib.hid hz
    clear hz
    rw [hl1] at hc hm ⊢
    clear e2 e3 hx hr
    have gl : ((len + 1 : Nat) : Int) - 1 = (len : Int) := by omega
    have gw : IntKind.i64.wrap ((len : Int) + 1 - 1) = (len : Int) := by
      rw [show (len : Int) + 1 - 1 = (len : Int) by omega]; exact IntWalk.i64_in _ (by omega)
    have g0 : ((len : Int) + 1 == 0) = false := by simp; omega
    have z0 := fun o1 o2 => keep_cell (below_new (below_new (Below.refl _ w) o1) o2) q0
    have z1 := fun o1 o2 => keep_cell (below_new (below_new (Below.refl _ w) o1) o2) q1
    have z2 := fun o1 o2 => keep_cell (below_new (below_new (Below.refl _ w) o1) o2) q2
    have z3 := fun o1 o2 => keep_cell (below_new (below_new (Below.refl _ w) o1) o2) q3
    have z4 := fun o1 o2 => keep_cell (below_new (below_new (Below.refl _ w) o1) o2) q4
    have z5 := fun o1 o2 => keep_cell (below_new (below_new (Below.refl _ w) o1) o2) q5
    gi_wp2_with (gi_at_call 32; refine (back_in F (n - 1) h2 hro _ _ _ _).mono ?_; rintro e w' ⟨rfl, rfl⟩)
    have hadb := World.block_lt_of_cell? _ _ q0
    rw [add_blk] at hadb
    clear z0 z1 z2 z3 z4 z5 q0 q1 q2 q3 q4 q5 g0 gl gw
    obtain ⟨n0, n1, n2, n3⟩ := four_blocks w (.cells #[.int .u8 (kd.toNat : Int)] 5) (.cells #[.int .u8 0, .int .u64 0, .int .u64 0, .int .u64 0, .int .u64 0, .slice none 0 0] 30) (.cells (reA h A1 ks.length c1) 30) (.cells #[.slice (some ad) len c] 22)
    have hB0 : Below w.heap.size w ((((w.alloc (.cells #[.int .u8 (kd.toNat : Int)] 5)).alloc (.cells #[.int .u8 0, .int .u64 0, .int .u64 0, .int .u64 0, .int .u64 0, .slice none 0 0] 30)).alloc (.cells (reA h A1 ks.length c1) 30)).alloc (.cells #[.slice (some ad) len c] 22)) :=
      below_new (below_new (below_new (below_new (Below.refl _ _) _) _) _) _
    have hsz : ((((w.alloc (.cells #[.int .u8 (kd.toNat : Int)] 5)).alloc (.cells #[.int .u8 0, .int .u64 0, .int .u64 0, .int .u64 0, .int .u64 0, .slice none 0 0] 30)).alloc (.cells (reA h A1 ks.length c1) 30)).alloc (.cells #[.slice (some ad) len c] 22)).heap.size = w.heap.size + 4 := by simp
    obtain ⟨W0, hW0⟩ : ∃ W0, ((((w.alloc (.cells #[.int .u8 (kd.toNat : Int)] 5)).alloc (.cells #[.int .u8 0, .int .u64 0, .int .u64 0, .int .u64 0, .int .u64 0, .slice none 0 0] 30)).alloc (.cells (reA h A1 ks.length c1) 30)).alloc (.cells #[.slice (some ad) len c] 22)) = W0 := ⟨_, rfl⟩
    rw [hW0] at n0 n1 n2 n3 hB0 hsz
    have hO0 : OutAt (fun b => ok b ∨ w.heap.size ≤ b) W0 (w.heap.size + 1 + 1) (w.heap.size + 1) t := ⟨h, ks, A1, c1, HZ.out, hc1, n2, (hr1.there.below hB0).weak fun b hb => ⟨.inl hb.1, by have := hb.2; omega, by have := hb.2; omega⟩⟩
    rw [hW0]
    clear hW0
    refine wpIn_rangeFunc_ownH hro h1n (gf := 37) (lb := #[.pointer (some ⟨w.heap.size + 1 + 1 + 1, 0, none⟩)]) rfl h3 (enters_of Try.func37 (by kernel_rfl) rfl)
      (back_stops F (n - 1) h3 hro (by omega) (w.heap.size + 1 + 1 + 1) w.heap.size c ad rs (by omega) W0 (by omega) (by omega) hadb (by rw [e1]; exact cell_of_one n3) (fun k x hx => ⟨by rw [e1]; exact (HE.out k x hx).1, (HE.out k x hx).2.keep hB0 hadb⟩))
      BackK.trans (fun W l o o' hl ho hoc how => ⟨(Below.refl _ _).grown (grownBy_putObj' W l o') (by have := (Array.getElem?_eq_some_iff.1 ho).1; omega) (fun r e => by cases e; omega), (grownBy_putObj' W l o').block _ (by have := (Array.getElem?_eq_some_iff.1 ho).1; omega) (fun e => by cases e; omega)⟩) (Below.refl _ _) (fun _ => rfl)
      (fun pre W => (OutAt (fun b => ok b ∨ w.heap.size ≤ b) W (w.heap.size + 1 + 1) (w.heap.size + 1) (foldAcc kd t (pre.map El.t)) ∧ (W.heap[w.heap.size]? = some (.cells #[.int .u8 (kd.toNat : Int)] 5 (0, 0)) ∧ W.heap[w.heap.size + 1]? = some (.cells #[.int .u8 0, .int .u64 0, .int .u64 0, .int .u64 0, .int .u64 0, .slice none 0 0] 30 (0, 0)) ∧ W.heap[w.heap.size + 1 + 1 + 1]? = some (.cells #[.slice (some ad) len c] 22 (0, 0)))) ∧ Below w.heap.size w W)
      (fun _ _ _ => False)
      (OwnFrom.and (OwnFrom.and (Own.from (outAt_own _) _) (OwnFrom.and (Own.from block_own _) (OwnFrom.and (Own.from block_own _) (Own.from block_own _)))) (ownFrom_below (Nat.le_refl _) (by omega)))
      (fun _ _ _ _ _ hs _ _ => hs)
      ⟨⟨hO0, n0, n1, n3⟩, hB0⟩
      (fun x a' W => ∃ Bx, w.heap.size + 4 ≤ Bx ∧ W.heap[Bx]? = some (.cells (reA x.h x.A x.ks.length x.c) 30 (0, 0)) ∧ a' = { tmps := #[.int .u8 (kd.toNat : Int), .int .u8 (nn.toNat : Int), .slice (some ad) (len + 1) c, .pointer (some ⟨w.heap.size, 0, none⟩), undef, undef, .pointer (some ⟨w.heap.size + 1, 0, none⟩), .pointer (some ⟨w.heap.size + 1 + 1, 0, none⟩), undef, .pointer (some ⟨Bx, 0, none⟩),
        .slice (some ad) (len + 1) c, .int .i64 ((len : Int) + 1), .bool false, undef, undef, .slice (some ad) (len + 1) c, .slice (some ad) (len + 1) c, .int .i64 ((len : Int) + 1), .int .i64 (len : Int), .pointer (some (ad.add (len * 6))), reV h A1 ks.length c1, .slice (some ad) (len + 1) c, .slice (some ad) (len + 1) c, .int .i64 ((len : Int) + 1), .int .i64 (len : Int), .slice (some ad) len c,
        .func (.func 37) #[] #[.pointer (some ⟨w.heap.size + 1 + 1 + 1, 0, none⟩)], .int .i64 (x.i : Int), reV x.h x.A x.ks.length x.c, undef, undef, undef, undef, undef, undef], defers := [] })
      (fun x a' s X Y row hs hg hr => by obtain ⟨Bx, h1, h2, h3⟩ := hs; exact ⟨Bx, h1, (grownBy_keeps_cells hg (fun r e => (hr r e).2) h2 rfl).trans h2, h3⟩)
      ?assign ?body ?done ?stop
    case assign =>
      rintro l pre x W K hi hK
      obtain ⟨i, h', ks', A', c', hc', hr'⟩ := x
      simp only [El.encs]
      gi_wp2
      exact hK _ _ ((KeepsOthers.alloc _ _).from _) ⟨(Below.refl _ W).alloc hi.2.size _, Below.heap_alloc _ _ _ (lt_of_block hi.1.2.2.2)⟩ ⟨⟨hi.1.1.alloc _, heap_keep hi.1.2.1 _, heap_keep hi.1.2.2.1 _, heap_keep hi.1.2.2.2 _⟩, hi.2.alloc hi.2.size _⟩ ⟨W.heap.size, by have := lt_of_block hi.1.2.2.2; omega, World.alloc_heap_new W _, rfl⟩
    case body =>
      rintro l pre x a' W hl ⟨r, hr⟩ ⟨⟨hO, hB3, hB6, hBs⟩, hB1⟩ ⟨Bx, hBx, bX, rfl⟩ hlt
      obtain ⟨i, h', ks', A', c', hc', hr'⟩ := x
      obtain ⟨h2, ks2, A2, c2, eo, hc2, hh2, hr2⟩ := hO
      dsimp only at bX
      obtain ⟨⟨x0, x1, x2, x3, x4, x5⟩, f0, f1, f2, f3, f4, f5⟩ := re_cells bX
      obtain ⟨⟨y0, y1, y2, y3, y4, y5⟩, g0, g1, g2, g3, g4, g5⟩ := re_cells hh2
      have k0 := cell_of_one hB3
      have yy0 := fun o => (re_cells (heap_keep hh2 o)).1.1
      have yy1 := fun o => (re_cells (heap_keep hh2 o)).1.2.1
      have yy2 := fun o => (re_cells (heap_keep hh2 o)).1.2.2.1
      have yy3 := fun o => (re_cells (heap_keep hh2 o)).1.2.2.2.1
      have yy4 := fun o => (re_cells (heap_keep hh2 o)).1.2.2.2.2.1
      have yy5 := fun o => (re_cells (heap_keep hh2 o)).1.2.2.2.2.2
      have gg0 := fun o => (re_cells (heap_keep hh2 o)).2.1
      have gg1 := fun o => (re_cells (heap_keep hh2 o)).2.2.1
      have gg2 := fun o => (re_cells (heap_keep hh2 o)).2.2.2.1
      have gg3 := fun o => (re_cells (heap_keep hh2 o)).2.2.2.2.1
      have gg4 := fun o => (re_cells (heap_keep hh2 o)).2.2.2.2.2.1
      have gg5 := fun o => (re_cells (heap_keep hh2 o)).2.2.2.2.2.2
      gi_wp2
      have hs1 := lt_of_block hBs
      have hst := out_step (P := fun b => ok b ∨ w.heap.size ≤ b) (b' := w.heap.size + 1) (kd := kd) (h' := h') (ks' := ks') (A' := A') (c' := c') hh2 (by omega) (.inr (by omega)) hc' hc2 ((hr'.below hB1).weak fun b hb => ⟨.inl hb.1, by have := hb.2; omega, by have := hb.2; omega⟩) hr2 rfl
      refine ⟨((((((((KeepsOthers.alloc _ _).trans (KeepsOthers.setCell _ _ _)).trans (KeepsOthers.setCell _ _ _)).trans (KeepsOthers.setCell _ _ _)).trans (KeepsOthers.setCell _ _ _)).trans (KeepsOthers.setCell _ _ _)).trans (KeepsOthers.setCell _ _ _)).from _), ⟨six_below ((Below.refl _ W).alloc hB1.size _) (by omega), (six_other (by omega)).trans (Below.heap_alloc _ _ _ hs1)⟩, ⟨?_, (six_other (by omega)).trans (heap_keep hB3 _), (six_other (by omega)).trans (heap_keep hB6 _), (six_other (by omega)).trans (heap_keep hBs _)⟩, six_below (hB1.alloc hB1.size _) (by omega)⟩
      rw [List.map_append, foldAcc, List.foldl_append]
      unfold foldAcc at eo
      rw [eo]
      exact hst
    case done =>
      rintro D ys W hD rfl ⟨⟨hO, hB3, hB6, hBs⟩, hB1⟩ hK
      obtain ⟨h2, ks2, A2, c2, eo, hc2, hh2, hr2⟩ := hO
      obtain ⟨⟨y0, y1, y2, y3, y4, y5⟩, g0, g1, g2, g3, g4, g5⟩ := re_cells hh2
      obtain ⟨⟨x0, x1, x2, x3, x4, x5⟩, f0, f1, f2, f3, f4, f5⟩ := re_cells hB6
      gi_wp2
      have hTT : foldT kd nn (xs ++ [t]) = .mk h2 ks2 := by
        rw [hT.out, ← eo, HRS.out]
        congr 2
        rw [← hlen, List.take_left]
      have hDn : D ≠ w.heap.size + 1 := by omega
      refine ⟨by simp, .inl ⟨_, _, rfl, run_takeDeferred ((six_other hDn).trans hK), ?_⟩⟩
      have h6 := six_setCells (u0 := .int .u8 (h2.k.toNat : Int)) (u1 := .int .u64 (h2.s.a.toNat : Int)) (u2 := .int .u64 (h2.s.b.toNat : Int)) (u3 := .int .u64 (h2.s.c.toNat : Int)) (u4 := .int .u64 (h2.s.d.toNat : Int)) (u5 := .slice A2 ks2.length c2) hB6
      have hbY : Below w.heap.size w ((((((W.setCell ⟨w.heap.size + 1, 0, none⟩ (.int .u8 (h2.k.toNat : Int))).setCell ⟨w.heap.size + 1, 1, none⟩ (.int .u64 (h2.s.a.toNat : Int))).setCell ⟨w.heap.size + 1, 2, none⟩ (.int .u64 (h2.s.b.toNat : Int))).setCell ⟨w.heap.size + 1, 3, none⟩ (.int .u64 (h2.s.c.toNat : Int))).setCell ⟨w.heap.size + 1, 4, none⟩ (.int .u64 (h2.s.d.toNat : Int))).setCell ⟨w.heap.size + 1, 5, none⟩ (.slice A2 ks2.length c2)) := six_below hB1 (by omega)
      have hkY : ∀ (a : Addr) (v : Value), ((ok a.block ∨ w.heap.size ≤ a.block) ∧ a.block ≠ w.heap.size + 1 + 1 ∧ a.block ≠ w.heap.size + 1) → W.cell? a = some v → ((((((W.setCell ⟨w.heap.size + 1, 0, none⟩ (.int .u8 (h2.k.toNat : Int))).setCell ⟨w.heap.size + 1, 1, none⟩ (.int .u64 (h2.s.a.toNat : Int))).setCell ⟨w.heap.size + 1, 2, none⟩ (.int .u64 (h2.s.b.toNat : Int))).setCell ⟨w.heap.size + 1, 3, none⟩ (.int .u64 (h2.s.c.toNat : Int))).setCell ⟨w.heap.size + 1, 4, none⟩ (.int .u64 (h2.s.d.toNat : Int))).setCell ⟨w.heap.size + 1, 5, none⟩ (.slice A2 ks2.length c2)).cell? a = some v :=
        fun a v ha hv => (World.cell?_of_block (six_other ha.2.2)).trans hv
      have hrY := hr2.keep (fun _ h => h) hkY
      have hDY : ((((((W.setCell ⟨w.heap.size + 1, 0, none⟩ (.int .u8 (h2.k.toNat : Int))).setCell ⟨w.heap.size + 1, 1, none⟩ (.int .u64 (h2.s.a.toNat : Int))).setCell ⟨w.heap.size + 1, 2, none⟩ (.int .u64 (h2.s.b.toNat : Int))).setCell ⟨w.heap.size + 1, 3, none⟩ (.int .u64 (h2.s.c.toNat : Int))).setCell ⟨w.heap.size + 1, 4, none⟩ (.int .u64 (h2.s.d.toNat : Int))).setCell ⟨w.heap.size + 1, 5, none⟩ (.slice A2 ks2.length c2)).heap[D]? = some (.deferred (some [])) := (six_other hDn).trans hK
      generalize (((((W.setCell ⟨w.heap.size + 1, 0, none⟩ (.int .u8 (h2.k.toNat : Int))).setCell ⟨w.heap.size + 1, 1, none⟩ (.int .u64 (h2.s.a.toNat : Int))).setCell ⟨w.heap.size + 1, 2, none⟩ (.int .u64 (h2.s.b.toNat : Int))).setCell ⟨w.heap.size + 1, 3, none⟩ (.int .u64 (h2.s.c.toNat : Int))).setCell ⟨w.heap.size + 1, 4, none⟩ (.int .u64 (h2.s.d.toNat : Int))).setCell ⟨w.heap.size + 1, 5, none⟩ (.slice A2 ks2.length c2) = Y at *
      have hg := grownBy_putObj' Y D (.deferred none)
      have h6' := (hg.block _ (lt_of_block h6) (fun e => hDn (by cases e; rfl))).trans h6
      obtain ⟨⟨p0, p1, p2, p3, p4, p5⟩, _⟩ := re_cells h6'
      refine ⟨reV h2 A2 ks2.length c2, by simp [results, Try.results22, go_sem, p0, p1, p2, p3, p4, p5], _, rfl, ⟨h2, ks2, A2, c2, hTT, hc2, rfl, ?_⟩, hbY.grown hg hbY.size (fun k e => by cases e; omega)⟩
      exact hrY.keep (fun _ hb => hb.1) (fun a v _ hv => cell_kept hv hg (fun r e => by cases e; exact ⟨_, hDY, rfl⟩))
    case stop =>
      rintro D c pre W _ _ h _
      exact h.elim

theorem fold_any {ok : Nat → Prop} (kv nv : Int) (kd nn : UInt8) (hkv : kv = (kd.toNat : Int)) (hnv : nv = (nn.toNat : Int)) (ts : List Re) (A : Option Addr) (c : Nat) (w : World) (hm : ts.length ≤ 1000000000) (hc : ts.length ≤ c) (hr : InRow RE ok w ts A 0) :
    Calls Try.prog 22 #[.int .u8 kv, .int .u8 nv, .slice A ts.length c] w (RePost ok (foldT kd nn ts) w) :=
  callsIn_wide.1 (fold_in Fence.wide 6 trivial trivial trivial rfl (Nat.le_refl _) kv nv kd nn hkv hnv ts A c w hm hc hr)
end Go.Proofs.Ytbblhhkacdgmiaa
namespace Go.Proofs.Ytbblhhkacdgmiaa
open Go.RowKit
set_option linter.unusedVariables false
set_option linter.unusedSimpArgs false

set_option maxHeartbeats 4000000 in
theorem then_any {ok : Nat → Prop} (ts : List Re) (A : Option Addr) (c : Nat) (w : World) (hm : ts.length ≤ 1000000000) (hc : ts.length ≤ c) (hr : InRow RE ok w ts A 0) :
    Calls Try.prog 9 #[.slice A ts.length c] w (RePost ok (foldT 4 2 ts) w) := by
  have HR := Lib.hid hr
  clear hr
  go_enter Try.func9, Try.ntmps9
  go_wp2_with fail
  refine (fold_any 4 2 4 2 rfl rfl ts A c _ hm hc (HR.out.there.below (below_new (Below.refl _ _) _))).mono ?_
  rintro e w1 ⟨v, rfl, ⟨h, ks, A1, c1, ht, hc1, rfl, hr1⟩, hb1⟩
  have hb2 := below_from (below_new (Below.refl _ _) _) hb1
  have e1 := one_block hb1
  obtain ⟨⟨x0, x1, x2, x3, x4, x5⟩, f0, f1, f2, f3, f4, f5⟩ := re_cells e1
  have E1 := Lib.hid e1
  have HT := Lib.hid ht
  clear e1 ht hb1
  go_wp2_with fail
  refine bodyPost_ret (v := reV h A1 ks.length c1) (by simp [results, Try.results9, go_sem, x0, x1, x2, x3, x4, x5]) rfl ⟨_, rfl, ⟨h, ks, A1, c1, HT.out, hc1, rfl, hr1.keep ?_ ?_⟩, six_below hb2 (Nat.le_refl _)⟩
  · rintro b (hb | hb)
    · exact .inl hb.1
    · simp at hb; exact .inr (by omega)
  · intro a v ha hv
    refine (World.cell?_of_block (six_other ?_)).trans hv
    rcases ha with ha | ha
    · have := ha.2; omega
    · simp at ha; omega
set_option maxHeartbeats 4000000 in
theorem or_any {ok : Nat → Prop} (ts : List Re) (A : Option Addr) (c : Nat) (w : World) (hm : ts.length ≤ 1000000000) (hc : ts.length ≤ c) (hr : InRow RE ok w ts A 0) :
    Calls Try.prog 11 #[.slice A ts.length c] w (RePost ok (foldT 5 1 ts) w) := by
  have HR := Lib.hid hr
  clear hr
  go_enter Try.func11, Try.ntmps11
  go_wp2_with fail
  refine (fold_any 5 1 5 1 rfl rfl ts A c _ hm hc (HR.out.there.below (below_new (Below.refl _ _) _))).mono ?_
  rintro e w1 ⟨v, rfl, ⟨h, ks, A1, c1, ht, hc1, rfl, hr1⟩, hb1⟩
  have hb2 := below_from (below_new (Below.refl _ _) _) hb1
  have e1 := one_block hb1
  obtain ⟨⟨x0, x1, x2, x3, x4, x5⟩, f0, f1, f2, f3, f4, f5⟩ := re_cells e1
  have E1 := Lib.hid e1
  have HT := Lib.hid ht
  clear e1 ht hb1
  go_wp2_with fail
  refine bodyPost_ret (v := reV h A1 ks.length c1) (by simp [results, Try.results11, go_sem, x0, x1, x2, x3, x4, x5]) rfl ⟨_, rfl, ⟨h, ks, A1, c1, HT.out, hc1, rfl, hr1.keep ?_ ?_⟩, six_below hb2 (Nat.le_refl _)⟩
  · rintro b (hb | hb)
    · exact .inl hb.1
    · simp at hb; exact .inr (by omega)
  · intro a v ha hv
    refine (World.cell?_of_block (six_other ?_)).trans hv
    rcases ha with ha | ha
    · have := ha.2; omega
    · simp at ha; omega
end Go.Proofs.Ytbblhhkacdgmiaa
namespace Go.Proofs.Ytbblhhkacdgmiaa
open Go.RowKit
set_option linter.unusedVariables false
set_option linter.unusedSimpArgs false

theorem text_at (s : ByteArray) (k : Nat) (h : k < s.size) : s.data.toList[k]? = some (s[k]'h) := by
  have h' : k < s.data.toList.length := by rw [Array.length_toList]; exact h
  rw [List.getElem?_eq_getElem h']
  rfl
theorem text_len (s : ByteArray) : s.data.toList.length = s.size := by rw [Array.length_toList]; rfl
def leaf (b : UInt8) : Re := .mk (ofH (setOf [b])) []
def wordL (l : List UInt8) : List Re := l.map leaf
theorem wordL_length (l : List UInt8) : (wordL l).length = l.length := by simp [wordL]
theorem leaf_src {P : Nat → Prop} {w : World} (h : RH) : ∀ (k : Nat) (t : Re), [T.mk h []][k]? = some t → ∃ c, (∀ j u, c[j]? = some u → (reA h none 0 0).toList[k * 6 + j]? = some u) ∧ InT RE P w t c := by
  intro k t ht
  cases k with
  | succ k => simp at ht
  | zero =>
    simp at ht
    subst ht
    refine ⟨RH.cells h ++ [.slice none 0 0], fun j u hu => by simpa [RH.cells] using hu, ?_⟩
    simp only [InT, InRow]
    exact ⟨none, 0, rfl, Nat.le_refl _, trivial⟩

set_option maxHeartbeats 8000000 in
theorem rexWord_any (s : ByteArray) (w : World) (hm : s.size ≤ 1000000000) :
    Calls Try.prog 14 #[.string s] w (RePost (fun _ => False) (foldT 4 2 (wordL s.data.toList)) w) := by
  have HL := Lib.hid (text_len s)
  go_enter Try.func14, Try.ntmps14
  go_wp2_with fail
  have e1 := new_at (w := w) (.cells #[.int .u8 0, .int .u64 0, .int .u64 0, .int .u64 0, .int .u64 0, .slice none 0 0] 30) rfl
  have hb0 : Below w.heap.size w (w.alloc (.cells #[.int .u8 0, .int .u64 0, .int .u64 0, .int .u64 0, .int .u64 0, .slice none 0 0] 30)) := below_new (Below.refl _ _) _
  go_loopw [3, 4, 7] (fun o _ i wr => ∃ (k : Nat), k ≤ s.size ∧ i = .int .i64 k ∧ OwnT RE (fun _ => False) wr (w.heap.size + 1) 30 o (wordL (s.data.toList.take k)) ∧ Hid (wr.heap[w.heap.size]? = some (.cells #[.int .u8 0, .int .u64 0, .int .u64 0, .int .u64 0, .int .u64 0, .slice none 0 0] 30 (0, 0))) ∧ Below w.heap.size w wr) (fun _ _ i _ => s.size - (intOf i).toNat)
  case atStart => exact ⟨0, Nat.zero_le _, rfl, OwnT.nil_ _ _ _ _ _, e1, hb0⟩
  case round =>
    clear e1 hb0
    obtain ⟨k, hk, rfl, ho, E1, hb⟩ := hrel
    by_cases hlt : k < s.size
    · have HT : Hid (wordL (s.data.toList.take (k + 1)) = wordL (s.data.toList.take k) ++ [leaf (s[k]'hlt)]) := by
        unfold Hid wordL
        rw [List.take_add_one, text_at s k hlt]
        simp
      obtain ⟨b, hbb⟩ : ∃ b : UInt8, b = s[k]'hlt := ⟨_, rfl⟩
      rw [← hbb] at HT
      have ea : ((s[k]'hlt).toNat : Int) = (b.toNat : Int) := by rw [hbb]
      clear hbb
      go_wp2_with fail
      refine (setOf_any [b] (some ⟨wr.heap.size, 0, none⟩) 1 _ (show 1 ≤ 1000000000 by decide) (Nat.le_refl _) (new_row encB wr [b] _ _ rfl)).mono ?_
      rintro e w1 ⟨rfl, hb1⟩
      have hb2 := below_from (below_new (Below.refl _ _) _) hb1
      go_wp2_with fail
      refine (rexOf_any (setOf [b]) w1).mono ?_
      rintro e w2 ⟨rfl, hb3⟩
      have hb4 := below_from hb2 hb3
      have hH : Hid (leaf b = .mk (ofH (setOf [b])) []) := rfl
      generalize ofH (setOf [b]) = H at *
      have ho' := ho.keep (below_new hb4 (.cells (reA H none 0 0) 30))
      obtain ⟨h0, cs0, hown0, hk0⟩ := ho'
      have hbw := below_new (below_from hb hb4) (.cells (reA H none 0 0) 30)
      have hsrc := new_src w2 1 6 (reA H none 0 0) 30 rfl
      have hlen : Hid ((wordL (s.data.toList.take k)).length = k) := by unfold Hid; rw [wordL_length, List.length_take, text_len]; omega
      have HBW := Lib.hid hbw
      have HSZ := Lib.hid hbw.size
      have E2 : Hid ((w2.alloc (.cells (reA H none 0 0) 30)).heap[w.heap.size]? = some (.cells #[.int .u8 0, .int .u64 0, .int .u64 0, .int .u64 0, .int .u64 0, .slice none 0 0] 30 (0, 0))) := heap_keep ((hb4.block _ (lt_of_block E1.out)).trans E1.out) _
      clear ho hb hb1 hb2 hb3 hb4 hbw
      go_wp2_with (at_builtin; refine wpList_app _ rfl (.tmp 10) (.tmp 17) 22 rfl (w.heap.size + 1) 30 _ 6 64 Try.underlying22 Try.info_re rfl (by decide) _ _ _ rfl hown0 (some ⟨w2.heap.size, 0, none⟩) 1 1 _ rfl hsrc ?h1 ?h2 ?h3 ?h4 ?_)
      case h1 => intro u hu; simp at hu; rcases hu with rfl | rfl | rfl | rfl | rfl | rfl <;> rfl
      case h2 => rw [hlen.out]; unfold maxLen; omega
      case h3 => rw [hlen.out]; omega
      case h4 => have := lt_of_block E2.out; simp at this ⊢; omega
      intro v4 w4 ho4 hg4 hat4
      have hr4 := OwnT.app h0 hown0 hk0 (leaf_src H) ho4 hg4 (by simpa using hat4) (fun b hb => hb.elim)
      have hb4 : Below w.heap.size w w4 := HBW.out.grown hg4 HSZ.out (fun j hj => by have := own_base hown0 j hj; omega)
      have E4 : Hid (w4.heap[w.heap.size]? = some (.cells #[.int .u8 0, .int .u64 0, .int .u64 0, .int .u64 0, .int .u64 0, .slice none 0 0] 30 (0, 0))) := (hg4.block _ (lt_of_block E2.out) (fun e => by have := own_base hown0 _ e.symm; omega)).trans E2.out
      clear ho4 hg4 hat4 hown0 hk0 h0 hsrc
      go_wp2_with fail
      go_roundw
      case rel => exact ⟨k + 1, by omega, by go_num, by rw [HT.out, hH.out]; exact hr4, E4, hb4⟩
      case measure => simp [intOf]; omega
    · have hkk : k = s.size := by omega
      subst hkk
      have hT : s.data.toList.take s.size = s.data.toList := by rw [← text_len]; exact List.take_length
      rw [hT] at ho
      clear hT hlt
      obtain ⟨A1, c1, rfl, hc1, hr1⟩ := ho.row
      have hlt : Hid (∀ b, (False ∨ (Value.slice A1 (wordL s.data.toList).length c1).ownBlock = some b) → w.heap.size + 1 ≤ b) := by
        rintro b (hb' | hb')
        · exact hb'.elim
        · obtain ⟨cs, hcs⟩ := ho.own
          exact own_base hcs b hb'
      have hlw : (wordL s.data.toList).length ≤ 1000000000 := by rw [wordL_length, text_len]; exact hm
      clear ho
      go_wp2_with fail
      refine (then_any (wordL s.data.toList) A1 c1 wr hlw hc1 hr1).mono ?_
      rintro e w1 ⟨v, rfl, ⟨h, ks, A2, c2, ht, hc2, rfl, hr2⟩, hb1⟩
      have hb2 := below_from hb hb1
      have E2 := Lib.hid ((hb1.block _ (lt_of_block E1.out)).trans E1.out)
      obtain ⟨⟨x0, x1, x2, x3, x4, x5⟩, f0, f1, f2, f3, f4, f5⟩ := re_cells E2.out
      have HT := Lib.hid ht
      have HS := Lib.hid (lt_of_block E1.out)
      clear ht hb1 hr1 hb
      go_wp2_with fail
      refine bodyPost_ret (v := reV h A2 ks.length c2) (by simp [results, Try.results14, go_sem, x0, x1, x2, x3, x4, x5]) rfl ⟨_, rfl, ⟨h, ks, A2, c2, HT.out, hc2, rfl, hr2.keep ?_ ?_⟩, six_below hb2 (Nat.le_refl _)⟩
      · rintro b (hb | hb)
        · have := hlt.out b hb; exact .inr (by omega)
        · have := HS.out; exact .inr (by omega)
      · intro a v ha hv
        refine (World.cell?_of_block (six_other ?_)).trans hv
        rcases ha with ha | ha
        · have := hlt.out _ ha; omega
        · have := HS.out; omega
end Go.Proofs.Ytbblhhkacdgmiaa
