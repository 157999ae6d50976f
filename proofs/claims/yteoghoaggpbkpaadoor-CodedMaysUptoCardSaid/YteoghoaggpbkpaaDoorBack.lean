/- Expressions, from the last to the first: slices.Backward. -/
import Derived.Test.YteoghoaggpbkpaaDoorRexA
import Derived.RangeFuncNested
import Derived.RangeFuncBound
import Derived.RangeFuncCalls
import Derived.RangeFuncLeaves
import Derived.RangeFuncBox
import Derived.Shelf.Abstract
import Derived.Shelf.RegionOpen
import Derived.WalkKit
import Derived.OwnWalkIn
import Derived.TacticsInMore
import Derived.LoopNIn
import Derived.LoopIn
namespace Go.Proofs.YteoghoaggpbkpaaDoor
open Go.RowKit Go.Shelf
set_option linter.unusedVariables false
set_option linter.unusedSimpArgs false
attribute [local go_sem] Oper.semAt_some

/-- an expression of a row, and where it stands -/
structure El (P : Nat → Prop) (W0 : World) where
  i : Nat
  h : RH
  ks : List Re
  A : Option Addr
  c : Nat
  hc : ks.length ≤ c
  hr : InRow RE P W0 ks A 0
abbrev El.encs {P : Nat → Prop} {W0 : World} (x : El P W0) : Array Value := #[.int .i64 (x.i : Int), reV x.h x.A x.ks.length x.c]
def El.t {P : Nat → Prop} {W0 : World} (x : El P W0) : Re := .mk x.h x.ks
/-- its cells -/
def El.At {P : Nat → Prop} {W0 : World} (W : World) (ad : Addr) (x : El P W0) : Prop :=
      W.cell? (ad.add (x.i * 6)) = some (.int .u8 (x.h.k.toNat : Int)) ∧
      W.cell? ⟨(ad.add (x.i * 6)).block, (ad.add (x.i * 6)).off + 1, none⟩ = some (.int .u64 (x.h.s.a.toNat : Int)) ∧
      W.cell? ⟨(ad.add (x.i * 6)).block, (ad.add (x.i * 6)).off + 2, none⟩ = some (.int .u64 (x.h.s.b.toNat : Int)) ∧
      W.cell? ⟨(ad.add (x.i * 6)).block, (ad.add (x.i * 6)).off + 3, none⟩ = some (.int .u64 (x.h.s.c.toNat : Int)) ∧
      W.cell? ⟨(ad.add (x.i * 6)).block, (ad.add (x.i * 6)).off + 4, none⟩ = some (.int .u64 (x.h.s.d.toNat : Int)) ∧
      W.cell? ⟨(ad.add (x.i * 6)).block, (ad.add (x.i * 6)).off + 5, none⟩ = some (.slice x.A x.ks.length x.c)

/-- what a round keeps: what lies below n₀, and the slice's box -/
def BackK (n₀ Bs : Nat) (W W' : World) : Prop := Below n₀ W W' ∧ W'.heap[Bs]? = W.heap[Bs]?
theorem BackK.refl (n₀ Bs : Nat) (W : World) : BackK n₀ Bs W W := ⟨Below.refl _ _, rfl⟩
theorem BackK.trans {n₀ Bs : Nat} {A B C : World} (h : BackK n₀ Bs A B) (k : BackK n₀ Bs B C) : BackK n₀ Bs A C := ⟨h.1.trans k.1, k.2.trans h.2⟩

theorem add_blk (a : Addr) (i : Nat) : (a.add i).block = a.block := by unfold Addr.add; split <;> rfl
theorem El.At.keep {P : Nat → Prop} {W0 W W' : World} {n : Nat} {ad : Addr} {x : El P W0} (h : x.At W ad) (hb : Below n W W') (hn : ad.block < n) : x.At W' ad := by
  obtain ⟨h0, h1, h2, h3, h4, h5⟩ := h
  refine ⟨(hb.cell (by rw [add_blk]; exact hn)).trans h0, (hb.cell ?_).trans h1, (hb.cell ?_).trans h2, (hb.cell ?_).trans h3, (hb.cell ?_).trans h4, (hb.cell ?_).trans h5⟩ <;>
  · show (ad.add (x.i * 6)).block < n
    rw [add_blk]; exact hn

set_option maxRecDepth 100000 in
set_option maxHeartbeats 4000000 in
theorem back1_in {P : Nat → Prop} {W0 : World} (F : Fence) (n : Nat) (hf : F.fn 107) (hro : F.round = none) (hn : 1 ≤ n) (l Bs n₀ c : Nat) (ad : Addr) (rs : List (El P W0)) (hlm : rs.length ≤ 1000000000) (hb : ad.block < n₀) (J Jx : List (El P W0) → World → Prop)
    (hY : ∀ pre x W, J pre W → pre.length < rs.length → YieldAt F (n - 1) Tryd.prog l x.encs W fun e W' =>
      (e = .returned (.bool true) ∧ J (pre ++ [x]) W' ∧ BackK n₀ Bs W W') ∨ (e = .returned (.bool false) ∧ Jx (pre ++ [x]) W'))
    (W : World) (hBs : W.cell? ⟨Bs, 0, none⟩ = some (.slice (some ad) rs.length c)) (hel : ∀ k x, rs[k]? = some x → x.i + k + 1 = rs.length ∧ x.At W ad) (h0 : J [] W) :
    CallsIn F n Tryd.prog 107 #[.func (.yield l) #[] #[], .pointer (some ⟨Bs, 0, none⟩)] W fun e W' => (∃ v, e = .returned v) ∧
      ((∃ ys, ys = rs ∧ J ys W') ∨ (∃ pre, pre <+: rs ∧ Jx pre W')) := by
  refine callsIn_of_wp Tryd.func107 rfl hf ?_ hro
  simp only [Tryd.ntmps107, List.size_toArray, List.length_cons, List.length_nil, Nat.reduceAdd, Nat.reduceSub, Array.replicate_succ, Array.replicate_zero, List.push_toArray, List.append_toArray, List.nil_append, List.cons_append]
  gi_wp2
  gi_loopw [3] (fun i wr => ∃ j : Nat, j ≤ rs.length ∧ i = .int .i64 ((j : Int) - 1) ∧ J (rs.take (rs.length - j)) wr ∧ BackK n₀ Bs W wr)
    (fun i _ => (intOf i + 1).toNat)
  case atStart => exact ⟨rs.length, Nat.le_refl _, rfl, by simpa using h0, BackK.refl _ _ _⟩
  case round =>
    obtain ⟨j, hj, rfl, hJs, hnx⟩ := hrel
    have hBs' : wr.cell? ⟨Bs, 0, none⟩ = some (.slice (some ad) rs.length c) := (World.cell?_of_block hnx.2).trans hBs
    cases j with
    | zero =>
      have hT : rs.take (rs.length - 0) = rs := by simp
      rw [hT] at hJs
      have g : decide (((0 : Nat) : Int) - 1 ≥ 0) = false := rfl
      gi_wp2
      go_end0
      exact ⟨⟨_, rfl⟩, .inl ⟨_, rfl, hJs⟩⟩
    | succ m =>
      have hk : rs.length - (m + 1) < rs.length := by omega
      have hx : rs[rs.length - (m + 1)]? = some rs[rs.length - (m + 1)] := by simp [hk]
      have hT : rs.take (rs.length - m) = rs.take (rs.length - (m + 1)) ++ [rs[rs.length - (m + 1)]] := by
        rw [show rs.length - m = (rs.length - (m + 1)) + 1 by omega, List.take_add_one, hx]
        rfl
      have HT := Lib.hid hT
      clear hT
      obtain ⟨hi, hat⟩ := hel _ _ hx
      obtain ⟨fn, tmps, assign, body, hy, hR⟩ := hY _ rs[rs.length - (m + 1)] wr hJs (by rw [List.length_take]; omega)
      generalize rs[rs.length - (m + 1)] = x at *
      have hxi : x.i = m := by omega
      obtain ⟨i, h, ks, A, c1, hc1, hr1⟩ := x
      dsimp only at hxi hy hi
      subst hxi
      obtain ⟨q0, q1, q2, q3, q4, q5⟩ := hat.keep hnx.1 hb
      dsimp only at q0 q1 q2 q3 q4 q5
      have g : decide (((i + 1 : Nat) : Int) - 1 ≥ 0) = true := by simp
      have ei : ((i + 1 : Nat) : Int) - 1 = (i : Int) := by omega
      rw [ei]
      simp only [El.encs] at hy
      clear hBs hel hY hat hx
      gi_wp2
      refine hR.mono ?_
      rintro e W3 (⟨rfl, hJ3, hk3⟩ | ⟨rfl, hJx3⟩)
      · gi_wp2
        go_roundw
        case rel => exact ⟨i, by omega, by simp, by rw [HT.out]; exact hJ3, hnx.trans hk3⟩
        case measure => simp [intOf]
      · gi_wp2
        refine bodyPost_ret (results_none rfl _ _ _) rfl ?_
        exact ⟨⟨_, rfl⟩, .inr ⟨_, by rw [← HT.out]; exact List.take_prefix _ _, hJx3⟩⟩

set_option maxHeartbeats 1000000 in
theorem back_in (F : Fence) (n : Nat) (hf : F.fn 95) (hro : F.round = none) (a : Option Addr) (len cap : Nat) (w : World) :
    CallsIn F n Tryd.prog 95 #[.slice a len cap] w fun e w' => e = .returned (.func (.func 107) #[] #[.pointer (some ⟨w.heap.size, 0, none⟩)]) ∧ w' = w.alloc (.cells #[.slice a len cap] 40) := by
  refine callsIn_of_wp Tryd.func95 rfl hf ?_ hro
  simp only [Tryd.ntmps95, List.size_toArray, List.length_cons, List.length_nil, Nat.reduceAdd, Nat.reduceSub, Array.replicate_succ, Array.replicate_zero, List.push_toArray, List.append_toArray, List.nil_append, List.cons_append]
  gi_wp2
  go_ret
  exact ⟨rfl, rfl⟩

theorem back_stops {P : Nat → Prop} {W0 : World} (F : Fence) (n : Nat) (hf : F.fn 107) (hro : F.round = none) (hn : 1 ≤ n) (Bs n₀ c : Nat) (ad : Addr) (rs : List (El P W0)) (hlm : rs.length ≤ 1000000000) (w : World) (hBs : Bs < w.heap.size) (hn₀ : n₀ ≤ w.heap.size) (hb : ad.block < n₀)
    (hc : w.cell? ⟨Bs, 0, none⟩ = some (.slice (some ad) rs.length c)) (hel : ∀ k x, rs[k]? = some x → x.i + k + 1 = rs.length ∧ x.At w ad) :
    SeqStopsK F n Tryd.prog 107 #[.pointer (some ⟨Bs, 0, none⟩)] (fun x : El P W0 => x.encs) (BackK n₀ Bs) (fun ys => ys = rs) (fun pre => pre <+: rs) rs.length w := fun l J Jx W hW _ _ hY h0 =>
  back1_in F n hf hro hn l Bs n₀ c ad rs hlm hb J Jx hY W ((hW.cell (p := ⟨Bs, 0, none⟩) hBs).trans hc) (fun k x hx => ⟨(hel k x hx).1, (hel k x hx).2.keep hW (by omega)⟩) h0

/-- a row's expressions, from the last to the first -/
theorem els_of {ok : Nat → Prop} {w : World} {ts : List Re} {ad : Addr} (hr : InRow RE ok w ts (some ad) 0) : ∀ n, n ≤ ts.length →
    ∃ rs : List (El (fun b => ok b ∧ b < w.heap.size) w), rs.length = n ∧ (rs.map El.t) = (ts.take n).reverse ∧ ∀ k x, rs[k]? = some x → x.i + k + 1 = n ∧ x.At w ad
  | 0, _ => ⟨[], rfl, by simp, fun k x h => by simp at h⟩
  | n + 1, hn => by
    obtain ⟨rs, h1, h2, h3⟩ := els_of hr n (by omega)
    obtain ⟨t, ad', h, ks, A1, c1, hA, hx, rfl, hc1, hr1, q⟩ := re_at hr (show n < ts.length by omega)
    cases hA
    refine ⟨⟨n, h, ks, A1, c1, hc1, hr1.there⟩ :: rs, by simp [h1], ?_, ?_⟩
    · simp only [List.map_cons, h2, El.t]
      rw [List.take_add_one, hx]
      simp
    · intro k x hk
      cases k with
      | zero =>
        simp only [List.getElem?_cons_zero, Option.some.injEq] at hk
        subst hk
        exact ⟨by simp, q⟩
      | succ k =>
        simp only [List.getElem?_cons_succ] at hk
        obtain ⟨e1, e2⟩ := h3 k x hk
        exact ⟨by omega, e2⟩
end Go.Proofs.YteoghoaggpbkpaaDoor
