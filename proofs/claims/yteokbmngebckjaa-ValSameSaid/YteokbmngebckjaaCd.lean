/- pick.fits: does an expression fit a part of the text. Places, from the last to the first: slices.Backward. pick.cut: where the longest front ends. pick.right: at Eps, at a class, at an Alt. pick.right: at a Seq. -/
import Derived.Test.YteokbmngebckjaaCc
import Derived.RangeFuncNested
import Derived.RangeFuncBound
import Derived.RangeFuncCalls
import Derived.RangeFuncLeaves
import Derived.RangeFuncBox
import Derived.Shelf.Abstract
import Derived.Shelf.RegionOpen
import Derived.WalkKit
import Derived.OwnWalkIn
import Derived.TacticsInMore
import Derived.LoopNIn
import Derived.LoopIn
import Derived.Test.YteokbmngebckjaaCa
import Derived.Test.YteokbmngebckjaaBy
namespace Go.Proofs.Yteokbmngebckjaa
open Go.RowKit
set_option linter.unusedVariables false
set_option linter.unusedSimpArgs false

theorem ext_sub (S : ByteArray) (i j : Nat) : (S.extract i j).data.toList = sub S.data.toList i j := by
  simp [sub, List.extract_eq_take_drop]
theorem sub_left (S : List UInt8) (j : Nat) : sub S 0 j = S.take j := by simp [sub]
def pkV (S : ByteArray) : Value := .agg #[.string S]
theorem row1_at (X : World) (s : ByteArray) (t : TypeId) (B : Nat) (h : X.heap[B]? = some (.cells #[.string s] t (0, 0))) : Row1 Value.string X (some ⟨B, 0, none⟩) [s] := fun j v hv => by
  cases j with
  | zero =>
    simp at hv
    subst hv
    exact ⟨_, rfl, by simpa [Addr.add] using cell_of_one h⟩
  | succ j => simp at hv
theorem row1_new (X : World) (s : ByteArray) (t : TypeId) : Row1 Value.string (X.alloc (.cells #[.string s] t)) (some ⟨X.heap.size, 0, none⟩) [s] := row1_at _ _ _ _ (new_at1 _)
theorem row1_newd (X : World) (s : ByteArray) (t : TypeId) : Row1 Value.string (X.alloc (.cells #[.string s] t)).drew (some ⟨X.heap.size, 0, none⟩) [s] := row1_at _ _ _ _ (new_at1 _)
set_option maxRecDepth 100000 in
set_option maxHeartbeats 8000000 in
theorem pfits_any {P : Nat → Prop} (h : RH) (ks : List Re) (A : Option Addr) (c : Nat) (S : ByteArray) (i j : Nat) (w : World) (hm : T.sizes ks ≤ 900000) (hc : ks.length ≤ c) (hr : InRow RE P w ks A 0) (hS : S.size ≤ 100) (hij : i ≤ j) (hj : j ≤ S.size) :
    Calls Try.prog 61 #[.agg #[.string S], reV h A ks.length c, .int .i64 (i : Nat), .int .i64 (j : Nat)] w fun e w' => e = .returned (.bool (mayB (.mk h ks) && fitB (.mk h ks) (sub S.data.toList i j))) ∧ Below w.heap.size w w' := by
  obtain ⟨W, hW⟩ : ∃ W, (w.alloc (.cells #[.string S] 70)).alloc (.cells (reA h A ks.length c) 34) = W := ⟨_, rfl⟩
  have hbW : Below w.heap.size w W := by rw [← hW]; exact below_new (below_new (Below.refl _ _) _) _
  have e4 : W.heap[w.heap.size]? = some (.cells #[.string S] 70 (0, 0)) := by rw [← hW]; exact heap_keep (new_at1 _) _
  have e5 : W.heap[w.heap.size + 1]? = some (.cells (reA h A ks.length c) 34 (0, 0)) := by rw [← hW]; have := new_at1 (w := w.alloc (.cells #[.string S] 70)) (.cells (reA h A ks.length c) 34); rwa [World.size_alloc] at this
  have HF : Hid (∀ X B, Below W.heap.size W X → Row1 Value.string X B [S.extract i j] → Calls Try.prog 23 #[reV h A ks.length c, .slice B 1 1] X fun e w' => e = .returned (.bool (mayB (.mk h ks) && fitB (.mk h ks) (sub S.data.toList i j))) ∧ Below X.heap.size X w') := fun X B hX hrow => by
    have := mFits_any h ks A c (S.extract i j) B 1 X hm hc (hr.below (below_from hbW hX)) (by simp only [ByteArray.size_extract]; omega) hrow
    rw [ext_sub] at this
    exact this
  have Q : Hid (∀ X, Below W.heap.size W X → X.cell? ⟨w.heap.size, 0, none⟩ = some (.string S) ∧ X.cell? ⟨w.heap.size + 1, 0, none⟩ = some (.int .u8 (h.k.toNat : Int)) ∧ X.cell? ⟨w.heap.size + 1, 1, none⟩ = some (.int .u64 (h.s.a.toNat : Int)) ∧ X.cell? ⟨w.heap.size + 1, 2, none⟩ = some (.int .u64 (h.s.b.toNat : Int)) ∧ X.cell? ⟨w.heap.size + 1, 3, none⟩ = some (.int .u64 (h.s.c.toNat : Int)) ∧ X.cell? ⟨w.heap.size + 1, 4, none⟩ = some (.int .u64 (h.s.d.toNat : Int)) ∧ X.cell? ⟨w.heap.size + 1, 5, none⟩ = some (.slice A ks.length c)) := fun X hX => ⟨cell_of_one ((hX.block _ (lt_of_block e4)).trans e4), re_at_box ((hX.block _ (lt_of_block e5)).trans e5)⟩
  have HE := Lib.hid hW
  have HB := Lib.hid hbW
  have gji : ¬ ((j : Int) < (i : Int)) := by omega
  have gi0 : ¬ ((i : Int) < 0) := by omega
  have gj0 : ¬ ((j : Int) < 0) := by omega
  have gsj : ¬ ((S.size : Int) < (j : Int)) := by omega
  have gsi : ¬ ((S.size : Int) < (i : Int)) := by omega
  have gle : (i : Int) ≤ (j : Int) := by omega
  have gle2 : (j : Int) ≤ (S.size : Int) := by omega
  clear hW hbW e4 e5 hr
  go_enter Try.func61, Try.ntmps61
  go_upto_region 1 with fail
  rw [show (w.alloc _).alloc _ = W from HE.out]
  have hz := Below.refl W.heap.size W
  obtain ⟨p0, x0, x1, x2, x3, x4, x5⟩ := Q.out _ hz
  go_region_held3 (fun X => X.cell? ⟨w.heap.size, 0, none⟩ = some (.string S) ∧ X.cell? ⟨w.heap.size + 1, 0, none⟩ = some (.int .u8 (h.k.toNat : Int)) ∧ X.cell? ⟨w.heap.size + 1, 1, none⟩ = some (.int .u64 (h.s.a.toNat : Int)) ∧ X.cell? ⟨w.heap.size + 1, 2, none⟩ = some (.int .u64 (h.s.b.toNat : Int)) ∧ X.cell? ⟨w.heap.size + 1, 3, none⟩ = some (.int .u64 (h.s.c.toNat : Int)) ∧ X.cell? ⟨w.heap.size + 1, 4, none⟩ = some (.int .u64 (h.s.d.toNat : Int)) ∧ X.cell? ⟨w.heap.size + 1, 5, none⟩ = some (.slice A ks.length c))
    ((refine Q.out _ ?_; (repeat (first | with_reducible exact hz | with_reducible refine Below.drew ?_ | with_reducible refine below_new ?_ _))))
    (first
      | (go_at_call 23; (with_reducible refine Calls.mono (HF.out _ _ ?h1 ?h2) ?_); (case h1 => (repeat (first | with_reducible exact hz | with_reducible refine Below.drew ?_ | with_reducible refine below_new ?_ _))); (case h2 => (first | exact row1_newd _ _ _ | exact row1_new _ _ _)); rintro e we ⟨rfl, hbe⟩; have hz : Below W.heap.size W we := below_from (by (repeat (first | with_reducible exact hz | with_reducible refine Below.drew ?_ | with_reducible refine below_new ?_ _))) hbe)
      | fail)
  have HBE := Lib.hid (below_from HB.out hz)
  go_wp2_with fail
  go_ret
  exact ⟨rfl, HBE.out⟩
end Go.Proofs.Yteokbmngebckjaa
namespace Go.Proofs.Yteokbmngebckjaa
open Go.RowKit Go.Shelf
set_option linter.unusedVariables false
set_option linter.unusedSimpArgs false
attribute [local go_sem] Oper.semAt_some

/-- numbers with their places, from the last to the first -/
def ints (L : List Nat) : List (Nat × Nat) := L.zipIdx.reverse
theorem ints_len (L : List Nat) : (ints L).length = L.length := by simp [ints]
theorem ints_at {L : List Nat} {m v : Nat} (h : L[m]? = some v) : (ints L)[L.length - (m + 1)]? = some (v, m) := by
  obtain ⟨hm, e⟩ := List.getElem?_eq_some_iff.1 h
  unfold ints
  rw [List.getElem?_reverse (by simp; omega)]
  rw [List.getElem?_zipIdx, show L.zipIdx.length - 1 - (L.length - (m + 1)) = m by simp; omega, h]
  simp
theorem ints_map (L : List Nat) : (ints L).map Prod.fst = L.reverse := by simp [ints, List.map_reverse]
theorem trueTo_lt (l : List Bool) : ∀ k, (trueTo l k).Pairwise (· < ·)
  | 0 => List.Pairwise.nil
  | k + 1 => by
    have ih := trueTo_lt l k
    simp only [trueTo]
    split
    · rw [List.pairwise_append]
      refine ⟨ih, by simp, fun a ha b hb => ?_⟩
      rw [List.mem_singleton] at hb
      have := ((trueTo_mem l a k).1 ha).1
      omega
    · exact ih
/-- what stands behind a number of the row, from the last to the first, is less -/
theorem ints_stop {L : List Nat} (hL : L.Pairwise (· < ·)) {rest : List (Nat × Nat)} {x : Nat × Nat} (hp : rest ++ [x] <+: ints L) : ∀ y, y ∈ L → x.1 < y → ∃ z, z ∈ rest ∧ z.1 = y := by
  intro y hy hxy
  obtain ⟨more, e⟩ := hp
  have e2 : (rest.map Prod.fst ++ [x.1]) ++ more.map Prod.fst = L.reverse := by rw [← ints_map, ← e]; simp
  have hs : (L.reverse).Pairwise (fun a b => b < a) := by rw [List.pairwise_reverse]; exact hL
  rw [← e2, List.pairwise_append] at hs
  have hy2 : y ∈ (rest.map Prod.fst ++ [x.1]) ++ more.map Prod.fst := by rw [e2]; exact List.mem_reverse.2 hy
  rw [List.mem_append, List.mem_append, List.mem_singleton] at hy2
  rcases hy2 with (h | h) | h
  · obtain ⟨z, hz, e3⟩ := List.mem_map.1 h
    exact ⟨z, hz, e3⟩
  · omega
  · have := hs.2.2 x.1 (by simp) y h
    omega
abbrev IE (L : List Nat) := {x : Nat × Nat // x ∈ ints L}
def intsE (L : List Nat) : List (IE L) := (ints L).attach
theorem intsE_len (L : List Nat) : (intsE L).length = L.length := by simp [intsE, ints_len]
theorem intsE_at {L : List Nat} {m v : Nat} (h : L[m]? = some v) : ∃ h', (intsE L)[L.length - (m + 1)]? = some ⟨(v, m), h'⟩ := by
  have h1 := ints_at h
  obtain ⟨hk, e⟩ := List.getElem?_eq_some_iff.1 h1
  exact ⟨List.mem_of_getElem? h1, List.getElem?_eq_some_iff.2 ⟨by simpa [intsE] using hk, Subtype.ext (by simp [intsE, e])⟩⟩
theorem intsE_mem {L : List Nat} (x : IE L) : x.1.1 ∈ L := by
  have h := List.mem_map_of_mem (f := Prod.fst) x.2
  rw [ints_map] at h
  exact List.mem_reverse.1 h
theorem intsE_all {L : List Nat} {y : Nat} (h : y ∈ L) : ∃ x, x ∈ intsE L ∧ x.1.1 = y := by
  have h2 : y ∈ (ints L).map Prod.fst := by rw [ints_map]; exact List.mem_reverse.2 h
  obtain ⟨z, hz, e⟩ := List.mem_map.1 h2
  exact ⟨⟨z, hz⟩, by simp [intsE], e⟩
theorem intsE_stop {L : List Nat} (hL : L.Pairwise (· < ·)) {rest : List (IE L)} {x : IE L} (hp : rest ++ [x] <+: intsE L) : ∀ y, y ∈ L → x.1.1 < y → ∃ z, z ∈ rest ∧ z.1.1 = y := by
  intro y hy hxy
  have h2 : rest.map Subtype.val ++ [x.1] <+: ints L := by
    have := hp.map Subtype.val
    rw [intsE, List.attach_map_subtype_val, List.map_append] at this
    exact this
  obtain ⟨z, hz, e⟩ := ints_stop hL h2 y hy hxy
  obtain ⟨z2, hz2, rfl⟩ := List.mem_map.1 hz
  exact ⟨z2, hz2, e⟩
abbrev encI (x : Nat × Nat) : Array Value := #[.int .i64 (x.2 : Int), .int .i64 (x.1 : Int)]
set_option maxRecDepth 100000 in
set_option maxHeartbeats 4000000 in
theorem backI1_in (F : Fence) (n : Nat) (hf : F.fn 101) (hro : F.round = none) (hn : 1 ≤ n) (l Bs c : Nat) (A : Option Addr) (L : List Nat) (hlm : L.length ≤ 1000) (W0 : World) (J Jx : List (IE L) → World → Prop)
    (hY : ∀ pre x W, J pre W → pre.length < L.length → YieldAt F (n - 1) Try.prog l (encI x.1) W fun e W' =>
      (e = .returned (.bool true) ∧ J (pre ++ [x]) W' ∧ Below W0.heap.size W W') ∨ (e = .returned (.bool false) ∧ Jx (pre ++ [x]) W'))
    (W : World) (hW : Below W0.heap.size W0 W) (hBs : W0.cell? ⟨Bs, 0, none⟩ = some (.slice A L.length c)) (hr : Row1 encN W0 A L) (h0 : J [] W) :
    CallsIn F n Try.prog 101 #[.func (.yield l) #[] #[], .pointer (some ⟨Bs, 0, none⟩)] W fun e W' => (∃ v, e = .returned v) ∧
      ((∃ ys, ys = intsE L ∧ J ys W') ∨ (∃ pre, pre <+: intsE L ∧ Jx pre W')) := by
  have hcB : W.cell? ⟨Bs, 0, none⟩ = some (.slice A L.length c) := keep_cell hW hBs
  have gw0 : IntKind.i64.wrap ((L.length : Int) - 1) = (L.length : Int) - 1 := IntWalk.i64_in _ (by omega)
  refine callsIn_of_wp Try.func101 rfl hf ?_ hro
  simp only [Try.ntmps101, List.size_toArray, List.length_cons, List.length_nil, Nat.reduceAdd, Nat.reduceSub, Array.replicate_succ, Array.replicate_zero, List.push_toArray, List.append_toArray, List.nil_append, List.cons_append]
  gi_wp2
  gi_loopw [3] (fun i wr => ∃ j : Nat, j ≤ L.length ∧ i = .int .i64 ((j : Int) - 1) ∧ J ((intsE L).take (L.length - j)) wr ∧ Below W0.heap.size W0 wr)
    (fun i _ => (intOf i + 1).toNat)
  case atStart => exact ⟨L.length, Nat.le_refl _, rfl, by simpa using h0, hW⟩
  case round =>
    obtain ⟨j, hj, rfl, hJs, hnx⟩ := hrel
    clear hcB
    have hBs' : wr.cell? ⟨Bs, 0, none⟩ = some (.slice A L.length c) := keep_cell hnx hBs
    cases j with
    | zero =>
      have hT : (intsE L).take (L.length - 0) = intsE L := by rw [Nat.sub_zero, ← intsE_len L, List.take_length]
      rw [hT] at hJs
      have g : decide (((0 : Nat) : Int) - 1 ≥ 0) = false := rfl
      gi_wp2
      go_end0
      exact ⟨⟨_, rfl⟩, .inl ⟨_, rfl, hJs⟩⟩
    | succ m =>
      obtain ⟨ad, v, hA, hv, hcv⟩ := (hr.below hnx).at_ (show m < L.length by omega)
      obtain ⟨hvm, hx⟩ := intsE_at hv
      have hT : (intsE L).take (L.length - m) = (intsE L).take (L.length - (m + 1)) ++ [⟨(v, m), hvm⟩] := by
        rw [show L.length - m = (L.length - (m + 1)) + 1 by omega, List.take_add_one, hx]
        rfl
      have HT := Lib.hid hT
      clear hT
      subst hA
      simp only [encN] at hcv
      obtain ⟨fn, tmps, assign, body, hy, hR⟩ := hY _ ⟨(v, m), hvm⟩ wr hJs (by rw [List.length_take, intsE_len]; omega)
      have g : decide (((m + 1 : Nat) : Int) - 1 ≥ 0) = true := by simp
      have ei : ((m + 1 : Nat) : Int) - 1 = (m : Int) := by omega
      have gm1 : IntKind.i64.wrap ((m : Int) - 1) = (m : Int) - 1 := IntWalk.i64_in _ (by omega)
      rw [ei]
      simp only [encI] at hy
      clear hBs hY hx hv
      gi_wp2
      refine hR.mono ?_
      rintro e W3 (⟨rfl, hJ3, hk3⟩ | ⟨rfl, hJx3⟩)
      · gi_wp2
        go_roundw
        case rel => exact ⟨m, by omega, by simp, by rw [HT.out]; exact hJ3, hnx.trans hk3⟩
        case measure => simp [intOf]
      · gi_wp2
        refine bodyPost_ret (results_none rfl _ _ _) rfl ?_
        exact ⟨⟨_, rfl⟩, .inr ⟨_, by rw [← HT.out]; exact List.take_prefix _ _, hJx3⟩⟩
set_option maxHeartbeats 1000000 in
theorem backI_in (F : Fence) (n : Nat) (hf : F.fn 84) (hro : F.round = none) (a : Option Addr) (len cap : Nat) (w : World) :
    CallsIn F n Try.prog 84 #[.slice a len cap] w fun e w' => e = .returned (.func (.func 101) #[] #[.pointer (some ⟨w.heap.size, 0, none⟩)]) ∧ w' = w.alloc (.cells #[.slice a len cap] 68) := by
  refine callsIn_of_wp Try.func84 rfl hf ?_ hro
  simp only [Try.ntmps84, List.size_toArray, List.length_cons, List.length_nil, Nat.reduceAdd, Nat.reduceSub, Array.replicate_succ, Array.replicate_zero, List.push_toArray, List.append_toArray, List.nil_append, List.cons_append]
  gi_wp2
  go_ret
  exact ⟨rfl, rfl⟩
theorem backI_any (a : Option Addr) (len cap : Nat) (w : World) :
    Calls Try.prog 84 #[.slice a len cap] w fun e w' => ∃ Bs, e = .returned (.func (.func 101) #[] #[.pointer (some ⟨Bs, 0, none⟩)]) ∧ w'.cell? ⟨Bs, 0, none⟩ = some (.slice a len cap) ∧ Below w.heap.size w w' := by
  refine Calls.mono (callsIn_wide.1 (backI_in Fence.wide 3 trivial rfl a len cap w)) ?_
  rintro e w' ⟨rfl, rfl⟩
  exact ⟨w.heap.size, rfl, cell_of_one (new_at1 _), below_new (Below.refl _ _) _⟩
theorem backI_stops (F : Fence) (n : Nat) (hf : F.fn 101) (hro : F.round = none) (hn : 1 ≤ n) (Bs c : Nat) (A : Option Addr) (L : List Nat) (hlm : L.length ≤ 1000) (w : World)
    (hc : w.cell? ⟨Bs, 0, none⟩ = some (.slice A L.length c)) (hr : Row1 encN w A L) :
    SeqStopsK F n Try.prog 101 #[.pointer (some ⟨Bs, 0, none⟩)] (fun x : IE L => encI x.1) (Below w.heap.size) (fun ys => ys = intsE L) (fun pre => pre <+: intsE L) L.length w := fun l J Jx W hW _ _ hY h0 =>
  backI1_in F n hf hro hn l Bs c A L hlm w J Jx hY W hW hc hr h0
end Go.Proofs.Yteokbmngebckjaa
namespace Go.Proofs.Yteokbmngebckjaa
open Go.RowKit Go.Shelf
set_option linter.unusedVariables false
set_option linter.unusedSimpArgs false
attribute [local go_sem] Oper.semAt_some

theorem six_new (w : World) (o1 o2 o3 o4 o5 o6 : Obj) : ∃ W, ((((((w.alloc o1).alloc o2).alloc o3).alloc o4).alloc o5).alloc o6) = W ∧ Below w.heap.size w W ∧ W.heap.size = w.heap.size + 6 ∧ W.heap[w.heap.size]? = some o1 ∧ W.heap[w.heap.size + 1]? = some o2 ∧ W.heap[w.heap.size + 1 + 1]? = some o3 ∧ W.heap[w.heap.size + 1 + 1 + 1]? = some o4 ∧ W.heap[w.heap.size + 1 + 1 + 1 + 1]? = some o5 ∧ W.heap[w.heap.size + 1 + 1 + 1 + 1 + 1]? = some o6 := by
  refine ⟨_, rfl, below_new (below_new (below_new (below_new (below_new (below_new (Below.refl _ _) _) _) _) _) _) _, by simp, ?_, ?_, ?_, ?_, ?_, ?_⟩
  · exact heap_keep (heap_keep (heap_keep (heap_keep (heap_keep (new_at1 _) _) _) _) _) _
  · have := new_at1 (w := w.alloc o1) o2
    rw [World.size_alloc] at this
    exact heap_keep (heap_keep (heap_keep (heap_keep this _) _) _) _
  · have := new_at1 (w := (w.alloc o1).alloc o2) o3
    simp only [World.size_alloc] at this
    exact heap_keep (heap_keep (heap_keep this _) _) _
  · have := new_at1 (w := ((w.alloc o1).alloc o2).alloc o3) o4
    simp only [World.size_alloc] at this
    exact heap_keep (heap_keep this _) _
  · have := new_at1 (w := (((w.alloc o1).alloc o2).alloc o3).alloc o4) o5
    simp only [World.size_alloc] at this
    exact heap_keep this _
  · have := new_at1 (w := ((((w.alloc o1).alloc o2).alloc o3).alloc o4).alloc o5) o6
    simp only [World.size_alloc] at this
    exact this
theorem keepsO_below {X Y : World} (h : Below X.heap.size X Y) : KeepsOthers X Y := ⟨h.size, fun k o hk _ => (h.block k (lt_of_block hk)).trans hk⟩
theorem block_ownC {b : Nat} {cs : Array Value} {t : TypeId} {f : Nat × Nat} {β : Type} : Own (fun (_ : β) W => W.heap[b]? = some (.cells cs t f)) := fun s X Y row hs hg hrow =>
  (grownBy_keeps_cells hg hrow hs rfl).trans hs

theorem cell_of_box_c {W : World} {B : Nat} {v : Value} {t : TypeId} (h : W.heap[B]? = some (.cells #[v] t (0, 0))) : W.cell? ⟨B, 0, none⟩ = some v ∧ W.frozen? ⟨B, 0, none⟩ = false := by
  constructor <;> simp [World.cell?, World.frozen?, h]
/-- where the longest front ends -/
def CutP (a b : Re) (S : List UInt8) (i lo j : Nat) (z : Int) : Prop :=
  (∃ k : Nat, z = (k : Int) ∧ i ≤ k ∧ lo ≤ k ∧ k ≤ j ∧ LT a (sub S i k) ∧ LT b (sub S k j) ∧ ∀ k', k < k' → k' ≤ j → ¬ (LT a (sub S i k') ∧ LT b (sub S k' j))) ∨
  (z = -1 ∧ ∀ k, i ≤ k → lo ≤ k → k ≤ j → ¬ (LT a (sub S i k) ∧ LT b (sub S k j)))
def CutG (b : Re) (S : List UInt8) (lo j : Nat) (k : Nat) : Prop := lo ≤ k ∧ LT b (sub S k j)
theorem cut_stop {a b : Re} {S : List UInt8} {i lo j : Nat} {L : List Nat} (hL : L.Pairwise (· < ·)) (hM : ∀ x, x ∈ L ↔ (x ≤ j ∧ i ≤ x ∧ LT a (sub S i x))) {rest : List (IE L)} {x : IE L} (hp : rest ++ [x] <+: intsE L) (hn : ∀ y, y ∈ rest → ¬ CutG b S lo j y.1.1) (hx : CutG b S lo j x.1.1) : CutP a b S i lo j (x.1.1 : Int) := by
  obtain ⟨h1, h2, h3⟩ := (hM _).1 (intsE_mem x)
  refine .inl ⟨x.1.1, rfl, h2, hx.1, h1, h3, hx.2, fun k' hk hj hh => ?_⟩
  obtain ⟨z, hz, rfl⟩ := intsE_stop hL hp k' ((hM _).2 ⟨hj, by omega, hh.1⟩) hk
  exact hn z hz ⟨by have := hx.1; omega, hh.2⟩
theorem cut_done {a b : Re} {S : List UInt8} {i lo j : Nat} {L : List Nat} (hM : ∀ x, x ∈ L ↔ (x ≤ j ∧ i ≤ x ∧ LT a (sub S i x))) (hn : ∀ y, y ∈ intsE L → ¬ CutG b S lo j y.1.1) : CutP a b S i lo j (-1) := by
  refine .inr ⟨rfl, fun k hi hl hj hh => ?_⟩
  obtain ⟨z, hz, rfl⟩ := intsE_all ((hM _).2 ⟨hj, hi, hh.1⟩)
  exact hn z hz ⟨hl, hh.2⟩
theorem sub_take {S : List UInt8} {j i x : Nat} (h : x ≤ j) : sub (S.take j) i x = sub S i x := by
  simp only [sub, List.drop_take, List.take_take]
  congr 1
  omega
/-- where texts end that begin at i, in a front of the text -/
theorem endsI {P : Nat → Prop} (h : RH) (ks : List Re) (A : Option Addr) (c : Nat) (S : ByteArray) (i j : Nat) (w : World) (hmy : mayB (.mk h ks) = true) (hc : ks.length ≤ c) (hr : InRow RE P w ks A 0) (hS : S.size ≤ 100) (hij : i ≤ j) (hj : j ≤ S.size) :
    Calls Try.prog 71 #[reV h A ks.length c, .string (S.extract 0 j), .int .i64 (i : Nat)] w fun e w' => ∃ A c L, e = .returned (.slice A L.length c) ∧ L.length ≤ 1000 ∧ L.Pairwise (· < ·) ∧ (∀ x, x ∈ L ↔ (x ≤ j ∧ i ≤ x ∧ LT (.mk h ks) (sub S.data.toList i x))) ∧ Row1 encN w' A L ∧ Below w.heap.size w w' := by
  have hs : (S.extract 0 j).size = j := by simp only [ByteArray.size_extract]; omega
  refine (mEnds_any h ks A c (S.extract 0 j) i w hmy hc hr (by omega) (by omega)).mono ?_
  rintro e w' ⟨A1, c1, l, rfl, hc1, hee, hr1, hb1⟩
  rw [hs] at hee hr1 ⊢
  refine ⟨A1, c1, _, rfl, by have := trueTo_len l (j + 1); omega, trueTo_lt _ _, fun x => ?_, hr1, hb1⟩
  rw [trueTo_mem, hee.2, ext_sub, sub_left]
  have hl : (S.data.toList.take j).length = j := by rw [List.length_take, sl_]; omega
  rw [hl]
  constructor
  · rintro ⟨_, hx, i', hi', e, hl'⟩
    unfold onlyAt at e
    rw [List.getElem?_set] at e
    by_cases h0 : i = i'
    · subst h0
      rw [sub_take hx] at hl'
      exact ⟨hx, hi', hl'⟩
    · rw [if_neg h0] at e
      exact absurd e (none_true _ _)
  · rintro ⟨hx, hi', hl'⟩
    refine ⟨by omega, hx, i, hi', by unfold onlyAt; rw [List.getElem?_set]; simp; omega, by rw [sub_take hx]; exact hl'⟩
def CutPost (a b : Re) (S : List UInt8) (i lo j : Nat) (w : World) (e : Ending) (w' : World) : Prop := ∃ z, e = .returned (.int .i64 z) ∧ CutP a b S i lo j z ∧ Below w.heap.size w w'
set_option maxRecDepth 100000 in
set_option maxHeartbeats 8000000 in
theorem cut_any {P : Nat → Prop} (ha : RH) (ka : List Re) (Aa : Option Addr) (ca : Nat) (hb : RH) (kb : List Re) (Ab : Option Addr) (cb : Nat) (S : ByteArray) (i lo j : Nat) (w : World) (hma : mayB (.mk ha ka) = true) (hmb : mayB (.mk hb kb) = true) (hca : ka.length ≤ ca) (hra : InRow RE P w ka Aa 0) (hcb : kb.length ≤ cb) (hrb : InRow RE P w kb Ab 0) (hS : S.size ≤ 100) (hij : i ≤ j) (hj : j ≤ S.size) :
    Calls Try.prog 62 #[.agg #[.string S], reV ha Aa ka.length ca, reV hb Ab kb.length cb, .int .i64 (i : Nat), .int .i64 (lo : Nat), .int .i64 (j : Nat)] w (CutPost (.mk ha ka) (.mk hb kb) S.data.toList i lo j w) := by
  have hszb := (may_iff.1 hmb).2
  simp only [T.size] at hszb
  obtain ⟨W, hW, hbW, hsW, e6, e7, e8, e10, e11, e12⟩ := six_new w (.cells #[.string S] 70) (.cells (reA ha Aa ka.length ca) 34) (.cells (reA hb Ab kb.length cb) 34) (.cells #[.int .i64 (lo : Int)] 3) (.cells #[.int .i64 (j : Int)] 3) (.cells #[.int .i64 0] 3)
  have HEN : Hid (∀ X, Below W.heap.size W X → Calls Try.prog 71 #[reV ha Aa ka.length ca, .string (S.extract 0 j), .int .i64 (i : Nat)] X fun e w' => ∃ A c L, e = .returned (.slice A L.length c) ∧ L.length ≤ 1000 ∧ L.Pairwise (· < ·) ∧ (∀ x, x ∈ L ↔ (x ≤ j ∧ i ≤ x ∧ LT (.mk ha ka) (sub S.data.toList i x))) ∧ Row1 encN w' A L ∧ Below X.heap.size X w') := fun X hX =>
    endsI ha ka Aa ca S i j X hma hca (hra.below (below_from hbW hX)) hS hij hj
  have HFB : Hid (∀ v X, v ≤ j → Below W.heap.size W X → Calls Try.prog 61 #[.agg #[.string S], reV hb Ab kb.length cb, .int .i64 (v : Nat), .int .i64 (j : Nat)] X fun e w' => e = .returned (.bool (fitB (.mk hb kb) (sub S.data.toList v j))) ∧ Below X.heap.size X w') := fun v X hv hX => by
    have := pfits_any hb kb Ab cb S v j X (by omega) hcb (hrb.below (below_from hbW hX)) hS hv hj
    rw [hmb, Bool.true_and] at this
    exact this
  have Q : Hid (∀ X, Below W.heap.size W X → X.cell? ⟨w.heap.size, 0, none⟩ = some (.string S) ∧ X.cell? ⟨w.heap.size + 1 + 1 + 1, 0, none⟩ = some (.int .i64 (lo : Int)) ∧ X.cell? ⟨w.heap.size + 1 + 1 + 1 + 1, 0, none⟩ = some (.int .i64 (j : Int)) ∧ (X.cell? ⟨w.heap.size + 1, 0, none⟩ = some (.int .u8 (ha.k.toNat : Int)) ∧ X.cell? ⟨w.heap.size + 1, 1, none⟩ = some (.int .u64 (ha.s.a.toNat : Int)) ∧ X.cell? ⟨w.heap.size + 1, 2, none⟩ = some (.int .u64 (ha.s.b.toNat : Int)) ∧ X.cell? ⟨w.heap.size + 1, 3, none⟩ = some (.int .u64 (ha.s.c.toNat : Int)) ∧ X.cell? ⟨w.heap.size + 1, 4, none⟩ = some (.int .u64 (ha.s.d.toNat : Int)) ∧ X.cell? ⟨w.heap.size + 1, 5, none⟩ = some (.slice Aa ka.length ca)) ∧ X.cell? ⟨w.heap.size + 1 + 1, 0, none⟩ = some (.int .u8 (hb.k.toNat : Int)) ∧ X.cell? ⟨w.heap.size + 1 + 1, 1, none⟩ = some (.int .u64 (hb.s.a.toNat : Int)) ∧ X.cell? ⟨w.heap.size + 1 + 1, 2, none⟩ = some (.int .u64 (hb.s.b.toNat : Int)) ∧ X.cell? ⟨w.heap.size + 1 + 1, 3, none⟩ = some (.int .u64 (hb.s.c.toNat : Int)) ∧ X.cell? ⟨w.heap.size + 1 + 1, 4, none⟩ = some (.int .u64 (hb.s.d.toNat : Int)) ∧ X.cell? ⟨w.heap.size + 1 + 1, 5, none⟩ = some (.slice Ab kb.length cb)) := fun X hX => ⟨cell_of_one ((hX.block _ (lt_of_block e6)).trans e6), cell_of_one ((hX.block _ (lt_of_block e10)).trans e10), cell_of_one ((hX.block _ (lt_of_block e11)).trans e11), re_at_box ((hX.block _ (lt_of_block e7)).trans e7), re_at_box ((hX.block _ (lt_of_block e8)).trans e8)⟩
  have HE := Lib.hid hW
  have HB := Lib.hid hbW
  have HSW := Lib.hid hsW
  have E12 := Lib.hid e12
  have gj0 : ¬ ((j : Int) < 0) := by omega
  have gsj : ¬ ((S.size : Int) < (j : Int)) := by omega
  have gle2 : (j : Int) ≤ (S.size : Int) := by omega
  clear hW hbW hsW e6 e7 e8 e10 e11 e12 hra hrb hma hmb
  refine callsIn_wide.1 (callsIn_of_wp_marks (n := 9) Try.func62 rfl trivial ?_ rfl)
  refine wpIn_wide.2 ?_
  simp only [Try.ntmps62, List.size_toArray, List.length_cons, List.length_nil, Nat.reduceAdd, Nat.reduceSub, Array.replicate_succ, Array.replicate_zero, List.push_toArray, List.append_toArray, List.nil_append, List.cons_append]
  go_upto_region 1 with fail
  rw [show (((((w.alloc _).alloc _).alloc _).alloc _).alloc _).alloc _ = W from HE.out]
  have hz := Below.refl W.heap.size W
  obtain ⟨p6, p10, p11, ⟨x0, x1, x2, x3, x4, x5⟩, y0, y1, y2, y3, y4, y5⟩ := Q.out _ hz
  go_region_held3 (fun X => X.cell? ⟨w.heap.size, 0, none⟩ = some (.string S) ∧ X.cell? ⟨w.heap.size + 1 + 1 + 1 + 1, 0, none⟩ = some (.int .i64 (j : Int)) ∧ X.cell? ⟨w.heap.size + 1, 0, none⟩ = some (.int .u8 (ha.k.toNat : Int)) ∧ X.cell? ⟨w.heap.size + 1, 1, none⟩ = some (.int .u64 (ha.s.a.toNat : Int)) ∧ X.cell? ⟨w.heap.size + 1, 2, none⟩ = some (.int .u64 (ha.s.b.toNat : Int)) ∧ X.cell? ⟨w.heap.size + 1, 3, none⟩ = some (.int .u64 (ha.s.c.toNat : Int)) ∧ X.cell? ⟨w.heap.size + 1, 4, none⟩ = some (.int .u64 (ha.s.d.toNat : Int)) ∧ X.cell? ⟨w.heap.size + 1, 5, none⟩ = some (.slice Aa ka.length ca))
    ((refine (fun h => ⟨h.1, h.2.2.1, h.2.2.2.1⟩) (Q.out _ ?_); (repeat (first | with_reducible exact hz | with_reducible refine Below.drew ?_ | with_reducible refine below_new ?_ _))))
    (first
      | (go_at_call 71; (with_reducible refine Calls.mono (HEN.out _ ?h1) ?_); (case h1 => (repeat (first | with_reducible exact hz | with_reducible refine Below.drew ?_ | with_reducible refine below_new ?_ _))); rintro e we ⟨Ae, ce, L, rfl, hLl, hLs, hLm, hLr, hbe⟩; have HLR := Lib.hid hLr; have HLS := Lib.hid hLs; have HLM := Lib.hid hLm; clear hLr hLs hLm; have hz : Below W.heap.size W we := below_from (by (repeat (first | with_reducible exact hz | with_reducible refine Below.drew ?_ | with_reducible refine below_new ?_ _))) hbe; have HZE := Lib.hid (Below.refl we.heap.size we))
      | (go_at_call 84; (with_reducible refine Calls.mono (backI_any _ _ _ _) ?_); rintro e wb ⟨Bs, rfl, hcs, hbb⟩; have HCS := Lib.hid hcs; have hzb : Below we.heap.size we wb := below_from (by (have hz := HZE.out; (repeat (first | with_reducible exact hz | with_reducible refine Below.drew ?_ | with_reducible refine below_new ?_ _)))) hbb; have hz : Below W.heap.size W wb := below_from hz hzb; have HRB := Lib.hid (HLR.out.below hzb))
      | fail)
  have HZ := Lib.hid hz
  have hzz := hz
  obtain ⟨q6, q10, q11, ⟨r0, r1, r2, r3, r4, r5⟩, s0, s1, s2, s3, s4, s5⟩ := Q.out _ hz
  clear p6 p10 p11 x0 x1 x2 x3 x4 x5 y0 y1 y2 y3 y4 y5 hbe hcs hbb hzb hz q6 q10 q11 r0 r1 r2 r3 r4 r5 s0 s1 s2 s3 s4 s5
  go_wp2_with fail
  have HNN : Hid (w.heap.size + 6 ≤ wb.heap.size) := by have h1 := HSW.out; have h2 := HZ.out.size; unfold Hid; omega
  have hE12 : Hid (∀ X, Below wb.heap.size wb X → X.heap[w.heap.size + 1 + 1 + 1 + 1 + 1]? = some (.cells #[.int .i64 0] 3 (0, 0))) := fun X hX => (hX.block _ (by have := HNN.out; omega)).trans ((HZ.out.block _ (lt_of_block E12.out)).trans E12.out)
  refine (wpIn_wide (n := 9)).1 ?_
  refine wpIn_rangeFunc_ownF rfl (by omega) (gf := 101) (lb := #[.pointer (some ⟨Bs, 0, none⟩)]) rfl trivial (enters_of Try.func101 (by kernel_rfl) rfl)
    (backI_stops Fence.wide _ trivial rfl (by omega) Bs ce Ae L hLl wb HCS.out HRB.out) belowK_t (belowK_b (Nat.le_refl _)) (Below.refl _ _) (fun _ => rfl)
    (fun pre X => Below wb.heap.size wb X ∧ ∀ y, y ∈ pre → ¬ CutG (.mk hb kb) S.data.toList lo j y.1.1)
    (fun cc pre X => (cc = .ret ∧ ∃ (rest : List (IE L)) (x : IE L), pre = rest ++ [x] ∧ (∀ y, y ∈ rest → ¬ CutG (.mk hb kb) S.data.toList lo j y.1.1) ∧ CutG (.mk hb kb) S.data.toList lo j x.1.1 ∧ X.cell? ⟨w.heap.size + 1 + 1 + 1 + 1 + 1, 0, none⟩ = some (.int .i64 (x.1.1 : Int))) ∧ Below w.heap.size w X)
    (OwnFrom.and (ownFrom_below (Nat.le_refl _) (Nat.le_refl _)) (fun s A B row hs _ _ => hs))
    (fun cc => OwnFrom.and (fun s A B row hs hg hr => by obtain ⟨h1, rest, x, h2, h3, h4, h5⟩ := hs; exact ⟨h1, rest, x, h2, h3, h4, cell_kept h5 hg (fun r e => (hr r e).2)⟩) (ownFrom_below (Nat.le_refl _) (by have := HNN.out; omega)))
    ⟨Below.refl _ _, fun y hy => by simp at hy⟩
    (fun x => { tmps := #[.agg #[.string S], reV ha Aa ka.length ca, reV hb Ab kb.length cb, .int .i64 (i : Nat), .int .i64 (lo : Nat), .int .i64 (j : Nat), .pointer (some ⟨w.heap.size, 0, none⟩), .pointer (some ⟨w.heap.size + 1, 0, none⟩), .pointer (some ⟨w.heap.size + 1 + 1, 0, none⟩), undef,
      .pointer (some ⟨w.heap.size + 1 + 1 + 1, 0, none⟩), .pointer (some ⟨w.heap.size + 1 + 1 + 1 + 1, 0, none⟩), .pointer (some ⟨w.heap.size + 1 + 1 + 1 + 1 + 1, 0, none⟩), undef, .int .i64 (x.1.1 : Int), reV ha Aa ka.length ca, .pointer (some ⟨w.heap.size, 0, none⟩), .string S, .int .i64 (j : Nat), .string (S.extract 0 j), .int .i64 (i : Nat), .slice Ae L.length ce,
      .func (.func 101) #[] #[.pointer (some ⟨Bs, 0, none⟩)], .int .i64 (x.1.2 : Int), .int .i64 (x.1.1 : Int), undef, undef, undef, undef, undef, undef, undef, undef, undef, undef, undef], defers := [] }) ?assign ?body ?done ?stop
  case assign =>
    intro l x X K hK
    gi_wp2
    exact hK
  case body =>
    rintro l pre x X ⟨hX, hn⟩ _
    have hXW := below_from HZ.out hX
    obtain ⟨q6, q10, q11, ⟨r0, r1, r2, r3, r4, r5⟩, s0, s1, s2, s3, s4, s5⟩ := Q.out _ hXW
    have hv := ((HLM.out _).1 (intsE_mem x)).1
    obtain ⟨v, hvx⟩ : ∃ v, x.1.1 = v := ⟨_, rfl⟩
    rw [hvx] at hv ⊢
    have HFX := Lib.hid (HFB.out v X hv hXW)
    have HV := Lib.hid hvx
    have HNP := Lib.hid hn
    have HXX := Lib.hid hX
    clear hvx hn r0 r1 r2 r3 r4 r5 hv
    by_cases hlo : lo ≤ v
    · have gd : decide ((v : Int) ≥ (lo : Int)) = true := by simp; omega
      rcases hfb : fitB (.mk hb kb) (sub S.data.toList v j) with _ | _
      · rw [hfb] at HFX
        have HNO := Lib.hid (fitB_false.1 hfb)
        clear hfb
        gi_wp2_with (refine ⟨trivial, ?_⟩; gi_at_call 61; refine (CallsIn.inRound l (callsIn_wide.2 HFX.out)).mono ?_; rintro e w2 ⟨rfl, hb2⟩)
        refine ⟨keepsO_below hb2, ?_, ?_, ?_⟩
        · exact hb2.mono HXX.out.size
        · exact below_from HXX.out hb2
        · intro y hy hg
          rcases List.mem_append.1 hy with h | h
          · exact HNP.out y h hg
          · rw [List.mem_singleton] at h
            subst h
            rw [HV.out] at hg
            exact HNO.out hg.2
      · rw [hfb] at HFX
        have HYES := Lib.hid (fitB_true.1 hfb)
        clear hfb
        have HC12 := Lib.hid (hE12.out)
        gi_wp2_with (refine ⟨trivial, ?_⟩; gi_at_call 61; refine (CallsIn.inRound l (callsIn_wide.2 HFX.out)).mono ?_; rintro e w2 ⟨rfl, hb2⟩; have hc12 := cell_of_one (HC12.out w2 (below_from HXX.out hb2)); have hf12 := (cell_of_box_c (HC12.out w2 (below_from HXX.out hb2))).2)
        have hw2 : Below w.heap.size w w2 := below_from HB.out (below_from HZ.out (below_from HXX.out hb2))
        refine ⟨(keepsO_below hb2).trans (KeepsOthers.setCell _ _ _), ⟨rfl, pre, x, rfl, HNP.out, by rw [HV.out]; exact ⟨hlo, HYES.out⟩, by rw [HV.out]; exact World.cell?_setCell_same' _ _ _ (by rw [hc12]; rfl)⟩, hw2.setCell (p := ⟨w.heap.size + 1 + 1 + 1 + 1 + 1, 0, none⟩) (by show w.heap.size ≤ w.heap.size + 1 + 1 + 1 + 1 + 1; omega) _⟩
    · have gd : decide ((v : Int) ≥ (lo : Int)) = false := by simp; omega
      clear HFX
      gi_wp2
      refine ⟨trivial, ?_⟩
      gi_wp2
      refine ⟨KeepsOthers.refl _, Below.refl _ _, HXX.out, ?_⟩
      intro y hy hg
      rcases List.mem_append.1 hy with h | h
      · exact HNP.out y h hg
      · rw [List.mem_singleton] at h
        subst h
        rw [HV.out] at hg
        exact hlo hg.1
  case done =>
    rintro D ys X hD rfl ⟨hX, hn⟩ hK
    obtain ⟨hc12, hf12⟩ := cell_of_box_c (hE12.out X hX)
    have HP := Lib.hid (cut_done (b := .mk hb kb) (lo := lo) HLM.out hn)
    have HX := Lib.hid hX
    clear hX hn
    go_wp2_with fail
    have hDn : D ≠ w.heap.size + 1 + 1 + 1 + 1 + 1 := by have := HNN.out; omega
    have hK' := (KeepsOthers.setCell X ⟨w.heap.size + 1 + 1 + 1 + 1 + 1, 0, none⟩ (.int .i64 (-1))).same D _ hK rfl
    refine ⟨by simp, .inl ⟨_, _, rfl, run_takeDeferred hK', ?_⟩⟩
    have hg := grownBy_putObj' (X.setCell ⟨w.heap.size + 1 + 1 + 1 + 1 + 1, 0, none⟩ (.int .i64 (-1))) D (.deferred none)
    have hc5 := cell_kept (World.cell?_setCell_same' X ⟨w.heap.size + 1 + 1 + 1 + 1 + 1, 0, none⟩ (.int .i64 (-1)) (by rw [hc12]; rfl)) hg (fun r e => by cases e; exact ⟨_, hK', rfl⟩)
    have hwX : Below w.heap.size w (X.setCell ⟨w.heap.size + 1 + 1 + 1 + 1 + 1, 0, none⟩ (.int .i64 (-1))) := (below_from HB.out (below_from HZ.out HX.out)).setCell (p := ⟨w.heap.size + 1 + 1 + 1 + 1 + 1, 0, none⟩) (by show w.heap.size ≤ w.heap.size + 1 + 1 + 1 + 1 + 1; omega) _
    refine ⟨.int .i64 (-1), by simp [results, Try.results62, go_sem, hc5], -1, rfl, HP.out, hwX.grown hg hwX.size (fun k e => by cases e; have := HNN.out; omega)⟩
  case stop =>
    rintro D c pre X hD hpre ⟨⟨rfl, rest, x, rfl, h1, h2, h3⟩, hX⟩ hK
    have HP := Lib.hid (cut_stop HLS.out HLM.out hpre h1 h2)
    gi_wp2
    refine ⟨by simp, .inl ⟨_, _, rfl, run_takeDeferred hK, ?_⟩⟩
    have hg := grownBy_putObj' X D (.deferred none)
    have hc5 := cell_kept h3 hg (fun r e => by cases e; exact ⟨_, hK, rfl⟩)
    refine ⟨.int .i64 (x.1.1 : Int), by simp [results, Try.results62, go_sem, hc5], _, rfl, HP.out, hX.grown hg hX.size (fun k e => by cases e; have := HNN.out; omega)⟩
end Go.Proofs.Yteokbmngebckjaa
namespace Go.Proofs.Yteokbmngebckjaa
open Go.RowKit
set_option linter.unusedVariables false
set_option linter.unusedSimpArgs false

theorem sub_take2 {S : List UInt8} {i j m : Nat} (h : i + m ≤ j) : (sub S i j).take m = sub S i (i + m) := by
  simp only [sub, List.take_take]
  congr 1
  omega
theorem sub_drop2 {S : List UInt8} {i j m : Nat} : (sub S i j).drop m = sub S (i + m) j := by
  simp only [sub, List.drop_take, List.drop_drop]
  congr 1
  omega
theorem cut_nm {p q : List UInt8 → Prop} {S : List UInt8} {i k j : Nat} (hik : i ≤ k) (hkj : k ≤ j) (hj : j ≤ S.length) (h : ∀ k', k < k' → k' ≤ j → ¬ (p (sub S i k') ∧ q (sub S k' j))) : NoMore p q (sub S i k) (sub S k j) := by
  have hl : (sub S i j).length = j - i := sub_len hj
  have := nomore_of (P := p) (Q := q) (S := sub S i j) (n := k - i) (by rw [hl]; omega) (fun m h1 h2 => by
    rw [hl] at h2
    rw [sub_take2 (by omega), sub_drop2]
    exact h _ (by omega) (by omega))
  rw [sub_take2 (by omega), sub_drop2, show i + (k - i) = k by omega] at this
  exact this
/-- the text's box, an expression's box, a value's box -/
theorem pkva_pre (w : World) (S : ByteArray) (h : RH) (A : Option Addr) (n c : Nat) : ∃ W, ((w.alloc (.cells #[.string S] 70)).alloc (.cells (reA h A n c) 34)).alloc (.cells vaZ 24) = W ∧ Below w.heap.size w W ∧ W.heap.size = w.heap.size + 1 + 1 + 1 ∧ W.heap[w.heap.size]? = some (.cells #[.string S] 70 (0, 0)) ∧ W.heap[w.heap.size + 1]? = some (.cells (reA h A n c) 34 (0, 0)) ∧ W.heap[w.heap.size + 1 + 1]? = some (.cells vaZ 24 (0, 0)) := by
  refine ⟨_, rfl, below_new (below_new (below_new (Below.refl _ _) _) _) _, by simp, heap_keep (heap_keep (new_at1 _) _) _, ?_, ?_⟩
  · have := new_at1 (w := w.alloc (.cells #[.string S] 70)) (.cells (reA h A n c) 34)
    rw [World.size_alloc] at this
    exact heap_keep this _
  · have := new_at1 (w := (w.alloc (.cells #[.string S] 70)).alloc (.cells (reA h A n c) 34)) (.cells vaZ 24)
    simp only [World.size_alloc] at this
    exact this
def PkOk (h : RH) (ks : List Re) : Prop := ∀ (P : Nat → Prop) (A : Option Addr) (c : Nat) (S : ByteArray) (i j : Nat) (w : World), ks.length ≤ c → InRow RE P w ks A 0 → S.size ≤ 100 → i ≤ j → j ≤ S.size → LT (.mk h ks) (sub S.data.toList i j) →
  Calls Try.prog 40 #[.agg #[.string S], reV h A ks.length c, .int .i64 (i : Nat), .int .i64 (j : Nat)] w (RtPost (.mk h ks) (sub S.data.toList i j) w)
def PkOkT (t : Re) : Prop := ∀ h ks, t = .mk h ks → mayB t = true → PkOk h ks
set_option maxRecDepth 100000 in
set_option maxHeartbeats 4000000 in
theorem pk_eps : PkOkT rEps := by
  rintro h ks e hmy P A c S i j w hc hr hS hij hj hl
  cases e
  rw [LT_eps] at hl
  have HRV : Hid (RV rEps (sub S.data.toList i j) (.mk ⟨1, 0⟩ [])) := by unfold Hid; rw [hl]; exact .eps
  obtain ⟨hh, hhh⟩ : ∃ hh : RH, hh = ⟨2, S4.zero⟩ := ⟨_, rfl⟩
  have g3 : ((hh.k.toNat : Int) == 3) = false := by rw [hhh]; rfl
  have g5 : ((hh.k.toNat : Int) == 5) = false := by rw [hhh]; rfl
  have g4 : ((hh.k.toNat : Int) == 4) = false := by rw [hhh]; rfl
  have g6 : ((hh.k.toNat : Int) == 6) = false := by rw [hhh]; rfl
  rw [show reV ⟨2, S4.zero⟩ A ([] : List Re).length c = reV hh A 0 c by rw [hhh]; rfl]
  clear hhh
  obtain ⟨W, hW, hbW, hsW, e0W, e1W, e2W⟩ := pkva_pre w S hh A 0 c
  have HE := Lib.hid hW
  have HBW := Lib.hid hbW
  have HSW := Lib.hid hsW
  have E0 := Lib.hid e0W
  have E1 := Lib.hid e1W
  have E2 := Lib.hid e2W
  clear hW hbW e0W e1W e2W hr hsW hl
  go_enter Try.func40, Try.ntmps40
  go_upto_region 1 with fail
  rw [show ((w.alloc _).alloc _).alloc _ = W from HE.out]
  obtain ⟨x0, x1, x2, x3, x4, x5⟩ := re_at_box E1.out
  obtain ⟨⟨y0, y1, y2⟩, f0, f1, f2⟩ := va_cells E2.out
  go_wp2_with fail
  refine bodyPost_ret (v := vaV ⟨1, 0⟩ none 0 0) (by simp [results, Try.results40, go_sem, y0, y1, y2]; try exact ⟨rfl, rfl, rfl⟩) rfl ⟨⟨1, 0⟩, [], none, 0, rfl, HRV.out, Nat.le_refl _, by simp [InRow], three_below HBW.out (by omega)⟩
set_option maxRecDepth 100000 in
set_option maxHeartbeats 4000000 in
theorem pk_cls (Z : S4) : PkOkT (rCls Z) := by
  rintro h ks e hmy P A c S i j w hc hr hS hij hj hl
  cases e
  obtain ⟨b, hl1, hb⟩ := (LT_cls _ _).1 hl
  have HRV : Hid (RV (rCls Z) (sub S.data.toList i j) (.mk ⟨2, b⟩ [])) := by unfold Hid; rw [hl1]; exact .cls Z b hb
  have hlen : (sub S.data.toList i j).length = j - i := sub_len (by rw [sl_]; exact hj)
  rw [hl1] at hlen
  have hji : j = i + 1 := by simp at hlen; omega
  have hlt : i < S.size := by omega
  have hcb : S[i]'hlt = b := by
    have h2 : S.data.toList[i]? = some (S[i]'hlt) := by rw [List.getElem?_eq_getElem (by rw [sl_]; exact hlt)]; rfl
    have h3 := sub_one h2
    rw [← hji, hl1] at h3
    exact ((List.cons.inj h3).1).symm
  have ea : ((S[i]'hlt).toNat : Int) = (b.toNat : Int) := by rw [hcb]
  have hl1' : ¬ ((S.size : Int) < 1) := by omega
  have hi0 : ¬ ((i : Int) < 0) := by omega
  have his : (i : Int) < (S.size : Int) := by omega
  have his2 : ¬ ((S.size : Int) ≤ (i : Int)) := by omega
  obtain ⟨hh, hhh⟩ : ∃ hh : RH, hh = ⟨3, Z⟩ := ⟨_, rfl⟩
  have g3 : ((hh.k.toNat : Int) == 3) = true := by rw [hhh]; rfl
  rw [show reV ⟨3, Z⟩ A ([] : List Re).length c = reV hh A 0 c by rw [hhh]; rfl]
  clear hhh
  obtain ⟨W, hW, hbW, hsW, e0W, e1W, e2W⟩ := pkva_pre w S hh A 0 c
  have HE := Lib.hid hW
  have HBW := Lib.hid hbW
  have HSW := Lib.hid hsW
  have E0 := Lib.hid e0W
  have E1 := Lib.hid e1W
  have E2 := Lib.hid e2W
  clear hW hbW e0W e1W e2W hr hsW hl hl1 hcb hb hlen hji
  go_enter Try.func40, Try.ntmps40
  go_upto_region 1 with fail
  rw [show ((w.alloc _).alloc _).alloc _ = W from HE.out]
  obtain ⟨x0, x1, x2, x3, x4, x5⟩ := re_at_box E1.out
  obtain ⟨⟨y0, y1, y2⟩, f0, f1, f2⟩ := va_cells E2.out
  have p0 := cell_of_one E0.out
  go_wp2_with fail
  refine bodyPost_ret (v := vaV ⟨2, b⟩ none 0 0) (by simp [results, Try.results40, go_sem, y0, y1, y2]; try exact ⟨rfl, rfl, rfl⟩) rfl ⟨⟨2, b⟩, [], none, 0, rfl, HRV.out, Nat.le_refl _, by simp [InRow], three_below HBW.out (by omega)⟩
set_option maxRecDepth 100000 in
set_option maxHeartbeats 16000000 in
theorem pk_alt_ {hx : RH} {kx : List Re} {hy : RH} {ky : List Re} (mx : mayB (.mk hx kx) = true) (px : PkOk hx kx) (py : PkOk hy ky) : PkOk ⟨5, S4.zero⟩ [.mk hx kx, .mk hy ky] := by
  intro P A c S i j w hc hr hS hij hj hl
  rw [LT_alt] at hl
  have hszx := (may_iff.1 mx).2
  simp only [T.size] at hszx
  obtain ⟨hh, hhh⟩ : ∃ hh : RH, hh = ⟨5, S4.zero⟩ := ⟨_, rfl⟩
  have g3 : ((hh.k.toNat : Int) == 3) = false := by rw [hhh]; rfl
  have g5 : ((hh.k.toNat : Int) == 5) = true := by rw [hhh]; rfl
  rw [show reV ⟨5, S4.zero⟩ A ([.mk hx kx, .mk hy ky] : List Re).length c = reV hh A 2 c by rw [hhh]; rfl]
  clear hhh
  obtain ⟨W, hW, hbW, hsW, e0W, e1W, e2W⟩ := pkva_pre w S hh A 2 c
  have HE := Lib.hid hW
  have HBW := Lib.hid hbW
  have HSW := Lib.hid hsW
  have E0 := Lib.hid e0W
  have E1 := Lib.hid e1W
  have E2 := Lib.hid e2W
  obtain ⟨ad, A1, c1, hA, hc1, hr1, u0, u1, u2, u3, u4, u5⟩ := kid0N (hr.below hbW)
  subst hA
  obtain ⟨ad', A2, c2, hA2, hc2, hr2, v0, v1, v2, v3, v4, v5⟩ := kid1N (hr.below hbW)
  obtain rfl := Option.some.inj hA2
  have HF : Hid (∀ X, Below W.heap.size W X → Calls Try.prog 61 #[.agg #[.string S], reV hx A1 kx.length c1, .int .i64 (i : Nat), .int .i64 (j : Nat)] X fun e w' => e = .returned (.bool (fitB (.mk hx kx) (sub S.data.toList i j))) ∧ Below X.heap.size X w') := fun X hX => by
    have := pfits_any hx kx A1 c1 S i j X (by omega) hc1 (hr1.below hX) hS hij hj
    rw [mx, Bool.true_and] at this
    exact this
  have HX : Hid (LT (.mk hx kx) (sub S.data.toList i j) → ∀ X, Below W.heap.size W X → Calls Try.prog 40 #[.agg #[.string S], reV hx A1 kx.length c1, .int .i64 (i : Nat), .int .i64 (j : Nat)] X (RtPost (.mk hx kx) (sub S.data.toList i j) X)) := fun hl X hX => px _ A1 c1 S i j X hc1 (hr1.below hX) hS hij hj hl
  have HY : Hid (LT (.mk hy ky) (sub S.data.toList i j) → ∀ X, Below W.heap.size W X → Calls Try.prog 40 #[.agg #[.string S], reV hy A2 ky.length c2, .int .i64 (i : Nat), .int .i64 (j : Nat)] X (RtPost (.mk hy ky) (sub S.data.toList i j) X)) := fun hl X hX => py _ A2 c2 S i j X hc2 (hr2.below hX) hS hij hj hl
  have Q : Hid (∀ X, Below W.heap.size W X → X.cell? ⟨w.heap.size, 0, none⟩ = some (.string S) ∧ X.cell? ⟨w.heap.size + 1, 5, none⟩ = some (.slice (some ad) 2 c) ∧ (X.cell? ad = some (.int .u8 (hx.k.toNat : Int)) ∧ X.cell? ⟨ad.block, ad.off + 1, none⟩ = some (.int .u64 (hx.s.a.toNat : Int)) ∧ X.cell? ⟨ad.block, ad.off + 2, none⟩ = some (.int .u64 (hx.s.b.toNat : Int)) ∧ X.cell? ⟨ad.block, ad.off + 3, none⟩ = some (.int .u64 (hx.s.c.toNat : Int)) ∧ X.cell? ⟨ad.block, ad.off + 4, none⟩ = some (.int .u64 (hx.s.d.toNat : Int)) ∧ X.cell? ⟨ad.block, ad.off + 5, none⟩ = some (.slice A1 kx.length c1)) ∧ (X.cell? ⟨ad.block, ad.off + 6, none⟩ = some (.int .u8 (hy.k.toNat : Int)) ∧ X.cell? ⟨ad.block, ad.off + 6 + 1, none⟩ = some (.int .u64 (hy.s.a.toNat : Int)) ∧ X.cell? ⟨ad.block, ad.off + 6 + 2, none⟩ = some (.int .u64 (hy.s.b.toNat : Int)) ∧ X.cell? ⟨ad.block, ad.off + 6 + 3, none⟩ = some (.int .u64 (hy.s.c.toNat : Int)) ∧ X.cell? ⟨ad.block, ad.off + 6 + 4, none⟩ = some (.int .u64 (hy.s.d.toNat : Int)) ∧ X.cell? ⟨ad.block, ad.off + 6 + 5, none⟩ = some (.slice A2 ky.length c2))) := fun X hX => by
    obtain ⟨_, _, _, _, _, a5⟩ := re_at_box ((hX.block _ (lt_of_block e1W)).trans e1W)
    exact ⟨cell_of_one ((hX.block _ (lt_of_block e0W)).trans e0W), a5, ⟨keep_cell hX u0, keep_cell hX u1, keep_cell hX u2, keep_cell hX u3, keep_cell hX u4, keep_cell hX u5⟩, keep_cell hX v0, keep_cell hX v1, keep_cell hX v2, keep_cell hX v3, keep_cell hX v4, keep_cell hX v5⟩
  have HL := Lib.hid hl
  clear hW hbW e0W e1W e2W hr hsW hl hr1 hr2 u0 u1 u2 u3 u4 u5 v0 v1 v2 v3 v4 v5 px py
  go_enter Try.func40, Try.ntmps40
  go_upto_region 1 with fail
  rw [show ((w.alloc _).alloc _).alloc _ = W from HE.out]
  obtain ⟨x0, x1, x2, x3, x4, x5⟩ := re_at_box E1.out
  go_upto_region 5 with fail
  clear x0 x1 x2 x3 x4 x5
  have hz := Below.refl W.heap.size W
  obtain ⟨p0, x5, ⟨u0, u1, u2, u3, u4, u5⟩, v0, v1, v2, v3, v4, v5⟩ := Q.out _ hz
  rcases hfb : fitB (.mk hx kx) (sub S.data.toList i j) with _ | _
  · rw [hfb] at HF
    have HCC : Hid (∀ X, Below W.heap.size W X → Calls Try.prog 40 #[.agg #[.string S], reV hy A2 ky.length c2, .int .i64 (i : Nat), .int .i64 (j : Nat)] X (RtPost (.mk hy ky) (sub S.data.toList i j) X)) := HY.out (HL.out.resolve_left (fitB_false.1 hfb))
    have HNO := Lib.hid (fitB_false.1 hfb)
    clear hfb HX HY HL
    go_region_held3 (fun X => X.cell? ⟨w.heap.size, 0, none⟩ = some (.string S) ∧ X.cell? ⟨w.heap.size + 1, 5, none⟩ = some (.slice (some ad) 2 c) ∧ (X.cell? ad = some (.int .u8 (hx.k.toNat : Int)) ∧ X.cell? ⟨ad.block, ad.off + 1, none⟩ = some (.int .u64 (hx.s.a.toNat : Int)) ∧ X.cell? ⟨ad.block, ad.off + 2, none⟩ = some (.int .u64 (hx.s.b.toNat : Int)) ∧ X.cell? ⟨ad.block, ad.off + 3, none⟩ = some (.int .u64 (hx.s.c.toNat : Int)) ∧ X.cell? ⟨ad.block, ad.off + 4, none⟩ = some (.int .u64 (hx.s.d.toNat : Int)) ∧ X.cell? ⟨ad.block, ad.off + 5, none⟩ = some (.slice A1 kx.length c1)))
      ((refine (fun h => ⟨h.1, h.2.1, h.2.2.1⟩) (Q.out _ ?_); (repeat (first | with_reducible exact hz | with_reducible refine Below.drew ?_ | with_reducible refine below_new ?_ _))))
      (first
        | (go_at_call 61; (with_reducible refine Calls.mono (HF.out _ ?h1) ?_); (case h1 => (repeat (first | with_reducible exact hz | with_reducible refine Below.drew ?_ | with_reducible refine below_new ?_ _))); rintro e w1 ⟨rfl, hb1⟩; have hz : Below W.heap.size W w1 := below_from (by (repeat (first | with_reducible exact hz | with_reducible refine Below.drew ?_ | with_reducible refine below_new ?_ _))) hb1)
        | fail)
    obtain ⟨wq, rfl⟩ : ∃ x, x = w1 := ⟨_, rfl⟩
    have HB2 := Lib.hid hz
    obtain ⟨p0, x5, ⟨u0, u1, u2, u3, u4, u5⟩, v0, v1, v2, v3, v4, v5⟩ := Q.out _ hz
    have E2q := Lib.hid ((HB2.out.block _ (lt_of_block E2.out)).trans E2.out)
    have Q2 : Hid (∀ X, Below wq.heap.size wq X → X.cell? ⟨w.heap.size, 0, none⟩ = some (.string S) ∧ X.cell? ⟨w.heap.size + 1, 5, none⟩ = some (.slice (some ad) 2 c) ∧ (X.cell? ad = some (.int .u8 (hx.k.toNat : Int)) ∧ X.cell? ⟨ad.block, ad.off + 1, none⟩ = some (.int .u64 (hx.s.a.toNat : Int)) ∧ X.cell? ⟨ad.block, ad.off + 2, none⟩ = some (.int .u64 (hx.s.b.toNat : Int)) ∧ X.cell? ⟨ad.block, ad.off + 3, none⟩ = some (.int .u64 (hx.s.c.toNat : Int)) ∧ X.cell? ⟨ad.block, ad.off + 4, none⟩ = some (.int .u64 (hx.s.d.toNat : Int)) ∧ X.cell? ⟨ad.block, ad.off + 5, none⟩ = some (.slice A1 kx.length c1)) ∧ (X.cell? ⟨ad.block, ad.off + 6, none⟩ = some (.int .u8 (hy.k.toNat : Int)) ∧ X.cell? ⟨ad.block, ad.off + 6 + 1, none⟩ = some (.int .u64 (hy.s.a.toNat : Int)) ∧ X.cell? ⟨ad.block, ad.off + 6 + 2, none⟩ = some (.int .u64 (hy.s.b.toNat : Int)) ∧ X.cell? ⟨ad.block, ad.off + 6 + 3, none⟩ = some (.int .u64 (hy.s.c.toNat : Int)) ∧ X.cell? ⟨ad.block, ad.off + 6 + 4, none⟩ = some (.int .u64 (hy.s.d.toNat : Int)) ∧ X.cell? ⟨ad.block, ad.off + 6 + 5, none⟩ = some (.slice A2 ky.length c2))) := fun X hX => Q.out X (below_from HB2.out hX)
    have CX : Hid (∀ X, Below wq.heap.size wq X → Calls Try.prog 40 #[.agg #[.string S], reV hy A2 ky.length c2, .int .i64 (i : Nat), .int .i64 (j : Nat)] X (RtPost (.mk hy ky) (sub S.data.toList i j) X)) := fun X hX => HCC.out X (below_from HB2.out hX)
    clear hz hb1 Q HCC HF
    go_upto_region 7 with fail
    have hz := Below.refl wq.heap.size wq
    have ENTRY := Lib.hid True.intro
    go_region_law
      (first
        | (go_simp; go_at_call 40; (with_reducible refine (CX.out _ (by first | exact hz.drew | exact hz | fail)).mono ?_); rintro e w2 ⟨hn, kn, An, cn, rfl, hv, hcn, hrn, hb2⟩; have hz := below_from (by first | exact hz.drew | exact hz | fail) hb2; obtain ⟨p0, x5, ⟨u0, u1, u2, u3, u4, u5⟩, v0, v1, v2, v3, v4, v5⟩ := Q2.out _ hz; have E22 := Lib.hid ((hz.block _ (lt_of_block E2q.out)).trans E2q.out); obtain ⟨⟨y0, y1, y2⟩, f0, f1, f2⟩ := va_cells E22.out; have y0a := fun ob => (va_cells (heap_keep1 E22.out ob)).1.1; have y1a := fun ob => (va_cells (heap_keep1 E22.out ob)).1.2.1; have y2a := fun ob => (va_cells (heap_keep1 E22.out ob)).1.2.2; have f0a := fun ob => (va_cells (heap_keep1 E22.out ob)).2.1; have f1a := fun ob => (va_cells (heap_keep1 E22.out ob)).2.2.1; have f2a := fun ob => (va_cells (heap_keep1 E22.out ob)).2.2.2)
        | fail)
    all_goals
      have hsw := HSW.out
      have hsq := HB2.out.size
      have hszz := hz.size
      have hszb := hb2.size
      have hbox := new_at1 (w := w2) (.cells (vaA hn An kn.length cn) 24)
      have hnb := below_new (Below.refl w2.heap.size w2) (.cells (vaA hn An kn.length cn) 24)
      have hrn3 := (hrn.weak (ok' := fun x => w.heap.size + 1 + 1 + 1 ≤ x) (fun x hx => by have hx' : wq.heap.size ≤ x := hx; omega)).below hnb
      have HROW := Lib.hid (va_one (P := fun x => w.heap.size + 1 + 1 + 1 ≤ x) hbox (by omega) hcn hrn3)
      have HV := Lib.hid hv
      have HB3 := Lib.hid (below_from HBW.out (below_from HB2.out (below_from hz hnb)))
      have hsiz : (w2.alloc (.cells (vaA hn An kn.length cn) 24)).heap.size = w2.heap.size + 1 := by simp
      clear hrn3 hbox hnb hrn hb2 hz p0 x5 u0 u1 u2 u3 u4 u5 v0 v1 v2 v3 v4 v5 CX Q2 hv
      go_wp2_with fail
      refine bodyPost_ret (v := vaV ⟨5, 0⟩ (some ⟨w2.heap.size, 0, none⟩) 1 1) (by simp [results, Try.results40, go_sem, y0a, y1a, y2a]; try exact ⟨rfl, rfl, rfl⟩) rfl ⟨⟨5, 0⟩, [.mk hn kn], some ⟨w2.heap.size, 0, none⟩, 1, rfl, .right _ _ _ _ HNO.out HV.out, Nat.le_refl _, (row_three HROW.out fun x hx => by omega).weak fun x hx => by omega, three_below HB3.out (by omega)⟩
  · rw [hfb] at HF
    have HCC : Hid (∀ X, Below W.heap.size W X → Calls Try.prog 40 #[.agg #[.string S], reV hx A1 kx.length c1, .int .i64 (i : Nat), .int .i64 (j : Nat)] X (RtPost (.mk hx kx) (sub S.data.toList i j) X)) := HX.out (fitB_true.1 hfb)
    clear hfb HX HY HL
    go_region_held3 (fun X => X.cell? ⟨w.heap.size, 0, none⟩ = some (.string S) ∧ X.cell? ⟨w.heap.size + 1, 5, none⟩ = some (.slice (some ad) 2 c) ∧ (X.cell? ad = some (.int .u8 (hx.k.toNat : Int)) ∧ X.cell? ⟨ad.block, ad.off + 1, none⟩ = some (.int .u64 (hx.s.a.toNat : Int)) ∧ X.cell? ⟨ad.block, ad.off + 2, none⟩ = some (.int .u64 (hx.s.b.toNat : Int)) ∧ X.cell? ⟨ad.block, ad.off + 3, none⟩ = some (.int .u64 (hx.s.c.toNat : Int)) ∧ X.cell? ⟨ad.block, ad.off + 4, none⟩ = some (.int .u64 (hx.s.d.toNat : Int)) ∧ X.cell? ⟨ad.block, ad.off + 5, none⟩ = some (.slice A1 kx.length c1)))
      ((refine (fun h => ⟨h.1, h.2.1, h.2.2.1⟩) (Q.out _ ?_); (repeat (first | with_reducible exact hz | with_reducible refine Below.drew ?_ | with_reducible refine below_new ?_ _))))
      (first
        | (go_at_call 61; (with_reducible refine Calls.mono (HF.out _ ?h1) ?_); (case h1 => (repeat (first | with_reducible exact hz | with_reducible refine Below.drew ?_ | with_reducible refine below_new ?_ _))); rintro e w1 ⟨rfl, hb1⟩; have hz : Below W.heap.size W w1 := below_from (by (repeat (first | with_reducible exact hz | with_reducible refine Below.drew ?_ | with_reducible refine below_new ?_ _))) hb1)
        | fail)
    obtain ⟨wq, rfl⟩ : ∃ x, x = w1 := ⟨_, rfl⟩
    have HB2 := Lib.hid hz
    obtain ⟨p0, x5, ⟨u0, u1, u2, u3, u4, u5⟩, v0, v1, v2, v3, v4, v5⟩ := Q.out _ hz
    have E2q := Lib.hid ((HB2.out.block _ (lt_of_block E2.out)).trans E2.out)
    have Q2 : Hid (∀ X, Below wq.heap.size wq X → X.cell? ⟨w.heap.size, 0, none⟩ = some (.string S) ∧ X.cell? ⟨w.heap.size + 1, 5, none⟩ = some (.slice (some ad) 2 c) ∧ (X.cell? ad = some (.int .u8 (hx.k.toNat : Int)) ∧ X.cell? ⟨ad.block, ad.off + 1, none⟩ = some (.int .u64 (hx.s.a.toNat : Int)) ∧ X.cell? ⟨ad.block, ad.off + 2, none⟩ = some (.int .u64 (hx.s.b.toNat : Int)) ∧ X.cell? ⟨ad.block, ad.off + 3, none⟩ = some (.int .u64 (hx.s.c.toNat : Int)) ∧ X.cell? ⟨ad.block, ad.off + 4, none⟩ = some (.int .u64 (hx.s.d.toNat : Int)) ∧ X.cell? ⟨ad.block, ad.off + 5, none⟩ = some (.slice A1 kx.length c1)) ∧ (X.cell? ⟨ad.block, ad.off + 6, none⟩ = some (.int .u8 (hy.k.toNat : Int)) ∧ X.cell? ⟨ad.block, ad.off + 6 + 1, none⟩ = some (.int .u64 (hy.s.a.toNat : Int)) ∧ X.cell? ⟨ad.block, ad.off + 6 + 2, none⟩ = some (.int .u64 (hy.s.b.toNat : Int)) ∧ X.cell? ⟨ad.block, ad.off + 6 + 3, none⟩ = some (.int .u64 (hy.s.c.toNat : Int)) ∧ X.cell? ⟨ad.block, ad.off + 6 + 4, none⟩ = some (.int .u64 (hy.s.d.toNat : Int)) ∧ X.cell? ⟨ad.block, ad.off + 6 + 5, none⟩ = some (.slice A2 ky.length c2))) := fun X hX => Q.out X (below_from HB2.out hX)
    have CX : Hid (∀ X, Below wq.heap.size wq X → Calls Try.prog 40 #[.agg #[.string S], reV hx A1 kx.length c1, .int .i64 (i : Nat), .int .i64 (j : Nat)] X (RtPost (.mk hx kx) (sub S.data.toList i j) X)) := fun X hX => HCC.out X (below_from HB2.out hX)
    clear hz hb1 Q HCC HF
    go_upto_region 6 with fail
    have hz := Below.refl wq.heap.size wq
    have ENTRY := Lib.hid True.intro
    go_region_law
      (first
        | (go_simp; go_at_call 40; (with_reducible refine (CX.out _ (by first | exact hz.drew | exact hz | fail)).mono ?_); rintro e w2 ⟨hn, kn, An, cn, rfl, hv, hcn, hrn, hb2⟩; have hz := below_from (by first | exact hz.drew | exact hz | fail) hb2; obtain ⟨p0, x5, ⟨u0, u1, u2, u3, u4, u5⟩, v0, v1, v2, v3, v4, v5⟩ := Q2.out _ hz; have E22 := Lib.hid ((hz.block _ (lt_of_block E2q.out)).trans E2q.out); obtain ⟨⟨y0, y1, y2⟩, f0, f1, f2⟩ := va_cells E22.out; have y0a := fun ob => (va_cells (heap_keep1 E22.out ob)).1.1; have y1a := fun ob => (va_cells (heap_keep1 E22.out ob)).1.2.1; have y2a := fun ob => (va_cells (heap_keep1 E22.out ob)).1.2.2; have f0a := fun ob => (va_cells (heap_keep1 E22.out ob)).2.1; have f1a := fun ob => (va_cells (heap_keep1 E22.out ob)).2.2.1; have f2a := fun ob => (va_cells (heap_keep1 E22.out ob)).2.2.2)
        | fail)
    all_goals
      have hsw := HSW.out
      have hsq := HB2.out.size
      have hszz := hz.size
      have hszb := hb2.size
      have hbox := new_at1 (w := w2) (.cells (vaA hn An kn.length cn) 24)
      have hnb := below_new (Below.refl w2.heap.size w2) (.cells (vaA hn An kn.length cn) 24)
      have hrn3 := (hrn.weak (ok' := fun x => w.heap.size + 1 + 1 + 1 ≤ x) (fun x hx => by have hx' : wq.heap.size ≤ x := hx; omega)).below hnb
      have HROW := Lib.hid (va_one (P := fun x => w.heap.size + 1 + 1 + 1 ≤ x) hbox (by omega) hcn hrn3)
      have HV := Lib.hid hv
      have HB3 := Lib.hid (below_from HBW.out (below_from HB2.out (below_from hz hnb)))
      have hsiz : (w2.alloc (.cells (vaA hn An kn.length cn) 24)).heap.size = w2.heap.size + 1 := by simp
      clear hrn3 hbox hnb hrn hb2 hz p0 x5 u0 u1 u2 u3 u4 u5 v0 v1 v2 v3 v4 v5 CX Q2 hv
      go_wp2_with fail
      refine bodyPost_ret (v := vaV ⟨4, 0⟩ (some ⟨w2.heap.size, 0, none⟩) 1 1) (by simp [results, Try.results40, go_sem, y0a, y1a, y2a]; try exact ⟨rfl, rfl, rfl⟩) rfl ⟨⟨4, 0⟩, [.mk hn kn], some ⟨w2.heap.size, 0, none⟩, 1, rfl, .left _ _ _ _ HV.out, Nat.le_refl _, (row_three HROW.out fun x hx => by omega).weak fun x hx => by omega, three_below HB3.out (by omega)⟩
theorem pk_alt {x y : Re} (px : PkOkT x) (py : PkOkT y) : PkOkT (rAlt x y) := by
  rintro h ks e hmy
  cases e
  obtain ⟨mx, my⟩ := may_two hmy
  obtain ⟨hx, kx⟩ := x
  obtain ⟨hy, ky⟩ := y
  exact pk_alt_ mx (px _ _ rfl mx) (py _ _ rfl my)
end Go.Proofs.Yteokbmngebckjaa
namespace Go.Proofs.Yteokbmngebckjaa
open Go.RowKit
set_option linter.unusedVariables false
set_option linter.unusedSimpArgs false

theorem cut_seq {x y : Re} {S : List UInt8} {i j : Nat} {z : Int} (hij : i ≤ j) (hj : j ≤ S.length) (hl : LT (rSeq x y) (sub S i j)) (h : CutP x y S i i j z) : ∃ k : Nat, z = (k : Int) ∧ i ≤ k ∧ k ≤ j ∧ LT x (sub S i k) ∧ LT y (sub S k j) ∧ NoMore (LT x) (LT y) (sub S i k) (sub S k j) := by
  rcases h with ⟨k, h1, h2, h3, h4, h5, h6, h7⟩ | ⟨_, h⟩
  · exact ⟨k, h1, h2, h4, h5, h6, cut_nm h2 h4 hj h7⟩
  · obtain ⟨u, v, e, h1, h2⟩ := (LT_seq _ _ _).1 hl
    obtain ⟨k, hk1, hk2, rfl, rfl⟩ := sub_split hij hj e
    exact (h k hk1 hk1 hk2 ⟨h1, h2⟩).elim
theorem keptC {w X : World} {b : Nat} {a : Addr} {v : Value} (hk : Kept w b X) (h : w.cell? a = some v) (hne : a.block ≠ b) : X.cell? a = some v :=
  (World.cell?_of_block (hk.block _ (World.block_lt_of_cell? w _ h) (fun e => hne (Option.some.inj e)))).trans h
set_option maxRecDepth 100000 in
set_option maxHeartbeats 16000000 in
theorem pk_seq_ {hx : RH} {kx : List Re} {hy : RH} {ky : List Re} (mx : mayB (.mk hx kx) = true) (my : mayB (.mk hy ky) = true) (px : PkOk hx kx) (py : PkOk hy ky) : PkOk ⟨4, S4.zero⟩ [.mk hx kx, .mk hy ky] := by
  intro P A c S i j w hc hr hS hij hj hl
  have HL := Lib.hid hl
  have HAD0 : Hid (∀ ad : Addr, A = some ad → ad.block ≠ w.heap.size + 1 + 1) := fun ad hA => by
    obtain ⟨ad', _, _, hA', _, _, u0, _⟩ := kid0N hr
    rw [hA] at hA'
    cases hA'
    have := World.block_lt_of_cell? w _ u0
    omega
  obtain ⟨hh, hhh⟩ : ∃ hh : RH, hh = ⟨4, S4.zero⟩ := ⟨_, rfl⟩
  have g3 : ((hh.k.toNat : Int) == 3) = false := by rw [hhh]; rfl
  have g5 : ((hh.k.toNat : Int) == 5) = false := by rw [hhh]; rfl
  have g4 : ((hh.k.toNat : Int) == 4) = true := by rw [hhh]; rfl
  rw [show reV ⟨4, S4.zero⟩ A ([.mk hx kx, .mk hy ky] : List Re).length c = reV hh A 2 c by rw [hhh]; rfl]
  clear hhh
  obtain ⟨W, hW, hbW, hsW, e0W, e1W, e2W⟩ := pkva_pre w S hh A 2 c
  have HE := Lib.hid hW
  have HBW := Lib.hid hbW
  have HSW := Lib.hid hsW
  have E0 := Lib.hid e0W
  have E1 := Lib.hid e1W
  have E2 := Lib.hid e2W
  obtain ⟨ad, A1, c1, hA, hc1, hr1, u0, u1, u2, u3, u4, u5⟩ := kid0N (hr.below hbW)
  subst hA
  obtain ⟨ad', A2, c2, hA2, hc2, hr2, v0, v1, v2, v3, v4, v5⟩ := kid1N (hr.below hbW)
  obtain rfl := Option.some.inj hA2
  have HAD : Hid (ad.block ≠ w.heap.size + 1 + 1) := HAD0.out ad rfl
  clear HAD0
  have HF : Hid (∀ X, Below W.heap.size W X → Calls Try.prog 62 #[.agg #[.string S], reV hx A1 kx.length c1, reV hy A2 ky.length c2, .int .i64 (i : Nat), .int .i64 (i : Nat), .int .i64 (j : Nat)] X fun e w' => ∃ k : Nat, e = .returned (.int .i64 (k : Nat)) ∧ i ≤ k ∧ k ≤ j ∧ LT (.mk hx kx) (sub S.data.toList i k) ∧ LT (.mk hy ky) (sub S.data.toList k j) ∧ NoMore (LT (.mk hx kx)) (LT (.mk hy ky)) (sub S.data.toList i k) (sub S.data.toList k j) ∧ Below X.heap.size X w') := fun X hX =>
    (cut_any hx kx A1 c1 hy ky A2 c2 S i i j X mx my hc1 (hr1.below hX) hc2 (hr2.below hX) hS hij hj).mono fun e w' ⟨z, he, hz, hb⟩ => by
      obtain ⟨k, rfl, h1, h2, h3, h4, h5⟩ := cut_seq hij (by rw [sl_]; exact hj) hl hz
      exact ⟨k, he, h1, h2, h3, h4, h5, hb⟩
  have HX : Hid (∀ k X, i ≤ k → k ≤ j → LT (.mk hx kx) (sub S.data.toList i k) → Below W.heap.size W X → Calls Try.prog 40 #[.agg #[.string S], reV hx A1 kx.length c1, .int .i64 (i : Nat), .int .i64 (k : Nat)] X (RtPost (.mk hx kx) (sub S.data.toList i k) X)) := fun k X h1 h2 hl hX => px _ A1 c1 S i k X hc1 (hr1.below hX) hS h1 (by omega) hl
  have HY : Hid (∀ k X, i ≤ k → k ≤ j → LT (.mk hy ky) (sub S.data.toList k j) → Below W.heap.size W X → Calls Try.prog 40 #[.agg #[.string S], reV hy A2 ky.length c2, .int .i64 (k : Nat), .int .i64 (j : Nat)] X (RtPost (.mk hy ky) (sub S.data.toList k j) X)) := fun k X h1 h2 hl hX => py _ A2 c2 S k j X hc2 (hr2.below hX) hS h2 hj hl
  have Q : Hid (∀ X, Below W.heap.size W X → X.cell? ⟨w.heap.size, 0, none⟩ = some (.string S) ∧ X.cell? ⟨w.heap.size + 1, 5, none⟩ = some (.slice (some ad) 2 c) ∧ (X.cell? ad = some (.int .u8 (hx.k.toNat : Int)) ∧ X.cell? ⟨ad.block, ad.off + 1, none⟩ = some (.int .u64 (hx.s.a.toNat : Int)) ∧ X.cell? ⟨ad.block, ad.off + 2, none⟩ = some (.int .u64 (hx.s.b.toNat : Int)) ∧ X.cell? ⟨ad.block, ad.off + 3, none⟩ = some (.int .u64 (hx.s.c.toNat : Int)) ∧ X.cell? ⟨ad.block, ad.off + 4, none⟩ = some (.int .u64 (hx.s.d.toNat : Int)) ∧ X.cell? ⟨ad.block, ad.off + 5, none⟩ = some (.slice A1 kx.length c1)) ∧ (X.cell? ⟨ad.block, ad.off + 6, none⟩ = some (.int .u8 (hy.k.toNat : Int)) ∧ X.cell? ⟨ad.block, ad.off + 6 + 1, none⟩ = some (.int .u64 (hy.s.a.toNat : Int)) ∧ X.cell? ⟨ad.block, ad.off + 6 + 2, none⟩ = some (.int .u64 (hy.s.b.toNat : Int)) ∧ X.cell? ⟨ad.block, ad.off + 6 + 3, none⟩ = some (.int .u64 (hy.s.c.toNat : Int)) ∧ X.cell? ⟨ad.block, ad.off + 6 + 4, none⟩ = some (.int .u64 (hy.s.d.toNat : Int)) ∧ X.cell? ⟨ad.block, ad.off + 6 + 5, none⟩ = some (.slice A2 ky.length c2))) := fun X hX => by
    obtain ⟨_, _, _, _, _, a5⟩ := re_at_box ((hX.block _ (lt_of_block e1W)).trans e1W)
    exact ⟨cell_of_one ((hX.block _ (lt_of_block e0W)).trans e0W), a5, ⟨keep_cell hX u0, keep_cell hX u1, keep_cell hX u2, keep_cell hX u3, keep_cell hX u4, keep_cell hX u5⟩, keep_cell hX v0, keep_cell hX v1, keep_cell hX v2, keep_cell hX v3, keep_cell hX v4, keep_cell hX v5⟩
  clear hW hbW e0W e1W e2W hr hsW hl hr1 hr2 u0 u1 u2 u3 u4 u5 v0 v1 v2 v3 v4 v5 px py mx my
  go_enter Try.func40, Try.ntmps40
  go_upto_region 1 with fail
  rw [show ((w.alloc _).alloc _).alloc _ = W from HE.out]
  obtain ⟨x0, x1, x2, x3, x4, x5⟩ := re_at_box E1.out
  go_upto_region 9 with fail
  clear x0 x1 x2 x3 x4 x5
  have hz := Below.refl W.heap.size W
  obtain ⟨p0, x5, ⟨u0, u1, u2, u3, u4, u5⟩, v0, v1, v2, v3, v4, v5⟩ := Q.out _ hz
  go_region_held3 (fun X => X.cell? ⟨w.heap.size, 0, none⟩ = some (.string S) ∧ X.cell? ⟨w.heap.size + 1, 5, none⟩ = some (.slice (some ad) 2 c) ∧ (X.cell? ad = some (.int .u8 (hx.k.toNat : Int)) ∧ X.cell? ⟨ad.block, ad.off + 1, none⟩ = some (.int .u64 (hx.s.a.toNat : Int)) ∧ X.cell? ⟨ad.block, ad.off + 2, none⟩ = some (.int .u64 (hx.s.b.toNat : Int)) ∧ X.cell? ⟨ad.block, ad.off + 3, none⟩ = some (.int .u64 (hx.s.c.toNat : Int)) ∧ X.cell? ⟨ad.block, ad.off + 4, none⟩ = some (.int .u64 (hx.s.d.toNat : Int)) ∧ X.cell? ⟨ad.block, ad.off + 5, none⟩ = some (.slice A1 kx.length c1)) ∧ (X.cell? ⟨ad.block, ad.off + 6, none⟩ = some (.int .u8 (hy.k.toNat : Int)) ∧ X.cell? ⟨ad.block, ad.off + 6 + 1, none⟩ = some (.int .u64 (hy.s.a.toNat : Int)) ∧ X.cell? ⟨ad.block, ad.off + 6 + 2, none⟩ = some (.int .u64 (hy.s.b.toNat : Int)) ∧ X.cell? ⟨ad.block, ad.off + 6 + 3, none⟩ = some (.int .u64 (hy.s.c.toNat : Int)) ∧ X.cell? ⟨ad.block, ad.off + 6 + 4, none⟩ = some (.int .u64 (hy.s.d.toNat : Int)) ∧ X.cell? ⟨ad.block, ad.off + 6 + 5, none⟩ = some (.slice A2 ky.length c2)))
    ((refine Q.out _ ?_; (repeat (first | with_reducible exact hz | with_reducible refine Below.drew ?_ | with_reducible refine below_new ?_ _))))
    (first
      | (go_at_call 62; (with_reducible refine Calls.mono (HF.out _ ?h1) ?_); (case h1 => (repeat (first | with_reducible exact hz | with_reducible refine Below.drew ?_ | with_reducible refine below_new ?_ _))); rintro e w1 ⟨k, rfl, hk1, hk2, hk3, hk4, hk5, hb1⟩; have HK1 := Lib.hid hk1; have HK2 := Lib.hid hk2; have HK3 := Lib.hid hk3; have HK4 := Lib.hid hk4; have HK5 := Lib.hid hk5; clear hk1 hk2 hk3 hk4 hk5; have hz : Below W.heap.size W w1 := below_from (by (repeat (first | with_reducible exact hz | with_reducible refine Below.drew ?_ | with_reducible refine below_new ?_ _))) hb1)
      | fail)
  obtain ⟨wq, rfl⟩ : ∃ x, x = w1 := ⟨_, rfl⟩
  have HB2 := Lib.hid hz
  obtain ⟨p0, x5, ⟨u0, u1, u2, u3, u4, u5⟩, v0, v1, v2, v3, v4, v5⟩ := Q.out _ hz
  have E2q := Lib.hid ((HB2.out.block _ (lt_of_block E2.out)).trans E2.out)
  have hqa := Q.out _ hz
  have hadb := HAD.out
  have Q2 : Hid (∀ X, Kept wq (w.heap.size + 1 + 1) X → X.cell? ⟨w.heap.size, 0, none⟩ = some (.string S) ∧ X.cell? ⟨w.heap.size + 1, 5, none⟩ = some (.slice (some ad) 2 c) ∧ (X.cell? ad = some (.int .u8 (hx.k.toNat : Int)) ∧ X.cell? ⟨ad.block, ad.off + 1, none⟩ = some (.int .u64 (hx.s.a.toNat : Int)) ∧ X.cell? ⟨ad.block, ad.off + 2, none⟩ = some (.int .u64 (hx.s.b.toNat : Int)) ∧ X.cell? ⟨ad.block, ad.off + 3, none⟩ = some (.int .u64 (hx.s.c.toNat : Int)) ∧ X.cell? ⟨ad.block, ad.off + 4, none⟩ = some (.int .u64 (hx.s.d.toNat : Int)) ∧ X.cell? ⟨ad.block, ad.off + 5, none⟩ = some (.slice A1 kx.length c1)) ∧ (X.cell? ⟨ad.block, ad.off + 6, none⟩ = some (.int .u8 (hy.k.toNat : Int)) ∧ X.cell? ⟨ad.block, ad.off + 6 + 1, none⟩ = some (.int .u64 (hy.s.a.toNat : Int)) ∧ X.cell? ⟨ad.block, ad.off + 6 + 2, none⟩ = some (.int .u64 (hy.s.b.toNat : Int)) ∧ X.cell? ⟨ad.block, ad.off + 6 + 3, none⟩ = some (.int .u64 (hy.s.c.toNat : Int)) ∧ X.cell? ⟨ad.block, ad.off + 6 + 4, none⟩ = some (.int .u64 (hy.s.d.toNat : Int)) ∧ X.cell? ⟨ad.block, ad.off + 6 + 5, none⟩ = some (.slice A2 ky.length c2))) := fun X hX => by
    obtain ⟨p0, x5, ⟨u0, u1, u2, u3, u4, u5⟩, v0, v1, v2, v3, v4, v5⟩ := hqa
    exact ⟨keptC hX p0 (by show w.heap.size ≠ w.heap.size + 1 + 1; omega), keptC hX x5 (by show w.heap.size + 1 ≠ w.heap.size + 1 + 1; omega), ⟨keptC hX u0 hadb, keptC hX u1 hadb, keptC hX u2 hadb, keptC hX u3 hadb, keptC hX u4 hadb, keptC hX u5 hadb⟩, keptC hX v0 hadb, keptC hX v1 hadb, keptC hX v2 hadb, keptC hX v3 hadb, keptC hX v4 hadb, keptC hX v5 hadb⟩
  have CX : Hid (∀ X, Below wq.heap.size wq X → Calls Try.prog 40 #[.agg #[.string S], reV hx A1 kx.length c1, .int .i64 (i : Nat), .int .i64 (k : Nat)] X (RtPost (.mk hx kx) (sub S.data.toList i k) X)) := fun X hX => HX.out k X HK1.out HK2.out HK3.out (below_from HB2.out hX)
  have CY : Hid (∀ X, Below wq.heap.size wq X → Calls Try.prog 40 #[.agg #[.string S], reV hy A2 ky.length c2, .int .i64 (k : Nat), .int .i64 (j : Nat)] X (RtPost (.mk hy ky) (sub S.data.toList k j) X)) := fun X hX => HY.out k X HK1.out HK2.out HK4.out (below_from HB2.out hX)
  clear hz hb1 Q HF HX HY hqa hadb
  go_upto_region 10 with fail
  have hz := Below.refl wq.heap.size wq
  have hk : Kept wq (w.heap.size + 1 + 1) wq := kept_below hz
  go_region_held3 (fun X => X.cell? ⟨w.heap.size, 0, none⟩ = some (.string S) ∧ X.cell? ⟨w.heap.size + 1, 5, none⟩ = some (.slice (some ad) 2 c) ∧ (X.cell? ad = some (.int .u8 (hx.k.toNat : Int)) ∧ X.cell? ⟨ad.block, ad.off + 1, none⟩ = some (.int .u64 (hx.s.a.toNat : Int)) ∧ X.cell? ⟨ad.block, ad.off + 2, none⟩ = some (.int .u64 (hx.s.b.toNat : Int)) ∧ X.cell? ⟨ad.block, ad.off + 3, none⟩ = some (.int .u64 (hx.s.c.toNat : Int)) ∧ X.cell? ⟨ad.block, ad.off + 4, none⟩ = some (.int .u64 (hx.s.d.toNat : Int)) ∧ X.cell? ⟨ad.block, ad.off + 5, none⟩ = some (.slice A1 kx.length c1)) ∧ (X.cell? ⟨ad.block, ad.off + 6, none⟩ = some (.int .u8 (hy.k.toNat : Int)) ∧ X.cell? ⟨ad.block, ad.off + 6 + 1, none⟩ = some (.int .u64 (hy.s.a.toNat : Int)) ∧ X.cell? ⟨ad.block, ad.off + 6 + 2, none⟩ = some (.int .u64 (hy.s.b.toNat : Int)) ∧ X.cell? ⟨ad.block, ad.off + 6 + 3, none⟩ = some (.int .u64 (hy.s.c.toNat : Int)) ∧ X.cell? ⟨ad.block, ad.off + 6 + 4, none⟩ = some (.int .u64 (hy.s.d.toNat : Int)) ∧ X.cell? ⟨ad.block, ad.off + 6 + 5, none⟩ = some (.slice A2 ky.length c2)))
    ((refine Q2.out _ ?_; (repeat (first | with_reducible exact hk | with_reducible refine kept_drew ?_ | with_reducible refine kept_new ?_ _ | with_reducible refine kept_set ?_ (.inr rfl)))))
    (first
      | (go_at_call 40; (with_reducible refine Calls.mono (CX.out _ ?h1) ?_); (case h1 => (repeat (first | with_reducible exact hz | with_reducible refine Below.drew ?_ | with_reducible refine below_new ?_ _))); rintro e wa ⟨ha, ka, Aa, ca, rfl, hva, hca, hra, hba⟩; have hra2 : InRow VE (fun x => wq.heap.size ≤ x) wa ka Aa 0 := hra.weak (fun x hx => by have h1 := hz.size; have h2 : wq.drew.heap.size = wq.heap.size := rfl; omega); have hz : Below wq.heap.size wq wa := below_from (by (repeat (first | with_reducible exact hz | with_reducible refine Below.drew ?_ | with_reducible refine below_new ?_ _))) hba; have hk : Kept wq (w.heap.size + 1 + 1) wa := kept_below hz; have HVA := Lib.hid hva; have HRA := Lib.hid hra2; have HCA := Lib.hid hca; clear hva hra hra2 hba hca)
      | (go_at_call 40; (with_reducible refine Calls.mono (CY.out _ ?h1) ?_); (case h1 => (repeat (first | with_reducible exact hz | with_reducible refine Below.drew ?_ | with_reducible refine below_new ?_ _))); rintro e wb ⟨hm, km, Am, cm, rfl, hvb, hcb, hrb, hbb⟩; have HRA2 := Lib.hid (HRA.out.there.below hbb); have hrb2 : InRow VE (fun x => wq.heap.size ≤ x) wb km Am 0 := hrb.weak (fun x hx => by have h1 := hz.size; have h2 : wq.drew.heap.size = wq.heap.size := rfl; omega); have hz : Below wq.heap.size wq wb := below_from (by (repeat (first | with_reducible exact hz | with_reducible refine Below.drew ?_ | with_reducible refine below_new ?_ _))) hbb; have hk : Kept wq (w.heap.size + 1 + 1) wb := kept_below hz; have E22 := Lib.hid ((hz.block _ (lt_of_block E2q.out)).trans E2q.out); obtain ⟨⟨y0, y1, y2⟩, f0, f1, f2⟩ := va_cells E22.out; have y0a := fun ob => (va_cells (heap_keep1 E22.out ob)).1.1; have y1a := fun ob => (va_cells (heap_keep1 E22.out ob)).1.2.1; have y2a := fun ob => (va_cells (heap_keep1 E22.out ob)).1.2.2; have f0a := fun ob => (va_cells (heap_keep1 E22.out ob)).2.1; have f1a := fun ob => (va_cells (heap_keep1 E22.out ob)).2.2.1; have f2a := fun ob => (va_cells (heap_keep1 E22.out ob)).2.2.2; have HVB := Lib.hid hvb; have HRB2 := Lib.hid hrb2; have HZZ := Lib.hid hz; have HCB := Lib.hid hcb; clear hvb hrb hrb2 hbb hz hcb)
      | fail)
  all_goals
    have hsw := HSW.out
    have hsq := HB2.out.size
    have hszz := HZZ.out.size
    have hbox := new_at1 (w := wb) (.cells (vaA ha Aa ka.length ca ++ vaA hm Am km.length cm) 24)
    have hnb := below_new (Below.refl wb.heap.size wb) (.cells (vaA ha Aa ka.length ca ++ vaA hm Am km.length cm) 24)
    have hra3 := (HRA2.out.weak (ok' := fun x => w.heap.size + 1 + 1 + 1 ≤ x) (fun x hx => by have hx' : wq.heap.size ≤ x := (by first | exact hx | exact hx.1); omega)).below hnb
    have hrb3 := (HRB2.out.weak (ok' := fun x => w.heap.size + 1 + 1 + 1 ≤ x) (fun x hx => by have hx' : wq.heap.size ≤ x := (by first | exact hx | exact hx.1); omega)).below hnb
    have HROW := Lib.hid (va_two (P := fun x => w.heap.size + 1 + 1 + 1 ≤ x) hbox rfl (by omega) HCA.out hra3 HCB.out hrb3)
    have HRVV : Hid (RV (rSeq (.mk hx kx) (.mk hy ky)) (sub S.data.toList i j) (vPair (.mk ha ka) (.mk hm km))) := by
      have := RV.pair _ _ _ _ _ _ HVA.out HVB.out HK5.out
      rw [← sub_app HK1.out HK2.out] at this
      exact this
    have HB3 := Lib.hid (below_from HBW.out (below_from HB2.out (below_from HZZ.out hnb)))
    have hsiz : (wb.alloc (.cells (vaA ha Aa ka.length ca ++ vaA hm Am km.length cm) 24)).heap.size = wb.heap.size + 1 := by simp
    clear hra3 hrb3 hbox hnb CX CY Q2 p0 x5 u0 u1 u2 u3 u4 u5 v0 v1 v2 v3 v4 v5
    go_wp2_with fail
    refine bodyPost_ret (v := vaV ⟨3, 0⟩ (some ⟨wb.heap.size, 0, none⟩) 2 2) (by simp [results, Try.results40, go_sem, y0a, y1a, y2a]; try exact ⟨rfl, rfl, rfl⟩) rfl ⟨⟨3, 0⟩, [.mk ha ka, .mk hm km], some ⟨wb.heap.size, 0, none⟩, 2, rfl, HRVV.out, Nat.le_refl _, (row_three HROW.out fun x hx => by omega).weak fun x hx => by omega, three_below HB3.out (by omega)⟩
theorem pk_seq {x y : Re} (px : PkOkT x) (py : PkOkT y) : PkOkT (rSeq x y) := by
  rintro h ks e hmy
  cases e
  obtain ⟨mx, my⟩ := may_two hmy
  obtain ⟨hx, kx⟩ := x
  obtain ⟨hy, ky⟩ := y
  exact pk_seq_ mx my (px _ _ rfl mx) (py _ _ rfl my)
end Go.Proofs.Yteokbmngebckjaa
