/- bits.Decode, for every expression and text. -/
import Derived.Test.YteokbmngebckjaaDoorTn5
namespace Go.Proofs.YteokbmngebckjaaDoor
open Go.RowKit
set_option linter.unusedVariables false
set_option linter.unusedSimpArgs false

set_option maxRecDepth 100000 in
set_option maxHeartbeats 8000000 in
theorem dec_none {P : Nat → Prop} (h : RH) (ks : List Re) (A : Option Addr) (c : Nat) (S : ByteArray) (w : World) (v : Va) (rest : List UInt8) (hm : T.sizes ks ≤ 900000) (hc : ks.length ≤ c) (hr : InRow RE P w ks A 0) (hS : S.size ≤ 1000000000) (htz : TzOk w) (ht : takeR (.mk h ks) S.data.toList = (v, rest, false)) :
    Calls Tryd.prog 10 #[reV h A ks.length c, .string S] w fun e w' => e = .returned (.tuple #[vaV vaH0 none 0 0, .bool false]) ∧ Below w.heap.size w w' := by
  obtain ⟨W, hW, hbW, hsW, e1W, e2W⟩ := reva_pre w h A ks.length c
  have HC := Lib.hid (take_any h ks A c S W hm hc (hr.below hbW) hS (htz.below hbW))
  rw [ht] at HC
  have HE := Lib.hid hW
  have HBW := Lib.hid hbW
  have HSW := Lib.hid hsW
  have E1 := Lib.hid e1W
  have E2 := Lib.hid e2W
  clear hW hbW hsW e1W e2W hr htz ht
  go_enter Tryd.func10, Tryd.ntmps10
  go_upto_region 1 with fail
  rw [show (w.alloc _).alloc _ = W from HE.out]
  obtain ⟨x0, x1, x2, x3, x4, x5⟩ := re_at_box E1.out
  go_wp2_with fail
  refine HC.out.mono ?_
  rintro e w1 ⟨hn, kn, An, cn, rfl, _, hcn, hrn, hb1⟩
  clear x0 x1 x2 x3 x4 x5 HC
  obtain ⟨X, hX⟩ : ∃ X, w1.alloc (.cells (vaA hn An kn.length cn) 32) = X := ⟨_, rfl⟩
  have hbX : Below w1.heap.size w1 X := by rw [← hX]; exact below_new (Below.refl _ _) _
  have n6 : X.heap[w1.heap.size]? = some (.cells (vaA hn An kn.length cn) 32 (0, 0)) := by rw [← hX]; exact new_at1 _
  have hs1 := hb1.size
  have hsw := HSW.out
  have hb1X := below_from hb1 hbX
  have E2X := Lib.hid ((hb1X.block _ (lt_of_block E2.out)).trans E2.out)
  have HB := Lib.hid (below_from HBW.out hb1X)
  have HRN := Lib.hid ((hrn.weak (ok' := fun x => w.heap.size + 1 + 1 ≤ x) fun x hx => by omega).below hbX)
  have N6 := Lib.hid n6
  have HCN := Lib.hid hcn
  have HXX := Lib.hid hX
  clear hX hbX n6 hrn hcn hb1 hs1 hsw HSW E1 E2 HBW hb1X
  go_upto_region 2 with fail
  rw [show w1.alloc _ = X from HXX.out]
  obtain ⟨⟨y0, y1, y2⟩, f0, f1, f2⟩ := va_cells E2X.out
  go_wp2_with fail
  refine bodyPost_ret (v := .tuple #[vaV vaH0 none 0 0, .bool false]) (by simp [results, Tryd.results10, go_sem, y0, y1, y2]; try exact ⟨rfl, rfl, rfl⟩) rfl ⟨rfl, three_below HB.out (by omega)⟩
def decR (x : Va × List UInt8 × Bool) : Va × Bool := if x.2.2 = true ∧ x.2.1 = [] then (x.1, true) else (.mk vaH0 [], false)
theorem dec_any {P : Nat → Prop} (h : RH) (ks : List Re) (A : Option Addr) (c : Nat) (S : ByteArray) (w : World) (hm : T.sizes ks ≤ 900000) (hc : ks.length ≤ c) (hr : InRow RE P w ks A 0) (hS : S.size ≤ 1000000000) (htz : TzOk w) :
    Calls Tryd.prog 10 #[reV h A ks.length c, .string S] w (DecPost (decR (takeR (.mk h ks) S.data.toList)).1 (decR (takeR (.mk h ks) S.data.toList)).2 w) := by
  rcases hx : takeR (.mk h ks) S.data.toList with ⟨v, r, b⟩
  cases b with
  | false =>
    refine (dec_none h ks A c S w v r hm hc hr hS htz hx).mono ?_
    rintro e w' ⟨rfl, hb⟩
    refine ⟨vaH0, [], none, 0, ?_, ?_, Nat.le_refl _, by simp [InRow], hb⟩ <;> simp [decR]
  | true =>
    have hmt : mayB (.mk h ks) = true ∧ takeT (.mk h ks) S.data.toList = some (v, r) := by
      unfold takeR at hx
      cases hmy : mayB (.mk h ks) with
      | false => rw [hmy] at hx; simp at hx
      | true =>
        rw [hmy, if_pos rfl] at hx
        refine ⟨rfl, ?_⟩
        rcases ht : takeT (.mk h ks) S.data.toList with _ | ⟨v2, r2⟩
        · rw [ht] at hx; simp at hx
        · rw [ht] at hx; simp at hx; rw [hx.1, hx.2]
    have hd := dec_some h ks A c S w v r hm hmt.1 hc hr hS htz hmt.2
    by_cases hr0 : r = []
    · rw [if_pos hr0, decide_eq_true hr0] at hd
      have e : decR (v, r, true) = (v, true) := by simp [decR, hr0]
      rw [e]; exact hd
    · rw [if_neg hr0, decide_eq_false hr0] at hd
      have e : decR (v, r, true) = (.mk vaH0 [], false) := by simp [decR, hr0]
      rw [e]; exact hd
end Go.Proofs.YteokbmngebckjaaDoor
