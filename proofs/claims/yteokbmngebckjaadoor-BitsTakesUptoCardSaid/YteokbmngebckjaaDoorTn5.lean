/- bits.Take, for every expression and text. -/
import Derived.Test.YteokbmngebckjaaDoorTn4
import Derived.Test.YteokbmngebckjaaDoorIsQ
namespace Go.Proofs.YteokbmngebckjaaDoor
open Go.RowKit
set_option linter.unusedVariables false
set_option linter.unusedSimpArgs false

set_option maxRecDepth 100000 in
set_option maxHeartbeats 8000000 in
theorem take_none {P : Nat → Prop} (h : RH) (ks : List Re) (A : Option Addr) (c : Nat) (S : ByteArray) (w : World) (hm : T.sizes ks ≤ 900000) (hmy : mayB (.mk h ks) = true) (hc : ks.length ≤ c) (hr : InRow RE P w ks A 0) (hS : S.size ≤ 1000000000) (htz : TzOk w) (ht : takeT (.mk h ks) S.data.toList = none) :
    Calls Tryd.prog 8 #[reV h A ks.length c, .string S] w fun e w' => e = .returned (.tuple #[vaV vaH0 none 0 0, .string ⟨#[]⟩, .bool false]) ∧ Below w.heap.size w w' := by
  have hmf : ∀ (fn : Fn) (first cap : Array Value) (w : World), (Instr.makeFunc fn first cap).run Tryd.prog w = .ok (.func fn first cap) w := fun _ _ _ _ => rfl
  obtain ⟨W0, hW0, hbW0, hsW0, e1W0, e2W0⟩ := reva_pre w h A ks.length c
  obtain ⟨W, hW⟩ : ∃ W, (W0.alloc (.cells #[.string ⟨#[]⟩] 9)).alloc (.cells #[.bool false] 4) = W := ⟨_, rfl⟩
  have hb0W : Below W0.heap.size W0 W := by rw [← hW]; exact below_new (below_new (Below.refl _ _) _) _
  have hsW : W.heap.size = w.heap.size + 1 + 1 + 1 + 1 := by rw [← hW]; simp [hsW0]
  have e3W : W.heap[w.heap.size + 1 + 1]? = some (.cells #[.string ⟨#[]⟩] 9 (0, 0)) := by rw [← hW, ← hsW0]; exact heap_keep1 (new_at1 _) _
  have e4W : W.heap[w.heap.size + 1 + 1 + 1]? = some (.cells #[.bool false] 4 (0, 0)) := by
    rw [← hW]
    have := new_at1 (w := W0.alloc (.cells #[.string ⟨#[]⟩] 9)) (.cells #[.bool false] 4)
    rw [World.size_alloc, hsW0] at this
    exact this
  have e1W := (hb0W.block _ (lt_of_block e1W0)).trans e1W0
  have e2W := (hb0W.block _ (lt_of_block e2W0)).trans e2W0
  have hbW := below_from hbW0 hb0W
  rw [← hW0] at hW
  obtain ⟨V, hV⟩ : ∃ V, W.alloc (.cells (reA h A ks.length c) 27) = V := ⟨_, rfl⟩
  have hbV : Below W.heap.size W V := by rw [← hV]; exact below_new (Below.refl _ _) _
  have e5V : V.heap[W.heap.size]? = some (.cells (reA h A ks.length c) 27 (0, 0)) := by rw [← hV]; exact new_at1 _
  have hbwV := below_from hbW hbV
  have HM : Hid (Calls Tryd.prog 20 #[.slice (some ⟨W.heap.size, 0, none⟩) 1 1] V fun e w' => e = .returned (.bool true) ∧ Below V.heap.size V w') := by
    have := May_any (ok := fun _ => True) [T.mk h ks] (some ⟨W.heap.size, 0, none⟩) 1 V (by simp only [T.sizes, T.size]; omega) (row_one e5V trivial hc ((hr.weak fun _ _ => trivial).below hbwV))
    unfold Hid
    simpa [hmy] using this
  have HE := Lib.hid hW
  have HV := Lib.hid hV
  have HBW := Lib.hid hbW
  have HBV := Lib.hid hbwV
  have HSW := Lib.hid hsW
  have E1 := Lib.hid e1W
  have E1V := Lib.hid ((hbV.block _ (lt_of_block e1W)).trans e1W)
  have E2V := Lib.hid ((hbV.block _ (lt_of_block e2W)).trans e2W)
  have E3V := Lib.hid ((hbV.block _ (lt_of_block e3W)).trans e3W)
  have E4V := Lib.hid ((hbV.block _ (lt_of_block e4W)).trans e4W)
  have HR := Lib.hid (hr.there.below hbwV)
  have HTZ := Lib.hid (htz.below hbwV)
  have HOK := Lib.hid (tn_all _ (may_okT hmy) h ks rfl)
  have HT := Lib.hid ht
  have HSV : Hid (V.heap.size = w.heap.size + 1 + 1 + 1 + 1 + 1) := by unfold Hid; rw [← hV, World.size_alloc, hsW]
  have HTB : Hid (0 < w.heap.size) := World.block_lt_of_cell? w _ (htz 0)
  clear hW0 hbW0 hsW0 e1W0 e2W0 hW hb0W hsW e3W e4W e1W e2W hbW hV hbV e5V hbwV hr htz ht hmy
  go_enter_defers Tryd.func8, Tryd.ntmps8
  go_upto_region 1 with fail
  rw [show (((w.alloc _).alloc _).alloc _).alloc _ = W from HE.out]
  obtain ⟨x0, x1, x2, x3, x4, x5⟩ := re_at_box E1.out
  go_wp2_with fail
  rw [show W.alloc _ = V from HV.out]
  refine HM.out.mono ?_
  rintro e w1 ⟨rfl, hb1⟩
  clear x0 x1 x2 x3 x4 x5 HM
  have hsv := HSV.out
  obtain ⟨X, hX⟩ : ∃ X, w1.alloc (.cells #[.string S] 56) = X := ⟨_, rfl⟩
  have hbX : Below w1.heap.size w1 X := by rw [← hX]; exact below_new (Below.refl _ _) _
  have hb1X := below_from hb1 hbX
  have hsz1 := hb1.size
  have hefX : X.heap[w1.heap.size]? = some (.cells #[.string S] 56 (0, 0)) := by rw [← hX]; exact new_at1 _
  have E1X := Lib.hid ((hb1X.block _ (lt_of_block E1V.out)).trans E1V.out)
  have E2X := Lib.hid ((hb1X.block _ (lt_of_block E2V.out)).trans E2V.out)
  have E3X := Lib.hid ((hb1X.block _ (lt_of_block E3V.out)).trans E3V.out)
  have E4X := Lib.hid ((hb1X.block _ (lt_of_block E4V.out)).trans E4V.out)
  have htb := HTB.out
  have HC := Lib.hid (HOK.out _ A c S w1.heap.size X hc (HR.out.below hb1X) (fun x hx => by have := hx.2; omega) hefX hS (HTZ.out.below hb1X) (by omega) HT.out)
  have HBX := Lib.hid (below_from HBV.out hb1X)
  have HXX := Lib.hid hX
  have hsX : X.heap.size = w1.heap.size + 1 := by rw [← hX]; simp
  have HSX := Lib.hid hsX
  clear hX hbX hb1X hefX hb1 hsX E1 E1V E2V E3V E4V HR HTZ HOK HT hsv htb
  go_upto_region 5 with fail
  rw [show w1.alloc _ = X from HXX.out]
  obtain ⟨x0, x1, x2, x3, x4, x5⟩ := re_at_box E1X.out
  go_wp2_with fail
  refine HC.out.mono ?_
  rintro e w2 ⟨rfl, hk2⟩
  have hsv := HSV.out
  have hsx := HSX.out
  have e22 := kept_blk hk2 E2X.out (by omega)
  have e32 := kept_blk hk2 E3X.out (by omega)
  have e42 := kept_blk hk2 E4X.out (by omega)
  have hB2 := below_kept HBX.out hk2 (by omega)
  have hsz2 := hk2.size
  have hn1 : w.heap.size + 1 ≠ w.heap.size + 1 + 1 := by omega
  have hn2 : w.heap.size + 1 ≠ w.heap.size + 1 + 1 + 1 := by omega
  have hn3 : w.heap.size + 1 + 1 ≠ w.heap.size + 1 + 1 + 1 := by omega
  obtain ⟨c1, c2, c3⟩ := caught_at e22 e32 e42 hn1 hn2 hn3
  have hB3 := caught_below (p := w.heap.size + 1) (q := w.heap.size + 1 + 1) (r := w.heap.size + 1 + 1 + 1) hB2 hB2.size (by omega) (by omega) (by omega)
  obtain ⟨⟨d0, d1, d2⟩, _⟩ := va_cells c1
  obtain ⟨d3, _⟩ := fil_cells c2
  obtain ⟨d4, _⟩ := fil_cells c3
  refine leaves_cons (f := 21) (args := #[.pointer (some ⟨w.heap.size + 1, 0, none⟩), .pointer (some ⟨w.heap.size + 1 + 1, 0, none⟩), .pointer (some ⟨w.heap.size + 1 + 1 + 1, 0, none⟩)]) (by simp) (by simp [go_sem]) ?_
  refine (throwTk_any _ _ _ _ e22 e32 e42 hn1 hn2 hn3).mono ?_
  rintro e u' w'' ⟨rfl, rfl, rfl⟩
  generalize caught (w.heap.size + 1) (w.heap.size + 1 + 1) (w.heap.size + 1 + 1 + 1) w2 = w9 at *
  simp [Leaves, settle, results, Tryd.results8, go_sem, d0, d1, d2, d3, d4]
  exact hB3
set_option maxRecDepth 100000 in
set_option maxHeartbeats 8000000 in
theorem take_bad {P : Nat → Prop} (h : RH) (ks : List Re) (A : Option Addr) (c : Nat) (S : ByteArray) (w : World) (hm : T.sizes ks ≤ 900000) (hmy : mayB (.mk h ks) = false) (hc : ks.length ≤ c) (hr : InRow RE P w ks A 0) (hS : S.size ≤ 1000000000) :
    Calls Tryd.prog 8 #[reV h A ks.length c, .string S] w fun e w' => e = .returned (.tuple #[vaV vaH0 none 0 0, .string ⟨#[]⟩, .bool false]) ∧ Below w.heap.size w w' := by
  have hmf : ∀ (fn : Fn) (first cap : Array Value) (w : World), (Instr.makeFunc fn first cap).run Tryd.prog w = .ok (.func fn first cap) w := fun _ _ _ _ => rfl
  obtain ⟨W0, hW0, hbW0, hsW0, e1W0, e2W0⟩ := reva_pre w h A ks.length c
  obtain ⟨W, hW⟩ : ∃ W, (W0.alloc (.cells #[.string ⟨#[]⟩] 9)).alloc (.cells #[.bool false] 4) = W := ⟨_, rfl⟩
  have hb0W : Below W0.heap.size W0 W := by rw [← hW]; exact below_new (below_new (Below.refl _ _) _) _
  have hsW : W.heap.size = w.heap.size + 1 + 1 + 1 + 1 := by rw [← hW]; simp [hsW0]
  have e3W : W.heap[w.heap.size + 1 + 1]? = some (.cells #[.string ⟨#[]⟩] 9 (0, 0)) := by rw [← hW, ← hsW0]; exact heap_keep1 (new_at1 _) _
  have e4W : W.heap[w.heap.size + 1 + 1 + 1]? = some (.cells #[.bool false] 4 (0, 0)) := by
    rw [← hW]
    have := new_at1 (w := W0.alloc (.cells #[.string ⟨#[]⟩] 9)) (.cells #[.bool false] 4)
    rw [World.size_alloc, hsW0] at this
    exact this
  have e1W := (hb0W.block _ (lt_of_block e1W0)).trans e1W0
  have e2W := (hb0W.block _ (lt_of_block e2W0)).trans e2W0
  have hbW := below_from hbW0 hb0W
  rw [← hW0] at hW
  obtain ⟨V, hV⟩ : ∃ V, W.alloc (.cells (reA h A ks.length c) 27) = V := ⟨_, rfl⟩
  have hbV : Below W.heap.size W V := by rw [← hV]; exact below_new (Below.refl _ _) _
  have e5V : V.heap[W.heap.size]? = some (.cells (reA h A ks.length c) 27 (0, 0)) := by rw [← hV]; exact new_at1 _
  have hbwV := below_from hbW hbV
  have HM : Hid (Calls Tryd.prog 20 #[.slice (some ⟨W.heap.size, 0, none⟩) 1 1] V fun e w' => e = .returned (.bool false) ∧ Below V.heap.size V w') := by
    have := May_any (ok := fun _ => True) [T.mk h ks] (some ⟨W.heap.size, 0, none⟩) 1 V (by simp only [T.sizes, T.size]; omega) (row_one e5V trivial hc ((hr.weak fun _ _ => trivial).below hbwV))
    unfold Hid
    simpa [hmy] using this
  have HE := Lib.hid hW
  have HV := Lib.hid hV
  have HBW := Lib.hid hbW
  have HBV := Lib.hid hbwV
  have HSW := Lib.hid hsW
  have E1 := Lib.hid e1W
  have E1V := Lib.hid ((hbV.block _ (lt_of_block e1W)).trans e1W)
  have E2V := Lib.hid ((hbV.block _ (lt_of_block e2W)).trans e2W)
  have E3V := Lib.hid ((hbV.block _ (lt_of_block e3W)).trans e3W)
  have E4V := Lib.hid ((hbV.block _ (lt_of_block e4W)).trans e4W)
  have HSV : Hid (V.heap.size = w.heap.size + 1 + 1 + 1 + 1 + 1) := by unfold Hid; rw [← hV, World.size_alloc, hsW]
  clear hW0 hbW0 hsW0 e1W0 e2W0 hW hb0W hsW e3W e4W e1W e2W hbW hV hbV e5V hbwV hr hmy
  go_enter_defers Tryd.func8, Tryd.ntmps8
  go_upto_region 1 with fail
  rw [show (((w.alloc _).alloc _).alloc _).alloc _ = W from HE.out]
  obtain ⟨x0, x1, x2, x3, x4, x5⟩ := re_at_box E1.out
  go_wp2_with fail
  rw [show W.alloc _ = V from HV.out]
  refine HM.out.mono ?_
  rintro e w1 ⟨rfl, hb1⟩
  clear x0 x1 x2 x3 x4 x5 HM
  have hB1 := below_from HBV.out hb1
  have e2 := (hb1.block _ (lt_of_block E2V.out)).trans E2V.out
  have e3 := (hb1.block _ (lt_of_block E3V.out)).trans E3V.out
  have e4 := (hb1.block _ (lt_of_block E4V.out)).trans E4V.out
  have hn1 : w.heap.size + 1 ≠ w.heap.size + 1 + 1 := by omega
  have hn2 : w.heap.size + 1 ≠ w.heap.size + 1 + 1 + 1 := by omega
  have hn3 : w.heap.size + 1 + 1 ≠ w.heap.size + 1 + 1 + 1 := by omega
  obtain ⟨⟨y0, y1, y2⟩, f0, f1, f2⟩ := va_cells e2
  obtain ⟨z0, zf0⟩ := fil_cells e3
  obtain ⟨t0, tf0⟩ := fil_cells e4
  have m1 := Ne.symm hn1
  have m2 := Ne.symm hn2
  have m3 := Ne.symm hn3
  have q1 := three_setCells (u0 := .int .u8 0) (u1 := .int .u8 0) (u2 := .slice none 0 0) e2
  have hb5 := ((three_below (u0 := .int .u8 0) (u1 := .int .u8 0) (u2 := .slice none 0 0) hB1 (show w.heap.size ≤ w.heap.size + 1 by omega)).setCell (p := ⟨w.heap.size + 1 + 1, 0, none⟩) (by show w.heap.size ≤ w.heap.size + 1 + 1; omega) (.string ⟨#[]⟩)).setCell (p := ⟨w.heap.size + 1 + 1 + 1, 0, none⟩) (by show w.heap.size ≤ w.heap.size + 1 + 1 + 1; omega) (.bool false)
  have q2 : (((((w1.setCell ⟨w.heap.size + 1, 0, none⟩ (.int .u8 0)).setCell ⟨w.heap.size + 1, 1, none⟩ (.int .u8 0)).setCell ⟨w.heap.size + 1, 2, none⟩ (.slice none 0 0)).setCell ⟨w.heap.size + 1 + 1, 0, none⟩ (.string ⟨#[]⟩)).setCell ⟨w.heap.size + 1 + 1 + 1, 0, none⟩ (.bool false)).heap[w.heap.size + 1]? = _ := (Below.heap_setCell _ ⟨w.heap.size + 1 + 1 + 1, 0, none⟩ _ _ hn2).trans ((Below.heap_setCell _ ⟨w.heap.size + 1 + 1, 0, none⟩ _ _ hn1).trans q1)
  have q3 : (((((w1.setCell ⟨w.heap.size + 1, 0, none⟩ (.int .u8 0)).setCell ⟨w.heap.size + 1, 1, none⟩ (.int .u8 0)).setCell ⟨w.heap.size + 1, 2, none⟩ (.slice none 0 0)).setCell ⟨w.heap.size + 1 + 1, 0, none⟩ (.string ⟨#[]⟩)).setCell ⟨w.heap.size + 1 + 1 + 1, 0, none⟩ (.bool false)).heap[w.heap.size + 1 + 1]? = some (.cells #[.string ⟨#[]⟩] 9 (0, 0)) := (Below.heap_setCell _ ⟨w.heap.size + 1 + 1 + 1, 0, none⟩ _ _ hn3).trans (fil_set ((three_other m1).trans e3))
  have q4 : (((((w1.setCell ⟨w.heap.size + 1, 0, none⟩ (.int .u8 0)).setCell ⟨w.heap.size + 1, 1, none⟩ (.int .u8 0)).setCell ⟨w.heap.size + 1, 2, none⟩ (.slice none 0 0)).setCell ⟨w.heap.size + 1 + 1, 0, none⟩ (.string ⟨#[]⟩)).setCell ⟨w.heap.size + 1 + 1 + 1, 0, none⟩ (.bool false)).heap[w.heap.size + 1 + 1 + 1]? = some (.cells #[.bool false] 4 (0, 0)) := fil_set ((Below.heap_setCell _ ⟨w.heap.size + 1 + 1, 0, none⟩ _ _ m3).trans ((three_other m2).trans e4))
  go_wp2_with fail
  generalize ((((w1.setCell ⟨w.heap.size + 1, 0, none⟩ (.int .u8 0)).setCell ⟨w.heap.size + 1, 1, none⟩ (.int .u8 0)).setCell ⟨w.heap.size + 1, 2, none⟩ (.slice none 0 0)).setCell ⟨w.heap.size + 1 + 1, 0, none⟩ (.string ⟨#[]⟩)).setCell ⟨w.heap.size + 1 + 1 + 1, 0, none⟩ (.bool false) = w9 at *
  obtain ⟨⟨d0, d1, d2⟩, _⟩ := va_cells q2
  obtain ⟨d3, _⟩ := fil_cells q3
  obtain ⟨d4, _⟩ := fil_cells q4
  exact ⟨.tuple #[vaV vaH0 none 0 0, .string ⟨#[]⟩, .bool false], by simp [results, Tryd.results8, go_sem, d0, d1, d2, d3, d4], rfl, hb5⟩
/-- what is taken: the value, what stands behind, whether there is one -/
def takeR (t : Re) (s : List UInt8) : Va × List UInt8 × Bool := if mayB t = true then match takeT t s with | some (v, r) => (v, r, true) | none => (.mk vaH0 [], [], false) else (.mk vaH0 [], [], false)
def TakeRPost (x : Va × List UInt8 × Bool) (w : World) (e : Ending) (w' : World) : Prop := ∃ h' k' A' c', e = .returned (.tuple #[vaV h' A' k'.length c', .string (str x.2.1), .bool x.2.2]) ∧ x.1 = .mk h' k' ∧ k'.length ≤ c' ∧ InRow VE (fun y => w.heap.size ≤ y) w' k' A' 0 ∧ Below w.heap.size w w'
theorem take_any {P : Nat → Prop} (h : RH) (ks : List Re) (A : Option Addr) (c : Nat) (S : ByteArray) (w : World) (hm : T.sizes ks ≤ 900000) (hc : ks.length ≤ c) (hr : InRow RE P w ks A 0) (hS : S.size ≤ 1000000000) (htz : TzOk w) :
    Calls Tryd.prog 8 #[reV h A ks.length c, .string S] w (TakeRPost (takeR (.mk h ks) S.data.toList) w) := by
  unfold takeR
  cases hmy : mayB (.mk h ks) with
  | false =>
    refine (take_bad h ks A c S w hm hmy hc hr hS).mono ?_
    rintro e w' ⟨rfl, hb⟩
    exact ⟨vaH0, [], none, 0, rfl, rfl, Nat.le_refl _, by simp [InRow], hb⟩
  | true =>
    rw [if_pos rfl]
    rcases ht : takeT (.mk h ks) S.data.toList with _ | ⟨v, r⟩
    · refine (take_none h ks A c S w hm hmy hc hr hS htz ht).mono ?_
      rintro e w' ⟨rfl, hb⟩
      exact ⟨vaH0, [], none, 0, rfl, rfl, Nat.le_refl _, by simp [InRow], hb⟩
    · refine (take_some h ks A c S w v r hm hmy hc hr hS htz ht).mono ?_
      rintro e w' ⟨h', k', A', c', S2, rfl, rfl, hc', hr', hs2, hb⟩
      refine ⟨h', k', A', c', ?_, rfl, hc', hr', hb⟩
      rw [← hs2, ← ba_str S2]
end Go.Proofs.YteokbmngebckjaaDoor
