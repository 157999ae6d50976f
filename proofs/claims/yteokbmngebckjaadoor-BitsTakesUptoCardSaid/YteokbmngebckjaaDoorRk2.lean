/- What the document takes of bits: at Seq. -/
import Derived.Test.YteokbmngebckjaaDoorRk1
namespace Go.Proofs.YteokbmngebckjaaDoor
open Go.RowKit
set_option linter.unusedVariables false
set_option linter.unusedSimpArgs false

set_option maxRecDepth 100000 in
set_option maxHeartbeats 4000000 in
theorem rk_seq_ {hx : RH} {kx : List Re} {hy : RH} {ky : List Re} (hox : okT (.mk hx kx) = true) (px : RkOk hx kx) (py : RkOk hy ky) (P : Nat → Prop) (A : Option Addr) (c : Nat) (S : ByteArray) (w : World) (hc : 2 ≤ c) (hr : InRow RE P w [.mk hx kx, .mk hy ky] A 0) (hS : S.size ≤ 1000000000) :
    Calls Tryd.prog 24 #[reV ⟨4, S4.zero⟩ A 2 c, .string S] w (RkPost (rSeq (.mk hx kx) (.mk hy ky)) S.data.toList w) := by
  obtain ⟨hh, hhh⟩ : ∃ hh : RH, hh = ⟨4, S4.zero⟩ := ⟨_, rfl⟩
  have g2 : ((hh.k.toNat : Int) == 2) = false := by rw [hhh]; rfl
  have g3 : ((hh.k.toNat : Int) == 3) = false := by rw [hhh]; rfl
  have g4 : ((hh.k.toNat : Int) == 4) = true := by rw [hhh]; rfl
  rw [show reV ⟨4, S4.zero⟩ A 2 c = reV hh A 2 c by rw [hhh]]
  clear hhh
  obtain ⟨W, hW, hbW, hsW, e1W, e2W, e3W⟩ := rk_pre w hh A 2 c
  have HE := Lib.hid hW
  have HBW := Lib.hid hbW
  have E1 := Lib.hid e1W
  have E2 := Lib.hid e2W
  have E3 := Lib.hid e3W
  have HSW := Lib.hid hsW
  obtain ⟨ad, A1, c1, hA, hc1, hr1, u0, u1, u2, u3, u4, u5⟩ := kid0N (hr.below hbW)
  subst hA
  obtain ⟨ad', A2, c2, hA2, hc2, hr2, v0, v1, v2, v3, v4, v5⟩ := kid1N (hr.below hbW)
  obtain rfl := Option.some.inj hA2
  have HC1 := Lib.hid (px _ A1 c1 S W hc1 hr1 hS)
  have HC2 : Hid (∀ X (S1 : ByteArray), Below W.heap.size W X → S1.size ≤ 1000000000 → Calls Tryd.prog 24 #[reV hy A2 ky.length c2, .string S1] X (RkPost (.mk hy ky) S1.data.toList X)) := fun X S1 hX h1 => py _ A2 c2 S1 X hc2 (hr2.below hX) h1
  have HTL : Hid (∀ va s1, takeT (.mk hx kx) S.data.toList = some (va, s1) → s1.length ≤ S.size) := fun va s1 e => by have := take_len _ hox _ _ _ e; rwa [sl_] at this
  have HTS := Lib.hid (take_seq (.mk hx kx) (.mk hy ky) S.data.toList)
  have Q : Hid (∀ X, Below W.heap.size W X → X.cell? ⟨w.heap.size, 5, none⟩ = some (.slice (some ad) 2 c) ∧ X.cell? ⟨ad.block, ad.off + 6, none⟩ = some (.int .u8 (hy.k.toNat : Int)) ∧ X.cell? ⟨ad.block, ad.off + 6 + 1, none⟩ = some (.int .u64 (hy.s.a.toNat : Int)) ∧ X.cell? ⟨ad.block, ad.off + 6 + 2, none⟩ = some (.int .u64 (hy.s.b.toNat : Int)) ∧ X.cell? ⟨ad.block, ad.off + 6 + 3, none⟩ = some (.int .u64 (hy.s.c.toNat : Int)) ∧ X.cell? ⟨ad.block, ad.off + 6 + 4, none⟩ = some (.int .u64 (hy.s.d.toNat : Int)) ∧ X.cell? ⟨ad.block, ad.off + 6 + 5, none⟩ = some (.slice A2 ky.length c2)) := fun X hX => by
    obtain ⟨_, _, _, _, _, a5⟩ := re_at_box ((hX.block _ (lt_of_block e1W)).trans e1W)
    exact ⟨a5, keep_cell hX v0, keep_cell hX v1, keep_cell hX v2, keep_cell hX v3, keep_cell hX v4, keep_cell hX v5⟩
  clear hW hbW hsW e1W e2W e3W hr hr1 hr2 px py v0 v1 v2 v3 v4 v5
  obtain ⟨x0, x1, x2, x3, x4, x5⟩ := re_at_box E1.out
  obtain ⟨⟨y0, y1, y2⟩, f0, f1, f2⟩ := va_cells E2.out
  obtain ⟨⟨p0, p1, p2⟩, _, _, _⟩ := va_cells E3.out
  go_enter Tryd.func24, Tryd.ntmps24
  go_upto_region 2 with fail
  rw [show ((w.alloc _).alloc _).alloc _ = W from HE.out]
  go_wp2_with fail
  refine HC1.out.mono ?_
  rintro e w1 ⟨hn, kn, An, cn, S1, b1, rfl, hrl, hcn, hrn, hb1⟩
  clear x0 x1 x2 x3 x4 x5 y0 y1 y2 f0 f1 f2 p0 p1 p2 HC1 u0 u1 u2 u3 u4 u5
  obtain ⟨V, hV⟩ : ∃ V, w1.alloc (.cells (vaA hn An kn.length cn) 32) = V := ⟨_, rfl⟩
  have hbV : Below w1.heap.size w1 V := by rw [← hV]; exact below_new (Below.refl _ _) _
  have e4V : V.heap[w1.heap.size]? = some (.cells (vaA hn An kn.length cn) 32 (0, 0)) := by rw [← hV]; exact new_at1 _
  have hzV := below_from hb1 hbV
  have HBV := Lib.hid (below_from HBW.out hzV)
  have HZV := Lib.hid hzV
  have E4 := Lib.hid e4V
  have E2V := Lib.hid ((hzV.block _ (lt_of_block E2.out)).trans E2.out)
  have E3V := Lib.hid ((hzV.block _ (lt_of_block E3.out)).trans E3.out)
  have HRN := Lib.hid (hrn.there.below hbV)
  have HCN := Lib.hid hcn
  have HVV := Lib.hid hV
  have HRL := Lib.hid hrl
  have hw1 : w.heap.size + 1 + 1 + 1 ≤ w1.heap.size := by have := hb1.size; have := HSW.out; omega
  clear hV hbV e4V hzV hrn hcn hrl hb1
  go_upto_region 9 with fail
  rw [show w1.alloc _ = V from HVV.out]
  obtain ⟨⟨y0, y1, y2⟩, f0, f1, f2⟩ := va_cells E2V.out
  obtain ⟨⟨p0, p1, p2⟩, _, _, _⟩ := va_cells E3V.out
  cases b1 with
  | false =>
    have HNO : Hid (takeT (rSeq (.mk hx kx) (.mk hy ky)) S.data.toList = none) := by
      rcases HRL.out with ⟨e, _⟩ | ⟨_, e⟩
      · cases e
      · unfold Hid; rw [HTS.out, e]
    clear HRL HC2 HTL HTS
    go_wp2_with fail
    refine bodyPost_ret (v := .tuple #[vaV vaH0 none 0 0, .string ⟨#[]⟩, .bool false]) (by simp [results, Tryd.results24, go_sem, y0, y1, y2]; try exact ⟨rfl, rfl, rfl⟩) rfl ⟨vaH0, [], none, 0, ⟨#[]⟩, false, rfl, .inr ⟨rfl, HNO.out⟩, Nat.le_refl _, by simp [InRow], three_below HBV.out (by omega)⟩
  | true =>
    have he1 : takeT (.mk hx kx) S.data.toList = some (.mk hn kn, S1.data.toList) := by
      rcases HRL.out with ⟨_, e⟩ | ⟨e, _⟩
      · exact e
      · cases e
    have hs1 : S1.size ≤ 1000000000 := by have := HTL.out _ _ he1; rw [sl_] at this; omega
    have HE1 := Lib.hid he1
    have HC := Lib.hid (HC2.out V S1 HZV.out hs1)
    obtain ⟨x5, v0, v1, v2, v3, v4, v5⟩ := Q.out _ HZV.out
    clear HRL HC2 HTL he1 hs1 y0 y1 y2 f0 f1 f2 p0 p1 p2
    go_wp2_with fail
    refine HC.out.mono ?_
    rintro e w2 ⟨hm, km, Am, cm, S2, b2, rfl, hrl, hcm, hrm, hb2⟩
    clear x5 v0 v1 v2 v3 v4 v5 HC
    obtain ⟨U, hU⟩ : ∃ U, w2.alloc (.cells (vaA hm Am km.length cm) 32) = U := ⟨_, rfl⟩
    have hbU : Below w2.heap.size w2 U := by rw [← hU]; exact below_new (Below.refl _ _) _
    have e5U : U.heap[w2.heap.size]? = some (.cells (vaA hm Am km.length cm) 32 (0, 0)) := by rw [← hU]; exact new_at1 _
    have hzU := below_from hb2 hbU
    have HBU := Lib.hid (below_from HBV.out hzU)
    have e4U := (hzU.block _ (lt_of_block E4.out)).trans E4.out
    have e2U := (hzU.block _ (lt_of_block E2V.out)).trans E2V.out
    have hrnU := HRN.out.below hzU
    have hrmU := hrm.there.below hbU
    have hsz2 := hb2.size
    have hszU := hzU.size
    have hlt4 := lt_of_block E4.out
    have hUs : U.heap.size = w2.heap.size + 1 := by rw [← hU, World.size_alloc]
    have hbY := below_new (Below.refl U.heap.size U) (.cells (vaA hn An kn.length cn ++ vaA hm Am km.length cm) 32)
    have eYr := new_at1 (w := U) (.cells (vaA hn An kn.length cn ++ vaA hm Am km.length cm) 32)
    have HROW := Lib.hid (va_two (P := fun x => w.heap.size + 1 + 1 ≤ x) eYr rfl (by omega) HCN.out ((hrnU.below hbY).weak fun x hx => by have := hx.1; have := HSW.out; have := HBW.out.size; omega) hcm ((hrmU.below hbY).weak fun x hx => by have := hx.1; omega))
    have HBY := Lib.hid (below_from HBU.out hbY)
    have HTF : Hid (TkRel (rSeq (.mk hx kx) (.mk hy ky)) S.data.toList (vPair (.mk hn kn) (.mk hm km)) S2.data.toList b2) := by
      unfold Hid TkRel
      rw [HTS.out, HE1.out]
      rcases hrl with ⟨rfl, e⟩ | ⟨rfl, e⟩
      · exact .inl ⟨rfl, by simp [e]⟩
      · exact .inr ⟨rfl, by simp [e]⟩
    obtain ⟨q0, q1, q2⟩ := va_at_box e4U
    obtain ⟨r0, r1, r2⟩ := va_at_box e5U
    have E2U := Lib.hid e2U
    have y0a := fun ob => (va_cells (heap_keep1 E2U.out ob)).1.1
    have y1a := fun ob => (va_cells (heap_keep1 E2U.out ob)).1.2.1
    have y2a := fun ob => (va_cells (heap_keep1 E2U.out ob)).1.2.2
    have f0a := fun ob => (va_cells (heap_keep1 E2U.out ob)).2.1
    have f1a := fun ob => (va_cells (heap_keep1 E2U.out ob)).2.2.1
    have f2a := fun ob => (va_cells (heap_keep1 E2U.out ob)).2.2.2
    have HUU := Lib.hid hU
    clear hU hbU e5U hzU e4U e2U hrnU hrmU hbY eYr hrl hrm hb2 hcm HE1 HTS
    go_upto_region 12 with fail
    rw [show w2.alloc _ = U from HUU.out]
    go_wp2_with fail
    refine bodyPost_ret (v := .tuple #[vaV ⟨3, 0⟩ (some ⟨U.heap.size, 0, none⟩) 2 2, .string S2, .bool b2]) (by simp [results, Tryd.results24, go_sem, y0a, y1a, y2a]; try exact ⟨rfl, rfl, rfl⟩) rfl ⟨⟨3, 0⟩, [.mk hn kn, .mk hm km], some ⟨U.heap.size, 0, none⟩, 2, S2, b2, rfl, HTF.out, Nat.le_refl _, (row_three HROW.out fun x hx => by omega).weak fun x hx => by omega, three_below HBY.out (by omega)⟩
theorem rk_seq {x y : Re} (hox : okT x = true) (px : RkOkT x) (py : RkOkT y) : RkOkT (rSeq x y) := by
  rintro h ks e P A c S w hc hr hS
  cases e
  obtain ⟨hx, kx⟩ := x
  obtain ⟨hy, ky⟩ := y
  exact rk_seq_ hox (px _ _ rfl) (py _ _ rfl) P A c S w hc hr hS
end Go.Proofs.YteokbmngebckjaaDoor
