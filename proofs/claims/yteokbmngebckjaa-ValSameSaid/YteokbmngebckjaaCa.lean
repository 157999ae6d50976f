/- The document's right value: at Eps, at a class, at an Alt. The document's right value: at a Seq. The document's right value: at a Star. The document's right value: Right. -/
import Derived.Test.YteokbmngebckjaaBs
import Derived.Test.YteokbmngebckjaaBx
import Derived.Test.YteokbmngebckjaaBe
namespace Go.Proofs.Yteokbmngebckjaa
open Go.RowKit
set_option linter.unusedVariables false
set_option linter.unusedSimpArgs false

/-- does an expression fit a text -/
noncomputable def fitB (t : Re) (s : List UInt8) : Bool := by classical exact decide (LT t s)
theorem fitB_true {t : Re} {s : List UInt8} : fitB t s = true ↔ LT t s := by unfold fitB; simp
theorem fitB_false {t : Re} {s : List UInt8} : fitB t s = false ↔ ¬ LT t s := by unfold fitB; simp
theorem may_iff {t : Re} : mayB t = true ↔ okT t = true ∧ t.size ≤ 2000 := by
  unfold mayB
  simp only [Bool.and_eq_true, decide_eq_true_eq]
theorem fits_val {P : Nat → Prop} (h : RH) (ks : List Re) (A : Option Addr) (c : Nat) (S : ByteArray) (w : World) (hmy : mayB (.mk h ks) = true) (hc : ks.length ≤ c) (hr : InRow RE P w ks A 0) (hS : S.size ≤ 100) :
    Calls Try.prog 42 #[reV h A ks.length c, .string S] w fun e w' => e = .returned (.bool (fitB (.mk h ks) S.data.toList)) ∧ Below w.heap.size w w' := by
  have hz := (may_iff.1 hmy).2
  simp only [T.size] at hz
  refine (fits_any h ks A c S w (by omega) hc hr hS).mono ?_
  rintro e w' ⟨b, rfl, hb, hbb⟩
  refine ⟨?_, hbb⟩
  rw [show b = fitB (.mk h ks) S.data.toList from by rw [Bool.eq_iff_iff, hb, fitB_true]; exact ⟨fun h => h.2, fun h => ⟨hmy, h⟩⟩]
set_option maxRecDepth 100000 in
theorem one_any (k : UInt8) (z : Int) (hz : z = (k.toNat : Int)) (A : Option Addr) (n c : Nat) (w : World) :
    Calls Try.prog 64 #[.int .u8 z, .slice A n c] w fun e w' => e = .returned (vaV ⟨k, 0⟩ A n c) ∧ Below w.heap.size w w' := by
  subst hz
  have e2 := new_at1 (w := w) (.cells vaZ 24)
  have HB := Lib.hid (below_new (Below.refl w.heap.size w) (.cells vaZ 24))
  obtain ⟨W, hW⟩ : ∃ W, w.alloc (.cells vaZ 24) = W := ⟨_, rfl⟩
  rw [hW] at e2 HB
  have HE := Lib.hid hW
  have E2 := Lib.hid e2
  clear hW e2
  go_enter Try.func64, Try.ntmps64
  go_upto_region 1 with fail
  rw [show w.alloc _ = W from HE.out]
  obtain ⟨⟨y0, y1, y2⟩, f0, f1, f2⟩ := va_cells E2.out
  go_wp2_with fail
  refine bodyPost_ret (v := vaV ⟨k, 0⟩ A n c) (by simp [results, Try.results64, go_sem, y0, y1, y2]; try exact ⟨rfl, rfl, rfl⟩) rfl ⟨rfl, three_below HB.out (Nat.le_refl _)⟩

def RtPost (t : Re) (s : List UInt8) (w : World) (e : Ending) (w' : World) : Prop := ∃ h' k' A' c', e = .returned (vaV h' A' k'.length c') ∧ RV t s (.mk h' k') ∧ k'.length ≤ c' ∧ InRow VE (fun x => w.heap.size ≤ x) w' k' A' 0 ∧ Below w.heap.size w w'
def RtOk (h : RH) (ks : List Re) : Prop := ∀ (P : Nat → Prop) (A : Option Addr) (c : Nat) (S : ByteArray) (w : World), ks.length ≤ c → InRow RE P w ks A 0 → S.size ≤ 100 → LT (.mk h ks) S.data.toList →
  Calls Try.prog 43 #[reV h A ks.length c, .string S] w (RtPost (.mk h ks) S.data.toList w)
def RtOkT (t : Re) : Prop := ∀ h ks, t = .mk h ks → mayB t = true → RtOk h ks
set_option maxRecDepth 100000 in
set_option maxHeartbeats 4000000 in
theorem rt_eps : RtOkT rEps := by
  rintro h ks e hmy P A c S w hc hr hS hl
  cases e
  rw [LT_eps] at hl
  have HRV : Hid (RV rEps S.data.toList (.mk ⟨1, 0⟩ [])) := by unfold Hid; rw [hl]; exact .eps
  obtain ⟨hh, hhh⟩ : ∃ hh : RH, hh = ⟨2, S4.zero⟩ := ⟨_, rfl⟩
  have g2 : ((hh.k.toNat : Int) == 2) = true := by rw [hhh]; rfl
  rw [show reV ⟨2, S4.zero⟩ A ([] : List Re).length c = reV hh A 0 c by rw [hhh]; rfl]
  clear hhh
  obtain ⟨W, hW, hbW, hsW, e1W, e2W⟩ := reva_pre w hh A 0 c
  have HE := Lib.hid hW
  have HBW := Lib.hid hbW
  have HSW := Lib.hid hsW
  have E1 := Lib.hid e1W
  have E2 := Lib.hid e2W
  clear hW hbW e1W e2W hr hsW hl
  go_enter Try.func43, Try.ntmps43
  go_upto_region 1 with fail
  rw [show (w.alloc _).alloc _ = W from HE.out]
  obtain ⟨x0, x1, x2, x3, x4, x5⟩ := re_at_box E1.out
  obtain ⟨⟨y0, y1, y2⟩, f0, f1, f2⟩ := va_cells E2.out
  go_wp2_with fail
  refine bodyPost_ret (v := vaV ⟨1, 0⟩ none 0 0) (by simp [results, Try.results43, go_sem, y0, y1, y2]; try exact ⟨rfl, rfl, rfl⟩) rfl ⟨⟨1, 0⟩, [], none, 0, rfl, HRV.out, Nat.le_refl _, by simp [InRow], three_below HBW.out (by omega)⟩
set_option maxRecDepth 100000 in
set_option maxHeartbeats 4000000 in
theorem rt_cls (X : S4) : RtOkT (rCls X) := by
  rintro h ks e hmy P A c S w hc hr hS hl
  cases e
  obtain ⟨b, hl1, hb⟩ := (LT_cls _ _).1 hl
  have HRV : Hid (RV (rCls X) S.data.toList (.mk ⟨2, b⟩ [])) := by unfold Hid; rw [hl1]; exact .cls X b hb
  have hlt : 0 < S.size := by rw [← sl_, hl1]; simp
  have hcb : S[0]'hlt = b := by
    have h' : S.data.toList[0]? = some b := by rw [hl1]; rfl
    have h2 : S.data.toList[0]? = some (S[0]'hlt) := by rw [List.getElem?_eq_getElem (by rw [sl_]; exact hlt)]; rfl
    rw [h2] at h'
    exact Option.some.inj h'
  have ea : ((S[0]'hlt).toNat : Int) = (b.toNat : Int) := by rw [hcb]
  have hl1' : ¬ ((S.size : Int) < 1) := by omega
  obtain ⟨hh, hhh⟩ : ∃ hh : RH, hh = ⟨3, X⟩ := ⟨_, rfl⟩
  have g2 : ((hh.k.toNat : Int) == 2) = false := by rw [hhh]; rfl
  have g3 : ((hh.k.toNat : Int) == 3) = true := by rw [hhh]; rfl
  rw [show reV ⟨3, X⟩ A ([] : List Re).length c = reV hh A 0 c by rw [hhh]; rfl]
  clear hhh
  obtain ⟨W, hW, hbW, hsW, e1W, e2W⟩ := reva_pre w hh A 0 c
  have HE := Lib.hid hW
  have HBW := Lib.hid hbW
  have HSW := Lib.hid hsW
  have E1 := Lib.hid e1W
  have E2 := Lib.hid e2W
  clear hW hbW e1W e2W hr hsW hl hl1 hcb hb
  go_enter Try.func43, Try.ntmps43
  go_upto_region 1 with fail
  rw [show (w.alloc _).alloc _ = W from HE.out]
  obtain ⟨x0, x1, x2, x3, x4, x5⟩ := re_at_box E1.out
  obtain ⟨⟨y0, y1, y2⟩, f0, f1, f2⟩ := va_cells E2.out
  go_wp2_with fail
  refine bodyPost_ret (v := vaV ⟨2, b⟩ none 0 0) (by simp [results, Try.results43, go_sem, y0, y1, y2]; try exact ⟨rfl, rfl, rfl⟩) rfl ⟨⟨2, b⟩, [], none, 0, rfl, HRV.out, Nat.le_refl _, by simp [InRow], three_below HBW.out (by omega)⟩
set_option maxRecDepth 100000 in
set_option maxHeartbeats 8000000 in
theorem rt_alt_ {hx : RH} {kx : List Re} {hy : RH} {ky : List Re} (mx : mayB (.mk hx kx) = true) (px : RtOk hx kx) (py : RtOk hy ky) : RtOk ⟨5, S4.zero⟩ [.mk hx kx, .mk hy ky] := by
  intro P A c S w hc hr hS hl
  rw [LT_alt] at hl
  obtain ⟨hh, hhh⟩ : ∃ hh : RH, hh = ⟨5, S4.zero⟩ := ⟨_, rfl⟩
  have g2 : ((hh.k.toNat : Int) == 2) = false := by rw [hhh]; rfl
  have g3 : ((hh.k.toNat : Int) == 3) = false := by rw [hhh]; rfl
  have g5 : ((hh.k.toNat : Int) == 5) = true := by rw [hhh]; rfl
  rw [show reV ⟨5, S4.zero⟩ A ([.mk hx kx, .mk hy ky] : List Re).length c = reV hh A 2 c by rw [hhh]; rfl]
  clear hhh
  obtain ⟨W, hW, hbW, hsW, e1W, e2W⟩ := reva_pre w hh A 2 c
  have HE := Lib.hid hW
  have HBW := Lib.hid hbW
  have HSW := Lib.hid hsW
  have E1 := Lib.hid e1W
  have E2 := Lib.hid e2W
  obtain ⟨ad, A1, c1, hA, hc1, hr1, u0, u1, u2, u3, u4, u5⟩ := kid0N (hr.below hbW)
  subst hA
  obtain ⟨ad', A2, c2, hA2, hc2, hr2, v0, v1, v2, v3, v4, v5⟩ := kid1N (hr.below hbW)
  obtain rfl := Option.some.inj hA2
  have HF := Lib.hid (fits_val hx kx A1 c1 S W mx hc1 hr1 hS)
  have HX : Hid (LT (.mk hx kx) S.data.toList → ∀ X, Below W.heap.size W X → Calls Try.prog 43 #[reV hx A1 kx.length c1, .string S] X (RtPost (.mk hx kx) S.data.toList X)) := fun hl X hX => px _ A1 c1 S X hc1 (hr1.below hX) hS hl
  have HY : Hid (LT (.mk hy ky) S.data.toList → ∀ X, Below W.heap.size W X → Calls Try.prog 43 #[reV hy A2 ky.length c2, .string S] X (RtPost (.mk hy ky) S.data.toList X)) := fun hl X hX => py _ A2 c2 S X hc2 (hr2.below hX) hS hl
  have Q : Hid (∀ X, Below W.heap.size W X → (X.cell? ad = some (.int .u8 (hx.k.toNat : Int)) ∧ X.cell? ⟨ad.block, ad.off + 1, none⟩ = some (.int .u64 (hx.s.a.toNat : Int)) ∧ X.cell? ⟨ad.block, ad.off + 2, none⟩ = some (.int .u64 (hx.s.b.toNat : Int)) ∧ X.cell? ⟨ad.block, ad.off + 3, none⟩ = some (.int .u64 (hx.s.c.toNat : Int)) ∧ X.cell? ⟨ad.block, ad.off + 4, none⟩ = some (.int .u64 (hx.s.d.toNat : Int)) ∧ X.cell? ⟨ad.block, ad.off + 5, none⟩ = some (.slice A1 kx.length c1)) ∧ X.cell? ⟨ad.block, ad.off + 6, none⟩ = some (.int .u8 (hy.k.toNat : Int)) ∧ X.cell? ⟨ad.block, ad.off + 6 + 1, none⟩ = some (.int .u64 (hy.s.a.toNat : Int)) ∧ X.cell? ⟨ad.block, ad.off + 6 + 2, none⟩ = some (.int .u64 (hy.s.b.toNat : Int)) ∧ X.cell? ⟨ad.block, ad.off + 6 + 3, none⟩ = some (.int .u64 (hy.s.c.toNat : Int)) ∧ X.cell? ⟨ad.block, ad.off + 6 + 4, none⟩ = some (.int .u64 (hy.s.d.toNat : Int)) ∧ X.cell? ⟨ad.block, ad.off + 6 + 5, none⟩ = some (.slice A2 ky.length c2)) := fun X hX => ⟨⟨keep_cell hX u0, keep_cell hX u1, keep_cell hX u2, keep_cell hX u3, keep_cell hX u4, keep_cell hX u5⟩, keep_cell hX v0, keep_cell hX v1, keep_cell hX v2, keep_cell hX v3, keep_cell hX v4, keep_cell hX v5⟩
  have HL := Lib.hid hl
  clear hW hbW e1W e2W hr hsW hl hr1 hr2 v0 v1 v2 v3 v4 v5 px py
  go_enter Try.func43, Try.ntmps43
  go_upto_region 1 with fail
  rw [show (w.alloc _).alloc _ = W from HE.out]
  obtain ⟨x0, x1, x2, x3, x4, x5⟩ := re_at_box E1.out
  go_wp2_with fail
  refine HF.out.mono ?_
  rintro e w1 ⟨rfl, hb1⟩
  clear x0 x1 x2 x3 x4 x5 u0 u1 u2 u3 u4 u5 HF
  obtain ⟨x0, x1, x2, x3, x4, x5⟩ := re_at_box ((hb1.block _ (lt_of_block E1.out)).trans E1.out)
  obtain ⟨⟨u0, u1, u2, u3, u4, u5⟩, v0, v1, v2, v3, v4, v5⟩ := Q.out _ hb1
  have hsw := HSW.out
  have hsz1 := hb1.size
  have HB1 := Lib.hid hb1
  clear hb1 Q HSW
  rcases hfb : fitB (.mk hx kx) S.data.toList with _ | _
  · have HCC := Lib.hid (HY.out (HL.out.resolve_left (fitB_false.1 hfb)) w1 HB1.out)
    have HNO := Lib.hid (fitB_false.1 hfb)
    clear hfb HX HY HL
    go_wp2_with fail
    refine HCC.out.mono ?_
    rintro e w2 ⟨hn, kn, An, cn, rfl, hv, hcn, hrn, hb2⟩
    have HV := Lib.hid hv
    have hsz2 := hb2.size
    clear x0 x1 x2 x3 x4 x5 u0 u1 u2 u3 u4 u5 v0 v1 v2 v3 v4 v5 HCC hv
    go_wp2_with fail
    refine (one_any 5 5 rfl (some ⟨w2.heap.size, 0, none⟩) 1 1 _).mono ?_
    rintro e w3 ⟨rfl, hb3⟩
    have hzz := below_from (below_new (Below.refl w2.heap.size w2) (.cells (vaA hn An kn.length cn) 24)) hb3
    have hbox := (hb3.block _ (by rw [World.size_alloc]; exact Nat.lt_succ_self _)).trans (heap_alloc_new w2 (.cells (vaA hn An kn.length cn) 24))
    have HROW := Lib.hid (va_one (P := fun x => w.heap.size + 1 + 1 ≤ x) hbox (by omega) hcn ((hrn.below hzz).weak fun x hx => by omega))
    have hb13 := below_from (below_from HB1.out hb2) hzz
    have HB3 := Lib.hid (below_from HBW.out hb13)
    obtain ⟨⟨y0, y1, y2⟩, f0, f1, f2⟩ := va_cells ((hb13.block _ (lt_of_block E2.out)).trans E2.out)
    clear hzz hbox hb13 hb3 hb2 hrn
    go_wp2_with fail
    refine bodyPost_ret (v := vaV ⟨5, 0⟩ (some ⟨w2.heap.size, 0, none⟩) 1 1) (by simp [results, Try.results43, go_sem, y0, y1, y2]; try exact ⟨rfl, rfl, rfl⟩) rfl ⟨⟨5, 0⟩, [.mk hn kn], some ⟨w2.heap.size, 0, none⟩, 1, rfl, .right _ _ _ _ HNO.out HV.out, Nat.le_refl _, (row_three HROW.out fun x hx => by omega).weak fun x hx => by omega, three_below HB3.out (by omega)⟩
  · have HCC := Lib.hid (HX.out (fitB_true.1 hfb) w1 HB1.out)
    clear hfb HX HY HL
    go_wp2_with fail
    refine HCC.out.mono ?_
    rintro e w2 ⟨hn, kn, An, cn, rfl, hv, hcn, hrn, hb2⟩
    have HV := Lib.hid hv
    have hsz2 := hb2.size
    clear x0 x1 x2 x3 x4 x5 u0 u1 u2 u3 u4 u5 v0 v1 v2 v3 v4 v5 HCC hv
    go_wp2_with fail
    refine (one_any 4 4 rfl (some ⟨w2.heap.size, 0, none⟩) 1 1 _).mono ?_
    rintro e w3 ⟨rfl, hb3⟩
    have hzz := below_from (below_new (Below.refl w2.heap.size w2) (.cells (vaA hn An kn.length cn) 24)) hb3
    have hbox := (hb3.block _ (by rw [World.size_alloc]; exact Nat.lt_succ_self _)).trans (heap_alloc_new w2 (.cells (vaA hn An kn.length cn) 24))
    have HROW := Lib.hid (va_one (P := fun x => w.heap.size + 1 + 1 ≤ x) hbox (by omega) hcn ((hrn.below hzz).weak fun x hx => by omega))
    have hb13 := below_from (below_from HB1.out hb2) hzz
    have HB3 := Lib.hid (below_from HBW.out hb13)
    obtain ⟨⟨y0, y1, y2⟩, f0, f1, f2⟩ := va_cells ((hb13.block _ (lt_of_block E2.out)).trans E2.out)
    clear hzz hbox hb13 hb3 hb2 hrn
    go_wp2_with fail
    refine bodyPost_ret (v := vaV ⟨4, 0⟩ (some ⟨w2.heap.size, 0, none⟩) 1 1) (by simp [results, Try.results43, go_sem, y0, y1, y2]; try exact ⟨rfl, rfl, rfl⟩) rfl ⟨⟨4, 0⟩, [.mk hn kn], some ⟨w2.heap.size, 0, none⟩, 1, rfl, .left _ _ _ _ HV.out, Nat.le_refl _, (row_three HROW.out fun x hx => by omega).weak fun x hx => by omega, three_below HB3.out (by omega)⟩
theorem may_two {k : UInt8} {x y : Re} (h : mayB (.mk ⟨k, S4.zero⟩ [x, y]) = true) : mayB x = true ∧ mayB y = true := by
  obtain ⟨h1, h2⟩ := may_iff.1 h
  simp only [T.size, T.sizes] at h2
  exact ⟨may_iff.2 ⟨(okT_two h1).1, by omega⟩, may_iff.2 ⟨(okT_two h1).2, by omega⟩⟩
theorem may_one {k : UInt8} {x : Re} (h : mayB (.mk ⟨k, S4.zero⟩ [x]) = true) : mayB x = true := by
  obtain ⟨h1, h2⟩ := may_iff.1 h
  simp only [T.size, T.sizes] at h2
  exact may_iff.2 ⟨okT_one h1, by omega⟩
theorem rt_alt {x y : Re} (px : RtOkT x) (py : RtOkT y) : RtOkT (rAlt x y) := by
  rintro h ks e hmy
  cases e
  obtain ⟨mx, my⟩ := may_two hmy
  obtain ⟨hx, kx⟩ := x
  obtain ⟨hy, ky⟩ := y
  exact rt_alt_ mx (px _ _ rfl mx) (py _ _ rfl my)
end Go.Proofs.Yteokbmngebckjaa
namespace Go.Proofs.Yteokbmngebckjaa
open Go.RowKit
set_option linter.unusedVariables false
set_option linter.unusedSimpArgs false

theorem seq_some {x y : Re} {s : List UInt8} (h : LT (rSeq x y) s) (hn : ∀ j, 0 ≤ j → j ≤ s.length → ¬ (LT x (s.take j) ∧ LT y (s.drop j))) : False := by
  obtain ⟨u, v, rfl, h1, h2⟩ := (LT_seq _ _ _).1 h
  exact hn u.length (Nat.zero_le _) (by rw [List.length_append]; omega) ⟨by rw [List.take_left]; exact h1, by rw [List.drop_left]; exact h2⟩
theorem ext_take (S : ByteArray) (n : Nat) : (S.extract 0 n).data.toList = S.data.toList.take n := by simp
set_option maxRecDepth 100000 in
set_option maxHeartbeats 16000000 in
theorem rt_seq_ {hx : RH} {kx : List Re} {hy : RH} {ky : List Re} (mx : mayB (.mk hx kx) = true) (my : mayB (.mk hy ky) = true) (px : RtOk hx kx) (py : RtOk hy ky) : RtOk ⟨4, S4.zero⟩ [.mk hx kx, .mk hy ky] := by
  intro P A c S w hc hr hS hl
  have HL := Lib.hid hl
  obtain ⟨hh, hhh⟩ : ∃ hh : RH, hh = ⟨4, S4.zero⟩ := ⟨_, rfl⟩
  have g2 : ((hh.k.toNat : Int) == 2) = false := by rw [hhh]; rfl
  have g3 : ((hh.k.toNat : Int) == 3) = false := by rw [hhh]; rfl
  have g5 : ((hh.k.toNat : Int) == 5) = false := by rw [hhh]; rfl
  have g4 : ((hh.k.toNat : Int) == 4) = true := by rw [hhh]; rfl
  rw [show reV ⟨4, S4.zero⟩ A ([.mk hx kx, .mk hy ky] : List Re).length c = reV hh A 2 c by rw [hhh]; rfl]
  clear hhh
  obtain ⟨W, hW, hbW, hsW, e1W, e2W⟩ := reva_pre w hh A 2 c
  have HE := Lib.hid hW
  have HBW := Lib.hid hbW
  have HSW := Lib.hid hsW
  have E1 := Lib.hid e1W
  have E2 := Lib.hid e2W
  obtain ⟨ad, A1, c1, hA, hc1, hr1, u0, u1, u2, u3, u4, u5⟩ := kid0N (hr.below hbW)
  subst hA
  obtain ⟨ad', A2, c2, hA2, hc2, hr2, v0, v1, v2, v3, v4, v5⟩ := kid1N (hr.below hbW)
  obtain rfl := Option.some.inj hA2
  have HF1 : Hid (∀ n X, n ≤ S.size → Below W.heap.size W X → Calls Try.prog 42 #[reV hx A1 kx.length c1, .string (S.extract 0 n)] X fun e w' => e = .returned (.bool (fitB (.mk hx kx) (S.data.toList.take n))) ∧ Below X.heap.size X w') := fun n X hn hX => by
    have := fits_val hx kx A1 c1 (S.extract 0 n) X mx hc1 (hr1.below hX) (by simp only [ByteArray.size_extract]; omega)
    rw [ext_take] at this
    exact this
  have HF2 : Hid (∀ n X, n ≤ S.size → Below W.heap.size W X → Calls Try.prog 42 #[reV hy A2 ky.length c2, .string (S.extract n S.size)] X fun e w' => e = .returned (.bool (fitB (.mk hy ky) (S.data.toList.drop n))) ∧ Below X.heap.size X w') := fun n X hn hX => by
    have := fits_val hy ky A2 c2 (S.extract n S.size) X my hc2 (hr2.below hX) (by simp only [ByteArray.size_extract]; omega)
    rw [ext_drop] at this
    exact this
  have HX : Hid (∀ n X, n ≤ S.size → LT (.mk hx kx) (S.data.toList.take n) → Below W.heap.size W X → Calls Try.prog 43 #[reV hx A1 kx.length c1, .string (S.extract 0 n)] X (RtPost (.mk hx kx) (S.data.toList.take n) X)) := fun n X hn hl hX => by
    have := px _ A1 c1 (S.extract 0 n) X hc1 (hr1.below hX) (by simp only [ByteArray.size_extract]; omega) (by rw [ext_take]; exact hl)
    rw [ext_take] at this
    exact this
  have HY : Hid (∀ n X, n ≤ S.size → LT (.mk hy ky) (S.data.toList.drop n) → Below W.heap.size W X → Calls Try.prog 43 #[reV hy A2 ky.length c2, .string (S.extract n S.size)] X (RtPost (.mk hy ky) (S.data.toList.drop n) X)) := fun n X hn hl hX => by
    have := py _ A2 c2 (S.extract n S.size) X hc2 (hr2.below hX) (by simp only [ByteArray.size_extract]; omega) (by rw [ext_drop]; exact hl)
    rw [ext_drop] at this
    exact this
  have Q : Hid (∀ X, Below W.heap.size W X → X.cell? ⟨w.heap.size, 5, none⟩ = some (.slice (some ad) 2 c) ∧ (X.cell? ad = some (.int .u8 (hx.k.toNat : Int)) ∧ X.cell? ⟨ad.block, ad.off + 1, none⟩ = some (.int .u64 (hx.s.a.toNat : Int)) ∧ X.cell? ⟨ad.block, ad.off + 2, none⟩ = some (.int .u64 (hx.s.b.toNat : Int)) ∧ X.cell? ⟨ad.block, ad.off + 3, none⟩ = some (.int .u64 (hx.s.c.toNat : Int)) ∧ X.cell? ⟨ad.block, ad.off + 4, none⟩ = some (.int .u64 (hx.s.d.toNat : Int)) ∧ X.cell? ⟨ad.block, ad.off + 5, none⟩ = some (.slice A1 kx.length c1)) ∧ X.cell? ⟨ad.block, ad.off + 6, none⟩ = some (.int .u8 (hy.k.toNat : Int)) ∧ X.cell? ⟨ad.block, ad.off + 6 + 1, none⟩ = some (.int .u64 (hy.s.a.toNat : Int)) ∧ X.cell? ⟨ad.block, ad.off + 6 + 2, none⟩ = some (.int .u64 (hy.s.b.toNat : Int)) ∧ X.cell? ⟨ad.block, ad.off + 6 + 3, none⟩ = some (.int .u64 (hy.s.c.toNat : Int)) ∧ X.cell? ⟨ad.block, ad.off + 6 + 4, none⟩ = some (.int .u64 (hy.s.d.toNat : Int)) ∧ X.cell? ⟨ad.block, ad.off + 6 + 5, none⟩ = some (.slice A2 ky.length c2)) := fun X hX => by
    obtain ⟨_, _, _, _, _, a5⟩ := re_at_box ((hX.block _ (lt_of_block e1W)).trans e1W)
    exact ⟨a5, ⟨keep_cell hX u0, keep_cell hX u1, keep_cell hX u2, keep_cell hX u3, keep_cell hX u4, keep_cell hX u5⟩, keep_cell hX v0, keep_cell hX v1, keep_cell hX v2, keep_cell hX v3, keep_cell hX v4, keep_cell hX v5⟩
  have HSS := Lib.hid hS
  clear hW hbW e1W e2W hr hsW hl hr1 hr2 u0 u1 u2 u3 u4 u5 v0 v1 v2 v3 v4 v5 px py mx my hS
  go_enter Try.func43, Try.ntmps43
  go_upto_region 1 with fail
  rw [show (w.alloc _).alloc _ = W from HE.out]
  obtain ⟨x0, x1, x2, x3, x4, x5⟩ := re_at_box E1.out
  go_wp2_with fail
  clear x0 x1 x2 x3 x4 x5
  go_loopw [5] (fun i wr => ∃ (m : Nat), m ≤ S.size + 1 ∧ i = .int .i64 ((m : Int) - 1) ∧ Hid (∀ j, m ≤ j → j ≤ S.data.toList.length → ¬ (LT (.mk hx kx) (S.data.toList.take j) ∧ LT (.mk hy ky) (S.data.toList.drop j))) ∧ Hid (Below W.heap.size W wr)) (fun i _ => (intOf i + 1).toNat)
  case atStart => exact ⟨S.size + 1, Nat.le_refl _, by rw [show (((S.size + 1 : Nat) : Int) - 1) = (S.size : Int) by omega], Lib.hid (fun j h1 h2 => by rw [sl_] at h2; omega), Lib.hid (Below.refl _ _)⟩
  case round =>
    obtain ⟨m, hm, rfl, HN, HB⟩ := hrel
    cases m with
    | zero => exact (seq_some HL.out HN.out).elim
    | succ n =>
      have hn : n ≤ S.size := by omega
      have ei : ((n + 1 : Nat) : Int) - 1 = (n : Int) := by omega
      rw [ei]
      have gge : decide ((n : Int) ≥ 0) = true := by simp
      have hni : (n : Int) ≤ (S.size : Int) := by omega
      have hnn : ¬ ((S.size : Int) < (n : Int)) := by omega
      have hn0 : ¬ ((n : Int) < 0) := by omega
      have gw : IntKind.i64.wrap ((n : Int) - 1) = (n : Int) - 1 := IntWalk.i64_in _ (by have := HSS.out; omega)
      have C1 : Hid (∀ q : BelowBy wr, Calls Try.prog 42 #[reV hx A1 kx.length c1, .string (S.extract 0 n)] q.w fun e w' => e = .returned (.bool (fitB (.mk hx kx) (S.data.toList.take n))) ∧ Below q.w.heap.size q.w w') := fun q => HF1.out n q.w hn (below_from HB.out q.h)
      have C2 : Hid (∀ q : BelowBy wr, Calls Try.prog 42 #[reV hy A2 ky.length c2, .string (S.extract n S.size)] q.w fun e w' => e = .returned (.bool (fitB (.mk hy ky) (S.data.toList.drop n))) ∧ Below q.w.heap.size q.w w') := fun q => HF2.out n q.w hn (below_from HB.out q.h)
      obtain ⟨x5, ⟨u0, u1, u2, u3, u4, u5⟩, v0, v1, v2, v3, v4, v5⟩ := Q.out _ HB.out
      have kx5 := fun p : BelowBy wr => BelowBy.cell x5 p
      have ku0 := fun p : BelowBy wr => BelowBy.cell u0 p
      have ku1 := fun p : BelowBy wr => BelowBy.cell u1 p
      have ku2 := fun p : BelowBy wr => BelowBy.cell u2 p
      have ku3 := fun p : BelowBy wr => BelowBy.cell u3 p
      have ku4 := fun p : BelowBy wr => BelowBy.cell u4 p
      have ku5 := fun p : BelowBy wr => BelowBy.cell u5 p
      have kv0 := fun p : BelowBy wr => BelowBy.cell v0 p
      have kv1 := fun p : BelowBy wr => BelowBy.cell v1 p
      have kv2 := fun p : BelowBy wr => BelowBy.cell v2 p
      have kv3 := fun p : BelowBy wr => BelowBy.cell v3 p
      have kv4 := fun p : BelowBy wr => BelowBy.cell v4 p
      have kv5 := fun p : BelowBy wr => BelowBy.cell v5 p
      clear x5 u0 u1 u2 u3 u4 u5 v0 v1 v2 v3 v4 v5
      rcases hf1 : fitB (.mk hx kx) (S.data.toList.take n) with _ | _
      · rw [hf1] at C1
        have hno := fitB_false.1 hf1
        have HN2 : Hid (∀ j, n ≤ j → j ≤ S.data.toList.length → ¬ (LT (.mk hx kx) (S.data.toList.take j) ∧ LT (.mk hy ky) (S.data.toList.drop j))) := fun j h1 h2 h3 => by
          rcases Nat.lt_or_ge n j with h4 | h4
          · exact HN.out j h4 h2 h3
          · have : j = n := by omega
            subst this
            exact hno h3.1
        clear hf1 hno C2
        go_wp2_with fail
        refine wp_region_below (by kernel_rfl) (by kernel_rfl) (Below.refl _ _) ?_
        repeat (go_big_quiet_step (first | (go_at_call 42; exact Calls.below_of (C1.out _))))
        refine wpQuiet_nil ?_
        intro wq hw1
        obtain ⟨⟨wq0, hq⟩, hw2⟩ := hw1
        subst hw2
        have HB2 := Lib.hid (below_from HB.out hq)
        clear kx5 ku0 ku1 ku2 ku3 ku4 ku5 kv0 kv1 kv2 kv3 kv4 kv5 hq C1
        go_wp2_with fail
        go_roundw
        case rel => exact ⟨n, by omega, rfl, HN2, HB2⟩
        case measure => simp [intOf]
      · rw [hf1] at C1
        rcases hf2 : fitB (.mk hy ky) (S.data.toList.drop n) with _ | _
        · rw [hf2] at C2
          have hno := fitB_false.1 hf2
          have HN2 : Hid (∀ j, n ≤ j → j ≤ S.data.toList.length → ¬ (LT (.mk hx kx) (S.data.toList.take j) ∧ LT (.mk hy ky) (S.data.toList.drop j))) := fun j h1 h2 h3 => by
            rcases Nat.lt_or_ge n j with h4 | h4
            · exact HN.out j h4 h2 h3
            · have : j = n := by omega
              subst this
              exact hno h3.2
          clear hf1 hf2 hno
          go_wp2_with fail
          refine wp_region_below (by kernel_rfl) (by kernel_rfl) (Below.refl _ _) ?_
          repeat (go_big_quiet_step (first | (go_at_call 42; with_reducible exact Calls.below_of (C1.out _)) | (go_at_call 42; with_reducible exact Calls.below_of (C2.out _))))
          refine wpQuiet_nil ?_
          intro wq hw1
          obtain ⟨⟨wq0, hq⟩, hw2⟩ := hw1
          subst hw2
          have HB2 := Lib.hid (below_from HB.out hq)
          clear kx5 ku0 ku1 ku2 ku3 ku4 ku5 kv0 kv1 kv2 kv3 kv4 kv5 hq C1 C2
          go_wp2_with fail
          go_roundw
          case rel => exact ⟨n, by omega, rfl, HN2, HB2⟩
          case measure => simp [intOf]
        · rw [hf2] at C2
          have HL1 := Lib.hid (fitB_true.1 hf1)
          have HL2 := Lib.hid (fitB_true.1 hf2)
          have HNM : Hid (NoMore (LT (.mk hx kx)) (LT (.mk hy ky)) (S.data.toList.take n) (S.data.toList.drop n)) := nomore_of (by rw [sl_]; exact hn) (fun j h1 h2 => HN.out j h1 h2)
          clear hf1 hf2
          go_wp2_with fail
          refine wp_region_below (by kernel_rfl) (by kernel_rfl) (Below.refl _ _) ?_
          repeat (go_big_quiet_step (first | (go_at_call 42; with_reducible exact Calls.below_of (C1.out _)) | (go_at_call 42; with_reducible exact Calls.below_of (C2.out _))))
          refine wpQuiet_nil ?_
          intro wq hw1
          obtain ⟨⟨wq0, hq⟩, hw2⟩ := hw1
          subst hw2
          have HB2 := Lib.hid (below_from HB.out hq)
          have CX : Hid (∀ X, Below wq.heap.size wq X → Calls Try.prog 43 #[reV hx A1 kx.length c1, .string (S.extract 0 n)] X (RtPost (.mk hx kx) (S.data.toList.take n) X)) := fun X hX => HX.out n X hn HL1.out (below_from HB2.out hX)
          have CY : Hid (∀ X, Below wq.heap.size wq X → Calls Try.prog 43 #[reV hy A2 ky.length c2, .string (S.extract n S.size)] X (RtPost (.mk hy ky) (S.data.toList.drop n) X)) := fun X hX => HY.out n X hn HL2.out (below_from HB2.out hX)
          have Q2 : Hid (∀ X, Below wq.heap.size wq X → X.cell? ⟨w.heap.size, 5, none⟩ = some (.slice (some ad) 2 c) ∧ (X.cell? ad = some (.int .u8 (hx.k.toNat : Int)) ∧ X.cell? ⟨ad.block, ad.off + 1, none⟩ = some (.int .u64 (hx.s.a.toNat : Int)) ∧ X.cell? ⟨ad.block, ad.off + 2, none⟩ = some (.int .u64 (hx.s.b.toNat : Int)) ∧ X.cell? ⟨ad.block, ad.off + 3, none⟩ = some (.int .u64 (hx.s.c.toNat : Int)) ∧ X.cell? ⟨ad.block, ad.off + 4, none⟩ = some (.int .u64 (hx.s.d.toNat : Int)) ∧ X.cell? ⟨ad.block, ad.off + 5, none⟩ = some (.slice A1 kx.length c1)) ∧ X.cell? ⟨ad.block, ad.off + 6, none⟩ = some (.int .u8 (hy.k.toNat : Int)) ∧ X.cell? ⟨ad.block, ad.off + 6 + 1, none⟩ = some (.int .u64 (hy.s.a.toNat : Int)) ∧ X.cell? ⟨ad.block, ad.off + 6 + 2, none⟩ = some (.int .u64 (hy.s.b.toNat : Int)) ∧ X.cell? ⟨ad.block, ad.off + 6 + 3, none⟩ = some (.int .u64 (hy.s.c.toNat : Int)) ∧ X.cell? ⟨ad.block, ad.off + 6 + 4, none⟩ = some (.int .u64 (hy.s.d.toNat : Int)) ∧ X.cell? ⟨ad.block, ad.off + 6 + 5, none⟩ = some (.slice A2 ky.length c2)) := fun X hX => Q.out X (below_from HB2.out hX)
          have E2q := Lib.hid ((HB2.out.block _ (lt_of_block E2.out)).trans E2.out)
          clear kx5 ku0 ku1 ku2 ku3 ku4 ku5 kv0 kv1 kv2 kv3 kv4 kv5 hq C1 C2 HX HY HF1 HF2 Q HN HL
          obtain ⟨x5, ⟨u0, u1, u2, u3, u4, u5⟩, v0, v1, v2, v3, v4, v5⟩ := Q2.out _ (Below.refl _ _)
          go_upto_region 14 with fail
          have hz := Below.refl wq.heap.size wq
          have ENTRY := Lib.hid True.intro
          go_region_law
            (first
              | (go_simp; go_at_call 43; (with_reducible refine (CX.out _ (by first | exact hz.drew | exact hz | fail)).mono ?_); rintro e wa ⟨ha, ka, Aa, ca, rfl, hva, hca, hra, hba⟩; (try have hrb2 := hrb2.there.below hba); have hra2 : InRow VE (fun x => wq.heap.size ≤ x) wa ka Aa 0 := hra.weak (fun x hx => by have h1 := hz.size; have h2 : wq.drew.heap.size = wq.heap.size := rfl; omega); have hz := below_from (by first | exact hz.drew | exact hz | fail) hba; obtain ⟨x5, ⟨u0, u1, u2, u3, u4, u5⟩, v0, v1, v2, v3, v4, v5⟩ := Q2.out _ hz)
              | (go_simp; go_at_call 43; (with_reducible refine (CY.out _ (by first | exact hz.drew | exact hz | fail)).mono ?_); rintro e wb ⟨hb, kb, Ab, cb, rfl, hvb, hcb, hrb, hbb⟩; (try have hra2 := hra2.there.below hbb); have hrb2 : InRow VE (fun x => wq.heap.size ≤ x) wb kb Ab 0 := hrb.weak (fun x hx => by have h1 := hz.size; have h2 : wq.drew.heap.size = wq.heap.size := rfl; omega); have hz := below_from (by first | exact hz.drew | exact hz | fail) hbb; obtain ⟨x5, ⟨u0, u1, u2, u3, u4, u5⟩, v0, v1, v2, v3, v4, v5⟩ := Q2.out _ hz)
              | (go_simp; go_at_call 64; (with_reducible refine (one_any 3 3 rfl _ _ _ _).mono ?_); rintro e wo ⟨rfl, hbo⟩; have hbox := (hbo.block _ (by rw [World.size_alloc]; exact Nat.lt_succ_self _)).trans (heap_alloc_new _ _); have hz3 := below_from (below_new hz _) hbo; obtain ⟨⟨y0, y1, y2⟩, f0, f1, f2⟩ := va_cells ((hz3.block _ (lt_of_block E2q.out)).trans E2q.out))
              | fail)
          all_goals
            have hsw := HSW.out
            have hsq := HB2.out.size
            have hszz := hz.size
            have hzz := below_from (below_new (Below.refl _ _) _) hbo
            have hra3 := (hra2.weak (ok' := fun x => w.heap.size + 1 + 1 ≤ x) (fun x hx => by have hx' : wq.heap.size ≤ x := (by first | exact hx | exact hx.1); omega)).below hzz
            have hrb3 := (hrb2.weak (ok' := fun x => w.heap.size + 1 + 1 ≤ x) (fun x hx => by have hx' : wq.heap.size ≤ x := (by first | exact hx | exact hx.1); omega)).below hzz
            have HROW := Lib.hid (va_two (P := fun x => w.heap.size + 1 + 1 ≤ x) hbox rfl (by omega) hca hra3 hcb hrb3)
            have HRVV : Hid (RV (rSeq (.mk hx kx) (.mk hy ky)) S.data.toList (vPair (.mk ha ka) (.mk hb kb))) := by
              have := RV.pair _ _ _ _ _ _ hva hvb HNM.out
              rw [List.take_append_drop] at this
              exact this
            have HB3 := Lib.hid (below_from HBW.out (below_from HB2.out hz3))
            clear hzz hra3 hrb3 hbox hbo hra2 hrb2 hra hrb hba hbb hz hz3 x5 u0 u1 u2 u3 u4 u5 v0 v1 v2 v3 v4 v5 hva hvb CX CY Q2
            go_wp2_with fail
            first
              | exact bodyPost_ret (v := vaV ⟨3, 0⟩ (some ⟨wb.heap.size, 0, none⟩) 2 2) (by simp [results, Try.results43, go_sem, y0, y1, y2]; try exact ⟨rfl, rfl, rfl⟩) rfl ⟨⟨3, 0⟩, [.mk ha ka, .mk hb kb], some ⟨wb.heap.size, 0, none⟩, 2, rfl, HRVV.out, Nat.le_refl _, (row_three HROW.out fun x hx => by omega).weak fun x hx => by omega, three_below HB3.out (by omega)⟩
              | exact bodyPost_ret (v := vaV ⟨3, 0⟩ (some ⟨wa.heap.size, 0, none⟩) 2 2) (by simp [results, Try.results43, go_sem, y0, y1, y2]; try exact ⟨rfl, rfl, rfl⟩) rfl ⟨⟨3, 0⟩, [.mk ha ka, .mk hb kb], some ⟨wa.heap.size, 0, none⟩, 2, rfl, HRVV.out, Nat.le_refl _, (row_three HROW.out fun x hx => by omega).weak fun x hx => by omega, three_below HB3.out (by omega)⟩
theorem rt_seq {x y : Re} (px : RtOkT x) (py : RtOkT y) : RtOkT (rSeq x y) := by
  rintro h ks e hmy
  cases e
  obtain ⟨mx, my⟩ := may_two hmy
  obtain ⟨hx, kx⟩ := x
  obtain ⟨hy, ky⟩ := y
  exact rt_seq_ mx my (px _ _ rfl mx) (py _ _ rfl my)
end Go.Proofs.Yteokbmngebckjaa
namespace Go.Proofs.Yteokbmngebckjaa
open Go.RowKit
set_option linter.unusedVariables false
set_option linter.unusedSimpArgs false

theorem star_nil {x : Re} {s : List UInt8} (h : LT (rStar x) s) (hn : ∀ j, 0 < j → j ≤ s.length → ¬ (LT x (s.take j) ∧ StarP (LT x) (s.drop j))) : s = [] := by
  have h2 := (LT_star _ _).1 h
  cases h2 with
  | nil => rfl
  | @cons u v h1 h2 h3 =>
    have : u.length ≠ 0 := fun e => h2 (List.eq_nil_of_length_eq_zero e)
    exact (hn u.length (by omega) (by rw [List.length_append]; omega) ⟨by rw [List.take_left]; exact h1, by rw [List.drop_left]; exact h3⟩).elim
theorem star_form {x : Re} {s : List UInt8} {v : Va} (h : RV (rStar x) s v) : ∃ l, v = vStars l := by
  cases h with
  | nil x => exact ⟨_, rfl⟩
  | cons x s t v l => exact ⟨_, rfl⟩
/-- a row of a value's kids, as an append takes it -/
theorem row_src {P : Nat → Prop} {w : World} {ks : List Va} {A : Option Addr} (h : InRow VE P w ks A 0) : ∃ news, Src w A ks.length 3 news ∧ (∀ u ∈ news, u.oneCell' = true) ∧ ∀ (k : Nat) (t : Va), ks[k]? = some t → ∃ c, (∀ j u, c[j]? = some u → news[k * (VE.sz + 1) + j]? = some u) ∧ InT VE P w t c := by
  obtain ⟨news, a1, a2, a3, a4⟩ := InRow.cells h
  refine ⟨news, ⟨a1, fun j u hu => ?_⟩, a3, a4⟩
  obtain ⟨ad, e, hc⟩ := a2 j u hu
  rw [Nat.zero_mul, Nat.zero_add] at hc
  exact ⟨ad, e, hc⟩
set_option maxRecDepth 100000 in
set_option maxHeartbeats 16000000 in
theorem rt_star_ {hx : RH} {kx : List Re} (ms : mayB (.mk ⟨6, S4.zero⟩ [.mk hx kx]) = true) (mx : mayB (.mk hx kx) = true) (px : RtOk hx kx) (N : Nat) : ∀ (P : Nat → Prop) (A : Option Addr) (c : Nat) (S : ByteArray) (w : World), 1 ≤ c → InRow RE P w [.mk hx kx] A 0 → S.size ≤ 100 → S.size < N → LT (.mk ⟨6, S4.zero⟩ [.mk hx kx]) S.data.toList →
    Calls Try.prog 43 #[reV ⟨6, S4.zero⟩ A 1 c, .string S] w (RtPost (.mk ⟨6, S4.zero⟩ [.mk hx kx]) S.data.toList w) := by
  induction N with
  | zero => intro P A c S w _ _ _ h; omega
  | succ N ih =>
  intro P A c S w hc hr hS hN hl
  have HL := Lib.hid hl
  have IH := Lib.hid ih
  clear ih
  obtain ⟨hh, hhh⟩ : ∃ hh : RH, hh = ⟨6, S4.zero⟩ := ⟨_, rfl⟩
  have g2 : ((hh.k.toNat : Int) == 2) = false := by rw [hhh]; rfl
  have g3 : ((hh.k.toNat : Int) == 3) = false := by rw [hhh]; rfl
  have g5 : ((hh.k.toNat : Int) == 5) = false := by rw [hhh]; rfl
  have g4 : ((hh.k.toNat : Int) == 4) = false := by rw [hhh]; rfl
  obtain ⟨ad, A1, c1, hA, hc1, hr1, u0, u1, u2, u3, u4, u5⟩ := kid0N hr
  subst hA
  have HHH := Lib.hid hhh
  rw [show reV ⟨6, S4.zero⟩ (some ad) 1 c = reV hh (some ad) 1 c by rw [hhh]]
  clear hhh
  obtain ⟨W, hW, hbW, hsW, e1W, e2W⟩ := reva_pre w hh (some ad) 1 c
  have HE := Lib.hid hW
  have HBW := Lib.hid hbW
  have HSW := Lib.hid hsW
  have E1 := Lib.hid e1W
  have E2 := Lib.hid e2W
  have HF1 : Hid (∀ n X, n ≤ S.size → Below w.heap.size w X → Calls Try.prog 42 #[reV hx A1 kx.length c1, .string (S.extract 0 n)] X fun e w' => e = .returned (.bool (fitB (.mk hx kx) (S.data.toList.take n))) ∧ Below X.heap.size X w') := fun n X hn hX => by
    have := fits_val hx kx A1 c1 (S.extract 0 n) X mx hc1 (hr1.below hX) (by simp only [ByteArray.size_extract]; omega)
    rw [ext_take] at this
    exact this
  have HF2 : Hid (∀ n X, n ≤ S.size → Below w.heap.size w X → Calls Try.prog 42 #[reV hh (some ad) 1 c, .string (S.extract n S.size)] X fun e w' => e = .returned (.bool (fitB (rStar (.mk hx kx)) (S.data.toList.drop n))) ∧ Below X.heap.size X w') := fun n X hn hX => by
    have := fits_val ⟨6, S4.zero⟩ [.mk hx kx] (some ad) c (S.extract n S.size) X ms hc (hr.below hX) (by simp only [ByteArray.size_extract]; omega)
    rw [ext_drop] at this
    rw [HHH.out]
    exact this
  have HX : Hid (∀ n X, n ≤ S.size → LT (.mk hx kx) (S.data.toList.take n) → Below w.heap.size w X → Calls Try.prog 43 #[reV hx A1 kx.length c1, .string (S.extract 0 n)] X (RtPost (.mk hx kx) (S.data.toList.take n) X)) := fun n X hn hl hX => by
    have := px _ A1 c1 (S.extract 0 n) X hc1 (hr1.below hX) (by simp only [ByteArray.size_extract]; omega) (by rw [ext_take]; exact hl)
    rw [ext_take] at this
    exact this
  have HR : Hid (∀ n X, n ≤ S.size → 0 < n → LT (rStar (.mk hx kx)) (S.data.toList.drop n) → Below w.heap.size w X → Calls Try.prog 43 #[reV hh (some ad) 1 c, .string (S.extract n S.size)] X (RtPost (rStar (.mk hx kx)) (S.data.toList.drop n) X)) := fun n X hn h0 hl hX => by
    have := IH.out _ (some ad) c (S.extract n S.size) X hc (hr.below hX) (by simp only [ByteArray.size_extract]; omega) (by simp only [ByteArray.size_extract]; omega) (by rw [ext_drop]; exact hl)
    rw [ext_drop] at this
    rw [HHH.out]
    exact this
  have Q : Hid (∀ X, Below W.heap.size W X → (X.cell? ⟨w.heap.size, 0, none⟩ = some (.int .u8 (hh.k.toNat : Int)) ∧ X.cell? ⟨w.heap.size, 1, none⟩ = some (.int .u64 (hh.s.a.toNat : Int)) ∧ X.cell? ⟨w.heap.size, 2, none⟩ = some (.int .u64 (hh.s.b.toNat : Int)) ∧ X.cell? ⟨w.heap.size, 3, none⟩ = some (.int .u64 (hh.s.c.toNat : Int)) ∧ X.cell? ⟨w.heap.size, 4, none⟩ = some (.int .u64 (hh.s.d.toNat : Int)) ∧ X.cell? ⟨w.heap.size, 5, none⟩ = some (.slice (some ad) 1 c)) ∧ X.cell? ad = some (.int .u8 (hx.k.toNat : Int)) ∧ X.cell? ⟨ad.block, ad.off + 1, none⟩ = some (.int .u64 (hx.s.a.toNat : Int)) ∧ X.cell? ⟨ad.block, ad.off + 2, none⟩ = some (.int .u64 (hx.s.b.toNat : Int)) ∧ X.cell? ⟨ad.block, ad.off + 3, none⟩ = some (.int .u64 (hx.s.c.toNat : Int)) ∧ X.cell? ⟨ad.block, ad.off + 4, none⟩ = some (.int .u64 (hx.s.d.toNat : Int)) ∧ X.cell? ⟨ad.block, ad.off + 5, none⟩ = some (.slice A1 kx.length c1)) := fun X hX => by
    have hX2 := below_from hbW hX
    exact ⟨re_at_box ((hX.block _ (lt_of_block e1W)).trans e1W), keep_cell hX2 u0, keep_cell hX2 u1, keep_cell hX2 u2, keep_cell hX2 u3, keep_cell hX2 u4, keep_cell hX2 u5⟩
  have HSS := Lib.hid hS
  have hms := (may_iff.1 ms).2
  have HMS := Lib.hid hms
  clear hW hbW e1W e2W hr hsW hl hr1 u0 u1 u2 u3 u4 u5 px mx ms hS hms
  go_enter Try.func43, Try.ntmps43
  go_upto_region 1 with fail
  rw [show (w.alloc _).alloc _ = W from HE.out]
  obtain ⟨x0, x1, x2, x3, x4, x5⟩ := re_at_box E1.out
  go_wp2_with fail
  clear x0 x1 x2 x3 x4 x5
  go_loopw [6] (fun i wr => ∃ (n : Nat), n ≤ S.size ∧ i = .int .i64 (n : Nat) ∧ Hid (∀ j, n < j → j ≤ S.data.toList.length → ¬ (LT (.mk hx kx) (S.data.toList.take j) ∧ StarP (LT (.mk hx kx)) (S.data.toList.drop j))) ∧ Hid (Below W.heap.size W wr)) (fun i _ => (intOf i).toNat)
  case atStart => exact ⟨S.size, Nat.le_refl _, rfl, Lib.hid (fun j h1 h2 => by rw [sl_] at h2; omega), Lib.hid (Below.refl _ _)⟩
  case round =>
    obtain ⟨n, hn, rfl, HN, HB⟩ := hrel
    by_cases h0 : n = 0
    · subst h0
      have hs0 := star_nil HL.out (fun j h1 h2 => HN.out j h1 h2)
      have HRV : Hid (RV (.mk ⟨6, S4.zero⟩ [.mk hx kx]) S.data.toList (.mk ⟨6, 0⟩ [])) := by unfold Hid; rw [hs0]; exact .nil _
      have gg : decide (((0 : Nat) : Int) > 0) = false := by decide
      obtain ⟨⟨y0, y1, y2⟩, f0, f1, f2⟩ := va_cells ((HB.out.block _ (lt_of_block E2.out)).trans E2.out)
      have HBF := Lib.hid (below_from HBW.out HB.out)
      clear hs0 HN HX HR HF1 HF2 Q
      go_wp2_with fail
      refine bodyPost_ret (v := vaV ⟨6, 0⟩ none 0 0) (by simp [results, Try.results43, go_sem, y0, y1, y2]; try exact ⟨rfl, rfl, rfl⟩) rfl ⟨⟨6, 0⟩, [], none, 0, rfl, HRV.out, Nat.le_refl _, by simp [InRow], three_below HBF.out (by omega)⟩
    · have gge : decide ((n : Int) > 0) = true := by simp; omega
      have hni : (n : Int) ≤ (S.size : Int) := by omega
      have hnn : ¬ ((S.size : Int) < (n : Int)) := by omega
      have hn0 : ¬ ((n : Int) < 0) := by omega
      have gw : IntKind.i64.wrap ((n : Int) - 1) = ((n - 1 : Nat) : Int) := by rw [IntWalk.i64_in _ (by have := HSS.out; omega)]; omega
      have C1 : Hid (∀ q : BelowBy wr, Calls Try.prog 42 #[reV hx A1 kx.length c1, .string (S.extract 0 n)] q.w fun e w' => e = .returned (.bool (fitB (.mk hx kx) (S.data.toList.take n))) ∧ Below q.w.heap.size q.w w') := fun q => HF1.out n q.w hn (below_from HBW.out (below_from HB.out q.h))
      have C2 : Hid (∀ q : BelowBy wr, Calls Try.prog 42 #[reV hh (some ad) 1 c, .string (S.extract n S.size)] q.w fun e w' => e = .returned (.bool (fitB (rStar (.mk hx kx)) (S.data.toList.drop n))) ∧ Below q.w.heap.size q.w w') := fun q => HF2.out n q.w hn (below_from HBW.out (below_from HB.out q.h))
      obtain ⟨⟨x0, x1, x2, x3, x4, x5⟩, u0, u1, u2, u3, u4, u5⟩ := Q.out _ HB.out
      have kx0 := fun p : BelowBy wr => BelowBy.cell x0 p
      have kx1 := fun p : BelowBy wr => BelowBy.cell x1 p
      have kx2 := fun p : BelowBy wr => BelowBy.cell x2 p
      have kx3 := fun p : BelowBy wr => BelowBy.cell x3 p
      have kx4 := fun p : BelowBy wr => BelowBy.cell x4 p
      have kx5 := fun p : BelowBy wr => BelowBy.cell x5 p
      have ku0 := fun p : BelowBy wr => BelowBy.cell u0 p
      have ku1 := fun p : BelowBy wr => BelowBy.cell u1 p
      have ku2 := fun p : BelowBy wr => BelowBy.cell u2 p
      have ku3 := fun p : BelowBy wr => BelowBy.cell u3 p
      have ku4 := fun p : BelowBy wr => BelowBy.cell u4 p
      have ku5 := fun p : BelowBy wr => BelowBy.cell u5 p
      clear x0 x1 x2 x3 x4 x5 u0 u1 u2 u3 u4 u5
      have HN2 : Hid (¬ (LT (.mk hx kx) (S.data.toList.take n) ∧ StarP (LT (.mk hx kx)) (S.data.toList.drop n)) → ∀ j, n - 1 < j → j ≤ S.data.toList.length → ¬ (LT (.mk hx kx) (S.data.toList.take j) ∧ StarP (LT (.mk hx kx)) (S.data.toList.drop j))) := fun hno j h1 h2 h3 => by
        rcases Nat.lt_or_ge n j with h4 | h4
        · exact HN.out j h4 h2 h3
        · have : j = n := by omega
          subst this
          exact hno h3
      rcases hf1 : fitB (.mk hx kx) (S.data.toList.take n) with _ | _
      · rw [hf1] at C1
        have HN3 := Lib.hid (HN2.out fun h => fitB_false.1 hf1 h.1)
        clear hf1 C2
        go_wp2_with fail
        refine wp_region_below (by kernel_rfl) (by kernel_rfl) (Below.refl _ _) ?_
        repeat (go_big_quiet_step (first | (go_at_call 42; with_reducible exact Calls.below_of (C1.out _))))
        refine wpQuiet_nil ?_
        intro wq hw1
        obtain ⟨⟨wq0, hq⟩, hw2⟩ := hw1
        subst hw2
        have HB2 := Lib.hid (below_from HB.out hq)
        clear kx0 kx1 kx2 kx3 kx4 kx5 ku0 ku1 ku2 ku3 ku4 ku5 hq C1
        go_wp2_with fail
        go_roundw
        case rel => exact ⟨n - 1, by omega, rfl, HN3, HB2⟩
        case measure => simp [intOf]; omega
      · rw [hf1] at C1
        rcases hf2 : fitB (rStar (.mk hx kx)) (S.data.toList.drop n) with _ | _
        · rw [hf2] at C2
          have HN3 := Lib.hid (HN2.out fun h => fitB_false.1 hf2 ((LT_star _ _).2 h.2))
          clear hf1 hf2
          go_wp2_with fail
          refine wp_region_below (by kernel_rfl) (by kernel_rfl) (Below.refl _ _) ?_
          repeat (go_big_quiet_step (first | (go_at_call 42; with_reducible exact Calls.below_of (C1.out _)) | (go_at_call 42; with_reducible exact Calls.below_of (C2.out _))))
          refine wpQuiet_nil ?_
          intro wq hw1
          obtain ⟨⟨wq0, hq⟩, hw2⟩ := hw1
          subst hw2
          have HB2 := Lib.hid (below_from HB.out hq)
          clear kx0 kx1 kx2 kx3 kx4 kx5 ku0 ku1 ku2 ku3 ku4 ku5 hq C1 C2
          go_wp2_with fail
          go_roundw
          case rel => exact ⟨n - 1, by omega, rfl, HN3, HB2⟩
          case measure => simp [intOf]; omega
        · rw [hf2] at C2
          have HL1 := Lib.hid (fitB_true.1 hf1)
          have HL2 := Lib.hid (fitB_true.1 hf2)
          have HNM : Hid (NoMore (LT (.mk hx kx)) (StarP (LT (.mk hx kx))) (S.data.toList.take n) (S.data.toList.drop n)) := nomore_of (by rw [sl_]; exact hn) (fun j h1 h2 => HN.out j h1 h2)
          clear hf1 hf2 HN2
          go_wp2_with fail
          refine wp_region_below (by kernel_rfl) (by kernel_rfl) (Below.refl _ _) ?_
          repeat (go_big_quiet_step (first | (go_at_call 42; with_reducible exact Calls.below_of (C1.out _)) | (go_at_call 42; with_reducible exact Calls.below_of (C2.out _))))
          refine wpQuiet_nil ?_
          intro wq hw1
          obtain ⟨⟨wq0, hq⟩, hw2⟩ := hw1
          subst hw2
          have HB2 := Lib.hid (below_from HB.out hq)
          clear kx0 kx1 kx2 kx3 kx4 kx5 ku0 ku1 ku2 ku3 ku4 ku5 hq C1 C2
          have CX : Hid (∀ X, Below wq.heap.size wq X → Calls Try.prog 43 #[reV hx A1 kx.length c1, .string (S.extract 0 n)] X (RtPost (.mk hx kx) (S.data.toList.take n) X)) := fun X hX => HX.out n X hn HL1.out (below_from HBW.out (below_from HB2.out hX))
          have CR : Hid (∀ X, Below wq.heap.size wq X → Calls Try.prog 43 #[reV hh (some ad) 1 c, .string (S.extract n S.size)] X (RtPost (rStar (.mk hx kx)) (S.data.toList.drop n) X)) := fun X hX => HR.out n X hn (by omega) HL2.out (below_from HBW.out (below_from HB2.out hX))
          have Q2 : Hid (∀ X, Below wq.heap.size wq X → (X.cell? ⟨w.heap.size, 0, none⟩ = some (.int .u8 (hh.k.toNat : Int)) ∧ X.cell? ⟨w.heap.size, 1, none⟩ = some (.int .u64 (hh.s.a.toNat : Int)) ∧ X.cell? ⟨w.heap.size, 2, none⟩ = some (.int .u64 (hh.s.b.toNat : Int)) ∧ X.cell? ⟨w.heap.size, 3, none⟩ = some (.int .u64 (hh.s.c.toNat : Int)) ∧ X.cell? ⟨w.heap.size, 4, none⟩ = some (.int .u64 (hh.s.d.toNat : Int)) ∧ X.cell? ⟨w.heap.size, 5, none⟩ = some (.slice (some ad) 1 c)) ∧ X.cell? ad = some (.int .u8 (hx.k.toNat : Int)) ∧ X.cell? ⟨ad.block, ad.off + 1, none⟩ = some (.int .u64 (hx.s.a.toNat : Int)) ∧ X.cell? ⟨ad.block, ad.off + 2, none⟩ = some (.int .u64 (hx.s.b.toNat : Int)) ∧ X.cell? ⟨ad.block, ad.off + 3, none⟩ = some (.int .u64 (hx.s.c.toNat : Int)) ∧ X.cell? ⟨ad.block, ad.off + 4, none⟩ = some (.int .u64 (hx.s.d.toNat : Int)) ∧ X.cell? ⟨ad.block, ad.off + 5, none⟩ = some (.slice A1 kx.length c1)) := fun X hX => Q.out X (below_from HB2.out hX)
          have E2q := Lib.hid ((HB2.out.block _ (lt_of_block E2.out)).trans E2.out)
          clear HX HR HF1 HF2 Q HN HL IH
          obtain ⟨⟨x0, x1, x2, x3, x4, x5⟩, u0, u1, u2, u3, u4, u5⟩ := Q2.out _ (Below.refl _ _)
          go_upto_region 19 with fail
          go_cut [7] from 109 to 113 (fun q wx => ∃ v, RV (rStar (.mk hx kx)) (S.data.toList.drop n) v ∧ BoxV (fun y => wq.heap.size ≤ y) wq v q wx)
          case first =>
            have hz := Below.refl wq.heap.size wq
            have Q3 : Hid (∀ X, Below wq.heap.size wq X → X.cell? ⟨w.heap.size, 0, none⟩ = some (.int .u8 (hh.k.toNat : Int)) ∧ X.cell? ⟨w.heap.size, 1, none⟩ = some (.int .u64 (hh.s.a.toNat : Int)) ∧ X.cell? ⟨w.heap.size, 2, none⟩ = some (.int .u64 (hh.s.b.toNat : Int)) ∧ X.cell? ⟨w.heap.size, 3, none⟩ = some (.int .u64 (hh.s.c.toNat : Int)) ∧ X.cell? ⟨w.heap.size, 4, none⟩ = some (.int .u64 (hh.s.d.toNat : Int)) ∧ X.cell? ⟨w.heap.size, 5, none⟩ = some (.slice (some ad) 1 c)) := fun X hX => (Q2.out X hX).1
            clear u0 u1 u2 u3 u4 u5
            go_region_held3 (fun X => X.cell? ⟨w.heap.size, 0, none⟩ = some (.int .u8 (hh.k.toNat : Int)) ∧ X.cell? ⟨w.heap.size, 1, none⟩ = some (.int .u64 (hh.s.a.toNat : Int)) ∧ X.cell? ⟨w.heap.size, 2, none⟩ = some (.int .u64 (hh.s.b.toNat : Int)) ∧ X.cell? ⟨w.heap.size, 3, none⟩ = some (.int .u64 (hh.s.c.toNat : Int)) ∧ X.cell? ⟨w.heap.size, 4, none⟩ = some (.int .u64 (hh.s.d.toNat : Int)) ∧ X.cell? ⟨w.heap.size, 5, none⟩ = some (.slice (some ad) 1 c))
              ((refine Q3.out _ ?_; (repeat (first | with_reducible exact hz | with_reducible refine Below.drew ?_ | with_reducible refine below_new ?_ _ | (with_reducible refine Below.setCell ?_ (by first | exact Nat.le_refl _ | (simp; done) | (simp; omega)) _)))))
              (first
                | (go_at_call 43; (with_reducible refine (CR.out _ ?_).mono ?_); (repeat (first | with_reducible exact hz | with_reducible refine Below.drew ?_ | with_reducible refine below_new ?_ _)); rintro e wi ⟨hn', kn, An, cn, rfl, hvn, hcn, hrn, hbi⟩; have HVN := Lib.hid hvn; clear hvn; (try (first | (have hq : Below (World.alloc wq (.cells #[.int .u8 0, .int .u8 0, .slice none 0 0] 24)).drew.heap.size (World.alloc wq (.cells #[.int .u8 0, .int .u8 0, .slice none 0 0] 24)).drew wi := (by with_reducible exact hbi); have hnk := new_kept hq; obtain ⟨⟨r0, r1, r2⟩, g0, g1, g2⟩ := va_cells hnk; have zr0 := fun o => keep_cell (below_new (Below.refl _ wi) o) r0; have zr1 := fun o => keep_cell (below_new (Below.refl _ wi) o) r1; have zr2 := fun o => keep_cell (below_new (Below.refl _ wi) o) r2; have zg0 := fun o => (va_cells (heap_keep1 hnk o)).2.1; have zg1 := fun o => (va_cells (heap_keep1 hnk o)).2.2.1; have zg2 := fun o => (va_cells (heap_keep1 hnk o)).2.2.2) | (have hq : Below (World.alloc (World.drew wq) (.cells #[.int .u8 0, .int .u8 0, .slice none 0 0] 24)).heap.size (World.alloc (World.drew wq) (.cells #[.int .u8 0, .int .u8 0, .slice none 0 0] 24)) wi := (by with_reducible exact hbi); have hnk := new_kept2 hq; obtain ⟨⟨r0, r1, r2⟩, g0, g1, g2⟩ := va_cells hnk; have zr0 := fun o => keep_cell (below_new (Below.refl _ wi) o) r0; have zr1 := fun o => keep_cell (below_new (Below.refl _ wi) o) r1; have zr2 := fun o => keep_cell (below_new (Below.refl _ wi) o) r2; have zg0 := fun o => (va_cells (heap_keep1 hnk o)).2.1; have zg1 := fun o => (va_cells (heap_keep1 hnk o)).2.2.1; have zg2 := fun o => (va_cells (heap_keep1 hnk o)).2.2.2) | fail)); have hz := below_from (by first | exact hz.drew | exact (below_new hz _).drew | exact below_new hz.drew _ | exact hz | exact below_new hz _) hbi)
                | fail)
            all_goals go_wp2_with fail
            all_goals go_meet
            all_goals have hzs := hz.size
            all_goals first
              | (have hlk := lt_of_block hnk
                 refine ⟨_, HVN.out, _, hn', kn, An, cn, rfl, rfl, hcn, three_setCells hnk, ?_, three_below hz (by omega), by omega⟩
                 refine (row_three (hrn.weak (ok' := fun x => wq.heap.size + 1 ≤ x) fun x hx => ?_) fun x hx => ?_).weak fun x hx => ⟨?_, ?_⟩
                 · have e : (World.alloc wq (.cells #[.int .u8 0, .int .u8 0, .slice none 0 0] 24)).heap.size = wq.heap.size + 1 := World.size_alloc _ _
                   have h2 : (World.alloc wq (.cells #[.int .u8 0, .int .u8 0, .slice none 0 0] 24)).heap.size ≤ x := hx
                   omega
                 · omega
                 · omega
                 · omega)
              | (refine ⟨_, HVN.out, _, hn', kn, An, cn, rfl, rfl, hcn, new_at1 (w := wi) _, (hrn.there.below (below_new (Below.refl _ _) _)).weak (fun x hx => ⟨hx.1, by have := hx.2; omega⟩), below_new hz _, by omega⟩; done)
              | fail
          case rest =>
            obtain ⟨v, hrv, b9, hv9, kn, An, cn, rfl, rfl, hcn, n9, hrn, hbD, hb9⟩ := hcut
            obtain ⟨wD, rfl⟩ : ∃ x, x = wc := ⟨_, rfl⟩
            obtain ⟨kn', hkn⟩ := star_form hrv
            injection hkn with hh9 hk9
            subst hh9 hk9
            have hnl : kn.length ≤ 300000 := by
              have h1 := RV_size hrv
              have h2 := T.length_le_sizes kn
              have h3 := HMS.out
              have h4 := HSS.out
              have h5 : (rStar (T.mk hx kx)).size * ((S.data.toList.drop n).length + 1) ≤ 2000 * 101 := Nat.mul_le_mul h3 (by rw [List.length_drop, sl_]; omega)
              simp only [T.size] at h1 h5
              omega
            have HRV2 := Lib.hid hrv
            have HCN := Lib.hid hcn
            have N9 := Lib.hid n9
            have HRN := Lib.hid hrn
            have HBD := Lib.hid hbD
            have hbDs := hbD.size
            have hl9 := lt_of_block n9
            have E2D := Lib.hid ((hbD.block _ (lt_of_block E2q.out)).trans E2q.out)
            have HBWD := Lib.hid (below_from HBW.out (below_from HB2.out hbD))
            have hsw := HSW.out
            have hsq := HB2.out.size
            have CX2 : Hid (∀ X, Below wD.heap.size wD X → Calls Try.prog 43 #[reV hx A1 kx.length c1, .string (S.extract 0 n)] X (RtPost (.mk hx kx) (S.data.toList.take n) X)) := fun X hX => CX.out X (below_from HBD.out hX)
            have Q4 : Hid (∀ X, Below wD.heap.size wD X → X.cell? ⟨b9, 2, none⟩ = some (.slice An kn.length cn) ∧ X.cell? ⟨w.heap.size, 5, none⟩ = some (.slice (some ad) 1 c) ∧ X.cell? ad = some (.int .u8 (hx.k.toNat : Int)) ∧ X.cell? ⟨ad.block, ad.off + 1, none⟩ = some (.int .u64 (hx.s.a.toNat : Int)) ∧ X.cell? ⟨ad.block, ad.off + 2, none⟩ = some (.int .u64 (hx.s.b.toNat : Int)) ∧ X.cell? ⟨ad.block, ad.off + 3, none⟩ = some (.int .u64 (hx.s.c.toNat : Int)) ∧ X.cell? ⟨ad.block, ad.off + 4, none⟩ = some (.int .u64 (hx.s.d.toNat : Int)) ∧ X.cell? ⟨ad.block, ad.off + 5, none⟩ = some (.slice A1 kx.length c1)) := fun X hX => by
              obtain ⟨⟨_, _, _, _, _, a5⟩, a6⟩ := Q2.out X (below_from HBD.out hX)
              obtain ⟨_, _, a2⟩ := va_at_box ((hX.block _ (lt_of_block N9.out)).trans N9.out)
              exact ⟨a2, a5, a6⟩
            clear hcn n9 hrn hbD hrv Q2 CX CR E2q x0 x1 x2 x3 x4 x5 u0 u1 u2 u3 u4 u5
            have hz := Below.refl wD.heap.size wD
            obtain ⟨z2, x5, u0, u1, u2, u3, u4, u5⟩ := Q4.out _ hz
            go_upto_region 20 with fail
            have ENTRY := Lib.hid True.intro
            go_region_law
              (first
                | (go_simp; go_at_call 43; (with_reducible refine (CX2.out _ (by first | exact hz.drew | exact hz | fail)).mono ?_); rintro e wa ⟨ha, ka, Aa, ca, rfl, hva, hca, hra, hba⟩; have hz := below_from (by first | exact hz.drew | exact hz | fail) hba; obtain ⟨z2, x5, u0, u1, u2, u3, u4, u5⟩ := Q4.out _ hz; have z2a := fun ob => keep_cell (below_new (Below.refl wa.heap.size wa) ob) z2; have hsa := hz.size; have hra2 : InRow VE (fun x => w.heap.size + 1 + 1 ≤ x ∧ x < wa.heap.size) wa ka Aa 0 := hra.there.weak (fun x hx => by have h1 := hx.1; have h2 : wD.drew.heap.size = wD.heap.size := rfl; exact ⟨by omega, hx.2⟩); obtain ⟨h0', cs0, hown0, hk0⟩ := va_new (h := ha) (t := 24) hca hra2 (fun b hb => hb.2) (w.heap.size + 1 + 1) (by omega); obtain ⟨news, hsrc, hone, hkn⟩ := row_src ((HRN.out.there.below (below_from hz (below_new (Below.refl wa.heap.size wa) (.cells (vaA ha Aa ka.length ca) 24)))).weak (ok' := fun x => w.heap.size + 1 + 1 ≤ x ∧ x < wa.heap.size) (fun x hx => ⟨by have := hx.1.1; omega, by have := hx.2; omega⟩)))
                | (refine step_app _ (by rfl) (.tmp 122) (.tmp 124) 22 (by rfl) (w.heap.size + 1 + 1) 24 _ 3 32 Try.underlying22 Try.info_va rfl (by decide) _ 1 cs0 (by rfl) hown0 An kn.length cn news (by rfl) hsrc hone (by unfold maxLen; omega) (by omega) (by rw [World.size_alloc]; omega) ?_; intro v5 w5 ho5 hg5 hat5; have hr5 := OwnT.app h0' hown0 hk0 hkn ho5 hg5 hat5 (fun b hb => by rw [World.size_alloc]; have := hb.2; omega); obtain ⟨A5, c5, hv5, hc5, hrow5⟩ := hr5.row; subst hv5)
                | (go_simp; go_at_call 64; (with_reducible refine (one_any 6 6 rfl _ _ _ _).mono ?_); rintro e wo ⟨rfl, hbo⟩; have hzx := below_new hz (.cells (vaA ha Aa ka.length ca) 24); have hz5 := hzx.grown hg5 hzx.size (fun j hj => by cases hj; exact hsa); have hzo := below_from hz5 hbo; obtain ⟨⟨y0, y1, y2⟩, f0, f1, f2⟩ := va_cells ((hzo.block _ (lt_of_block E2D.out)).trans E2D.out))
                | fail)
            all_goals
              have HROW := Lib.hid ((hrow5.weak (ok' := fun x => w.heap.size + 1 + 1 ≤ x) (fun x hx => by
                rcases hx with hx | hx
                · exact hx.1
                · exact own_base ho5 _ hx)).below hbo)
              have HRVV : Hid (RV (.mk ⟨6, S4.zero⟩ [.mk hx kx]) S.data.toList (.mk ⟨6, 0⟩ ([.mk ha ka] ++ kn))) := by
                have := RV.cons _ _ _ _ _ hva (fun e => by
                  have h1 := congrArg List.length e
                  rw [List.length_take, sl_, List.length_nil] at h1
                  omega) HRV2.out HNM.out
                rw [List.take_append_drop] at this
                exact this
              have HBO := Lib.hid (below_from HBWD.out hzo)
              have HC5 := Lib.hid hc5
              clear hrow5 hr5 ho5 hg5 hat5 hown0 hk0 h0' hsrc hone hkn hbo hzx hz5 hzo hra hra2 hba hz z2 z2a x5 u0 u1 u2 u3 u4 u5 hva Q4 CX2
              go_wp2_with fail
              exact bodyPost_ret (v := vaV ⟨6, 0⟩ A5 (1 + kn.length) c5) (by simp [results, Try.results43, go_sem, y0, y1, y2]; omega) rfl ⟨⟨6, 0⟩, [.mk ha ka] ++ kn, A5, c5, by rw [List.length_append]; rfl, HRVV.out, HC5.out, (row_three HROW.out fun x hx => by omega).weak fun x hx => by omega, three_below HBO.out (by omega)⟩
theorem rt_star {x : Re} (px : RtOkT x) : RtOkT (rStar x) := by
  rintro h ks e hmy
  cases e
  have mx := may_one hmy
  obtain ⟨hx, kx⟩ := x
  intro P A c S w hc hr hS hl
  exact rt_star_ hmy mx (px _ _ rfl mx) (S.size + 1) P A c S w hc hr hS (Nat.lt_succ_self _) hl
theorem rt_all : ∀ t : Re, okT t = true → RtOkT t := by
  refine okT_ind ?_ ?_ ?_ ?_ ?_ ?_
  · rintro h ks e hmy P A c S w hc hr hS hl
    cases e
    exact ((LT_emp _).1 hl).elim
  · exact rt_eps
  · intro s hs; exact rt_cls s
  · intro x y hx hy ihx ihy; exact rt_seq ihx ihy
  · intro x y hx hy ihx ihy; exact rt_alt ihx ihy
  · intro x hx ih; exact rt_star ih
end Go.Proofs.Yteokbmngebckjaa
namespace Go.Proofs.Yteokbmngebckjaa
open Go.RowKit
set_option linter.unusedVariables false
set_option linter.unusedSimpArgs false

def RightRel (t : Re) (s : List UInt8) (v : Va) (b : Bool) : Prop := (b = true ∧ mayB t = true ∧ RV t s v) ∨ (b = false ∧ v = .mk vaH0 [] ∧ ¬ (mayB t = true ∧ LT t s))
def RightPost (t : Re) (s : List UInt8) (w : World) (e : Ending) (w' : World) : Prop := ∃ h' k' A' c' b, e = .returned (.tuple #[vaV h' A' k'.length c', .bool b]) ∧ RightRel t s (.mk h' k') b ∧ k'.length ≤ c' ∧ InRow VE (fun x => w.heap.size ≤ x) w' k' A' 0 ∧ Below w.heap.size w w'
set_option maxRecDepth 100000 in
set_option maxHeartbeats 8000000 in
theorem right_any {P : Nat → Prop} (h : RH) (ks : List Re) (A : Option Addr) (c : Nat) (S : ByteArray) (w : World) (hm : T.sizes ks ≤ 900000) (hc : ks.length ≤ c) (hr : InRow RE P w ks A 0) (hS : S.size ≤ 100) :
    Calls Try.prog 22 #[reV h A ks.length c, .string S] w (RightPost (.mk h ks) S.data.toList w) := by
  obtain ⟨W, hW, hbW, hsW, e1W, e2W⟩ := reva_pre w h A ks.length c
  have HF := Lib.hid (fits_any h ks A c S W hm hc (hr.below hbW) hS)
  have HRT : Hid (mayB (.mk h ks) = true → LT (.mk h ks) S.data.toList → ∀ X, Below w.heap.size w X → Calls Try.prog 43 #[reV h A ks.length c, .string S] X (RtPost (.mk h ks) S.data.toList X)) := fun hmy hl X hX => rt_all _ (may_okT hmy) h ks rfl hmy _ A c S X hc (hr.below hX) hS hl
  have HE := Lib.hid hW
  have HBW := Lib.hid hbW
  have HSW := Lib.hid hsW
  have E1 := Lib.hid e1W
  have E2 := Lib.hid e2W
  clear hW hbW hsW e1W e2W hr
  go_enter Try.func22, Try.ntmps22
  go_upto_region 1 with fail
  rw [show (w.alloc _).alloc _ = W from HE.out]
  obtain ⟨x0, x1, x2, x3, x4, x5⟩ := re_at_box E1.out
  go_wp2_with fail
  refine HF.out.mono ?_
  rintro e w1 ⟨b, rfl, hb, hb1⟩
  clear x0 x1 x2 x3 x4 x5 HF
  have HB1 := Lib.hid (below_from HBW.out hb1)
  have E11 := (hb1.block _ (lt_of_block E1.out)).trans E1.out
  have E21 := Lib.hid ((hb1.block _ (lt_of_block E2.out)).trans E2.out)
  have HI := Lib.hid hb
  clear hb hb1
  cases b with
  | false =>
    have HRL : Hid (RightRel (.mk h ks) S.data.toList (.mk vaH0 []) false) := .inr ⟨rfl, rfl, fun hh => by have := HI.out.2 hh; cases this⟩
    obtain ⟨⟨y0, y1, y2⟩, f0, f1, f2⟩ := va_cells E21.out
    clear E11
    go_wp2_with fail
    refine bodyPost_ret (v := .tuple #[vaV vaH0 none 0 0, .bool false]) (by simp [results, Try.results22, go_sem, y0, y1, y2]; try exact ⟨rfl, rfl, rfl⟩) rfl ⟨vaH0, [], none, 0, false, rfl, HRL.out, Nat.le_refl _, by simp [InRow], three_below HB1.out (by omega)⟩
  | true =>
    obtain ⟨hmy, hl⟩ := HI.out.1 rfl
    have HC := Lib.hid (HRT.out hmy hl w1 HB1.out)
    have HMY := Lib.hid hmy
    obtain ⟨x0, x1, x2, x3, x4, x5⟩ := re_at_box E11
    clear HRT hmy hl E11
    go_wp2_with fail
    refine HC.out.mono ?_
    rintro e w2 ⟨hn, kn, An, cn, rfl, hv, hcn, hrn, hb2⟩
    have HRL : Hid (RightRel (.mk h ks) S.data.toList (.mk hn kn) true) := .inl ⟨rfl, HMY.out, hv⟩
    have hs1 := HB1.out.size
    have hsw := HSW.out
    have hl2 := lt_of_block E21.out
    have HB2 := Lib.hid (below_from HB1.out hb2)
    obtain ⟨⟨y0, y1, y2⟩, f0, f1, f2⟩ := va_cells ((hb2.block _ (lt_of_block E21.out)).trans E21.out)
    have HRN := Lib.hid hrn
    clear hb2 hrn hv x0 x1 x2 x3 x4 x5 HC
    go_wp2_with fail
    refine bodyPost_ret (v := .tuple #[vaV hn An kn.length cn, .bool true]) (by simp [results, Try.results22, go_sem, y0, y1, y2]; try exact ⟨rfl, rfl, rfl⟩) rfl ⟨hn, kn, An, cn, true, rfl, HRL.out, hcn, (row_three HRN.out fun x hx => by omega).weak fun x hx => by omega, three_below HB2.out (by omega)⟩
end Go.Proofs.Yteokbmngebckjaa
