/- What the document takes of bits: at a Star. -/
import Derived.Test.YteokbmngebckjaaDoorRk3
import Derived.Test.YteokbmngebckjaaDoorBw
namespace Go.Proofs.YteokbmngebckjaaDoor
open Go.RowKit
set_option linter.unusedVariables false
set_option linter.unusedSimpArgs false

def strLenV (v : Value) : Nat := match v with | .string s => s.size | _ => 0
set_option maxRecDepth 100000 in
set_option maxHeartbeats 4000000 in
theorem rk_star_ {hx : RH} {kx : List Re} (hox : okT (.mk hx kx) = true) (px : RkOk hx kx) (P : Nat → Prop) (A : Option Addr) (c : Nat) (S : ByteArray) (w : World) (hc : 1 ≤ c) (hr : InRow RE P w [.mk hx kx] A 0) (hS : S.size ≤ 1000000000) :
    Calls Tryd.prog 24 #[reV ⟨6, S4.zero⟩ A 1 c, .string S] w (RkPost (rStar (.mk hx kx)) S.data.toList w) := by
  obtain ⟨hh, hhh⟩ : ∃ hh : RH, hh = ⟨6, S4.zero⟩ := ⟨_, rfl⟩
  have g2 : ((hh.k.toNat : Int) == 2) = false := by rw [hhh]; rfl
  have g3 : ((hh.k.toNat : Int) == 3) = false := by rw [hhh]; rfl
  have g4 : ((hh.k.toNat : Int) == 4) = false := by rw [hhh]; rfl
  have g5 : ((hh.k.toNat : Int) == 5) = false := by rw [hhh]; rfl
  have g6 : ((hh.k.toNat : Int) == 6) = true := by rw [hhh]; rfl
  rw [show reV ⟨6, S4.zero⟩ A 1 c = reV hh A 1 c by rw [hhh]]
  clear hhh
  obtain ⟨W, hW, hbW, hsW, e1W, e2W, e3W⟩ := rk_pre w hh A 1 c
  have HE := Lib.hid hW
  have HBW := Lib.hid hbW
  have E1 := Lib.hid e1W
  have E2 := Lib.hid e2W
  have E3 := Lib.hid e3W
  have HSW := Lib.hid hsW
  obtain ⟨ad, A1, c1, hA, hc1, hr1, u0, u1, u2, u3, u4, u5⟩ := kid0N (hr.below hbW)
  subst hA
  have HTA : Hid (takeT (rStar (.mk hx kx)) S.data.toList = (starT (.mk hx kx) S.data.toList).map fun r => (vStars r.1, r.2)) := take_starT _ _
  obtain ⟨V, hV⟩ : ∃ V, W.alloc (.cells #[] 32) = V := ⟨_, rfl⟩
  have hbV : Below W.heap.size W V := by rw [← hV]; exact below_new (Below.refl _ _) _
  have hown : V.ownsRow (w.heap.size + 1 + 1 + 1) 32 3 (.slice (some ⟨w.heap.size + 1 + 1 + 1, 0, none⟩) 0 0) 0 [] := by
    have := World.ownsRow_lit (base := W.heap.size) (e := 32) (size := 3) W #[] 0 (by simp) (by decide) rfl
    rw [hV, hsW] at this
    exact this
  have hbwV := below_from hbW hbV
  have Q : Hid (∀ X, Below W.heap.size W X → X.cell? ⟨w.heap.size, 5, none⟩ = some (.slice (some ad) 1 c) ∧ X.cell? ad = some (.int .u8 (hx.k.toNat : Int)) ∧ X.cell? ⟨ad.block, ad.off + 1, none⟩ = some (.int .u64 (hx.s.a.toNat : Int)) ∧ X.cell? ⟨ad.block, ad.off + 2, none⟩ = some (.int .u64 (hx.s.b.toNat : Int)) ∧ X.cell? ⟨ad.block, ad.off + 3, none⟩ = some (.int .u64 (hx.s.c.toNat : Int)) ∧ X.cell? ⟨ad.block, ad.off + 4, none⟩ = some (.int .u64 (hx.s.d.toNat : Int)) ∧ X.cell? ⟨ad.block, ad.off + 5, none⟩ = some (.slice A1 kx.length c1)) := fun X hX => by
    obtain ⟨_, _, _, _, _, a5⟩ := re_at_box ((hX.block _ (lt_of_block e1W)).trans e1W)
    exact ⟨a5, keep_cell hX u0, keep_cell hX u1, keep_cell hX u2, keep_cell hX u3, keep_cell hX u4, keep_cell hX u5⟩
  have CB0 : Hid (∀ (S1 : ByteArray) X, S1.size ≤ 1000000000 → Below W.heap.size W X → Calls Tryd.prog 24 #[reV hx A1 kx.length c1, .string S1] X (RkPost (.mk hx kx) S1.data.toList X)) := fun S1 X h1 hX => px _ A1 c1 S1 X hc1 (hr1.below hX) h1
  have HBV0 : Hid (Below W.heap.size W V) := hbV
  have HO0 : Hid (OwnT VE (fun _ => False) V (w.heap.size + 1 + 1 + 1) 32 (.slice (some ⟨w.heap.size + 1 + 1 + 1, 0, none⟩) 0 0) []) := ⟨fun b hb => hb.elim, [], hown, fun k t ht => by simp at ht⟩
  have HVV := Lib.hid hV
  have HSZ0 : Hid (([] : List Va).length + S.size ≤ 1000000000) := by unfold Hid; simpa using hS
  clear hW hbW hsW e1W e2W e3W hr hr1 px u0 u1 u2 u3 u4 u5 hV hbV hown hbwV
  obtain ⟨x0, x1, x2, x3, x4, x5⟩ := re_at_box E1.out
  obtain ⟨⟨y0, y1, y2⟩, f0, f1, f2⟩ := va_cells E2.out
  obtain ⟨⟨p0, p1, p2⟩, _, _, _⟩ := va_cells E3.out
  go_enter Tryd.func24, Tryd.ntmps24
  go_upto_region 2 with fail
  rw [show ((w.alloc _).alloc _).alloc _ = W from HE.out]
  go_upto_region 22 with fail
  have hsw := HSW.out
  simp only [hsw]
  rw [show W.alloc _ = V from HVV.out]
  clear x0 x1 x2 x3 x4 x5 y0 y1 y2 f0 f1 f2 p0 p1 p2
  go_loopw [1, 18] (fun sv o wr => ∃ (Sr : ByteArray) (okk : Nat → Prop) (l : List Va) (o2 : Value), sv = .string Sr ∧ o2 = o ∧ Hid (starT (.mk hx kx) S.data.toList = (starT (.mk hx kx) Sr.data.toList).map fun r => (l ++ r.1, r.2)) ∧ Hid (l.length + Sr.size ≤ 1000000000) ∧ Hid (OwnT VE okk wr (w.heap.size + 1 + 1 + 1) 32 o2 l) ∧ Hid (∀ x, okk x → w.heap.size + 1 + 1 + 1 ≤ x ∧ x < wr.heap.size) ∧ Hid (Below W.heap.size W wr)) (fun sv _ _ => strLenV sv)
  case atStart => exact ⟨S, fun _ => False, [], _, rfl, rfl, Lib.hid (by cases starT (.mk hx kx) S.data.toList <;> simp), HSZ0, HO0, Lib.hid (fun x hx => hx.elim), HBV0⟩
  case round =>
    clear HO0 HSZ0 HBV0
    obtain ⟨Sr, okk, l, o, rfl, rfl, HREL, HLS, HOw, HK, HBR⟩ := hrel
    have E2r := Lib.hid ((HBR.out.block _ (lt_of_block E2.out)).trans E2.out)
    have E3r := Lib.hid ((HBR.out.block _ (lt_of_block E3.out)).trans E3.out)
    have HBWr := Lib.hid (below_from HBW.out HBR.out)
    have HB48 : Hid (Calls Tryd.prog 38 #[.string Sr, .int .u8 48] wr fun e w' => e = .returned (.bool (decide (Sr.data.toList.head? = some 48))) ∧ w' = wr) := rbit_any Sr 48 wr
    have HB49 : Hid (Calls Tryd.prog 38 #[.string Sr, .int .u8 49] wr fun e w' => e = .returned (.bool (decide (Sr.data.toList.head? = some 49))) ∧ w' = wr) := rbit_any Sr 49 wr
    by_cases hh48 : Sr.data.toList.head? = some 48
    · obtain ⟨s1, hs1, hs2, hlt, hls⟩ := head_cons hh48
      rw [decide_eq_true hh48] at HB48
      have HX1 : Hid (Sr.data.toList = 48 :: s1) := hs1
      have HLT : Hid (s1.length + 1 = Sr.size) := by unfold Hid; rw [← sl_, hs1]; rfl
      have CB : Hid (∀ X, Below wr.heap.size wr X → Calls Tryd.prog 24 #[reV hx A1 kx.length c1, .string (Sr.extract 1 Sr.size)] X (RkPost (.mk hx kx) s1 X)) := fun X hX => by
        have := CB0.out (Sr.extract 1 Sr.size) X (by have := HLS.out; omega) (below_from HBR.out hX)
        rwa [hs2] at this
      have QR : Hid (∀ X, Below wr.heap.size wr X → X.cell? ⟨w.heap.size, 5, none⟩ = some (.slice (some ad) 1 c) ∧ X.cell? ad = some (.int .u8 (hx.k.toNat : Int)) ∧ X.cell? ⟨ad.block, ad.off + 1, none⟩ = some (.int .u64 (hx.s.a.toNat : Int)) ∧ X.cell? ⟨ad.block, ad.off + 2, none⟩ = some (.int .u64 (hx.s.b.toNat : Int)) ∧ X.cell? ⟨ad.block, ad.off + 3, none⟩ = some (.int .u64 (hx.s.c.toNat : Int)) ∧ X.cell? ⟨ad.block, ad.off + 4, none⟩ = some (.int .u64 (hx.s.d.toNat : Int)) ∧ X.cell? ⟨ad.block, ad.off + 5, none⟩ = some (.slice A1 kx.length c1)) := fun X hX => Q.out X (below_from HBR.out hX)
      have hl1 : ¬ ((Sr.size : Int) < 1) := by omega
      clear hh48 hs1 hs2 hls HB49
      go_wp2_with fail
      refine HB48.out.mono ?_
      rintro e w9 ⟨rfl, hw9⟩
      obtain rfl : wr = w9 := hw9.symm
      clear HB48
      go_upto_region 23 with fail
      go_cut [19, 20, 21] from 105 to 115 (fun q l_ b wx => TkBox (.mk hx kx) s1 wr q l_ b wx)
      case first =>
        have hz := Below.refl wr.heap.size wr
        obtain ⟨x5, v0, v1, v2, v3, v4, v5⟩ := QR.out _ hz
        go_region_held3 (fun X => X.cell? ⟨w.heap.size, 5, none⟩ = some (.slice (some ad) 1 c) ∧ X.cell? ad = some (.int .u8 (hx.k.toNat : Int)) ∧ X.cell? ⟨ad.block, ad.off + 1, none⟩ = some (.int .u64 (hx.s.a.toNat : Int)) ∧ X.cell? ⟨ad.block, ad.off + 2, none⟩ = some (.int .u64 (hx.s.b.toNat : Int)) ∧ X.cell? ⟨ad.block, ad.off + 3, none⟩ = some (.int .u64 (hx.s.c.toNat : Int)) ∧ X.cell? ⟨ad.block, ad.off + 4, none⟩ = some (.int .u64 (hx.s.d.toNat : Int)) ∧ X.cell? ⟨ad.block, ad.off + 5, none⟩ = some (.slice A1 kx.length c1))
          ((refine QR.out _ ?_; (repeat (first | with_reducible exact hz | with_reducible refine Below.drew ?_ | with_reducible refine below_new ?_ _ | (with_reducible refine Below.setCell ?_ (by first | exact Nat.le_refl _ | (simp; done) | (simp; omega)) _)))))
          (first
            | (go_at_call 24; (with_reducible refine (CB.out _ ?_).mono ?_); (repeat (first | with_reducible exact hz | with_reducible refine Below.drew ?_ | with_reducible refine below_new ?_ _ | (with_reducible refine Below.setCell ?_ (by first | exact Nat.le_refl _ | (simp; done) | (simp; omega)) _))); rintro e wi ⟨h3, k3, A3, c3, S3, b3, rfl, hrl, hc3, hr3, hbi⟩; have HRL := Lib.hid hrl; clear hrl; (try (first | (have hq : Below (World.alloc wr (.cells #[.int .u8 0, .int .u8 0, .slice none 0 0] 32)).drew.heap.size (World.alloc wr (.cells #[.int .u8 0, .int .u8 0, .slice none 0 0] 32)).drew wi := (by with_reducible exact hbi); have hnk := new_kept hq; obtain ⟨⟨r0, r1, r2⟩, g0, g1, g2⟩ := va_cells hnk; have zr0 := fun o => keep_cell (below_new (Below.refl _ wi) o) r0; have zr1 := fun o => keep_cell (below_new (Below.refl _ wi) o) r1; have zr2 := fun o => keep_cell (below_new (Below.refl _ wi) o) r2; have zg0 := fun o => (va_cells (heap_keep1 hnk o)).2.1; have zg1 := fun o => (va_cells (heap_keep1 hnk o)).2.2.1; have zg2 := fun o => (va_cells (heap_keep1 hnk o)).2.2.2) | (have hq : Below (World.alloc (World.drew wr) (.cells #[.int .u8 0, .int .u8 0, .slice none 0 0] 32)).heap.size (World.alloc (World.drew wr) (.cells #[.int .u8 0, .int .u8 0, .slice none 0 0] 32)) wi := (by with_reducible exact hbi); have hnk := new_kept2 hq; obtain ⟨⟨r0, r1, r2⟩, g0, g1, g2⟩ := va_cells hnk; have zr0 := fun o => keep_cell (below_new (Below.refl _ wi) o) r0; have zr1 := fun o => keep_cell (below_new (Below.refl _ wi) o) r1; have zr2 := fun o => keep_cell (below_new (Below.refl _ wi) o) r2; have zg0 := fun o => (va_cells (heap_keep1 hnk o)).2.1; have zg1 := fun o => (va_cells (heap_keep1 hnk o)).2.2.1; have zg2 := fun o => (va_cells (heap_keep1 hnk o)).2.2.2))); have hz : Below wr.heap.size wr wi := (by refine below_from ?_ hbi; (repeat (first | with_reducible exact hz | with_reducible refine Below.drew ?_ | with_reducible refine below_new ?_ _ | (with_reducible refine Below.setCell ?_ (by first | exact Nat.le_refl _ | (simp; done) | (simp; omega)) _)))); obtain ⟨x5, v0, v1, v2, v3, v4, v5⟩ := QR.out _ hz)
            | fail)
        all_goals go_wp2_with fail
        all_goals go_meet
        all_goals have hzs := hz.size
        all_goals have hbs := hbi.size
        all_goals first
          | (have hbs' : wr.heap.size + 1 ≤ wi.heap.size := (by simpa using hbs)
             have he : (World.alloc wr (.cells #[.int .u8 0, .int .u8 0, .slice none 0 0] 32)).heap.size = wr.heap.size + 1 := World.size_alloc _ _
             refine ⟨h3, k3, A3, c3, S3, b3, _, rfl, rfl, rfl, HRL.out, hc3, three_setCells hnk, ?_, three_below hz (by omega), by omega⟩
             exact (row_three (hr3.weak (ok' := fun x => wr.heap.size + 1 ≤ x) fun x hx => by have hx' : (World.alloc wr (.cells #[.int .u8 0, .int .u8 0, .slice none 0 0] 32)).heap.size ≤ x := hx; omega) fun x hx => by omega).weak fun x hx => ⟨by omega, by omega⟩)
          | (refine ⟨h3, k3, A3, c3, S3, b3, _, rfl, rfl, rfl, HRL.out, hc3, new_at1 (w := wi) _, (hr3.there.below (below_new (Below.refl _ _) _)).weak (fun x hx => ⟨hx.1, by have := hx.2; omega⟩), below_new hz _, by omega⟩; done)
          | fail
      case rest =>
        obtain ⟨h3, k3, A3, c3, S3, b3, bq, rfl, rfl, rfl, hrl, hc3, nq, hr3, hzx, hbq⟩ := hcut
        obtain ⟨X, rfl⟩ : ∃ x, x = wc := ⟨_, rfl⟩
        have HBX := Lib.hid (below_from HBR.out hzx)
        have HBXw := Lib.hid (below_from HBWr.out hzx)
        have E2X := Lib.hid ((hzx.block _ (lt_of_block E2r.out)).trans E2r.out)
        have E3X := Lib.hid ((hzx.block _ (lt_of_block E3r.out)).trans E3r.out)
        have hszX := hzx.size
        cases b3 with
        | false =>
          have HNO : Hid (takeT (rStar (.mk hx kx)) S.data.toList = none) := by
            rcases hrl with ⟨e, _⟩ | ⟨_, e⟩
            · cases e
            · unfold Hid; rw [HTA.out, HREL.out, HX1.out, starT_more hox, e]; rfl
          obtain ⟨⟨y0, y1, y2⟩, f0, f1, f2⟩ := va_cells E2X.out
          obtain ⟨⟨p0, p1, p2⟩, _, _, _⟩ := va_cells E3X.out
          clear hrl hc3 nq hr3 hzx hbq HREL HLS HOw HK CB QR Q CB0 HTA
          go_wp2_with fail
          refine bodyPost_ret (v := .tuple #[vaV vaH0 none 0 0, .string ⟨#[]⟩, .bool false]) (by simp [results, Tryd.results24, go_sem, y0, y1, y2]; try exact ⟨rfl, rfl, rfl⟩) rfl ⟨vaH0, [], none, 0, ⟨#[]⟩, false, rfl, .inr ⟨rfl, HNO.out⟩, Nat.le_refl _, by simp [InRow], three_below HBXw.out (by omega)⟩
        | true =>
          have het : takeT (.mk hx kx) s1 = some (.mk h3 k3, S3.data.toList) := by
            rcases hrl with ⟨_, e⟩ | ⟨e, _⟩
            · exact e
            · cases e
          have hlen := take_len _ hox _ _ _ het
          rw [sl_] at hlen
          have HREL2 : Hid (starT (.mk hx kx) S.data.toList = (starT (.mk hx kx) S3.data.toList).map fun r => ((l ++ [T.mk h3 k3]) ++ r.1, r.2)) := by
            unfold Hid
            rw [HREL.out, HX1.out, starT_more hox, het]
            rcases hq : starT (.mk hx kx) S3.data.toList with _ | ⟨m, r⟩ <;> simp [hq]
          have HLS2 : Hid ((l ++ [T.mk h3 k3]).length + S3.size ≤ 1000000000) := by unfold Hid; have := HLS.out; have := HLT.out; rw [List.length_append, List.length_singleton]; omega
          have HLL : Hid (l.length ≤ 1000000000) := by unfold Hid; have := HLS.out; omega
          have HMS : Hid (S3.size < Sr.size) := by unfold Hid; have := HLT.out; omega
          obtain ⟨cs0, hown0, hsrc, happ⟩ := va_app (P := fun _ => False) (h2 := h3) (k2 := k3) (tb := T.mk h3 k3) HOw.out (fun x hx => (HK.out x hx).2) (fun x hx => hx.elim) hzx rfl hc3 (hr3.weak fun x hx => .inr hx.1)
          have HAPP := Lib.hid happ
          have hXb : Below X.heap.size X (X.alloc (.cells (vaA h3 A3 k3.length c3) 32)) := below_new (Below.refl _ _) _
          have HB2 := Lib.hid (below_from HBX.out hXb)
          obtain ⟨z0, z1, z2⟩ := va_at_box nq
          have hsw2 := HBR.out.size
          rw [hsw] at hsw2
          clear happ hXb hrl het hlen HREL HLS nq hr3 hzx CB QR
          go_wp2_with (at_builtin; refine wpList_app _ rfl (.tmp 119) (.tmp 121) 30 rfl (w.heap.size + 1 + 1 + 1) 32 _ 3 32 Tryd.underlying30 Tryd.info_va rfl (by decide) _ _ _ rfl hown0 (some ⟨X.heap.size, 0, none⟩) 1 1 _ rfl hsrc ?h1 ?h2 ?h3 ?h4 ?_)
          case h1 => first | exact vaA_one h3 A3 k3.length c3 | exact ⟨rfl, rfl, rfl⟩ | trivial
          case h2 => have := HLL.out; unfold maxLen; omega
          case h3 => have := HLL.out; omega
          case h4 => (try rw [World.size_alloc]); omega
          intro v5 w6 ho5 hg5 hat5
          have hs6 := hg5.size
          rw [World.size_alloc] at hs6
          have hob : ∀ j, o.ownBlock = some j → w.heap.size + 1 + 1 + 1 ≤ j := fun j hj => (own_inE HOw.out hj).1
          have HO6 := Lib.hid (HAPP.out v5 w6 ho5 hg5 (by rw [World.size_alloc]; exact hat5))
          have HB7 : Hid (Below W.heap.size W w6) := HB2.out.grown hg5 HB2.out.size (fun j hj => by have := hob j hj; omega)
          have HK6 : Hid (∀ x, (okk x ∨ False ∨ (wr.heap.size ≤ x ∧ x < X.heap.size)) → w.heap.size + 1 + 1 + 1 ≤ x ∧ x < w6.heap.size) := fun x hx => by
            rcases hx with hx | hx | hx
            · have := HK.out x hx; exact ⟨this.1, by omega⟩
            · exact hx.elim
            · exact ⟨by omega, by omega⟩
          clear ho5 hg5 hat5 hown0 hsrc HAPP HB2 hs6 HOw HK hob z0 z1 z2
          go_wp2_with fail
          go_roundw
          case rel => exact ⟨S3, _, l ++ [T.mk h3 k3], v5, rfl, rfl, HREL2, HLS2, HO6, HK6, HB7⟩
          case measure => exact HMS.out
    · rw [decide_eq_false hh48] at HB48
      have HN8 := Lib.hid hh48
      clear hh48 Q CB0
      by_cases hh49 : Sr.data.toList.head? = some 49
      · obtain ⟨s1, hs1, hs2, hlt, hls⟩ := head_cons hh49
        rw [decide_eq_true hh49] at HB49
        have HX2 : Hid ((Sr.extract 1 Sr.size).data.toList = s1) := hs2
        have HTF : Hid (takeT (rStar (.mk hx kx)) S.data.toList = some (vStars l, (Sr.extract 1 Sr.size).data.toList)) := by
          unfold Hid
          rw [HTA.out, HREL.out, hs1, starT_end, hs2]
          simp
        have hl1 : ¬ ((Sr.size : Int) < 1) := by omega
        obtain ⟨A3, c3, hv3, hc3, hr3⟩ := HOw.out.row
        have hr3w := hr3.weak (ok' := fun x => w.heap.size + 1 + 1 + 1 ≤ x) fun x hx => by
          rcases hx with hx | hx
          · exact (HK.out x hx).1
          · exact (own_inE HOw.out hx).1
        subst hv3
        obtain ⟨⟨y0, y1, y2⟩, f0, f1, f2⟩ := va_cells E2r.out
        have q1 := three_setCells (w := wr) (u0 := .int .u8 6) (u1 := .int .u8 0) (u2 := .slice A3 l.length c3) E2r.out
        have hB4 := three_below (x := wr) (u0 := .int .u8 6) (u1 := .int .u8 0) (u2 := .slice A3 l.length c3) HBWr.out (show w.heap.size ≤ w.heap.size + 1 by omega)
        have hr4 := row_three (w := wr) (b := w.heap.size + 1) (u0 := .int .u8 6) (u1 := .int .u8 0) (u2 := .slice A3 l.length c3) hr3w (fun x hx => by have hx' : w.heap.size + 1 + 1 + 1 ≤ x := hx; omega)
        have HQ1 := Lib.hid q1
        have HB4 := Lib.hid hB4
        have HR4 := Lib.hid hr4
        clear hs1 hs2 hls hh49 HREL HTA HOw HK q1 hB4 hr4 hr3 hr3w
        go_wp2_with fail
        refine HB48.out.mono ?_
        rintro e w9 ⟨rfl, hw9⟩
        obtain rfl : wr = w9 := hw9.symm
        go_wp2_with fail
        refine HB49.out.mono ?_
        rintro e w9 ⟨rfl, hw9⟩
        obtain rfl : wr = w9 := hw9.symm
        go_upto_region 29 with fail
        go_region
        have q1 := HQ1.out
        have hB4 := HB4.out.drew
        have hr4 := HR4.out.below (Below.refl _ _).drew
        clear HQ1 HB4 HR4
        generalize ((wr.setCell ⟨w.heap.size + 1, 0, none⟩ (.int .u8 6)).setCell ⟨w.heap.size + 1, 1, none⟩ (.int .u8 0)).setCell ⟨w.heap.size + 1, 2, none⟩ (.slice A3 l.length c3) = w5 at *
        change w5.drew.heap[w.heap.size + 1]? = _ at q1
        generalize w5.drew = w6 at *
        clear y0 y1 y2 f0 f1 f2
        obtain ⟨⟨y0, y1, y2⟩, _⟩ := va_cells q1
        go_wp2_with fail
        refine bodyPost_ret (v := .tuple #[vaV ⟨6, 0⟩ A3 l.length c3, .string (Sr.extract 1 Sr.size), .bool true]) (by simp [results, Tryd.results24, go_sem, y0, y1, y2]; try exact ⟨rfl, rfl, rfl⟩) rfl ⟨⟨6, 0⟩, l, A3, c3, Sr.extract 1 Sr.size, true, rfl, .inl ⟨rfl, HTF.out⟩, hc3, hr4.weak fun x hx => by (have hx' : w.heap.size + 1 + 1 + 1 ≤ x := hx; omega), hB4⟩
      · rw [decide_eq_false hh49] at HB49
        have HNO : Hid (takeT (rStar (.mk hx kx)) S.data.toList = none) := by
          unfold Hid
          rw [HTA.out, HREL.out]
          rcases hl : Sr.data.toList with _ | ⟨d, s1⟩
          · rw [starT_nil]; rfl
          · rw [starT_bad _ _ _ (fun e => HN8.out (by rw [hl, e]; rfl)) (fun e => hh49 (by rw [hl, e]; rfl))]; rfl
        clear hh49 HREL HTA HOw HK HN8
        obtain ⟨⟨y0, y1, y2⟩, f0, f1, f2⟩ := va_cells E2r.out
        obtain ⟨⟨p0, p1, p2⟩, _, _, _⟩ := va_cells E3r.out
        go_wp2_with fail
        refine HB48.out.mono ?_
        rintro e w9 ⟨rfl, hw9⟩
        obtain rfl : wr = w9 := hw9.symm
        go_wp2_with fail
        refine HB49.out.mono ?_
        rintro e w9 ⟨rfl, hw9⟩
        obtain rfl : wr = w9 := hw9.symm
        go_wp2_with fail
        refine bodyPost_ret (v := .tuple #[vaV vaH0 none 0 0, .string ⟨#[]⟩, .bool false]) (by simp [results, Tryd.results24, go_sem, y0, y1, y2]; try exact ⟨rfl, rfl, rfl⟩) rfl ⟨vaH0, [], none, 0, ⟨#[]⟩, false, rfl, .inr ⟨rfl, HNO.out⟩, Nat.le_refl _, by simp [InRow], three_below HBWr.out (by omega)⟩
theorem rk_star {x : Re} (hox : okT x = true) (px : RkOkT x) : RkOkT (rStar x) := by
  rintro h ks e P A c S w hc hr hS
  cases e
  obtain ⟨hx, kx⟩ := x
  exact rk_star_ hox (px _ _ rfl) P A c S w hc hr hS
theorem rk_all : ∀ t : Re, okT t = true → RkOkT t := by
  refine okT_ind ?_ ?_ ?_ ?_ ?_ ?_
  · exact rk_emp
  · exact rk_eps
  · intro s hs; exact rk_cls hs
  · intro x y hx hy ihx ihy; exact rk_seq hx ihx ihy
  · intro x y hx hy ihx ihy; exact rk_alt ihx ihy
  · intro x hx ih; exact rk_star hx ih
end Go.Proofs.YteokbmngebckjaaDoor
