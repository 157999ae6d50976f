/- What the document takes of bits: at Alt. -/
import Derived.Test.YteokbmngebckjaaDoorRk2
import Derived.Test.YteokbmngebckjaaDoorBy
import Derived.Deep.RegionHeld3
namespace Go.Proofs.YteokbmngebckjaaDoor
open Go.RowKit
set_option linter.unusedVariables false
set_option linter.unusedSimpArgs false

/-- what is taken of a kid, put away in a box -/
def TkBox (t : Re) (s : List UInt8) (U : World) (q l b : Value) (wx : World) : Prop := ∃ h3 k3 A3 c3 S3 b3 bq, q = .pointer (some ⟨bq, 0, none⟩) ∧ l = .string S3 ∧ b = .bool b3 ∧ TkRel t s (.mk h3 k3) S3.data.toList b3 ∧ k3.length ≤ c3 ∧ wx.heap[bq]? = some (.cells (vaA h3 A3 k3.length c3) 32 (0, 0)) ∧ InRow VE (fun x => U.heap.size ≤ x ∧ x ≠ bq) wx k3 A3 0 ∧ Below U.heap.size U wx ∧ U.heap.size ≤ bq
theorem head_cons {S : ByteArray} {c : UInt8} (h : S.data.toList.head? = some c) : ∃ s1, S.data.toList = c :: s1 ∧ (S.extract 1 S.size).data.toList = s1 ∧ 0 < S.size ∧ (S.extract 1 S.size).size ≤ S.size := by
  rcases hl : S.data.toList with _ | ⟨d, s1⟩
  · rw [hl] at h; cases h
  · rw [hl] at h
    cases h
    exact ⟨s1, rfl, by rw [ext_drop, hl]; rfl, by rw [← sl_, hl]; simp, by rw [ByteArray.size_extract]; omega⟩
set_option maxRecDepth 100000 in
set_option maxHeartbeats 4000000 in
theorem rk_alt_ {hx : RH} {kx : List Re} {hy : RH} {ky : List Re} (px : RkOk hx kx) (py : RkOk hy ky) (P : Nat → Prop) (A : Option Addr) (c : Nat) (S : ByteArray) (w : World) (hc : 2 ≤ c) (hr : InRow RE P w [.mk hx kx, .mk hy ky] A 0) (hS : S.size ≤ 1000000000) :
    Calls Tryd.prog 24 #[reV ⟨5, S4.zero⟩ A 2 c, .string S] w (RkPost (rAlt (.mk hx kx) (.mk hy ky)) S.data.toList w) := by
  obtain ⟨hh, hhh⟩ : ∃ hh : RH, hh = ⟨5, S4.zero⟩ := ⟨_, rfl⟩
  have g2 : ((hh.k.toNat : Int) == 2) = false := by rw [hhh]; rfl
  have g3 : ((hh.k.toNat : Int) == 3) = false := by rw [hhh]; rfl
  have g4 : ((hh.k.toNat : Int) == 4) = false := by rw [hhh]; rfl
  have g5 : ((hh.k.toNat : Int) == 5) = true := by rw [hhh]; rfl
  rw [show reV ⟨5, S4.zero⟩ A 2 c = reV hh A 2 c by rw [hhh]]
  clear hhh
  obtain ⟨W, hW, hbW, hsW, e1W, e2W, e3W⟩ := rk_pre w hh A 2 c
  have HE := Lib.hid hW
  have HBW := Lib.hid hbW
  have E1 := Lib.hid e1W
  have E2 := Lib.hid e2W
  have E3 := Lib.hid e3W
  have HSW := Lib.hid hsW
  obtain ⟨ad, A1, c1, hA, hc1, hr1, u0, u1, u2, u3, u4, u5⟩ := kid0N (hr.below hbW)
  subst hA
  obtain ⟨ad', A2, c2, hA2, hc2, hr2, v0, v1, v2, v3, v4, v5⟩ := kid1N (hr.below hbW)
  obtain rfl := Option.some.inj hA2
  have HTA := Lib.hid (take_alt (.mk hx kx) (.mk hy ky) S.data.toList)
  have Q0 : Hid (∀ X, Below W.heap.size W X → X.cell? ⟨w.heap.size, 5, none⟩ = some (.slice (some ad) 2 c) ∧ X.cell? ad = some (.int .u8 (hx.k.toNat : Int)) ∧ X.cell? ⟨ad.block, ad.off + 1, none⟩ = some (.int .u64 (hx.s.a.toNat : Int)) ∧ X.cell? ⟨ad.block, ad.off + 2, none⟩ = some (.int .u64 (hx.s.b.toNat : Int)) ∧ X.cell? ⟨ad.block, ad.off + 3, none⟩ = some (.int .u64 (hx.s.c.toNat : Int)) ∧ X.cell? ⟨ad.block, ad.off + 4, none⟩ = some (.int .u64 (hx.s.d.toNat : Int)) ∧ X.cell? ⟨ad.block, ad.off + 5, none⟩ = some (.slice A1 kx.length c1)) := fun X hX => by
    obtain ⟨_, _, _, _, _, a5⟩ := re_at_box ((hX.block _ (lt_of_block e1W)).trans e1W)
    exact ⟨a5, keep_cell hX u0, keep_cell hX u1, keep_cell hX u2, keep_cell hX u3, keep_cell hX u4, keep_cell hX u5⟩
  have Q1 : Hid (∀ X, Below W.heap.size W X → X.cell? ⟨w.heap.size, 5, none⟩ = some (.slice (some ad) 2 c) ∧ X.cell? ⟨ad.block, ad.off + 6, none⟩ = some (.int .u8 (hy.k.toNat : Int)) ∧ X.cell? ⟨ad.block, ad.off + 6 + 1, none⟩ = some (.int .u64 (hy.s.a.toNat : Int)) ∧ X.cell? ⟨ad.block, ad.off + 6 + 2, none⟩ = some (.int .u64 (hy.s.b.toNat : Int)) ∧ X.cell? ⟨ad.block, ad.off + 6 + 3, none⟩ = some (.int .u64 (hy.s.c.toNat : Int)) ∧ X.cell? ⟨ad.block, ad.off + 6 + 4, none⟩ = some (.int .u64 (hy.s.d.toNat : Int)) ∧ X.cell? ⟨ad.block, ad.off + 6 + 5, none⟩ = some (.slice A2 ky.length c2)) := fun X hX => by
    obtain ⟨_, _, _, _, _, a5⟩ := re_at_box ((hX.block _ (lt_of_block e1W)).trans e1W)
    exact ⟨a5, keep_cell hX v0, keep_cell hX v1, keep_cell hX v2, keep_cell hX v3, keep_cell hX v4, keep_cell hX v5⟩
  have CB0 : Hid (S.size ≤ 1000000000 → ∀ X, Below W.heap.size W X → Calls Tryd.prog 24 #[reV hx A1 kx.length c1, .string (S.extract 1 S.size)] X (RkPost (.mk hx kx) (S.extract 1 S.size).data.toList X)) := fun h1 X hX => px _ A1 c1 _ X hc1 (hr1.below hX) (by rw [ByteArray.size_extract]; omega)
  have CB1 : Hid (S.size ≤ 1000000000 → ∀ X, Below W.heap.size W X → Calls Tryd.prog 24 #[reV hy A2 ky.length c2, .string (S.extract 1 S.size)] X (RkPost (.mk hy ky) (S.extract 1 S.size).data.toList X)) := fun h1 X hX => py _ A2 c2 _ X hc2 (hr2.below hX) (by rw [ByteArray.size_extract]; omega)
  have HB48 : Hid (Calls Tryd.prog 38 #[.string S, .int .u8 48] W fun e w' => e = .returned (.bool (decide (S.data.toList.head? = some 48))) ∧ w' = W) := rbit_any S 48 W
  have HB49 : Hid (Calls Tryd.prog 38 #[.string S, .int .u8 49] W fun e w' => e = .returned (.bool (decide (S.data.toList.head? = some 49))) ∧ w' = W) := rbit_any S 49 W
  have HSZ := Lib.hid hS
  clear hW hbW hsW e1W e2W e3W hr hr1 hr2 px py u0 u1 u2 u3 u4 u5 v0 v1 v2 v3 v4 v5
  obtain ⟨x0, x1, x2, x3, x4, x5⟩ := re_at_box E1.out
  obtain ⟨⟨y0, y1, y2⟩, f0, f1, f2⟩ := va_cells E2.out
  obtain ⟨⟨p0, p1, p2⟩, _, _, _⟩ := va_cells E3.out
  go_enter Tryd.func24, Tryd.ntmps24
  go_upto_region 2 with fail
  rw [show ((w.alloc _).alloc _).alloc _ = W from HE.out]
  go_upto_region 15 with fail
  clear x0 x1 x2 x3 x4 x5 y0 y1 y2 f0 f1 f2 p0 p1 p2
  go_loopw [14] (fun i wr => ∃ (k : Nat), k ≤ 2 ∧ i = .int .i64 k ∧ Hid (1 ≤ k → S.data.toList.head? ≠ some 48) ∧ Hid (2 ≤ k → S.data.toList.head? ≠ some 49) ∧ wr = W) (fun i _ => 2 - (intOf i).toNat)
  case atStart => exact ⟨0, by omega, rfl, Lib.hid (fun h => absurd h (by omega)), Lib.hid (fun h => absurd h (by omega)), rfl⟩
  case round =>
    obtain ⟨k, hk, rfl, HN8, HN9, rfl⟩ := hrel
    have hkc : k = 0 ∨ k = 1 ∨ k = 2 := by omega
    rcases hkc with rfl | rfl | rfl
    · by_cases hh48 : S.data.toList.head? = some 48
      · obtain ⟨s1, hs1, hs2, hlt, hls⟩ := head_cons hh48
        rw [decide_eq_true hh48] at HB48
        have CB := Lib.hid (CB0.out HSZ.out)
        rw [hs2] at CB
        have HTF : Hid (∀ v r b, TkRel (.mk hx kx) s1 v r b → TkRel (rAlt (.mk hx kx) (.mk hy ky)) S.data.toList (vLeft v) r b) := fun v r b hv => by
          unfold TkRel
          rw [HTA.out, hs1]
          rcases hv with ⟨rfl, e⟩ | ⟨rfl, e⟩
          · exact .inl ⟨rfl, by simp [e]⟩
          · exact .inr ⟨rfl, by simp [e]⟩
        have hl1 : ¬ ((S.size : Int) < 1) := by omega
        clear hh48 hs1 hs2 hls CB0 CB1 HTA HN8 HN9
        go_wp2_with fail
        refine HB48.out.mono ?_
        rintro e w9 ⟨rfl, hw9⟩
        obtain rfl : wr = w9 := hw9.symm
        clear HB48 HB49
        go_upto_region 18 with fail
        go_cut [15, 16, 17] from 80 to 91 (fun q l b wx => TkBox (.mk hx kx) s1 wr q l b wx)
        case first =>
          have hz := Below.refl wr.heap.size wr
          obtain ⟨x5, v0, v1, v2, v3, v4, v5⟩ := Q0.out _ hz
          go_region_held3 (fun X => X.cell? ⟨w.heap.size, 5, none⟩ = some (.slice (some ad) 2 c) ∧ X.cell? ad = some (.int .u8 (hx.k.toNat : Int)) ∧ X.cell? ⟨ad.block, ad.off + 1, none⟩ = some (.int .u64 (hx.s.a.toNat : Int)) ∧ X.cell? ⟨ad.block, ad.off + 2, none⟩ = some (.int .u64 (hx.s.b.toNat : Int)) ∧ X.cell? ⟨ad.block, ad.off + 3, none⟩ = some (.int .u64 (hx.s.c.toNat : Int)) ∧ X.cell? ⟨ad.block, ad.off + 4, none⟩ = some (.int .u64 (hx.s.d.toNat : Int)) ∧ X.cell? ⟨ad.block, ad.off + 5, none⟩ = some (.slice A1 kx.length c1))
            ((refine Q0.out _ ?_; (repeat (first | with_reducible exact hz | with_reducible refine Below.drew ?_ | with_reducible refine below_new ?_ _ | (with_reducible refine Below.setCell ?_ (by first | exact Nat.le_refl _ | (simp; done) | (simp; omega)) _)))))
            (first
              | (go_at_call 24; (with_reducible refine (CB.out _ ?_).mono ?_); (repeat (first | with_reducible exact hz | with_reducible refine Below.drew ?_ | with_reducible refine below_new ?_ _ | (with_reducible refine Below.setCell ?_ (by first | exact Nat.le_refl _ | (simp; done) | (simp; omega)) _))); rintro e wi ⟨h3, k3, A3, c3, S3, b3, rfl, hrl, hc3, hr3, hbi⟩; have HRL := Lib.hid hrl; clear hrl; (try (first | (have hq : Below (World.alloc wr (.cells #[.int .u8 0, .int .u8 0, .slice none 0 0] 32)).drew.heap.size (World.alloc wr (.cells #[.int .u8 0, .int .u8 0, .slice none 0 0] 32)).drew wi := (by with_reducible exact hbi); have hnk := new_kept hq; obtain ⟨⟨r0, r1, r2⟩, g0, g1, g2⟩ := va_cells hnk; have zr0 := fun o => keep_cell (below_new (Below.refl _ wi) o) r0; have zr1 := fun o => keep_cell (below_new (Below.refl _ wi) o) r1; have zr2 := fun o => keep_cell (below_new (Below.refl _ wi) o) r2; have zg0 := fun o => (va_cells (heap_keep1 hnk o)).2.1; have zg1 := fun o => (va_cells (heap_keep1 hnk o)).2.2.1; have zg2 := fun o => (va_cells (heap_keep1 hnk o)).2.2.2) | (have hq : Below (World.alloc (World.drew wr) (.cells #[.int .u8 0, .int .u8 0, .slice none 0 0] 32)).heap.size (World.alloc (World.drew wr) (.cells #[.int .u8 0, .int .u8 0, .slice none 0 0] 32)) wi := (by with_reducible exact hbi); have hnk := new_kept2 hq; obtain ⟨⟨r0, r1, r2⟩, g0, g1, g2⟩ := va_cells hnk; have zr0 := fun o => keep_cell (below_new (Below.refl _ wi) o) r0; have zr1 := fun o => keep_cell (below_new (Below.refl _ wi) o) r1; have zr2 := fun o => keep_cell (below_new (Below.refl _ wi) o) r2; have zg0 := fun o => (va_cells (heap_keep1 hnk o)).2.1; have zg1 := fun o => (va_cells (heap_keep1 hnk o)).2.2.1; have zg2 := fun o => (va_cells (heap_keep1 hnk o)).2.2.2))); have hz : Below wr.heap.size wr wi := (by refine below_from ?_ hbi; (repeat (first | with_reducible exact hz | with_reducible refine Below.drew ?_ | with_reducible refine below_new ?_ _ | (with_reducible refine Below.setCell ?_ (by first | exact Nat.le_refl _ | (simp; done) | (simp; omega)) _)))); obtain ⟨x5, v0, v1, v2, v3, v4, v5⟩ := Q0.out _ hz)
              | fail)
          all_goals go_wp2_with fail
          all_goals go_meet
          all_goals have hzs := hz.size
          all_goals have hbs := hbi.size
          all_goals first
            | (have hbs' : wr.heap.size + 1 ≤ wi.heap.size := (by simpa using hbs)
               have he : (World.alloc wr (.cells #[.int .u8 0, .int .u8 0, .slice none 0 0] 32)).heap.size = wr.heap.size + 1 := World.size_alloc _ _
               refine ⟨h3, k3, A3, c3, S3, b3, _, rfl, rfl, rfl, HRL.out, hc3, three_setCells hnk, ?_, three_below hz (by omega), by omega⟩
               exact (row_three (hr3.weak (ok' := fun x => wr.heap.size + 1 ≤ x) fun x hx => by have hx' : (World.alloc wr (.cells #[.int .u8 0, .int .u8 0, .slice none 0 0] 32)).heap.size ≤ x := hx; omega) fun x hx => by omega).weak fun x hx => ⟨by omega, by omega⟩)
            | (refine ⟨h3, k3, A3, c3, S3, b3, _, rfl, rfl, rfl, HRL.out, hc3, new_at1 (w := wi) _, (hr3.there.below (below_new (Below.refl _ _) _)).weak (fun x hx => ⟨hx.1, by have := hx.2; omega⟩), below_new hz _, by omega⟩; done)
            | fail
        case rest =>
          obtain ⟨h3, k3, A3, c3, S3, b3, bq, rfl, rfl, rfl, hrl, hc3, nq, hr3, hzx, hbq⟩ := hcut
          obtain ⟨X, rfl⟩ : ∃ x, x = wc := ⟨_, rfl⟩
          have HTR := Lib.hid (HTF.out _ _ _ hrl)
          have HBX := Lib.hid (below_from HBW.out hzx)
          have E2X := Lib.hid ((hzx.block _ (lt_of_block E2.out)).trans E2.out)
          obtain ⟨r0, r1, r2⟩ := va_at_box nq
          have hszX := hzx.size
          have hsw := HSW.out
          have hnb := below_new (Below.refl X.heap.size X) (.cells (vaA h3 A3 k3.length c3) 32)
          have HROW := Lib.hid (va_one (P := fun x => w.heap.size + 1 + 1 ≤ x) (new_at1 (w := X) (.cells (vaA h3 A3 k3.length c3) 32)) (by omega) hc3 ((hr3.below hnb).weak fun x hx => by have := hx.1; omega))
          have HBY := Lib.hid (below_from HBX.out hnb)
          have y0a := fun ob => (va_cells (heap_keep1 E2X.out ob)).1.1
          have y1a := fun ob => (va_cells (heap_keep1 E2X.out ob)).1.2.1
          have y2a := fun ob => (va_cells (heap_keep1 E2X.out ob)).1.2.2
          have f0a := fun ob => (va_cells (heap_keep1 E2X.out ob)).2.1
          have f1a := fun ob => (va_cells (heap_keep1 E2X.out ob)).2.2.1
          have f2a := fun ob => (va_cells (heap_keep1 E2X.out ob)).2.2.2
          clear hrl hr3 hzx hnb nq Q0 Q1 CB HTF
          go_wp2_with fail
          refine bodyPost_ret (v := .tuple #[vaV ⟨4, 0⟩ (some ⟨X.heap.size, 0, none⟩) 1 1, .string S3, .bool b3]) (by simp [results, Tryd.results24, go_sem, y0a, y1a, y2a]; try exact ⟨rfl, rfl, rfl⟩) rfl ⟨⟨4, 0⟩, [.mk h3 k3], some ⟨X.heap.size, 0, none⟩, 1, S3, b3, rfl, HTR.out, Nat.le_refl _, (row_three HROW.out fun x hx => by omega).weak fun x hx => by omega, three_below HBY.out (by omega)⟩
      · rw [decide_eq_false hh48] at HB48
        have HN := Lib.hid hh48
        clear hh48
        go_wp2_with fail
        refine HB48.out.mono ?_
        rintro e w9 ⟨rfl, hw9⟩
        obtain rfl : wr = w9 := hw9.symm
        go_wp2_with fail
        go_roundw
        case rel => exact ⟨1, by omega, by go_num, Lib.hid (fun _ => HN.out), Lib.hid (fun h => absurd h (by omega)), by trivial⟩
        case measure => simp [intOf]
    · by_cases hh48 : S.data.toList.head? = some 49
      · obtain ⟨s1, hs1, hs2, hlt, hls⟩ := head_cons hh48
        rw [decide_eq_true hh48] at HB49
        have CB := Lib.hid (CB1.out HSZ.out)
        rw [hs2] at CB
        have HTF : Hid (∀ v r b, TkRel (.mk hy ky) s1 v r b → TkRel (rAlt (.mk hx kx) (.mk hy ky)) S.data.toList (vRight v) r b) := fun v r b hv => by
          unfold TkRel
          rw [HTA.out, hs1]
          rcases hv with ⟨rfl, e⟩ | ⟨rfl, e⟩
          · exact .inl ⟨rfl, by simp [e]⟩
          · exact .inr ⟨rfl, by simp [e]⟩
        have hl1 : ¬ ((S.size : Int) < 1) := by omega
        clear hh48 hs1 hs2 hls CB0 CB1 HTA HN8 HN9
        go_wp2_with fail
        refine HB49.out.mono ?_
        rintro e w9 ⟨rfl, hw9⟩
        obtain rfl : wr = w9 := hw9.symm
        clear HB48 HB49
        go_upto_region 18 with fail
        go_cut [15, 16, 17] from 80 to 91 (fun q l b wx => TkBox (.mk hy ky) s1 wr q l b wx)
        case first =>
          have hz := Below.refl wr.heap.size wr
          obtain ⟨x5, v0, v1, v2, v3, v4, v5⟩ := Q1.out _ hz
          go_region_held3 (fun X => X.cell? ⟨w.heap.size, 5, none⟩ = some (.slice (some ad) 2 c) ∧ X.cell? ⟨ad.block, ad.off + 6, none⟩ = some (.int .u8 (hy.k.toNat : Int)) ∧ X.cell? ⟨ad.block, ad.off + 6 + 1, none⟩ = some (.int .u64 (hy.s.a.toNat : Int)) ∧ X.cell? ⟨ad.block, ad.off + 6 + 2, none⟩ = some (.int .u64 (hy.s.b.toNat : Int)) ∧ X.cell? ⟨ad.block, ad.off + 6 + 3, none⟩ = some (.int .u64 (hy.s.c.toNat : Int)) ∧ X.cell? ⟨ad.block, ad.off + 6 + 4, none⟩ = some (.int .u64 (hy.s.d.toNat : Int)) ∧ X.cell? ⟨ad.block, ad.off + 6 + 5, none⟩ = some (.slice A2 ky.length c2))
            ((refine Q1.out _ ?_; (repeat (first | with_reducible exact hz | with_reducible refine Below.drew ?_ | with_reducible refine below_new ?_ _ | (with_reducible refine Below.setCell ?_ (by first | exact Nat.le_refl _ | (simp; done) | (simp; omega)) _)))))
            (first
              | (go_at_call 24; (with_reducible refine (CB.out _ ?_).mono ?_); (repeat (first | with_reducible exact hz | with_reducible refine Below.drew ?_ | with_reducible refine below_new ?_ _ | (with_reducible refine Below.setCell ?_ (by first | exact Nat.le_refl _ | (simp; done) | (simp; omega)) _))); rintro e wi ⟨h3, k3, A3, c3, S3, b3, rfl, hrl, hc3, hr3, hbi⟩; have HRL := Lib.hid hrl; clear hrl; (try (first | (have hq : Below (World.alloc wr (.cells #[.int .u8 0, .int .u8 0, .slice none 0 0] 32)).drew.heap.size (World.alloc wr (.cells #[.int .u8 0, .int .u8 0, .slice none 0 0] 32)).drew wi := (by with_reducible exact hbi); have hnk := new_kept hq; obtain ⟨⟨r0, r1, r2⟩, g0, g1, g2⟩ := va_cells hnk; have zr0 := fun o => keep_cell (below_new (Below.refl _ wi) o) r0; have zr1 := fun o => keep_cell (below_new (Below.refl _ wi) o) r1; have zr2 := fun o => keep_cell (below_new (Below.refl _ wi) o) r2; have zg0 := fun o => (va_cells (heap_keep1 hnk o)).2.1; have zg1 := fun o => (va_cells (heap_keep1 hnk o)).2.2.1; have zg2 := fun o => (va_cells (heap_keep1 hnk o)).2.2.2) | (have hq : Below (World.alloc (World.drew wr) (.cells #[.int .u8 0, .int .u8 0, .slice none 0 0] 32)).heap.size (World.alloc (World.drew wr) (.cells #[.int .u8 0, .int .u8 0, .slice none 0 0] 32)) wi := (by with_reducible exact hbi); have hnk := new_kept2 hq; obtain ⟨⟨r0, r1, r2⟩, g0, g1, g2⟩ := va_cells hnk; have zr0 := fun o => keep_cell (below_new (Below.refl _ wi) o) r0; have zr1 := fun o => keep_cell (below_new (Below.refl _ wi) o) r1; have zr2 := fun o => keep_cell (below_new (Below.refl _ wi) o) r2; have zg0 := fun o => (va_cells (heap_keep1 hnk o)).2.1; have zg1 := fun o => (va_cells (heap_keep1 hnk o)).2.2.1; have zg2 := fun o => (va_cells (heap_keep1 hnk o)).2.2.2))); have hz : Below wr.heap.size wr wi := (by refine below_from ?_ hbi; (repeat (first | with_reducible exact hz | with_reducible refine Below.drew ?_ | with_reducible refine below_new ?_ _ | (with_reducible refine Below.setCell ?_ (by first | exact Nat.le_refl _ | (simp; done) | (simp; omega)) _)))); obtain ⟨x5, v0, v1, v2, v3, v4, v5⟩ := Q1.out _ hz)
              | fail)
          all_goals go_wp2_with fail
          all_goals go_meet
          all_goals have hzs := hz.size
          all_goals have hbs := hbi.size
          all_goals first
            | (have hbs' : wr.heap.size + 1 ≤ wi.heap.size := (by simpa using hbs)
               have he : (World.alloc wr (.cells #[.int .u8 0, .int .u8 0, .slice none 0 0] 32)).heap.size = wr.heap.size + 1 := World.size_alloc _ _
               refine ⟨h3, k3, A3, c3, S3, b3, _, rfl, rfl, rfl, HRL.out, hc3, three_setCells hnk, ?_, three_below hz (by omega), by omega⟩
               exact (row_three (hr3.weak (ok' := fun x => wr.heap.size + 1 ≤ x) fun x hx => by have hx' : (World.alloc wr (.cells #[.int .u8 0, .int .u8 0, .slice none 0 0] 32)).heap.size ≤ x := hx; omega) fun x hx => by omega).weak fun x hx => ⟨by omega, by omega⟩)
            | (refine ⟨h3, k3, A3, c3, S3, b3, _, rfl, rfl, rfl, HRL.out, hc3, new_at1 (w := wi) _, (hr3.there.below (below_new (Below.refl _ _) _)).weak (fun x hx => ⟨hx.1, by have := hx.2; omega⟩), below_new hz _, by omega⟩; done)
            | fail
        case rest =>
          obtain ⟨h3, k3, A3, c3, S3, b3, bq, rfl, rfl, rfl, hrl, hc3, nq, hr3, hzx, hbq⟩ := hcut
          obtain ⟨X, rfl⟩ : ∃ x, x = wc := ⟨_, rfl⟩
          have HTR := Lib.hid (HTF.out _ _ _ hrl)
          have HBX := Lib.hid (below_from HBW.out hzx)
          have E2X := Lib.hid ((hzx.block _ (lt_of_block E2.out)).trans E2.out)
          obtain ⟨r0, r1, r2⟩ := va_at_box nq
          have hszX := hzx.size
          have hsw := HSW.out
          have hnb := below_new (Below.refl X.heap.size X) (.cells (vaA h3 A3 k3.length c3) 32)
          have HROW := Lib.hid (va_one (P := fun x => w.heap.size + 1 + 1 ≤ x) (new_at1 (w := X) (.cells (vaA h3 A3 k3.length c3) 32)) (by omega) hc3 ((hr3.below hnb).weak fun x hx => by have := hx.1; omega))
          have HBY := Lib.hid (below_from HBX.out hnb)
          have y0a := fun ob => (va_cells (heap_keep1 E2X.out ob)).1.1
          have y1a := fun ob => (va_cells (heap_keep1 E2X.out ob)).1.2.1
          have y2a := fun ob => (va_cells (heap_keep1 E2X.out ob)).1.2.2
          have f0a := fun ob => (va_cells (heap_keep1 E2X.out ob)).2.1
          have f1a := fun ob => (va_cells (heap_keep1 E2X.out ob)).2.2.1
          have f2a := fun ob => (va_cells (heap_keep1 E2X.out ob)).2.2.2
          clear hrl hr3 hzx hnb nq Q0 Q1 CB HTF
          go_wp2_with fail
          refine bodyPost_ret (v := .tuple #[vaV ⟨5, 0⟩ (some ⟨X.heap.size, 0, none⟩) 1 1, .string S3, .bool b3]) (by simp [results, Tryd.results24, go_sem, y0a, y1a, y2a]; try exact ⟨rfl, rfl, rfl⟩) rfl ⟨⟨5, 0⟩, [.mk h3 k3], some ⟨X.heap.size, 0, none⟩, 1, S3, b3, rfl, HTR.out, Nat.le_refl _, (row_three HROW.out fun x hx => by omega).weak fun x hx => by omega, three_below HBY.out (by omega)⟩
      · rw [decide_eq_false hh48] at HB49
        have HN := Lib.hid hh48
        clear hh48
        go_wp2_with fail
        refine HB49.out.mono ?_
        rintro e w9 ⟨rfl, hw9⟩
        obtain rfl : wr = w9 := hw9.symm
        go_wp2_with fail
        go_roundw
        case rel => exact ⟨2, by omega, by go_num, Lib.hid (fun _ => HN8.out (by omega)), Lib.hid (fun _ => HN.out), by trivial⟩
        case measure => simp [intOf]
    · have HNO : Hid (takeT (rAlt (.mk hx kx) (.mk hy ky)) S.data.toList = none) := by
        unfold Hid
        rw [HTA.out]
        have n8 := HN8.out (by omega)
        have n9 := HN9.out (by omega)
        rcases hl : S.data.toList with _ | ⟨d, s1⟩
        · rfl
        · rw [hl] at n8 n9
          have e8 : d ≠ 48 := fun e => n8 (by rw [e]; rfl)
          have e9 : d ≠ 49 := fun e => n9 (by rw [e]; rfl)
          simp [e8, e9]
      clear HN8 HN9 HTA CB0 CB1 Q0 Q1 HB48 HB49
      obtain ⟨⟨y0, y1, y2⟩, f0, f1, f2⟩ := va_cells E2.out
      obtain ⟨⟨p0, p1, p2⟩, _, _, _⟩ := va_cells E3.out
      go_wp2_with fail
      refine bodyPost_ret (v := .tuple #[vaV vaH0 none 0 0, .string ⟨#[]⟩, .bool false]) (by simp [results, Tryd.results24, go_sem, y0, y1, y2]; try exact ⟨rfl, rfl, rfl⟩) rfl ⟨vaH0, [], none, 0, ⟨#[]⟩, false, rfl, .inr ⟨rfl, HNO.out⟩, Nat.le_refl _, by simp [InRow], three_below HBW.out (by omega)⟩
theorem rk_alt {x y : Re} (px : RkOkT x) (py : RkOkT y) : RkOkT (rAlt x y) := by
  rintro h ks e P A c S w hc hr hS
  cases e
  obtain ⟨hx, kx⟩ := x
  obtain ⟨hy, ky⟩ := y
  exact rk_alt_ (px _ _ rfl) (py _ _ rfl) P A c S w hc hr hS
end Go.Proofs.YteokbmngebckjaaDoor
