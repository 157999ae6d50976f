/- pick.right: at a Star; at every expression. val.Right. -/
import Derived.Test.YteokbmngebckjaaCd
import Derived.Test.YteokbmngebckjaaBy
namespace Go.Proofs.Yteokbmngebckjaa
open Go.RowKit
set_option linter.unusedVariables false
set_option linter.unusedSimpArgs false

theorem cut_star {x : Re} {S : List UInt8} {f j : Nat} {z : Int} (hfj : f < j) (hj : j ≤ S.length) (hl : LT (rStar x) (sub S f j)) (h : CutP x (rStar x) S f (f + 1) j z) : ∃ k : Nat, z = (k : Int) ∧ f < k ∧ k ≤ j ∧ LT x (sub S f k) ∧ LT (rStar x) (sub S k j) ∧ NoMore (LT x) (StarP (LT x)) (sub S f k) (sub S k j) := by
  rcases h with ⟨k, h1, h2, h3, h4, h5, h6, h7⟩ | ⟨_, h⟩
  · exact ⟨k, h1, by omega, h4, h5, h6, cut_nm h2 h4 hj fun k' ha hb hh => h7 k' ha hb ⟨hh.1, (LT_star _ _).2 hh.2⟩⟩
  · have h2 := (LT_star _ _).1 hl
    have hlen : (sub S f j).length = j - f := sub_len hj
    generalize hs : sub S f j = s at h2 hlen
    cases h2 with
    | nil => simp at hlen; omega
    | @cons u v h1 h2 h3 =>
      obtain ⟨k, hk1, hk2, rfl, rfl⟩ := sub_split (by omega) hj hs
      have hne : f < k := by
        rcases Nat.lt_or_ge f k with h4 | h4
        · exact h4
        · have : k = f := by omega
          subst this
          exact (h2 (sub_self _ _)).elim
      exact (h k hk1 hne hk2 ⟨h1, (LT_star _ _).2 h3⟩).elim
theorem b3_new {n : Nat} {w X : World} (h : Below n w X) (hn : n ≤ w.heap.size) (o : Obj) : Below n w (X.alloc o) := h.alloc (Nat.le_trans hn h.size) o
theorem keptB {n : Nat} {w X : World} {a : Addr} {v : Value} (h : Below n w X) (hc : w.cell? a = some v) (hn : a.block < n) : X.cell? a = some v := (World.cell?_of_block (h.block _ hn)).trans hc
set_option maxRecDepth 100000 in
set_option maxHeartbeats 16000000 in
theorem pk_star_ {hx : RH} {kx : List Re} (ms : mayB (.mk ⟨6, S4.zero⟩ [.mk hx kx]) = true) (mx : mayB (.mk hx kx) = true) (px : PkOk hx kx) : PkOk ⟨6, S4.zero⟩ [.mk hx kx] := by
  intro P A c S i j w hc hr hS hij hj hl
  have HL := Lib.hid hl
  obtain ⟨hh, hhh⟩ : ∃ hh : RH, hh = ⟨6, S4.zero⟩ := ⟨_, rfl⟩
  have g3 : ((hh.k.toNat : Int) == 3) = false := by rw [hhh]; rfl
  have g5 : ((hh.k.toNat : Int) == 5) = false := by rw [hhh]; rfl
  have g4 : ((hh.k.toNat : Int) == 4) = false := by rw [hhh]; rfl
  have g6 : ((hh.k.toNat : Int) == 6) = true := by rw [hhh]; rfl
  have HHH := Lib.hid hhh
  rw [show reV ⟨6, S4.zero⟩ A ([.mk hx kx] : List Re).length c = reV hh A 1 c by rw [hhh]; rfl]
  clear hhh
  obtain ⟨ad, A1, c1, hA, hc1, hr1, u0, u1, u2, u3, u4, u5⟩ := kid0N hr
  subst hA
  have HADB : Hid (ad.block < w.heap.size) := World.block_lt_of_cell? w _ u0
  obtain ⟨W, hW, hbW, hsW, e0W, e1W, e2W⟩ := pkva_pre w S hh (some ad) 1 c
  have HF : Hid (∀ (f : Nat) X, f < j → LT (rStar (.mk hx kx)) (sub S.data.toList f j) → Below w.heap.size w X → Calls Try.prog 62 #[.agg #[.string S], reV hx A1 kx.length c1, reV hh (some ad) 1 c, .int .i64 (f : Nat), .int .i64 ((f : Int) + 1), .int .i64 (j : Nat)] X fun e w' => ∃ k : Nat, e = .returned (.int .i64 (k : Nat)) ∧ f < k ∧ k ≤ j ∧ LT (.mk hx kx) (sub S.data.toList f k) ∧ LT (rStar (.mk hx kx)) (sub S.data.toList k j) ∧ NoMore (LT (.mk hx kx)) (StarP (LT (.mk hx kx))) (sub S.data.toList f k) (sub S.data.toList k j) ∧ Below X.heap.size X w') := fun f X hf hlf hX => by
    have := cut_any hx kx A1 c1 ⟨6, S4.zero⟩ [.mk hx kx] (some ad) c S f (f + 1) j X mx ms hc1 (hr1.below hX) hc (hr.below hX) hS (by omega) hj
    rw [show ((f + 1 : Nat) : Int) = (f : Int) + 1 by omega] at this
    rw [HHH.out]
    exact this.mono fun e w' ⟨z, he, hz, hb⟩ => by
      obtain ⟨k, rfl, h1, h2, h3, h4, h5⟩ := cut_star hf (by rw [sl_]; exact hj) hlf hz
      exact ⟨k, he, h1, h2, h3, h4, h5, hb⟩
  have HX : Hid (∀ f k X, f ≤ k → k ≤ j → LT (.mk hx kx) (sub S.data.toList f k) → Below w.heap.size w X → Calls Try.prog 40 #[.agg #[.string S], reV hx A1 kx.length c1, .int .i64 (f : Nat), .int .i64 (k : Nat)] X (RtPost (.mk hx kx) (sub S.data.toList f k) X)) := fun f k X h1 h2 hl hX => px _ A1 c1 S f k X hc1 (hr1.below hX) hS h1 (by omega) hl
  have HU : Hid (∀ X, Below w.heap.size w X → (X.cell? ad = some (.int .u8 (hx.k.toNat : Int)) ∧ X.cell? ⟨ad.block, ad.off + 1, none⟩ = some (.int .u64 (hx.s.a.toNat : Int)) ∧ X.cell? ⟨ad.block, ad.off + 2, none⟩ = some (.int .u64 (hx.s.b.toNat : Int)) ∧ X.cell? ⟨ad.block, ad.off + 3, none⟩ = some (.int .u64 (hx.s.c.toNat : Int)) ∧ X.cell? ⟨ad.block, ad.off + 4, none⟩ = some (.int .u64 (hx.s.d.toNat : Int)) ∧ X.cell? ⟨ad.block, ad.off + 5, none⟩ = some (.slice A1 kx.length c1))) := fun X hX => ⟨keep_cell hX u0, keep_cell hX u1, keep_cell hX u2, keep_cell hX u3, keep_cell hX u4, keep_cell hX u5⟩
  have HE := Lib.hid hW
  have HBW := Lib.hid hbW
  have HSW := Lib.hid hsW
  have E1 := Lib.hid e1W
  obtain ⟨V, hV⟩ : ∃ V, W.alloc (.cells #[.int .u8 6, .int .u8 0, .slice none 0 0] 24) = V := ⟨_, rfl⟩
  have hbV : Below W.heap.size W V := by rw [← hV]; exact below_new (Below.refl _ _) _
  have hsV : V.heap.size = w.heap.size + 1 + 1 + 1 + 1 := by rw [← hV, World.size_alloc, hsW]
  have E6V : Hid (V.heap[w.heap.size + 1 + 1 + 1]? = some (.cells #[.int .u8 6, .int .u8 0, .slice none 0 0] 24 (0, 0))) := by unfold Hid; rw [← hV, ← hsW]; exact new_at1 _
  have E0V := Lib.hid ((hbV.block _ (lt_of_block e0W)).trans e0W)
  have E1V := Lib.hid ((hbV.block _ (lt_of_block e1W)).trans e1W)
  have E2V := Lib.hid ((hbV.block _ (lt_of_block e2W)).trans e2W)
  have HBV := Lib.hid (below_from hbW hbV)
  have HVV := Lib.hid hV
  have HO0 : Hid (OwnT VE (fun _ => False) V (w.heap.size + 1 + 1 + 1 + 1) 24 (.slice none 0 0) []) := OwnT.nil_ _ _ _ _ _
  have HZV : Hid (w.heap.size + 1 + 1 + 1 + 1 ≤ V.heap.size) := by unfold Hid; omega
  have HRV0 : Hid (∀ m, RV (rStar (.mk hx kx)) (sub S.data.toList i j) (vStars m) → RV (rStar (.mk hx kx)) (sub S.data.toList i j) (vStars ([] ++ m))) := fun m h => h
  have HSS := Lib.hid hS
  have HJS := Lib.hid hj
  clear hW hbW e0W e1W e2W hr hsW hl hr1 u0 u1 u2 u3 u4 u5 px mx ms hV hbV hsV hS hj
  go_enter Try.func40, Try.ntmps40
  go_upto_region 1 with fail
  rw [show ((w.alloc _).alloc _).alloc _ = W from HE.out]
  obtain ⟨x0, x1, x2, x3, x4, x5⟩ := re_at_box E1.out
  have hsw := HSW.out
  go_wp2_with fail
  rw [show W.alloc _ = V from HVV.out]
  clear x0 x1 x2 x3 x4 x5 HVV HE E1 hsw HSW HBW
  go_loopw [2, 11] (fun fv av wr => ∃ (o : Value) (okk : Nat → Prop) (l : List Va) (f : Nat), fv = .int .i64 (f : Nat) ∧ i ≤ f ∧ f ≤ j ∧ Hid (LT (rStar (.mk hx kx)) (sub S.data.toList f j)) ∧ Hid (∀ m, RV (rStar (.mk hx kx)) (sub S.data.toList f j) (vStars m) → RV (rStar (.mk hx kx)) (sub S.data.toList i j) (vStars (l ++ m))) ∧ Hid (l.length ≤ f) ∧
    Hid (OwnT VE okk wr (w.heap.size + 1 + 1 + 1 + 1) 24 o l) ∧ Hid (∀ x, okk x → w.heap.size + 1 + 1 + 1 + 1 ≤ x ∧ x < wr.heap.size) ∧ Hid (wr.heap[w.heap.size + 1 + 1 + 1]? = some (.cells #[.int .u8 6, .int .u8 0, o] 24 (0, 0))) ∧ Hid (wr.heap[w.heap.size]? = some (.cells #[.string S] 70 (0, 0))) ∧
    Hid (wr.heap[w.heap.size + 1]? = some (.cells (reA hh (some ad) 1 c) 34 (0, 0))) ∧ Hid (wr.heap[w.heap.size + 1 + 1]? = some (.cells vaZ 24 (0, 0))) ∧ Hid (w.heap.size + 1 + 1 + 1 + 1 ≤ wr.heap.size) ∧ Hid (Below w.heap.size w wr)) (fun fv _ _ => j - (intOf fv).toNat)
  case atStart => exact ⟨_, fun _ => False, [], i, rfl, Nat.le_refl _, hij, HL, HRV0, Lib.hid (Nat.zero_le _), HO0, Lib.hid (fun x hx => hx.elim), E6V, E0V, E1V, E2V, HZV, HBV⟩
  case round =>
    clear E0V E1V E2V E6V HBV HO0 HZV HRV0 HL
    obtain ⟨o, okk, l, f, rfl, hif, hfj, HST, HRC, HLN, HOw, HK, E6, E0, E1, E2, HSZ, HBL⟩ := hrel
    have hszr := HSZ.out
    by_cases hlt : f < j
    · have gd : decide ((f : Int) < (j : Int)) = true := by simp; omega
      have gw : IntKind.i64.wrap ((f : Int) + 1) = (f : Int) + 1 := IntWalk.i64_in _ (by have := HSS.out; have := HJS.out; omega)
      have CU : Hid (∀ X, Below wr.heap.size wr X → Calls Try.prog 62 #[.agg #[.string S], reV hx A1 kx.length c1, reV hh (some ad) 1 c, .int .i64 (f : Nat), .int .i64 ((f : Int) + 1), .int .i64 (j : Nat)] X fun e w' => ∃ k : Nat, e = .returned (.int .i64 (k : Nat)) ∧ f < k ∧ k ≤ j ∧ LT (.mk hx kx) (sub S.data.toList f k) ∧ LT (rStar (.mk hx kx)) (sub S.data.toList k j) ∧ NoMore (LT (.mk hx kx)) (StarP (LT (.mk hx kx))) (sub S.data.toList f k) (sub S.data.toList k j) ∧ Below X.heap.size X w') := fun X hX => HF.out f X hlt HST.out (below_from HBL.out hX)
      have Q : Hid (∀ X, Below wr.heap.size wr X → X.cell? ⟨w.heap.size, 0, none⟩ = some (.string S) ∧ (X.cell? ⟨w.heap.size + 1, 0, none⟩ = some (.int .u8 (hh.k.toNat : Int)) ∧ X.cell? ⟨w.heap.size + 1, 1, none⟩ = some (.int .u64 (hh.s.a.toNat : Int)) ∧ X.cell? ⟨w.heap.size + 1, 2, none⟩ = some (.int .u64 (hh.s.b.toNat : Int)) ∧ X.cell? ⟨w.heap.size + 1, 3, none⟩ = some (.int .u64 (hh.s.c.toNat : Int)) ∧ X.cell? ⟨w.heap.size + 1, 4, none⟩ = some (.int .u64 (hh.s.d.toNat : Int)) ∧ X.cell? ⟨w.heap.size + 1, 5, none⟩ = some (.slice (some ad) 1 c)) ∧ (X.cell? ad = some (.int .u8 (hx.k.toNat : Int)) ∧ X.cell? ⟨ad.block, ad.off + 1, none⟩ = some (.int .u64 (hx.s.a.toNat : Int)) ∧ X.cell? ⟨ad.block, ad.off + 2, none⟩ = some (.int .u64 (hx.s.b.toNat : Int)) ∧ X.cell? ⟨ad.block, ad.off + 3, none⟩ = some (.int .u64 (hx.s.c.toNat : Int)) ∧ X.cell? ⟨ad.block, ad.off + 4, none⟩ = some (.int .u64 (hx.s.d.toNat : Int)) ∧ X.cell? ⟨ad.block, ad.off + 5, none⟩ = some (.slice A1 kx.length c1))) := fun X hX => ⟨cell_of_one ((hX.block _ (lt_of_block E0.out)).trans E0.out), re_at_box ((hX.block _ (lt_of_block E1.out)).trans E1.out), HU.out X (below_from HBL.out hX)⟩
      go_upto_region 14 with fail
      have hz := Below.refl wr.heap.size wr
      obtain ⟨p0, ⟨x0, x1, x2, x3, x4, x5⟩, u0, u1, u2, u3, u4, u5⟩ := Q.out _ hz
      go_region_held3 (fun X => X.cell? ⟨w.heap.size, 0, none⟩ = some (.string S) ∧ (X.cell? ⟨w.heap.size + 1, 0, none⟩ = some (.int .u8 (hh.k.toNat : Int)) ∧ X.cell? ⟨w.heap.size + 1, 1, none⟩ = some (.int .u64 (hh.s.a.toNat : Int)) ∧ X.cell? ⟨w.heap.size + 1, 2, none⟩ = some (.int .u64 (hh.s.b.toNat : Int)) ∧ X.cell? ⟨w.heap.size + 1, 3, none⟩ = some (.int .u64 (hh.s.c.toNat : Int)) ∧ X.cell? ⟨w.heap.size + 1, 4, none⟩ = some (.int .u64 (hh.s.d.toNat : Int)) ∧ X.cell? ⟨w.heap.size + 1, 5, none⟩ = some (.slice (some ad) 1 c)) ∧ (X.cell? ad = some (.int .u8 (hx.k.toNat : Int)) ∧ X.cell? ⟨ad.block, ad.off + 1, none⟩ = some (.int .u64 (hx.s.a.toNat : Int)) ∧ X.cell? ⟨ad.block, ad.off + 2, none⟩ = some (.int .u64 (hx.s.b.toNat : Int)) ∧ X.cell? ⟨ad.block, ad.off + 3, none⟩ = some (.int .u64 (hx.s.c.toNat : Int)) ∧ X.cell? ⟨ad.block, ad.off + 4, none⟩ = some (.int .u64 (hx.s.d.toNat : Int)) ∧ X.cell? ⟨ad.block, ad.off + 5, none⟩ = some (.slice A1 kx.length c1)))
        ((refine Q.out _ ?_; (repeat (first | with_reducible exact hz | with_reducible refine Below.drew ?_ | with_reducible refine below_new ?_ _))))
        (first
          | (go_at_call 62; (with_reducible refine Calls.mono (CU.out _ ?h1) ?_); (case h1 => (repeat (first | with_reducible exact hz | with_reducible refine Below.drew ?_ | with_reducible refine below_new ?_ _))); rintro e w1 ⟨k, rfl, hk1, hk2, hk3, hk4, hk5, hb1⟩; have HK1 := Lib.hid hk1; have HK2 := Lib.hid hk2; have HK3 := Lib.hid hk3; have HK4 := Lib.hid hk4; have HK5 := Lib.hid hk5; clear hk1 hk2 hk3 hk4 hk5; have hz : Below wr.heap.size wr w1 := below_from (by (repeat (first | with_reducible exact hz | with_reducible refine Below.drew ?_ | with_reducible refine below_new ?_ _))) hb1)
          | fail)
      obtain ⟨wq, rfl⟩ : ∃ x, x = w1 := ⟨_, rfl⟩
      have HB1 := Lib.hid hz
      have HBQ := Lib.hid (below_from HBL.out hz)
      have E6q := Lib.hid ((hz.block _ (lt_of_block E6.out)).trans E6.out)
      have E0q := Lib.hid ((hz.block _ (lt_of_block E0.out)).trans E0.out)
      have E1q := Lib.hid ((hz.block _ (lt_of_block E1.out)).trans E1.out)
      have E2q := Lib.hid ((hz.block _ (lt_of_block E2.out)).trans E2.out)
      have hsq := hz.size
      have HO1 := Lib.hid (HOw.out.grown_bE (kept_below (b := w.heap.size) hz) (by omega) (fun x hx => by have := (HK.out x hx).1; omega))
      have HKq : Hid (∀ x, okk x → w.heap.size + 1 + 1 + 1 + 1 ≤ x ∧ x < wq.heap.size) := fun x hx => ⟨(HK.out x hx).1, by have := (HK.out x hx).2; omega⟩
      have hob : Hid (∀ q, o.ownBlock = some q → w.heap.size + 1 + 1 + 1 + 1 ≤ q ∧ q < wq.heap.size) := fun q hq => own_inE HO1.out hq
      have CX : Hid (∀ X, Below wq.heap.size wq X → Calls Try.prog 40 #[.agg #[.string S], reV hx A1 kx.length c1, .int .i64 (f : Nat), .int .i64 (k : Nat)] X (RtPost (.mk hx kx) (sub S.data.toList f k) X)) := fun X hX => HX.out f k X (by have := HK1.out; omega) HK2.out HK3.out (below_from HBQ.out hX)
      have hnq : w.heap.size + 1 + 1 + 1 ≤ wq.heap.size := by omega
      have HNQ := Lib.hid hnq
      have Q2 : Hid (∀ X, Below (w.heap.size + 1 + 1 + 1) wq X → X.cell? ⟨w.heap.size, 0, none⟩ = some (.string S) ∧ X.cell? ⟨w.heap.size + 1, 5, none⟩ = some (.slice (some ad) 1 c) ∧ (X.cell? ad = some (.int .u8 (hx.k.toNat : Int)) ∧ X.cell? ⟨ad.block, ad.off + 1, none⟩ = some (.int .u64 (hx.s.a.toNat : Int)) ∧ X.cell? ⟨ad.block, ad.off + 2, none⟩ = some (.int .u64 (hx.s.b.toNat : Int)) ∧ X.cell? ⟨ad.block, ad.off + 3, none⟩ = some (.int .u64 (hx.s.c.toNat : Int)) ∧ X.cell? ⟨ad.block, ad.off + 4, none⟩ = some (.int .u64 (hx.s.d.toNat : Int)) ∧ X.cell? ⟨ad.block, ad.off + 5, none⟩ = some (.slice A1 kx.length c1))) := fun X hX => by
        have had := HADB.out
        obtain ⟨_, _, _, _, _, a5⟩ := re_at_box E1q.out
        obtain ⟨u0, u1, u2, u3, u4, u5⟩ := HU.out wq HBQ.out
        exact ⟨keptB hX (cell_of_one E0q.out) (by show w.heap.size < w.heap.size + 1 + 1 + 1; omega), keptB hX a5 (by show w.heap.size + 1 < w.heap.size + 1 + 1 + 1; omega), keptB hX u0 (by show ad.block < _; omega), keptB hX u1 (by show ad.block < _; omega), keptB hX u2 (by show ad.block < _; omega), keptB hX u3 (by show ad.block < _; omega), keptB hX u4 (by show ad.block < _; omega), keptB hX u5 (by show ad.block < _; omega)⟩
      clear hz hb1 Q CU hnq E6 E0 E1 E2 HOw HK p0 x0 x1 x2 x3 x4 x5 u0 u1 u2 u3 u4 u5 HST
      go_upto_region 15 with fail
      have hz := Below.refl wq.heap.size wq
      have hk : Below (w.heap.size + 1 + 1 + 1) wq wq := Below.refl _ _
      have r2 := (va_at_box E6q.out).2.2
      obtain ⟨p0, x5, u0, u1, u2, u3, u4, u5⟩ := Q2.out _ hk
      have ENTRY := Lib.hid True.intro
      go_region_law
        (first
          | (go_simp; go_at_call 40; (with_reducible refine Calls.mono (CX.out _ ?h1) ?_); (case h1 => (repeat (first | with_reducible exact hz | with_reducible refine Below.drew ?_ | with_reducible refine below_new ?_ _))); rintro e w2 ⟨hm, km, Am, cm, rfl, evb, hcm, hrm, hk2⟩; have hz : Below wq.heap.size wq w2 := below_from (by (repeat (first | with_reducible exact hz | with_reducible refine Below.drew ?_ | with_reducible refine below_new ?_ _))) hk2; have hk : Below (w.heap.size + 1 + 1 + 1) wq w2 := hz.mono HNQ.out; obtain ⟨p0, x5, u0, u1, u2, u3, u4, u5⟩ := Q2.out _ hk; have E62 := Lib.hid ((hz.block _ (lt_of_block E6q.out)).trans E6q.out); have r2 := (va_at_box E62.out).2.2; have r2a := fun ob => keep_cell (below_new (Below.refl w2.heap.size w2) ob) r2; have hsz2 := hz.size; have HO2 := HO1.out.grown_bE (kept_below (b := w.heap.size) hz) (by omega) (fun x hx => by have := (HKq.out x hx).1; omega); obtain ⟨cs0, hown0, hsrc, happ⟩ := va_app (h2 := hm) (k2 := km) (tb := .mk hm km) (P := fun x => wq.heap.size ≤ x ∧ x < w2.heap.size) HO2 (fun x hx => by have := (HKq.out x hx).2; omega) (fun x hx => ⟨hx.2, fun e => by have := (hob.out x e.symm).2; have := hx.1; omega⟩) (Below.refl _ _) rfl hcm ((hrm.there.weak fun x hx => .inl hx)))
          | (refine step_app _ (by rfl) (.tmp 102) (.tmp 111) 22 (by rfl) (w.heap.size + 1 + 1 + 1 + 1) 24 _ 3 32 Try.underlying22 Try.info_va rfl (by decide) o l.length cs0 (by rfl) hown0 (some ⟨w2.heap.size, 0, none⟩) 1 1 _ (by rfl) hsrc (vaA_one hm Am km.length cm) (by have := HLN.out; have := HSS.out; have := HJS.out; unfold maxLen; omega) (by have := HLN.out; have := HSS.out; have := HJS.out; omega) (by rw [World.size_alloc]; omega) ?_; intro v5 w5 ho5 hg5 hat5; have hr5 := happ v5 w5 ho5 hg5 hat5; obtain ⟨A5, c5, hv5, _, _⟩ := own_slice ho5; subst hv5; have hs5 := hg5.size; rw [World.size_alloc] at hs5; have hzx := below_new (Below.refl w2.heap.size w2) (.cells (vaA hm Am km.length cm) 24); have hk : Below (w.heap.size + 1 + 1 + 1) wq w5 := (b3_new hk HNQ.out (.cells (vaA hm Am km.length cm) 24)).grown hg5 (by rw [World.size_alloc]; have := HNQ.out; omega) (fun q hq => by have := (hob.out q hq).1; omega); have e65 := (hzx.block _ (lt_of_block E62.out)).trans E62.out; have e66 := (hg5.block _ (lt_of_block e65) (fun e => by have := (hob.out _ e.symm).1; omega)).trans e65; obtain ⟨⟨a0, a1, a2⟩, b0, b1, b2⟩ := va_cells e66)
          | fail)
      all_goals
        have hk1 := HK1.out
        have hk2' := HK2.out
        have e05 := (hk.block w.heap.size (by omega)).trans E0q.out
        have e15 := (hk.block (w.heap.size + 1) (by omega)).trans E1q.out
        have e25 := (hk.block (w.heap.size + 1 + 1) (by omega)).trans E2q.out
        have E66 := Lib.hid (two_setCell (u2 := .slice A5 (l.length + 1) c5) e66)
        have E06 := Lib.hid ((Below.heap_setCell w5 ⟨w.heap.size + 1 + 1 + 1, 2, none⟩ (.slice A5 (l.length + 1) c5) _ (by show w.heap.size ≠ w.heap.size + 1 + 1 + 1; omega)).trans e05)
        have E16 := Lib.hid ((Below.heap_setCell w5 ⟨w.heap.size + 1 + 1 + 1, 2, none⟩ (.slice A5 (l.length + 1) c5) _ (by show w.heap.size + 1 ≠ w.heap.size + 1 + 1 + 1; omega)).trans e15)
        have E26 := Lib.hid ((Below.heap_setCell w5 ⟨w.heap.size + 1 + 1 + 1, 2, none⟩ (.slice A5 (l.length + 1) c5) _ (by show w.heap.size + 1 + 1 ≠ w.heap.size + 1 + 1 + 1; omega)).trans e25)
        have HB6 : Hid (Below w.heap.size w (w5.setCell ⟨w.heap.size + 1 + 1 + 1, 2, none⟩ (.slice A5 (l.length + 1) c5))) := (HBQ.out.trans (hk.mono (by omega))).setCell (p := ⟨w.heap.size + 1 + 1 + 1, 2, none⟩) (by show w.heap.size ≤ w.heap.size + 1 + 1 + 1; omega) _
        have hok5 : ∀ x, (okk x ∨ (wq.heap.size ≤ x ∧ x < w2.heap.size) ∨ (w2.heap.size ≤ x ∧ x < w2.heap.size)) → w.heap.size + 1 + 1 + 1 + 1 ≤ x ∧ x < w5.heap.size := fun x hx => by
          rcases hx with hx | hx | hx
          · have := HKq.out x hx; exact ⟨this.1, by omega⟩
          · exact ⟨by omega, by omega⟩
          · omega
        have HO6 := Lib.hid (hr5.grown_bE (set_grown w5 (w.heap.size + 1 + 1 + 1) 2 (.slice A5 (l.length + 1) c5)) (by omega) (fun x hx => by have := (hok5 x hx).1; omega))
        have HK7 : Hid (∀ x, (okk x ∨ (wq.heap.size ≤ x ∧ x < w2.heap.size) ∨ (w2.heap.size ≤ x ∧ x < w2.heap.size)) → w.heap.size + 1 + 1 + 1 + 1 ≤ x ∧ x < (w5.setCell ⟨w.heap.size + 1 + 1 + 1, 2, none⟩ (.slice A5 (l.length + 1) c5)).heap.size) := fun x hx => by have := hok5 x hx; simpa using this
        have HRC2 : Hid (∀ m, RV (rStar (.mk hx kx)) (sub S.data.toList k j) (vStars m) → RV (rStar (.mk hx kx)) (sub S.data.toList i j) (vStars ((l ++ [.mk hm km]) ++ m))) := fun m hmm => by
          have hne : sub S.data.toList f k ≠ [] := fun e => by
            have := sub_len (S := S.data.toList) (i := f) (j := k) (by rw [sl_]; have := HJS.out; omega)
            rw [e] at this
            simp at this
            omega
          have h1 := RV.cons _ _ _ _ _ evb hne hmm HK5.out
          rw [← sub_app (by omega) (by omega)] at h1
          have h3 := HRC.out _ h1
          rw [List.append_assoc]
          exact h3
        have HLN2 : Hid ((l ++ [T.mk hm km]).length ≤ k) := by unfold Hid; have := HLN.out; rw [List.length_append, List.length_singleton]; omega
        have HSZ6 : Hid (w.heap.size + 1 + 1 + 1 + 1 ≤ (w5.setCell ⟨w.heap.size + 1 + 1 + 1, 2, none⟩ (.slice A5 (l.length + 1) c5)).heap.size) := by unfold Hid; simp; omega
        have hik : i ≤ k := by omega
        have HM : Hid (f < k ∧ k ≤ j) := ⟨hk1, hk2'⟩
        clear ho5 hg5 hat5 hown0 hsrc happ e65 e66 e05 e15 e25 hr5 hok5 hzx hs5 r2 r2a p0 x5 u0 u1 u2 u3 u4 u5 a0 a1 a2 b0 b1 b2 hk2 hrm HO2 Q2 CX evb hk1 hk hz
        go_wp2_with fail
        go_roundw
        case rel => exact ⟨_, _, l ++ [T.mk hm km], k, rfl, hik, hk2', HK4, HRC2, HLN2, HO6, HK7, E66, E06, E16, E26, HSZ6, HB6⟩
        case measure => have := HM.out; simp [intOf]; omega
    · have he : f = j := by omega
      subst he
      have gd : decide ((f : Int) < (f : Int)) = false := by simp
      have hsj : sub S.data.toList f f = [] := sub_self _ _
      have HRF : Hid (RV (rStar (.mk hx kx)) (sub S.data.toList i f) (vStars l)) := by
        have := HRC.out [] (by rw [hsj]; exact .nil _)
        rwa [List.append_nil] at this
      obtain ⟨A3, c3, hv3, hc3, hr3⟩ := HOw.out.row
      have HR3 := Lib.hid (hr3.weak (ok' := fun x => w.heap.size + 1 + 1 + 1 + 1 ≤ x) fun x hx => by
        rcases hx with hx | hx
        · exact (HK.out x hx).1
        · exact (own_inE HOw.out hx).1)
      have HC3 := Lib.hid hc3
      subst hv3
      obtain ⟨⟨x0, x1, x2⟩, xf0, xf1, xf2⟩ := va_cells E6.out
      obtain ⟨⟨y0, y1, y2⟩, f0, f1, f2⟩ := va_cells E2.out
      clear hr3 hc3 hlt HOw HK hsj HF HX
      go_wp2_with fail
      refine bodyPost_ret (v := vaV ⟨6, 0⟩ A3 l.length c3) (by simp [results, Try.results40, go_sem, y0, y1, y2]; try exact ⟨rfl, rfl, rfl⟩) rfl ⟨⟨6, 0⟩, l, A3, c3, rfl, HRF.out, HC3.out, (row_three HR3.out fun x hx => by omega).weak fun x hx => by omega, three_below HBL.out (by omega)⟩
theorem pk_star {x : Re} (px : PkOkT x) : PkOkT (rStar x) := by
  rintro h ks e hmy
  cases e
  have mx := may_one hmy
  obtain ⟨hx, kx⟩ := x
  exact pk_star_ hmy mx (px _ _ rfl mx)
theorem pk_all : ∀ t : Re, okT t = true → PkOkT t := by
  refine okT_ind ?_ ?_ ?_ ?_ ?_ ?_
  · rintro h ks e hmy P A c S i j w hc hr hS hij hj hl
    cases e
    exact ((LT_emp _).1 hl).elim
  · exact pk_eps
  · intro s hs; exact pk_cls s
  · intro x y hx hy ihx ihy; exact pk_seq ihx ihy
  · intro x y hx hy ihx ihy; exact pk_alt ihx ihy
  · intro x hx ih; exact pk_star ih
end Go.Proofs.Yteokbmngebckjaa
namespace Go.Proofs.Yteokbmngebckjaa
open Go.RowKit
set_option linter.unusedVariables false
set_option linter.unusedSimpArgs false

theorem right_rel {t : Re} {s : List UInt8} : (mayB t && fitB t s) = true ↔ (mayB t = true ∧ LT t s) := by rw [Bool.and_eq_true, fitB_true]
set_option maxRecDepth 100000 in
set_option maxHeartbeats 8000000 in
theorem vRight_any {P : Nat → Prop} (h : RH) (ks : List Re) (A : Option Addr) (c : Nat) (S : ByteArray) (w : World) (hm : T.sizes ks ≤ 900000) (hc : ks.length ≤ c) (hr : InRow RE P w ks A 0) (hS : S.size ≤ 100) :
    Calls Try.prog 18 #[reV h A ks.length c, .string S] w (RightPost (.mk h ks) S.data.toList w) := by
  obtain ⟨W, hW, hbW, hsW, e1W, e2W⟩ := reva_pre w h A ks.length c
  obtain ⟨V, hV⟩ : ∃ V, W.alloc (.cells #[.string S] 9) = V := ⟨_, rfl⟩
  have hbV : Below W.heap.size W V := by rw [← hV]; exact below_new (Below.refl _ _) _
  have hrow : Row1 Value.string V (some ⟨W.heap.size, 0, none⟩) [S] := by rw [← hV]; exact row1_new _ _ _
  have HF := Lib.hid (mFits_any h ks A c S (some ⟨W.heap.size, 0, none⟩) 1 V hm hc (hr.below (below_from hbW hbV)) hS hrow)
  have HRT : Hid (mayB (.mk h ks) = true → LT (.mk h ks) S.data.toList → ∀ X, Below w.heap.size w X → Calls Try.prog 40 #[.agg #[.string S], reV h A ks.length c, .int .i64 0, .int .i64 (S.size : Int)] X (RtPost (.mk h ks) S.data.toList X)) := fun hmy hl X hX => by
    have h1 : sub S.data.toList 0 S.size = S.data.toList := by rw [← sl_]; exact sub_all _
    have := pk_all _ (may_okT hmy) h ks rfl hmy _ A c S 0 S.size X hc (hr.below hX) hS (Nat.zero_le _) (Nat.le_refl _) (by rw [h1]; exact hl)
    rw [h1] at this
    exact this
  have HE := Lib.hid hW
  have HVV := Lib.hid hV
  have HBW := Lib.hid hbW
  have HSW := Lib.hid hsW
  have HBV := Lib.hid (below_from hbW hbV)
  have E1 := Lib.hid e1W
  have E1V := Lib.hid ((hbV.block _ (lt_of_block e1W)).trans e1W)
  have E2V := Lib.hid ((hbV.block _ (lt_of_block e2W)).trans e2W)
  clear hW hbW hsW e1W e2W hr hV hbV hrow
  go_enter Try.func18, Try.ntmps18
  go_upto_region 1 with fail
  rw [show (w.alloc _).alloc _ = W from HE.out]
  obtain ⟨x0, x1, x2, x3, x4, x5⟩ := re_at_box E1.out
  go_wp2_with fail
  rw [show W.alloc _ = V from HVV.out]
  refine HF.out.mono ?_
  rintro e w1 ⟨rfl, hb1⟩
  clear x0 x1 x2 x3 x4 x5 HF
  have HB1 := Lib.hid (below_from HBV.out hb1)
  have E11 := (hb1.block _ (lt_of_block E1V.out)).trans E1V.out
  have E21 := Lib.hid ((hb1.block _ (lt_of_block E2V.out)).trans E2V.out)
  clear hb1
  rcases hb : (mayB (.mk h ks) && fitB (.mk h ks) S.data.toList) with _ | _
  · have HRL : Hid (RightRel (.mk h ks) S.data.toList (.mk vaH0 []) false) := .inr ⟨rfl, rfl, fun hh => by rw [right_rel.2 hh] at hb; cases hb⟩
    obtain ⟨⟨y0, y1, y2⟩, f0, f1, f2⟩ := va_cells E21.out
    clear E11 hb
    go_wp2_with fail
    refine bodyPost_ret (v := .tuple #[vaV vaH0 none 0 0, .bool false]) (by simp [results, Try.results18, go_sem, y0, y1, y2]; try exact ⟨rfl, rfl, rfl⟩) rfl ⟨vaH0, [], none, 0, false, rfl, HRL.out, Nat.le_refl _, by simp [InRow], three_below HB1.out (by omega)⟩
  · obtain ⟨hmy, hl⟩ := right_rel.1 hb
    have HC := Lib.hid (HRT.out hmy hl w1 HB1.out)
    have HMY := Lib.hid hmy
    obtain ⟨x0, x1, x2, x3, x4, x5⟩ := re_at_box E11
    clear HRT hmy hl E11 hb
    go_wp2_with fail
    refine HC.out.mono ?_
    rintro e w2 ⟨hn, kn, An, cn, rfl, hv, hcn, hrn, hb2⟩
    have HRL : Hid (RightRel (.mk h ks) S.data.toList (.mk hn kn) true) := .inl ⟨rfl, HMY.out, hv⟩
    have hs1 := HB1.out.size
    have hsw := HSW.out
    have hl2 := lt_of_block E21.out
    have HB2 := Lib.hid (below_from HB1.out hb2)
    obtain ⟨⟨y0, y1, y2⟩, f0, f1, f2⟩ := va_cells ((hb2.block _ (lt_of_block E21.out)).trans E21.out)
    have HRN := Lib.hid hrn
    clear hb2 hrn hv x0 x1 x2 x3 x4 x5 HC
    go_wp2_with fail
    refine bodyPost_ret (v := .tuple #[vaV hn An kn.length cn, .bool true]) (by simp [results, Try.results18, go_sem, y0, y1, y2]; try exact ⟨rfl, rfl, rfl⟩) rfl ⟨hn, kn, An, cn, true, rfl, HRL.out, hcn, (row_three HRN.out fun x hx => by omega).weak fun x hx => by omega, three_below HB2.out (by omega)⟩
end Go.Proofs.Yteokbmngebckjaa
