/- Made simpler, at a Seq. The document's, made simpler, at a Seq. The document's, made simpler, at an Alt. Made simpler: all kinds; Simp; the steps. The document's example of layer 18. -/
import Derived.Test.YtgdigbbfgpenpaaDoorBo
import Derived.Test.YtgdigbbfgpenpaaDoorBl
import Derived.Test.YtgdigbbfgpenpaaDoorBf
namespace Go.Proofs.YtgdigbbfgpenpaaDoor
open Go.RowKit
set_option linter.unusedVariables false
set_option linter.unusedSimpArgs false

set_option maxRecDepth 100000 in
set_option maxHeartbeats 16000000 in
theorem simp_4 {h : CH} (e : h.k = 4) (hs : h.s = S4.zero) {hx : CH} {kx : List Co} (px : SimpOk 58 hx kx) {hy : CH} {ky : List Co} (py : SimpOk 58 hy ky)
    (hfb : h.b.length + (simpC (.mk hx kx)).head.b.length + (simpC (.mk hy ky)).head.b.length ≤ 1000000000) : SimpOk 58 h [.mk hx kx, .mk hy ky] := by
  intro P A c w hc hr
  have hkn : (h.k.toNat : Int) = 4 := by rw [e]; rfl
  have HSQ : Hid (simpC (.mk h [.mk hx kx, .mk hy ky]) = simpSeq h.b (simpC (.mk hx kx)) (simpC (.mk hy ky))) := by
    obtain ⟨k, b, s⟩ := h
    simp only at e hs
    subst e hs
    exact simp_seq b _ _
  clear hs
  obtain ⟨ad, A1, c1, hA, hc1, hr1, u0, u1, u2, u3, u4, u5, u6⟩ := kidC0 hr
  subst hA
  obtain ⟨ad', A2, c2, hA2, hc2, hr2, v0, v1, v2, v3, v4, v5, v6⟩ := kidC1 hr
  obtain rfl := Option.some.inj hA2
  obtain ⟨W, hW⟩ : ∃ W, (w.alloc (.cells #[.int .u8 4, .string (str h.b), .int .u64 (h.s.a.toNat : Int), .int .u64 (h.s.b.toNat : Int), .int .u64 (h.s.c.toNat : Int), .int .u64 (h.s.d.toNat : Int), .slice (some ad) 2 c] 73)).alloc (.cells coZ 73) = W := ⟨_, rfl⟩
  have hbW : Below w.heap.size w W := by rw [← hW]; exact below_new (below_new (Below.refl _ _) _) _
  have hsW : W.heap.size = w.heap.size + 1 + 1 := by rw [← hW]; simp
  have e1 : W.heap[w.heap.size]? = some (.cells #[.int .u8 4, .string (str h.b), .int .u64 (h.s.a.toNat : Int), .int .u64 (h.s.b.toNat : Int), .int .u64 (h.s.c.toNat : Int), .int .u64 (h.s.d.toNat : Int), .slice (some ad) 2 c] 73 (0, 0)) := by rw [← hW]; exact heap_keep1 (new_at1 _) _
  have e2 : W.heap[w.heap.size + 1]? = some (.cells coZ 73 (0, 0)) := by
    rw [← hW]
    have := new_at1 (w := w.alloc (.cells #[.int .u8 4, .string (str h.b), .int .u64 (h.s.a.toNat : Int), .int .u64 (h.s.b.toNat : Int), .int .u64 (h.s.c.toNat : Int), .int .u64 (h.s.d.toNat : Int), .slice (some ad) 2 c] 73)) (.cells coZ 73)
    rw [World.size_alloc] at this
    exact this
  have Q0 : Hid (∀ X, Below W.heap.size W X → X.cell? ⟨w.heap.size, 6, none⟩ = some (.slice (some ad) 2 c) ∧ X.cell? ad = some (.int .u8 (hx.k.toNat : Int)) ∧ X.cell? ⟨ad.block, ad.off + 1, none⟩ = some (.string (str hx.b)) ∧ X.cell? ⟨ad.block, ad.off + 2, none⟩ = some (.int .u64 (hx.s.a.toNat : Int)) ∧ X.cell? ⟨ad.block, ad.off + 3, none⟩ = some (.int .u64 (hx.s.b.toNat : Int)) ∧ X.cell? ⟨ad.block, ad.off + 4, none⟩ = some (.int .u64 (hx.s.c.toNat : Int)) ∧ X.cell? ⟨ad.block, ad.off + 5, none⟩ = some (.int .u64 (hx.s.d.toNat : Int)) ∧ X.cell? ⟨ad.block, ad.off + 6, none⟩ = some (.slice A1 kx.length c1) ∧ X.cell? ⟨ad.block, ad.off + 7, none⟩ = some (.int .u8 (hy.k.toNat : Int)) ∧ X.cell? ⟨ad.block, ad.off + 7 + 1, none⟩ = some (.string (str hy.b)) ∧ X.cell? ⟨ad.block, ad.off + 7 + 2, none⟩ = some (.int .u64 (hy.s.a.toNat : Int)) ∧ X.cell? ⟨ad.block, ad.off + 7 + 3, none⟩ = some (.int .u64 (hy.s.b.toNat : Int)) ∧ X.cell? ⟨ad.block, ad.off + 7 + 4, none⟩ = some (.int .u64 (hy.s.c.toNat : Int)) ∧ X.cell? ⟨ad.block, ad.off + 7 + 5, none⟩ = some (.int .u64 (hy.s.d.toNat : Int)) ∧ X.cell? ⟨ad.block, ad.off + 7 + 6, none⟩ = some (.slice A2 ky.length c2)) := by
    intro X hX
    obtain ⟨a0, a1, a2, a3, a4, a5, a6⟩ := co_at_box ((hX.block _ (lt_of_block e1)).trans e1)
    have hX2 := below_from hbW hX
    exact ⟨a6, keep_cell hX2 u0, keep_cell hX2 u1, keep_cell hX2 u2, keep_cell hX2 u3, keep_cell hX2 u4, keep_cell hX2 u5, keep_cell hX2 u6, keep_cell hX2 v0, keep_cell hX2 v1, keep_cell hX2 v2, keep_cell hX2 v3, keep_cell hX2 v4, keep_cell hX2 v5, keep_cell hX2 v6⟩
  have PX : Hid (∀ X, Below W.heap.size W X → Calls Tryd.prog 58 #[coV hx A1 kx.length c1] X (CoPostX (fun b => P b ∧ b < w.heap.size) (simpC (.mk hx kx)) X)) := fun X hX => px _ A1 c1 X hc1 (hr1.there.below (below_from hbW hX))
  have PY : Hid (∀ X, Below W.heap.size W X → Calls Tryd.prog 58 #[coV hy A2 ky.length c2] X (CoPostX (fun b => P b ∧ b < w.heap.size) (simpC (.mk hy ky)) X)) := fun X hX => py _ A2 c2 X hc2 (hr2.there.below (below_from hbW hX))
  have HB := Lib.hid hbW
  have HE := Lib.hid hW
  have HSW := Lib.hid hsW
  have E1 := Lib.hid e1
  have E2 := Lib.hid e2
  have HFB := Lib.hid hfb
  have hPB : Hid (∀ x, (P x ∧ x < w.heap.size) → ((P x ∧ x < w.heap.size) ∨ W.heap.size ≤ x) ∧ x < W.heap.size) := fun x hx => ⟨.inl hx, by have := hbW.size; omega⟩
  have hP0 : Hid (∀ x, W.heap.size ≤ x → ((P x ∧ x < w.heap.size) ∨ W.heap.size ≤ x)) := fun x hx => .inr hx
  obtain ⟨x0, x1, x2, x3, x4, x5, x6⟩ := co_at_box e1
  rw [← hW] at x0 x1 x2 x3 x4 x5 x6
  have hww := hbW.size
  clear hW hr hr1 hr2 px py u0 u1 u2 u3 u4 u5 u6 v0 v1 v2 v3 v4 v5 v6 hbW e1 e2 hc1 hc2 hsW e hfb
  generalize simpC (.mk hx kx) = tx at *
  generalize simpC (.mk hy ky) = ty at *
  go_enter Tryd.func58, Tryd.ntmps58
  go_upto_region 3 with fail
  rw [show (w.alloc _).alloc _ = W from HE.out]
  clear x0 x1 x2 x3 x4 x5 x6 HE
  go_cut [3, 4] from 11 to 20 (fun q1 q2 wx => TwoBoxC (fun x => (P x ∧ x < w.heap.size) ∨ W.heap.size ≤ x) W tx ty q1 q2 wx)
  case first =>
    have hz := (Below.refl W.heap.size W).drew
    refine wp_region_held_drew (S := fun X => X.cell? ⟨w.heap.size, 6, none⟩ = some (.slice (some ad) 2 c) ∧ X.cell? ad = some (.int .u8 (hx.k.toNat : Int)) ∧ X.cell? ⟨ad.block, ad.off + 1, none⟩ = some (.string (str hx.b)) ∧ X.cell? ⟨ad.block, ad.off + 2, none⟩ = some (.int .u64 (hx.s.a.toNat : Int)) ∧ X.cell? ⟨ad.block, ad.off + 3, none⟩ = some (.int .u64 (hx.s.b.toNat : Int)) ∧ X.cell? ⟨ad.block, ad.off + 4, none⟩ = some (.int .u64 (hx.s.c.toNat : Int)) ∧ X.cell? ⟨ad.block, ad.off + 5, none⟩ = some (.int .u64 (hx.s.d.toNat : Int)) ∧ X.cell? ⟨ad.block, ad.off + 6, none⟩ = some (.slice A1 kx.length c1) ∧ X.cell? ⟨ad.block, ad.off + 7, none⟩ = some (.int .u8 (hy.k.toNat : Int)) ∧ X.cell? ⟨ad.block, ad.off + 7 + 1, none⟩ = some (.string (str hy.b)) ∧ X.cell? ⟨ad.block, ad.off + 7 + 2, none⟩ = some (.int .u64 (hy.s.a.toNat : Int)) ∧ X.cell? ⟨ad.block, ad.off + 7 + 3, none⟩ = some (.int .u64 (hy.s.b.toNat : Int)) ∧ X.cell? ⟨ad.block, ad.off + 7 + 4, none⟩ = some (.int .u64 (hy.s.c.toNat : Int)) ∧ X.cell? ⟨ad.block, ad.off + 7 + 5, none⟩ = some (.int .u64 (hy.s.d.toNat : Int)) ∧ X.cell? ⟨ad.block, ad.off + 7 + 6, none⟩ = some (.slice A2 ky.length c2)) (by kernel_rfl) (Q0.out _ hz) (fun hHeld => ?_)
    refine wpAnyH_take (i := 0) (oi := ⟨some 11, _, _, _, _, _⟩) (v := .pointer (some ⟨w.heap.size, 6, none⟩)) rfl (by kernel_rfl) (by kernel_rfl) (by kernel_rfl) (fun _ _ _ h => h) (Or.inl ⟨by rfl, ?_⟩) (by assumption) ?_
    · intro wx hSw
      obtain ⟨p6, u0, u1, u2, u3, u4, u5, u6, v0, v1, v2, v3, v4, v5, v6⟩ := hSw
      go_simp
    simp only [Act.put, List.setIfInBounds_toArray, List.set_cons_zero, List.set_cons_succ]
    refine wpAnyH_take (i := 1) (oi := ⟨some 12, _, _, _, _, _⟩) (v := .slice (some ad) 2 c) rfl (by kernel_rfl) (by kernel_rfl) (by kernel_rfl) (fun _ _ _ h => h) (Or.inl ⟨by rfl, ?_⟩) (by assumption) ?_
    · intro wx hSw
      obtain ⟨p6, u0, u1, u2, u3, u4, u5, u6, v0, v1, v2, v3, v4, v5, v6⟩ := hSw
      go_simp
    simp only [Act.put, List.setIfInBounds_toArray, List.set_cons_zero, List.set_cons_succ]
    refine wpAnyH_take (i := 2) (oi := ⟨some 13, _, _, _, _, _⟩) (v := .pointer (some ad)) rfl (by kernel_rfl) (by kernel_rfl) (by kernel_rfl) (fun _ _ _ h => h) (Or.inl ⟨by rfl, ?_⟩) (by assumption) ?_
    · intro wx hSw
      obtain ⟨p6, u0, u1, u2, u3, u4, u5, u6, v0, v1, v2, v3, v4, v5, v6⟩ := hSw
      go_simp
    simp only [Act.put, List.setIfInBounds_toArray, List.set_cons_zero, List.set_cons_succ]
    refine wpAnyH_take (i := 3) (oi := ⟨some 14, _, _, _, _, _⟩) (v := coV hx A1 kx.length c1) rfl (by kernel_rfl) (by kernel_rfl) (by kernel_rfl) (fun _ _ _ h => h) (Or.inl ⟨by rfl, ?_⟩) (by assumption) ?_
    · intro wx hSw
      obtain ⟨p6, u0, u1, u2, u3, u4, u5, u6, v0, v1, v2, v3, v4, v5, v6⟩ := hSw
      go_simp
    simp only [Act.put, List.setIfInBounds_toArray, List.set_cons_zero, List.set_cons_succ]
    refine wpAnyH_take (i := 5) (oi := ⟨some 16, _, _, _, _, _⟩) (v := .pointer (some ⟨w.heap.size, 6, none⟩)) rfl (by kernel_rfl) (by kernel_rfl) (by kernel_rfl) (fun _ _ _ h => h) (Or.inl ⟨by rfl, ?_⟩) (by assumption) ?_
    · intro wx hSw
      obtain ⟨p6, u0, u1, u2, u3, u4, u5, u6, v0, v1, v2, v3, v4, v5, v6⟩ := hSw
      go_simp
    simp only [Act.put, List.setIfInBounds_toArray, List.set_cons_zero, List.set_cons_succ]
    refine wpAnyH_take (i := 6) (oi := ⟨some 17, _, _, _, _, _⟩) (v := .slice (some ad) 2 c) rfl (by kernel_rfl) (by kernel_rfl) (by kernel_rfl) (fun _ _ _ h => h) (Or.inl ⟨by rfl, ?_⟩) (by assumption) ?_
    · intro wx hSw
      obtain ⟨p6, u0, u1, u2, u3, u4, u5, u6, v0, v1, v2, v3, v4, v5, v6⟩ := hSw
      go_simp
    simp only [Act.put, List.setIfInBounds_toArray, List.set_cons_zero, List.set_cons_succ]
    refine wpAnyH_take (i := 7) (oi := ⟨some 18, _, _, _, _, _⟩) (v := .pointer (some ⟨ad.block, ad.off + 7, none⟩)) rfl (by kernel_rfl) (by kernel_rfl) (by kernel_rfl) (fun _ _ _ h => h) (Or.inl ⟨by rfl, ?_⟩) (by assumption) ?_
    · intro wx hSw
      obtain ⟨p6, u0, u1, u2, u3, u4, u5, u6, v0, v1, v2, v3, v4, v5, v6⟩ := hSw
      go_simp
    simp only [Act.put, List.setIfInBounds_toArray, List.set_cons_zero, List.set_cons_succ]
    refine wpAnyH_take (i := 8) (oi := ⟨some 19, _, _, _, _, _⟩) (v := coV hy A2 ky.length c2) rfl (by kernel_rfl) (by kernel_rfl) (by kernel_rfl) (fun _ _ _ h => h) (Or.inl ⟨by rfl, ?_⟩) (by assumption) ?_
    · intro wx hSw
      obtain ⟨p6, u0, u1, u2, u3, u4, u5, u6, v0, v1, v2, v3, v4, v5, v6⟩ := hSw
      go_simp
    simp only [Act.put, List.setIfInBounds_toArray, List.set_cons_zero, List.set_cons_succ]
    refine wpAnyH_inv (fun listed a w' => ∃ (t1 t2 a3 a4 s3 s4 : Bool) (q3 q4 v1 v2 : Value), listed = #[true, true, true, true, t1, true, true, true, true, t2, a3, a4, s3, s4] ∧ a = ⟨#[coV h (some ad) 2 c, .pointer (some ⟨w.heap.size, 0, none⟩), .pointer (some ⟨w.heap.size + 1, 0, none⟩), q3, q4, undef, undef, .pointer (some ⟨w.heap.size, 0, none⟩), .int .u8 4, .bool true, .bool true, .pointer (some ⟨w.heap.size, 6, none⟩), .slice (some ad) 2 c, .pointer (some ad), coV hx A1 kx.length c1, v1, .pointer (some ⟨w.heap.size, 6, none⟩), .slice (some ad) 2 c, .pointer (some ⟨ad.block, ad.off + 7, none⟩), coV hy A2 ky.length c2, v2, undef, undef, undef, undef, undef, undef, undef, undef, undef, undef, undef, undef, undef, undef, undef, undef, undef, undef, undef, undef, undef, undef, undef, undef, undef, undef, undef, undef, undef, undef, undef, undef, undef, undef, undef, undef, undef, undef, undef, undef, undef, undef, undef, undef, undef, undef, undef, undef, undef, undef, undef, undef, undef, undef, undef], []⟩ ∧ TwoS (fun x => (P x ∧ x < w.heap.size) ∨ W.heap.size ≤ x) W tx ty t1 t2 a3 a4 s3 s4 q3 q4 v1 v2 w') ?step ?fin _ _ _ _ (by decide) ⟨false, false, false, false, false, false, undef, undef, undef, undef, rfl, rfl, TwoS.start _ _ _ _ hz⟩
    case step =>
      clear hHeld hz
      rintro listed a w' ⟨t1, t2, a3, a4, s3, s4, q3, q4, v1, v2, rfl, rfl, hT⟩ i hi
      obtain ⟨hi1, hi2, hi3⟩ := ready_spec hi
      have hi14 : i < 14 := hi1
      have hcase : i = 0 ∨ i = 1 ∨ i = 2 ∨ i = 3 ∨ i = 4 ∨ i = 5 ∨ i = 6 ∨ i = 7 ∨ i = 8 ∨ i = 9 ∨ i = 10 ∨ i = 11 ∨ i = 12 ∨ i = 13 := by omega
      clear hi hi1 hi14
      have hs := hT.flags
      rcases hcase with rfl | rfl | rfl | rfl | rfl | rfl | rfl | rfl | rfl | rfl | rfl | rfl | rfl | rfl
      · exact absurd (show true = false from hi2) (by decide)
      · exact absurd (show true = false from hi2) (by decide)
      · exact absurd (show true = false from hi2) (by decide)
      · exact absurd (show true = false from hi2) (by decide)
      · obtain rfl : t1 = false := hi2
        obtain rfl : s3 = false := by cases s3 with | false => rfl | true => exact absurd (hs.1 rfl).1 (by decide)
        clear hi3 hs
        refine wpOp_step (o := ⟨some 15, .call { callee := .value (.func 58), args := #[.tmp 14], argTypes := #[73] }, _, _, _, none⟩) rfl (fun K hK => ?_)
        have HK := Lib.hid hK
        clear hK
        go_simp
        refine (PX.out _ hT.below_).mono ?_
        rintro e wi ⟨ha, ka, Aa, ca, rfl, ea, hca, hra, hbi⟩
        have hT2 := hT.call hPB.out hP0.out ea hca hra hbi
        exact HK.out _ _ ⟨Q0.out _ hT2.below_, true, t2, a3, a4, false, s4, q3, q4, _, v2, rfl, rfl, hT2⟩
      · exact absurd (show true = false from hi2) (by decide)
      · exact absurd (show true = false from hi2) (by decide)
      · exact absurd (show true = false from hi2) (by decide)
      · exact absurd (show true = false from hi2) (by decide)
      · obtain rfl : t2 = false := hi2
        obtain rfl : s4 = false := by cases s4 with | false => rfl | true => exact absurd (hs.2 rfl).1 (by decide)
        clear hi3 hs
        refine wpOp_step (o := ⟨some 20, .call { callee := .value (.func 58), args := #[.tmp 19], argTypes := #[73] }, _, _, _, none⟩) rfl (fun K hK => ?_)
        have HK := Lib.hid hK
        clear hK
        go_simp
        refine (PY.out _ hT.below_).mono ?_
        rintro e wi ⟨ha, ka, Aa, ca, rfl, ea, hca, hra, hbi⟩
        have hT2 := (hT.swap.call hPB.out hP0.out ea hca hra hbi).swap
        exact HK.out _ _ ⟨Q0.out _ hT2.below_, t1, true, a3, a4, s3, false, q3, q4, v1, _, rfl, rfl, hT2⟩
      · obtain rfl : a3 = false := hi2
        obtain rfl : s3 = false := by cases s3 with | false => rfl | true => exact absurd (hs.1 rfl).2 (by decide)
        clear hi3 hs
        refine wpOp_step (o := ⟨some 3, .alloc 73, _, _, _, none⟩) rfl (fun K hK => ?_)
        have HK := Lib.hid hK
        clear hK
        go_simp
        exact HK.out _ _ ⟨Q0.out _ hT.alloc.below_, t1, t2, true, a4, false, s4, _, q4, v1, v2, rfl, rfl, hT.alloc⟩
      · obtain rfl : a4 = false := hi2
        obtain rfl : s4 = false := by cases s4 with | false => rfl | true => exact absurd (hs.2 rfl).2 (by decide)
        clear hi3 hs
        refine wpOp_step (o := ⟨some 4, .alloc 73, _, _, _, none⟩) rfl (fun K hK => ?_)
        have HK := Lib.hid hK
        clear hK
        go_simp
        exact HK.out _ _ ⟨Q0.out _ hT.swap.alloc.swap.below_, t1, t2, a3, true, s3, false, q3, _, v1, v2, rfl, rfl, hT.swap.alloc.swap⟩
      · obtain rfl : s3 = false := hi2
        have hd := hi3 _ rfl
        obtain rfl : t1 = true := by cases t1 with | true => rfl | false => (exfalso; simp [Region.binds] at hd)
        obtain rfl : a3 = true := by cases a3 with | true => rfl | false => (exfalso; simp [Region.binds] at hd)
        clear hi3 hs hd
        obtain ⟨b, hh, kk, AA, nn, rfl, rfl, hbox, hT2⟩ := hT.store
        obtain ⟨⟨r0, r1, r2, r3, r4, r5, r6⟩, f0, f1, f2, f3, f4, f5, f6⟩ := co_cells hbox
        refine wpOp_step (o := ⟨none, .store 73 (.tmp 3) (.tmp 15), _, _, _, none⟩) rfl (fun K hK => ?_)
        have HK := Lib.hid hK
        clear hK hbox
        go_simp
        exact HK.out _ _ ⟨Q0.out _ hT2.below_, true, t2, true, a4, true, s4, _, q4, _, v2, rfl, rfl, hT2⟩
      · obtain rfl : s4 = false := hi2
        have hd := hi3 _ rfl
        obtain rfl : t2 = true := by cases t2 with | true => rfl | false => (exfalso; simp [Region.binds] at hd)
        obtain rfl : a4 = true := by cases a4 with | true => rfl | false => (exfalso; simp [Region.binds] at hd)
        clear hi3 hs hd
        obtain ⟨b, hh, kk, AA, nn, rfl, rfl, hbox, hT2⟩ := hT.swap.store
        obtain ⟨⟨r0, r1, r2, r3, r4, r5, r6⟩, f0, f1, f2, f3, f4, f5, f6⟩ := co_cells hbox
        refine wpOp_step (o := ⟨none, .store 73 (.tmp 4) (.tmp 20), _, _, _, none⟩) rfl (fun K hK => ?_)
        have HK := Lib.hid hK
        clear hK hbox
        go_simp
        exact HK.out _ _ ⟨Q0.out _ hT2.swap.below_, t1, true, a3, true, s3, true, q3, _, v1, _, rfl, rfl, hT2.swap⟩
    case fin =>
      clear hHeld hz
      rintro listed a w' ⟨t1, t2, a3, a4, s3, s4, q3, q4, v1, v2, rfl, rfl, hT⟩ h0
      have hall : t1 = true ∧ t2 = true ∧ a3 = true ∧ a4 = true ∧ s3 = true ∧ s4 = true := by
        clear hT
        revert h0
        cases t1 <;> cases t2 <;> cases a3 <;> cases a4 <;> cases s3 <;> cases s4 <;> first | (intro _; exact ⟨rfl, rfl, rfl, rfl, rfl, rfl⟩) | (intro h; exact absurd h (by decide +kernel))
      obtain ⟨rfl, rfl, rfl, rfl, rfl, rfl⟩ := hall
      have hD := Lib.hid hT.done
      clear hT h0
      go_wp2_with fail
      go_meet
      exact hD.out
  case rest =>
    obtain ⟨b8, b9, h1, k1, Aa, ca, h2, k2, Ab, cb, rfl, rfl, ex, ey, hca, hcb, n8, n9, hra, hrb, hbC, hb8, hb9⟩ := hcut
    obtain ⟨wC, rfl⟩ : ∃ x, x = wc := ⟨_, rfl⟩
    have e1C := (hbC.block _ (lt_of_block E1.out)).trans E1.out
    have e2C := (hbC.block _ (lt_of_block E2.out)).trans E2.out
    have HBC := Lib.hid (below_from HB.out hbC)
    have HSQ2 : Hid (simpC (.mk h [.mk hx kx, .mk hy ky]) = simpSeq h.b (.mk h1 k1) (.mk h2 k2)) := by unfold Hid; rw [HSQ.out, ex, ey]
    have hfl : h.b.length + h1.b.length + h2.b.length ≤ 1000000000 := by have := HFB.out; rw [ex, ey] at this; exact this
    have E2C := Lib.hid e2C
    have E1C := Lib.hid e1C
    have N8 := Lib.hid n8
    have N9 := Lib.hid n9
    have HRA := Lib.hid hra
    have HRB := Lib.hid hrb
    have hsw := HSW.out
    have hsc := hbC.size
    clear e1C e2C ex ey n8 n9 hra hrb hbC PX PY Q0 HSQ HFB E1 E2 HB HSW
    obtain ⟨a0, a1, a2, a3, a4, a5, a6⟩ := co_at_box E1C.out
    obtain ⟨⟨y0, y1, y2, y3, y4, y5, y6⟩, f0, f1, f2, f3, f4, f5, f6⟩ := co_cells E2C.out
    obtain ⟨x0, x1, x2, x3, x4, x5, x6⟩ := co_at_box N8.out
    obtain ⟨z0, z1, z2, z3, z4, z5, z6⟩ := co_at_box N9.out
    by_cases kx1 : h1.k = 1 ∨ h2.k = 1
    · have HSE : Hid (simpC (.mk h [.mk hx kx, .mk hy ky]) = cEmp) := by unfold Hid; rw [HSQ2.out]; exact if_pos kx1
      by_cases k1e : h1.k = 1
      · have g1 : ((h1.k.toNat : Int) == 1) = true := kindY (n := 1) (by decide) k1e
        clear kx1 k1e HSQ2 N8 N9 HRA HRB
        go_wp2_with fail
        refine bodyPost_ret (v := coV ⟨1, [], S4.zero⟩ none 0 0) (by simp [results, Tryd.results58, go_sem, y0, y1, y2, y3, y4, y5, y6]; exact ⟨rfl, rfl, rfl, rfl⟩) rfl ⟨⟨1, [], S4.zero⟩, [], none, 0, rfl, HSE.out, Nat.le_refl _, by simp [InRow], seven_below HBC.out (by omega)⟩
      · have g1 : ((h1.k.toNat : Int) == 1) = false := kindN (n := 1) (by decide) k1e
        have g2 : ((h2.k.toNat : Int) == 1) = true := kindY (n := 1) (by decide) (by rcases kx1 with h | h; exact absurd h k1e; exact h)
        clear kx1 k1e HSQ2 N8 N9 HRA HRB
        go_wp2_with fail
        refine bodyPost_ret (v := coV ⟨1, [], S4.zero⟩ none 0 0) (by simp [results, Tryd.results58, go_sem, y0, y1, y2, y3, y4, y5, y6]; exact ⟨rfl, rfl, rfl, rfl⟩) rfl ⟨⟨1, [], S4.zero⟩, [], none, 0, rfl, HSE.out, Nat.le_refl _, by simp [InRow], seven_below HBC.out (by omega)⟩
    · have g1 : ((h1.k.toNat : Int) == 1) = false := kindN (n := 1) (by decide) fun e => kx1 (.inl e)
      have g2 : ((h2.k.toNat : Int) == 1) = false := kindN (n := 1) (by decide) fun e => kx1 (.inr e)
      by_cases k2e : h1.k = 2
      · have g3 : ((h1.k.toNat : Int) == 2) = true := kindY (n := 2) (by decide) k2e
        have HSE : Hid (simpC (.mk h [.mk hx kx, .mk hy ky]) = .mk (fuseH (h.b ++ h1.b) h2) k2) := by unfold Hid; rw [HSQ2.out, ← fuse_head]; unfold simpSeq; rw [if_neg (show ¬ ((T.mk h1 k1).head.k = 1 ∨ (T.mk h2 k2).head.k = 1) from kx1), if_pos (show (T.mk h1 k1).head.k = 2 from k2e)]; rfl
        have hcat := run_cat (P := Tryd.prog) h.b h1.b (by omega)
        have hfl2 : (h.b ++ h1.b).length + h2.b.length ≤ 9223372036854775807 := by rw [List.length_append]; omega
        clear kx1 k2e HSQ2 N8 N9 HRA
        go_wp2_with fail
        refine (fuse_any (h.b ++ h1.b) h2 Ab k2.length cb _ hfl2).mono ?_
        rintro e w5 ⟨rfl, hb5⟩
        have HB5 := Lib.hid (below_from HBC.out hb5)
        have HR5 := Lib.hid (HRB.out.below hb5)
        have e25 := (hb5.block _ (lt_of_block E2C.out)).trans E2C.out
        clear a0 a1 a2 a3 a4 a5 a6 y0 y1 y2 y3 y4 y5 y6 f0 f1 f2 f3 f4 f5 f6 x0 x1 x2 x3 x4 x5 x6 z0 z1 z2 z3 z4 z5 z6 hb5 hcat
        obtain ⟨⟨y0, y1, y2, y3, y4, y5, y6⟩, f0, f1, f2, f3, f4, f5, f6⟩ := co_cells e25
        clear e25
        go_wp2_with fail
        refine bodyPost_ret (v := coV (fuseH (h.b ++ h1.b) h2) Ab k2.length cb) (by simp [results, Tryd.results58, go_sem, y0, y1, y2, y3, y4, y5, y6]; try exact ⟨rfl, rfl, rfl, rfl⟩) rfl ⟨_, k2, Ab, cb, rfl, HSE.out, hcb, (row_seven HR5.out fun x hx => by rcases hx with h | h; omega; omega).weak fun x hx => by rcases hx with h | h; exact .inl h.1; exact .inr (by omega), seven_below HB5.out (by omega)⟩
      · have g3 : ((h1.k.toNat : Int) == 2) = false := kindN (n := 2) (by decide) k2e
        have HSE : Hid (simpC (.mk h [.mk hx kx, .mk hy ky]) = cSeq h.b (.mk h1 k1) (.mk h2 k2)) := by unfold Hid; rw [HSQ2.out]; unfold simpSeq; rw [if_neg (show ¬ ((T.mk h1 k1).head.k = 1 ∨ (T.mk h2 k2).head.k = 1) from kx1), if_neg (show ¬ (T.mk h1 k1).head.k = 2 from k2e)]
        have hzz := below_new (Below.refl wC.heap.size wC) (.cells (coA h1 Aa k1.length ca ++ coA h2 Ab k2.length cb) 73)
        have m2 := new_at1 (w := wC) (.cells (coA h1 Aa k1.length ca ++ coA h2 Ab k2.length cb) 73)
        have hrow := co_two (P := fun x => (P x ∧ x < w.heap.size) ∨ W.heap.size ≤ x) m2 rfl (.inr (by omega)) hca (HRA.out.below hzz) hcb (HRB.out.below hzz)
        have HROW := Lib.hid hrow
        have HBF := Lib.hid (below_from HBC.out hzz)
        have e2Z := fun o => (co_cells (heap_keep1 E2C.out o))
        have zr0 := fun o => (e2Z o).1.1
        have zr1 := fun o => (e2Z o).1.2.1
        have zr2 := fun o => (e2Z o).1.2.2.1
        have zr3 := fun o => (e2Z o).1.2.2.2.1
        have zr4 := fun o => (e2Z o).1.2.2.2.2.1
        have zr5 := fun o => (e2Z o).1.2.2.2.2.2.1
        have zr6 := fun o => (e2Z o).1.2.2.2.2.2.2
        have zg0 := fun o => (e2Z o).2.1
        have zg1 := fun o => (e2Z o).2.2.1
        have zg2 := fun o => (e2Z o).2.2.2.1
        have zg3 := fun o => (e2Z o).2.2.2.2.1
        have zg4 := fun o => (e2Z o).2.2.2.2.2.1
        have zg5 := fun o => (e2Z o).2.2.2.2.2.2.1
        have zg6 := fun o => (e2Z o).2.2.2.2.2.2.2
        clear kx1 k2e HSQ2 N8 N9 HRA HRB hrow hzz m2 e2Z
        go_wp2_with fail
        refine bodyPost_ret (v := coV ⟨4, h.b, S4.zero⟩ (some ⟨wC.heap.size, 0, none⟩) 2 2) (by simp [results, Tryd.results58, go_sem, zr0, zr1, zr2, zr3, zr4, zr5, zr6]; exact ⟨rfl, rfl, rfl, rfl⟩) rfl ⟨⟨4, h.b, S4.zero⟩, [.mk h1 k1, .mk h2 k2], some ⟨wC.heap.size, 0, none⟩, 2, rfl, HSE.out, Nat.le_refl _, (row_seven HROW.out fun x hx => by rcases hx with h | h; omega; omega).weak fun x hx => by rcases hx with h | h; exact .inl h.1; exact .inr (by omega), seven_below HBF.out (by omega)⟩
end Go.Proofs.YtgdigbbfgpenpaaDoor
namespace Go.Proofs.YtgdigbbfgpenpaaDoor
open Go.RowKit
set_option linter.unusedVariables false
set_option linter.unusedSimpArgs false

end Go.Proofs.YtgdigbbfgpenpaaDoor
namespace Go.Proofs.YtgdigbbfgpenpaaDoor
open Go.RowKit
set_option linter.unusedVariables false
set_option linter.unusedSimpArgs false

end Go.Proofs.YtgdigbbfgpenpaaDoor
namespace Go.Proofs.YtgdigbbfgpenpaaDoor
open Go.RowKit
set_option linter.unusedVariables false
set_option linter.unusedSimpArgs false

theorem flatL_sizes : ∀ {ks : List Co}, (∀ t ∈ ks, okC t = true) → T.sizes (flatL ks) ≤ T.sizes ks
  | [], _ => Nat.le_refl _
  | t :: ts, h => by
    have ih := flatL_sizes fun x hx => h x (List.mem_cons_of_mem _ hx)
    have h1 := flat1_size (simp_ok t (h t List.mem_cons_self))
    have h2 := simp_size t (h t List.mem_cons_self)
    unfold flatL at ih ⊢
    rw [List.flatMap_cons, T.sizes_append]
    simp only [T.sizes]
    omega
theorem flatL_mem {ks : List Co} {x : Co} (h : x ∈ flatL ks) : ∃ t ∈ ks, x ∈ flat1 (simpC t) := by
  unfold flatL at h
  exact List.mem_flatMap.1 h
theorem kid_all {t y : Co} (h : y ∈ t.kids) : y ∈ t.all := by
  obtain ⟨h1, ks⟩ := t
  obtain ⟨h2, k2⟩ := y
  simp only [T.kids] at h
  simp only [T.all, List.mem_cons]
  exact .inr (alls_mem h (by simp [T.all]))
theorem self_all (t : Co) : t ∈ t.all := by
  obtain ⟨h1, ks⟩ := t
  simp [T.all]
/-- what an Alt's row of those made simpler is like -/
theorem flat_facts {b : List UInt8} {ks : List Co} (hk : okCL ks = true) (hz : (cAlt b ks).size ≤ 20000) (hp : potV (cAlt b ks) + potS (cAlt b ks) ≤ 1000000000) :
    ks.length ≤ 1000000 ∧ (flatL ks).length ≤ 1000000 ∧ (∀ t ∈ ks, ∀ y ∈ (simpC t).kids, (simpC t).head.b.length + y.head.b.length ≤ 9223372036854775807) ∧ SieveOk (flatL ks) ∧ ∀ t ∈ flatL ks, b.length + t.head.b.length ≤ 9223372036854775807 := by
  have ho : ∀ t ∈ ks, okC t = true := fun t ht => okCL_mem hk ht
  rw [potV_alt, potS_alt] at hp
  simp only [T.size] at hz
  have hs := flatL_sizes ho
  have hl := T.length_le_sizes ks
  have hl2 := T.length_le_sizes (flatL ks)
  have hpt : ∀ t ∈ ks, potV (simpC t) + potS (simpC t) ≤ 1000000000 := fun t ht => by
    have h1 := simp_pot t (ho t ht)
    have h2 := le_potMax ht
    have h3 := le_potSs ht
    omega
  have hpf : ∀ t ∈ flatL ks, okC t = true ∧ potV t + potS t ≤ 1000000000 := fun t ht => by
    obtain ⟨x, hx, hf⟩ := flatL_mem ht
    have h1 := flat1_pot (simp_ok x (ho x hx)) t hf
    have h2 := hpt x hx
    exact ⟨flat1_ok (simp_ok x (ho x hx)) t hf, by omega⟩
  refine ⟨by omega, by omega, fun t ht y hy => ?_, fun t ht => ?_, fun t ht => ?_⟩
  · have h1 := node_pot _ (simp_ok t (ho t ht)) _ (self_all _)
    have h2 := node_pot _ (simp_ok t (ho t ht)) _ (kid_all hy)
    have := hpt t ht
    omega
  · have h1 := hpf t ht
    have h2 := T.sizes_mem ht
    refine ⟨?_, by omega, pot_short h1.1 (by omega)⟩
    unfold mayC
    rw [h1.1]
    simp only [Bool.true_and, decide_eq_true_eq]
    omega
  · have h1 := head_pot t
    have h2 := (hpf t ht).2
    omega
theorem simp_all_ : ∀ t : Co, okC t = true → t.size ≤ 20000 → potV t + potS t ≤ 1000000000 → SimpOkT 58 t := by
  refine okC_ind ?_ ?_ ?_ ?_ ?_ ?_
  · intro hz hp h ks e; cases e; exact simp_leaf (by decide) (by decide)
  · intro b hb hz hp h ks e; cases e; exact simp_leaf (by show (2 : UInt8) ≠ 4; decide) (by show (2 : UInt8) ≠ 5; decide)
  · intro b s hb hs hz hp h ks e; cases e; exact simp_leaf (by show (3 : UInt8) ≠ 4; decide) (by show (3 : UInt8) ≠ 5; decide)
  · intro b x y hb hx hy ihx ihy hz hp h ks e
    cases e
    have p1 := simp_pot x hx
    have p2 := simp_pot y hy
    have p3 := head_pot (simpC x)
    have p4 := head_pot (simpC y)
    rw [potV_seq, potS_seq] at hp
    simp only [T.size, T.sizes] at hz
    obtain ⟨h1, k1⟩ := x
    obtain ⟨h2, k2⟩ := y
    exact simp_4 rfl rfl (ihx (by omega) (by omega) _ _ rfl) (ihy (by omega) (by omega) _ _ rfl) (by show b.length + _ + _ ≤ _; omega)
  · intro b ks hb hk ih hz hp h ks' e
    cases e
    obtain ⟨f1, f2, f3, f4, f5⟩ := flat_facts hk hz hp
    rw [potV_alt, potS_alt] at hp
    simp only [T.size] at hz
    exact simp_5 rfl (fun t ht => ih t ht (by have := T.sizes_mem ht; omega) (by have := le_potMax ht; have := le_potSs ht; omega)) f1 f2 f3 f4 f5
  · intro b x hb hx ih hz hp h ks e
    cases e
    exact simp_leaf (by show (6 : UInt8) ≠ 4; decide) (by show (6 : UInt8) ≠ 5; decide)
/-- a row's post, in a box of the result's -/
theorem coPost_mono {P P' : Nat → Prop} {t : Co} {w0 w : World} {e : Ending} {w' : World} (h : CoPostX P' t w e w') (hP : ∀ x, P' x → P x ∨ w0.heap.size ≤ x) (hb : Below w0.heap.size w0 w) : CoPostX P t w0 e w' := by
  obtain ⟨h1, k, A, c, e1, e2, hc, hr, hb1⟩ := h
  exact ⟨h1, k, A, c, e1, e2, hc, hr.weak fun x hx => by rcases hx with h | h; exact hP x h; exact .inr (Nat.le_trans hb.size h), below_from hb hb1⟩
def simpMT (t : Co) : Co := if mayC t = true then simpC t else zeroC
def SimpPost (P : Nat → Prop) (t : Co) (m : Bool) (w : World) (e : Ending) (w' : World) : Prop := ∃ h ks A c, e = .returned (.tuple #[coV h A ks.length c, .bool m]) ∧ simpMT t = .mk h ks ∧ ks.length ≤ c ∧ InRow CE (fun x => P x ∨ w.heap.size ≤ x) w' ks A 0 ∧ Below w.heap.size w w'
set_option maxRecDepth 100000 in
set_option maxHeartbeats 8000000 in
theorem simpS_any {P : Nat → Prop} (h : CH) (ks : List Co) (A : Option Addr) (c : Nat) (w : World) (hm : T.sizes ks ≤ 800000000) (hc : ks.length ≤ c) (hr : InRow CE P w ks A 0) (hsh : shortC (.mk h ks)) (hp : okC (.mk h ks) = true → potV (.mk h ks) + potS (.mk h ks) ≤ 1000000000) :
    Calls Tryd.prog 35 #[coV h A ks.length c] w (SimpPost P (.mk h ks) (mayC (.mk h ks)) w) := by
  obtain ⟨W, hW⟩ : ∃ W, ((w.alloc (.cells (coA h A ks.length c) 73)).alloc (.cells coZ 73)) = W := ⟨_, rfl⟩
  have hbW : Below w.heap.size w W := by rw [← hW]; exact below_new (below_new (Below.refl _ _) _) _
  have e1 : W.heap[w.heap.size]? = some (.cells (coA h A ks.length c) 73 (0, 0)) := by
    rw [← hW]
    exact heap_keep1 (new_at1 (w := w) _) _
  have e2 : W.heap[w.heap.size + 1]? = some (.cells coZ 73 (0, 0)) := by
    rw [← hW]
    have := new_at1 (w := w.alloc (.cells (coA h A ks.length c) 73)) (.cells coZ 73)
    rw [World.size_alloc] at this
    exact this
  have hsW : W.heap.size = w.heap.size + 1 + 1 := by rw [← hW]; simp
  obtain ⟨X, hX⟩ : ∃ X, W.alloc (.cells (coA h A ks.length c) 73) = X := ⟨_, rfl⟩
  have hbX : Below W.heap.size W X := by rw [← hX]; exact below_new (Below.refl _ _) _
  have x1 : X.heap[w.heap.size + 1 + 1]? = some (.cells (coA h A ks.length c) 73 (0, 0)) := by rw [← hX, ← hsW]; exact new_at1 _
  have HM := Lib.hid (cMay_any [.mk h ks] (some ⟨w.heap.size + 1 + 1, 0, none⟩) 1 X (by simp only [T.sizes, T.size]; omega) (co_one (P := fun _ => True) x1 trivial hc (((hr.below hbW).below hbX).weak fun _ _ => trivial)) (fun t ht => by simp at ht; subst ht; exact hsh))
  rw [show [T.mk h ks].all mayC = mayC (.mk h ks) by simp] at HM
  have HXX : Hid ((((w.alloc (.cells (coA h A ks.length c) 73)).alloc (.cells coZ 73))).alloc (.cells (coA h A ks.length c) 73) = X) := by unfold Hid; rw [hW]; exact hX
  have HB := Lib.hid (below_from hbW hbX)
  have HE1 := Lib.hid ((hbX.block _ (lt_of_block e1)).trans e1)
  have HE2 := Lib.hid ((hbX.block _ (lt_of_block e2)).trans e2)
  have HS0 : Hid (mayC (.mk h ks) = true → ∀ Y, Below w.heap.size w Y → Calls Tryd.prog 58 #[coV h A ks.length c] Y (CoPostX (fun b => P b ∧ b < w.heap.size) (simpC (.mk h ks)) Y)) := fun hmay Y hY =>
    simp_all_ _ (may_okC hmay).1 (may_okC hmay).2 (hp (may_okC hmay).1) h ks rfl _ A c Y hc (hr.there.below hY)
  have HTT : Hid (simpMT (.mk h ks) = if mayC (.mk h ks) = true then simpC (.mk h ks) else zeroC) := rfl
  have hszw := hbX.size
  clear hW hbW e1 e2 hX hbX hr hsh hp x1
  generalize mayC (.mk h ks) = m at *
  generalize simpC (.mk h ks) = st at *
  go_enter Tryd.func35, Tryd.ntmps35
  obtain ⟨x0, x1, x2, x3, x4, x5, x6⟩ := co_at_box HE1.out
  rw [← HXX.out] at x0 x1 x2 x3 x4 x5 x6
  go_wp2_with fail
  clear x0 x1 x2 x3 x4 x5 x6
  have hcall := HM.out
  rw [← HXX.out] at hcall
  refine hcall.mono ?_
  rw [HXX.out]
  rintro e w1 ⟨rfl, hb1⟩
  have HB1 := Lib.hid (below_from HB.out hb1)
  have E1 := Lib.hid ((hb1.block _ (lt_of_block HE1.out)).trans HE1.out)
  have E2 := Lib.hid ((hb1.block _ (lt_of_block HE2.out)).trans HE2.out)
  obtain ⟨x0, x1, x2, x3, x4, x5, x6⟩ := co_at_box E1.out
  obtain ⟨⟨y0, y1, y2, y3, y4, y5, y6⟩, f0, f1, f2, f3, f4, f5, f6⟩ := co_cells E2.out
  have hszw := lt_of_block E2.out
  clear hb1 HM hcall HE1 HE2
  cases m with
  | false =>
    go_wp2_with fail
    refine bodyPost_ret (v := .tuple #[coV ⟨0, [], S4.zero⟩ none 0 0, .bool false]) (by simp [results, Tryd.results35, go_sem, y0, y1, y2, y3, y4, y5, y6]; exact ⟨rfl, rfl, rfl, rfl⟩) rfl ⟨⟨0, [], S4.zero⟩, [], none, 0, rfl, by rw [HTT.out]; rfl, Nat.le_refl _, by simp [InRow], seven_below HB1.out (by omega)⟩
  | true =>
    have HC := Lib.hid (HS0.out (by trivial) w1 HB1.out)
    clear HS0
    go_wp2_with fail
    refine HC.out.mono ?_
    rintro e w2 ⟨h2, k2, A2, c2, rfl, e2, hc2, hr2, hb2⟩
    have HB2 := Lib.hid (below_from HB1.out hb2)
    have E22 := (hb2.block _ (lt_of_block E2.out)).trans E2.out
    have HR4 := Lib.hid hr2
    have HT := Lib.hid e2
    have hlt2 := HB1.out.size
    clear x0 x1 x2 x3 x4 x5 x6 y0 y1 y2 y3 y4 y5 y6 f0 f1 f2 f3 f4 f5 f6 e2 hr2 hb2 HC
    obtain ⟨⟨y0, y1, y2, y3, y4, y5, y6⟩, f0, f1, f2, f3, f4, f5, f6⟩ := co_cells E22
    clear E22
    go_wp2_with fail
    refine bodyPost_ret (v := .tuple #[coV h2 A2 k2.length c2, .bool true]) (by simp [results, Tryd.results35, go_sem, y0, y1, y2, y3, y4, y5, y6]) rfl ⟨h2, k2, A2, c2, rfl, by rw [HTT.out]; exact HT.out, hc2, (row_seven HR4.out fun x hx => by rcases hx with h | h; omega; omega).weak fun x hx => by rcases hx with h | h; exact .inl h.1; exact .inr (by omega), seven_below HB2.out (by omega)⟩
def sstepT (d : UInt8) (t : Co) : Co := if stepE d t = 0 then simpC (stepT d t) else zeroC
def SStepPostE (P : Nat → Prop) (d : UInt8) (t : Co) (se : Int) (w : World) (e : Ending) (w' : World) : Prop := ∃ h ks A c, e = .returned (.tuple #[coV h A ks.length c, .int .i64 se]) ∧ sstepT d t = .mk h ks ∧ ks.length ≤ c ∧ InRow CE (fun x => P x ∨ w.heap.size ≤ x) w' ks A 0 ∧ Below w.heap.size w w'
abbrev SStepPost (P : Nat → Prop) (d : UInt8) (t : Co) (w : World) (e : Ending) (w' : World) : Prop := SStepPostE P d t (stepE d t) w e w'
theorem step_good {d : UInt8} {t : Co} (he : stepE d t = 0) (hp : okC t = true → potV t + 2 * potS t ≤ 1000000000) : okC (stepT d t) = true ∧ (stepT d t).size ≤ 20000 ∧ potV (stepT d t) + potS (stepT d t) ≤ 1000000000 := by
  unfold stepE at he
  by_cases h1 : mayC t = true
  · rw [if_pos h1] at he
    by_cases h2 : mayC (stepC d t) = true
    · have ho := (may_okC h1).1
      have h3 := step_pot d t ho
      have h4 := hp ho
      unfold stepT
      rw [if_pos h1, if_pos h2]
      exact ⟨(may_okC h2).1, (may_okC h2).2, by omega⟩
    · rw [if_neg h2] at he; cases he
  · rw [if_neg h1] at he; cases he
set_option maxRecDepth 100000 in
set_option maxHeartbeats 8000000 in
theorem sStep_any {P : Nat → Prop} (d : UInt8) (h : CH) (ks : List Co) (A : Option Addr) (c : Nat) (w : World) (hm : T.sizes ks ≤ 800000000) (hc : ks.length ≤ c) (hr : InRow CE P w ks A 0) (hsh : shortC (.mk h ks)) (hp : okC (.mk h ks) = true → potV (.mk h ks) + 2 * potS (.mk h ks) ≤ 1000000000) :
    Calls Tryd.prog 60 #[coV h A ks.length c, .int .u8 (d.toNat : Int)] w (SStepPostE P d (.mk h ks) (stepE d (.mk h ks)) w) := by
  obtain ⟨W, hW⟩ : ∃ W, ((w.alloc (.cells (coA h A ks.length c) 73)).alloc (.cells coZ 73)) = W := ⟨_, rfl⟩
  have hbW : Below w.heap.size w W := by rw [← hW]; exact below_new (below_new (Below.refl _ _) _) _
  have e1 : W.heap[w.heap.size]? = some (.cells (coA h A ks.length c) 73 (0, 0)) := by
    rw [← hW]
    exact heap_keep1 (new_at1 (w := w) _) _
  have e2 : W.heap[w.heap.size + 1]? = some (.cells coZ 73 (0, 0)) := by
    rw [← hW]
    have := new_at1 (w := w.alloc (.cells (coA h A ks.length c) 73)) (.cells coZ 73)
    rw [World.size_alloc] at this
    exact this
  have hsW : W.heap.size = w.heap.size + 1 + 1 := by rw [← hW]; simp
  have HC0 := Lib.hid (pStep_any (P := fun b => P b ∧ b < w.heap.size) d h ks A c W hm hc (hr.there.below hbW) hsh (fun ho => by have := hp ho; omega))
  have HXX : Hid (((w.alloc (.cells (coA h A ks.length c) 73)).alloc (.cells coZ 73)) = W) := hW
  have HB := Lib.hid hbW
  have HE1 := Lib.hid e1
  have HE2 := Lib.hid e2
  have HGD : Hid (stepE d (.mk h ks) = 0 → okC (stepT d (.mk h ks)) = true ∧ (stepT d (.mk h ks)).size ≤ 20000 ∧ potV (stepT d (.mk h ks)) + potS (stepT d (.mk h ks)) ≤ 1000000000) := fun he => step_good he hp
  have HTT : Hid (sstepT d (.mk h ks) = if stepE d (.mk h ks) = 0 then simpC (stepT d (.mk h ks)) else zeroC) := rfl
  clear hW hbW e1 e2 hr hsh hp
  go_enter Tryd.func60, Tryd.ntmps60
  obtain ⟨x0, x1, x2, x3, x4, x5, x6⟩ := co_at_box HE1.out
  rw [← HXX.out] at x0 x1 x2 x3 x4 x5 x6
  go_wp2_with fail
  clear x0 x1 x2 x3 x4 x5 x6
  rw [HXX.out]
  refine HC0.out.mono ?_
  rintro e w1 ⟨h2, k2, A2, c2, rfl, e2, hc2, hr2, hb1⟩
  clear HC0
  generalize stepE d (.mk h ks) = se at *
  obtain ⟨V, hV⟩ : ∃ V, w1.alloc (.cells (coA h2 A2 k2.length c2) 73) = V := ⟨_, rfl⟩
  have hbV : Below w1.heap.size w1 V := by rw [← hV]; exact below_new (Below.refl _ _) _
  have n6 : V.heap[w1.heap.size]? = some (.cells (coA h2 A2 k2.length c2) 73 (0, 0)) := by rw [← hV]; exact new_at1 _
  have hbWV := below_from hb1 hbV
  have HBV := Lib.hid (below_from HB.out hbWV)
  have E2V := Lib.hid ((hbWV.block _ (lt_of_block HE2.out)).trans HE2.out)
  have hr2V : InRow CE (fun x => (P x ∧ x < w.heap.size) ∨ w.heap.size + 1 + 1 ≤ x) V k2 A2 0 := (hr2.below hbV).weak fun x hx => by rcases hx with h | h; exact .inl h; exact .inr (by omega)
  obtain ⟨x0, x1, x2, x3, x4, x5, x6⟩ := co_at_box n6
  obtain ⟨⟨y0, y1, y2, y3, y4, y5, y6⟩, f0, f1, f2, f3, f4, f5, f6⟩ := co_cells E2V.out
  rw [← hV] at x0 x1 x2 x3 x4 x5 x6 y0 y1 y2 y3 y4 y5 y6 f0 f1 f2 f3 f4 f5 f6
  have HV := Lib.hid hV
  have hszw := lt_of_block E2V.out
  have hbvs := HBV.out.size
  by_cases h0 : se = 0
  · have hg := HGD.out h0
    rw [e2] at hg
    have HS := Lib.hid (simp_all_ (.mk h2 k2) hg.1 hg.2.1 hg.2.2 h2 k2 rfl _ A2 c2 V hc2 hr2V)
    have HT2 : Hid (sstepT d (.mk h ks) = simpC (.mk h2 k2)) := by unfold Hid; rw [HTT.out, if_pos h0, e2]
    subst h0
    clear hg hV hbV n6 hb1 hbWV hr2 hr2V e2 HGD HTT HE2 HE1
    go_wp2_with fail
    rw [HV.out]
    refine HS.out.mono ?_
    rintro e w4 ⟨h3, k3, A3, c3, rfl, e3, hc3, hr3, hb4⟩
    have HB4 := Lib.hid (below_from HBV.out hb4)
    have E24 := (hb4.block _ (lt_of_block E2V.out)).trans E2V.out
    have HR4 := Lib.hid (hr3.weak (ok' := fun x => (P x ∧ x < w.heap.size) ∨ w.heap.size + 1 + 1 ≤ x) fun x hx => by rcases hx with h | h; exact h; exact .inr (by omega))
    have HT := Lib.hid e3
    clear x0 x1 x2 x3 x4 x5 x6 y0 y1 y2 y3 y4 y5 y6 f0 f1 f2 f3 f4 f5 f6 hb4 hr3 e3 HS
    obtain ⟨⟨y0, y1, y2, y3, y4, y5, y6⟩, f0, f1, f2, f3, f4, f5, f6⟩ := co_cells E24
    clear E24
    go_wp2_with fail
    refine bodyPost_ret (v := .tuple #[coV h3 A3 k3.length c3, .int .i64 0]) (by simp [results, Tryd.results60, go_sem, y0, y1, y2, y3, y4, y5, y6]) rfl ⟨h3, k3, A3, c3, rfl, by rw [HT2.out]; exact HT.out, hc3, (row_seven HR4.out fun x hx => by rcases hx with h | h; omega; omega).weak fun x hx => by rcases hx with h | h; exact .inl h.1; exact .inr (by omega), seven_below HB4.out (by omega)⟩
  · have g0 : (se != 0) = true := by simpa using h0
    have HT2 : Hid (sstepT d (.mk h ks) = zeroC) := by unfold Hid; rw [HTT.out, if_neg h0]
    have HBW2 : Hid (Below w.heap.size w (w1.alloc (.cells (coA h2 A2 k2.length c2) 73))) := by unfold Hid; rw [hV]; exact HBV.out
    clear h0 hV hbV n6 hb1 hbWV hr2 hr2V e2 HGD HTT HE2 HE1
    go_wp2_with fail
    refine bodyPost_ret (v := .tuple #[coV ⟨0, [], S4.zero⟩ none 0 0, .int .i64 se]) (by simp [results, Tryd.results60, go_sem, y0, y1, y2, y3, y4, y5, y6]; exact ⟨rfl, rfl, rfl, rfl⟩) rfl ⟨⟨0, [], S4.zero⟩, [], none, 0, rfl, HT2.out, Nat.le_refl _, by simp [InRow], seven_below HBW2.out (by omega)⟩
end Go.Proofs.YtgdigbbfgpenpaaDoor
namespace Go.Proofs.YtgdigbbfgpenpaaDoor
open Go.RowKit
set_option linter.unusedVariables false
set_option linter.unusedSimpArgs false

set_option maxRecDepth 100000 in
set_option maxHeartbeats 400000 in
theorem node18_any (k : UInt8) (b : List UInt8) (w : World) : Calls Tryd.prog 36 #[.int .u8 (k.toNat : Int), .string (str b)] w fun e w' => e = .returned (coV ⟨k, b, S4.zero⟩ none 0 0) ∧ Below w.heap.size w w' := by
  obtain ⟨W, hW⟩ : ∃ W, w.alloc (.cells coZ 73) = W := ⟨_, rfl⟩
  have hbW : Below w.heap.size w W := by rw [← hW]; exact below_new (Below.refl _ _) _
  have e1 : W.heap[w.heap.size]? = some (.cells coZ 73 (0, 0)) := by rw [← hW]; exact new_at1 _
  obtain ⟨⟨y0, y1, y2, y3, y4, y5, y6⟩, f0, f1, f2, f3, f4, f5, f6⟩ := co_cells e1
  have HB := Lib.hid hbW
  have HE := Lib.hid hW
  clear hW hbW e1
  go_enter Tryd.func36, Tryd.ntmps36
  go_upto_region 1 with fail
  rw [show w.alloc _ = W from HE.out]
  go_wp2_with fail
  refine bodyPost_ret (v := coV ⟨k, b, S4.zero⟩ none 0 0) (by simp [results, Tryd.results36, go_sem, y0, y1, y2, y3, y4, y5, y6]; try exact ⟨rfl, rfl, rfl, rfl⟩) rfl ⟨rfl, seven_below HB.out (by omega)⟩
abbrev ex18 : Co := .mk ⟨5, [], S4.zero⟩ [.mk ⟨1, [], S4.zero⟩ [], .mk ⟨2, [49], S4.zero⟩ []]
theorem ex18_may : mayC ex18 = true := by decide +kernel
theorem ex18_simp : simpMT ex18 = .mk ⟨2, [49], S4.zero⟩ [] := by rfl
theorem ex18_short : shortC ex18 := fun x hx => by
  simp [T.all, T.alls] at hx
  rcases hx with rfl | rfl | rfl <;> decide
theorem ex18_pot : potV ex18 + potS ex18 ≤ 1000000000 := by decide +kernel
set_option maxRecDepth 100000 in
set_option maxHeartbeats 4000000 in
theorem awake18_any (w : World) : Calls Tryd.prog 19 #[] w fun e w' => e = .returned (.bool true) ∧ Below w.heap.size w w' := by
  have C1 : Hid (∀ X, Calls Tryd.prog 36 #[.int .u8 1, .string ⟨#[]⟩] X fun e w' => e = .returned (coV ⟨1, [], S4.zero⟩ none 0 0) ∧ Below X.heap.size X w') := fun X => node18_any 1 [] X
  have C2 : Hid (∀ X, Calls Tryd.prog 36 #[.int .u8 2, .string ⟨#[49]⟩] X fun e w' => e = .returned (coV ⟨2, [49], S4.zero⟩ none 0 0) ∧ Below X.heap.size X w') := fun X => node18_any 2 [49] X
  have CS := Lib.hid (fun (N : Nat) (X : World) (hN : X.heap[N]? = some (.cells (coA ⟨1, [], S4.zero⟩ none 0 0 ++ coA ⟨2, [49], S4.zero⟩ none 0 0) 73 (0, 0))) => simpS_any (P := fun _ => True) ⟨5, [], S4.zero⟩ [.mk ⟨1, [], S4.zero⟩ [], .mk ⟨2, [49], S4.zero⟩ []] (some ⟨N, 0, none⟩) 2 X (by decide) (by decide)
    (co_two (P := fun _ => True) (ks := []) (ks2 := []) hN rfl trivial (Nat.le_refl _) (by simp [InRow]) (Nat.le_refl _) (by simp [InRow])) ex18_short (fun _ => ex18_pot))
  have HM := Lib.hid ex18_may
  have HT := Lib.hid ex18_simp
  have HB0 := Lib.hid (Below.refl w.heap.size w)
  go_enter Tryd.func19, Tryd.ntmps19
  go_wp2_with fail
  refine (C1.out _).mono ?_
  rintro e w1 ⟨rfl, hb1⟩
  go_wp2_with fail
  refine (C2.out _).mono ?_
  rintro e w2 ⟨rfl, hb2⟩
  have hb12 := below_from hb1 hb2
  have n2 := new_at1 (w := w2) (.cells (coA ⟨1, [], S4.zero⟩ none 0 0 ++ coA ⟨2, [49], S4.zero⟩ none 0 0) 73)
  have HB2 := Lib.hid (below_new hb12 (.cells (coA ⟨1, [], S4.zero⟩ none 0 0 ++ coA ⟨2, [49], S4.zero⟩ none 0 0) 73))
  have CC := Lib.hid (CS.out _ _ n2)
  clear hb1 hb2 hb12 n2 CS
  go_wp2_with fail
  refine CC.out.mono ?_
  rintro e w3 ⟨h3, k3, A3, c3, rfl, e3, hc3, hr3, hb3⟩
  rw [show mayC _ = true from HM.out]
  have e3' : T.mk h3 k3 = .mk ⟨2, [49], S4.zero⟩ [] := by rw [← e3]; exact HT.out
  injection e3' with e4 e5
  subst e4 e5
  obtain ⟨b, hb⟩ : ∃ b, w3.heap.size = b := ⟨_, rfl⟩
  have hz := below_new (below_from HB2.out hb3) (.cells (coA ⟨2, [49], S4.zero⟩ A3 0 c3) 73)
  have N4 := Lib.hid (new_at1 (w := w3) (.cells (coA ⟨2, [49], S4.zero⟩ A3 0 c3) 73))
  have CSM : Hid (∀ X, Calls Tryd.prog 37 #[coV ⟨2, [49], S4.zero⟩ A3 0 c3, coV ⟨2, [49], S4.zero⟩ none 0 0] X fun e w' => e = .returned (.bool true) ∧ Below X.heap.size X w') := fun X => by
    have := refSameC_upto 1 (fun _ => True) ⟨2, [49], S4.zero⟩ ⟨2, [49], S4.zero⟩ [] [] A3 none c3 0 X (by decide) (by decide) (by decide) (by simp [InRow]) (by simp [InRow])
    rw [sameC_refl] at this
    exact this
  have HBZ := Lib.hid hz
  rw [hb] at N4
  have HB3 := Lib.hid hb
  clear e3 hr3 hb3 hc3 CC HB2 HM HT hz hb
  obtain ⟨W, hW⟩ : ∃ W, w3.alloc (.cells (coA ⟨2, [49], S4.zero⟩ A3 0 c3) 73) = W := ⟨_, rfl⟩
  rw [hW] at HBZ N4
  have HWW := Lib.hid hW
  clear hW
  have Q : Hid (∀ X, Below W.heap.size W X → X.cell? ⟨b, 0, none⟩ = some (.int .u8 2) ∧ X.cell? ⟨b, 1, none⟩ = some (.string (str [49])) ∧ X.cell? ⟨b, 2, none⟩ = some (.int .u64 (S4.zero.a.toNat : Int)) ∧ X.cell? ⟨b, 3, none⟩ = some (.int .u64 (S4.zero.b.toNat : Int)) ∧ X.cell? ⟨b, 4, none⟩ = some (.int .u64 (S4.zero.c.toNat : Int)) ∧ X.cell? ⟨b, 5, none⟩ = some (.int .u64 (S4.zero.d.toNat : Int)) ∧ X.cell? ⟨b, 6, none⟩ = some (.slice A3 0 c3)) := fun X hX => co_at_box (v0 := .int .u8 2) (v1 := .string (str [49])) (v6 := .slice A3 0 c3) ((hX.block _ (lt_of_block N4.out)).trans N4.out)
  go_upto_region 2 with fail
  rw [show w3.alloc (.cells #[.int .u8 2, .string (str [49]), .int .u64 (S4.zero.a.toNat : Int), .int .u64 (S4.zero.b.toNat : Int), .int .u64 (S4.zero.c.toNat : Int), .int .u64 (S4.zero.d.toNat : Int), .slice A3 0 c3] 73) = W from HWW.out]
  have hb : w3.heap.size = b := HB3.out
  rw [hb]
  clear hb HB3 HWW
  have hz := Below.refl W.heap.size W
  obtain ⟨x0, x1, x2, x3, x4, x5, x6⟩ := Q.out _ hz
  go_region_held3 (fun X => X.cell? ⟨b, 0, none⟩ = some (.int .u8 2) ∧ X.cell? ⟨b, 1, none⟩ = some (.string (str [49])) ∧ X.cell? ⟨b, 2, none⟩ = some (.int .u64 (S4.zero.a.toNat : Int)) ∧ X.cell? ⟨b, 3, none⟩ = some (.int .u64 (S4.zero.b.toNat : Int)) ∧ X.cell? ⟨b, 4, none⟩ = some (.int .u64 (S4.zero.c.toNat : Int)) ∧ X.cell? ⟨b, 5, none⟩ = some (.int .u64 (S4.zero.d.toNat : Int)) ∧ X.cell? ⟨b, 6, none⟩ = some (.slice A3 0 c3))
    ((first | (refine Q.out _ hz.drew) | (refine Q.out _ hz)))
    (first
      | (go_at_call 36; (refine (C2.out _).mono ?_); rintro e w5 ⟨rfl, hb5⟩; have hz := below_from (by first | exact hz.drew | exact hz) hb5; obtain ⟨x0, x1, x2, x3, x4, x5, x6⟩ := Q.out _ hz)
      | (go_at_call 37; (refine (CSM.out _).mono ?_); rintro e w6 ⟨rfl, hb6⟩; have hz := below_from (by first | exact hz.drew | exact hz) hb6; obtain ⟨x0, x1, x2, x3, x4, x5, x6⟩ := Q.out _ hz)
      | fail)
  all_goals
    have hbf := below_from HBZ.out hz
    go_wp2_with fail
    go_ret
    exact ⟨rfl, hbf⟩
end Go.Proofs.YtgdigbbfgpenpaaDoor
