/- Made simpler, at a Seq. The document's, made simpler, at a Seq. The document's, made simpler, at an Alt. Made simpler: all kinds; Simp; the steps. The document's example of layer 18. -/
import Derived.Test.YtkhgbeflhjjkdaaDoorBo
import Derived.Test.YtkhgbeflhjjkdaaDoorBl
import Derived.Test.YtkhgbeflhjjkdaaDoorBf
namespace Go.Proofs.YtkhgbeflhjjkdaaDoor
open Go.RowKit
set_option linter.unusedVariables false
set_option linter.unusedSimpArgs false

set_option maxRecDepth 100000 in
set_option maxHeartbeats 16000000 in
theorem simp_4 {h : CH} (e : h.k = 4) (hs : h.s = S4.zero) {hx : CH} {kx : List Co} (px : SimpOk 44 hx kx) {hy : CH} {ky : List Co} (py : SimpOk 44 hy ky)
    (hfb : h.b.length + (simpC (.mk hx kx)).head.b.length + (simpC (.mk hy ky)).head.b.length ≤ 1000000000) : SimpOk 44 h [.mk hx kx, .mk hy ky] := by
  intro P A c w hc hr
  have hkn : (h.k.toNat : Int) = 4 := by rw [e]; rfl
  have HSQ : Hid (simpC (.mk h [.mk hx kx, .mk hy ky]) = simpSeq h.b (simpC (.mk hx kx)) (simpC (.mk hy ky))) := by
    obtain ⟨k, b, s⟩ := h
    simp only at e hs
    subst e hs
    exact simp_seq b _ _
  clear hs
  obtain ⟨ad, A1, c1, hA, hc1, hr1, u0, u1, u2, u3, u4, u5, u6⟩ := kidC0 hr
  subst hA
  obtain ⟨ad', A2, c2, hA2, hc2, hr2, v0, v1, v2, v3, v4, v5, v6⟩ := kidC1 hr
  obtain rfl := Option.some.inj hA2
  obtain ⟨W, hW⟩ : ∃ W, (w.alloc (.cells #[.int .u8 4, .string (str h.b), .int .u64 (h.s.a.toNat : Int), .int .u64 (h.s.b.toNat : Int), .int .u64 (h.s.c.toNat : Int), .int .u64 (h.s.d.toNat : Int), .slice (some ad) 2 c] 27)).alloc (.cells coZ 27) = W := ⟨_, rfl⟩
  have hbW : Below w.heap.size w W := by rw [← hW]; exact below_new (below_new (Below.refl _ _) _) _
  have hsW : W.heap.size = w.heap.size + 1 + 1 := by rw [← hW]; simp
  have e1 : W.heap[w.heap.size]? = some (.cells #[.int .u8 4, .string (str h.b), .int .u64 (h.s.a.toNat : Int), .int .u64 (h.s.b.toNat : Int), .int .u64 (h.s.c.toNat : Int), .int .u64 (h.s.d.toNat : Int), .slice (some ad) 2 c] 27 (0, 0)) := by rw [← hW]; exact heap_keep1 (new_at1 _) _
  have e2 : W.heap[w.heap.size + 1]? = some (.cells coZ 27 (0, 0)) := by
    rw [← hW]
    have := new_at1 (w := w.alloc (.cells #[.int .u8 4, .string (str h.b), .int .u64 (h.s.a.toNat : Int), .int .u64 (h.s.b.toNat : Int), .int .u64 (h.s.c.toNat : Int), .int .u64 (h.s.d.toNat : Int), .slice (some ad) 2 c] 27)) (.cells coZ 27)
    rw [World.size_alloc] at this
    exact this
  have Q0 : Hid (∀ X, Below W.heap.size W X → X.cell? ⟨w.heap.size, 6, none⟩ = some (.slice (some ad) 2 c) ∧ X.cell? ad = some (.int .u8 (hx.k.toNat : Int)) ∧ X.cell? ⟨ad.block, ad.off + 1, none⟩ = some (.string (str hx.b)) ∧ X.cell? ⟨ad.block, ad.off + 2, none⟩ = some (.int .u64 (hx.s.a.toNat : Int)) ∧ X.cell? ⟨ad.block, ad.off + 3, none⟩ = some (.int .u64 (hx.s.b.toNat : Int)) ∧ X.cell? ⟨ad.block, ad.off + 4, none⟩ = some (.int .u64 (hx.s.c.toNat : Int)) ∧ X.cell? ⟨ad.block, ad.off + 5, none⟩ = some (.int .u64 (hx.s.d.toNat : Int)) ∧ X.cell? ⟨ad.block, ad.off + 6, none⟩ = some (.slice A1 kx.length c1) ∧ X.cell? ⟨ad.block, ad.off + 7, none⟩ = some (.int .u8 (hy.k.toNat : Int)) ∧ X.cell? ⟨ad.block, ad.off + 7 + 1, none⟩ = some (.string (str hy.b)) ∧ X.cell? ⟨ad.block, ad.off + 7 + 2, none⟩ = some (.int .u64 (hy.s.a.toNat : Int)) ∧ X.cell? ⟨ad.block, ad.off + 7 + 3, none⟩ = some (.int .u64 (hy.s.b.toNat : Int)) ∧ X.cell? ⟨ad.block, ad.off + 7 + 4, none⟩ = some (.int .u64 (hy.s.c.toNat : Int)) ∧ X.cell? ⟨ad.block, ad.off + 7 + 5, none⟩ = some (.int .u64 (hy.s.d.toNat : Int)) ∧ X.cell? ⟨ad.block, ad.off + 7 + 6, none⟩ = some (.slice A2 ky.length c2)) := by
    intro X hX
    obtain ⟨a0, a1, a2, a3, a4, a5, a6⟩ := co_at_box ((hX.block _ (lt_of_block e1)).trans e1)
    have hX2 := below_from hbW hX
    exact ⟨a6, keep_cell hX2 u0, keep_cell hX2 u1, keep_cell hX2 u2, keep_cell hX2 u3, keep_cell hX2 u4, keep_cell hX2 u5, keep_cell hX2 u6, keep_cell hX2 v0, keep_cell hX2 v1, keep_cell hX2 v2, keep_cell hX2 v3, keep_cell hX2 v4, keep_cell hX2 v5, keep_cell hX2 v6⟩
  have PX : Hid (∀ X, Below W.heap.size W X → Calls Tryd.prog 44 #[coV hx A1 kx.length c1] X (CoPostX (fun b => P b ∧ b < w.heap.size) (simpC (.mk hx kx)) X)) := fun X hX => px _ A1 c1 X hc1 (hr1.there.below (below_from hbW hX))
  have PY : Hid (∀ X, Below W.heap.size W X → Calls Tryd.prog 44 #[coV hy A2 ky.length c2] X (CoPostX (fun b => P b ∧ b < w.heap.size) (simpC (.mk hy ky)) X)) := fun X hX => py _ A2 c2 X hc2 (hr2.there.below (below_from hbW hX))
  have HB := Lib.hid hbW
  have HE := Lib.hid hW
  have HSW := Lib.hid hsW
  have E1 := Lib.hid e1
  have E2 := Lib.hid e2
  have HFB := Lib.hid hfb
  have hPB : Hid (∀ x, (P x ∧ x < w.heap.size) → ((P x ∧ x < w.heap.size) ∨ W.heap.size ≤ x) ∧ x < W.heap.size) := fun x hx => ⟨.inl hx, by have := hbW.size; omega⟩
  have hP0 : Hid (∀ x, W.heap.size ≤ x → ((P x ∧ x < w.heap.size) ∨ W.heap.size ≤ x)) := fun x hx => .inr hx
  obtain ⟨x0, x1, x2, x3, x4, x5, x6⟩ := co_at_box e1
  rw [← hW] at x0 x1 x2 x3 x4 x5 x6
  have hww := hbW.size
  clear hW hr hr1 hr2 px py u0 u1 u2 u3 u4 u5 u6 v0 v1 v2 v3 v4 v5 v6 hbW e1 e2 hc1 hc2 hsW e hfb
  generalize simpC (.mk hx kx) = tx at *
  generalize simpC (.mk hy ky) = ty at *
  go_enter Tryd.func44, Tryd.ntmps44
  go_upto_region 3 with fail
  rw [show (w.alloc _).alloc _ = W from HE.out]
  clear x0 x1 x2 x3 x4 x5 x6 HE
  go_cut [3, 4] from 11 to 20 (fun q1 q2 wx => TwoBoxC (fun x => (P x ∧ x < w.heap.size) ∨ W.heap.size ≤ x) W tx ty q1 q2 wx)
  case first =>
    have hz := (Below.refl W.heap.size W).drew
    refine wp_region_held_drew (S := fun X => X.cell? ⟨w.heap.size, 6, none⟩ = some (.slice (some ad) 2 c) ∧ X.cell? ad = some (.int .u8 (hx.k.toNat : Int)) ∧ X.cell? ⟨ad.block, ad.off + 1, none⟩ = some (.string (str hx.b)) ∧ X.cell? ⟨ad.block, ad.off + 2, none⟩ = some (.int .u64 (hx.s.a.toNat : Int)) ∧ X.cell? ⟨ad.block, ad.off + 3, none⟩ = some (.int .u64 (hx.s.b.toNat : Int)) ∧ X.cell? ⟨ad.block, ad.off + 4, none⟩ = some (.int .u64 (hx.s.c.toNat : Int)) ∧ X.cell? ⟨ad.block, ad.off + 5, none⟩ = some (.int .u64 (hx.s.d.toNat : Int)) ∧ X.cell? ⟨ad.block, ad.off + 6, none⟩ = some (.slice A1 kx.length c1) ∧ X.cell? ⟨ad.block, ad.off + 7, none⟩ = some (.int .u8 (hy.k.toNat : Int)) ∧ X.cell? ⟨ad.block, ad.off + 7 + 1, none⟩ = some (.string (str hy.b)) ∧ X.cell? ⟨ad.block, ad.off + 7 + 2, none⟩ = some (.int .u64 (hy.s.a.toNat : Int)) ∧ X.cell? ⟨ad.block, ad.off + 7 + 3, none⟩ = some (.int .u64 (hy.s.b.toNat : Int)) ∧ X.cell? ⟨ad.block, ad.off + 7 + 4, none⟩ = some (.int .u64 (hy.s.c.toNat : Int)) ∧ X.cell? ⟨ad.block, ad.off + 7 + 5, none⟩ = some (.int .u64 (hy.s.d.toNat : Int)) ∧ X.cell? ⟨ad.block, ad.off + 7 + 6, none⟩ = some (.slice A2 ky.length c2)) (by kernel_rfl) (Q0.out _ hz) (fun hHeld => ?_)
    refine wpAnyH_take (i := 0) (oi := ⟨some 11, _, _, _, _, _⟩) (v := .pointer (some ⟨w.heap.size, 6, none⟩)) rfl (by kernel_rfl) (by kernel_rfl) (by kernel_rfl) (fun _ _ _ h => h) (Or.inl ⟨by rfl, ?_⟩) (by assumption) ?_
    · intro wx hSw
      obtain ⟨p6, u0, u1, u2, u3, u4, u5, u6, v0, v1, v2, v3, v4, v5, v6⟩ := hSw
      go_simp
    simp only [Act.put, List.setIfInBounds_toArray, List.set_cons_zero, List.set_cons_succ]
    refine wpAnyH_take (i := 1) (oi := ⟨some 12, _, _, _, _, _⟩) (v := .slice (some ad) 2 c) rfl (by kernel_rfl) (by kernel_rfl) (by kernel_rfl) (fun _ _ _ h => h) (Or.inl ⟨by rfl, ?_⟩) (by assumption) ?_
    · intro wx hSw
      obtain ⟨p6, u0, u1, u2, u3, u4, u5, u6, v0, v1, v2, v3, v4, v5, v6⟩ := hSw
      go_simp
    simp only [Act.put, List.setIfInBounds_toArray, List.set_cons_zero, List.set_cons_succ]
    refine wpAnyH_take (i := 2) (oi := ⟨some 13, _, _, _, _, _⟩) (v := .pointer (some ad)) rfl (by kernel_rfl) (by kernel_rfl) (by kernel_rfl) (fun _ _ _ h => h) (Or.inl ⟨by rfl, ?_⟩) (by assumption) ?_
    · intro wx hSw
      obtain ⟨p6, u0, u1, u2, u3, u4, u5, u6, v0, v1, v2, v3, v4, v5, v6⟩ := hSw
      go_simp
    simp only [Act.put, List.setIfInBounds_toArray, List.set_cons_zero, List.set_cons_succ]
    refine wpAnyH_take (i := 3) (oi := ⟨some 14, _, _, _, _, _⟩) (v := coV hx A1 kx.length c1) rfl (by kernel_rfl) (by kernel_rfl) (by kernel_rfl) (fun _ _ _ h => h) (Or.inl ⟨by rfl, ?_⟩) (by assumption) ?_
    · intro wx hSw
      obtain ⟨p6, u0, u1, u2, u3, u4, u5, u6, v0, v1, v2, v3, v4, v5, v6⟩ := hSw
      go_simp
    simp only [Act.put, List.setIfInBounds_toArray, List.set_cons_zero, List.set_cons_succ]
    refine wpAnyH_take (i := 5) (oi := ⟨some 16, _, _, _, _, _⟩) (v := .pointer (some ⟨w.heap.size, 6, none⟩)) rfl (by kernel_rfl) (by kernel_rfl) (by kernel_rfl) (fun _ _ _ h => h) (Or.inl ⟨by rfl, ?_⟩) (by assumption) ?_
    · intro wx hSw
      obtain ⟨p6, u0, u1, u2, u3, u4, u5, u6, v0, v1, v2, v3, v4, v5, v6⟩ := hSw
      go_simp
    simp only [Act.put, List.setIfInBounds_toArray, List.set_cons_zero, List.set_cons_succ]
    refine wpAnyH_take (i := 6) (oi := ⟨some 17, _, _, _, _, _⟩) (v := .slice (some ad) 2 c) rfl (by kernel_rfl) (by kernel_rfl) (by kernel_rfl) (fun _ _ _ h => h) (Or.inl ⟨by rfl, ?_⟩) (by assumption) ?_
    · intro wx hSw
      obtain ⟨p6, u0, u1, u2, u3, u4, u5, u6, v0, v1, v2, v3, v4, v5, v6⟩ := hSw
      go_simp
    simp only [Act.put, List.setIfInBounds_toArray, List.set_cons_zero, List.set_cons_succ]
    refine wpAnyH_take (i := 7) (oi := ⟨some 18, _, _, _, _, _⟩) (v := .pointer (some ⟨ad.block, ad.off + 7, none⟩)) rfl (by kernel_rfl) (by kernel_rfl) (by kernel_rfl) (fun _ _ _ h => h) (Or.inl ⟨by rfl, ?_⟩) (by assumption) ?_
    · intro wx hSw
      obtain ⟨p6, u0, u1, u2, u3, u4, u5, u6, v0, v1, v2, v3, v4, v5, v6⟩ := hSw
      go_simp
    simp only [Act.put, List.setIfInBounds_toArray, List.set_cons_zero, List.set_cons_succ]
    refine wpAnyH_take (i := 8) (oi := ⟨some 19, _, _, _, _, _⟩) (v := coV hy A2 ky.length c2) rfl (by kernel_rfl) (by kernel_rfl) (by kernel_rfl) (fun _ _ _ h => h) (Or.inl ⟨by rfl, ?_⟩) (by assumption) ?_
    · intro wx hSw
      obtain ⟨p6, u0, u1, u2, u3, u4, u5, u6, v0, v1, v2, v3, v4, v5, v6⟩ := hSw
      go_simp
    simp only [Act.put, List.setIfInBounds_toArray, List.set_cons_zero, List.set_cons_succ]
    refine wpAnyH_inv (fun listed a w' => ∃ (t1 t2 a3 a4 s3 s4 : Bool) (q3 q4 v1 v2 : Value), listed = #[true, true, true, true, t1, true, true, true, true, t2, a3, a4, s3, s4] ∧ a = ⟨#[coV h (some ad) 2 c, .pointer (some ⟨w.heap.size, 0, none⟩), .pointer (some ⟨w.heap.size + 1, 0, none⟩), q3, q4, undef, undef, .pointer (some ⟨w.heap.size, 0, none⟩), .int .u8 4, .bool true, .bool true, .pointer (some ⟨w.heap.size, 6, none⟩), .slice (some ad) 2 c, .pointer (some ad), coV hx A1 kx.length c1, v1, .pointer (some ⟨w.heap.size, 6, none⟩), .slice (some ad) 2 c, .pointer (some ⟨ad.block, ad.off + 7, none⟩), coV hy A2 ky.length c2, v2, undef, undef, undef, undef, undef, undef, undef, undef, undef, undef, undef, undef, undef, undef, undef, undef, undef, undef, undef, undef, undef, undef, undef, undef, undef, undef, undef, undef, undef, undef, undef, undef, undef, undef, undef, undef, undef, undef, undef, undef, undef, undef, undef, undef, undef, undef, undef, undef, undef, undef, undef, undef, undef, undef, undef], []⟩ ∧ TwoS (fun x => (P x ∧ x < w.heap.size) ∨ W.heap.size ≤ x) W tx ty t1 t2 a3 a4 s3 s4 q3 q4 v1 v2 w') ?step ?fin _ _ _ _ (by decide) ⟨false, false, false, false, false, false, undef, undef, undef, undef, rfl, rfl, TwoS.start _ _ _ _ hz⟩
    case step =>
      clear hHeld hz
      rintro listed a w' ⟨t1, t2, a3, a4, s3, s4, q3, q4, v1, v2, rfl, rfl, hT⟩ i hi
      obtain ⟨hi1, hi2, hi3⟩ := ready_spec hi
      have hi14 : i < 14 := hi1
      have hcase : i = 0 ∨ i = 1 ∨ i = 2 ∨ i = 3 ∨ i = 4 ∨ i = 5 ∨ i = 6 ∨ i = 7 ∨ i = 8 ∨ i = 9 ∨ i = 10 ∨ i = 11 ∨ i = 12 ∨ i = 13 := by omega
      clear hi hi1 hi14
      have hs := hT.flags
      rcases hcase with rfl | rfl | rfl | rfl | rfl | rfl | rfl | rfl | rfl | rfl | rfl | rfl | rfl | rfl
      · exact absurd (show true = false from hi2) (by decide)
      · exact absurd (show true = false from hi2) (by decide)
      · exact absurd (show true = false from hi2) (by decide)
      · exact absurd (show true = false from hi2) (by decide)
      · obtain rfl : t1 = false := hi2
        obtain rfl : s3 = false := by cases s3 with | false => rfl | true => exact absurd (hs.1 rfl).1 (by decide)
        clear hi3 hs
        refine wpOp_step (o := ⟨some 15, .call { callee := .value (.func 44), args := #[.tmp 14], argTypes := #[27] }, _, _, _, none⟩) rfl (fun K hK => ?_)
        have HK := Lib.hid hK
        clear hK
        go_simp
        refine (PX.out _ hT.below_).mono ?_
        rintro e wi ⟨ha, ka, Aa, ca, rfl, ea, hca, hra, hbi⟩
        have hT2 := hT.call hPB.out hP0.out ea hca hra hbi
        exact HK.out _ _ ⟨Q0.out _ hT2.below_, true, t2, a3, a4, false, s4, q3, q4, _, v2, rfl, rfl, hT2⟩
      · exact absurd (show true = false from hi2) (by decide)
      · exact absurd (show true = false from hi2) (by decide)
      · exact absurd (show true = false from hi2) (by decide)
      · exact absurd (show true = false from hi2) (by decide)
      · obtain rfl : t2 = false := hi2
        obtain rfl : s4 = false := by cases s4 with | false => rfl | true => exact absurd (hs.2 rfl).1 (by decide)
        clear hi3 hs
        refine wpOp_step (o := ⟨some 20, .call { callee := .value (.func 44), args := #[.tmp 19], argTypes := #[27] }, _, _, _, none⟩) rfl (fun K hK => ?_)
        have HK := Lib.hid hK
        clear hK
        go_simp
        refine (PY.out _ hT.below_).mono ?_
        rintro e wi ⟨ha, ka, Aa, ca, rfl, ea, hca, hra, hbi⟩
        have hT2 := (hT.swap.call hPB.out hP0.out ea hca hra hbi).swap
        exact HK.out _ _ ⟨Q0.out _ hT2.below_, t1, true, a3, a4, s3, false, q3, q4, v1, _, rfl, rfl, hT2⟩
      · obtain rfl : a3 = false := hi2
        obtain rfl : s3 = false := by cases s3 with | false => rfl | true => exact absurd (hs.1 rfl).2 (by decide)
        clear hi3 hs
        refine wpOp_step (o := ⟨some 3, .alloc 27, _, _, _, none⟩) rfl (fun K hK => ?_)
        have HK := Lib.hid hK
        clear hK
        go_simp
        exact HK.out _ _ ⟨Q0.out _ hT.alloc.below_, t1, t2, true, a4, false, s4, _, q4, v1, v2, rfl, rfl, hT.alloc⟩
      · obtain rfl : a4 = false := hi2
        obtain rfl : s4 = false := by cases s4 with | false => rfl | true => exact absurd (hs.2 rfl).2 (by decide)
        clear hi3 hs
        refine wpOp_step (o := ⟨some 4, .alloc 27, _, _, _, none⟩) rfl (fun K hK => ?_)
        have HK := Lib.hid hK
        clear hK
        go_simp
        exact HK.out _ _ ⟨Q0.out _ hT.swap.alloc.swap.below_, t1, t2, a3, true, s3, false, q3, _, v1, v2, rfl, rfl, hT.swap.alloc.swap⟩
      · obtain rfl : s3 = false := hi2
        have hd := hi3 _ rfl
        obtain rfl : t1 = true := by cases t1 with | true => rfl | false => (exfalso; simp [Region.binds] at hd)
        obtain rfl : a3 = true := by cases a3 with | true => rfl | false => (exfalso; simp [Region.binds] at hd)
        clear hi3 hs hd
        obtain ⟨b, hh, kk, AA, nn, rfl, rfl, hbox, hT2⟩ := hT.store
        obtain ⟨⟨r0, r1, r2, r3, r4, r5, r6⟩, f0, f1, f2, f3, f4, f5, f6⟩ := co_cells hbox
        refine wpOp_step (o := ⟨none, .store 27 (.tmp 3) (.tmp 15), _, _, _, none⟩) rfl (fun K hK => ?_)
        have HK := Lib.hid hK
        clear hK hbox
        go_simp
        exact HK.out _ _ ⟨Q0.out _ hT2.below_, true, t2, true, a4, true, s4, _, q4, _, v2, rfl, rfl, hT2⟩
      · obtain rfl : s4 = false := hi2
        have hd := hi3 _ rfl
        obtain rfl : t2 = true := by cases t2 with | true => rfl | false => (exfalso; simp [Region.binds] at hd)
        obtain rfl : a4 = true := by cases a4 with | true => rfl | false => (exfalso; simp [Region.binds] at hd)
        clear hi3 hs hd
        obtain ⟨b, hh, kk, AA, nn, rfl, rfl, hbox, hT2⟩ := hT.swap.store
        obtain ⟨⟨r0, r1, r2, r3, r4, r5, r6⟩, f0, f1, f2, f3, f4, f5, f6⟩ := co_cells hbox
        refine wpOp_step (o := ⟨none, .store 27 (.tmp 4) (.tmp 20), _, _, _, none⟩) rfl (fun K hK => ?_)
        have HK := Lib.hid hK
        clear hK hbox
        go_simp
        exact HK.out _ _ ⟨Q0.out _ hT2.swap.below_, t1, true, a3, true, s3, true, q3, _, v1, _, rfl, rfl, hT2.swap⟩
    case fin =>
      clear hHeld hz
      rintro listed a w' ⟨t1, t2, a3, a4, s3, s4, q3, q4, v1, v2, rfl, rfl, hT⟩ h0
      have hall : t1 = true ∧ t2 = true ∧ a3 = true ∧ a4 = true ∧ s3 = true ∧ s4 = true := by
        clear hT
        revert h0
        cases t1 <;> cases t2 <;> cases a3 <;> cases a4 <;> cases s3 <;> cases s4 <;> first | (intro _; exact ⟨rfl, rfl, rfl, rfl, rfl, rfl⟩) | (intro h; exact absurd h (by decide +kernel))
      obtain ⟨rfl, rfl, rfl, rfl, rfl, rfl⟩ := hall
      have hD := Lib.hid hT.done
      clear hT h0
      go_wp2_with fail
      go_meet
      exact hD.out
  case rest =>
    obtain ⟨b8, b9, h1, k1, Aa, ca, h2, k2, Ab, cb, rfl, rfl, ex, ey, hca, hcb, n8, n9, hra, hrb, hbC, hb8, hb9⟩ := hcut
    obtain ⟨wC, rfl⟩ : ∃ x, x = wc := ⟨_, rfl⟩
    have e1C := (hbC.block _ (lt_of_block E1.out)).trans E1.out
    have e2C := (hbC.block _ (lt_of_block E2.out)).trans E2.out
    have HBC := Lib.hid (below_from HB.out hbC)
    have HSQ2 : Hid (simpC (.mk h [.mk hx kx, .mk hy ky]) = simpSeq h.b (.mk h1 k1) (.mk h2 k2)) := by unfold Hid; rw [HSQ.out, ex, ey]
    have hfl : h.b.length + h1.b.length + h2.b.length ≤ 1000000000 := by have := HFB.out; rw [ex, ey] at this; exact this
    have E2C := Lib.hid e2C
    have E1C := Lib.hid e1C
    have N8 := Lib.hid n8
    have N9 := Lib.hid n9
    have HRA := Lib.hid hra
    have HRB := Lib.hid hrb
    have hsw := HSW.out
    have hsc := hbC.size
    clear e1C e2C ex ey n8 n9 hra hrb hbC PX PY Q0 HSQ HFB E1 E2 HB HSW
    obtain ⟨a0, a1, a2, a3, a4, a5, a6⟩ := co_at_box E1C.out
    obtain ⟨⟨y0, y1, y2, y3, y4, y5, y6⟩, f0, f1, f2, f3, f4, f5, f6⟩ := co_cells E2C.out
    obtain ⟨x0, x1, x2, x3, x4, x5, x6⟩ := co_at_box N8.out
    obtain ⟨z0, z1, z2, z3, z4, z5, z6⟩ := co_at_box N9.out
    by_cases kx1 : h1.k = 1 ∨ h2.k = 1
    · have HSE : Hid (simpC (.mk h [.mk hx kx, .mk hy ky]) = cEmp) := by unfold Hid; rw [HSQ2.out]; exact if_pos kx1
      by_cases k1e : h1.k = 1
      · have g1 : ((h1.k.toNat : Int) == 1) = true := kindY (n := 1) (by decide) k1e
        clear kx1 k1e HSQ2 N8 N9 HRA HRB
        go_wp2_with fail
        refine bodyPost_ret (v := coV ⟨1, [], S4.zero⟩ none 0 0) (by simp [results, Tryd.results44, go_sem, y0, y1, y2, y3, y4, y5, y6]; exact ⟨rfl, rfl, rfl, rfl⟩) rfl ⟨⟨1, [], S4.zero⟩, [], none, 0, rfl, HSE.out, Nat.le_refl _, by simp [InRow], seven_below HBC.out (by omega)⟩
      · have g1 : ((h1.k.toNat : Int) == 1) = false := kindN (n := 1) (by decide) k1e
        have g2 : ((h2.k.toNat : Int) == 1) = true := kindY (n := 1) (by decide) (by rcases kx1 with h | h; exact absurd h k1e; exact h)
        clear kx1 k1e HSQ2 N8 N9 HRA HRB
        go_wp2_with fail
        refine bodyPost_ret (v := coV ⟨1, [], S4.zero⟩ none 0 0) (by simp [results, Tryd.results44, go_sem, y0, y1, y2, y3, y4, y5, y6]; exact ⟨rfl, rfl, rfl, rfl⟩) rfl ⟨⟨1, [], S4.zero⟩, [], none, 0, rfl, HSE.out, Nat.le_refl _, by simp [InRow], seven_below HBC.out (by omega)⟩
    · have g1 : ((h1.k.toNat : Int) == 1) = false := kindN (n := 1) (by decide) fun e => kx1 (.inl e)
      have g2 : ((h2.k.toNat : Int) == 1) = false := kindN (n := 1) (by decide) fun e => kx1 (.inr e)
      by_cases k2e : h1.k = 2
      · have g3 : ((h1.k.toNat : Int) == 2) = true := kindY (n := 2) (by decide) k2e
        have HSE : Hid (simpC (.mk h [.mk hx kx, .mk hy ky]) = .mk (fuseH (h.b ++ h1.b) h2) k2) := by unfold Hid; rw [HSQ2.out, ← fuse_head]; unfold simpSeq; rw [if_neg (show ¬ ((T.mk h1 k1).head.k = 1 ∨ (T.mk h2 k2).head.k = 1) from kx1), if_pos (show (T.mk h1 k1).head.k = 2 from k2e)]; rfl
        have hcat := run_cat (P := Tryd.prog) h.b h1.b (by omega)
        have hfl2 : (h.b ++ h1.b).length + h2.b.length ≤ 9223372036854775807 := by rw [List.length_append]; omega
        clear kx1 k2e HSQ2 N8 N9 HRA
        go_wp2_with fail
        refine (fuse_any (h.b ++ h1.b) h2 Ab k2.length cb _ hfl2).mono ?_
        rintro e w5 ⟨rfl, hb5⟩
        have HB5 := Lib.hid (below_from HBC.out hb5)
        have HR5 := Lib.hid (HRB.out.below hb5)
        have e25 := (hb5.block _ (lt_of_block E2C.out)).trans E2C.out
        clear a0 a1 a2 a3 a4 a5 a6 y0 y1 y2 y3 y4 y5 y6 f0 f1 f2 f3 f4 f5 f6 x0 x1 x2 x3 x4 x5 x6 z0 z1 z2 z3 z4 z5 z6 hb5 hcat
        obtain ⟨⟨y0, y1, y2, y3, y4, y5, y6⟩, f0, f1, f2, f3, f4, f5, f6⟩ := co_cells e25
        clear e25
        go_wp2_with fail
        refine bodyPost_ret (v := coV (fuseH (h.b ++ h1.b) h2) Ab k2.length cb) (by simp [results, Tryd.results44, go_sem, y0, y1, y2, y3, y4, y5, y6]; try exact ⟨rfl, rfl, rfl, rfl⟩) rfl ⟨_, k2, Ab, cb, rfl, HSE.out, hcb, (row_seven HR5.out fun x hx => by rcases hx with h | h; omega; omega).weak fun x hx => by rcases hx with h | h; exact .inl h.1; exact .inr (by omega), seven_below HB5.out (by omega)⟩
      · have g3 : ((h1.k.toNat : Int) == 2) = false := kindN (n := 2) (by decide) k2e
        have HSE : Hid (simpC (.mk h [.mk hx kx, .mk hy ky]) = cSeq h.b (.mk h1 k1) (.mk h2 k2)) := by unfold Hid; rw [HSQ2.out]; unfold simpSeq; rw [if_neg (show ¬ ((T.mk h1 k1).head.k = 1 ∨ (T.mk h2 k2).head.k = 1) from kx1), if_neg (show ¬ (T.mk h1 k1).head.k = 2 from k2e)]
        have hzz := below_new (Below.refl wC.heap.size wC) (.cells (coA h1 Aa k1.length ca ++ coA h2 Ab k2.length cb) 27)
        have m2 := new_at1 (w := wC) (.cells (coA h1 Aa k1.length ca ++ coA h2 Ab k2.length cb) 27)
        have hrow := co_two (P := fun x => (P x ∧ x < w.heap.size) ∨ W.heap.size ≤ x) m2 rfl (.inr (by omega)) hca (HRA.out.below hzz) hcb (HRB.out.below hzz)
        have HROW := Lib.hid hrow
        have HBF := Lib.hid (below_from HBC.out hzz)
        have e2Z := fun o => (co_cells (heap_keep1 E2C.out o))
        have zr0 := fun o => (e2Z o).1.1
        have zr1 := fun o => (e2Z o).1.2.1
        have zr2 := fun o => (e2Z o).1.2.2.1
        have zr3 := fun o => (e2Z o).1.2.2.2.1
        have zr4 := fun o => (e2Z o).1.2.2.2.2.1
        have zr5 := fun o => (e2Z o).1.2.2.2.2.2.1
        have zr6 := fun o => (e2Z o).1.2.2.2.2.2.2
        have zg0 := fun o => (e2Z o).2.1
        have zg1 := fun o => (e2Z o).2.2.1
        have zg2 := fun o => (e2Z o).2.2.2.1
        have zg3 := fun o => (e2Z o).2.2.2.2.1
        have zg4 := fun o => (e2Z o).2.2.2.2.2.1
        have zg5 := fun o => (e2Z o).2.2.2.2.2.2.1
        have zg6 := fun o => (e2Z o).2.2.2.2.2.2.2
        clear kx1 k2e HSQ2 N8 N9 HRA HRB hrow hzz m2 e2Z
        go_wp2_with fail
        refine bodyPost_ret (v := coV ⟨4, h.b, S4.zero⟩ (some ⟨wC.heap.size, 0, none⟩) 2 2) (by simp [results, Tryd.results44, go_sem, zr0, zr1, zr2, zr3, zr4, zr5, zr6]; exact ⟨rfl, rfl, rfl, rfl⟩) rfl ⟨⟨4, h.b, S4.zero⟩, [.mk h1 k1, .mk h2 k2], some ⟨wC.heap.size, 0, none⟩, 2, rfl, HSE.out, Nat.le_refl _, (row_seven HROW.out fun x hx => by rcases hx with h | h; omega; omega).weak fun x hx => by rcases hx with h | h; exact .inl h.1; exact .inr (by omega), seven_below HBF.out (by omega)⟩
end Go.Proofs.YtkhgbeflhjjkdaaDoor
namespace Go.Proofs.YtkhgbeflhjjkdaaDoor
open Go.RowKit
set_option linter.unusedVariables false
set_option linter.unusedSimpArgs false

set_option maxRecDepth 100000 in
set_option maxHeartbeats 16000000 in
theorem dsimp_4 {h : CH} (e : h.k = 4) (hs : h.s = S4.zero) {hx : CH} {kx : List Co} (px : SimpOk 21 hx kx) {hy : CH} {ky : List Co} (py : SimpOk 21 hy ky)
    (hfb : h.b.length + (simpC (.mk hx kx)).head.b.length + (simpC (.mk hy ky)).head.b.length ≤ 1000000000) : SimpOk 21 h [.mk hx kx, .mk hy ky] := by
  intro P A c w hc hr
  have hkn : (h.k.toNat : Int) = 4 := by rw [e]; rfl
  have HSQ : Hid (simpC (.mk h [.mk hx kx, .mk hy ky]) = simpSeq h.b (simpC (.mk hx kx)) (simpC (.mk hy ky))) := by
    obtain ⟨k, b, s⟩ := h
    simp only at e hs
    subst e hs
    exact simp_seq b _ _
  clear hs
  obtain ⟨ad, A1, c1, hA, hc1, hr1, u0, u1, u2, u3, u4, u5, u6⟩ := kidC0 hr
  subst hA
  obtain ⟨ad', A2, c2, hA2, hc2, hr2, v0, v1, v2, v3, v4, v5, v6⟩ := kidC1 hr
  obtain rfl := Option.some.inj hA2
  obtain ⟨W, hW⟩ : ∃ W, (w.alloc (.cells #[.int .u8 4, .string (str h.b), .int .u64 (h.s.a.toNat : Int), .int .u64 (h.s.b.toNat : Int), .int .u64 (h.s.c.toNat : Int), .int .u64 (h.s.d.toNat : Int), .slice (some ad) 2 c] 27)).alloc (.cells coZ 27) = W := ⟨_, rfl⟩
  have hbW : Below w.heap.size w W := by rw [← hW]; exact below_new (below_new (Below.refl _ _) _) _
  have hsW : W.heap.size = w.heap.size + 1 + 1 := by rw [← hW]; simp
  have e1 : W.heap[w.heap.size]? = some (.cells #[.int .u8 4, .string (str h.b), .int .u64 (h.s.a.toNat : Int), .int .u64 (h.s.b.toNat : Int), .int .u64 (h.s.c.toNat : Int), .int .u64 (h.s.d.toNat : Int), .slice (some ad) 2 c] 27 (0, 0)) := by rw [← hW]; exact heap_keep1 (new_at1 _) _
  have e2 : W.heap[w.heap.size + 1]? = some (.cells coZ 27 (0, 0)) := by
    rw [← hW]
    have := new_at1 (w := w.alloc (.cells #[.int .u8 4, .string (str h.b), .int .u64 (h.s.a.toNat : Int), .int .u64 (h.s.b.toNat : Int), .int .u64 (h.s.c.toNat : Int), .int .u64 (h.s.d.toNat : Int), .slice (some ad) 2 c] 27)) (.cells coZ 27)
    rw [World.size_alloc] at this
    exact this
  have Q0 : Hid (∀ X, Below W.heap.size W X → X.cell? ⟨w.heap.size, 6, none⟩ = some (.slice (some ad) 2 c) ∧ X.cell? ad = some (.int .u8 (hx.k.toNat : Int)) ∧ X.cell? ⟨ad.block, ad.off + 1, none⟩ = some (.string (str hx.b)) ∧ X.cell? ⟨ad.block, ad.off + 2, none⟩ = some (.int .u64 (hx.s.a.toNat : Int)) ∧ X.cell? ⟨ad.block, ad.off + 3, none⟩ = some (.int .u64 (hx.s.b.toNat : Int)) ∧ X.cell? ⟨ad.block, ad.off + 4, none⟩ = some (.int .u64 (hx.s.c.toNat : Int)) ∧ X.cell? ⟨ad.block, ad.off + 5, none⟩ = some (.int .u64 (hx.s.d.toNat : Int)) ∧ X.cell? ⟨ad.block, ad.off + 6, none⟩ = some (.slice A1 kx.length c1) ∧ X.cell? ⟨ad.block, ad.off + 7, none⟩ = some (.int .u8 (hy.k.toNat : Int)) ∧ X.cell? ⟨ad.block, ad.off + 7 + 1, none⟩ = some (.string (str hy.b)) ∧ X.cell? ⟨ad.block, ad.off + 7 + 2, none⟩ = some (.int .u64 (hy.s.a.toNat : Int)) ∧ X.cell? ⟨ad.block, ad.off + 7 + 3, none⟩ = some (.int .u64 (hy.s.b.toNat : Int)) ∧ X.cell? ⟨ad.block, ad.off + 7 + 4, none⟩ = some (.int .u64 (hy.s.c.toNat : Int)) ∧ X.cell? ⟨ad.block, ad.off + 7 + 5, none⟩ = some (.int .u64 (hy.s.d.toNat : Int)) ∧ X.cell? ⟨ad.block, ad.off + 7 + 6, none⟩ = some (.slice A2 ky.length c2)) := by
    intro X hX
    obtain ⟨a0, a1, a2, a3, a4, a5, a6⟩ := co_at_box ((hX.block _ (lt_of_block e1)).trans e1)
    have hX2 := below_from hbW hX
    exact ⟨a6, keep_cell hX2 u0, keep_cell hX2 u1, keep_cell hX2 u2, keep_cell hX2 u3, keep_cell hX2 u4, keep_cell hX2 u5, keep_cell hX2 u6, keep_cell hX2 v0, keep_cell hX2 v1, keep_cell hX2 v2, keep_cell hX2 v3, keep_cell hX2 v4, keep_cell hX2 v5, keep_cell hX2 v6⟩
  have PX : Hid (∀ X, Below W.heap.size W X → Calls Tryd.prog 21 #[coV hx A1 kx.length c1] X (CoPostX (fun b => P b ∧ b < w.heap.size) (simpC (.mk hx kx)) X)) := fun X hX => px _ A1 c1 X hc1 (hr1.there.below (below_from hbW hX))
  have PY : Hid (∀ X, Below W.heap.size W X → Calls Tryd.prog 21 #[coV hy A2 ky.length c2] X (CoPostX (fun b => P b ∧ b < w.heap.size) (simpC (.mk hy ky)) X)) := fun X hX => py _ A2 c2 X hc2 (hr2.there.below (below_from hbW hX))
  have HB := Lib.hid hbW
  have HE := Lib.hid hW
  have HSW := Lib.hid hsW
  have E1 := Lib.hid e1
  have E2 := Lib.hid e2
  have HFB := Lib.hid hfb
  have hPB : Hid (∀ x, (P x ∧ x < w.heap.size) → ((P x ∧ x < w.heap.size) ∨ W.heap.size ≤ x) ∧ x < W.heap.size) := fun x hx => ⟨.inl hx, by have := hbW.size; omega⟩
  have hP0 : Hid (∀ x, W.heap.size ≤ x → ((P x ∧ x < w.heap.size) ∨ W.heap.size ≤ x)) := fun x hx => .inr hx
  obtain ⟨x0, x1, x2, x3, x4, x5, x6⟩ := co_at_box e1
  rw [← hW] at x0 x1 x2 x3 x4 x5 x6
  have hww := hbW.size
  clear hW hr hr1 hr2 px py u0 u1 u2 u3 u4 u5 u6 v0 v1 v2 v3 v4 v5 v6 hbW e1 e2 hc1 hc2 hsW e hfb
  generalize simpC (.mk hx kx) = tx at *
  generalize simpC (.mk hy ky) = ty at *
  go_enter Tryd.func21, Tryd.ntmps21
  go_upto_region 2 with fail
  rw [show (w.alloc _).alloc _ = W from HE.out]
  clear x0 x1 x2 x3 x4 x5 x6 HE
  go_cut [3, 4] from 14 to 23 (fun q1 q2 wx => TwoBoxC (fun x => (P x ∧ x < w.heap.size) ∨ W.heap.size ≤ x) W tx ty q1 q2 wx)
  case first =>
    have hz := (Below.refl W.heap.size W).drew
    refine wp_region_held_drew (S := fun X => X.cell? ⟨w.heap.size, 6, none⟩ = some (.slice (some ad) 2 c) ∧ X.cell? ad = some (.int .u8 (hx.k.toNat : Int)) ∧ X.cell? ⟨ad.block, ad.off + 1, none⟩ = some (.string (str hx.b)) ∧ X.cell? ⟨ad.block, ad.off + 2, none⟩ = some (.int .u64 (hx.s.a.toNat : Int)) ∧ X.cell? ⟨ad.block, ad.off + 3, none⟩ = some (.int .u64 (hx.s.b.toNat : Int)) ∧ X.cell? ⟨ad.block, ad.off + 4, none⟩ = some (.int .u64 (hx.s.c.toNat : Int)) ∧ X.cell? ⟨ad.block, ad.off + 5, none⟩ = some (.int .u64 (hx.s.d.toNat : Int)) ∧ X.cell? ⟨ad.block, ad.off + 6, none⟩ = some (.slice A1 kx.length c1) ∧ X.cell? ⟨ad.block, ad.off + 7, none⟩ = some (.int .u8 (hy.k.toNat : Int)) ∧ X.cell? ⟨ad.block, ad.off + 7 + 1, none⟩ = some (.string (str hy.b)) ∧ X.cell? ⟨ad.block, ad.off + 7 + 2, none⟩ = some (.int .u64 (hy.s.a.toNat : Int)) ∧ X.cell? ⟨ad.block, ad.off + 7 + 3, none⟩ = some (.int .u64 (hy.s.b.toNat : Int)) ∧ X.cell? ⟨ad.block, ad.off + 7 + 4, none⟩ = some (.int .u64 (hy.s.c.toNat : Int)) ∧ X.cell? ⟨ad.block, ad.off + 7 + 5, none⟩ = some (.int .u64 (hy.s.d.toNat : Int)) ∧ X.cell? ⟨ad.block, ad.off + 7 + 6, none⟩ = some (.slice A2 ky.length c2)) (by kernel_rfl) (Q0.out _ hz) (fun hHeld => ?_)
    refine wpAnyH_take (i := 0) (oi := ⟨some 14, _, _, _, _, _⟩) (v := .pointer (some ⟨w.heap.size, 6, none⟩)) rfl (by kernel_rfl) (by kernel_rfl) (by kernel_rfl) (fun _ _ _ h => h) (Or.inl ⟨by rfl, ?_⟩) (by assumption) ?_
    · intro wx hSw
      obtain ⟨p6, u0, u1, u2, u3, u4, u5, u6, v0, v1, v2, v3, v4, v5, v6⟩ := hSw
      go_simp
    simp only [Act.put, List.setIfInBounds_toArray, List.set_cons_zero, List.set_cons_succ]
    refine wpAnyH_take (i := 1) (oi := ⟨some 15, _, _, _, _, _⟩) (v := .slice (some ad) 2 c) rfl (by kernel_rfl) (by kernel_rfl) (by kernel_rfl) (fun _ _ _ h => h) (Or.inl ⟨by rfl, ?_⟩) (by assumption) ?_
    · intro wx hSw
      obtain ⟨p6, u0, u1, u2, u3, u4, u5, u6, v0, v1, v2, v3, v4, v5, v6⟩ := hSw
      go_simp
    simp only [Act.put, List.setIfInBounds_toArray, List.set_cons_zero, List.set_cons_succ]
    refine wpAnyH_take (i := 2) (oi := ⟨some 16, _, _, _, _, _⟩) (v := .pointer (some ad)) rfl (by kernel_rfl) (by kernel_rfl) (by kernel_rfl) (fun _ _ _ h => h) (Or.inl ⟨by rfl, ?_⟩) (by assumption) ?_
    · intro wx hSw
      obtain ⟨p6, u0, u1, u2, u3, u4, u5, u6, v0, v1, v2, v3, v4, v5, v6⟩ := hSw
      go_simp
    simp only [Act.put, List.setIfInBounds_toArray, List.set_cons_zero, List.set_cons_succ]
    refine wpAnyH_take (i := 3) (oi := ⟨some 17, _, _, _, _, _⟩) (v := coV hx A1 kx.length c1) rfl (by kernel_rfl) (by kernel_rfl) (by kernel_rfl) (fun _ _ _ h => h) (Or.inl ⟨by rfl, ?_⟩) (by assumption) ?_
    · intro wx hSw
      obtain ⟨p6, u0, u1, u2, u3, u4, u5, u6, v0, v1, v2, v3, v4, v5, v6⟩ := hSw
      go_simp
    simp only [Act.put, List.setIfInBounds_toArray, List.set_cons_zero, List.set_cons_succ]
    refine wpAnyH_take (i := 5) (oi := ⟨some 19, _, _, _, _, _⟩) (v := .pointer (some ⟨w.heap.size, 6, none⟩)) rfl (by kernel_rfl) (by kernel_rfl) (by kernel_rfl) (fun _ _ _ h => h) (Or.inl ⟨by rfl, ?_⟩) (by assumption) ?_
    · intro wx hSw
      obtain ⟨p6, u0, u1, u2, u3, u4, u5, u6, v0, v1, v2, v3, v4, v5, v6⟩ := hSw
      go_simp
    simp only [Act.put, List.setIfInBounds_toArray, List.set_cons_zero, List.set_cons_succ]
    refine wpAnyH_take (i := 6) (oi := ⟨some 20, _, _, _, _, _⟩) (v := .slice (some ad) 2 c) rfl (by kernel_rfl) (by kernel_rfl) (by kernel_rfl) (fun _ _ _ h => h) (Or.inl ⟨by rfl, ?_⟩) (by assumption) ?_
    · intro wx hSw
      obtain ⟨p6, u0, u1, u2, u3, u4, u5, u6, v0, v1, v2, v3, v4, v5, v6⟩ := hSw
      go_simp
    simp only [Act.put, List.setIfInBounds_toArray, List.set_cons_zero, List.set_cons_succ]
    refine wpAnyH_take (i := 7) (oi := ⟨some 21, _, _, _, _, _⟩) (v := .pointer (some ⟨ad.block, ad.off + 7, none⟩)) rfl (by kernel_rfl) (by kernel_rfl) (by kernel_rfl) (fun _ _ _ h => h) (Or.inl ⟨by rfl, ?_⟩) (by assumption) ?_
    · intro wx hSw
      obtain ⟨p6, u0, u1, u2, u3, u4, u5, u6, v0, v1, v2, v3, v4, v5, v6⟩ := hSw
      go_simp
    simp only [Act.put, List.setIfInBounds_toArray, List.set_cons_zero, List.set_cons_succ]
    refine wpAnyH_take (i := 8) (oi := ⟨some 22, _, _, _, _, _⟩) (v := coV hy A2 ky.length c2) rfl (by kernel_rfl) (by kernel_rfl) (by kernel_rfl) (fun _ _ _ h => h) (Or.inl ⟨by rfl, ?_⟩) (by assumption) ?_
    · intro wx hSw
      obtain ⟨p6, u0, u1, u2, u3, u4, u5, u6, v0, v1, v2, v3, v4, v5, v6⟩ := hSw
      go_simp
    simp only [Act.put, List.setIfInBounds_toArray, List.set_cons_zero, List.set_cons_succ]
    refine wpAnyH_inv (fun listed a w' => ∃ (t1 t2 a3 a4 s3 s4 : Bool) (q3 q4 v1 v2 : Value), listed = #[true, true, true, true, t1, true, true, true, true, t2, a3, a4, s3, s4] ∧ a = ⟨#[coV h (some ad) 2 c, .pointer (some ⟨w.heap.size, 0, none⟩), .pointer (some ⟨w.heap.size + 1, 0, none⟩), q3, q4, undef, undef, undef, undef, undef, undef, .pointer (some ⟨w.heap.size, 0, none⟩), .int .u8 4, .bool true, .pointer (some ⟨w.heap.size, 6, none⟩), .slice (some ad) 2 c, .pointer (some ad), coV hx A1 kx.length c1, v1, .pointer (some ⟨w.heap.size, 6, none⟩), .slice (some ad) 2 c, .pointer (some ⟨ad.block, ad.off + 7, none⟩), coV hy A2 ky.length c2, v2, undef, undef, undef, undef, undef, undef, undef, undef, undef, undef, undef, undef, undef, undef, undef, undef, undef, undef, undef, undef, undef, undef, undef, undef, undef, undef, undef, undef, undef, undef, undef, undef, undef, undef, undef, undef, undef, undef, undef, undef, undef, undef, undef, undef, undef, undef, undef, undef, undef, undef, undef, undef, undef, undef, undef, undef, undef, undef, undef, undef, undef, undef, undef, undef, undef, undef, undef, undef, undef, undef, undef, undef, undef, undef, undef, undef, undef, undef, undef, undef, undef, undef, undef, undef, undef, undef, undef, undef, undef, undef, undef, undef, undef, undef, undef, undef, undef, undef, undef, undef, undef, undef, undef, undef, undef, undef, undef, undef, undef], []⟩ ∧ TwoS (fun x => (P x ∧ x < w.heap.size) ∨ W.heap.size ≤ x) W tx ty t1 t2 a3 a4 s3 s4 q3 q4 v1 v2 w') ?step ?fin _ _ _ _ (by decide) ⟨false, false, false, false, false, false, undef, undef, undef, undef, rfl, rfl, TwoS.start _ _ _ _ hz⟩
    case step =>
      clear hHeld hz
      rintro listed a w' ⟨t1, t2, a3, a4, s3, s4, q3, q4, v1, v2, rfl, rfl, hT⟩ i hi
      obtain ⟨hi1, hi2, hi3⟩ := ready_spec hi
      have hi14 : i < 14 := hi1
      have hcase : i = 0 ∨ i = 1 ∨ i = 2 ∨ i = 3 ∨ i = 4 ∨ i = 5 ∨ i = 6 ∨ i = 7 ∨ i = 8 ∨ i = 9 ∨ i = 10 ∨ i = 11 ∨ i = 12 ∨ i = 13 := by omega
      clear hi hi1 hi14
      have hs := hT.flags
      rcases hcase with rfl | rfl | rfl | rfl | rfl | rfl | rfl | rfl | rfl | rfl | rfl | rfl | rfl | rfl
      · exact absurd (show true = false from hi2) (by decide)
      · exact absurd (show true = false from hi2) (by decide)
      · exact absurd (show true = false from hi2) (by decide)
      · exact absurd (show true = false from hi2) (by decide)
      · obtain rfl : t1 = false := hi2
        obtain rfl : s3 = false := by cases s3 with | false => rfl | true => exact absurd (hs.1 rfl).1 (by decide)
        clear hi3 hs
        refine wpOp_step (o := ⟨some 18, .call { callee := .value (.func 21), args := #[.tmp 17], argTypes := #[27] }, _, _, _, none⟩) rfl (fun K hK => ?_)
        have HK := Lib.hid hK
        clear hK
        go_simp
        refine (PX.out _ hT.below_).mono ?_
        rintro e wi ⟨ha, ka, Aa, ca, rfl, ea, hca, hra, hbi⟩
        have hT2 := hT.call hPB.out hP0.out ea hca hra hbi
        exact HK.out _ _ ⟨Q0.out _ hT2.below_, true, t2, a3, a4, false, s4, q3, q4, _, v2, rfl, rfl, hT2⟩
      · exact absurd (show true = false from hi2) (by decide)
      · exact absurd (show true = false from hi2) (by decide)
      · exact absurd (show true = false from hi2) (by decide)
      · exact absurd (show true = false from hi2) (by decide)
      · obtain rfl : t2 = false := hi2
        obtain rfl : s4 = false := by cases s4 with | false => rfl | true => exact absurd (hs.2 rfl).1 (by decide)
        clear hi3 hs
        refine wpOp_step (o := ⟨some 23, .call { callee := .value (.func 21), args := #[.tmp 22], argTypes := #[27] }, _, _, _, none⟩) rfl (fun K hK => ?_)
        have HK := Lib.hid hK
        clear hK
        go_simp
        refine (PY.out _ hT.below_).mono ?_
        rintro e wi ⟨ha, ka, Aa, ca, rfl, ea, hca, hra, hbi⟩
        have hT2 := (hT.swap.call hPB.out hP0.out ea hca hra hbi).swap
        exact HK.out _ _ ⟨Q0.out _ hT2.below_, t1, true, a3, a4, s3, false, q3, q4, v1, _, rfl, rfl, hT2⟩
      · obtain rfl : a3 = false := hi2
        obtain rfl : s3 = false := by cases s3 with | false => rfl | true => exact absurd (hs.1 rfl).2 (by decide)
        clear hi3 hs
        refine wpOp_step (o := ⟨some 3, .alloc 27, _, _, _, none⟩) rfl (fun K hK => ?_)
        have HK := Lib.hid hK
        clear hK
        go_simp
        exact HK.out _ _ ⟨Q0.out _ hT.alloc.below_, t1, t2, true, a4, false, s4, _, q4, v1, v2, rfl, rfl, hT.alloc⟩
      · obtain rfl : a4 = false := hi2
        obtain rfl : s4 = false := by cases s4 with | false => rfl | true => exact absurd (hs.2 rfl).2 (by decide)
        clear hi3 hs
        refine wpOp_step (o := ⟨some 4, .alloc 27, _, _, _, none⟩) rfl (fun K hK => ?_)
        have HK := Lib.hid hK
        clear hK
        go_simp
        exact HK.out _ _ ⟨Q0.out _ hT.swap.alloc.swap.below_, t1, t2, a3, true, s3, false, q3, _, v1, v2, rfl, rfl, hT.swap.alloc.swap⟩
      · obtain rfl : s3 = false := hi2
        have hd := hi3 _ rfl
        obtain rfl : t1 = true := by cases t1 with | true => rfl | false => (exfalso; simp [Region.binds] at hd)
        obtain rfl : a3 = true := by cases a3 with | true => rfl | false => (exfalso; simp [Region.binds] at hd)
        clear hi3 hs hd
        obtain ⟨b, hh, kk, AA, nn, rfl, rfl, hbox, hT2⟩ := hT.store
        obtain ⟨⟨r0, r1, r2, r3, r4, r5, r6⟩, f0, f1, f2, f3, f4, f5, f6⟩ := co_cells hbox
        refine wpOp_step (o := ⟨none, .store 27 (.tmp 3) (.tmp 18), _, _, _, none⟩) rfl (fun K hK => ?_)
        have HK := Lib.hid hK
        clear hK hbox
        go_simp
        exact HK.out _ _ ⟨Q0.out _ hT2.below_, true, t2, true, a4, true, s4, _, q4, _, v2, rfl, rfl, hT2⟩
      · obtain rfl : s4 = false := hi2
        have hd := hi3 _ rfl
        obtain rfl : t2 = true := by cases t2 with | true => rfl | false => (exfalso; simp [Region.binds] at hd)
        obtain rfl : a4 = true := by cases a4 with | true => rfl | false => (exfalso; simp [Region.binds] at hd)
        clear hi3 hs hd
        obtain ⟨b, hh, kk, AA, nn, rfl, rfl, hbox, hT2⟩ := hT.swap.store
        obtain ⟨⟨r0, r1, r2, r3, r4, r5, r6⟩, f0, f1, f2, f3, f4, f5, f6⟩ := co_cells hbox
        refine wpOp_step (o := ⟨none, .store 27 (.tmp 4) (.tmp 23), _, _, _, none⟩) rfl (fun K hK => ?_)
        have HK := Lib.hid hK
        clear hK hbox
        go_simp
        exact HK.out _ _ ⟨Q0.out _ hT2.swap.below_, t1, true, a3, true, s3, true, q3, _, v1, _, rfl, rfl, hT2.swap⟩
    case fin =>
      clear hHeld hz
      rintro listed a w' ⟨t1, t2, a3, a4, s3, s4, q3, q4, v1, v2, rfl, rfl, hT⟩ h0
      have hall : t1 = true ∧ t2 = true ∧ a3 = true ∧ a4 = true ∧ s3 = true ∧ s4 = true := by
        clear hT
        revert h0
        cases t1 <;> cases t2 <;> cases a3 <;> cases a4 <;> cases s3 <;> cases s4 <;> first | (intro _; exact ⟨rfl, rfl, rfl, rfl, rfl, rfl⟩) | (intro h; exact absurd h (by decide +kernel))
      obtain ⟨rfl, rfl, rfl, rfl, rfl, rfl⟩ := hall
      have hD := Lib.hid hT.done
      clear hT h0
      go_wp2_with fail
      go_meet
      exact hD.out
  case rest =>
    obtain ⟨b8, b9, h1, k1, Aa, ca, h2, k2, Ab, cb, rfl, rfl, ex, ey, hca, hcb, n8, n9, hra, hrb, hbC, hb8, hb9⟩ := hcut
    obtain ⟨wC, rfl⟩ : ∃ x, x = wc := ⟨_, rfl⟩
    have e1C := (hbC.block _ (lt_of_block E1.out)).trans E1.out
    have e2C := (hbC.block _ (lt_of_block E2.out)).trans E2.out
    have HBC := Lib.hid (below_from HB.out hbC)
    have HSQ2 : Hid (simpC (.mk h [.mk hx kx, .mk hy ky]) = simpSeq h.b (.mk h1 k1) (.mk h2 k2)) := by unfold Hid; rw [HSQ.out, ex, ey]
    have hfl : h.b.length + h1.b.length + h2.b.length ≤ 1000000000 := by have := HFB.out; rw [ex, ey] at this; exact this
    have E2C := Lib.hid e2C
    have E1C := Lib.hid e1C
    have N8 := Lib.hid n8
    have N9 := Lib.hid n9
    have HRA := Lib.hid hra
    have HRB := Lib.hid hrb
    have hsw := HSW.out
    have hsc := hbC.size
    clear e1C e2C ex ey n8 n9 hra hrb hbC PX PY Q0 HSQ HFB E1 E2 HB HSW
    obtain ⟨a0, a1, a2, a3, a4, a5, a6⟩ := co_at_box E1C.out
    obtain ⟨⟨y0, y1, y2, y3, y4, y5, y6⟩, f0, f1, f2, f3, f4, f5, f6⟩ := co_cells E2C.out
    obtain ⟨x0, x1, x2, x3, x4, x5, x6⟩ := co_at_box N8.out
    obtain ⟨z0, z1, z2, z3, z4, z5, z6⟩ := co_at_box N9.out
    by_cases kx1 : h1.k = 1 ∨ h2.k = 1
    · have HSE : Hid (simpC (.mk h [.mk hx kx, .mk hy ky]) = cEmp) := by unfold Hid; rw [HSQ2.out]; exact if_pos kx1
      by_cases k1e : h1.k = 1
      · have g1 : ((h1.k.toNat : Int) == 1) = true := kindY (n := 1) (by decide) k1e
        clear kx1 k1e HSQ2 N8 N9 HRA HRB
        go_wp2_with fail
        refine bodyPost_ret (v := coV ⟨1, [], S4.zero⟩ none 0 0) (by simp [results, Tryd.results21, go_sem, y0, y1, y2, y3, y4, y5, y6]; exact ⟨rfl, rfl, rfl, rfl⟩) rfl ⟨⟨1, [], S4.zero⟩, [], none, 0, rfl, HSE.out, Nat.le_refl _, by simp [InRow], seven_below HBC.out (by omega)⟩
      · have g1 : ((h1.k.toNat : Int) == 1) = false := kindN (n := 1) (by decide) k1e
        have g2 : ((h2.k.toNat : Int) == 1) = true := kindY (n := 1) (by decide) (by rcases kx1 with h | h; exact absurd h k1e; exact h)
        clear kx1 k1e HSQ2 N8 N9 HRA HRB
        go_wp2_with fail
        refine bodyPost_ret (v := coV ⟨1, [], S4.zero⟩ none 0 0) (by simp [results, Tryd.results21, go_sem, y0, y1, y2, y3, y4, y5, y6]; exact ⟨rfl, rfl, rfl, rfl⟩) rfl ⟨⟨1, [], S4.zero⟩, [], none, 0, rfl, HSE.out, Nat.le_refl _, by simp [InRow], seven_below HBC.out (by omega)⟩
    · have g1 : ((h1.k.toNat : Int) == 1) = false := kindN (n := 1) (by decide) fun e => kx1 (.inl e)
      have g2 : ((h2.k.toNat : Int) == 1) = false := kindN (n := 1) (by decide) fun e => kx1 (.inr e)
      by_cases k2e : h1.k = 2
      · have g3 : ((h1.k.toNat : Int) == 2) = true := kindY (n := 2) (by decide) k2e
        have HSE : Hid (simpC (.mk h [.mk hx kx, .mk hy ky]) = .mk (fuseH (h.b ++ h1.b) h2) k2) := by unfold Hid; rw [HSQ2.out, ← fuse_head]; unfold simpSeq; rw [if_neg (show ¬ ((T.mk h1 k1).head.k = 1 ∨ (T.mk h2 k2).head.k = 1) from kx1), if_pos (show (T.mk h1 k1).head.k = 2 from k2e)]; rfl
        have hcat := run_cat (P := Tryd.prog) h.b h1.b (by omega)
        have hfl2 : (h.b ++ h1.b).length + h2.b.length ≤ 9223372036854775807 := by rw [List.length_append]; omega
        clear kx1 k2e HSQ2 N8 N9 HRA
        go_wp2_with fail
        refine (refFuse_any (h.b ++ h1.b) h2 Ab k2.length cb _ hfl2).mono ?_
        rintro e w5 ⟨rfl, hb5⟩
        have HB5 := Lib.hid (below_from HBC.out hb5)
        have HR5 := Lib.hid (HRB.out.below hb5)
        have e25 := (hb5.block _ (lt_of_block E2C.out)).trans E2C.out
        clear a0 a1 a2 a3 a4 a5 a6 y0 y1 y2 y3 y4 y5 y6 f0 f1 f2 f3 f4 f5 f6 x0 x1 x2 x3 x4 x5 x6 z0 z1 z2 z3 z4 z5 z6 hb5 hcat
        obtain ⟨⟨y0, y1, y2, y3, y4, y5, y6⟩, f0, f1, f2, f3, f4, f5, f6⟩ := co_cells e25
        clear e25
        go_wp2_with fail
        refine bodyPost_ret (v := coV (fuseH (h.b ++ h1.b) h2) Ab k2.length cb) (by simp [results, Tryd.results21, go_sem, y0, y1, y2, y3, y4, y5, y6]; try exact ⟨rfl, rfl, rfl, rfl⟩) rfl ⟨_, k2, Ab, cb, rfl, HSE.out, hcb, (row_seven HR5.out fun x hx => by rcases hx with h | h; omega; omega).weak fun x hx => by rcases hx with h | h; exact .inl h.1; exact .inr (by omega), seven_below HB5.out (by omega)⟩
      · have g3 : ((h1.k.toNat : Int) == 2) = false := kindN (n := 2) (by decide) k2e
        have HSE : Hid (simpC (.mk h [.mk hx kx, .mk hy ky]) = cSeq h.b (.mk h1 k1) (.mk h2 k2)) := by unfold Hid; rw [HSQ2.out]; unfold simpSeq; rw [if_neg (show ¬ ((T.mk h1 k1).head.k = 1 ∨ (T.mk h2 k2).head.k = 1) from kx1), if_neg (show ¬ (T.mk h1 k1).head.k = 2 from k2e)]
        have hzz := below_new (Below.refl wC.heap.size wC) (.cells (coA h1 Aa k1.length ca ++ coA h2 Ab k2.length cb) 27)
        have m2 := new_at1 (w := wC) (.cells (coA h1 Aa k1.length ca ++ coA h2 Ab k2.length cb) 27)
        have hrow := co_two (P := fun x => (P x ∧ x < w.heap.size) ∨ W.heap.size ≤ x) m2 rfl (.inr (by omega)) hca (HRA.out.below hzz) hcb (HRB.out.below hzz)
        have HROW := Lib.hid hrow
        have HBF := Lib.hid (below_from HBC.out hzz)
        have e2Z := fun o => (co_cells (heap_keep1 E2C.out o))
        have zr0 := fun o => (e2Z o).1.1
        have zr1 := fun o => (e2Z o).1.2.1
        have zr2 := fun o => (e2Z o).1.2.2.1
        have zr3 := fun o => (e2Z o).1.2.2.2.1
        have zr4 := fun o => (e2Z o).1.2.2.2.2.1
        have zr5 := fun o => (e2Z o).1.2.2.2.2.2.1
        have zr6 := fun o => (e2Z o).1.2.2.2.2.2.2
        have zg0 := fun o => (e2Z o).2.1
        have zg1 := fun o => (e2Z o).2.2.1
        have zg2 := fun o => (e2Z o).2.2.2.1
        have zg3 := fun o => (e2Z o).2.2.2.2.1
        have zg4 := fun o => (e2Z o).2.2.2.2.2.1
        have zg5 := fun o => (e2Z o).2.2.2.2.2.2.1
        have zg6 := fun o => (e2Z o).2.2.2.2.2.2.2
        clear kx1 k2e HSQ2 N8 N9 HRA HRB hrow hzz m2 e2Z
        go_wp2_with fail
        refine bodyPost_ret (v := coV ⟨4, h.b, S4.zero⟩ (some ⟨wC.heap.size, 0, none⟩) 2 2) (by simp [results, Tryd.results21, go_sem, zr0, zr1, zr2, zr3, zr4, zr5, zr6]; exact ⟨rfl, rfl, rfl, rfl⟩) rfl ⟨⟨4, h.b, S4.zero⟩, [.mk h1 k1, .mk h2 k2], some ⟨wC.heap.size, 0, none⟩, 2, rfl, HSE.out, Nat.le_refl _, (row_seven HROW.out fun x hx => by rcases hx with h | h; omega; omega).weak fun x hx => by rcases hx with h | h; exact .inl h.1; exact .inr (by omega), seven_below HBF.out (by omega)⟩
end Go.Proofs.YtkhgbeflhjjkdaaDoor
namespace Go.Proofs.YtkhgbeflhjjkdaaDoor
open Go.RowKit
set_option linter.unusedVariables false
set_option linter.unusedSimpArgs false

set_option maxRecDepth 100000 in
set_option maxHeartbeats 16000000 in
theorem dsimp_5 {h : CH} (e : h.k = 5) {ks : List Co} (hk : ∀ t ∈ ks, SimpOkT 21 t) (hlk : ks.length ≤ 1000000) (hlen : (flatL ks).length ≤ 1000000) (hfb : ∀ t ∈ ks, ∀ y ∈ (simpC t).kids, (simpC t).head.b.length + y.head.b.length ≤ 9223372036854775807)
    (hsz : ∀ t ∈ flatL ks, t.size ≤ 1000000) (hfc : ∀ t ∈ flatL ks, h.b.length + t.head.b.length ≤ 9223372036854775807) : SimpOk 21 h ks := by
  intro P A c w hc hr
  have g5 : ((h.k.toNat : Int) != 5) = false := by unfold bne; rw [kind5 e]; rfl
  have g4 : ((h.k.toNat : Int) == 4) = false := kindN (n := 4) (by decide) (by rw [e]; decide)
  have HSQ : Hid (simpC (.mk h ks) = altOf h.b (once [] (flatL ks))) := by unfold Hid; simp [simpC, e, simpCs_map, flatL_map]
  have HK0 := Lib.hid hk
  have HLEN := Lib.hid hlen
  have HFB := Lib.hid hfb
  have HSZ := Lib.hid hsz
  have HFC := Lib.hid hfc
  obtain ⟨W, hW⟩ : ∃ W, (w.alloc (.cells #[.int .u8 (h.k.toNat : Int), .string (str h.b), .int .u64 (h.s.a.toNat : Int), .int .u64 (h.s.b.toNat : Int), .int .u64 (h.s.c.toNat : Int), .int .u64 (h.s.d.toNat : Int), .slice A ks.length c] 27)).alloc (.cells #[.int .u8 0, .string ⟨#[]⟩, .int .u64 0, .int .u64 0, .int .u64 0, .int .u64 0, .slice none 0 0] 27) = W := ⟨_, rfl⟩
  have hbW : Below w.heap.size w W := by rw [← hW]; exact below_new (below_new (Below.refl _ _) _) _
  have hsW : W.heap.size = w.heap.size + 1 + 1 := by rw [← hW]; simp
  have e1W : W.heap[w.heap.size]? = some (.cells #[.int .u8 (h.k.toNat : Int), .string (str h.b), .int .u64 (h.s.a.toNat : Int), .int .u64 (h.s.b.toNat : Int), .int .u64 (h.s.c.toNat : Int), .int .u64 (h.s.d.toNat : Int), .slice A ks.length c] 27 (0, 0)) := by rw [← hW]; exact heap_keep1 (new_at1 _) _
  have e2W : W.heap[w.heap.size + 1]? = some (.cells coZ 27 (0, 0)) := by
    rw [← hW]
    have := new_at1 (w := w.alloc (.cells #[.int .u8 (h.k.toNat : Int), .string (str h.b), .int .u64 (h.s.a.toNat : Int), .int .u64 (h.s.b.toNat : Int), .int .u64 (h.s.c.toNat : Int), .int .u64 (h.s.d.toNat : Int), .slice A ks.length c] 27)) (.cells coZ 27)
    rw [World.size_alloc] at this
    exact this
  obtain ⟨U, hU⟩ : ∃ U, W.alloc (.cells #[] 27) = U := ⟨_, rfl⟩
  have hbU : Below W.heap.size W U := by rw [← hU]; exact below_new (Below.refl _ _) _
  have e1 := (hbU.block _ (lt_of_block e1W)).trans e1W
  have e2 := (hbU.block _ (lt_of_block e2W)).trans e2W
  have hsU : U.heap.size = w.heap.size + 1 + 1 + 1 := by rw [← hU, World.size_alloc, hsW]
  have hO0 : Hid (OwnT CE (fun _ => False) U (w.heap.size + 1 + 1) 27 (.slice (some ⟨w.heap.size + 1 + 1, 0, none⟩) 0 0) (flatL (ks.take 0))) := by
    unfold Hid
    rw [show flatL (ks.take 0) = [] from rfl, ← hU]
    refine ⟨fun b hb => hb.elim, [], ?_, fun k t ht => by simp at ht⟩
    have := World.ownsRow_lit (base := w.heap.size + 1 + 1) (e := 27) (size := 7) W #[] 0 (by rw [hsW]; exact Nat.le_refl _) (by unfold maxLen; omega) rfl
    rw [hsW] at this
    exact this
  have E1 := Lib.hid e1
  have E2 := Lib.hid e2
  have HBU := Lib.hid (below_from hbW hbU)
  have HR := Lib.hid hr.there
  have HU := Lib.hid hU
  have HE := Lib.hid hW
  have HSW := Lib.hid hsW
  obtain ⟨x0, x1, x2, x3, x4, x5, x6⟩ := co_at_box e1W
  rw [← hW] at x0 x1 x2 x3 x4 x5 x6
  clear hW hbW hbU hU hr e1 e2 e1W e2W hk e hsW hlen hfb hsz hfc
  go_enter Tryd.func21, Tryd.ntmps21
  go_upto_region 10 with fail
  clear x0 x1 x2 x3 x4 x5 x6
  rw [show (w.alloc _).alloc _ = W from HE.out]
  have hsw := HSW.out
  go_upto_region 11 with fail
  rw [show W.alloc (.cells #[] 27) = U from HU.out]
  clear hsw HSW HU HE
  obtain ⟨x0, x1, x2, x3, x4, x5, x6⟩ := co_at_box E1.out
  go_wp2_with fail
  clear x0 x1 x2 x3 x4 x5 x6
  go_loopw [5, 6, 57] (fun oo _ i wr => ∃ (k : Nat) (o : Value) (okk : Nat → Prop), o = oo ∧ k ≤ ks.length ∧ i = .int .i64 (k : Nat) ∧ Hid (OwnT CE okk wr (w.heap.size + 1 + 1) 27 o (flatL (ks.take k))) ∧ Hid (∀ x, okk x → ((P x ∧ x < w.heap.size) ∨ w.heap.size + 1 + 1 ≤ x) ∧ x < wr.heap.size) ∧
    Hid (wr.heap[w.heap.size]? = some (.cells #[.int .u8 (h.k.toNat : Int), .string (str h.b), .int .u64 (h.s.a.toNat : Int), .int .u64 (h.s.b.toNat : Int), .int .u64 (h.s.c.toNat : Int), .int .u64 (h.s.d.toNat : Int), .slice A ks.length c] 27 (0, 0))) ∧ Hid (wr.heap[w.heap.size + 1]? = some (.cells coZ 27 (0, 0))) ∧ Hid (w.heap.size + 1 + 1 < wr.heap.size) ∧ Hid (Below w.heap.size w wr)) (fun _ _ i _ => ks.length - (intOf i).toNat)
  case atStart => exact ⟨0, _, _, rfl, Nat.zero_le _, rfl, hO0, Lib.hid (fun x hx => hx.elim), E1, E2, Lib.hid (by omega), HBU⟩
  case round =>
    clear hO0 E1 E2 HBU
    obtain ⟨k, o, okk, rfl, hk, rfl, HOw, HK, E1, E2, HSZ0, HB⟩ := hrel
    by_cases hlt : k < ks.length
    · obtain ⟨t, ad, h1, ls, A1, c1, hA, hx, rfl, hc1, hr1, q0, q1, q2, q3, q4, q5, q6⟩ := co_at (HR.out.below HB.out) hlt
      subst hA
      have HTk := Lib.hid (flatL_take hx)
      have HLk : Hid ((flatL (ks.take (k + 1))).length ≤ 1000000) := Nat.le_trans (flatL_le ks _) HLEN.out
      have HC := Lib.hid (HK0.out _ (List.mem_of_getElem? hx) h1 ls rfl (fun b => P b ∧ b < w.heap.size) A1 c1 wr hc1 hr1)
      have HF1 := Lib.hid (HFB.out _ (List.mem_of_getElem? hx))
      generalize simpC (T.mk h1 ls) = tb at *
      obtain ⟨x0, x1, x2, x3, x4, x5, x6⟩ := co_at_box E1.out
      have hwr := HB.out.size
      clear hx hr1
      go_wp2_with fail
      refine HC.out.mono ?_
      rintro e w2 ⟨h2, k2, A2, c2, rfl, e2, hc2, hr2, hb2⟩
      clear HC x0 x1 x2 x3 x4 x5 x6 q0 q1 q2 q3 q4 q5 q6
      obtain ⟨W3, hW3⟩ : ∃ W3, w2.alloc (.cells (coA h2 A2 k2.length c2) 27) = W3 := ⟨_, rfl⟩
      have hb3 : Below w2.heap.size w2 W3 := by rw [← hW3]; exact below_new (Below.refl _ _) _
      have n3 : W3.heap[w2.heap.size]? = some (.cells (coA h2 A2 k2.length c2) 27 (0, 0)) := by rw [← hW3]; exact new_at1 _
      have hz3 := below_from hb2 hb3
      have hs2 := hb2.size
      have hs3 := lt_of_block n3
      have hs0 := HSZ0.out
      have HBW := Lib.hid (below_from HB.out hz3)
      have E13 := Lib.hid ((hz3.block _ (lt_of_block E1.out)).trans E1.out)
      have E23 := Lib.hid ((hz3.block _ (lt_of_block E2.out)).trans E2.out)
      have HO3 := Lib.hid (HOw.out.keep hz3)
      have HK3 : Hid (∀ x, okk x → ((P x ∧ x < w.heap.size) ∨ w.heap.size + 1 + 1 ≤ x) ∧ x < W3.heap.size) := fun x hx => by have := HK.out x hx; exact ⟨this.1, by omega⟩
      have hr3 : InRow CE (fun x => (P x ∧ x < w.heap.size) ∨ (wr.heap.size ≤ x ∧ x < W3.heap.size)) W3 k2 A2 0 := (hr2.there.below hb3).weak fun x hx => by rcases hx.1 with h | h; exact .inl h; exact .inr ⟨by omega, by omega⟩
      have HR3 := Lib.hid hr3
      have hne : Hid (∀ x, ((P x ∧ x < w.heap.size) ∨ (wr.heap.size ≤ x ∧ x < W3.heap.size)) → some x ≠ o.ownBlock) := fun x hx e => by
        have := own_inE HOw.out e.symm
        rcases hx with h | h
        · have := h.2; omega
        · omega
      have N3 := Lib.hid n3
      have HW3 := Lib.hid hW3
      have hlt2 : Hid (w2.heap.size < W3.heap.size) := hs3
      have hge2 : Hid (wr.heap.size ≤ w2.heap.size) := by unfold Hid; omega
      have HZ3 := Lib.hid hz3
      have HS3 : Hid (w.heap.size + 1 + 1 < W3.heap.size) := by unfold Hid; omega
      clear hb2 hr2 hb3 hW3 n3 hr3 hz3
      go_upto_region 15 with fail
      rw [show w2.alloc _ = W3 from HW3.out]
      clear HW3
      obtain ⟨x0, x1, x2, x3, x4, x5, x6⟩ := co_at_box N3.out
      by_cases k5 : h2.k = 5
      · have g6 : ((h2.k.toNat : Int) == 5) = true := kindY (n := 5) (by decide) k5
        have HT5 : Hid (flatL (ks.take (k + 1)) = flatL (ks.take k) ++ k2.map (fuseC h2.b)) := by unfold Hid; rw [HTk.out, e2, flat1_kids (t := .mk h2 k2) k5]; rfl
        have HF2 : Hid (∀ y ∈ k2, h2.b.length + y.head.b.length ≤ 9223372036854775807) := by have := HF1.out; rw [e2] at this; exact this
        have HO4 : Hid (OwnT CE okk W3 (w.heap.size + 1 + 1) 27 o (flatL (ks.take k) ++ (k2.take 0).map (fuseC h2.b))) := by unfold Hid; rw [List.take_zero, List.map_nil, List.append_nil]; exact HO3.out
        have HLL : Hid ((flatL (ks.take k)).length + k2.length ≤ 1000000) := by have := HLk.out; rw [HT5.out, List.length_append, List.length_map] at this; exact this
        have hkl : k + 1 ≤ ks.length := hlt
        have hk2l : k2.length ≤ 1000000 := by have := HLL.out; omega
        have HZW := HZ3.out.size
        clear k5 e2 HTk HOw HK HB HF1 HLk HO3 hs2 hs3 hlt hk E1 E2 HSZ0
        generalize flatL (ks.take k) = L at *
        go_wp2_with fail
        clear x0 x1 x2 x3 x4 x5 x6
        obtain ⟨wo, rfl⟩ : ∃ x, x = wr := ⟨_, rfl⟩
        obtain ⟨bx, hbx⟩ : ∃ x, x = w2.heap.size := ⟨_, rfl⟩
        rw [← hbx] at N3 hlt2 hge2 ⊢
        clear hbx
        go_loopw [5, 8, 72] (fun oo _ i wr => ∃ (j : Nat) (o : Value) (okk : Nat → Prop), o = oo ∧ j ≤ k2.length ∧ i = .int .i64 (j : Nat) ∧ Hid (OwnT CE okk wr (w.heap.size + 1 + 1) 27 o (L ++ (k2.take j).map (fuseC h2.b))) ∧ Hid (∀ x, okk x → ((P x ∧ x < w.heap.size) ∨ w.heap.size + 1 + 1 ≤ x) ∧ x < wr.heap.size) ∧
          Hid (∀ x, ((P x ∧ x < w.heap.size) ∨ (wo.heap.size ≤ x ∧ x < W3.heap.size)) → some x ≠ o.ownBlock) ∧ Hid (InRow CE (fun x => (P x ∧ x < w.heap.size) ∨ (wo.heap.size ≤ x ∧ x < W3.heap.size)) wr k2 A2 0) ∧ Hid (wr.heap[bx]? = some (.cells (coA h2 A2 k2.length c2) 27 (0, 0))) ∧ Hid (W3.heap.size ≤ wr.heap.size) ∧ Hid (wr.heap[w.heap.size]? = some (.cells #[.int .u8 (h.k.toNat : Int), .string (str h.b), .int .u64 (h.s.a.toNat : Int), .int .u64 (h.s.b.toNat : Int), .int .u64 (h.s.c.toNat : Int), .int .u64 (h.s.d.toNat : Int), .slice (some ad) ks.length c] 27 (0, 0))) ∧ Hid (wr.heap[w.heap.size + 1]? = some (.cells coZ 27 (0, 0))) ∧ Hid (Below w.heap.size w wr)) (fun _ _ i _ => k2.length - (intOf i).toNat)
        case atStart => exact ⟨0, _, okk, rfl, Nat.zero_le _, rfl, HO4, HK3, hne, HR3, N3, Nat.le_refl _, E13, E23, HBW⟩
        case round =>
          clear HO4 HK3 hne HR3 N3 HBW HZ3 E13 E23
          obtain ⟨j, o, okk, rfl, hj, rfl, HOj, HKj, hnj, HRj, NJ, HSJ, E1, E2, HBj⟩ := hrel
          by_cases hltj : j < k2.length
          · obtain ⟨y, ad2, hy, ky, Ay, cy, hA2, hxy, rfl, hcy, hry, q0, q1, q2, q3, q4, q5, q6⟩ := co_at HRj.out hltj
            subst hA2
            have hfl : h2.b.length + hy.b.length ≤ 9223372036854775807 := HF2.out _ (List.mem_of_getElem? hxy)
            have HTj : Hid (L ++ (k2.take (j + 1)).map (fuseC h2.b) = (L ++ (k2.take j).map (fuseC h2.b)) ++ [fuseC h2.b (.mk hy ky)]) := by
              unfold Hid
              rw [List.take_add_one, hxy]
              simp
            have HLj : Hid ((L ++ (k2.take j).map (fuseC h2.b)).length < 1000000) := by
              unfold Hid
              rw [List.length_append, List.length_map, List.length_take]
              have := HLL.out
              omega
            generalize L ++ (k2.take j).map (fuseC h2.b) = LL at *
            obtain ⟨z0, z1, z2, z3, z4, z5, z6⟩ := co_at_box NJ.out
            have HRY := Lib.hid hry
            have HBO : Hid (∀ j, o.ownBlock = some j → w.heap.size + 1 + 1 ≤ j) := fun j hj => (own_inE HOj.out hj).1
            clear hxy hry
            go_upto_region 19 with fail
            go_region_law
              (first
                | (go_simp; go_at_call 49; (with_reducible refine (refFuse_any h2.b hy Ay ky.length cy _ hfl).mono ?_); rintro e w5 ⟨rfl, hb5⟩; have hz5 : Below wr.heap.size wr w5 := below_from (Below.refl wr.heap.size wr).drew hb5; have hry5 : InRow CE (fun x => ((P x ∧ x < w.heap.size) ∨ (wo.heap.size ≤ x ∧ x < W3.heap.size)) ∨ wr.heap.size ≤ x) w5 ky Ay 0 := (HRY.out.below hz5).weak fun x hx => .inl hx; have hsj := HSJ.out; obtain ⟨cs0, hown0, hsrc, happ⟩ := co_app (P := fun x => (P x ∧ x < w.heap.size) ∨ (wo.heap.size ≤ x ∧ x < W3.heap.size)) HOj.out (fun x hx => (HKj.out x hx).2) (fun x hx => ⟨by rcases hx with h | h; omega; omega, hnj.out x hx⟩) hz5 (fuse_head h2.b hy ky) hcy hry5; have HAPP := Lib.hid happ; clear happ)
                | (refine step_app _ (by rfl) (.tmp 75) (.tmp 84) 25 (by rfl) (w.heap.size + 1 + 1) 27 _ 7 80 Tryd.underlying25 Tryd.info_co rfl (by decide) o LL.length cs0 (by rfl) hown0 (some ⟨w5.heap.size, 0, none⟩) 1 1 _ (by rfl) hsrc (coA_one (fuseH h2.b hy) Ay ky.length cy) (by have := HLj.out; unfold maxLen; omega) (by have := HLj.out; omega) (by rw [World.size_alloc]; have := hz5.size; omega) ?_; intro v5 w6 ho5 hg5 hat5)
                | fail)
            all_goals
              have hXb : Below w5.heap.size w5 (w5.alloc (.cells (coA (fuseH h2.b hy) Ay ky.length cy) 27)) := below_new (Below.refl _ _) _
              have hb6 := below_from hz5 hXb
              have NJ6 := Lib.hid ((hb6.block _ (lt_of_block NJ.out)).trans NJ.out)
              have E16 := Lib.hid ((hb6.block _ (lt_of_block E1.out)).trans E1.out)
              have E26 := Lib.hid ((hb6.block _ (lt_of_block E2.out)).trans E2.out)
              have HRJ6 := Lib.hid (HRj.out.below hb6)
              have HB6 := Lib.hid (below_from HBj.out hb6)
              have hsz5 := hz5.size
              have hs6 := hg5.size
              rw [World.size_alloc] at hs6
              have HO6 := Lib.hid (HAPP.out v5 w6 ho5 hg5 (by rw [World.size_alloc]; rw [World.size_alloc] at hat5; exact hat5))
              have N6 := Lib.hid ((hg5.block _ (lt_of_block NJ6.out) (hnj.out _ (.inr ⟨hge2.out, hlt2.out⟩))).trans NJ6.out)
              have E17 := Lib.hid ((hg5.block _ (lt_of_block E16.out) (fun e => by have := HBO.out _ e.symm; omega)).trans E16.out)
              have E27 := Lib.hid ((hg5.block _ (lt_of_block E26.out) (fun e => by have := HBO.out _ e.symm; omega)).trans E26.out)
              have HR6 := Lib.hid (HRJ6.out.grown hg5 hnj.out)
              have HB7 := Lib.hid (HB6.out.grown hg5 HB6.out.size (fun j hj => by have := HBO.out _ hj; omega))
              have HK6 : Hid (∀ x, (okk x ∨ ((P x ∧ x < w.heap.size) ∨ (wo.heap.size ≤ x ∧ x < W3.heap.size)) ∨ (wr.heap.size ≤ x ∧ x < w5.heap.size)) → ((P x ∧ x < w.heap.size) ∨ w.heap.size + 1 + 1 ≤ x) ∧ x < w6.heap.size) := fun x hx => by
                rcases hx with hx | (hx | hx) | hx
                · have := HKj.out x hx; exact ⟨this.1, by omega⟩
                · exact ⟨.inl hx, by omega⟩
                · exact ⟨.inr (by omega), by omega⟩
                · exact ⟨.inr (by omega), by omega⟩
              have HN6 : Hid (∀ x, ((P x ∧ x < w.heap.size) ∨ (wo.heap.size ≤ x ∧ x < W3.heap.size)) → some x ≠ v5.ownBlock) := fun x hx e => by
                rcases hat5 with h | h
                · rw [h] at e; exact hnj.out x hx e
                · rw [h, World.size_alloc] at e
                  have e := Option.some.inj e
                  rcases hx with h | h
                  · have := h.2; omega
                  · omega
              have HS6 : Hid (W3.heap.size ≤ w6.heap.size) := by unfold Hid; omega
              clear ho5 hg5 hat5 hown0 hsrc HAPP NJ6 HRJ6 HB6 hs6 hsz5 hsj HOj HKj hnj HRj NJ HSJ HBj HRY E1 E2 E16 E26 HBO hb5 hz5 hry5 hXb hb6 q0 q1 q2 q3 q4 q5 q6 z0 z1 z2 z3 z4 z5 z6 hfl
              go_wp2_with fail
              go_roundw
              case rel => exact ⟨j + 1, _, _, rfl, by omega, by go_num, by rw [HTj.out]; exact HO6, HK6, HN6, HR6, N6, HS6, E17, E27, HB7⟩
              case measure => simp [intOf]; omega
          · have hjj : j = k2.length := by omega
            subst hjj
            have HO7 : Hid (OwnT CE okk wr (w.heap.size + 1 + 1) 27 o (flatL (ks.take (k + 1)))) := by have := HOj.out; rw [List.take_length, ← HT5.out] at this; exact this
            have HSW7 : Hid (w.heap.size + 1 + 1 < wr.heap.size) := by have := HS3.out; have := HSJ.out; unfold Hid; omega
            clear HOj hltj hj HLL HF2 HT5
            go_wp2_with fail
            go_roundw
            case rel => exact ⟨k + 1, _, okk, rfl, hkl, by go_num, HO7, HKj, E1, E2, HSW7, HBj⟩
            case measure => simp [intOf]; omega
      have g6 : ((h2.k.toNat : Int) == 5) = false := kindN (n := 5) (by decide) k5
      by_cases k1 : h2.k = 1
      · have g1 : ((h2.k.toNat : Int) != 1) = false := by have g0 : ((h2.k.toNat : Int) == 1) = true := kindY (n := 1) (by decide) k1; unfold bne; rw [g0]; rfl
        have HT1 : Hid (flatL (ks.take (k + 1)) = flatL (ks.take k)) := by unfold Hid; rw [HTk.out, e2, flat1_none (t := .mk h2 k2) k1, List.append_nil]
        clear k1 k5 e2 HTk HOw HK HB
        go_wp2_with fail
        go_roundw
        case rel => exact ⟨k + 1, _, okk, rfl, by omega, by go_num, by rw [HT1.out]; exact HO3, HK3, E13, E23, HS3, HBW⟩
        case measure => simp [intOf]; omega
      · have g1 : ((h2.k.toNat : Int) != 1) = true := by have g0 : ((h2.k.toNat : Int) == 1) = false := kindN (n := 1) (by decide) k1; unfold bne; rw [g0]; rfl
        have HT1 : Hid (flatL (ks.take (k + 1)) = flatL (ks.take k) ++ [tb]) := by unfold Hid; rw [HTk.out, e2, flat1_one (t := .mk h2 k2) k1 k5]
        have HLk2 : Hid ((flatL (ks.take k)).length < 1000000) := by have := HLk.out; rw [HT1.out, List.length_append] at this; simp at this; unfold Hid; omega
        obtain ⟨cs0, hown0, hsrc, happ⟩ := co_app (P := fun x => P x ∧ x < w.heap.size) HOw.out (fun x hx => (HK.out x hx).2) (fun x hx => ⟨by have := hx.2; omega, hne.out x (.inl hx)⟩) HZ3.out e2 hc2 (HR3.out.weak fun x hx => by rcases hx with h | h; exact .inl h; exact .inr h.1)
        have HAPP := Lib.hid happ
        have hXb : Below W3.heap.size W3 (W3.alloc (.cells (coA h2 A2 k2.length c2) 27)) := below_new (Below.refl _ _) _
        have HB6 := Lib.hid (below_from HBW.out hXb)
        have E16 := Lib.hid ((hXb.block _ (lt_of_block E13.out)).trans E13.out)
        have E26 := Lib.hid ((hXb.block _ (lt_of_block E23.out)).trans E23.out)
        have HZW := HZ3.out.size
        clear k1 k5 e2 HTk HO3 HK3 hne HR3 N3 HBW HZ3 hXb happ E13 E23
        go_wp2_with (at_builtin; refine wpList_app _ rfl (.tmp 90) (.tmp 92) 25 rfl (w.heap.size + 1 + 1) 27 _ 7 80 Tryd.underlying25 Tryd.info_co rfl (by decide) _ _ _ rfl hown0 (some ⟨W3.heap.size, 0, none⟩) 1 1 _ rfl hsrc ?h1 ?h2 ?h3 ?h4 ?_)
        case h1 => first | exact coA_one h2 A2 k2.length c2 | exact ⟨rfl, rfl, rfl, rfl, rfl, rfl, rfl⟩ | trivial
        case h2 => have := HLk2.out; unfold maxLen; omega
        case h3 => have := HLk2.out; omega
        case h4 => (try rw [World.size_alloc]); omega
        intro v5 w6 ho5 hg5 hat5
        have hs6 := hg5.size
        rw [World.size_alloc] at hs6
        have HO6 := Lib.hid (HAPP.out v5 w6 ho5 hg5 (by rw [World.size_alloc]; exact hat5))
        have HB7 := Lib.hid (HB6.out.grown hg5 HB6.out.size (fun j hj => by have := own_base hown0 j hj; omega))
        have E17 := Lib.hid ((hg5.block _ (lt_of_block E16.out) (fun e => by have := own_base hown0 _ e.symm; omega)).trans E16.out)
        have E27 := Lib.hid ((hg5.block _ (lt_of_block E26.out) (fun e => by have := own_base hown0 _ e.symm; omega)).trans E26.out)
        have HK6 : Hid (∀ x, (okk x ∨ (P x ∧ x < w.heap.size) ∨ (wr.heap.size ≤ x ∧ x < W3.heap.size)) → ((P x ∧ x < w.heap.size) ∨ w.heap.size + 1 + 1 ≤ x) ∧ x < w6.heap.size) := fun x hx => by
          rcases hx with hx | hx | hx
          · have := HK.out x hx; exact ⟨this.1, by omega⟩
          · exact ⟨.inl hx, by omega⟩
          · exact ⟨.inr (by omega), by omega⟩
        have HS6 : Hid (w.heap.size + 1 + 1 < w6.heap.size) := by unfold Hid; omega
        clear ho5 hg5 hat5 hown0 hsrc HAPP HB6 hs6 HOw HK HB x0 x1 x2 x3 x4 x5 x6 E16 E26
        go_wp2_with fail
        go_roundw
        case rel => exact ⟨k + 1, _, _, rfl, by omega, by go_num, by rw [HT1.out]; exact HO6, HK6, E17, E27, HS6, HB7⟩
        case measure => simp [intOf]; omega
    · have hkk : k = ks.length := by omega
      subst hkk
      have HOw2 : Hid (OwnT CE okk wr (w.heap.size + 1 + 1) 27 o (flatL ks)) := by have := HOw.out; rw [List.take_length] at this; exact this
      obtain ⟨A5, c5, hv5, hc5, hr5⟩ := HOw2.out.row
      subst hv5
      have hP5 : ∀ b, (okk b ∨ (Value.slice A5 (flatL ks).length c5).ownBlock = some b) → ((P b ∧ b < w.heap.size) ∨ w.heap.size + 1 + 1 ≤ b) := fun b hb => by
        rcases hb with hb | hb
        · exact (HK.out b hb).1
        · have := (own_inE HOw2.out hb).1; exact .inr (by omega)
      have hrl := (hr5.weak hP5).there
      have hll := HLEN.out
      clear HOw HOw2 hr5 hP5 hlt hk hc5 HK HFB HK0 HR
      have HSI := HSZ
      generalize flatL ks = L at *
      obtain ⟨wB, rfl⟩ : ∃ x, x = wr := ⟨_, rfl⟩
      obtain ⟨U2, hU2⟩ : ∃ U2, wB.alloc (.cells #[] 27) = U2 := ⟨_, rfl⟩
      have hbU2 : Below wB.heap.size wB U2 := by rw [← hU2]; exact below_new (Below.refl _ _) _
      have hsU2 : U2.heap.size = wB.heap.size + 1 := by rw [← hU2]; simp
      have HO0 : Hid (OwnT CE (fun _ => False) U2 wB.heap.size 27 (.slice (some ⟨wB.heap.size, 0, none⟩) 0 0) (once [] (L.take 0))) := by
        unfold Hid
        rw [show once [] (L.take 0) = [] from rfl, ← hU2]
        exact ⟨fun b hb => hb.elim, [], World.ownsRow_lit (base := wB.heap.size) (e := 27) (size := 7) wB #[] 0 (Nat.le_refl _) (by unfold maxLen; omega) rfl, fun k t ht => by simp at ht⟩
      have HRL := Lib.hid (hrl.below hbU2)
      have E12 := Lib.hid ((hbU2.block _ (lt_of_block E1.out)).trans E1.out)
      have E22 := Lib.hid ((hbU2.block _ (lt_of_block E2.out)).trans E2.out)
      have HB2 := Lib.hid (below_from HB.out hbU2)
      have HU2 := Lib.hid hU2
      have hsz0 := HSZ0.out
      clear hrl hbU2 hU2 E1 E2 HB HSZ0 HSZ
      go_upto_region 25 with fail
      rw [show wB.alloc (.cells #[] 27) = U2 from HU2.out]
      go_wp2_with fail
      go_loopw [9, 10, 98] (fun ll _ i wr => ∃ (k : Nat) (o : Value) (okk : Nat → Prop), o = ll ∧ k ≤ L.length ∧ i = .int .i64 (k : Nat) ∧ Hid (OwnT CE okk wr wB.heap.size 27 o (once [] (L.take k))) ∧ Hid (∀ x, okk x → ((P x ∧ x < w.heap.size) ∨ w.heap.size + 1 + 1 ≤ x) ∧ x < wr.heap.size) ∧
        Hid (InRow CE (fun x => ((P x ∧ x < w.heap.size) ∨ w.heap.size + 1 + 1 ≤ x) ∧ x < wB.heap.size) wr L A5 0) ∧ Hid (wr.heap[w.heap.size]? = some (.cells #[.int .u8 (h.k.toNat : Int), .string (str h.b), .int .u64 (h.s.a.toNat : Int), .int .u64 (h.s.b.toNat : Int), .int .u64 (h.s.c.toNat : Int), .int .u64 (h.s.d.toNat : Int), .slice A ks.length c] 27 (0, 0))) ∧ Hid (wr.heap[w.heap.size + 1]? = some (.cells coZ 27 (0, 0))) ∧ Hid (wB.heap.size < wr.heap.size) ∧ Hid (Below w.heap.size w wr)) (fun _ _ i _ => L.length - (intOf i).toNat)
      case atStart => exact ⟨0, _, _, rfl, Nat.zero_le _, rfl, HO0, Lib.hid (fun x hx => hx.elim), HRL, E12, E22, Lib.hid (by omega), HB2⟩
      case round =>
        clear HO0 HRL E12 E22 HB2 HU2 hsU2
        obtain ⟨k, o, okk, rfl, hk, rfl, HOw, HK, HRL, E1, E2, HS0, HB⟩ := hrel
        obtain ⟨Al, cl, hvl, hcl, hrlw⟩ := HOw.out.row
        by_cases hlt : k < L.length
        · obtain ⟨t, ad, h1, ls, A1, c1, hA, hx, rfl, hc1, hr1, q0, q1, q2, q3, q4, q5, q6⟩ := co_at HRL.out hlt
          subst hA
          have hot := once_take hx
          have hone := once_len L k
          have hs1 := HSI.out _ (List.mem_of_getElem? hx)
          have HIN : Hid (∀ X, Below wr.heap.size wr X → Calls Tryd.prog 50 #[.slice Al (once [] (L.take k)).length cl, coV h1 A1 ls.length c1] X fun e w' => e = .returned (.bool ((once [] (L.take k)).any fun m => sameT (bareT m) (bareT (.mk h1 ls)))) ∧ Below X.heap.size X w') := fun X hX =>
            refIn_any (P := fun _ => True) (once [] (L.take k)) Al cl h1 ls A1 c1 X ((hrlw.below hX).weak fun _ _ => trivial) hc1 ((hr1.below hX).weak fun _ _ => trivial) (fun y hy => HSI.out y (List.mem_of_mem_take (once_sub _ _ _ hy))) hs1 (by omega)
          have HOT := Lib.hid hot
          have HR1 := Lib.hid hr1
          have hneo : Hid (∀ x, x < wB.heap.size → some x ≠ o.ownBlock) := fun x hx e => by have := own_inE HOw.out e.symm; omega
          have hs0 := HS0.out
          clear hot hx hr1 hrlw hs1
          generalize ((once [] (L.take k)).any fun m => sameT (bareT m) (bareT (T.mk h1 ls))) = b at *
          subst hvl
          go_upto_region 28 with fail
          cases b with
          | true =>
            have HT1 : Hid (once [] (L.take (k + 1)) = once [] (L.take k)) := by unfold Hid; rw [HOT.out]; simp
            clear HOT
            go_wp2_with fail
            refine (HIN.out _ (Below.refl _ _)).mono ?_
            rintro e w2 ⟨rfl, hb2⟩
            have HO2 := Lib.hid (HOw.out.keep hb2)
            have E12 := Lib.hid ((hb2.block _ (lt_of_block E1.out)).trans E1.out)
            have E22 := Lib.hid ((hb2.block _ (lt_of_block E2.out)).trans E2.out)
            have HRL2 := Lib.hid (HRL.out.below hb2)
            have HB2 := Lib.hid (below_from HB.out hb2)
            have hsb := hb2.size
            have HK2 : Hid (∀ x, okk x → ((P x ∧ x < w.heap.size) ∨ w.heap.size + 1 + 1 ≤ x) ∧ x < w2.heap.size) := fun x hx => by have := HK.out x hx; exact ⟨this.1, by omega⟩
            have HS2 : Hid (wB.heap.size < w2.heap.size) := by unfold Hid; omega
            clear hb2 HOw E1 E2 HRL HB HK HIN q0 q1 q2 q3 q4 q5 q6
            go_wp2_with fail
            go_roundw
            case rel => exact ⟨k + 1, _, okk, rfl, by omega, by go_num, by rw [HT1.out]; exact HO2, HK2, HRL2, E12, E22, HS2, HB2⟩
            case measure => simp [intOf]; omega
          | false =>
            have HT1 : Hid (once [] (L.take (k + 1)) = once [] (L.take k) ++ [.mk h1 ls]) := by unfold Hid; rw [HOT.out]; simp
            clear HOT
            go_wp2_with fail
            refine (HIN.out _ (Below.refl _ _)).mono ?_
            rintro e w2 ⟨rfl, hb2⟩
            obtain ⟨cs0, hown0, hsrc, happ⟩ := co_app (P := fun x => ((P x ∧ x < w.heap.size) ∨ w.heap.size + 1 + 1 ≤ x) ∧ x < wB.heap.size) HOw.out (fun x hx => (HK.out x hx).2) (fun x hx => ⟨by have := hx.2; omega, hneo.out x hx.2⟩) hb2 (show T.mk h1 ls = .mk h1 ls from rfl) hc1 ((HR1.out.below hb2).weak fun x hx => .inl hx)
            have HAPP := Lib.hid happ
            have hXb : Below w2.heap.size w2 (w2.alloc (.cells (coA h1 A1 ls.length c1) 27)) := below_new (Below.refl _ _) _
            have hb3 := below_from hb2 hXb
            have E12 := Lib.hid ((hb3.block _ (lt_of_block E1.out)).trans E1.out)
            have E22 := Lib.hid ((hb3.block _ (lt_of_block E2.out)).trans E2.out)
            have HRL2 := Lib.hid (HRL.out.below hb3)
            have HB2 := Lib.hid (below_from HB.out hb3)
            have hsb := hb2.size
            have p0 := keep_cell hb2 q0
            have p1 := keep_cell hb2 q1
            have p2 := keep_cell hb2 q2
            have p3 := keep_cell hb2 q3
            have p4 := keep_cell hb2 q4
            have p5 := keep_cell hb2 q5
            have p6 := keep_cell hb2 q6
            clear hb2 hb3 hXb happ q0 q1 q2 q3 q4 q5 q6 HIN E1 E2 HRL HB
            go_wp2_with (at_builtin; refine wpList_app _ rfl (.tmp 108) (.tmp 113) 25 rfl (wB.heap.size) 27 _ 7 80 Tryd.underlying25 Tryd.info_co rfl (by decide) _ _ _ rfl hown0 (some ⟨w2.heap.size, 0, none⟩) 1 1 _ rfl hsrc ?h1 ?h2 ?h3 ?h4 ?_)
            case h1 => first | exact coA_one h1 A1 ls.length c1 | exact ⟨rfl, rfl, rfl, rfl, rfl, rfl, rfl⟩ | trivial
            case h2 => unfold maxLen; omega
            case h3 => omega
            case h4 => (try rw [World.size_alloc]); omega
            intro v5 w6 ho5 hg5 hat5
            have hs6 := hg5.size
            rw [World.size_alloc] at hs6
            have HO6 := Lib.hid (HAPP.out v5 w6 ho5 hg5 (by rw [World.size_alloc]; exact hat5))
            have HB7 := Lib.hid (HB2.out.grown hg5 HB2.out.size (fun j hj => by have := own_base hown0 j hj; omega))
            have E17 := Lib.hid ((hg5.block _ (lt_of_block E12.out) (hneo.out _ (by omega))).trans E12.out)
            have E27 := Lib.hid ((hg5.block _ (lt_of_block E22.out) (hneo.out _ (by omega))).trans E22.out)
            have HRL7 := Lib.hid (HRL2.out.grown hg5 fun x hx => hneo.out x hx.2)
            have HK6 : Hid (∀ x, (okk x ∨ (((P x ∧ x < w.heap.size) ∨ w.heap.size + 1 + 1 ≤ x) ∧ x < wB.heap.size) ∨ (wr.heap.size ≤ x ∧ x < w2.heap.size)) → ((P x ∧ x < w.heap.size) ∨ w.heap.size + 1 + 1 ≤ x) ∧ x < w6.heap.size) := fun x hx => by
              rcases hx with hx | hx | hx
              · have := HK.out x hx; exact ⟨this.1, by omega⟩
              · exact ⟨hx.1, by omega⟩
              · exact ⟨.inr (by omega), by omega⟩
            have HS6 : Hid (wB.heap.size < w6.heap.size) := by unfold Hid; omega
            clear ho5 hg5 hat5 hown0 hsrc HAPP HB2 hs6 HOw HK p0 p1 p2 p3 p4 p5 p6 E12 E22 HRL2 HR1
            go_wp2_with fail
            go_roundw
            case rel => exact ⟨k + 1, _, _, rfl, by omega, by go_num, by rw [HT1.out]; exact HO6, HK6, HRL7, E17, E27, HS6, HB7⟩
            case measure => simp [intOf]; omega
        · have hkk : k = L.length := by omega
          subst hkk
          have hone := once_len L L.length
          have HO8 : Hid (OwnT CE okk wr wB.heap.size 27 o (once [] L)) := by have := HOw.out; rw [List.take_length] at this; exact this
          have HONCE : Hid ((once [] L).length ≤ 1000000 ∧ ∀ t ∈ once [] L, h.b.length + t.head.b.length ≤ 9223372036854775807) := ⟨by rw [List.take_length] at hone; omega, fun t ht => HFC.out t (once_sub _ _ _ ht)⟩
          obtain ⟨cs8, hown8⟩ := HO8.out.own
          have hcase := own_cases hown8
          have hl6 := HONCE.out.1
          clear hvl hrlw hcl hown8 cs8 HOw hone hlt hk HRL
          generalize once [] L = l at *
          rcases l with _ | ⟨x, _ | ⟨y, r⟩⟩
          · have HSE : Hid (simpC (.mk h ks) = cEmp) := HSQ.out
            obtain ⟨⟨y0, y1, y2, y3, y4, y5, y6⟩, f0, f1, f2, f3, f4, f5, f6⟩ := co_cells E2.out
            have hv : ∃ Al cl, o = .slice Al 0 cl := by rcases hcase with ⟨rfl, _⟩ | ⟨rb, cap, rfl, _⟩; exact ⟨_, _, rfl⟩; exact ⟨_, _, rfl⟩
            obtain ⟨Al, cl, rfl⟩ := hv
            clear HSQ HONCE hcase HO8
            go_wp2_with fail
            refine bodyPost_ret (v := coV ⟨1, [], S4.zero⟩ none 0 0) (by simp [results, Tryd.results21, go_sem, y0, y1, y2, y3, y4, y5, y6]; exact ⟨rfl, rfl, rfl, rfl⟩) rfl ⟨⟨1, [], S4.zero⟩, [], none, 0, rfl, HSE.out, Nat.le_refl _, by simp [InRow], seven_below HB.out (by omega)⟩
          · rcases hcase with ⟨_, hn0⟩ | ⟨rb, cap, rfl, hcap⟩
            · simp at hn0
            have hat := front_at HO8.out
            have hrbb : wB.heap.size ≤ rb := (own_inE HO8.out (g := rb) rfl).1
            obtain ⟨hx, kx, Ax, cx, rfl, hcx, hrx, q0, q1, q2, q3, q4, q5, q6⟩ := hat
            rw [Nat.zero_mul] at q0 q1 q2 q3 q4 q5 q6
            have HSE : Hid (simpC (.mk h ks) = .mk (fuseH h.b hx) kx) := by unfold Hid; rw [HSQ.out, ← fuse_head]; rfl
            have hfl : h.b.length + hx.b.length ≤ 9223372036854775807 := HONCE.out.2 _ List.mem_cons_self
            have HRX := Lib.hid (hrx.there.weak (ok' := fun x => ((P x ∧ x < w.heap.size) ∨ w.heap.size + 1 + 1 ≤ x) ∧ x < wr.heap.size) fun x hx => ⟨(HK.out x hx.1).1, hx.2⟩)
            have Q : Hid (∀ X, Below wr.heap.size wr X → X.cell? ⟨w.heap.size, 1, none⟩ = some (.string (str h.b)) ∧ X.cell? ⟨rb, 0, none⟩ = some (.int .u8 (hx.k.toNat : Int)) ∧ X.cell? ⟨rb, 1, none⟩ = some (.string (str hx.b)) ∧ X.cell? ⟨rb, 2, none⟩ = some (.int .u64 (hx.s.a.toNat : Int)) ∧ X.cell? ⟨rb, 3, none⟩ = some (.int .u64 (hx.s.b.toNat : Int)) ∧ X.cell? ⟨rb, 4, none⟩ = some (.int .u64 (hx.s.c.toNat : Int)) ∧ X.cell? ⟨rb, 5, none⟩ = some (.int .u64 (hx.s.d.toNat : Int)) ∧ X.cell? ⟨rb, 6, none⟩ = some (.slice Ax kx.length cx)) := fun X hX => by
              obtain ⟨a0, a1, a2, a3, a4, a5, a6⟩ := co_at_box ((hX.block _ (lt_of_block E1.out)).trans E1.out)
              have p0 := keep_cell hX q0
              have p1 := keep_cell hX q1
              have p2 := keep_cell hX q2
              have p3 := keep_cell hX q3
              have p4 := keep_cell hX q4
              have p5 := keep_cell hX q5
              have p6 := keep_cell hX q6
              simp only [Nat.zero_add] at p1 p2 p3 p4 p5 p6
              exact ⟨a1, p0, p1, p2, p3, p4, p5, p6⟩
            have hn1 : w.heap.size ≠ w.heap.size + 1 := by omega
            have hn2 : rb ≠ w.heap.size + 1 := by omega
            have Qs : Hid (∀ X, Below wr.heap.size wr X → ∀ u0 u1 u2 u3 u4 u5 u6, (((((((X.setCell ⟨w.heap.size + 1, 0, none⟩ u0).setCell ⟨w.heap.size + 1, 1, none⟩ u1).setCell ⟨w.heap.size + 1, 2, none⟩ u2).setCell ⟨w.heap.size + 1, 3, none⟩ u3).setCell ⟨w.heap.size + 1, 4, none⟩ u4).setCell ⟨w.heap.size + 1, 5, none⟩ u5).setCell ⟨w.heap.size + 1, 6, none⟩ u6).cell? ⟨w.heap.size, 1, none⟩ = some (.string (str h.b)) ∧ (((((((X.setCell ⟨w.heap.size + 1, 0, none⟩ u0).setCell ⟨w.heap.size + 1, 1, none⟩ u1).setCell ⟨w.heap.size + 1, 2, none⟩ u2).setCell ⟨w.heap.size + 1, 3, none⟩ u3).setCell ⟨w.heap.size + 1, 4, none⟩ u4).setCell ⟨w.heap.size + 1, 5, none⟩ u5).setCell ⟨w.heap.size + 1, 6, none⟩ u6).cell? ⟨rb, 0, none⟩ = some (.int .u8 (hx.k.toNat : Int)) ∧ (((((((X.setCell ⟨w.heap.size + 1, 0, none⟩ u0).setCell ⟨w.heap.size + 1, 1, none⟩ u1).setCell ⟨w.heap.size + 1, 2, none⟩ u2).setCell ⟨w.heap.size + 1, 3, none⟩ u3).setCell ⟨w.heap.size + 1, 4, none⟩ u4).setCell ⟨w.heap.size + 1, 5, none⟩ u5).setCell ⟨w.heap.size + 1, 6, none⟩ u6).cell? ⟨rb, 1, none⟩ = some (.string (str hx.b)) ∧ (((((((X.setCell ⟨w.heap.size + 1, 0, none⟩ u0).setCell ⟨w.heap.size + 1, 1, none⟩ u1).setCell ⟨w.heap.size + 1, 2, none⟩ u2).setCell ⟨w.heap.size + 1, 3, none⟩ u3).setCell ⟨w.heap.size + 1, 4, none⟩ u4).setCell ⟨w.heap.size + 1, 5, none⟩ u5).setCell ⟨w.heap.size + 1, 6, none⟩ u6).cell? ⟨rb, 2, none⟩ = some (.int .u64 (hx.s.a.toNat : Int)) ∧ (((((((X.setCell ⟨w.heap.size + 1, 0, none⟩ u0).setCell ⟨w.heap.size + 1, 1, none⟩ u1).setCell ⟨w.heap.size + 1, 2, none⟩ u2).setCell ⟨w.heap.size + 1, 3, none⟩ u3).setCell ⟨w.heap.size + 1, 4, none⟩ u4).setCell ⟨w.heap.size + 1, 5, none⟩ u5).setCell ⟨w.heap.size + 1, 6, none⟩ u6).cell? ⟨rb, 3, none⟩ = some (.int .u64 (hx.s.b.toNat : Int)) ∧ (((((((X.setCell ⟨w.heap.size + 1, 0, none⟩ u0).setCell ⟨w.heap.size + 1, 1, none⟩ u1).setCell ⟨w.heap.size + 1, 2, none⟩ u2).setCell ⟨w.heap.size + 1, 3, none⟩ u3).setCell ⟨w.heap.size + 1, 4, none⟩ u4).setCell ⟨w.heap.size + 1, 5, none⟩ u5).setCell ⟨w.heap.size + 1, 6, none⟩ u6).cell? ⟨rb, 4, none⟩ = some (.int .u64 (hx.s.c.toNat : Int)) ∧ (((((((X.setCell ⟨w.heap.size + 1, 0, none⟩ u0).setCell ⟨w.heap.size + 1, 1, none⟩ u1).setCell ⟨w.heap.size + 1, 2, none⟩ u2).setCell ⟨w.heap.size + 1, 3, none⟩ u3).setCell ⟨w.heap.size + 1, 4, none⟩ u4).setCell ⟨w.heap.size + 1, 5, none⟩ u5).setCell ⟨w.heap.size + 1, 6, none⟩ u6).cell? ⟨rb, 5, none⟩ = some (.int .u64 (hx.s.d.toNat : Int)) ∧ (((((((X.setCell ⟨w.heap.size + 1, 0, none⟩ u0).setCell ⟨w.heap.size + 1, 1, none⟩ u1).setCell ⟨w.heap.size + 1, 2, none⟩ u2).setCell ⟨w.heap.size + 1, 3, none⟩ u3).setCell ⟨w.heap.size + 1, 4, none⟩ u4).setCell ⟨w.heap.size + 1, 5, none⟩ u5).setCell ⟨w.heap.size + 1, 6, none⟩ u6).cell? ⟨rb, 6, none⟩ = some (.slice Ax kx.length cx)) := fun X hX u0 u1 u2 u3 u4 u5 u6 => by
              obtain ⟨a1, p0, p1, p2, p3, p4, p5, p6⟩ := Q.out X hX
              exact ⟨(World.cell?_of_block (seven_other hn1)).trans a1, (World.cell?_of_block (seven_other hn2)).trans p0, (World.cell?_of_block (seven_other hn2)).trans p1, (World.cell?_of_block (seven_other hn2)).trans p2, (World.cell?_of_block (seven_other hn2)).trans p3, (World.cell?_of_block (seven_other hn2)).trans p4, (World.cell?_of_block (seven_other hn2)).trans p5, (World.cell?_of_block (seven_other hn2)).trans p6⟩
            have hsz2 := lt_of_block E2.out
            clear hrx q0 q1 q2 q3 q4 q5 q6 HONCE HSQ HO8
            go_upto_region 34 with fail
            have hz := Below.refl wr.heap.size wr
            obtain ⟨a1, p0, p1, p2, p3, p4, p5, p6⟩ := Q.out _ hz
            go_region_held3 (fun X => X.cell? ⟨w.heap.size, 1, none⟩ = some (.string (str h.b)) ∧ X.cell? ⟨rb, 0, none⟩ = some (.int .u8 (hx.k.toNat : Int)) ∧ X.cell? ⟨rb, 1, none⟩ = some (.string (str hx.b)) ∧ X.cell? ⟨rb, 2, none⟩ = some (.int .u64 (hx.s.a.toNat : Int)) ∧ X.cell? ⟨rb, 3, none⟩ = some (.int .u64 (hx.s.b.toNat : Int)) ∧ X.cell? ⟨rb, 4, none⟩ = some (.int .u64 (hx.s.c.toNat : Int)) ∧ X.cell? ⟨rb, 5, none⟩ = some (.int .u64 (hx.s.d.toNat : Int)) ∧ X.cell? ⟨rb, 6, none⟩ = some (.slice Ax kx.length cx))
              (first | (with_reducible refine Qs.out _ ?_ _ _ _ _ _ _ _; (repeat (first | with_reducible exact hz | with_reducible refine Below.drew ?_ | with_reducible refine below_new ?_ _ | (with_reducible refine Below.setCell ?_ (by first | exact Nat.le_refl _ | (simp; done) | (simp; omega)) _))); done) | (refine Q.out _ ?_; (repeat (first | with_reducible exact hz | with_reducible refine Below.drew ?_ | with_reducible refine below_new ?_ _ | (with_reducible refine Below.setCell ?_ (by first | exact Nat.le_refl _ | (simp; done) | (simp; omega)) _)))))
              (first
                | (go_at_call 49; (with_reducible refine (refFuse_any h.b hx Ax kx.length cx _ hfl).mono ?_); rintro e wj ⟨rfl, hbj⟩; have hz : Below wr.heap.size wr wj := (by refine below_from ?_ hbj; (repeat (first | with_reducible exact hz | with_reducible refine Below.drew ?_ | with_reducible refine below_new ?_ _ | (with_reducible refine Below.setCell ?_ (by first | exact Nat.le_refl _ | (simp; done) | (simp; omega)) _)))); obtain ⟨a1, p0, p1, p2, p3, p4, p5, p6⟩ := Q.out _ hz; obtain ⟨⟨y0, y1, y2, y3, y4, y5, y6⟩, f0, f1, f2, f3, f4, f5, f6⟩ := co_cells ((hz.block _ (lt_of_block E2.out)).trans E2.out))
                | fail)
            all_goals
              have hrj := HRX.out.below hz
              have HRJ := Lib.hid hrj
              have HBF := Lib.hid (HB.out.trans (hz.mono HB.out.size))
              clear hrj hbj a1 p0 p1 p2 p3 p4 p5 p6 Q Qs
              go_wp2_with fail
              refine bodyPost_ret (v := coV (fuseH h.b hx) Ax kx.length cx) (by simp [results, Tryd.results21, go_sem, y0, y1, y2, y3, y4, y5, y6]; try exact ⟨rfl, rfl, rfl, rfl⟩) rfl ⟨fuseH h.b hx, kx, Ax, cx, rfl, HSE.out, hcx, (row_seven HRJ.out fun x hx => by rcases hx.1 with h | h; omega; omega).weak fun x hx => by rcases hx.1 with h | h; exact .inl h.1; exact .inr (by omega), seven_below HBF.out (by omega)⟩
          · rcases hcase with ⟨_, hn0⟩ | ⟨rb, cap, rfl, hcap⟩
            · simp at hn0
            have HSE : Hid (simpC (.mk h ks) = cAlt h.b (x :: y :: r)) := HSQ.out
            obtain ⟨A3, c3, hv3, hc3, hr3⟩ := HO8.out.row
            have hv3' : A3 = some ⟨rb, 0, none⟩ ∧ c3 = cap := by injection hv3 with a b c; exact ⟨a.symm, c.symm⟩
            obtain ⟨rfl, rfl⟩ := hv3'
            have HRX := Lib.hid (hr3.weak (ok' := fun x => ((P x ∧ x < w.heap.size) ∨ w.heap.size + 1 + 1 ≤ x)) fun x hx => by
              rcases hx with hx | hx
              · exact (HK.out x hx).1
              · have := (own_inE HO8.out hx).1; exact .inr (by omega))
            have HC3 := Lib.hid hc3
            obtain ⟨a0, a1, a2, a3, a4, a5, a6⟩ := co_at_box E1.out
            obtain ⟨⟨y0, y1, y2, y3, y4, y5, y6⟩, f0, f1, f2, f3, f4, f5, f6⟩ := co_cells E2.out
            obtain ⟨n, hn⟩ : ∃ n, (x :: y :: r).length = n + 2 := ⟨_, rfl⟩
            have HN := Lib.hid hn
            have hn6 : n + 2 ≤ 1000000 := by omega
            have gn0 : (((n : Int) + 2 : Int) == 0) = false := beq_eq_false_iff_ne.2 (by omega)
            have gn1 : (((n : Int) + 2 : Int) == 1) = false := beq_eq_false_iff_ne.2 (by omega)
            rw [hn] at HC3 ⊢
            clear hr3 hc3 hv3 HSQ HONCE hl6 hn HO8 hcap
            generalize x :: y :: r = l at *
            go_wp2_with fail
            refine bodyPost_ret (v := coV ⟨5, h.b, S4.zero⟩ (some ⟨rb, 0, none⟩) (n + 2) c3) (by simp [results, Tryd.results21, go_sem, y0, y1, y2, y3, y4, y5, y6]; try exact ⟨rfl, rfl, rfl, rfl⟩) rfl ⟨⟨5, h.b, S4.zero⟩, l, some ⟨rb, 0, none⟩, c3, by rw [HN.out], HSE.out, by rw [HN.out]; exact HC3.out, (row_seven HRX.out fun x hx => by rcases hx with h | h; omega; omega).weak fun x hx => by rcases hx with h | h; exact .inl h.1; exact .inr (by omega), seven_below HB.out (by omega)⟩
end Go.Proofs.YtkhgbeflhjjkdaaDoor
namespace Go.Proofs.YtkhgbeflhjjkdaaDoor
open Go.RowKit
set_option linter.unusedVariables false
set_option linter.unusedSimpArgs false

theorem flatL_sizes : ∀ {ks : List Co}, (∀ t ∈ ks, okC t = true) → T.sizes (flatL ks) ≤ T.sizes ks
  | [], _ => Nat.le_refl _
  | t :: ts, h => by
    have ih := flatL_sizes fun x hx => h x (List.mem_cons_of_mem _ hx)
    have h1 := flat1_size (simp_ok t (h t List.mem_cons_self))
    have h2 := simp_size t (h t List.mem_cons_self)
    unfold flatL at ih ⊢
    rw [List.flatMap_cons, T.sizes_append]
    simp only [T.sizes]
    omega
theorem flatL_mem {ks : List Co} {x : Co} (h : x ∈ flatL ks) : ∃ t ∈ ks, x ∈ flat1 (simpC t) := by
  unfold flatL at h
  exact List.mem_flatMap.1 h
theorem kid_all {t y : Co} (h : y ∈ t.kids) : y ∈ t.all := by
  obtain ⟨h1, ks⟩ := t
  obtain ⟨h2, k2⟩ := y
  simp only [T.kids] at h
  simp only [T.all, List.mem_cons]
  exact .inr (alls_mem h (by simp [T.all]))
theorem self_all (t : Co) : t ∈ t.all := by
  obtain ⟨h1, ks⟩ := t
  simp [T.all]
/-- what an Alt's row of those made simpler is like -/
theorem flat_facts {b : List UInt8} {ks : List Co} (hk : okCL ks = true) (hz : (cAlt b ks).size ≤ 20000) (hp : potV (cAlt b ks) + potS (cAlt b ks) ≤ 1000000000) :
    ks.length ≤ 1000000 ∧ (flatL ks).length ≤ 1000000 ∧ (∀ t ∈ ks, ∀ y ∈ (simpC t).kids, (simpC t).head.b.length + y.head.b.length ≤ 9223372036854775807) ∧ SieveOk (flatL ks) ∧ ∀ t ∈ flatL ks, b.length + t.head.b.length ≤ 9223372036854775807 := by
  have ho : ∀ t ∈ ks, okC t = true := fun t ht => okCL_mem hk ht
  rw [potV_alt, potS_alt] at hp
  simp only [T.size] at hz
  have hs := flatL_sizes ho
  have hl := T.length_le_sizes ks
  have hl2 := T.length_le_sizes (flatL ks)
  have hpt : ∀ t ∈ ks, potV (simpC t) + potS (simpC t) ≤ 1000000000 := fun t ht => by
    have h1 := simp_pot t (ho t ht)
    have h2 := le_potMax ht
    have h3 := le_potSs ht
    omega
  have hpf : ∀ t ∈ flatL ks, okC t = true ∧ potV t + potS t ≤ 1000000000 := fun t ht => by
    obtain ⟨x, hx, hf⟩ := flatL_mem ht
    have h1 := flat1_pot (simp_ok x (ho x hx)) t hf
    have h2 := hpt x hx
    exact ⟨flat1_ok (simp_ok x (ho x hx)) t hf, by omega⟩
  refine ⟨by omega, by omega, fun t ht y hy => ?_, fun t ht => ?_, fun t ht => ?_⟩
  · have h1 := node_pot _ (simp_ok t (ho t ht)) _ (self_all _)
    have h2 := node_pot _ (simp_ok t (ho t ht)) _ (kid_all hy)
    have := hpt t ht
    omega
  · have h1 := hpf t ht
    have h2 := T.sizes_mem ht
    refine ⟨?_, by omega, pot_short h1.1 (by omega)⟩
    unfold mayC
    rw [h1.1]
    simp only [Bool.true_and, decide_eq_true_eq]
    omega
  · have h1 := head_pot t
    have h2 := (hpf t ht).2
    omega
theorem simp_all_ : ∀ t : Co, okC t = true → t.size ≤ 20000 → potV t + potS t ≤ 1000000000 → SimpOkT 44 t := by
  refine okC_ind ?_ ?_ ?_ ?_ ?_ ?_
  · intro hz hp h ks e; cases e; exact simp_leaf (by decide) (by decide)
  · intro b hb hz hp h ks e; cases e; exact simp_leaf (by show (2 : UInt8) ≠ 4; decide) (by show (2 : UInt8) ≠ 5; decide)
  · intro b s hb hs hz hp h ks e; cases e; exact simp_leaf (by show (3 : UInt8) ≠ 4; decide) (by show (3 : UInt8) ≠ 5; decide)
  · intro b x y hb hx hy ihx ihy hz hp h ks e
    cases e
    have p1 := simp_pot x hx
    have p2 := simp_pot y hy
    have p3 := head_pot (simpC x)
    have p4 := head_pot (simpC y)
    rw [potV_seq, potS_seq] at hp
    simp only [T.size, T.sizes] at hz
    obtain ⟨h1, k1⟩ := x
    obtain ⟨h2, k2⟩ := y
    exact simp_4 rfl rfl (ihx (by omega) (by omega) _ _ rfl) (ihy (by omega) (by omega) _ _ rfl) (by show b.length + _ + _ ≤ _; omega)
  · intro b ks hb hk ih hz hp h ks' e
    cases e
    obtain ⟨f1, f2, f3, f4, f5⟩ := flat_facts hk hz hp
    rw [potV_alt, potS_alt] at hp
    simp only [T.size] at hz
    exact simp_5 rfl (fun t ht => ih t ht (by have := T.sizes_mem ht; omega) (by have := le_potMax ht; have := le_potSs ht; omega)) f1 f2 f3 f4 f5
  · intro b x hb hx ih hz hp h ks e
    cases e
    exact simp_leaf (by show (6 : UInt8) ≠ 4; decide) (by show (6 : UInt8) ≠ 5; decide)
theorem dsimp_all_ : ∀ t : Co, okC t = true → t.size ≤ 20000 → potV t + potS t ≤ 1000000000 → SimpOkT 21 t := by
  refine okC_ind ?_ ?_ ?_ ?_ ?_ ?_
  · intro hz hp h ks e; cases e; exact refSimp_leaf (by decide) (by decide)
  · intro b hb hz hp h ks e; cases e; exact refSimp_leaf (by show (2 : UInt8) ≠ 4; decide) (by show (2 : UInt8) ≠ 5; decide)
  · intro b s hb hs hz hp h ks e; cases e; exact refSimp_leaf (by show (3 : UInt8) ≠ 4; decide) (by show (3 : UInt8) ≠ 5; decide)
  · intro b x y hb hx hy ihx ihy hz hp h ks e
    cases e
    have p1 := simp_pot x hx
    have p2 := simp_pot y hy
    have p3 := head_pot (simpC x)
    have p4 := head_pot (simpC y)
    rw [potV_seq, potS_seq] at hp
    simp only [T.size, T.sizes] at hz
    obtain ⟨h1, k1⟩ := x
    obtain ⟨h2, k2⟩ := y
    exact dsimp_4 rfl rfl (ihx (by omega) (by omega) _ _ rfl) (ihy (by omega) (by omega) _ _ rfl) (by show b.length + _ + _ ≤ _; omega)
  · intro b ks hb hk ih hz hp h ks' e
    cases e
    obtain ⟨f1, f2, f3, f4, f5⟩ := flat_facts hk hz hp
    rw [potV_alt, potS_alt] at hp
    simp only [T.size] at hz
    exact dsimp_5 rfl (fun t ht => ih t ht (by have := T.sizes_mem ht; omega) (by have := le_potMax ht; have := le_potSs ht; omega)) f1 f2 f3 (fun t ht => (f4 t ht).2.1) f5
  · intro b x hb hx ih hz hp h ks e
    cases e
    exact refSimp_leaf (by show (6 : UInt8) ≠ 4; decide) (by show (6 : UInt8) ≠ 5; decide)
/-- a row's post, in a box of the result's -/
theorem coPost_mono {P P' : Nat → Prop} {t : Co} {w0 w : World} {e : Ending} {w' : World} (h : CoPostX P' t w e w') (hP : ∀ x, P' x → P x ∨ w0.heap.size ≤ x) (hb : Below w0.heap.size w0 w) : CoPostX P t w0 e w' := by
  obtain ⟨h1, k, A, c, e1, e2, hc, hr, hb1⟩ := h
  exact ⟨h1, k, A, c, e1, e2, hc, hr.weak fun x hx => by rcases hx with h | h; exact hP x h; exact .inr (Nat.le_trans hb.size h), below_from hb hb1⟩
def simpMT (t : Co) : Co := if mayC t = true then simpC t else zeroC
def SimpPost (P : Nat → Prop) (t : Co) (m : Bool) (w : World) (e : Ending) (w' : World) : Prop := ∃ h ks A c, e = .returned (.tuple #[coV h A ks.length c, .bool m]) ∧ simpMT t = .mk h ks ∧ ks.length ≤ c ∧ InRow CE (fun x => P x ∨ w.heap.size ≤ x) w' ks A 0 ∧ Below w.heap.size w w'
set_option maxRecDepth 100000 in
set_option maxHeartbeats 8000000 in
theorem simpS_any {P : Nat → Prop} (h : CH) (ks : List Co) (A : Option Addr) (c : Nat) (w : World) (hm : T.sizes ks ≤ 800000000) (hc : ks.length ≤ c) (hr : InRow CE P w ks A 0) (hsh : shortC (.mk h ks)) (hp : okC (.mk h ks) = true → potV (.mk h ks) + potS (.mk h ks) ≤ 1000000000) :
    Calls Tryd.prog 13 #[coV h A ks.length c] w (SimpPost P (.mk h ks) (mayC (.mk h ks)) w) := by
  obtain ⟨W, hW⟩ : ∃ W, ((w.alloc (.cells (coA h A ks.length c) 27)).alloc (.cells coZ 27)) = W := ⟨_, rfl⟩
  have hbW : Below w.heap.size w W := by rw [← hW]; exact below_new (below_new (Below.refl _ _) _) _
  have e1 : W.heap[w.heap.size]? = some (.cells (coA h A ks.length c) 27 (0, 0)) := by
    rw [← hW]
    exact heap_keep1 (new_at1 (w := w) _) _
  have e2 : W.heap[w.heap.size + 1]? = some (.cells coZ 27 (0, 0)) := by
    rw [← hW]
    have := new_at1 (w := w.alloc (.cells (coA h A ks.length c) 27)) (.cells coZ 27)
    rw [World.size_alloc] at this
    exact this
  have hsW : W.heap.size = w.heap.size + 1 + 1 := by rw [← hW]; simp
  obtain ⟨X, hX⟩ : ∃ X, W.alloc (.cells (coA h A ks.length c) 27) = X := ⟨_, rfl⟩
  have hbX : Below W.heap.size W X := by rw [← hX]; exact below_new (Below.refl _ _) _
  have x1 : X.heap[w.heap.size + 1 + 1]? = some (.cells (coA h A ks.length c) 27 (0, 0)) := by rw [← hX, ← hsW]; exact new_at1 _
  have HM := Lib.hid (cMay_any [.mk h ks] (some ⟨w.heap.size + 1 + 1, 0, none⟩) 1 X (by simp only [T.sizes, T.size]; omega) (co_one (P := fun _ => True) x1 trivial hc (((hr.below hbW).below hbX).weak fun _ _ => trivial)) (fun t ht => by simp at ht; subst ht; exact hsh))
  rw [show [T.mk h ks].all mayC = mayC (.mk h ks) by simp] at HM
  have HXX : Hid ((((w.alloc (.cells (coA h A ks.length c) 27)).alloc (.cells coZ 27))).alloc (.cells (coA h A ks.length c) 27) = X) := by unfold Hid; rw [hW]; exact hX
  have HB := Lib.hid (below_from hbW hbX)
  have HE1 := Lib.hid ((hbX.block _ (lt_of_block e1)).trans e1)
  have HE2 := Lib.hid ((hbX.block _ (lt_of_block e2)).trans e2)
  have HS0 : Hid (mayC (.mk h ks) = true → ∀ Y, Below w.heap.size w Y → Calls Tryd.prog 44 #[coV h A ks.length c] Y (CoPostX (fun b => P b ∧ b < w.heap.size) (simpC (.mk h ks)) Y)) := fun hmay Y hY =>
    simp_all_ _ (may_okC hmay).1 (may_okC hmay).2 (hp (may_okC hmay).1) h ks rfl _ A c Y hc (hr.there.below hY)
  have HTT : Hid (simpMT (.mk h ks) = if mayC (.mk h ks) = true then simpC (.mk h ks) else zeroC) := rfl
  have hszw := hbX.size
  clear hW hbW e1 e2 hX hbX hr hsh hp x1
  generalize mayC (.mk h ks) = m at *
  generalize simpC (.mk h ks) = st at *
  go_enter Tryd.func13, Tryd.ntmps13
  obtain ⟨x0, x1, x2, x3, x4, x5, x6⟩ := co_at_box HE1.out
  rw [← HXX.out] at x0 x1 x2 x3 x4 x5 x6
  go_wp2_with fail
  clear x0 x1 x2 x3 x4 x5 x6
  have hcall := HM.out
  rw [← HXX.out] at hcall
  refine hcall.mono ?_
  rw [HXX.out]
  rintro e w1 ⟨rfl, hb1⟩
  have HB1 := Lib.hid (below_from HB.out hb1)
  have E1 := Lib.hid ((hb1.block _ (lt_of_block HE1.out)).trans HE1.out)
  have E2 := Lib.hid ((hb1.block _ (lt_of_block HE2.out)).trans HE2.out)
  obtain ⟨x0, x1, x2, x3, x4, x5, x6⟩ := co_at_box E1.out
  obtain ⟨⟨y0, y1, y2, y3, y4, y5, y6⟩, f0, f1, f2, f3, f4, f5, f6⟩ := co_cells E2.out
  have hszw := lt_of_block E2.out
  clear hb1 HM hcall HE1 HE2
  cases m with
  | false =>
    go_wp2_with fail
    refine bodyPost_ret (v := .tuple #[coV ⟨0, [], S4.zero⟩ none 0 0, .bool false]) (by simp [results, Tryd.results13, go_sem, y0, y1, y2, y3, y4, y5, y6]; exact ⟨rfl, rfl, rfl, rfl⟩) rfl ⟨⟨0, [], S4.zero⟩, [], none, 0, rfl, by rw [HTT.out]; rfl, Nat.le_refl _, by simp [InRow], seven_below HB1.out (by omega)⟩
  | true =>
    have HC := Lib.hid (HS0.out (by trivial) w1 HB1.out)
    clear HS0
    go_wp2_with fail
    refine HC.out.mono ?_
    rintro e w2 ⟨h2, k2, A2, c2, rfl, e2, hc2, hr2, hb2⟩
    have HB2 := Lib.hid (below_from HB1.out hb2)
    have E22 := (hb2.block _ (lt_of_block E2.out)).trans E2.out
    have HR4 := Lib.hid hr2
    have HT := Lib.hid e2
    have hlt2 := HB1.out.size
    clear x0 x1 x2 x3 x4 x5 x6 y0 y1 y2 y3 y4 y5 y6 f0 f1 f2 f3 f4 f5 f6 e2 hr2 hb2 HC
    obtain ⟨⟨y0, y1, y2, y3, y4, y5, y6⟩, f0, f1, f2, f3, f4, f5, f6⟩ := co_cells E22
    clear E22
    go_wp2_with fail
    refine bodyPost_ret (v := .tuple #[coV h2 A2 k2.length c2, .bool true]) (by simp [results, Tryd.results13, go_sem, y0, y1, y2, y3, y4, y5, y6]) rfl ⟨h2, k2, A2, c2, rfl, by rw [HTT.out]; exact HT.out, hc2, (row_seven HR4.out fun x hx => by rcases hx with h | h; omega; omega).weak fun x hx => by rcases hx with h | h; exact .inl h.1; exact .inr (by omega), seven_below HB2.out (by omega)⟩
def sstepT (d : UInt8) (t : Co) : Co := if stepE d t = 0 then simpC (stepT d t) else zeroC
def SStepPostE (P : Nat → Prop) (d : UInt8) (t : Co) (se : Int) (w : World) (e : Ending) (w' : World) : Prop := ∃ h ks A c, e = .returned (.tuple #[coV h A ks.length c, .int .i64 se]) ∧ sstepT d t = .mk h ks ∧ ks.length ≤ c ∧ InRow CE (fun x => P x ∨ w.heap.size ≤ x) w' ks A 0 ∧ Below w.heap.size w w'
abbrev SStepPost (P : Nat → Prop) (d : UInt8) (t : Co) (w : World) (e : Ending) (w' : World) : Prop := SStepPostE P d t (stepE d t) w e w'
theorem step_good {d : UInt8} {t : Co} (he : stepE d t = 0) (hp : okC t = true → potV t + 2 * potS t ≤ 1000000000) : okC (stepT d t) = true ∧ (stepT d t).size ≤ 20000 ∧ potV (stepT d t) + potS (stepT d t) ≤ 1000000000 := by
  unfold stepE at he
  by_cases h1 : mayC t = true
  · rw [if_pos h1] at he
    by_cases h2 : mayC (stepC d t) = true
    · have ho := (may_okC h1).1
      have h3 := step_pot d t ho
      have h4 := hp ho
      unfold stepT
      rw [if_pos h1, if_pos h2]
      exact ⟨(may_okC h2).1, (may_okC h2).2, by omega⟩
    · rw [if_neg h2] at he; cases he
  · rw [if_neg h1] at he; cases he
set_option maxRecDepth 100000 in
set_option maxHeartbeats 8000000 in
theorem sStep_any {P : Nat → Prop} (d : UInt8) (h : CH) (ks : List Co) (A : Option Addr) (c : Nat) (w : World) (hm : T.sizes ks ≤ 800000000) (hc : ks.length ≤ c) (hr : InRow CE P w ks A 0) (hsh : shortC (.mk h ks)) (hp : okC (.mk h ks) = true → potV (.mk h ks) + 2 * potS (.mk h ks) ≤ 1000000000) :
    Calls Tryd.prog 18 #[coV h A ks.length c, .int .u8 (d.toNat : Int)] w (SStepPostE P d (.mk h ks) (stepE d (.mk h ks)) w) := by
  obtain ⟨W, hW⟩ : ∃ W, ((w.alloc (.cells (coA h A ks.length c) 27)).alloc (.cells coZ 27)) = W := ⟨_, rfl⟩
  have hbW : Below w.heap.size w W := by rw [← hW]; exact below_new (below_new (Below.refl _ _) _) _
  have e1 : W.heap[w.heap.size]? = some (.cells (coA h A ks.length c) 27 (0, 0)) := by
    rw [← hW]
    exact heap_keep1 (new_at1 (w := w) _) _
  have e2 : W.heap[w.heap.size + 1]? = some (.cells coZ 27 (0, 0)) := by
    rw [← hW]
    have := new_at1 (w := w.alloc (.cells (coA h A ks.length c) 27)) (.cells coZ 27)
    rw [World.size_alloc] at this
    exact this
  have hsW : W.heap.size = w.heap.size + 1 + 1 := by rw [← hW]; simp
  have HC0 := Lib.hid (pStep_any (P := fun b => P b ∧ b < w.heap.size) d h ks A c W hm hc (hr.there.below hbW) hsh (fun ho => by have := hp ho; omega))
  have HXX : Hid (((w.alloc (.cells (coA h A ks.length c) 27)).alloc (.cells coZ 27)) = W) := hW
  have HB := Lib.hid hbW
  have HE1 := Lib.hid e1
  have HE2 := Lib.hid e2
  have HGD : Hid (stepE d (.mk h ks) = 0 → okC (stepT d (.mk h ks)) = true ∧ (stepT d (.mk h ks)).size ≤ 20000 ∧ potV (stepT d (.mk h ks)) + potS (stepT d (.mk h ks)) ≤ 1000000000) := fun he => step_good he hp
  have HTT : Hid (sstepT d (.mk h ks) = if stepE d (.mk h ks) = 0 then simpC (stepT d (.mk h ks)) else zeroC) := rfl
  clear hW hbW e1 e2 hr hsh hp
  go_enter Tryd.func18, Tryd.ntmps18
  obtain ⟨x0, x1, x2, x3, x4, x5, x6⟩ := co_at_box HE1.out
  rw [← HXX.out] at x0 x1 x2 x3 x4 x5 x6
  go_wp2_with fail
  clear x0 x1 x2 x3 x4 x5 x6
  rw [HXX.out]
  refine HC0.out.mono ?_
  rintro e w1 ⟨h2, k2, A2, c2, rfl, e2, hc2, hr2, hb1⟩
  clear HC0
  generalize stepE d (.mk h ks) = se at *
  obtain ⟨V, hV⟩ : ∃ V, w1.alloc (.cells (coA h2 A2 k2.length c2) 27) = V := ⟨_, rfl⟩
  have hbV : Below w1.heap.size w1 V := by rw [← hV]; exact below_new (Below.refl _ _) _
  have n6 : V.heap[w1.heap.size]? = some (.cells (coA h2 A2 k2.length c2) 27 (0, 0)) := by rw [← hV]; exact new_at1 _
  have hbWV := below_from hb1 hbV
  have HBV := Lib.hid (below_from HB.out hbWV)
  have E2V := Lib.hid ((hbWV.block _ (lt_of_block HE2.out)).trans HE2.out)
  have hr2V : InRow CE (fun x => (P x ∧ x < w.heap.size) ∨ w.heap.size + 1 + 1 ≤ x) V k2 A2 0 := (hr2.below hbV).weak fun x hx => by rcases hx with h | h; exact .inl h; exact .inr (by omega)
  obtain ⟨x0, x1, x2, x3, x4, x5, x6⟩ := co_at_box n6
  obtain ⟨⟨y0, y1, y2, y3, y4, y5, y6⟩, f0, f1, f2, f3, f4, f5, f6⟩ := co_cells E2V.out
  rw [← hV] at x0 x1 x2 x3 x4 x5 x6 y0 y1 y2 y3 y4 y5 y6 f0 f1 f2 f3 f4 f5 f6
  have HV := Lib.hid hV
  have hszw := lt_of_block E2V.out
  have hbvs := HBV.out.size
  by_cases h0 : se = 0
  · have hg := HGD.out h0
    rw [e2] at hg
    have HS := Lib.hid (simp_all_ (.mk h2 k2) hg.1 hg.2.1 hg.2.2 h2 k2 rfl _ A2 c2 V hc2 hr2V)
    have HT2 : Hid (sstepT d (.mk h ks) = simpC (.mk h2 k2)) := by unfold Hid; rw [HTT.out, if_pos h0, e2]
    subst h0
    clear hg hV hbV n6 hb1 hbWV hr2 hr2V e2 HGD HTT HE2 HE1
    go_wp2_with fail
    rw [HV.out]
    refine HS.out.mono ?_
    rintro e w4 ⟨h3, k3, A3, c3, rfl, e3, hc3, hr3, hb4⟩
    have HB4 := Lib.hid (below_from HBV.out hb4)
    have E24 := (hb4.block _ (lt_of_block E2V.out)).trans E2V.out
    have HR4 := Lib.hid (hr3.weak (ok' := fun x => (P x ∧ x < w.heap.size) ∨ w.heap.size + 1 + 1 ≤ x) fun x hx => by rcases hx with h | h; exact h; exact .inr (by omega))
    have HT := Lib.hid e3
    clear x0 x1 x2 x3 x4 x5 x6 y0 y1 y2 y3 y4 y5 y6 f0 f1 f2 f3 f4 f5 f6 hb4 hr3 e3 HS
    obtain ⟨⟨y0, y1, y2, y3, y4, y5, y6⟩, f0, f1, f2, f3, f4, f5, f6⟩ := co_cells E24
    clear E24
    go_wp2_with fail
    refine bodyPost_ret (v := .tuple #[coV h3 A3 k3.length c3, .int .i64 0]) (by simp [results, Tryd.results18, go_sem, y0, y1, y2, y3, y4, y5, y6]) rfl ⟨h3, k3, A3, c3, rfl, by rw [HT2.out]; exact HT.out, hc3, (row_seven HR4.out fun x hx => by rcases hx with h | h; omega; omega).weak fun x hx => by rcases hx with h | h; exact .inl h.1; exact .inr (by omega), seven_below HB4.out (by omega)⟩
  · have g0 : (se != 0) = true := by simpa using h0
    have HT2 : Hid (sstepT d (.mk h ks) = zeroC) := by unfold Hid; rw [HTT.out, if_neg h0]
    have HBW2 : Hid (Below w.heap.size w (w1.alloc (.cells (coA h2 A2 k2.length c2) 27))) := by unfold Hid; rw [hV]; exact HBV.out
    clear h0 hV hbV n6 hb1 hbWV hr2 hr2V e2 HGD HTT HE2 HE1
    go_wp2_with fail
    refine bodyPost_ret (v := .tuple #[coV ⟨0, [], S4.zero⟩ none 0 0, .int .i64 se]) (by simp [results, Tryd.results18, go_sem, y0, y1, y2, y3, y4, y5, y6]; exact ⟨rfl, rfl, rfl, rfl⟩) rfl ⟨⟨0, [], S4.zero⟩, [], none, 0, rfl, HT2.out, Nat.le_refl _, by simp [InRow], seven_below HBW2.out (by omega)⟩
set_option maxRecDepth 100000 in
set_option maxHeartbeats 8000000 in
theorem dsStep_any {P : Nat → Prop} (d : UInt8) (h : CH) (ks : List Co) (A : Option Addr) (c : Nat) (w : World) (hm : T.sizes ks ≤ 800000000) (hc : ks.length ≤ c) (hr : InRow CE P w ks A 0) (hsh : shortC (.mk h ks)) (hp : okC (.mk h ks) = true → potV (.mk h ks) + 2 * potS (.mk h ks) ≤ 1000000000) :
    Calls Tryd.prog 19 #[coV h A ks.length c, .int .u8 (d.toNat : Int)] w (SStepPostE P d (.mk h ks) (stepE d (.mk h ks)) w) := by
  obtain ⟨W, hW⟩ : ∃ W, ((w.alloc (.cells (coA h A ks.length c) 27)).alloc (.cells coZ 27)) = W := ⟨_, rfl⟩
  have hbW : Below w.heap.size w W := by rw [← hW]; exact below_new (below_new (Below.refl _ _) _) _
  have e1 : W.heap[w.heap.size]? = some (.cells (coA h A ks.length c) 27 (0, 0)) := by
    rw [← hW]
    exact heap_keep1 (new_at1 (w := w) _) _
  have e2 : W.heap[w.heap.size + 1]? = some (.cells coZ 27 (0, 0)) := by
    rw [← hW]
    have := new_at1 (w := w.alloc (.cells (coA h A ks.length c) 27)) (.cells coZ 27)
    rw [World.size_alloc] at this
    exact this
  have hsW : W.heap.size = w.heap.size + 1 + 1 := by rw [← hW]; simp
  have HC0 := Lib.hid (dStep_any (P := fun b => P b ∧ b < w.heap.size) d h ks A c W hm hc (hr.there.below hbW) hsh (fun ho => by have := hp ho; omega))
  have HXX : Hid (((w.alloc (.cells (coA h A ks.length c) 27)).alloc (.cells coZ 27)) = W) := hW
  have HB := Lib.hid hbW
  have HE1 := Lib.hid e1
  have HE2 := Lib.hid e2
  have HGD : Hid (stepE d (.mk h ks) = 0 → okC (stepT d (.mk h ks)) = true ∧ (stepT d (.mk h ks)).size ≤ 20000 ∧ potV (stepT d (.mk h ks)) + potS (stepT d (.mk h ks)) ≤ 1000000000) := fun he => step_good he hp
  have HTT : Hid (sstepT d (.mk h ks) = if stepE d (.mk h ks) = 0 then simpC (stepT d (.mk h ks)) else zeroC) := rfl
  clear hW hbW e1 e2 hr hsh hp
  go_enter Tryd.func19, Tryd.ntmps19
  obtain ⟨x0, x1, x2, x3, x4, x5, x6⟩ := co_at_box HE1.out
  rw [← HXX.out] at x0 x1 x2 x3 x4 x5 x6
  go_wp2_with fail
  clear x0 x1 x2 x3 x4 x5 x6
  rw [HXX.out]
  refine HC0.out.mono ?_
  rintro e w1 ⟨h2, k2, A2, c2, rfl, e2, hc2, hr2, hb1⟩
  clear HC0
  generalize stepE d (.mk h ks) = se at *
  obtain ⟨V, hV⟩ : ∃ V, w1.alloc (.cells (coA h2 A2 k2.length c2) 27) = V := ⟨_, rfl⟩
  have hbV : Below w1.heap.size w1 V := by rw [← hV]; exact below_new (Below.refl _ _) _
  have n6 : V.heap[w1.heap.size]? = some (.cells (coA h2 A2 k2.length c2) 27 (0, 0)) := by rw [← hV]; exact new_at1 _
  have hbWV := below_from hb1 hbV
  have HBV := Lib.hid (below_from HB.out hbWV)
  have E2V := Lib.hid ((hbWV.block _ (lt_of_block HE2.out)).trans HE2.out)
  have hr2V : InRow CE (fun x => (P x ∧ x < w.heap.size) ∨ w.heap.size + 1 + 1 ≤ x) V k2 A2 0 := (hr2.below hbV).weak fun x hx => by rcases hx with h | h; exact .inl h; exact .inr (by omega)
  obtain ⟨x0, x1, x2, x3, x4, x5, x6⟩ := co_at_box n6
  obtain ⟨⟨y0, y1, y2, y3, y4, y5, y6⟩, f0, f1, f2, f3, f4, f5, f6⟩ := co_cells E2V.out
  rw [← hV] at x0 x1 x2 x3 x4 x5 x6 y0 y1 y2 y3 y4 y5 y6 f0 f1 f2 f3 f4 f5 f6
  have HV := Lib.hid hV
  have hszw := lt_of_block E2V.out
  have hbvs := HBV.out.size
  by_cases h0 : se = 0
  · have hg := HGD.out h0
    rw [e2] at hg
    have HS := Lib.hid (dsimp_all_ (.mk h2 k2) hg.1 hg.2.1 hg.2.2 h2 k2 rfl _ A2 c2 V hc2 hr2V)
    have HT2 : Hid (sstepT d (.mk h ks) = simpC (.mk h2 k2)) := by unfold Hid; rw [HTT.out, if_pos h0, e2]
    subst h0
    clear hg hV hbV n6 hb1 hbWV hr2 hr2V e2 HGD HTT HE2 HE1
    go_wp2_with fail
    rw [HV.out]
    refine HS.out.mono ?_
    rintro e w4 ⟨h3, k3, A3, c3, rfl, e3, hc3, hr3, hb4⟩
    have HB4 := Lib.hid (below_from HBV.out hb4)
    have E24 := (hb4.block _ (lt_of_block E2V.out)).trans E2V.out
    have HR4 := Lib.hid (hr3.weak (ok' := fun x => (P x ∧ x < w.heap.size) ∨ w.heap.size + 1 + 1 ≤ x) fun x hx => by rcases hx with h | h; exact h; exact .inr (by omega))
    have HT := Lib.hid e3
    clear x0 x1 x2 x3 x4 x5 x6 y0 y1 y2 y3 y4 y5 y6 f0 f1 f2 f3 f4 f5 f6 hb4 hr3 e3 HS
    obtain ⟨⟨y0, y1, y2, y3, y4, y5, y6⟩, f0, f1, f2, f3, f4, f5, f6⟩ := co_cells E24
    clear E24
    go_wp2_with fail
    refine bodyPost_ret (v := .tuple #[coV h3 A3 k3.length c3, .int .i64 0]) (by simp [results, Tryd.results19, go_sem, y0, y1, y2, y3, y4, y5, y6]) rfl ⟨h3, k3, A3, c3, rfl, by rw [HT2.out]; exact HT.out, hc3, (row_seven HR4.out fun x hx => by rcases hx with h | h; omega; omega).weak fun x hx => by rcases hx with h | h; exact .inl h.1; exact .inr (by omega), seven_below HB4.out (by omega)⟩
  · have g0 : (se != 0) = true := by simpa using h0
    have HT2 : Hid (sstepT d (.mk h ks) = zeroC) := by unfold Hid; rw [HTT.out, if_neg h0]
    have HBW2 : Hid (Below w.heap.size w (w1.alloc (.cells (coA h2 A2 k2.length c2) 27))) := by unfold Hid; rw [hV]; exact HBV.out
    clear h0 hV hbV n6 hb1 hbWV hr2 hr2V e2 HGD HTT HE2 HE1
    go_wp2_with fail
    refine bodyPost_ret (v := .tuple #[coV ⟨0, [], S4.zero⟩ none 0 0, .int .i64 se]) (by simp [results, Tryd.results19, go_sem, y0, y1, y2, y3, y4, y5, y6]; exact ⟨rfl, rfl, rfl, rfl⟩) rfl ⟨⟨0, [], S4.zero⟩, [], none, 0, rfl, HT2.out, Nat.le_refl _, by simp [InRow], seven_below HBW2.out (by omega)⟩
end Go.Proofs.YtkhgbeflhjjkdaaDoor
namespace Go.Proofs.YtkhgbeflhjjkdaaDoor
open Go.RowKit
set_option linter.unusedVariables false
set_option linter.unusedSimpArgs false

set_option maxRecDepth 100000 in
set_option maxHeartbeats 400000 in
theorem node18_any (k : UInt8) (b : List UInt8) (w : World) : Calls Tryd.prog 42 #[.int .u8 (k.toNat : Int), .string (str b)] w fun e w' => e = .returned (coV ⟨k, b, S4.zero⟩ none 0 0) ∧ Below w.heap.size w w' := by
  obtain ⟨W, hW⟩ : ∃ W, w.alloc (.cells coZ 27) = W := ⟨_, rfl⟩
  have hbW : Below w.heap.size w W := by rw [← hW]; exact below_new (Below.refl _ _) _
  have e1 : W.heap[w.heap.size]? = some (.cells coZ 27 (0, 0)) := by rw [← hW]; exact new_at1 _
  obtain ⟨⟨y0, y1, y2, y3, y4, y5, y6⟩, f0, f1, f2, f3, f4, f5, f6⟩ := co_cells e1
  have HB := Lib.hid hbW
  have HE := Lib.hid hW
  clear hW hbW e1
  go_enter Tryd.func42, Tryd.ntmps42
  go_upto_region 1 with fail
  rw [show w.alloc _ = W from HE.out]
  go_wp2_with fail
  refine bodyPost_ret (v := coV ⟨k, b, S4.zero⟩ none 0 0) (by simp [results, Tryd.results42, go_sem, y0, y1, y2, y3, y4, y5, y6]; try exact ⟨rfl, rfl, rfl, rfl⟩) rfl ⟨rfl, seven_below HB.out (by omega)⟩
abbrev ex18 : Co := .mk ⟨5, [], S4.zero⟩ [.mk ⟨1, [], S4.zero⟩ [], .mk ⟨2, [49], S4.zero⟩ []]
theorem ex18_may : mayC ex18 = true := by decide +kernel
theorem ex18_simp : simpMT ex18 = .mk ⟨2, [49], S4.zero⟩ [] := by rfl
theorem ex18_short : shortC ex18 := fun x hx => by
  simp [T.all, T.alls] at hx
  rcases hx with rfl | rfl | rfl <;> decide
theorem ex18_pot : potV ex18 + potS ex18 ≤ 1000000000 := by decide +kernel
set_option maxRecDepth 100000 in
set_option maxHeartbeats 4000000 in
theorem awake18_any (w : World) : Calls Tryd.prog 12 #[] w fun e w' => e = .returned (.bool true) ∧ Below w.heap.size w w' := by
  have C1 : Hid (∀ X, Calls Tryd.prog 42 #[.int .u8 1, .string ⟨#[]⟩] X fun e w' => e = .returned (coV ⟨1, [], S4.zero⟩ none 0 0) ∧ Below X.heap.size X w') := fun X => node18_any 1 [] X
  have C2 : Hid (∀ X, Calls Tryd.prog 42 #[.int .u8 2, .string ⟨#[49]⟩] X fun e w' => e = .returned (coV ⟨2, [49], S4.zero⟩ none 0 0) ∧ Below X.heap.size X w') := fun X => node18_any 2 [49] X
  have CS := Lib.hid (fun (N : Nat) (X : World) (hN : X.heap[N]? = some (.cells (coA ⟨1, [], S4.zero⟩ none 0 0 ++ coA ⟨2, [49], S4.zero⟩ none 0 0) 27 (0, 0))) => simpS_any (P := fun _ => True) ⟨5, [], S4.zero⟩ [.mk ⟨1, [], S4.zero⟩ [], .mk ⟨2, [49], S4.zero⟩ []] (some ⟨N, 0, none⟩) 2 X (by decide) (by decide)
    (co_two (P := fun _ => True) (ks := []) (ks2 := []) hN rfl trivial (Nat.le_refl _) (by simp [InRow]) (Nat.le_refl _) (by simp [InRow])) ex18_short (fun _ => ex18_pot))
  have HM := Lib.hid ex18_may
  have HT := Lib.hid ex18_simp
  have HB0 := Lib.hid (Below.refl w.heap.size w)
  go_enter Tryd.func12, Tryd.ntmps12
  go_wp2_with fail
  refine (C1.out _).mono ?_
  rintro e w1 ⟨rfl, hb1⟩
  go_wp2_with fail
  refine (C2.out _).mono ?_
  rintro e w2 ⟨rfl, hb2⟩
  have hb12 := below_from hb1 hb2
  have n2 := new_at1 (w := w2) (.cells (coA ⟨1, [], S4.zero⟩ none 0 0 ++ coA ⟨2, [49], S4.zero⟩ none 0 0) 27)
  have HB2 := Lib.hid (below_new hb12 (.cells (coA ⟨1, [], S4.zero⟩ none 0 0 ++ coA ⟨2, [49], S4.zero⟩ none 0 0) 27))
  have CC := Lib.hid (CS.out _ _ n2)
  clear hb1 hb2 hb12 n2 CS
  go_wp2_with fail
  refine CC.out.mono ?_
  rintro e w3 ⟨h3, k3, A3, c3, rfl, e3, hc3, hr3, hb3⟩
  rw [show mayC _ = true from HM.out]
  have e3' : T.mk h3 k3 = .mk ⟨2, [49], S4.zero⟩ [] := by rw [← e3]; exact HT.out
  injection e3' with e4 e5
  subst e4 e5
  obtain ⟨b, hb⟩ : ∃ b, w3.heap.size = b := ⟨_, rfl⟩
  have hz := below_new (below_from HB2.out hb3) (.cells (coA ⟨2, [49], S4.zero⟩ A3 0 c3) 27)
  have N4 := Lib.hid (new_at1 (w := w3) (.cells (coA ⟨2, [49], S4.zero⟩ A3 0 c3) 27))
  have CSM : Hid (∀ X, Calls Tryd.prog 20 #[coV ⟨2, [49], S4.zero⟩ A3 0 c3, coV ⟨2, [49], S4.zero⟩ none 0 0] X fun e w' => e = .returned (.bool true) ∧ Below X.heap.size X w') := fun X => by
    have := refSameC_upto 1 (fun _ => True) ⟨2, [49], S4.zero⟩ ⟨2, [49], S4.zero⟩ [] [] A3 none c3 0 X (by decide) (by decide) (by decide) (by simp [InRow]) (by simp [InRow])
    rw [sameC_refl] at this
    exact this
  have HBZ := Lib.hid hz
  rw [hb] at N4
  have HB3 := Lib.hid hb
  clear e3 hr3 hb3 hc3 CC HB2 HM HT hz hb
  obtain ⟨W, hW⟩ : ∃ W, w3.alloc (.cells (coA ⟨2, [49], S4.zero⟩ A3 0 c3) 27) = W := ⟨_, rfl⟩
  rw [hW] at HBZ N4
  have HWW := Lib.hid hW
  clear hW
  have Q : Hid (∀ X, Below W.heap.size W X → X.cell? ⟨b, 0, none⟩ = some (.int .u8 2) ∧ X.cell? ⟨b, 1, none⟩ = some (.string (str [49])) ∧ X.cell? ⟨b, 2, none⟩ = some (.int .u64 (S4.zero.a.toNat : Int)) ∧ X.cell? ⟨b, 3, none⟩ = some (.int .u64 (S4.zero.b.toNat : Int)) ∧ X.cell? ⟨b, 4, none⟩ = some (.int .u64 (S4.zero.c.toNat : Int)) ∧ X.cell? ⟨b, 5, none⟩ = some (.int .u64 (S4.zero.d.toNat : Int)) ∧ X.cell? ⟨b, 6, none⟩ = some (.slice A3 0 c3)) := fun X hX => co_at_box (v0 := .int .u8 2) (v1 := .string (str [49])) (v6 := .slice A3 0 c3) ((hX.block _ (lt_of_block N4.out)).trans N4.out)
  go_upto_region 2 with fail
  rw [show w3.alloc (.cells #[.int .u8 2, .string (str [49]), .int .u64 (S4.zero.a.toNat : Int), .int .u64 (S4.zero.b.toNat : Int), .int .u64 (S4.zero.c.toNat : Int), .int .u64 (S4.zero.d.toNat : Int), .slice A3 0 c3] 27) = W from HWW.out]
  have hb : w3.heap.size = b := HB3.out
  rw [hb]
  clear hb HB3 HWW
  have hz := Below.refl W.heap.size W
  obtain ⟨x0, x1, x2, x3, x4, x5, x6⟩ := Q.out _ hz
  go_region_held3 (fun X => X.cell? ⟨b, 0, none⟩ = some (.int .u8 2) ∧ X.cell? ⟨b, 1, none⟩ = some (.string (str [49])) ∧ X.cell? ⟨b, 2, none⟩ = some (.int .u64 (S4.zero.a.toNat : Int)) ∧ X.cell? ⟨b, 3, none⟩ = some (.int .u64 (S4.zero.b.toNat : Int)) ∧ X.cell? ⟨b, 4, none⟩ = some (.int .u64 (S4.zero.c.toNat : Int)) ∧ X.cell? ⟨b, 5, none⟩ = some (.int .u64 (S4.zero.d.toNat : Int)) ∧ X.cell? ⟨b, 6, none⟩ = some (.slice A3 0 c3))
    ((first | (refine Q.out _ hz.drew) | (refine Q.out _ hz)))
    (first
      | (go_at_call 42; (refine (C2.out _).mono ?_); rintro e w5 ⟨rfl, hb5⟩; have hz := below_from (by first | exact hz.drew | exact hz) hb5; obtain ⟨x0, x1, x2, x3, x4, x5, x6⟩ := Q.out _ hz)
      | (go_at_call 20; (refine (CSM.out _).mono ?_); rintro e w6 ⟨rfl, hb6⟩; have hz := below_from (by first | exact hz.drew | exact hz) hb6; obtain ⟨x0, x1, x2, x3, x4, x5, x6⟩ := Q.out _ hz)
      | fail)
  all_goals
    have hbf := below_from HBZ.out hz
    go_wp2_with fail
    go_ret
    exact ⟨rfl, hbf⟩
end Go.Proofs.YtkhgbeflhjjkdaaDoor
