/- The document's text of an expression: nodes of two kids. -/
import Derived.Test.YthagcmpehpgmpaaDoorShow6
import Derived.Test.YthagcmpehpgmpaaDoorQuietB
namespace Go.Proofs.YthagcmpehpgmpaaDoor
open Go.RowKit
set_option linter.unusedVariables false
set_option linter.unusedSimpArgs false

set_option maxRecDepth 100000 in
set_option maxHeartbeats 100000000 in
theorem of_4 {h : RH} (e : h.k = 4) {ha : RH} {ka : List Re} (pa : OfOk ha ka) (la : (showT (.mk ha ka)).length ≤ 2000 * (1 + T.sizes ka)) {hB : RH} {kb : List Re} (pb : OfOk hB kb) (lb : (showT (.mk hB kb)).length ≤ 2000 * (1 + T.sizes kb)) : OfOk h [.mk ha ka, .mk hB kb] := by
  intro ok A c w hc hr hm
  simp only [T.sizes, T.size] at hm
  have HS := Lib.hid (show_4 (a := .mk ha ka) (b := .mk hB kb) e)
  simp only [T.head] at HS
  have hkn : (h.k.toNat : Int) = 4 := by rw [e]; rfl
  obtain ⟨ad, A1, c1, hA, hc1, hr1, u0, u1, u2, u3, u4, u5⟩ := kid0 hr
  subst hA
  obtain ⟨ad', A2, c2, hA2, hc2, hr2, v0, v1, v2, v3, v4, v5⟩ := kid1 hr
  obtain rfl := Option.some.inj hA2
  have QA : Hid (∀ X, Below w.heap.size w X → X.cell? ad = some (.int .u8 (ha.k.toNat : Int)) ∧ X.cell? ⟨ad.block, ad.off + 1, none⟩ = some (.int .u64 (ha.s.a.toNat : Int)) ∧ X.cell? ⟨ad.block, ad.off + 2, none⟩ = some (.int .u64 (ha.s.b.toNat : Int)) ∧ X.cell? ⟨ad.block, ad.off + 3, none⟩ = some (.int .u64 (ha.s.c.toNat : Int)) ∧ X.cell? ⟨ad.block, ad.off + 4, none⟩ = some (.int .u64 (ha.s.d.toNat : Int)) ∧ X.cell? ⟨ad.block, ad.off + 5, none⟩ = some (.slice A1 ka.length c1)) :=
    fun X hX => ⟨keep_cell hX u0, keep_cell hX u1, keep_cell hX u2, keep_cell hX u3, keep_cell hX u4, keep_cell hX u5⟩
  have QB : Hid (∀ X, Below w.heap.size w X → X.cell? ⟨ad.block, ad.off + 6, none⟩ = some (.int .u8 (hB.k.toNat : Int)) ∧ X.cell? ⟨ad.block, ad.off + 6 + 1, none⟩ = some (.int .u64 (hB.s.a.toNat : Int)) ∧ X.cell? ⟨ad.block, ad.off + 6 + 2, none⟩ = some (.int .u64 (hB.s.b.toNat : Int)) ∧ X.cell? ⟨ad.block, ad.off + 6 + 3, none⟩ = some (.int .u64 (hB.s.c.toNat : Int)) ∧ X.cell? ⟨ad.block, ad.off + 6 + 4, none⟩ = some (.int .u64 (hB.s.d.toNat : Int)) ∧ X.cell? ⟨ad.block, ad.off + 6 + 5, none⟩ = some (.slice A2 kb.length c2)) :=
    fun X hX => ⟨keep_cell hX v0, keep_cell hX v1, keep_cell hX v2, keep_cell hX v3, keep_cell hX v4, keep_cell hX v5⟩
  have RA := Lib.hid hr1
  have PB : Hid (∀ X, Below w.heap.size w X → Calls Tryd.prog 42 #[reV hB A2 kb.length c2] X fun e w' => e = .returned (.string (str (showT (.mk hB kb)))) ∧ Below X.heap.size X w') := fun X hX => pb ok A2 c2 X hc2 (hr2.below hX) (by omega)
  clear hr hr1 hr2 u0 u1 u2 u3 u4 u5 v0 v1 v2 v3 v4 v5 pb
  have hb0 := Lib.hid (below_new (Below.refl w.heap.size w) (.cells #[.int .u8 4, .int .u64 (h.s.a.toNat : Int), .int .u64 (h.s.b.toNat : Int), .int .u64 (h.s.c.toNat : Int), .int .u64 (h.s.d.toNat : Int), .slice (some ad) 2 c] 47))
  have hb1 := Lib.hid (below_new hb0.out (.cells (reA ha A1 ka.length c1) 47))
  obtain ⟨q0, q1, q2, q3, q4, q5⟩ := QA.out _ hb0.out
  have E0 := Lib.hid (heap_keep1 (new_at1 (w := w) (.cells #[.int .u8 4, .int .u64 (h.s.a.toNat : Int), .int .u64 (h.s.b.toNat : Int), .int .u64 (h.s.c.toNat : Int), .int .u64 (h.s.d.toNat : Int), .slice (some ad) 2 c] 47)) (.cells (reA ha A1 ka.length c1) 47))
  have e1 := new_at1 (w := w.alloc (.cells #[.int .u8 4, .int .u64 (h.s.a.toNat : Int), .int .u64 (h.s.b.toNat : Int), .int .u64 (h.s.c.toNat : Int), .int .u64 (h.s.d.toNat : Int), .slice (some ad) 2 c] 47)) (.cells (reA ha A1 ka.length c1) 47)
  rw [World.size_alloc] at e1
  have E1 := Lib.hid e1
  clear e1 hb0
  go_enter Tryd.func42, Tryd.ntmps42
  go_wp2_with fail
  refine (pa _ A1 c1 _ hc1 (RA.out.below hb1.out) (by omega)).mono ?_
  rintro e1 w3 ⟨rfl, hb⟩
  have E02 := Lib.hid ((hb.block _ (lt_of_block E0.out)).trans E0.out)
  have E12 := Lib.hid ((hb.block _ (lt_of_block E1.out)).trans E1.out)
  have HB3 := Lib.hid (below_from hb1.out hb)
  clear hb E0 E1 hb1 RA q0 q1 q2 q3 q4 q5
  obtain ⟨x0, x1, x2, x3, x4, x5⟩ := cells6_of E02.out
  obtain ⟨q0, q1, q2, q3, q4, q5⟩ := QB.out _ HB3.out
  have E03 := Lib.hid (heap_keep1 E02.out (.cells (reA hB A2 kb.length c2) 47))
  have E13 := Lib.hid (heap_keep1 E12.out (.cells (reA hB A2 kb.length c2) 47))
  have E23 := Lib.hid (new_at1 (w := w3) (.cells (reA hB A2 kb.length c2) 47))
  have HB4 := Lib.hid (below_new HB3.out (.cells (reA hB A2 kb.length c2) 47))
  obtain ⟨y0, _⟩ := cells6_of E03.out
  obtain ⟨z0, _⟩ := cells6_of E13.out
  obtain ⟨t0, t1, t2, t3, t4, t5⟩ := cells6_of E23.out
  clear E02 E12 HB3
  have g4 := k_eq4 ha.k
  have g5 := k_eq5 ha.k
  have k5 := k_eq5 hB.k
  have RD := Lib.hid (fun b X => round_any (showT (.mk ha ka)) b X (by omega))
  have RD2 := Lib.hid (fun b X => round_any (showT (.mk hB kb)) b X (by omega))
  generalize showT (.mk ha ka) = sa at *
  generalize showT (.mk hB kb) = sb at *
  have lba := fun b => brk_length b sa
  have lbb := fun b => brk_length b sb
  generalize hWW : w3.alloc (.cells (reA hB A2 kb.length c2) 47) = W at *
  have Z0 := fun p : BelowBy W => BelowBy.cell z0 p
  have T0 := fun p : BelowBy W => BelowBy.cell t0 p
  have T1 := fun p : BelowBy W => BelowBy.cell t1 p
  have T2 := fun p : BelowBy W => BelowBy.cell t2 p
  have T3 := fun p : BelowBy W => BelowBy.cell t3 p
  have T4 := fun p : BelowBy W => BelowBy.cell t4 p
  have T5 := fun p : BelowBy W => BelowBy.cell t5 p
  have PB2 : Hid (∀ p : BelowBy W, Calls Tryd.prog 42 #[reV hB A2 kb.length c2] p.w fun e w' => e = .returned (.string (str sb)) ∧ Below p.w.heap.size p.w w') := fun p => PB.out p.w (below_from HB4.out p.h)
  clear PB
  rcases hbb : hB.k == 5 with _ | _
  · rcases hb4 : ha.k == 4 with _ | _
    · rw [hb4] at g4
      rcases hb5 : ha.k == 5 with _ | _
      · rw [hb5] at g5
        have hc1 := run_cat (P := Tryd.prog) (brk false sa) (brk false sb) (by have := lba false; have := lbb false; omega)
        have HS2 : Hid (showT (.mk h [.mk ha ka, .mk hB kb]) = brk false sa ++ brk false sb) := by have := HS.out; unfold Hid; simpa only [hb4, hbb, hb5, Bool.true_or, Bool.false_or] using this
        rw [hbb] at k5
        clear HS lba lbb hb4 hbb hb5 z0 t0 t1 t2 t3 t4 t5
        subst hWW
        go_wp2_with fail
        refine wp_region_below (by kernel_rfl) (by kernel_rfl) (Below.refl _ _) ?_
        repeat (go_big_quiet_step (first | (go_at_call 74; exact Calls.below_same (RD.out false _)) | (go_at_call 74; exact Calls.below_same (RD2.out false _)) | (go_at_call 42; exact Calls.below_of (PB2.out _))))
        refine wpQuiet_nil ?_
        intro _ hw1
        obtain ⟨⟨wq, hq⟩, hw2⟩ := hw1
        subst hw2
        have hq2 := below_from HB4.out hq
        go_wp2_with fail
        go_ret
        exact ⟨by rw [HS2.out]; rfl, hq2⟩
      · rw [hb5] at g5
        have hc1 := run_cat (P := Tryd.prog) (brk true sa) (brk false sb) (by have := lba true; have := lbb false; omega)
        have HS2 : Hid (showT (.mk h [.mk ha ka, .mk hB kb]) = brk true sa ++ brk false sb) := by have := HS.out; unfold Hid; simpa only [hb4, hbb, hb5, Bool.true_or, Bool.false_or] using this
        rw [hbb] at k5
        clear HS lba lbb hb4 hbb hb5 z0 t0 t1 t2 t3 t4 t5
        subst hWW
        go_wp2_with fail
        refine wp_region_below (by kernel_rfl) (by kernel_rfl) (Below.refl _ _) ?_
        repeat (go_big_quiet_step (first | (go_at_call 74; exact Calls.below_same (RD.out true _)) | (go_at_call 74; exact Calls.below_same (RD2.out false _)) | (go_at_call 42; exact Calls.below_of (PB2.out _))))
        refine wpQuiet_nil ?_
        intro _ hw1
        obtain ⟨⟨wq, hq⟩, hw2⟩ := hw1
        subst hw2
        have hq2 := below_from HB4.out hq
        go_wp2_with fail
        go_ret
        exact ⟨by rw [HS2.out]; rfl, hq2⟩
    · rw [hb4] at g4
      have hc1 := run_cat (P := Tryd.prog) (brk true sa) (brk false sb) (by have := lba true; have := lbb false; omega)
      have HS2 : Hid (showT (.mk h [.mk ha ka, .mk hB kb]) = brk true sa ++ brk false sb) := by have := HS.out; unfold Hid; simpa only [hb4, hbb, Bool.true_or, Bool.false_or] using this
      rw [hbb] at k5
      clear HS lba lbb hb4 hbb z0 t0 t1 t2 t3 t4 t5
      subst hWW
      go_wp2_with fail
      refine wp_region_below (by kernel_rfl) (by kernel_rfl) (Below.refl _ _) ?_
      repeat (go_big_quiet_step (first | (go_at_call 74; exact Calls.below_same (RD.out true _)) | (go_at_call 74; exact Calls.below_same (RD2.out false _)) | (go_at_call 42; exact Calls.below_of (PB2.out _))))
      refine wpQuiet_nil ?_
      intro _ hw1
      obtain ⟨⟨wq, hq⟩, hw2⟩ := hw1
      subst hw2
      have hq2 := below_from HB4.out hq
      go_wp2_with fail
      go_ret
      exact ⟨by rw [HS2.out]; rfl, hq2⟩
  · rcases hb4 : ha.k == 4 with _ | _
    · rw [hb4] at g4
      rcases hb5 : ha.k == 5 with _ | _
      · rw [hb5] at g5
        have hc1 := run_cat (P := Tryd.prog) (brk false sa) (brk true sb) (by have := lba false; have := lbb true; omega)
        have HS2 : Hid (showT (.mk h [.mk ha ka, .mk hB kb]) = brk false sa ++ brk true sb) := by have := HS.out; unfold Hid; simpa only [hb4, hbb, hb5, Bool.true_or, Bool.false_or] using this
        rw [hbb] at k5
        clear HS lba lbb hb4 hbb hb5 z0 t0 t1 t2 t3 t4 t5
        subst hWW
        go_wp2_with fail
        refine wp_region_below (by kernel_rfl) (by kernel_rfl) (Below.refl _ _) ?_
        repeat (go_big_quiet_step (first | (go_at_call 74; exact Calls.below_same (RD.out false _)) | (go_at_call 74; exact Calls.below_same (RD2.out true _)) | (go_at_call 42; exact Calls.below_of (PB2.out _))))
        refine wpQuiet_nil ?_
        intro _ hw1
        obtain ⟨⟨wq, hq⟩, hw2⟩ := hw1
        subst hw2
        have hq2 := below_from HB4.out hq
        go_wp2_with fail
        go_ret
        exact ⟨by rw [HS2.out]; rfl, hq2⟩
      · rw [hb5] at g5
        have hc1 := run_cat (P := Tryd.prog) (brk true sa) (brk true sb) (by have := lba true; have := lbb true; omega)
        have HS2 : Hid (showT (.mk h [.mk ha ka, .mk hB kb]) = brk true sa ++ brk true sb) := by have := HS.out; unfold Hid; simpa only [hb4, hbb, hb5, Bool.true_or, Bool.false_or] using this
        rw [hbb] at k5
        clear HS lba lbb hb4 hbb hb5 z0 t0 t1 t2 t3 t4 t5
        subst hWW
        go_wp2_with fail
        refine wp_region_below (by kernel_rfl) (by kernel_rfl) (Below.refl _ _) ?_
        repeat (go_big_quiet_step (first | (go_at_call 74; exact Calls.below_same (RD.out true _)) | (go_at_call 74; exact Calls.below_same (RD2.out true _)) | (go_at_call 42; exact Calls.below_of (PB2.out _))))
        refine wpQuiet_nil ?_
        intro _ hw1
        obtain ⟨⟨wq, hq⟩, hw2⟩ := hw1
        subst hw2
        have hq2 := below_from HB4.out hq
        go_wp2_with fail
        go_ret
        exact ⟨by rw [HS2.out]; rfl, hq2⟩
    · rw [hb4] at g4
      have hc1 := run_cat (P := Tryd.prog) (brk true sa) (brk true sb) (by have := lba true; have := lbb true; omega)
      have HS2 : Hid (showT (.mk h [.mk ha ka, .mk hB kb]) = brk true sa ++ brk true sb) := by have := HS.out; unfold Hid; simpa only [hb4, hbb, Bool.true_or, Bool.false_or] using this
      rw [hbb] at k5
      clear HS lba lbb hb4 hbb z0 t0 t1 t2 t3 t4 t5
      subst hWW
      go_wp2_with fail
      refine wp_region_below (by kernel_rfl) (by kernel_rfl) (Below.refl _ _) ?_
      repeat (go_big_quiet_step (first | (go_at_call 74; exact Calls.below_same (RD.out true _)) | (go_at_call 74; exact Calls.below_same (RD2.out true _)) | (go_at_call 42; exact Calls.below_of (PB2.out _))))
      refine wpQuiet_nil ?_
      intro _ hw1
      obtain ⟨⟨wq, hq⟩, hw2⟩ := hw1
      subst hw2
      have hq2 := below_from HB4.out hq
      go_wp2_with fail
      go_ret
      exact ⟨by rw [HS2.out]; rfl, hq2⟩
theorem of_all (n : Nat) : ∀ t : Re, t.size ≤ n → okT t = true → OfT t := by
  induction n with
  | zero => intro t hn; have := t.size_pos; omega
  | succ n ih =>
    intro t hn ho
    obtain ⟨h, ks⟩ := t
    rcases ok_shape ho with ⟨e, rfl⟩ | ⟨e, rfl⟩ | ⟨e, rfl, _⟩ | ⟨a, b, e, rfl, h1, h2⟩ | ⟨a, b, e, rfl, h1, h2⟩ | ⟨a, e, rfl, h1⟩
    · exact of_1 e
    · exact of_2 e
    · exact of_3 e
    all_goals simp only [T.size, T.sizes] at hn
    · obtain ⟨ha, ka⟩ := a
      obtain ⟨hB, kb⟩ := b
      exact of_4 e (ih _ (by omega) h1) (show_length _ _ (Nat.le_refl _) h1) (ih _ (by omega) h2) (show_length _ _ (Nat.le_refl _) h2)
    · obtain ⟨ha, ka⟩ := a
      obtain ⟨hB, kb⟩ := b
      exact of_5 e (ih _ (by omega) h1) (show_length _ _ (Nat.le_refl _) h1) (ih _ (by omega) h2) (show_length _ _ (Nat.le_refl _) h2)
    · obtain ⟨ha, ka⟩ := a
      exact of_6 e (ih _ (by omega) h1) (show_length _ _ (Nat.le_refl _) h1)
theorem of_ok {h : RH} {ks : List Re} (ho : okT (.mk h ks) = true) : OfOk h ks := of_all _ (.mk h ks) (Nat.le_refl _) ho
end Go.Proofs.YthagcmpehpgmpaaDoor
