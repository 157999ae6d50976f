/- The document's text of an expression: nodes of two kids. -/
import Derived.Test.YthagcmpehpgmpaaDoorShow5
namespace Go.Proofs.YthagcmpehpgmpaaDoor
open Go.RowKit
set_option linter.unusedVariables false
set_option linter.unusedSimpArgs false

theorem of_keep {W X X' : World} {p b : Nat} {v0 u0 u1 u2 u3 u4 u5 : Value} (hb : Below X.heap.size X X')
    (h : X.cell? ⟨p, 0, none⟩ = some v0 ∧ X.cell? ⟨b, 0, none⟩ = some u0 ∧ X.cell? ⟨b, 1, none⟩ = some u1 ∧ X.cell? ⟨b, 2, none⟩ = some u2 ∧ X.cell? ⟨b, 3, none⟩ = some u3 ∧ X.cell? ⟨b, 4, none⟩ = some u4 ∧ X.cell? ⟨b, 5, none⟩ = some u5 ∧ Hid (Below W.heap.size W X)) :
    X'.cell? ⟨p, 0, none⟩ = some v0 ∧ X'.cell? ⟨b, 0, none⟩ = some u0 ∧ X'.cell? ⟨b, 1, none⟩ = some u1 ∧ X'.cell? ⟨b, 2, none⟩ = some u2 ∧ X'.cell? ⟨b, 3, none⟩ = some u3 ∧ X'.cell? ⟨b, 4, none⟩ = some u4 ∧ X'.cell? ⟨b, 5, none⟩ = some u5 ∧ Hid (Below W.heap.size W X') :=
  ⟨keep_cell hb h.1, keep_cell hb h.2.1, keep_cell hb h.2.2.1, keep_cell hb h.2.2.2.1, keep_cell hb h.2.2.2.2.1, keep_cell hb h.2.2.2.2.2.1, keep_cell hb h.2.2.2.2.2.2.1, below_from h.2.2.2.2.2.2.2.out hb⟩
theorem of_below {W X : World} {p b : Nat} {v0 u0 u1 u2 u3 u4 u5 : Value}
    (h : X.cell? ⟨p, 0, none⟩ = some v0 ∧ X.cell? ⟨b, 0, none⟩ = some u0 ∧ X.cell? ⟨b, 1, none⟩ = some u1 ∧ X.cell? ⟨b, 2, none⟩ = some u2 ∧ X.cell? ⟨b, 3, none⟩ = some u3 ∧ X.cell? ⟨b, 4, none⟩ = some u4 ∧ X.cell? ⟨b, 5, none⟩ = some u5 ∧ Hid (Below W.heap.size W X)) :
    Below W.heap.size W X := h.2.2.2.2.2.2.2.out

set_option maxRecDepth 100000 in
set_option maxHeartbeats 100000000 in
theorem of_5 {h : RH} (e : h.k = 5) {ha : RH} {ka : List Re} (pa : OfOk ha ka) (la : (showT (.mk ha ka)).length ≤ 2000 * (1 + T.sizes ka)) {hB : RH} {kb : List Re} (pb : OfOk hB kb) (lb : (showT (.mk hB kb)).length ≤ 2000 * (1 + T.sizes kb)) : OfOk h [.mk ha ka, .mk hB kb] := by
  intro ok A c w hc hr hm
  simp only [T.sizes, T.size] at hm
  have HS := Lib.hid (show_5 (a := .mk ha ka) (b := .mk hB kb) e)
  simp only [T.head] at HS
  have hkn : (h.k.toNat : Int) = 5 := by rw [e]; rfl
  obtain ⟨ad, A1, c1, hA, hc1, hr1, u0, u1, u2, u3, u4, u5⟩ := kid0 hr
  subst hA
  obtain ⟨ad', A2, c2, hA2, hc2, hr2, v0, v1, v2, v3, v4, v5⟩ := kid1 hr
  obtain rfl := Option.some.inj hA2
  have QA : Hid (∀ X, Below w.heap.size w X → X.cell? ad = some (.int .u8 (ha.k.toNat : Int)) ∧ X.cell? ⟨ad.block, ad.off + 1, none⟩ = some (.int .u64 (ha.s.a.toNat : Int)) ∧ X.cell? ⟨ad.block, ad.off + 2, none⟩ = some (.int .u64 (ha.s.b.toNat : Int)) ∧ X.cell? ⟨ad.block, ad.off + 3, none⟩ = some (.int .u64 (ha.s.c.toNat : Int)) ∧ X.cell? ⟨ad.block, ad.off + 4, none⟩ = some (.int .u64 (ha.s.d.toNat : Int)) ∧ X.cell? ⟨ad.block, ad.off + 5, none⟩ = some (.slice A1 ka.length c1)) :=
    fun X hX => ⟨keep_cell hX u0, keep_cell hX u1, keep_cell hX u2, keep_cell hX u3, keep_cell hX u4, keep_cell hX u5⟩
  have QB : Hid (∀ X, Below w.heap.size w X → X.cell? ⟨ad.block, ad.off + 6, none⟩ = some (.int .u8 (hB.k.toNat : Int)) ∧ X.cell? ⟨ad.block, ad.off + 6 + 1, none⟩ = some (.int .u64 (hB.s.a.toNat : Int)) ∧ X.cell? ⟨ad.block, ad.off + 6 + 2, none⟩ = some (.int .u64 (hB.s.b.toNat : Int)) ∧ X.cell? ⟨ad.block, ad.off + 6 + 3, none⟩ = some (.int .u64 (hB.s.c.toNat : Int)) ∧ X.cell? ⟨ad.block, ad.off + 6 + 4, none⟩ = some (.int .u64 (hB.s.d.toNat : Int)) ∧ X.cell? ⟨ad.block, ad.off + 6 + 5, none⟩ = some (.slice A2 kb.length c2)) :=
    fun X hX => ⟨keep_cell hX v0, keep_cell hX v1, keep_cell hX v2, keep_cell hX v3, keep_cell hX v4, keep_cell hX v5⟩
  have RA := Lib.hid hr1
  have PB : Hid (∀ X, Below w.heap.size w X → Calls Tryd.prog 42 #[reV hB A2 kb.length c2] X fun e w' => e = .returned (.string (str (showT (.mk hB kb)))) ∧ Below X.heap.size X w') := fun X hX => pb ok A2 c2 X hc2 (hr2.below hX) (by omega)
  clear hr hr1 hr2 u0 u1 u2 u3 u4 u5 v0 v1 v2 v3 v4 v5 pb
  have hb0 := Lib.hid (below_new (Below.refl w.heap.size w) (.cells #[.int .u8 5, .int .u64 (h.s.a.toNat : Int), .int .u64 (h.s.b.toNat : Int), .int .u64 (h.s.c.toNat : Int), .int .u64 (h.s.d.toNat : Int), .slice (some ad) 2 c] 47))
  have hb1 := Lib.hid (below_new hb0.out (.cells (reA ha A1 ka.length c1) 47))
  obtain ⟨q0, q1, q2, q3, q4, q5⟩ := QA.out _ hb0.out
  have E0 := Lib.hid (heap_keep1 (new_at1 (w := w) (.cells #[.int .u8 5, .int .u64 (h.s.a.toNat : Int), .int .u64 (h.s.b.toNat : Int), .int .u64 (h.s.c.toNat : Int), .int .u64 (h.s.d.toNat : Int), .slice (some ad) 2 c] 47)) (.cells (reA ha A1 ka.length c1) 47))
  have e1 := new_at1 (w := w.alloc (.cells #[.int .u8 5, .int .u64 (h.s.a.toNat : Int), .int .u64 (h.s.b.toNat : Int), .int .u64 (h.s.c.toNat : Int), .int .u64 (h.s.d.toNat : Int), .slice (some ad) 2 c] 47)) (.cells (reA ha A1 ka.length c1) 47)
  rw [World.size_alloc] at e1
  have E1 := Lib.hid e1
  clear e1 hb0
  go_enter Tryd.func42, Tryd.ntmps42
  go_wp2_with fail
  refine (pa _ A1 c1 _ hc1 (RA.out.below hb1.out) (by omega)).mono ?_
  rintro e1 w3 ⟨rfl, hb⟩
  have E02 := Lib.hid ((hb.block _ (lt_of_block E0.out)).trans E0.out)
  have E12 := Lib.hid ((hb.block _ (lt_of_block E1.out)).trans E1.out)
  have HB3 := Lib.hid (below_from hb1.out hb)
  clear hb E0 E1 hb1 RA q0 q1 q2 q3 q4 q5
  obtain ⟨x0, x1, x2, x3, x4, x5⟩ := cells6_of E02.out
  obtain ⟨q0, q1, q2, q3, q4, q5⟩ := QB.out _ HB3.out
  have E03 := Lib.hid (heap_keep1 E02.out (.cells (reA hB A2 kb.length c2) 47))
  have E13 := Lib.hid (heap_keep1 E12.out (.cells (reA hB A2 kb.length c2) 47))
  have E23 := Lib.hid (new_at1 (w := w3) (.cells (reA hB A2 kb.length c2) 47))
  have HB4 := Lib.hid (below_new HB3.out (.cells (reA hB A2 kb.length c2) 47))
  obtain ⟨y0, _⟩ := cells6_of E03.out
  obtain ⟨z0, _⟩ := cells6_of E13.out
  obtain ⟨t0, t1, t2, t3, t4, t5⟩ := cells6_of E23.out
  clear E02 E12 HB3
  have g4 := k_eq4 ha.k
  have g5 := k_eq5 ha.k
  have k5 := k_eq5 hB.k
  have RD := Lib.hid (fun b X => round_any (showT (.mk ha ka)) b X (by omega))
  have RD2 := Lib.hid (fun b X => round_any (showT (.mk hB kb)) b X (by omega))
  generalize showT (.mk ha ka) = sa at *
  generalize showT (.mk hB kb) = sb at *
  have lba := fun b => brk_length b sa
  have lbb := fun b => brk_length b sb
  rcases hb5 : ha.k == 5 with _ | _
  all_goals
    rw [hb5] at g5 HS
    clear g4 k5 hb5
  · have hc1 := run_cat (P := Tryd.prog) (brk false sa) [124] (by have := lba false; simp; omega)
    have hc2 := run_cat (P := Tryd.prog) (brk false sa ++ [124]) sb (by have := lba false; simp; omega)
    have HS2 : Hid (showT (.mk h [.mk ha ka, .mk hB kb]) = brk false sa ++ (124 :: sb)) := HS.out
    clear HS lba lbb
    go_wp2_with fail
    go_region_held3 (fun X => X.cell? ⟨w.heap.size + 1, 0, none⟩ = some (.int .u8 (ha.k.toNat : Int)) ∧ X.cell? ⟨w3.heap.size, 0, none⟩ = some (.int .u8 (hB.k.toNat : Int)) ∧ X.cell? ⟨w3.heap.size, 1, none⟩ = some (.int .u64 (hB.s.a.toNat : Int)) ∧ X.cell? ⟨w3.heap.size, 2, none⟩ = some (.int .u64 (hB.s.b.toNat : Int)) ∧ X.cell? ⟨w3.heap.size, 3, none⟩ = some (.int .u64 (hB.s.c.toNat : Int)) ∧ X.cell? ⟨w3.heap.size, 4, none⟩ = some (.int .u64 (hB.s.d.toNat : Int)) ∧ X.cell? ⟨w3.heap.size, 5, none⟩ = some (.slice A2 kb.length c2) ∧ Hid (Below w.heap.size w X)) (first | exact ⟨z0, t0, t1, t2, t3, t4, t5, HB4.out.drew⟩ | exact of_keep hba (by assumption) | assumption | fail)
      (first | (go_at_call 74; refine (RD.out false _).mono ?_; rintro e1 w4 ⟨rfl, rfl⟩) | (go_at_call 42; refine (PB.out _ (of_below (by assumption))).mono ?_; rintro e2 w5 ⟨rfl, hba⟩) | fail)
    all_goals
      go_wp2_with fail
      go_ret
      exact ⟨by rw [HS2.out]; rfl, of_below (by assumption)⟩
  · have hc1 := run_cat (P := Tryd.prog) (brk true sa) [124] (by have := lba true; simp; omega)
    have hc2 := run_cat (P := Tryd.prog) (brk true sa ++ [124]) sb (by have := lba true; simp; omega)
    have HS2 : Hid (showT (.mk h [.mk ha ka, .mk hB kb]) = brk true sa ++ (124 :: sb)) := HS.out
    clear HS lba lbb
    go_wp2_with fail
    go_region_held3 (fun X => X.cell? ⟨w.heap.size + 1, 0, none⟩ = some (.int .u8 (ha.k.toNat : Int)) ∧ X.cell? ⟨w3.heap.size, 0, none⟩ = some (.int .u8 (hB.k.toNat : Int)) ∧ X.cell? ⟨w3.heap.size, 1, none⟩ = some (.int .u64 (hB.s.a.toNat : Int)) ∧ X.cell? ⟨w3.heap.size, 2, none⟩ = some (.int .u64 (hB.s.b.toNat : Int)) ∧ X.cell? ⟨w3.heap.size, 3, none⟩ = some (.int .u64 (hB.s.c.toNat : Int)) ∧ X.cell? ⟨w3.heap.size, 4, none⟩ = some (.int .u64 (hB.s.d.toNat : Int)) ∧ X.cell? ⟨w3.heap.size, 5, none⟩ = some (.slice A2 kb.length c2) ∧ Hid (Below w.heap.size w X)) (first | exact ⟨z0, t0, t1, t2, t3, t4, t5, HB4.out.drew⟩ | exact of_keep hba (by assumption) | assumption | fail)
      (first | (go_at_call 74; refine (RD.out true _).mono ?_; rintro e1 w4 ⟨rfl, rfl⟩) | (go_at_call 42; refine (PB.out _ (of_below (by assumption))).mono ?_; rintro e2 w5 ⟨rfl, hba⟩) | fail)
    all_goals
      go_wp2_with fail
      go_ret
      exact ⟨by rw [HS2.out]; rfl, of_below (by assumption)⟩
end Go.Proofs.YthagcmpehpgmpaaDoor
