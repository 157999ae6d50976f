/- The document's text of an expression: nodes. -/
import Derived.Test.YthagcmpehpgmpaaDoorShow4
import Derived.Test.YthagcmpehpgmpaaDoorShow2
namespace Go.Proofs.YthagcmpehpgmpaaDoor
open Go.RowKit
set_option linter.unusedVariables false
set_option linter.unusedSimpArgs false

set_option maxRecDepth 100000 in
set_option maxHeartbeats 8000000 in
theorem of_6 {h : RH} (e : h.k = 6) {ha : RH} {ka : List Re} (pa : OfOk ha ka) (la : (showT (.mk ha ka)).length ≤ 2000 * (1 + T.sizes ka)) : OfOk h [.mk ha ka] := by
  intro ok A c w hc hr hm
  simp only [T.sizes, T.size] at hm
  have HS := Lib.hid (show_6 (a := .mk ha ka) e)
  simp only [T.head] at HS
  have hkn : (h.k.toNat : Int) = 6 := by rw [e]; rfl
  have hb0 := below_new (Below.refl w.heap.size w) (.cells #[.int .u8 6, .int .u64 (h.s.a.toNat : Int), .int .u64 (h.s.b.toNat : Int), .int .u64 (h.s.c.toNat : Int), .int .u64 (h.s.d.toNat : Int), .slice A 1 c] 47)
  obtain ⟨ad, A1, c1, hA, hc1, hr1, q0, q1, q2, q3, q4, q5⟩ := kid0 (hr.below hb0)
  subst hA
  have HR := Lib.hid (hr1.below (below_new (Below.refl _ _) (.cells (reA ha A1 ka.length c1) 47)))
  have hb1 := below_new hb0 (.cells (reA ha A1 ka.length c1) 47)
  have E0 := Lib.hid (heap_keep1 (new_at1 (w := w) (.cells #[.int .u8 6, .int .u64 (h.s.a.toNat : Int), .int .u64 (h.s.b.toNat : Int), .int .u64 (h.s.c.toNat : Int), .int .u64 (h.s.d.toNat : Int), .slice (some ad) 1 c] 47)) (.cells (reA ha A1 ka.length c1) 47))
  have e1 := new_at1 (w := w.alloc (.cells #[.int .u8 6, .int .u64 (h.s.a.toNat : Int), .int .u64 (h.s.b.toNat : Int), .int .u64 (h.s.c.toNat : Int), .int .u64 (h.s.d.toNat : Int), .slice (some ad) 1 c] 47)) (.cells (reA ha A1 ka.length c1) 47)
  rw [World.size_alloc] at e1
  have E1 := Lib.hid e1
  have HB1 := Lib.hid hb1
  clear e1 hb0 hb1 hr hr1
  go_enter Tryd.func42, Tryd.ntmps42
  go_wp2_with fail
  refine (pa _ A1 c1 _ hc1 HR.out (by omega)).mono ?_
  rintro e1 w3 ⟨rfl, hb⟩
  have E02 := Lib.hid ((hb.block _ (lt_of_block E0.out)).trans E0.out)
  have E12 := Lib.hid ((hb.block _ (lt_of_block E1.out)).trans E1.out)
  have HB3 := Lib.hid (below_from HB1.out hb)
  clear hb E0 E1 HB1 HR q0 q1 q2 q3 q4 q5
  obtain ⟨x0, x1, x2, x3, x4, x5⟩ := cells6_of E02.out
  obtain ⟨y0, y1, y2, y3, y4, y5⟩ := cells6_of E12.out
  have g4 := k_eq4 ha.k
  have g5 := k_eq5 ha.k
  have hRD := fun b => Lib.hid (fun X => round_any (showT (.mk ha ka)) b X (by omega))
  generalize showT (.mk ha ka) = sa at *
  have lb := fun b => brk_length b sa
  have hcat := fun b => run_cat (P := Tryd.prog) (brk b sa) [42] (by have := lb b; simp; omega)
  rcases hb4 : ha.k == 4 with _ | _
  · rw [hb4] at g4 HS
    rcases hb5 : ha.k == 5 with _ | _
    · rw [hb5] at g5 HS
      have RD := hRD false
      have hc2 := hcat false
      have HS2 : Hid (showT (.mk h [.mk ha ka]) = brk false sa ++ [42]) := HS.out
      clear hb4 hb5 hRD hcat lb HS
      go_wp2_with fail
      refine (RD.out _).mono ?_
      rintro e1 w4 ⟨rfl, rfl⟩
      go_wp2_with fail
      go_ret
      exact ⟨by rw [HS2.out]; rfl, HB3.out⟩
    · rw [hb5] at g5 HS
      have RD := hRD true
      have hc2 := hcat true
      have HS2 : Hid (showT (.mk h [.mk ha ka]) = brk true sa ++ [42]) := HS.out
      clear hb4 hb5 hRD hcat lb HS
      go_wp2_with fail
      refine (RD.out _).mono ?_
      rintro e1 w4 ⟨rfl, rfl⟩
      go_wp2_with fail
      go_ret
      exact ⟨by rw [HS2.out]; rfl, HB3.out⟩
  · rw [hb4] at g4 HS
    have RD := hRD true
    have hc2 := hcat true
    have HS2 : Hid (showT (.mk h [.mk ha ka]) = brk true sa ++ [42]) := by unfold Hid; rw [HS.out]; rfl
    clear hb4 hRD hcat lb HS g5
    go_wp2_with fail
    refine (RD.out _).mono ?_
    rintro e1 w4 ⟨rfl, rfl⟩
    go_wp2_with fail
    go_ret
    exact ⟨by rw [HS2.out]; rfl, HB3.out⟩
end Go.Proofs.YthagcmpehpgmpaaDoor
