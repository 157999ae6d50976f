/- Sets, several: what is in all of them. -/
import Derived.Test.YthagcmpehpgmpaaDoorSet10
import Derived.Test.YthagcmpehpgmpaaDoorText2
namespace Go.Proofs.YthagcmpehpgmpaaDoor
open Go.RowKit
set_option linter.unusedVariables false
set_option linter.unusedSimpArgs false

set_option maxRecDepth 100000 in
set_option maxHeartbeats 16000000 in
theorem setMeet_any (l : List S4) (A : Option Addr) (c : Nat) (w : World) (hm : l.length ≤ 1000000000) (hr : RowS w A l) :
    Calls Tryd.prog 32 #[.slice A l.length c] w fun e w' => e = .returned (setV (meetL l)) ∧ Below w.heap.size w w' := by
  have HRW := Lib.hid hr
  clear hr
  go_enter Tryd.func32, Tryd.ntmps32
  go_wp2_with fail
  have hal : Hid (meetL (l.take 0) = S4.all) := rfl
  refine (setAll_any _).mono ?_
  rintro e w1 ⟨rfl, hb1⟩
  have E0 := Lib.hid (heap_keep1 ((hb1.block _ (by simp)).trans (new_at1 (w := w) (.cells (setA S4.zero) 24))) (.cells (setA (meetL (l.take 0))) 24))
  have E1 := Lib.hid (new_at1 (w := w1) (.cells (setA (meetL (l.take 0))) 24))
  have hb0 := Lib.hid (below_new (below_from (below_new (Below.refl w.heap.size w) _) hb1) (.cells (setA (meetL (l.take 0))) 24))
  have hB : w.heap.size < w1.heap.size := by have := hb1.size; simp at this; omega
  rw [← hal.out]
  clear hb1 hal
  generalize hal2 : setV (meetL (l.take 0)) = va at *
  subst hal2
  go_wp2_with fail
  go_loopw [10] (fun i wr => ∃ (k : Nat), k ≤ l.length ∧ i = .int .i64 (k : Nat) ∧ Hid (wr.heap[w.heap.size]? = some (.cells (setA S4.zero) 24 (0, 0))) ∧ Hid (wr.heap[w1.heap.size]? = some (.cells (setA (meetL (l.take k))) 24 (0, 0))) ∧ Hid (Below w.heap.size w wr)) (fun i _ => l.length - (intOf i).toNat)
  case atStart => exact ⟨0, Nat.zero_le _, rfl, E0, E1, hb0⟩
  case round =>
    clear E0 E1 hb0
    obtain ⟨k, hk, rfl, E0, E1, hb⟩ := hrel
    by_cases hlt : k < l.length
    · obtain ⟨s, hs⟩ : ∃ s, l[k]? = some s := ⟨l[k], by simp [hlt]⟩
      have hT := Lib.hid (meetL_take hs)
      obtain ⟨ad, hA, p0, p1, p2, p3⟩ := rowS_cells (HRW.out.below hb.out) hs
      subst hA
      generalize meetL (l.take k) = o at *
      have gk : decide ((k : Int) < (l.length : Int)) = true := by simp; omega
      clear hs
      go_wp2_with fail
      have F0 := Lib.hid (heap_keep1 E0.out (.cells (setA s) 24))
      have F1 := Lib.hid (heap_keep1 E1.out (.cells (setA s) 24))
      have F2 := Lib.hid (new_at1 (w := wr) (.cells (setA s) 24))
      have hb1 := Lib.hid (below_new hb.out (.cells (setA s) 24))
      have hsz := hb.out.size
      have hB1 := lt_of_block E1.out
      clear p0 p1 p2 p3 E0 E1 hb
      obtain ⟨wo, rfl⟩ : ∃ wo : World, wo = wr := ⟨_, rfl⟩
      go_loopw [14] (fun i wi => ∃ (j : Nat), j ≤ 4 ∧ i = .int .i64 (j : Nat) ∧ Hid (wi.heap[w.heap.size]? = some (.cells (setA S4.zero) 24 (0, 0))) ∧ Hid (wi.heap[w1.heap.size]? = some (.cells (setA (o.andTo s j)) 24 (0, 0))) ∧ Hid (wi.heap[wo.heap.size]? = some (.cells (setA s) 24 (0, 0))) ∧ Hid (Below w.heap.size w wi)) (fun i _ => 4 - (intOf i).toNat)
      case atStart => exact ⟨0, by omega, rfl, F0, F1, F2, hb1⟩
      case round =>
        clear F0 F1 F2 hb1
        obtain ⟨j, hj, rfl, F0, F1, F2, hb1⟩ := hrel
        obtain ⟨⟨z0, z1, z2, z3⟩, v0, v1, v2, v3⟩ := cells4_of F2.out
        obtain ⟨⟨y0, y1, y2, y3⟩, u0, u1, u2, u3⟩ := cells4_of F1.out
        obtain rfl | rfl | rfl | rfl | rfl : j = 0 ∨ j = 1 ∨ j = 2 ∨ j = 3 ∨ j = 4 := by omega
        · have hw := bits_and_u o.a s.a
          simp only [S4.andTo] at y0 y1 y2 y3
          go_wp2_with fail
          go_region
          go_wp2_with fail
          go_roundw
          case rel => exact ⟨1, by omega, rfl, (Below.heap_setCell _ _ _ _ (by first | (simp; done) | (simp; omega) | omega)).trans F0.out, (four_set F1.out).1, (Below.heap_setCell _ _ _ _ (by first | (simp; done) | (simp; omega) | omega)).trans F2.out, (hb1.out.setCell (by first | (simp; done) | (simp; omega) | omega) _).drew⟩
          case measure => simp [intOf]
        · have hw := bits_and_u o.b s.b
          simp only [S4.andTo] at y0 y1 y2 y3
          go_wp2_with fail
          go_region
          go_wp2_with fail
          go_roundw
          case rel => exact ⟨2, by omega, rfl, (Below.heap_setCell _ _ _ _ (by first | (simp; done) | (simp; omega) | omega)).trans F0.out, (four_set F1.out).2.1, (Below.heap_setCell _ _ _ _ (by first | (simp; done) | (simp; omega) | omega)).trans F2.out, (hb1.out.setCell (by first | (simp; done) | (simp; omega) | omega) _).drew⟩
          case measure => simp [intOf]
        · have hw := bits_and_u o.c s.c
          simp only [S4.andTo] at y0 y1 y2 y3
          go_wp2_with fail
          go_region
          go_wp2_with fail
          go_roundw
          case rel => exact ⟨3, by omega, rfl, (Below.heap_setCell _ _ _ _ (by first | (simp; done) | (simp; omega) | omega)).trans F0.out, (four_set F1.out).2.2.1, (Below.heap_setCell _ _ _ _ (by first | (simp; done) | (simp; omega) | omega)).trans F2.out, (hb1.out.setCell (by first | (simp; done) | (simp; omega) | omega) _).drew⟩
          case measure => simp [intOf]
        · have hw := bits_and_u o.d s.d
          simp only [S4.andTo] at y0 y1 y2 y3
          go_wp2_with fail
          go_region
          go_wp2_with fail
          go_roundw
          case rel => exact ⟨4, by omega, rfl, (Below.heap_setCell _ _ _ _ (by first | (simp; done) | (simp; omega) | omega)).trans F0.out, (four_set F1.out).2.2.2, (Below.heap_setCell _ _ _ _ (by first | (simp; done) | (simp; omega) | omega)).trans F2.out, (hb1.out.setCell (by first | (simp; done) | (simp; omega) | omega) _).drew⟩
          case measure => simp [intOf]
        · go_wp2_with fail
          go_roundw
          case rel => exact ⟨k + 1, by omega, by go_num, F0, by rw [hT.out]; exact F1, hb1⟩
          case measure => simp [intOf]; omega
    · have he : k = l.length := by omega
      subst he
      have g : decide ((l.length : Int) < (l.length : Int)) = false := by simp
      rw [List.take_length] at E1
      obtain ⟨⟨x0, x1, x2, x3⟩, _⟩ := cells4_of E1.out
      obtain ⟨⟨y0, y1, y2, y3⟩, v0, v1, v2, v3⟩ := cells4_of E0.out
      go_wp2_with fail
      refine bodyPost_ret (v := setV (meetL l)) (by simp [results, Tryd.results32, go_sem, y0, y1, y2, y3]) rfl ⟨rfl, ?_⟩
      exact four_below hb.out (by omega)
end Go.Proofs.YthagcmpehpgmpaaDoor
