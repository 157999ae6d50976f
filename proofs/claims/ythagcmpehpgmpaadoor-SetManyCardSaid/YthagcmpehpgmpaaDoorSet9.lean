/- Sets, two by two: the document's. -/
import Derived.Test.YthagcmpehpgmpaaDoorSet8
namespace Go.Proofs.YthagcmpehpgmpaaDoor
open Go.RowKit
set_option linter.unusedVariables false
set_option linter.unusedSimpArgs false

/-- four new blocks -/
theorem four_blocks (w : World) (o0 o1 o2 o3 : Obj) :
    ((((w.alloc o0).alloc o1).alloc o2).alloc o3).heap[w.heap.size]? = some o0 ∧ ((((w.alloc o0).alloc o1).alloc o2).alloc o3).heap[w.heap.size + 1]? = some o1 ∧
    ((((w.alloc o0).alloc o1).alloc o2).alloc o3).heap[w.heap.size + 1 + 1]? = some o2 ∧ ((((w.alloc o0).alloc o1).alloc o2).alloc o3).heap[w.heap.size + 1 + 1 + 1]? = some o3 := by
  have h0 := new_at1 (w := w) o0
  have h1 := new_at1 (w := w.alloc o0) o1
  have h2 := new_at1 (w := (w.alloc o0).alloc o1) o2
  have h3 := new_at1 (w := ((w.alloc o0).alloc o1).alloc o2) o3
  rw [World.size_alloc] at h1
  rw [World.size_alloc, World.size_alloc] at h2
  rw [World.size_alloc, World.size_alloc, World.size_alloc] at h3
  exact ⟨heap_keep1 (heap_keep1 (heap_keep1 h0 _) _) _, heap_keep1 (heap_keep1 h1 _) _, heap_keep1 h2 _, h3⟩
theorem below_four (w : World) (o0 o1 o2 o3 : Obj) : Below w.heap.size w ((((w.alloc o0).alloc o1).alloc o2).alloc o3) :=
  below_new (below_new (below_new (below_new (Below.refl _ _) _) _) _) _

set_option maxRecDepth 100000 in
set_option maxHeartbeats 8000000 in
theorem refJoin_any (s t : S4) (w : World) :
    Calls Tryd.prog 29 #[setV s, setV t] w fun e w' => e = .returned (setV (s.or t)) ∧ Below w.heap.size w w' := by
  have HJ := Lib.hid (joinTo_all s t)
  go_enter Tryd.func29, Tryd.ntmps29
  go_wp2_with fail
  obtain ⟨_, e1, e2, e3⟩ := four_blocks w (.cells (setA s) 24) (.cells (setA t) 24) (.cells (setA S4.zero) 24) (.cells (setA s) 24)
  have hb0 := Lib.hid (below_four w (.cells (setA s) 24) (.cells (setA t) 24) (.cells (setA S4.zero) 24) (.cells (setA s) 24))
  have E1 := Lib.hid e1
  have E2 := Lib.hid e2
  have E3 := Lib.hid e3
  clear e1 e2 e3
  go_loopw [6] (fun i wr => ∃ (k : Nat), k ≤ 256 ∧ i = .int .i64 (k : Nat) ∧ Hid (wr.heap[w.heap.size + 1]? = some (.cells (setA t) 24 (0, 0))) ∧ Hid (wr.heap[w.heap.size + 1 + 1]? = some (.cells (setA S4.zero) 24 (0, 0))) ∧ Hid (wr.heap[w.heap.size + 1 + 1 + 1]? = some (.cells (setA (joinTo s t k)) 24 (0, 0))) ∧ Hid (Below w.heap.size w wr)) (fun i _ => 256 - (intOf i).toNat)
  case atStart => exact ⟨0, Nat.zero_le _, rfl, E1, E2, E3, hb0⟩
  case round =>
    clear E1 E2 E3 hb0
    obtain ⟨k, hk, rfl, E1, E2, E3, hb⟩ := hrel
    by_cases hlt : k < 256
    · obtain ⟨⟨x0, x1, x2, x3⟩, _⟩ := cells4_of E1.out
      have hT : Hid (joinTo s t (k + 1) = if t.has k then (joinTo s t k).with' k else joinTo s t k) := rfl
      generalize joinTo s t k = s0 at *
      have g : decide ((k : Int) < 256) = true := by simp; omega
      go_wp2_with fail
      refine (refHas_any t (k : Int) wr (by omega) (by omega)).mono ?_
      rintro e w1 ⟨rfl, hb1⟩
      have F1 := Lib.hid ((hb1.block _ (lt_of_block E1.out)).trans E1.out)
      have F2 := Lib.hid ((hb1.block _ (lt_of_block E2.out)).trans E2.out)
      have F3 := Lib.hid ((hb1.block _ (lt_of_block E3.out)).trans E3.out)
      have hb2 := Lib.hid (below_from hb.out hb1)
      simp only [Int.toNat_natCast]
      clear hb1 hb E1 E2 E3 x0 x1 x2 x3
      cases hh : t.has k with
      | false =>
        rw [hh] at hT
        clear hh
        go_wp2_with fail
        go_roundw
        case rel => exact ⟨k + 1, by omega, by go_num, F1, F2, by rw [hT.out]; exact F3, hb2⟩
        case measure => simp [intOf]; omega
      | true =>
        rw [hh] at hT
        clear hh
        obtain ⟨⟨z0, z1, z2, z3⟩, _⟩ := cells4_of F3.out
        go_wp2_with fail
        refine (refWith_any s0 (k : Int) w1 (by omega) (by omega)).mono ?_
        rintro e w2 ⟨rfl, hb3⟩
        have G1 := Lib.hid ((hb3.block _ (lt_of_block F1.out)).trans F1.out)
        have G2 := Lib.hid ((hb3.block _ (lt_of_block F2.out)).trans F2.out)
        have G3 := Lib.hid ((hb3.block _ (lt_of_block F3.out)).trans F3.out)
        have hb4 := Lib.hid (below_from hb2.out hb3)
        simp only [Int.toNat_natCast]
        generalize s0.with' k = s2 at *
        clear hb3 hb2 F1 F2 F3 z0 z1 z2 z3
        obtain ⟨⟨z0, z1, z2, z3⟩, v0, v1, v2, v3⟩ := cells4_of G3.out
        go_wp2_with fail
        go_roundw
        case rel => exact ⟨k + 1, by omega, by go_num, (four_other (by omega)).trans G1.out, (four_other (by omega)).trans G2.out, by rw [hT.out]; exact four_setCells G3.out, four_below hb4.out (by omega)⟩
        case measure => simp [intOf]; omega
    · have he : k = 256 := by omega
      subst he
      have g : decide (((256 : Nat) : Int) < 256) = false := by simp
      rw [HJ.out] at E3
      obtain ⟨⟨x0, x1, x2, x3⟩, _⟩ := cells4_of E3.out
      obtain ⟨⟨y0, y1, y2, y3⟩, v0, v1, v2, v3⟩ := cells4_of E2.out
      go_wp2_with fail
      refine bodyPost_ret (v := setV (s.or t)) (by simp [results, Tryd.results29, go_sem, y0, y1, y2, y3]) rfl ⟨rfl, ?_⟩
      exact four_below hb.out (by omega)

theorem four_three (w : World) (o0 o1 o2 : Obj) : Below w.heap.size w (((w.alloc o0).alloc o1).alloc o2) := below_new (below_new (below_new (Below.refl _ _) _) _) _

set_option maxRecDepth 100000 in
set_option maxHeartbeats 8000000 in
theorem refMeet_any (s t : S4) (both : Bool) (w : World) :
    Calls Tryd.prog 30 #[setV s, setV t, .bool both] w fun e w' => e = .returned (setV (meetTo s t both 256)) ∧ Below w.heap.size w w' := by
  go_enter Tryd.func30, Tryd.ntmps30
  go_wp2_with fail
  obtain ⟨e0, e1, e2, e3⟩ := four_blocks w (.cells (setA s) 24) (.cells (setA t) 24) (.cells (setA S4.zero) 24) (.cells (setA S4.zero) 24)
  have hb0 := Lib.hid (below_four w (.cells (setA s) 24) (.cells (setA t) 24) (.cells (setA S4.zero) 24) (.cells (setA S4.zero) 24))
  have E0 := Lib.hid e0
  have E1 := Lib.hid e1
  have E2 := Lib.hid e2
  have E3 := Lib.hid e3
  clear e0 e1 e2 e3
  go_loopw [8] (fun i wr => ∃ (k : Nat), k ≤ 256 ∧ i = .int .i64 (k : Nat) ∧ Hid (wr.heap[w.heap.size]? = some (.cells (setA s) 24 (0, 0))) ∧ Hid (wr.heap[w.heap.size + 1]? = some (.cells (setA t) 24 (0, 0))) ∧ Hid (wr.heap[w.heap.size + 1 + 1]? = some (.cells (setA S4.zero) 24 (0, 0))) ∧ Hid (wr.heap[w.heap.size + 1 + 1 + 1]? = some (.cells (setA (meetTo s t both k)) 24 (0, 0))) ∧ Hid (Below w.heap.size w wr)) (fun i _ => 256 - (intOf i).toNat)
  case atStart => exact ⟨0, Nat.zero_le _, rfl, E0, E1, E2, E3, hb0⟩
  case round =>
    clear E0 E1 E2 E3 hb0
    obtain ⟨k, hk, rfl, E0, E1, E2, E3, hb⟩ := hrel
    by_cases hlt : k < 256
    · obtain ⟨⟨x0, x1, x2, x3⟩, _⟩ := cells4_of E0.out
      have hT : Hid (meetTo s t both (k + 1) = if s.has k && (t.has k == both) then (meetTo s t both k).with' k else meetTo s t both k) := rfl
      generalize meetTo s t both k = s0 at *
      have g : decide ((k : Int) < 256) = true := by simp; omega
      go_wp2_with fail
      refine (refHas_any s (k : Int) wr (by omega) (by omega)).mono ?_
      rintro e w1 ⟨rfl, hb1⟩
      have F0 := Lib.hid ((hb1.block _ (lt_of_block E0.out)).trans E0.out)
      have F1 := Lib.hid ((hb1.block _ (lt_of_block E1.out)).trans E1.out)
      have F2 := Lib.hid ((hb1.block _ (lt_of_block E2.out)).trans E2.out)
      have F3 := Lib.hid ((hb1.block _ (lt_of_block E3.out)).trans E3.out)
      have hb2 := Lib.hid (below_from hb.out hb1)
      simp only [Int.toNat_natCast]
      clear hb1 hb E0 E1 E2 E3 x0 x1 x2 x3
      cases hh : s.has k with
      | false =>
        rw [hh] at hT
        clear hh
        go_wp2_with fail
        go_roundw
        case rel => exact ⟨k + 1, by omega, by go_num, F0, F1, F2, by rw [hT.out]; exact F3, hb2⟩
        case measure => simp [intOf]; omega
      | true =>
        rw [hh] at hT
        clear hh
        obtain ⟨⟨z0, z1, z2, z3⟩, _⟩ := cells4_of F1.out
        go_wp2_with fail
        refine (refHas_any t (k : Int) w1 (by omega) (by omega)).mono ?_
        rintro e w2 ⟨rfl, hb3⟩
        have G0 := Lib.hid ((hb3.block _ (lt_of_block F0.out)).trans F0.out)
        have G1 := Lib.hid ((hb3.block _ (lt_of_block F1.out)).trans F1.out)
        have G2 := Lib.hid ((hb3.block _ (lt_of_block F2.out)).trans F2.out)
        have G3 := Lib.hid ((hb3.block _ (lt_of_block F3.out)).trans F3.out)
        have hb4 := Lib.hid (below_from hb2.out hb3)
        simp only [Int.toNat_natCast]
        clear hb3 hb2 F0 F1 F2 F3 z0 z1 z2 z3
        cases hh : (t.has k == both) with
        | false =>
          rw [hh] at hT
          go_wp2_with fail
          go_roundw
          case rel => exact ⟨k + 1, by omega, by go_num, G0, G1, G2, by rw [hT.out]; exact G3, hb4⟩
          case measure => simp [intOf]; omega
        | true =>
          rw [hh] at hT
          obtain ⟨⟨z0, z1, z2, z3⟩, _⟩ := cells4_of G3.out
          go_wp2_with fail
          refine (refWith_any s0 (k : Int) w2 (by omega) (by omega)).mono ?_
          rintro e w3 ⟨rfl, hb5⟩
          have K0 := Lib.hid ((hb5.block _ (lt_of_block G0.out)).trans G0.out)
          have K1 := Lib.hid ((hb5.block _ (lt_of_block G1.out)).trans G1.out)
          have K2 := Lib.hid ((hb5.block _ (lt_of_block G2.out)).trans G2.out)
          have K3 := Lib.hid ((hb5.block _ (lt_of_block G3.out)).trans G3.out)
          have hb6 := Lib.hid (below_from hb4.out hb5)
          simp only [Int.toNat_natCast]
          generalize s0.with' k = s2 at *
          clear hb5 hb4 G0 G1 G2 G3 z0 z1 z2 z3 hh
          obtain ⟨⟨z0, z1, z2, z3⟩, v0, v1, v2, v3⟩ := cells4_of K3.out
          go_wp2_with fail
          go_roundw
          case rel => exact ⟨k + 1, by omega, by go_num, (four_other (by omega)).trans K0.out, (four_other (by omega)).trans K1.out, (four_other (by omega)).trans K2.out, by rw [hT.out]; exact four_setCells K3.out, four_below hb6.out (by omega)⟩
          case measure => simp [intOf]; omega
    · have he : k = 256 := by omega
      subst he
      have g : decide (((256 : Nat) : Int) < 256) = false := by simp
      obtain ⟨⟨x0, x1, x2, x3⟩, _⟩ := cells4_of E3.out
      obtain ⟨⟨y0, y1, y2, y3⟩, v0, v1, v2, v3⟩ := cells4_of E2.out
      go_wp2_with fail
      refine bodyPost_ret (v := setV (meetTo s t both 256)) (by simp [results, Tryd.results30, go_sem, y0, y1, y2, y3]) rfl ⟨rfl, ?_⟩
      exact four_below hb.out (by omega)
end Go.Proofs.YthagcmpehpgmpaaDoor
