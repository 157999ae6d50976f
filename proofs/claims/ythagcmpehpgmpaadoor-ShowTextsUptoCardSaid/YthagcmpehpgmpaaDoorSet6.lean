/- Sets of bytes: of a range. -/
import Derived.Test.YthagcmpehpgmpaaDoorSet5
namespace Go.Proofs.YthagcmpehpgmpaaDoor
open Go.RowKit
set_option linter.unusedVariables false
set_option linter.unusedSimpArgs false

/-- the set of n bytes from lo on -/
def setRun (lo : Nat) : Nat → S4
  | 0 => S4.zero
  | n + 1 => (setRun lo n).with' (lo + n)

set_option maxRecDepth 100000 in
set_option maxHeartbeats 8000000 in
theorem refRange_any (lo hi : Int) (w : World) (h0 : 0 ≤ lo) (h1 : lo ≤ 255) (h2 : 0 ≤ hi) (h3 : hi ≤ 255) :
    Calls Tryd.prog 25 #[.int .i64 lo, .int .i64 hi] w fun e w' => e = .returned (setV (setRun lo.toNat (hi.toNat + 1 - lo.toNat))) ∧ Below w.heap.size w w' := by
  obtain ⟨l, rfl⟩ : ∃ l : Nat, lo = (l : Int) := ⟨lo.toNat, by omega⟩
  obtain ⟨u, rfl⟩ : ∃ u : Nat, hi = (u : Int) := ⟨hi.toNat, by omega⟩
  simp only [Int.toNat_natCast]
  go_enter Tryd.func25, Tryd.ntmps25
  go_wp2_with fail
  obtain ⟨e1, e2⟩ := two_blocks (w := w) (o1 := .cells (setA S4.zero) 24) (o2 := .cells (setA S4.zero) 24) (Below.refl _ _)
  have hb0 : Below w.heap.size w ((w.alloc (.cells (setA S4.zero) 24)).alloc (.cells (setA S4.zero) 24)) := below_new (below_new (Below.refl _ _) _) _
  have E1 := Lib.hid e1
  have E2 := Lib.hid e2
  clear e1 e2
  go_loopw [6] (fun i wr => ∃ (k : Nat), k ≤ u + 1 - l ∧ i = .int .i64 (l + k : Nat) ∧ Hid (wr.heap[w.heap.size]? = some (.cells (setA S4.zero) 24 (0, 0))) ∧ Hid (wr.heap[w.heap.size + 1]? = some (.cells (setA (setRun l k)) 24 (0, 0))) ∧ Below w.heap.size w wr) (fun i _ => 300 - (intOf i).toNat)
  case atStart => exact ⟨0, Nat.zero_le _, rfl, E1, E2, hb0⟩
  case round =>
    clear E1 E2 hb0
    obtain ⟨k, hk, rfl, E1, E2, hb⟩ := hrel
    obtain ⟨⟨x0, x1, x2, x3⟩, f0, f1, f2, f3⟩ := cells4_of E1.out
    obtain ⟨⟨y0, y1, y2, y3⟩, g0, g1, g2, g3⟩ := cells4_of E2.out
    have L1 := Lib.hid (lt_of_block E1.out)
    have L2 := Lib.hid (lt_of_block E2.out)
    by_cases hlt : l + k ≤ u
    · have hT : Hid (setRun l (k + 1) = (setRun l k).with' (l + k)) := rfl
      generalize setRun l k = s0 at *
      obtain ⟨m, hm⟩ : ∃ m, l + k = m := ⟨_, rfl⟩
      rw [hm] at hT hlt ⊢
      have HM := Lib.hid hm
      clear hm
      have g : decide ((m : Int) ≤ (u : Int)) = true := by simp; omega
      go_wp2_with fail
      refine (refWith_any s0 (m : Int) wr (by omega) (by omega)).mono ?_
      rintro e w1 ⟨rfl, hb1⟩
      have hb2 : Below w.heap.size w w1 := below_from hb hb1
      have E3 := Lib.hid ((hb1.block _ L1.out).trans E1.out)
      have E4 := Lib.hid ((hb1.block _ L2.out).trans E2.out)
      obtain ⟨⟨z0, z1, z2, z3⟩, v0, v1, v2, v3⟩ := cells4_of E4.out
      simp only [Int.toNat_natCast]
      generalize s0.with' m = s2 at *
      clear hb1 x0 x1 x2 x3 f0 f1 f2 f3 y0 y1 y2 y3 g0 g1 g2 g3
      go_wp2_with fail
      go_roundw
      case rel => exact ⟨k + 1, by have := HM.out; omega, by have := HM.out; go_num, (four_other (by omega)).trans E3.out, by rw [hT.out]; exact four_setCells E4.out, four_below hb2 (by omega)⟩
      case measure => simp [intOf]; omega
    · have he : k = u + 1 - l := by omega
      subst he
      have g : decide (((l + (u + 1 - l) : Nat) : Int) ≤ (u : Int)) = false := by simp; omega
      go_wp2_with fail
      refine bodyPost_ret (v := setV (setRun l (u + 1 - l))) (by simp [results, Tryd.results25, go_sem, x0, x1, x2, x3, y0, y1, y2, y3]) rfl ⟨rfl, ?_⟩
      exact four_below hb (Nat.le_refl _)
end Go.Proofs.YthagcmpehpgmpaaDoor
