/- Sets of bytes: the document's, of bytes. -/
import Derived.Test.YthagcmpehpgmpaaDoorSet2
import Derived.Test.YthagcmpehpgmpaaDoorBytes
import Derived.StillTailTactics
namespace Go.Proofs.YthagcmpehpgmpaaDoor
open Go.RowKit
set_option linter.unusedVariables false
set_option linter.unusedSimpArgs false

abbrev setA (s : S4) : Array Value := #[.int .u64 (s.a.toNat : Int), .int .u64 (s.b.toNat : Int), .int .u64 (s.c.toNat : Int), .int .u64 (s.d.toNat : Int)]
/-- a block of four cells, written -/
theorem four_setCells {w : World} {b : Nat} {v0 v1 v2 v3 u0 u1 u2 u3 : Value} {t : TypeId} (h : w.heap[b]? = some (.cells #[v0, v1, v2, v3] t (0, 0))) :
    ((((w.setCell ⟨b, 0, none⟩ u0).setCell ⟨b, 1, none⟩ u1).setCell ⟨b, 2, none⟩ u2).setCell ⟨b, 3, none⟩ u3).heap[b]? = some (.cells #[u0, u1, u2, u3] t (0, 0)) := by
  have hlt := lt_of_block h
  have h' : w.heap[b] = .cells #[v0, v1, v2, v3] t (0, 0) := by simpa [Array.getElem?_eq_getElem hlt] using h
  simp [World.setCell, Array.getElem?_modify, h]
theorem four_other {w : World} {b k : Nat} {u0 u1 u2 u3 : Value} (hk : k ≠ b) :
    ((((w.setCell ⟨b, 0, none⟩ u0).setCell ⟨b, 1, none⟩ u1).setCell ⟨b, 2, none⟩ u2).setCell ⟨b, 3, none⟩ u3).heap[k]? = w.heap[k]? := by
  rw [Below.heap_setCell _ _ _ _ hk, Below.heap_setCell _ _ _ _ hk, Below.heap_setCell _ _ _ _ hk, Below.heap_setCell _ _ _ _ hk]
theorem four_below {w x : World} {b B : Nat} {u0 u1 u2 u3 : Value} (hb : Below B w x) (hB : B ≤ b) :
    Below B w ((((x.setCell ⟨b, 0, none⟩ u0).setCell ⟨b, 1, none⟩ u1).setCell ⟨b, 2, none⟩ u2).setCell ⟨b, 3, none⟩ u3) :=
  (((hb.setCell hB _).setCell hB _).setCell hB _).setCell hB _

theorem setFrom_take {l : List UInt8} {k : Nat} {x : UInt8} (h : l[k]? = some x) (s : S4) : setFrom s (l.take (k + 1)) = (setFrom s (l.take k)).with' x.toNat := by
  rw [List.take_add_one, h, setFrom_append]
  rfl

set_option maxRecDepth 100000 in
set_option maxHeartbeats 8000000 in
theorem refOf_any (l : List UInt8) (A : Option Addr) (c : Nat) (w : World) (hm : l.length ≤ 1000000000) (hc : l.length ≤ c) (hr : Row1 encB w A l) :
    Calls Tryd.prog 23 #[.slice A l.length c] w fun e w' => e = .returned (setV (setOf l)) ∧ Below w.heap.size w w' := by
  have HO : Hid (setOf l = setFrom S4.zero l) := rfl
  go_enter Tryd.func23, Tryd.ntmps23
  go_wp2_with fail
  obtain ⟨e1, e2⟩ := two_blocks (w := w) (o1 := .cells (setA S4.zero) 24) (o2 := .cells (setA S4.zero) 24) (Below.refl _ _)
  have hb0 : Below w.heap.size w ((w.alloc (.cells (setA S4.zero) 24)).alloc (.cells (setA S4.zero) 24)) := below_new (below_new (Below.refl _ _) _) _
  have E1 := Lib.hid e1
  have E2 := Lib.hid e2
  clear e1 e2
  go_loopw [4, 8] (fun _ i wr => ∃ (k : Nat), k ≤ l.length ∧ i = .int .i64 k ∧ Hid (wr.heap[w.heap.size]? = some (.cells (setA S4.zero) 24 (0, 0))) ∧ Hid (wr.heap[w.heap.size + 1]? = some (.cells (setA (setFrom S4.zero (l.take k))) 24 (0, 0))) ∧ Below w.heap.size w wr) (fun _ i _ => l.length - (intOf i).toNat)
  case atStart => exact ⟨0, Nat.zero_le _, rfl, E1, E2, hb0⟩
  case round =>
    clear E1 E2 hb0
    obtain ⟨k, hk, rfl, E1, E2, hb⟩ := hrel
    obtain ⟨⟨x0, x1, x2, x3⟩, f0, f1, f2, f3⟩ := cells4_of E1.out
    obtain ⟨⟨y0, y1, y2, y3⟩, g0, g1, g2, g3⟩ := cells4_of E2.out
    by_cases hlt : k < l.length
    · have hT := Lib.hid (setFrom_take (l := l) (k := k) (x := l[k]) (by simp [hlt]) S4.zero)
      generalize setFrom S4.zero (l.take k) = s0 at *
      obtain ⟨ad, hA, hcell⟩ := (hr.below hb) k l[k] (by simp [hlt])
      subst hA
      have hx := l[k].toNat_lt
      generalize l[k] = x at *
      go_wp2_with fail
      have L1 := Lib.hid (lt_of_block E1.out)
      have L2 := Lib.hid (lt_of_block E2.out)
      go_still_tail 6, (by kernel_rfl)
      go_wp2_with fail
      refine (refWith_any s0 _ _ (by omega) (by omega)).mono ?_
      rintro e w1 ⟨rfl, hb1⟩
      have hb2 : Below w.heap.size w w1 := below_from (pw_drewN hb 1) hb1
      have E3 := Lib.hid ((hb1.block _ L1.out).trans E1.out)
      have E4 := Lib.hid ((hb1.block _ L2.out).trans E2.out)
      obtain ⟨⟨z0, z1, z2, z3⟩, h0, h1, h2, h3⟩ := cells4_of E4.out
      have hT' : Hid (setFrom S4.zero (l.take (k + 1)) = s0.with' ((x.toNat : Int)).toNat) := by unfold Hid; rw [hT.out]; simp
      generalize s0.with' ((x.toNat : Int)).toNat = s2 at *
      clear hb1 hcell hr x0 x1 x2 x3 f0 f1 f2 f3 y0 y1 y2 y3 g0 g1 g2 g3
      go_wp2_with fail
      go_roundw
      case rel => exact ⟨k + 1, by omega, by go_num, (four_other (by omega)).trans E3.out, by rw [hT'.out]; exact four_setCells E4.out, four_below hb2 (by omega)⟩
      case measure => simp [intOf]; omega
    · have he : k = l.length := by omega
      subst he
      have g : decide ((l.length : Int) < (l.length : Int)) = false := by simp
      rw [List.take_length] at E2 y0 y1 y2 y3
      have HB := Lib.hid hb
      go_wp2_with fail
      refine bodyPost_ret (v := setV (setOf l)) (by rw [HO.out]; simp [results, Tryd.results23, go_sem, x0, x1, x2, x3, y0, y1, y2, y3]) rfl ⟨rfl, ?_⟩
      exact four_below hb (Nat.le_refl _)
end Go.Proofs.YthagcmpehpgmpaaDoor
