/- Sets, several: the code's. -/
import Derived.Test.YthagcmpehpgmpaaDoorSet9
import Derived.Test.YthagcmpehpgmpaaDoorText1
import Derived.RegionTactic
namespace Go.Proofs.YthagcmpehpgmpaaDoor
open Go.RowKit
set_option linter.unusedVariables false
set_option linter.unusedSimpArgs false

abbrev setCells (s : S4) : List Value := [.int .u64 (s.a.toNat : Int), .int .u64 (s.b.toNat : Int), .int .u64 (s.c.toNat : Int), .int .u64 (s.d.toNat : Int)]
/-- a slice's cells hold these sets, four cells each -/
def RowS (w : World) (A : Option Addr) (l : List S4) : Prop :=
  ∀ k s, l[k]? = some s → ∃ ad, A = some ad ∧ ∀ j u, (setCells s)[j]? = some u → w.cell? (ad.add (k * 4 + j)) = some u
theorem RowS.below {w w' : World} (hb : Below w.heap.size w w') {A : Option Addr} {l : List S4} (h : RowS w A l) : RowS w' A l := fun k s hk => by
  obtain ⟨ad, e, hc⟩ := h k s hk
  exact ⟨ad, e, fun j u hu => keep_cell hb (hc j u hu)⟩
theorem rowS_cells {w : World} {A : Option Addr} {l : List S4} (h : RowS w A l) {k : Nat} {s : S4} (hk : l[k]? = some s) :
    ∃ ad, A = some ad ∧ w.cell? (ad.add (k * 4)) = some (.int .u64 (s.a.toNat : Int)) ∧
      w.cell? ⟨(ad.add (k * 4)).block, (ad.add (k * 4)).off + 1, none⟩ = some (.int .u64 (s.b.toNat : Int)) ∧
      w.cell? ⟨(ad.add (k * 4)).block, (ad.add (k * 4)).off + 2, none⟩ = some (.int .u64 (s.c.toNat : Int)) ∧
      w.cell? ⟨(ad.add (k * 4)).block, (ad.add (k * 4)).off + 3, none⟩ = some (.int .u64 (s.d.toNat : Int)) := by
  obtain ⟨ad, e, hc⟩ := h k s hk
  have hj : ∀ j u, j ≠ 0 → (setCells s)[j]? = some u → w.cell? ⟨(ad.add (k * 4)).block, (ad.add (k * 4)).off + j, none⟩ = some u := by
    intro j u h0 hu
    rw [← hc j u hu]
    congr 1
    unfold Addr.add
    by_cases h1 : k * 4 = 0 <;> simp [h1, h0, Nat.add_assoc]
  exact ⟨ad, e, by simpa using hc 0 _ rfl, hj 1 _ (by decide) rfl, hj 2 _ (by decide) rfl, hj 3 _ (by decide) rfl⟩
/-- the union of some -/
def joinL (l : List S4) : S4 := l.foldl S4.or S4.zero
def meetL (l : List S4) : S4 := l.foldl S4.and S4.all
theorem joinL_take {l : List S4} {k : Nat} {s : S4} (h : l[k]? = some s) : joinL (l.take (k + 1)) = (joinL (l.take k)).or s := by
  unfold joinL
  rw [List.take_add_one, h, List.foldl_append]
  rfl
theorem meetL_take {l : List S4} {k : Nat} {s : S4} (h : l[k]? = some s) : meetL (l.take (k + 1)) = (meetL (l.take k)).and s := by
  unfold meetL
  rw [List.take_add_one, h, List.foldl_append]
  rfl

set_option maxRecDepth 100000 in
set_option maxHeartbeats 16000000 in
theorem setJoin_any (l : List S4) (A : Option Addr) (c : Nat) (w : World) (hm : l.length ≤ 1000000000) (hr : RowS w A l) :
    Calls Tryd.prog 31 #[.slice A l.length c] w fun e w' => e = .returned (setV (joinL l)) ∧ Below w.heap.size w w' := by
  have HRW := Lib.hid hr
  clear hr
  go_enter Tryd.func31, Tryd.ntmps31
  go_wp2_with fail
  obtain ⟨e1, e2⟩ := two_blocks (w := w) (o1 := .cells (setA S4.zero) 24) (o2 := .cells (setA S4.zero) 24) (Below.refl _ _)
  have hb0 := Lib.hid (below_new (below_new (Below.refl w.heap.size w) (.cells (setA S4.zero) 24)) (.cells (setA S4.zero) 24))
  have E0 := Lib.hid e1
  have E1 := Lib.hid e2
  have hB : w.heap.size < w.heap.size + 1 := by omega
  clear e1 e2
  go_loopw [9] (fun i wr => ∃ (k : Nat), k ≤ l.length ∧ i = .int .i64 (k : Nat) ∧ Hid (wr.heap[w.heap.size]? = some (.cells (setA S4.zero) 24 (0, 0))) ∧ Hid (wr.heap[w.heap.size + 1]? = some (.cells (setA (joinL (l.take k))) 24 (0, 0))) ∧ Hid (Below w.heap.size w wr)) (fun i _ => l.length - (intOf i).toNat)
  case atStart => exact ⟨0, Nat.zero_le _, rfl, E0, E1, hb0⟩
  case round =>
    clear E0 E1 hb0
    obtain ⟨k, hk, rfl, E0, E1, hb⟩ := hrel
    by_cases hlt : k < l.length
    · obtain ⟨s, hs⟩ : ∃ s, l[k]? = some s := ⟨l[k], by simp [hlt]⟩
      have hT := Lib.hid (joinL_take hs)
      obtain ⟨ad, hA, p0, p1, p2, p3⟩ := rowS_cells (HRW.out.below hb.out) hs
      subst hA
      generalize joinL (l.take k) = o at *
      have gk : decide ((k : Int) < (l.length : Int)) = true := by simp; omega
      clear hs
      go_wp2_with fail
      have F0 := Lib.hid (heap_keep1 E0.out (.cells (setA s) 24))
      have F1 := Lib.hid (heap_keep1 E1.out (.cells (setA s) 24))
      have F2 := Lib.hid (new_at1 (w := wr) (.cells (setA s) 24))
      have hb1 := Lib.hid (below_new hb.out (.cells (setA s) 24))
      have hsz := hb.out.size
      have hB1 := lt_of_block E1.out
      clear p0 p1 p2 p3 E0 E1 hb
      obtain ⟨wo, rfl⟩ : ∃ wo : World, wo = wr := ⟨_, rfl⟩
      go_loopw [13] (fun i wi => ∃ (j : Nat), j ≤ 4 ∧ i = .int .i64 (j : Nat) ∧ Hid (wi.heap[w.heap.size]? = some (.cells (setA S4.zero) 24 (0, 0))) ∧ Hid (wi.heap[w.heap.size + 1]? = some (.cells (setA (o.orTo s j)) 24 (0, 0))) ∧ Hid (wi.heap[wo.heap.size]? = some (.cells (setA s) 24 (0, 0))) ∧ Hid (Below w.heap.size w wi)) (fun i _ => 4 - (intOf i).toNat)
      case atStart => exact ⟨0, by omega, rfl, F0, F1, F2, hb1⟩
      case round =>
        clear F0 F1 F2 hb1
        obtain ⟨j, hj, rfl, F0, F1, F2, hb1⟩ := hrel
        obtain ⟨⟨z0, z1, z2, z3⟩, v0, v1, v2, v3⟩ := cells4_of F2.out
        obtain ⟨⟨y0, y1, y2, y3⟩, u0, u1, u2, u3⟩ := cells4_of F1.out
        obtain rfl | rfl | rfl | rfl | rfl : j = 0 ∨ j = 1 ∨ j = 2 ∨ j = 3 ∨ j = 4 := by omega
        · have hw := bits_or_u o.a s.a
          simp only [S4.orTo] at y0 y1 y2 y3
          go_wp2_with fail
          go_region
          go_wp2_with fail
          go_roundw
          case rel => exact ⟨1, by omega, rfl, (Below.heap_setCell _ _ _ _ (by first | (simp; done) | (simp; omega) | omega)).trans F0.out, (four_set F1.out).1, (Below.heap_setCell _ _ _ _ (by first | (simp; done) | (simp; omega) | omega)).trans F2.out, (hb1.out.setCell (by first | (simp; done) | (simp; omega) | omega) _).drew⟩
          case measure => simp [intOf]
        · have hw := bits_or_u o.b s.b
          simp only [S4.orTo] at y0 y1 y2 y3
          go_wp2_with fail
          go_region
          go_wp2_with fail
          go_roundw
          case rel => exact ⟨2, by omega, rfl, (Below.heap_setCell _ _ _ _ (by first | (simp; done) | (simp; omega) | omega)).trans F0.out, (four_set F1.out).2.1, (Below.heap_setCell _ _ _ _ (by first | (simp; done) | (simp; omega) | omega)).trans F2.out, (hb1.out.setCell (by first | (simp; done) | (simp; omega) | omega) _).drew⟩
          case measure => simp [intOf]
        · have hw := bits_or_u o.c s.c
          simp only [S4.orTo] at y0 y1 y2 y3
          go_wp2_with fail
          go_region
          go_wp2_with fail
          go_roundw
          case rel => exact ⟨3, by omega, rfl, (Below.heap_setCell _ _ _ _ (by first | (simp; done) | (simp; omega) | omega)).trans F0.out, (four_set F1.out).2.2.1, (Below.heap_setCell _ _ _ _ (by first | (simp; done) | (simp; omega) | omega)).trans F2.out, (hb1.out.setCell (by first | (simp; done) | (simp; omega) | omega) _).drew⟩
          case measure => simp [intOf]
        · have hw := bits_or_u o.d s.d
          simp only [S4.orTo] at y0 y1 y2 y3
          go_wp2_with fail
          go_region
          go_wp2_with fail
          go_roundw
          case rel => exact ⟨4, by omega, rfl, (Below.heap_setCell _ _ _ _ (by first | (simp; done) | (simp; omega) | omega)).trans F0.out, (four_set F1.out).2.2.2, (Below.heap_setCell _ _ _ _ (by first | (simp; done) | (simp; omega) | omega)).trans F2.out, (hb1.out.setCell (by first | (simp; done) | (simp; omega) | omega) _).drew⟩
          case measure => simp [intOf]
        · go_wp2_with fail
          go_roundw
          case rel => exact ⟨k + 1, by omega, by go_num, F0, by rw [hT.out]; exact F1, hb1⟩
          case measure => simp [intOf]; omega
    · have he : k = l.length := by omega
      subst he
      have g : decide ((l.length : Int) < (l.length : Int)) = false := by simp
      rw [List.take_length] at E1
      obtain ⟨⟨x0, x1, x2, x3⟩, _⟩ := cells4_of E1.out
      obtain ⟨⟨y0, y1, y2, y3⟩, v0, v1, v2, v3⟩ := cells4_of E0.out
      go_wp2_with fail
      refine bodyPost_ret (v := setV (joinL l)) (by simp [results, Tryd.results31, go_sem, y0, y1, y2, y3]) rfl ⟨rfl, ?_⟩
      exact four_below hb.out (by omega)
end Go.Proofs.YthagcmpehpgmpaaDoor
