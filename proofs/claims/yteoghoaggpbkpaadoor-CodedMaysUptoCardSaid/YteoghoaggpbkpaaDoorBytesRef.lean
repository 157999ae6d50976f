/- A set's bytes, as the document has them. -/
import Derived.Test.YteoghoaggpbkpaaDoorSet7
import Derived.Test.YteoghoaggpbkpaaDoorNum4
namespace Go.Proofs.YteoghoaggpbkpaaDoor
open Go.RowKit
set_option linter.unusedVariables false
set_option linter.unusedSimpArgs false

/-- a set's bytes below n -/
def bytesTo (s : S4) : Nat → List UInt8
  | 0 => []
  | n + 1 => if s.has n then bytesTo s n ++ [UInt8.ofNat n] else bytesTo s n
def bytesOf (s : S4) : List UInt8 := bytesTo s 256
theorem bytesTo_length (s : S4) (n : Nat) : (bytesTo s n).length ≤ n := by
  induction n with
  | zero => simp [bytesTo]
  | succ n ih =>
    simp only [bytesTo]
    split
    · rw [List.length_append, List.length_singleton]; omega
    · omega
theorem new_at1 {w : World} (o : Obj) : (w.alloc o).heap[w.heap.size]? = some o := heap_alloc_new w o
theorem heap_keep1 {W : World} {b : Nat} {x : Obj} (h : W.heap[b]? = some x) (o : Obj) : (W.alloc o).heap[b]? = some x :=
  (Below.heap_alloc W o b (lt_of_block h)).trans h
def BytesPost (l : List UInt8) (w : World) (e : Ending) (w' : World) : Prop := ∃ A c, e = .returned (.slice A l.length c) ∧ l.length ≤ c ∧ Row1 encB w' A l ∧ Below w.heap.size w w'

set_option maxRecDepth 100000 in
set_option maxHeartbeats 4000000 in
theorem refBytes_any (s : S4) (w : World) :
    Calls Tryd.prog 47 #[setV s] w (BytesPost (bytesOf s) w) := by
  go_enter Tryd.func47, Tryd.ntmps47
  go_wp2_with fail
  have E0 := Lib.hid (heap_keep1 (new_at1 (w := w) (.cells (setA s) 27)) (.cells #[] 5))
  have hb0 : Below w.heap.size w ((w.alloc (.cells (setA s) 27)).alloc (.cells #[] 5)) := below_new (below_new (Below.refl _ _) _) _
  have hown := World.ownsRow_lit (base := w.heap.size + 1) (e := 5) (size := 1) (w.alloc (.cells (setA s) 27)) #[] 0 (by simp) (by decide) rfl
  rw [World.size_alloc] at hown
  go_loopw [3, 4] (fun o i wr => ∃ (k : Nat), k ≤ 256 ∧ i = .int .i64 k ∧ wr.ownsRow (w.heap.size + 1) 5 1 o (bytesTo s k).length ((bytesTo s k).map encB) ∧ Hid (wr.heap[w.heap.size]? = some (.cells (setA s) 27 (0, 0))) ∧ Below w.heap.size w wr) (fun _ i _ => 256 - (intOf i).toNat)
  case atStart => exact ⟨0, Nat.zero_le _, rfl, hown, E0, hb0⟩
  case round =>
    clear hown E0 hb0
    obtain ⟨k, hk, rfl, ho, E1, hb⟩ := hrel
    obtain ⟨A2, c2, rfl, hc2, hs2⟩ := own_slice ho
    have hle := bytesTo_length s k
    by_cases hlt : k < 256
    · obtain ⟨⟨x0, x1, x2, x3⟩, f0, f1, f2, f3⟩ := cells4_of E1.out
      clear f0 f1 f2 f3
      have HT : Hid (bytesTo s (k + 1) = if s.has k then bytesTo s k ++ [UInt8.ofNat k] else bytesTo s k) := rfl
      go_wp2_with fail
      refine (refHas_any s (k : Int) wr (by omega) (by omega)).mono ?_
      rintro e w1 ⟨rfl, hb1⟩
      have hb2 := below_from hb hb1
      have E2 := Lib.hid ((hb1.block _ (lt_of_block E1.out)).trans E1.out)
      have ho1 := ho.kept (w' := w1) (row := none) ⟨hb1.os, hb1.tape, hb1.output, hb1.size, fun k hk _ => hb1.block k hk⟩ (by cases hv : (Value.slice A2 (bytesTo s k).length c2).ownBlock <;> simp)
      simp only [Int.toNat_natCast]
      cases hh : s.has k with
      | false =>
        rw [hh] at HT
        clear hh ho hs2 hb1 hb x0 x1 x2 x3 E1
        go_wp2_with fail
        go_roundw
        case rel => exact ⟨k + 1, by omega, by go_num, by rw [HT.out]; exact ho1, E2, hb2⟩
        case measure => simp [intOf]; omega
      | true =>
        rw [hh] at HT
        clear hh ho hs2 hb1 hb x0 x1 x2 x3 E1
        have hk8 : ((UInt8.ofNat k).toNat : Int) = (k : Int) := by simp; omega
        have hsrc := new_src w1 1 1 #[.int .u8 (k : Int)] 5 rfl
        have hsz := hb2.size
        have HSZ := Lib.hid hsz
        clear hsz
        have HL := Lib.hid hle
        have L2 := Lib.hid (lt_of_block E2.out)
        go_wp2_with (at_builtin; refine wpList_app _ rfl (.tmp 13) (.tmp 16) 71 rfl (w.heap.size + 1) 5 (.int .u8 0) 1 1 Tryd.underlying71 Tryd.info_u8 rfl (by decide) (.slice A2 (bytesTo s k).length c2) (bytesTo s k).length _ rfl (ho1.alloc _) (some ⟨w1.heap.size, 0, none⟩) 1 1 _ rfl hsrc ?h1 ?h2 ?h3 ?h4 ?_)
        case h1 => rfl
        case h2 => unfold maxLen; have := HL.out; omega
        case h3 => have := HL.out; omega
        case h4 => have := HSZ.out; simp; omega
        intro v3 w3 ho3 hg3 _
        have hb3 : Below w.heap.size w w3 := (below_new hb2 _).grown hg3 (by have := HSZ.out; simp; omega) (fun j hj => by have := own_base ho1 j hj; omega)
        have E3 : Hid (w3.heap[w.heap.size]? = some (.cells (setA s) 27 (0, 0))) := (hg3.block _ (by have := L2.out; simp; omega) (fun e => by have := own_base ho1 _ e.symm; omega)).trans (heap_keep1 E2.out _)
        clear hg3 ho1 hsrc
        go_wp2_with fail
        go_roundw
        case rel => exact ⟨k + 1, by omega, by go_num, by rw [HT.out]; simp only [if_true, List.map_append, List.length_append, List.map_cons, List.map_nil, List.length_cons, List.length_nil, encB, hk8]; exact ho3, E3, hb3⟩
        case measure => simp [intOf]; omega
    · have he : k = 256 := by omega
      subst he
      go_wp2_with fail
      go_ret
      exact ⟨A2, c2, rfl, hc2, hs2.row1, hb⟩
end Go.Proofs.YteoghoaggpbkpaaDoor
