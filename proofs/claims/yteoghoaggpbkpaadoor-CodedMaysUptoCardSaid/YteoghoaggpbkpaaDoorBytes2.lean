/- A set's bytes. -/
import Derived.Test.YteoghoaggpbkpaaDoorTz3
namespace Go.Proofs.YteoghoaggpbkpaaDoor
open Go.RowKit
set_option linter.unusedVariables false
set_option linter.unusedSimpArgs false

theorem index_word (s : S4) (k : Nat) (hk : k < 4) : ∀ w : World, (Instr.index 27 (setV s) (.int .i64 k)).run Tryd.prog w = .ok (.int .u64 ((s.get k).toNat : Int)) w := by
  intro w
  obtain rfl | rfl | rfl | rfl : k = 0 ∨ k = 1 ∨ k = 2 ∨ k = 3 := by omega
  all_goals kernel_rfl
theorem wrap_pred (y : Nat) (h0 : 0 < y) (h1 : y < 18446744073709551616) : IntKind.u64.wrap ((y : Int) - 1) = ((y - 1 : Nat) : Int) := by
  simp [IntKind.wrap, IntKind.bits, IntKind.signed]
  omega

set_option maxRecDepth 100000 in
set_option maxHeartbeats 4000000 in
theorem setBytes_any (s : S4) (w : World) (ht : TzOk w) :
    Calls Tryd.prog 68 #[setV s] w (BytesPost (bytesOf s) w) := by
  have HT := Lib.hid ht
  clear ht
  go_enter Tryd.func68, Tryd.ntmps68
  go_wp2_with fail
  have hb0 : Below w.heap.size w (w.alloc (.cells (setA s) 27)) := below_new (Below.refl _ _) _
  have hown := World.ownsRow_nil (w.alloc (.cells (setA s) 27)) w.heap.size 5 1
  go_loopw [3, 7] (fun o i wr => ∃ (k : Nat), k ≤ 4 ∧ i = .int .i64 k ∧ wr.ownsRow w.heap.size 5 1 o (bytesTo s (64 * k)).length ((bytesTo s (64 * k)).map encB) ∧ Below w.heap.size w wr) (fun _ i _ => 4 - (intOf i).toNat)
  case atStart => exact ⟨0, Nat.zero_le _, rfl, hown, hb0⟩
  case round =>
    clear hown hb0
    obtain ⟨k, hk, rfl, ho, hb⟩ := hrel
    by_cases hlt : k < 4
    · have hi := index_word s k hlt
      have gk : decide ((k : Int) < 4) = true := by simp; omega
      have hs := (s.get k).toNat_lt
      have HR := Lib.hid (rest_start s k)
      generalize (s.get k).toNat = y0 at *
      go_wp2_with fail
      obtain ⟨wo, rfl⟩ : ∃ wo : World, wo = wr := ⟨_, rfl⟩
      go_loopw [3, 5] (fun o x wi => ∃ (p y : Nat), x = .int .u64 y ∧ y < 18446744073709551616 ∧ p ≤ 64 ∧ Hid (Rest s k p y) ∧ wi.ownsRow w.heap.size 5 1 o (bytesTo s (64 * k + p)).length ((bytesTo s (64 * k + p)).map encB) ∧ Below w.heap.size w wi) (fun _ x _ => (intOf x).toNat)
      case atStart => exact ⟨0, y0, rfl, hs, Nat.zero_le _, HR, ho, hb⟩
      case round =>
        clear hi hs HR ho hb
        obtain ⟨p, y, rfl, hy, hp, HR, ho, hb⟩ := hrel
        obtain ⟨A2, c2, rfl, hc2, hs2⟩ := own_slice ho
        have hle := bytesTo_length s (64 * k + p)
        by_cases h0 : y = 0
        · subst h0
          have HE := Lib.hid (rest_end s HR.out hp)
          go_wp2_with fail
          go_roundw
          case rel => exact ⟨k + 1, by omega, by go_num, by rw [show 64 * (k + 1) = 64 * k + 64 by omega, HE.out]; exact ho, hb⟩
          case measure => simp [intOf]; omega
        · obtain ⟨h1, h2, h3⟩ := rest_step s HR.out hp (by omega) hy
          have HR2 := Lib.hid h2
          have HB := Lib.hid h3
          clear h2 h3
          have hc := tz64_any y wr (by omega) hy (HT.out.below hb)
          have hm : y &&& (y - 1) ≤ y - 1 := Nat.and_le_right
          have e1 := wrap_pred y (by omega) hy
          have e2 := bits_and_word y (y - 1) hy (by omega)
          have g : ((y : Int) != 0) = true := by simp; omega
          generalize tzN 64 y = t at *
          generalize y &&& (y - 1) = y2 at *
          have hk8 : ((UInt8.ofNat (64 * k + t)).toNat : Int) = 64 * (k : Int) + (t : Int) := by simp; omega
          have HK8 := Lib.hid hk8
          clear hk8
          have hsrc := new_src wr 1 1 #[.int .u8 (64 * (k : Int) + (t : Int))] 5 rfl
          have HL := Lib.hid hle
          have HSZ := Lib.hid hb.size
          go_wp2_with fail
          refine hc.mono ?_
          rintro e w1 ⟨rfl, rfl⟩
          go_wp2_with (at_builtin; refine wpList_app _ rfl (.tmp 17) (.tmp 24) 71 rfl w.heap.size 5 (.int .u8 0) 1 1 Tryd.underlying71 Tryd.info_u8 rfl (by decide) (.slice A2 (bytesTo s (64 * k + p)).length c2) (bytesTo s (64 * k + p)).length _ rfl (ho.alloc _) (some ⟨w1.heap.size, 0, none⟩) 1 1 _ rfl hsrc ?h1 ?h2 ?h3 ?h4 ?_)
          case h1 => intro u hu; rw [List.mem_singleton] at hu; subst hu; rfl
          case h2 => unfold maxLen; have := HL.out; omega
          case h3 => have := HL.out; omega
          case h4 => have := HSZ.out; simp; omega
          intro v3 w3 ho3 hg3 _
          have hb3 : Below w.heap.size w w3 := (below_new hb _).grown hg3 (by have := HSZ.out; simp; omega) (fun j hj => by have := own_base ho j hj; omega)
          clear hg3 ho hsrc
          go_wp2_with fail
          go_roundw
          case rel => exact ⟨t + 1, y2, rfl, by omega, by omega, HR2, by rw [HB.out]; simp only [List.map_append, List.length_append, List.map_cons, List.map_nil, List.length_cons, List.length_nil, encB, HK8.out]; exact ho3, hb3⟩
          case measure => simp [intOf]; omega
    · have he : k = 4 := by omega
      subst he
      obtain ⟨A2, c2, rfl, hc2, hs2⟩ := own_slice ho
      go_wp2_with fail
      go_ret
      exact ⟨A2, c2, rfl, hc2, hs2.row1, hb⟩
end Go.Proofs.YteoghoaggpbkpaaDoor
