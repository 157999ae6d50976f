/- The document's bytes of digits. -/
import Derived.Test.YthagcmpehpgmpaaNum6
namespace Go.Proofs.Ythagcmpehpgmpaa
open Go.RowKit
set_option linter.unusedVariables false
set_option linter.unusedSimpArgs false

set_option maxHeartbeats 2000000 in
theorem refReadHex_any (s : ByteArray) (w : World) (hs : s.size ≤ 1000000000) :
    Calls Try.prog 14 #[.string s] w (RefReadHexPost (unhex s.data.toList) w) := by
  have hown0 : (w.alloc (.cells #[] 5)).ownsRow w.heap.size 5 1 (.slice (some ⟨w.heap.size, 0, none⟩) 0 0) 0 [] := World.ownsRow_made w #[] 0 (Nat.le_refl _) (by unfold maxLen; omega) rfl
  have hbel0 : Below w.heap.size w (w.alloc (.cells #[] 5)) := below_new (Below.refl _ _) _
  by_cases hodd : s.size % 2 = 1
  · have HN := Lib.hid (unhex_odd (s.size / 2) s.data.toList (by rw [data_len]; omega))
    have c1 : ((s.size : Int) % 2 == 1) = true := by rw [beq_iff_eq]; omega
    go_enter Try.func14, Try.ntmps14
    go_wp2_with fail
    go_ret2
    rw [HN.out]
    exact ⟨⟨_, _, rfl⟩, hbel0⟩
  · have c1 : ((s.size : Int) % 2 == 1) = false := by rw [beq_eq_false_iff_ne]; omega
    go_enter Try.func14, Try.ntmps14
    go_wp2_with fail
    go_loopw [2, 3, 4, 5, 6, 7] (fun r e o i _ _ wr => ∃ (k : Nat) (l : List UInt8), 2 * k ≤ s.size ∧ i = .int .i64 (2 * k : Nat) ∧ r = .slice none 0 0 ∧ e = .bool false ∧ unhex (s.data.toList.take (2 * k)) = some l ∧ l.length = k ∧
        wr.ownsRow w.heap.size 5 1 o k (l.map encB) ∧ Below w.heap.size w wr) (fun _ _ _ i _ _ _ => s.size - (intOf i).toNat)
    case atStart => exact ⟨0, [], Nat.zero_le _, rfl, rfl, rfl, rfl, rfl, hown0, hbel0⟩
    case round =>
      clear hown0 hbel0
      obtain ⟨k, l, hk, rfl, rfl, rfl, hu, hll, ho, hb⟩ := hrel
      obtain ⟨A2, c2, rfl, _, _⟩ := own_slice ho
      have HU := Lib.hid hu
      have HL := Lib.hid hll
      clear hu hll
      by_cases h0 : 2 * k < s.size
      · have hlt : 2 * k + 1 < s.size := by omega
        have HA := Lib.hid (data_at s (2 * k) h0)
        have HB := Lib.hid (data_at s (2 * k + 1) hlt)
        have ha : ∃ a : UInt8, a = s[2 * k]'h0 := ⟨_, rfl⟩
        have hb' : ∃ b : UInt8, b = s[2 * k + 1]'hlt := ⟨_, rfl⟩
        obtain ⟨a, ha⟩ := ha
        obtain ⟨b, hb'⟩ := hb'
        rw [← ha] at HA
        rw [← hb'] at HB
        have ea : ((s[2 * k]'h0).toNat : Int) = a.toNat := by rw [ha]
        have eb : ((s[2 * k + 1]'hlt).toNat : Int) = b.toNat := by rw [hb']
        clear ha hb'
        have r1 := hexv_range a
        have r2 := hexv_range b
        have s1 : IntKind.i64.wrap (2 * (k : Int) + 1) = 2 * (k : Int) + 1 := IntWalk.i64_in _ (by omega)
        have s2 : (2 * (k : Int)).toNat = 2 * k := by omega
        have s3 : (2 * (k : Int) + 1).toNat = 2 * k + 1 := by omega
        have i1 : (0 : Int) ≤ 2 * (k : Int) := by omega
        have i2 : 2 * (k : Int) < s.size := by omega
        have i3 : (0 : Int) ≤ 2 * (k : Int) + 1 := by omega
        have i4 : 2 * (k : Int) + 1 < s.size := by omega
        go_wp2_with fail
        go_quiet ((go_at_call 39; exact Calls.quiet_of_same (value_any _ _)))
        clear s1 s2 s3 i1 i2 i3 i4
        have hbq : Below w.heap.size w (wr.drewN nq) := ⟨hb.os, hb.tape, hb.output, hb.size, hb.block⟩
        by_cases hbad : hexv a < 0 ∨ hexv b < 0
        · have HN := Lib.hid (unhex_bad HU.out HA.out HB.out hbad)
          by_cases h3 : hexv a < 0
          · go_wp2_with fail
            go_ret2
            rw [HN.out]
            exact ⟨⟨_, _, rfl⟩, below_new hbq _⟩
          · have cd2 : decide (hexv b < 0) = true := decide_eq_true (by omega)
            go_wp2_with fail
            go_ret2
            rw [HN.out]
            exact ⟨⟨_, _, rfl⟩, below_new hbq _⟩
        · have h1 : 0 ≤ hexv a := by omega
          have h2 : 0 ≤ hexv b := by omega
          clear hbad
          have HS := Lib.hid (unhex_step HU.out HA.out HB.out h1 h2)
          have cd2 : decide (hexv b < 0) = false := decide_eq_false (by omega)
          have hor : 16 * hexv a + hexv b = ((16 * (hexv a).toNat + (hexv b).toNat : Nat) : Int) := by omega
          have hv : (16 * (hexv a).toNat + (hexv b).toNat) < 256 := by omega
          generalize 16 * (hexv a).toNat + (hexv b).toNat = v at *
          have he8 : [Value.int .u8 (v : Int)] = [UInt8.ofNat v].map encB := by simp [encB, Nat.mod_eq_of_lt hv]
          replace he8 := Lib.hid he8
          have hoq : (wr.drewN nq).ownsRow w.heap.size 5 1 (.slice A2 k c2) k (l.map encB) := ho
          clear ho hb
          go_wp2_with (at_builtin; refine wpList_app _ rfl (.tmp 36) (.tmp 42) 27 rfl w.heap.size 5 (.int .u8 0) 1 1 Try.underlying27 Try.info_u8 rfl (by decide) (.slice A2 k c2) k _ rfl (hoq.alloc _) (some ⟨_, 0, none⟩) 1 1 _ rfl (one_src _ _ _) ?h1 ?h2 ?h3 ?h4 ?_)
          case h1 => intro u hu; simp at hu; subst hu; rfl
          case h2 => unfold maxLen; omega
          case h3 => omega
          case h4 => have := hbq.size; simp at this ⊢; omega
          intro v3 w3 ho3 hg3 _
          have hb3 : Below w.heap.size w w3 := (below_new hbq _).grown hg3 (by have := hbq.size; simp at this ⊢; omega) (fun j hj => own_base hoq j hj)
          have ho4 : w3.ownsRow w.heap.size 5 1 v3 (k + 1) ((l ++ [UInt8.ofNat v]).map encB) := by rw [List.map_append, ← he8.out]; exact ho3
          clear hg3 hoq hbq ho3
          go_wp2_with fail
          go_roundw
          case rel => exact ⟨k + 1, _, by omega, by go_num, rfl, rfl, HS.out, by simp [HL.out], ho4, hb3⟩
          case measure => simp [intOf]; omega
      · have HE : Hid (unhex s.data.toList = some l) := by
          have := HU.out
          rwa [List.take_of_length_le (by rw [data_len]; omega)] at this
        obtain ⟨A3, c3, he3, _, hs3⟩ := own_slice ho
        cases he3
        go_wp2_with fail
        go_ret2
        rw [HE.out]
        refine ⟨⟨A2, c2, ?_, ?_⟩, hb⟩
        · rw [HL.out]; rfl
        · rw [← HL.out] at hs3; exact hs3.row1
end Go.Proofs.Ythagcmpehpgmpaa
