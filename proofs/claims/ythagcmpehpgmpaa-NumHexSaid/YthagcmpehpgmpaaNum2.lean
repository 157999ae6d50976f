/- Names, continued: the document's test; all of some texts; the law's example. -/
import Derived.Test.YthagcmpehpgmpaaNum1
namespace Go.Proofs.Ythagcmpehpgmpaa
open Go.RowKit
set_option linter.unusedVariables false
set_option linter.unusedSimpArgs false

set_option maxHeartbeats 1000000 in
theorem refName_any (s : ByteArray) (w : World) (hs : s.size ≤ 9223372036854775807) :
    Calls Try.prog 11 #[.string s] w fun e w' => e = .returned (.bool (nameB s)) ∧ w' = w := by
  have hcase : s.size < 1 ∨ 30 < s.size ∨ (1 ≤ s.size ∧ s.size ≤ 30) := by omega
  rcases hcase with h | h | ⟨h, h'⟩
  · have hn := Lib.hid (nameB_false (s := s) fun hn => by have := hn.len; omega)
    go_enter Try.func11, Try.ntmps11
    go_wp2_with fail
    go_ret
    exact ⟨by rw [hn.out]; rfl, rfl⟩
  · have hn := Lib.hid (nameB_false (s := s) fun hn => by have := hn.len; omega)
    go_enter Try.func11, Try.ntmps11
    have b1 : decide ((30 : Int) < s.size) = true := decide_eq_true (by omega)
    go_wp2_with fail
    go_ret
    exact ⟨by rw [hn.out]; rfl, rfl⟩
  · have b1 : decide ((30 : Int) < s.size) = false := decide_eq_false (by omega)
    have h0 : 0 < s.size := h
    by_cases hl : letter (s[0]'h0)
    · have hl1 : (97 : Int) ≤ (s[0]'h0).toNat := by have := hl.1; omega
      have hl2 : ((s[0]'h0).toNat : Int) ≤ 122 := by have := hl.2; omega
      have b2 : decide ((122 : Int) < (s[0]'h0).toNat) = false := decide_eq_false (by omega)
      have b3 : decide (((s[0]'h0).toNat : Int) < 97) = false := decide_eq_false (by omega)
      have b4 : decide ((s.size : Int) < 1) = false := decide_eq_false (by omega)
      go_enter Try.func11, Try.ntmps11
      go_wp2_with fail
      go_loop [3, 4] (fun i _ => ∃ k : Nat, k ≤ s.size ∧ i = .int .i64 k ∧ (∀ j, ∀ h : j < s.size, j < k → later s[j])) (fun i _ => s.size - (intOf i).toNat)
      case atStart => exact ⟨0, Nat.zero_le _, rfl, fun j h h' => absurd h' (by omega)⟩
      case round =>
        obtain ⟨k, hk, rfl, ht⟩ := hrel
        have HT := Lib.hid ht
        clear ht
        by_cases hlt : k < s.size
        · have hc : ∃ c : UInt8, c = s[k]'hlt := ⟨_, rfl⟩
          obtain ⟨c, hc⟩ := hc
          have HC := Lib.hid hc
          have hci : ((s[k]'hlt).toNat : Int) = c.toNat := by rw [hc]
          clear hc
          have hcase : (97 ≤ c.toNat ∧ c.toNat ≤ 122) ∨ c.toNat = 95 ∨ (48 ≤ c.toNat ∧ c.toNat ≤ 57) ∨ c.toNat < 48 ∨ (57 < c.toNat ∧ c.toNat < 95) ∨ (95 < c.toNat ∧ c.toNat < 97) ∨ 122 < c.toNat := by omega
          rcases hcase with ⟨h1, h2⟩ | h1 | ⟨h1, h2⟩ | h1 | ⟨h1, h2⟩ | ⟨h1, h2⟩ | h1
          all_goals
            first | have c1 : ((c.toNat : Int) == 95) = true := (by rw [beq_iff_eq]; omega) | have c1 : ((c.toNat : Int) == 95) = false := (by rw [beq_eq_false_iff_ne]; omega)
            first | have c2 : decide ((c.toNat : Int) ≤ 122) = true := decide_eq_true (by omega) | have c2 : decide ((c.toNat : Int) ≤ 122) = false := decide_eq_false (by omega)
            first | have c3 : decide ((97 : Int) ≤ c.toNat) = true := decide_eq_true (by omega) | have c3 : decide ((97 : Int) ≤ c.toNat) = false := decide_eq_false (by omega)
            first | have c4 : decide ((48 : Int) ≤ c.toNat) = true := decide_eq_true (by omega) | have c4 : decide ((48 : Int) ≤ c.toNat) = false := decide_eq_false (by omega)
            first | have c5 : decide ((c.toNat : Int) ≤ 57) = true := decide_eq_true (by omega) | have c5 : decide ((c.toNat : Int) ≤ 57) = false := decide_eq_false (by omega)
          all_goals first
            | (have hl : later c := by unfold later letter; omega
               replace hl := Lib.hid hl
               try clear h1
               go_wp2_with fail
               go_round
               case rel => exact ⟨k + 1, by omega, by go_num, name_tail hlt HC.out HT.out hl.out⟩
               case measure => simp [intOf]; omega)
            | (have hn : ¬ IsName s := name_not hlt HC.out (by unfold later letter; omega)
               replace hn := Lib.hid hn
               go_wp2_with fail
               go_ret
               exact ⟨by rw [nameB_false hn.out]; rfl, rfl⟩)
        · have hfin : IsName s := ⟨⟨h, h'⟩, fun _ => hl, fun i hi => HT.out i hi (by omega)⟩
          replace hfin := Lib.hid hfin
          go_wp2_with fail
          go_ret
          exact ⟨by rw [nameB_true hfin.out]; rfl, rfl⟩
    · have hn := Lib.hid (nameB_false (s := s) fun hn => hl (hn.head h0))
      have hcase : (s[0]'h0).toNat < 97 ∨ 122 < (s[0]'h0).toNat := by unfold letter at hl; omega
      clear hl
      have b4 : decide ((s.size : Int) < 1) = false := decide_eq_false (by omega)
      rcases hcase with h1 | h1
      · have b3 : decide (((s[0]'h0).toNat : Int) < 97) = true := decide_eq_true (by omega)
        go_enter Try.func11, Try.ntmps11
        go_wp2_with fail
        go_ret
        exact ⟨by rw [hn.out]; rfl, rfl⟩
      · have b2 : decide ((122 : Int) < (s[0]'h0).toNat) = true := decide_eq_true (by omega)
        have b3 : decide (((s[0]'h0).toNat : Int) < 97) = false := decide_eq_false (by omega)
        go_enter Try.func11, Try.ntmps11
        go_wp2_with fail
        go_ret
        exact ⟨by rw [hn.out]; rfl, rfl⟩
end Go.Proofs.Ythagcmpehpgmpaa
