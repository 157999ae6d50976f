/- Numbers of texts: the document's. -/
import Derived.Test.YthbcofbdgljfbaaDoorRead1
namespace Go.Proofs.YthbcofbdgljfbaaDoor
open Go.RowKit
set_option linter.unusedVariables false
set_option linter.unusedSimpArgs false

/-- how far the number is known -/
def ReadInv (l : List UInt8) (k m : Nat) (g : Bool) : Prop := (g = false ∧ m = valF 0 (l.take k) ∧ m ≤ 1000000) ∨ (g = true ∧ m = 1000000 ∧ 1000000 < valF 0 (l.take k))
theorem ReadInv.le {l : List UInt8} {k m : Nat} {g : Bool} (h : ReadInv l k m g) : m ≤ 1000000 := by
  rcases h with ⟨_, _, h⟩ | ⟨_, h, _⟩ <;> omega
theorem ReadInv.small {l : List UInt8} {k m : Nat} {g : Bool} (h : ReadInv l k m g) {c : UInt8} (hc : l[k]? = some c) {d : Nat} (hd : c.toNat = 48 + d) (hs : ¬ 1000000 < 10 * m + d) : ReadInv l (k + 1) (10 * m + d) g := by
  have hv := valF_take hc
  rcases h with ⟨rfl, h1, h2⟩ | ⟨rfl, h1, h2⟩
  · exact .inl ⟨rfl, by omega, by omega⟩
  · omega
theorem ReadInv.big {l : List UInt8} {k m : Nat} {g : Bool} (h : ReadInv l k m g) {c : UInt8} (hc : l[k]? = some c) {d : Nat} (hd : c.toNat = 48 + d) (hs : 1000000 < 10 * m + d) : ReadInv l (k + 1) 1000000 true := by
  have hv := valF_take hc
  refine .inr ⟨rfl, rfl, ?_⟩
  rcases h with ⟨rfl, h1, h2⟩ | ⟨rfl, h1, h2⟩ <;> omega

set_option maxHeartbeats 8000000 in
theorem refRead_any (s : ByteArray) (w : World) (hs : s.size ≤ 1000000) :
    Calls Tryd.prog 10 #[.string s] w fun e w' => e = .returned (.tuple #[.int .i64 (readN s.data.toList).1, .int .i64 (readN s.data.toList).2]) ∧ w' = w := by
  go_enter Tryd.func10, Tryd.ntmps10
  go_wp2_with fail
  go_loop [4, 5, 6] (fun n g i => ∃ (k m : Nat) (gb : Bool), k ≤ s.size ∧ n = .int .i64 (m : Nat) ∧ g = .bool gb ∧ i = .int .i64 (k : Nat) ∧ Hid (ReadInv s.data.toList k m gb) ∧ Hid (∀ (j : Nat) (c : UInt8), j < k → s.data.toList[j]? = some c → isDig c = true)) (fun _ _ i => s.size - (intOf i).toNat)
  case atStart => exact ⟨0, 0, false, Nat.zero_le _, rfl, rfl, rfl, .inl ⟨rfl, rfl, by omega⟩, fun j c h => absurd h (by omega)⟩
  case round =>
    obtain ⟨k, m, gb, hk, rfl, rfl, rfl, HI, HD⟩ := hrel
    by_cases hp : k < s.size
    · have hat := text_at_ s k hp
      obtain ⟨c, hc⟩ : ∃ c : UInt8, c = s[k]'hp := ⟨_, rfl⟩
      have hci : ((s[k]'hp).toNat : Int) = c.toNat := by rw [hc]
      rw [← hc] at hat
      clear hc
      have hm := HI.out.le
      by_cases hd : 48 ≤ c.toNat ∧ c.toNat ≤ 57
      · have HD2 : Hid (∀ (j : Nat) (x : UInt8), j < k + 1 → s.data.toList[j]? = some x → isDig x = true) := fun j x hj hx => by
          by_cases e : j = k
          · subst e
            rw [hat] at hx
            cases hx
            simp [isDig, hd]
          · exact HD.out j x (by omega) hx
        obtain ⟨d1, d2⟩ := hd
        obtain ⟨d, hdd⟩ : ∃ d : Nat, c.toNat = 48 + d := ⟨c.toNat - 48, by omega⟩
        have g1 : decide ((c.toNat : Int) < 48) = false := by simp; omega
        have g2 : decide ((c.toNat : Int) > 57) = false := by simp; omega
        have hsub : (c.toNat : Int) - 48 = (d : Nat) := by omega
        have hd9 : d ≤ 9 := by omega
        obtain ⟨mm, hmm⟩ : ∃ mm : Nat, 10 * m + d = mm := ⟨_, rfl⟩
        have hmod : (d : Int) % 256 = d := by omega
        have hmm2 : mm ≤ 10000009 := by omega
        have hsum : 10 * (m : Int) + (d : Int) = (mm : Nat) := by omega
        by_cases hgr : 1000000 < mm
        · have HI2 := Lib.hid (HI.out.big hat hdd (by omega))
          have g3 : decide (((mm : Nat) : Int) > 1000000) = true := by simp; omega
          clear hat hdd HI HD d1 d2 hmm
          go_wp2_with fail
          go_round
          case rel => exact ⟨k + 1, 1000000, true, by omega, rfl, rfl, by go_num, HI2, HD2⟩
          case measure => simp [intOf]; omega
        · have HI2 := HI.out.small hat hdd (by omega)
          rw [hmm] at HI2
          replace HI2 := Lib.hid HI2
          have g3 : decide (((mm : Nat) : Int) > 1000000) = false := by simp; omega
          clear hat hdd HI HD d1 d2 hmm
          go_wp2_with fail
          go_round
          case rel => exact ⟨k + 1, mm, gb, by omega, rfl, rfl, by go_num, HI2, HD2⟩
          case measure => simp [intOf]; omega
      · have HN := Lib.hid (readN_odd (all_false_at hat (by simp [isDig]; omega)))
        clear hat
        by_cases h1 : c.toNat < 48
        · have g1 : decide ((c.toNat : Int) < 48) = true := by simp; omega
          go_wp2_with fail
          go_ret2
          exact ⟨by rw [HN.out]; rfl, rfl⟩
        · have g1 : decide ((c.toNat : Int) < 48) = false := by simp; omega
          have g2 : decide ((c.toNat : Int) > 57) = true := by simp; omega
          go_wp2_with fail
          go_ret2
          exact ⟨by rw [HN.out]; rfl, rfl⟩
    · have hps : k = s.size := by omega
      subst hps
      have HAll : Hid (s.data.toList.all isDig = true) := all_true_at fun j c hj => HD.out j c (by rw [← text_len_]; exact (List.getElem?_eq_some_iff.1 hj).1) hj
      have HI2 := HI.out
      unfold ReadInv at HI2
      rw [List.take_of_length_le (by rw [text_len_]; exact Nat.le_refl _)] at HI2
      replace HI2 := Lib.hid HI2
      clear HI HD
      by_cases h0 : s.size = 0
      · have hl0 : s.data.toList = [] := List.eq_nil_of_length_eq_zero (by rw [text_len_]; exact h0)
        have HN := Lib.hid (readN_form (.inl hl0))
        have g0 : ((s.size : Int) == 0) = true := by simp [h0]
        clear h0 hl0
        go_wp2_with fail
        go_ret2
        exact ⟨by rw [HN.out]; rfl, rfl⟩
      · have hl0 : s.data.toList ≠ [] := fun h => h0 (by rw [← text_len_, h]; rfl)
        have g0 : ((s.size : Int) == 0) = false := by rw [beq_eq_false_iff_ne]; omega
        have h0' : 0 < s.size := by omega
        have hat := text_at_ s 0 h0'
        obtain ⟨c, hc⟩ : ∃ c : UInt8, s[0]'h0' = c := ⟨_, rfl⟩
        have hci : ((s[0]'h0').toNat : Int) = c.toNat := by rw [hc]
        rw [hc] at hat
        clear hc
        have hidx : s.data.toList.head? = some c := by rw [List.head?_eq_getElem?]; exact hat
        by_cases hz : 1 < s.size ∧ c.toNat = 48
        · have hc48 : c = 48 := UInt8.toNat_inj.1 hz.2
          have HN := Lib.hid (readN_form (l := s.data.toList) (.inr ⟨by rw [text_len_]; exact hz.1, by rw [hidx, hc48]⟩))
          have g1 : decide ((s.size : Int) > 1) = true := by simp; omega
          have g2 : ((c.toNat : Int) == 48) = true := by simp; omega
          clear hat hidx
          go_wp2_with fail
          go_ret2
          exact ⟨by rw [HN.out]; rfl, rfl⟩
        · have HF : Hid (¬ (s.data.toList = [] ∨ (1 < s.data.toList.length ∧ s.data.toList.head? = some 48))) := by
            rintro (h | ⟨h, h2⟩)
            · exact hl0 h
            · rw [hidx] at h2
              rw [text_len_] at h
              exact hz ⟨h, by rw [Option.some.inj h2]; rfl⟩
          have hcase : (¬ 1 < s.size) ∨ (1 < s.size ∧ ¬ c.toNat = 48) := by omega
          clear hat hidx hz
          rcases hcase with hz | ⟨hz, hz2⟩
          all_goals
            first | have g1 : decide ((s.size : Int) > 1) = true := (by simp; omega) | have g1 : decide ((s.size : Int) > 1) = false := (by simp; omega)
            first | have g2 : ((c.toNat : Int) == 48) = false := (by simp; omega) | skip
            rcases HI2.out with ⟨rfl, h1, h2⟩ | ⟨rfl, h1, h2⟩
            · have HN := readN_ok HAll.out HF.out (by omega)
              rw [← h1] at HN
              replace HN := Lib.hid HN
              clear h1
              go_wp2_with fail
              go_ret2
              exact ⟨by rw [HN.out]; rfl, rfl⟩
            · have HN := Lib.hid (readN_great HAll.out HF.out h2)
              clear h1 h2
              go_wp2_with fail
              go_ret2
              exact ⟨by rw [HN.out]; rfl, rfl⟩
end Go.Proofs.YthbcofbdgljfbaaDoor
