/- Signs of bytes. -/
import Derived.Test.YteoghoaggpbkpaaDoorSet7
import Derived.Test.YteoghoaggpbkpaaDoorNum4
namespace Go.Proofs.YteoghoaggpbkpaaDoor
open Go.RowKit
set_option linter.unusedVariables false
set_option linter.unusedSimpArgs false

/-- the bytes that have no sign of their own, among those that are shown -/
abbrev oddText : ByteArray := ⟨#[92, 124, 42, 40, 41, 91, 93, 46, 45]⟩
def odd (b : UInt8) : Bool := oddText.data.toList.contains b
def special (b : UInt8) : Bool := odd b || (decide (b.toNat < 33) || decide (126 < b.toNat))
def signB (b : UInt8) : List UInt8 := if special b then 92 :: hexOf [b] else [b]

set_option maxHeartbeats 4000000 in
theorem special_any (b : UInt8) (w : World) :
    Calls Tryd.prog 66 #[.int .u8 (b.toNat : Int)] w fun e w' => e = .returned (.bool (special b)) ∧ w' = w := by
  go_enter Tryd.func66, Tryd.ntmps66
  go_wp2_with fail
  go_loopw [4] (fun i wr => ∃ (k : Nat), k ≤ 9 ∧ i = .int .i64 k ∧ Hid ((oddText.data.toList.take k).contains b = false) ∧ wr = w) (fun i _ => 9 - (intOf i).toNat)
  case atStart => exact ⟨0, Nat.zero_le _, rfl, rfl, rfl⟩
  case round =>
    obtain ⟨k, hk, rfl, HN, rfl⟩ := hrel
    have hcase : k = 0 ∨ k = 1 ∨ k = 2 ∨ k = 3 ∨ k = 4 ∨ k = 5 ∨ k = 6 ∨ k = 7 ∨ k = 8 ∨ k = 9 := by omega
    rcases hcase with rfl | rfl | rfl | rfl | rfl | rfl | rfl | rfl | rfl | rfl
    · have ek : (((⟨#[92, 124, 42, 40, 41, 91, 93, 46, 45]⟩ : ByteArray)[0]'(by decide)).toNat : Int) = 92 := rfl
      by_cases hb : b.toNat = 92
      · obtain rfl : b = 92 := UInt8.toNat_inj.1 hb
        go_wp2_with fail
        go_ret
        exact ⟨rfl, rfl⟩
      · have g : ((92 : Int) == (b.toNat : Int)) = false := by simp; omega
        have g2 : ¬ ((92 : Int) = (b.toNat : Int)) := by omega
        have g3 : ¬ (92 = b.toNat) := by omega
        have g4 : ¬ ((92 : UInt8).toNat = b.toNat) := by simpa using g3
        have HN2 : Hid ((oddText.data.toList.take 1).contains b = false) := by
          have h1 := HN.out
          have hne : ¬ b = 92 := fun e => hb (by rw [e]; rfl)
          unfold Hid
          simp at h1 ⊢
          simp [h1, hne]
        go_wp2_with fail
        go_roundw
        case rel => exact ⟨1, by omega, rfl, HN2, trivial⟩
        case measure => simp [intOf]
    · have ek : (((⟨#[92, 124, 42, 40, 41, 91, 93, 46, 45]⟩ : ByteArray)[1]'(by decide)).toNat : Int) = 124 := rfl
      by_cases hb : b.toNat = 124
      · obtain rfl : b = 124 := UInt8.toNat_inj.1 hb
        go_wp2_with fail
        go_ret
        exact ⟨rfl, rfl⟩
      · have g : ((124 : Int) == (b.toNat : Int)) = false := by simp; omega
        have g2 : ¬ ((124 : Int) = (b.toNat : Int)) := by omega
        have g3 : ¬ (124 = b.toNat) := by omega
        have g4 : ¬ ((124 : UInt8).toNat = b.toNat) := by simpa using g3
        have HN2 : Hid ((oddText.data.toList.take 2).contains b = false) := by
          have h1 := HN.out
          have hne : ¬ b = 124 := fun e => hb (by rw [e]; rfl)
          unfold Hid
          simp at h1 ⊢
          simp [h1, hne]
        go_wp2_with fail
        go_roundw
        case rel => exact ⟨2, by omega, rfl, HN2, trivial⟩
        case measure => simp [intOf]
    · have ek : (((⟨#[92, 124, 42, 40, 41, 91, 93, 46, 45]⟩ : ByteArray)[2]'(by decide)).toNat : Int) = 42 := rfl
      by_cases hb : b.toNat = 42
      · obtain rfl : b = 42 := UInt8.toNat_inj.1 hb
        go_wp2_with fail
        go_ret
        exact ⟨rfl, rfl⟩
      · have g : ((42 : Int) == (b.toNat : Int)) = false := by simp; omega
        have g2 : ¬ ((42 : Int) = (b.toNat : Int)) := by omega
        have g3 : ¬ (42 = b.toNat) := by omega
        have g4 : ¬ ((42 : UInt8).toNat = b.toNat) := by simpa using g3
        have HN2 : Hid ((oddText.data.toList.take 3).contains b = false) := by
          have h1 := HN.out
          have hne : ¬ b = 42 := fun e => hb (by rw [e]; rfl)
          unfold Hid
          simp at h1 ⊢
          simp [h1, hne]
        go_wp2_with fail
        go_roundw
        case rel => exact ⟨3, by omega, rfl, HN2, trivial⟩
        case measure => simp [intOf]
    · have ek : (((⟨#[92, 124, 42, 40, 41, 91, 93, 46, 45]⟩ : ByteArray)[3]'(by decide)).toNat : Int) = 40 := rfl
      by_cases hb : b.toNat = 40
      · obtain rfl : b = 40 := UInt8.toNat_inj.1 hb
        go_wp2_with fail
        go_ret
        exact ⟨rfl, rfl⟩
      · have g : ((40 : Int) == (b.toNat : Int)) = false := by simp; omega
        have g2 : ¬ ((40 : Int) = (b.toNat : Int)) := by omega
        have g3 : ¬ (40 = b.toNat) := by omega
        have g4 : ¬ ((40 : UInt8).toNat = b.toNat) := by simpa using g3
        have HN2 : Hid ((oddText.data.toList.take 4).contains b = false) := by
          have h1 := HN.out
          have hne : ¬ b = 40 := fun e => hb (by rw [e]; rfl)
          unfold Hid
          simp at h1 ⊢
          simp [h1, hne]
        go_wp2_with fail
        go_roundw
        case rel => exact ⟨4, by omega, rfl, HN2, trivial⟩
        case measure => simp [intOf]
    · have ek : (((⟨#[92, 124, 42, 40, 41, 91, 93, 46, 45]⟩ : ByteArray)[4]'(by decide)).toNat : Int) = 41 := rfl
      by_cases hb : b.toNat = 41
      · obtain rfl : b = 41 := UInt8.toNat_inj.1 hb
        go_wp2_with fail
        go_ret
        exact ⟨rfl, rfl⟩
      · have g : ((41 : Int) == (b.toNat : Int)) = false := by simp; omega
        have g2 : ¬ ((41 : Int) = (b.toNat : Int)) := by omega
        have g3 : ¬ (41 = b.toNat) := by omega
        have g4 : ¬ ((41 : UInt8).toNat = b.toNat) := by simpa using g3
        have HN2 : Hid ((oddText.data.toList.take 5).contains b = false) := by
          have h1 := HN.out
          have hne : ¬ b = 41 := fun e => hb (by rw [e]; rfl)
          unfold Hid
          simp at h1 ⊢
          simp [h1, hne]
        go_wp2_with fail
        go_roundw
        case rel => exact ⟨5, by omega, rfl, HN2, trivial⟩
        case measure => simp [intOf]
    · have ek : (((⟨#[92, 124, 42, 40, 41, 91, 93, 46, 45]⟩ : ByteArray)[5]'(by decide)).toNat : Int) = 91 := rfl
      by_cases hb : b.toNat = 91
      · obtain rfl : b = 91 := UInt8.toNat_inj.1 hb
        go_wp2_with fail
        go_ret
        exact ⟨rfl, rfl⟩
      · have g : ((91 : Int) == (b.toNat : Int)) = false := by simp; omega
        have g2 : ¬ ((91 : Int) = (b.toNat : Int)) := by omega
        have g3 : ¬ (91 = b.toNat) := by omega
        have g4 : ¬ ((91 : UInt8).toNat = b.toNat) := by simpa using g3
        have HN2 : Hid ((oddText.data.toList.take 6).contains b = false) := by
          have h1 := HN.out
          have hne : ¬ b = 91 := fun e => hb (by rw [e]; rfl)
          unfold Hid
          simp at h1 ⊢
          simp [h1, hne]
        go_wp2_with fail
        go_roundw
        case rel => exact ⟨6, by omega, rfl, HN2, trivial⟩
        case measure => simp [intOf]
    · have ek : (((⟨#[92, 124, 42, 40, 41, 91, 93, 46, 45]⟩ : ByteArray)[6]'(by decide)).toNat : Int) = 93 := rfl
      by_cases hb : b.toNat = 93
      · obtain rfl : b = 93 := UInt8.toNat_inj.1 hb
        go_wp2_with fail
        go_ret
        exact ⟨rfl, rfl⟩
      · have g : ((93 : Int) == (b.toNat : Int)) = false := by simp; omega
        have g2 : ¬ ((93 : Int) = (b.toNat : Int)) := by omega
        have g3 : ¬ (93 = b.toNat) := by omega
        have g4 : ¬ ((93 : UInt8).toNat = b.toNat) := by simpa using g3
        have HN2 : Hid ((oddText.data.toList.take 7).contains b = false) := by
          have h1 := HN.out
          have hne : ¬ b = 93 := fun e => hb (by rw [e]; rfl)
          unfold Hid
          simp at h1 ⊢
          simp [h1, hne]
        go_wp2_with fail
        go_roundw
        case rel => exact ⟨7, by omega, rfl, HN2, trivial⟩
        case measure => simp [intOf]
    · have ek : (((⟨#[92, 124, 42, 40, 41, 91, 93, 46, 45]⟩ : ByteArray)[7]'(by decide)).toNat : Int) = 46 := rfl
      by_cases hb : b.toNat = 46
      · obtain rfl : b = 46 := UInt8.toNat_inj.1 hb
        go_wp2_with fail
        go_ret
        exact ⟨rfl, rfl⟩
      · have g : ((46 : Int) == (b.toNat : Int)) = false := by simp; omega
        have g2 : ¬ ((46 : Int) = (b.toNat : Int)) := by omega
        have g3 : ¬ (46 = b.toNat) := by omega
        have g4 : ¬ ((46 : UInt8).toNat = b.toNat) := by simpa using g3
        have HN2 : Hid ((oddText.data.toList.take 8).contains b = false) := by
          have h1 := HN.out
          have hne : ¬ b = 46 := fun e => hb (by rw [e]; rfl)
          unfold Hid
          simp at h1 ⊢
          simp [h1, hne]
        go_wp2_with fail
        go_roundw
        case rel => exact ⟨8, by omega, rfl, HN2, trivial⟩
        case measure => simp [intOf]
    · have ek : (((⟨#[92, 124, 42, 40, 41, 91, 93, 46, 45]⟩ : ByteArray)[8]'(by decide)).toNat : Int) = 45 := rfl
      by_cases hb : b.toNat = 45
      · obtain rfl : b = 45 := UInt8.toNat_inj.1 hb
        go_wp2_with fail
        go_ret
        exact ⟨rfl, rfl⟩
      · have g : ((45 : Int) == (b.toNat : Int)) = false := by simp; omega
        have g2 : ¬ ((45 : Int) = (b.toNat : Int)) := by omega
        have g3 : ¬ (45 = b.toNat) := by omega
        have g4 : ¬ ((45 : UInt8).toNat = b.toNat) := by simpa using g3
        have HN2 : Hid ((oddText.data.toList.take 9).contains b = false) := by
          have h1 := HN.out
          have hne : ¬ b = 45 := fun e => hb (by rw [e]; rfl)
          unfold Hid
          simp at h1 ⊢
          simp [h1, hne]
        go_wp2_with fail
        go_roundw
        case rel => exact ⟨9, by omega, rfl, HN2, trivial⟩
        case measure => simp [intOf]
    · have HO : Hid (odd b = false) := HN.out
      cases h1 : decide (b.toNat < 33) with
      | true =>
        have g : decide ((b.toNat : Int) < 33) = true := by simp at h1 ⊢; omega
        have HS : Hid (special b = true) := by unfold Hid special; rw [h1]; simp
        go_wp2_with fail
        go_ret
        exact ⟨by rw [HS.out]; rfl, rfl⟩
      | false =>
        have g : decide ((b.toNat : Int) < 33) = false := by simp at h1 ⊢; omega
        have HS : Hid (special b = decide (126 < b.toNat)) := by unfold Hid special; rw [h1, HO.out]; simp
        go_wp2_with fail
        go_ret
        exact ⟨by rw [HS.out]; simp; omega, rfl⟩
end Go.Proofs.YteoghoaggpbkpaaDoor
