/- Names: what the program's and the document's test of a text answer. -/
import Derived.Test.YthbcofbdgljfbaaDoorProg
import Derived.WalkKit
import Derived.Below
import Derived.Lib.Hide
namespace Go.Proofs.YthbcofbdgljfbaaDoor
open Go.RowKit
set_option linter.unusedVariables false
set_option linter.unusedSimpArgs false

/-- a letter; a sign that may stand behind the first letter -/
def letter (c : UInt8) : Prop := 97 ≤ c.toNat ∧ c.toNat ≤ 122
def later (c : UInt8) : Prop := letter c ∨ (48 ≤ c.toNat ∧ c.toNat ≤ 57) ∨ c.toNat = 95
instance (c : UInt8) : Decidable (letter c) := by unfold letter; infer_instance
instance (c : UInt8) : Decidable (later c) := by unfold later; infer_instance
/-- A name: 1 to 30 bytes, the first one a letter, the others letters, digits or underscores. -/
structure IsName (s : ByteArray) : Prop where
  len : 1 ≤ s.size ∧ s.size ≤ 30
  head : ∀ h : 0 < s.size, letter s[0]
  tail : ∀ i, ∀ h : i < s.size, later s[i]
open Classical in
noncomputable def nameB (s : ByteArray) : Bool := decide (IsName s)
theorem nameB_true {s : ByteArray} (h : IsName s) : nameB s = true := by unfold nameB; simp [h]
theorem nameB_false {s : ByteArray} (h : ¬ IsName s) : nameB s = false := by unfold nameB; simp [h]

theorem name_head {s : ByteArray} {pos : Nat} {c : UInt8} (hp : pos < s.size) (hc : c = s[pos]'hp) (hh : ∀ _ : 0 < pos, ∀ h' : 0 < s.size, letter s[0]) (hf : pos = 0 → letter c) :
    ∀ _ : 0 < pos + 1, ∀ h' : 0 < s.size, letter s[0] := by
  intro _ h'
  by_cases h0 : pos = 0
  · subst h0; have := hf rfl; rwa [hc] at this
  · exact hh (by omega) h'
theorem name_tail {s : ByteArray} {pos : Nat} {c : UInt8} (hp : pos < s.size) (hc : c = s[pos]'hp) (ht : ∀ i, ∀ h : i < s.size, i < pos → later s[i]) (hl : later c) :
    ∀ i, ∀ h : i < s.size, i < pos + 1 → later s[i] := by
  intro i h hi
  by_cases h0 : i = pos
  · subst h0; rwa [hc] at hl
  · exact ht i h (by omega)
theorem name_not {s : ByteArray} {pos : Nat} {c : UInt8} (hp : pos < s.size) (hc : c = s[pos]'hp) (h : ¬ (later c ∧ (pos = 0 → letter c))) : ¬ IsName s := by
  intro hn
  refine h ⟨by rw [hc]; exact hn.tail pos hp, fun h0 => ?_⟩
  subst h0
  rw [hc]
  exact hn.head hp
theorem iter_below (w : World) (s : ByteArray) (p : Nat) : Below w.heap.size w (w.iter s p) := (Below.refl _ _).alloc (Nat.le_refl _) _

set_option maxHeartbeats 1000000 in
theorem name_any (s : ByteArray) (w : World) (hs : s.size ≤ 9223372036854775807) :
    Calls Tryd.prog 20 #[.string s] w fun e w' => e = .returned (.bool (nameB s)) ∧ Below w.heap.size w w' := by
  go_enter Tryd.func20, Tryd.ntmps20
  go_wp2_with fail
  go_loopw [3] (fun n w' => ∃ pos : Nat, w' = w.iter s pos ∧ pos ≤ s.size ∧ (∀ h : 0 < pos, ∀ h' : 0 < s.size, letter s[0]) ∧ (∀ i, ∀ h : i < s.size, i < pos → later s[i])) (fun _ w' => s.size - w'.iterPos w.heap.size)
  case atStart => exact ⟨0, rfl, Nat.zero_le _, fun h => absurd h (by omega), fun i h h' => absurd h' (by omega)⟩
  case round =>
    obtain ⟨pos, rfl, hle, hh, ht⟩ := hrel
    have HH := Lib.hid hh
    have HT := Lib.hid ht
    clear hh ht
    by_cases hp : pos < s.size
    · by_cases ha : (s[pos]'hp).toNat < 128
      · have hnx : ∀ ty, (Instr.next (.pointer (some ⟨w.heap.size, 0, none⟩)) true ty).run Tryd.prog (w.iter s pos) = _ := fun ty => run_next_ascii w s pos ty hp ha
        have hc : ∃ c : UInt8, c = s[pos]'hp := ⟨_, rfl⟩
        obtain ⟨c, hc⟩ := hc
        rw [← hc] at hnx ha
        have HC := Lib.hid hc
        clear hc
        have hcase : (97 ≤ c.toNat ∧ c.toNat ≤ 122) ∨ (c.toNat < 97 ∧ pos = 0) ∨ (122 < c.toNat ∧ pos = 0) ∨ (0 < pos ∧ c.toNat = 95) ∨ (0 < pos ∧ 48 ≤ c.toNat ∧ c.toNat ≤ 57) ∨ (0 < pos ∧ c.toNat < 48) ∨
            (0 < pos ∧ 57 < c.toNat ∧ c.toNat < 95) ∨ (0 < pos ∧ 95 < c.toNat ∧ c.toNat < 97) ∨ (0 < pos ∧ 122 < c.toNat) := by omega
        rcases hcase with ⟨h1, h2⟩ | ⟨h1, h2⟩ | ⟨h1, h2⟩ | ⟨h1, h2⟩ | ⟨h1, h2, h3⟩ | ⟨h1, h2⟩ | ⟨h1, h2, h3⟩ | ⟨h1, h2, h3⟩ | ⟨h1, h2⟩
        all_goals
          first | have b0 : ((pos : Int) == 0) = true := (by rw [beq_iff_eq]; omega) | have b0 : ((pos : Int) == 0) = false := (by rw [beq_eq_false_iff_ne]; omega) | skip
          first | have b1 : ((c.toNat : Int) != 95) = true := (by rw [bne_iff_ne]; omega) | have b1 : ((c.toNat : Int) != 95) = false := (by rw [bne_eq_false_iff_eq]; omega) | skip
          first | have b2 : decide ((c.toNat : Int) ≤ 122) = true := decide_eq_true (by omega) | have b2 : decide ((c.toNat : Int) ≤ 122) = false := decide_eq_false (by omega) | skip
        all_goals first
          | (have hl : later c := by unfold later letter; omega
             have hf : pos = 0 → letter c := by unfold letter; omega
             replace hl := Lib.hid hl
             replace hf := Lib.hid hf
             go_wp2_with fail
             go_roundw
             case rel => exact ⟨pos + 1, rfl, by omega, name_head hp HC.out HH.out hf.out, name_tail hp HC.out HT.out hl.out⟩
             case measure => simp; omega)
          | (have hn : ¬ IsName s := by
               refine name_not hp HC.out ?_
               unfold later letter
               omega
             replace hn := Lib.hid hn
             try subst h2
             go_wp2_with fail
             go_ret
             exact ⟨by rw [nameB_false hn.out]; rfl, iter_below _ _ _⟩)
      · have hnx : ∀ ty, (Instr.next (.pointer (some ⟨w.heap.size, 0, none⟩)) true ty).run Tryd.prog (w.iter s pos) = _ := fun ty => run_next_any w s pos ty hp
        have hhi := (decode_high s pos hp (by omega)).1
        have hn : ¬ IsName s := name_not hp rfl (by unfold later letter; omega)
        replace hn := Lib.hid hn
        generalize Utf8.decode s pos = dc at *
        obtain ⟨d1, d2⟩ := dc
        simp only at hhi hnx
        have hcase : 0 < pos ∨ pos = 0 := by omega
        have b2 : decide ((d1 : Int) ≤ 122) = false := by simp; omega
        have b1 : ((d1 : Int) != 95) = true := by simp; omega
        rcases hcase with h2 | h2
        all_goals
          first | have b0 : ((pos : Int) == 0) = true := (by rw [beq_iff_eq]; omega) | have b0 : ((pos : Int) == 0) = false := (by rw [beq_eq_false_iff_ne]; omega) | skip
          try subst h2
          go_wp2_with fail
          go_ret
          exact ⟨by rw [nameB_false hn.out]; rfl, iter_below _ _ _⟩
    · have hnx : ∀ ty, (Instr.next (.pointer (some ⟨w.heap.size, 0, none⟩)) true ty).run Tryd.prog (w.iter s pos) = _ := fun ty => run_next_end w s pos ty hp
      have hps : pos = s.size := by omega
      subst hps
      clear hp
      have hfin : nameB s = decide (1 ≤ s.size ∧ s.size ≤ 30) := by
        by_cases hl : 1 ≤ s.size ∧ s.size ≤ 30
        · rw [nameB_true ⟨hl, fun h => HH.out h h, fun i h => HT.out i h h⟩]; simp [hl]
        · rw [nameB_false fun h => hl h.len]; simp [hl]
      have hcase : s.size < 1 ∨ (1 ≤ s.size ∧ s.size ≤ 30) ∨ 30 < s.size := by omega
      rcases hcase with h1 | ⟨h1, h2⟩ | h1
      all_goals
        first | rw [decide_eq_true (show 1 ≤ s.size ∧ s.size ≤ 30 by omega)] at hfin | rw [decide_eq_false (show ¬ (1 ≤ s.size ∧ s.size ≤ 30) by omega)] at hfin
        replace hfin := Lib.hid hfin
        first | have b2 : decide ((s.size : Int) ≤ 30) = true := decide_eq_true (by omega) | have b2 : decide ((s.size : Int) ≤ 30) = false := decide_eq_false (by omega) | skip
        go_wp2_with fail
        go_ret
        refine ⟨?_, iter_below _ _ _⟩
        rw [hfin.out]
        rfl
end Go.Proofs.YthbcofbdgljfbaaDoor
