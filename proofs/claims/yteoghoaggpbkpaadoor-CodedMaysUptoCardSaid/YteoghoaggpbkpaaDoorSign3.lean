/- Signs of bytes. -/
import Derived.Test.YteoghoaggpbkpaaDoorSign2
import Derived.Test.YteoghoaggpbkpaaDoorShelf
namespace Go.Proofs.YteoghoaggpbkpaaDoor
open Go.RowKit
set_option linter.unusedVariables false
set_option linter.unusedSimpArgs false

theorem index_odd : ∀ n : Fin 256, decide (0 ≤ Lib.indexByte oddText.data.toList (UInt8.ofNat n.val)) = odd (UInt8.ofNat n.val) := by decide +kernel

theorem index_odd' (b : UInt8) : decide (0 ≤ Lib.indexByte oddText.data.toList ((b.toNat : Int)).toNat.toUInt8) = odd b := by
  have h := index_odd ⟨b.toNat, b.toNat_lt⟩
  simpa using h

set_option maxHeartbeats 4000000 in
theorem setSign_any (b : UInt8) (w : World) :
    Calls Tryd.prog 70 #[.int .u8 (b.toNat : Int)] w fun e w' => e = .returned (.string (str (signB b))) ∧ Below w.heap.size w w' := by
  have HSB : Hid (signB b = if special b then 92 :: hexOf [b] else [b]) := rfl
  have hi := Lib.hid (Tryd.strings_IndexByte oddText (b.toNat : Int) w)
  have ho := index_odd' b
  have hl := b.toNat_lt
  by_cases h1 : b.toNat < 33
  · have HT : Hid (signB b = 92 :: hexOf [b]) := by unfold Hid; rw [HSB.out, if_pos (by unfold special; simp [h1])]
    have g : decide ((b.toNat : Int) < 33) = true := by simp; omega
    clear h1
    go_enter Tryd.func70, Tryd.ntmps70
    go_wp2_with fail
    refine (Hex_any [b] (some ⟨w.heap.size, 0, none⟩) 1 _ (new_row encB w [b] _ _ rfl) (show 1 ≤ 1000000000 by decide)).mono ?_
    rintro e w2 ⟨rfl, hb⟩
    have hb2 := below_from (below_new (Below.refl _ _) _) hb
    have hc := run_cat (P := Tryd.prog) [92] (hexOf [b]) (by rw [hexOf_length]; simp)
    clear hb
    go_wp2_with fail
    go_ret
    exact ⟨by rw [HT.out]; rfl, hb2⟩
  by_cases h2 : 126 < b.toNat
  · have HT : Hid (signB b = 92 :: hexOf [b]) := by unfold Hid; rw [HSB.out, if_pos (by unfold special; simp [h2])]
    have g : decide ((b.toNat : Int) < 33) = false := by simp; omega
    have g2 : decide ((b.toNat : Int) > 126) = true := by simp; omega
    clear h1 h2
    go_enter Tryd.func70, Tryd.ntmps70
    go_wp2_with fail
    refine (Hex_any [b] (some ⟨w.heap.size, 0, none⟩) 1 _ (new_row encB w [b] _ _ rfl) (show 1 ≤ 1000000000 by decide)).mono ?_
    rintro e w2 ⟨rfl, hb⟩
    have hb2 := below_from (below_new (Below.refl _ _) _) hb
    have hc := run_cat (P := Tryd.prog) [92] (hexOf [b]) (by rw [hexOf_length]; simp)
    clear hb
    go_wp2_with fail
    go_ret
    exact ⟨by rw [HT.out]; rfl, hb2⟩
  have g : decide ((b.toNat : Int) < 33) = false := by simp; omega
  have g2 : decide ((b.toNat : Int) > 126) = false := by simp; omega
  have HSP : Hid (special b = odd b) := by unfold Hid special; simp [h1, h2]
  have HI := Lib.hid hi.out
  generalize Lib.indexByte oddText.data.toList ((b.toNat : Int)).toNat.toUInt8 = ix at *
  cases hod : odd b with
  | true =>
    have HT : Hid (signB b = 92 :: hexOf [b]) := by unfold Hid; rw [HSB.out, HSP.out, hod]; rfl
    rw [hod] at ho
    clear hod h1 h2
    go_enter Tryd.func70, Tryd.ntmps70
    go_wp2_with fail
    refine HI.out.mono ?_
    rintro e w1 ⟨rfl, rfl⟩
    have g3 : decide (ix ≥ 0) = true := ho
    go_wp2_with fail
    refine (Hex_any [b] (some ⟨w1.heap.size, 0, none⟩) 1 _ (new_row encB w1 [b] _ _ rfl) (show 1 ≤ 1000000000 by decide)).mono ?_
    rintro e w2 ⟨rfl, hb⟩
    have hb2 := below_from (below_new (Below.refl _ _) _) hb
    have hc := run_cat (P := Tryd.prog) [92] (hexOf [b]) (by rw [hexOf_length]; simp)
    clear hb
    go_wp2_with fail
    go_ret
    exact ⟨by rw [HT.out]; rfl, hb2⟩
  | false =>
    have HT : Hid (signB b = [b]) := by unfold Hid; rw [HSB.out, HSP.out, hod]; rfl
    rw [hod] at ho
    clear hod h1 h2
    go_enter Tryd.func70, Tryd.ntmps70
    go_wp2_with fail
    refine HI.out.mono ?_
    rintro e w1 ⟨rfl, rfl⟩
    have g3 : decide (ix ≥ 0) = false := ho
    have hcv := fun t => conv_bytes (P := Tryd.prog) (w := w1.alloc (.cells #[encB b] t)) (dst := 9) (A := some ⟨w1.heap.size, 0, none⟩) Tryd.underlying71 Tryd.underlying5 Tryd.underlying9 1 1 (l := [b]) rfl (new_row encB w1 [b] _ t rfl)
    go_wp2_with fail
    go_ret
    exact ⟨by rw [HT.out]; rfl, below_new (Below.refl _ _) _⟩
end Go.Proofs.YteoghoaggpbkpaaDoor
