/- The document's example of sets. -/
import Derived.Test.YthagcmpehpgmpaaDoorText3
namespace Go.Proofs.YthagcmpehpgmpaaDoor
open Go.RowKit
set_option linter.unusedVariables false
set_option linter.unusedSimpArgs false

theorem text_az : textS (setRun 97 26) = [91, 97, 45, 122, 93] := by decide +kernel
theorem text_blank : textS (setOf [32]) = [92, 50, 48] := by decide +kernel

set_option maxHeartbeats 2000000 in
theorem awake2_any (w : World) (ht : TzOk w) :
    Calls Tryd.prog 21 #[] w fun e w' => e = .returned (.bool true) ∧ Below w.heap.size w w' := by
  have HT := Lib.hid ht
  have h1 := Lib.hid text_az
  have h2 := Lib.hid text_blank
  have hR := Lib.hid (setRange_any 97 122 w (by decide) (by decide) (by decide) (by decide))
  have hR2 : Hid (Calls Tryd.prog 24 #[.int .u8 97, .int .u8 122] w fun e w' => e = .returned (setV (setRun 97 26)) ∧ Below w.heap.size w w') := hR.out
  clear hR ht
  generalize setRun 97 26 = s1 at *
  go_enter Tryd.func21, Tryd.ntmps21
  go_wp2_with fail
  refine hR2.out.mono ?_
  rintro e w1 ⟨rfl, hb1⟩
  have hT1 : Calls Tryd.prog 17 #[setV s1] w1 fun e w' => e = .returned (.string ⟨#[91, 97, 45, 122, 93]⟩) ∧ Below w1.heap.size w1 w' := by
    have := setText_any s1 w1 (HT.out.below hb1)
    rw [h1.out] at this
    exact this
  have HB1 := Lib.hid hb1
  clear hb1
  go_wp2_with fail
  refine hT1.mono ?_
  rintro e w2 ⟨rfl, hb2⟩
  have HB2 := Lib.hid (below_from HB1.out hb2)
  clear hb2 hT1
  go_wp2_with fail
  refine (setOf_any [32] (some ⟨w2.heap.size, 0, none⟩) 1 _ (by decide) (Nat.le_refl _) (new_row encB w2 [32] _ _ rfl)).mono ?_
  rintro e w3 ⟨rfl, hb3⟩
  have HB3 := Lib.hid (below_from (below_new HB2.out _) hb3)
  generalize setOf [32] = s2 at *
  have hT2 : Calls Tryd.prog 17 #[setV s2] w3 fun e w' => e = .returned (.string ⟨#[92, 50, 48]⟩) ∧ Below w3.heap.size w3 w' := by
    have := setText_any s2 w3 (HT.out.below HB3.out)
    rw [h2.out] at this
    exact this
  clear hb3
  go_wp2_with fail
  refine hT2.mono ?_
  rintro e w4 ⟨rfl, hb4⟩
  have hb5 := below_from HB3.out hb4
  clear hb4 hT2
  go_wp2_with fail
  go_ret
  exact ⟨rfl, hb5⟩
end Go.Proofs.YthagcmpehpgmpaaDoor
