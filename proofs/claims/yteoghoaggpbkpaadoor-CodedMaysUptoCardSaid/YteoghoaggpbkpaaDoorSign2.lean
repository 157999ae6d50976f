/- Signs of bytes: the document's. -/
import Derived.Test.YteoghoaggpbkpaaDoorSign
import Derived.Test.YteoghoaggpbkpaaDoorHexB
namespace Go.Proofs.YteoghoaggpbkpaaDoor
open Go.RowKit
set_option linter.unusedVariables false
set_option linter.unusedSimpArgs false

set_option maxHeartbeats 4000000 in
theorem refSign_any (b : UInt8) (w : World) :
    Calls Tryd.prog 48 #[.int .u8 (b.toNat : Int)] w fun e w' => e = .returned (.string (str (signB b))) ∧ Below w.heap.size w w' := by
  have HSB : Hid (signB b = if special b then 92 :: hexOf [b] else [b]) := rfl
  go_enter Tryd.func48, Tryd.ntmps48
  go_wp2_with fail
  refine (special_any b w).mono ?_
  rintro e w1 ⟨rfl, rfl⟩
  cases hs : special b with
  | true =>
    have HT : Hid (signB b = 92 :: hexOf [b]) := by unfold Hid; rw [HSB.out, hs]; rfl
    clear hs
    go_wp2_with fail
    refine (refHex_any [b] (some ⟨w1.heap.size, 0, none⟩) 1 _ (new_row encB w1 [b] _ _ rfl) (show 1 ≤ 1000000000 by decide)).mono ?_
    rintro e w2 ⟨rfl, hb⟩
    have hb2 := below_from (below_new (Below.refl _ _) _) hb
    have hc := run_cat (P := Tryd.prog) [92] (hexOf [b]) (by rw [hexOf_length]; simp)
    clear hb
    go_wp2_with fail
    go_ret
    exact ⟨by rw [HT.out]; rfl, hb2⟩
  | false =>
    have HT : Hid (signB b = [b]) := by unfold Hid; rw [HSB.out, hs]; rfl
    clear hs
    have hcv := fun t => conv_bytes (P := Tryd.prog) (w := w1.alloc (.cells #[encB b] t)) (dst := 9) (A := some ⟨w1.heap.size, 0, none⟩) Tryd.underlying71 Tryd.underlying5 Tryd.underlying9 1 1 (l := [b]) rfl (new_row encB w1 [b] _ t rfl)
    go_wp2_with fail
    go_ret
    exact ⟨by rw [HT.out]; rfl, below_new (Below.refl _ _) _⟩
end Go.Proofs.YteoghoaggpbkpaaDoor
