/- The example of layer 1. -/
import Derived.Test.YthbcofbdgljfbaaDoorNum3
import Derived.Test.YthbcofbdgljfbaaDoorNum4
namespace Go.Proofs.YthbcofbdgljfbaaDoor
open Go.RowKit
set_option linter.unusedVariables false
set_option linter.unusedSimpArgs false

theorem hex_example : str (hexOf [255, 10]) = ⟨#[102, 102, 48, 97]⟩ := by decide
theorem name_example : IsName ⟨#[97, 95, 49]⟩ := by
  refine ⟨by decide, fun _ => (by decide : letter ((⟨#[97, 95, 49]⟩ : ByteArray)[0]'(by decide))), ?_⟩
  have : ∀ i : Fin 3, later ((⟨#[97, 95, 49]⟩ : ByteArray)[i.val]'(i.isLt)) := by decide
  exact fun i h => this ⟨i, h⟩

set_option maxHeartbeats 1000000 in
theorem awake1_any (w : World) :
    Calls Tryd.prog 6 #[] w fun e w' => e = .returned (.bool true) ∧ Below w.heap.size w w' := by
  go_enter Tryd.func6, Tryd.ntmps6
  go_wp2_with fail
  refine (Hex_any [255, 10] _ _ _ (new_row encB w [255, 10] _ _ rfl) (by decide)).mono ?_
  rintro e w1 ⟨rfl, hb⟩
  rw [hex_example]
  have hb1 : Below w.heap.size w w1 := below_from (below_new (Below.refl _ _) _) hb
  clear hb
  go_wp2_with fail
  refine (Name_any [⟨#[97, 95, 49]⟩] _ _ _ (new_row .string w1 [⟨#[97, 95, 49]⟩] _ _ rfl) (by decide) (by intro s hs; simp at hs; subst hs; decide)).mono ?_
  rintro e w2 ⟨rfl, hb⟩
  have hb2 : Below w.heap.size w w2 := below_from (below_new hb1 _) hb
  have hn : (!([⟨#[97, 95, 49]⟩] : List ByteArray).any fun s => !nameB s) = true := by simp [nameB_true name_example]
  rw [hn]
  clear hb hb1 hn
  go_wp2_with fail
  go_ret
  exact ⟨rfl, hb2⟩
end Go.Proofs.YthbcofbdgljfbaaDoor
