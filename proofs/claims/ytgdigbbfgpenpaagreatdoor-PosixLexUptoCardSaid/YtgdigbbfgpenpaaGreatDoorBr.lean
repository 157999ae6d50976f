/- The document's example of layer 17. -/
import Derived.Test.YtgdigbbfgpenpaaGreatDoorBm
import Derived.Test.YtgdigbbfgpenpaaGreatDoorBe
namespace Go.Proofs.YtgdigbbfgpenpaaGreatDoor
open Go.RowKit
set_option linter.unusedVariables false
set_option linter.unusedSimpArgs false

def ex17 : Re := foldT 4 2 [foldT 5 1 [leaf 97, foldT 4 2 [leaf 97, leaf 98]], foldT 5 1 [leaf 99, foldT 4 2 [leaf 98, leaf 99]]]
theorem ex17_parse : pAlt [40, 97, 124, 97, 98, 41, 40, 99, 124, 98, 99, 41] 20 0 = some (ex17, 12) := by kernel_rfl
theorem ex17_may : mayB ex17 = true := by decide +kernel
theorem ex17_bits : lastBits (walkR stepE stepT ex17 [97, 98, 99]) = ([49, 48], 0) := by decide +kernel
theorem ex17_size : ex17.size = 11 := by decide +kernel
set_option maxRecDepth 100000 in
set_option maxHeartbeats 4000000 in
theorem awake17_any (w : World) : Calls Tryz.prog 5 #[] w fun e w' => e = .returned (.bool true) ∧ Below w.heap.size w w' := by
  have HP : Hid (pAlt (⟨#[40, 97, 124, 97, 98, 41, 40, 99, 124, 98, 99, 41]⟩ : ByteArray).data.toList 20 0 = some (ex17, (⟨#[40, 97, 124, 97, 98, 41, 40, 99, 124, 98, 99, 41]⟩ : ByteArray).size)) := ex17_parse
  have HR := Lib.hid (fun X => readRe_any (S := ⟨#[40, 97, 124, 97, 98, 41, 40, 99, 124, 98, 99, 41]⟩) (by decide) 20 (by decide) HP.out ex17_may X)
  have HX := Lib.hid ex17_bits
  have HZ := Lib.hid ex17_size
  clear HP
  generalize ex17 = t at *
  go_enter Tryz.func5, Tryz.ntmps5
  go_wp2_with fail
  refine (HR.out _).mono ?_
  rintro e w1 ⟨h1, k1, A1, c1, rfl, e1, hc1, hr1, hb1⟩
  have HB1 := Lib.hid (below_new hb1 (.cells (reA h1 A1 k1.length c1) 27))
  have hr2 := hr1.below (below_new (Below.refl w1.heap.size w1) (.cells (reA h1 A1 k1.length c1) 27))
  have hz : 1 + T.sizes k1 = 11 := by have := HZ.out; rw [e1] at this; exact this
  have HC := Lib.hid (pBits_any h1 k1 A1 c1 ⟨#[97, 98, 99]⟩ _ (by omega) hc1 hr2 (by decide))
  rw [← e1, show (⟨#[97, 98, 99]⟩ : ByteArray).data.toList = [97, 98, 99] from rfl, HX.out] at HC
  clear hb1 hr1 hr2 hc1 e1 hz
  go_wp2_with fail
  refine HC.out.mono ?_
  rintro e w2 ⟨rfl, hb2⟩
  have hb := below_from HB1.out hb2
  go_wp2_with fail
  go_ret
  exact ⟨rfl, hb⟩
end Go.Proofs.YtgdigbbfgpenpaaGreatDoor
