/- The document's example of layer 16. -/
import Derived.Test.YtfbnlpoinieijaaGreatDoorBd
import Derived.Test.YtfbnlpoinieijaaGreatDoorBe
namespace Go.Proofs.YtfbnlpoinieijaaGreatDoor
open Go.RowKit
set_option linter.unusedVariables false
set_option linter.unusedSimpArgs false

def ex16 : Re := foldT 5 1 [leaf 97, leaf 98]
theorem ex16_parse : pAlt [97, 124, 98] 20 0 = some (ex16, 3) := by kernel_rfl
theorem ex16_may : mayB ex16 = true := by decide +kernel
theorem ex16_text : textCo (ofC ex16) = [40, 58, 48, 58, 97, 124, 58, 49, 58, 98, 41] := by decide +kernel
theorem ex16_size : ex16.size = 3 := by decide +kernel
theorem ex16_csize : (ofC ex16).size = 3 := by decide +kernel
theorem ex16_few : ((ofC ex16).all.all fun x => decide (x.head.b.length ≤ 1000)) = true := by decide +kernel
theorem ex16_fewC : fewC (ofC ex16) := fun x hx => by
  have := List.all_eq_true.1 ex16_few x hx
  simpa using this
set_option maxRecDepth 100000 in
set_option maxHeartbeats 4000000 in
theorem awake16_any (w : World) (ht : TzOk w) : Calls Tryz.prog 6 #[] w fun e w' => e = .returned (.bool true) ∧ Below w.heap.size w w' := by
  have HT := Lib.hid ht
  have HP : Hid (pAlt (⟨#[97, 124, 98]⟩ : ByteArray).data.toList 20 0 = some (ex16, (⟨#[97, 124, 98]⟩ : ByteArray).size)) := ex16_parse
  have HR := Lib.hid (fun X => readRe_any (S := ⟨#[97, 124, 98]⟩) (by decide) 20 (by decide) HP.out ex16_may X)
  have HX := Lib.hid ex16_text
  have HM := Lib.hid ex16_may
  have HZ := Lib.hid ex16_size
  have HCZ := Lib.hid ex16_csize
  have HF := Lib.hid ex16_fewC
  clear ht HP
  generalize ex16 = t at *
  go_enter Tryz.func6, Tryz.ntmps6
  go_wp2_with fail
  refine (HR.out _).mono ?_
  rintro e w1 ⟨h1, k1, A1, c1, rfl, e1, hc1, hr1, hb1⟩
  have HB1 := Lib.hid (below_new hb1 (.cells (reA h1 A1 k1.length c1) 32))
  have hr2 := hr1.below (below_new (Below.refl w1.heap.size w1) (.cells (reA h1 A1 k1.length c1) 32))
  have hz : 1 + T.sizes k1 = 3 := by have := HZ.out; rw [e1] at this; exact this
  have HC := Lib.hid (cOf_any h1 k1 A1 c1 _ (by omega) hc1 hr2)
  have E1 := Lib.hid e1
  clear hb1 hr1 hr2 hc1 e1 hz
  go_wp2_with fail
  refine HC.out.mono ?_
  rintro e w2 ⟨hb2, (⟨hm, _⟩ | ⟨hm, h2, k2, A2, c2, rfl, e2, hc2, hr2⟩)⟩
  · exfalso
    have := HM.out
    rw [E1.out, hm] at this
    cases this
  have HB2 := Lib.hid (below_new (below_from HB1.out hb2) (.cells (coA h2 A2 k2.length c2) 27))
  have hr3 := hr2.below (below_new (Below.refl w2.heap.size w2) (.cells (coA h2 A2 k2.length c2) 27))
  rw [← E1.out] at e2
  have hz : 1 + T.sizes k2 = 3 := by have := HCZ.out; rw [e2] at this; exact this
  have hf : fewC (.mk h2 k2) := by rw [← e2]; exact HF.out
  have HTx := Lib.hid (cText_any h2 k2 A2 c2 _ (by omega) hc2 hr3 hf (HT.out.below HB2.out))
  rw [← e2, HX.out] at HTx
  clear hm e2 hc2 hr2 hr3 hb2 hz hf HC
  go_wp2_with fail
  refine HTx.out.mono ?_
  rintro e w3 ⟨rfl, hb3⟩
  have hb := below_from HB2.out hb3
  go_wp2_with fail
  go_ret
  exact ⟨rfl, hb⟩
end Go.Proofs.YtfbnlpoinieijaaGreatDoor
