/- The document's example of layer 15. -/
import Derived.Test.YteokbmngebckjaaDoorCf
import Derived.Test.YteokbmngebckjaaDoorBe
namespace Go.Proofs.YteokbmngebckjaaDoor
open Go.RowKit
set_option linter.unusedVariables false
set_option linter.unusedSimpArgs false

def ex15 : Re := rStar (rCls (setOf [97]))
theorem ex15_parse : pAlt [97, 42] 20 0 = some (ex15, 2) := by kernel_rfl
theorem ex15_may : mayB ex15 = true := by decide +kernel
theorem ex15_has : (setOf [97]).has (97 : UInt8).toNat = true := by decide +kernel
theorem nomore_one {S : S4} {Q : List UInt8 → Prop} {b : UInt8} {t : List UInt8} : NoMore (LT (rCls S)) Q [b] t := by
  rintro p q hp e ⟨h1, _⟩
  obtain ⟨c, hc, _⟩ := (LT_cls S _).1 h1
  rcases p with _ | ⟨x, p⟩
  · exact hp rfl
  · simp at hc
theorem ex15_rv : RV ex15 [97, 97] (vStars [vByte 97, vByte 97]) :=
  RV.cons (rCls (setOf [97])) [97] [97] (vByte 97) [vByte 97] (.cls _ 97 ex15_has) (by decide) (RV.cons (rCls (setOf [97])) [97] [] (vByte 97) [] (.cls _ 97 ex15_has) (by decide) (.nil _) nomore_one) nomore_one
theorem ex15_right {v : Va} {b : Bool} (h : RightRel ex15 [97, 97] v b) : codeV v = [48, 48, 49] ∧ v.size = 3 ∧ b = true := by
  rcases h with ⟨hb, _, hv⟩ | ⟨_, _, hn⟩
  · obtain rfl := RV_one (may_okT ex15_may) hv ex15_rv
    exact ⟨rfl, rfl, hb⟩
  · exact (hn ⟨ex15_may, RV_LT ex15_rv⟩).elim
theorem ex15_size : ex15.size = 2 := by decide +kernel
set_option maxRecDepth 100000 in
set_option maxHeartbeats 4000000 in
theorem awake15_any (w : World) : Calls Tryd.prog 7 #[] w fun e w' => e = .returned (.bool true) ∧ Below w.heap.size w w' := by
  have HP : Hid (pAlt (⟨#[97, 42]⟩ : ByteArray).data.toList 20 0 = some (ex15, (⟨#[97, 42]⟩ : ByteArray).size)) := ex15_parse
  have HR := Lib.hid (fun X => readRe_any (S := ⟨#[97, 42]⟩) (by decide) 20 (by decide) HP.out ex15_may X)
  have HX : Hid (∀ (v : Va) (b : Bool), RightRel ex15 [97, 97] v b → codeV v = [48, 48, 49] ∧ v.size = 3 ∧ b = true) := fun v b h => ex15_right h
  have HZ := Lib.hid ex15_size
  clear HP
  generalize ex15 = t at *
  go_enter Tryd.func7, Tryd.ntmps7
  go_wp2_with fail
  refine (HR.out _).mono ?_
  rintro e w1 ⟨h1, k1, A1, c1, rfl, e1, hc1, hr1, hb1⟩
  have HB1 := Lib.hid (below_new hb1 (.cells (reA h1 A1 k1.length c1) 27))
  have hr2 := hr1.below (below_new (Below.refl w1.heap.size w1) (.cells (reA h1 A1 k1.length c1) 27))
  have hz : 1 + T.sizes k1 = 2 := by have := HZ.out; rw [e1] at this; exact this
  have HC := Lib.hid (bRight_any h1 k1 A1 c1 ⟨#[97, 97]⟩ _ (by omega) hc1 hr2 (by decide) (fun v b hv => by rw [← e1] at hv; have := (HX.out v b hv).2.1; omega))
  rw [← e1] at HC
  clear hb1 hr1 hr2 hc1 e1 hz
  go_wp2_with fail
  refine HC.out.mono ?_
  rintro e w2 ⟨v, b, rfl, hrl, hb2⟩
  obtain ⟨hcd, _, rfl⟩ := HX.out _ _ hrl
  rw [hcd]
  have hb := below_from HB1.out hb2
  clear hrl hcd
  go_wp2_with fail
  go_ret
  exact ⟨rfl, hb⟩
end Go.Proofs.YteokbmngebckjaaDoor
