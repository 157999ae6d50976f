/- The document's example of layer 14. -/
import Derived.Test.YteokbmngebckjaaCe
import Derived.Test.YteokbmngebckjaaVt1
import Derived.Test.YteokbmngebckjaaBe
namespace Go.Proofs.Yteokbmngebckjaa
open Go.RowKit
set_option linter.unusedVariables false
set_option linter.unusedSimpArgs false

def ex14 : Re := rSeq (rAlt (rCls (setOf [97])) (rSeq (rCls (setOf [97])) (rCls (setOf [98])))) (rAlt (rCls (setOf [99])) (rSeq (rCls (setOf [98])) (rCls (setOf [99]))))
theorem ex14_parse : pAlt [40, 97, 124, 97, 98, 41, 40, 99, 124, 98, 99, 41] 20 0 = some (ex14, 12) := by kernel_rfl
theorem ex14_may : mayB ex14 = true := by decide +kernel
theorem ex14_has : (setOf [97]).has (97 : UInt8).toNat = true ∧ (setOf [98]).has (98 : UInt8).toNat = true ∧ (setOf [99]).has (99 : UInt8).toNat = true := by decide +kernel
theorem ex14_size : ex14.size = 11 := by decide +kernel
theorem nomore_cls {S : S4} {Q : List UInt8 → Prop} {b : UInt8} {t : List UInt8} : NoMore (LT (rCls S)) Q [b] t := by
  rintro p q hp e ⟨h1, _⟩
  obtain ⟨c, hc, _⟩ := (LT_cls S _).1 h1
  rcases p with _ | ⟨x, p⟩
  · exact hp rfl
  · simp at hc
theorem ex14_rv : RV ex14 [97, 98, 99] (vPair (vRight (vPair (vByte 97) (vByte 98))) (vLeft (vByte 99))) := by
  refine RV.pair _ _ [97, 98] [99] _ _ (RV.right _ _ _ _ ?_ (RV.pair _ _ [97] [98] _ _ (.cls _ 97 ex14_has.1) (.cls _ 98 ex14_has.2.1) nomore_cls)) (RV.left _ _ _ _ (.cls _ 99 ex14_has.2.2)) ?_
  · intro h
    obtain ⟨c, hc, _⟩ := (LT_cls _ _).1 h
    simp at hc
  · rintro p q hp e ⟨_, h2⟩
    rcases p with _ | ⟨x, p⟩
    · exact hp rfl
    · obtain rfl : q = [] := by
        have := congrArg List.length e
        simp at this
        exact this.2
      rcases (LT_alt _ _ _).1 h2 with h | h
      · obtain ⟨c, hc, _⟩ := (LT_cls _ _).1 h
        simp at hc
      · obtain ⟨u, v, huv, hu, hv⟩ := (LT_seq _ _ _).1 h
        obtain ⟨c, rfl, _⟩ := (LT_cls _ _).1 hu
        simp at huv
theorem ex14_right {v : Va} {b : Bool} (h : RightRel ex14 [97, 98, 99] v b) : textV v = [40, 82, 40, 97, 44, 98, 41, 44, 76, 99, 41] ∧ v.size = 7 ∧ b = true := by
  rcases h with ⟨hb, _, hv⟩ | ⟨_, _, hn⟩
  · obtain rfl := RV_one (may_okT ex14_may) hv ex14_rv
    exact ⟨by decide +kernel, by decide +kernel, hb⟩
  · exact (hn ⟨ex14_may, RV_LT ex14_rv⟩).elim
set_option maxRecDepth 100000 in
set_option maxHeartbeats 4000000 in
theorem awake14_any (w : World) : Calls Try.prog 17 #[] w fun e w' => e = .returned (.bool true) ∧ Below w.heap.size w w' := by
  have HP : Hid (pAlt (⟨#[40, 97, 124, 97, 98, 41, 40, 99, 124, 98, 99, 41]⟩ : ByteArray).data.toList 20 0 = some (ex14, (⟨#[40, 97, 124, 97, 98, 41, 40, 99, 124, 98, 99, 41]⟩ : ByteArray).size)) := ex14_parse
  have HR := Lib.hid (fun X => readRe_any (S := ⟨#[40, 97, 124, 97, 98, 41, 40, 99, 124, 98, 99, 41]⟩) (by decide) 20 (by decide) HP.out ex14_may X)
  have HX : Hid (∀ (v : Va) (b : Bool), RightRel ex14 [97, 98, 99] v b → textV v = [40, 82, 40, 97, 44, 98, 41, 44, 76, 99, 41] ∧ v.size = 7 ∧ b = true) := fun v b h => ex14_right h
  have HZ := Lib.hid ex14_size
  clear HP
  generalize ex14 = t at *
  go_enter Try.func17, Try.ntmps17
  go_wp2_with fail
  refine (HR.out _).mono ?_
  rintro e w1 ⟨h1, k1, A1, c1, rfl, e1, hc1, hr1, hb1⟩
  have HB1 := Lib.hid (below_new hb1 (.cells (reA h1 A1 k1.length c1) 34))
  have hr2 := hr1.below (below_new (Below.refl w1.heap.size w1) (.cells (reA h1 A1 k1.length c1) 34))
  have hz : 1 + T.sizes k1 = 11 := by have := HZ.out; rw [e1] at this; exact this
  have HC := Lib.hid (vRight_any h1 k1 A1 c1 ⟨#[97, 98, 99]⟩ _ (by omega) hc1 hr2 (by decide))
  rw [← e1] at HC
  clear hb1 hr1 hr2 hc1 e1 hz
  go_wp2_with fail
  refine HC.out.mono ?_
  rintro e w2 ⟨hn, kn, An, cn, b, rfl, hrl, hcn, hrn, hb2⟩
  obtain ⟨htx, hsz, rfl⟩ := HX.out _ _ hrl
  simp only [T.size] at hsz
  have HB3 := Lib.hid (below_new (below_from HB1.out hb2) (.cells (vaA hn An kn.length cn) 24))
  have CT := Lib.hid (vtext_any hn kn An cn (w2.alloc (.cells (vaA hn An kn.length cn) 24)) (by omega) hcn (hrn.below (below_new (Below.refl _ _) _)))
  rw [htx] at CT
  clear hrl htx hsz hrn hcn hb2 HC
  go_wp2_with fail
  refine CT.out.mono ?_
  rintro e w3 ⟨rfl, hb3⟩
  have hb := below_from HB3.out hb3
  clear hb3
  go_wp2_with fail
  go_ret
  exact ⟨rfl, hb⟩
end Go.Proofs.Yteokbmngebckjaa
