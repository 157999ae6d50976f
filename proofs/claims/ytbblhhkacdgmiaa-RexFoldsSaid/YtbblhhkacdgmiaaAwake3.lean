/- The document's example of layer 3. -/
import Derived.Test.YtbblhhkacdgmiaaBd
import Derived.Test.YtbblhhkacdgmiaaBa
namespace Go.Proofs.Ytbblhhkacdgmiaa
open Go.RowKit
set_option linter.unusedVariables false
set_option linter.unusedSimpArgs false

def abT : Re := foldT 4 2 (wordL [97, 98])
theorem abT_size : abT.size = 3 := by kernel_rfl
theorem abT_may : mayB abT = true := by kernel_rfl

set_option maxHeartbeats 4000000 in
theorem awake3_any (w : World) : Calls Try.prog 7 #[] w fun e w' => e = .returned (.bool true) ∧ Below w.heap.size w w' := by
  go_enter Try.func7, Try.ntmps7
  go_wp2_with fail
  refine (rexWord_any _ _ (by decide)).mono ?_
  rintro e w1 ⟨v, rfl, ⟨h, ks, A, c, ht, hc, rfl, hr⟩, hb1⟩
  have hz : Hid (T.sizes [T.mk h ks] = 3) := by
    unfold Hid; rw [← ht]; exact abT_size
  clear ht
  have hrow := row_one (P := fun b => True) (new_at (w := w1) (.cells (reA h A ks.length c) 30) rfl) trivial hc ((hr.weak fun b hb => trivial).below (below_new (Below.refl _ _) _))
  go_wp2_with fail
  have hS := Size_upto 3 (fun _ => True) [T.mk h ks] (some ⟨w1.heap.size, 0, none⟩) 1 _ (by rw [hz.out]; exact Nat.le_refl _) (by decide) hrow
  rw [hz.out] at hS
  refine hS.mono ?_
  rintro e w2 ⟨rfl, hb2⟩
  have hb3 := below_from (below_from hb1 (below_new (Below.refl _ _) (.cells (reA h A ks.length c) 30))) hb2
  clear hS hrow hb1 hb2 hr hz hc
  go_wp2_with fail
  refine (rexWord_any _ _ (by decide)).mono ?_
  rintro e w4 ⟨v, rfl, ⟨h2, ks2, A2, c2, ht, hc2, rfl, hr⟩, hb1⟩
  have hz : Hid ([T.mk h2 ks2].all mayB = true) := by
    unfold Hid; rw [← ht, List.all_cons, List.all_nil, Bool.and_true]; exact abT_may
  have hz2 : Hid (T.sizes [T.mk h2 ks2] ≤ 900000000) := by
    unfold Hid; rw [← ht]; exact Nat.le_trans (Nat.le_of_eq abT_size) (by decide)
  clear ht
  have hrow := row_one (P := fun b => True) (new_at (w := w4) (.cells (reA h2 A2 ks2.length c2) 30) rfl) trivial hc2 ((hr.weak fun b hb => trivial).below (below_new (Below.refl _ _) _))
  go_wp2_with fail
  have hM := May_any [T.mk h2 ks2] (some ⟨w4.heap.size, 0, none⟩) 1 _ hz2.out hrow
  rw [hz.out] at hM
  refine hM.mono ?_
  rintro e w5 ⟨rfl, hb5⟩
  have hb6 := below_from (below_from (below_from hb3 hb1) (below_new (Below.refl _ _) (.cells (reA h2 A2 ks2.length c2) 30))) hb5
  clear hM hrow hb1 hb3 hb5 hr hz hz2 hc2
  go_wp2_with fail
  go_ret
  exact ⟨rfl, hb6⟩
end Go.Proofs.Ytbblhhkacdgmiaa
