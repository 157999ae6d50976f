/- What is made of expressions: one behind the other, one of some. -/
import Derived.Test.YteoghoaggpbkpaaDoorFold2
import Derived.Test.YteoghoaggpbkpaaDoorMake1
import Derived.Deep.RegionHeld3
namespace Go.Proofs.YteoghoaggpbkpaaDoor
open Go.RowKit
set_option linter.unusedVariables false
set_option linter.unusedSimpArgs false

set_option maxHeartbeats 4000000 in
theorem then_any {ok : Nat → Prop} (ts : List Re) (A : Option Addr) (c : Nat) (w : World) (hm : ts.length ≤ 1000000000) (hc : ts.length ≤ c) (hr : InRow RE ok w ts A 0) :
    Calls Tryd.prog 98 #[.slice A ts.length c] w (RePost ok (foldT 4 2 ts) w) := by
  have HR := Lib.hid hr
  clear hr
  go_enter Tryd.func98, Tryd.ntmps98
  go_wp2_with fail
  refine (fold_any 4 2 4 2 rfl rfl ts A c _ hm hc (HR.out.there.below (below_new (Below.refl _ _) _))).mono ?_
  rintro e w1 ⟨v, rfl, ⟨h, ks, A1, c1, ht, hc1, rfl, hr1⟩, hb1⟩
  have hb2 := below_from (below_new (Below.refl _ _) _) hb1
  have e1 := one_block hb1
  obtain ⟨⟨x0, x1, x2, x3, x4, x5⟩, f0, f1, f2, f3, f4, f5⟩ := re_cells e1
  have E1 := Lib.hid e1
  have HT := Lib.hid ht
  clear e1 ht hb1
  go_wp2_with fail
  refine bodyPost_ret (v := reV h A1 ks.length c1) (by simp [results, Tryd.results98, go_sem, x0, x1, x2, x3, x4, x5]) rfl ⟨_, rfl, ⟨h, ks, A1, c1, HT.out, hc1, rfl, hr1.keep ?_ ?_⟩, six_below hb2 (Nat.le_refl _)⟩
  · rintro b (hb | hb)
    · exact .inl hb.1
    · simp at hb; exact .inr (by omega)
  · intro a v ha hv
    refine (World.cell?_of_block (six_other ?_)).trans hv
    rcases ha with ha | ha
    · have := ha.2; omega
    · simp at ha; omega
set_option maxHeartbeats 4000000 in
theorem or_any {ok : Nat → Prop} (ts : List Re) (A : Option Addr) (c : Nat) (w : World) (hm : ts.length ≤ 1000000000) (hc : ts.length ≤ c) (hr : InRow RE ok w ts A 0) :
    Calls Tryd.prog 58 #[.slice A ts.length c] w (RePost ok (foldT 5 1 ts) w) := by
  have HR := Lib.hid hr
  clear hr
  go_enter Tryd.func58, Tryd.ntmps58
  go_wp2_with fail
  refine (fold_any 5 1 5 1 rfl rfl ts A c _ hm hc (HR.out.there.below (below_new (Below.refl _ _) _))).mono ?_
  rintro e w1 ⟨v, rfl, ⟨h, ks, A1, c1, ht, hc1, rfl, hr1⟩, hb1⟩
  have hb2 := below_from (below_new (Below.refl _ _) _) hb1
  have e1 := one_block hb1
  obtain ⟨⟨x0, x1, x2, x3, x4, x5⟩, f0, f1, f2, f3, f4, f5⟩ := re_cells e1
  have E1 := Lib.hid e1
  have HT := Lib.hid ht
  clear e1 ht hb1
  go_wp2_with fail
  refine bodyPost_ret (v := reV h A1 ks.length c1) (by simp [results, Tryd.results58, go_sem, x0, x1, x2, x3, x4, x5]) rfl ⟨_, rfl, ⟨h, ks, A1, c1, HT.out, hc1, rfl, hr1.keep ?_ ?_⟩, six_below hb2 (Nat.le_refl _)⟩
  · rintro b (hb | hb)
    · exact .inl hb.1
    · simp at hb; exact .inr (by omega)
  · intro a v ha hv
    refine (World.cell?_of_block (six_other ?_)).trans hv
    rcases ha with ha | ha
    · have := ha.2; omega
    · simp at ha; omega
end Go.Proofs.YteoghoaggpbkpaaDoor
