/- Whether all of some texts are names. -/
import Derived.Test.YthbcofbdgljfbaaDoorNum2
import Derived.Test.YthbcofbdgljfbaaDoorRow1
namespace Go.Proofs.YthbcofbdgljfbaaDoor
open Go.RowKit
set_option linter.unusedVariables false
set_option linter.unusedSimpArgs false

theorem nameLit_any (s : ByteArray) (w : World) (hs : s.size ≤ 9223372036854775807) :
    Calls Tryd.prog 19 #[.string s] w fun e w' => e = .returned (.bool (!nameB s)) ∧ Below w.heap.size w w' := by
  go_enter Tryd.func19, Tryd.ntmps19
  go_wp2_with fail
  refine (name_any s _ hs).mono ?_
  rintro e w1 ⟨rfl, hb⟩
  go_wp2_with fail
  go_ret
  exact ⟨rfl, hb⟩

theorem idx_names (xs : List ByteArray) (A : Option Addr) (c : Nat) (w : World) (hr : Row1 .string w A xs) (hm : xs.length ≤ 1000000000) (hs : ∀ s ∈ xs, s.size ≤ 9223372036854775807) :
    Calls Tryd.prog 28 #[.slice A xs.length c, .func (.func 19) #[] #[]] w fun e w' => e = .returned (.int .i64 (idx (fun s => !nameB s) xs)) ∧ Below w.heap.size w w' := by
  have HS := Lib.hid hs
  clear hs
  go_enter Tryd.func28, Tryd.ntmps28
  go_wp2_with fail
  go_loopw [5, 8] (fun _ i wr => ∃ k : Nat, k ≤ xs.length ∧ i = .int .i64 k ∧ (∀ j y, j < k → xs[j]? = some y → (!nameB y) = false) ∧ Below w.heap.size w wr) (fun _ i _ => xs.length - (intOf i).toNat)
  case atStart => exact ⟨0, Nat.zero_le _, rfl, fun j y h => absurd h (by omega), Below.refl _ _⟩
  case round =>
    obtain ⟨k, hk, rfl, hn, hb⟩ := hrel
    have HN := Lib.hid hn
    clear hn
    by_cases hlt : k < xs.length
    · obtain ⟨ad, x, hA, hx, hc⟩ := (hr.below hb).at_ hlt
      subst hA
      have HX := Lib.hid hx
      have hxs := HS.out x (List.mem_of_getElem? hx)
      clear hx hr
      go_wp2_with fail
      refine (nameLit_any x _ hxs).mono ?_
      rintro e w1 ⟨rfl, hb1⟩
      have hb2 := below_from hb hb1
      clear hb1 hc
      rcases hp : (!nameB x) with _ | _
      · have HP := Lib.hid hp
        clear hp
        go_wp2_with fail
        go_roundw
        case rel => exact ⟨k + 1, by omega, by go_num, fun j y hj hy => by
          by_cases e : j = k
          · subst e; rw [HX.out] at hy; cases hy; exact HP.out
          · exact HN.out j y (by omega) hy, hb2⟩
        case measure => simp [intOf]; omega
      · have HP := Lib.hid hp
        clear hp
        go_wp2_with fail
        go_ret
        exact ⟨by rw [idx_at _ xs k x HX.out (fun j y hj hy => HN.out j y hj hy) HP.out]; rfl, hb2⟩
    · have hfin := Lib.hid (idx_none (fun s => !nameB s) xs fun j y hy => HN.out j y (by
        have := (List.getElem?_eq_some_iff.1 hy).1; omega) hy)
      go_wp2_with fail
      go_ret
      exact ⟨by rw [hfin.out]; rfl, hb⟩

theorem has_names (xs : List ByteArray) (A : Option Addr) (c : Nat) (w : World) (hr : Row1 .string w A xs) (hm : xs.length ≤ 1000000000) (hs : ∀ s ∈ xs, s.size ≤ 9223372036854775807) :
    Calls Tryd.prog 18 #[.slice A xs.length c, .func (.func 19) #[] #[]] w fun e w' => e = .returned (.bool (xs.any fun s => !nameB s)) ∧ Below w.heap.size w w' := by
  have HS := Lib.hid hs
  clear hs
  have HA := Lib.hid (idx_any (fun s => !nameB s) xs)
  go_enter Tryd.func18, Tryd.ntmps18
  go_wp2_with fail
  refine (idx_names xs A c _ hr hm HS.out).mono ?_
  rintro e w1 ⟨rfl, hb⟩
  go_wp2_with fail
  go_ret
  exact ⟨by rw [← HA.out]; rfl, hb⟩

theorem Name_any (xs : List ByteArray) (A : Option Addr) (c : Nat) (w : World) (hr : Row1 .string w A xs) (hm : xs.length ≤ 1000000000) (hs : ∀ s ∈ xs, s.size ≤ 9223372036854775807) :
    Calls Tryd.prog 12 #[.slice A xs.length c] w fun e w' => e = .returned (.bool (!xs.any fun s => !nameB s)) ∧ Below w.heap.size w w' := by
  have HS := Lib.hid hs
  clear hs
  go_enter Tryd.func12, Tryd.ntmps12
  go_wp2_with fail
  refine (has_names xs A c _ hr hm HS.out).mono ?_
  rintro e w1 ⟨rfl, hb⟩
  go_wp2_with fail
  go_ret
  exact ⟨rfl, hb⟩
end Go.Proofs.YthbcofbdgljfbaaDoor
