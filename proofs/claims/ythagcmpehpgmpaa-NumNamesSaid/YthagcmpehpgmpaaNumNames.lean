/- Whether any texts are names is the document's (up to 20 texts of 100 bytes). For every input. -/
import Derived.Test.YthagcmpehpgmpaaNumA
import Derived.Test.YthagcmpehpgmpaaClose
namespace Go.Proofs.Ythagcmpehpgmpaa
open Go.RowKit
set_option linter.unusedVariables false
set_option linter.unusedSimpArgs false

set_option maxHeartbeats 1000000 in
theorem namesLaw_any (xs : List ByteArray) (A : Option Addr) (c : Nat) (w : World) (hr : Row1 .string w A xs) (hm : xs.length ≤ 9223372036854775807) (hs : ∀ s ∈ xs, s.size ≤ 9223372036854775807) :
    Calls Try.prog 3 #[.slice A xs.length c] w fun e w' => e = .returned (.bool true) ∧ Below w.heap.size w w' := by
  have HS := Lib.hid hs
  clear hs
  by_cases h20 : 20 < xs.length
  · go_enter Try.func3, Try.ntmps3
    go_wp2_with fail
    refine (awake1_any _).mono ?_
    rintro e w1 ⟨rfl, hb⟩
    go_wp2_with fail
    go_ret
    exact ⟨rfl, hb⟩
  · go_enter Try.func3, Try.ntmps3
    go_wp2_with fail
    go_loopw [2, 3, 4] (fun r b i wr => ∃ k : Nat, k ≤ xs.length ∧ i = .int .i64 k ∧ b = .bool ((xs.take k).all nameB) ∧ r = .bool false ∧ Below w.heap.size w wr) (fun _ _ i _ => xs.length - (intOf i).toNat)
    case atStart => exact ⟨0, Nat.zero_le _, rfl, by simp, rfl, Below.refl _ _⟩
    case round =>
      obtain ⟨k, hk, rfl, rfl, rfl, hb⟩ := hrel
      by_cases hlt : k < xs.length
      · obtain ⟨ad, x, hA, hx, hc⟩ := (hr.below hb).at_ hlt
        subst hA
        have hxs := HS.out x (List.mem_of_getElem? hx)
        have HT : Hid ((xs.take (k + 1)).all nameB = ((xs.take k).all nameB && nameB x)) := by rw [take_snoc_ hx]; simp [Hid]
        clear hx hr
        by_cases h100 : 100 < x.size
        · go_wp2_with fail
          refine (awake1_any _).mono ?_
          rintro e w1 ⟨rfl, hb1⟩
          have hb2 := below_from hb hb1
          clear hb1 hb
          go_wp2_with fail
          go_ret
          exact ⟨rfl, hb2⟩
        · generalize (xs.take k).all nameB = bk at *
          cases bk with
          | false =>
            go_wp2_with fail
            go_roundw
            case rel => exact ⟨k + 1, by omega, by go_num, by rw [HT.out]; rfl, rfl, hb⟩
            case measure => simp [intOf]; omega
          | true =>
            go_wp2_with fail
            refine (refName_any x _ hxs).mono ?_
            rintro e w1 ⟨rfl, rfl⟩
            go_wp2_with fail
            go_roundw
            case rel => exact ⟨k + 1, by omega, by go_num, by rw [HT.out]; rfl, rfl, hb⟩
            case measure => simp [intOf]; omega
      · have hkk : k = xs.length := by omega
        subst hkk
        clear hlt hk
        have hany : (!xs.any fun s => !nameB s) = xs.all nameB := by rw [List.all_eq_not_any_not]
        rw [List.take_length]
        go_wp2_with fail
        refine (Name_any xs A c _ (hr.below hb) (by omega) HS.out).mono ?_
        rintro e w1 ⟨rfl, hb1⟩
        have hb2 := below_from hb hb1
        rw [hany]
        clear hb1 hb hr
        have hbb : ∀ b : Bool, (b == b) = true := by intro b; cases b <;> rfl
        go_wp2_with fail
        refine (awake1_any _).mono ?_
        rintro e w3 ⟨rfl, hb3⟩
        have hb4 := below_from hb2 hb3
        clear hb2 hb3
        go_wp2_with fail
        go_ret
        exact ⟨rfl, hb4⟩
namespace lawNames
open Go.ChangeShapes Go.WideShapes Go.ChangeAt
theorem cells_str : Try.prog.cellsOf 9 = 1 := by kernel_rfl
set_option maxRecDepth 100000 in
theorem lifted (os : Os) (started : os.Started) (H : Type) (enc : TypeId × Value → H) :
    ReturnsInHanded {} Try.checked os 3 .any (Rows.numNamesSpec.pre6 enc Try.prog Try.f3 Rows.numNamesRow.domain false) (Rows.numNamesSpec.post enc Try.prog Try.f3 false true false false) := by
  refine returnsInHanded_of_change (C := Try.checked) Try.own started (by kernel_rfl) Try.func3
    (ChangeSpec.witness6 (enc := enc) (C := Try.checked) false ⟨#[], #[.slice none 0 0], []⟩ 8 (by kernel_rfl) (by kernel_rfl) (by kernel_rfl) (by kernel_rfl)) ?_
  intro W base args ds gs before hval0 hW hcnd _
  have hval : ∀ (j : Nat) t v, Try.f3.params[j]? = some t → args[j]? = some v → Value.okWide Try.prog W .any base t v := hval0
  have hW' := hW
  obtain ⟨p, q, hA0, hV, rfl, hfz, hnd⟩ := hW
  have hA : DataW.TrodAll enc Try.prog W 0 (fun _ => true) true Try.f3.params.toList args.toList ds p := hA0
  rw [Try.params3] at hA hval
  obtain ⟨v0, vs0, d0, ds0, p0, q0, hargs, rfl, rfl, h0, r0⟩ := trodAll_cons hA
  obtain ⟨rfl, rfl, rfl⟩ := trodAll_nil r0
  obtain rfl : args = #[v0] := by cases args; simp_all
  obtain ⟨rfl, rfl⟩ := trodVars_none hV
  obtain ⟨xs, A, c, rfl, hxc, hcm, hr, hs⟩ := open_texts Try.underlying22 Try.underlying9 cells_str (hval 0 22 v0 rfl rfl) h0
  refine (namesLaw_any xs A c W hr (by unfold maxLen at hcm; omega) (fun s h => by have := hs s h; unfold maxLen at this; omega)).mono fun e W' ⟨he, hb⟩ => ?_
  subst he
  exact ⟨_, rfl, post_true Try.laidOut (by rw [Try.params3]; intro t ht; simp at ht; subst ht; exact ⟨by kernel_rfl, of_decide_eq_true (by kernel_rfl)⟩) hW' rfl rfl rfl Try.underlying4 hb⟩
theorem proved : Rows.NumNamesSaid :=
  OpenClaim.holds_of_wide 3 Try.f3 rfl rfl rfl rfl rfl rfl rfl ⟨rfl, rfl, rfl, rfl, rfl⟩ rfl rfl rfl rfl rfl (by kernel_rfl) Try.func3 (by kernel_rfl)
    (of_decide_eq_true (by kernel_rfl)) (by unfold Func.isWrapper; first | (rw [if_pos (by decide +kernel)]; kernel_rfl) | (rw [if_neg (by decide +kernel)]; exact ⟨rfl, rfl⟩))
    (fun os started H enc _ => lifted os started H enc)
end lawNames
end Go.Proofs.Ythagcmpehpgmpaa
