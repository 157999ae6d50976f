/- Any text's bytes, one behind the other, are shown as their signs; as often as one likes, with a star. For every input. -/
import Derived.Test.YthagcmpehpgmpaaDoorAwake5
import Derived.Test.YthagcmpehpgmpaaDoorShowW
import Derived.Test.YthagcmpehpgmpaaDoorSign3
import Derived.Test.YthagcmpehpgmpaaDoorDoor
namespace Go.Proofs.YthagcmpehpgmpaaDoor
open Go.RowKit
set_option linter.unusedVariables false
set_option linter.unusedSimpArgs false

theorem word_size {l : List UInt8} (h : 2 ≤ l.length) : (foldT 4 2 (wordL l)).size ≤ 2 * l.length := by
  match l, h with
  | b :: c :: l, _ =>
    have := (word_row (c :: l) b).2.2
    simp only [List.length_cons] at this ⊢
    omega
set_option maxRecDepth 100000 in
set_option maxHeartbeats 8000000 in
theorem showSigns_walk (s : ByteArray) (w : World) (ht : TzOk w) :
    Calls Tryd.prog 10 #[.string s] w fun e w' => e = .returned (.bool true) ∧ Below w.heap.size w w' := by
  have HT := Lib.hid ht
  have HL := Lib.hid (text_len s)
  clear ht
  have out : ∀ X, Below w.heap.size w X → Calls Tryd.prog 38 #[] X fun e w' => e = .returned (.bool true) ∧ Below X.heap.size X w' := fun X hX => awake5_any X (HT.out.below hX)
  have CA := Lib.hid out
  clear out
  by_cases h60 : s.size ≤ 60
  · have g : decide ((s.size : Int) > 60) = false := by simp; omega
    by_cases h2 : 2 ≤ s.size
    · have g2 : decide ((s.size : Int) < 2) = false := by simp; omega
      obtain ⟨W1, W2⟩ := word_text (l := s.data.toList) (by rw [HL.out]; exact h2) (by rw [HL.out]; omega)
      have TX1 := Lib.hid W1
      have TX2 := Lib.hid W2
      have WS := Lib.hid (word_size (l := s.data.toList) (by rw [HL.out]; exact h2))
      have SL := Lib.hid (signs_length s.data.toList)
      have S0 : Hid (signsL (s.data.toList.take 0) = []) := rfl
      clear W1 W2
      go_enter Tryd.func10, Tryd.ntmps10
      go_wp2_with fail
      go_loopw [3, 4] (fun a i wr => ∃ (k : Nat), k ≤ s.size ∧ a = .string (str (signsL (s.data.toList.take k))) ∧ i = .int .i64 (k : Nat) ∧ Hid (Below w.heap.size w wr)) (fun _ i _ => s.size - (intOf i).toNat)
      case atStart => exact ⟨0, Nat.zero_le _, by rw [S0.out], rfl, Lib.hid (Below.refl _ _)⟩
      case round =>
        obtain ⟨k, hk, rfl, rfl, HB⟩ := hrel
        by_cases hlt : k < s.size
        · have HT2 := Lib.hid (signs_take (text_at s k hlt))
          have ql := signs_length (s.data.toList.take k)
          rw [List.length_take] at ql
          generalize hsg : signsL (s.data.toList.take k) = sg at *
          have CS := Lib.hid (fun X => setSign_any (s[k]'hlt) X)
          have qs := signB_length (s[k]'hlt)
          generalize signB (s[k]'hlt) = sb at *
          have hc1 := run_cat (P := Tryd.prog) sg sb (by omega)
          clear hsg
          go_wp2_with fail
          refine (CS.out _).mono ?_
          rintro e w1 ⟨rfl, hb1⟩
          have HB1 := Lib.hid (below_from HB.out hb1)
          clear hb1
          go_wp2_with fail
          go_round
          case rel => exact ⟨k + 1, by omega, by rw [HT2.out], by go_num, HB1⟩
          case measure => simp [intOf]; omega
        · have hkn : k = s.size := by omega
          subst hkn
          have HTk : Hid (signsL (s.data.toList.take s.size) = signsL s.data.toList) := by unfold Hid; rw [List.take_of_length_le (by rw [HL.out]; exact Nat.le_refl _)]
          rw [HTk.out]
          have HW := Lib.hid (fun X => rexWord_any s X (by omega))
          generalize hx : signsL s.data.toList = all at *
          generalize hfo : foldT 4 2 (wordL s.data.toList) = t at *
          have qa : all.length ≤ 180 := by have := SL.out; rw [HL.out] at this; omega
          have hc1 := run_cat (P := Tryd.prog) [40] all (by simp; omega)
          have hc2 := run_cat (P := Tryd.prog) (40 :: all) [41, 42] (by simp; omega)
          have hz : t.size ≤ 120 := by have := WS.out; rw [HL.out] at this; omega
          clear hx hfo HTk
          go_wp2_with fail
          refine (HW.out _).mono ?_
          rintro e w1 h
          obtain ⟨h1, k1, A1, c1, rfl, e1, hc1', hr1, hb1⟩ := h.made3
          have ez : 1 + T.sizes k1 ≤ 120 := by rw [e1] at hz; exact hz
          have E1 := Lib.hid e1
          have E0 := Lib.hid (new_at1 (w := w1) (.cells (reA h1 A1 k1.length c1) 47))
          have HB1 := Lib.hid (below_new (below_from HB.out hb1) (.cells (reA h1 A1 k1.length c1) 47))
          have HR1 := Lib.hid (hr1.below (below_new (Below.refl _ _) (.cells (reA h1 A1 k1.length c1) 47)))
          have CT1 : Hid (∀ X, InRow RE (fun _ => True) X k1 A1 0 → TzOk X → Calls Tryd.prog 39 #[reV h1 A1 k1.length c1] X fun e w' => e = .returned (.string (str all)) ∧ Below X.heap.size X w') := fun X hr ht => by
            have := showText_any h1 k1 A1 c1 X (by omega) hc1' hr ht
            rw [← E1.out, TX1.out] at this
            exact this
          have HC1 := Lib.hid hc1'
          clear e1 h hr1 hb1 hc1'
          go_wp2_with fail
          refine (CT1.out _ HR1.out (HT.out.below HB1.out)).mono ?_
          rintro e w2 ⟨rfl, hb2⟩
          have HB2 := Lib.hid (below_from HB1.out hb2)
          have HR2 := Lib.hid (HR1.out.below hb2)
          obtain ⟨x0, x1, x2, x3, x4, x5⟩ := cells6_of ((hb2.block _ (lt_of_block E0.out)).trans E0.out)
          clear hb2 E0
          go_wp2_with fail
          refine (rexMany_any h1 k1 A1 c1 w2 HC1.out HR2.out).mono ?_
          rintro e w3 h
          obtain ⟨h3, k3, A3, c3, rfl, e3, hc3, hr3, hb3⟩ := h.made3
          have ez3 : 1 + T.sizes k3 = 1 + (1 + T.sizes k1 + 0) := by
            have : (T.mk h3 k3).size = 1 + (1 + T.sizes k1 + 0) := by rw [← e3]; rfl
            exact this
          have HB3 := Lib.hid (below_from HB2.out hb3)
          have CT3 : Hid (Calls Tryd.prog 39 #[reV h3 A3 k3.length c3] w3 fun e w' => e = .returned (.string (str (40 :: (all ++ [41, 42])))) ∧ Below w3.heap.size w3 w') := by
            have := showText_any h3 k3 A3 c3 w3 (by omega) hc3 hr3 (HT.out.below HB3.out)
            rw [← e3, ← E1.out, TX2.out] at this
            exact this
          clear e3 h hc3 hr3 hb3 ez3
          go_wp2_with fail
          refine CT3.out.mono ?_
          rintro e w4 ⟨rfl, hb4⟩
          have HB4 := Lib.hid (below_from HB3.out hb4)
          clear hb4
          go_wp2_with fail
          refine (CA.out _ HB4.out).mono ?_
          rintro e w5 ⟨rfl, hb5⟩
          have hb := below_from HB4.out hb5
          clear hb5
          go_wp2_with fail
          go_ret
          exact ⟨rfl, hb⟩
    · have g2 : decide ((s.size : Int) < 2) = true := by simp; omega
      go_enter Tryd.func10, Tryd.ntmps10
      go_wp2_with fail
      refine (CA.out _ (Below.refl _ _)).mono ?_
      rintro e w1 ⟨rfl, hb1⟩
      go_wp2_with fail
      go_ret
      exact ⟨rfl, hb1⟩
  · have g : decide ((s.size : Int) > 60) = true := by simp; omega
    go_enter Tryd.func10, Tryd.ntmps10
    go_wp2_with fail
    refine (CA.out _ (Below.refl _ _)).mono ?_
    rintro e w1 ⟨rfl, hb1⟩
    go_wp2_with fail
    go_ret
    exact ⟨rfl, hb1⟩
namespace lawShowSigns
open Go.ChangeShapes Go.WideShapes Go.ChangeAt
open Go.ChangeMaps (open_string)
set_option maxRecDepth 100000 in
theorem contract (H : Type) (enc : TypeId × Value → H) (W : World) (base : Nat) (args : Array Value) (ds gs : List (DataW H)) (before : List MemPlace)
    (hval : ∀ (j : Nat) t v, Tryd.f10.params[j]? = some t → args[j]? = some v → Value.okWide Tryd.prog W .any base t v)
    (hW : DataW.Whole enc Tryd.prog Tryd.f10.params.toList Rows.showSignsSpec.vars false W args.toList ds gs before) (hL : laidMetH Tryd.prog Rows.showSignsRow.laid W) :
    Calls Tryd.prog 10 args W fun e W' => ∃ v, e = .returned v ∧ Rows.showSignsSpec.post enc Tryd.prog Tryd.f10 false true false false W args v W' := by
  have hW' := hW
  obtain ⟨p, q, hA0, hV, rfl, hfz, hnd⟩ := hW
  have hA : DataW.TrodAll enc Tryd.prog W 0 (fun _ => true) true Tryd.f10.params.toList args.toList ds p := hA0
  rw [Tryd.params10] at hA hval
  obtain ⟨v0, vs0, d0, ds0, p0, q0, hargs, rfl, rfl, h0, r0⟩ := trodAll_cons hA
  obtain ⟨rfl, rfl, rfl⟩ := trodAll_nil r0
  obtain rfl : args = #[v0] := by cases args; simp_all
  obtain ⟨rfl, rfl⟩ := trodVars_none hV
  obtain ⟨s, rfl, rfl, rfl, hs0⟩ := open_string Tryd.underlying9 (hval 0 9 v0 rfl rfl) h0
  have HT : TzOk W := tz_of_laid hL
  refine (showSigns_walk s W HT).mono fun e W' ⟨he, hb⟩ => ?_
  subst he
  exact ⟨_, rfl, post_true Tryd.laidOut (by rw [Tryd.params10]; intro t ht; simp at ht; rcases ht with rfl <;> exact ⟨by kernel_rfl, of_decide_eq_true (by kernel_rfl)⟩) hW' rfl rfl rfl Tryd.underlying4 hb⟩
theorem laid_met (os : Os) : laidMet Tryd.prog Rows.showSignsRow.laid ((tzWorld os).forCall (fun _ _ => 0) ⟨#[], #[.string ByteArray.empty], []⟩).memory :=
  laidMet_of_run' 70 (by kernel_rfl) (by kernel_rfl)
theorem reads (os : Os) {H : Type} (enc : TypeId × Value → H) : ∃ places, DataW.whole enc Tryd.prog ((tzWorld os).forCall (fun _ _ => 0) ⟨#[], #[.string ByteArray.empty], []⟩).memory Tryd.f10.params.toList Rows.showSignsSpec.vars false (#[.string ByteArray.empty] : Array Value).toList 8 = some ([.lit (.string [])], [], places) :=
  ⟨[], by kernel_rfl⟩
set_option maxRecDepth 100000 in
theorem lifted (os : Os) (started : os.Started) (H : Type) (enc : TypeId × Value → H) (F : Stop.Interp) :
    ReturnsInHanded {} Tryd.checked os 10 .any ((OpenSpec.ofChange Rows.showSignsSpec).preRow enc Tryd.prog Tryd.f10 Rows.showSignsRow.domain false Rows.showSignsRow.laid) (((OpenSpec.ofChange Rows.showSignsSpec).at F).post enc Tryd.prog Tryd.f10 false true false false) := by
  obtain ⟨places, hx⟩ := reads os enc
  refine returnsInHanded_of_row (C := Tryd.checked) (s := OpenSpec.ofChange Rows.showSignsSpec) Tryd.own started (by kernel_rfl) Tryd.func10
    (witness_row_at (enc := enc) (C := Tryd.checked) false (tzWorld os) #[.string ByteArray.empty] rfl (by kernel_rfl) (by kernel_rfl) (by kernel_rfl)
      (OpenSpec.preRow_of_cond 8 hx (by kernel_rfl) (fun k hk => by cases hk) (by kernel_rfl) (laid_met os))) ?_
  intro W base args ds gs before hval hW _ _ _ hL _ _
  exact contract H enc W base args ds gs before hval hW hL
theorem said : Rows.ShowSignsSaid :=
  OpenClaim.holds_of_cond 10 Tryd.f10 rfl rfl rfl rfl rfl rfl rfl ⟨rfl, rfl, rfl, rfl, rfl⟩ rfl rfl rfl rfl rfl (by kernel_rfl) Tryd.func10 (by kernel_rfl)
    (of_decide_eq_true (by kernel_rfl)) (by unfold Func.isWrapper; first | (rw [if_pos (by decide +kernel)]; kernel_rfl) | (rw [if_neg (by decide +kernel)]; exact ⟨rfl, rfl⟩))
    (fun os started H enc _ F => by rw [OpenClaim.pre_eq_preRow]; exact lifted os started H enc F)
theorem plain (f : FuncId) (fn : Func) (hf : Tryd.pinned.checked.prog.funcNamed "quill/quilllaw05.ShowSigns" = some f) (hfn : Tryd.pinned.checked.prog.funcs[f]? = some fn) :
    true = Tryd.pinned.checked.prog.looks [] ∧ ∀ (j : Nat) t, fn.params[j]? = some t → Tryd.pinned.checked.prog.wantsStandIn t = false := by
  obtain rfl : f = 10 := Option.some.inj ((show Tryd.prog.funcNamed "quill/quilllaw05.ShowSigns" = some 10 by kernel_rfl).symm.trans hf) |>.symm
  obtain rfl : fn = Tryd.f10 := (Option.some.inj (Tryd.func10.symm.trans hfn)).symm
  refine ⟨by kernel_rfl, fun j t ht => ?_⟩
  rw [Tryd.params10] at ht
  have hm := Array.mem_of_getElem? ht
  simp at hm
  rcases hm with rfl
  · exact (show Tryd.prog.wantsStandIn 9 = false by kernel_rfl)
theorem proved : Rows.ShowSignsCardSaid :=
  Claim7.holds_tied_plain_at .later [] _ _ _ _ said (fun _ h => by cases h) (by kernel_rfl) (fun _ h => by cases h) showSigns_row_tie rfl ⟨rfl, rfl⟩ (by kernel_rfl) rfl plain (by kernel_rfl)
end lawShowSigns
end Go.Proofs.YthagcmpehpgmpaaDoor
