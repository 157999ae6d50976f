/- The bytes and the text of any set, and any byte's sign, are the document's. For every input. -/
import Derived.Test.YthagcmpehpgmpaaDoorAwake2
import Derived.Test.YthagcmpehpgmpaaDoorDoor
import Derived.Deep.RegionHeld
namespace Go.Proofs.YthagcmpehpgmpaaDoor
open Go.RowKit
set_option linter.unusedVariables false
set_option linter.unusedSimpArgs false

set_option maxRecDepth 100000 in
set_option maxHeartbeats 8000000 in
theorem setTexts_walk (s : S4) (b : Int) (hb0 : 0 ≤ b ∧ b ≤ 255) (w : World) (ht : TzOk w) :
    Calls Tryd.prog 3 #[setV s, .int .u8 b] w fun e w' => e = .returned (.bool true) ∧ Below w.heap.size w w' := by
  obtain ⟨x, rfl⟩ : ∃ x : UInt8, b = (x.toNat : Int) := ⟨UInt8.ofNat b.toNat, by simp; omega⟩
  have HT := Lib.hid ht
  clear ht
  go_enter Tryd.func3, Tryd.ntmps3
  go_wp2_with fail
  have HB0 := Lib.hid (below_new (Below.refl w.heap.size w) (.cells (setA s) 24)).drew
  obtain ⟨⟨x0, x1, x2, x3⟩, _⟩ := cells4_of (new_at1 (w := w) (.cells (setA s) 24))
  go_region_held (fun w' => w'.cell? ⟨w.heap.size, 0, none⟩ = some (.int .u64 (s.a.toNat : Int)) ∧ w'.cell? ⟨w.heap.size, 1, none⟩ = some (.int .u64 (s.b.toNat : Int)) ∧ w'.cell? ⟨w.heap.size, 2, none⟩ = some (.int .u64 (s.c.toNat : Int)) ∧ w'.cell? ⟨w.heap.size, 3, none⟩ = some (.int .u64 (s.d.toNat : Int)))
    (go_keep)
    (first
      | (go_at_call 15; refine (setBytes_any s _ (HT.out.below HB0.out)).mono ?_; rintro e wa ⟨Aa, ca, rfl, hca, hra, hba⟩; have x0a := keep_cell hba x0; have x1a := keep_cell hba x1; have x2a := keep_cell hba x2; have x3a := keep_cell hba x3; have HBa := Lib.hid (below_from HB0.out hba); have hcva := conv_bytes (P := Tryd.prog) (w := wa) (dst := 9) Tryd.underlying25 Tryd.underlying5 Tryd.underlying9 _ ca rfl hra)
      | (go_at_call 16; refine (refBytes_any s wa).mono ?_; rintro e wb ⟨Ab, cb, rfl, hcb, hrb, hbb⟩; have x0b := keep_cell hbb x0a; have x1b := keep_cell hbb x1a; have x2b := keep_cell hbb x2a; have x3b := keep_cell hbb x3a; have HBb := Lib.hid (below_from HBa.out hbb); have hcvb := conv_bytes (P := Tryd.prog) (w := wb) (dst := 9) Tryd.underlying25 Tryd.underlying5 Tryd.underlying9 _ cb rfl hrb; have hcvc := conv_bytes (P := Tryd.prog) (w := wb) (dst := 9) Tryd.underlying25 Tryd.underlying5 Tryd.underlying9 _ ca rfl (hra.below hbb))
      | (go_at_call 17; refine (setText_any s wb (HT.out.below HBb.out)).mono ?_; rintro e wc ⟨rfl, hbc⟩; have x0c := keep_cell hbc x0b; have x1c := keep_cell hbc x1b; have x2c := keep_cell hbc x2b; have x3c := keep_cell hbc x3b; have HBc := Lib.hid (below_from HBb.out hbc))
      | (go_at_call 18; refine (refText_any s wc).mono ?_; rintro e wd ⟨rfl, hbd⟩; have x0d := keep_cell hbd x0c; have x1d := keep_cell hbd x1c; have x2d := keep_cell hbd x2c; have x3d := keep_cell hbd x3c; have HBd := Lib.hid (below_from HBc.out hbd))
      | (go_at_call 19; refine (setSign_any x wd).mono ?_; rintro e we ⟨rfl, hbe⟩; have x0e := keep_cell hbe x0d; have x1e := keep_cell hbe x1d; have x2e := keep_cell hbe x2d; have x3e := keep_cell hbe x3d; have HBe := Lib.hid (below_from HBd.out hbe))
      | (go_at_call 20; refine (refSign_any x we).mono ?_; rintro e wf ⟨rfl, hbf⟩; have x0f := keep_cell hbf x0e; have x1f := keep_cell hbf x1e; have x2f := keep_cell hbf x2e; have x3f := keep_cell hbf x3e; have HBf := Lib.hid (below_from HBe.out hbf))
      | (go_at_call 21; refine (awake2_any wf (HT.out.below HBf.out)).mono ?_; rintro e wg ⟨rfl, hbg⟩; have x0g := keep_cell hbg x0f; have x1g := keep_cell hbg x1f; have x2g := keep_cell hbg x2f; have x3g := keep_cell hbg x3f; have HBg := Lib.hid (below_from HBf.out hbg))
      | fail)
  all_goals
    go_wp2_with fail
    go_ret
    exact ⟨rfl, HBg.out⟩
namespace lawSetTexts
open Go.ChangeShapes Go.WideShapes Go.ChangeAt
open Go.ChangeMaps (open_string)
set_option maxRecDepth 100000 in
theorem contract (H : Type) (enc : TypeId × Value → H) (W : World) (base : Nat) (args : Array Value) (ds gs : List (DataW H)) (before : List MemPlace)
    (hval : ∀ (j : Nat) t v, Tryd.f3.params[j]? = some t → args[j]? = some v → Value.okWide Tryd.prog W .any base t v)
    (hW : DataW.Whole enc Tryd.prog Tryd.f3.params.toList Rows.setTextsSpec.vars false W args.toList ds gs before) (hL : laidMetH Tryd.prog Rows.setTextsRow.laid W) :
    Calls Tryd.prog 3 args W fun e W' => ∃ v, e = .returned v ∧ Rows.setTextsSpec.post enc Tryd.prog Tryd.f3 false true false false W args v W' := by
  have hW' := hW
  obtain ⟨p, q, hA0, hV, rfl, hfz, hnd⟩ := hW
  have hA : DataW.TrodAll enc Tryd.prog W 0 (fun _ => true) true Tryd.f3.params.toList args.toList ds p := hA0
  rw [Tryd.params3] at hA hval
  obtain ⟨v0, vs0, d0, ds0, p0, q0, hargs, rfl, rfl, h0, r0⟩ := trodAll_cons hA
  obtain ⟨v1, vs1, d1, ds1, p1, q1, rfl, rfl, rfl, h1, r1⟩ := trodAll_cons r0
  obtain ⟨rfl, rfl, rfl⟩ := trodAll_nil r1
  obtain rfl : args = #[v0, v1] := by cases args; simp_all
  obtain ⟨rfl, rfl⟩ := trodVars_none hV
  obtain ⟨s, rfl⟩ := open_set1 (hval 0 24 v0 rfl rfl) h0
  obtain ⟨b, rfl, rfl, rfl, hw1⟩ := open_int Tryd.underlying5 (hval 1 5 v1 rfl rfl) h1
  have HT : TzOk W := tz_of_laid hL
  refine (setTexts_walk s b (by simpa [Lit.wf, IntKind.min, IntKind.max, IntKind.signed, IntKind.bits] using hw1) W HT).mono fun e W' ⟨he, hb⟩ => ?_
  subst he
  exact ⟨_, rfl, post_true Tryd.laidOut (by rw [Tryd.params3]; intro t ht; simp at ht; rcases ht with rfl | rfl <;> exact ⟨by kernel_rfl, of_decide_eq_true (by kernel_rfl)⟩) hW' rfl rfl rfl Tryd.underlying4 hb⟩
theorem laid_met (os : Os) : laidMet Tryd.prog Rows.setTextsRow.laid ((tzWorld os).forCall (fun _ _ => 0) ⟨#[], #[.agg #[.int .u64 0, .int .u64 0, .int .u64 0, .int .u64 0], .int .u8 0], []⟩).memory :=
  laidMet_of_run' 70 (by kernel_rfl) (by kernel_rfl)
theorem reads (os : Os) {H : Type} (enc : TypeId × Value → H) : ∃ places, DataW.whole enc Tryd.prog ((tzWorld os).forCall (fun _ _ => 0) ⟨#[], #[.agg #[.int .u64 0, .int .u64 0, .int .u64 0, .int .u64 0], .int .u8 0], []⟩).memory Tryd.f3.params.toList Rows.setTextsSpec.vars false (#[.agg #[.int .u64 0, .int .u64 0, .int .u64 0, .int .u64 0], .int .u8 0] : Array Value).toList 8 = some ([.agg [.lit (.int .u64 0), .lit (.int .u64 0), .lit (.int .u64 0), .lit (.int .u64 0)], .lit (.int .u8 0)], [], places) :=
  ⟨[], by kernel_rfl⟩
set_option maxRecDepth 100000 in
theorem lifted (os : Os) (started : os.Started) (H : Type) (enc : TypeId × Value → H) (F : Stop.Interp) :
    ReturnsInHanded {} Tryd.checked os 3 .any ((OpenSpec.ofChange Rows.setTextsSpec).preRow enc Tryd.prog Tryd.f3 Rows.setTextsRow.domain false Rows.setTextsRow.laid) (((OpenSpec.ofChange Rows.setTextsSpec).at F).post enc Tryd.prog Tryd.f3 false true false false) := by
  obtain ⟨places, hx⟩ := reads os enc
  refine returnsInHanded_of_row (C := Tryd.checked) (s := OpenSpec.ofChange Rows.setTextsSpec) Tryd.own started (by kernel_rfl) Tryd.func3
    (witness_row_at (enc := enc) (C := Tryd.checked) false (tzWorld os) #[.agg #[.int .u64 0, .int .u64 0, .int .u64 0, .int .u64 0], .int .u8 0] rfl (by kernel_rfl) (by kernel_rfl) (by kernel_rfl)
      (OpenSpec.preRow_of_cond 8 hx (by kernel_rfl) (fun k hk => by cases hk) (by kernel_rfl) (laid_met os))) ?_
  intro W base args ds gs before hval hW _ _ _ hL _ _
  exact contract H enc W base args ds gs before hval hW hL
theorem said : Rows.SetTextsSaid :=
  OpenClaim.holds_of_cond 3 Tryd.f3 rfl rfl rfl rfl rfl rfl rfl ⟨rfl, rfl, rfl, rfl, rfl⟩ rfl rfl rfl rfl rfl (by kernel_rfl) Tryd.func3 (by kernel_rfl)
    (of_decide_eq_true (by kernel_rfl)) (by unfold Func.isWrapper; first | (rw [if_pos (by decide +kernel)]; kernel_rfl) | (rw [if_neg (by decide +kernel)]; exact ⟨rfl, rfl⟩))
    (fun os started H enc _ F => by rw [OpenClaim.pre_eq_preRow]; exact lifted os started H enc F)
theorem plain (f : FuncId) (fn : Func) (hf : Tryd.pinned.checked.prog.funcNamed "quill/quilllaw02.SetTexts" = some f) (hfn : Tryd.pinned.checked.prog.funcs[f]? = some fn) :
    true = Tryd.pinned.checked.prog.looks [] ∧ ∀ (j : Nat) t, fn.params[j]? = some t → Tryd.pinned.checked.prog.wantsStandIn t = false := by
  obtain rfl : f = 3 := Option.some.inj ((show Tryd.prog.funcNamed "quill/quilllaw02.SetTexts" = some 3 by kernel_rfl).symm.trans hf) |>.symm
  obtain rfl : fn = Tryd.f3 := (Option.some.inj (Tryd.func3.symm.trans hfn)).symm
  refine ⟨by kernel_rfl, fun j t ht => ?_⟩
  rw [Tryd.params3] at ht
  have hm := Array.mem_of_getElem? ht
  simp at hm
  rcases hm with rfl | rfl
  · exact (show Tryd.prog.wantsStandIn 24 = false by kernel_rfl)
  · exact (show Tryd.prog.wantsStandIn 5 = false by kernel_rfl)
theorem proved : Rows.SetTextsCardSaid :=
  Claim7.holds_tied_plain_at .later [] _ _ _ _ said (fun _ h => by cases h) (by kernel_rfl) (fun _ h => by cases h) setTexts_row_tie rfl ⟨rfl, rfl⟩ (by kernel_rfl) rfl plain (by kernel_rfl)
end lawSetTexts
end Go.Proofs.YthagcmpehpgmpaaDoor
