/- The sets of any bytes, and of any range, are the document's; so is whether a byte is in it. For every input. -/
import Derived.Test.YthagcmpehpgmpaaDoorAwake2
import Derived.Test.YthagcmpehpgmpaaDoorDoor
import Derived.Deep.RegionHeld3
namespace Go.Proofs.YthagcmpehpgmpaaDoor
open Go.RowKit
set_option linter.unusedVariables false
set_option linter.unusedSimpArgs false

set_option maxRecDepth 100000 in
set_option maxHeartbeats 8000000 in
theorem setMakes_walk (l : List UInt8) (A : Option Addr) (c : Nat) (low high b : Int) (h0 : 0 ≤ low ∧ low ≤ 255) (h1 : 0 ≤ high ∧ high ≤ 255) (h2 : 0 ≤ b ∧ b ≤ 255) (w : World) (hc : l.length ≤ c) (hm : c ≤ maxLen) (hr : Row1 encB w A l) (ht : TzOk w) :
    Calls Tryd.prog 4 #[.slice A l.length c, .int .u8 low, .int .u8 high, .int .u8 b] w fun e w' => e = .returned (.bool true) ∧ Below w.heap.size w w' := by
  have HT := Lib.hid ht
  obtain ⟨a0, a1⟩ := h0
  obtain ⟨b0, b1⟩ := h1
  obtain ⟨c0, c1⟩ := h2
  unfold maxLen at hm
  clear ht
  by_cases hl : l.length ≤ 300
  · have g : decide ((l.length : Int) > 300) = false := by simp; omega
    have HR := Lib.hid hr
    clear hr
    go_enter Tryd.func4, Tryd.ntmps4
    go_wp2_with fail
    refine (setOf_any l A c w (by omega) hc HR.out).mono ?_
    rintro e w1 ⟨rfl, hb1⟩
    have HOf : Hid (∀ X, Row1 encB X A l → Calls Tryd.prog 23 #[.slice A l.length c] X fun e w' => e = .returned (setV (setOf l)) ∧ Below X.heap.size X w') := fun X h => refOf_any l A c X (by omega) hc h
    have HRn : Hid (∀ X, Calls Tryd.prog 24 #[.int .u8 low, .int .u8 high] X fun e w' => e = .returned (setV (setRun low.toNat (high.toNat + 1 - low.toNat))) ∧ Below X.heap.size X w') := fun X => setRange_any low high X a0 a1 b0 b1
    have HRr : Hid (∀ X, Calls Tryd.prog 25 #[.int .i64 low, .int .i64 high] X fun e w' => e = .returned (setV (setRun low.toNat (high.toNat + 1 - low.toNat))) ∧ Below X.heap.size X w') := fun X => refRange_any low high X a0 a1 b0 b1
    generalize setRun low.toNat (high.toNat + 1 - low.toNat) = s2 at *
    generalize setOf l = s at *
    have hq := run_eql_set s s
    have wl : IntKind.i64.wrap low = low := IntWalk.i64_in _ (by omega)
    have wh : IntKind.i64.wrap high = high := IntWalk.i64_in _ (by omega)
    have wb' : IntKind.i64.wrap b = b := IntWalk.i64_in _ (by omega)
    have hq2 := run_eql_set s2 s2
    have HB0 := Lib.hid (below_new hb1 (.cells (setA s) 24)).drew
    obtain ⟨⟨x0, x1, x2, x3⟩, _⟩ := cells4_of (new_at1 (w := w1) (.cells (setA s) 24))
    clear hb1
    go_wp2_with fail
    go_region_held3 (fun w' => w'.cell? ⟨w1.heap.size, 0, none⟩ = some (.int .u64 (s.a.toNat : Int)) ∧ w'.cell? ⟨w1.heap.size, 1, none⟩ = some (.int .u64 (s.b.toNat : Int)) ∧ w'.cell? ⟨w1.heap.size, 2, none⟩ = some (.int .u64 (s.c.toNat : Int)) ∧ w'.cell? ⟨w1.heap.size, 3, none⟩ = some (.int .u64 (s.d.toNat : Int)))
      (go_keep)
      (first
        | (go_at_call 23; (with_reducible refine (HOf.out _ (HR.out.below HB0.out)).mono ?_); rintro e wa ⟨rfl, hba⟩; have x0a := keep_cell hba x0; have x1a := keep_cell hba x1; have x2a := keep_cell hba x2; have x3a := keep_cell hba x3; have HBa := Lib.hid (below_from HB0.out hba))
        | (go_at_call 24; (with_reducible refine (HRn.out wa).mono ?_); rintro e wb ⟨rfl, hbb⟩; have x0b := keep_cell hbb x0a; have x1b := keep_cell hbb x1a; have x2b := keep_cell hbb x2a; have x3b := keep_cell hbb x3a; have HBb := Lib.hid (below_from HBa.out hbb))
        | (go_at_call 25; (with_reducible refine (HRr.out wb).mono ?_); rintro e wc ⟨rfl, hbc⟩; have x0c := keep_cell hbc x0b; have x1c := keep_cell hbc x1b; have x2c := keep_cell hbc x2b; have x3c := keep_cell hbc x3b; have HBc := Lib.hid (below_from HBb.out hbc))
        | (go_at_call 26; (with_reducible refine (setHas_any s b wc c0 c1).mono ?_); rintro e wd ⟨rfl, hbd⟩; have x0d := keep_cell hbd x0c; have x1d := keep_cell hbd x1c; have x2d := keep_cell hbd x2c; have x3d := keep_cell hbd x3c; have HBd := Lib.hid (below_from HBc.out hbd))
        | (go_at_call 27; (with_reducible refine (refHas_any s b wd c0 c1).mono ?_); rintro e we ⟨rfl, hbe⟩; have x0e := keep_cell hbe x0d; have x1e := keep_cell hbe x1d; have x2e := keep_cell hbe x2d; have x3e := keep_cell hbe x3d; have HBe := Lib.hid (below_from HBd.out hbe))
        | (go_at_call 21; (with_reducible refine (awake2_any we (HT.out.below HBe.out)).mono ?_); rintro e wf ⟨rfl, hbf⟩; have x0f := keep_cell hbf x0e; have x1f := keep_cell hbf x1e; have x2f := keep_cell hbf x2e; have x3f := keep_cell hbf x3e; have HBf := Lib.hid (below_from HBe.out hbf))
        | fail)
    go_wp2_with fail
    go_ret
    exact ⟨rfl, HBf.out⟩
  · have g : decide ((l.length : Int) > 300) = true := by simp; omega
    clear hr
    go_enter Tryd.func4, Tryd.ntmps4
    go_wp2_with fail
    refine (awake2_any w HT.out).mono ?_
    rintro e w1 ⟨rfl, hb1⟩
    go_wp2_with fail
    go_ret
    exact ⟨rfl, hb1⟩
namespace lawSetMakes
open Go.ChangeShapes Go.WideShapes Go.ChangeAt
open Go.ChangeMaps (open_string)
set_option maxRecDepth 100000 in
theorem contract (H : Type) (enc : TypeId × Value → H) (W : World) (base : Nat) (args : Array Value) (ds gs : List (DataW H)) (before : List MemPlace)
    (hval : ∀ (j : Nat) t v, Tryd.f4.params[j]? = some t → args[j]? = some v → Value.okWide Tryd.prog W .any base t v)
    (hW : DataW.Whole enc Tryd.prog Tryd.f4.params.toList Rows.setMakesSpec.vars false W args.toList ds gs before) (hL : laidMetH Tryd.prog Rows.setMakesRow.laid W) :
    Calls Tryd.prog 4 args W fun e W' => ∃ v, e = .returned v ∧ Rows.setMakesSpec.post enc Tryd.prog Tryd.f4 false true false false W args v W' := by
  have hW' := hW
  obtain ⟨p, q, hA0, hV, rfl, hfz, hnd⟩ := hW
  have hA : DataW.TrodAll enc Tryd.prog W 0 (fun _ => true) true Tryd.f4.params.toList args.toList ds p := hA0
  rw [Tryd.params4] at hA hval
  obtain ⟨v0, vs0, d0, ds0, p0, q0, hargs, rfl, rfl, h0, r0⟩ := trodAll_cons hA
  obtain ⟨v1, vs1, d1, ds1, p1, q1, rfl, rfl, rfl, h1, r1⟩ := trodAll_cons r0
  obtain ⟨v2, vs2, d2, ds2, p2, q2, rfl, rfl, rfl, h2, r2⟩ := trodAll_cons r1
  obtain ⟨v3, vs3, d3, ds3, p3, q3, rfl, rfl, rfl, h3, r3⟩ := trodAll_cons r2
  obtain ⟨rfl, rfl, rfl⟩ := trodAll_nil r3
  obtain rfl : args = #[v0, v1, v2, v3] := by cases args; simp_all
  obtain ⟨rfl, rfl⟩ := trodVars_none hV
  obtain ⟨l, A0, c0, rfl, hc0, hm0, hr0⟩ := open_bytes Tryd.underlying25 Tryd.underlying5 Tryd.cells_b (hval 0 25 v0 rfl rfl) h0
  obtain ⟨low, rfl, rfl, rfl, hw1⟩ := open_int Tryd.underlying5 (hval 1 5 v1 rfl rfl) h1
  obtain ⟨high, rfl, rfl, rfl, hw2⟩ := open_int Tryd.underlying5 (hval 2 5 v2 rfl rfl) h2
  obtain ⟨b, rfl, rfl, rfl, hw3⟩ := open_int Tryd.underlying5 (hval 3 5 v3 rfl rfl) h3
  have HT : TzOk W := tz_of_laid hL
  refine (setMakes_walk l A0 c0 low high b (by simpa [Lit.wf, IntKind.min, IntKind.max, IntKind.signed, IntKind.bits] using hw1) (by simpa [Lit.wf, IntKind.min, IntKind.max, IntKind.signed, IntKind.bits] using hw2) (by simpa [Lit.wf, IntKind.min, IntKind.max, IntKind.signed, IntKind.bits] using hw3) W hc0 hm0 hr0 HT).mono fun e W' ⟨he, hb⟩ => ?_
  subst he
  exact ⟨_, rfl, post_true Tryd.laidOut (by rw [Tryd.params4]; intro t ht; simp at ht; rcases ht with rfl | rfl <;> exact ⟨by kernel_rfl, of_decide_eq_true (by kernel_rfl)⟩) hW' rfl rfl rfl Tryd.underlying4 hb⟩
theorem laid_met (os : Os) : laidMet Tryd.prog Rows.setMakesRow.laid ((tzWorld os).forCall (fun _ _ => 0) ⟨#[], #[.slice none 0 0, .int .u8 0, .int .u8 0, .int .u8 0], []⟩).memory :=
  laidMet_of_run' 70 (by kernel_rfl) (by kernel_rfl)
theorem reads (os : Os) {H : Type} (enc : TypeId × Value → H) : ∃ places, DataW.whole enc Tryd.prog ((tzWorld os).forCall (fun _ _ => 0) ⟨#[], #[.slice none 0 0, .int .u8 0, .int .u8 0, .int .u8 0], []⟩).memory Tryd.f4.params.toList Rows.setMakesSpec.vars false (#[.slice none 0 0, .int .u8 0, .int .u8 0, .int .u8 0] : Array Value).toList 8 = some ([.nil, .lit (.int .u8 0), .lit (.int .u8 0), .lit (.int .u8 0)], [], places) :=
  ⟨[], by kernel_rfl⟩
set_option maxRecDepth 100000 in
theorem lifted (os : Os) (started : os.Started) (H : Type) (enc : TypeId × Value → H) (F : Stop.Interp) :
    ReturnsInHanded {} Tryd.checked os 4 .any ((OpenSpec.ofChange Rows.setMakesSpec).preRow enc Tryd.prog Tryd.f4 Rows.setMakesRow.domain false Rows.setMakesRow.laid) (((OpenSpec.ofChange Rows.setMakesSpec).at F).post enc Tryd.prog Tryd.f4 false true false false) := by
  obtain ⟨places, hx⟩ := reads os enc
  refine returnsInHanded_of_row (C := Tryd.checked) (s := OpenSpec.ofChange Rows.setMakesSpec) Tryd.own started (by kernel_rfl) Tryd.func4
    (witness_row_at (enc := enc) (C := Tryd.checked) false (tzWorld os) #[.slice none 0 0, .int .u8 0, .int .u8 0, .int .u8 0] rfl (by kernel_rfl) (by kernel_rfl) (by kernel_rfl)
      (OpenSpec.preRow_of_cond 8 hx (by kernel_rfl) (fun k hk => by cases hk) (by kernel_rfl) (laid_met os))) ?_
  intro W base args ds gs before hval hW _ _ _ hL _ _
  exact contract H enc W base args ds gs before hval hW hL
theorem said : Rows.SetMakesSaid :=
  OpenClaim.holds_of_cond 4 Tryd.f4 rfl rfl rfl rfl rfl rfl rfl ⟨rfl, rfl, rfl, rfl, rfl⟩ rfl rfl rfl rfl rfl (by kernel_rfl) Tryd.func4 (by kernel_rfl)
    (of_decide_eq_true (by kernel_rfl)) (by unfold Func.isWrapper; first | (rw [if_pos (by decide +kernel)]; kernel_rfl) | (rw [if_neg (by decide +kernel)]; exact ⟨rfl, rfl⟩))
    (fun os started H enc _ F => by rw [OpenClaim.pre_eq_preRow]; exact lifted os started H enc F)
theorem plain (f : FuncId) (fn : Func) (hf : Tryd.pinned.checked.prog.funcNamed "quill/quilllaw02.SetMakes" = some f) (hfn : Tryd.pinned.checked.prog.funcs[f]? = some fn) :
    true = Tryd.pinned.checked.prog.looks [] ∧ ∀ (j : Nat) t, fn.params[j]? = some t → Tryd.pinned.checked.prog.wantsStandIn t = false := by
  obtain rfl : f = 4 := Option.some.inj ((show Tryd.prog.funcNamed "quill/quilllaw02.SetMakes" = some 4 by kernel_rfl).symm.trans hf) |>.symm
  obtain rfl : fn = Tryd.f4 := (Option.some.inj (Tryd.func4.symm.trans hfn)).symm
  refine ⟨by kernel_rfl, fun j t ht => ?_⟩
  rw [Tryd.params4] at ht
  have hm := Array.mem_of_getElem? ht
  simp at hm
  rcases hm with rfl | rfl
  · exact (show Tryd.prog.wantsStandIn 25 = false by kernel_rfl)
  · exact (show Tryd.prog.wantsStandIn 5 = false by kernel_rfl)
theorem proved : Rows.SetMakesCardSaid :=
  Claim7.holds_tied_plain_at .later [] _ _ _ _ said (fun _ h => by cases h) (by kernel_rfl) (fun _ h => by cases h) setMakes_row_tie rfl ⟨rfl, rfl⟩ (by kernel_rfl) rfl plain (by kernel_rfl)
end lawSetMakes
end Go.Proofs.YthagcmpehpgmpaaDoor
