/- The bits of any value are the document's. For every input that is not too large. -/
import Derived.Test.YteokbmngebckjaaAwake15
import Derived.Test.YteokbmngebckjaaRc1
import Derived.Test.YteokbmngebckjaaBv
import Derived.Test.YteokbmngebckjaaBw
import Derived.Test.YteokbmngebckjaaBe
import Derived.WalkKit
import Derived.OpenShut
import Derived.JoinedCond
namespace Go.Proofs.Yteokbmngebckjaa
open Go.RowKit
set_option linter.unusedVariables false
set_option linter.unusedSimpArgs false

set_option maxRecDepth 100000 in
set_option maxHeartbeats 16000000 in
theorem bitsCodes_walk (h : VH) (ks : List Va) (A : Option Addr) (c : Nat) (w : World) (hm : T.sizes ks ≤ 1048576) (hc : ks.length ≤ c) (hr : InRow VE (fun _ => True) w ks A 0) :
    Calls Try.prog 3 #[vaV h A ks.length c] w fun e w' => e = .returned (.bool true) ∧ Below w.heap.size w w' := by
  obtain ⟨W, hW⟩ : ∃ W, w.alloc (.cells (vaA h A ks.length c) 24) = W := ⟨_, rfl⟩
  have hbW : Below w.heap.size w W := by rw [← hW]; exact below_new (Below.refl _ _) _
  have e1 : W.heap[w.heap.size]? = some (.cells (vaA h A ks.length c) 24 (0, 0)) := by rw [← hW]; exact new_at1 _
  have CG : Hid (∀ X, Below W.heap.size W X → Calls Try.prog 9 #[vaV h A ks.length c, .int .i64 60] X fun e w' => e = .returned (.bool (greatB 60 (.mk h ks))) ∧ Below X.heap.size X w') := fun X hX => vGreat_any h ks A c 60 X (by omega) hc (hr.below (below_from hbW hX))
  have CA : Hid (∀ X, Below W.heap.size W X → Calls Try.prog 10 #[] X fun e w' => e = .returned (.bool true) ∧ Below X.heap.size X w') := fun X hX => awake15_any X
  have HR := Lib.hid hr
  have HW := Lib.hid hbW
  have HE := Lib.hid hW
  have E1 := Lib.hid e1
  clear hW hr hbW e1
  have HB0 : Hid (Below W.heap.size W W) := Below.refl _ _
  rcases hg : greatB 60 (.mk h ks) with _ | _
  case true =>
    rw [hg] at CG
    clear hg
    go_enter Try.func3, Try.ntmps3
    go_wp2_with fail
    rw [HE.out]
    refine (CG.out _ HB0.out).mono ?_
    rintro e w0 ⟨rfl, hb0⟩
    have HB1_ := Lib.hid (below_from HB0.out hb0)
    have Ex1_ := Lib.hid ((hb0.block _ (lt_of_block E1.out)).trans E1.out)
    go_wp2_with fail
    refine (CA.out _ HB1_.out).mono ?_
    rintro e w9 ⟨rfl, hb9⟩
    have hb := below_from HW.out (below_from HB1_.out hb9)
    clear hb9
    go_wp2_with fail
    go_ret
    exact ⟨rfl, hb⟩
  have hsz : 1 + T.sizes ks ≤ 60 := by
    have := of_decide_eq_false hg
    simp only [T.size] at this
    omega
  rw [hg] at CG
  clear hg
  have CC : Hid (∀ X, Below W.heap.size W X → Calls Try.prog 11 #[vaV h A ks.length c] X fun e w' => e = .returned (.string (str (codeV (.mk h ks)))) ∧ Below X.heap.size X w') := fun X hX => code_any h ks A c X (by omega) hc (HR.out.below (below_from HW.out hX))
  have CD : Hid (∀ X, Below W.heap.size W X → Calls Try.prog 12 #[vaV h A ks.length c] X fun e w' => e = .returned (.string (str (codeV (.mk h ks)))) ∧ Below X.heap.size X w') := fun X hX => refCode_upto 1000000000 _ h ks A c X (by omega) (Nat.le_refl _) hc (HR.out.below (below_from HW.out hX))
  generalize codeV (.mk h ks) = cv at *
  go_enter Try.func3, Try.ntmps3
  go_wp2_with fail
  rw [HE.out]
  refine (CG.out _ HB0.out).mono ?_
  rintro e w0 ⟨rfl, hb0⟩
  have HB1_ := Lib.hid (below_from HB0.out hb0)
  have Ex1_ := Lib.hid ((hb0.block _ (lt_of_block E1.out)).trans E1.out)
  obtain ⟨x0, x1, x2⟩ := va_at_box Ex1_.out
  have fx0 := fun p : BelowBy w0 => BelowBy.cell x0 p
  have fx1 := fun p : BelowBy w0 => BelowBy.cell x1 p
  have fx2 := fun p : BelowBy w0 => BelowBy.cell x2 p
  go_wp2_with fail
  refine wp_region_below (by kernel_rfl) (by kernel_rfl) (Below.refl _ _) ?_
  repeat (go_big_quiet_step (first | (go_at_call 11; exact Calls.below_of (CC.out _ (below_from HB1_.out (BelowBy.h _)))) | (go_at_call 12; exact Calls.below_of (CD.out _ (below_from HB1_.out (BelowBy.h _)))) | (go_at_call 10; exact Calls.below_of (CA.out _ (below_from HB1_.out (BelowBy.h _)))) | fail))
  refine wpQuiet_nil ?_
  intro _ hw1
  obtain ⟨⟨wq, hq⟩, hw2⟩ := hw1
  subst hw2
  have hb := below_from HW.out (below_from HB1_.out hq)
  go_wp2_with fail
  go_ret
  exact ⟨by simp, hb⟩
namespace lawBitsCodes
open Go.ChangeShapes Go.WideShapes Go.ChangeAt
open Go.ChangeMaps (open_string)
set_option maxRecDepth 100000 in
theorem contract (H : Type) (enc : TypeId × Value → H) (W : World) (base : Nat) (args : Array Value) (ds gs : List (DataW H)) (before : List MemPlace)
    (hval : ∀ (j : Nat) t v, Try.f3.params[j]? = some t → args[j]? = some v → Value.okWide Try.prog W .any base t v)
    (hW : DataW.Whole enc Try.prog Try.f3.params.toList Rows.bitsCodesSpec.vars false W args.toList ds gs before) (hk : Rows.uptoSmall H (ds ++ gs) = true) :
    Calls Try.prog 3 args W fun e W' => ∃ v, e = .returned v ∧ Rows.bitsCodesSpec.post enc Try.prog Try.f3 false true false false W args v W' := by
  have hW' := hW
  obtain ⟨p, q, hA0, hV, rfl, hfz, hnd⟩ := hW
  have hA : DataW.TrodAll enc Try.prog W 0 (fun _ => true) true Try.f3.params.toList args.toList ds p := hA0
  rw [Try.params3] at hA hval
  obtain ⟨v0, vs0, d0, ds0, p0, q0, hargs, rfl, rfl, h0, r0⟩ := trodAll_cons hA
  obtain ⟨rfl, rfl, rfl⟩ := trodAll_nil r0
  obtain rfl : args = #[v0] := by cases args; simp_all
  obtain ⟨rfl, rfl⟩ := trodVars_none hV
  have hkk : Rows.uptoBulk d0 ≤ 1048576 := by simp [Rows.uptoSmall, Rows.uptoBulkAll] at hk; omega
  obtain ⟨hv, kv, A0, c0, rfl, hc0, hr0, hz0⟩ := open_val (hval 0 24 v0 rfl rfl) h0
  refine (bitsCodes_walk hv kv A0 c0 W (by omega) hc0 hr0).mono fun e W' ⟨he, hb⟩ => ?_
  subst he
  exact ⟨_, rfl, post_true Try.laidOut (by rw [Try.params3]; intro t ht; simp at ht; rcases ht with rfl <;> exact ⟨by kernel_rfl, of_decide_eq_true (by kernel_rfl)⟩) hW' rfl rfl rfl Try.underlying4 hb⟩
set_option maxRecDepth 100000 in
theorem lifted (os : Os) (started : os.Started) (H : Type) (enc : TypeId × Value → H) (F : Stop.Interp) :
    ReturnsInHanded {} Try.checked os 3 .any ((Rows.OpenSpec.upto Rows.bitsCodesSpec).pre6 enc Try.prog Try.f3 Rows.bitsCodesUptoRow.domain false) (((Rows.OpenSpec.upto Rows.bitsCodesSpec).at F).post enc Try.prog Try.f3 false true false false) := by
  refine returnsInHanded_of_cond (C := Try.checked) (s := Rows.OpenSpec.upto Rows.bitsCodesSpec) (k := Rows.uptoSmall) rfl Try.own started (by kernel_rfl) Try.func3
    (OpenSpec.witness (enc := enc) (C := Try.checked) (s := Rows.OpenSpec.upto Rows.bitsCodesSpec) (k := Rows.uptoSmall) rfl false ⟨#[], #[.agg #[.int .u8 0, .int .u8 0, .slice none 0 0]], []⟩ 8 (by kernel_rfl) (by kernel_rfl) (by kernel_rfl)
      (x := ([.agg [.lit (.int .u8 0), .lit (.int .u8 0), .nil]], [], [])) (by kernel_rfl) rfl (by kernel_rfl)) ?_
  intro W base args ds gs before hval hW _ hk _
  exact contract H enc W base args ds gs before hval hW hk
theorem proved : Rows.BitsCodesUptoSaid :=
  OpenClaim.holds_of_cond 3 Try.f3 rfl rfl rfl rfl rfl rfl rfl ⟨rfl, rfl, rfl, rfl, rfl⟩ rfl rfl rfl rfl rfl (by kernel_rfl) Try.func3 (by kernel_rfl)
    (of_decide_eq_true (by kernel_rfl)) (by unfold Func.isWrapper; first | (rw [if_pos (by decide +kernel)]; kernel_rfl) | (rw [if_neg (by decide +kernel)]; exact ⟨rfl, rfl⟩))
    (fun os started H enc _ F => lifted os started H enc F)
end lawBitsCodes
end Go.Proofs.Yteokbmngebckjaa
