/- The steps of any expression by any text, made simpler, or the error, are the document's. For every input that is not too large. -/
import Derived.Test.YtkhgbeflhjjkdaaDoorBp
import Derived.Test.YtkhgbeflhjjkdaaDoorBq
import Derived.Test.YtkhgbeflhjjkdaaDoorBm
import Derived.Test.YtkhgbeflhjjkdaaDoorBg
namespace Go.Proofs.YtkhgbeflhjjkdaaDoor
open Go.RowKit
set_option linter.unusedVariables false
set_option linter.unusedSimpArgs false

set_option maxRecDepth 100000 in
set_option maxHeartbeats 16000000 in
theorem simpWalks_walk (h : RH) (ks : List Re) (A : Option Addr) (c : Nat) (S : ByteArray) (w : World) (hm : T.sizes ks ≤ 1048576) (hc : ks.length ≤ c) (hr : InRow RE (fun _ => True) w ks A 0) :
    Calls Tryd.prog 5 #[reV h A ks.length c, .string S] w fun e w' => e = .returned (.bool true) ∧ Below w.heap.size w w' := by
  obtain ⟨W, hW⟩ : ∃ W, w.alloc (.cells (reA h A ks.length c) 39) = W := ⟨_, rfl⟩
  have hbW : Below w.heap.size w W := by rw [← hW]; exact below_new (Below.refl _ _) _
  have e1 : W.heap[w.heap.size]? = some (.cells (reA h A ks.length c) 39 (0, 0)) := by rw [← hW]; exact new_at1 _
  have CG : Hid (∀ X, Below W.heap.size W X → Calls Tryd.prog 22 #[reV h A ks.length c, .int .i64 30] X fun e w' => e = .returned (.bool (greatB 30 (.mk h ks))) ∧ Below X.heap.size X w') := fun X hX => Great_any h ks A c 30 X (by omega) hc (hr.below (below_from hbW hX))
  have CA : Hid (∀ X, Below W.heap.size W X → Calls Tryd.prog 12 #[] X fun e w' => e = .returned (.bool true) ∧ Below X.heap.size X w') := fun X hX => awake18_any X
  have Q1 : Hid (∀ X, Below W.heap.size W X → X.cell? ⟨w.heap.size, 0, none⟩ = some (.int .u8 (h.k.toNat : Int)) ∧ X.cell? ⟨w.heap.size, 1, none⟩ = some (.int .u64 (h.s.a.toNat : Int)) ∧ X.cell? ⟨w.heap.size, 2, none⟩ = some (.int .u64 (h.s.b.toNat : Int)) ∧ X.cell? ⟨w.heap.size, 3, none⟩ = some (.int .u64 (h.s.c.toNat : Int)) ∧ X.cell? ⟨w.heap.size, 4, none⟩ = some (.int .u64 (h.s.d.toNat : Int)) ∧ X.cell? ⟨w.heap.size, 5, none⟩ = some (.slice A ks.length c)) := by
    intro X hX
    obtain ⟨x0, x1, x2, x3, x4, x5⟩ := re_at_box ((hX.block _ (lt_of_block e1)).trans e1)
    exact ⟨x0, x1, x2, x3, x4, x5⟩
  have HR := Lib.hid hr
  have HW := Lib.hid hbW
  have HE := Lib.hid hW
  clear hW hr hbW e1
  rcases hg : greatB 30 (.mk h ks) with _ | _
  · have hsz : 1 + T.sizes ks ≤ 30 := by
      have := of_decide_eq_false hg
      simp only [T.size] at this
      omega
    rw [hg] at CG
    clear hg
    by_cases ls : 10 < S.size
    · have gls : decide (((S.size : Nat) : Int) > 10) = true := by simp; omega
      go_enter Tryd.func5, Tryd.ntmps5
      go_wp2_with fail
      rw [HE.out]
      refine (CG.out _ (Below.refl _ _)).mono ?_
      rintro e w0 ⟨rfl, hb0⟩
      have HB0 := Lib.hid hb0
      clear hb0
      go_wp2_with fail
      refine (CA.out _ HB0.out).mono ?_
      rintro e w4 ⟨rfl, hb4⟩
      have hb := below_from HW.out (below_from HB0.out hb4)
      clear hb4
      go_wp2_with fail
      go_ret
      exact ⟨rfl, hb⟩
    have gls : decide (((S.size : Nat) : Int) > 10) = false := by simp; omega
    have CP : Hid (∀ X, Below W.heap.size W X → Calls Tryd.prog 23 #[reV h A ks.length c, .string S] X (WalkPost (walkR stepE sstepT (.mk h ks) S.data.toList) X)) := fun X hX => sWalk_any h ks A c S X (by omega) hc (HR.out.below (below_from HW.out hX)) (by omega)
    have CD : Hid (∀ X, Below W.heap.size W X → Calls Tryd.prog 24 #[reV h A ks.length c, .string S] X (WalkPost (walkR stepE sstepT (.mk h ks) S.data.toList) X)) := fun X hX => dsWalk_any h ks A c S X (by omega) hc (HR.out.below (below_from HW.out hX)) (by omega)
    have HF := Lib.hid (walkR_factsG good_sstep (t := .mk h ks) (s := S.data.toList) (by rw [text_len]; omega))
    clear ls
    generalize walkR stepE sstepT (.mk h ks) S.data.toList = R at *
    obtain ⟨LL, ee⟩ := R
    go_enter Tryd.func5, Tryd.ntmps5
    go_wp2_with fail
    rw [HE.out]
    refine (CG.out _ (Below.refl _ _)).mono ?_
    rintro e w0 ⟨rfl, hb0⟩
    have HB0 := Lib.hid hb0
    obtain ⟨x0, x1, x2, x3, x4, x5⟩ := Q1.out _ hb0
    clear hb0 CG
    go_wp2_with fail
    refine (CP.out _ HB0.out).mono ?_
    rintro e w1 ⟨A1, c1, rfl, hc1, hr1, hb1⟩
    have HB1 := Lib.hid (below_from HB0.out hb1)
    have HR1 := Lib.hid hr1
    clear x0 x1 x2 x3 x4 x5 hb1 hr1 HB0
    obtain ⟨x0, x1, x2, x3, x4, x5⟩ := Q1.out _ HB1.out
    go_wp2_with fail
    refine (CD.out _ HB1.out).mono ?_
    rintro e w2 ⟨A2, c2, rfl, hc2, hr2, hb2⟩
    have HB2 := Lib.hid (below_from HB1.out hb2)
    have HR12 := Lib.hid (HR1.out.below hb2)
    have HR2 := Lib.hid hr2
    have HSA := Lib.hid (sameAll_any LL A1 A2 c1 c2 w2 (by have : LL.length ≤ 101 := HF.out.1; omega) HF.out.2 HR12.out HR2.out)
    have g0 : (ee == ee) = true := by simp
    clear x0 x1 x2 x3 x4 x5 hb2 hr2 HB1 HR1 hc1 hc2
    go_wp2_with fail
    refine HSA.out.mono ?_
    rintro e w5 ⟨rfl, hb5⟩
    have HB5 := Lib.hid (below_from HB2.out hb5)
    clear hb5
    go_wp2_with fail
    refine (CA.out _ HB5.out).mono ?_
    rintro e w6 ⟨rfl, hb6⟩
    have hb := below_from HW.out (below_from HB5.out hb6)
    clear hb6
    go_wp2_with fail
    go_ret
    exact ⟨rfl, hb⟩
  · rw [hg] at CG
    clear hg
    go_enter Tryd.func5, Tryd.ntmps5
    go_wp2_with fail
    rw [HE.out]
    refine (CG.out _ (Below.refl _ _)).mono ?_
    rintro e w0 ⟨rfl, hb0⟩
    have HB0 := Lib.hid hb0
    clear hb0
    go_wp2_with fail
    refine (CA.out _ HB0.out).mono ?_
    rintro e w4 ⟨rfl, hb4⟩
    have hb := below_from HW.out (below_from HB0.out hb4)
    clear hb4
    go_wp2_with fail
    go_ret
    exact ⟨rfl, hb⟩
namespace lawSimpWalks
open Go.ChangeShapes Go.WideShapes Go.ChangeAt
open Go.ChangeMaps (open_string)
set_option maxRecDepth 100000 in
theorem contract (H : Type) (enc : TypeId × Value → H) (W : World) (base : Nat) (args : Array Value) (ds gs : List (DataW H)) (before : List MemPlace)
    (hval : ∀ (j : Nat) t v, Tryd.f5.params[j]? = some t → args[j]? = some v → Value.okWide Tryd.prog W .any base t v)
    (hW : DataW.Whole enc Tryd.prog Tryd.f5.params.toList Rows.simpWalksSpec.vars false W args.toList ds gs before) (hL : laidMetH Tryd.prog Rows.simpWalksUptoRow.laid W) (hk : Rows.uptoSmall H (ds ++ gs) = true) :
    Calls Tryd.prog 5 args W fun e W' => ∃ v, e = .returned v ∧ Rows.simpWalksSpec.post enc Tryd.prog Tryd.f5 false true false false W args v W' := by
  have hW' := hW
  obtain ⟨p, q, hA0, hV, rfl, hfz, hnd⟩ := hW
  have hA : DataW.TrodAll enc Tryd.prog W 0 (fun _ => true) true Tryd.f5.params.toList args.toList ds p := hA0
  rw [Tryd.params5] at hA hval
  obtain ⟨v0, vs0, d0, ds0, p0, q0, hargs, rfl, rfl, h0, r0⟩ := trodAll_cons hA
  obtain ⟨v1, vs1, d1, ds1, p1, q1, rfl, rfl, rfl, h1, r1⟩ := trodAll_cons r0
  obtain ⟨rfl, rfl, rfl⟩ := trodAll_nil r1
  obtain rfl : args = #[v0, v1] := by cases args; simp_all
  obtain ⟨rfl, rfl⟩ := trodVars_none hV
  have hkk : Rows.uptoBulk d0 + Rows.uptoBulk d1 ≤ 1048576 := by simp [Rows.uptoSmall, Rows.uptoBulkAll] at hk; omega
  obtain ⟨x, kx, A0, c0, rfl, hc0, hr0, hz0⟩ := open_re (hval 0 39 v0 rfl rfl) h0
  obtain ⟨s, rfl, rfl, rfl, hs1⟩ := open_string Tryd.underlying9 (hval 1 9 v1 rfl rfl) h1
  refine (simpWalks_walk x kx A0 c0 s W (by omega) hc0 hr0).mono fun e W' ⟨he, hb⟩ => ?_
  subst he
  exact ⟨_, rfl, post_true Tryd.laidOut (by rw [Tryd.params5]; intro t ht; simp at ht; rcases ht with rfl | rfl <;> exact ⟨by kernel_rfl, of_decide_eq_true (by kernel_rfl)⟩) hW' rfl rfl rfl Tryd.underlying4 hb⟩
theorem laid_met (os : Os) : laidMet Tryd.prog Rows.simpWalksUptoRow.laid ((utfWorld os).forCall (fun _ _ => 0) ⟨#[], #[.agg #[.int .u8 0, .int .u64 0, .int .u64 0, .int .u64 0, .int .u64 0, .slice none 0 0], .string ByteArray.empty], []⟩).memory :=
  laidMet_of_run' 600 (by kernel_rfl) (by kernel_rfl)
theorem reads (os : Os) {H : Type} (enc : TypeId × Value → H) : ∃ places, DataW.whole enc Tryd.prog ((utfWorld os).forCall (fun _ _ => 0) ⟨#[], #[.agg #[.int .u8 0, .int .u64 0, .int .u64 0, .int .u64 0, .int .u64 0, .slice none 0 0], .string ByteArray.empty], []⟩).memory Tryd.f5.params.toList Rows.simpWalksSpec.vars false (#[.agg #[.int .u8 0, .int .u64 0, .int .u64 0, .int .u64 0, .int .u64 0, .slice none 0 0], .string ByteArray.empty] : Array Value).toList 8 = some ([.agg [.lit (.int .u8 0), .agg [.lit (.int .u64 0), .lit (.int .u64 0), .lit (.int .u64 0), .lit (.int .u64 0)], .nil], .lit (.string [])], [], places) :=
  ⟨[], by kernel_rfl⟩
set_option maxRecDepth 100000 in
theorem lifted (os : Os) (started : os.Started) (H : Type) (enc : TypeId × Value → H) (F : Stop.Interp) :
    ReturnsInHanded {} Tryd.checked os 5 .any ((Rows.OpenSpec.upto Rows.simpWalksSpec).preRow enc Tryd.prog Tryd.f5 Rows.simpWalksUptoRow.domain false Rows.simpWalksUptoRow.laid) (((Rows.OpenSpec.upto Rows.simpWalksSpec).at F).post enc Tryd.prog Tryd.f5 false true false false) := by
  obtain ⟨places, hx⟩ := reads os enc
  refine returnsInHanded_of_row (C := Tryd.checked) (s := Rows.OpenSpec.upto Rows.simpWalksSpec) Tryd.own started (by kernel_rfl) Tryd.func5
    (witness_row_at (enc := enc) (C := Tryd.checked) false (utfWorld os) #[.agg #[.int .u8 0, .int .u64 0, .int .u64 0, .int .u64 0, .int .u64 0, .slice none 0 0], .string ByteArray.empty] rfl (by kernel_rfl) (by kernel_rfl) (by kernel_rfl)
      (OpenSpec.preRow_of_cond 8 hx (by kernel_rfl) (fun k hk => by cases hk; kernel_rfl) (by kernel_rfl) (laid_met os))) ?_
  intro W base args ds gs before hval hW _ hcond _ hL _ _
  exact contract H enc W base args ds gs before hval hW hL (hcond _ rfl)
theorem said : Rows.SimpWalksUptoSaid :=
  OpenClaim.holds_of_cond 5 Tryd.f5 rfl rfl rfl rfl rfl rfl rfl ⟨rfl, rfl, rfl, rfl, rfl⟩ rfl rfl rfl rfl rfl (by kernel_rfl) Tryd.func5 (by kernel_rfl)
    (of_decide_eq_true (by kernel_rfl)) (by unfold Func.isWrapper; first | (rw [if_pos (by decide +kernel)]; kernel_rfl) | (rw [if_neg (by decide +kernel)]; exact ⟨rfl, rfl⟩))
    (fun os started H enc _ F => by rw [OpenClaim.pre_eq_preRow]; exact lifted os started H enc F)
theorem plain (f : FuncId) (fn : Func) (hf : Tryd.pinned.checked.prog.funcNamed "quill/quilllaw18.SimpWalks" = some f) (hfn : Tryd.pinned.checked.prog.funcs[f]? = some fn) :
    true = Tryd.pinned.checked.prog.looks [] ∧ ∀ (j : Nat) t, fn.params[j]? = some t → Tryd.pinned.checked.prog.wantsStandIn t = false := by
  obtain rfl : f = 5 := Option.some.inj ((show Tryd.prog.funcNamed "quill/quilllaw18.SimpWalks" = some 5 by kernel_rfl).symm.trans hf) |>.symm
  obtain rfl : fn = Tryd.f5 := (Option.some.inj (Tryd.func5.symm.trans hfn)).symm
  refine ⟨by kernel_rfl, fun j t ht => ?_⟩
  rw [Tryd.params5] at ht
  have hm := Array.mem_of_getElem? ht
  simp at hm
  rcases hm with rfl | rfl
  · exact (show Tryd.prog.wantsStandIn 39 = false by kernel_rfl)
  · exact (show Tryd.prog.wantsStandIn 9 = false by kernel_rfl)
theorem proved : Rows.SimpWalksUptoCardSaid :=
  Claim7.holds_tied_plain_at .later [] _ _ _ _ said (fun _ h => by cases h) (by kernel_rfl) (fun _ h => by cases h) simpWalksUpto_row_tie rfl ⟨rfl, rfl⟩ (by kernel_rfl) rfl plain (by kernel_rfl)
end lawSimpWalks
end Go.Proofs.YtkhgbeflhjjkdaaDoor
