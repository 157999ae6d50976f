/- The coded derivative of any coded expression by any byte, or the error, is the document's. For every input that is not too large. -/
import Derived.Test.YtfbnlpoinieijaaDoorBl
import Derived.Test.YtfbnlpoinieijaaDoorBh
import Derived.Test.YtfbnlpoinieijaaDoorBf
import Derived.Test.YtfbnlpoinieijaaDoorBg
namespace Go.Proofs.YtfbnlpoinieijaaDoor
open Go.RowKit
set_option linter.unusedVariables false
set_option linter.unusedSimpArgs false

theorem step_sz (d : UInt8) (t : Co) : T.sizes (stepT d t).kids ≤ 400040001 := by
  have h : (stepT d t).size ≤ 400040001 := by
    unfold stepT
    by_cases h1 : mayC t = true
    · rw [if_pos h1]
      by_cases h2 : mayC (stepC d t) = true
      · rw [if_pos h2]; exact step_size_le h1
      · rw [if_neg h2]; decide
    · rw [if_neg h1]; decide
  generalize stepT d t = z at h ⊢
  obtain ⟨h1, k1⟩ := z
  simp only [T.size, T.kids] at h ⊢
  omega
theorem great_pot {t : Co} (h : greatC 60 t = false) (ho : okC t = true) : potV t + 2 * potS t ≤ 1000000000 := by
  obtain ⟨hz, hb⟩ := great_few (m := 60) h
  obtain ⟨a, b⟩ := potV_le (m := 100) t ho hb
  have a1 : t.size * (100 + 1) ≤ 60 * 101 := Nat.mul_le_mul hz (by omega)
  have a2 : t.size * (t.size * (100 + 1)) ≤ 60 * (60 * 101) := Nat.mul_le_mul hz a1
  omega
set_option maxRecDepth 100000 in
set_option maxHeartbeats 16000000 in
theorem posixSteps_walk (h : CH) (ks : List Co) (A : Option Addr) (c : Nat) (b : UInt8) (w : World) (hm : T.sizes ks ≤ 1048576) (hc : ks.length ≤ c) (hr : InRow CE (fun _ => True) w ks A 0) :
    Calls Tryd.prog 9 #[coV h A ks.length c, .int .u8 (b.toNat : Int)] w fun e w' => e = .returned (.bool true) ∧ Below w.heap.size w w' := by
  obtain ⟨W, hW⟩ : ∃ W, w.alloc (.cells (coA h A ks.length c) 27) = W := ⟨_, rfl⟩
  have hbW : Below w.heap.size w W := by rw [← hW]; exact below_new (Below.refl _ _) _
  have e1 : W.heap[w.heap.size]? = some (.cells (coA h A ks.length c) 27 (0, 0)) := by rw [← hW]; exact new_at1 _
  have CG : Hid (∀ X, Below W.heap.size W X → Calls Tryd.prog 19 #[coV h A ks.length c, .int .i64 60] X fun e w' => e = .returned (.bool (greatC 60 (.mk h ks))) ∧ Below X.heap.size X w') := fun X hX => cGreat_any h ks A c 60 X (by omega) hc (hr.below (below_from hbW hX))
  have CA : Hid (∀ X, Below W.heap.size W X → Calls Tryd.prog 45 #[] X fun e w' => e = .returned (.bool true) ∧ Below X.heap.size X w') := fun X hX => awake17_any X
  have Q1 : Hid (∀ X, Below W.heap.size W X → X.cell? ⟨w.heap.size, 0, none⟩ = some (.int .u8 (h.k.toNat : Int)) ∧ X.cell? ⟨w.heap.size, 1, none⟩ = some (.string (str h.b)) ∧ X.cell? ⟨w.heap.size, 2, none⟩ = some (.int .u64 (h.s.a.toNat : Int)) ∧ X.cell? ⟨w.heap.size, 3, none⟩ = some (.int .u64 (h.s.b.toNat : Int)) ∧ X.cell? ⟨w.heap.size, 4, none⟩ = some (.int .u64 (h.s.c.toNat : Int)) ∧ X.cell? ⟨w.heap.size, 5, none⟩ = some (.int .u64 (h.s.d.toNat : Int)) ∧ X.cell? ⟨w.heap.size, 6, none⟩ = some (.slice A ks.length c)) := by
    intro X hX
    obtain ⟨x0, x1, x2, x3, x4, x5, x6⟩ := co_at_box ((hX.block _ (lt_of_block e1)).trans e1)
    exact ⟨x0, x1, x2, x3, x4, x5, x6⟩
  have HR := Lib.hid hr
  have HW := Lib.hid hbW
  have HE := Lib.hid hW
  clear hW hr hbW e1
  rcases hg : greatC 60 (.mk h ks) with _ | _
  · have hgf := great_few (m := 60) hg
    have hsh : shortC (.mk h ks) := fun x hx => Nat.le_trans (hgf.2 x hx) (by decide)
    have CP : Hid (∀ X, Below W.heap.size W X → Calls Tryd.prog 46 #[coV h A ks.length c, .int .u8 (b.toNat : Int)] X (StepPost (fun _ => True) b (.mk h ks) X)) := fun X hX => pStep_any b h ks A c X (by omega) hc (HR.out.below (below_from HW.out hX)) hsh (great_pot hg)
    have CD : Hid (∀ X, Below W.heap.size W X → Calls Tryd.prog 47 #[coV h A ks.length c, .int .u8 (b.toNat : Int)] X (StepPost (fun _ => True) b (.mk h ks) X)) := fun X hX => dStep_any b h ks A c X (by omega) hc (HR.out.below (below_from HW.out hX)) hsh (great_pot hg)
    have HSZ := Lib.hid (step_sz b (.mk h ks))
    rw [hg] at CG
    clear hg hgf hsh
    generalize stepE b (.mk h ks) = se at *
    go_enter Tryd.func9, Tryd.ntmps9
    go_wp2_with fail
    rw [HE.out]
    refine (CG.out _ (Below.refl _ _)).mono ?_
    rintro e w0 ⟨rfl, hb0⟩
    have HB0 := Lib.hid hb0
    obtain ⟨x0, x1, x2, x3, x4, x5, x6⟩ := Q1.out _ hb0
    clear hb0 CG
    go_wp2_with fail
    refine (CP.out _ HB0.out).mono ?_
    rintro e w1 ⟨h1, k1, A1, c1, rfl, e1, hc1, hr1, hb1⟩
    obtain ⟨U, hU⟩ : ∃ U, w1.alloc (.cells (coA h1 A1 k1.length c1) 27) = U := ⟨_, rfl⟩
    have hbU : Below w1.heap.size w1 U := by rw [← hU]; exact below_new (Below.refl _ _) _
    have n1 : U.heap[w1.heap.size]? = some (.cells (coA h1 A1 k1.length c1) 27 (0, 0)) := by rw [← hU]; exact new_at1 _
    have HBU := Lib.hid (below_from (below_from HB0.out hb1) hbU)
    have N1 := Lib.hid n1
    have HU := Lib.hid hU
    have HR1 := Lib.hid (hr1.below hbU)
    have E1 := Lib.hid e1
    clear x0 x1 x2 x3 x4 x5 x6 hU hbU n1 hb1 hr1 e1 HB0
    obtain ⟨x0, x1, x2, x3, x4, x5, x6⟩ := Q1.out _ HBU.out
    rw [← HU.out] at x0 x1 x2 x3 x4 x5 x6
    go_wp2_with fail
    rw [HU.out]
    refine (CD.out _ HBU.out).mono ?_
    rintro e w2 ⟨h2, k2, A2, c2, rfl, e2, hc2, hr2, hb2⟩
    obtain ⟨V, hV⟩ : ∃ V, w2.alloc (.cells (coA h2 A2 k2.length c2) 27) = V := ⟨_, rfl⟩
    have hbV : Below w2.heap.size w2 V := by rw [← hV]; exact below_new (Below.refl _ _) _
    have n2 : V.heap[w2.heap.size]? = some (.cells (coA h2 A2 k2.length c2) 27 (0, 0)) := by rw [← hV]; exact new_at1 _
    have hbUV := below_from hb2 hbV
    have HBV := Lib.hid (below_from HBU.out hbUV)
    have n1V := (hbUV.block _ (lt_of_block N1.out)).trans N1.out
    have hz1 : T.sizes k1 ≤ 400040001 := by have := HSZ.out; rw [E1.out] at this; exact this
    have hz2 : T.sizes k2 ≤ 400040001 := by have := HSZ.out; rw [e2] at this; exact this
    have CS : Hid (∀ X, Below V.heap.size V X → Calls Tryd.prog 40 #[coV h1 A1 k1.length c1, coV h2 A2 k2.length c2] X fun e w' => e = .returned (.bool true) ∧ Below X.heap.size X w') := fun X hX => by
      have := refSameC_upto (1 + T.sizes k1) (fun _ => True) h1 h2 k1 k2 A1 A2 c1 c2 X (Nat.le_refl _) (by omega) (by omega) ((HR1.out.below (below_from hbUV hX)).weak fun _ _ => trivial) ((hr2.below (below_from hbV hX)).weak fun _ _ => trivial)
      rw [← E1.out, ← e2, sameC_refl] at this
      exact this
    obtain ⟨y0, y1, y2, y3, y4, y5, y6⟩ := co_at_box n1V
    obtain ⟨z0, z1, z2, z3, z4, z5, z6⟩ := co_at_box n2
    rw [← hV] at y0 y1 y2 y3 y4 y5 y6 z0 z1 z2 z3 z4 z5 z6
    have HV := Lib.hid hV
    have g0 : (se == se) = true := by simp
    clear x0 x1 x2 x3 x4 x5 x6 hV hbV n2 hbUV n1V hz1 hz2 hb2 hr2 e2 HSZ CP CD
    go_wp2_with fail
    rw [HV.out]
    refine (CS.out _ (Below.refl _ _)).mono ?_
    rintro e w3 ⟨rfl, hb3⟩
    have HB3 := Lib.hid (below_from HBV.out hb3)
    clear hb3 y0 y1 y2 y3 y4 y5 y6 z0 z1 z2 z3 z4 z5 z6
    go_wp2_with fail
    refine (CA.out _ HB3.out).mono ?_
    rintro e w4 ⟨rfl, hb4⟩
    have hb := below_from HW.out (below_from HB3.out hb4)
    clear hb4
    go_wp2_with fail
    go_ret
    exact ⟨rfl, hb⟩
  · rw [hg] at CG
    clear hg
    go_enter Tryd.func9, Tryd.ntmps9
    go_wp2_with fail
    rw [HE.out]
    refine (CG.out _ (Below.refl _ _)).mono ?_
    rintro e w0 ⟨rfl, hb0⟩
    have HB0 := Lib.hid hb0
    clear hb0
    go_wp2_with fail
    refine (CA.out _ HB0.out).mono ?_
    rintro e w4 ⟨rfl, hb4⟩
    have hb := below_from HW.out (below_from HB0.out hb4)
    clear hb4
    go_wp2_with fail
    go_ret
    exact ⟨rfl, hb⟩
namespace lawPosixSteps
open Go.ChangeShapes Go.WideShapes Go.ChangeAt
open Go.ChangeMaps (open_string)
set_option maxRecDepth 100000 in
theorem contract (H : Type) (enc : TypeId × Value → H) (W : World) (base : Nat) (args : Array Value) (ds gs : List (DataW H)) (before : List MemPlace)
    (hval : ∀ (j : Nat) t v, Tryd.f9.params[j]? = some t → args[j]? = some v → Value.okWide Tryd.prog W .any base t v)
    (hW : DataW.Whole enc Tryd.prog Tryd.f9.params.toList Rows.posixStepsSpec.vars false W args.toList ds gs before) (hL : laidMetH Tryd.prog Rows.posixStepsUptoRow.laid W) (hk : Rows.uptoSmall H (ds ++ gs) = true) :
    Calls Tryd.prog 9 args W fun e W' => ∃ v, e = .returned v ∧ Rows.posixStepsSpec.post enc Tryd.prog Tryd.f9 false true false false W args v W' := by
  have hW' := hW
  obtain ⟨p, q, hA0, hV, rfl, hfz, hnd⟩ := hW
  have hA : DataW.TrodAll enc Tryd.prog W 0 (fun _ => true) true Tryd.f9.params.toList args.toList ds p := hA0
  rw [Tryd.params9] at hA hval
  obtain ⟨v0, vs0, d0, ds0, p0, q0, hargs, rfl, rfl, h0, r0⟩ := trodAll_cons hA
  obtain ⟨v1, vs1, d1, ds1, p1, q1, rfl, rfl, rfl, h1, r1⟩ := trodAll_cons r0
  obtain ⟨rfl, rfl, rfl⟩ := trodAll_nil r1
  obtain rfl : args = #[v0, v1] := by cases args; simp_all
  obtain ⟨rfl, rfl⟩ := trodVars_none hV
  have hkk : Rows.uptoBulk d0 + Rows.uptoBulk d1 ≤ 1048576 := by simp [Rows.uptoSmall, Rows.uptoBulkAll] at hk; omega
  obtain ⟨x, kx, A0, c0, rfl, hc0, hr0, hz0⟩ := open_coded (hval 0 27 v0 rfl rfl) h0
  obtain ⟨b, rfl, rfl, rfl, hw1⟩ := open_int Tryd.underlying5 (hval 1 5 v1 rfl rfl) h1
  obtain ⟨bb, rfl⟩ := u8_of hw1
  refine (posixSteps_walk x kx A0 c0 bb W (by omega) hc0 hr0).mono fun e W' ⟨he, hb⟩ => ?_
  subst he
  exact ⟨_, rfl, post_true Tryd.laidOut (by rw [Tryd.params9]; intro t ht; simp at ht; rcases ht with rfl | rfl <;> exact ⟨by kernel_rfl, of_decide_eq_true (by kernel_rfl)⟩) hW' rfl rfl rfl Tryd.underlying4 hb⟩
theorem laid_met (os : Os) : laidMet Tryd.prog Rows.posixStepsUptoRow.laid ((utfWorld os).forCall (fun _ _ => 0) ⟨#[], #[.agg #[.int .u8 0, .string ByteArray.empty, .int .u64 0, .int .u64 0, .int .u64 0, .int .u64 0, .slice none 0 0], .int .u8 0], []⟩).memory :=
  laidMet_of_run' 600 (by kernel_rfl) (by kernel_rfl)
theorem reads (os : Os) {H : Type} (enc : TypeId × Value → H) : ∃ places, DataW.whole enc Tryd.prog ((utfWorld os).forCall (fun _ _ => 0) ⟨#[], #[.agg #[.int .u8 0, .string ByteArray.empty, .int .u64 0, .int .u64 0, .int .u64 0, .int .u64 0, .slice none 0 0], .int .u8 0], []⟩).memory Tryd.f9.params.toList Rows.posixStepsSpec.vars false (#[.agg #[.int .u8 0, .string ByteArray.empty, .int .u64 0, .int .u64 0, .int .u64 0, .int .u64 0, .slice none 0 0], .int .u8 0] : Array Value).toList 8 = some ([.agg [.lit (.int .u8 0), .lit (.string []), .agg [.lit (.int .u64 0), .lit (.int .u64 0), .lit (.int .u64 0), .lit (.int .u64 0)], .nil], .lit (.int .u8 0)], [], places) :=
  ⟨[], by kernel_rfl⟩
set_option maxRecDepth 100000 in
theorem lifted (os : Os) (started : os.Started) (H : Type) (enc : TypeId × Value → H) (F : Stop.Interp) :
    ReturnsInHanded {} Tryd.checked os 9 .any ((Rows.OpenSpec.upto Rows.posixStepsSpec).preRow enc Tryd.prog Tryd.f9 Rows.posixStepsUptoRow.domain false Rows.posixStepsUptoRow.laid) (((Rows.OpenSpec.upto Rows.posixStepsSpec).at F).post enc Tryd.prog Tryd.f9 false true false false) := by
  obtain ⟨places, hx⟩ := reads os enc
  refine returnsInHanded_of_row (C := Tryd.checked) (s := Rows.OpenSpec.upto Rows.posixStepsSpec) Tryd.own started (by kernel_rfl) Tryd.func9
    (witness_row_at (enc := enc) (C := Tryd.checked) false (utfWorld os) #[.agg #[.int .u8 0, .string ByteArray.empty, .int .u64 0, .int .u64 0, .int .u64 0, .int .u64 0, .slice none 0 0], .int .u8 0] rfl (by kernel_rfl) (by kernel_rfl) (by kernel_rfl)
      (OpenSpec.preRow_of_cond 8 hx (by kernel_rfl) (fun k hk => by cases hk; kernel_rfl) (by kernel_rfl) (laid_met os))) ?_
  intro W base args ds gs before hval hW _ hcond _ hL _ _
  exact contract H enc W base args ds gs before hval hW hL (hcond _ rfl)
theorem said : Rows.PosixStepsUptoSaid :=
  OpenClaim.holds_of_cond 9 Tryd.f9 rfl rfl rfl rfl rfl rfl rfl ⟨rfl, rfl, rfl, rfl, rfl⟩ rfl rfl rfl rfl rfl (by kernel_rfl) Tryd.func9 (by kernel_rfl)
    (of_decide_eq_true (by kernel_rfl)) (by unfold Func.isWrapper; first | (rw [if_pos (by decide +kernel)]; kernel_rfl) | (rw [if_neg (by decide +kernel)]; exact ⟨rfl, rfl⟩))
    (fun os started H enc _ F => by rw [OpenClaim.pre_eq_preRow]; exact lifted os started H enc F)
theorem plain (f : FuncId) (fn : Func) (hf : Tryd.pinned.checked.prog.funcNamed "quill/quilllaw17.PosixSteps" = some f) (hfn : Tryd.pinned.checked.prog.funcs[f]? = some fn) :
    true = Tryd.pinned.checked.prog.looks [] ∧ ∀ (j : Nat) t, fn.params[j]? = some t → Tryd.pinned.checked.prog.wantsStandIn t = false := by
  obtain rfl : f = 9 := Option.some.inj ((show Tryd.prog.funcNamed "quill/quilllaw17.PosixSteps" = some 9 by kernel_rfl).symm.trans hf) |>.symm
  obtain rfl : fn = Tryd.f9 := (Option.some.inj (Tryd.func9.symm.trans hfn)).symm
  refine ⟨by kernel_rfl, fun j t ht => ?_⟩
  rw [Tryd.params9] at ht
  have hm := Array.mem_of_getElem? ht
  simp at hm
  rcases hm with rfl | rfl
  · exact (show Tryd.prog.wantsStandIn 27 = false by kernel_rfl)
  · exact (show Tryd.prog.wantsStandIn 5 = false by kernel_rfl)
theorem proved : Rows.PosixStepsUptoCardSaid :=
  Claim7.holds_tied_plain_at .later [] _ _ _ _ said (fun _ h => by cases h) (by kernel_rfl) (fun _ h => by cases h) posixStepsUpto_row_tie rfl ⟨rfl, rfl⟩ (by kernel_rfl) rfl plain (by kernel_rfl)
end lawPosixSteps
end Go.Proofs.YtfbnlpoinieijaaDoor
