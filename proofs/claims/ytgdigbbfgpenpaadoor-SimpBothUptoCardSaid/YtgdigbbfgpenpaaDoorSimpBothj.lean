/- With and without making simpler the same value, or the same error, is answered, where there is room. For every input that is not too large. -/
import Derived.Test.YtgdigbbfgpenpaaDoorBp
import Derived.Test.YtgdigbbfgpenpaaDoorBz
import Derived.Test.YtgdigbbfgpenpaaDoorCa
import Derived.Test.YtgdigbbfgpenpaaDoorBv
import Derived.Test.YtgdigbbfgpenpaaDoorBg
namespace Go.Proofs.YtgdigbbfgpenpaaDoor
open Go.RowKit
set_option linter.unusedVariables false
set_option linter.unusedSimpArgs false

set_option maxRecDepth 100000 in
set_option maxHeartbeats 16000000 in
theorem simpBoth_walk (h : RH) (ks : List Re) (A : Option Addr) (c : Nat) (S : ByteArray) (w : World) (hm : T.sizes ks ≤ 1048576) (hc : ks.length ≤ c) (hr : InRow RE (fun _ => True) w ks A 0) (htz : TzOk w) :
    Calls Tryd.prog 7 #[reV h A ks.length c, .string S] w fun e w' => e = .returned (.bool true) ∧ Below w.heap.size w w' := by
  obtain ⟨W, hW⟩ : ∃ W, w.alloc (.cells (reA h A ks.length c) 27) = W := ⟨_, rfl⟩
  have hbW : Below w.heap.size w W := by rw [← hW]; exact below_new (Below.refl _ _) _
  have e1 : W.heap[w.heap.size]? = some (.cells (reA h A ks.length c) 27 (0, 0)) := by rw [← hW]; exact new_at1 _
  have CG : Hid (∀ X, Below W.heap.size W X → Calls Tryd.prog 8 #[reV h A ks.length c, .int .i64 20] X fun e w' => e = .returned (.bool (greatB 20 (.mk h ks))) ∧ Below X.heap.size X w') := fun X hX => Great_any h ks A c 20 X (by omega) hc (hr.below (below_from hbW hX))
  have CA : Hid (∀ X, Below W.heap.size W X → Calls Tryd.prog 19 #[] X fun e w' => e = .returned (.bool true) ∧ Below X.heap.size X w') := fun X hX => awake18_any X
  have HR := Lib.hid hr
  have HTZ := Lib.hid htz
  have HW := Lib.hid hbW
  have HE := Lib.hid hW
  have E1 := Lib.hid e1
  clear hW hr hbW e1 htz
  have HB0 : Hid (Below W.heap.size W W) := Below.refl _ _
  rcases hg : greatB 20 (.mk h ks) with _ | _
  case true =>
    rw [hg] at CG
    clear hg
    go_enter Tryd.func7, Tryd.ntmps7
    go_wp2_with fail
    rw [HE.out]
    refine (CG.out _ HB0.out).mono ?_
    rintro e w0 ⟨rfl, hb0⟩
    have HB1_ := Lib.hid (below_from HB0.out hb0)
    have Ex1_ := Lib.hid ((hb0.block _ (lt_of_block E1.out)).trans E1.out)
    go_wp2_with fail
    refine (CA.out _ HB1_.out).mono ?_
    rintro e w9 ⟨rfl, hb9⟩
    have hb := below_from HW.out (below_from HB1_.out hb9)
    clear hb9
    go_wp2_with fail
    go_ret
    exact ⟨rfl, hb⟩
  have hsz : 1 + T.sizes ks ≤ 20 := by
    have := of_decide_eq_false hg
    simp only [T.size] at this
    omega
  rw [hg] at CG
  clear hg
  by_cases ls : 5 < S.size
  · have gls : decide (((S.size : Nat) : Int) > 5) = true := by simp; omega
    go_enter Tryd.func7, Tryd.ntmps7
    go_wp2_with fail
    rw [HE.out]
    refine (CG.out _ HB0.out).mono ?_
    rintro e w0 ⟨rfl, hb0⟩
    have HB1_ := Lib.hid (below_from HB0.out hb0)
    have Ex1_ := Lib.hid ((hb0.block _ (lt_of_block E1.out)).trans E1.out)
    go_wp2_with fail
    refine (CA.out _ HB1_.out).mono ?_
    rintro e w9 ⟨rfl, hb9⟩
    have hb := below_from HW.out (below_from HB1_.out hb9)
    clear hb9
    go_wp2_with fail
    go_ret
    exact ⟨rfl, hb⟩
  have gls : decide (((S.size : Nat) : Int) > 5) = false := by simp; omega
  have hS : S.size ≤ 100 := by omega
  have HTS : Hid ((T.mk h ks).size * (S.data.toList.length + 1) ≤ 1000) := by unfold Hid; rw [sl_]; exact Nat.le_trans (Nat.mul_le_mul (show (T.mk h ks).size ≤ 20 from hsz) (show S.size + 1 ≤ 6 by omega)) (by decide)
  have CL : Hid (∀ X, Below W.heap.size W X → Calls Tryd.prog 20 #[reV h A ks.length c, .string S] X (LexPost (.mk h ks) S.data.toList X)) := fun X hX => sLex_any h ks A c S X (by omega) hc (HR.out.below (below_from HW.out hX)) hS (HTZ.out.below (below_from HW.out hX))
  have CP : Hid (∀ X, Below W.heap.size W X → Calls Tryd.prog 23 #[reV h A ks.length c, .string S] X (LexPost (.mk h ks) S.data.toList X)) := fun X hX => pLex_any h ks A c S X (by omega) hc (HR.out.below (below_from HW.out hX)) hS (HTZ.out.below (below_from HW.out hX))
  clear ls
  go_enter Tryd.func7, Tryd.ntmps7
  go_wp2_with fail
  rw [HE.out]
  refine (CG.out _ HB0.out).mono ?_
  rintro e w0 ⟨rfl, hb0⟩
  have HB1_ := Lib.hid (below_from HB0.out hb0)
  have Ex1_ := Lib.hid ((hb0.block _ (lt_of_block E1.out)).trans E1.out)
  obtain ⟨x0, x1, x2, x3, x4, x5⟩ := re_at_box Ex1_.out
  go_wp2_with fail
  refine (CL.out _ HB1_.out).mono ?_
  rintro e w1 ⟨h1, k1, A1, c1, e1, rfl, hrl, hc1, hr1, hb1⟩
  clear x0 x1 x2 x3 x4 x5
  have HB2_ := Lib.hid (below_from HB1_.out hb1)
  have Ex2_ := Lib.hid ((hb1.block _ (lt_of_block Ex1_.out)).trans Ex1_.out)
  have HRL := Lib.hid hrl
  have HR1 := Lib.hid hr1
  clear hrl hr1 hb1
  obtain ⟨X3_, hX3_⟩ : ∃ X, w1.alloc (.cells (vaA h1 A1 k1.length c1) 32) = X := ⟨_, rfl⟩
  have hbX3_ : Below w1.heap.size w1 X3_ := by rw [← hX3_]; exact below_new (Below.refl _ _) _
  have Ep3_ : Hid (X3_.heap[w1.heap.size]? = some (.cells (vaA h1 A1 k1.length c1) 32 (0, 0))) := by unfold Hid; rw [← hX3_]; exact new_at1 _
  have HX3_ := Lib.hid hX3_
  have HB4_ := Lib.hid (below_from HB2_.out hbX3_)
  have Ex4_ := Lib.hid ((hbX3_.block _ (lt_of_block Ex2_.out)).trans Ex2_.out)
  have Ra4_ := Lib.hid (HR1.out.below hbX3_)
  clear hX3_ hbX3_
  go_upto_region 4 with fail
  rw [show w1.alloc _ = X3_ from HX3_.out]
  obtain ⟨x0, x1, x2, x3, x4, x5⟩ := re_at_box Ex4_.out
  go_wp2_with fail
  refine (CP.out _ HB4_.out).mono ?_
  rintro e w2 ⟨h2, k2, A2, c2, e2, rfl, hrl2, hc2, hr2, hb2⟩
  clear x0 x1 x2 x3 x4 x5
  have HB5_ := Lib.hid (below_from HB4_.out hb2)
  have Ex5_ := Lib.hid ((hb2.block _ (lt_of_block Ex4_.out)).trans Ex4_.out)
  have Ep5_ := Lib.hid ((hb2.block _ (lt_of_block Ep3_.out)).trans Ep3_.out)
  have Ra5_ := Lib.hid (Ra4_.out.below hb2)
  have HRL2 := Lib.hid hrl2
  have HR2 := Lib.hid hr2
  clear hrl2 hr2 hb2
  obtain ⟨X6_, hX6_⟩ : ∃ X, w2.alloc (.cells (vaA h2 A2 k2.length c2) 32) = X := ⟨_, rfl⟩
  have hbX6_ : Below w2.heap.size w2 X6_ := by rw [← hX6_]; exact below_new (Below.refl _ _) _
  have Eq6_ : Hid (X6_.heap[w2.heap.size]? = some (.cells (vaA h2 A2 k2.length c2) 32 (0, 0))) := by unfold Hid; rw [← hX6_]; exact new_at1 _
  have HX6_ := Lib.hid hX6_
  have HB7_ := Lib.hid (below_from HB5_.out hbX6_)
  have Ex7_ := Lib.hid ((hbX6_.block _ (lt_of_block Ex5_.out)).trans Ex5_.out)
  have Ep7_ := Lib.hid ((hbX6_.block _ (lt_of_block Ep5_.out)).trans Ep5_.out)
  have Ra7_ := Lib.hid (Ra5_.out.below hbX6_)
  have Rb7_ := Lib.hid (HR2.out.below hbX6_)
  clear hX6_ hbX6_
  go_upto_region 5 with fail
  rw [show w2.alloc _ = X6_ from HX6_.out]
  by_cases h4 : e1 = 4
  · subst h4
    clear HRL HRL2
    go_wp2_with fail
    refine (CA.out _ HB7_.out).mono ?_
    rintro e w9 ⟨rfl, hb9⟩
    have hb := below_from HW.out (below_from HB7_.out hb9)
    clear hb9
    go_wp2_with fail
    go_ret
    exact ⟨rfl, hb⟩
  · have g4 : (e1 == 4) = false := by simpa using h4
    by_cases k4 : e2 = 4
    · subst k4
      clear HRL HRL2 h4
      go_wp2_with fail
      refine (CA.out _ HB7_.out).mono ?_
      rintro e w9 ⟨rfl, hb9⟩
      have hb := below_from HW.out (below_from HB7_.out hb9)
      clear hb9
      go_wp2_with fail
      go_ret
      exact ⟨rfl, hb⟩
    · have g5 : (e2 == 4) = false := by simpa using k4
      obtain ⟨he, hee⟩ := lexRel_one HRL.out HRL2.out h4 k4
      subst he
      have hs1 : T.sizes k1 ≤ 1000 := by
        rcases HRL.out with ⟨_, _, hrv⟩ | ⟨hv0, _⟩
        · have := RV_size hrv; have h2 := HTS.out; simp only [T.size] at this h2; omega
        · have := congrArg T.size hv0; simp only [T.size, T.sizes] at this; omega
      have hs2 : T.sizes k2 ≤ 1000 := by have := congrArg T.size hee; simp only [T.size] at this; omega
      have g0 : (e1 == e1) = true := by simp
      clear HRL HRL2 h4 k4
      have CS : Hid (Calls Tryd.prog 13 #[vaV h1 A1 k1.length c1, vaV h2 A2 k2.length c2] X6_ fun e w' => e = .returned (.bool true) ∧ Below X6_.heap.size X6_ w') := by
        have := refSameV_upto 1000000000 (fun _ => True) h1 h2 k1 k2 A1 A2 c1 c2 X6_ (by omega) (Nat.le_refl _) (by omega) (Ra7_.out.weak fun _ _ => trivial) (Rb7_.out.weak fun _ _ => trivial)
        rw [hee, sameV_refl] at this
        exact this
      obtain ⟨p0, p1, p2⟩ := va_at_box Ep7_.out
      obtain ⟨q0, q1, q2⟩ := va_at_box Eq6_.out
      go_wp2_with fail
      refine (CS.out).mono ?_
      rintro e w5 ⟨rfl, hb5⟩
      clear p0 p1 p2 q0 q1 q2
      have HB8_ := Lib.hid (below_from HB7_.out hb5)
      have Ex8_ := Lib.hid ((hb5.block _ (lt_of_block Ex7_.out)).trans Ex7_.out)
      have Ep8_ := Lib.hid ((hb5.block _ (lt_of_block Ep7_.out)).trans Ep7_.out)
      have Eq8_ := Lib.hid ((hb5.block _ (lt_of_block Eq6_.out)).trans Eq6_.out)
      have Ra8_ := Lib.hid (Ra7_.out.below hb5)
      have Rb8_ := Lib.hid (Rb7_.out.below hb5)
      go_wp2_with fail
      refine (CA.out _ HB8_.out).mono ?_
      rintro e w9 ⟨rfl, hb9⟩
      have hb := below_from HW.out (below_from HB8_.out hb9)
      clear hb9
      go_wp2_with fail
      go_ret
      exact ⟨rfl, hb⟩
namespace lawSimpBoth
open Go.ChangeShapes Go.WideShapes Go.ChangeAt
open Go.ChangeMaps (open_string)
set_option maxRecDepth 100000 in
theorem contract (H : Type) (enc : TypeId × Value → H) (W : World) (base : Nat) (args : Array Value) (ds gs : List (DataW H)) (before : List MemPlace)
    (hval : ∀ (j : Nat) t v, Tryd.f7.params[j]? = some t → args[j]? = some v → Value.okWide Tryd.prog W .any base t v)
    (hW : DataW.Whole enc Tryd.prog Tryd.f7.params.toList Rows.simpBothSpec.vars false W args.toList ds gs before) (hL : laidMetH Tryd.prog Rows.simpBothUptoRow.laid W) (hk : Rows.uptoSmall H (ds ++ gs) = true) :
    Calls Tryd.prog 7 args W fun e W' => ∃ v, e = .returned v ∧ Rows.simpBothSpec.post enc Tryd.prog Tryd.f7 false true false false W args v W' := by
  have hW' := hW
  obtain ⟨p, q, hA0, hV, rfl, hfz, hnd⟩ := hW
  have hA : DataW.TrodAll enc Tryd.prog W 0 (fun _ => true) true Tryd.f7.params.toList args.toList ds p := hA0
  rw [Tryd.params7] at hA hval
  obtain ⟨v0, vs0, d0, ds0, p0, q0, hargs, rfl, rfl, h0, r0⟩ := trodAll_cons hA
  obtain ⟨v1, vs1, d1, ds1, p1, q1, rfl, rfl, rfl, h1, r1⟩ := trodAll_cons r0
  obtain ⟨rfl, rfl, rfl⟩ := trodAll_nil r1
  obtain rfl : args = #[v0, v1] := by cases args; simp_all
  obtain ⟨rfl, rfl⟩ := trodVars_none hV
  have hkk : Rows.uptoBulk d0 + Rows.uptoBulk d1 ≤ 1048576 := by simp [Rows.uptoSmall, Rows.uptoBulkAll] at hk; omega
  obtain ⟨x, kx, A0, c0, rfl, hc0, hr0, hz0⟩ := open_re (hval 0 27 v0 rfl rfl) h0
  obtain ⟨s, rfl, rfl, rfl, hs1⟩ := open_string Tryd.underlying9 (hval 1 9 v1 rfl rfl) h1
  have HT : TzOk W := tz_of_laid hL
  refine (simpBoth_walk x kx A0 c0 s W (by omega) hc0 hr0 HT).mono fun e W' ⟨he, hb⟩ => ?_
  subst he
  exact ⟨_, rfl, post_true Tryd.laidOut (by rw [Tryd.params7]; intro t ht; simp at ht; rcases ht with rfl | rfl <;> exact ⟨by kernel_rfl, of_decide_eq_true (by kernel_rfl)⟩) hW' rfl rfl rfl Tryd.underlying4 hb⟩
theorem laid_met (os : Os) : laidMet Tryd.prog Rows.simpBothUptoRow.laid ((utfWorld os).forCall (fun _ _ => 0) ⟨#[], #[.agg #[.int .u8 0, .int .u64 0, .int .u64 0, .int .u64 0, .int .u64 0, .slice none 0 0], .string ByteArray.empty], []⟩).memory :=
  laidMet_of_run' 600 (by kernel_rfl) (by kernel_rfl)
theorem reads (os : Os) {H : Type} (enc : TypeId × Value → H) : ∃ places, DataW.whole enc Tryd.prog ((utfWorld os).forCall (fun _ _ => 0) ⟨#[], #[.agg #[.int .u8 0, .int .u64 0, .int .u64 0, .int .u64 0, .int .u64 0, .slice none 0 0], .string ByteArray.empty], []⟩).memory Tryd.f7.params.toList Rows.simpBothSpec.vars false (#[.agg #[.int .u8 0, .int .u64 0, .int .u64 0, .int .u64 0, .int .u64 0, .slice none 0 0], .string ByteArray.empty] : Array Value).toList 8 = some ([.agg [.lit (.int .u8 0), .agg [.lit (.int .u64 0), .lit (.int .u64 0), .lit (.int .u64 0), .lit (.int .u64 0)], .nil], .lit (.string [])], [], places) :=
  ⟨[], by kernel_rfl⟩
set_option maxRecDepth 100000 in
theorem lifted (os : Os) (started : os.Started) (H : Type) (enc : TypeId × Value → H) (F : Stop.Interp) :
    ReturnsInHanded {} Tryd.checked os 7 .any ((Rows.OpenSpec.upto Rows.simpBothSpec).preRow enc Tryd.prog Tryd.f7 Rows.simpBothUptoRow.domain false Rows.simpBothUptoRow.laid) (((Rows.OpenSpec.upto Rows.simpBothSpec).at F).post enc Tryd.prog Tryd.f7 false true false false) := by
  obtain ⟨places, hx⟩ := reads os enc
  refine returnsInHanded_of_row (C := Tryd.checked) (s := Rows.OpenSpec.upto Rows.simpBothSpec) Tryd.own started (by kernel_rfl) Tryd.func7
    (witness_row_at (enc := enc) (C := Tryd.checked) false (utfWorld os) #[.agg #[.int .u8 0, .int .u64 0, .int .u64 0, .int .u64 0, .int .u64 0, .slice none 0 0], .string ByteArray.empty] rfl (by kernel_rfl) (by kernel_rfl) (by kernel_rfl)
      (OpenSpec.preRow_of_cond 8 hx (by kernel_rfl) (fun k hk => by cases hk; kernel_rfl) (by kernel_rfl) (laid_met os))) ?_
  intro W base args ds gs before hval hW _ hcond _ hL _ _
  exact contract H enc W base args ds gs before hval hW hL (hcond _ rfl)
theorem said : Rows.SimpBothUptoSaid :=
  OpenClaim.holds_of_cond 7 Tryd.f7 rfl rfl rfl rfl rfl rfl rfl ⟨rfl, rfl, rfl, rfl, rfl⟩ rfl rfl rfl rfl rfl (by kernel_rfl) Tryd.func7 (by kernel_rfl)
    (of_decide_eq_true (by kernel_rfl)) (by unfold Func.isWrapper; first | (rw [if_pos (by decide +kernel)]; kernel_rfl) | (rw [if_neg (by decide +kernel)]; exact ⟨rfl, rfl⟩))
    (fun os started H enc _ F => by rw [OpenClaim.pre_eq_preRow]; exact lifted os started H enc F)
theorem plain (f : FuncId) (fn : Func) (hf : Tryd.pinned.checked.prog.funcNamed "quill/quilllaw18.SimpBoth" = some f) (hfn : Tryd.pinned.checked.prog.funcs[f]? = some fn) :
    true = Tryd.pinned.checked.prog.looks [] ∧ ∀ (j : Nat) t, fn.params[j]? = some t → Tryd.pinned.checked.prog.wantsStandIn t = false := by
  obtain rfl : f = 7 := Option.some.inj ((show Tryd.prog.funcNamed "quill/quilllaw18.SimpBoth" = some 7 by kernel_rfl).symm.trans hf) |>.symm
  obtain rfl : fn = Tryd.f7 := (Option.some.inj (Tryd.func7.symm.trans hfn)).symm
  refine ⟨by kernel_rfl, fun j t ht => ?_⟩
  rw [Tryd.params7] at ht
  have hm := Array.mem_of_getElem? ht
  simp at hm
  rcases hm with rfl | rfl
  · exact (show Tryd.prog.wantsStandIn 27 = false by kernel_rfl)
  · exact (show Tryd.prog.wantsStandIn 9 = false by kernel_rfl)
theorem proved : Rows.SimpBothUptoCardSaid :=
  Claim7.holds_tied_plain_at .later [] _ _ _ _ said (fun _ h => by cases h) (by kernel_rfl) (fun _ h => by cases h) simpBothUpto_row_tie rfl ⟨rfl, rfl⟩ (by kernel_rfl) rfl plain (by kernel_rfl)
end lawSimpBoth
end Go.Proofs.YtgdigbbfgpenpaaDoor
