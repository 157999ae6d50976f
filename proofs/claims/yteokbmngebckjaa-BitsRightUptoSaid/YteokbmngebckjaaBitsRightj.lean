/- The bits of the right value of any expression and text are the document's. For every input that is not too large. -/
import Derived.Test.YteokbmngebckjaaAwake15
import Derived.Test.YteokbmngebckjaaRc1
import Derived.Test.YteokbmngebckjaaBv
import Derived.Test.YteokbmngebckjaaBw
import Derived.Test.YteokbmngebckjaaBe
import Derived.WalkKit
import Derived.OpenShut
import Derived.JoinedCond
namespace Go.Proofs.Yteokbmngebckjaa
open Go.RowKit
set_option linter.unusedVariables false
set_option linter.unusedSimpArgs false

set_option maxRecDepth 100000 in
set_option maxHeartbeats 16000000 in
theorem bitsRight_walk (h : RH) (ks : List Re) (A : Option Addr) (c : Nat) (S : ByteArray) (w : World) (hm : T.sizes ks ≤ 1048576) (hc : ks.length ≤ c) (hr : InRow RE (fun _ => True) w ks A 0) :
    Calls Try.prog 4 #[reV h A ks.length c, .string S] w fun e w' => e = .returned (.bool true) ∧ Below w.heap.size w w' := by
  obtain ⟨W, hW⟩ : ∃ W, w.alloc (.cells (reA h A ks.length c) 34) = W := ⟨_, rfl⟩
  have hbW : Below w.heap.size w W := by rw [← hW]; exact below_new (Below.refl _ _) _
  have e1 : W.heap[w.heap.size]? = some (.cells (reA h A ks.length c) 34 (0, 0)) := by rw [← hW]; exact new_at1 _
  have CG : Hid (∀ X, Below W.heap.size W X → Calls Try.prog 13 #[reV h A ks.length c, .int .i64 40] X fun e w' => e = .returned (.bool (greatB 40 (.mk h ks))) ∧ Below X.heap.size X w') := fun X hX => Great_any h ks A c 40 X (by omega) hc (hr.below (below_from hbW hX))
  have CA : Hid (∀ X, Below W.heap.size W X → Calls Try.prog 10 #[] X fun e w' => e = .returned (.bool true) ∧ Below X.heap.size X w') := fun X hX => awake15_any X
  have HR := Lib.hid hr
  have HW := Lib.hid hbW
  have HE := Lib.hid hW
  have E1 := Lib.hid e1
  clear hW hr hbW e1
  have HB0 : Hid (Below W.heap.size W W) := Below.refl _ _
  rcases hg : greatB 40 (.mk h ks) with _ | _
  case true =>
    rw [hg] at CG
    clear hg
    go_enter Try.func4, Try.ntmps4
    go_wp2_with fail
    rw [HE.out]
    refine (CG.out _ HB0.out).mono ?_
    rintro e w0 ⟨rfl, hb0⟩
    have HB1_ := Lib.hid (below_from HB0.out hb0)
    have Ex1_ := Lib.hid ((hb0.block _ (lt_of_block E1.out)).trans E1.out)
    go_wp2_with fail
    refine (CA.out _ HB1_.out).mono ?_
    rintro e w9 ⟨rfl, hb9⟩
    have hb := below_from HW.out (below_from HB1_.out hb9)
    clear hb9
    go_wp2_with fail
    go_ret
    exact ⟨rfl, hb⟩
  have hsz : 1 + T.sizes ks ≤ 40 := by
    have := of_decide_eq_false hg
    simp only [T.size] at this
    omega
  rw [hg] at CG
  clear hg
  by_cases ls : 8 < S.size
  · have gls : decide (((S.size : Nat) : Int) > 8) = true := by simp; omega
    go_enter Try.func4, Try.ntmps4
    go_wp2_with fail
    rw [HE.out]
    refine (CG.out _ HB0.out).mono ?_
    rintro e w0 ⟨rfl, hb0⟩
    have HB1_ := Lib.hid (below_from HB0.out hb0)
    have Ex1_ := Lib.hid ((hb0.block _ (lt_of_block E1.out)).trans E1.out)
    go_wp2_with fail
    refine (CA.out _ HB1_.out).mono ?_
    rintro e w9 ⟨rfl, hb9⟩
    have hb := below_from HW.out (below_from HB1_.out hb9)
    clear hb9
    go_wp2_with fail
    go_ret
    exact ⟨rfl, hb⟩
  have gls : decide (((S.size : Nat) : Int) > 8) = false := by simp; omega
  have hS : S.size ≤ 100 := by omega
  have HSV : Hid (∀ v b, RightRel (.mk h ks) S.data.toList v b → v.size ≤ 900000000) := fun v b hv => by
    have h1 := rightRel_size hv
    rw [sl_] at h1
    have h2 := Nat.mul_le_mul (show (T.mk h ks).size ≤ 40 by simp only [T.size]; omega) (show S.size + 1 ≤ 101 by omega)
    omega
  have CC : Hid (∀ X, Below W.heap.size W X → Calls Try.prog 14 #[reV h A ks.length c, .string S] X (BRightPost (.mk h ks) S.data.toList X)) := fun X hX => bRight_any h ks A c S X (by omega) hc (HR.out.below (below_from HW.out hX)) hS HSV.out
  have CD : Hid (∀ X, Below W.heap.size W X → Calls Try.prog 15 #[reV h A ks.length c, .string S] X (BRightPost (.mk h ks) S.data.toList X)) := fun X hX => rRight_any h ks A c S X (by omega) hc (HR.out.below (below_from HW.out hX)) hS HSV.out
  clear ls HSV
  go_enter Try.func4, Try.ntmps4
  go_wp2_with fail
  rw [HE.out]
  refine (CG.out _ HB0.out).mono ?_
  rintro e w0 ⟨rfl, hb0⟩
  have HB1_ := Lib.hid (below_from HB0.out hb0)
  have Ex1_ := Lib.hid ((hb0.block _ (lt_of_block E1.out)).trans E1.out)
  obtain ⟨x0, x1, x2, x3, x4, x5⟩ := re_at_box Ex1_.out
  go_wp2_with fail
  refine (CC.out _ HB1_.out).mono ?_
  rintro e w1 ⟨v1, b1, rfl, hrl1, hb1⟩
  clear x0 x1 x2 x3 x4 x5
  have HB2_ := Lib.hid (below_from HB1_.out hb1)
  have Ex2_ := Lib.hid ((hb1.block _ (lt_of_block Ex1_.out)).trans Ex1_.out)
  have HRL := Lib.hid hrl1
  clear hrl1
  obtain ⟨x0, x1, x2, x3, x4, x5⟩ := re_at_box Ex2_.out
  go_wp2_with fail
  refine (CD.out _ HB2_.out).mono ?_
  rintro e w2 ⟨v2, b2, rfl, hrl2, hb2⟩
  clear x0 x1 x2 x3 x4 x5
  have HB3_ := Lib.hid (below_from HB2_.out hb2)
  have Ex3_ := Lib.hid ((hb2.block _ (lt_of_block Ex2_.out)).trans Ex2_.out)
  obtain ⟨rfl, rfl⟩ := rightRel_one HRL.out hrl2
  clear hrl2 HRL
  generalize codeV v1 = cv
  have g0 : (b1 == b1) = true := by simp
  go_wp2_with fail
  refine (CA.out _ HB3_.out).mono ?_
  rintro e w9 ⟨rfl, hb9⟩
  have hb := below_from HW.out (below_from HB3_.out hb9)
  clear hb9
  go_wp2_with fail
  go_ret
  exact ⟨rfl, hb⟩
namespace lawBitsRight
open Go.ChangeShapes Go.WideShapes Go.ChangeAt
open Go.ChangeMaps (open_string)
set_option maxRecDepth 100000 in
theorem contract (H : Type) (enc : TypeId × Value → H) (W : World) (base : Nat) (args : Array Value) (ds gs : List (DataW H)) (before : List MemPlace)
    (hval : ∀ (j : Nat) t v, Try.f4.params[j]? = some t → args[j]? = some v → Value.okWide Try.prog W .any base t v)
    (hW : DataW.Whole enc Try.prog Try.f4.params.toList Rows.bitsRightSpec.vars false W args.toList ds gs before) (hk : Rows.uptoSmall H (ds ++ gs) = true) :
    Calls Try.prog 4 args W fun e W' => ∃ v, e = .returned v ∧ Rows.bitsRightSpec.post enc Try.prog Try.f4 false true false false W args v W' := by
  have hW' := hW
  obtain ⟨p, q, hA0, hV, rfl, hfz, hnd⟩ := hW
  have hA : DataW.TrodAll enc Try.prog W 0 (fun _ => true) true Try.f4.params.toList args.toList ds p := hA0
  rw [Try.params4] at hA hval
  obtain ⟨v0, vs0, d0, ds0, p0, q0, hargs, rfl, rfl, h0, r0⟩ := trodAll_cons hA
  obtain ⟨v1, vs1, d1, ds1, p1, q1, rfl, rfl, rfl, h1, r1⟩ := trodAll_cons r0
  obtain ⟨rfl, rfl, rfl⟩ := trodAll_nil r1
  obtain rfl : args = #[v0, v1] := by cases args; simp_all
  obtain ⟨rfl, rfl⟩ := trodVars_none hV
  have hkk : Rows.uptoBulk d0 + Rows.uptoBulk d1 ≤ 1048576 := by simp [Rows.uptoSmall, Rows.uptoBulkAll] at hk; omega
  obtain ⟨hx, kx, A0, c0, rfl, hc0, hr0, hz0⟩ := open_re (hval 0 34 v0 rfl rfl) h0
  obtain ⟨s, rfl, rfl, rfl, hs1⟩ := open_string Try.underlying9 (hval 1 9 v1 rfl rfl) h1
  refine (bitsRight_walk hx kx A0 c0 s W (by omega) hc0 hr0).mono fun e W' ⟨he, hb⟩ => ?_
  subst he
  exact ⟨_, rfl, post_true Try.laidOut (by rw [Try.params4]; intro t ht; simp at ht; rcases ht with rfl | rfl <;> exact ⟨by kernel_rfl, of_decide_eq_true (by kernel_rfl)⟩) hW' rfl rfl rfl Try.underlying4 hb⟩
set_option maxRecDepth 100000 in
theorem lifted (os : Os) (started : os.Started) (H : Type) (enc : TypeId × Value → H) (F : Stop.Interp) :
    ReturnsInHanded {} Try.checked os 4 .any ((Rows.OpenSpec.upto Rows.bitsRightSpec).pre6 enc Try.prog Try.f4 Rows.bitsRightUptoRow.domain false) (((Rows.OpenSpec.upto Rows.bitsRightSpec).at F).post enc Try.prog Try.f4 false true false false) := by
  refine returnsInHanded_of_cond (C := Try.checked) (s := Rows.OpenSpec.upto Rows.bitsRightSpec) (k := Rows.uptoSmall) rfl Try.own started (by kernel_rfl) Try.func4
    (OpenSpec.witness (enc := enc) (C := Try.checked) (s := Rows.OpenSpec.upto Rows.bitsRightSpec) (k := Rows.uptoSmall) rfl false ⟨#[], #[.agg #[.int .u8 0, .int .u64 0, .int .u64 0, .int .u64 0, .int .u64 0, .slice none 0 0], .string ByteArray.empty], []⟩ 8 (by kernel_rfl) (by kernel_rfl) (by kernel_rfl)
      (x := ([.agg [.lit (.int .u8 0), .agg [.lit (.int .u64 0), .lit (.int .u64 0), .lit (.int .u64 0), .lit (.int .u64 0)], .nil], .lit (.string [])], [], [])) (by kernel_rfl) rfl (by kernel_rfl)) ?_
  intro W base args ds gs before hval hW _ hk _
  exact contract H enc W base args ds gs before hval hW hk
theorem proved : Rows.BitsRightUptoSaid :=
  OpenClaim.holds_of_cond 4 Try.f4 rfl rfl rfl rfl rfl rfl rfl ⟨rfl, rfl, rfl, rfl, rfl⟩ rfl rfl rfl rfl rfl (by kernel_rfl) Try.func4 (by kernel_rfl)
    (of_decide_eq_true (by kernel_rfl)) (by unfold Func.isWrapper; first | (rw [if_pos (by decide +kernel)]; kernel_rfl) | (rw [if_neg (by decide +kernel)]; exact ⟨rfl, rfl⟩))
    (fun os started H enc _ F => lifted os started H enc F)
end lawBitsRight
end Go.Proofs.Yteokbmngebckjaa
