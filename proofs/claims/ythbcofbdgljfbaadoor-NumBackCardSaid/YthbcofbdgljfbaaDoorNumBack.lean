/- Any number's digits are read as it; what is read has these digits. For every input. -/
import Derived.Test.YthbcofbdgljfbaaDoorRead2
import Derived.Test.YthbcofbdgljfbaaDoorReadQ
import Derived.Test.YthbcofbdgljfbaaDoorDoorE
namespace Go.Proofs.YthbcofbdgljfbaaDoor
open Go.RowKit
set_option linter.unusedVariables false
set_option linter.unusedSimpArgs false

theorem size_str (l : List UInt8) : (str l).size = l.length := rfl
theorem str_list (l : List UInt8) : (str l).data.toList = l := rfl
theorem digsJ_one (n : Int) : digsJ [n] = digN n := by
  have h := digsJ_take (l := [n]) (k := 0) (n := n) rfl
  rw [if_pos rfl] at h
  exact h
set_option maxRecDepth 100000 in
set_option maxHeartbeats 8000000 in
theorem numBack_walk (n : Int) (hn : -9223372036854775808 ≤ n ∧ n ≤ 9223372036854775807) (s : ByteArray) (w : World) (hT : PowOk w ∧ ErrOk w) :
    Calls Tryd.prog 5 #[.int .i64 n, .string s] w fun e w' => e = .returned (.bool true) ∧ Below w.heap.size w w' := by
  obtain ⟨hP, hE⟩ := hT
  have HE := Lib.hid hE
  have HP := Lib.hid hP
  clear hE hP
  by_cases hl : s.size ≤ 200
  · have g : decide ((s.size : Int) > 200) = false := by simp; omega
    have HN := Lib.hid hn
    clear hn
    go_enter Tryd.func5, Tryd.ntmps5
    go_wp2_with fail
    refine (Digits_any [n] _ _ _ (by simp) (by simp) (new_row encI w [n] _ _ rfl) (by intro x hx; simp at hx; subst hx; exact HN.out) (HP.out.below (below_new (Below.refl _ _) _))).mono ?_
    rintro e w1 ⟨rfl, hb⟩
    have HB1 := Lib.hid (below_from (below_new (Below.refl _ _) _) hb)
    clear hb
    rw [digsJ_one]
    go_wp2_with fail
    have hD := Read_any (str (digN n)) w1 (by rw [size_str]; exact Nat.le_trans (digN_length n) (by decide)) (HE.out.below HB1.out)
    rw [str_list] at hD
    refine hD.mono ?_
    clear hD
    rintro e w2 ⟨rfl, hb⟩
    have HB2 := Lib.hid (below_from HB1.out hb)
    clear hb HB1
    obtain ⟨r, hr⟩ : ∃ r, readN (digN n) = r := ⟨_, rfl⟩
    obtain ⟨x, e⟩ := r
    rw [hr]
    have HR := Lib.hid hr
    clear hr
    simp only
    go_wp2_with fail
    refine (Read_any s w2 (by omega) (HE.out.below HB2.out)).mono ?_
    rintro e2 w3 ⟨rfl, hb⟩
    have HB3 := Lib.hid (below_from HB2.out hb)
    clear hb HB2
    have hq := readN_range s.data.toList
    have hq2 := @digN_read s.data.toList
    generalize readN s.data.toList = q at *
    obtain ⟨y, f⟩ := q
    have HQ := Lib.hid hq
    have HQ2 := Lib.hid hq2
    clear hq hq2
    simp only at HQ HQ2 ⊢
    by_cases ho : n < 0 ∨ 1000000 < n
    · have hr := HR.out
      rw [readN_out ho] at hr
      obtain ⟨rfl, rfl⟩ := Prod.mk.inj hr
      clear hr HR
      have ho2 : n < 0 ∨ (¬ n < 0 ∧ 1000000 < n) := by omega
      clear ho
      rcases ho2 with h1 | ⟨h1, h2⟩
      all_goals
        first | have g1 : decide (n < 0) = true := (by simp; omega) | have g1 : decide (n < 0) = false := (by simp; omega)
        first | have g2 : decide (n > 1000000) = true := (by simp; omega) | skip
        go_wp2_with fail
        refine (awake1_any w3).mono ?_
        rintro e w4 ⟨rfl, hb⟩
        have hb4 := below_from HB3.out hb
        clear hb
        go_wp2_with fail
        go_ret
        exact ⟨rfl, hb4⟩
    · obtain ⟨u, rfl⟩ : ∃ u : Nat, n = (u : Int) := ⟨n.toNat, by omega⟩
      have hr := HR.out
      rw [readN_dig (by omega)] at hr
      obtain ⟨rfl, rfl⟩ := Prod.mk.inj hr
      clear hr HR
      have g1 : decide ((u : Int) < 0) = false := decide_eq_false (by omega)
      have g2 : decide ((u : Int) > 1000000) = false := by simp; omega
      clear ho
      by_cases hf : f = 0
      · subst hf
        have hl := HQ2.out rfl
        have hs : str (digN y) = s := by rw [hl]
        clear hl HQ2
        go_wp2_with fail
        refine (Digits_any [y] _ _ _ (by simp) (by simp) (new_row encI w3 [y] _ _ rfl) (by intro x hx; simp at hx; subst hx; exact HQ.out) (HP.out.below (below_new HB3.out _))).mono ?_
        rintro e w4 ⟨rfl, hb⟩
        have HB4 := Lib.hid (below_from (below_new HB3.out _) hb)
        clear hb HB3
        rw [digsJ_one, hs]
        clear hs
        go_wp2_with fail
        refine (awake1_any w4).mono ?_
        rintro e w5 ⟨rfl, hb⟩
        have hb5 := below_from HB4.out hb
        clear hb
        go_wp2_with fail
        go_ret
        exact ⟨rfl, hb5⟩
      · have g3 : (f == 0) = false := by simp [hf]
        go_wp2_with fail
        refine (awake1_any w3).mono ?_
        rintro e w4 ⟨rfl, hb⟩
        have hb4 := below_from HB3.out hb
        clear hb
        go_wp2_with fail
        go_ret
        exact ⟨rfl, hb4⟩
  · have g : decide ((s.size : Int) > 200) = true := by simp; omega
    go_enter Tryd.func5, Tryd.ntmps5
    go_wp2_with fail
    refine (awake1_any w).mono ?_
    rintro e w1 ⟨rfl, hb1⟩
    go_wp2_with fail
    go_ret
    exact ⟨rfl, hb1⟩
namespace lawNumBack
open Go.ChangeShapes Go.WideShapes Go.ChangeAt
open Go.ChangeMaps (open_string)
set_option maxRecDepth 100000 in
theorem contract (H : Type) (enc : TypeId × Value → H) (W : World) (base : Nat) (args : Array Value) (ds gs : List (DataW H)) (before : List MemPlace)
    (hval : ∀ (j : Nat) t v, Tryd.f5.params[j]? = some t → args[j]? = some v → Value.okWide Tryd.prog W .any base t v)
    (hW : DataW.Whole enc Tryd.prog Tryd.f5.params.toList Rows.numBackSpec.vars false W args.toList ds gs before) (hL : laidMetH Tryd.prog Rows.numBackRow.laid W) :
    Calls Tryd.prog 5 args W fun e W' => ∃ v, e = .returned v ∧ Rows.numBackSpec.post enc Tryd.prog Tryd.f5 false true false false W args v W' := by
  have hW' := hW
  obtain ⟨p, q, hA0, hV, rfl, hfz, hnd⟩ := hW
  have hA : DataW.TrodAll enc Tryd.prog W 0 (fun _ => true) true Tryd.f5.params.toList args.toList ds p := hA0
  rw [Tryd.params5] at hA hval
  obtain ⟨v0, vs0, d0, ds0, p0, q0, hargs, rfl, rfl, h0, r0⟩ := trodAll_cons hA
  obtain ⟨v1, vs1, d1, ds1, p1, q1, rfl, rfl, rfl, h1, r1⟩ := trodAll_cons r0
  obtain ⟨rfl, rfl, rfl⟩ := trodAll_nil r1
  obtain rfl : args = #[v0, v1] := by cases args; simp_all
  obtain ⟨rfl, rfl⟩ := trodVars_none hV
  obtain ⟨n, rfl, rfl, rfl, hw0⟩ := open_int Tryd.underlying3 (hval 0 3 v0 rfl rfl) h0
  obtain ⟨s, rfl, rfl, rfl, hs1⟩ := open_string Tryd.underlying9 (hval 1 9 v1 rfl rfl) h1
  have HT : PowOk W ∧ ErrOk W := err_of_laid hL
  refine (numBack_walk n (by simpa [Lit.wf, IntKind.min, IntKind.max, IntKind.signed, IntKind.bits] using hw0) s W HT).mono fun e W' ⟨he, hb⟩ => ?_
  subst he
  exact ⟨_, rfl, post_true Tryd.laidOut (by rw [Tryd.params5]; intro t ht; simp at ht; rcases ht with rfl | rfl <;> exact ⟨by kernel_rfl, of_decide_eq_true (by kernel_rfl)⟩) hW' rfl rfl rfl Tryd.underlying4 hb⟩
theorem laid_met (os : Os) : laidMet Tryd.prog Rows.numBackRow.laid ((errWorld os).forCall (fun _ _ => 0) ⟨#[], #[.int .i64 0, .string ByteArray.empty], []⟩).memory :=
  laidMet_of_run' 70 (by kernel_rfl) (by kernel_rfl)
theorem reads (os : Os) {H : Type} (enc : TypeId × Value → H) : ∃ places, DataW.whole enc Tryd.prog ((errWorld os).forCall (fun _ _ => 0) ⟨#[], #[.int .i64 0, .string ByteArray.empty], []⟩).memory Tryd.f5.params.toList Rows.numBackSpec.vars false (#[.int .i64 0, .string ByteArray.empty] : Array Value).toList 8 = some ([.lit (.int .i64 0), .lit (.string [])], [], places) :=
  ⟨[], by kernel_rfl⟩
set_option maxRecDepth 100000 in
theorem lifted (os : Os) (started : os.Started) (H : Type) (enc : TypeId × Value → H) (F : Stop.Interp) :
    ReturnsInHanded {} Tryd.checked os 5 .any ((OpenSpec.ofChange Rows.numBackSpec).preRow enc Tryd.prog Tryd.f5 Rows.numBackRow.domain false Rows.numBackRow.laid) (((OpenSpec.ofChange Rows.numBackSpec).at F).post enc Tryd.prog Tryd.f5 false true false false) := by
  obtain ⟨places, hx⟩ := reads os enc
  refine returnsInHanded_of_row (C := Tryd.checked) (s := OpenSpec.ofChange Rows.numBackSpec) Tryd.own started (by kernel_rfl) Tryd.func5
    (witness_row_at (enc := enc) (C := Tryd.checked) false (errWorld os) #[.int .i64 0, .string ByteArray.empty] rfl (by kernel_rfl) (by kernel_rfl) (by kernel_rfl)
      (OpenSpec.preRow_of_cond 8 hx (by kernel_rfl) (fun k hk => by cases hk) (by kernel_rfl) (laid_met os))) ?_
  intro W base args ds gs before hval hW _ _ _ hL _ _
  exact contract H enc W base args ds gs before hval hW hL
theorem said : Rows.NumBackSaid :=
  OpenClaim.holds_of_cond 5 Tryd.f5 rfl rfl rfl rfl rfl rfl rfl ⟨rfl, rfl, rfl, rfl, rfl⟩ rfl rfl rfl rfl rfl (by kernel_rfl) Tryd.func5 (by kernel_rfl)
    (of_decide_eq_true (by kernel_rfl)) (by unfold Func.isWrapper; first | (rw [if_pos (by decide +kernel)]; kernel_rfl) | (rw [if_neg (by decide +kernel)]; exact ⟨rfl, rfl⟩))
    (fun os started H enc _ F => by rw [OpenClaim.pre_eq_preRow]; exact lifted os started H enc F)
theorem plain (f : FuncId) (fn : Func) (hf : Tryd.pinned.checked.prog.funcNamed "quill/quilllaw01.NumBack" = some f) (hfn : Tryd.pinned.checked.prog.funcs[f]? = some fn) :
    true = Tryd.pinned.checked.prog.looks [] ∧ ∀ (j : Nat) t, fn.params[j]? = some t → Tryd.pinned.checked.prog.wantsStandIn t = false := by
  obtain rfl : f = 5 := Option.some.inj ((show Tryd.prog.funcNamed "quill/quilllaw01.NumBack" = some 5 by kernel_rfl).symm.trans hf) |>.symm
  obtain rfl : fn = Tryd.f5 := (Option.some.inj (Tryd.func5.symm.trans hfn)).symm
  refine ⟨by kernel_rfl, fun j t ht => ?_⟩
  rw [Tryd.params5] at ht
  have hm := Array.mem_of_getElem? ht
  simp at hm
  rcases hm with rfl | rfl
  · exact (show Tryd.prog.wantsStandIn 3 = false by kernel_rfl)
  · exact (show Tryd.prog.wantsStandIn 9 = false by kernel_rfl)
theorem proved : Rows.NumBackCardSaid :=
  Claim7.holds_tied_plain_at .later [] _ _ _ _ said (fun _ h => by cases h) (by kernel_rfl) (fun _ h => by cases h) numBack_row_tie rfl ⟨rfl, rfl⟩ (by kernel_rfl) rfl plain (by kernel_rfl)
end lawNumBack
end Go.Proofs.YthbcofbdgljfbaaDoor
