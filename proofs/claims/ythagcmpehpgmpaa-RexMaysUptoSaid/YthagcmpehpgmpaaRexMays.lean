/- Whether any expressions may be, and how many nodes they have, is the document's. -/
import Derived.Test.YthagcmpehpgmpaaAwake3
import Derived.Test.YthagcmpehpgmpaaRexE
import Derived.Test.YthagcmpehpgmpaaRexC
import Derived.Test.YthagcmpehpgmpaaOpenRe
import Derived.WalkKit
import Derived.OpenShut
import Derived.JoinedCond
namespace Go.Proofs.Ythagcmpehpgmpaa
open Go.RowKit
set_option linter.unusedVariables false
set_option linter.unusedSimpArgs false

theorem T.sizes_take {α : Type} {ts : List (T α)} {k : Nat} {t : T α} (h : ts[k]? = some t) : T.sizes (ts.take (k + 1)) = T.sizes (ts.take k) + t.size := by
  rw [List.take_add_one, h, T.sizes_append]
  simp [T.sizes]
theorem all_take {α : Type} {ts : List α} {k : Nat} {t : α} (p : α → Bool) (h : ts[k]? = some t) : (ts.take (k + 1)).all p = ((ts.take k).all p && p t) := by
  rw [List.take_add_one, h, List.all_append]
  simp

set_option maxHeartbeats 4000000 in
theorem rexMays_walk (ts : List Re) (A : Option Addr) (c : Nat) (w : World) (hm : T.sizes ts ≤ 1048576) (hr : InRow RE (fun _ => True) w ts A 0) :
    Calls Try.prog 5 #[.slice A ts.length c] w fun e w' => e = .returned (.bool true) ∧ Below w.heap.size w w' := by
  have hl := T.length_le_sizes ts
  have hsz : ∀ t ∈ ts, t.size ≤ 1048576 := fun t ht => by have := T.sizes_mem ht; omega
  have HS := Lib.hid hsz
  clear hsz
  go_enter Try.func5, Try.ntmps5
  go_wp2_with fail
  refine (GreatAll_any ts A c 200 w (by omega) hr).mono ?_
  rintro e w1 ⟨rfl, hb1⟩
  cases greatAllB 200 ts with
  | true =>
    go_wp2_with fail
    refine (awake3_any w1).mono ?_
    rintro e w2 ⟨rfl, hb2⟩
    have hb3 := below_from hb1 hb2
    clear hb1 hb2
    go_wp2_with fail
    go_ret
    exact ⟨rfl, hb3⟩
  | false =>
    go_wp2_with fail
    go_loopw [3, 4, 5] (fun b n i wr => ∃ (k : Nat), k ≤ ts.length ∧ i = .int .i64 k ∧ b = .bool ((ts.take k).all mayB) ∧ n = .int .i64 (T.sizes (ts.take k) : Nat) ∧ Below w.heap.size w wr) (fun _ _ i _ => ts.length - (intOf i).toNat)
    case atStart => exact ⟨0, Nat.zero_le _, rfl, rfl, rfl, hb1⟩
    case round =>
      clear hb1
      obtain ⟨k, hk, rfl, rfl, rfl, hb⟩ := hrel
      by_cases hlt : k < ts.length
      · obtain ⟨t, ad, h1, ls, A1, c1, hA, hx, rfl, hc1, hr1, q0, q1, q2, q3, q4, q5⟩ := re_at (hr.below hb) hlt
        subst hA
        have hs1 := HS.out _ (List.mem_of_getElem? hx)
        have HA := Lib.hid (all_take mayB hx)
        have HN := Lib.hid (T.sizes_take hx)
        have hle : Hid (T.sizes (ts.take k) + (T.mk h1 ls).size ≤ 1048576) := by
          unfold Hid
          rw [← T.sizes_take hx]
          refine Nat.le_trans ?_ hm
          conv => rhs; rw [← List.take_append_drop (k + 1) ts, T.sizes_append]
          omega
        clear hx
        simp only [T.size] at hs1
        generalize (ts.take k).all mayB = b at *
        generalize T.sizes (ts.take k) = n at *
        cases b with
        | false =>
          go_wp2_with fail
          refine (All_upto 1048576 (fun b => True ∧ b < wr.heap.size) h1 ls A1 c1 _ hs1 (by decide) hc1 hr1.there (fun b hb => hb.2)).mono ?_
          rintro e w2 ⟨v, rfl, ho2, hb2⟩
          have hb3 := below_from hb hb2
          obtain ⟨A2, c2, rfl, hc2, _⟩ := ho2.row
          have hAL : ((T.mk h1 ls).all.length : Int) = ((T.mk h1 ls).size : Int) := by rw [T.all_length]
          have hAL2 : (T.mk h1 ls).all.length ≤ 1048576 := by rw [T.all_length]; simp only [T.size]; omega
          generalize (T.mk h1 ls).all.length = m at *
          generalize (T.mk h1 ls).size = m' at *
          have hmm : m = m' := by omega
          subst hmm
          have hle2 := hle.out
          clear ho2 hb2 hAL hr1 q0 q1 q2 q3 q4 q5 hle
          go_wp2_with fail
          go_roundw
          case rel => exact ⟨k + 1, by omega, by go_num, by rw [HA.out]; rfl, by rw [HN.out]; go_num, hb3⟩
          case measure => simp [intOf]; omega
        | true =>
          go_wp2_with fail
          refine (refMay_any h1 ls A1 c1 wr (by omega) hc1 hr1).mono ?_
          rintro e w5 ⟨rfl, hb5⟩
          have q0 := keep_cell hb5 q0
          have q1 := keep_cell hb5 q1
          have q2 := keep_cell hb5 q2
          have q3 := keep_cell hb5 q3
          have q4 := keep_cell hb5 q4
          have q5 := keep_cell hb5 q5
          have hr1 := hr1.below hb5
          have hb := below_from hb hb5
          clear hb5
          go_wp2_with fail
          refine (All_upto 1048576 (fun b => True ∧ b < w5.heap.size) h1 ls A1 c1 _ hs1 (by decide) hc1 hr1.there (fun b hb => hb.2)).mono ?_
          rintro e w2 ⟨v, rfl, ho2, hb2⟩
          have hb3 := below_from hb hb2
          obtain ⟨A2, c2, rfl, hc2, _⟩ := ho2.row
          have hAL : ((T.mk h1 ls).all.length : Int) = ((T.mk h1 ls).size : Int) := by rw [T.all_length]
          have hAL2 : (T.mk h1 ls).all.length ≤ 1048576 := by rw [T.all_length]; simp only [T.size]; omega
          generalize (T.mk h1 ls).all.length = m at *
          generalize (T.mk h1 ls).size = m' at *
          have hmm : m = m' := by omega
          subst hmm
          have hle2 := hle.out
          clear ho2 hb2 hAL hr1 q0 q1 q2 q3 q4 q5 hle
          go_wp2_with fail
          go_roundw
          case rel => exact ⟨k + 1, by omega, by go_num, by rw [HA.out]; rfl, by rw [HN.out]; go_num, hb3⟩
          case measure => simp [intOf]; omega
      · have hkk : k = ts.length := by omega
        subst hkk
        have hT : ts.take ts.length = ts := List.take_length
        rw [hT]
        clear hT hlt hk
        have hM := May_any ts A c wr (by omega) (hr.below hb)
        have hS := fun w' (hb' : Below wr.heap.size wr w') => Size_upto 1048576 _ ts A c w' hm (by decide) ((hr.below hb).below hb')
        clear hr
        generalize ts.all mayB = b at *
        generalize T.sizes ts = n at *
        go_wp2_with fail
        refine hM.mono ?_
        rintro e w2 ⟨rfl, hb2⟩
        have hb3 := below_from hb hb2
        have hS2 := hS w2 hb2
        clear hS hM hb hb2
        have hbb : (b == b) = true := by simp
        go_wp2_with fail
        refine hS2.mono ?_
        rintro e w4 ⟨rfl, hb4⟩
        have hb5 := below_from hb3 hb4
        clear hS2 hb3 hb4
        go_wp2_with fail
        refine (awake3_any w4).mono ?_
        rintro e w6 ⟨rfl, hb6⟩
        have hb7 := below_from hb5 hb6
        clear hb5 hb6
        go_wp2_with fail
        go_ret
        exact ⟨by simp, hb7⟩
namespace lawRexMays
open Go.ChangeShapes Go.WideShapes Go.ChangeAt
open Go.ChangeMaps (open_string)
theorem contract (H : Type) (enc : TypeId × Value → H) (W : World) (base : Nat) (args : Array Value) (ds gs : List (DataW H)) (before : List MemPlace)
    (hval : ∀ (j : Nat) t v, Try.f5.params[j]? = some t → args[j]? = some v → Value.okWide Try.prog W .any base t v)
    (hW : DataW.Whole enc Try.prog Try.f5.params.toList Rows.rexMaysSpec.vars false W args.toList ds gs before) (hk : Rows.uptoSmall H (ds ++ gs) = true) :
    Calls Try.prog 5 args W fun e W' => ∃ v, e = .returned v ∧ Rows.rexMaysSpec.post enc Try.prog Try.f5 false true false false W args v W' := by
  have hW' := hW
  obtain ⟨p, q, hA0, hV, rfl, hfz, hnd⟩ := hW
  have hA : DataW.TrodAll enc Try.prog W 0 (fun _ => true) true Try.f5.params.toList args.toList ds p := hA0
  rw [Try.params5] at hA hval
  obtain ⟨v0, vs0, d0, ds0, p0, q0, hargs, rfl, rfl, h0, r0⟩ := trodAll_cons hA
  obtain ⟨rfl, rfl, rfl⟩ := trodAll_nil r0
  obtain rfl : args = #[v0] := by cases args; simp_all
  obtain ⟨rfl, rfl⟩ := trodVars_none hV
  have hkk : Rows.uptoBulk d0 ≤ 1048576 := by simp [Rows.uptoSmall, Rows.uptoBulkAll] at hk; omega
  obtain ⟨ts, A0, c0, rfl, hc0, hr0, hz0⟩ := open_res (hval 0 36 v0 rfl rfl) h0
  refine (rexMays_walk ts A0 c0 W (by omega) hr0).mono fun e W' ⟨he, hb⟩ => ?_
  subst he
  exact ⟨_, rfl, post_true Try.laidOut (by rw [Try.params5]; intro t ht; simp at ht; rcases ht with rfl <;> exact ⟨by kernel_rfl, of_decide_eq_true (by kernel_rfl)⟩) hW' rfl rfl rfl Try.underlying4 hb⟩
set_option maxRecDepth 100000 in
theorem lifted (os : Os) (started : os.Started) (H : Type) (enc : TypeId × Value → H) (F : Stop.Interp) :
    ReturnsInHanded {} Try.checked os 5 .any ((Rows.OpenSpec.upto Rows.rexMaysSpec).pre6 enc Try.prog Try.f5 Rows.rexMaysUptoRow.domain false) (((Rows.OpenSpec.upto Rows.rexMaysSpec).at F).post enc Try.prog Try.f5 false true false false) := by
  refine returnsInHanded_of_cond (C := Try.checked) (s := Rows.OpenSpec.upto Rows.rexMaysSpec) (k := Rows.uptoSmall) rfl Try.own started (by kernel_rfl) Try.func5
    (OpenSpec.witness (enc := enc) (C := Try.checked) (s := Rows.OpenSpec.upto Rows.rexMaysSpec) (k := Rows.uptoSmall) rfl false ⟨#[], #[.slice none 0 0], []⟩ 8 (by kernel_rfl) (by kernel_rfl) (by kernel_rfl)
      (x := ([.nil], [], [])) (by kernel_rfl) rfl (by kernel_rfl)) ?_
  intro W base args ds gs before hval hW _ hk _
  exact contract H enc W base args ds gs before hval hW hk
theorem proved : Rows.RexMaysUptoSaid :=
  OpenClaim.holds_of_cond 5 Try.f5 rfl rfl rfl rfl rfl rfl rfl ⟨rfl, rfl, rfl, rfl, rfl⟩ rfl rfl rfl rfl rfl (by kernel_rfl) Try.func5 (by kernel_rfl)
    (of_decide_eq_true (by kernel_rfl)) (by unfold Func.isWrapper; first | (rw [if_pos (by decide +kernel)]; kernel_rfl) | (rw [if_neg (by decide +kernel)]; exact ⟨rfl, rfl⟩))
    (fun os started H enc _ F => lifted os started H enc F)
end lawRexMays
end Go.Proofs.Ythagcmpehpgmpaa
