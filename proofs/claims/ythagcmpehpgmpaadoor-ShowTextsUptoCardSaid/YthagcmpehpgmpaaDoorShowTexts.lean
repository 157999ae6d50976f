/- The texts of any expressions, and whether they have some, are the document's. For every input that is not too large. -/
import Derived.Test.YthagcmpehpgmpaaDoorShow9
import Derived.Test.YthagcmpehpgmpaaDoorShowPm
import Derived.Test.YthagcmpehpgmpaaDoorOpenRe
import Derived.Test.YthagcmpehpgmpaaDoorDoor
namespace Go.Proofs.YthagcmpehpgmpaaDoor
open Go.RowKit
set_option linter.unusedVariables false
set_option linter.unusedSimpArgs false

/-- a text that may be -/
def okText (t : Re) : Bool := !(textT t == []) && decide ((textT t).length ≤ 65536)
theorem text_may (t : Re) : (!(textT t == [])) = mayB t := by
  cases h : mayB t with
  | false => rw [textT_no h]; rfl
  | true =>
    rw [textT_yes h]
    have ho : okT t = true := by
      unfold mayB at h
      simp only [Bool.and_eq_true] at h
      exact h.1
    obtain ⟨c, r, e, _⟩ := all_head ho
    rw [e]
    rfl
theorem fits_all (ts : List Re) : fitsB ts = ts.all okText := by
  unfold fitsB
  induction ts with
  | nil => rfl
  | cons t ts ih =>
    simp only [List.all_cons, List.any_cons, ← ih, okText, text_may, longT]
    have e : decide ((textT t).length ≤ 65536) = !decide (65536 < (textT t).length) := by
      rw [Bool.eq_iff_iff]; simp
    rw [e]
    cases mayB t <;> cases decide (65536 < (textT t).length) <;> cases ts.all mayB <;> cases ts.any (fun t => decide (65536 < (textT t).length)) <;> rfl
theorem okTexts_take {ts : List Re} {k : Nat} {t : Re} (h : ts[k]? = some t) : (ts.take (k + 1)).all okText = ((ts.take k).all okText && okText t) := by
  rw [List.take_add_one, h, List.all_append]
  simp
theorem great_all {m : Nat} {ts : List Re} (h : greatAllB m ts = false) : ts.length ≤ 20 ∧ ∀ t ∈ ts, t.size ≤ m := by
  unfold greatAllB at h
  rw [Bool.or_eq_false_iff] at h
  obtain ⟨h1, h2⟩ := h
  refine ⟨by simpa using h1, fun t ht => ?_⟩
  have := List.any_eq_false.1 h2 t ht
  unfold greatB at this
  simp only [decide_eq_true_eq] at this
  omega
theorem sizes_most {m : Nat} : ∀ {ts : List Re}, (∀ t ∈ ts, t.size ≤ m) → T.sizes ts ≤ ts.length * m
  | [], _ => by simp [T.sizes]
  | t :: ts, h => by
    have h1 := h t (List.mem_cons_self ..)
    have h2 := sizes_most (m := m) (ts := ts) fun x hx => h x (List.mem_cons_of_mem _ hx)
    simp only [T.sizes, List.length_cons, Nat.add_mul, Nat.one_mul]
    omega

set_option maxRecDepth 100000 in
set_option maxHeartbeats 8000000 in
theorem showTexts_walk (ts : List Re) (A : Option Addr) (c : Nat) (w : World) (hm : T.sizes ts ≤ 1048576) (hc : ts.length ≤ c) (hr : InRow RE (fun _ => True) w ts A 0) (ht : TzOk w) :
    Calls Tryd.prog 11 #[.slice A ts.length c] w fun e w' => e = .returned (.bool true) ∧ Below w.heap.size w w' := by
  have HT := Lib.hid ht
  have HR := Lib.hid hr
  have HG := Lib.hid (GreatAll_any ts A c 200 w (by omega) hr)
  have CA : Hid (∀ X, Below w.heap.size w X → Calls Tryd.prog 38 #[] X fun e w' => e = .returned (.bool true) ∧ Below X.heap.size X w') := fun X hX => awake5_any X (HT.out.below hX)
  clear ht hr
  rcases hg : greatAllB 200 ts with _ | _
  · rw [hg] at HG
    obtain ⟨g1, g2⟩ := great_all (m := 200) hg
    have hs : T.sizes ts ≤ 4000 := Nat.le_trans (sizes_most g2) (by omega)
    have CL : Hid (∀ X, Below w.heap.size w X → Calls Tryd.prog 47 #[.slice A ts.length c] X fun e w' => e = .returned (.string (str (linesL ts))) ∧ Below X.heap.size X w') := fun X hX => lines_any ts A c X (by omega) (HR.out.below hX) (HT.out.below hX)
    have CF : Hid (∀ X, Below w.heap.size w X → Calls Tryd.prog 48 #[.slice A ts.length c] X fun e w' => e = .returned (.bool (ts.all okText)) ∧ Below X.heap.size X w') := fun X hX => by
      have := fits_any ts A c X (by omega) (HR.out.below hX) (HT.out.below hX)
      rwa [fits_all] at this
    clear hg g2 hm
    go_enter Tryd.func11, Tryd.ntmps11
    go_wp2_with fail
    refine HG.out.mono ?_
    rintro e w0 ⟨rfl, hb0⟩
    have HB0 := Lib.hid hb0
    have L0 : Hid (linesL (ts.take 0) = []) := rfl
    have O0 : Hid ((ts.take 0).all okText = true) := rfl
    clear hb0 HG
    go_wp2_with fail
    go_loopw [3, 4, 5, 6] (fun a f i _ wr => ∃ (k : Nat), k ≤ ts.length ∧ a = .string (str (linesL (ts.take k))) ∧ f = .bool ((ts.take k).all okText) ∧ i = .int .i64 (k : Nat) ∧ Hid (Below w.heap.size w wr)) (fun _ _ i _ _ => ts.length - (intOf i).toNat)
    case atStart => exact ⟨0, Nat.zero_le _, by rw [L0.out], by rw [O0.out], rfl, HB0⟩
    case round =>
      clear HB0 L0 O0
      obtain ⟨k, hk, rfl, rfl, rfl, HB⟩ := hrel
      by_cases hlt : k < ts.length
      · obtain ⟨t, ad, h1, ls, A1, c1, hA, hx, rfl, hc1, hr1, q0, q1, q2, q3, q4, q5⟩ := re_at (HR.out.below HB.out) hlt
        subst hA
        have HL := Lib.hid (lines_take hx)
        have HO := Lib.hid (okTexts_take hx)
        have hs1 := T.sizes_mem (List.mem_of_getElem? hx)
        simp only [T.size] at hs1
        have ql := Nat.le_trans (lines_length (ts.take k)) (Nat.mul_le_mul_left 2001 (sizes_take ts k))
        have qt := textT_length (.mk h1 ls)
        simp only [T.size] at qt
        have HR1 := Lib.hid hr1
        have X1 := Lib.hid (refTextT_any h1 ls A1 c1 wr (by omega) hc1 hr1)
        have X2 : Hid (∀ X, Below wr.heap.size wr X → Calls Tryd.prog 39 #[reV h1 A1 ls.length c1] X fun e w' => e = .returned (.string (str (textT (.mk h1 ls)))) ∧ Below X.heap.size X w') := fun X hX => showText_any h1 ls A1 c1 X (by omega) hc1 (HR1.out.below hX) (HT.out.below (below_from HB.out hX))
        have QC : Hid (∀ X, Below wr.heap.size wr X → X.cell? (ad.add (k * 6)) = some (.int .u8 (h1.k.toNat : Int)) ∧ X.cell? ⟨(ad.add (k * 6)).block, (ad.add (k * 6)).off + 1, none⟩ = some (.int .u64 (h1.s.a.toNat : Int)) ∧ X.cell? ⟨(ad.add (k * 6)).block, (ad.add (k * 6)).off + 2, none⟩ = some (.int .u64 (h1.s.b.toNat : Int)) ∧
            X.cell? ⟨(ad.add (k * 6)).block, (ad.add (k * 6)).off + 3, none⟩ = some (.int .u64 (h1.s.c.toNat : Int)) ∧ X.cell? ⟨(ad.add (k * 6)).block, (ad.add (k * 6)).off + 4, none⟩ = some (.int .u64 (h1.s.d.toNat : Int)) ∧ X.cell? ⟨(ad.add (k * 6)).block, (ad.add (k * 6)).off + 5, none⟩ = some (.slice A1 ls.length c1)) :=
          fun X hX => ⟨keep_cell hX q0, keep_cell hX q1, keep_cell hX q2, keep_cell hX q3, keep_cell hX q4, keep_cell hX q5⟩
        have hok : okText (.mk h1 ls) = (!(textT (.mk h1 ls) == []) && decide ((textT (.mk h1 ls)).length ≤ 65536)) := rfl
        rw [hok] at HO
        generalize linesL (ts.take k) = ln at *
        generalize textT (.mk h1 ls) = tx at *
        generalize (ts.take k).all okText = ff at *
        have hc1' := run_cat (P := Tryd.prog) tx [10] (by simp; omega)
        have hc2' := run_cat (P := Tryd.prog) ln (tx ++ [10]) (by simp; omega)
        clear hx hr1 HR1 hok
        go_wp2_with fail
        refine X1.out.mono ?_
        rintro e w1 ⟨rfl, hb1⟩
        clear q0 q1 q2 q3 q4 q5
        obtain ⟨q0, q1, q2, q3, q4, q5⟩ := QC.out _ hb1
        have HX1 := Lib.hid hb1
        clear hb1 X1
        go_wp2_with fail
        refine (X2.out _ HX1.out).mono ?_
        rintro e w2 ⟨rfl, hb2⟩
        have HB2 := Lib.hid (below_from (below_from HB.out HX1.out) hb2)
        clear hb2 X2 QC q0 q1 q2 q3 q4 q5 HX1
        cases ff with
        | false =>
          go_wp2_with fail
          go_roundw
          case rel => exact ⟨k + 1, by omega, by rw [HL.out], by rw [HO.out]; rfl, by go_num, HB2⟩
          case measure => simp [intOf]; omega
        | true =>
          rcases tx with _ | ⟨x, tx⟩
          · clear hc1' hc2'
            have hc2' := run_cat (P := Tryd.prog) ln [10] (by simp; omega)
            go_wp2_with fail
            go_roundw
            case rel => exact ⟨k + 1, by omega, by rw [HL.out]; rfl, by rw [HO.out]; rfl, by go_num, HB2⟩
            case measure => simp [intOf]; omega
          · clear hc1' hc2'
            simp only [List.length_cons] at qt
            have hc1' := run_cat (P := Tryd.prog) (x :: tx) [10] (by simp; omega)
            have hc2' := run_cat (P := Tryd.prog) ln (x :: (tx ++ [10])) (by simp; omega)
            go_wp2_with fail
            go_roundw
            case rel => exact ⟨k + 1, by omega, by rw [HL.out]; rfl, by rw [HO.out]; simp [str_size]; omega, by go_num, HB2⟩
            case measure => simp [intOf]; omega
      · have hkn : k = ts.length := by omega
        subst hkn
        rw [List.take_length]
        generalize linesL ts = ln at *
        generalize ts.all okText = ff at *
        go_wp2_with fail
        refine (CL.out _ HB.out).mono ?_
        rintro e w1 ⟨rfl, hb1⟩
        have HB1 := Lib.hid (below_from HB.out hb1)
        clear hb1
        go_wp2_with fail
        refine (CF.out _ HB1.out).mono ?_
        rintro e w2 ⟨rfl, hb2⟩
        have HB2 := Lib.hid (below_from HB1.out hb2)
        clear hb2
        go_wp2_with fail
        refine (CA.out _ HB2.out).mono ?_
        rintro e w3 ⟨rfl, hb3⟩
        have hb := below_from HB2.out hb3
        go_wp2_with fail
        go_ret
        exact ⟨rfl, hb⟩
  · rw [hg] at HG
    clear hg
    go_enter Tryd.func11, Tryd.ntmps11
    go_wp2_with fail
    refine HG.out.mono ?_
    rintro e w1 ⟨rfl, hb1⟩
    have HB1 := Lib.hid hb1
    clear hb1
    go_wp2_with fail
    refine (CA.out _ HB1.out).mono ?_
    rintro e w2 ⟨rfl, hb2⟩
    have hb := below_from HB1.out hb2
    go_wp2_with fail
    go_ret
    exact ⟨rfl, hb⟩
namespace lawShowTexts
open Go.ChangeShapes Go.WideShapes Go.ChangeAt
open Go.ChangeMaps (open_string)
set_option maxRecDepth 100000 in
theorem contract (H : Type) (enc : TypeId × Value → H) (W : World) (base : Nat) (args : Array Value) (ds gs : List (DataW H)) (before : List MemPlace)
    (hval : ∀ (j : Nat) t v, Tryd.f11.params[j]? = some t → args[j]? = some v → Value.okWide Tryd.prog W .any base t v)
    (hW : DataW.Whole enc Tryd.prog Tryd.f11.params.toList Rows.showTextsSpec.vars false W args.toList ds gs before) (hL : laidMetH Tryd.prog Rows.showTextsUptoRow.laid W) (hk : Rows.uptoSmall H (ds ++ gs) = true) :
    Calls Tryd.prog 11 args W fun e W' => ∃ v, e = .returned v ∧ Rows.showTextsSpec.post enc Tryd.prog Tryd.f11 false true false false W args v W' := by
  have hW' := hW
  obtain ⟨p, q, hA0, hV, rfl, hfz, hnd⟩ := hW
  have hA : DataW.TrodAll enc Tryd.prog W 0 (fun _ => true) true Tryd.f11.params.toList args.toList ds p := hA0
  rw [Tryd.params11] at hA hval
  obtain ⟨v0, vs0, d0, ds0, p0, q0, hargs, rfl, rfl, h0, r0⟩ := trodAll_cons hA
  obtain ⟨rfl, rfl, rfl⟩ := trodAll_nil r0
  obtain rfl : args = #[v0] := by cases args; simp_all
  obtain ⟨rfl, rfl⟩ := trodVars_none hV
  have hkk : Rows.uptoBulk d0 ≤ 1048576 := by simp [Rows.uptoSmall, Rows.uptoBulkAll] at hk; omega
  obtain ⟨l, A0, c0, rfl, hc0, hr0, hz0⟩ := open_res (hval 0 45 v0 rfl rfl) h0
  have HT : TzOk W := tz_of_laid hL
  refine (showTexts_walk l A0 c0 W (by omega) hc0 hr0 HT).mono fun e W' ⟨he, hb⟩ => ?_
  subst he
  exact ⟨_, rfl, post_true Tryd.laidOut (by rw [Tryd.params11]; intro t ht; simp at ht; rcases ht with rfl <;> exact ⟨by kernel_rfl, of_decide_eq_true (by kernel_rfl)⟩) hW' rfl rfl rfl Tryd.underlying4 hb⟩
theorem laid_met (os : Os) : laidMet Tryd.prog Rows.showTextsUptoRow.laid ((tzWorld os).forCall (fun _ _ => 0) ⟨#[], #[.slice none 0 0], []⟩).memory :=
  laidMet_of_run' 70 (by kernel_rfl) (by kernel_rfl)
theorem reads (os : Os) {H : Type} (enc : TypeId × Value → H) : ∃ places, DataW.whole enc Tryd.prog ((tzWorld os).forCall (fun _ _ => 0) ⟨#[], #[.slice none 0 0], []⟩).memory Tryd.f11.params.toList Rows.showTextsSpec.vars false (#[.slice none 0 0] : Array Value).toList 8 = some ([.nil], [], places) :=
  ⟨[], by kernel_rfl⟩
set_option maxRecDepth 100000 in
theorem lifted (os : Os) (started : os.Started) (H : Type) (enc : TypeId × Value → H) (F : Stop.Interp) :
    ReturnsInHanded {} Tryd.checked os 11 .any ((Rows.OpenSpec.upto Rows.showTextsSpec).preRow enc Tryd.prog Tryd.f11 Rows.showTextsUptoRow.domain false Rows.showTextsUptoRow.laid) (((Rows.OpenSpec.upto Rows.showTextsSpec).at F).post enc Tryd.prog Tryd.f11 false true false false) := by
  obtain ⟨places, hx⟩ := reads os enc
  refine returnsInHanded_of_row (C := Tryd.checked) (s := Rows.OpenSpec.upto Rows.showTextsSpec) Tryd.own started (by kernel_rfl) Tryd.func11
    (witness_row_at (enc := enc) (C := Tryd.checked) false (tzWorld os) #[.slice none 0 0] rfl (by kernel_rfl) (by kernel_rfl) (by kernel_rfl)
      (OpenSpec.preRow_of_cond 8 hx (by kernel_rfl) (fun k hk => by cases hk; kernel_rfl) (by kernel_rfl) (laid_met os))) ?_
  intro W base args ds gs before hval hW _ hcond _ hL _ _
  exact contract H enc W base args ds gs before hval hW hL (hcond _ rfl)
theorem said : Rows.ShowTextsUptoSaid :=
  OpenClaim.holds_of_cond 11 Tryd.f11 rfl rfl rfl rfl rfl rfl rfl ⟨rfl, rfl, rfl, rfl, rfl⟩ rfl rfl rfl rfl rfl (by kernel_rfl) Tryd.func11 (by kernel_rfl)
    (of_decide_eq_true (by kernel_rfl)) (by unfold Func.isWrapper; first | (rw [if_pos (by decide +kernel)]; kernel_rfl) | (rw [if_neg (by decide +kernel)]; exact ⟨rfl, rfl⟩))
    (fun os started H enc _ F => by rw [OpenClaim.pre_eq_preRow]; exact lifted os started H enc F)
theorem plain (f : FuncId) (fn : Func) (hf : Tryd.pinned.checked.prog.funcNamed "quill/quilllaw05.ShowTexts" = some f) (hfn : Tryd.pinned.checked.prog.funcs[f]? = some fn) :
    true = Tryd.pinned.checked.prog.looks [] ∧ ∀ (j : Nat) t, fn.params[j]? = some t → Tryd.pinned.checked.prog.wantsStandIn t = false := by
  obtain rfl : f = 11 := Option.some.inj ((show Tryd.prog.funcNamed "quill/quilllaw05.ShowTexts" = some 11 by kernel_rfl).symm.trans hf) |>.symm
  obtain rfl : fn = Tryd.f11 := (Option.some.inj (Tryd.func11.symm.trans hfn)).symm
  refine ⟨by kernel_rfl, fun j t ht => ?_⟩
  rw [Tryd.params11] at ht
  have hm := Array.mem_of_getElem? ht
  simp at hm
  rcases hm with rfl
  · exact (show Tryd.prog.wantsStandIn 45 = false by kernel_rfl)
theorem proved : Rows.ShowTextsUptoCardSaid :=
  Claim7.holds_tied_plain_at .later [] _ _ _ _ said (fun _ h => by cases h) (by kernel_rfl) (fun _ h => by cases h) showTextsUpto_row_tie rfl ⟨rfl, rfl⟩ (by kernel_rfl) rfl plain (by kernel_rfl)
end lawShowTexts
end Go.Proofs.YthagcmpehpgmpaaDoor
