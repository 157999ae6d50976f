/- Whether any coded expressions may be, how many nodes they have, and their texts, are the document's. For every input that is not too large. -/
import Derived.Test.YteoghoaggpbkpaaDoorAwake16m
import Derived.Test.YteoghoaggpbkpaaDoorCodEm
import Derived.Test.YteoghoaggpbkpaaDoorCodAm
import Derived.Test.YteoghoaggpbkpaaDoorOpenCom
namespace Go.Proofs.YteoghoaggpbkpaaDoor
open Go.RowKit
set_option linter.unusedVariables false
set_option linter.unusedSimpArgs false

theorem csizes_take {ts : List Co} {k : Nat} {t : Co} (h : ts[k]? = some t) : T.sizes (ts.take (k + 1)) = T.sizes (ts.take k) + t.size := by
  rw [List.take_add_one, h, T.sizes_append]
  simp [T.sizes]
theorem call_take {ts : List Co} {k : Nat} {t : Co} (p : Co → Bool) (h : ts[k]? = some t) : (ts.take (k + 1)).all p = ((ts.take k).all p && p t) := by
  rw [List.take_add_one, h, List.all_append]
  simp
theorem may_okC {t : Co} (h : mayC t = true) : okC t = true := by
  unfold mayC at h
  simp only [Bool.and_eq_true] at h
  exact h.1
theorem few_of {t : Co} (h : greatC 60 t = false) : t.size ≤ 60 ∧ fewC t := ⟨(great_few (m := 60) h).1, fun x hx => Nat.le_trans ((great_few (m := 60) h).2 x hx) (by decide)⟩
set_option maxRecDepth 100000 in
set_option maxHeartbeats 8000000 in
theorem codedMays_walk (ts : List Co) (A : Option Addr) (c : Nat) (w : World) (hm : T.sizes ts ≤ 1048576) (hr : InRow CE (fun _ => True) w ts A 0) (ht : TzOk w) :
    Calls Tryd.prog 3 #[.slice A ts.length c] w fun e w' => e = .returned (.bool true) ∧ Below w.heap.size w w' := by
  have hl := T.length_le_sizes ts
  have HS : Hid (∀ t ∈ ts, t.size ≤ 1048576) := fun t ht => by have := T.sizes_mem ht; omega
  have CA : Hid (∀ X, Below w.heap.size w X → Calls Tryd.prog 7 #[] X fun e w' => e = .returned (.bool true) ∧ Below X.heap.size X w') := fun X hX => awake16_any X (ht.below hX)
  have HT := Lib.hid ht
  have HR := Lib.hid hr
  clear ht hr
  go_enter Tryd.func3, Tryd.ntmps3
  by_cases hlong : 10 < ts.length
  · have g : decide ((ts.length : Int) > 10) = true := by simp; omega
    go_wp2_with fail
    refine (CA.out _ (Below.refl _ _)).mono ?_
    rintro e w2 ⟨rfl, hb2⟩
    go_wp2_with fail
    go_ret
    exact ⟨rfl, hb2⟩
  · have g : decide ((ts.length : Int) > 10) = false := by simp; omega
    go_wp2_with fail
    go_loopw [3, 4, 5] (fun b n i wr => ∃ (k : Nat), k ≤ ts.length ∧ i = .int .i64 k ∧ b = .bool ((ts.take k).all mayC) ∧ n = .int .i64 (T.sizes (ts.take k) : Nat) ∧ Hid (∀ (j : Nat) (t : Co), j < k → ts[j]? = some t → greatC 60 t = false) ∧ Hid (Below w.heap.size w wr)) (fun _ _ i _ => ts.length - (intOf i).toNat)
    case atStart => exact ⟨0, Nat.zero_le _, rfl, rfl, rfl, fun j t hj => absurd hj (by omega), Lib.hid (Below.refl _ _)⟩
    case round =>
      obtain ⟨k, hk, rfl, rfl, rfl, HG, HB⟩ := hrel
      by_cases hlt : k < ts.length
      · obtain ⟨t, ad, h1, ls, A1, c1, hA, hx, rfl, hc1, hr1, q0, q1, q2, q3, q4, q5, q6⟩ := co_at (HR.out.below HB.out) hlt
        subst hA
        have hs1 := HS.out _ (List.mem_of_getElem? hx)
        have HA := Lib.hid (call_take mayC hx)
        have HN := Lib.hid (csizes_take hx)
        have hle : Hid (T.sizes (ts.take k) + (T.mk h1 ls).size ≤ 1048576) := by
          unfold Hid
          rw [← csizes_take hx]
          refine Nat.le_trans ?_ hm
          conv => rhs; rw [← List.take_append_drop (k + 1) ts, T.sizes_append]
          omega
        have HX := Lib.hid hx
        clear hx
        simp only [T.size] at hs1
        have Q : Hid (∀ X, Below wr.heap.size wr X → X.cell? (ad.add (k * 7)) = some (.int .u8 (h1.k.toNat : Int)) ∧ X.cell? ⟨(ad.add (k * 7)).block, (ad.add (k * 7)).off + 1, none⟩ = some (.string (str h1.b)) ∧ X.cell? ⟨(ad.add (k * 7)).block, (ad.add (k * 7)).off + 2, none⟩ = some (.int .u64 (h1.s.a.toNat : Int)) ∧
            X.cell? ⟨(ad.add (k * 7)).block, (ad.add (k * 7)).off + 3, none⟩ = some (.int .u64 (h1.s.b.toNat : Int)) ∧ X.cell? ⟨(ad.add (k * 7)).block, (ad.add (k * 7)).off + 4, none⟩ = some (.int .u64 (h1.s.c.toNat : Int)) ∧ X.cell? ⟨(ad.add (k * 7)).block, (ad.add (k * 7)).off + 5, none⟩ = some (.int .u64 (h1.s.d.toNat : Int)) ∧
            X.cell? ⟨(ad.add (k * 7)).block, (ad.add (k * 7)).off + 6, none⟩ = some (.slice A1 ls.length c1)) := fun X hX => ⟨keep_cell hX q0, keep_cell hX q1, keep_cell hX q2, keep_cell hX q3, keep_cell hX q4, keep_cell hX q5, keep_cell hX q6⟩
        have C1 := Lib.hid (cGreat_any h1 ls A1 c1 60 wr (by omega) hc1 hr1)
        have C2 : Hid (greatC 60 (.mk h1 ls) = false → ∀ X, Below wr.heap.size wr X → Calls Tryd.prog 9 #[coV h1 A1 ls.length c1] X fun e w' => e = .returned (.bool (mayC (.mk h1 ls))) ∧ Below X.heap.size X w') := fun hg X hX => refMayC_any h1 ls A1 c1 X (by omega) hc1 (hr1.below hX) (few_of hg).2.short
        have C3 : Hid (∀ X, Below wr.heap.size wr X → Calls Tryd.prog 10 #[coV h1 A1 ls.length c1] X (CAllPost (fun b => True ∧ b < X.heap.size) (.mk h1 ls) X)) := fun X hX => cAll_upto 1048576 (fun b => True ∧ b < X.heap.size) h1 ls A1 c1 X hs1 (by decide) hc1 (hr1.below hX).there (fun b hb => hb.2)
        have C4 : Hid (greatC 60 (.mk h1 ls) = false → mayC (.mk h1 ls) = true → ∀ X, Below wr.heap.size wr X → Calls Tryd.prog 11 #[coV h1 A1 ls.length c1] X fun e w' => e = .returned (.string (str (textC (.mk h1 ls)))) ∧ Below X.heap.size X w') := fun hg hmy X hX => refTextC_upto 60 (fun _ => True) h1 ls A1 c1 X (by have := (few_of hg).1; simp only [T.size] at this; omega) (by decide) hc1 (hr1.below hX) (few_of hg).2 (may_okC hmy)
        have C5 : Hid (greatC 60 (.mk h1 ls) = false → ∀ X, Below wr.heap.size wr X → Calls Tryd.prog 12 #[coV h1 A1 ls.length c1] X fun e w' => e = .returned (.string (str (if mayC (.mk h1 ls) then textC (.mk h1 ls) else []))) ∧ Below X.heap.size X w') := fun hg X hX => cText_any h1 ls A1 c1 X (by have := (few_of hg).1; simp only [T.size] at this; omega) hc1 (hr1.below hX) (few_of hg).2 (HT.out.below (below_from HB.out hX))
        have HAL : Hid ((T.mk h1 ls).all.length = (T.mk h1 ls).size) := T.all_length _
        have HZ : Hid ((T.mk h1 ls).size = 1 + T.sizes ls) := rfl
        obtain ⟨gr, hgr⟩ : ∃ gr, greatC 60 (T.mk h1 ls) = gr := ⟨_, rfl⟩
        have HG2 := Lib.hid hgr
        rw [hgr] at C1 C2 C4 C5
        generalize mayC (T.mk h1 ls) = m at *
        generalize textC (T.mk h1 ls) = tx at *
        generalize (ts.take k).all mayC = b at *
        generalize T.sizes (ts.take k) = n at *
        clear hr1 hgr
        go_wp2_with fail
        refine C1.out.mono ?_
        rintro e w1 ⟨rfl, hb⟩
        have HB1 := Lib.hid hb
        clear hb q0 q1 q2 q3 q4 q5 q6
        obtain ⟨q0, q1, q2, q3, q4, q5, q6⟩ := Q.out _ HB1.out
        cases gr with
        | true =>
          go_wp2_with fail
          refine (CA.out _ (below_from HB.out HB1.out)).mono ?_
          rintro e w2 ⟨rfl, hb2⟩
          have hbz := below_from (below_from HB.out HB1.out) hb2
          go_wp2_with fail
          go_ret
          exact ⟨rfl, hbz⟩
        | false =>
          have HG3 : Hid (∀ (j : Nat) (t : Co), j < k + 1 → ts[j]? = some t → greatC 60 t = false) := by
            intro j t hj ht
            rcases Nat.lt_or_ge j k with h | h
            · exact HG.out j t h ht
            · have : j = k := by omega
              subst this
              have := HX.out.symm.trans ht
              simp only [Option.some.injEq] at this
              subst this
              exact HG2.out
          go_wp2_with fail
          refine (C2.out (by trivial) _ HB1.out).mono ?_
          rintro e w2 ⟨rfl, hb⟩
          have HB2 := Lib.hid (below_from HB1.out hb)
          clear hb q0 q1 q2 q3 q4 q5 q6
          obtain ⟨q0, q1, q2, q3, q4, q5, q6⟩ := Q.out _ HB2.out
          have hb2' : (if b = true then m else false) = (b && m) := by cases b <;> rfl
          cases m with
          | true =>
            cases b with
            | true =>
              go_wp2_with fail
              refine (C3.out _ HB2.out).mono ?_
              rintro e w3 ⟨v, rfl, ho3, hb⟩
              have HB3 := Lib.hid (below_from HB2.out hb)
              clear hb q0 q1 q2 q3 q4 q5 q6
              obtain ⟨q0, q1, q2, q3, q4, q5, q6⟩ := Q.out _ HB3.out
              obtain ⟨A2, c2, rfl, hc2, _⟩ := ho3.row
              have hAL : ((T.mk h1 ls).all.length : Int) = ((1 + T.sizes ls : Nat) : Int) := by rw [HAL.out, HZ.out]
              have hAL2 : (T.mk h1 ls).all.length ≤ 1048576 := by rw [HAL.out, HZ.out]; omega
              rw [HZ.out] at hle HN
              generalize (T.mk h1 ls).all.length = mm at *
              have hmm : mm = 1 + T.sizes ls := by omega
              generalize 1 + T.sizes ls = m' at *
              subst hmm
              have hle2 := hle.out
              clear ho3 hAL hle hc2
              go_wp2_with fail
              refine (C4.out (by trivial) (by trivial) _ HB3.out).mono ?_
              rintro e w4 ⟨rfl, hb⟩
              have HB4 := Lib.hid (below_from HB3.out hb)
              clear hb q0 q1 q2 q3 q4 q5 q6
              obtain ⟨q0, q1, q2, q3, q4, q5, q6⟩ := Q.out _ HB4.out
              go_wp2_with fail
              refine (C5.out (by trivial) _ HB4.out).mono ?_
              rintro e w5 ⟨rfl, hb⟩
              have HB5 := Lib.hid (below_from HB.out (below_from HB4.out hb))
              have hss : (tx == tx) = true := by simp
              clear hb q0 q1 q2 q3 q4 q5 q6
              go_wp2_with fail
              go_roundw
              case rel => exact ⟨k + 1, by omega, by go_num, by rw [HA.out]; rfl, by rw [HN.out]; go_num, HG3, HB5⟩
              case measure => simp [intOf]; omega
            | false =>
              go_wp2_with fail
              refine (C3.out _ HB2.out).mono ?_
              rintro e w3 ⟨v, rfl, ho3, hb⟩
              have HB3 := Lib.hid (below_from HB2.out hb)
              clear hb q0 q1 q2 q3 q4 q5 q6
              obtain ⟨q0, q1, q2, q3, q4, q5, q6⟩ := Q.out _ HB3.out
              obtain ⟨A2, c2, rfl, hc2, _⟩ := ho3.row
              have hAL : ((T.mk h1 ls).all.length : Int) = ((1 + T.sizes ls : Nat) : Int) := by rw [HAL.out, HZ.out]
              have hAL2 : (T.mk h1 ls).all.length ≤ 1048576 := by rw [HAL.out, HZ.out]; omega
              rw [HZ.out] at hle HN
              generalize (T.mk h1 ls).all.length = mm at *
              have hmm : mm = 1 + T.sizes ls := by omega
              generalize 1 + T.sizes ls = m' at *
              subst hmm
              have hle2 := hle.out
              clear ho3 hAL hle hc2
              go_wp2_with fail
              refine (C4.out (by trivial) (by trivial) _ HB3.out).mono ?_
              rintro e w4 ⟨rfl, hb⟩
              have HB4 := Lib.hid (below_from HB3.out hb)
              clear hb q0 q1 q2 q3 q4 q5 q6
              obtain ⟨q0, q1, q2, q3, q4, q5, q6⟩ := Q.out _ HB4.out
              go_wp2_with fail
              refine (C5.out (by trivial) _ HB4.out).mono ?_
              rintro e w5 ⟨rfl, hb⟩
              have HB5 := Lib.hid (below_from HB.out (below_from HB4.out hb))
              have hss : (tx == tx) = true := by simp
              clear hb q0 q1 q2 q3 q4 q5 q6
              go_wp2_with fail
              go_roundw
              case rel => exact ⟨k + 1, by omega, by go_num, by rw [HA.out]; rfl, by rw [HN.out]; go_num, HG3, HB5⟩
              case measure => simp [intOf]; omega
          | false =>
            cases b with
            | true =>
              go_wp2_with fail
              refine (C3.out _ HB2.out).mono ?_
              rintro e w3 ⟨v, rfl, ho3, hb⟩
              have HB3 := Lib.hid (below_from HB2.out hb)
              clear hb q0 q1 q2 q3 q4 q5 q6
              obtain ⟨q0, q1, q2, q3, q4, q5, q6⟩ := Q.out _ HB3.out
              obtain ⟨A2, c2, rfl, hc2, _⟩ := ho3.row
              have hAL : ((T.mk h1 ls).all.length : Int) = ((1 + T.sizes ls : Nat) : Int) := by rw [HAL.out, HZ.out]
              have hAL2 : (T.mk h1 ls).all.length ≤ 1048576 := by rw [HAL.out, HZ.out]; omega
              rw [HZ.out] at hle HN
              generalize (T.mk h1 ls).all.length = mm at *
              have hmm : mm = 1 + T.sizes ls := by omega
              generalize 1 + T.sizes ls = m' at *
              subst hmm
              have hle2 := hle.out
              clear ho3 hAL hle hc2
              go_wp2_with fail
              refine (C5.out (by trivial) _ HB3.out).mono ?_
              rintro e w5 ⟨rfl, hb⟩
              have HB5 := Lib.hid (below_from HB.out (below_from HB3.out hb))
              have hss : (([] : List UInt8) == ([] : List UInt8)) = true := by simp
              clear hb q0 q1 q2 q3 q4 q5 q6
              go_wp2_with fail
              go_roundw
              case rel => exact ⟨k + 1, by omega, by go_num, by rw [HA.out]; rfl, by rw [HN.out]; go_num, HG3, HB5⟩
              case measure => simp [intOf]; omega
            | false =>
              go_wp2_with fail
              refine (C3.out _ HB2.out).mono ?_
              rintro e w3 ⟨v, rfl, ho3, hb⟩
              have HB3 := Lib.hid (below_from HB2.out hb)
              clear hb q0 q1 q2 q3 q4 q5 q6
              obtain ⟨q0, q1, q2, q3, q4, q5, q6⟩ := Q.out _ HB3.out
              obtain ⟨A2, c2, rfl, hc2, _⟩ := ho3.row
              have hAL : ((T.mk h1 ls).all.length : Int) = ((1 + T.sizes ls : Nat) : Int) := by rw [HAL.out, HZ.out]
              have hAL2 : (T.mk h1 ls).all.length ≤ 1048576 := by rw [HAL.out, HZ.out]; omega
              rw [HZ.out] at hle HN
              generalize (T.mk h1 ls).all.length = mm at *
              have hmm : mm = 1 + T.sizes ls := by omega
              generalize 1 + T.sizes ls = m' at *
              subst hmm
              have hle2 := hle.out
              clear ho3 hAL hle hc2
              go_wp2_with fail
              refine (C5.out (by trivial) _ HB3.out).mono ?_
              rintro e w5 ⟨rfl, hb⟩
              have HB5 := Lib.hid (below_from HB.out (below_from HB3.out hb))
              have hss : (([] : List UInt8) == ([] : List UInt8)) = true := by simp
              clear hb q0 q1 q2 q3 q4 q5 q6
              go_wp2_with fail
              go_roundw
              case rel => exact ⟨k + 1, by omega, by go_num, by rw [HA.out]; rfl, by rw [HN.out]; go_num, HG3, HB5⟩
              case measure => simp [intOf]; omega
      · have hkk : k = ts.length := by omega
        subst hkk
        rw [show ts.take ts.length = ts from List.take_length]
        have HSh : Hid (∀ t ∈ ts, shortC t) := fun t ht => by
          obtain ⟨j, hj⟩ := List.getElem?_of_mem ht
          exact (few_of (HG.out j t (List.getElem?_eq_some_iff.1 hj).1 hj)).2.short
        have hM := Lib.hid (cMay_any ts A c wr (by omega) (HR.out.below HB.out) HSh.out)
        have hS := Lib.hid (fun w' (hb' : Below wr.heap.size wr w') => cSize_upto 1048576 _ ts A c w' hm (by decide) ((HR.out.below HB.out).below hb'))
        clear hlt hk
        generalize ts.all mayC = b at *
        generalize T.sizes ts = n at *
        go_wp2_with fail
        refine hM.out.mono ?_
        rintro e w2 ⟨rfl, hb2⟩
        have HB2 := Lib.hid hb2
        have hbb : (b == b) = true := by simp
        clear hb2
        go_wp2_with fail
        refine (hS.out _ HB2.out).mono ?_
        rintro e w4 ⟨rfl, hb4⟩
        have HB4 := Lib.hid (below_from (below_from HB.out HB2.out) hb4)
        clear hb4
        go_wp2_with fail
        refine (CA.out _ HB4.out).mono ?_
        rintro e w6 ⟨rfl, hb6⟩
        have hb7 := below_from HB4.out hb6
        clear hb6
        go_wp2_with fail
        go_ret
        exact ⟨by simp, hb7⟩
namespace lawCodedMays
open Go.ChangeShapes Go.WideShapes Go.ChangeAt
open Go.ChangeMaps (open_string)
set_option maxRecDepth 100000 in
theorem contract (H : Type) (enc : TypeId × Value → H) (W : World) (base : Nat) (args : Array Value) (ds gs : List (DataW H)) (before : List MemPlace)
    (hval : ∀ (j : Nat) t v, Tryd.f3.params[j]? = some t → args[j]? = some v → Value.okWide Tryd.prog W .any base t v)
    (hW : DataW.Whole enc Tryd.prog Tryd.f3.params.toList Rows.codedMaysSpec.vars false W args.toList ds gs before) (hL : laidMetH Tryd.prog Rows.codedMaysUptoRow.laid W) (hk : Rows.uptoSmall H (ds ++ gs) = true) :
    Calls Tryd.prog 3 args W fun e W' => ∃ v, e = .returned v ∧ Rows.codedMaysSpec.post enc Tryd.prog Tryd.f3 false true false false W args v W' := by
  have hW' := hW
  obtain ⟨p, q, hA0, hV, rfl, hfz, hnd⟩ := hW
  have hA : DataW.TrodAll enc Tryd.prog W 0 (fun _ => true) true Tryd.f3.params.toList args.toList ds p := hA0
  rw [Tryd.params3] at hA hval
  obtain ⟨v0, vs0, d0, ds0, p0, q0, hargs, rfl, rfl, h0, r0⟩ := trodAll_cons hA
  obtain ⟨rfl, rfl, rfl⟩ := trodAll_nil r0
  obtain rfl : args = #[v0] := by cases args; simp_all
  obtain ⟨rfl, rfl⟩ := trodVars_none hV
  have hkk : Rows.uptoBulk d0 ≤ 1048576 := by simp [Rows.uptoSmall, Rows.uptoBulkAll] at hk; omega
  obtain ⟨l, A0, c0, rfl, hc0, hr0, hz0⟩ := open_codeds (hval 0 22 v0 rfl rfl) h0
  have HT : TzOk W := tz_of_laid hL
  refine (codedMays_walk l A0 c0 W (by omega) hr0 HT).mono fun e W' ⟨he, hb⟩ => ?_
  subst he
  exact ⟨_, rfl, post_true Tryd.laidOut (by rw [Tryd.params3]; intro t ht; simp at ht; rcases ht with rfl <;> exact ⟨by kernel_rfl, of_decide_eq_true (by kernel_rfl)⟩) hW' rfl rfl rfl Tryd.underlying4 hb⟩
theorem laid_met (os : Os) : laidMet Tryd.prog Rows.codedMaysUptoRow.laid ((utfWorld os).forCall (fun _ _ => 0) ⟨#[], #[.slice none 0 0], []⟩).memory :=
  laidMet_of_run' 600 (by kernel_rfl) (by kernel_rfl)
theorem reads (os : Os) {H : Type} (enc : TypeId × Value → H) : ∃ places, DataW.whole enc Tryd.prog ((utfWorld os).forCall (fun _ _ => 0) ⟨#[], #[.slice none 0 0], []⟩).memory Tryd.f3.params.toList Rows.codedMaysSpec.vars false (#[.slice none 0 0] : Array Value).toList 8 = some ([.nil], [], places) :=
  ⟨[], by kernel_rfl⟩
set_option maxRecDepth 100000 in
theorem lifted (os : Os) (started : os.Started) (H : Type) (enc : TypeId × Value → H) (F : Stop.Interp) :
    ReturnsInHanded {} Tryd.checked os 3 .any ((Rows.OpenSpec.upto Rows.codedMaysSpec).preRow enc Tryd.prog Tryd.f3 Rows.codedMaysUptoRow.domain false Rows.codedMaysUptoRow.laid) (((Rows.OpenSpec.upto Rows.codedMaysSpec).at F).post enc Tryd.prog Tryd.f3 false true false false) := by
  obtain ⟨places, hx⟩ := reads os enc
  refine returnsInHanded_of_row (C := Tryd.checked) (s := Rows.OpenSpec.upto Rows.codedMaysSpec) Tryd.own started (by kernel_rfl) Tryd.func3
    (witness_row_at (enc := enc) (C := Tryd.checked) false (utfWorld os) #[.slice none 0 0] rfl (by kernel_rfl) (by kernel_rfl) (by kernel_rfl)
      (OpenSpec.preRow_of_cond 8 hx (by kernel_rfl) (fun k hk => by cases hk; kernel_rfl) (by kernel_rfl) (laid_met os))) ?_
  intro W base args ds gs before hval hW _ hcond _ hL _ _
  exact contract H enc W base args ds gs before hval hW hL (hcond _ rfl)
theorem said : Rows.CodedMaysUptoSaid :=
  OpenClaim.holds_of_cond 3 Tryd.f3 rfl rfl rfl rfl rfl rfl rfl ⟨rfl, rfl, rfl, rfl, rfl⟩ rfl rfl rfl rfl rfl (by kernel_rfl) Tryd.func3 (by kernel_rfl)
    (of_decide_eq_true (by kernel_rfl)) (by unfold Func.isWrapper; first | (rw [if_pos (by decide +kernel)]; kernel_rfl) | (rw [if_neg (by decide +kernel)]; exact ⟨rfl, rfl⟩))
    (fun os started H enc _ F => by rw [OpenClaim.pre_eq_preRow]; exact lifted os started H enc F)
theorem plain (f : FuncId) (fn : Func) (hf : Tryd.pinned.checked.prog.funcNamed "quill/quilllaw16.CodedMays" = some f) (hfn : Tryd.pinned.checked.prog.funcs[f]? = some fn) :
    true = Tryd.pinned.checked.prog.looks [] ∧ ∀ (j : Nat) t, fn.params[j]? = some t → Tryd.pinned.checked.prog.wantsStandIn t = false := by
  obtain rfl : f = 3 := Option.some.inj ((show Tryd.prog.funcNamed "quill/quilllaw16.CodedMays" = some 3 by kernel_rfl).symm.trans hf) |>.symm
  obtain rfl : fn = Tryd.f3 := (Option.some.inj (Tryd.func3.symm.trans hfn)).symm
  refine ⟨by kernel_rfl, fun j t ht => ?_⟩
  rw [Tryd.params3] at ht
  have hm := Array.mem_of_getElem? ht
  simp at hm
  rcases hm with rfl
  · exact (show Tryd.prog.wantsStandIn 22 = false by kernel_rfl)
theorem proved : Rows.CodedMaysUptoCardSaid :=
  Claim7.holds_tied_plain_at .later [] _ _ _ _ said (fun _ h => by cases h) (by kernel_rfl) (fun _ h => by cases h) codedMaysUpto_row_tie rfl ⟨rfl, rfl⟩ (by kernel_rfl) rfl plain (by kernel_rfl)
end lawCodedMays
end Go.Proofs.YteoghoaggpbkpaaDoor
