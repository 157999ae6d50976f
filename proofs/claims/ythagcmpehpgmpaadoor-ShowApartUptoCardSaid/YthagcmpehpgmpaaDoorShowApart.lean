/- Two expressions that may be have one text just if they are the same. For every input that is not too large. -/
import Derived.Test.YthagcmpehpgmpaaDoorAwake5
import Derived.Test.YthagcmpehpgmpaaDoorShowP4
import Derived.Test.YthagcmpehpgmpaaDoorSame1
import Derived.Test.YthagcmpehpgmpaaDoorOpenRe
import Derived.Test.YthagcmpehpgmpaaDoorDoor
import Derived.Test.YthagcmpehpgmpaaDoorQuietB
namespace Go.Proofs.YthagcmpehpgmpaaDoor
open Go.RowKit
set_option linter.unusedVariables false
set_option linter.unusedSimpArgs false

theorem may_ok {t : Re} (h : mayB t = true) : okT t = true := by
  unfold mayB at h
  simp only [Bool.and_eq_true] at h
  exact h.1
theorem text_ge {a b : List UInt8} {s : Bool} (h : decide (a = b) = s) : ((a == b) == s) = true := by
  subst h
  rw [beq_iff_eq, Bool.eq_iff_iff]
  simp
theorem great_no {m : Nat} {h : RH} {ks : List Re} (hg : greatB m (.mk h ks) = false) : T.sizes ks < m := by
  have h1 : ¬ ((m : Int) < ((T.mk h ks).size : Int)) := of_decide_eq_false hg
  have h2 : (T.mk h ks).size = 1 + T.sizes ks := rfl
  omega
theorem text_same {a b : Re} (ha : mayB a = true) (hb : mayB b = true) : decide (textT a = textT b) = sameT a b := by
  rw [textT_yes ha, textT_yes hb, Bool.eq_iff_iff, decide_eq_true_eq, sameT_eq]
  exact ⟨show_inj (may_ok ha) (may_ok hb), fun h => by rw [h]⟩

set_option maxRecDepth 100000 in
set_option maxHeartbeats 40000000 in
theorem showApart_walk (h1 h2 : RH) (k1 k2 : List Re) (A1 A2 : Option Addr) (c1 c2 : Nat) (w : World) (hm : T.sizes k1 ≤ 1048576) (hm2 : T.sizes k2 ≤ 1048576) (hc : k1.length ≤ c1) (hc2 : k2.length ≤ c2) (hr : InRow RE (fun _ => True) w k1 A1 0) (hr2 : InRow RE (fun _ => True) w k2 A2 0) (ht : TzOk w) :
    Calls Tryd.prog 8 #[reV h1 A1 k1.length c1, reV h2 A2 k2.length c2] w fun e w' => e = .returned (.bool true) ∧ Below w.heap.size w w' := by
  obtain ⟨W, hW⟩ : ∃ W, ((w.alloc (.cells (reA h1 A1 k1.length c1) 47)).alloc (.cells (reA h2 A2 k2.length c2) 47)) = W := ⟨_, rfl⟩
  have hbW : Below w.heap.size w W := by rw [← hW]; exact below_new (below_new (Below.refl _ _) _) _
  obtain ⟨n1, n2⟩ := two_new (w := w) (.cells (reA h1 A1 k1.length c1) 47) (.cells (reA h2 A2 k2.length c2) 47)
  rw [hW] at n1 n2
  have Q : Hid (∀ X, Below W.heap.size W X → X.cell? ⟨w.heap.size, 0, none⟩ = some (.int .u8 (h1.k.toNat : Int)) ∧ X.cell? ⟨w.heap.size, 1, none⟩ = some (.int .u64 (h1.s.a.toNat : Int)) ∧ X.cell? ⟨w.heap.size, 2, none⟩ = some (.int .u64 (h1.s.b.toNat : Int)) ∧ X.cell? ⟨w.heap.size, 3, none⟩ = some (.int .u64 (h1.s.c.toNat : Int)) ∧ X.cell? ⟨w.heap.size, 4, none⟩ = some (.int .u64 (h1.s.d.toNat : Int)) ∧ X.cell? ⟨w.heap.size, 5, none⟩ = some (.slice A1 k1.length c1) ∧ X.cell? ⟨w.heap.size + 1, 0, none⟩ = some (.int .u8 (h2.k.toNat : Int)) ∧ X.cell? ⟨w.heap.size + 1, 1, none⟩ = some (.int .u64 (h2.s.a.toNat : Int)) ∧ X.cell? ⟨w.heap.size + 1, 2, none⟩ = some (.int .u64 (h2.s.b.toNat : Int)) ∧ X.cell? ⟨w.heap.size + 1, 3, none⟩ = some (.int .u64 (h2.s.c.toNat : Int)) ∧ X.cell? ⟨w.heap.size + 1, 4, none⟩ = some (.int .u64 (h2.s.d.toNat : Int)) ∧ X.cell? ⟨w.heap.size + 1, 5, none⟩ = some (.slice A2 k2.length c2)) := by
    intro X hX
    obtain ⟨a0, a1, a2, a3, a4, a5⟩ := re_at_box ((hX.block _ (lt_of_block n1)).trans n1)
    obtain ⟨b0, b1, b2, b3, b4, b5⟩ := re_at_box ((hX.block _ (lt_of_block n2)).trans n2)
    exact ⟨a0, a1, a2, a3, a4, a5, b0, b1, b2, b3, b4, b5⟩
  have CG1 : Hid (∀ X, Below W.heap.size W X → Calls Tryd.prog 36 #[reV h1 A1 k1.length c1, .int .i64 200] X fun e w' => e = .returned (.bool (greatB 200 (.mk h1 k1))) ∧ Below X.heap.size X w') := fun X hX => Great_any h1 k1 A1 c1 200 X (by omega) hc (hr.below (below_from hbW hX))
  have CM1 : Hid (∀ X, Below W.heap.size W X → Calls Tryd.prog 37 #[reV h1 A1 k1.length c1] X fun e w' => e = .returned (.bool (mayB (.mk h1 k1))) ∧ Below X.heap.size X w') := fun X hX => refMay_any h1 k1 A1 c1 X (by omega) hc (hr.below (below_from hbW hX))
  have CT1 : Hid (∀ X, greatB 200 (.mk h1 k1) = false → Below W.heap.size W X → Calls Tryd.prog 39 #[reV h1 A1 k1.length c1] X fun e w' => e = .returned (.string (str (textT (.mk h1 k1)))) ∧ Below X.heap.size X w') := fun X hG hX => showText_any h1 k1 A1 c1 X (by have := great_no (m := 200) hG; omega) hc (hr.below (below_from hbW hX)) (ht.below (below_from hbW hX))
  have CG2 : Hid (∀ X, Below W.heap.size W X → Calls Tryd.prog 36 #[reV h2 A2 k2.length c2, .int .i64 200] X fun e w' => e = .returned (.bool (greatB 200 (.mk h2 k2))) ∧ Below X.heap.size X w') := fun X hX => Great_any h2 k2 A2 c2 200 X (by omega) hc2 (hr2.below (below_from hbW hX))
  have CM2 : Hid (∀ X, Below W.heap.size W X → Calls Tryd.prog 37 #[reV h2 A2 k2.length c2] X fun e w' => e = .returned (.bool (mayB (.mk h2 k2))) ∧ Below X.heap.size X w') := fun X hX => refMay_any h2 k2 A2 c2 X (by omega) hc2 (hr2.below (below_from hbW hX))
  have CT2 : Hid (∀ X, greatB 200 (.mk h2 k2) = false → Below W.heap.size W X → Calls Tryd.prog 39 #[reV h2 A2 k2.length c2] X fun e w' => e = .returned (.string (str (textT (.mk h2 k2)))) ∧ Below X.heap.size X w') := fun X hG hX => showText_any h2 k2 A2 c2 X (by have := great_no (m := 200) hG; omega) hc2 (hr2.below (below_from hbW hX)) (ht.below (below_from hbW hX))
  have CS : Hid (∀ X, Below W.heap.size W X → Calls Tryd.prog 40 #[reV h1 A1 k1.length c1, reV h2 A2 k2.length c2] X fun e w' => e = .returned (.bool (sameT (.mk h1 k1) (.mk h2 k2))) ∧ Below X.heap.size X w') := fun X hX => refSame_upto 1048577 (fun _ => True) h1 h2 k1 k2 A1 A2 c1 c2 X (by omega) (by decide) (by omega) (hr.below (below_from hbW hX)) (hr2.below (below_from hbW hX))
  have CA : Hid (∀ X, Below W.heap.size W X → Calls Tryd.prog 38 #[] X fun e w' => e = .returned (.bool true) ∧ Below X.heap.size X w') := fun X hX => awake5_any X (ht.below (below_from hbW hX))
  have TS := Lib.hid (fun (ha : mayB (.mk h1 k1) = true) (hb : mayB (.mk h2 k2) = true) => text_same ha hb)
  have HW := Lib.hid hbW
  have HE := Lib.hid hW
  clear hW
  clear n1 n2 hr hr2 hm hm2 hc hc2 ht hbW
  generalize greatB 200 (.mk h1 k1) = g1 at *
  generalize mayB (.mk h1 k1) = m1 at *
  generalize textT (.mk h1 k1) = t1 at *
  generalize greatB 200 (.mk h2 k2) = g2 at *
  generalize mayB (.mk h2 k2) = m2 at *
  generalize textT (.mk h2 k2) = t2 at *
  generalize sameT (.mk h1 k1) (.mk h2 k2) = sm at *
  go_enter Tryd.func8, Tryd.ntmps8
  go_wp2_with fail
  refine (CG1.out _ (by rw [← HE.out]; exact Below.refl _ _)).mono ?_
  rintro e w1 ⟨rfl, hb⟩
  rw [HE.out] at hb
  have HB1 := Lib.hid (hb)
  obtain ⟨x0, x1, x2, x3, x4, x5, y0, y1, y2, y3, y4, y5⟩ := Q.out _ HB1.out
  clear hb
  cases g1 with
  | true =>
    clear x0 x1 x2 x3 x4 x5 y0 y1 y2 y3 y4 y5
    obtain ⟨x0, x1, x2, x3, x4, x5, y0, y1, y2, y3, y4, y5⟩ := Q.out _ HB1.out
    go_wp2_with fail
    refine (CA.out _ HB1.out).mono ?_
    rintro e w2 ⟨rfl, hb⟩
    have HB2 := Lib.hid (below_from HB1.out hb)
    obtain ⟨x0, x1, x2, x3, x4, x5, y0, y1, y2, y3, y4, y5⟩ := Q.out _ HB2.out
    clear hb HB1
    clear x0 x1 x2 x3 x4 x5 y0 y1 y2 y3 y4 y5
    have hb := below_from HW.out HB2.out
    go_wp2_with fail
    go_ret
    exact ⟨rfl, hb⟩
  | false =>
    go_wp2_with fail
    refine (CG2.out _ HB1.out).mono ?_
    rintro e w2 ⟨rfl, hb⟩
    have HB2 := Lib.hid (below_from HB1.out hb)
    clear hb HB1 x0 x1 x2 x3 x4 x5 y0 y1 y2 y3 y4 y5
    obtain ⟨x0, x1, x2, x3, x4, x5, y0, y1, y2, y3, y4, y5⟩ := Q.out _ HB2.out
    cases g2 with
    | true =>
      clear x0 x1 x2 x3 x4 x5 y0 y1 y2 y3 y4 y5
      obtain ⟨x0, x1, x2, x3, x4, x5, y0, y1, y2, y3, y4, y5⟩ := Q.out _ HB2.out
      go_wp2_with fail
      refine (CA.out _ HB2.out).mono ?_
      rintro e w3 ⟨rfl, hb⟩
      have HB3 := Lib.hid (below_from HB2.out hb)
      obtain ⟨x0, x1, x2, x3, x4, x5, y0, y1, y2, y3, y4, y5⟩ := Q.out _ HB3.out
      clear hb HB2
      clear x0 x1 x2 x3 x4 x5 y0 y1 y2 y3 y4 y5
      have hb := below_from HW.out HB3.out
      go_wp2_with fail
      go_ret
      exact ⟨rfl, hb⟩
    | false =>
      go_wp2_with fail
      refine (CM1.out _ HB2.out).mono ?_
      rintro e w3 ⟨rfl, hb⟩
      have HB3 := Lib.hid (below_from HB2.out hb)
      clear hb HB2 x0 x1 x2 x3 x4 x5 y0 y1 y2 y3 y4 y5
      obtain ⟨x0, x1, x2, x3, x4, x5, y0, y1, y2, y3, y4, y5⟩ := Q.out _ HB3.out
      cases m1 with
      | false =>
        clear x0 x1 x2 x3 x4 x5 y0 y1 y2 y3 y4 y5
        obtain ⟨x0, x1, x2, x3, x4, x5, y0, y1, y2, y3, y4, y5⟩ := Q.out _ HB3.out
        go_wp2_with fail
        refine (CA.out _ HB3.out).mono ?_
        rintro e w4 ⟨rfl, hb⟩
        have HB4 := Lib.hid (below_from HB3.out hb)
        obtain ⟨x0, x1, x2, x3, x4, x5, y0, y1, y2, y3, y4, y5⟩ := Q.out _ HB4.out
        clear hb HB3
        clear x0 x1 x2 x3 x4 x5 y0 y1 y2 y3 y4 y5
        have hb := below_from HW.out HB4.out
        go_wp2_with fail
        go_ret
        exact ⟨rfl, hb⟩
      | true =>
        go_wp2_with fail
        refine (CM2.out _ HB3.out).mono ?_
        rintro e w4 ⟨rfl, hb⟩
        have HB4 := Lib.hid (below_from HB3.out hb)
        clear hb HB3 x0 x1 x2 x3 x4 x5 y0 y1 y2 y3 y4 y5
        obtain ⟨x0, x1, x2, x3, x4, x5, y0, y1, y2, y3, y4, y5⟩ := Q.out _ HB4.out
        cases m2 with
        | false =>
          clear x0 x1 x2 x3 x4 x5 y0 y1 y2 y3 y4 y5
          obtain ⟨x0, x1, x2, x3, x4, x5, y0, y1, y2, y3, y4, y5⟩ := Q.out _ HB4.out
          go_wp2_with fail
          refine (CA.out _ HB4.out).mono ?_
          rintro e w5 ⟨rfl, hb⟩
          have HB5 := Lib.hid (below_from HB4.out hb)
          obtain ⟨x0, x1, x2, x3, x4, x5, y0, y1, y2, y3, y4, y5⟩ := Q.out _ HB5.out
          clear hb HB4
          clear x0 x1 x2 x3 x4 x5 y0 y1 y2 y3 y4 y5
          have hb := below_from HW.out HB5.out
          go_wp2_with fail
          go_ret
          exact ⟨rfl, hb⟩
        | true =>
          have HT := Lib.hid (TS.out (by trivial) (by trivial))
          clear TS
          have ge : ((t1 == t2) == sm) = true := text_ge HT.out
          clear HT
          have P1 : Hid (∀ q : BelowBy w4, Below W.heap.size W q.w) := fun q => below_from HB4.out q.h
          have fx0 := fun q : BelowBy w4 => BelowBy.cell x0 q
          have fx1 := fun q : BelowBy w4 => BelowBy.cell x1 q
          have fx2 := fun q : BelowBy w4 => BelowBy.cell x2 q
          have fx3 := fun q : BelowBy w4 => BelowBy.cell x3 q
          have fx4 := fun q : BelowBy w4 => BelowBy.cell x4 q
          have fx5 := fun q : BelowBy w4 => BelowBy.cell x5 q
          have fy0 := fun q : BelowBy w4 => BelowBy.cell y0 q
          have fy1 := fun q : BelowBy w4 => BelowBy.cell y1 q
          have fy2 := fun q : BelowBy w4 => BelowBy.cell y2 q
          have fy3 := fun q : BelowBy w4 => BelowBy.cell y3 q
          have fy4 := fun q : BelowBy w4 => BelowBy.cell y4 q
          have fy5 := fun q : BelowBy w4 => BelowBy.cell y5 q
          go_wp2_with fail
          refine wp_region_below (by kernel_rfl) (by kernel_rfl) (Below.refl _ _) ?_
          repeat (go_big_quiet_step (first | (go_at_call 39; with_reducible exact Calls.below_of (CT1.out _ (by trivial) (P1.out _))) | (go_at_call 39; with_reducible exact Calls.below_of (CT2.out _ (by trivial) (P1.out _))) | (go_at_call 40; exact Calls.below_of (CS.out _ (P1.out _))) | (go_at_call 38; exact Calls.below_of (CA.out _ (P1.out _)))))
          refine wpQuiet_nil ?_
          intro _ hw1
          obtain ⟨⟨wq, hq⟩, hw2⟩ := hw1
          subst hw2
          have hb := below_from HW.out (below_from HB4.out hq)
          go_wp2_with fail
          go_ret
          exact ⟨rfl, hb⟩
namespace lawShowApart
open Go.ChangeShapes Go.WideShapes Go.ChangeAt
open Go.ChangeMaps (open_string)
set_option maxRecDepth 100000 in
theorem contract (H : Type) (enc : TypeId × Value → H) (W : World) (base : Nat) (args : Array Value) (ds gs : List (DataW H)) (before : List MemPlace)
    (hval : ∀ (j : Nat) t v, Tryd.f8.params[j]? = some t → args[j]? = some v → Value.okWide Tryd.prog W .any base t v)
    (hW : DataW.Whole enc Tryd.prog Tryd.f8.params.toList Rows.showApartSpec.vars false W args.toList ds gs before) (hL : laidMetH Tryd.prog Rows.showApartUptoRow.laid W) (hk : Rows.uptoSmall H (ds ++ gs) = true) :
    Calls Tryd.prog 8 args W fun e W' => ∃ v, e = .returned v ∧ Rows.showApartSpec.post enc Tryd.prog Tryd.f8 false true false false W args v W' := by
  have hW' := hW
  obtain ⟨p, q, hA0, hV, rfl, hfz, hnd⟩ := hW
  have hA : DataW.TrodAll enc Tryd.prog W 0 (fun _ => true) true Tryd.f8.params.toList args.toList ds p := hA0
  rw [Tryd.params8] at hA hval
  obtain ⟨v0, vs0, d0, ds0, p0, q0, hargs, rfl, rfl, h0, r0⟩ := trodAll_cons hA
  obtain ⟨v1, vs1, d1, ds1, p1, q1, rfl, rfl, rfl, h1, r1⟩ := trodAll_cons r0
  obtain ⟨rfl, rfl, rfl⟩ := trodAll_nil r1
  obtain rfl : args = #[v0, v1] := by cases args; simp_all
  obtain ⟨rfl, rfl⟩ := trodVars_none hV
  have hkk : Rows.uptoBulk d0 + Rows.uptoBulk d1 ≤ 1048576 := by simp [Rows.uptoSmall, Rows.uptoBulkAll] at hk; omega
  obtain ⟨x, kx, A0, c0, rfl, hc0, hr0, hz0⟩ := open_re (hval 0 47 v0 rfl rfl) h0
  obtain ⟨y, ky, A1, c1, rfl, hc1, hr1, hz1⟩ := open_re (hval 1 47 v1 rfl rfl) h1
  have HT : TzOk W := tz_of_laid hL
  refine (showApart_walk x y kx ky A0 A1 c0 c1 W (by omega) (by omega) hc0 hc1 hr0 hr1 HT).mono fun e W' ⟨he, hb⟩ => ?_
  subst he
  exact ⟨_, rfl, post_true Tryd.laidOut (by rw [Tryd.params8]; intro t ht; simp at ht; rcases ht with rfl <;> exact ⟨by kernel_rfl, of_decide_eq_true (by kernel_rfl)⟩) hW' rfl rfl rfl Tryd.underlying4 hb⟩
theorem laid_met (os : Os) : laidMet Tryd.prog Rows.showApartUptoRow.laid ((tzWorld os).forCall (fun _ _ => 0) ⟨#[], #[.agg #[.int .u8 0, .int .u64 0, .int .u64 0, .int .u64 0, .int .u64 0, .slice none 0 0], .agg #[.int .u8 0, .int .u64 0, .int .u64 0, .int .u64 0, .int .u64 0, .slice none 0 0]], []⟩).memory :=
  laidMet_of_run' 70 (by kernel_rfl) (by kernel_rfl)
theorem reads (os : Os) {H : Type} (enc : TypeId × Value → H) : ∃ places, DataW.whole enc Tryd.prog ((tzWorld os).forCall (fun _ _ => 0) ⟨#[], #[.agg #[.int .u8 0, .int .u64 0, .int .u64 0, .int .u64 0, .int .u64 0, .slice none 0 0], .agg #[.int .u8 0, .int .u64 0, .int .u64 0, .int .u64 0, .int .u64 0, .slice none 0 0]], []⟩).memory Tryd.f8.params.toList Rows.showApartSpec.vars false (#[.agg #[.int .u8 0, .int .u64 0, .int .u64 0, .int .u64 0, .int .u64 0, .slice none 0 0], .agg #[.int .u8 0, .int .u64 0, .int .u64 0, .int .u64 0, .int .u64 0, .slice none 0 0]] : Array Value).toList 8 = some ([.agg [.lit (.int .u8 0), .agg [.lit (.int .u64 0), .lit (.int .u64 0), .lit (.int .u64 0), .lit (.int .u64 0)], .nil], .agg [.lit (.int .u8 0), .agg [.lit (.int .u64 0), .lit (.int .u64 0), .lit (.int .u64 0), .lit (.int .u64 0)], .nil]], [], places) :=
  ⟨[], by kernel_rfl⟩
set_option maxRecDepth 100000 in
theorem lifted (os : Os) (started : os.Started) (H : Type) (enc : TypeId × Value → H) (F : Stop.Interp) :
    ReturnsInHanded {} Tryd.checked os 8 .any ((Rows.OpenSpec.upto Rows.showApartSpec).preRow enc Tryd.prog Tryd.f8 Rows.showApartUptoRow.domain false Rows.showApartUptoRow.laid) (((Rows.OpenSpec.upto Rows.showApartSpec).at F).post enc Tryd.prog Tryd.f8 false true false false) := by
  obtain ⟨places, hx⟩ := reads os enc
  refine returnsInHanded_of_row (C := Tryd.checked) (s := Rows.OpenSpec.upto Rows.showApartSpec) Tryd.own started (by kernel_rfl) Tryd.func8
    (witness_row_at (enc := enc) (C := Tryd.checked) false (tzWorld os) #[.agg #[.int .u8 0, .int .u64 0, .int .u64 0, .int .u64 0, .int .u64 0, .slice none 0 0], .agg #[.int .u8 0, .int .u64 0, .int .u64 0, .int .u64 0, .int .u64 0, .slice none 0 0]] rfl (by kernel_rfl) (by kernel_rfl) (by kernel_rfl)
      (OpenSpec.preRow_of_cond 8 hx (by kernel_rfl) (fun k hk => by cases hk; kernel_rfl) (by kernel_rfl) (laid_met os))) ?_
  intro W base args ds gs before hval hW _ hcond _ hL _ _
  exact contract H enc W base args ds gs before hval hW hL (hcond _ rfl)
theorem said : Rows.ShowApartUptoSaid :=
  OpenClaim.holds_of_cond 8 Tryd.f8 rfl rfl rfl rfl rfl rfl rfl ⟨rfl, rfl, rfl, rfl, rfl⟩ rfl rfl rfl rfl rfl (by kernel_rfl) Tryd.func8 (by kernel_rfl)
    (of_decide_eq_true (by kernel_rfl)) (by unfold Func.isWrapper; first | (rw [if_pos (by decide +kernel)]; kernel_rfl) | (rw [if_neg (by decide +kernel)]; exact ⟨rfl, rfl⟩))
    (fun os started H enc _ F => by rw [OpenClaim.pre_eq_preRow]; exact lifted os started H enc F)
theorem plain (f : FuncId) (fn : Func) (hf : Tryd.pinned.checked.prog.funcNamed "quill/quilllaw05.ShowApart" = some f) (hfn : Tryd.pinned.checked.prog.funcs[f]? = some fn) :
    true = Tryd.pinned.checked.prog.looks [] ∧ ∀ (j : Nat) t, fn.params[j]? = some t → Tryd.pinned.checked.prog.wantsStandIn t = false := by
  obtain rfl : f = 8 := Option.some.inj ((show Tryd.prog.funcNamed "quill/quilllaw05.ShowApart" = some 8 by kernel_rfl).symm.trans hf) |>.symm
  obtain rfl : fn = Tryd.f8 := (Option.some.inj (Tryd.func8.symm.trans hfn)).symm
  refine ⟨by kernel_rfl, fun j t ht => ?_⟩
  rw [Tryd.params8] at ht
  have hm := Array.mem_of_getElem? ht
  simp at hm
  rcases hm with rfl
  · exact (show Tryd.prog.wantsStandIn 47 = false by kernel_rfl)
theorem proved : Rows.ShowApartUptoCardSaid :=
  Claim7.holds_tied_plain_at .later [] _ _ _ _ said (fun _ h => by cases h) (by kernel_rfl) (fun _ h => by cases h) showApartUpto_row_tie rfl ⟨rfl, rfl⟩ (by kernel_rfl) rfl plain (by kernel_rfl)
end lawShowApart
end Go.Proofs.YthagcmpehpgmpaaDoor
