/- Any coded expression with bits ahead is the document's; bits put ahead one by one stand as together; whether two are the same. For every input that is not too large. -/
import Derived.Test.YteoghoaggpbkpaaDoorAwake16m
import Derived.Test.YteoghoaggpbkpaaDoorCodAm
import Derived.Test.YteoghoaggpbkpaaDoorCodSm
import Derived.Test.YteoghoaggpbkpaaDoorOpenCo
import Derived.Test.YteoghoaggpbkpaaDoorQuietB
namespace Go.Proofs.YteoghoaggpbkpaaDoor
open Go.RowKit
set_option linter.unusedVariables false
set_option linter.unusedSimpArgs false

theorem fuse_fuse (t s : List UInt8) (h : CH) : fuseH t (fuseH s h) = fuseH (t ++ s) h := by
  unfold fuseH
  by_cases e : h.k = 1 <;> simp [e]
theorem same_eqv {a b : Co} : sameC a b = sameC b a := sameC_comm a b
set_option maxRecDepth 100000 in
set_option maxHeartbeats 40000000 in
theorem codedFuses_walk (h1 h2 : CH) (k1 k2 : List Co) (A1 A2 : Option Addr) (c1 c2 : Nat) (s t : List UInt8) (w : World) (hm : T.sizes k1 ≤ 1048576) (hm2 : T.sizes k2 ≤ 1048576) (hc : k1.length ≤ c1) (hc2 : k2.length ≤ c2) (hr : InRow CE (fun _ => True) w k1 A1 0) (hr2 : InRow CE (fun _ => True) w k2 A2 0) (ht : TzOk w) :
    Calls Tryd.prog 4 #[coV h1 A1 k1.length c1, coV h2 A2 k2.length c2, .string (str s), .string (str t)] w fun e w' => e = .returned (.bool true) ∧ Below w.heap.size w w' := by
  obtain ⟨W, hW⟩ : ∃ W, (w.alloc (.cells (coA h1 A1 k1.length c1) 29)).alloc (.cells (coA h2 A2 k2.length c2) 29) = W := ⟨_, rfl⟩
  have hbW : Below w.heap.size w W := by rw [← hW]; exact below_new (below_new (Below.refl _ _) _) _
  obtain ⟨n1, n2⟩ := two_new (w := w) (.cells (coA h1 A1 k1.length c1) 29) (.cells (coA h2 A2 k2.length c2) 29)
  rw [hW] at n1 n2
  have Q : Hid (∀ X, Below W.heap.size W X → X.cell? ⟨w.heap.size, 0, none⟩ = some (.int .u8 (h1.k.toNat : Int)) ∧ X.cell? ⟨w.heap.size, 1, none⟩ = some (.string (str h1.b)) ∧ X.cell? ⟨w.heap.size, 2, none⟩ = some (.int .u64 (h1.s.a.toNat : Int)) ∧ X.cell? ⟨w.heap.size, 3, none⟩ = some (.int .u64 (h1.s.b.toNat : Int)) ∧ X.cell? ⟨w.heap.size, 4, none⟩ = some (.int .u64 (h1.s.c.toNat : Int)) ∧ X.cell? ⟨w.heap.size, 5, none⟩ = some (.int .u64 (h1.s.d.toNat : Int)) ∧ X.cell? ⟨w.heap.size, 6, none⟩ = some (.slice A1 k1.length c1) ∧ X.cell? ⟨w.heap.size + 1, 0, none⟩ = some (.int .u8 (h2.k.toNat : Int)) ∧ X.cell? ⟨w.heap.size + 1, 1, none⟩ = some (.string (str h2.b)) ∧ X.cell? ⟨w.heap.size + 1, 2, none⟩ = some (.int .u64 (h2.s.a.toNat : Int)) ∧ X.cell? ⟨w.heap.size + 1, 3, none⟩ = some (.int .u64 (h2.s.b.toNat : Int)) ∧ X.cell? ⟨w.heap.size + 1, 4, none⟩ = some (.int .u64 (h2.s.c.toNat : Int)) ∧ X.cell? ⟨w.heap.size + 1, 5, none⟩ = some (.int .u64 (h2.s.d.toNat : Int)) ∧ X.cell? ⟨w.heap.size + 1, 6, none⟩ = some (.slice A2 k2.length c2)) := by
    intro X hX
    obtain ⟨a0, a1, a2, a3, a4, a5, a6⟩ := co_at_box ((hX.block _ (lt_of_block n1)).trans n1)
    obtain ⟨b0, b1, b2, b3, b4, b5, b6⟩ := co_at_box ((hX.block _ (lt_of_block n2)).trans n2)
    exact ⟨a0, a1, a2, a3, a4, a5, a6, b0, b1, b2, b3, b4, b5, b6⟩
  have CG1 : Hid (∀ X, Below W.heap.size W X → Calls Tryd.prog 8 #[coV h1 A1 k1.length c1, .int .i64 60] X fun e w' => e = .returned (.bool (greatC 60 (.mk h1 k1))) ∧ Below X.heap.size X w') := fun X hX => cGreat_any h1 k1 A1 c1 60 X (by omega) hc (hr.below (below_from hbW hX))
  have CG2 : Hid (∀ X, Below W.heap.size W X → Calls Tryd.prog 8 #[coV h2 A2 k2.length c2, .int .i64 60] X fun e w' => e = .returned (.bool (greatC 60 (.mk h2 k2))) ∧ Below X.heap.size X w') := fun X hX => cGreat_any h2 k2 A2 c2 60 X (by omega) hc2 (hr2.below (below_from hbW hX))
  have CA : Hid (∀ X, Below W.heap.size W X → Calls Tryd.prog 7 #[] X fun e w' => e = .returned (.bool true) ∧ Below X.heap.size X w') := fun X hX => awake16_any X (ht.below (below_from hbW hX))
  have GF1 := Lib.hid (fun (hg : greatC 60 (.mk h1 k1) = false) => (show h1.b.length ≤ 100 from (great_few (m := 60) hg).2 (.mk h1 k1) (by simp [T.all])))
  have S1 : Hid (∀ X, Below W.heap.size W X → Calls Tryd.prog 16 #[coV (fuseH s h1) A1 k1.length c1, coV (fuseH s h1) A1 k1.length c1] X fun e w' => e = .returned (.bool true) ∧ Below X.heap.size X w') := fun X hX => by
    have := refSameC_upto 1048577 (fun _ => True) (fuseH s h1) (fuseH s h1) k1 k1 A1 A1 c1 c1 X (by omega) (by decide) (by omega) (hr.below (below_from hbW hX)) (hr.below (below_from hbW hX))
    rw [sameC_refl] at this
    exact this
  have S2 : Hid (∀ X, Below W.heap.size W X → Calls Tryd.prog 18 #[coV (fuseH t (fuseH s h1)) A1 k1.length c1, coV (fuseH (t ++ s) h1) A1 k1.length c1] X fun e w' => e = .returned (.bool true) ∧ Below X.heap.size X w') := fun X hX => by
    have := codSame_upto 1048577 (fun _ => True) (fuseH t (fuseH s h1)) (fuseH (t ++ s) h1) k1 k1 A1 A1 c1 c1 X (by omega) (by decide) (by omega) (hr.below (below_from hbW hX)) (hr.below (below_from hbW hX))
    rw [fuse_fuse, sameC_refl] at this; rw [fuse_fuse]
    exact this
  have S3 : Hid (∀ X, Below W.heap.size W X → Calls Tryd.prog 18 #[coV h1 A1 k1.length c1, coV h1 A1 k1.length c1] X fun e w' => e = .returned (.bool true) ∧ Below X.heap.size X w') := fun X hX => by
    have := codSame_upto 1048577 (fun _ => True) h1 h1 k1 k1 A1 A1 c1 c1 X (by omega) (by decide) (by omega) (hr.below (below_from hbW hX)) (hr.below (below_from hbW hX))
    rw [sameC_refl] at this
    exact this
  have SR : Hid (∀ X, Below W.heap.size W X → Calls Tryd.prog 16 #[coV h1 A1 k1.length c1, coV h2 A2 k2.length c2] X fun e w' => e = .returned (.bool (sameC (.mk h1 k1) (.mk h2 k2))) ∧ Below X.heap.size X w') := fun X hX => refSameC_upto 1048577 (fun _ => True) h1 h2 k1 k2 A1 A2 c1 c2 X (by omega) (by decide) (by omega) (hr.below (below_from hbW hX)) (hr2.below (below_from hbW hX))
  have SA : Hid (∀ X, Below W.heap.size W X → Calls Tryd.prog 18 #[coV h1 A1 k1.length c1, coV h2 A2 k2.length c2] X fun e w' => e = .returned (.bool (sameC (.mk h1 k1) (.mk h2 k2))) ∧ Below X.heap.size X w') := fun X hX => codSame_upto 1048577 (fun _ => True) h1 h2 k1 k2 A1 A2 c1 c2 X (by omega) (by decide) (by omega) (hr.below (below_from hbW hX)) (hr2.below (below_from hbW hX))
  have SB : Hid (∀ X, Below W.heap.size W X → Calls Tryd.prog 18 #[coV h2 A2 k2.length c2, coV h1 A1 k1.length c1] X fun e w' => e = .returned (.bool (sameC (.mk h1 k1) (.mk h2 k2))) ∧ Below X.heap.size X w') := fun X hX => by
    have := codSame_upto 1048577 (fun _ => True) h2 h1 k2 k1 A2 A1 c2 c1 X (by omega) (by decide) (by omega) (hr2.below (below_from hbW hX)) (hr.below (below_from hbW hX))
    rw [sameC_comm] at this
    exact this
  have HW := Lib.hid hbW
  have HE := Lib.hid hW
  clear hW n1 n2 hr hr2 hm hm2 hc hc2 ht hbW
  generalize greatC 60 (.mk h1 k1) = g1 at *
  generalize greatC 60 (.mk h2 k2) = g2 at *
  generalize sameC (.mk h1 k1) (.mk h2 k2) = sm at *
  have hbb : (sm == sm) = true := by simp
  go_enter Tryd.func4, Tryd.ntmps4
  go_wp2_with fail
  refine (CG1.out _ (by rw [← HE.out]; exact Below.refl _ _)).mono ?_
  rintro e w1 ⟨rfl, hb⟩
  rw [HE.out] at hb
  have HB1 := Lib.hid hb
  clear hb
  obtain ⟨x0, x1, x2, x3, x4, x5, x6, y0, y1, y2, y3, y4, y5, y6⟩ := Q.out _ HB1.out
  cases g1 with
  | true =>
    go_wp2_with fail
    refine (CA.out _ HB1.out).mono ?_
    rintro e w2 ⟨rfl, hb⟩
    have HB2 := Lib.hid (below_from HB1.out hb)
    clear hb HB1 x0 x1 x2 x3 x4 x5 x6 y0 y1 y2 y3 y4 y5 y6
    obtain ⟨x0, x1, x2, x3, x4, x5, x6, y0, y1, y2, y3, y4, y5, y6⟩ := Q.out _ HB2.out
    have hb := below_from HW.out HB2.out
    go_wp2_with fail
    go_ret
    exact ⟨rfl, hb⟩
  | false =>
    go_wp2_with fail
    refine (CG2.out _ HB1.out).mono ?_
    rintro e w2 ⟨rfl, hb⟩
    have HB2 := Lib.hid (below_from HB1.out hb)
    clear hb HB1 x0 x1 x2 x3 x4 x5 x6 y0 y1 y2 y3 y4 y5 y6
    obtain ⟨x0, x1, x2, x3, x4, x5, x6, y0, y1, y2, y3, y4, y5, y6⟩ := Q.out _ HB2.out
    cases g2 with
    | true =>
      go_wp2_with fail
      refine (CA.out _ HB2.out).mono ?_
      rintro e w3 ⟨rfl, hb⟩
      have HB3 := Lib.hid (below_from HB2.out hb)
      clear hb HB2 x0 x1 x2 x3 x4 x5 x6 y0 y1 y2 y3 y4 y5 y6
      obtain ⟨x0, x1, x2, x3, x4, x5, x6, y0, y1, y2, y3, y4, y5, y6⟩ := Q.out _ HB3.out
      have hb := below_from HW.out HB3.out
      go_wp2_with fail
      go_ret
      exact ⟨rfl, hb⟩
    | false =>
      by_cases ls : 50 < s.length
      · have gls : decide (((s.length : Nat) : Int) > 50) = true := by simp; omega
        go_wp2_with fail
        refine (CA.out _ HB2.out).mono ?_
        rintro e w3 ⟨rfl, hb⟩
        have HB3 := Lib.hid (below_from HB2.out hb)
        clear hb HB2 x0 x1 x2 x3 x4 x5 x6 y0 y1 y2 y3 y4 y5 y6
        obtain ⟨x0, x1, x2, x3, x4, x5, x6, y0, y1, y2, y3, y4, y5, y6⟩ := Q.out _ HB3.out
        have hb := below_from HW.out HB3.out
        go_wp2_with fail
        go_ret
        exact ⟨rfl, hb⟩
      have gls : decide (((s.length : Nat) : Int) > 50) = false := by simp; omega
      by_cases lt : 50 < t.length
      · have glt : decide (((t.length : Nat) : Int) > 50) = true := by simp; omega
        go_wp2_with fail
        refine (CA.out _ HB2.out).mono ?_
        rintro e w3 ⟨rfl, hb⟩
        have HB3 := Lib.hid (below_from HB2.out hb)
        clear hb HB2 x0 x1 x2 x3 x4 x5 x6 y0 y1 y2 y3 y4 y5 y6
        obtain ⟨x0, x1, x2, x3, x4, x5, x6, y0, y1, y2, y3, y4, y5, y6⟩ := Q.out _ HB3.out
        have hb := below_from HW.out HB3.out
        go_wp2_with fail
        go_ret
        exact ⟨rfl, hb⟩
      have glt : decide (((t.length : Nat) : Int) > 50) = false := by simp; omega
      have hb1 := GF1.out (by trivial)
      have F1 := Lib.hid (fun X => fuse_any s h1 A1 k1.length c1 X (by omega))
      have F2 := Lib.hid (fun X => refFuse_any s h1 A1 k1.length c1 X (by omega))
      have hfl : (fuseH s h1).b.length ≤ 200 := by unfold fuseH; split <;> (try simp) <;> omega
      have F3 := Lib.hid (fun X => fuse_any t (fuseH s h1) A1 k1.length c1 X (by omega))
      have F4 := Lib.hid (fun X => fuse_any (t ++ s) h1 A1 k1.length c1 X (by simp; omega))
      have hcat := run_cat (P := Tryd.prog) t s (by omega)
      clear GF1 hb1 hfl
      go_wp2_with fail
      refine (F1.out _).mono ?_
      rintro e w8 ⟨rfl, hb⟩
      have HB8 := Lib.hid (below_new (below_from HB2.out hb) (.cells (coA (fuseH s h1) A1 k1.length c1) 29))
      have Z8 := Lib.hid (new_at1 (w := w8) (.cells (coA (fuseH s h1) A1 k1.length c1) 29))
      clear hb HB2 x0 x1 x2 x3 x4 x5 x6 y0 y1 y2 y3 y4 y5 y6
      obtain ⟨x0, x1, x2, x3, x4, x5, x6, y0, y1, y2, y3, y4, y5, y6⟩ := Q.out _ HB8.out
      go_wp2_with fail
      refine (SR.out _ HB8.out).mono ?_
      rintro e w9 ⟨rfl, hb⟩
      have HB9 := Lib.hid (below_from HB8.out hb)
      have Z9 := Lib.hid ((hb.block _ (lt_of_block Z8.out)).trans Z8.out)
      clear hb HB8 Z8 x0 x1 x2 x3 x4 x5 x6 y0 y1 y2 y3 y4 y5 y6
      obtain ⟨x0, x1, x2, x3, x4, x5, x6, y0, y1, y2, y3, y4, y5, y6⟩ := Q.out _ HB9.out
      obtain ⟨z0, z1, z2, z3, z4, z5, z6⟩ := co_at_box Z9.out
      have P1 : Hid (∀ q : BelowBy w9, Below W.heap.size W q.w) := fun q => below_from HB9.out q.h
      have fx0 := fun q : BelowBy w9 => BelowBy.cell x0 q
      have fx1 := fun q : BelowBy w9 => BelowBy.cell x1 q
      have fx2 := fun q : BelowBy w9 => BelowBy.cell x2 q
      have fx3 := fun q : BelowBy w9 => BelowBy.cell x3 q
      have fx4 := fun q : BelowBy w9 => BelowBy.cell x4 q
      have fx5 := fun q : BelowBy w9 => BelowBy.cell x5 q
      have fx6 := fun q : BelowBy w9 => BelowBy.cell x6 q
      have fy0 := fun q : BelowBy w9 => BelowBy.cell y0 q
      have fy1 := fun q : BelowBy w9 => BelowBy.cell y1 q
      have fy2 := fun q : BelowBy w9 => BelowBy.cell y2 q
      have fy3 := fun q : BelowBy w9 => BelowBy.cell y3 q
      have fy4 := fun q : BelowBy w9 => BelowBy.cell y4 q
      have fy5 := fun q : BelowBy w9 => BelowBy.cell y5 q
      have fy6 := fun q : BelowBy w9 => BelowBy.cell y6 q
      have fz0 := fun q : BelowBy w9 => BelowBy.cell z0 q
      have fz1 := fun q : BelowBy w9 => BelowBy.cell z1 q
      have fz2 := fun q : BelowBy w9 => BelowBy.cell z2 q
      have fz3 := fun q : BelowBy w9 => BelowBy.cell z3 q
      have fz4 := fun q : BelowBy w9 => BelowBy.cell z4 q
      have fz5 := fun q : BelowBy w9 => BelowBy.cell z5 q
      have fz6 := fun q : BelowBy w9 => BelowBy.cell z6 q
      go_wp2_with fail
      refine wp_region_below (by kernel_rfl) (by kernel_rfl) (Below.refl _ _) ?_
      repeat (go_big_quiet_step (first
        | (go_at_call 17; (with_reducible exact Calls.below_of (F2.out _)))
        | (go_at_call 16; (with_reducible exact Calls.below_of (S1.out _ (P1.out _))))
        | (go_at_call 15; (with_reducible exact Calls.below_of (F3.out _)))
        | (go_at_call 15; (with_reducible exact Calls.below_of (F4.out _)))
        | (go_at_call 18; (with_reducible exact Calls.below_of (S2.out _ (P1.out _))))
        | (go_at_call 18; (with_reducible exact Calls.below_of (SA.out _ (P1.out _))))
        | (go_at_call 18; (with_reducible exact Calls.below_of (SB.out _ (P1.out _))))
        | (go_at_call 18; (with_reducible exact Calls.below_of (S3.out _ (P1.out _))))
        | (go_at_call 7; (with_reducible exact Calls.below_of (CA.out _ (P1.out _))))))
      refine wpQuiet_nil ?_
      intro _ hw1
      obtain ⟨⟨wq, hq⟩, hw2⟩ := hw1
      subst hw2
      have hb := below_from HW.out (below_from HB9.out hq)
      go_wp2_with fail
      go_ret
      exact ⟨rfl, hb⟩
namespace lawCodedFuses
open Go.ChangeShapes Go.WideShapes Go.ChangeAt
open Go.ChangeMaps (open_string)
set_option maxRecDepth 100000 in
theorem contract (H : Type) (enc : TypeId × Value → H) (W : World) (base : Nat) (args : Array Value) (ds gs : List (DataW H)) (before : List MemPlace)
    (hval : ∀ (j : Nat) t v, Tryd.f4.params[j]? = some t → args[j]? = some v → Value.okWide Tryd.prog W .any base t v)
    (hW : DataW.Whole enc Tryd.prog Tryd.f4.params.toList Rows.codedFusesSpec.vars false W args.toList ds gs before) (hL : laidMetH Tryd.prog Rows.codedFusesUptoRow.laid W) (hk : Rows.uptoSmall H (ds ++ gs) = true) :
    Calls Tryd.prog 4 args W fun e W' => ∃ v, e = .returned v ∧ Rows.codedFusesSpec.post enc Tryd.prog Tryd.f4 false true false false W args v W' := by
  have hW' := hW
  obtain ⟨p, q, hA0, hV, rfl, hfz, hnd⟩ := hW
  have hA : DataW.TrodAll enc Tryd.prog W 0 (fun _ => true) true Tryd.f4.params.toList args.toList ds p := hA0
  rw [Tryd.params4] at hA hval
  obtain ⟨v0, vs0, d0, ds0, p0, q0, hargs, rfl, rfl, h0, r0⟩ := trodAll_cons hA
  obtain ⟨v1, vs1, d1, ds1, p1, q1, rfl, rfl, rfl, h1, r1⟩ := trodAll_cons r0
  obtain ⟨v2, vs2, d2, ds2, p2, q2, rfl, rfl, rfl, h2, r2⟩ := trodAll_cons r1
  obtain ⟨v3, vs3, d3, ds3, p3, q3, rfl, rfl, rfl, h3, r3⟩ := trodAll_cons r2
  obtain ⟨rfl, rfl, rfl⟩ := trodAll_nil r3
  obtain rfl : args = #[v0, v1, v2, v3] := by cases args; simp_all
  obtain ⟨rfl, rfl⟩ := trodVars_none hV
  have hkk : Rows.uptoBulk d0 + Rows.uptoBulk d1 + Rows.uptoBulk d2 + Rows.uptoBulk d3 ≤ 1048576 := by simp [Rows.uptoSmall, Rows.uptoBulkAll] at hk; omega
  obtain ⟨x, kx, A0, c0, rfl, hc0, hr0, hz0⟩ := open_coded (hval 0 29 v0 rfl rfl) h0
  obtain ⟨y, ky, A1, c1, rfl, hc1, hr1, hz1⟩ := open_coded (hval 1 29 v1 rfl rfl) h1
  obtain ⟨s, rfl, rfl, rfl, hs2⟩ := open_string Tryd.underlying9 (hval 2 9 v2 rfl rfl) h2
  obtain ⟨t, rfl, rfl, rfl, hs3⟩ := open_string Tryd.underlying9 (hval 3 9 v3 rfl rfl) h3
  have HT : TzOk W := tz_of_laid hL
  have hwalk : Calls Tryd.prog 4 #[coV x A0 kx.length c0, coV y A1 ky.length c1, .string s, .string t] W fun e w' => e = .returned (.bool true) ∧ Below W.heap.size W w' := (by have hw := codedFuses_walk x y kx ky A0 A1 c0 c1 s.data.toList t.data.toList W (by omega) (by omega) hc0 hc1 hr0 hr1 HT; rw [str_eta, str_eta] at hw; exact hw)
  refine hwalk.mono fun e W' ⟨he, hb⟩ => ?_
  subst he
  exact ⟨_, rfl, post_true Tryd.laidOut (by rw [Tryd.params4]; intro t ht; simp at ht; rcases ht with rfl | rfl <;> exact ⟨by kernel_rfl, of_decide_eq_true (by kernel_rfl)⟩) hW' rfl rfl rfl Tryd.underlying4 hb⟩
theorem laid_met (os : Os) : laidMet Tryd.prog Rows.codedFusesUptoRow.laid ((utfWorld os).forCall (fun _ _ => 0) ⟨#[], #[.agg #[.int .u8 0, .string ByteArray.empty, .int .u64 0, .int .u64 0, .int .u64 0, .int .u64 0, .slice none 0 0], .agg #[.int .u8 0, .string ByteArray.empty, .int .u64 0, .int .u64 0, .int .u64 0, .int .u64 0, .slice none 0 0], .string ByteArray.empty, .string ByteArray.empty], []⟩).memory :=
  laidMet_of_run' 600 (by kernel_rfl) (by kernel_rfl)
theorem reads (os : Os) {H : Type} (enc : TypeId × Value → H) : ∃ places, DataW.whole enc Tryd.prog ((utfWorld os).forCall (fun _ _ => 0) ⟨#[], #[.agg #[.int .u8 0, .string ByteArray.empty, .int .u64 0, .int .u64 0, .int .u64 0, .int .u64 0, .slice none 0 0], .agg #[.int .u8 0, .string ByteArray.empty, .int .u64 0, .int .u64 0, .int .u64 0, .int .u64 0, .slice none 0 0], .string ByteArray.empty, .string ByteArray.empty], []⟩).memory Tryd.f4.params.toList Rows.codedFusesSpec.vars false (#[.agg #[.int .u8 0, .string ByteArray.empty, .int .u64 0, .int .u64 0, .int .u64 0, .int .u64 0, .slice none 0 0], .agg #[.int .u8 0, .string ByteArray.empty, .int .u64 0, .int .u64 0, .int .u64 0, .int .u64 0, .slice none 0 0], .string ByteArray.empty, .string ByteArray.empty] : Array Value).toList 8 = some ([.agg [.lit (.int .u8 0), .lit (.string []), .agg [.lit (.int .u64 0), .lit (.int .u64 0), .lit (.int .u64 0), .lit (.int .u64 0)], .nil], .agg [.lit (.int .u8 0), .lit (.string []), .agg [.lit (.int .u64 0), .lit (.int .u64 0), .lit (.int .u64 0), .lit (.int .u64 0)], .nil], .lit (.string []), .lit (.string [])], [], places) :=
  ⟨[], by kernel_rfl⟩
set_option maxRecDepth 100000 in
theorem lifted (os : Os) (started : os.Started) (H : Type) (enc : TypeId × Value → H) (F : Stop.Interp) :
    ReturnsInHanded {} Tryd.checked os 4 .any ((Rows.OpenSpec.upto Rows.codedFusesSpec).preRow enc Tryd.prog Tryd.f4 Rows.codedFusesUptoRow.domain false Rows.codedFusesUptoRow.laid) (((Rows.OpenSpec.upto Rows.codedFusesSpec).at F).post enc Tryd.prog Tryd.f4 false true false false) := by
  obtain ⟨places, hx⟩ := reads os enc
  refine returnsInHanded_of_row (C := Tryd.checked) (s := Rows.OpenSpec.upto Rows.codedFusesSpec) Tryd.own started (by kernel_rfl) Tryd.func4
    (witness_row_at (enc := enc) (C := Tryd.checked) false (utfWorld os) #[.agg #[.int .u8 0, .string ByteArray.empty, .int .u64 0, .int .u64 0, .int .u64 0, .int .u64 0, .slice none 0 0], .agg #[.int .u8 0, .string ByteArray.empty, .int .u64 0, .int .u64 0, .int .u64 0, .int .u64 0, .slice none 0 0], .string ByteArray.empty, .string ByteArray.empty] rfl (by kernel_rfl) (by kernel_rfl) (by kernel_rfl)
      (OpenSpec.preRow_of_cond 8 hx (by kernel_rfl) (fun k hk => by cases hk; kernel_rfl) (by kernel_rfl) (laid_met os))) ?_
  intro W base args ds gs before hval hW _ hcond _ hL _ _
  exact contract H enc W base args ds gs before hval hW hL (hcond _ rfl)
theorem said : Rows.CodedFusesUptoSaid :=
  OpenClaim.holds_of_cond 4 Tryd.f4 rfl rfl rfl rfl rfl rfl rfl ⟨rfl, rfl, rfl, rfl, rfl⟩ rfl rfl rfl rfl rfl (by kernel_rfl) Tryd.func4 (by kernel_rfl)
    (of_decide_eq_true (by kernel_rfl)) (by unfold Func.isWrapper; first | (rw [if_pos (by decide +kernel)]; kernel_rfl) | (rw [if_neg (by decide +kernel)]; exact ⟨rfl, rfl⟩))
    (fun os started H enc _ F => by rw [OpenClaim.pre_eq_preRow]; exact lifted os started H enc F)
theorem plain (f : FuncId) (fn : Func) (hf : Tryd.pinned.checked.prog.funcNamed "quill/quilllaw16.CodedFuses" = some f) (hfn : Tryd.pinned.checked.prog.funcs[f]? = some fn) :
    true = Tryd.pinned.checked.prog.looks [] ∧ ∀ (j : Nat) t, fn.params[j]? = some t → Tryd.pinned.checked.prog.wantsStandIn t = false := by
  obtain rfl : f = 4 := Option.some.inj ((show Tryd.prog.funcNamed "quill/quilllaw16.CodedFuses" = some 4 by kernel_rfl).symm.trans hf) |>.symm
  obtain rfl : fn = Tryd.f4 := (Option.some.inj (Tryd.func4.symm.trans hfn)).symm
  refine ⟨by kernel_rfl, fun j t ht => ?_⟩
  rw [Tryd.params4] at ht
  have hm := Array.mem_of_getElem? ht
  simp at hm
  rcases hm with rfl | rfl
  · exact (show Tryd.prog.wantsStandIn 29 = false by kernel_rfl)
  · exact (show Tryd.prog.wantsStandIn 9 = false by kernel_rfl)
theorem proved : Rows.CodedFusesUptoCardSaid :=
  Claim7.holds_tied_plain_at .later [] _ _ _ _ said (fun _ h => by cases h) (by kernel_rfl) (fun _ h => by cases h) codedFusesUpto_row_tie rfl ⟨rfl, rfl⟩ (by kernel_rfl) rfl plain (by kernel_rfl)
end lawCodedFuses
end Go.Proofs.YteoghoaggpbkpaaDoor
