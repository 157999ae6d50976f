/- Whether any values are some of any expression, their texts, and how many there are, are the document's. For every input that is not too large. -/
import Derived.Test.YteokbmngebckjaaAwake14
import Derived.Test.YteokbmngebckjaaVt2
import Derived.Test.YteokbmngebckjaaVi4
import Derived.Test.YteokbmngebckjaaVj4
import Derived.Test.YteokbmngebckjaaVf1
import Derived.Test.YteokbmngebckjaaVf2
import Derived.Test.YteokbmngebckjaaBd
import Derived.Test.YteokbmngebckjaaBw
import Derived.Test.YteokbmngebckjaaBe
import Derived.WalkKit
import Derived.OpenShut
import Derived.JoinedCond
namespace Go.Proofs.Yteokbmngebckjaa
open Go.RowKit
set_option linter.unusedVariables false
set_option linter.unusedSimpArgs false

theorem all_snocV {l : List Va} {k : Nat} {t : Va} (p : Va → Bool) (h : l[k]? = some t) : (l.take (k + 1)).all p = ((l.take k).all p && p t) := by
  rw [List.take_add_one, h, List.all_append]
  simp
set_option maxRecDepth 100000 in
set_option maxHeartbeats 4000000 in
theorem valIs_walk (h : RH) (ks : List Re) (A : Option Addr) (c : Nat) (ls : List Va) (A2 : Option Addr) (c2 : Nat) (w : World) (hm : T.sizes ks ≤ 1048576) (hc : ks.length ≤ c) (hr : InRow RE (fun _ => True) w ks A 0) (hm2 : T.sizes ls ≤ 1048576) (hr2 : InRow VE (fun _ => True) w ls A2 0) :
    Calls Try.prog 8 #[reV h A ks.length c, .slice A2 ls.length c2] w fun e w' => e = .returned (.bool true) ∧ Below w.heap.size w w' := by
  obtain ⟨W, hW⟩ : ∃ W, w.alloc (.cells (reA h A ks.length c) 34) = W := ⟨_, rfl⟩
  have hbW : Below w.heap.size w W := by rw [← hW]; exact below_new (Below.refl _ _) _
  have e1 : W.heap[w.heap.size]? = some (.cells (reA h A ks.length c) 34 (0, 0)) := by rw [← hW]; exact new_at1 _
  have CG1 : Hid (∀ X, Below W.heap.size W X → Calls Try.prog 13 #[reV h A ks.length c, .int .i64 60] X fun e w' => e = .returned (.bool (greatB 60 (.mk h ks))) ∧ Below X.heap.size X w') := fun X hX => Great_any h ks A c 60 X (by omega) hc (hr.below (below_from hbW hX))
  have CG2 : Hid (∀ X, Below W.heap.size W X → Calls Try.prog 27 #[.slice A2 ls.length c2, .int .i64 60] X fun e w' => e = .returned (.bool (greatAllV 60 ls)) ∧ Below X.heap.size X w') := fun X hX => vGreatAll_any ls A2 c2 60 X (by omega) (hr2.below (below_from hbW hX))
  have CA : Hid (∀ X, Below W.heap.size W X → Calls Try.prog 17 #[] X fun e w' => e = .returned (.bool true) ∧ Below X.heap.size X w') := fun X hX => awake14_any X
  have HR := Lib.hid hr
  have HR2 := Lib.hid hr2
  have HW := Lib.hid hbW
  have HE := Lib.hid hW
  have E1 := Lib.hid e1
  clear hW hr hr2 hbW e1
  have HB0 : Hid (Below W.heap.size W W) := Below.refl _ _
  rcases hg : greatB 60 (.mk h ks) with _ | _
  case true =>
    rw [hg] at CG1
    clear hg
    go_enter Try.func8, Try.ntmps8
    go_wp2_with fail
    rw [HE.out]
    refine (CG1.out _ HB0.out).mono ?_
    rintro e w0 ⟨rfl, hb0⟩
    have HB1_ := Lib.hid (below_from HB0.out hb0)
    have Ex1_ := Lib.hid ((hb0.block _ (lt_of_block E1.out)).trans E1.out)
    go_wp2_with fail
    refine (CA.out _ HB1_.out).mono ?_
    rintro e w9 ⟨rfl, hb9⟩
    have hb := below_from HW.out (below_from HB1_.out hb9)
    clear hb9
    go_wp2_with fail
    go_ret
    exact ⟨rfl, hb⟩
  have hsz : 1 + T.sizes ks ≤ 60 := by
    have := of_decide_eq_false hg
    simp only [T.size] at this
    omega
  rw [hg] at CG1
  rcases hg2 : greatAllV 60 ls with _ | _
  case true =>
    rw [hg2] at CG2
    clear hg hg2
    go_enter Try.func8, Try.ntmps8
    go_wp2_with fail
    rw [HE.out]
    refine (CG1.out _ HB0.out).mono ?_
    rintro e w0 ⟨rfl, hb0⟩
    have HB1_ := Lib.hid (below_from HB0.out hb0)
    have Ex1_ := Lib.hid ((hb0.block _ (lt_of_block E1.out)).trans E1.out)
    go_wp2_with fail
    refine (CG2.out _ HB1_.out).mono ?_
    rintro e w1 ⟨rfl, hb1⟩
    have HB2_ := Lib.hid (below_from HB1_.out hb1)
    have Ex2_ := Lib.hid ((hb1.block _ (lt_of_block Ex1_.out)).trans Ex1_.out)
    go_wp2_with fail
    refine (CA.out _ HB2_.out).mono ?_
    rintro e w9 ⟨rfl, hb9⟩
    have hb := below_from HW.out (below_from HB2_.out hb9)
    clear hb9
    go_wp2_with fail
    go_ret
    exact ⟨rfl, hb⟩
  have hll : ls.length ≤ 20 := by
    unfold greatAllV at hg2
    rw [Bool.or_eq_false_iff] at hg2
    have := of_decide_eq_false hg2.1
    omega
  have HSZ : Hid (∀ t ∈ ls, t.size ≤ 60) := fun t ht => by
    unfold greatAllV at hg2
    rw [Bool.or_eq_false_iff] at hg2
    have h3 := (List.any_eq_false.1 hg2.2) t ht
    have h4 : greatB 60 t = false := by simpa using h3
    have h5 := of_decide_eq_false h4
    omega
  rw [hg2] at CG2
  clear hg hg2
  have CM : Hid (∀ X, Below W.heap.size W X → Calls Try.prog 16 #[reV h A ks.length c] X fun e w' => e = .returned (.bool (mayB (.mk h ks))) ∧ Below X.heap.size X w') := fun X hX => refMay_any h ks A c X (by omega) hc (HR.out.below (below_from HW.out hX))
  have CVI : Hid (∀ X, Below W.heap.size W X → Calls Try.prog 32 #[reV h A ks.length c, .slice A2 ls.length c2] X fun e w' => e = .returned (.bool (mayB (.mk h ks) && ls.all fun v => isB v (.mk h ks))) ∧ Below X.heap.size X w') := fun X hX => vIs_any (fun _ => True) (fun _ => True) h ks A c ls A2 c2 X (by omega) (by omega) hc (HR.out.below (below_from HW.out hX)) (HR2.out.below (below_from HW.out hX))
  have CVF : Hid (∀ X, Below W.heap.size W X → Calls Try.prog 25 #[.slice A2 ls.length c2] X fun e w' => e = .returned (.string (str (flatVs ls))) ∧ Below X.heap.size X w') := fun X hX => vflat_upto 1000000000 (fun _ => True) ls A2 c2 X (by omega) (Nat.le_refl _) (HR2.out.below (below_from HW.out hX))
  have CVS : Hid (∀ X, Below W.heap.size W X → Calls Try.prog 33 #[.slice A2 ls.length c2] X fun e w' => e = .returned (.int .i64 (T.sizes ls)) ∧ Below X.heap.size X w') := fun X hX => vSize_upto 1000000000 (fun _ => True) ls A2 c2 X (by omega) (Nat.le_refl _) (HR2.out.below (below_from HW.out hX))
  have CEL : Hid (∀ (h1 : VH) (l1 : List Va) (A1 : Option Addr) (c1 : Nat) (X : World), T.mk h1 l1 ∈ ls → l1.length ≤ c1 → InRow VE (fun _ => True) X l1 A1 0 → Below W.heap.size W X →
      Calls Try.prog 24 #[reV h A ks.length c, vaV h1 A1 l1.length c1] X (fun e w' => e = .returned (.bool (mayB (.mk h ks) && isB (.mk h1 l1) (.mk h ks))) ∧ Below X.heap.size X w') ∧
      Calls Try.prog 28 #[vaV h1 A1 l1.length c1] X (fun e w' => e = .returned (.string (str (flatV (.mk h1 l1)))) ∧ Below X.heap.size X w') ∧
      Calls Try.prog 29 #[vaV h1 A1 l1.length c1] X (fun e w' => e = .returned (.int .i64 ((T.mk h1 l1).size : Int)) ∧ Below X.heap.size X w') ∧
      Calls Try.prog 30 #[vaV h1 A1 l1.length c1] X (fun e w' => e = .returned (.string (str (textV (.mk h1 l1)))) ∧ Below X.heap.size X w') ∧
      Calls Try.prog 31 #[vaV h1 A1 l1.length c1] X (fun e w' => e = .returned (.string (str (textV (.mk h1 l1)))) ∧ Below X.heap.size X w')) := fun h1 l1 A1 c1 X hmem hc1 hr1 hX => by
    have hs := HSZ.out _ hmem
    simp only [T.size] at hs
    exact ⟨rIs_any (fun _ => True) (fun _ => True) h ks A c h1 l1 A1 c1 X (by omega) (by omega) hc hc1 (HR.out.below (below_from HW.out hX)) hr1,
      refFlat_upto 1000000000 _ h1 l1 A1 c1 X (by omega) (Nat.le_refl _) hc1 hr1,
      rSize_upto 1000000000 _ h1 l1 A1 c1 X (by omega) (Nat.le_refl _) hc1 hr1,
      vtext_any h1 l1 A1 c1 X (by omega) hc1 hr1,
      rtext_upto 1000000 _ h1 l1 A1 c1 X (by omega) (Nat.le_refl _) hc1 hr1⟩
  have hmb : ∃ mb, mayB (.mk h ks) = mb := ⟨_, rfl⟩
  obtain ⟨mb, hmb⟩ := hmb
  rw [hmb] at CM CVI CEL
  clear hmb
  go_enter Try.func8, Try.ntmps8
  go_wp2_with fail
  rw [HE.out]
  refine (CG1.out _ HB0.out).mono ?_
  rintro e w0 ⟨rfl, hb0⟩
  have HB1_ := Lib.hid (below_from HB0.out hb0)
  have Ex1_ := Lib.hid ((hb0.block _ (lt_of_block E1.out)).trans E1.out)
  go_wp2_with fail
  refine (CG2.out _ HB1_.out).mono ?_
  rintro e w1 ⟨rfl, hb1⟩
  have HB2_ := Lib.hid (below_from HB1_.out hb1)
  have Ex2_ := Lib.hid ((hb1.block _ (lt_of_block Ex1_.out)).trans Ex1_.out)
  obtain ⟨x0, x1, x2, x3, x4, x5⟩ := re_at_box Ex2_.out
  go_wp2_with fail
  refine (CM.out _ HB2_.out).mono ?_
  rintro e w2 ⟨rfl, hb2⟩
  clear x0 x1 x2 x3 x4 x5
  have HB3_ := Lib.hid (below_from HB2_.out hb2)
  have Ex3_ := Lib.hid ((hb2.block _ (lt_of_block Ex2_.out)).trans Ex2_.out)
  obtain ⟨X0, hX0⟩ : ∃ X0, X0 = w2 := ⟨_, rfl⟩
  have EX : Hid (X0.heap[w.heap.size]? = some (.cells (reA h A ks.length c) 34 (0, 0))) := by unfold Hid; rw [hX0]; exact Ex3_.out
  have HBX : Hid (Below W.heap.size W X0) := by unfold Hid; rw [hX0]; exact HB3_.out
  go_upto_region 7 with fail
  rw [← hX0]
  clear hX0
  go_loopw [5, 6, 7, 8] (fun b s m i wr => ∃ (k : Nat) (bb : Bool) (fs : List UInt8) (n : Nat), k ≤ ls.length ∧ i = .int .i64 k ∧ b = .bool bb ∧ s = .string (str fs) ∧ m = .int .i64 (n : Int) ∧ Hid (bb = (mb && (ls.take k).all fun v => isB v (.mk h ks))) ∧ Hid (fs = flatVs (ls.take k)) ∧ Hid (n = T.sizes (ls.take k)) ∧ Hid (Below X0.heap.size X0 wr)) (fun _ _ _ i _ => ls.length - (intOf i).toNat)
  case atStart => exact ⟨0, mb, [], 0, Nat.zero_le _, rfl, rfl, rfl, rfl, by unfold Hid; simp, rfl, rfl, Lib.hid (Below.refl _ _)⟩
  case round =>
    obtain ⟨k, bb, fs, n, hk, rfl, rfl, rfl, rfl, HBB, HFS, HN, HBR⟩ := hrel
    have ex := (HBR.out.block _ (lt_of_block EX.out)).trans EX.out
    by_cases hlt : k < ls.length
    · obtain ⟨t, ad, h1, l1, A1, c1, hA, hx, rfl, hc1, hr1, q0, q1, q2⟩ := va_at (HR2.out.below (below_from HW.out (below_from HBX.out HBR.out))) hlt
      subst hA
      have hmem := List.mem_of_getElem? hx
      have HSN := Lib.hid (all_snocV (fun v => isB v (.mk h ks)) hx)
      have HFT := Lib.hid (flat_take hx)
      have HNT := Lib.hid (sizesV_snoc hx)
      have hl1 := flatVs_len (ls.take k)
      have hl2 := sizesV_take ls k
      have hl3 := flatV_len (T.mk h1 l1)
      have hs1 := HSZ.out _ hmem
      have hl4 := sizesV_take ls (k + 1)
      have HC1 : Hid (∀ X, Below wr.heap.size wr X → _) := fun X hX => CEL.out h1 l1 A1 c1 X hmem hc1 (hr1.below hX) (below_from HBX.out (below_from HBR.out hX))
      have HQ : Hid (∀ X, Below wr.heap.size wr X → X.cell? (ad.add (k * 3)) = some (.int .u8 (h1.k.toNat : Int)) ∧ X.cell? ⟨(ad.add (k * 3)).block, (ad.add (k * 3)).off + 1, none⟩ = some (.int .u8 (h1.b.toNat : Int)) ∧ X.cell? ⟨(ad.add (k * 3)).block, (ad.add (k * 3)).off + 2, none⟩ = some (.slice A1 l1.length c1)) := fun X hX => ⟨keep_cell hX q0, keep_cell hX q1, keep_cell hX q2⟩
      have HLF : Hid (fs.length + (flatV (T.mk h1 l1)).length ≤ 100000000) := by have := HFS.out; unfold Hid; rw [this]; omega
      have HLN : Hid (n + (T.mk h1 l1).size ≤ 100000000) := by have := HN.out; unfold Hid; omega
      clear hx hr1 hmem hl1 hl2 hl3 hl4 hs1 q0 q1 q2
      obtain ⟨fv, hfv⟩ : ∃ fv, flatV (T.mk h1 l1) = fv := ⟨_, rfl⟩
      obtain ⟨sv, hsv⟩ : ∃ sv, (T.mk h1 l1).size = sv := ⟨_, rfl⟩
      obtain ⟨tv, htv⟩ : ∃ tv, textV (T.mk h1 l1) = tv := ⟨_, rfl⟩
      obtain ⟨iv, hiv⟩ : ∃ iv, isB (T.mk h1 l1) (.mk h ks) = iv := ⟨_, rfl⟩
      rw [hfv] at HC1 HFT HLF
      rw [hsv] at HC1 HNT HLN
      rw [htv] at HC1
      rw [hiv] at HC1 HSN
      clear hfv hsv htv hiv
      obtain ⟨x0, x1, x2, x3, x4, x5⟩ := re_at_box ex
      obtain ⟨q0, q1, q2⟩ := HQ.out _ (Below.refl wr.heap.size wr)
      clear ex
      have fx0 := fun p : BelowBy wr => BelowBy.cell x0 p
      have fx1 := fun p : BelowBy wr => BelowBy.cell x1 p
      have fx2 := fun p : BelowBy wr => BelowBy.cell x2 p
      have fx3 := fun p : BelowBy wr => BelowBy.cell x3 p
      have fx4 := fun p : BelowBy wr => BelowBy.cell x4 p
      have fx5 := fun p : BelowBy wr => BelowBy.cell x5 p
      have fq0 := fun p : BelowBy wr => BelowBy.cell q0 p
      have fq1 := fun p : BelowBy wr => BelowBy.cell q1 p
      have fq2 := fun p : BelowBy wr => BelowBy.cell q2 p
      have CI : Hid (∀ p : BelowBy wr, _) := fun p => (HC1.out p.w p.h).1
      cases bb with
      | false =>
        have HB2 : Hid (false = (mb && (ls.take (k + 1)).all fun v => isB v (.mk h ks))) := by unfold Hid; have := HBB.out; rw [HSN.out, ← Bool.and_assoc, ← this]; rfl
        clear HBB HSN
        go_wp2_with fail
        refine wp_region_below (by kernel_rfl) (by kernel_rfl) (Below.refl _ _) ?_
        repeat (go_big_quiet_step (first | (go_at_call 24; exact Calls.below_of (CI.out _)) | fail))
        refine wpQuiet_nil ?_
        intro _ hw1
        obtain ⟨⟨w2_, hq⟩, hw2⟩ := hw1
        subst hw2
        have HZ := Lib.hid hq
        clear hq fx0 fx1 fx2 fx3 fx4 fx5 fq0 fq1 fq2 x0 x1 x2 x3 x4 x5 q0 q1 q2
        obtain ⟨q0, q1, q2⟩ := HQ.out _ HZ.out
        have HF := Lib.hid (HC1.out _ HZ.out).2.1
        have hcat := run_cat (P := Try.prog) fs fv (by have := HLF.out; omega)
        go_wp2_with fail
        refine HF.out.mono ?_
        rintro e w3 ⟨rfl, hb3⟩
        have HZ3 := Lib.hid (below_from HZ.out hb3)
        clear HF hb3 q0 q1 q2
        obtain ⟨q0, q1, q2⟩ := HQ.out _ HZ3.out
        have HS := Lib.hid (HC1.out _ HZ3.out).2.2.1
        go_wp2_with fail
        refine HS.out.mono ?_
        rintro e w4 ⟨rfl, hb4⟩
        have HZ4 := Lib.hid (below_from HZ3.out hb4)
        clear HS hb4 q0 q1 q2
        obtain ⟨q0, q1, q2⟩ := HQ.out _ HZ4.out
        have T1 : Hid (∀ p : BelowBy w4, _) := fun p => (HC1.out p.w (below_from HZ4.out p.h)).2.2.2.1
        have T2 : Hid (∀ p : BelowBy w4, _) := fun p => (HC1.out p.w (below_from HZ4.out p.h)).2.2.2.2
        have f0 := fun p : BelowBy w4 => BelowBy.cell q0 p
        have f1 := fun p : BelowBy w4 => BelowBy.cell q1 p
        have f2 := fun p : BelowBy w4 => BelowBy.cell q2 p
        have gtt : (tv == tv) = true := by simp
        have gtn : (tv != tv) = false := by simp
        have hnw : (n : Int) + (sv : Int) ≤ 100000000 := by have := HLN.out; omega
        go_wp2_with fail
        refine wp_region_below (by kernel_rfl) (by kernel_rfl) (Below.refl _ _) ?_
        repeat (go_big_quiet_step (first | (go_at_call 30; exact Calls.below_of (T1.out _)) | (go_at_call 31; exact Calls.below_of (T2.out _)) | fail))
        refine wpQuiet_nil ?_
        intro _ hw1
        obtain ⟨⟨wq, hq⟩, hw2⟩ := hw1
        subst hw2
        have HZ5 := Lib.hid (below_from HBR.out (below_from HZ4.out hq))
        have HFS2 : Hid (fs ++ fv = flatVs (ls.take (k + 1))) := by unfold Hid; rw [HFT.out, HFS.out]
        have HN2 : Hid (n + sv = T.sizes (ls.take (k + 1))) := by unfold Hid; rw [HNT.out, HN.out]
        clear f0 f1 f2 q0 q1 q2 hq T1 T2
        go_wp2_with fail
        go_roundw
        case rel => exact ⟨k + 1, false, fs ++ fv, n + sv, by omega, by go_num, rfl, rfl, by go_num, HB2, HFS2, HN2, HZ5⟩
        case measure => simp [intOf]; omega
      | true =>
        have hmb1 : mb = true := by have := HBB.out; rw [eq_comm, Bool.and_eq_true] at this; exact this.1
        subst hmb1
        have HB2 : Hid (iv = (true && (ls.take (k + 1)).all fun v => isB v (.mk h ks))) := by unfold Hid; have := HBB.out; rw [HSN.out, ← Bool.and_assoc, ← this, Bool.true_and]
        clear HBB HSN
        simp only [Bool.true_and] at CI
        go_wp2_with fail
        refine wp_region_below (by kernel_rfl) (by kernel_rfl) (Below.refl _ _) ?_
        repeat (go_big_quiet_step (first | (go_at_call 24; exact Calls.below_of (CI.out _)) | fail))
        refine wpQuiet_nil ?_
        intro _ hw1
        obtain ⟨⟨w2_, hq⟩, hw2⟩ := hw1
        subst hw2
        have HZ := Lib.hid hq
        clear hq fx0 fx1 fx2 fx3 fx4 fx5 fq0 fq1 fq2 x0 x1 x2 x3 x4 x5 q0 q1 q2
        obtain ⟨q0, q1, q2⟩ := HQ.out _ HZ.out
        have HF := Lib.hid (HC1.out _ HZ.out).2.1
        have hcat := run_cat (P := Try.prog) fs fv (by have := HLF.out; omega)
        go_wp2_with fail
        refine HF.out.mono ?_
        rintro e w3 ⟨rfl, hb3⟩
        have HZ3 := Lib.hid (below_from HZ.out hb3)
        clear HF hb3 q0 q1 q2
        obtain ⟨q0, q1, q2⟩ := HQ.out _ HZ3.out
        have HS := Lib.hid (HC1.out _ HZ3.out).2.2.1
        go_wp2_with fail
        refine HS.out.mono ?_
        rintro e w4 ⟨rfl, hb4⟩
        have HZ4 := Lib.hid (below_from HZ3.out hb4)
        clear HS hb4 q0 q1 q2
        obtain ⟨q0, q1, q2⟩ := HQ.out _ HZ4.out
        have T1 : Hid (∀ p : BelowBy w4, _) := fun p => (HC1.out p.w (below_from HZ4.out p.h)).2.2.2.1
        have T2 : Hid (∀ p : BelowBy w4, _) := fun p => (HC1.out p.w (below_from HZ4.out p.h)).2.2.2.2
        have f0 := fun p : BelowBy w4 => BelowBy.cell q0 p
        have f1 := fun p : BelowBy w4 => BelowBy.cell q1 p
        have f2 := fun p : BelowBy w4 => BelowBy.cell q2 p
        have gtt : (tv == tv) = true := by simp
        have gtn : (tv != tv) = false := by simp
        have hnw : (n : Int) + (sv : Int) ≤ 100000000 := by have := HLN.out; omega
        go_wp2_with fail
        refine wp_region_below (by kernel_rfl) (by kernel_rfl) (Below.refl _ _) ?_
        repeat (go_big_quiet_step (first | (go_at_call 30; exact Calls.below_of (T1.out _)) | (go_at_call 31; exact Calls.below_of (T2.out _)) | fail))
        refine wpQuiet_nil ?_
        intro _ hw1
        obtain ⟨⟨wq, hq⟩, hw2⟩ := hw1
        subst hw2
        have HZ5 := Lib.hid (below_from HBR.out (below_from HZ4.out hq))
        have HFS2 : Hid (fs ++ fv = flatVs (ls.take (k + 1))) := by unfold Hid; rw [HFT.out, HFS.out]
        have HN2 : Hid (n + sv = T.sizes (ls.take (k + 1))) := by unfold Hid; rw [HNT.out, HN.out]
        clear f0 f1 f2 q0 q1 q2 hq T1 T2
        go_wp2_with fail
        go_roundw
        case rel => exact ⟨k + 1, iv, fs ++ fv, n + sv, by omega, by go_num, rfl, rfl, by go_num, HB2, HFS2, HN2, HZ5⟩
        case measure => simp [intOf]; omega
    · have hkk : k = ls.length := by omega
      subst hkk
      have HBA : Hid (bb = (mb && ls.all fun v => isB v (.mk h ks))) := by have := HBB.out; rwa [List.take_length] at this
      have HFA : Hid (fs = flatVs ls) := by have := HFS.out; rwa [List.take_length] at this
      have HNA : Hid (n = T.sizes ls) := by have := HN.out; rwa [List.take_length] at this
      rw [← HBA.out] at CVI
      rw [← HFA.out] at CVF
      rw [← HNA.out] at CVS
      clear hlt hk HBB HFS HN ex HBA HFA HNA
      have gss : (fs == fs) = true := by simp
      have gbb : (bb == bb) = true := by simp
      have gnn : ((n : Int) == (n : Int)) = true := by simp
      have hbr := HBR.out
      have HB4_ := Lib.hid (below_from HBX.out hbr)
      have Ex4_ := Lib.hid ((hbr.block _ (lt_of_block EX.out)).trans EX.out)
      clear hbr HBR
      obtain ⟨x0, x1, x2, x3, x4, x5⟩ := re_at_box Ex4_.out
      go_wp2_with fail
      refine (CVI.out _ HB4_.out).mono ?_
      rintro e w5 ⟨rfl, hb5⟩
      clear x0 x1 x2 x3 x4 x5
      have HB5_ := Lib.hid (below_from HB4_.out hb5)
      have Ex5_ := Lib.hid ((hb5.block _ (lt_of_block Ex4_.out)).trans Ex4_.out)
      go_wp2_with fail
      refine (CVF.out _ HB5_.out).mono ?_
      rintro e w6 ⟨rfl, hb6⟩
      have HB6_ := Lib.hid (below_from HB5_.out hb6)
      have Ex6_ := Lib.hid ((hb6.block _ (lt_of_block Ex5_.out)).trans Ex5_.out)
      go_wp2_with fail
      refine (CVS.out _ HB6_.out).mono ?_
      rintro e w7 ⟨rfl, hb7⟩
      have HB7_ := Lib.hid (below_from HB6_.out hb7)
      have Ex7_ := Lib.hid ((hb7.block _ (lt_of_block Ex6_.out)).trans Ex6_.out)
      go_wp2_with fail
      refine (CA.out _ HB7_.out).mono ?_
      rintro e w9 ⟨rfl, hb9⟩
      have hb := below_from HW.out (below_from HB7_.out hb9)
      clear hb9
      go_wp2_with fail
      go_ret
      exact ⟨rfl, hb⟩
namespace lawValIs
open Go.ChangeShapes Go.WideShapes Go.ChangeAt
open Go.ChangeMaps (open_string)
set_option maxRecDepth 100000 in
theorem contract (H : Type) (enc : TypeId × Value → H) (W : World) (base : Nat) (args : Array Value) (ds gs : List (DataW H)) (before : List MemPlace)
    (hval : ∀ (j : Nat) t v, Try.f8.params[j]? = some t → args[j]? = some v → Value.okWide Try.prog W .any base t v)
    (hW : DataW.Whole enc Try.prog Try.f8.params.toList Rows.valIsSpec.vars false W args.toList ds gs before) (hk : Rows.uptoSmall H (ds ++ gs) = true) :
    Calls Try.prog 8 args W fun e W' => ∃ v, e = .returned v ∧ Rows.valIsSpec.post enc Try.prog Try.f8 false true false false W args v W' := by
  have hW' := hW
  obtain ⟨p, q, hA0, hV, rfl, hfz, hnd⟩ := hW
  have hA : DataW.TrodAll enc Try.prog W 0 (fun _ => true) true Try.f8.params.toList args.toList ds p := hA0
  rw [Try.params8] at hA hval
  obtain ⟨v0, vs0, d0, ds0, p0, q0, hargs, rfl, rfl, h0, r0⟩ := trodAll_cons hA
  obtain ⟨v1, vs1, d1, ds1, p1, q1, rfl, rfl, rfl, h1, r1⟩ := trodAll_cons r0
  obtain ⟨rfl, rfl, rfl⟩ := trodAll_nil r1
  obtain rfl : args = #[v0, v1] := by cases args; simp_all
  obtain ⟨rfl, rfl⟩ := trodVars_none hV
  have hkk : Rows.uptoBulk d0 + Rows.uptoBulk d1 ≤ 1048576 := by simp [Rows.uptoSmall, Rows.uptoBulkAll] at hk; omega
  obtain ⟨hx, kx, A0, c0, rfl, hc0, hr0, hz0⟩ := open_re (hval 0 34 v0 rfl rfl) h0
  obtain ⟨l, A1, c1, rfl, hc1, hr1, hz1⟩ := open_vals (hval 1 22 v1 rfl rfl) h1
  refine (valIs_walk hx kx A0 c0 l A1 c1 W (by omega) hc0 hr0 (by omega) hr1).mono fun e W' ⟨he, hb⟩ => ?_
  subst he
  exact ⟨_, rfl, post_true Try.laidOut (by rw [Try.params8]; intro t ht; simp at ht; rcases ht with rfl | rfl <;> exact ⟨by kernel_rfl, of_decide_eq_true (by kernel_rfl)⟩) hW' rfl rfl rfl Try.underlying4 hb⟩
set_option maxRecDepth 100000 in
theorem lifted (os : Os) (started : os.Started) (H : Type) (enc : TypeId × Value → H) (F : Stop.Interp) :
    ReturnsInHanded {} Try.checked os 8 .any ((Rows.OpenSpec.upto Rows.valIsSpec).pre6 enc Try.prog Try.f8 Rows.valIsUptoRow.domain false) (((Rows.OpenSpec.upto Rows.valIsSpec).at F).post enc Try.prog Try.f8 false true false false) := by
  refine returnsInHanded_of_cond (C := Try.checked) (s := Rows.OpenSpec.upto Rows.valIsSpec) (k := Rows.uptoSmall) rfl Try.own started (by kernel_rfl) Try.func8
    (OpenSpec.witness (enc := enc) (C := Try.checked) (s := Rows.OpenSpec.upto Rows.valIsSpec) (k := Rows.uptoSmall) rfl false ⟨#[], #[.agg #[.int .u8 0, .int .u64 0, .int .u64 0, .int .u64 0, .int .u64 0, .slice none 0 0], .slice none 0 0], []⟩ 8 (by kernel_rfl) (by kernel_rfl) (by kernel_rfl)
      (x := ([.agg [.lit (.int .u8 0), .agg [.lit (.int .u64 0), .lit (.int .u64 0), .lit (.int .u64 0), .lit (.int .u64 0)], .nil], .nil], [], [])) (by kernel_rfl) rfl (by kernel_rfl)) ?_
  intro W base args ds gs before hval hW _ hk _
  exact contract H enc W base args ds gs before hval hW hk
theorem proved : Rows.ValIsUptoSaid :=
  OpenClaim.holds_of_cond 8 Try.f8 rfl rfl rfl rfl rfl rfl rfl ⟨rfl, rfl, rfl, rfl, rfl⟩ rfl rfl rfl rfl rfl (by kernel_rfl) Try.func8 (by kernel_rfl)
    (of_decide_eq_true (by kernel_rfl)) (by unfold Func.isWrapper; first | (rw [if_pos (by decide +kernel)]; kernel_rfl) | (rw [if_neg (by decide +kernel)]; exact ⟨rfl, rfl⟩))
    (fun os started H enc _ F => lifted os started H enc F)
end lawValIs
end Go.Proofs.Yteokbmngebckjaa
