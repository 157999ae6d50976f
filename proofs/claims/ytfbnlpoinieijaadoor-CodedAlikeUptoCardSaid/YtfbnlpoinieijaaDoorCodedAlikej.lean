/- Whether any two stand for the same is the document's; bits play no part in it. For every input that is not too large. -/
import Derived.Test.YtfbnlpoinieijaaDoorBj
import Derived.Test.YtfbnlpoinieijaaDoorBh
import Derived.Test.YtfbnlpoinieijaaDoorBf
import Derived.Test.YtfbnlpoinieijaaDoorBd
import Derived.Test.YtfbnlpoinieijaaDoorBg
import Derived.Test.YtfbnlpoinieijaaDoorBe
import Derived.Deep.CutRange
namespace Go.Proofs.YtfbnlpoinieijaaDoor
open Go.RowKit
set_option linter.unusedVariables false
set_option linter.unusedSimpArgs false

theorem few_ofA {t : Co} (h : greatC 60 t = false) : t.size ≤ 60 ∧ fewC t := ⟨(great_few (m := 60) h).1, fun x hx => Nat.le_trans ((great_few (m := 60) h).2 x hx) (by decide)⟩
theorem few_fuse {s : List UInt8} {h : CH} {ks : List Co} (hs : s.length ≤ 50) (hg : greatC 60 (.mk h ks) = false) : fewC (.mk (fuseH s h) ks) := by
  have hf := (great_few (m := 60) hg).2
  intro x hx
  simp only [T.all, List.mem_cons] at hx
  rcases hx with rfl | hx
  · have := hf (.mk h ks) (by simp [T.all])
    simp only [T.head] at this ⊢
    unfold fuseH
    split <;> (try simp) <;> omega
  · have := hf x (by simp only [T.all, List.mem_cons]; exact .inr hx)
    omega
theorem bare_fuse (s : List UInt8) (h : CH) (ks : List Co) : bareT (.mk (fuseH s h) ks) = bareT (.mk h ks) := by
  simp only [bareT]
  unfold fuseH
  split <;> rfl
theorem alike_comm (a b : Co) : alikeB b a = alikeB a b := by
  unfold alikeB
  rw [sameT_comm, Bool.and_comm (mayC b)]
theorem alike_fuse (s : List UInt8) (h : CH) (ks : List Co) : alikeB (.mk (fuseH s h) ks) (.mk h ks) = (mayC (.mk (fuseH s h) ks) && mayC (.mk h ks)) := by
  unfold alikeB
  rw [bare_fuse, sameT_refl, Bool.and_true]
set_option maxRecDepth 100000 in
set_option maxHeartbeats 40000000 in
theorem codedAlike_walk (h1 h2 : CH) (k1 k2 : List Co) (A1 A2 : Option Addr) (c1 c2 : Nat) (s : List UInt8) (w : World) (hm : T.sizes k1 ≤ 1048576) (hm2 : T.sizes k2 ≤ 1048576) (hc : k1.length ≤ c1) (hc2 : k2.length ≤ c2) (hr : InRow CE (fun _ => True) w k1 A1 0) (hr2 : InRow CE (fun _ => True) w k2 A2 0) (ht : TzOk w) :
    Calls Tryd.prog 17 #[coV h1 A1 k1.length c1, coV h2 A2 k2.length c2, .string (str s)] w fun e w' => e = .returned (.bool true) ∧ Below w.heap.size w w' := by
  obtain ⟨W, hW⟩ : ∃ W, (w.alloc (.cells (coA h1 A1 k1.length c1) 27)).alloc (.cells (coA h2 A2 k2.length c2) 27) = W := ⟨_, rfl⟩
  have hbW : Below w.heap.size w W := by rw [← hW]; exact below_new (below_new (Below.refl _ _) _) _
  obtain ⟨n1, n2⟩ := two_new (w := w) (.cells (coA h1 A1 k1.length c1) 27) (.cells (coA h2 A2 k2.length c2) 27)
  rw [hW] at n1 n2
  have Q : Hid (∀ X, Below W.heap.size W X → X.cell? ⟨w.heap.size, 0, none⟩ = some (.int .u8 (h1.k.toNat : Int)) ∧ X.cell? ⟨w.heap.size, 1, none⟩ = some (.string (str h1.b)) ∧ X.cell? ⟨w.heap.size, 2, none⟩ = some (.int .u64 (h1.s.a.toNat : Int)) ∧ X.cell? ⟨w.heap.size, 3, none⟩ = some (.int .u64 (h1.s.b.toNat : Int)) ∧ X.cell? ⟨w.heap.size, 4, none⟩ = some (.int .u64 (h1.s.c.toNat : Int)) ∧ X.cell? ⟨w.heap.size, 5, none⟩ = some (.int .u64 (h1.s.d.toNat : Int)) ∧ X.cell? ⟨w.heap.size, 6, none⟩ = some (.slice A1 k1.length c1) ∧ X.cell? ⟨w.heap.size + 1, 0, none⟩ = some (.int .u8 (h2.k.toNat : Int)) ∧ X.cell? ⟨w.heap.size + 1, 1, none⟩ = some (.string (str h2.b)) ∧ X.cell? ⟨w.heap.size + 1, 2, none⟩ = some (.int .u64 (h2.s.a.toNat : Int)) ∧ X.cell? ⟨w.heap.size + 1, 3, none⟩ = some (.int .u64 (h2.s.b.toNat : Int)) ∧ X.cell? ⟨w.heap.size + 1, 4, none⟩ = some (.int .u64 (h2.s.c.toNat : Int)) ∧ X.cell? ⟨w.heap.size + 1, 5, none⟩ = some (.int .u64 (h2.s.d.toNat : Int)) ∧ X.cell? ⟨w.heap.size + 1, 6, none⟩ = some (.slice A2 k2.length c2)) := by
    intro X hX
    obtain ⟨a0, a1, a2, a3, a4, a5, a6⟩ := co_at_box ((hX.block _ (lt_of_block n1)).trans n1)
    obtain ⟨b0, b1, b2, b3, b4, b5, b6⟩ := co_at_box ((hX.block _ (lt_of_block n2)).trans n2)
    exact ⟨a0, a1, a2, a3, a4, a5, a6, b0, b1, b2, b3, b4, b5, b6⟩
  have CG1 : Hid (∀ X, Below W.heap.size W X → Calls Tryd.prog 19 #[coV h1 A1 k1.length c1, .int .i64 60] X fun e w' => e = .returned (.bool (greatC 60 (.mk h1 k1))) ∧ Below X.heap.size X w') := fun X hX => cGreat_any h1 k1 A1 c1 60 X (by omega) hc (hr.below (below_from hbW hX))
  have CG2 : Hid (∀ X, Below W.heap.size W X → Calls Tryd.prog 19 #[coV h2 A2 k2.length c2, .int .i64 60] X fun e w' => e = .returned (.bool (greatC 60 (.mk h2 k2))) ∧ Below X.heap.size X w') := fun X hX => cGreat_any h2 k2 A2 c2 60 X (by omega) hc2 (hr2.below (below_from hbW hX))
  have CA : Hid (∀ X, Below W.heap.size W X → Calls Tryd.prog 60 #[] X fun e w' => e = .returned (.bool true) ∧ Below X.heap.size X w') := fun X hX => awake16_any X (ht.below (below_from hbW hX))
  have CM1 : Hid (greatC 60 (.mk h1 k1) = false → ∀ X, Below W.heap.size W X → Calls Tryd.prog 20 #[coV h1 A1 k1.length c1] X fun e w' => e = .returned (.bool (mayC (.mk h1 k1))) ∧ Below X.heap.size X w') := fun hg X hX => refMayC_any h1 k1 A1 c1 X (by omega) hc (hr.below (below_from hbW hX)) (few_ofA hg).2.short
  have CM2 : Hid (greatC 60 (.mk h2 k2) = false → ∀ X, Below W.heap.size W X → Calls Tryd.prog 20 #[coV h2 A2 k2.length c2] X fun e w' => e = .returned (.bool (mayC (.mk h2 k2))) ∧ Below X.heap.size X w') := fun hg X hX => refMayC_any h2 k2 A2 c2 X (by omega) hc2 (hr2.below (below_from hbW hX)) (few_ofA hg).2.short
  have CMX : Hid (s.length ≤ 50 → greatC 60 (.mk h1 k1) = false → ∀ X, Below W.heap.size W X → Calls Tryd.prog 20 #[coV (fuseH s h1) A1 k1.length c1] X fun e w' => e = .returned (.bool (mayC (.mk (fuseH s h1) k1))) ∧ Below X.heap.size X w') := fun hs hg X hX => refMayC_any (fuseH s h1) k1 A1 c1 X (by omega) hc (hr.below (below_from hbW hX)) (few_fuse hs hg).short
  have CB1 : Hid (∀ X, Below W.heap.size W X → Calls Tryd.prog 26 #[coV h1 A1 k1.length c1] X (ReNew (bareT (.mk h1 k1)) X)) := fun X hX => refBareC_upto 1048577 _ h1 k1 A1 c1 X (by omega) (by decide) hc (hr.below (below_from hbW hX))
  have CB2 : Hid (∀ X, Below W.heap.size W X → Calls Tryd.prog 26 #[coV h2 A2 k2.length c2] X (ReNew (bareT (.mk h2 k2)) X)) := fun X hX => refBareC_upto 1048577 _ h2 k2 A2 c2 X (by omega) (by decide) hc2 (hr2.below (below_from hbW hX))
  have CS : Hid (∀ (x : RH) (kx : List Re) (Ax : Option Addr) (cx : Nat) (y : RH) (ky : List Re) (Ay : Option Addr) (cy : Nat) (X : World), bareT (.mk h1 k1) = .mk x kx → bareT (.mk h2 k2) = .mk y ky → InRow RE (fun _ => True) X kx Ax 0 → InRow RE (fun _ => True) X ky Ay 0 →
      Calls Tryd.prog 69 #[reV x Ax kx.length cx, reV y Ay ky.length cy] X fun e w' => e = .returned (.bool (sameT (bareT (.mk h1 k1)) (bareT (.mk h2 k2)))) ∧ Below X.heap.size X w') := by
    intro x kx Ax cx y ky Ay cy X ex ey hx hy
    have s1 := bare_size (.mk h1 k1)
    have s2 := bare_size (.mk h2 k2)
    rw [ex] at s1
    rw [ey] at s2
    simp only [T.size] at s1 s2
    rw [ex, ey]
    exact refSame_upto 100000000 _ x y kx ky Ax Ay cx cy X (by omega) (by decide) (by omega) hx hy
  have AL1 : Hid (greatC 60 (.mk h1 k1) = false → greatC 60 (.mk h2 k2) = false → ∀ X, Below W.heap.size W X → Calls Tryd.prog 70 #[coV h1 A1 k1.length c1, coV h2 A2 k2.length c2] X fun e w' => e = .returned (.bool ((mayC (.mk h1 k1) && mayC (.mk h2 k2)) && sameT (bareT (.mk h1 k1)) (bareT (.mk h2 k2)))) ∧ Below X.heap.size X w') := fun hg hg2 X hX => alike_any _ h1 h2 k1 k2 A1 A2 c1 c2 X (by omega) (by omega) hc hc2 (hr.below (below_from hbW hX)) (hr2.below (below_from hbW hX)) (few_ofA hg).2.short (few_ofA hg2).2.short
  have AL2 : Hid (greatC 60 (.mk h1 k1) = false → greatC 60 (.mk h2 k2) = false → ∀ X, Below W.heap.size W X → Calls Tryd.prog 70 #[coV h2 A2 k2.length c2, coV h1 A1 k1.length c1] X fun e w' => e = .returned (.bool ((mayC (.mk h1 k1) && mayC (.mk h2 k2)) && sameT (bareT (.mk h1 k1)) (bareT (.mk h2 k2)))) ∧ Below X.heap.size X w') := fun hg hg2 X hX => by
    have := alike_any _ h2 h1 k2 k1 A2 A1 c2 c1 X (by omega) (by omega) hc2 hc (hr2.below (below_from hbW hX)) (hr.below (below_from hbW hX)) (few_ofA hg2).2.short (few_ofA hg).2.short
    rw [alike_comm] at this
    exact this
  have AL3 : Hid (s.length ≤ 50 → greatC 60 (.mk h1 k1) = false → ∀ X, Below W.heap.size W X → Calls Tryd.prog 70 #[coV (fuseH s h1) A1 k1.length c1, coV h1 A1 k1.length c1] X fun e w' => e = .returned (.bool (mayC (.mk (fuseH s h1) k1) && mayC (.mk h1 k1))) ∧ Below X.heap.size X w') := fun hs hg X hX => by
    have := alike_any _ (fuseH s h1) h1 k1 k1 A1 A1 c1 c1 X (by omega) (by omega) hc hc (hr.below (below_from hbW hX)) (hr.below (below_from hbW hX)) (few_fuse hs hg).short (few_ofA hg).2.short
    rw [alike_fuse] at this
    exact this
  have GF1 := Lib.hid (fun (hg : greatC 60 (.mk h1 k1) = false) => (show h1.b.length ≤ 100 from (great_few (m := 60) hg).2 (.mk h1 k1) (by simp [T.all])))
  have HW := Lib.hid hbW
  have HE := Lib.hid hW
  clear hW n1 n2 hr hr2 hm hm2 hc hc2 ht hbW
  generalize greatC 60 (.mk h1 k1) = g1 at *
  generalize greatC 60 (.mk h2 k2) = g2 at *
  generalize sameT (bareT (.mk h1 k1)) (bareT (.mk h2 k2)) = sm at *
  generalize bareT (.mk h1 k1) = b1 at *
  generalize bareT (.mk h2 k2) = b2 at *
  generalize mayC (.mk h1 k1) = m1 at *
  generalize mayC (.mk h2 k2) = m2 at *
  generalize mayC (.mk (fuseH s h1) k1) = mx at *
  go_enter Tryd.func17, Tryd.ntmps17
  go_wp2_with fail
  refine (CG1.out _ (by rw [← HE.out]; exact Below.refl _ _)).mono ?_
  rintro e w1 ⟨rfl, hb⟩
  rw [HE.out] at hb
  have HB1 := Lib.hid hb
  clear hb
  obtain ⟨x0, x1, x2, x3, x4, x5, x6, y0, y1, y2, y3, y4, y5, y6⟩ := Q.out _ HB1.out
  cases g1 with
  | true =>
    go_wp2_with fail
    refine (CA.out _ HB1.out).mono ?_
    rintro e w2 ⟨rfl, hb⟩
    have HB2 := Lib.hid (below_from HB1.out hb)
    clear hb HB1 x0 x1 x2 x3 x4 x5 x6 y0 y1 y2 y3 y4 y5 y6
    obtain ⟨x0, x1, x2, x3, x4, x5, x6, y0, y1, y2, y3, y4, y5, y6⟩ := Q.out _ HB2.out
    have hb := below_from HW.out HB2.out
    go_wp2_with fail
    go_ret
    exact ⟨rfl, hb⟩
  | false =>
    go_wp2_with fail
    refine (CG2.out _ HB1.out).mono ?_
    rintro e w2 ⟨rfl, hb⟩
    have HB2 := Lib.hid (below_from HB1.out hb)
    clear hb HB1 x0 x1 x2 x3 x4 x5 x6 y0 y1 y2 y3 y4 y5 y6
    obtain ⟨x0, x1, x2, x3, x4, x5, x6, y0, y1, y2, y3, y4, y5, y6⟩ := Q.out _ HB2.out
    cases g2 with
    | true =>
      go_wp2_with fail
      refine (CA.out _ HB2.out).mono ?_
      rintro e w3 ⟨rfl, hb⟩
      have HB3 := Lib.hid (below_from HB2.out hb)
      clear hb HB2 x0 x1 x2 x3 x4 x5 x6 y0 y1 y2 y3 y4 y5 y6
      obtain ⟨x0, x1, x2, x3, x4, x5, x6, y0, y1, y2, y3, y4, y5, y6⟩ := Q.out _ HB3.out
      have hb := below_from HW.out HB3.out
      go_wp2_with fail
      go_ret
      exact ⟨rfl, hb⟩
    | false =>
      by_cases ls : 50 < s.length
      · have gls : decide (((s.length : Nat) : Int) > 50) = true := by simp; omega
        go_wp2_with fail
        refine (CA.out _ HB2.out).mono ?_
        rintro e w3 ⟨rfl, hb⟩
        have HB3 := Lib.hid (below_from HB2.out hb)
        clear hb HB2 x0 x1 x2 x3 x4 x5 x6 y0 y1 y2 y3 y4 y5 y6
        obtain ⟨x0, x1, x2, x3, x4, x5, x6, y0, y1, y2, y3, y4, y5, y6⟩ := Q.out _ HB3.out
        have hb := below_from HW.out HB3.out
        go_wp2_with fail
        go_ret
        exact ⟨rfl, hb⟩
      have gls : decide (((s.length : Nat) : Int) > 50) = false := by simp; omega
      have CMX' := Lib.hid (CMX.out (by omega) (by trivial))
      have AL3' := Lib.hid (AL3.out (by omega) (by trivial))
      have AL1' := Lib.hid (AL1.out (by trivial) (by trivial))
      have AL2' := Lib.hid (AL2.out (by trivial) (by trivial))
      have CM1' := Lib.hid (CM1.out (by trivial))
      have CM2' := Lib.hid (CM2.out (by trivial))
      have hb1 := GF1.out (by trivial)
      have F1 := Lib.hid (fun X => fuse_any s h1 A1 k1.length c1 X (by omega))
      clear GF1 hb1 CMX AL1 AL2 AL3 CM1 CM2
      go_wp2_with fail
      refine (CM1'.out _ HB2.out).mono ?_
      rintro e w3 ⟨rfl, hb⟩
      have HB3 := Lib.hid (below_from HB2.out hb)
      clear hb HB2 x0 x1 x2 x3 x4 x5 x6 y0 y1 y2 y3 y4 y5 y6
      obtain ⟨x0, x1, x2, x3, x4, x5, x6, y0, y1, y2, y3, y4, y5, y6⟩ := Q.out _ HB3.out
      cases m1 with
      | false =>
        go_upto_region 4 with fail
        have P1 : Hid (∀ q : BelowBy w3, Below W.heap.size W q.w) := fun q => below_from HB3.out q.h
        have fx0 := fun q : BelowBy w3 => BelowBy.cell x0 q
        have fx1 := fun q : BelowBy w3 => BelowBy.cell x1 q
        have fx2 := fun q : BelowBy w3 => BelowBy.cell x2 q
        have fx3 := fun q : BelowBy w3 => BelowBy.cell x3 q
        have fx4 := fun q : BelowBy w3 => BelowBy.cell x4 q
        have fx5 := fun q : BelowBy w3 => BelowBy.cell x5 q
        have fx6 := fun q : BelowBy w3 => BelowBy.cell x6 q
        have fy0 := fun q : BelowBy w3 => BelowBy.cell y0 q
        have fy1 := fun q : BelowBy w3 => BelowBy.cell y1 q
        have fy2 := fun q : BelowBy w3 => BelowBy.cell y2 q
        have fy3 := fun q : BelowBy w3 => BelowBy.cell y3 q
        have fy4 := fun q : BelowBy w3 => BelowBy.cell y4 q
        have fy5 := fun q : BelowBy w3 => BelowBy.cell y5 q
        have fy6 := fun q : BelowBy w3 => BelowBy.cell y6 q
        refine wp_region_below (by kernel_rfl) (by kernel_rfl) (Below.refl _ _) ?_
        repeat (go_big_quiet_step (fail))
        refine wpQuiet_nil ?_
        intro wq hw1
        have hq : Below w3.heap.size w3 wq := by obtain ⟨p, hp⟩ := hw1; rw [hp]; exact p.h
        clear hw1
        have HB10 := Lib.hid (below_from HB3.out hq)
        clear HB3 P1 x0 x1 x2 x3 x4 x5 x6 y0 y1 y2 y3 y4 y5 y6 fx0 fx1 fx2 fx3 fx4 fx5 fx6 fy0 fy1 fy2 fy3 fy4 fy5 fy6 hq
        obtain ⟨x0, x1, x2, x3, x4, x5, x6, y0, y1, y2, y3, y4, y5, y6⟩ := Q.out _ HB10.out
        go_wp2_with fail
        refine (F1.out _).mono ?_
        rintro e w20 ⟨rfl, hb⟩
        have HB20 := Lib.hid (below_new (below_from HB10.out hb) (.cells (coA (fuseH s h1) A1 k1.length c1) 27))
        have Z20 := Lib.hid (new_at1 (w := w20) (.cells (coA (fuseH s h1) A1 k1.length c1) 27))
        clear hb HB10 x0 x1 x2 x3 x4 x5 x6 y0 y1 y2 y3 y4 y5 y6
        go_upto_region 6 with fail
        obtain ⟨w21, hw21⟩ : ∃ x, w20.alloc (.cells (coA (fuseH s h1) A1 k1.length c1) 27) = x := ⟨_, rfl⟩
        have HB21 : Hid (Below W.heap.size W w21) := by rw [← hw21]; exact HB20.out
        have Z21 : Hid (w21.heap[w20.heap.size]? = some (.cells (coA (fuseH s h1) A1 k1.length c1) 27 (0, 0))) := by rw [← hw21]; exact Z20.out
        rw [hw21]
        clear hw21 HB20 Z20
        obtain ⟨x0, x1, x2, x3, x4, x5, x6, y0, y1, y2, y3, y4, y5, y6⟩ := Q.out _ HB21.out
        obtain ⟨z0, z1, z2, z3, z4, z5, z6⟩ := co_at_box Z21.out
        have hss : (sm == sm) = true := by simp
        cases mx with
        | true =>
          have P1 : Hid (∀ q : BelowBy w21, Below W.heap.size W q.w) := fun q => below_from HB21.out q.h
          have fx0 := fun q : BelowBy w21 => BelowBy.cell x0 q
          have fx1 := fun q : BelowBy w21 => BelowBy.cell x1 q
          have fx2 := fun q : BelowBy w21 => BelowBy.cell x2 q
          have fx3 := fun q : BelowBy w21 => BelowBy.cell x3 q
          have fx4 := fun q : BelowBy w21 => BelowBy.cell x4 q
          have fx5 := fun q : BelowBy w21 => BelowBy.cell x5 q
          have fx6 := fun q : BelowBy w21 => BelowBy.cell x6 q
          have fy0 := fun q : BelowBy w21 => BelowBy.cell y0 q
          have fy1 := fun q : BelowBy w21 => BelowBy.cell y1 q
          have fy2 := fun q : BelowBy w21 => BelowBy.cell y2 q
          have fy3 := fun q : BelowBy w21 => BelowBy.cell y3 q
          have fy4 := fun q : BelowBy w21 => BelowBy.cell y4 q
          have fy5 := fun q : BelowBy w21 => BelowBy.cell y5 q
          have fy6 := fun q : BelowBy w21 => BelowBy.cell y6 q
          have fz0 := fun q : BelowBy w21 => BelowBy.cell z0 q
          have fz1 := fun q : BelowBy w21 => BelowBy.cell z1 q
          have fz2 := fun q : BelowBy w21 => BelowBy.cell z2 q
          have fz3 := fun q : BelowBy w21 => BelowBy.cell z3 q
          have fz4 := fun q : BelowBy w21 => BelowBy.cell z4 q
          have fz5 := fun q : BelowBy w21 => BelowBy.cell z5 q
          have fz6 := fun q : BelowBy w21 => BelowBy.cell z6 q
          refine wp_region_below (by kernel_rfl) (by kernel_rfl) (Below.refl _ _) ?_
          repeat (go_big_quiet_step (first
            | (go_at_call 70; (with_reducible exact Calls.below_of (AL1'.out _ (P1.out _))))
            | (go_at_call 70; (with_reducible exact Calls.below_of (AL2'.out _ (P1.out _))))
            | (go_at_call 70; (with_reducible exact Calls.below_of (AL3'.out _ (P1.out _))))
            | (go_at_call 20; (with_reducible exact Calls.below_of (CMX'.out _ (P1.out _))))
            | (go_at_call 20; (with_reducible exact Calls.below_of (CM1'.out _ (P1.out _))))
            | (go_at_call 60; (with_reducible exact Calls.below_of (CA.out _ (P1.out _))))))
          refine wpQuiet_nil ?_
          intro wq hw1
          have hq : Below w21.heap.size w21 wq := by obtain ⟨p, hp⟩ := hw1; rw [hp]; exact p.h
          clear hw1
          have hb := below_from HW.out (below_from HB21.out hq)
          go_wp2_with fail
          go_ret
          exact ⟨rfl, hb⟩
        | false =>
          have P1 : Hid (∀ q : BelowBy w21, Below W.heap.size W q.w) := fun q => below_from HB21.out q.h
          have fx0 := fun q : BelowBy w21 => BelowBy.cell x0 q
          have fx1 := fun q : BelowBy w21 => BelowBy.cell x1 q
          have fx2 := fun q : BelowBy w21 => BelowBy.cell x2 q
          have fx3 := fun q : BelowBy w21 => BelowBy.cell x3 q
          have fx4 := fun q : BelowBy w21 => BelowBy.cell x4 q
          have fx5 := fun q : BelowBy w21 => BelowBy.cell x5 q
          have fx6 := fun q : BelowBy w21 => BelowBy.cell x6 q
          have fy0 := fun q : BelowBy w21 => BelowBy.cell y0 q
          have fy1 := fun q : BelowBy w21 => BelowBy.cell y1 q
          have fy2 := fun q : BelowBy w21 => BelowBy.cell y2 q
          have fy3 := fun q : BelowBy w21 => BelowBy.cell y3 q
          have fy4 := fun q : BelowBy w21 => BelowBy.cell y4 q
          have fy5 := fun q : BelowBy w21 => BelowBy.cell y5 q
          have fy6 := fun q : BelowBy w21 => BelowBy.cell y6 q
          have fz0 := fun q : BelowBy w21 => BelowBy.cell z0 q
          have fz1 := fun q : BelowBy w21 => BelowBy.cell z1 q
          have fz2 := fun q : BelowBy w21 => BelowBy.cell z2 q
          have fz3 := fun q : BelowBy w21 => BelowBy.cell z3 q
          have fz4 := fun q : BelowBy w21 => BelowBy.cell z4 q
          have fz5 := fun q : BelowBy w21 => BelowBy.cell z5 q
          have fz6 := fun q : BelowBy w21 => BelowBy.cell z6 q
          refine wp_region_below (by kernel_rfl) (by kernel_rfl) (Below.refl _ _) ?_
          repeat (go_big_quiet_step (first
            | (go_at_call 70; (with_reducible exact Calls.below_of (AL1'.out _ (P1.out _))))
            | (go_at_call 70; (with_reducible exact Calls.below_of (AL2'.out _ (P1.out _))))
            | (go_at_call 70; (with_reducible exact Calls.below_of (AL3'.out _ (P1.out _))))
            | (go_at_call 20; (with_reducible exact Calls.below_of (CMX'.out _ (P1.out _))))
            | (go_at_call 20; (with_reducible exact Calls.below_of (CM1'.out _ (P1.out _))))
            | (go_at_call 60; (with_reducible exact Calls.below_of (CA.out _ (P1.out _))))))
          refine wpQuiet_nil ?_
          intro wq hw1
          have hq : Below w21.heap.size w21 wq := by obtain ⟨p, hp⟩ := hw1; rw [hp]; exact p.h
          clear hw1
          have hb := below_from HW.out (below_from HB21.out hq)
          go_wp2_with fail
          go_ret
          exact ⟨rfl, hb⟩
      | true =>
        go_wp2_with fail
        refine (CM2'.out _ HB3.out).mono ?_
        rintro e w4 ⟨rfl, hb⟩
        have HB4 := Lib.hid (below_from HB3.out hb)
        clear hb HB3 x0 x1 x2 x3 x4 x5 x6 y0 y1 y2 y3 y4 y5 y6
        obtain ⟨x0, x1, x2, x3, x4, x5, x6, y0, y1, y2, y3, y4, y5, y6⟩ := Q.out _ HB4.out
        cases m2 with
        | false =>
          go_upto_region 4 with fail
          have P1 : Hid (∀ q : BelowBy w4, Below W.heap.size W q.w) := fun q => below_from HB4.out q.h
          have fx0 := fun q : BelowBy w4 => BelowBy.cell x0 q
          have fx1 := fun q : BelowBy w4 => BelowBy.cell x1 q
          have fx2 := fun q : BelowBy w4 => BelowBy.cell x2 q
          have fx3 := fun q : BelowBy w4 => BelowBy.cell x3 q
          have fx4 := fun q : BelowBy w4 => BelowBy.cell x4 q
          have fx5 := fun q : BelowBy w4 => BelowBy.cell x5 q
          have fx6 := fun q : BelowBy w4 => BelowBy.cell x6 q
          have fy0 := fun q : BelowBy w4 => BelowBy.cell y0 q
          have fy1 := fun q : BelowBy w4 => BelowBy.cell y1 q
          have fy2 := fun q : BelowBy w4 => BelowBy.cell y2 q
          have fy3 := fun q : BelowBy w4 => BelowBy.cell y3 q
          have fy4 := fun q : BelowBy w4 => BelowBy.cell y4 q
          have fy5 := fun q : BelowBy w4 => BelowBy.cell y5 q
          have fy6 := fun q : BelowBy w4 => BelowBy.cell y6 q
          refine wp_region_below (by kernel_rfl) (by kernel_rfl) (Below.refl _ _) ?_
          repeat (go_big_quiet_step (fail))
          refine wpQuiet_nil ?_
          intro wq hw1
          have hq : Below w4.heap.size w4 wq := by obtain ⟨p, hp⟩ := hw1; rw [hp]; exact p.h
          clear hw1
          have HB10 := Lib.hid (below_from HB4.out hq)
          clear HB4 P1 x0 x1 x2 x3 x4 x5 x6 y0 y1 y2 y3 y4 y5 y6 fx0 fx1 fx2 fx3 fx4 fx5 fx6 fy0 fy1 fy2 fy3 fy4 fy5 fy6 hq
          obtain ⟨x0, x1, x2, x3, x4, x5, x6, y0, y1, y2, y3, y4, y5, y6⟩ := Q.out _ HB10.out
          go_wp2_with fail
          refine (F1.out _).mono ?_
          rintro e w20 ⟨rfl, hb⟩
          have HB20 := Lib.hid (below_new (below_from HB10.out hb) (.cells (coA (fuseH s h1) A1 k1.length c1) 27))
          have Z20 := Lib.hid (new_at1 (w := w20) (.cells (coA (fuseH s h1) A1 k1.length c1) 27))
          clear hb HB10 x0 x1 x2 x3 x4 x5 x6 y0 y1 y2 y3 y4 y5 y6
          go_upto_region 6 with fail
          obtain ⟨w21, hw21⟩ : ∃ x, w20.alloc (.cells (coA (fuseH s h1) A1 k1.length c1) 27) = x := ⟨_, rfl⟩
          have HB21 : Hid (Below W.heap.size W w21) := by rw [← hw21]; exact HB20.out
          have Z21 : Hid (w21.heap[w20.heap.size]? = some (.cells (coA (fuseH s h1) A1 k1.length c1) 27 (0, 0))) := by rw [← hw21]; exact Z20.out
          rw [hw21]
          clear hw21 HB20 Z20
          obtain ⟨x0, x1, x2, x3, x4, x5, x6, y0, y1, y2, y3, y4, y5, y6⟩ := Q.out _ HB21.out
          obtain ⟨z0, z1, z2, z3, z4, z5, z6⟩ := co_at_box Z21.out
          have hss : (sm == sm) = true := by simp
          cases mx with
          | true =>
            have P1 : Hid (∀ q : BelowBy w21, Below W.heap.size W q.w) := fun q => below_from HB21.out q.h
            have fx0 := fun q : BelowBy w21 => BelowBy.cell x0 q
            have fx1 := fun q : BelowBy w21 => BelowBy.cell x1 q
            have fx2 := fun q : BelowBy w21 => BelowBy.cell x2 q
            have fx3 := fun q : BelowBy w21 => BelowBy.cell x3 q
            have fx4 := fun q : BelowBy w21 => BelowBy.cell x4 q
            have fx5 := fun q : BelowBy w21 => BelowBy.cell x5 q
            have fx6 := fun q : BelowBy w21 => BelowBy.cell x6 q
            have fy0 := fun q : BelowBy w21 => BelowBy.cell y0 q
            have fy1 := fun q : BelowBy w21 => BelowBy.cell y1 q
            have fy2 := fun q : BelowBy w21 => BelowBy.cell y2 q
            have fy3 := fun q : BelowBy w21 => BelowBy.cell y3 q
            have fy4 := fun q : BelowBy w21 => BelowBy.cell y4 q
            have fy5 := fun q : BelowBy w21 => BelowBy.cell y5 q
            have fy6 := fun q : BelowBy w21 => BelowBy.cell y6 q
            have fz0 := fun q : BelowBy w21 => BelowBy.cell z0 q
            have fz1 := fun q : BelowBy w21 => BelowBy.cell z1 q
            have fz2 := fun q : BelowBy w21 => BelowBy.cell z2 q
            have fz3 := fun q : BelowBy w21 => BelowBy.cell z3 q
            have fz4 := fun q : BelowBy w21 => BelowBy.cell z4 q
            have fz5 := fun q : BelowBy w21 => BelowBy.cell z5 q
            have fz6 := fun q : BelowBy w21 => BelowBy.cell z6 q
            refine wp_region_below (by kernel_rfl) (by kernel_rfl) (Below.refl _ _) ?_
            repeat (go_big_quiet_step (first
              | (go_at_call 70; (with_reducible exact Calls.below_of (AL1'.out _ (P1.out _))))
              | (go_at_call 70; (with_reducible exact Calls.below_of (AL2'.out _ (P1.out _))))
              | (go_at_call 70; (with_reducible exact Calls.below_of (AL3'.out _ (P1.out _))))
              | (go_at_call 20; (with_reducible exact Calls.below_of (CMX'.out _ (P1.out _))))
              | (go_at_call 20; (with_reducible exact Calls.below_of (CM1'.out _ (P1.out _))))
              | (go_at_call 60; (with_reducible exact Calls.below_of (CA.out _ (P1.out _))))))
            refine wpQuiet_nil ?_
            intro wq hw1
            have hq : Below w21.heap.size w21 wq := by obtain ⟨p, hp⟩ := hw1; rw [hp]; exact p.h
            clear hw1
            have hb := below_from HW.out (below_from HB21.out hq)
            go_wp2_with fail
            go_ret
            exact ⟨rfl, hb⟩
          | false =>
            have P1 : Hid (∀ q : BelowBy w21, Below W.heap.size W q.w) := fun q => below_from HB21.out q.h
            have fx0 := fun q : BelowBy w21 => BelowBy.cell x0 q
            have fx1 := fun q : BelowBy w21 => BelowBy.cell x1 q
            have fx2 := fun q : BelowBy w21 => BelowBy.cell x2 q
            have fx3 := fun q : BelowBy w21 => BelowBy.cell x3 q
            have fx4 := fun q : BelowBy w21 => BelowBy.cell x4 q
            have fx5 := fun q : BelowBy w21 => BelowBy.cell x5 q
            have fx6 := fun q : BelowBy w21 => BelowBy.cell x6 q
            have fy0 := fun q : BelowBy w21 => BelowBy.cell y0 q
            have fy1 := fun q : BelowBy w21 => BelowBy.cell y1 q
            have fy2 := fun q : BelowBy w21 => BelowBy.cell y2 q
            have fy3 := fun q : BelowBy w21 => BelowBy.cell y3 q
            have fy4 := fun q : BelowBy w21 => BelowBy.cell y4 q
            have fy5 := fun q : BelowBy w21 => BelowBy.cell y5 q
            have fy6 := fun q : BelowBy w21 => BelowBy.cell y6 q
            have fz0 := fun q : BelowBy w21 => BelowBy.cell z0 q
            have fz1 := fun q : BelowBy w21 => BelowBy.cell z1 q
            have fz2 := fun q : BelowBy w21 => BelowBy.cell z2 q
            have fz3 := fun q : BelowBy w21 => BelowBy.cell z3 q
            have fz4 := fun q : BelowBy w21 => BelowBy.cell z4 q
            have fz5 := fun q : BelowBy w21 => BelowBy.cell z5 q
            have fz6 := fun q : BelowBy w21 => BelowBy.cell z6 q
            refine wp_region_below (by kernel_rfl) (by kernel_rfl) (Below.refl _ _) ?_
            repeat (go_big_quiet_step (first
              | (go_at_call 70; (with_reducible exact Calls.below_of (AL1'.out _ (P1.out _))))
              | (go_at_call 70; (with_reducible exact Calls.below_of (AL2'.out _ (P1.out _))))
              | (go_at_call 70; (with_reducible exact Calls.below_of (AL3'.out _ (P1.out _))))
              | (go_at_call 20; (with_reducible exact Calls.below_of (CMX'.out _ (P1.out _))))
              | (go_at_call 20; (with_reducible exact Calls.below_of (CM1'.out _ (P1.out _))))
              | (go_at_call 60; (with_reducible exact Calls.below_of (CA.out _ (P1.out _))))))
            refine wpQuiet_nil ?_
            intro wq hw1
            have hq : Below w21.heap.size w21 wq := by obtain ⟨p, hp⟩ := hw1; rw [hp]; exact p.h
            clear hw1
            have hb := below_from HW.out (below_from HB21.out hq)
            go_wp2_with fail
            go_ret
            exact ⟨rfl, hb⟩
        | true =>
          go_upto_region 4 with fail
          have hz := HB4.out
          go_region_held3 (fun X => X.cell? ⟨w.heap.size, 0, none⟩ = some (.int .u8 (h1.k.toNat : Int)) ∧ X.cell? ⟨w.heap.size, 1, none⟩ = some (.string (str h1.b)) ∧ X.cell? ⟨w.heap.size, 2, none⟩ = some (.int .u64 (h1.s.a.toNat : Int)) ∧ X.cell? ⟨w.heap.size, 3, none⟩ = some (.int .u64 (h1.s.b.toNat : Int)) ∧ X.cell? ⟨w.heap.size, 4, none⟩ = some (.int .u64 (h1.s.c.toNat : Int)) ∧ X.cell? ⟨w.heap.size, 5, none⟩ = some (.int .u64 (h1.s.d.toNat : Int)) ∧ X.cell? ⟨w.heap.size, 6, none⟩ = some (.slice A1 k1.length c1) ∧ X.cell? ⟨w.heap.size + 1, 0, none⟩ = some (.int .u8 (h2.k.toNat : Int)) ∧ X.cell? ⟨w.heap.size + 1, 1, none⟩ = some (.string (str h2.b)) ∧ X.cell? ⟨w.heap.size + 1, 2, none⟩ = some (.int .u64 (h2.s.a.toNat : Int)) ∧ X.cell? ⟨w.heap.size + 1, 3, none⟩ = some (.int .u64 (h2.s.b.toNat : Int)) ∧ X.cell? ⟨w.heap.size + 1, 4, none⟩ = some (.int .u64 (h2.s.c.toNat : Int)) ∧ X.cell? ⟨w.heap.size + 1, 5, none⟩ = some (.int .u64 (h2.s.d.toNat : Int)) ∧ X.cell? ⟨w.heap.size + 1, 6, none⟩ = some (.slice A2 k2.length c2))
            (first | (with_reducible exact Q.out _ hz) | (with_reducible exact Q.out _ hz.drew) | fail)
            (first
              | (go_at_call 26; (with_reducible refine (CB1.out _ (by first | exact hz.drew | exact hz | fail)).mono ?_); rintro e w5 ⟨hx, kx, Ax, cx, rfl, ex, hcx, hrx, hb2⟩; have EX := Lib.hid ex; clear ex; have hz := below_from (by first | exact hz.drew | exact hz | fail) hb2; obtain ⟨x0, x1, x2, x3, x4, x5, x6, y0, y1, y2, y3, y4, y5, y6⟩ := Q.out _ hz)
              | (go_at_call 26; (with_reducible refine (CB2.out _ hz).mono ?_); rintro e w6 ⟨hy, ky, Ay, cy, rfl, ey, hcy, hry, hb3⟩; have EY := Lib.hid ey; clear ey; have hz := below_from hz hb3; obtain ⟨x0, x1, x2, x3, x4, x5, x6, y0, y1, y2, y3, y4, y5, y6⟩ := Q.out _ hz)
              | (go_at_call 69; (with_reducible refine (CS.out hx kx Ax cx hy ky Ay cy _ EX.out EY.out ((hrx.there.below hb3).weak fun _ _ => trivial) (hry.weak fun _ _ => trivial)).mono ?_); rintro e w10 ⟨rfl, hb4⟩; have hz := below_from hz hb4; obtain ⟨x0, x1, x2, x3, x4, x5, x6, y0, y1, y2, y3, y4, y5, y6⟩ := Q.out _ hz)
              | fail)
          have HB10 := Lib.hid hz
          clear hz hb2 hb3 hb4 HB4 x0 x1 x2 x3 x4 x5 x6 y0 y1 y2 y3 y4 y5 y6
          obtain ⟨x0, x1, x2, x3, x4, x5, x6, y0, y1, y2, y3, y4, y5, y6⟩ := Q.out _ HB10.out
          go_wp2_with fail
          refine (F1.out _).mono ?_
          rintro e w20 ⟨rfl, hb⟩
          have HB20 := Lib.hid (below_new (below_from HB10.out hb) (.cells (coA (fuseH s h1) A1 k1.length c1) 27))
          have Z20 := Lib.hid (new_at1 (w := w20) (.cells (coA (fuseH s h1) A1 k1.length c1) 27))
          clear hb HB10 x0 x1 x2 x3 x4 x5 x6 y0 y1 y2 y3 y4 y5 y6
          go_upto_region 6 with fail
          obtain ⟨w21, hw21⟩ : ∃ x, w20.alloc (.cells (coA (fuseH s h1) A1 k1.length c1) 27) = x := ⟨_, rfl⟩
          have HB21 : Hid (Below W.heap.size W w21) := by rw [← hw21]; exact HB20.out
          have Z21 : Hid (w21.heap[w20.heap.size]? = some (.cells (coA (fuseH s h1) A1 k1.length c1) 27 (0, 0))) := by rw [← hw21]; exact Z20.out
          rw [hw21]
          clear hw21 HB20 Z20
          obtain ⟨x0, x1, x2, x3, x4, x5, x6, y0, y1, y2, y3, y4, y5, y6⟩ := Q.out _ HB21.out
          obtain ⟨z0, z1, z2, z3, z4, z5, z6⟩ := co_at_box Z21.out
          have hss : (sm == sm) = true := by simp
          cases mx with
          | true =>
            have P1 : Hid (∀ q : BelowBy w21, Below W.heap.size W q.w) := fun q => below_from HB21.out q.h
            have fx0 := fun q : BelowBy w21 => BelowBy.cell x0 q
            have fx1 := fun q : BelowBy w21 => BelowBy.cell x1 q
            have fx2 := fun q : BelowBy w21 => BelowBy.cell x2 q
            have fx3 := fun q : BelowBy w21 => BelowBy.cell x3 q
            have fx4 := fun q : BelowBy w21 => BelowBy.cell x4 q
            have fx5 := fun q : BelowBy w21 => BelowBy.cell x5 q
            have fx6 := fun q : BelowBy w21 => BelowBy.cell x6 q
            have fy0 := fun q : BelowBy w21 => BelowBy.cell y0 q
            have fy1 := fun q : BelowBy w21 => BelowBy.cell y1 q
            have fy2 := fun q : BelowBy w21 => BelowBy.cell y2 q
            have fy3 := fun q : BelowBy w21 => BelowBy.cell y3 q
            have fy4 := fun q : BelowBy w21 => BelowBy.cell y4 q
            have fy5 := fun q : BelowBy w21 => BelowBy.cell y5 q
            have fy6 := fun q : BelowBy w21 => BelowBy.cell y6 q
            have fz0 := fun q : BelowBy w21 => BelowBy.cell z0 q
            have fz1 := fun q : BelowBy w21 => BelowBy.cell z1 q
            have fz2 := fun q : BelowBy w21 => BelowBy.cell z2 q
            have fz3 := fun q : BelowBy w21 => BelowBy.cell z3 q
            have fz4 := fun q : BelowBy w21 => BelowBy.cell z4 q
            have fz5 := fun q : BelowBy w21 => BelowBy.cell z5 q
            have fz6 := fun q : BelowBy w21 => BelowBy.cell z6 q
            refine wp_region_below (by kernel_rfl) (by kernel_rfl) (Below.refl _ _) ?_
            repeat (go_big_quiet_step (first
              | (go_at_call 70; (with_reducible exact Calls.below_of (AL1'.out _ (P1.out _))))
              | (go_at_call 70; (with_reducible exact Calls.below_of (AL2'.out _ (P1.out _))))
              | (go_at_call 70; (with_reducible exact Calls.below_of (AL3'.out _ (P1.out _))))
              | (go_at_call 20; (with_reducible exact Calls.below_of (CMX'.out _ (P1.out _))))
              | (go_at_call 20; (with_reducible exact Calls.below_of (CM1'.out _ (P1.out _))))
              | (go_at_call 60; (with_reducible exact Calls.below_of (CA.out _ (P1.out _))))))
            refine wpQuiet_nil ?_
            intro wq hw1
            have hq : Below w21.heap.size w21 wq := by obtain ⟨p, hp⟩ := hw1; rw [hp]; exact p.h
            clear hw1
            have hb := below_from HW.out (below_from HB21.out hq)
            go_wp2_with fail
            go_ret
            exact ⟨rfl, hb⟩
          | false =>
            have P1 : Hid (∀ q : BelowBy w21, Below W.heap.size W q.w) := fun q => below_from HB21.out q.h
            have fx0 := fun q : BelowBy w21 => BelowBy.cell x0 q
            have fx1 := fun q : BelowBy w21 => BelowBy.cell x1 q
            have fx2 := fun q : BelowBy w21 => BelowBy.cell x2 q
            have fx3 := fun q : BelowBy w21 => BelowBy.cell x3 q
            have fx4 := fun q : BelowBy w21 => BelowBy.cell x4 q
            have fx5 := fun q : BelowBy w21 => BelowBy.cell x5 q
            have fx6 := fun q : BelowBy w21 => BelowBy.cell x6 q
            have fy0 := fun q : BelowBy w21 => BelowBy.cell y0 q
            have fy1 := fun q : BelowBy w21 => BelowBy.cell y1 q
            have fy2 := fun q : BelowBy w21 => BelowBy.cell y2 q
            have fy3 := fun q : BelowBy w21 => BelowBy.cell y3 q
            have fy4 := fun q : BelowBy w21 => BelowBy.cell y4 q
            have fy5 := fun q : BelowBy w21 => BelowBy.cell y5 q
            have fy6 := fun q : BelowBy w21 => BelowBy.cell y6 q
            have fz0 := fun q : BelowBy w21 => BelowBy.cell z0 q
            have fz1 := fun q : BelowBy w21 => BelowBy.cell z1 q
            have fz2 := fun q : BelowBy w21 => BelowBy.cell z2 q
            have fz3 := fun q : BelowBy w21 => BelowBy.cell z3 q
            have fz4 := fun q : BelowBy w21 => BelowBy.cell z4 q
            have fz5 := fun q : BelowBy w21 => BelowBy.cell z5 q
            have fz6 := fun q : BelowBy w21 => BelowBy.cell z6 q
            refine wp_region_below (by kernel_rfl) (by kernel_rfl) (Below.refl _ _) ?_
            repeat (go_big_quiet_step (first
              | (go_at_call 70; (with_reducible exact Calls.below_of (AL1'.out _ (P1.out _))))
              | (go_at_call 70; (with_reducible exact Calls.below_of (AL2'.out _ (P1.out _))))
              | (go_at_call 70; (with_reducible exact Calls.below_of (AL3'.out _ (P1.out _))))
              | (go_at_call 20; (with_reducible exact Calls.below_of (CMX'.out _ (P1.out _))))
              | (go_at_call 20; (with_reducible exact Calls.below_of (CM1'.out _ (P1.out _))))
              | (go_at_call 60; (with_reducible exact Calls.below_of (CA.out _ (P1.out _))))))
            refine wpQuiet_nil ?_
            intro wq hw1
            have hq : Below w21.heap.size w21 wq := by obtain ⟨p, hp⟩ := hw1; rw [hp]; exact p.h
            clear hw1
            have hb := below_from HW.out (below_from HB21.out hq)
            go_wp2_with fail
            go_ret
            exact ⟨rfl, hb⟩
namespace lawCodedAlike
open Go.ChangeShapes Go.WideShapes Go.ChangeAt
open Go.ChangeMaps (open_string)
set_option maxRecDepth 100000 in
theorem contract (H : Type) (enc : TypeId × Value → H) (W : World) (base : Nat) (args : Array Value) (ds gs : List (DataW H)) (before : List MemPlace)
    (hval : ∀ (j : Nat) t v, Tryd.f17.params[j]? = some t → args[j]? = some v → Value.okWide Tryd.prog W .any base t v)
    (hW : DataW.Whole enc Tryd.prog Tryd.f17.params.toList Rows.codedAlikeSpec.vars false W args.toList ds gs before) (hL : laidMetH Tryd.prog Rows.codedAlikeUptoRow.laid W) (hk : Rows.uptoSmall H (ds ++ gs) = true) :
    Calls Tryd.prog 17 args W fun e W' => ∃ v, e = .returned v ∧ Rows.codedAlikeSpec.post enc Tryd.prog Tryd.f17 false true false false W args v W' := by
  have hW' := hW
  obtain ⟨p, q, hA0, hV, rfl, hfz, hnd⟩ := hW
  have hA : DataW.TrodAll enc Tryd.prog W 0 (fun _ => true) true Tryd.f17.params.toList args.toList ds p := hA0
  rw [Tryd.params17] at hA hval
  obtain ⟨v0, vs0, d0, ds0, p0, q0, hargs, rfl, rfl, h0, r0⟩ := trodAll_cons hA
  obtain ⟨v1, vs1, d1, ds1, p1, q1, rfl, rfl, rfl, h1, r1⟩ := trodAll_cons r0
  obtain ⟨v2, vs2, d2, ds2, p2, q2, rfl, rfl, rfl, h2, r2⟩ := trodAll_cons r1
  obtain ⟨rfl, rfl, rfl⟩ := trodAll_nil r2
  obtain rfl : args = #[v0, v1, v2] := by cases args; simp_all
  obtain ⟨rfl, rfl⟩ := trodVars_none hV
  have hkk : Rows.uptoBulk d0 + Rows.uptoBulk d1 + Rows.uptoBulk d2 ≤ 1048576 := by simp [Rows.uptoSmall, Rows.uptoBulkAll] at hk; omega
  obtain ⟨x, kx, A0, c0, rfl, hc0, hr0, hz0⟩ := open_coded (hval 0 27 v0 rfl rfl) h0
  obtain ⟨y, ky, A1, c1, rfl, hc1, hr1, hz1⟩ := open_coded (hval 1 27 v1 rfl rfl) h1
  obtain ⟨s, rfl, rfl, rfl, hs2⟩ := open_string Tryd.underlying9 (hval 2 9 v2 rfl rfl) h2
  have HT : TzOk W := tz_of_laid hL
  have hwalk : Calls Tryd.prog 17 #[coV x A0 kx.length c0, coV y A1 ky.length c1, .string s] W fun e w' => e = .returned (.bool true) ∧ Below W.heap.size W w' := (by have hw := codedAlike_walk x y kx ky A0 A1 c0 c1 s.data.toList W (by omega) (by omega) hc0 hc1 hr0 hr1 HT; rw [str_eta] at hw; exact hw)
  refine hwalk.mono fun e W' ⟨he, hb⟩ => ?_
  subst he
  exact ⟨_, rfl, post_true Tryd.laidOut (by rw [Tryd.params17]; intro t ht; simp at ht; rcases ht with rfl | rfl <;> exact ⟨by kernel_rfl, of_decide_eq_true (by kernel_rfl)⟩) hW' rfl rfl rfl Tryd.underlying4 hb⟩
theorem laid_met (os : Os) : laidMet Tryd.prog Rows.codedAlikeUptoRow.laid ((utfWorld os).forCall (fun _ _ => 0) ⟨#[], #[.agg #[.int .u8 0, .string ByteArray.empty, .int .u64 0, .int .u64 0, .int .u64 0, .int .u64 0, .slice none 0 0], .agg #[.int .u8 0, .string ByteArray.empty, .int .u64 0, .int .u64 0, .int .u64 0, .int .u64 0, .slice none 0 0], .string ByteArray.empty], []⟩).memory :=
  laidMet_of_run' 600 (by kernel_rfl) (by kernel_rfl)
theorem reads (os : Os) {H : Type} (enc : TypeId × Value → H) : ∃ places, DataW.whole enc Tryd.prog ((utfWorld os).forCall (fun _ _ => 0) ⟨#[], #[.agg #[.int .u8 0, .string ByteArray.empty, .int .u64 0, .int .u64 0, .int .u64 0, .int .u64 0, .slice none 0 0], .agg #[.int .u8 0, .string ByteArray.empty, .int .u64 0, .int .u64 0, .int .u64 0, .int .u64 0, .slice none 0 0], .string ByteArray.empty], []⟩).memory Tryd.f17.params.toList Rows.codedAlikeSpec.vars false (#[.agg #[.int .u8 0, .string ByteArray.empty, .int .u64 0, .int .u64 0, .int .u64 0, .int .u64 0, .slice none 0 0], .agg #[.int .u8 0, .string ByteArray.empty, .int .u64 0, .int .u64 0, .int .u64 0, .int .u64 0, .slice none 0 0], .string ByteArray.empty] : Array Value).toList 8 = some ([.agg [.lit (.int .u8 0), .lit (.string []), .agg [.lit (.int .u64 0), .lit (.int .u64 0), .lit (.int .u64 0), .lit (.int .u64 0)], .nil], .agg [.lit (.int .u8 0), .lit (.string []), .agg [.lit (.int .u64 0), .lit (.int .u64 0), .lit (.int .u64 0), .lit (.int .u64 0)], .nil], .lit (.string [])], [], places) :=
  ⟨[], by kernel_rfl⟩
set_option maxRecDepth 100000 in
theorem lifted (os : Os) (started : os.Started) (H : Type) (enc : TypeId × Value → H) (F : Stop.Interp) :
    ReturnsInHanded {} Tryd.checked os 17 .any ((Rows.OpenSpec.upto Rows.codedAlikeSpec).preRow enc Tryd.prog Tryd.f17 Rows.codedAlikeUptoRow.domain false Rows.codedAlikeUptoRow.laid) (((Rows.OpenSpec.upto Rows.codedAlikeSpec).at F).post enc Tryd.prog Tryd.f17 false true false false) := by
  obtain ⟨places, hx⟩ := reads os enc
  refine returnsInHanded_of_row (C := Tryd.checked) (s := Rows.OpenSpec.upto Rows.codedAlikeSpec) Tryd.own started (by kernel_rfl) Tryd.func17
    (witness_row_at (enc := enc) (C := Tryd.checked) false (utfWorld os) #[.agg #[.int .u8 0, .string ByteArray.empty, .int .u64 0, .int .u64 0, .int .u64 0, .int .u64 0, .slice none 0 0], .agg #[.int .u8 0, .string ByteArray.empty, .int .u64 0, .int .u64 0, .int .u64 0, .int .u64 0, .slice none 0 0], .string ByteArray.empty] rfl (by kernel_rfl) (by kernel_rfl) (by kernel_rfl)
      (OpenSpec.preRow_of_cond 8 hx (by kernel_rfl) (fun k hk => by cases hk; kernel_rfl) (by kernel_rfl) (laid_met os))) ?_
  intro W base args ds gs before hval hW _ hcond _ hL _ _
  exact contract H enc W base args ds gs before hval hW hL (hcond _ rfl)
theorem said : Rows.CodedAlikeUptoSaid :=
  OpenClaim.holds_of_cond 17 Tryd.f17 rfl rfl rfl rfl rfl rfl rfl ⟨rfl, rfl, rfl, rfl, rfl⟩ rfl rfl rfl rfl rfl (by kernel_rfl) Tryd.func17 (by kernel_rfl)
    (of_decide_eq_true (by kernel_rfl)) (by unfold Func.isWrapper; first | (rw [if_pos (by decide +kernel)]; kernel_rfl) | (rw [if_neg (by decide +kernel)]; exact ⟨rfl, rfl⟩))
    (fun os started H enc _ F => by rw [OpenClaim.pre_eq_preRow]; exact lifted os started H enc F)
theorem plain (f : FuncId) (fn : Func) (hf : Tryd.pinned.checked.prog.funcNamed "quill/quilllaw16.CodedAlike" = some f) (hfn : Tryd.pinned.checked.prog.funcs[f]? = some fn) :
    true = Tryd.pinned.checked.prog.looks [] ∧ ∀ (j : Nat) t, fn.params[j]? = some t → Tryd.pinned.checked.prog.wantsStandIn t = false := by
  obtain rfl : f = 17 := Option.some.inj ((show Tryd.prog.funcNamed "quill/quilllaw16.CodedAlike" = some 17 by kernel_rfl).symm.trans hf) |>.symm
  obtain rfl : fn = Tryd.f17 := (Option.some.inj (Tryd.func17.symm.trans hfn)).symm
  refine ⟨by kernel_rfl, fun j t ht => ?_⟩
  rw [Tryd.params17] at ht
  have hm := Array.mem_of_getElem? ht
  simp at hm
  rcases hm with rfl | rfl
  · exact (show Tryd.prog.wantsStandIn 27 = false by kernel_rfl)
  · exact (show Tryd.prog.wantsStandIn 9 = false by kernel_rfl)
theorem proved : Rows.CodedAlikeUptoCardSaid :=
  Claim7.holds_tied_plain_at .later [] _ _ _ _ said (fun _ h => by cases h) (by kernel_rfl) (fun _ h => by cases h) codedAlikeUpto_row_tie rfl ⟨rfl, rfl⟩ (by kernel_rfl) rfl plain (by kernel_rfl)
end lawCodedAlike
end Go.Proofs.YtfbnlpoinieijaaDoor
