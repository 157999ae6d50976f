/- Several sets, one behind the other. For every input. -/
import Derived.Test.YthagcmpehpgmpaaDoorAwake2
import Derived.Test.YthagcmpehpgmpaaDoorOpenSets
import Derived.Test.YthagcmpehpgmpaaDoorSet11
import Derived.Test.YthagcmpehpgmpaaDoorSet12
import Derived.Test.YthagcmpehpgmpaaDoorCount
import Derived.Deep.RegionHeld3
namespace Go.Proofs.YthagcmpehpgmpaaDoor
open Go.RowKit
set_option linter.unusedVariables false
set_option linter.unusedSimpArgs false

theorem run_all : setRun 0 256 = S4.all := by decide +kernel
/-- two boxes, and all below -/
def Held2 (W : World) (b d : Nat) (s t : S4) (X : World) : Prop :=
  X.cell? ⟨b, 0, none⟩ = some (.int .u64 (s.a.toNat : Int)) ∧ X.cell? ⟨b, 1, none⟩ = some (.int .u64 (s.b.toNat : Int)) ∧ X.cell? ⟨b, 2, none⟩ = some (.int .u64 (s.c.toNat : Int)) ∧ X.cell? ⟨b, 3, none⟩ = some (.int .u64 (s.d.toNat : Int)) ∧
      X.cell? ⟨d, 0, none⟩ = some (.int .u64 (t.a.toNat : Int)) ∧ X.cell? ⟨d, 1, none⟩ = some (.int .u64 (t.b.toNat : Int)) ∧ X.cell? ⟨d, 2, none⟩ = some (.int .u64 (t.c.toNat : Int)) ∧ X.cell? ⟨d, 3, none⟩ = some (.int .u64 (t.d.toNat : Int)) ∧ Hid (Below W.heap.size W X)
theorem held2_keep {W X X' : World} {b d : Nat} {s t : S4} (hb : Below X.heap.size X X') (h : Held2 W b d s t X) : Held2 W b d s t X' :=
  ⟨keep_cell hb h.1, keep_cell hb h.2.1, keep_cell hb h.2.2.1, keep_cell hb h.2.2.2.1, keep_cell hb h.2.2.2.2.1, keep_cell hb h.2.2.2.2.2.1, keep_cell hb h.2.2.2.2.2.2.1, keep_cell hb h.2.2.2.2.2.2.2.1, below_from h.2.2.2.2.2.2.2.2.out hb⟩
theorem held2_below {W X : World} {b d : Nat} {s t : S4} (h : Held2 W b d s t X) : Below W.heap.size W X := h.2.2.2.2.2.2.2.2.out

set_option maxRecDepth 100000 in
set_option maxHeartbeats 400000000 in
theorem setMany_walk (l : List S4) (A : Option Addr) (c : Nat) (w : World) (hc : l.length ≤ c) (hm : c ≤ maxLen) (hr : RowS w A l) (ht : TzOk w) :
    Calls Tryd.prog 6 #[.slice A l.length c] w fun e w' => e = .returned (.bool true) ∧ Below w.heap.size w w' := by
  have HT := Lib.hid ht
  have HRW := Lib.hid hr
  clear ht hr
  by_cases hl : l.length ≤ 20
  · have g : decide ((l.length : Int) > 20) = false := by simp; omega
    have HR0 : Hid (Calls Tryd.prog 25 #[.int .i64 0, .int .i64 255] w fun e w' => e = .returned (setV S4.all) ∧ Below w.heap.size w w') := by
      have := refRange_any 0 255 w (by decide) (by decide) (by decide) (by decide)
      rw [show setRun (0 : Int).toNat ((255 : Int).toNat + 1 - (0 : Int).toNat) = S4.all from run_all] at this
      exact this
    have HJ0 : Hid (joinL (l.take 0) = S4.zero) := rfl
    have HM0 : Hid (meetL (l.take 0) = S4.all) := rfl
    generalize hall : S4.all = al at *
    clear hall
    go_enter Tryd.func6, Tryd.ntmps6
    go_wp2_with fail
    refine HR0.out.mono ?_
    rintro e w1 ⟨rfl, hb1⟩
    go_wp2_with fail
    obtain ⟨e1, e2⟩ := two_blocks (w := w1) (o1 := .cells (setA S4.zero) 24) (o2 := .cells (setA al) 24) (Below.refl _ _)
    have E0 : Hid (((w1.alloc (.cells (setA S4.zero) 24)).alloc (.cells (setA al) 24)).heap[w1.heap.size]? = some (.cells (setA (joinL (l.take 0))) 24 (0, 0))) := by rw [HJ0.out]; exact e1
    have E1 : Hid (((w1.alloc (.cells (setA S4.zero) 24)).alloc (.cells (setA al) 24)).heap[w1.heap.size + 1]? = some (.cells (setA (meetL (l.take 0))) 24 (0, 0))) := by rw [HM0.out]; exact e2
    have hb0 := Lib.hid (below_new (below_new hb1 (.cells (setA S4.zero) 24)) (.cells (setA al) 24))
    have hB : w1.heap.size < w1.heap.size + 1 := by omega
    have hB0 := hb1.size
    clear e1 e2 hb1 HR0 HJ0 HM0
    go_loopw [5, 6] (fun n i wr => ∃ (k : Nat), k ≤ l.length ∧ n = .int .i64 (countL (l.take k) : Nat) ∧ i = .int .i64 (k : Nat) ∧ Hid (wr.heap[w1.heap.size]? = some (.cells (setA (joinL (l.take k))) 24 (0, 0))) ∧ Hid (wr.heap[w1.heap.size + 1]? = some (.cells (setA (meetL (l.take k))) 24 (0, 0))) ∧ Hid (Below w.heap.size w wr)) (fun _ i _ => l.length - (intOf i).toNat)
    case atStart => exact ⟨0, Nat.zero_le _, rfl, rfl, E0, E1, hb0⟩
    case round =>
      clear E0 E1 hb0
      obtain ⟨k, hk, rfl, rfl, E0, E1, hb⟩ := hrel
      by_cases hlt : k < l.length
      · obtain ⟨s, hs⟩ : ∃ s, l[k]? = some s := ⟨l[k], by simp [hlt]⟩
        have HT1 := Lib.hid (joinL_take hs)
        have HT2 := Lib.hid (meetL_take hs)
        have HT3 := Lib.hid (countL_take hs)
        obtain ⟨ad, hA, p0, p1, p2, p3⟩ := rowS_cells (HRW.out.below hb.out) hs
        have PC : Hid (∀ X, Below w.heap.size w X → X.cell? (ad.add (k * 4)) = some (.int .u64 (s.a.toNat : Int)) ∧ X.cell? ⟨(ad.add (k * 4)).block, (ad.add (k * 4)).off + 1, none⟩ = some (.int .u64 (s.b.toNat : Int)) ∧ X.cell? ⟨(ad.add (k * 4)).block, (ad.add (k * 4)).off + 2, none⟩ = some (.int .u64 (s.c.toNat : Int)) ∧ X.cell? ⟨(ad.add (k * 4)).block, (ad.add (k * 4)).off + 3, none⟩ = some (.int .u64 (s.d.toNat : Int))) := fun X hX => by
          obtain ⟨ad', hA', q0, q1, q2, q3⟩ := rowS_cells (HRW.out.below hX) hs
          obtain rfl := Option.some.inj (hA.symm.trans hA')
          exact ⟨q0, q1, q2, q3⟩
        subst hA
        have hn := countL_le l k
        have hbs := bytesTo_length s 256
        generalize joinL (l.take k) = jj at *
        generalize meetL (l.take k) = mm at *
        generalize countL (l.take k) = n at *
        have HRJ : Hid (∀ X, Calls Tryd.prog 29 #[setV jj, setV s] X fun e w' => e = .returned (setV (jj.or s)) ∧ Below X.heap.size X w') := fun X => refJoin_any jj s X
        have HRM : Hid (∀ X, Calls Tryd.prog 30 #[setV mm, setV s, .bool true] X fun e w' => e = .returned (setV (mm.and s)) ∧ Below X.heap.size X w') := fun X => by
          have := refMeet_any mm s true X
          rwa [meetTo_and] at this
        have HRB : Hid (∀ X, Calls Tryd.prog 16 #[setV s] X (BytesPost (bytesOf s) X)) := fun X => refBytes_any s X
        have HBL : Hid ((bytesOf s).length ≤ 256) := hbs
        generalize bytesOf s = bs at *
        generalize jj.or s = j2 at *
        generalize mm.and s = m2 at *
        have gk : decide ((k : Int) < (l.length : Int)) = true := by simp; omega
        obtain ⟨⟨x0, x1, x2, x3⟩, _⟩ := cells4_of E0.out
        obtain ⟨⟨y0, y1, y2, y3⟩, _⟩ := cells4_of E1.out
        have L0 := Lib.hid (lt_of_block E0.out)
        have L1 := Lib.hid (lt_of_block E1.out)
        clear hs hbs
        go_wp2_with fail
        go_still_tail 5, (by kernel_rfl)
        go_wp2_with fail
        refine (HRJ.out _).mono ?_
        rintro e wa ⟨rfl, hba⟩
        have hb2 := Lib.hid (below_from (pw_drewN hb.out 1) hba)
        have E2 := Lib.hid ((hba.block _ L0.out).trans E0.out)
        have E3 := Lib.hid ((hba.block _ L1.out).trans E1.out)
        obtain ⟨⟨z0, z1, z2, z3⟩, h0, h1, h2, h3⟩ := cells4_of E2.out
        clear hba x0 x1 x2 x3 y0 y1 y2 y3 p0 p1 p2 p3 E0 E1 L0 L1 hb
        go_wp2_with fail
        have F0 := Lib.hid (four_setCells (u0 := .int .u64 (j2.a.toNat : Int)) (u1 := .int .u64 (j2.b.toNat : Int)) (u2 := .int .u64 (j2.c.toNat : Int)) (u3 := .int .u64 (j2.d.toNat : Int)) E2.out)
        have F1 := Lib.hid ((four_other (w := wa) (b := w1.heap.size) (k := w1.heap.size + 1) (u0 := .int .u64 (j2.a.toNat : Int)) (u1 := .int .u64 (j2.b.toNat : Int)) (u2 := .int .u64 (j2.c.toNat : Int)) (u3 := .int .u64 (j2.d.toNat : Int)) (by omega)).trans E3.out)
        have hb3 := Lib.hid (four_below (u0 := .int .u64 (j2.a.toNat : Int)) (u1 := .int .u64 (j2.b.toNat : Int)) (u2 := .int .u64 (j2.c.toNat : Int)) (u3 := .int .u64 (j2.d.toNat : Int)) hb2.out hB0)
        clear hb2 E2 E3 z0 z1 z2 z3 h0 h1 h2 h3
        generalize ((((wa.setCell ⟨w1.heap.size, 0, none⟩ (.int .u64 (j2.a.toNat : Int))).setCell ⟨w1.heap.size, 1, none⟩ (.int .u64 (j2.b.toNat : Int))).setCell ⟨w1.heap.size, 2, none⟩ (.int .u64 (j2.c.toNat : Int))).setCell ⟨w1.heap.size, 3, none⟩ (.int .u64 (j2.d.toNat : Int))) = wx at *
        obtain ⟨p0, p1, p2, p3⟩ := PC.out _ hb3.out
        obtain ⟨⟨x0, x1, x2, x3⟩, _⟩ := cells4_of F0.out
        obtain ⟨⟨y0, y1, y2, y3⟩, _⟩ := cells4_of F1.out
        have L0 := Lib.hid (lt_of_block F0.out)
        have L1 := Lib.hid (lt_of_block F1.out)
        go_still_tail 5, (by kernel_rfl)
        go_wp2_with fail
        refine (HRM.out _).mono ?_
        rintro e wb ⟨rfl, hba⟩
        have hb4 := Lib.hid (below_from (pw_drewN hb3.out 1) hba)
        have E2 := Lib.hid ((hba.block _ L0.out).trans F0.out)
        have E3 := Lib.hid ((hba.block _ L1.out).trans F1.out)
        obtain ⟨⟨z0, z1, z2, z3⟩, h0, h1, h2, h3⟩ := cells4_of E3.out
        clear hba x0 x1 x2 x3 y0 y1 y2 y3 p0 p1 p2 p3 F0 F1 L0 L1 hb3
        have F0 := Lib.hid ((four_other (w := wb) (b := w1.heap.size + 1) (k := w1.heap.size) (u0 := .int .u64 (m2.a.toNat : Int)) (u1 := .int .u64 (m2.b.toNat : Int)) (u2 := .int .u64 (m2.c.toNat : Int)) (u3 := .int .u64 (m2.d.toNat : Int)) (by omega)).trans E2.out)
        have F1 := Lib.hid (four_setCells (u0 := .int .u64 (m2.a.toNat : Int)) (u1 := .int .u64 (m2.b.toNat : Int)) (u2 := .int .u64 (m2.c.toNat : Int)) (u3 := .int .u64 (m2.d.toNat : Int)) E3.out)
        have hb5 := Lib.hid (four_below (b := w1.heap.size + 1) (u0 := .int .u64 (m2.a.toNat : Int)) (u1 := .int .u64 (m2.b.toNat : Int)) (u2 := .int .u64 (m2.c.toNat : Int)) (u3 := .int .u64 (m2.d.toNat : Int)) hb4.out (by omega))
        obtain ⟨p0, p1, p2, p3⟩ := PC.out _ hb5.out
        clear hb4 E2 E3
        go_wp2_with fail
        clear p0 p1 p2 p3 z0 z1 z2 z3 h0 h1 h2 h3
        generalize ((((wb.setCell ⟨w1.heap.size + 1, 0, none⟩ (.int .u64 (m2.a.toNat : Int))).setCell ⟨w1.heap.size + 1, 1, none⟩ (.int .u64 (m2.b.toNat : Int))).setCell ⟨w1.heap.size + 1, 2, none⟩ (.int .u64 (m2.c.toNat : Int))).setCell ⟨w1.heap.size + 1, 3, none⟩ (.int .u64 (m2.d.toNat : Int))) = wy at *
        have L0 := Lib.hid (lt_of_block F0.out)
        have L1 := Lib.hid (lt_of_block F1.out)
        refine (HRB.out _).mono ?_
        rintro e wc ⟨A9, c9, rfl, hc9, _, hbc⟩
        have hb6 := Lib.hid (below_from hb5.out hbc)
        have E2 := Lib.hid ((hbc.block _ L0.out).trans F0.out)
        have E3 := Lib.hid ((hbc.block _ L1.out).trans F1.out)
        clear hbc hb5 F0 F1 L0 L1
        have hbl := HBL.out
        have hsum : (n : Int) + (bs.length : Int) = ((n + bs.length : Nat) : Int) := by omega
        have HT4 : Hid (((n + bs.length : Nat) : Int) = (countL (l.take (k + 1)) : Nat)) := by unfold Hid; rw [HT3.out]
        obtain ⟨nn, hnn⟩ : ∃ nn, n + bs.length = nn := ⟨_, rfl⟩
        rw [hnn] at hsum HT4
        have hnn2 : nn ≤ 256000 := by omega
        clear hnn
        go_wp2_with fail
        go_roundw
        case rel => exact ⟨k + 1, by omega, by rw [← HT4.out], by go_num, by rw [HT1.out]; exact E2, by rw [HT2.out]; exact E3, hb6⟩
        case measure => simp [intOf]; omega
      · have he : k = l.length := by omega
        subst he
        have gk : decide ((l.length : Int) < (l.length : Int)) = false := by simp
        rw [List.take_length] at E0 E1 ⊢
        have HJ : Hid (∀ X, RowS X A l → Calls Tryd.prog 31 #[.slice A l.length c] X fun e w' => e = .returned (setV (joinL l)) ∧ Below X.heap.size X w') := fun X h => setJoin_any l A c X (by omega) h
        have HM : Hid (∀ X, RowS X A l → Calls Tryd.prog 32 #[.slice A l.length c] X fun e w' => e = .returned (setV (meetL l)) ∧ Below X.heap.size X w') := fun X h => setMeet_any l A c X (by omega) h
        have HC : Hid (∀ X, RowS X A l → Calls Tryd.prog 33 #[.slice A l.length c] X fun e w' => e = .returned (.int .i64 (countL l : Nat)) ∧ Below X.heap.size X w') := fun X h => setCount_any l A c X (by omega) h
        generalize joinL l = jj at *
        generalize meetL l = mm at *
        generalize countL l = nn at *
        have ej := run_eql_set jj jj
        have em := run_eql_set mm mm
        simp only [decide_true] at ej em
        obtain ⟨⟨x0, x1, x2, x3⟩, _⟩ := cells4_of E0.out
        obtain ⟨⟨y0, y1, y2, y3⟩, _⟩ := cells4_of E1.out
        have h0 : Held2 w w1.heap.size (w1.heap.size + 1) jj mm wr := ⟨x0, x1, x2, x3, y0, y1, y2, y3, hb⟩
        clear E0 E1
        go_wp2_with fail
        go_region_held3 (fun X => X.cell? ⟨w1.heap.size, 0, none⟩ = some (.int .u64 (jj.a.toNat : Int)) ∧ X.cell? ⟨w1.heap.size, 1, none⟩ = some (.int .u64 (jj.b.toNat : Int)) ∧ X.cell? ⟨w1.heap.size, 2, none⟩ = some (.int .u64 (jj.c.toNat : Int)) ∧ X.cell? ⟨w1.heap.size, 3, none⟩ = some (.int .u64 (jj.d.toNat : Int)) ∧
      X.cell? ⟨w1.heap.size + 1, 0, none⟩ = some (.int .u64 (mm.a.toNat : Int)) ∧ X.cell? ⟨w1.heap.size + 1, 1, none⟩ = some (.int .u64 (mm.b.toNat : Int)) ∧ X.cell? ⟨w1.heap.size + 1, 2, none⟩ = some (.int .u64 (mm.c.toNat : Int)) ∧ X.cell? ⟨w1.heap.size + 1, 3, none⟩ = some (.int .u64 (mm.d.toNat : Int)) ∧ Hid (Below w.heap.size w X))
          (first | exact ⟨x0, x1, x2, x3, y0, y1, y2, y3, hb⟩ | exact held2_keep ((Below.refl _ _).drew) ⟨x0, x1, x2, x3, y0, y1, y2, y3, hb⟩ | exact held2_keep hba (by assumption) | exact held2_keep hbb (by assumption) | exact held2_keep hbc (by assumption) | exact held2_keep hbd (by assumption))
          (first
            | (go_at_call 31; refine (HJ.out _ (HRW.out.below (held2_below (by assumption)))).mono ?_; rintro e Xa ⟨rfl, hba⟩)
            | (go_at_call 32; refine (HM.out _ (HRW.out.below (held2_below (by assumption)))).mono ?_; rintro e Xb ⟨rfl, hbb⟩)
            | (go_at_call 33; refine (HC.out _ (HRW.out.below (held2_below (by assumption)))).mono ?_; rintro e Xc ⟨rfl, hbc⟩)
            | (go_at_call 21; refine (awake2_any _ (HT.out.below (held2_below (by assumption)))).mono ?_; rintro e Xd ⟨rfl, hbd⟩)
            | fail)
        all_goals
          go_wp2_with fail
          go_ret
          exact ⟨rfl, held2_below (by assumption)⟩
  · have g : decide ((l.length : Int) > 20) = true := by simp; omega
    go_enter Tryd.func6, Tryd.ntmps6
    go_wp2_with fail
    refine (awake2_any w HT.out).mono ?_
    rintro e w1 ⟨rfl, hb1⟩
    go_wp2_with fail
    go_ret
    exact ⟨rfl, hb1⟩
namespace lawSetMany
open Go.ChangeShapes Go.WideShapes Go.ChangeAt
open Go.ChangeMaps (open_string)
set_option maxRecDepth 100000 in
theorem contract (H : Type) (enc : TypeId × Value → H) (W : World) (base : Nat) (args : Array Value) (ds gs : List (DataW H)) (before : List MemPlace)
    (hval : ∀ (j : Nat) t v, Tryd.f6.params[j]? = some t → args[j]? = some v → Value.okWide Tryd.prog W .any base t v)
    (hW : DataW.Whole enc Tryd.prog Tryd.f6.params.toList Rows.setManySpec.vars false W args.toList ds gs before) (hL : laidMetH Tryd.prog Rows.setManyRow.laid W) :
    Calls Tryd.prog 6 args W fun e W' => ∃ v, e = .returned v ∧ Rows.setManySpec.post enc Tryd.prog Tryd.f6 false true false false W args v W' := by
  have hW' := hW
  obtain ⟨p, q, hA0, hV, rfl, hfz, hnd⟩ := hW
  have hA : DataW.TrodAll enc Tryd.prog W 0 (fun _ => true) true Tryd.f6.params.toList args.toList ds p := hA0
  rw [Tryd.params6] at hA hval
  obtain ⟨v0, vs0, d0, ds0, p0, q0, hargs, rfl, rfl, h0, r0⟩ := trodAll_cons hA
  obtain ⟨rfl, rfl, rfl⟩ := trodAll_nil r0
  obtain rfl : args = #[v0] := by cases args; simp_all
  obtain ⟨rfl, rfl⟩ := trodVars_none hV
  obtain ⟨l, A0, c0, rfl, hc0, hm0, hr0⟩ := open_sets (hval 0 39 v0 rfl rfl) h0
  have HT : TzOk W := tz_of_laid hL
  refine (setMany_walk l A0 c0 W hc0 hm0 hr0 HT).mono fun e W' ⟨he, hb⟩ => ?_
  subst he
  exact ⟨_, rfl, post_true Tryd.laidOut (by rw [Tryd.params6]; intro t ht; simp at ht; rcases ht with rfl <;> exact ⟨by kernel_rfl, of_decide_eq_true (by kernel_rfl)⟩) hW' rfl rfl rfl Tryd.underlying4 hb⟩
theorem laid_met (os : Os) : laidMet Tryd.prog Rows.setManyRow.laid ((tzWorld os).forCall (fun _ _ => 0) ⟨#[], #[.slice none 0 0], []⟩).memory :=
  laidMet_of_run' 70 (by kernel_rfl) (by kernel_rfl)
theorem reads (os : Os) {H : Type} (enc : TypeId × Value → H) : ∃ places, DataW.whole enc Tryd.prog ((tzWorld os).forCall (fun _ _ => 0) ⟨#[], #[.slice none 0 0], []⟩).memory Tryd.f6.params.toList Rows.setManySpec.vars false (#[.slice none 0 0] : Array Value).toList 8 = some ([.nil], [], places) :=
  ⟨[], by kernel_rfl⟩
set_option maxRecDepth 100000 in
theorem lifted (os : Os) (started : os.Started) (H : Type) (enc : TypeId × Value → H) (F : Stop.Interp) :
    ReturnsInHanded {} Tryd.checked os 6 .any ((OpenSpec.ofChange Rows.setManySpec).preRow enc Tryd.prog Tryd.f6 Rows.setManyRow.domain false Rows.setManyRow.laid) (((OpenSpec.ofChange Rows.setManySpec).at F).post enc Tryd.prog Tryd.f6 false true false false) := by
  obtain ⟨places, hx⟩ := reads os enc
  refine returnsInHanded_of_row (C := Tryd.checked) (s := OpenSpec.ofChange Rows.setManySpec) Tryd.own started (by kernel_rfl) Tryd.func6
    (witness_row_at (enc := enc) (C := Tryd.checked) false (tzWorld os) #[.slice none 0 0] rfl (by kernel_rfl) (by kernel_rfl) (by kernel_rfl)
      (OpenSpec.preRow_of_cond 8 hx (by kernel_rfl) (fun k hk => by cases hk) (by kernel_rfl) (laid_met os))) ?_
  intro W base args ds gs before hval hW _ _ _ hL _ _
  exact contract H enc W base args ds gs before hval hW hL
theorem said : Rows.SetManySaid :=
  OpenClaim.holds_of_cond 6 Tryd.f6 rfl rfl rfl rfl rfl rfl rfl ⟨rfl, rfl, rfl, rfl, rfl⟩ rfl rfl rfl rfl rfl (by kernel_rfl) Tryd.func6 (by kernel_rfl)
    (of_decide_eq_true (by kernel_rfl)) (by unfold Func.isWrapper; first | (rw [if_pos (by decide +kernel)]; kernel_rfl) | (rw [if_neg (by decide +kernel)]; exact ⟨rfl, rfl⟩))
    (fun os started H enc _ F => by rw [OpenClaim.pre_eq_preRow]; exact lifted os started H enc F)
theorem plain (f : FuncId) (fn : Func) (hf : Tryd.pinned.checked.prog.funcNamed "quill/quilllaw02.SetMany" = some f) (hfn : Tryd.pinned.checked.prog.funcs[f]? = some fn) :
    true = Tryd.pinned.checked.prog.looks [] ∧ ∀ (j : Nat) t, fn.params[j]? = some t → Tryd.pinned.checked.prog.wantsStandIn t = false := by
  obtain rfl : f = 6 := Option.some.inj ((show Tryd.prog.funcNamed "quill/quilllaw02.SetMany" = some 6 by kernel_rfl).symm.trans hf) |>.symm
  obtain rfl : fn = Tryd.f6 := (Option.some.inj (Tryd.func6.symm.trans hfn)).symm
  refine ⟨by kernel_rfl, fun j t ht => ?_⟩
  rw [Tryd.params6] at ht
  have hm := Array.mem_of_getElem? ht
  simp at hm
  rcases hm with rfl
  · exact (show Tryd.prog.wantsStandIn 39 = false by kernel_rfl)
theorem proved : Rows.SetManyCardSaid :=
  Claim7.holds_tied_plain_at .later [] _ _ _ _ said (fun _ h => by cases h) (by kernel_rfl) (fun _ h => by cases h) setMany_row_tie rfl ⟨rfl, rfl⟩ (by kernel_rfl) rfl plain (by kernel_rfl)
end lawSetMany
end Go.Proofs.YthagcmpehpgmpaaDoor
