/- The set of a set's bytes is that set; two have one text just if they are the same. For every input. -/
import Derived.Test.YthagcmpehpgmpaaDoorAwake2
import Derived.Test.YthagcmpehpgmpaaDoorDoor
import Derived.Test.YthagcmpehpgmpaaDoorSet12
import Derived.Test.YthagcmpehpgmpaaDoorText4
import Derived.Deep.RegionHeld3
namespace Go.Proofs.YthagcmpehpgmpaaDoor
open Go.RowKit
set_option linter.unusedVariables false
set_option linter.unusedSimpArgs false

theorem setFrom_has (l : List UInt8) : ∀ (s : S4) (b : Nat), b < 256 → (setFrom s l).has b = (s.has b || l.any fun x => decide (x.toNat = b)) := by
  induction l with
  | nil => intro s b hb; simp [setFrom]
  | cons x l ih =>
    intro s b hb
    have hx := x.toNat_lt
    rw [show setFrom s (x :: l) = setFrom (s.with' x.toNat) l from rfl, ih _ b hb, has_with _ _ _ (by omega) hb]
    simp only [List.any_cons]
    rw [show decide (b = x.toNat) = decide (x.toNat = b) by rw [Bool.eq_iff_iff]; simp; omega]
    cases decide (x.toNat = b) <;> cases s.has b <;> simp
theorem setOf_bytes (s : S4) : setOf (bytesOf s) = s := S4.ext_has fun b hb => by
  unfold setOf
  rw [setFrom_has _ _ b hb, has_zero b hb, Bool.false_or, Bool.eq_iff_iff, List.any_eq_true]
  constructor
  · rintro ⟨x, hx, h⟩
    have := bytesTo_mem s 256 (Nat.le_refl _) x hx
    rw [decide_eq_true_eq] at h
    rwa [h] at this
  · intro h
    exact ⟨_, (bytesOf_mem s hb).2 h, by simp; omega⟩
theorem two_sets_keep {W X X' : World} {b d : Nat} {s t : S4} (hb : Below X.heap.size X X')
    (h : X.cell? ⟨b, 0, none⟩ = some (.int .u64 (s.a.toNat : Int)) ∧ X.cell? ⟨b, 1, none⟩ = some (.int .u64 (s.b.toNat : Int)) ∧ X.cell? ⟨b, 2, none⟩ = some (.int .u64 (s.c.toNat : Int)) ∧ X.cell? ⟨b, 3, none⟩ = some (.int .u64 (s.d.toNat : Int)) ∧
      X.cell? ⟨d, 0, none⟩ = some (.int .u64 (t.a.toNat : Int)) ∧ X.cell? ⟨d, 1, none⟩ = some (.int .u64 (t.b.toNat : Int)) ∧ X.cell? ⟨d, 2, none⟩ = some (.int .u64 (t.c.toNat : Int)) ∧ X.cell? ⟨d, 3, none⟩ = some (.int .u64 (t.d.toNat : Int)) ∧ Hid (Below W.heap.size W X)) :
    X'.cell? ⟨b, 0, none⟩ = some (.int .u64 (s.a.toNat : Int)) ∧ X'.cell? ⟨b, 1, none⟩ = some (.int .u64 (s.b.toNat : Int)) ∧ X'.cell? ⟨b, 2, none⟩ = some (.int .u64 (s.c.toNat : Int)) ∧ X'.cell? ⟨b, 3, none⟩ = some (.int .u64 (s.d.toNat : Int)) ∧
      X'.cell? ⟨d, 0, none⟩ = some (.int .u64 (t.a.toNat : Int)) ∧ X'.cell? ⟨d, 1, none⟩ = some (.int .u64 (t.b.toNat : Int)) ∧ X'.cell? ⟨d, 2, none⟩ = some (.int .u64 (t.c.toNat : Int)) ∧ X'.cell? ⟨d, 3, none⟩ = some (.int .u64 (t.d.toNat : Int)) ∧ Hid (Below W.heap.size W X') :=
  ⟨keep_cell hb h.1, keep_cell hb h.2.1, keep_cell hb h.2.2.1, keep_cell hb h.2.2.2.1, keep_cell hb h.2.2.2.2.1, keep_cell hb h.2.2.2.2.2.1, keep_cell hb h.2.2.2.2.2.2.1, keep_cell hb h.2.2.2.2.2.2.2.1, below_from h.2.2.2.2.2.2.2.2.out hb⟩
theorem beq_dec (x y : ByteArray) : (x == y) = decide (x = y) := by
  have h1 : (x == y) = (x.data == y.data) := rfl
  rw [h1, Bool.eq_iff_iff, beq_iff_eq, decide_eq_true_eq]
  exact ⟨fun h => by cases x; cases y; simp at h; rw [h], fun h => by rw [h]⟩
theorem toList_data (x : ByteArray) : x.toList = x.data.toList := ByteArray.toList_eq x
theorem toList_beq (x y : ByteArray) : (x.toList == y.toList) = (x == y) := by
  rw [beq_dec, Bool.eq_iff_iff, beq_iff_eq, decide_eq_true_eq, toList_data, toList_data]
  exact ⟨fun h => by cases x; cases y; simp at h; rw [h], fun h => by rw [h]⟩
theorem str_eq (a b : List UInt8) : (str a == str b) = decide (a = b) := by
  have h1 : (str a == str b) = (a.toArray == b.toArray) := rfl
  rw [h1, Bool.eq_iff_iff, beq_iff_eq, decide_eq_true_eq]
  exact ⟨fun h => by simpa using h, fun h => by rw [h]⟩

set_option maxRecDepth 100000 in
set_option maxHeartbeats 16000000 in
theorem setBack_walk (s t : S4) (w : World) (ht : TzOk w) :
    Calls Tryd.prog 5 #[setV s, setV t] w fun e w' => e = .returned (.bool true) ∧ Below w.heap.size w w' := by
  have HT := Lib.hid ht
  clear ht
  have hlb : (bytesOf s).length ≤ 1000000000 := by have := bytesTo_length s 256; unfold bytesOf; omega
  have HOf : Hid (∀ X A c, (bytesOf s).length ≤ c → Row1 encB X A (bytesOf s) → Calls Tryd.prog 22 #[.slice A (bytesOf s).length c] X fun e w' => e = .returned (setV s) ∧ Below X.heap.size X w') := fun X A c hc h => by
    have := setOf_any (bytesOf s) A c X hlb hc h
    rwa [setOf_bytes] at this
  obtain ⟨b, hb⟩ : ∃ b, decide (s = t) = b := ⟨_, rfl⟩
  have es := run_eql_set s s
  have est := run_eql_set s t
  rw [hb] at est
  have ett := str_eq (textS s) (textS t)
  rw [textS_eq, hb] at ett
  have eo := ordS_zero s t
  rw [hb] at eo
  simp only [decide_true] at es
  have ebb : (b == b) = true := by simp
  have HTs : Hid (∀ X, TzOk X → Calls Tryd.prog 17 #[setV s] X fun e w' => e = .returned (.string (str (textS s))) ∧ Below X.heap.size X w') := fun X h => setText_any s X h
  have HTt : Hid (∀ X, TzOk X → Calls Tryd.prog 17 #[setV t] X fun e w' => e = .returned (.string (str (textS t))) ∧ Below X.heap.size X w') := fun X h => setText_any t X h
  have HOr : Hid (∀ X, Calls Tryd.prog 28 #[setV s, setV t] X fun e w' => e = .returned (.int .i64 (ordS s t)) ∧ Below X.heap.size X w') := fun X => setOrder_any s t X
  generalize str (textS s) = ts at *
  generalize str (textS t) = tt at *
  generalize ordS s t = oo at *
  have ett2 : decide (ts = tt) = b := by rw [← ett]; exact (beq_dec _ _).symm
  have ett3 : (ts.toList == tt.toList) = b := by rw [← ett]; exact toList_beq _ _
  clear hb hlb
  go_enter Tryd.func5, Tryd.ntmps5
  go_wp2_with fail
  have e0 := heap_keep1 (new_at1 (w := w) (.cells (setA s) 24)) (.cells (setA t) 24)
  have e1 := new_at1 (w := w.alloc (.cells (setA s) 24)) (.cells (setA t) 24)
  rw [World.size_alloc] at e1
  have hb0' := below_new (below_new (Below.refl w.heap.size w) (.cells (setA s) 24)) (.cells (setA t) 24)
  have hb0 := Lib.hid hb0'.drew
  obtain ⟨⟨x0, x1, x2, x3⟩, _⟩ := cells4_of e0
  obtain ⟨⟨y0, y1, y2, y3⟩, _⟩ := cells4_of e1
  clear e0 e1
  have HD : Hid (∀ X Y : World, Hid (Below w.heap.size w X) → Below X.heap.size X Y → TzOk Y) := fun X Y h k => HT.out.below (below_from h.out k)
  go_region_held3 (fun X => X.cell? ⟨w.heap.size, 0, none⟩ = some (.int .u64 (s.a.toNat : Int)) ∧ X.cell? ⟨w.heap.size, 1, none⟩ = some (.int .u64 (s.b.toNat : Int)) ∧ X.cell? ⟨w.heap.size, 2, none⟩ = some (.int .u64 (s.c.toNat : Int)) ∧ X.cell? ⟨w.heap.size, 3, none⟩ = some (.int .u64 (s.d.toNat : Int)) ∧
      X.cell? ⟨w.heap.size + 1, 0, none⟩ = some (.int .u64 (t.a.toNat : Int)) ∧ X.cell? ⟨w.heap.size + 1, 1, none⟩ = some (.int .u64 (t.b.toNat : Int)) ∧ X.cell? ⟨w.heap.size + 1, 2, none⟩ = some (.int .u64 (t.c.toNat : Int)) ∧ X.cell? ⟨w.heap.size + 1, 3, none⟩ = some (.int .u64 (t.d.toNat : Int)) ∧ Hid (Below w.heap.size w X))
    (first | exact ⟨x0, x1, x2, x3, y0, y1, y2, y3, hb0⟩ | exact two_sets_keep hbf (by assumption) | exact two_sets_keep hbe (by assumption) | exact two_sets_keep hbd (by assumption) | exact two_sets_keep hbc (by assumption) | exact two_sets_keep hbb (by assumption) | exact two_sets_keep hba ⟨x0, x1, x2, x3, y0, y1, y2, y3, hb0⟩)
    (first
      | (go_at_call 15; refine (setBytes_any s _ (HT.out.below (Below.drew hb0'))).mono ?_; rintro e Xa ⟨Aa, ca, rfl, hca, hra, hba⟩; have HB1 := Lib.hid (below_from hb0.out hba))
      | (go_at_call 22; (with_reducible refine (HOf.out Xa Aa ca hca hra).mono ?_); rintro e Xb ⟨rfl, hbb⟩; have HB2 := Lib.hid (below_from HB1.out hbb))
      | (go_at_call 17; (with_reducible refine (HTs.out Xb (HT.out.below HB2.out)).mono ?_); rintro e Xc ⟨rfl, hbc⟩; have HB3 := Lib.hid (below_from HB2.out hbc))
      | (go_at_call 17; (with_reducible refine (HTt.out Xc (HT.out.below HB3.out)).mono ?_); rintro e Xd ⟨rfl, hbd⟩; have HB4 := Lib.hid (below_from HB3.out hbd))
      | (go_at_call 28; (with_reducible refine (HOr.out Xd).mono ?_); rintro e Xe ⟨rfl, hbe⟩; have HB5 := Lib.hid (below_from HB4.out hbe))
      | (go_at_call 21; refine (awake2_any Xe (HT.out.below HB5.out)).mono ?_; rintro e Xf ⟨rfl, hbf⟩; have HB6 := Lib.hid (below_from HB5.out hbf))
      | fail)
  go_wp2_with fail
  go_ret
  exact ⟨rfl, HB6.out⟩
namespace lawSetBack
open Go.ChangeShapes Go.WideShapes Go.ChangeAt
open Go.ChangeMaps (open_string)
set_option maxRecDepth 100000 in
theorem contract (H : Type) (enc : TypeId × Value → H) (W : World) (base : Nat) (args : Array Value) (ds gs : List (DataW H)) (before : List MemPlace)
    (hval : ∀ (j : Nat) t v, Tryd.f5.params[j]? = some t → args[j]? = some v → Value.okWide Tryd.prog W .any base t v)
    (hW : DataW.Whole enc Tryd.prog Tryd.f5.params.toList Rows.setBackSpec.vars false W args.toList ds gs before) (hL : laidMetH Tryd.prog Rows.setBackRow.laid W) :
    Calls Tryd.prog 5 args W fun e W' => ∃ v, e = .returned v ∧ Rows.setBackSpec.post enc Tryd.prog Tryd.f5 false true false false W args v W' := by
  have hW' := hW
  obtain ⟨p, q, hA0, hV, rfl, hfz, hnd⟩ := hW
  have hA : DataW.TrodAll enc Tryd.prog W 0 (fun _ => true) true Tryd.f5.params.toList args.toList ds p := hA0
  rw [Tryd.params5] at hA hval
  obtain ⟨v0, vs0, d0, ds0, p0, q0, hargs, rfl, rfl, h0, r0⟩ := trodAll_cons hA
  obtain ⟨v1, vs1, d1, ds1, p1, q1, rfl, rfl, rfl, h1, r1⟩ := trodAll_cons r0
  obtain ⟨rfl, rfl, rfl⟩ := trodAll_nil r1
  obtain rfl : args = #[v0, v1] := by cases args; simp_all
  obtain ⟨rfl, rfl⟩ := trodVars_none hV
  obtain ⟨s, rfl⟩ := open_set1 (hval 0 24 v0 rfl rfl) h0
  obtain ⟨t, rfl⟩ := open_set1 (hval 1 24 v1 rfl rfl) h1
  have HT : TzOk W := tz_of_laid hL
  refine (setBack_walk s t W HT).mono fun e W' ⟨he, hb⟩ => ?_
  subst he
  exact ⟨_, rfl, post_true Tryd.laidOut (by rw [Tryd.params5]; intro t ht; simp at ht; rcases ht with rfl <;> exact ⟨by kernel_rfl, of_decide_eq_true (by kernel_rfl)⟩) hW' rfl rfl rfl Tryd.underlying4 hb⟩
theorem laid_met (os : Os) : laidMet Tryd.prog Rows.setBackRow.laid ((tzWorld os).forCall (fun _ _ => 0) ⟨#[], #[.agg #[.int .u64 0, .int .u64 0, .int .u64 0, .int .u64 0], .agg #[.int .u64 0, .int .u64 0, .int .u64 0, .int .u64 0]], []⟩).memory :=
  laidMet_of_run' 70 (by kernel_rfl) (by kernel_rfl)
theorem reads (os : Os) {H : Type} (enc : TypeId × Value → H) : ∃ places, DataW.whole enc Tryd.prog ((tzWorld os).forCall (fun _ _ => 0) ⟨#[], #[.agg #[.int .u64 0, .int .u64 0, .int .u64 0, .int .u64 0], .agg #[.int .u64 0, .int .u64 0, .int .u64 0, .int .u64 0]], []⟩).memory Tryd.f5.params.toList Rows.setBackSpec.vars false (#[.agg #[.int .u64 0, .int .u64 0, .int .u64 0, .int .u64 0], .agg #[.int .u64 0, .int .u64 0, .int .u64 0, .int .u64 0]] : Array Value).toList 8 = some ([.agg [.lit (.int .u64 0), .lit (.int .u64 0), .lit (.int .u64 0), .lit (.int .u64 0)], .agg [.lit (.int .u64 0), .lit (.int .u64 0), .lit (.int .u64 0), .lit (.int .u64 0)]], [], places) :=
  ⟨[], by kernel_rfl⟩
set_option maxRecDepth 100000 in
theorem lifted (os : Os) (started : os.Started) (H : Type) (enc : TypeId × Value → H) (F : Stop.Interp) :
    ReturnsInHanded {} Tryd.checked os 5 .any ((OpenSpec.ofChange Rows.setBackSpec).preRow enc Tryd.prog Tryd.f5 Rows.setBackRow.domain false Rows.setBackRow.laid) (((OpenSpec.ofChange Rows.setBackSpec).at F).post enc Tryd.prog Tryd.f5 false true false false) := by
  obtain ⟨places, hx⟩ := reads os enc
  refine returnsInHanded_of_row (C := Tryd.checked) (s := OpenSpec.ofChange Rows.setBackSpec) Tryd.own started (by kernel_rfl) Tryd.func5
    (witness_row_at (enc := enc) (C := Tryd.checked) false (tzWorld os) #[.agg #[.int .u64 0, .int .u64 0, .int .u64 0, .int .u64 0], .agg #[.int .u64 0, .int .u64 0, .int .u64 0, .int .u64 0]] rfl (by kernel_rfl) (by kernel_rfl) (by kernel_rfl)
      (OpenSpec.preRow_of_cond 8 hx (by kernel_rfl) (fun k hk => by cases hk) (by kernel_rfl) (laid_met os))) ?_
  intro W base args ds gs before hval hW _ _ _ hL _ _
  exact contract H enc W base args ds gs before hval hW hL
theorem said : Rows.SetBackSaid :=
  OpenClaim.holds_of_cond 5 Tryd.f5 rfl rfl rfl rfl rfl rfl rfl ⟨rfl, rfl, rfl, rfl, rfl⟩ rfl rfl rfl rfl rfl (by kernel_rfl) Tryd.func5 (by kernel_rfl)
    (of_decide_eq_true (by kernel_rfl)) (by unfold Func.isWrapper; first | (rw [if_pos (by decide +kernel)]; kernel_rfl) | (rw [if_neg (by decide +kernel)]; exact ⟨rfl, rfl⟩))
    (fun os started H enc _ F => by rw [OpenClaim.pre_eq_preRow]; exact lifted os started H enc F)
theorem plain (f : FuncId) (fn : Func) (hf : Tryd.pinned.checked.prog.funcNamed "quill/quilllaw02.SetBack" = some f) (hfn : Tryd.pinned.checked.prog.funcs[f]? = some fn) :
    true = Tryd.pinned.checked.prog.looks [] ∧ ∀ (j : Nat) t, fn.params[j]? = some t → Tryd.pinned.checked.prog.wantsStandIn t = false := by
  obtain rfl : f = 5 := Option.some.inj ((show Tryd.prog.funcNamed "quill/quilllaw02.SetBack" = some 5 by kernel_rfl).symm.trans hf) |>.symm
  obtain rfl : fn = Tryd.f5 := (Option.some.inj (Tryd.func5.symm.trans hfn)).symm
  refine ⟨by kernel_rfl, fun j t ht => ?_⟩
  rw [Tryd.params5] at ht
  have hm := Array.mem_of_getElem? ht
  simp at hm
  rcases hm with rfl
  · exact (show Tryd.prog.wantsStandIn 24 = false by kernel_rfl)
theorem proved : Rows.SetBackCardSaid :=
  Claim7.holds_tied_plain_at .later [] _ _ _ _ said (fun _ h => by cases h) (by kernel_rfl) (fun _ h => by cases h) setBack_row_tie rfl ⟨rfl, rfl⟩ (by kernel_rfl) rfl plain (by kernel_rfl)
end lawSetBack
end Go.Proofs.YthagcmpehpgmpaaDoor
