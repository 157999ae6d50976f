/- coded.Of, coded.Text. The document's example of layer 16. -/
import Derived.Test.YteoghoaggpbkpaaDoorCodTm
import Derived.Test.YteoghoaggpbkpaaDoorCodOm
import Derived.Test.YteoghoaggpbkpaaDoorRexB
import Derived.Test.YteoghoaggpbkpaaDoorMake1
import Derived.Test.YteoghoaggpbkpaaDoorRdrm
namespace Go.Proofs.YteoghoaggpbkpaaDoor
open Go.RowKit
set_option linter.unusedVariables false
set_option linter.unusedSimpArgs false

theorem co_one {P : Nat → Prop} {Y : World} {N : Nat} {t : TypeId} {h : CH} {ks : List Co} {A : Option Addr} {c : Nat} (hN : Y.heap[N]? = some (.cells (coA h A ks.length c) t (0, 0))) (hP : P N) (hc : ks.length ≤ c) (hr : InRow CE P Y ks A 0) :
    InRow CE P Y [.mk h ks] (some ⟨N, 0, none⟩) 0 := by
  simp only [InRow, InT]
  refine ⟨⟨_, CH.cells h ++ [.slice A ks.length c], rfl, hP, fun j u hu => ?_, A, c, rfl, hc, hr⟩, trivial⟩
  rw [cell_heap hN, ← hu]
  simp [CH.cells]
theorem may_okT {t : Re} (h : mayB t = true) : okT t = true := by
  unfold mayB at h
  simp only [Bool.and_eq_true] at h
  exact h.1
set_option maxRecDepth 100000 in
set_option maxHeartbeats 4000000 in
theorem cOf_any {ok : Nat → Prop} (h : RH) (ks : List Re) (A : Option Addr) (c : Nat) (w : World) (hm : T.sizes ks ≤ 900000) (hc : ks.length ≤ c) (hr : InRow RE ok w ks A 0) :
    Calls Tryd.prog 23 #[reV h A ks.length c] w fun e w' => Below w.heap.size w w' ∧ ((mayB (.mk h ks) = false ∧ e = .returned (.tuple #[coV ⟨0, [], S4.zero⟩ none 0 0, .bool false])) ∨
      (mayB (.mk h ks) = true ∧ ∃ h2 k2 A2 c2, e = .returned (.tuple #[coV h2 A2 k2.length c2, .bool true]) ∧ ofC (.mk h ks) = .mk h2 k2 ∧ k2.length ≤ c2 ∧ InRow CE (fun x => w.heap.size ≤ x) w' k2 A2 0)) := by
  obtain ⟨W, hW⟩ : ∃ W, (w.alloc (.cells (reA h A ks.length c) 42)).alloc (.cells coZ 29) = W := ⟨_, rfl⟩
  have hbW : Below w.heap.size w W := by rw [← hW]; exact below_new (below_new (Below.refl _ _) _) _
  have e1 : W.heap[w.heap.size]? = some (.cells (reA h A ks.length c) 42 (0, 0)) := by
    rw [← hW]
    exact heap_keep1 (new_at1 (w := w) _) _
  have e2 : W.heap[w.heap.size + 1]? = some (.cells coZ 29 (0, 0)) := by
    rw [← hW]
    have := new_at1 (w := w.alloc (.cells (reA h A ks.length c) 42)) (.cells coZ 29)
    rw [World.size_alloc] at this
    exact this
  obtain ⟨X, hX⟩ : ∃ X, W.alloc (.cells (reA h A ks.length c) 42) = X := ⟨_, rfl⟩
  have hbX : Below W.heap.size W X := by rw [← hX]; exact below_new (Below.refl _ _) _
  have x1 : X.heap[W.heap.size]? = some (.cells (reA h A ks.length c) 42 (0, 0)) := by rw [← hX]; exact new_at1 _
  have hsW : W.heap.size = w.heap.size + 1 + 1 := by rw [← hW]; simp
  rw [hsW] at x1
  have HM := Lib.hid (May_any [.mk h ks] (some ⟨w.heap.size + 1 + 1, 0, none⟩) 1 X (by simp only [T.sizes, T.size]; omega) (row_one (P := fun _ => True) x1 trivial hc (((hr.below hbW).below hbX).weak fun _ _ => trivial)))
  rw [show [T.mk h ks].all mayB = mayB (.mk h ks) by simp] at HM
  have HXX : Hid (((w.alloc (.cells (reA h A ks.length c) 42)).alloc (.cells coZ 29)).alloc (.cells (reA h A ks.length c) 42) = X) := by unfold Hid; rw [hW]; exact hX
  have HB := Lib.hid (below_from hbW hbX)
  have HE1 := Lib.hid ((hbX.block _ (lt_of_block e1)).trans e1)
  have HE2 := Lib.hid ((hbX.block _ (lt_of_block e2)).trans e2)
  have HR := Lib.hid hr
  have HO := Lib.hid (fun (hb : mayB (.mk h ks) = true) (Y : World) (hY : Below w.heap.size w Y) => of_upto (1 + T.sizes ks) ok h ks A c Y (Nat.le_refl _) (may_okT hb) hc (hr.below hY))
  clear hW hbW e1 e2 hX hbX x1 hsW hr
  go_enter Tryd.func23, Tryd.ntmps23
  go_wp2_with fail
  have hcall := HM.out
  rw [← HXX.out] at hcall
  refine hcall.mono ?_
  rw [HXX.out]
  rintro e w1 ⟨rfl, hb1⟩
  have HB1 := Lib.hid (below_from HB.out hb1)
  have E1 := Lib.hid ((hb1.block _ (lt_of_block HE1.out)).trans HE1.out)
  have E2 := Lib.hid ((hb1.block _ (lt_of_block HE2.out)).trans HE2.out)
  obtain ⟨⟨x0, x1, x2, x3, x4, x5⟩, _⟩ := re_cells E1.out
  obtain ⟨⟨y0, y1, y2, y3, y4, y5, y6⟩, f0, f1, f2, f3, f4, f5, f6⟩ := co_cells E2.out
  clear hb1 HM hcall HE1 HE2
  rcases hmb : mayB (.mk h ks) with _ | _
  · have HMB : Hid (mayB (.mk h ks) = false) := hmb
    clear hmb
    go_wp2_with fail
    refine bodyPost_ret (v := .tuple #[coV ⟨0, [], S4.zero⟩ none 0 0, .bool false]) (by simp [results, Tryd.results23, go_sem, y0, y1, y2, y3, y4, y5, y6]; exact ⟨rfl, rfl, rfl, rfl⟩) rfl ⟨seven_below HB1.out (by omega), .inl ⟨HMB.out, rfl⟩⟩
  · have HMB : Hid (mayB (.mk h ks) = true) := hmb
    have HC := Lib.hid (HO.out hmb w1 HB1.out)
    clear hmb
    go_wp2_with fail
    refine HC.out.mono ?_
    rintro e w2 ⟨h2, k2, A2, c2, rfl, e2, hc2, hr2, hb2⟩
    have HB2 := Lib.hid (below_from HB1.out hb2)
    obtain ⟨⟨y0, y1, y2, y3, y4, y5, y6⟩, f0, f1, f2, f3, f4, f5, f6⟩ := co_cells ((hb2.block _ (lt_of_block E2.out)).trans E2.out)
    have hlt := lt_of_block E2.out
    have HR2 := Lib.hid hr2
    have HT := Lib.hid e2
    have HC2 := Lib.hid hc2
    clear hb2 HC e2 hc2 hr2
    go_wp2_with fail
    refine bodyPost_ret (v := .tuple #[coV h2 A2 k2.length c2, .bool true]) (by simp [results, Tryd.results23, go_sem, y0, y1, y2, y3, y4, y5, y6]) rfl ⟨seven_below HB2.out (by omega), .inr ⟨HMB.out, h2, k2, A2, c2, rfl, HT.out, HC2.out, (row_seven HR2.out fun x hx => by omega).weak fun x hx => by have := HB1.out.size; omega⟩⟩

/-- the text; the empty one, if it may not be -/
def textCo (t : Co) : List UInt8 := if mayC t then textC t else []
set_option maxRecDepth 100000 in
set_option maxHeartbeats 4000000 in
theorem cText_any {ok : Nat → Prop} (h : CH) (ks : List Co) (A : Option Addr) (c : Nat) (w : World) (hm : T.sizes ks ≤ 90000) (hc : ks.length ≤ c) (hr : InRow CE ok w ks A 0) (hf : fewC (.mk h ks)) (ht : TzOk w) :
    Calls Tryd.prog 12 #[coV h A ks.length c] w fun e w' => e = .returned (.string (str (textCo (.mk h ks)))) ∧ Below w.heap.size w w' := by
  obtain ⟨W, hW⟩ : ∃ W, w.alloc (.cells (coA h A ks.length c) 29) = W := ⟨_, rfl⟩
  have hbW : Below w.heap.size w W := by rw [← hW]; exact below_new (Below.refl _ _) _
  have e1 : W.heap[w.heap.size]? = some (.cells (coA h A ks.length c) 29 (0, 0)) := by rw [← hW]; exact new_at1 _
  obtain ⟨X, hX⟩ : ∃ X, W.alloc (.cells (coA h A ks.length c) 29) = X := ⟨_, rfl⟩
  have hbX : Below W.heap.size W X := by rw [← hX]; exact below_new (Below.refl _ _) _
  have hsW : W.heap.size = w.heap.size + 1 := by rw [← hW]; simp
  have x1 : X.heap[w.heap.size + 1]? = some (.cells (coA h A ks.length c) 29 (0, 0)) := by rw [← hX, ← hsW]; exact new_at1 _
  have HM := Lib.hid (cMay_any [.mk h ks] (some ⟨w.heap.size + 1, 0, none⟩) 1 X (by simp only [T.sizes, T.size]; omega) (co_one (P := fun _ => True) x1 trivial hc (((hr.below hbW).below hbX).weak fun _ _ => trivial)) (fun t ht => by simp at ht; subst ht; exact hf.short))
  rw [show [T.mk h ks].all mayC = mayC (.mk h ks) by simp] at HM
  have HXX : Hid ((w.alloc (.cells (coA h A ks.length c) 29)).alloc (.cells (coA h A ks.length c) 29) = X) := by unfold Hid; rw [hW]; exact hX
  have HB := Lib.hid (below_from hbW hbX)
  have HE1 := Lib.hid ((hbX.block _ (lt_of_block e1)).trans e1)
  have HT := Lib.hid (fun (Y : World) (hY : Below w.heap.size w Y) => ctext_upto (1 + T.sizes ks) ok h ks A c Y (Nat.le_refl _) (by omega) hc (hr.below hY) hf (ht.below hY))
  have HO : Hid (textCo (.mk h ks) = if mayC (.mk h ks) then textC (.mk h ks) else []) := rfl
  generalize mayC (.mk h ks) = m at *
  generalize textC (.mk h ks) = tx at *
  clear hW hbW e1 hX hbX x1 hsW hr hf ht
  go_enter Tryd.func12, Tryd.ntmps12
  go_wp2_with fail
  have hcall := HM.out
  rw [← HXX.out] at hcall
  refine hcall.mono ?_
  rw [HXX.out]
  rintro e w1 ⟨rfl, hb1⟩
  have HB1 := Lib.hid (below_from HB.out hb1)
  obtain ⟨x0, x1, x2, x3, x4, x5, x6⟩ := co_at_box ((hb1.block _ (lt_of_block HE1.out)).trans HE1.out)
  clear hb1 HM hcall HE1
  cases m with
  | false =>
    go_wp2_with fail
    go_ret
    exact ⟨by rw [HO.out]; rfl, HB1.out⟩
  | true =>
    go_wp2_with fail
    refine (HT.out _ HB1.out).mono ?_
    rintro e w2 ⟨rfl, hb2⟩
    have hb := below_from HB1.out hb2
    go_wp2_with fail
    go_ret
    exact ⟨by rw [HO.out]; rfl, hb⟩
end Go.Proofs.YteoghoaggpbkpaaDoor
namespace Go.Proofs.YteoghoaggpbkpaaDoor
open Go.RowKit
set_option linter.unusedVariables false
set_option linter.unusedSimpArgs false

def ex16 : Re := foldT 5 1 [leaf 97, leaf 98]
theorem ex16_parse : pAlt [97, 124, 98] 20 0 = some (ex16, 3) := by kernel_rfl
theorem ex16_may : mayB ex16 = true := by decide +kernel
theorem ex16_text : textCo (ofC ex16) = [40, 58, 48, 58, 97, 124, 58, 49, 58, 98, 41] := by decide +kernel
theorem ex16_size : ex16.size = 3 := by decide +kernel
theorem ex16_csize : (ofC ex16).size = 3 := by decide +kernel
theorem ex16_few : ((ofC ex16).all.all fun x => decide (x.head.b.length ≤ 1000)) = true := by decide +kernel
theorem ex16_fewC : fewC (ofC ex16) := fun x hx => by
  have := List.all_eq_true.1 ex16_few x hx
  simpa using this
set_option maxRecDepth 100000 in
set_option maxHeartbeats 4000000 in
theorem awake16_any (w : World) (ht : TzOk w) : Calls Tryd.prog 7 #[] w fun e w' => e = .returned (.bool true) ∧ Below w.heap.size w w' := by
  have HT := Lib.hid ht
  have HP : Hid (pAlt (⟨#[97, 124, 98]⟩ : ByteArray).data.toList 20 0 = some (ex16, (⟨#[97, 124, 98]⟩ : ByteArray).size)) := ex16_parse
  have HR := Lib.hid (fun X => readRe_any (S := ⟨#[97, 124, 98]⟩) (by decide) 20 (by decide) HP.out ex16_may X)
  have HX := Lib.hid ex16_text
  have HM := Lib.hid ex16_may
  have HZ := Lib.hid ex16_size
  have HCZ := Lib.hid ex16_csize
  have HF := Lib.hid ex16_fewC
  clear ht HP
  generalize ex16 = t at *
  go_enter Tryd.func7, Tryd.ntmps7
  go_wp2_with fail
  refine (HR.out _).mono ?_
  rintro e w1 ⟨h1, k1, A1, c1, rfl, e1, hc1, hr1, hb1⟩
  have HB1 := Lib.hid (below_new hb1 (.cells (reA h1 A1 k1.length c1) 42))
  have hr2 := hr1.below (below_new (Below.refl w1.heap.size w1) (.cells (reA h1 A1 k1.length c1) 42))
  have hz : 1 + T.sizes k1 = 3 := by have := HZ.out; rw [e1] at this; exact this
  have HC := Lib.hid (cOf_any h1 k1 A1 c1 _ (by omega) hc1 hr2)
  have E1 := Lib.hid e1
  clear hb1 hr1 hr2 hc1 e1 hz
  go_wp2_with fail
  refine HC.out.mono ?_
  rintro e w2 ⟨hb2, (⟨hm, _⟩ | ⟨hm, h2, k2, A2, c2, rfl, e2, hc2, hr2⟩)⟩
  · exfalso
    have := HM.out
    rw [E1.out, hm] at this
    cases this
  have HB2 := Lib.hid (below_new (below_from HB1.out hb2) (.cells (coA h2 A2 k2.length c2) 29))
  have hr3 := hr2.below (below_new (Below.refl w2.heap.size w2) (.cells (coA h2 A2 k2.length c2) 29))
  rw [← E1.out] at e2
  have hz : 1 + T.sizes k2 = 3 := by have := HCZ.out; rw [e2] at this; exact this
  have hf : fewC (.mk h2 k2) := by rw [← e2]; exact HF.out
  have HTx := Lib.hid (cText_any h2 k2 A2 c2 _ (by omega) hc2 hr3 hf (HT.out.below HB2.out))
  rw [← e2, HX.out] at HTx
  clear hm e2 hc2 hr2 hr3 hb2 hz hf HC
  go_wp2_with fail
  refine HTx.out.mono ?_
  rintro e w3 ⟨rfl, hb3⟩
  have hb := below_from HB2.out hb3
  go_wp2_with fail
  go_ret
  exact ⟨rfl, hb⟩
end Go.Proofs.YteoghoaggpbkpaaDoor
