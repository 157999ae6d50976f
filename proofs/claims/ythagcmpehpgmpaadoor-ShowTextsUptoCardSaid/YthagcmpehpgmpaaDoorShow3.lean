/- An expression's text. -/
import Derived.Test.YthagcmpehpgmpaaDoorShow2
import Derived.Test.YthagcmpehpgmpaaDoorRexB
import Derived.Test.YthagcmpehpgmpaaDoorMake1
namespace Go.Proofs.YthagcmpehpgmpaaDoor
open Go.RowKit
set_option linter.unusedVariables false
set_option linter.unusedSimpArgs false

/-- the text; the empty one, if it may not be -/
def textT (t : Re) : List UInt8 := if mayB t then showT t else []
theorem textT_yes {t : Re} (h : mayB t = true) : textT t = showT t := by simp [textT, h]
theorem textT_no {t : Re} (h : mayB t = false) : textT t = [] := by simp [textT, h]
theorem TzOk.lt {w : World} (h : TzOk w) : 0 < w.heap.size := World.block_lt_of_cell? _ _ (h 0)

set_option maxRecDepth 100000 in
set_option maxHeartbeats 8000000 in
theorem showText_any {ok : Nat → Prop} (h : RH) (ks : List Re) (A : Option Addr) (c : Nat) (w : World) (hm : T.sizes ks ≤ 900000 ) (hc : ks.length ≤ c) (hr : InRow RE ok w ks A 0) (ht : TzOk w) :
    Calls Tryd.prog 39 #[reV h A ks.length c] w fun e w' => e = .returned (.string (str (textT (.mk h ks)))) ∧ Below w.heap.size w w' := by
  have HT := Lib.hid ht
  have HR := Lib.hid hr
  have e0 := new_at1 (w := w) (.cells (reA h A ks.length c) 47)
  have hb0 := below_new (Below.refl w.heap.size w) (.cells (reA h A ks.length c) 47)
  have hrow : InRow RE (fun _ => True) ((w.alloc (.cells (reA h A ks.length c) 47)).alloc (.cells (reA h A ks.length c) 47)) [.mk h ks] (some ⟨w.heap.size + 1, 0, none⟩) 0 :=
    row_one (t := 47) (by have := new_at1 (w := w.alloc (.cells (reA h A ks.length c) 47)) (.cells (reA h A ks.length c) 47); rw [World.size_alloc] at this; exact this) trivial hc ((hr.weak fun _ _ => trivial).below (below_new hb0 _))
  have HM := Lib.hid (May_any [.mk h ks] _ 1 _ (by simp only [T.sizes, T.size]; omega) hrow)
  have E0 := Lib.hid (heap_keep1 e0 (.cells (reA h A ks.length c) 47))
  have HB0 := Lib.hid (below_new hb0 (.cells (reA h A ks.length c) 47))
  clear e0 hb0 hrow hr ht
  go_enter Tryd.func39, Tryd.ntmps39
  go_wp2_with fail
  refine HM.out.mono ?_
  rintro e w1 ⟨rfl, hb1⟩
  have E1 := Lib.hid ((hb1.block _ (lt_of_block E0.out)).trans E0.out)
  have HB1 := Lib.hid (below_from HB0.out hb1)
  rw [show [T.mk h ks].all mayB = mayB (.mk h ks) by simp]
  clear hb1 E0 HB0 HM
  rcases hmb : mayB (.mk h ks) with _ | _
  · have HX := Lib.hid (textT_no hmb)
    clear hmb
    go_wp2_with fail
    go_ret
    exact ⟨by rw [HX.out]; rfl, HB1.out⟩
  · have HX := Lib.hid (textT_yes hmb)
    have ho : okT (.mk h ks) = true := by
      unfold mayB at hmb
      simp only [Bool.and_eq_true] at hmb
      exact hmb.1
    have HP := Lib.hid (put_ok ho)
    have ht1 : TzOk w1 := HT.out.below HB1.out
    have hg := ht1.lt
    have hr2 := (HR.out.below HB1.out).there
    have hbn : Below w1.heap.size w1 (w1.alloc (.cells #[.pointer none, .slice none 0 0] PG)) := below_new (Below.refl _ _) _
    have HR2 : Hid (InRow RE (fun x => x < w1.heap.size) (w1.alloc (.cells #[.pointer none, .slice none 0 0] PG)) ks A 0) := (hr2.weak fun _ h => h.2).below hbn
    have HT2 : Hid (TzOk (w1.alloc (.cells #[.pointer none, .slice none 0 0] PG))) := ht1.below hbn
    have HBd := Lib.hid (Bd.new PG w1)
    have E2 := Lib.hid (heap_keep1 E1.out (.cells #[.pointer none, .slice none 0 0] PG))
    have HB2 := Lib.hid (below_new HB1.out (.cells #[.pointer none, .slice none 0 0] PG))
    have hsz := HB1.out.size
    obtain ⟨x0, x1, x2, x3, x4, x5⟩ := cells6_of E2.out
    clear hmb ho ht1 hr2 hbn E1 HR HT
    go_wp2_with fail
    refine (HP.out A c _ w1.heap.size [] [] none 0 hc HR2.out HBd.out hg HT2.out (by decide) (fun k x hx => by simp at hx) (by simp; omega)).mono ?_
    rintro e w3 ⟨rfl, hbd, hk⟩
    have HBd3 := Lib.hid hbd
    have HB3 := Lib.hid (HB2.out.trans (hk.1.mono hsz))
    clear hbd hk x0 x1 x2 x3 x4 x5 E2
    go_wp2_with fail
    refine (string_any HBd3.out).mono ?_
    rintro e w4 ⟨rfl, hb4⟩
    have HB4 := Lib.hid (HB3.out.trans (hb4.mono hsz))
    clear hb4
    go_wp2_with fail
    go_ret
    exact ⟨by rw [HX.out]; rfl, HB4.out⟩
end Go.Proofs.YthagcmpehpgmpaaDoor
