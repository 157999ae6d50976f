/- The document's bits of the right value. -/
import Derived.Test.YteokbmngebckjaaCf
import Derived.Test.YteokbmngebckjaaCa
import Derived.Test.YteokbmngebckjaaCb
namespace Go.Proofs.Yteokbmngebckjaa
open Go.RowKit
set_option linter.unusedVariables false
set_option linter.unusedSimpArgs false

theorem rightRel_one {t : Re} {s : List UInt8} {v u : Va} {b c : Bool} (h : RightRel t s v b) (k : RightRel t s u c) : v = u ∧ b = c := by
  rcases h with ⟨rfl, hm, hv⟩ | ⟨rfl, rfl, hn⟩ <;> rcases k with ⟨rfl, hm2, hu⟩ | ⟨rfl, rfl, hn2⟩
  · exact ⟨RV_one (may_okT hm) hv hu, rfl⟩
  · exact (hn2 ⟨hm, RV_LT hv⟩).elim
  · exact (hn ⟨hm2, RV_LT hu⟩).elim
  · exact ⟨rfl, rfl⟩
theorem rightRel_size {t : Re} {s : List UInt8} {v : Va} {b : Bool} (h : RightRel t s v b) : v.size ≤ t.size * (s.length + 1) := by
  rcases h with ⟨_, _, hv⟩ | ⟨_, rfl, _⟩
  · exact RV_size hv
  · have := T.size_pos t
    exact Nat.mul_le_mul this (Nat.succ_le_succ (Nat.zero_le _))
set_option maxRecDepth 100000 in
set_option maxHeartbeats 4000000 in
theorem rRight_any {P : Nat → Prop} (h : RH) (ks : List Re) (A : Option Addr) (c : Nat) (S : ByteArray) (w : World) (hm : T.sizes ks ≤ 900000) (hc : ks.length ≤ c) (hr : InRow RE P w ks A 0) (hS : S.size ≤ 100)
    (hsv : ∀ v b, RightRel (.mk h ks) S.data.toList v b → v.size ≤ 900000000) :
    Calls Try.prog 15 #[reV h A ks.length c, .string S] w (BRightPost (.mk h ks) S.data.toList w) := by
  obtain ⟨W, hW⟩ : ∃ W, w.alloc (.cells (reA h A ks.length c) 34) = W := ⟨_, rfl⟩
  have hbW : Below w.heap.size w W := by rw [← hW]; exact below_new (Below.refl _ _) _
  have e1W : W.heap[w.heap.size]? = some (.cells (reA h A ks.length c) 34 (0, 0)) := by rw [← hW]; exact new_at1 _
  have HC := Lib.hid (right_any h ks A c S W hm hc (hr.below hbW) hS)
  have HE := Lib.hid hW
  have HBW := Lib.hid hbW
  have E1 := Lib.hid e1W
  have HSV := Lib.hid hsv
  clear hW hbW e1W hr hsv
  go_enter Try.func15, Try.ntmps15
  go_upto_region 1 with fail
  rw [show w.alloc _ = W from HE.out]
  obtain ⟨x0, x1, x2, x3, x4, x5⟩ := re_at_box E1.out
  go_wp2_with fail
  refine HC.out.mono ?_
  rintro e w1 ⟨hn, kn, An, cn, b, rfl, hrl, hcn, hrn, hb1⟩
  have hvs := HSV.out _ _ hrl
  simp only [T.size] at hvs
  obtain ⟨V, hV⟩ : ∃ V, w1.alloc (.cells (vaA hn An kn.length cn) 24) = V := ⟨_, rfl⟩
  have hbV : Below w1.heap.size w1 V := by rw [← hV]; exact below_new (Below.refl _ _) _
  have e1V : V.heap[w1.heap.size]? = some (.cells (vaA hn An kn.length cn) 24 (0, 0)) := by rw [← hV]; exact new_at1 _
  have HC2 := Lib.hid (refCode_upto 1000000000 _ hn kn An cn V (by omega) (Nat.le_refl _) hcn (hrn.below hbV))
  have HBV := Lib.hid (below_from (below_from HBW.out hb1) hbV)
  have HVV := Lib.hid hV
  have E1V := Lib.hid e1V
  have HRL := Lib.hid hrl
  clear x0 x1 x2 x3 x4 x5 HC hrl hrn hb1 hvs hV hbV e1V
  cases b with
  | true =>
    go_upto_region 2 with fail
    rw [show w1.alloc _ = V from HVV.out]
    obtain ⟨y0, y1, y2⟩ := va_at_box E1V.out
    go_wp2_with fail
    refine HC2.out.mono ?_
    rintro e w2 ⟨rfl, hb2⟩
    have HB2 := Lib.hid (below_from HBV.out hb2)
    clear y0 y1 y2 HC2 hb2
    go_wp2_with fail
    refine bodyPost_ret (v := .tuple #[.string (str (codeV (.mk hn kn))), .bool true]) (by simp [results, Try.results15, go_sem]) rfl ⟨_, true, rfl, HRL.out, HB2.out⟩
  | false =>
    have HV0 : Hid (codeV (.mk hn kn) = []) := by
      rcases HRL.out with ⟨h, _⟩ | ⟨_, e, _⟩
      · cases h
      · unfold Hid; rw [e]; exact codeV_bad (.inl (by decide))
    go_upto_region 2 with fail
    rw [show w1.alloc _ = V from HVV.out]
    obtain ⟨y0, y1, y2⟩ := va_at_box E1V.out
    go_wp2_with fail
    refine bodyPost_ret (v := .tuple #[.string (str (codeV (.mk hn kn))), .bool false]) (by rw [HV0.out]; simp [results, Try.results15, go_sem]) rfl ⟨_, false, rfl, HRL.out, HBV.out⟩
end Go.Proofs.Yteokbmngebckjaa
