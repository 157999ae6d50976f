/- Whether a value is one of an expression: val.is at Pair. -/
import Derived.Test.YteokbmngebckjaaVi1
namespace Go.Proofs.Yteokbmngebckjaa
open Go.RowKit
set_option linter.unusedVariables false
set_option linter.unusedSimpArgs false

set_option maxRecDepth 100000 in
set_option maxHeartbeats 1200000 in
theorem vis_3n (n : Nat) (ih : IH_vis n) (hm : n + 1 ≤ 1000000000) (okr okv : Nat → Prop) (h : RH) (ks : List Re) (A : Option Addr) (c : Nat) (h2 : VH) (ls : List Va) (A2 : Option Addr) (c2 : Nat) (w : World) (hn : 1 + T.sizes ls ≤ n + 1) (ho : okT (.mk h ks) = true) (hc : ks.length ≤ c) (hc2 : ls.length ≤ c2) (hr : InRow RE okr w ks A 0) (hr2 : InRow VE okv w ls A2 0) (hd : isHd h2 ls.length = true) (e : h2.k = 3) (hr0 : h.k ≠ 4) :
    Calls Try.prog 59 #[reV h A ks.length c, vaV h2 A2 ls.length c2] w fun e w' => e = .returned (.bool (isB (.mk h2 ls) (.mk h ks))) ∧ Below w.heap.size w w' := by
  have hl := T.length_le_sizes ls
  have IH := Lib.hid ih
  have HS : Hid (∀ t ∈ ls, t.size ≤ n) := fun t ht => by have := T.sizes_mem ht; omega
  obtain ⟨W, hW, hbW, hsW, e1W, e2W⟩ := rv_pre w h A ks.length c h2 A2 ls.length c2
  have HE := Lib.hid hW
  have HB := Lib.hid hbW
  have E1 := Lib.hid e1W
  have E2 := Lib.hid e2W
  have HR := Lib.hid (hr.below hbW)
  have HR2 := Lib.hid (hr2.below hbW)
  have HO := Lib.hid ho
  clear ih hr hr2 hW hbW e1W e2W ho
  obtain ⟨x0, x1, x2, x3, x4, x5⟩ := re_at_box E1.out
  obtain ⟨y0, y1, y2⟩ := va_at_box E2.out
  have r0 : ((h.k.toNat : Int) == 4) = false := u8_ne (n := 4) (by decide) hr0
  have HX : Hid (isB (.mk h2 ls) (.mk h ks) = false) := isB_3n e hr0
  have hb0 : h2.b = 0 := ((isHd_iff h2 ls.length).1 hd).1.resolve_left (by rw [e]; decide)
  have t2 : ((h2.k.toNat : Int) == 2) = false := u8_ne (n := 2) (by decide) (by rw [e]; decide)
  have tb : ((h2.b.toNat : Int) == 0) = true := u8_eq (n := 0) (by decide) hb0
  have CK := Lib.hid (vkids_any h2.k W)
  rw [show kidsN h2.k = 2 by rw [e]; rfl] at CK
  have hkv : (h2.k.toNat : Int) = 3 := by rw [e]; rfl
  rw [hkv] at y0
  clear hkv
  have hlen : ls.length = 2 := by have := ((isHd_iff h2 ls.length).1 hd).2; rw [e] at this; simpa using this
  rw [hlen] at y2 HE E2 ⊢
  clear hd e hb0 hr0 HS IH HO HR HR2
  have fx0 := fun p : BelowBy W => BelowBy.cell x0 p
  have fy0 := fun p : BelowBy W => BelowBy.cell y0 p
  go_enter Try.func59, Try.ntmps59
  go_wp2_with fail
  rw [HE.out]
  refine CK.out.mono ?_
  rintro e' w3 ⟨rfl, hw3⟩
  obtain rfl : W = w3 := hw3.symm
  have hbk := Below.refl W.heap.size W
  go_wp2_with fail
  refine wp_region_below (W := W) (by kernel_rfl) (by kernel_rfl) hbk ?_
  repeat (go_big_quiet_step (fail))
  refine wpQuiet_nil ?_
  intro _ hw1
  obtain ⟨⟨wq, hq⟩, hw2⟩ := hw1
  subst hw2
  have hq2 := below_from HB.out hq
  go_wp2_with fail
  go_ret
  exact ⟨by rw [HX.out]; rfl, hq2⟩
set_option maxRecDepth 100000 in
set_option maxHeartbeats 1200000 in
theorem vis_3y (n : Nat) (ih : IH_vis n) (hm : n + 1 ≤ 1000000000) (okr okv : Nat → Prop) (h : RH) (ks : List Re) (A : Option Addr) (c : Nat) (h2 : VH) (ls : List Va) (A2 : Option Addr) (c2 : Nat) (w : World) (hn : 1 + T.sizes ls ≤ n + 1) (ho : okT (.mk h ks) = true) (hc : ks.length ≤ c) (hc2 : ls.length ≤ c2) (hr : InRow RE okr w ks A 0) (hr2 : InRow VE okv w ls A2 0) (hd : isHd h2 ls.length = true) (e : h2.k = 3) (hr0 : h.k = 4) :
    Calls Try.prog 59 #[reV h A ks.length c, vaV h2 A2 ls.length c2] w fun e w' => e = .returned (.bool (isB (.mk h2 ls) (.mk h ks))) ∧ Below w.heap.size w w' := by
  have hl := T.length_le_sizes ls
  have IH := Lib.hid ih
  have HS : Hid (∀ t ∈ ls, t.size ≤ n) := fun t ht => by have := T.sizes_mem ht; omega
  obtain ⟨W, hW, hbW, hsW, e1W, e2W⟩ := rv_pre w h A ks.length c h2 A2 ls.length c2
  have HE := Lib.hid hW
  have HB := Lib.hid hbW
  have E1 := Lib.hid e1W
  have E2 := Lib.hid e2W
  have HR := Lib.hid (hr.below hbW)
  have HR2 := Lib.hid (hr2.below hbW)
  have HO := Lib.hid ho
  clear ih hr hr2 hW hbW e1W e2W ho
  obtain ⟨x0, x1, x2, x3, x4, x5⟩ := re_at_box E1.out
  obtain ⟨y0, y1, y2⟩ := va_at_box E2.out
  have r0 : (h.k.toNat : Int) = 4 := by rw [hr0]; rfl
  rw [r0] at x0
  obtain ⟨x, y, hox, hoy, hks⟩ : ∃ x y, okT x = true ∧ okT y = true ∧ ks = [x, y] := by
    rcases okT_kind HO.out with ⟨a, b, _⟩ | ⟨x, y, hx, hy, k, e⟩ | ⟨x, y, hx, hy, k, e⟩ | ⟨x, hx, k, e⟩
    · exact absurd hr0 a
    · exact ⟨x, y, hx, hy, e⟩
    · rw [hr0] at k; exact absurd k (by decide)
    · rw [hr0] at k; exact absurd k (by decide)
  subst hks
  have hb0 : h2.b = 0 := ((isHd_iff h2 ls.length).1 hd).1.resolve_left (by rw [e]; decide)
  have t2 : ((h2.k.toNat : Int) == 2) = false := u8_ne (n := 2) (by decide) (by rw [e]; decide)
  have tb : ((h2.b.toNat : Int) == 0) = true := u8_eq (n := 0) (by decide) hb0
  have CK := Lib.hid (vkids_any h2.k W)
  rw [show kidsN h2.k = 2 by rw [e]; rfl] at CK
  have hkv : (h2.k.toNat : Int) = 3 := by rw [e]; rfl
  rw [hkv] at y0
  clear hkv
  obtain ⟨v, u, hls⟩ := va_len2 (show ls.length = 2 by have := ((isHd_iff h2 ls.length).1 hd).2; rw [e] at this; simpa using this)
  subst hls
  obtain ⟨hx, kx⟩ := x
  obtain ⟨hy, ky⟩ := y
  obtain ⟨ad, Ax, cx, hA, hcx, hrx, u0, u1, u2, u3, u4, u5⟩ := kid0N HR.out
  obtain ⟨ad_, Ay, cy, hA_, hcy, hry, z0, z1, z2, z3, z4, z5⟩ := kid1N HR.out
  subst hA
  cases hA_
  obtain ⟨hv, kv⟩ := v
  obtain ⟨bd, Av, cv, hB, hcv, hrv, q0, q1, q2⟩ := vkid0 HR2.out
  obtain ⟨hu, ku⟩ := u
  obtain ⟨bd_, Au, cu, hB_, hcu, hru, p0, p1, p2⟩ := vkid1 HR2.out
  subst hB
  cases hB_
  have C0 : Hid (∀ p : BelowBy W, Calls Try.prog 59 #[reV hx Ax kx.length cx, vaV hv Av kv.length cv] p.w fun e w' => e = .returned (.bool (isB (.mk hv kv) (.mk hx kx))) ∧ Below p.w.heap.size p.w w') := fun p => IH.out okr okv hx kx Ax cx hv kv Av cv p.w (by have := HS.out (.mk hv kv) (by simp); simp only [T.size] at this; exact this) hox hcx hcv (hrx.below p.h) (hrv.below p.h)
  have C1 : Hid (∀ p : BelowBy W, Calls Try.prog 59 #[reV hy Ay ky.length cy, vaV hu Au ku.length cu] p.w fun e w' => e = .returned (.bool (isB (.mk hu ku) (.mk hy ky))) ∧ Below p.w.heap.size p.w w') := fun p => IH.out okr okv hy ky Ay cy hu ku Au cu p.w (by have := HS.out (.mk hu ku) (by simp); simp only [T.size] at this; exact this) hoy hcy hcu (hry.below p.h) (hru.below p.h)
  have HX : Hid (isB (.mk h2 [.mk hv kv, .mk hu ku]) (.mk h [.mk hx kx, .mk hy ky]) = (isB (.mk hv kv) (.mk hx kx) && isB (.mk hu ku) (.mk hy ky))) := isB_3 hd e hr0
  clear hd e hb0 hr0 r0 HS IH HO HR HR2
  clear hcx hrx hcy hry hcv hrv hox hoy hcu hru
  simp only [List.length_cons, List.length_nil, Nat.zero_add] at HE E1 E2 x5 y2 CK ⊢
  generalize isB (.mk hu ku) (.mk hy ky) = b1 at *
  generalize isB (.mk hv kv) (.mk hx kx) = b0 at *
  clear E1 E2 x1 x2 x3 x4 hl hn hc hc2
  rcases b0 with _ | _
  · have fx0 := fun p : BelowBy W => BelowBy.cell x0 p
    have fx5 := fun p : BelowBy W => BelowBy.cell x5 p
    have fy0 := fun p : BelowBy W => BelowBy.cell y0 p
    have fy2 := fun p : BelowBy W => BelowBy.cell y2 p
    have fu0 := fun p : BelowBy W => BelowBy.cell u0 p
    have fu1 := fun p : BelowBy W => BelowBy.cell u1 p
    have fu2 := fun p : BelowBy W => BelowBy.cell u2 p
    have fu3 := fun p : BelowBy W => BelowBy.cell u3 p
    have fu4 := fun p : BelowBy W => BelowBy.cell u4 p
    have fu5 := fun p : BelowBy W => BelowBy.cell u5 p
    have fq0 := fun p : BelowBy W => BelowBy.cell q0 p
    have fq1 := fun p : BelowBy W => BelowBy.cell q1 p
    have fq2 := fun p : BelowBy W => BelowBy.cell q2 p
    clear u0 u1 u2 u3 u4 u5 q0 q1 q2 z0 z1 z2 z3 z4 z5 p0 p1 p2
    clear C1
    go_enter Try.func59, Try.ntmps59
    go_wp2_with fail
    rw [HE.out]
    refine CK.out.mono ?_
    rintro e' w3 ⟨rfl, hw3⟩
    obtain rfl : W = w3 := hw3.symm
    have hbk := Below.refl W.heap.size W
    go_wp2_with fail
    refine wp_region_below (W := W) (by kernel_rfl) (by kernel_rfl) hbk ?_
    repeat (go_big_quiet_step (first | (go_at_call 59; exact Calls.below_of (C0.out _)) | fail))
    refine wpQuiet_nil ?_
    intro _ hw1
    obtain ⟨⟨wq, hq⟩, hw2⟩ := hw1
    subst hw2
    have hq2 := below_from HB.out hq
    go_wp2_with fail
    go_ret
    exact ⟨by rw [HX.out]; rfl, hq2⟩
  · have fx0 := fun p : BelowBy W => BelowBy.cell x0 p
    have fx5 := fun p : BelowBy W => BelowBy.cell x5 p
    have fy0 := fun p : BelowBy W => BelowBy.cell y0 p
    have fy2 := fun p : BelowBy W => BelowBy.cell y2 p
    have fu0 := fun p : BelowBy W => BelowBy.cell u0 p
    have fu1 := fun p : BelowBy W => BelowBy.cell u1 p
    have fu2 := fun p : BelowBy W => BelowBy.cell u2 p
    have fu3 := fun p : BelowBy W => BelowBy.cell u3 p
    have fu4 := fun p : BelowBy W => BelowBy.cell u4 p
    have fu5 := fun p : BelowBy W => BelowBy.cell u5 p
    have fq0 := fun p : BelowBy W => BelowBy.cell q0 p
    have fq1 := fun p : BelowBy W => BelowBy.cell q1 p
    have fq2 := fun p : BelowBy W => BelowBy.cell q2 p
    have fz0 := fun p : BelowBy W => BelowBy.cell z0 p
    have fz1 := fun p : BelowBy W => BelowBy.cell z1 p
    have fz2 := fun p : BelowBy W => BelowBy.cell z2 p
    have fz3 := fun p : BelowBy W => BelowBy.cell z3 p
    have fz4 := fun p : BelowBy W => BelowBy.cell z4 p
    have fz5 := fun p : BelowBy W => BelowBy.cell z5 p
    have fp0 := fun p : BelowBy W => BelowBy.cell p0 p
    have fp1 := fun p : BelowBy W => BelowBy.cell p1 p
    have fp2 := fun p : BelowBy W => BelowBy.cell p2 p
    clear u0 u1 u2 u3 u4 u5 q0 q1 q2 z0 z1 z2 z3 z4 z5 p0 p1 p2
    go_enter Try.func59, Try.ntmps59
    go_wp2_with fail
    rw [HE.out]
    refine CK.out.mono ?_
    rintro e' w3 ⟨rfl, hw3⟩
    obtain rfl : W = w3 := hw3.symm
    have hbk := Below.refl W.heap.size W
    go_wp2_with fail
    refine wp_region_below (W := W) (by kernel_rfl) (by kernel_rfl) hbk ?_
    repeat (go_big_quiet_step (first | (go_at_call 59; with_reducible exact Calls.below_of (C0.out _)) | (go_at_call 59; with_reducible exact Calls.below_of (C1.out _)) | fail))
    refine wpQuiet_nil ?_
    intro _ hw1
    obtain ⟨⟨wq, hq⟩, hw2⟩ := hw1
    subst hw2
    have hq2 := below_from HB.out hq
    go_wp2_with fail
    go_ret
    exact ⟨by rw [HX.out]; simp, hq2⟩
end Go.Proofs.Yteokbmngebckjaa
