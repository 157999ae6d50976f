/- Whether a value is one of an expression: the document's, at Left, Right. -/
import Derived.Test.YteokbmngebckjaaVj1
namespace Go.Proofs.Yteokbmngebckjaa
open Go.RowKit
set_option linter.unusedVariables false
set_option linter.unusedSimpArgs false

set_option maxRecDepth 100000 in
set_option maxHeartbeats 1200000 in
theorem rof_4n (n : Nat) (ih : IH_rof n) (hm : n + 1 ≤ 1000000000) (okr okv : Nat → Prop) (h : RH) (ks : List Re) (A : Option Addr) (c : Nat) (h2 : VH) (ls : List Va) (A2 : Option Addr) (c2 : Nat) (w : World) (hn : 1 + T.sizes ls ≤ n + 1) (ho : okT (.mk h ks) = true) (hc : ks.length ≤ c) (hc2 : ls.length ≤ c2) (hr : InRow RE okr w ks A 0) (hr2 : InRow VE okv w ls A2 0) (hd : isHd h2 ls.length = true) (e : h2.k = 4) (hr0 : h.k ≠ 5) :
    Calls Try.prog 48 #[reV h A ks.length c, vaV h2 A2 ls.length c2] w fun e w' => e = .returned (.bool (isB (.mk h2 ls) (.mk h ks))) ∧ Below w.heap.size w w' := by
  have hl := T.length_le_sizes ls
  have IH := Lib.hid ih
  have HS : Hid (∀ t ∈ ls, t.size ≤ n) := fun t ht => by have := T.sizes_mem ht; omega
  obtain ⟨W, hW, hbW, hsW, e1W, e2W⟩ := rv_pre w h A ks.length c h2 A2 ls.length c2
  have HE := Lib.hid hW
  have HB := Lib.hid hbW
  have E1 := Lib.hid e1W
  have E2 := Lib.hid e2W
  have HR := Lib.hid (hr.below hbW)
  have HR2 := Lib.hid (hr2.below hbW)
  have HO := Lib.hid ho
  clear ih hr hr2 hW hbW e1W e2W ho
  obtain ⟨x0, x1, x2, x3, x4, x5⟩ := re_at_box E1.out
  obtain ⟨y0, y1, y2⟩ := va_at_box E2.out
  have r0 : ((h.k.toNat : Int) == 5) = false := u8_ne (n := 5) (by decide) hr0
  have HX : Hid (isB (.mk h2 ls) (.mk h ks) = false) := isB_4n e hr0
  have hb0 : h2.b = 0 := ((isHd_iff h2 ls.length).1 hd).1.resolve_left (by rw [e]; decide)
  have hkb : kidsB h2.k ls.length = true := by have := hd; unfold isHd at this; exact (Bool.and_eq_true _ _ ▸ this).2
  have hbv : (h2.b.toNat : Int) = 0 := by rw [hb0]; rfl
  rw [hbv] at y1
  clear hbv
  have ck0 := rkids_any h2 A2 ls.length c2 W (by omega)
  unfold vaV at ck0
  rw [hkb] at ck0
  have hkv : (h2.k.toNat : Int) = 4 := by rw [e]; rfl
  rw [hkv] at y0
  clear hkv
  have CK := Lib.hid ck0
  clear ck0
  have hlen : ls.length = 1 := by have := ((isHd_iff h2 ls.length).1 hd).2; rw [e] at this; simpa using this
  rw [hlen] at y2 HE E2 CK ⊢
  clear hd e hb0 hkb hr0 HS IH HO HR HR2
  have fx0 := fun p : BelowBy W => BelowBy.cell x0 p
  have fy0 := fun p : BelowBy W => BelowBy.cell y0 p
  go_enter Try.func48, Try.ntmps48
  go_wp2_with fail
  rw [HE.out]
  refine CK.out.mono ?_
  rintro e' w3 ⟨rfl, hbk⟩
  replace x0 := keep_cell hbk x0
  replace x1 := keep_cell hbk x1
  replace x2 := keep_cell hbk x2
  replace x3 := keep_cell hbk x3
  replace x4 := keep_cell hbk x4
  replace x5 := keep_cell hbk x5
  replace y0 := keep_cell hbk y0
  replace y1 := keep_cell hbk y1
  replace y2 := keep_cell hbk y2
  go_wp2_with fail
  refine wp_region_below (W := W) (by kernel_rfl) (by kernel_rfl) hbk ?_
  repeat (go_big_quiet_step (fail))
  refine wpQuiet_nil ?_
  intro _ hw1
  obtain ⟨⟨wq, hq⟩, hw2⟩ := hw1
  subst hw2
  have hq2 := below_from HB.out hq
  go_wp2_with fail
  go_ret
  exact ⟨by rw [HX.out]; rfl, hq2⟩
set_option maxRecDepth 100000 in
set_option maxHeartbeats 1200000 in
theorem rof_4y (n : Nat) (ih : IH_rof n) (hm : n + 1 ≤ 1000000000) (okr okv : Nat → Prop) (h : RH) (ks : List Re) (A : Option Addr) (c : Nat) (h2 : VH) (ls : List Va) (A2 : Option Addr) (c2 : Nat) (w : World) (hn : 1 + T.sizes ls ≤ n + 1) (ho : okT (.mk h ks) = true) (hc : ks.length ≤ c) (hc2 : ls.length ≤ c2) (hr : InRow RE okr w ks A 0) (hr2 : InRow VE okv w ls A2 0) (hd : isHd h2 ls.length = true) (e : h2.k = 4) (hr0 : h.k = 5) :
    Calls Try.prog 48 #[reV h A ks.length c, vaV h2 A2 ls.length c2] w fun e w' => e = .returned (.bool (isB (.mk h2 ls) (.mk h ks))) ∧ Below w.heap.size w w' := by
  have hl := T.length_le_sizes ls
  have IH := Lib.hid ih
  have HS : Hid (∀ t ∈ ls, t.size ≤ n) := fun t ht => by have := T.sizes_mem ht; omega
  obtain ⟨W, hW, hbW, hsW, e1W, e2W⟩ := rv_pre w h A ks.length c h2 A2 ls.length c2
  have HE := Lib.hid hW
  have HB := Lib.hid hbW
  have E1 := Lib.hid e1W
  have E2 := Lib.hid e2W
  have HR := Lib.hid (hr.below hbW)
  have HR2 := Lib.hid (hr2.below hbW)
  have HO := Lib.hid ho
  clear ih hr hr2 hW hbW e1W e2W ho
  obtain ⟨x0, x1, x2, x3, x4, x5⟩ := re_at_box E1.out
  obtain ⟨y0, y1, y2⟩ := va_at_box E2.out
  have r0 : (h.k.toNat : Int) = 5 := by rw [hr0]; rfl
  rw [r0] at x0
  obtain ⟨x, y, hox, hoy, hks⟩ : ∃ x y, okT x = true ∧ okT y = true ∧ ks = [x, y] := by
    rcases okT_kind HO.out with ⟨a, b, _⟩ | ⟨x, y, hx, hy, k, e⟩ | ⟨x, y, hx, hy, k, e⟩ | ⟨x, hx, k, e⟩
    · exact absurd hr0 b
    · rw [hr0] at k; exact absurd k (by decide)
    · exact ⟨x, y, hx, hy, e⟩
    · rw [hr0] at k; exact absurd k (by decide)
  subst hks
  have hb0 : h2.b = 0 := ((isHd_iff h2 ls.length).1 hd).1.resolve_left (by rw [e]; decide)
  have hkb : kidsB h2.k ls.length = true := by have := hd; unfold isHd at this; exact (Bool.and_eq_true _ _ ▸ this).2
  have hbv : (h2.b.toNat : Int) = 0 := by rw [hb0]; rfl
  rw [hbv] at y1
  clear hbv
  have ck0 := rkids_any h2 A2 ls.length c2 W (by omega)
  unfold vaV at ck0
  rw [hkb] at ck0
  have hkv : (h2.k.toNat : Int) = 4 := by rw [e]; rfl
  rw [hkv] at y0
  clear hkv
  have CK := Lib.hid ck0
  clear ck0
  obtain ⟨v, hls⟩ := va_len1 (show ls.length = 1 by have := ((isHd_iff h2 ls.length).1 hd).2; rw [e] at this; simpa using this)
  subst hls
  obtain ⟨hx, kx⟩ := x
  obtain ⟨hy, ky⟩ := y
  obtain ⟨ad, Ax, cx, hA, hcx, hrx, u0, u1, u2, u3, u4, u5⟩ := kid0N HR.out
  obtain ⟨ad_, Ay, cy, hA_, hcy, hry, z0, z1, z2, z3, z4, z5⟩ := kid1N HR.out
  subst hA
  cases hA_
  obtain ⟨hv, kv⟩ := v
  obtain ⟨bd, Av, cv, hB, hcv, hrv, q0, q1, q2⟩ := vkid0 HR2.out
  subst hB
  have C0 : Hid (∀ p : BelowBy W, Calls Try.prog 48 #[reV hx Ax kx.length cx, vaV hv Av kv.length cv] p.w fun e w' => e = .returned (.bool (isB (.mk hv kv) (.mk hx kx))) ∧ Below p.w.heap.size p.w w') := fun p => IH.out okr okv hx kx Ax cx hv kv Av cv p.w (by have := HS.out (.mk hv kv) (by simp); simp only [T.size] at this; exact this) hox hcx hcv (hrx.below p.h) (hrv.below p.h)
  have HX : Hid (isB (.mk h2 [.mk hv kv]) (.mk h [.mk hx kx, .mk hy ky]) = isB (.mk hv kv) (.mk hx kx)) := isB_4 hd e hr0
  clear hd e hb0 hkb hr0 r0 HS IH HO HR HR2
  clear hcx hrx hcy hry hcv hrv hox hoy
  simp only [List.length_cons, List.length_nil, Nat.zero_add] at HE E1 E2 x5 y2 CK ⊢
  generalize isB (.mk hv kv) (.mk hx kx) = b0 at *
  clear E1 E2 x1 x2 x3 x4 hl hn hc hc2
  have fx0 := fun p : BelowBy W => BelowBy.cell x0 p
  have fx5 := fun p : BelowBy W => BelowBy.cell x5 p
  have fy0 := fun p : BelowBy W => BelowBy.cell y0 p
  have fy2 := fun p : BelowBy W => BelowBy.cell y2 p
  have fu0 := fun p : BelowBy W => BelowBy.cell u0 p
  have fu1 := fun p : BelowBy W => BelowBy.cell u1 p
  have fu2 := fun p : BelowBy W => BelowBy.cell u2 p
  have fu3 := fun p : BelowBy W => BelowBy.cell u3 p
  have fu4 := fun p : BelowBy W => BelowBy.cell u4 p
  have fu5 := fun p : BelowBy W => BelowBy.cell u5 p
  have fq0 := fun p : BelowBy W => BelowBy.cell q0 p
  have fq1 := fun p : BelowBy W => BelowBy.cell q1 p
  have fq2 := fun p : BelowBy W => BelowBy.cell q2 p
  clear u0 u1 u2 u3 u4 u5 z0 z1 z2 z3 z4 z5 q0 q1 q2
  go_enter Try.func48, Try.ntmps48
  go_wp2_with fail
  rw [HE.out]
  refine CK.out.mono ?_
  rintro e' w3 ⟨rfl, hbk⟩
  replace x0 := keep_cell hbk x0
  replace x5 := keep_cell hbk x5
  replace y0 := keep_cell hbk y0
  replace y1 := keep_cell hbk y1
  replace y2 := keep_cell hbk y2
  go_wp2_with fail
  refine wp_region_below (W := W) (by kernel_rfl) (by kernel_rfl) hbk ?_
  repeat (go_big_quiet_step (first | (go_at_call 48; exact Calls.below_of (C0.out _)) | fail))
  refine wpQuiet_nil ?_
  intro _ hw1
  obtain ⟨⟨wq, hq⟩, hw2⟩ := hw1
  subst hw2
  have hq2 := below_from HB.out hq
  go_wp2_with fail
  go_ret
  exact ⟨by rw [HX.out]; rfl, hq2⟩
set_option maxRecDepth 100000 in
set_option maxHeartbeats 1200000 in
theorem rof_5n (n : Nat) (ih : IH_rof n) (hm : n + 1 ≤ 1000000000) (okr okv : Nat → Prop) (h : RH) (ks : List Re) (A : Option Addr) (c : Nat) (h2 : VH) (ls : List Va) (A2 : Option Addr) (c2 : Nat) (w : World) (hn : 1 + T.sizes ls ≤ n + 1) (ho : okT (.mk h ks) = true) (hc : ks.length ≤ c) (hc2 : ls.length ≤ c2) (hr : InRow RE okr w ks A 0) (hr2 : InRow VE okv w ls A2 0) (hd : isHd h2 ls.length = true) (e : h2.k = 5) (hr0 : h.k ≠ 5) :
    Calls Try.prog 48 #[reV h A ks.length c, vaV h2 A2 ls.length c2] w fun e w' => e = .returned (.bool (isB (.mk h2 ls) (.mk h ks))) ∧ Below w.heap.size w w' := by
  have hl := T.length_le_sizes ls
  have IH := Lib.hid ih
  have HS : Hid (∀ t ∈ ls, t.size ≤ n) := fun t ht => by have := T.sizes_mem ht; omega
  obtain ⟨W, hW, hbW, hsW, e1W, e2W⟩ := rv_pre w h A ks.length c h2 A2 ls.length c2
  have HE := Lib.hid hW
  have HB := Lib.hid hbW
  have E1 := Lib.hid e1W
  have E2 := Lib.hid e2W
  have HR := Lib.hid (hr.below hbW)
  have HR2 := Lib.hid (hr2.below hbW)
  have HO := Lib.hid ho
  clear ih hr hr2 hW hbW e1W e2W ho
  obtain ⟨x0, x1, x2, x3, x4, x5⟩ := re_at_box E1.out
  obtain ⟨y0, y1, y2⟩ := va_at_box E2.out
  have r0 : ((h.k.toNat : Int) == 5) = false := u8_ne (n := 5) (by decide) hr0
  have HX : Hid (isB (.mk h2 ls) (.mk h ks) = false) := isB_5n e hr0
  have hb0 : h2.b = 0 := ((isHd_iff h2 ls.length).1 hd).1.resolve_left (by rw [e]; decide)
  have hkb : kidsB h2.k ls.length = true := by have := hd; unfold isHd at this; exact (Bool.and_eq_true _ _ ▸ this).2
  have hbv : (h2.b.toNat : Int) = 0 := by rw [hb0]; rfl
  rw [hbv] at y1
  clear hbv
  have ck0 := rkids_any h2 A2 ls.length c2 W (by omega)
  unfold vaV at ck0
  rw [hkb] at ck0
  have hkv : (h2.k.toNat : Int) = 5 := by rw [e]; rfl
  rw [hkv] at y0
  clear hkv
  have CK := Lib.hid ck0
  clear ck0
  have hlen : ls.length = 1 := by have := ((isHd_iff h2 ls.length).1 hd).2; rw [e] at this; simpa using this
  rw [hlen] at y2 HE E2 CK ⊢
  clear hd e hb0 hkb hr0 HS IH HO HR HR2
  have fx0 := fun p : BelowBy W => BelowBy.cell x0 p
  have fy0 := fun p : BelowBy W => BelowBy.cell y0 p
  go_enter Try.func48, Try.ntmps48
  go_wp2_with fail
  rw [HE.out]
  refine CK.out.mono ?_
  rintro e' w3 ⟨rfl, hbk⟩
  replace x0 := keep_cell hbk x0
  replace x1 := keep_cell hbk x1
  replace x2 := keep_cell hbk x2
  replace x3 := keep_cell hbk x3
  replace x4 := keep_cell hbk x4
  replace x5 := keep_cell hbk x5
  replace y0 := keep_cell hbk y0
  replace y1 := keep_cell hbk y1
  replace y2 := keep_cell hbk y2
  go_wp2_with fail
  refine wp_region_below (W := W) (by kernel_rfl) (by kernel_rfl) hbk ?_
  repeat (go_big_quiet_step (fail))
  refine wpQuiet_nil ?_
  intro _ hw1
  obtain ⟨⟨wq, hq⟩, hw2⟩ := hw1
  subst hw2
  have hq2 := below_from HB.out hq
  go_wp2_with fail
  go_ret
  exact ⟨by rw [HX.out]; rfl, hq2⟩
set_option maxRecDepth 100000 in
set_option maxHeartbeats 1200000 in
theorem rof_5y (n : Nat) (ih : IH_rof n) (hm : n + 1 ≤ 1000000000) (okr okv : Nat → Prop) (h : RH) (ks : List Re) (A : Option Addr) (c : Nat) (h2 : VH) (ls : List Va) (A2 : Option Addr) (c2 : Nat) (w : World) (hn : 1 + T.sizes ls ≤ n + 1) (ho : okT (.mk h ks) = true) (hc : ks.length ≤ c) (hc2 : ls.length ≤ c2) (hr : InRow RE okr w ks A 0) (hr2 : InRow VE okv w ls A2 0) (hd : isHd h2 ls.length = true) (e : h2.k = 5) (hr0 : h.k = 5) :
    Calls Try.prog 48 #[reV h A ks.length c, vaV h2 A2 ls.length c2] w fun e w' => e = .returned (.bool (isB (.mk h2 ls) (.mk h ks))) ∧ Below w.heap.size w w' := by
  have hl := T.length_le_sizes ls
  have IH := Lib.hid ih
  have HS : Hid (∀ t ∈ ls, t.size ≤ n) := fun t ht => by have := T.sizes_mem ht; omega
  obtain ⟨W, hW, hbW, hsW, e1W, e2W⟩ := rv_pre w h A ks.length c h2 A2 ls.length c2
  have HE := Lib.hid hW
  have HB := Lib.hid hbW
  have E1 := Lib.hid e1W
  have E2 := Lib.hid e2W
  have HR := Lib.hid (hr.below hbW)
  have HR2 := Lib.hid (hr2.below hbW)
  have HO := Lib.hid ho
  clear ih hr hr2 hW hbW e1W e2W ho
  obtain ⟨x0, x1, x2, x3, x4, x5⟩ := re_at_box E1.out
  obtain ⟨y0, y1, y2⟩ := va_at_box E2.out
  have r0 : (h.k.toNat : Int) = 5 := by rw [hr0]; rfl
  rw [r0] at x0
  obtain ⟨x, y, hox, hoy, hks⟩ : ∃ x y, okT x = true ∧ okT y = true ∧ ks = [x, y] := by
    rcases okT_kind HO.out with ⟨a, b, _⟩ | ⟨x, y, hx, hy, k, e⟩ | ⟨x, y, hx, hy, k, e⟩ | ⟨x, hx, k, e⟩
    · exact absurd hr0 b
    · rw [hr0] at k; exact absurd k (by decide)
    · exact ⟨x, y, hx, hy, e⟩
    · rw [hr0] at k; exact absurd k (by decide)
  subst hks
  have hb0 : h2.b = 0 := ((isHd_iff h2 ls.length).1 hd).1.resolve_left (by rw [e]; decide)
  have hkb : kidsB h2.k ls.length = true := by have := hd; unfold isHd at this; exact (Bool.and_eq_true _ _ ▸ this).2
  have hbv : (h2.b.toNat : Int) = 0 := by rw [hb0]; rfl
  rw [hbv] at y1
  clear hbv
  have ck0 := rkids_any h2 A2 ls.length c2 W (by omega)
  unfold vaV at ck0
  rw [hkb] at ck0
  have hkv : (h2.k.toNat : Int) = 5 := by rw [e]; rfl
  rw [hkv] at y0
  clear hkv
  have CK := Lib.hid ck0
  clear ck0
  obtain ⟨v, hls⟩ := va_len1 (show ls.length = 1 by have := ((isHd_iff h2 ls.length).1 hd).2; rw [e] at this; simpa using this)
  subst hls
  obtain ⟨hx, kx⟩ := x
  obtain ⟨hy, ky⟩ := y
  obtain ⟨ad, Ax, cx, hA, hcx, hrx, u0, u1, u2, u3, u4, u5⟩ := kid0N HR.out
  obtain ⟨ad_, Ay, cy, hA_, hcy, hry, z0, z1, z2, z3, z4, z5⟩ := kid1N HR.out
  subst hA
  cases hA_
  obtain ⟨hv, kv⟩ := v
  obtain ⟨bd, Av, cv, hB, hcv, hrv, q0, q1, q2⟩ := vkid0 HR2.out
  subst hB
  have C0 : Hid (∀ p : BelowBy W, Calls Try.prog 48 #[reV hy Ay ky.length cy, vaV hv Av kv.length cv] p.w fun e w' => e = .returned (.bool (isB (.mk hv kv) (.mk hy ky))) ∧ Below p.w.heap.size p.w w') := fun p => IH.out okr okv hy ky Ay cy hv kv Av cv p.w (by have := HS.out (.mk hv kv) (by simp); simp only [T.size] at this; exact this) hoy hcy hcv (hry.below p.h) (hrv.below p.h)
  have HX : Hid (isB (.mk h2 [.mk hv kv]) (.mk h [.mk hx kx, .mk hy ky]) = isB (.mk hv kv) (.mk hy ky)) := isB_5 hd e hr0
  clear hd e hb0 hkb hr0 r0 HS IH HO HR HR2
  clear hcx hrx hcy hry hcv hrv hox hoy
  simp only [List.length_cons, List.length_nil, Nat.zero_add] at HE E1 E2 x5 y2 CK ⊢
  generalize isB (.mk hv kv) (.mk hy ky) = b0 at *
  clear E1 E2 x1 x2 x3 x4 hl hn hc hc2
  have fx0 := fun p : BelowBy W => BelowBy.cell x0 p
  have fx5 := fun p : BelowBy W => BelowBy.cell x5 p
  have fy0 := fun p : BelowBy W => BelowBy.cell y0 p
  have fy2 := fun p : BelowBy W => BelowBy.cell y2 p
  have fz0 := fun p : BelowBy W => BelowBy.cell z0 p
  have fz1 := fun p : BelowBy W => BelowBy.cell z1 p
  have fz2 := fun p : BelowBy W => BelowBy.cell z2 p
  have fz3 := fun p : BelowBy W => BelowBy.cell z3 p
  have fz4 := fun p : BelowBy W => BelowBy.cell z4 p
  have fz5 := fun p : BelowBy W => BelowBy.cell z5 p
  have fq0 := fun p : BelowBy W => BelowBy.cell q0 p
  have fq1 := fun p : BelowBy W => BelowBy.cell q1 p
  have fq2 := fun p : BelowBy W => BelowBy.cell q2 p
  clear u0 u1 u2 u3 u4 u5 z0 z1 z2 z3 z4 z5 q0 q1 q2
  go_enter Try.func48, Try.ntmps48
  go_wp2_with fail
  rw [HE.out]
  refine CK.out.mono ?_
  rintro e' w3 ⟨rfl, hbk⟩
  replace x0 := keep_cell hbk x0
  replace x5 := keep_cell hbk x5
  replace y0 := keep_cell hbk y0
  replace y1 := keep_cell hbk y1
  replace y2 := keep_cell hbk y2
  go_wp2_with fail
  refine wp_region_below (W := W) (by kernel_rfl) (by kernel_rfl) hbk ?_
  repeat (go_big_quiet_step (first | (go_at_call 48; exact Calls.below_of (C0.out _)) | fail))
  refine wpQuiet_nil ?_
  intro _ hw1
  obtain ⟨⟨wq, hq⟩, hw2⟩ := hw1
  subst hw2
  have hq2 := below_from HB.out hq
  go_wp2_with fail
  go_ret
  exact ⟨by rw [HX.out]; rfl, hq2⟩
end Go.Proofs.Yteokbmngebckjaa
