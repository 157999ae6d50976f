/- Whether a value is one of an expression: the document's. -/
import Derived.Test.YteokbmngebckjaaVi0
import Derived.Test.YteokbmngebckjaaVt2
import Derived.Test.YteokbmngebckjaaBb
namespace Go.Proofs.Yteokbmngebckjaa
open Go.RowKit
set_option linter.unusedVariables false
set_option linter.unusedSimpArgs false

def IH_rof (n : Nat) : Prop := ∀ (okr okv : Nat → Prop) (h : RH) (ks : List Re) (A : Option Addr) (c : Nat) (h2 : VH) (ls : List Va) (A2 : Option Addr) (c2 : Nat) (w : World), 1 + T.sizes ls ≤ n → okT (.mk h ks) = true → ks.length ≤ c → ls.length ≤ c2 → InRow RE okr w ks A 0 → InRow VE okv w ls A2 0 →
  Calls Try.prog 48 #[reV h A ks.length c, vaV h2 A2 ls.length c2] w fun e w' => e = .returned (.bool (isB (.mk h2 ls) (.mk h ks))) ∧ Below w.heap.size w w'
set_option maxRecDepth 100000 in
set_option maxHeartbeats 1200000 in
theorem rof_no (n : Nat) (ih : IH_rof n) (hm : n + 1 ≤ 1000000000) (okr okv : Nat → Prop) (h : RH) (ks : List Re) (A : Option Addr) (c : Nat) (h2 : VH) (ls : List Va) (A2 : Option Addr) (c2 : Nat) (w : World) (hn : 1 + T.sizes ls ≤ n + 1) (ho : okT (.mk h ks) = true) (hc : ks.length ≤ c) (hc2 : ls.length ≤ c2) (hr : InRow RE okr w ks A 0) (hr2 : InRow VE okv w ls A2 0) (hd : isHd h2 ls.length = false) :
    Calls Try.prog 48 #[reV h A ks.length c, vaV h2 A2 ls.length c2] w fun e w' => e = .returned (.bool (isB (.mk h2 ls) (.mk h ks))) ∧ Below w.heap.size w w' := by
  have hl := T.length_le_sizes ls
  have IH := Lib.hid ih
  have HS : Hid (∀ t ∈ ls, t.size ≤ n) := fun t ht => by have := T.sizes_mem ht; omega
  obtain ⟨W, hW, hbW, hsW, e1W, e2W⟩ := rv_pre w h A ks.length c h2 A2 ls.length c2
  have HE := Lib.hid hW
  have HB := Lib.hid hbW
  have E1 := Lib.hid e1W
  have E2 := Lib.hid e2W
  have HR := Lib.hid (hr.below hbW)
  have HR2 := Lib.hid (hr2.below hbW)
  have HO := Lib.hid ho
  clear ih hr hr2 hW hbW e1W e2W ho
  obtain ⟨x0, x1, x2, x3, x4, x5⟩ := re_at_box E1.out
  obtain ⟨y0, y1, y2⟩ := va_at_box E2.out
  have HX : Hid (isB (.mk h2 ls) (.mk h ks) = false) := isB_no hd
  rcases hkb : kidsB h2.k ls.length with _ | _
  · have ck0 := rkids_any h2 A2 ls.length c2 W (by omega)
    unfold vaV at ck0
    rw [hkb] at ck0
    have CK := Lib.hid ck0
    clear ck0
    clear hkb hd
    go_enter Try.func48, Try.ntmps48
    go_wp2_with fail
    rw [HE.out]
    refine CK.out.mono ?_
    rintro e' w3 ⟨rfl, hbk⟩
    replace x0 := keep_cell hbk x0
    replace x1 := keep_cell hbk x1
    replace x2 := keep_cell hbk x2
    replace x3 := keep_cell hbk x3
    replace x4 := keep_cell hbk x4
    replace x5 := keep_cell hbk x5
    replace y0 := keep_cell hbk y0
    replace y1 := keep_cell hbk y1
    replace y2 := keep_cell hbk y2
    go_wp2_with fail
    go_ret
    exact ⟨by rw [HX.out]; rfl, below_from HB.out hbk⟩
  · obtain ⟨k2, kb⟩ : h2.k ≠ 2 ∧ h2.b ≠ 0 := (isHd_no hd).resolve_right fun hh => by rw [hkb] at hh; exact absurd hh.2 (by decide)
    have t2 : ((h2.k.toNat : Int) != 2) = true := by have := u8_ne (n := 2) (by decide) k2; simpa using this
    have tb : ((h2.b.toNat : Int) != 0) = true := by have := u8_ne (n := 0) (by decide) kb; simpa using this
    have ck0 := rkids_any h2 A2 ls.length c2 W (by omega)
    unfold vaV at ck0
    rw [hkb] at ck0
    have CK := Lib.hid ck0
    clear ck0
    clear k2 kb hkb hd
    go_enter Try.func48, Try.ntmps48
    go_wp2_with fail
    rw [HE.out]
    refine CK.out.mono ?_
    rintro e' w3 ⟨rfl, hbk⟩
    replace x0 := keep_cell hbk x0
    replace x1 := keep_cell hbk x1
    replace x2 := keep_cell hbk x2
    replace x3 := keep_cell hbk x3
    replace x4 := keep_cell hbk x4
    replace x5 := keep_cell hbk x5
    replace y0 := keep_cell hbk y0
    replace y1 := keep_cell hbk y1
    replace y2 := keep_cell hbk y2
    go_wp2_with fail
    go_ret
    exact ⟨by rw [HX.out]; rfl, below_from HB.out hbk⟩
set_option maxRecDepth 100000 in
set_option maxHeartbeats 1200000 in
theorem rof_1 (n : Nat) (ih : IH_rof n) (hm : n + 1 ≤ 1000000000) (okr okv : Nat → Prop) (h : RH) (ks : List Re) (A : Option Addr) (c : Nat) (h2 : VH) (ls : List Va) (A2 : Option Addr) (c2 : Nat) (w : World) (hn : 1 + T.sizes ls ≤ n + 1) (ho : okT (.mk h ks) = true) (hc : ks.length ≤ c) (hc2 : ls.length ≤ c2) (hr : InRow RE okr w ks A 0) (hr2 : InRow VE okv w ls A2 0) (hd : isHd h2 ls.length = true) (e : h2.k = 1) :
    Calls Try.prog 48 #[reV h A ks.length c, vaV h2 A2 ls.length c2] w fun e w' => e = .returned (.bool (isB (.mk h2 ls) (.mk h ks))) ∧ Below w.heap.size w w' := by
  have hl := T.length_le_sizes ls
  have IH := Lib.hid ih
  have HS : Hid (∀ t ∈ ls, t.size ≤ n) := fun t ht => by have := T.sizes_mem ht; omega
  obtain ⟨W, hW, hbW, hsW, e1W, e2W⟩ := rv_pre w h A ks.length c h2 A2 ls.length c2
  have HE := Lib.hid hW
  have HB := Lib.hid hbW
  have E1 := Lib.hid e1W
  have E2 := Lib.hid e2W
  have HR := Lib.hid (hr.below hbW)
  have HR2 := Lib.hid (hr2.below hbW)
  have HO := Lib.hid ho
  clear ih hr hr2 hW hbW e1W e2W ho
  obtain ⟨x0, x1, x2, x3, x4, x5⟩ := re_at_box E1.out
  obtain ⟨y0, y1, y2⟩ := va_at_box E2.out
  have hb0 : h2.b = 0 := ((isHd_iff h2 ls.length).1 hd).1.resolve_left (by rw [e]; decide)
  have hkb : kidsB h2.k ls.length = true := by have := hd; unfold isHd at this; exact (Bool.and_eq_true _ _ ▸ this).2
  have hbv : (h2.b.toNat : Int) = 0 := by rw [hb0]; rfl
  rw [hbv] at y1
  clear hbv
  have ck0 := rkids_any h2 A2 ls.length c2 W (by omega)
  unfold vaV at ck0
  rw [hkb] at ck0
  have hkv : (h2.k.toNat : Int) = 1 := by rw [e]; rfl
  rw [hkv] at y0
  clear hkv
  have CK := Lib.hid ck0
  clear ck0
  have hl0 : ls = [] := List.eq_nil_of_length_eq_zero (by have := ((isHd_iff h2 ls.length).1 hd).2; rw [e] at this; simpa using this)
  subst hl0
  simp only [List.length_nil] at HE E2 y2 CK ⊢
  by_cases hr0 : h.k = 2
  · have r0 : (h.k.toNat : Int) = 2 := by rw [hr0]; rfl
    rw [r0] at x0
    have HX : Hid (isB (.mk h2 []) (.mk h ks) = true) := by unfold Hid; rw [isB_1 hd e]; simp [hr0]
    clear hd e hb0 hkb hr0 r0
    go_enter Try.func48, Try.ntmps48
    go_wp2_with fail
    rw [HE.out]
    refine CK.out.mono ?_
    rintro e' w3 ⟨rfl, hbk⟩
    replace x0 := keep_cell hbk x0
    replace x1 := keep_cell hbk x1
    replace x2 := keep_cell hbk x2
    replace x3 := keep_cell hbk x3
    replace x4 := keep_cell hbk x4
    replace x5 := keep_cell hbk x5
    replace y0 := keep_cell hbk y0
    replace y1 := keep_cell hbk y1
    replace y2 := keep_cell hbk y2
    go_wp2_with fail
    go_ret
    exact ⟨by rw [HX.out]; rfl, below_from HB.out hbk⟩
  · have r0 : ((h.k.toNat : Int) == 2) = false := u8_ne (n := 2) (by decide) hr0
    have HX : Hid (isB (.mk h2 []) (.mk h ks) = false) := by unfold Hid; rw [isB_1 hd e]; simp [hr0]
    clear hd e hb0 hkb hr0
    go_enter Try.func48, Try.ntmps48
    go_wp2_with fail
    rw [HE.out]
    refine CK.out.mono ?_
    rintro e' w3 ⟨rfl, hbk⟩
    replace x0 := keep_cell hbk x0
    replace x1 := keep_cell hbk x1
    replace x2 := keep_cell hbk x2
    replace x3 := keep_cell hbk x3
    replace x4 := keep_cell hbk x4
    replace x5 := keep_cell hbk x5
    replace y0 := keep_cell hbk y0
    replace y1 := keep_cell hbk y1
    replace y2 := keep_cell hbk y2
    go_wp2_with fail
    go_ret
    exact ⟨by rw [HX.out]; rfl, below_from HB.out hbk⟩
set_option maxRecDepth 100000 in
set_option maxHeartbeats 1200000 in
theorem rof_2 (n : Nat) (ih : IH_rof n) (hm : n + 1 ≤ 1000000000) (okr okv : Nat → Prop) (h : RH) (ks : List Re) (A : Option Addr) (c : Nat) (h2 : VH) (ls : List Va) (A2 : Option Addr) (c2 : Nat) (w : World) (hn : 1 + T.sizes ls ≤ n + 1) (ho : okT (.mk h ks) = true) (hc : ks.length ≤ c) (hc2 : ls.length ≤ c2) (hr : InRow RE okr w ks A 0) (hr2 : InRow VE okv w ls A2 0) (hd : isHd h2 ls.length = true) (e : h2.k = 2) :
    Calls Try.prog 48 #[reV h A ks.length c, vaV h2 A2 ls.length c2] w fun e w' => e = .returned (.bool (isB (.mk h2 ls) (.mk h ks))) ∧ Below w.heap.size w w' := by
  have hl := T.length_le_sizes ls
  have IH := Lib.hid ih
  have HS : Hid (∀ t ∈ ls, t.size ≤ n) := fun t ht => by have := T.sizes_mem ht; omega
  obtain ⟨W, hW, hbW, hsW, e1W, e2W⟩ := rv_pre w h A ks.length c h2 A2 ls.length c2
  have HE := Lib.hid hW
  have HB := Lib.hid hbW
  have E1 := Lib.hid e1W
  have E2 := Lib.hid e2W
  have HR := Lib.hid (hr.below hbW)
  have HR2 := Lib.hid (hr2.below hbW)
  have HO := Lib.hid ho
  clear ih hr hr2 hW hbW e1W e2W ho
  obtain ⟨x0, x1, x2, x3, x4, x5⟩ := re_at_box E1.out
  obtain ⟨y0, y1, y2⟩ := va_at_box E2.out
  have hkb : kidsB h2.k ls.length = true := by have := hd; unfold isHd at this; exact (Bool.and_eq_true _ _ ▸ this).2
  have ck0 := rkids_any h2 A2 ls.length c2 W (by omega)
  unfold vaV at ck0
  rw [hkb] at ck0
  have hkv : (h2.k.toNat : Int) = 2 := by rw [e]; rfl
  rw [hkv] at y0
  clear hkv
  have CK := Lib.hid ck0
  clear ck0
  have hl0 : ls = [] := List.eq_nil_of_length_eq_zero (by have := ((isHd_iff h2 ls.length).1 hd).2; rw [e] at this; simpa using this)
  subst hl0
  simp only [List.length_nil] at HE E2 y2 CK ⊢
  by_cases hr0 : h.k = 3
  · have r0 : (h.k.toNat : Int) = 3 := by rw [hr0]; rfl
    rw [r0] at x0
    have HX : Hid (isB (.mk h2 []) (.mk h ks) = h.s.has h2.b.toNat) := by unfold Hid; rw [isB_2 hd e]; simp [hr0]
    have CH : Hid (∀ X, Calls Try.prog 72 #[setV h.s, .int .i64 (h2.b.toNat : Int)] X fun e w' => e = .returned (.bool (h.s.has h2.b.toNat)) ∧ Below X.heap.size X w') := fun X => by
      have hl := h2.b.toNat_lt
      have := refHas_any h.s (h2.b.toNat : Int) X (by omega) (by omega)
      rwa [show ((h2.b.toNat : Int)).toNat = h2.b.toNat from rfl] at this
    have hdw : IntKind.i64.wrap (h2.b.toNat : Int) = (h2.b.toNat : Int) := by have := h2.b.toNat_lt; simp [IntKind.wrap, IntKind.bits, IntKind.signed]; omega
    generalize h.s.has h2.b.toNat = hb at *
    clear hd e hkb hr0 r0
    go_enter Try.func48, Try.ntmps48
    go_wp2_with fail
    rw [HE.out]
    refine CK.out.mono ?_
    rintro e' w3 ⟨rfl, hbk⟩
    replace x0 := keep_cell hbk x0
    replace x1 := keep_cell hbk x1
    replace x2 := keep_cell hbk x2
    replace x3 := keep_cell hbk x3
    replace x4 := keep_cell hbk x4
    replace x5 := keep_cell hbk x5
    replace y0 := keep_cell hbk y0
    replace y1 := keep_cell hbk y1
    replace y2 := keep_cell hbk y2
    go_wp2_with fail
    refine (CH.out _).mono ?_
    rintro e4 w4 ⟨rfl, hb4⟩
    have hq2 := below_from HB.out (below_from hbk hb4)
    clear hb4
    go_wp2_with fail
    go_ret
    exact ⟨by rw [HX.out]; rfl, hq2⟩
  · have r0 : ((h.k.toNat : Int) == 3) = false := u8_ne (n := 3) (by decide) hr0
    have HX : Hid (isB (.mk h2 []) (.mk h ks) = false) := by unfold Hid; rw [isB_2 hd e]; simp [hr0]
    clear hd e hkb hr0
    go_enter Try.func48, Try.ntmps48
    go_wp2_with fail
    rw [HE.out]
    refine CK.out.mono ?_
    rintro e' w3 ⟨rfl, hbk⟩
    replace x0 := keep_cell hbk x0
    replace x1 := keep_cell hbk x1
    replace x2 := keep_cell hbk x2
    replace x3 := keep_cell hbk x3
    replace x4 := keep_cell hbk x4
    replace x5 := keep_cell hbk x5
    replace y0 := keep_cell hbk y0
    replace y1 := keep_cell hbk y1
    replace y2 := keep_cell hbk y2
    go_wp2_with fail
    go_ret
    exact ⟨by rw [HX.out]; rfl, below_from HB.out hbk⟩
set_option maxRecDepth 100000 in
set_option maxHeartbeats 1200000 in
theorem rof_6 (n : Nat) (ih : IH_rof n) (hm : n + 1 ≤ 1000000000) (okr okv : Nat → Prop) (h : RH) (ks : List Re) (A : Option Addr) (c : Nat) (h2 : VH) (ls : List Va) (A2 : Option Addr) (c2 : Nat) (w : World) (hn : 1 + T.sizes ls ≤ n + 1) (ho : okT (.mk h ks) = true) (hc : ks.length ≤ c) (hc2 : ls.length ≤ c2) (hr : InRow RE okr w ks A 0) (hr2 : InRow VE okv w ls A2 0) (hd : isHd h2 ls.length = true) (e : h2.k = 6) :
    Calls Try.prog 48 #[reV h A ks.length c, vaV h2 A2 ls.length c2] w fun e w' => e = .returned (.bool (isB (.mk h2 ls) (.mk h ks))) ∧ Below w.heap.size w w' := by
  have hl := T.length_le_sizes ls
  have IH := Lib.hid ih
  have HS : Hid (∀ t ∈ ls, t.size ≤ n) := fun t ht => by have := T.sizes_mem ht; omega
  obtain ⟨W, hW, hbW, hsW, e1W, e2W⟩ := rv_pre w h A ks.length c h2 A2 ls.length c2
  have HE := Lib.hid hW
  have HB := Lib.hid hbW
  have E1 := Lib.hid e1W
  have E2 := Lib.hid e2W
  have HR := Lib.hid (hr.below hbW)
  have HR2 := Lib.hid (hr2.below hbW)
  have HO := Lib.hid ho
  clear ih hr hr2 hW hbW e1W e2W ho
  obtain ⟨x0, x1, x2, x3, x4, x5⟩ := re_at_box E1.out
  obtain ⟨y0, y1, y2⟩ := va_at_box E2.out
  by_cases hr0 : h.k = 6
  · have r0 : (h.k.toNat : Int) = 6 := by rw [hr0]; rfl
    rw [r0] at x0
    obtain ⟨x, hox, hks⟩ : ∃ x, okT x = true ∧ ks = [x] := by
      rcases okT_kind HO.out with ⟨_, _, c⟩ | ⟨x, y, hx, hy, k, e⟩ | ⟨x, y, hx, hy, k, e⟩ | ⟨x, hx, k, e⟩
      · exact absurd hr0 c
      · rw [hr0] at k; exact absurd k (by decide)
      · rw [hr0] at k; exact absurd k (by decide)
      · exact ⟨x, hx, e⟩
    subst hks
    have hb0 : h2.b = 0 := ((isHd_iff h2 ls.length).1 hd).1.resolve_left (by rw [e]; decide)
    have hkb : kidsB h2.k ls.length = true := by have := hd; unfold isHd at this; exact (Bool.and_eq_true _ _ ▸ this).2
    have hbv : (h2.b.toNat : Int) = 0 := by rw [hb0]; rfl
    rw [hbv] at y1
    clear hbv
    have ck0 := rkids_any h2 A2 ls.length c2 W (by omega)
    unfold vaV at ck0
    rw [hkb] at ck0
    have hkv : (h2.k.toNat : Int) = 6 := by rw [e]; rfl
    rw [hkv] at y0
    clear hkv
    have CK := Lib.hid ck0
    clear ck0
    obtain ⟨hx, kx⟩ := x
    obtain ⟨ad, Ax, cx, hA, hcx, hrx, u0, u1, u2, u3, u4, u5⟩ := kid0N HR.out
    subst hA
    have HX : Hid (isB (.mk h2 ls) (.mk h [.mk hx kx]) = ls.all fun v => isB v (.mk hx kx)) := isB_6 hd e hr0
    have HC : Hid (∀ (h1 : VH) (l1 : List Va) (A1 : Option Addr) (c1 : Nat) (w1 : World), T.mk h1 l1 ∈ ls → l1.length ≤ c1 → InRow VE okv w1 l1 A1 0 → Below W.heap.size W w1 →
        Calls Try.prog 48 #[reV hx Ax kx.length cx, vaV h1 A1 l1.length c1] w1 fun e w' => e = .returned (.bool (isB (.mk h1 l1) (.mk hx kx))) ∧ Below w1.heap.size w1 w') := fun h1 l1 A1 c1 w1 hm1 hc1 hr1 hbw => IH.out okr okv hx kx Ax cx h1 l1 A1 c1 w1 (by have := HS.out _ hm1; simp only [T.size] at this; exact this) hox hcx hc1 (hrx.below hbw) hr1
    have R0 := Lib.hid r0
    clear hd e hb0 hkb hr0 r0 HS IH HO HR hcx hrx hox
    simp only [List.length_cons, List.length_nil, Nat.zero_add] at HE E1 x5 CK ⊢
    go_enter Try.func48, Try.ntmps48
    go_wp2_with fail
    rw [HE.out]
    refine CK.out.mono ?_
    rintro e' w3 ⟨rfl, hbk⟩
    replace x0 := keep_cell hbk x0
    replace x1 := keep_cell hbk x1
    replace x2 := keep_cell hbk x2
    replace x3 := keep_cell hbk x3
    replace x4 := keep_cell hbk x4
    replace x5 := keep_cell hbk x5
    replace y0 := keep_cell hbk y0
    replace y1 := keep_cell hbk y1
    replace y2 := keep_cell hbk y2
    have HBK := Lib.hid hbk
    have U0 := Lib.hid u0
    have U1 := Lib.hid u1
    have U2 := Lib.hid u2
    have U3 := Lib.hid u3
    have U4 := Lib.hid u4
    have U5 := Lib.hid u5
    clear hbk u0 u1 u2 u3 u4 u5
    go_wp2_with fail
    go_loopw [5, 90] (fun _ i wr => ∃ (k : Nat), k ≤ ls.length ∧ i = .int .i64 k ∧ Hid (∀ (j : Nat) (v : Va), j < k → ls[j]? = some v → isB v (.mk hx kx) = true) ∧ Below W.heap.size W wr) (fun _ i _ => ls.length - (intOf i).toNat)
    case atStart => exact ⟨0, Nat.zero_le _, rfl, fun j v hj => absurd hj (by omega), HBK.out⟩
    case round =>
      clear x0 x1 x2 x3 x4 x5 y0 y1 y2
      obtain ⟨k, hk, rfl, HN, hb⟩ := hrel
      obtain ⟨x0, x1, x2, x3, x4, x5⟩ := re_at_box ((hb.block _ (lt_of_block E1.out)).trans E1.out)
      obtain ⟨y0, y1, y2⟩ := va_at_box ((hb.block _ (lt_of_block E2.out)).trans E2.out)
      have r0 : (h.k.toNat : Int) = 6 := R0.out
      rw [r0] at x0
      clear r0
      by_cases hlt : k < ls.length
      · obtain ⟨t, bd, h1, l1, A1, c1, hA, hx1, rfl, hc1, hr1, q0, q1, q2⟩ := va_at (HR2.out.below hb) hlt
        subst hA
        have hmem := List.mem_of_getElem? hx1
        have u0 := keep_cell hb U0.out
        have u1 := keep_cell hb U1.out
        have u2 := keep_cell hb U2.out
        have u3 := keep_cell hb U3.out
        have u4 := keep_cell hb U4.out
        have u5 := keep_cell hb U5.out
        have HNo : Hid (isB (.mk h1 l1) (.mk hx kx) = false → (ls.all fun v => isB v (.mk hx kx)) = false) := fun hh => by
          rw [List.all_eq_false]
          exact ⟨_, hmem, by rw [hh]; decide⟩
        have HYes : Hid (isB (.mk h1 l1) (.mk hx kx) = true → ∀ (j : Nat) (v : Va), j < k + 1 → ls[j]? = some v → isB v (.mk hx kx) = true) := by
          intro hh j v hj ej
          rcases Nat.lt_or_ge j k with hjk | hjk
          · exact HN.out j v hjk ej
          · have : j = k := by omega
            subst this
            rw [hx1] at ej
            cases ej
            exact hh
        have C0 : Hid (∀ p : BelowBy wr, Calls Try.prog 48 #[reV hx Ax kx.length cx, vaV h1 A1 l1.length c1] p.w fun e w' => e = .returned (.bool (isB (.mk h1 l1) (.mk hx kx))) ∧ Below p.w.heap.size p.w w') := fun p => HC.out h1 l1 A1 c1 p.w hmem hc1 (hr1.below p.h) (below_from hb p.h)
        clear hx1 hr1
        have fx0 := fun p : BelowBy wr => BelowBy.cell x0 p
        have fx5 := fun p : BelowBy wr => BelowBy.cell x5 p
        have fy2 := fun p : BelowBy wr => BelowBy.cell y2 p
        have fu0 := fun p : BelowBy wr => BelowBy.cell u0 p
        have fu1 := fun p : BelowBy wr => BelowBy.cell u1 p
        have fu2 := fun p : BelowBy wr => BelowBy.cell u2 p
        have fu3 := fun p : BelowBy wr => BelowBy.cell u3 p
        have fu4 := fun p : BelowBy wr => BelowBy.cell u4 p
        have fu5 := fun p : BelowBy wr => BelowBy.cell u5 p
        have fq0 := fun p : BelowBy wr => BelowBy.cell q0 p
        have fq1 := fun p : BelowBy wr => BelowBy.cell q1 p
        have fq2 := fun p : BelowBy wr => BelowBy.cell q2 p
        clear u0 u1 u2 u3 u4 u5 q0 q1 q2 x1 x2 x3 x4
        generalize isB (.mk h1 l1) (.mk hx kx) = b0 at *
        go_wp2_with fail
        refine wp_region_below (W := wr) (by kernel_rfl) (by kernel_rfl) (Below.refl _ _) ?_
        repeat (go_big_quiet_step (first | (go_at_call 48; exact Calls.below_of (C0.out _)) | fail))
        refine wpQuiet_nil ?_
        intro _ hw1
        obtain ⟨⟨wq, hq⟩, hw2⟩ := hw1
        subst hw2
        have hb2 := below_from hb hq
        clear fx0 fx5 fy2 fu0 fu1 fu2 fu3 fu4 fu5 fq0 fq1 fq2 x0 x5 y0 y1 y2
        cases b0 with
        | false =>
          go_wp2_with fail
          go_ret
          exact ⟨by rw [HX.out, HNo.out trivial]; rfl, below_from HB.out hb2⟩
        | true =>
          go_wp2_with fail
          go_roundw
          case rel => exact ⟨k + 1, by omega, by go_num, HYes.out rfl, hb2⟩
          case measure => simp [intOf]; omega
      · have hkk : k = ls.length := by omega
        subst hkk
        have HY : Hid ((ls.all fun v => isB v (.mk hx kx)) = true) := by
          unfold Hid
          rw [List.all_eq_true]
          intro v hv
          obtain ⟨j, hj, ej⟩ := List.getElem_of_mem hv
          exact HN.out j v hj (by rw [List.getElem?_eq_getElem hj, ej])
        clear hlt hk
        go_wp2_with fail
        go_ret
        exact ⟨by rw [HX.out, HY.out]; rfl, below_from HB.out hb⟩
  · have r0 : ((h.k.toNat : Int) == 6) = false := u8_ne (n := 6) (by decide) hr0
    have r1 : ((h.k.toNat : Int) != 6) = true := by simpa using r0
    have HX : Hid (isB (.mk h2 ls) (.mk h ks) = false) := isB_6n e hr0
    have hb0 : h2.b = 0 := ((isHd_iff h2 ls.length).1 hd).1.resolve_left (by rw [e]; decide)
    have hkb : kidsB h2.k ls.length = true := by have := hd; unfold isHd at this; exact (Bool.and_eq_true _ _ ▸ this).2
    have hbv : (h2.b.toNat : Int) = 0 := by rw [hb0]; rfl
    rw [hbv] at y1
    clear hbv
    have ck0 := rkids_any h2 A2 ls.length c2 W (by omega)
    unfold vaV at ck0
    rw [hkb] at ck0
    have hkv : (h2.k.toNat : Int) = 6 := by rw [e]; rfl
    rw [hkv] at y0
    clear hkv
    have CK := Lib.hid ck0
    clear ck0
    clear hd e hb0 hkb hr0 HS IH HO HR HR2
    have fx0 := fun p : BelowBy W => BelowBy.cell x0 p
    have fy0 := fun p : BelowBy W => BelowBy.cell y0 p
    have fx5 := fun p : BelowBy W => BelowBy.cell x5 p
    have fy2 := fun p : BelowBy W => BelowBy.cell y2 p
    rcases hll : ls.length with _ | m
    · rw [hll] at HE E2 y2 CK fy2
      go_enter Try.func48, Try.ntmps48
      go_wp2_with fail
      rw [HE.out]
      refine CK.out.mono ?_
      rintro e' w3 ⟨rfl, hbk⟩
      replace x0 := keep_cell hbk x0
      replace x1 := keep_cell hbk x1
      replace x2 := keep_cell hbk x2
      replace x3 := keep_cell hbk x3
      replace x4 := keep_cell hbk x4
      replace x5 := keep_cell hbk x5
      replace y0 := keep_cell hbk y0
      replace y1 := keep_cell hbk y1
      replace y2 := keep_cell hbk y2
      have HBK := Lib.hid hbk
      clear hbk
      go_wp2_with fail
      go_loopw [5, 90] (fun _ i wr => i = .int .i64 0 ∧ wr = w3) (fun _ i _ => 0)
      case atStart => exact ⟨rfl, rfl⟩
      case round =>
        obtain ⟨rfl, rfl⟩ := hrel
        go_wp2_with fail
        go_ret
        exact ⟨by rw [HX.out]; rfl, below_from HB.out HBK.out⟩
    · rw [hll] at HE E2 y2 CK fy2
      go_enter Try.func48, Try.ntmps48
      go_wp2_with fail
      rw [HE.out]
      refine CK.out.mono ?_
      rintro e' w3 ⟨rfl, hbk⟩
      replace x0 := keep_cell hbk x0
      replace x1 := keep_cell hbk x1
      replace x2 := keep_cell hbk x2
      replace x3 := keep_cell hbk x3
      replace x4 := keep_cell hbk x4
      replace x5 := keep_cell hbk x5
      replace y0 := keep_cell hbk y0
      replace y1 := keep_cell hbk y1
      replace y2 := keep_cell hbk y2
      have HBK := Lib.hid hbk
      clear hbk
      go_wp2_with fail
      go_loopw [5, 90] (fun _ i wr => i = .int .i64 0 ∧ wr = w3) (fun _ i _ => 0)
      case atStart => exact ⟨rfl, rfl⟩
      case round =>
        obtain ⟨rfl, rfl⟩ := hrel
        go_wp2_with fail
        refine wp_region_below (W := W) (by kernel_rfl) (by kernel_rfl) HBK.out ?_
        repeat (go_big_quiet_step (fail))
        refine wpQuiet_nil ?_
        intro _ hw1
        obtain ⟨⟨wq, hq⟩, hw2⟩ := hw1
        subst hw2
        have hq2 := below_from HB.out hq
        go_wp2_with fail
        go_ret
        exact ⟨by rw [HX.out]; rfl, hq2⟩
end Go.Proofs.Yteokbmngebckjaa
