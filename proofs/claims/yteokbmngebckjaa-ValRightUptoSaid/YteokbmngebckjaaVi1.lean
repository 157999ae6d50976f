/- Whether a value is one of an expression: val.is. -/
import Derived.Test.YteokbmngebckjaaVi0
import Derived.Test.YteokbmngebckjaaVt1
import Derived.Test.YteokbmngebckjaaCc
import Derived.Test.YteokbmngebckjaaBa
namespace Go.Proofs.Yteokbmngebckjaa
open Go.RowKit
set_option linter.unusedVariables false
set_option linter.unusedSimpArgs false

set_option maxHeartbeats 4000000 in
theorem idx_vis {ok : Nat → Prop} {cb : Nat} (p : Va → Bool) (ts : List Va) (A : Option Addr) (c : Nat) (w : World)  (hr : InRow VE ok w ts A 0) (hm : ts.length ≤ 1000000000)
    (hcall : ∀ (h : VH) (ks : List Va) (A1 : Option Addr) (c1 : Nat) (w1 : World), T.mk h ks ∈ ts → ks.length ≤ c1 → InRow VE ok w1 ks A1 0 → Below w.heap.size w w1 →
      Calls Try.prog 81 #[vaV h A1 ks.length c1, .pointer (some ⟨cb, 0, none⟩)] w1 fun e w' => e = .returned (.bool (p (.mk h ks))) ∧ Below w1.heap.size w1 w') :
    Calls Try.prog 74 #[.slice A ts.length c, .func (.func 81) #[] #[.pointer (some ⟨cb, 0, none⟩)]] w fun e w' => e = .returned (.int .i64 (idx p ts)) ∧ Below w.heap.size w w' := by
  have HC := Lib.hid hcall
  clear hcall
  go_enter Try.func74, Try.ntmps74
  go_wp2_with fail
  go_loopw [5, 8] (fun _ i wr => ∃ k : Nat, k ≤ ts.length ∧ i = .int .i64 k ∧ (∀ (j : Nat) (y : Va), j < k → ts[j]? = some y → p y = false) ∧ Below w.heap.size w wr) (fun _ i _ => ts.length - (intOf i).toNat)
  case atStart => exact ⟨0, Nat.zero_le _, rfl, fun j y h => absurd h (by omega), Below.refl _ _⟩
  case round =>
    obtain ⟨k, hk, rfl, hn, hb⟩ := hrel
    have HN := Lib.hid hn
    clear hn
    by_cases hlt : k < ts.length
    · obtain ⟨t, ad, h, ks, A1, c1, hA, hx, rfl, hc1, hr1, q0, q1, q2⟩ := va_at (hr.below hb) hlt
      subst hA
      have HX := Lib.hid hx
      have hmem := List.mem_of_getElem? hx
      clear hx hr
      go_wp2_with fail
      refine (HC.out h ks A1 c1 _ hmem hc1 hr1 hb).mono ?_
      rintro e w1 ⟨rfl, hb1⟩
      have hb2 := below_from hb hb1
      clear hb1 hr1 q0 q1 q2
      rcases hp : p (.mk h ks) with _ | _
      · have HP := Lib.hid hp
        clear hp
        go_wp2_with fail
        go_roundw
        case rel => exact ⟨k + 1, by omega, by go_num, fun j y hj hy => by
          by_cases e : j = k
          · subst e; rw [HX.out] at hy; cases hy; exact HP.out
          · exact HN.out j y (by omega) hy, hb2⟩
        case measure => simp [intOf]; omega
      · have HP := Lib.hid hp
        clear hp
        go_wp2_with fail
        go_ret
        exact ⟨by rw [idx_at _ ts k _ HX.out (fun j y hj hy => HN.out j y hj hy) HP.out]; rfl, hb2⟩
    · have hfin := Lib.hid (idx_none p ts fun j y hy => HN.out j y (by
        have := (List.getElem?_eq_some_iff.1 hy).1; omega) hy)
      go_wp2_with fail
      go_ret
      exact ⟨by rw [hfin.out]; rfl, hb⟩

theorem has_vis {ok : Nat → Prop} {cb : Nat} (p : Va → Bool) (ts : List Va) (A : Option Addr) (c : Nat) (w : World)  (hr : InRow VE ok w ts A 0) (hm : ts.length ≤ 1000000000)
    (hcall : ∀ (h : VH) (ks : List Va) (A1 : Option Addr) (c1 : Nat) (w1 : World), T.mk h ks ∈ ts → ks.length ≤ c1 → InRow VE ok w1 ks A1 0 → Below w.heap.size w w1 →
      Calls Try.prog 81 #[vaV h A1 ks.length c1, .pointer (some ⟨cb, 0, none⟩)] w1 fun e w' => e = .returned (.bool (p (.mk h ks))) ∧ Below w1.heap.size w1 w') :
    Calls Try.prog 51 #[.slice A ts.length c, .func (.func 81) #[] #[.pointer (some ⟨cb, 0, none⟩)]] w fun e w' => e = .returned (.bool (ts.any p)) ∧ Below w.heap.size w w' := by
  have HC := Lib.hid hcall
  clear hcall
  have HA := Lib.hid (idx_any p ts)
  go_enter Try.func51, Try.ntmps51
  go_wp2_with fail
  refine (idx_vis p ts A c _ hr hm HC.out).mono ?_
  rintro e w1 ⟨rfl, hb⟩
  go_wp2_with fail
  go_ret
  exact ⟨by rw [← HA.out]; rfl, hb⟩
set_option maxRecDepth 100000 in
set_option maxHeartbeats 4000000 in
theorem isLit_any (okr okv : Nat → Prop) (b : Nat) (h : RH) (ad : Addr) (c : Nat) (hx : RH) (kx : List Re) (Ax : Option Addr) (cx : Nat) (h1 : VH) (l1 : List Va) (A1 : Option Addr) (c1 : Nat) (w : World) (hc1 : l1.length ≤ c1) (hr1 : InRow VE okv w l1 A1 0) (hb : w.heap[b]? = some (.cells (reA h (some ad) 1 c) 34 (0, 0)))
    (u0 : w.cell? ad = some (.int .u8 (hx.k.toNat : Int))) (u1 : w.cell? ⟨ad.block, ad.off + 1, none⟩ = some (.int .u64 (hx.s.a.toNat : Int))) (u2 : w.cell? ⟨ad.block, ad.off + 2, none⟩ = some (.int .u64 (hx.s.b.toNat : Int))) (u3 : w.cell? ⟨ad.block, ad.off + 3, none⟩ = some (.int .u64 (hx.s.c.toNat : Int))) (u4 : w.cell? ⟨ad.block, ad.off + 4, none⟩ = some (.int .u64 (hx.s.d.toNat : Int))) (u5 : w.cell? ⟨ad.block, ad.off + 5, none⟩ = some (.slice Ax kx.length cx))
    (hcall : ∀ X, Below w.heap.size w X → Calls Try.prog 59 #[reV hx Ax kx.length cx, vaV h1 A1 l1.length c1] X fun e w' => e = .returned (.bool (isB (.mk h1 l1) (.mk hx kx))) ∧ Below X.heap.size X w') :
    Calls Try.prog 81 #[vaV h1 A1 l1.length c1, .pointer (some ⟨b, 0, none⟩)] w fun e w' => e = .returned (.bool (!isB (.mk h1 l1) (.mk hx kx))) ∧ Below w.heap.size w w' := by
  obtain ⟨W, hW⟩ : ∃ W, w.alloc (.cells (vaA h1 A1 l1.length c1) 24) = W := ⟨_, rfl⟩
  have hbW : Below w.heap.size w W := by rw [← hW]; exact below_new (Below.refl _ _) _
  have e1 : W.heap[w.heap.size]? = some (.cells (vaA h1 A1 l1.length c1) 24 (0, 0)) := by rw [← hW]; exact new_at1 _
  obtain ⟨x0, x1, x2, x3, x4, x5⟩ := re_at_box ((hbW.block _ (lt_of_block hb)).trans hb)
  obtain ⟨y0, y1, y2⟩ := va_at_box e1
  replace u0 := keep_cell hbW u0
  replace u1 := keep_cell hbW u1
  replace u2 := keep_cell hbW u2
  replace u3 := keep_cell hbW u3
  replace u4 := keep_cell hbW u4
  replace u5 := keep_cell hbW u5
  have C0 : Hid (∀ p : BelowBy W, Calls Try.prog 59 #[reV hx Ax kx.length cx, vaV h1 A1 l1.length c1] p.w fun e w' => e = .returned (.bool (isB (.mk h1 l1) (.mk hx kx))) ∧ Below p.w.heap.size p.w w') := fun p => hcall p.w (below_from hbW p.h)
  have HE := Lib.hid hW
  have HB := Lib.hid hbW
  clear hW hbW e1 hcall hr1 hb
  generalize isB (.mk h1 l1) (.mk hx kx) = b0 at *
  have fx5 := fun p : BelowBy W => BelowBy.cell x5 p
  have fu0 := fun p : BelowBy W => BelowBy.cell u0 p
  have fu1 := fun p : BelowBy W => BelowBy.cell u1 p
  have fu2 := fun p : BelowBy W => BelowBy.cell u2 p
  have fu3 := fun p : BelowBy W => BelowBy.cell u3 p
  have fu4 := fun p : BelowBy W => BelowBy.cell u4 p
  have fu5 := fun p : BelowBy W => BelowBy.cell u5 p
  have fy0 := fun p : BelowBy W => BelowBy.cell y0 p
  have fy1 := fun p : BelowBy W => BelowBy.cell y1 p
  have fy2 := fun p : BelowBy W => BelowBy.cell y2 p
  have hbk := Below.refl W.heap.size W
  clear x0 x1 x2 x3 x4 x5 y0 y1 y2 u0 u1 u2 u3 u4 u5
  go_enter Try.func81, Try.ntmps81
  go_wp2_with fail
  rw [HE.out]
  refine wp_region_below (W := W) (by kernel_rfl) (by kernel_rfl) hbk ?_
  repeat (go_big_quiet_step (first | (go_at_call 59; exact Calls.below_of (C0.out _)) | fail))
  refine wpQuiet_nil ?_
  intro _ hw1
  obtain ⟨⟨wq, hq⟩, hw2⟩ := hw1
  subst hw2
  have hq2 := below_from HB.out hq
  go_wp2_with fail
  go_ret
  exact ⟨rfl, hq2⟩
def IH_vis (n : Nat) : Prop := ∀ (okr okv : Nat → Prop) (h : RH) (ks : List Re) (A : Option Addr) (c : Nat) (h2 : VH) (ls : List Va) (A2 : Option Addr) (c2 : Nat) (w : World), 1 + T.sizes ls ≤ n → okT (.mk h ks) = true → ks.length ≤ c → ls.length ≤ c2 → InRow RE okr w ks A 0 → InRow VE okv w ls A2 0 →
  Calls Try.prog 59 #[reV h A ks.length c, vaV h2 A2 ls.length c2] w fun e w' => e = .returned (.bool (isB (.mk h2 ls) (.mk h ks))) ∧ Below w.heap.size w w'
set_option maxRecDepth 100000 in
set_option maxHeartbeats 1200000 in
theorem vis_no (n : Nat) (ih : IH_vis n) (hm : n + 1 ≤ 1000000000) (okr okv : Nat → Prop) (h : RH) (ks : List Re) (A : Option Addr) (c : Nat) (h2 : VH) (ls : List Va) (A2 : Option Addr) (c2 : Nat) (w : World) (hn : 1 + T.sizes ls ≤ n + 1) (ho : okT (.mk h ks) = true) (hc : ks.length ≤ c) (hc2 : ls.length ≤ c2) (hr : InRow RE okr w ks A 0) (hr2 : InRow VE okv w ls A2 0) (hd : isHd h2 ls.length = false) :
    Calls Try.prog 59 #[reV h A ks.length c, vaV h2 A2 ls.length c2] w fun e w' => e = .returned (.bool (isB (.mk h2 ls) (.mk h ks))) ∧ Below w.heap.size w w' := by
  have hl := T.length_le_sizes ls
  have IH := Lib.hid ih
  have HS : Hid (∀ t ∈ ls, t.size ≤ n) := fun t ht => by have := T.sizes_mem ht; omega
  obtain ⟨W, hW, hbW, hsW, e1W, e2W⟩ := rv_pre w h A ks.length c h2 A2 ls.length c2
  have HE := Lib.hid hW
  have HB := Lib.hid hbW
  have E1 := Lib.hid e1W
  have E2 := Lib.hid e2W
  have HR := Lib.hid (hr.below hbW)
  have HR2 := Lib.hid (hr2.below hbW)
  have HO := Lib.hid ho
  clear ih hr hr2 hW hbW e1W e2W ho
  obtain ⟨x0, x1, x2, x3, x4, x5⟩ := re_at_box E1.out
  obtain ⟨y0, y1, y2⟩ := va_at_box E2.out
  have HX : Hid (isB (.mk h2 ls) (.mk h ks) = false) := isB_no hd
  rcases isHd_no hd with ⟨k2, kb⟩ | ⟨k2, kb⟩
  · have t2 : ((h2.k.toNat : Int) == 2) = false := u8_ne (n := 2) (by decide) k2
    have tb : ((h2.b.toNat : Int) == 0) = false := u8_ne (n := 0) (by decide) kb
    have CK := Lib.hid (vkids_any h2.k W)
    clear k2 kb hd
    go_enter Try.func59, Try.ntmps59
    go_wp2_with fail
    rw [HE.out]
    refine CK.out.mono ?_
    rintro e' w3 ⟨rfl, hw3⟩
    obtain rfl : W = w3 := hw3.symm
    have hbk := Below.refl W.heap.size W
    go_wp2_with fail
    go_ret
    exact ⟨by rw [HX.out]; rfl, below_from HB.out hbk⟩
  · have CK := Lib.hid (vkids_any h2.k W)
    rcases kidsN_not kb with ⟨n1, n2⟩ | ⟨n1, n2⟩
    · obtain ⟨kn, hkn⟩ : ∃ kn, kidsN h2.k = kn := ⟨_, rfl⟩
      rw [hkn] at CK n1 n2
      have g1 : decide (kn ≥ 0) = true := by simpa using n1
      have g2 : (kn != (ls.length : Int)) = true := by simpa using n2
      by_cases h2k : h2.k = 2
      · have t2 : ((h2.k.toNat : Int) == 2) = true := u8_eq (n := 2) (by decide) h2k
        clear kb hd n1 n2 hkn k2 h2k
        go_enter Try.func59, Try.ntmps59
        go_wp2_with fail
        rw [HE.out]
        refine CK.out.mono ?_
        rintro e' w3 ⟨rfl, hw3⟩
        obtain rfl : W = w3 := hw3.symm
        have hbk := Below.refl W.heap.size W
        go_wp2_with fail
        go_ret
        exact ⟨by rw [HX.out]; rfl, below_from HB.out hbk⟩
      · have t2 : ((h2.k.toNat : Int) == 2) = false := u8_ne (n := 2) (by decide) h2k
        have tb : ((h2.b.toNat : Int) == 0) = true := u8_eq (n := 0) (by decide) (k2.resolve_left h2k)
        clear kb hd n1 n2 hkn k2 h2k
        go_enter Try.func59, Try.ntmps59
        go_wp2_with fail
        rw [HE.out]
        refine CK.out.mono ?_
        rintro e' w3 ⟨rfl, hw3⟩
        obtain rfl : W = w3 := hw3.symm
        have hbk := Below.refl W.heap.size W
        go_wp2_with fail
        go_ret
        exact ⟨by rw [HX.out]; rfl, below_from HB.out hbk⟩
    · rw [n1] at CK
      have e1 : h2.k ≠ 1 := fun e => by rw [e] at n1; simp [kidsN] at n1
      have e2 : h2.k ≠ 2 := fun e => by rw [e] at n1; simp [kidsN] at n1
      have e3 : h2.k ≠ 3 := fun e => by rw [e] at n1; simp [kidsN] at n1
      have e4 : h2.k ≠ 4 := fun e => by rw [e] at n1; simp [kidsN] at n1
      have e5 : h2.k ≠ 5 := fun e => by rw [e] at n1; simp [kidsN] at n1
      have t1 : ((h2.k.toNat : Int) == 1) = false := u8_ne (n := 1) (by decide) e1
      have t2 : ((h2.k.toNat : Int) == 2) = false := u8_ne (n := 2) (by decide) e2
      have t3 : ((h2.k.toNat : Int) == 3) = false := u8_ne (n := 3) (by decide) e3
      have t4 : ((h2.k.toNat : Int) == 4) = false := u8_ne (n := 4) (by decide) e4
      have t5 : ((h2.k.toNat : Int) == 5) = false := u8_ne (n := 5) (by decide) e5
      have t6 : ((h2.k.toNat : Int) == 6) = false := u8_ne (n := 6) (by decide) n2
      have tb : ((h2.b.toNat : Int) == 0) = true := u8_eq (n := 0) (by decide) (k2.resolve_left e2)
      clear kb hd n1 n2 k2 e1 e2 e3 e4 e5
      go_enter Try.func59, Try.ntmps59
      go_wp2_with fail
      rw [HE.out]
      refine CK.out.mono ?_
      rintro e' w3 ⟨rfl, hw3⟩
      obtain rfl : W = w3 := hw3.symm
      have hbk := Below.refl W.heap.size W
      go_wp2_with fail
      go_ret
      exact ⟨by rw [HX.out]; rfl, below_from HB.out hbk⟩
set_option maxRecDepth 100000 in
set_option maxHeartbeats 1200000 in
theorem vis_1 (n : Nat) (ih : IH_vis n) (hm : n + 1 ≤ 1000000000) (okr okv : Nat → Prop) (h : RH) (ks : List Re) (A : Option Addr) (c : Nat) (h2 : VH) (ls : List Va) (A2 : Option Addr) (c2 : Nat) (w : World) (hn : 1 + T.sizes ls ≤ n + 1) (ho : okT (.mk h ks) = true) (hc : ks.length ≤ c) (hc2 : ls.length ≤ c2) (hr : InRow RE okr w ks A 0) (hr2 : InRow VE okv w ls A2 0) (hd : isHd h2 ls.length = true) (e : h2.k = 1) :
    Calls Try.prog 59 #[reV h A ks.length c, vaV h2 A2 ls.length c2] w fun e w' => e = .returned (.bool (isB (.mk h2 ls) (.mk h ks))) ∧ Below w.heap.size w w' := by
  have hl := T.length_le_sizes ls
  have IH := Lib.hid ih
  have HS : Hid (∀ t ∈ ls, t.size ≤ n) := fun t ht => by have := T.sizes_mem ht; omega
  obtain ⟨W, hW, hbW, hsW, e1W, e2W⟩ := rv_pre w h A ks.length c h2 A2 ls.length c2
  have HE := Lib.hid hW
  have HB := Lib.hid hbW
  have E1 := Lib.hid e1W
  have E2 := Lib.hid e2W
  have HR := Lib.hid (hr.below hbW)
  have HR2 := Lib.hid (hr2.below hbW)
  have HO := Lib.hid ho
  clear ih hr hr2 hW hbW e1W e2W ho
  obtain ⟨x0, x1, x2, x3, x4, x5⟩ := re_at_box E1.out
  obtain ⟨y0, y1, y2⟩ := va_at_box E2.out
  have hb0 : h2.b = 0 := ((isHd_iff h2 ls.length).1 hd).1.resolve_left (by rw [e]; decide)
  have t2 : ((h2.k.toNat : Int) == 2) = false := u8_ne (n := 2) (by decide) (by rw [e]; decide)
  have tb : ((h2.b.toNat : Int) == 0) = true := u8_eq (n := 0) (by decide) hb0
  have CK := Lib.hid (vkids_any h2.k W)
  rw [show kidsN h2.k = 0 by rw [e]; rfl] at CK
  have hkv : (h2.k.toNat : Int) = 1 := by rw [e]; rfl
  rw [hkv] at y0
  clear hkv
  have hl0 : ls = [] := List.eq_nil_of_length_eq_zero (by have := ((isHd_iff h2 ls.length).1 hd).2; rw [e] at this; simpa using this)
  subst hl0
  simp only [List.length_nil] at HE E2 y2 CK ⊢
  by_cases hr0 : h.k = 2
  · have r0 : (h.k.toNat : Int) = 2 := by rw [hr0]; rfl
    rw [r0] at x0
    have HX : Hid (isB (.mk h2 []) (.mk h ks) = true) := by unfold Hid; rw [isB_1 hd e]; simp [hr0]
    clear hd e hb0 hr0 r0
    go_enter Try.func59, Try.ntmps59
    go_wp2_with fail
    rw [HE.out]
    refine CK.out.mono ?_
    rintro e' w3 ⟨rfl, hw3⟩
    obtain rfl : W = w3 := hw3.symm
    have hbk := Below.refl W.heap.size W
    go_wp2_with fail
    go_ret
    exact ⟨by rw [HX.out]; rfl, below_from HB.out hbk⟩
  · have r0 : ((h.k.toNat : Int) == 2) = false := u8_ne (n := 2) (by decide) hr0
    have HX : Hid (isB (.mk h2 []) (.mk h ks) = false) := by unfold Hid; rw [isB_1 hd e]; simp [hr0]
    clear hd e hb0 hr0
    go_enter Try.func59, Try.ntmps59
    go_wp2_with fail
    rw [HE.out]
    refine CK.out.mono ?_
    rintro e' w3 ⟨rfl, hw3⟩
    obtain rfl : W = w3 := hw3.symm
    have hbk := Below.refl W.heap.size W
    go_wp2_with fail
    go_ret
    exact ⟨by rw [HX.out]; rfl, below_from HB.out hbk⟩
set_option maxRecDepth 100000 in
set_option maxHeartbeats 1200000 in
theorem vis_2 (n : Nat) (ih : IH_vis n) (hm : n + 1 ≤ 1000000000) (okr okv : Nat → Prop) (h : RH) (ks : List Re) (A : Option Addr) (c : Nat) (h2 : VH) (ls : List Va) (A2 : Option Addr) (c2 : Nat) (w : World) (hn : 1 + T.sizes ls ≤ n + 1) (ho : okT (.mk h ks) = true) (hc : ks.length ≤ c) (hc2 : ls.length ≤ c2) (hr : InRow RE okr w ks A 0) (hr2 : InRow VE okv w ls A2 0) (hd : isHd h2 ls.length = true) (e : h2.k = 2) :
    Calls Try.prog 59 #[reV h A ks.length c, vaV h2 A2 ls.length c2] w fun e w' => e = .returned (.bool (isB (.mk h2 ls) (.mk h ks))) ∧ Below w.heap.size w w' := by
  have hl := T.length_le_sizes ls
  have IH := Lib.hid ih
  have HS : Hid (∀ t ∈ ls, t.size ≤ n) := fun t ht => by have := T.sizes_mem ht; omega
  obtain ⟨W, hW, hbW, hsW, e1W, e2W⟩ := rv_pre w h A ks.length c h2 A2 ls.length c2
  have HE := Lib.hid hW
  have HB := Lib.hid hbW
  have E1 := Lib.hid e1W
  have E2 := Lib.hid e2W
  have HR := Lib.hid (hr.below hbW)
  have HR2 := Lib.hid (hr2.below hbW)
  have HO := Lib.hid ho
  clear ih hr hr2 hW hbW e1W e2W ho
  obtain ⟨x0, x1, x2, x3, x4, x5⟩ := re_at_box E1.out
  obtain ⟨y0, y1, y2⟩ := va_at_box E2.out
  have t2 : ((h2.k.toNat : Int) == 2) = true := u8_eq (n := 2) (by decide) e
  have CK := Lib.hid (vkids_any h2.k W)
  rw [show kidsN h2.k = 0 by rw [e]; rfl] at CK
  have hkv : (h2.k.toNat : Int) = 2 := by rw [e]; rfl
  rw [hkv] at y0
  clear hkv
  have hl0 : ls = [] := List.eq_nil_of_length_eq_zero (by have := ((isHd_iff h2 ls.length).1 hd).2; rw [e] at this; simpa using this)
  subst hl0
  simp only [List.length_nil] at HE E2 y2 CK ⊢
  by_cases hr0 : h.k = 3
  · have r0 : (h.k.toNat : Int) = 3 := by rw [hr0]; rfl
    rw [r0] at x0
    have HX : Hid (isB (.mk h2 []) (.mk h ks) = h.s.has h2.b.toNat) := by unfold Hid; rw [isB_2 hd e]; simp [hr0]
    have CH := Lib.hid (fun X => setHasM_any h.s h2.b X)
    generalize h.s.has h2.b.toNat = hb at *
    clear hd e hr0 r0
    go_enter Try.func59, Try.ntmps59
    go_wp2_with fail
    rw [HE.out]
    refine CK.out.mono ?_
    rintro e' w3 ⟨rfl, hw3⟩
    obtain rfl : W = w3 := hw3.symm
    have hbk := Below.refl W.heap.size W
    go_wp2_with fail
    refine (CH.out _).mono ?_
    rintro e4 w4 ⟨rfl, hb4⟩
    have hq2 := below_from HB.out (below_from hbk hb4)
    clear hb4
    go_wp2_with fail
    go_ret
    exact ⟨by rw [HX.out]; rfl, hq2⟩
  · have r0 : ((h.k.toNat : Int) == 3) = false := u8_ne (n := 3) (by decide) hr0
    have HX : Hid (isB (.mk h2 []) (.mk h ks) = false) := by unfold Hid; rw [isB_2 hd e]; simp [hr0]
    clear hd e hr0
    go_enter Try.func59, Try.ntmps59
    go_wp2_with fail
    rw [HE.out]
    refine CK.out.mono ?_
    rintro e' w3 ⟨rfl, hw3⟩
    obtain rfl : W = w3 := hw3.symm
    have hbk := Below.refl W.heap.size W
    go_wp2_with fail
    go_ret
    exact ⟨by rw [HX.out]; rfl, below_from HB.out hbk⟩
set_option maxRecDepth 100000 in
set_option maxHeartbeats 1200000 in
theorem vis_6 (n : Nat) (ih : IH_vis n) (hm : n + 1 ≤ 1000000000) (okr okv : Nat → Prop) (h : RH) (ks : List Re) (A : Option Addr) (c : Nat) (h2 : VH) (ls : List Va) (A2 : Option Addr) (c2 : Nat) (w : World) (hn : 1 + T.sizes ls ≤ n + 1) (ho : okT (.mk h ks) = true) (hc : ks.length ≤ c) (hc2 : ls.length ≤ c2) (hr : InRow RE okr w ks A 0) (hr2 : InRow VE okv w ls A2 0) (hd : isHd h2 ls.length = true) (e : h2.k = 6) :
    Calls Try.prog 59 #[reV h A ks.length c, vaV h2 A2 ls.length c2] w fun e w' => e = .returned (.bool (isB (.mk h2 ls) (.mk h ks))) ∧ Below w.heap.size w w' := by
  have hl := T.length_le_sizes ls
  have IH := Lib.hid ih
  have HS : Hid (∀ t ∈ ls, t.size ≤ n) := fun t ht => by have := T.sizes_mem ht; omega
  obtain ⟨W, hW, hbW, hsW, e1W, e2W⟩ := rv_pre w h A ks.length c h2 A2 ls.length c2
  have HE := Lib.hid hW
  have HB := Lib.hid hbW
  have E1 := Lib.hid e1W
  have E2 := Lib.hid e2W
  have HR := Lib.hid (hr.below hbW)
  have HR2 := Lib.hid (hr2.below hbW)
  have HO := Lib.hid ho
  clear ih hr hr2 hW hbW e1W e2W ho
  obtain ⟨x0, x1, x2, x3, x4, x5⟩ := re_at_box E1.out
  obtain ⟨y0, y1, y2⟩ := va_at_box E2.out
  by_cases hr0 : h.k = 6
  · have r0 : (h.k.toNat : Int) = 6 := by rw [hr0]; rfl
    rw [r0] at x0
    obtain ⟨x, hox, hks⟩ : ∃ x, okT x = true ∧ ks = [x] := by
      rcases okT_kind HO.out with ⟨_, _, c⟩ | ⟨x, y, hx, hy, k, e⟩ | ⟨x, y, hx, hy, k, e⟩ | ⟨x, hx, k, e⟩
      · exact absurd hr0 c
      · rw [hr0] at k; exact absurd k (by decide)
      · rw [hr0] at k; exact absurd k (by decide)
      · exact ⟨x, hx, e⟩
    subst hks
    have hb0 : h2.b = 0 := ((isHd_iff h2 ls.length).1 hd).1.resolve_left (by rw [e]; decide)
    have t2 : ((h2.k.toNat : Int) == 2) = false := u8_ne (n := 2) (by decide) (by rw [e]; decide)
    have tb : ((h2.b.toNat : Int) == 0) = true := u8_eq (n := 0) (by decide) hb0
    have CK := Lib.hid (vkids_any h2.k W)
    rw [show kidsN h2.k = -1 by rw [e]; rfl] at CK
    have hkv : (h2.k.toNat : Int) = 6 := by rw [e]; rfl
    rw [hkv] at y0
    clear hkv
    obtain ⟨hx, kx⟩ := x
    obtain ⟨ad, Ax, cx, hA, hcx, hrx, u0, u1, u2, u3, u4, u5⟩ := kid0N HR.out
    subst hA
    have HX : Hid (isB (.mk h2 ls) (.mk h [.mk hx kx]) = !(ls.any fun v => !isB v (.mk hx kx))) := by unfold Hid; rw [isB_6 hd e hr0, List.all_eq_not_any_not]
    have HC : Hid (∀ (h1 : VH) (l1 : List Va) (A1 : Option Addr) (c1 : Nat) (w1 : World), T.mk h1 l1 ∈ ls → l1.length ≤ c1 → InRow VE okv w1 l1 A1 0 → Below W.heap.size W w1 →
        Calls Try.prog 81 #[vaV h1 A1 l1.length c1, .pointer (some ⟨w.heap.size, 0, none⟩)] w1 fun e w' => e = .returned (.bool (!isB (.mk h1 l1) (.mk hx kx))) ∧ Below w1.heap.size w1 w') := fun h1 l1 A1 c1 w1 hm1 hc1 hr1 hbw =>
      isLit_any okr okv w.heap.size h ad c hx kx Ax cx h1 l1 A1 c1 w1 hc1 hr1 (by simpa using (hbw.block _ (lt_of_block E1.out)).trans E1.out) (keep_cell hbw u0) (keep_cell hbw u1) (keep_cell hbw u2) (keep_cell hbw u3) (keep_cell hbw u4) (keep_cell hbw u5) fun X hX => IH.out okr okv hx kx Ax cx h1 l1 A1 c1 X (by have := HS.out _ hm1; simp only [T.size] at this; exact this) hox hcx hc1 (hrx.below (below_from hbw hX)) (hr1.below hX)
    have CF := Lib.hid (has_vis (cb := w.heap.size) (fun v => !isB v (.mk hx kx)) ls A2 c2 W HR2.out (by omega) HC.out)
    clear hd e hb0 hr0 r0 HS IH HO HR HC hcx hrx hox u0 u1 u2 u3 u4 u5
    simp only [List.length_cons, List.length_nil, Nat.zero_add] at HE E1 x5 ⊢
    generalize (ls.any fun v => !isB v (.mk hx kx)) = ba at *
    go_enter Try.func59, Try.ntmps59
    go_wp2_with fail
    rw [HE.out]
    refine CK.out.mono ?_
    rintro e' w3 ⟨rfl, hw3⟩
    obtain rfl : W = w3 := hw3.symm
    have hbk := Below.refl W.heap.size W
    go_wp2_with fail
    refine CF.out.mono ?_
    rintro e4 w4 ⟨rfl, hb4⟩
    have hq2 := below_from HB.out hb4
    clear hb4
    go_wp2_with fail
    go_ret
    exact ⟨by rw [HX.out]; rfl, hq2⟩
  · have r0 : ((h.k.toNat : Int) == 6) = false := u8_ne (n := 6) (by decide) hr0
    have r1 : ((h.k.toNat : Int) != 6) = true := by simpa using r0
    have HX : Hid (isB (.mk h2 ls) (.mk h ks) = false) := isB_6n e hr0
    have hb0 : h2.b = 0 := ((isHd_iff h2 ls.length).1 hd).1.resolve_left (by rw [e]; decide)
    have t2 : ((h2.k.toNat : Int) == 2) = false := u8_ne (n := 2) (by decide) (by rw [e]; decide)
    have tb : ((h2.b.toNat : Int) == 0) = true := u8_eq (n := 0) (by decide) hb0
    have CK := Lib.hid (vkids_any h2.k W)
    rw [show kidsN h2.k = -1 by rw [e]; rfl] at CK
    have hkv : (h2.k.toNat : Int) = 6 := by rw [e]; rfl
    rw [hkv] at y0
    clear hkv
    clear hd e hb0 hr0 HS IH HO HR HR2
    go_enter Try.func59, Try.ntmps59
    go_wp2_with fail
    rw [HE.out]
    refine CK.out.mono ?_
    rintro e' w3 ⟨rfl, hw3⟩
    obtain rfl : W = w3 := hw3.symm
    have hbk := Below.refl W.heap.size W
    go_wp2_with fail
    go_ret
    exact ⟨by rw [HX.out]; rfl, below_from HB.out hbk⟩
end Go.Proofs.Yteokbmngebckjaa
