/- Values' texts: the document's. -/
import Derived.Test.YteokbmngebckjaaVtP
import Derived.Test.YteokbmngebckjaaCb
import Derived.Test.YteokbmngebckjaaBb
import Derived.RegionTactic
namespace Go.Proofs.Yteokbmngebckjaa
open Go.RowKit
set_option linter.unusedVariables false
set_option linter.unusedSimpArgs false

theorem kidsB_nat (k : UInt8) (n : Nat) : kidsB k n = if k.toNat = 1 ∨ k.toNat = 2 then decide (n = 0) else if k.toNat = 3 then decide (n = 2) else if k.toNat = 4 ∨ k.toNat = 5 then decide (n = 1) else decide (k.toNat = 6) := by
  unfold kidsB
  simp only [← UInt8.toNat_inj]
  rfl
set_option maxRecDepth 100000 in
set_option maxHeartbeats 8000000 in
theorem rkids_any (h : VH) (A : Option Addr) (n c : Nat) (w : World) (hn : n ≤ 1000000000) :
    Calls Try.prog 56 #[vaV h A n c] w fun e w' => e = .returned (.bool (kidsB h.k n)) ∧ Below w.heap.size w w' := by
  have HO := Lib.hid (kidsB_nat h.k n)
  have hkb := h.k.toNat_lt
  obtain ⟨kb, hkbq⟩ : ∃ kb, kidsB h.k n = kb := ⟨_, rfl⟩
  rw [hkbq] at HO ⊢
  clear hkbq
  obtain ⟨W, hW⟩ : ∃ W, w.alloc (.cells (vaA h A n c) 24) = W := ⟨_, rfl⟩
  have hbW : Below w.heap.size w W := by rw [← hW]; exact below_new (Below.refl _ _) _
  have e1 : W.heap[w.heap.size]? = some (.cells (vaA h A n c) 24 (0, 0)) := by rw [← hW]; exact new_at1 _
  obtain ⟨x0, x1, x2⟩ := va_at_box e1
  have HE := Lib.hid hW
  have HB := Lib.hid hbW
  clear hW hbW e1
  have hcase : h.k.toNat = 0 ∨ h.k.toNat = 1 ∨ h.k.toNat = 2 ∨ h.k.toNat = 3 ∨ h.k.toNat = 4 ∨ h.k.toNat = 5 ∨ h.k.toNat = 6 ∨ 6 < h.k.toNat := by omega
  rcases hcase with e | e | e | e | e | e | e | h6
  · have hkv : (h.k.toNat : Int) = 0 := by omega
    rw [hkv] at x0
    rw [e] at HO
    clear hkv e
    have HX : Hid (kb = false) := by unfold Hid; rw [HO.out]; rfl
    clear HO
    go_enter Try.func56, Try.ntmps56
    go_upto_region 1 with fail
    rw [show w.alloc _ = W from HE.out]
    go_wp2_with fail
    go_ret
    exact ⟨by rw [HX.out]; rfl, HB.out⟩
  · have hkv : (h.k.toNat : Int) = 1 := by omega
    rw [hkv] at x0
    rw [e] at HO
    clear hkv e
    by_cases hm0 : n = 0
    · subst hm0
      have HX : Hid (kb = true) := by unfold Hid; rw [HO.out]; rfl
      clear HO
      have z0 := fun o => keep_cell (below_new (Below.refl W.heap.size W) o) x0
      have z2 := fun o => keep_cell (below_new (Below.refl W.heap.size W) o) x2
      go_enter Try.func56, Try.ntmps56
      go_upto_region 1 with fail
      rw [show w.alloc _ = W from HE.out]
      go_wp2_with fail
      go_region
      go_wp2_with fail
      go_ret
      exact ⟨by rw [HX.out]; rfl, pw_drew (below_new HB.out _)⟩
    · have HX : Hid (kb = false) := by unfold Hid; rw [HO.out]; simp [hm0]
      have t1 : ((n : Int) == 0) = false := by simp; omega
      have t2 : decide ((n : Int) = 0) = false := by simp; omega
      clear HO
      have z0 := fun o => keep_cell (below_new (Below.refl W.heap.size W) o) x0
      have z2 := fun o => keep_cell (below_new (Below.refl W.heap.size W) o) x2
      go_enter Try.func56, Try.ntmps56
      go_upto_region 1 with fail
      rw [show w.alloc _ = W from HE.out]
      go_wp2_with fail
      go_region
      go_wp2_with fail
      go_ret
      exact ⟨by rw [HX.out]; rfl, pw_drew (below_new HB.out _)⟩
  · have hkv : (h.k.toNat : Int) = 2 := by omega
    rw [hkv] at x0
    rw [e] at HO
    clear hkv e
    by_cases hm0 : n = 0
    · subst hm0
      have HX : Hid (kb = true) := by unfold Hid; rw [HO.out]; rfl
      clear HO
      have z0 := fun o => keep_cell (below_new (Below.refl W.heap.size W) o) x0
      have z2 := fun o => keep_cell (below_new (Below.refl W.heap.size W) o) x2
      go_enter Try.func56, Try.ntmps56
      go_upto_region 1 with fail
      rw [show w.alloc _ = W from HE.out]
      go_wp2_with fail
      go_region
      go_wp2_with fail
      go_ret
      exact ⟨by rw [HX.out]; rfl, pw_drew (below_new HB.out _)⟩
    · have HX : Hid (kb = false) := by unfold Hid; rw [HO.out]; simp [hm0]
      have t1 : ((n : Int) == 0) = false := by simp; omega
      have t2 : decide ((n : Int) = 0) = false := by simp; omega
      clear HO
      have z0 := fun o => keep_cell (below_new (Below.refl W.heap.size W) o) x0
      have z2 := fun o => keep_cell (below_new (Below.refl W.heap.size W) o) x2
      go_enter Try.func56, Try.ntmps56
      go_upto_region 1 with fail
      rw [show w.alloc _ = W from HE.out]
      go_wp2_with fail
      go_region
      go_wp2_with fail
      go_ret
      exact ⟨by rw [HX.out]; rfl, pw_drew (below_new HB.out _)⟩
  · have hkv : (h.k.toNat : Int) = 3 := by omega
    rw [hkv] at x0
    rw [e] at HO
    clear hkv e
    by_cases hm0 : n = 2
    · subst hm0
      have HX : Hid (kb = true) := by unfold Hid; rw [HO.out]; rfl
      clear HO
      have z0 := fun o => keep_cell (below_new (Below.refl W.heap.size W) o) x0
      have z2 := fun o => keep_cell (below_new (Below.refl W.heap.size W) o) x2
      go_enter Try.func56, Try.ntmps56
      go_upto_region 1 with fail
      rw [show w.alloc _ = W from HE.out]
      go_wp2_with fail
      go_region
      go_wp2_with fail
      go_ret
      exact ⟨by rw [HX.out]; rfl, pw_drew (below_new HB.out _)⟩
    · have HX : Hid (kb = false) := by unfold Hid; rw [HO.out]; simp [hm0]
      have t1 : ((n : Int) == 2) = false := by simp; omega
      have t2 : decide ((n : Int) = 2) = false := by simp; omega
      clear HO
      have z0 := fun o => keep_cell (below_new (Below.refl W.heap.size W) o) x0
      have z2 := fun o => keep_cell (below_new (Below.refl W.heap.size W) o) x2
      go_enter Try.func56, Try.ntmps56
      go_upto_region 1 with fail
      rw [show w.alloc _ = W from HE.out]
      go_wp2_with fail
      go_region
      go_wp2_with fail
      go_ret
      exact ⟨by rw [HX.out]; rfl, pw_drew (below_new HB.out _)⟩
  · have hkv : (h.k.toNat : Int) = 4 := by omega
    rw [hkv] at x0
    rw [e] at HO
    clear hkv e
    by_cases hm0 : n = 1
    · subst hm0
      have HX : Hid (kb = true) := by unfold Hid; rw [HO.out]; rfl
      clear HO
      have z0 := fun o => keep_cell (below_new (Below.refl W.heap.size W) o) x0
      have z2 := fun o => keep_cell (below_new (Below.refl W.heap.size W) o) x2
      go_enter Try.func56, Try.ntmps56
      go_upto_region 1 with fail
      rw [show w.alloc _ = W from HE.out]
      go_wp2_with fail
      go_region
      go_wp2_with fail
      go_ret
      exact ⟨by rw [HX.out]; rfl, pw_drew (below_new HB.out _)⟩
    · have HX : Hid (kb = false) := by unfold Hid; rw [HO.out]; simp [hm0]
      have t1 : ((n : Int) == 1) = false := by simp; omega
      have t2 : decide ((n : Int) = 1) = false := by simp; omega
      clear HO
      have z0 := fun o => keep_cell (below_new (Below.refl W.heap.size W) o) x0
      have z2 := fun o => keep_cell (below_new (Below.refl W.heap.size W) o) x2
      go_enter Try.func56, Try.ntmps56
      go_upto_region 1 with fail
      rw [show w.alloc _ = W from HE.out]
      go_wp2_with fail
      go_region
      go_wp2_with fail
      go_ret
      exact ⟨by rw [HX.out]; rfl, pw_drew (below_new HB.out _)⟩
  · have hkv : (h.k.toNat : Int) = 5 := by omega
    rw [hkv] at x0
    rw [e] at HO
    clear hkv e
    by_cases hm0 : n = 1
    · subst hm0
      have HX : Hid (kb = true) := by unfold Hid; rw [HO.out]; rfl
      clear HO
      have z0 := fun o => keep_cell (below_new (Below.refl W.heap.size W) o) x0
      have z2 := fun o => keep_cell (below_new (Below.refl W.heap.size W) o) x2
      go_enter Try.func56, Try.ntmps56
      go_upto_region 1 with fail
      rw [show w.alloc _ = W from HE.out]
      go_wp2_with fail
      go_region
      go_wp2_with fail
      go_ret
      exact ⟨by rw [HX.out]; rfl, pw_drew (below_new HB.out _)⟩
    · have HX : Hid (kb = false) := by unfold Hid; rw [HO.out]; simp [hm0]
      have t1 : ((n : Int) == 1) = false := by simp; omega
      have t2 : decide ((n : Int) = 1) = false := by simp; omega
      clear HO
      have z0 := fun o => keep_cell (below_new (Below.refl W.heap.size W) o) x0
      have z2 := fun o => keep_cell (below_new (Below.refl W.heap.size W) o) x2
      go_enter Try.func56, Try.ntmps56
      go_upto_region 1 with fail
      rw [show w.alloc _ = W from HE.out]
      go_wp2_with fail
      go_region
      go_wp2_with fail
      go_ret
      exact ⟨by rw [HX.out]; rfl, pw_drew (below_new HB.out _)⟩
  · have hkv : (h.k.toNat : Int) = 6 := by omega
    rw [hkv] at x0
    rw [e] at HO
    clear hkv e
    have HX : Hid (kb = true) := by unfold Hid; rw [HO.out]; rfl
    clear HO
    go_enter Try.func56, Try.ntmps56
    go_upto_region 1 with fail
    rw [show w.alloc _ = W from HE.out]
    go_wp2_with fail
    go_region
    go_wp2_with fail
    go_ret
    exact ⟨by rw [HX.out]; rfl, pw_drew HB.out⟩
  · have g : decide ((h.k.toNat : Int) > 6) = true := by simp; omega
    have g1 : decide ((h.k.toNat : Int) < 1) = false := by simp; omega
    have HX : Hid (kb = false) := by unfold Hid; rw [HO.out, if_neg (by omega), if_neg (by omega), if_neg (by omega)]; simp; omega
    clear HO
    go_enter Try.func56, Try.ntmps56
    go_upto_region 1 with fail
    rw [show w.alloc _ = W from HE.out]
    go_wp2_with fail
    go_ret
    exact ⟨by rw [HX.out]; rfl, HB.out⟩
theorem joinV_snoc (xs : List (List UInt8)) (x sep : List UInt8) : Lib.join (xs ++ [x]) sep = if xs = [] then x else Lib.join xs sep ++ sep ++ x := by
  cases xs with
  | nil => simp [Lib.join_one]
  | cons y r =>
    rw [List.cons_append, Lib.join_cons, Lib.join_cons, if_neg (by simp)]
    unfold Lib.joinTail
    simp
theorem joinVs_take {ks : List Va} {k : Nat} {t : Va} (h : ks[k]? = some t) : Lib.join (textVs (ks.take (k + 1))) [44] = if k = 0 then textV t else Lib.join (textVs (ks.take k)) [44] ++ [44] ++ textV t := by
  have hk := (List.getElem?_eq_some_iff.1 h).1
  rw [textVs_take h, joinV_snoc]
  by_cases h0 : k = 0
  · subst h0; simp [textVs]
  · rw [if_neg h0, if_neg]
    intro e
    have := congrArg List.length e
    rw [textVs_length, List.length_take, List.length_nil] at this
    omega
theorem joinVs_take_le (ks : List Va) (k : Nat) : (Lib.join (textVs (ks.take k)) [44]).length ≤ 4 * T.sizes ks := by
  have h1 := joinVs_le (ks.take k)
  have h2 : T.sizes (ks.take k) ≤ T.sizes ks := by
    conv => rhs; rw [← List.take_append_drop k ks, T.sizes_append]
    omega
  omega
set_option maxRecDepth 100000 in
set_option maxHeartbeats 8000000 in
theorem rtext_upto (n : Nat) : ∀ (ok : Nat → Prop) (h : VH) (ks : List Va) (A : Option Addr) (c : Nat) (w : World), 1 + T.sizes ks ≤ n → n ≤ 1000000 → ks.length ≤ c → InRow VE ok w ks A 0 →
    Calls Try.prog 31 #[vaV h A ks.length c] w fun e w' => e = .returned (.string (str (textV (.mk h ks)))) ∧ Below w.heap.size w w' := by
  induction n with
  | zero => intro ok h ks A c w h0; omega
  | succ n ih =>
    intro ok h ks A c w hn hm hc hr
    have hl := T.length_le_sizes ks
    have IH := Lib.hid ih
    have HS : Hid (∀ t ∈ ks, t.size ≤ n) := fun t ht => by have := T.sizes_mem ht; omega
    have hlm : ks.length ≤ 1000000000 := by omega
    obtain ⟨W1, hW⟩ : ∃ W1, w.alloc (.cells (vaA h A ks.length c) 24) = W1 := ⟨_, rfl⟩
    have hbW : Below w.heap.size w W1 := by rw [← hW]; exact below_new (Below.refl _ _) _
    have e1 : W1.heap[w.heap.size]? = some (.cells (vaA h A ks.length c) 24 (0, 0)) := by rw [← hW]; exact new_at1 _
    have HE := Lib.hid hW
    have HBW := Lib.hid hbW
    have E1 := Lib.hid e1
    have HR := Lib.hid (hr.below hbW)
    have CK := Lib.hid (rkids_any h A ks.length c W1 hlm)
    clear ih hr hW hbW e1
    obtain ⟨x0, x1, x2⟩ := va_at_box E1.out
    go_enter Try.func31, Try.ntmps31
    go_wp2_with fail
    rw [HE.out]
    refine CK.out.mono ?_
    rintro e W ⟨rfl, hb1⟩
    have HB := Lib.hid (below_from HBW.out hb1)
    have E1W := Lib.hid ((hb1.block _ (lt_of_block E1.out)).trans E1.out)
    have HRW := Lib.hid (HR.out.below hb1)
    clear hb1 x0 x1 x2 E1 HR CK HBW HE
    obtain ⟨x0, x1, x2⟩ := va_at_box E1W.out
    rcases hkb : kidsB h.k ks.length with _ | _
    · have HX : Hid (textV (.mk h ks) = [63]) := by
        unfold Hid; simp only [textV]; unfold textVK; rw [if_neg (by rw [textVs_length, hkb]; decide)]
      clear hkb
      go_wp2_with fail
      go_ret
      exact ⟨by rw [HX.out]; rfl, HB.out⟩
    · have hcs : (h.k = 1 ∧ ks.length = 0) ∨ (h.k = 2 ∧ ks.length = 0) ∨ (h.k = 3 ∧ ks.length = 2) ∨ (h.k = 4 ∧ ks.length = 1) ∨ (h.k = 5 ∧ ks.length = 1) ∨ h.k = 6 := by
        have := (isHd_iff ⟨h.k, 0⟩ ks.length).1 (by unfold isHd; simp [hkb])
        exact this.2
      have HK2 : Hid (textV (.mk h ks) = if h.k = 1 then [40, 41] else if h.k = 2 then signB h.b else if h.k = 3 then 40 :: (Lib.join (textVs ks) [44] ++ [41]) else if h.k = 4 then 76 :: Lib.join (textVs ks) [44] else if h.k = 5 then 82 :: Lib.join (textVs ks) [44] else 91 :: (Lib.join (textVs ks) [44] ++ [93])) := by
        unfold Hid; simp only [textV]; unfold textVK; rw [if_pos (by rw [textVs_length]; exact hkb)]
      clear hkb
      rcases hcs with ⟨e, hn0⟩ | ⟨e, hn0⟩ | ⟨e, hn0⟩ | ⟨e, hn0⟩ | ⟨e, hn0⟩ | e
      · have HX : Hid (textV (.mk h ks) = [40, 41]) := by unfold Hid; rw [HK2.out]; simp [e]
        have t1 : ((h.k.toNat : Int) == 1) = true := u8_eq (n := 1) (by decide) e
        clear HK2 e
        go_wp2_with fail
        go_ret
        exact ⟨by rw [HX.out]; rfl, HB.out⟩
      · have HX : Hid (textV (.mk h ks) = signB h.b) := by unfold Hid; rw [HK2.out]; simp [e]
        have t1 : ((h.k.toNat : Int) == 1) = false := u8_ne (n := 1) (by decide) (by rw [e]; decide)
        have t2 : ((h.k.toNat : Int) == 2) = true := u8_eq (n := 2) (by decide) e
        have CS := Lib.hid (refSign_any h.b W)
        clear HK2 e
        go_wp2_with fail
        refine CS.out.mono ?_
        rintro e' w4 ⟨rfl, hb4⟩
        have hbz := below_from HB.out hb4
        clear hb4
        go_wp2_with fail
        go_ret
        exact ⟨by rw [HX.out]; simp, hbz⟩
      · clear hn0
        have HX : Hid (textV (.mk h ks) = 40 :: (Lib.join (textVs ks) [44] ++ [41])) := by unfold Hid; rw [HK2.out]; simp [e]
        have t1 : ((h.k.toNat : Int) == 1) = false := u8_ne (n := 1) (by decide) (by rw [e]; decide)
        have t2 : ((h.k.toNat : Int) == 2) = false := u8_ne (n := 2) (by decide) (by rw [e]; decide)
        have t3 : ((h.k.toNat : Int) == 3) = true := u8_eq (n := 3) (by decide) e
        have HLJ : Hid ((Lib.join (textVs ks) [44]).length ≤ 40000000) := by have := joinVs_le ks; unfold Hid; omega
        clear HK2 e
        go_wp2_with fail
        go_loopw [3, 4, 20] (fun s _ i wr => ∃ (k : Nat), k ≤ ks.length ∧ i = .int .i64 k ∧ s = .string (str (Lib.join (textVs (ks.take k)) [44])) ∧ Below W.heap.size W wr) (fun _ _ i _ => ks.length - (intOf i).toNat)
        case atStart => exact ⟨0, Nat.zero_le _, rfl, rfl, Below.refl _ _⟩
        case round =>
          clear x0 x1 x2
          obtain ⟨k, hk, rfl, rfl, hb⟩ := hrel
          obtain ⟨x0, x1, x2⟩ := va_at_box ((hb.block _ (lt_of_block E1W.out)).trans E1W.out)
          by_cases hlt : k < ks.length
          · obtain ⟨t, ad, h1, ls, A1, c1, hA, hx, rfl, hc1, hr1, q0, q1, q2⟩ := va_at (HRW.out.below hb) hlt
            subst hA
            have hmem := List.mem_of_getElem? hx
            have hs1 := HS.out _ hmem
            simp only [T.size] at hs1
            have HTK := Lib.hid (joinVs_take hx)
            have hl1 := joinVs_take_le ks k
            have hl3 := textV_le _ (T.mk h1 ls) (Nat.le_refl _)
            simp only [T.size] at hl3
            have hcat0 := run_cat (P := Try.prog) (Lib.join (textVs (ks.take k)) [44]) [44] (by simp; omega)
            have hcat1 := run_cat (P := Try.prog) (Lib.join (textVs (ks.take k)) [44] ++ [44]) (textV (T.mk h1 ls)) (by simp; omega)
            have HC := Lib.hid (IH.out ok h1 ls A1 c1 wr hs1 (by omega) hc1 hr1)
            by_cases hk0 : k = 0
            · subst hk0
              have hcat2 := run_cat (P := Try.prog) (Lib.join (textVs (ks.take 0)) [44]) (textV (T.mk h1 ls)) (by omega)
              have hj0 : Lib.join (textVs (ks.take 0)) [44] = [] := rfl
              have HTK2 : Hid (Lib.join (textVs (ks.take (0 + 1))) [44] = Lib.join (textVs (ks.take 0)) [44] ++ textV (T.mk h1 ls)) := by unfold Hid; rw [HTK.out, if_pos rfl, hj0]; rfl
              have r0 : wr.cell? ad = some (.int .u8 (h1.k.toNat : Int)) := q0
              have r1 : wr.cell? ⟨ad.block, ad.off + 1, none⟩ = some (.int .u8 (h1.b.toNat : Int)) := q1
              have r2 : wr.cell? ⟨ad.block, ad.off + 2, none⟩ = some (.slice A1 ls.length c1) := q2
              clear hx hl1 hl3 hr1 HTK hcat0 hcat1 hj0 q0 q1 q2
              generalize textV (T.mk h1 ls) = tx at *
              generalize Lib.join (textVs (ks.take 0)) [44] = jt at *
              go_wp2_with fail
              refine HC.out.mono ?_
              rintro e w1 ⟨rfl, hb1⟩
              have hb2 := below_from hb hb1
              clear hb1 r0 r1 r2 x0 x1 x2
              go_wp2_with fail
              go_roundw
              case rel => exact ⟨0 + 1, by omega, by go_num, by rw [HTK2.out], hb2⟩
              case measure => simp [intOf]; omega
            · have HTK2 : Hid (Lib.join (textVs (ks.take (k + 1))) [44] = Lib.join (textVs (ks.take k)) [44] ++ [44] ++ textV (T.mk h1 ls)) := by unfold Hid; rw [HTK.out, if_neg hk0]
              have g0 : decide ((k : Int) > 0) = true := by simp; omega
              clear hx hl1 hl3 hr1 HTK
              generalize textV (T.mk h1 ls) = tx at *
              generalize Lib.join (textVs (ks.take k)) [44] = jt at *
              go_wp2_with fail
              refine HC.out.mono ?_
              rintro e w1 ⟨rfl, hb1⟩
              have hb2 := below_from hb hb1
              clear hb1 q0 q1 q2 x0 x1 x2
              go_wp2_with fail
              go_roundw
              case rel => exact ⟨k + 1, by omega, by go_num, by rw [HTK2.out]; simp, hb2⟩
              case measure => simp [intOf]; omega
          · have hkk : k = ks.length := by omega
            subst hkk
            rw [List.take_length]
            have hjl := HLJ.out
            generalize Lib.join (textVs ks) [44] = jn at *
            have hc1 := run_cat (P := Try.prog) [40] jn (by simp; omega)
            have hc2 := run_cat (P := Try.prog) (40 :: jn) [41] (by simp; omega)
            clear hlt
            go_wp2_with fail
            go_ret
            exact ⟨by rw [HX.out]; simp, below_from HB.out hb⟩
      · clear hn0
        have HX : Hid (textV (.mk h ks) = 76 :: Lib.join (textVs ks) [44]) := by unfold Hid; rw [HK2.out]; simp [e]
        have t1 : ((h.k.toNat : Int) == 1) = false := u8_ne (n := 1) (by decide) (by rw [e]; decide)
        have t2 : ((h.k.toNat : Int) == 2) = false := u8_ne (n := 2) (by decide) (by rw [e]; decide)
        have t3 : ((h.k.toNat : Int) == 3) = false := u8_ne (n := 3) (by decide) (by rw [e]; decide)
        have t4 : ((h.k.toNat : Int) == 4) = true := u8_eq (n := 4) (by decide) e
        have HLJ : Hid ((Lib.join (textVs ks) [44]).length ≤ 40000000) := by have := joinVs_le ks; unfold Hid; omega
        clear HK2 e
        go_wp2_with fail
        go_loopw [3, 4, 20] (fun s _ i wr => ∃ (k : Nat), k ≤ ks.length ∧ i = .int .i64 k ∧ s = .string (str (Lib.join (textVs (ks.take k)) [44])) ∧ Below W.heap.size W wr) (fun _ _ i _ => ks.length - (intOf i).toNat)
        case atStart => exact ⟨0, Nat.zero_le _, rfl, rfl, Below.refl _ _⟩
        case round =>
          clear x0 x1 x2
          obtain ⟨k, hk, rfl, rfl, hb⟩ := hrel
          obtain ⟨x0, x1, x2⟩ := va_at_box ((hb.block _ (lt_of_block E1W.out)).trans E1W.out)
          by_cases hlt : k < ks.length
          · obtain ⟨t, ad, h1, ls, A1, c1, hA, hx, rfl, hc1, hr1, q0, q1, q2⟩ := va_at (HRW.out.below hb) hlt
            subst hA
            have hmem := List.mem_of_getElem? hx
            have hs1 := HS.out _ hmem
            simp only [T.size] at hs1
            have HTK := Lib.hid (joinVs_take hx)
            have hl1 := joinVs_take_le ks k
            have hl3 := textV_le _ (T.mk h1 ls) (Nat.le_refl _)
            simp only [T.size] at hl3
            have hcat0 := run_cat (P := Try.prog) (Lib.join (textVs (ks.take k)) [44]) [44] (by simp; omega)
            have hcat1 := run_cat (P := Try.prog) (Lib.join (textVs (ks.take k)) [44] ++ [44]) (textV (T.mk h1 ls)) (by simp; omega)
            have HC := Lib.hid (IH.out ok h1 ls A1 c1 wr hs1 (by omega) hc1 hr1)
            by_cases hk0 : k = 0
            · subst hk0
              have hcat2 := run_cat (P := Try.prog) (Lib.join (textVs (ks.take 0)) [44]) (textV (T.mk h1 ls)) (by omega)
              have hj0 : Lib.join (textVs (ks.take 0)) [44] = [] := rfl
              have HTK2 : Hid (Lib.join (textVs (ks.take (0 + 1))) [44] = Lib.join (textVs (ks.take 0)) [44] ++ textV (T.mk h1 ls)) := by unfold Hid; rw [HTK.out, if_pos rfl, hj0]; rfl
              have r0 : wr.cell? ad = some (.int .u8 (h1.k.toNat : Int)) := q0
              have r1 : wr.cell? ⟨ad.block, ad.off + 1, none⟩ = some (.int .u8 (h1.b.toNat : Int)) := q1
              have r2 : wr.cell? ⟨ad.block, ad.off + 2, none⟩ = some (.slice A1 ls.length c1) := q2
              clear hx hl1 hl3 hr1 HTK hcat0 hcat1 hj0 q0 q1 q2
              generalize textV (T.mk h1 ls) = tx at *
              generalize Lib.join (textVs (ks.take 0)) [44] = jt at *
              go_wp2_with fail
              refine HC.out.mono ?_
              rintro e w1 ⟨rfl, hb1⟩
              have hb2 := below_from hb hb1
              clear hb1 r0 r1 r2 x0 x1 x2
              go_wp2_with fail
              go_roundw
              case rel => exact ⟨0 + 1, by omega, by go_num, by rw [HTK2.out], hb2⟩
              case measure => simp [intOf]; omega
            · have HTK2 : Hid (Lib.join (textVs (ks.take (k + 1))) [44] = Lib.join (textVs (ks.take k)) [44] ++ [44] ++ textV (T.mk h1 ls)) := by unfold Hid; rw [HTK.out, if_neg hk0]
              have g0 : decide ((k : Int) > 0) = true := by simp; omega
              clear hx hl1 hl3 hr1 HTK
              generalize textV (T.mk h1 ls) = tx at *
              generalize Lib.join (textVs (ks.take k)) [44] = jt at *
              go_wp2_with fail
              refine HC.out.mono ?_
              rintro e w1 ⟨rfl, hb1⟩
              have hb2 := below_from hb hb1
              clear hb1 q0 q1 q2 x0 x1 x2
              go_wp2_with fail
              go_roundw
              case rel => exact ⟨k + 1, by omega, by go_num, by rw [HTK2.out]; simp, hb2⟩
              case measure => simp [intOf]; omega
          · have hkk : k = ks.length := by omega
            subst hkk
            rw [List.take_length]
            have hjl := HLJ.out
            generalize Lib.join (textVs ks) [44] = jn at *
            have hc1 := run_cat (P := Try.prog) [76] jn (by simp; omega)
            clear hlt
            go_wp2_with fail
            go_ret
            exact ⟨by rw [HX.out]; simp, below_from HB.out hb⟩
      · clear hn0
        have HX : Hid (textV (.mk h ks) = 82 :: Lib.join (textVs ks) [44]) := by unfold Hid; rw [HK2.out]; simp [e]
        have t1 : ((h.k.toNat : Int) == 1) = false := u8_ne (n := 1) (by decide) (by rw [e]; decide)
        have t2 : ((h.k.toNat : Int) == 2) = false := u8_ne (n := 2) (by decide) (by rw [e]; decide)
        have t3 : ((h.k.toNat : Int) == 3) = false := u8_ne (n := 3) (by decide) (by rw [e]; decide)
        have t4 : ((h.k.toNat : Int) == 4) = false := u8_ne (n := 4) (by decide) (by rw [e]; decide)
        have t5 : ((h.k.toNat : Int) == 5) = true := u8_eq (n := 5) (by decide) e
        have HLJ : Hid ((Lib.join (textVs ks) [44]).length ≤ 40000000) := by have := joinVs_le ks; unfold Hid; omega
        clear HK2 e
        go_wp2_with fail
        go_loopw [3, 4, 20] (fun s _ i wr => ∃ (k : Nat), k ≤ ks.length ∧ i = .int .i64 k ∧ s = .string (str (Lib.join (textVs (ks.take k)) [44])) ∧ Below W.heap.size W wr) (fun _ _ i _ => ks.length - (intOf i).toNat)
        case atStart => exact ⟨0, Nat.zero_le _, rfl, rfl, Below.refl _ _⟩
        case round =>
          clear x0 x1 x2
          obtain ⟨k, hk, rfl, rfl, hb⟩ := hrel
          obtain ⟨x0, x1, x2⟩ := va_at_box ((hb.block _ (lt_of_block E1W.out)).trans E1W.out)
          by_cases hlt : k < ks.length
          · obtain ⟨t, ad, h1, ls, A1, c1, hA, hx, rfl, hc1, hr1, q0, q1, q2⟩ := va_at (HRW.out.below hb) hlt
            subst hA
            have hmem := List.mem_of_getElem? hx
            have hs1 := HS.out _ hmem
            simp only [T.size] at hs1
            have HTK := Lib.hid (joinVs_take hx)
            have hl1 := joinVs_take_le ks k
            have hl3 := textV_le _ (T.mk h1 ls) (Nat.le_refl _)
            simp only [T.size] at hl3
            have hcat0 := run_cat (P := Try.prog) (Lib.join (textVs (ks.take k)) [44]) [44] (by simp; omega)
            have hcat1 := run_cat (P := Try.prog) (Lib.join (textVs (ks.take k)) [44] ++ [44]) (textV (T.mk h1 ls)) (by simp; omega)
            have HC := Lib.hid (IH.out ok h1 ls A1 c1 wr hs1 (by omega) hc1 hr1)
            by_cases hk0 : k = 0
            · subst hk0
              have hcat2 := run_cat (P := Try.prog) (Lib.join (textVs (ks.take 0)) [44]) (textV (T.mk h1 ls)) (by omega)
              have hj0 : Lib.join (textVs (ks.take 0)) [44] = [] := rfl
              have HTK2 : Hid (Lib.join (textVs (ks.take (0 + 1))) [44] = Lib.join (textVs (ks.take 0)) [44] ++ textV (T.mk h1 ls)) := by unfold Hid; rw [HTK.out, if_pos rfl, hj0]; rfl
              have r0 : wr.cell? ad = some (.int .u8 (h1.k.toNat : Int)) := q0
              have r1 : wr.cell? ⟨ad.block, ad.off + 1, none⟩ = some (.int .u8 (h1.b.toNat : Int)) := q1
              have r2 : wr.cell? ⟨ad.block, ad.off + 2, none⟩ = some (.slice A1 ls.length c1) := q2
              clear hx hl1 hl3 hr1 HTK hcat0 hcat1 hj0 q0 q1 q2
              generalize textV (T.mk h1 ls) = tx at *
              generalize Lib.join (textVs (ks.take 0)) [44] = jt at *
              go_wp2_with fail
              refine HC.out.mono ?_
              rintro e w1 ⟨rfl, hb1⟩
              have hb2 := below_from hb hb1
              clear hb1 r0 r1 r2 x0 x1 x2
              go_wp2_with fail
              go_roundw
              case rel => exact ⟨0 + 1, by omega, by go_num, by rw [HTK2.out], hb2⟩
              case measure => simp [intOf]; omega
            · have HTK2 : Hid (Lib.join (textVs (ks.take (k + 1))) [44] = Lib.join (textVs (ks.take k)) [44] ++ [44] ++ textV (T.mk h1 ls)) := by unfold Hid; rw [HTK.out, if_neg hk0]
              have g0 : decide ((k : Int) > 0) = true := by simp; omega
              clear hx hl1 hl3 hr1 HTK
              generalize textV (T.mk h1 ls) = tx at *
              generalize Lib.join (textVs (ks.take k)) [44] = jt at *
              go_wp2_with fail
              refine HC.out.mono ?_
              rintro e w1 ⟨rfl, hb1⟩
              have hb2 := below_from hb hb1
              clear hb1 q0 q1 q2 x0 x1 x2
              go_wp2_with fail
              go_roundw
              case rel => exact ⟨k + 1, by omega, by go_num, by rw [HTK2.out]; simp, hb2⟩
              case measure => simp [intOf]; omega
          · have hkk : k = ks.length := by omega
            subst hkk
            rw [List.take_length]
            have hjl := HLJ.out
            generalize Lib.join (textVs ks) [44] = jn at *
            have hc1 := run_cat (P := Try.prog) [82] jn (by simp; omega)
            clear hlt
            go_wp2_with fail
            go_ret
            exact ⟨by rw [HX.out]; simp, below_from HB.out hb⟩
      · have HX : Hid (textV (.mk h ks) = 91 :: (Lib.join (textVs ks) [44] ++ [93])) := by unfold Hid; rw [HK2.out]; simp [e]
        have t1 : ((h.k.toNat : Int) == 1) = false := u8_ne (n := 1) (by decide) (by rw [e]; decide)
        have t2 : ((h.k.toNat : Int) == 2) = false := u8_ne (n := 2) (by decide) (by rw [e]; decide)
        have t3 : ((h.k.toNat : Int) == 3) = false := u8_ne (n := 3) (by decide) (by rw [e]; decide)
        have t4 : ((h.k.toNat : Int) == 4) = false := u8_ne (n := 4) (by decide) (by rw [e]; decide)
        have t5 : ((h.k.toNat : Int) == 5) = false := u8_ne (n := 5) (by decide) (by rw [e]; decide)
        have HLJ : Hid ((Lib.join (textVs ks) [44]).length ≤ 40000000) := by have := joinVs_le ks; unfold Hid; omega
        clear HK2 e
        go_wp2_with fail
        go_loopw [3, 4, 20] (fun s _ i wr => ∃ (k : Nat), k ≤ ks.length ∧ i = .int .i64 k ∧ s = .string (str (Lib.join (textVs (ks.take k)) [44])) ∧ Below W.heap.size W wr) (fun _ _ i _ => ks.length - (intOf i).toNat)
        case atStart => exact ⟨0, Nat.zero_le _, rfl, rfl, Below.refl _ _⟩
        case round =>
          clear x0 x1 x2
          obtain ⟨k, hk, rfl, rfl, hb⟩ := hrel
          obtain ⟨x0, x1, x2⟩ := va_at_box ((hb.block _ (lt_of_block E1W.out)).trans E1W.out)
          by_cases hlt : k < ks.length
          · obtain ⟨t, ad, h1, ls, A1, c1, hA, hx, rfl, hc1, hr1, q0, q1, q2⟩ := va_at (HRW.out.below hb) hlt
            subst hA
            have hmem := List.mem_of_getElem? hx
            have hs1 := HS.out _ hmem
            simp only [T.size] at hs1
            have HTK := Lib.hid (joinVs_take hx)
            have hl1 := joinVs_take_le ks k
            have hl3 := textV_le _ (T.mk h1 ls) (Nat.le_refl _)
            simp only [T.size] at hl3
            have hcat0 := run_cat (P := Try.prog) (Lib.join (textVs (ks.take k)) [44]) [44] (by simp; omega)
            have hcat1 := run_cat (P := Try.prog) (Lib.join (textVs (ks.take k)) [44] ++ [44]) (textV (T.mk h1 ls)) (by simp; omega)
            have HC := Lib.hid (IH.out ok h1 ls A1 c1 wr hs1 (by omega) hc1 hr1)
            by_cases hk0 : k = 0
            · subst hk0
              have hcat2 := run_cat (P := Try.prog) (Lib.join (textVs (ks.take 0)) [44]) (textV (T.mk h1 ls)) (by omega)
              have hj0 : Lib.join (textVs (ks.take 0)) [44] = [] := rfl
              have HTK2 : Hid (Lib.join (textVs (ks.take (0 + 1))) [44] = Lib.join (textVs (ks.take 0)) [44] ++ textV (T.mk h1 ls)) := by unfold Hid; rw [HTK.out, if_pos rfl, hj0]; rfl
              have r0 : wr.cell? ad = some (.int .u8 (h1.k.toNat : Int)) := q0
              have r1 : wr.cell? ⟨ad.block, ad.off + 1, none⟩ = some (.int .u8 (h1.b.toNat : Int)) := q1
              have r2 : wr.cell? ⟨ad.block, ad.off + 2, none⟩ = some (.slice A1 ls.length c1) := q2
              clear hx hl1 hl3 hr1 HTK hcat0 hcat1 hj0 q0 q1 q2
              generalize textV (T.mk h1 ls) = tx at *
              generalize Lib.join (textVs (ks.take 0)) [44] = jt at *
              go_wp2_with fail
              refine HC.out.mono ?_
              rintro e w1 ⟨rfl, hb1⟩
              have hb2 := below_from hb hb1
              clear hb1 r0 r1 r2 x0 x1 x2
              go_wp2_with fail
              go_roundw
              case rel => exact ⟨0 + 1, by omega, by go_num, by rw [HTK2.out], hb2⟩
              case measure => simp [intOf]; omega
            · have HTK2 : Hid (Lib.join (textVs (ks.take (k + 1))) [44] = Lib.join (textVs (ks.take k)) [44] ++ [44] ++ textV (T.mk h1 ls)) := by unfold Hid; rw [HTK.out, if_neg hk0]
              have g0 : decide ((k : Int) > 0) = true := by simp; omega
              clear hx hl1 hl3 hr1 HTK
              generalize textV (T.mk h1 ls) = tx at *
              generalize Lib.join (textVs (ks.take k)) [44] = jt at *
              go_wp2_with fail
              refine HC.out.mono ?_
              rintro e w1 ⟨rfl, hb1⟩
              have hb2 := below_from hb hb1
              clear hb1 q0 q1 q2 x0 x1 x2
              go_wp2_with fail
              go_roundw
              case rel => exact ⟨k + 1, by omega, by go_num, by rw [HTK2.out]; simp, hb2⟩
              case measure => simp [intOf]; omega
          · have hkk : k = ks.length := by omega
            subst hkk
            rw [List.take_length]
            have hjl := HLJ.out
            generalize Lib.join (textVs ks) [44] = jn at *
            have hc1 := run_cat (P := Try.prog) [91] jn (by simp; omega)
            have hc2 := run_cat (P := Try.prog) (91 :: jn) [93] (by simp; omega)
            clear hlt
            go_wp2_with fail
            go_ret
            exact ⟨by rw [HX.out]; simp, below_from HB.out hb⟩
end Go.Proofs.Yteokbmngebckjaa
