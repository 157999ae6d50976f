/- Values' texts: the document's. -/
import Derived.Test.YteokbmngebckjaaDoorVtP
import Derived.Test.YteokbmngebckjaaDoorCb
import Derived.Test.YteokbmngebckjaaDoorBb
import Derived.RegionTactic
namespace Go.Proofs.YteokbmngebckjaaDoor
open Go.RowKit
set_option linter.unusedVariables false
set_option linter.unusedSimpArgs false

theorem kidsB_nat (k : UInt8) (n : Nat) : kidsB k n = if k.toNat = 1 ∨ k.toNat = 2 then decide (n = 0) else if k.toNat = 3 then decide (n = 2) else if k.toNat = 4 ∨ k.toNat = 5 then decide (n = 1) else decide (k.toNat = 6) := by
  unfold kidsB
  simp only [← UInt8.toNat_inj]
  rfl
set_option maxRecDepth 100000 in
set_option maxHeartbeats 8000000 in
theorem rkids_any (h : VH) (A : Option Addr) (n c : Nat) (w : World) (hn : n ≤ 1000000000) :
    Calls Tryd.prog 39 #[vaV h A n c] w fun e w' => e = .returned (.bool (kidsB h.k n)) ∧ Below w.heap.size w w' := by
  have HO := Lib.hid (kidsB_nat h.k n)
  have hkb := h.k.toNat_lt
  obtain ⟨kb, hkbq⟩ : ∃ kb, kidsB h.k n = kb := ⟨_, rfl⟩
  rw [hkbq] at HO ⊢
  clear hkbq
  obtain ⟨W, hW⟩ : ∃ W, w.alloc (.cells (vaA h A n c) 32) = W := ⟨_, rfl⟩
  have hbW : Below w.heap.size w W := by rw [← hW]; exact below_new (Below.refl _ _) _
  have e1 : W.heap[w.heap.size]? = some (.cells (vaA h A n c) 32 (0, 0)) := by rw [← hW]; exact new_at1 _
  obtain ⟨x0, x1, x2⟩ := va_at_box e1
  have HE := Lib.hid hW
  have HB := Lib.hid hbW
  clear hW hbW e1
  have hcase : h.k.toNat = 0 ∨ h.k.toNat = 1 ∨ h.k.toNat = 2 ∨ h.k.toNat = 3 ∨ h.k.toNat = 4 ∨ h.k.toNat = 5 ∨ h.k.toNat = 6 ∨ 6 < h.k.toNat := by omega
  rcases hcase with e | e | e | e | e | e | e | h6
  · have hkv : (h.k.toNat : Int) = 0 := by omega
    rw [hkv] at x0
    rw [e] at HO
    clear hkv e
    have HX : Hid (kb = false) := by unfold Hid; rw [HO.out]; rfl
    clear HO
    go_enter Tryd.func39, Tryd.ntmps39
    go_upto_region 1 with fail
    rw [show w.alloc _ = W from HE.out]
    go_wp2_with fail
    go_ret
    exact ⟨by rw [HX.out]; rfl, HB.out⟩
  · have hkv : (h.k.toNat : Int) = 1 := by omega
    rw [hkv] at x0
    rw [e] at HO
    clear hkv e
    by_cases hm0 : n = 0
    · subst hm0
      have HX : Hid (kb = true) := by unfold Hid; rw [HO.out]; rfl
      clear HO
      have z0 := fun o => keep_cell (below_new (Below.refl W.heap.size W) o) x0
      have z2 := fun o => keep_cell (below_new (Below.refl W.heap.size W) o) x2
      go_enter Tryd.func39, Tryd.ntmps39
      go_upto_region 1 with fail
      rw [show w.alloc _ = W from HE.out]
      go_wp2_with fail
      go_region
      go_wp2_with fail
      go_ret
      exact ⟨by rw [HX.out]; rfl, pw_drew (below_new HB.out _)⟩
    · have HX : Hid (kb = false) := by unfold Hid; rw [HO.out]; simp [hm0]
      have t1 : ((n : Int) == 0) = false := by simp; omega
      have t2 : decide ((n : Int) = 0) = false := by simp; omega
      clear HO
      have z0 := fun o => keep_cell (below_new (Below.refl W.heap.size W) o) x0
      have z2 := fun o => keep_cell (below_new (Below.refl W.heap.size W) o) x2
      go_enter Tryd.func39, Tryd.ntmps39
      go_upto_region 1 with fail
      rw [show w.alloc _ = W from HE.out]
      go_wp2_with fail
      go_region
      go_wp2_with fail
      go_ret
      exact ⟨by rw [HX.out]; rfl, pw_drew (below_new HB.out _)⟩
  · have hkv : (h.k.toNat : Int) = 2 := by omega
    rw [hkv] at x0
    rw [e] at HO
    clear hkv e
    by_cases hm0 : n = 0
    · subst hm0
      have HX : Hid (kb = true) := by unfold Hid; rw [HO.out]; rfl
      clear HO
      have z0 := fun o => keep_cell (below_new (Below.refl W.heap.size W) o) x0
      have z2 := fun o => keep_cell (below_new (Below.refl W.heap.size W) o) x2
      go_enter Tryd.func39, Tryd.ntmps39
      go_upto_region 1 with fail
      rw [show w.alloc _ = W from HE.out]
      go_wp2_with fail
      go_region
      go_wp2_with fail
      go_ret
      exact ⟨by rw [HX.out]; rfl, pw_drew (below_new HB.out _)⟩
    · have HX : Hid (kb = false) := by unfold Hid; rw [HO.out]; simp [hm0]
      have t1 : ((n : Int) == 0) = false := by simp; omega
      have t2 : decide ((n : Int) = 0) = false := by simp; omega
      clear HO
      have z0 := fun o => keep_cell (below_new (Below.refl W.heap.size W) o) x0
      have z2 := fun o => keep_cell (below_new (Below.refl W.heap.size W) o) x2
      go_enter Tryd.func39, Tryd.ntmps39
      go_upto_region 1 with fail
      rw [show w.alloc _ = W from HE.out]
      go_wp2_with fail
      go_region
      go_wp2_with fail
      go_ret
      exact ⟨by rw [HX.out]; rfl, pw_drew (below_new HB.out _)⟩
  · have hkv : (h.k.toNat : Int) = 3 := by omega
    rw [hkv] at x0
    rw [e] at HO
    clear hkv e
    by_cases hm0 : n = 2
    · subst hm0
      have HX : Hid (kb = true) := by unfold Hid; rw [HO.out]; rfl
      clear HO
      have z0 := fun o => keep_cell (below_new (Below.refl W.heap.size W) o) x0
      have z2 := fun o => keep_cell (below_new (Below.refl W.heap.size W) o) x2
      go_enter Tryd.func39, Tryd.ntmps39
      go_upto_region 1 with fail
      rw [show w.alloc _ = W from HE.out]
      go_wp2_with fail
      go_region
      go_wp2_with fail
      go_ret
      exact ⟨by rw [HX.out]; rfl, pw_drew (below_new HB.out _)⟩
    · have HX : Hid (kb = false) := by unfold Hid; rw [HO.out]; simp [hm0]
      have t1 : ((n : Int) == 2) = false := by simp; omega
      have t2 : decide ((n : Int) = 2) = false := by simp; omega
      clear HO
      have z0 := fun o => keep_cell (below_new (Below.refl W.heap.size W) o) x0
      have z2 := fun o => keep_cell (below_new (Below.refl W.heap.size W) o) x2
      go_enter Tryd.func39, Tryd.ntmps39
      go_upto_region 1 with fail
      rw [show w.alloc _ = W from HE.out]
      go_wp2_with fail
      go_region
      go_wp2_with fail
      go_ret
      exact ⟨by rw [HX.out]; rfl, pw_drew (below_new HB.out _)⟩
  · have hkv : (h.k.toNat : Int) = 4 := by omega
    rw [hkv] at x0
    rw [e] at HO
    clear hkv e
    by_cases hm0 : n = 1
    · subst hm0
      have HX : Hid (kb = true) := by unfold Hid; rw [HO.out]; rfl
      clear HO
      have z0 := fun o => keep_cell (below_new (Below.refl W.heap.size W) o) x0
      have z2 := fun o => keep_cell (below_new (Below.refl W.heap.size W) o) x2
      go_enter Tryd.func39, Tryd.ntmps39
      go_upto_region 1 with fail
      rw [show w.alloc _ = W from HE.out]
      go_wp2_with fail
      go_region
      go_wp2_with fail
      go_ret
      exact ⟨by rw [HX.out]; rfl, pw_drew (below_new HB.out _)⟩
    · have HX : Hid (kb = false) := by unfold Hid; rw [HO.out]; simp [hm0]
      have t1 : ((n : Int) == 1) = false := by simp; omega
      have t2 : decide ((n : Int) = 1) = false := by simp; omega
      clear HO
      have z0 := fun o => keep_cell (below_new (Below.refl W.heap.size W) o) x0
      have z2 := fun o => keep_cell (below_new (Below.refl W.heap.size W) o) x2
      go_enter Tryd.func39, Tryd.ntmps39
      go_upto_region 1 with fail
      rw [show w.alloc _ = W from HE.out]
      go_wp2_with fail
      go_region
      go_wp2_with fail
      go_ret
      exact ⟨by rw [HX.out]; rfl, pw_drew (below_new HB.out _)⟩
  · have hkv : (h.k.toNat : Int) = 5 := by omega
    rw [hkv] at x0
    rw [e] at HO
    clear hkv e
    by_cases hm0 : n = 1
    · subst hm0
      have HX : Hid (kb = true) := by unfold Hid; rw [HO.out]; rfl
      clear HO
      have z0 := fun o => keep_cell (below_new (Below.refl W.heap.size W) o) x0
      have z2 := fun o => keep_cell (below_new (Below.refl W.heap.size W) o) x2
      go_enter Tryd.func39, Tryd.ntmps39
      go_upto_region 1 with fail
      rw [show w.alloc _ = W from HE.out]
      go_wp2_with fail
      go_region
      go_wp2_with fail
      go_ret
      exact ⟨by rw [HX.out]; rfl, pw_drew (below_new HB.out _)⟩
    · have HX : Hid (kb = false) := by unfold Hid; rw [HO.out]; simp [hm0]
      have t1 : ((n : Int) == 1) = false := by simp; omega
      have t2 : decide ((n : Int) = 1) = false := by simp; omega
      clear HO
      have z0 := fun o => keep_cell (below_new (Below.refl W.heap.size W) o) x0
      have z2 := fun o => keep_cell (below_new (Below.refl W.heap.size W) o) x2
      go_enter Tryd.func39, Tryd.ntmps39
      go_upto_region 1 with fail
      rw [show w.alloc _ = W from HE.out]
      go_wp2_with fail
      go_region
      go_wp2_with fail
      go_ret
      exact ⟨by rw [HX.out]; rfl, pw_drew (below_new HB.out _)⟩
  · have hkv : (h.k.toNat : Int) = 6 := by omega
    rw [hkv] at x0
    rw [e] at HO
    clear hkv e
    have HX : Hid (kb = true) := by unfold Hid; rw [HO.out]; rfl
    clear HO
    go_enter Tryd.func39, Tryd.ntmps39
    go_upto_region 1 with fail
    rw [show w.alloc _ = W from HE.out]
    go_wp2_with fail
    go_region
    go_wp2_with fail
    go_ret
    exact ⟨by rw [HX.out]; rfl, pw_drew HB.out⟩
  · have g : decide ((h.k.toNat : Int) > 6) = true := by simp; omega
    have g1 : decide ((h.k.toNat : Int) < 1) = false := by simp; omega
    have HX : Hid (kb = false) := by unfold Hid; rw [HO.out, if_neg (by omega), if_neg (by omega), if_neg (by omega)]; simp; omega
    clear HO
    go_enter Tryd.func39, Tryd.ntmps39
    go_upto_region 1 with fail
    rw [show w.alloc _ = W from HE.out]
    go_wp2_with fail
    go_ret
    exact ⟨by rw [HX.out]; rfl, HB.out⟩
theorem joinV_snoc (xs : List (List UInt8)) (x sep : List UInt8) : Lib.join (xs ++ [x]) sep = if xs = [] then x else Lib.join xs sep ++ sep ++ x := by
  cases xs with
  | nil => simp [Lib.join_one]
  | cons y r =>
    rw [List.cons_append, Lib.join_cons, Lib.join_cons, if_neg (by simp)]
    unfold Lib.joinTail
    simp
theorem joinVs_take {ks : List Va} {k : Nat} {t : Va} (h : ks[k]? = some t) : Lib.join (textVs (ks.take (k + 1))) [44] = if k = 0 then textV t else Lib.join (textVs (ks.take k)) [44] ++ [44] ++ textV t := by
  have hk := (List.getElem?_eq_some_iff.1 h).1
  rw [textVs_take h, joinV_snoc]
  by_cases h0 : k = 0
  · subst h0; simp [textVs]
  · rw [if_neg h0, if_neg]
    intro e
    have := congrArg List.length e
    rw [textVs_length, List.length_take, List.length_nil] at this
    omega
theorem joinVs_take_le (ks : List Va) (k : Nat) : (Lib.join (textVs (ks.take k)) [44]).length ≤ 4 * T.sizes ks := by
  have h1 := joinVs_le (ks.take k)
  have h2 : T.sizes (ks.take k) ≤ T.sizes ks := by
    conv => rhs; rw [← List.take_append_drop k ks, T.sizes_append]
    omega
  omega
end Go.Proofs.YteokbmngebckjaaDoor
