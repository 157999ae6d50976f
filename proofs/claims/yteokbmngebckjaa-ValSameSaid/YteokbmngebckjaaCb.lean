/- The document's bits of a value. -/
import Derived.Test.YteokbmngebckjaaBx
import Derived.Test.YteokbmngebckjaaBv
namespace Go.Proofs.Yteokbmngebckjaa
open Go.RowKit
set_option linter.unusedVariables false
set_option linter.unusedSimpArgs false

theorem codeVs_append (st : Bool) : ∀ xs ys : List Va, codeVs st (xs ++ ys) = codeVs st xs ++ codeVs st ys
  | [], ys => rfl
  | x :: xs, ys => by simp only [List.cons_append, codeVs, codeVs_append st xs ys, List.append_assoc]
theorem codeVs_take (st : Bool) {ks : List Va} {k : Nat} {t : Va} (h : ks[k]? = some t) : codeVs st (ks.take (k + 1)) = codeVs st (ks.take k) ++ ((if st then [48] else []) ++ codeV t) := by
  rw [List.take_add_one, h, codeVs_append]
  simp [codeVs]
theorem codeV_bad {h : VH} {ks : List Va} (hk : h.k < 1 ∨ 6 < h.k) : codeV (.mk h ks) = [] := by simp only [codeV]; rw [if_pos hk]
theorem codeV_of {h : VH} {ks : List Va} {f0 : List UInt8} {st : Bool} (hk : ¬ (h.k < 1 ∨ 6 < h.k)) (h0 : f0 = if h.k = 4 then [48] else if h.k = 5 then [49] else []) (hst : st = decide (h.k = 6)) : codeV (.mk h ks) = f0 ++ (codeVs st ks ++ (if st then [49] else [])) := by
  simp only [codeV]
  rw [if_neg hk, h0, hst]
  by_cases h6 : h.k = 6 <;> simp [h6]
theorem u8_lt {k : UInt8} {n : Nat} (hn : n < 256) : (k < UInt8.ofNat n) ↔ ((k.toNat : Int) < (n : Int)) := by
  rw [UInt8.lt_iff_toNat_lt, UInt8.toNat_ofNat_of_lt' (by simpa using hn)]
  omega
theorem u8_gt {k : UInt8} {n : Nat} (hn : n < 256) : (UInt8.ofNat n < k) ↔ ((k.toNat : Int) > (n : Int)) := by
  rw [UInt8.lt_iff_toNat_lt, UInt8.toNat_ofNat_of_lt' (by simpa using hn)]
  omega
theorem u8_ne {k : UInt8} {n : Nat} (hn : n < 256) (h : k ≠ UInt8.ofNat n) : ((k.toNat : Int) == (n : Int)) = false := by
  refine beq_eq_false_iff_ne.2 fun e => h ?_
  rw [← UInt8.toNat_inj, UInt8.toNat_ofNat_of_lt' (by simpa using hn)]
  omega
theorem u8_eq {k : UInt8} {n : Nat} (hn : n < 256) (h : k = UInt8.ofNat n) : ((k.toNat : Int) == (n : Int)) = true := by
  subst h
  rw [UInt8.toNat_ofNat_of_lt' (by simpa using hn)]
  simp
set_option maxRecDepth 100000 in
set_option maxHeartbeats 8000000 in
theorem refCode_upto (n : Nat) : ∀ (ok : Nat → Prop) (h : VH) (ks : List Va) (A : Option Addr) (c : Nat) (w : World), 1 + T.sizes ks ≤ n → n ≤ 1000000000 → ks.length ≤ c → InRow VE ok w ks A 0 →
    Calls Try.prog 12 #[vaV h A ks.length c] w fun e w' => e = .returned (.string (str (codeV (.mk h ks)))) ∧ Below w.heap.size w w' := by
  induction n with
  | zero => intro ok h ks A c w h0; omega
  | succ n ih =>
    intro ok h ks A c w hn hm hc hr
    have hl := T.length_le_sizes ks
    have IH := Lib.hid ih
    clear ih
    have hsz : ∀ t ∈ ks, t.size ≤ n := fun t ht => by have := T.sizes_mem ht; omega
    have HS := Lib.hid hsz
    clear hsz
    have hlm : ks.length ≤ 1000000000 := by omega
    obtain ⟨W, hW⟩ : ∃ W, w.alloc (.cells (vaA h A ks.length c) 24) = W := ⟨_, rfl⟩
    have hbW : Below w.heap.size w W := by rw [← hW]; exact below_new (Below.refl _ _) _
    have e1 : W.heap[w.heap.size]? = some (.cells (vaA h A ks.length c) 24 (0, 0)) := by rw [← hW]; exact new_at1 _
    have HE := Lib.hid hW
    have HW := Lib.hid hbW
    have E1 := Lib.hid e1
    have HR := Lib.hid (hr.below hbW)
    clear hW hbW e1 hr
    obtain ⟨x0, x1, x2⟩ := va_at_box E1.out
    by_cases hk1 : h.k < 1
    · have HX : Hid (codeV (.mk h ks) = []) := codeV_bad (.inl hk1)
      have t1 : decide ((h.k.toNat : Int) < 1) = true := decide_eq_true ((u8_lt (n := 1) (by decide)).1 hk1)
      have hb := HW.out
      clear hk1
      go_enter Try.func12, Try.ntmps12
      go_wp2_with fail
      rw [HE.out]
      go_wp2_with fail
      go_ret
      exact ⟨by rw [HX.out]; rfl, hb⟩
    have t1 : decide ((h.k.toNat : Int) < 1) = false := decide_eq_false fun e => hk1 ((u8_lt (n := 1) (by decide)).2 e)
    by_cases hk6 : 6 < h.k
    · have HX : Hid (codeV (.mk h ks) = []) := codeV_bad (.inr hk6)
      have t2 : decide ((h.k.toNat : Int) > 6) = true := decide_eq_true ((u8_gt (n := 6) (by decide)).1 hk6)
      have hb := HW.out
      clear hk1 hk6
      go_enter Try.func12, Try.ntmps12
      go_wp2_with fail
      rw [HE.out]
      go_wp2_with fail
      go_ret
      exact ⟨by rw [HX.out]; rfl, hb⟩
    have t2 : decide ((h.k.toNat : Int) > 6) = false := decide_eq_false fun e => hk6 ((u8_gt (n := 6) (by decide)).2 e)
    have hnb : ¬ (h.k < 1 ∨ 6 < h.k) := fun e => e.elim hk1 hk6
    clear hk1 hk6
    by_cases hk4 : h.k = 4
    · have t4 : ((h.k.toNat : Int) == 4) = true := u8_eq (n := 4) (by decide) hk4
      have t5 : ((h.k.toNat : Int) == 5) = false := u8_ne (n := 5) (by decide) (by rw [hk4]; decide)
      have t6 : ((h.k.toNat : Int) == 6) = false := u8_ne (n := 6) (by decide) (by rw [hk4]; decide)
      obtain ⟨f0, hf0⟩ : ∃ f0 : List UInt8, f0 = [48] := ⟨_, rfl⟩
      have HO : Hid (codeV (.mk h ks) = f0 ++ (codeVs false ks ++ ([] : List UInt8))) := by unfold Hid; rw [codeV_of (f0 := f0) (st := false) hnb (by rw [hf0]; simp [hk4]) (by simp [hk4])]; simp
      have HS0 : Hid (Value.string ⟨#[48]⟩ = .string (str f0)) := by unfold Hid; rw [hf0]
      have hfl : f0.length ≤ 1 := by rw [hf0]; decide
      clear hf0 hnb hk4
      go_enter Try.func12, Try.ntmps12
      go_wp2_with fail
      rw [HE.out]
      go_wp2_with fail
      go_loopw [3, 4, 22] (fun s _ i wr => ∃ (k : Nat), k ≤ ks.length ∧ i = .int .i64 k ∧ s = .string (str (f0 ++ codeVs false (ks.take k))) ∧ Below W.heap.size W wr) (fun _ _ i _ => ks.length - (intOf i).toNat)
      case atStart => exact ⟨0, Nat.zero_le _, rfl, by simp only [List.take_zero, codeVs, List.append_nil]; exact HS0.out, Below.refl _ _⟩
      case round =>
        clear x0 x1 x2 HS0
        obtain ⟨k, hk, rfl, rfl, hb⟩ := hrel
        obtain ⟨x0, x1, x2⟩ := va_at_box ((hb.block _ (lt_of_block E1.out)).trans E1.out)
        have hl2 := codes_size false (ks.take k)
        have hl4 := sizesV_take ks k
        by_cases hlt : k < ks.length
        · obtain ⟨t, ad, h1, ls, A1, c1, hA, hx, rfl, hc1, hr1, q0, q1, q2⟩ := va_at (HR.out.below hb) hlt
          subst hA
          have hmem := List.mem_of_getElem? hx
          have hs1 := HS.out _ hmem
          simp only [T.size] at hs1
          have HTK : Hid (codeVs false (ks.take (k + 1)) = codeVs false (ks.take k) ++ (([] : List UInt8) ++ codeV (T.mk h1 ls))) := by unfold Hid; rw [codeVs_take false hx]; simp
          have hl3 := code_size (T.mk h1 ls)
          simp only [T.size] at hl3
          have hcat := run_cat (P := Try.prog) (f0 ++ codeVs false (ks.take k)) (codeV (T.mk h1 ls)) (by simp only [List.length_append, List.length_cons, List.length_nil]; omega)
          clear hx hl2 hl3 hl4
          go_wp2_with fail
          refine (IH.out ok h1 ls A1 c1 _ hs1 (by omega) hc1 hr1).mono ?_
          rintro e w1 ⟨rfl, hb1⟩
          have hb2 := below_from hb hb1
          clear hb1 hr1 q0 q1 q2 x0 x1 x2
          generalize codeV (T.mk h1 ls) = fx at *
          generalize codeVs false (ks.take k) = fs at *
          go_wp2_with fail
          go_roundw
          case rel => exact ⟨k + 1, by omega, by go_num, by rw [HTK.out]; simp, hb2⟩
          case measure => simp [intOf]; omega
        · have hkk : k = ks.length := by omega
          subst hkk
          rw [List.take_length] at hl2 ⊢
          clear hlt hl2 hl4
          go_wp2_with fail
          go_ret
          exact ⟨by rw [HO.out]; simp, HW.out.trans (hb.mono HW.out.size)⟩
    by_cases hk5 : h.k = 5
    · have t4 : ((h.k.toNat : Int) == 4) = false := u8_ne (n := 4) (by decide) (by rw [hk5]; decide)
      have t5 : ((h.k.toNat : Int) == 5) = true := u8_eq (n := 5) (by decide) hk5
      have t6 : ((h.k.toNat : Int) == 6) = false := u8_ne (n := 6) (by decide) (by rw [hk5]; decide)
      obtain ⟨f0, hf0⟩ : ∃ f0 : List UInt8, f0 = [49] := ⟨_, rfl⟩
      have HO : Hid (codeV (.mk h ks) = f0 ++ (codeVs false ks ++ ([] : List UInt8))) := by unfold Hid; rw [codeV_of (f0 := f0) (st := false) hnb (by rw [hf0]; simp [hk5]) (by simp [hk5])]; simp
      have HS0 : Hid (Value.string ⟨#[49]⟩ = .string (str f0)) := by unfold Hid; rw [hf0]
      have hfl : f0.length ≤ 1 := by rw [hf0]; decide
      clear hf0 hnb hk5 hk4
      go_enter Try.func12, Try.ntmps12
      go_wp2_with fail
      rw [HE.out]
      go_wp2_with fail
      go_loopw [3, 4, 22] (fun s _ i wr => ∃ (k : Nat), k ≤ ks.length ∧ i = .int .i64 k ∧ s = .string (str (f0 ++ codeVs false (ks.take k))) ∧ Below W.heap.size W wr) (fun _ _ i _ => ks.length - (intOf i).toNat)
      case atStart => exact ⟨0, Nat.zero_le _, rfl, by simp only [List.take_zero, codeVs, List.append_nil]; exact HS0.out, Below.refl _ _⟩
      case round =>
        clear x0 x1 x2 HS0
        obtain ⟨k, hk, rfl, rfl, hb⟩ := hrel
        obtain ⟨x0, x1, x2⟩ := va_at_box ((hb.block _ (lt_of_block E1.out)).trans E1.out)
        have hl2 := codes_size false (ks.take k)
        have hl4 := sizesV_take ks k
        by_cases hlt : k < ks.length
        · obtain ⟨t, ad, h1, ls, A1, c1, hA, hx, rfl, hc1, hr1, q0, q1, q2⟩ := va_at (HR.out.below hb) hlt
          subst hA
          have hmem := List.mem_of_getElem? hx
          have hs1 := HS.out _ hmem
          simp only [T.size] at hs1
          have HTK : Hid (codeVs false (ks.take (k + 1)) = codeVs false (ks.take k) ++ (([] : List UInt8) ++ codeV (T.mk h1 ls))) := by unfold Hid; rw [codeVs_take false hx]; simp
          have hl3 := code_size (T.mk h1 ls)
          simp only [T.size] at hl3
          have hcat := run_cat (P := Try.prog) (f0 ++ codeVs false (ks.take k)) (codeV (T.mk h1 ls)) (by simp only [List.length_append, List.length_cons, List.length_nil]; omega)
          clear hx hl2 hl3 hl4
          go_wp2_with fail
          refine (IH.out ok h1 ls A1 c1 _ hs1 (by omega) hc1 hr1).mono ?_
          rintro e w1 ⟨rfl, hb1⟩
          have hb2 := below_from hb hb1
          clear hb1 hr1 q0 q1 q2 x0 x1 x2
          generalize codeV (T.mk h1 ls) = fx at *
          generalize codeVs false (ks.take k) = fs at *
          go_wp2_with fail
          go_roundw
          case rel => exact ⟨k + 1, by omega, by go_num, by rw [HTK.out]; simp, hb2⟩
          case measure => simp [intOf]; omega
        · have hkk : k = ks.length := by omega
          subst hkk
          rw [List.take_length] at hl2 ⊢
          clear hlt hl2 hl4
          go_wp2_with fail
          go_ret
          exact ⟨by rw [HO.out]; simp, HW.out.trans (hb.mono HW.out.size)⟩
    by_cases hk6 : h.k = 6
    · have t4 : ((h.k.toNat : Int) == 4) = false := u8_ne (n := 4) (by decide) (by rw [hk6]; decide)
      have t5 : ((h.k.toNat : Int) == 5) = false := u8_ne (n := 5) (by decide) (by rw [hk6]; decide)
      have t6 : ((h.k.toNat : Int) == 6) = true := u8_eq (n := 6) (by decide) hk6
      obtain ⟨f0, hf0⟩ : ∃ f0 : List UInt8, f0 = [] := ⟨_, rfl⟩
      have HO : Hid (codeV (.mk h ks) = f0 ++ (codeVs true ks ++ [49])) := by unfold Hid; rw [codeV_of (f0 := f0) (st := true) hnb (by rw [hf0]; simp [hk6]) (by simp [hk6])]; simp
      have HS0 : Hid (Value.string ⟨#[]⟩ = .string (str f0)) := by unfold Hid; rw [hf0]
      have hfl : f0.length ≤ 1 := by rw [hf0]; decide
      clear hf0 hnb hk6 hk4 hk5
      go_enter Try.func12, Try.ntmps12
      go_wp2_with fail
      rw [HE.out]
      go_wp2_with fail
      go_loopw [3, 4, 22] (fun s _ i wr => ∃ (k : Nat), k ≤ ks.length ∧ i = .int .i64 k ∧ s = .string (str (f0 ++ codeVs true (ks.take k))) ∧ Below W.heap.size W wr) (fun _ _ i _ => ks.length - (intOf i).toNat)
      case atStart => exact ⟨0, Nat.zero_le _, rfl, by simp only [List.take_zero, codeVs, List.append_nil]; exact HS0.out, Below.refl _ _⟩
      case round =>
        clear x0 x1 x2 HS0
        obtain ⟨k, hk, rfl, rfl, hb⟩ := hrel
        obtain ⟨x0, x1, x2⟩ := va_at_box ((hb.block _ (lt_of_block E1.out)).trans E1.out)
        have hl2 := codes_size true (ks.take k)
        have hl4 := sizesV_take ks k
        by_cases hlt : k < ks.length
        · obtain ⟨t, ad, h1, ls, A1, c1, hA, hx, rfl, hc1, hr1, q0, q1, q2⟩ := va_at (HR.out.below hb) hlt
          subst hA
          have hmem := List.mem_of_getElem? hx
          have hs1 := HS.out _ hmem
          simp only [T.size] at hs1
          have HTK : Hid (codeVs true (ks.take (k + 1)) = codeVs true (ks.take k) ++ ([48] ++ codeV (T.mk h1 ls))) := by unfold Hid; rw [codeVs_take true hx]; simp
          have hl3 := code_size (T.mk h1 ls)
          simp only [T.size] at hl3
          have hcat0 := run_cat (P := Try.prog) (f0 ++ codeVs true (ks.take k)) [48] (by simp only [List.length_append, List.length_cons, List.length_nil]; omega)
          have hcat := run_cat (P := Try.prog) ((f0 ++ codeVs true (ks.take k)) ++ [48]) (codeV (T.mk h1 ls)) (by simp only [List.length_append, List.length_cons, List.length_nil]; omega)
          obtain ⟨gg, hgg⟩ : ∃ gg, (f0 ++ codeVs true (ks.take k)) ++ [48] = gg := ⟨_, rfl⟩
          rw [hgg] at hcat hcat0
          have HGG := Lib.hid hgg
          clear hgg
          clear hx hl2 hl3 hl4
          go_wp2_with fail
          refine (IH.out ok h1 ls A1 c1 _ hs1 (by omega) hc1 hr1).mono ?_
          rintro e w1 ⟨rfl, hb1⟩
          have hb2 := below_from hb hb1
          clear hb1 hr1 q0 q1 q2 x0 x1 x2
          generalize codeV (T.mk h1 ls) = fx at *
          generalize codeVs true (ks.take k) = fs at *
          go_wp2_with fail
          go_roundw
          case rel => exact ⟨k + 1, by omega, by go_num, by rw [HTK.out, ← HGG.out]; simp, hb2⟩
          case measure => simp [intOf]; omega
        · have hkk : k = ks.length := by omega
          subst hkk
          rw [List.take_length] at hl2 ⊢
          have hcat := run_cat (P := Try.prog) (f0 ++ codeVs true ks) [49] (by simp only [List.length_append, List.length_cons, List.length_nil]; omega)
          clear hlt hl2 hl4
          go_wp2_with fail
          go_ret
          exact ⟨by rw [HO.out]; simp, HW.out.trans (hb.mono HW.out.size)⟩
    have t4 : ((h.k.toNat : Int) == 4) = false := u8_ne (n := 4) (by decide) hk4
    have t5 : ((h.k.toNat : Int) == 5) = false := u8_ne (n := 5) (by decide) hk5
    have t6 : ((h.k.toNat : Int) == 6) = false := u8_ne (n := 6) (by decide) hk6
    obtain ⟨f0, hf0⟩ : ∃ f0 : List UInt8, f0 = [] := ⟨_, rfl⟩
    have HO : Hid (codeV (.mk h ks) = f0 ++ (codeVs false ks ++ ([] : List UInt8))) := by unfold Hid; rw [codeV_of (f0 := f0) (st := false) hnb (by rw [hf0]; simp [hk4, hk5, hk6]) (by simp [hk4, hk5, hk6])]; simp
    have HS0 : Hid (Value.string ⟨#[]⟩ = .string (str f0)) := by unfold Hid; rw [hf0]
    have hfl : f0.length ≤ 1 := by rw [hf0]; decide
    clear hf0 hnb hk4 hk5 hk6
    go_enter Try.func12, Try.ntmps12
    go_wp2_with fail
    rw [HE.out]
    go_wp2_with fail
    go_loopw [3, 4, 22] (fun s _ i wr => ∃ (k : Nat), k ≤ ks.length ∧ i = .int .i64 k ∧ s = .string (str (f0 ++ codeVs false (ks.take k))) ∧ Below W.heap.size W wr) (fun _ _ i _ => ks.length - (intOf i).toNat)
    case atStart => exact ⟨0, Nat.zero_le _, rfl, by simp only [List.take_zero, codeVs, List.append_nil]; exact HS0.out, Below.refl _ _⟩
    case round =>
      clear x0 x1 x2 HS0
      obtain ⟨k, hk, rfl, rfl, hb⟩ := hrel
      obtain ⟨x0, x1, x2⟩ := va_at_box ((hb.block _ (lt_of_block E1.out)).trans E1.out)
      have hl2 := codes_size false (ks.take k)
      have hl4 := sizesV_take ks k
      by_cases hlt : k < ks.length
      · obtain ⟨t, ad, h1, ls, A1, c1, hA, hx, rfl, hc1, hr1, q0, q1, q2⟩ := va_at (HR.out.below hb) hlt
        subst hA
        have hmem := List.mem_of_getElem? hx
        have hs1 := HS.out _ hmem
        simp only [T.size] at hs1
        have HTK : Hid (codeVs false (ks.take (k + 1)) = codeVs false (ks.take k) ++ (([] : List UInt8) ++ codeV (T.mk h1 ls))) := by unfold Hid; rw [codeVs_take false hx]; simp
        have hl3 := code_size (T.mk h1 ls)
        simp only [T.size] at hl3
        have hcat := run_cat (P := Try.prog) (f0 ++ codeVs false (ks.take k)) (codeV (T.mk h1 ls)) (by simp only [List.length_append, List.length_cons, List.length_nil]; omega)
        clear hx hl2 hl3 hl4
        go_wp2_with fail
        refine (IH.out ok h1 ls A1 c1 _ hs1 (by omega) hc1 hr1).mono ?_
        rintro e w1 ⟨rfl, hb1⟩
        have hb2 := below_from hb hb1
        clear hb1 hr1 q0 q1 q2 x0 x1 x2
        generalize codeV (T.mk h1 ls) = fx at *
        generalize codeVs false (ks.take k) = fs at *
        go_wp2_with fail
        go_roundw
        case rel => exact ⟨k + 1, by omega, by go_num, by rw [HTK.out]; simp, hb2⟩
        case measure => simp [intOf]; omega
      · have hkk : k = ks.length := by omega
        subst hkk
        rw [List.take_length] at hl2 ⊢
        clear hlt hl2 hl4
        go_wp2_with fail
        go_ret
        exact ⟨by rw [HO.out]; simp, HW.out.trans (hb.mono HW.out.size)⟩
end Go.Proofs.Yteokbmngebckjaa
