/- bits: a value's bits. bits.Code. bits.Right. -/
import Derived.Test.YteokbmngebckjaaDoorCb
import Derived.Test.YteokbmngebckjaaDoorBb
import Derived.Test.YteokbmngebckjaaDoorCe
namespace Go.Proofs.YteokbmngebckjaaDoor
open Go.RowKit
set_option linter.unusedVariables false
set_option linter.unusedSimpArgs false

theorem isBld_tape : IsBld 66 := ⟨by kernel_rfl, by decide⟩
theorem bdk_cell {b : Nat} {w w' : World} (h : BdK b w w') {a : Addr} {v : Value} (hc : w.cell? a = some v) (hn : a.block < b) : w'.cell? a = some v := (World.cell?_of_block (h.1.block _ hn)).trans hc
theorem bdk_row {ok : Nat → Prop} {b : Nat} {w w' : World} {ks : List Va} {A : Option Addr} (h : BdK b w w') (hok : ∀ x, ok x → x < b) (hr : InRow VE ok w ks A 0) : InRow VE ok w' ks A 0 := hr.keep (fun _ h => h) fun a v ho hv => bdk_cell h hv (hok _ ho)
set_option maxRecDepth 100000 in
set_option maxHeartbeats 8000000 in
theorem put_upto (n : Nat) : ∀ (ok : Nat → Prop) (h : VH) (ks : List Va) (A : Option Addr) (c b : Nat) (bs : List UInt8) (w : World), 1 + T.sizes ks ≤ n → n ≤ 1000000000 → ks.length ≤ c → InRow VE ok w ks A 0 → (∀ x, ok x → x < b) → Bd 66 b bs w → (bs ++ codeV (.mk h ks)).length ≤ 10000000000 →
    Calls Tryd.prog 27 #[.pointer (some ⟨b, 0, none⟩), vaV h A ks.length c] w fun e w' => e = .returned (.tuple #[]) ∧ Bd 66 b (bs ++ codeV (.mk h ks)) w' ∧ BdK b w w' := by
  induction n with
  | zero => intro ok h ks A c b bs w h0; omega
  | succ n ih =>
    intro ok h ks A c b bs w hn hm hc hr hok hbd hbl
    have hl := T.length_le_sizes ks
    have IH := Lib.hid ih
    clear ih
    have HS : Hid (∀ t ∈ ks, t.size ≤ n) := fun t ht => by have := T.sizes_mem ht; omega
    have hlm : ks.length ≤ 1000000000 := by omega
    have hlt := hbd.lt
    obtain ⟨W, hW⟩ : ∃ W, w.alloc (.cells (vaA h A ks.length c) 32) = W := ⟨_, rfl⟩
    have HBK0 : Hid (BdK b w W) := by unfold Hid; rw [← hW]; exact (BdK.refl b w).alloc (by omega) _
    have HBD0 : Hid (Bd 66 b bs W) := by unfold Hid; rw [← hW]; exact hbd.alloc _
    have E1 : Hid (W.heap[w.heap.size]? = some (.cells (vaA h A ks.length c) 32 (0, 0))) := by unfold Hid; rw [← hW]; exact new_at1 _
    have HE := Lib.hid hW
    have HR := Lib.hid hr
    have HBL := Lib.hid hbl
    have HOK := Lib.hid hok
    have HNB : Hid (w.heap.size ≠ b) := by unfold Hid; omega
    have W48 : Hid (∀ X bs', Bd 66 b bs' X → bs'.length ≤ 100000000000 → Calls Tryd.prog 41 #[.pointer (some ⟨b, 0, none⟩), .int .u8 48] X fun e w' => e = .returned .nilIface ∧ Bd 66 b (bs' ++ [48]) w' ∧ BdK b X w') := fun X bs' h1 h2 => writeByte_any isBld_tape 48 h1 h2
    have W49 : Hid (∀ X bs', Bd 66 b bs' X → bs'.length ≤ 100000000000 → Calls Tryd.prog 41 #[.pointer (some ⟨b, 0, none⟩), .int .u8 49] X fun e w' => e = .returned .nilIface ∧ Bd 66 b (bs' ++ [49]) w' ∧ BdK b X w') := fun X bs' h1 h2 => writeByte_any isBld_tape 49 h1 h2
    clear hW hr hok hbd hbl
    obtain ⟨x0, x1, x2⟩ := va_at_box E1.out
    by_cases hk6 : h.k = 6
    · have t1 : ((h.k.toNat : Int) == 1) = false := u8_ne (n := 1) (by decide) (by rw [hk6]; decide)
      have t2 : ((h.k.toNat : Int) == 2) = false := u8_ne (n := 2) (by decide) (by rw [hk6]; decide)
      have t3 : ((h.k.toNat : Int) == 3) = false := u8_ne (n := 3) (by decide) (by rw [hk6]; decide)
      have t6 : ((h.k.toNat : Int) == 6) = true := u8_eq (n := 6) (by decide) hk6
      have t4 : ((h.k.toNat : Int) == 4) = false := u8_ne (n := 4) (by decide) (by rw [hk6]; decide)
      have t5 : ((h.k.toNat : Int) == 5) = false := u8_ne (n := 5) (by decide) (by rw [hk6]; decide)
      obtain ⟨f0, hf0⟩ : ∃ f0 : List UInt8, f0 = [] := ⟨_, rfl⟩
      have hnb : ¬ (h.k < 1 ∨ 6 < h.k) := by rw [hk6]; decide
      have HO : Hid (codeV (.mk h ks) = f0 ++ (codeVs true ks ++ [49])) := by unfold Hid; rw [codeV_of (f0 := f0) (st := true) hnb (by rw [hf0]; simp [hk6]) (by simp [hk6])]; simp
      have HBDs : Hid (Bd 66 b (bs ++ f0) W) := by unfold Hid; rw [hf0, List.append_nil]; exact HBD0.out
      have HBKs : Hid (BdK b W W) := BdK.refl _ _
      have hfl : f0.length ≤ 1 := by rw [hf0]; decide
      clear hf0 hnb hk6
      go_enter Tryd.func27, Tryd.ntmps27
      go_wp2_with fail
      rw [HE.out]
      clear x0 x1 x2
      have E1w := Lib.hid (HBKs.out.block E1.out HNB.out (by decide))
      obtain ⟨x0, x1, x2⟩ := va_at_box E1w.out
      go_wp2_with fail
      clear x0 x1 x2
      go_loopw [5, 28] (fun _ i wr => ∃ (k : Nat), k ≤ ks.length ∧ i = .int .i64 k ∧ Hid (Bd 66 b (bs ++ (f0 ++ codeVs true (ks.take k))) wr) ∧ Hid (BdK b W wr)) (fun _ i _ => ks.length - (intOf i).toNat)
      case atStart => exact ⟨0, Nat.zero_le _, rfl, by simp only [List.take_zero, codeVs, List.append_nil]; exact HBDs, HBKs⟩
      case round =>
        obtain ⟨k, hk, rfl, HBD, HBK⟩ := hrel
        obtain ⟨x0, x1, x2⟩ := va_at_box (HBK.out.block E1.out HNB.out (by decide))
        have hl2 := codes_size true (ks.take k)
        have hl4 := sizesV_take ks k
        by_cases hlt : k < ks.length
        · obtain ⟨t, ad, h1, ls, A1, c1, hA, hx, rfl, hc1, hr1, q0, q1, q2⟩ := va_at (bdk_row (HBK0.out.trans HBK.out) HOK.out HR.out) hlt
          subst hA
          have hmem := List.mem_of_getElem? hx
          have hs1 := HS.out _ hmem
          simp only [T.size] at hs1
          have HTK : Hid (codeVs true (ks.take (k + 1)) = codeVs true (ks.take k) ++ ([48] ++ codeV (T.mk h1 ls))) := by unfold Hid; rw [codeVs_take true hx]; simp
          have hsz := T.sizes_mem hmem
          simp only [T.size] at hsz
          have hTKl := congrArg List.length HTK.out
          have hOl := congrArg List.length HO.out
          have hTA := congrArg List.length (codeVs_append true (ks.take (k + 1)) (ks.drop (k + 1)))
          rw [List.take_append_drop] at hTA
          simp only [List.length_append, List.length_cons, List.length_nil] at hTKl hOl hTA
          have hbl2 := HBL.out
          rw [List.length_append] at hbl2
          have HLB : Hid (bs.length + (f0.length + (codeVs true (ks.take k)).length) + 1 + (codeV (T.mk h1 ls)).length ≤ 10000000000) := by unfold Hid; omega
          clear hTKl hOl hTA hbl2
          obtain ⟨X1, hX1⟩ : ∃ X1, wr.alloc (.cells (vaA h1 A1 ls.length c1) 32) = X1 := ⟨_, rfl⟩
          have hblt := HBD.out.lt
          have hkX : BdK b wr X1 := by rw [← hX1]; exact (BdK.refl b wr).alloc (by omega) _
          have hbd1 : Bd 66 b (bs ++ (f0 ++ codeVs true (ks.take k))) X1 := by rw [← hX1]; exact HBD.out.alloc _
          have HE5 : Hid (X1.heap[wr.heap.size]? = some (.cells (vaA h1 A1 ls.length c1) 32 (0, 0))) := by unfold Hid; rw [← hX1]; exact new_at1 _
          have HX1 := Lib.hid hX1
          have HN5 : Hid (wr.heap.size ≠ b) := by unfold Hid; omega
          have HKX := Lib.hid hkX
          have HBD1 := Lib.hid hbd1
          have HR1 := Lib.hid (bdk_row hkX HOK.out hr1)
          have HHS1 := Lib.hid hs1
          have HSZ := Lib.hid hsz
          have HL2 := Lib.hid hl2
          have HL4 := Lib.hid hl4
          clear hx hX1 hkX hbd1 hr1 hmem hl2 hl4 hsz hblt
          go_upto_region 13 with fail
          rw [show wr.alloc _ = X1 from HX1.out]
          clear x0 x1 x2 q0 q1 q2
          obtain ⟨x0, x1, x2⟩ := va_at_box ((HBK.out.trans HKX.out).block E1.out HNB.out (by decide))
          obtain ⟨z0, z1, z2⟩ := va_at_box HE5.out
          have HC := Lib.hid (W48.out X1 _ HBD1.out (by have := HLB.out; simp only [List.length_append]; omega))
          go_wp2_with fail
          refine HC.out.mono ?_
          rintro e w2 ⟨rfl, hbd2, hk2⟩
          have HKX2 := Lib.hid (HKX.out.trans hk2)
          have HR2 := Lib.hid (bdk_row hk2 HOK.out HR1.out)
          have HE52 := Lib.hid (hk2.block HE5.out HN5.out (by decide))
          have hlb2 : (((bs ++ (f0 ++ codeVs true (ks.take k))) ++ [48]) ++ codeV (T.mk h1 ls)).length ≤ 10000000000 := by have := HLB.out; simp only [List.length_append, List.length_cons, List.length_nil]; omega
          have HC2 := Lib.hid (IH.out ok h1 ls A1 c1 b _ w2 HHS1.out (by omega) hc1 HR2.out HOK.out hbd2 hlb2)
          clear x0 x1 x2 z0 z1 z2 hbd2 hk2 hlb2 HC
          obtain ⟨z0, z1, z2⟩ := va_at_box HE52.out
          go_wp2_with fail
          refine HC2.out.mono ?_
          rintro e w3 ⟨rfl, hbd3, hk3⟩
          have HBK3 := Lib.hid (HBK.out.trans (HKX2.out.trans hk3))
          have HBD3 : Hid (Bd 66 b (bs ++ (f0 ++ codeVs true (ks.take (k + 1)))) w3) := by unfold Hid; rw [HTK.out]; simpa only [List.append_assoc, List.nil_append, List.append_nil] using hbd3
          clear z0 z1 z2 hbd3 hk3 HC2
          go_wp2_with fail
          go_roundw
          case rel => exact ⟨k + 1, by omega, by go_num, HBD3, HBK3⟩
          case measure => simp [intOf]; omega
        · have hkk : k = ks.length := by omega
          subst hkk
          have HBDe : Hid (Bd 66 b (bs ++ (f0 ++ codeVs true ks)) wr) := by have := HBD; rwa [List.take_length] at this
          have HLe := Lib.hid (codes_size true ks)
          clear hlt hl2 hl4
          have HC := Lib.hid (W49.out wr _ HBDe.out (by have h1 := HBL.out; rw [HO.out] at h1; simp only [List.length_append] at h1 ⊢; omega))
          go_wp2_with fail
          refine HC.out.mono ?_
          rintro e w2 ⟨rfl, hbd2, hk2⟩
          have HBDf := Lib.hid hbd2
          have HKf := Lib.hid (HBK0.out.trans (HBK.out.trans hk2))
          clear x0 x1 x2 hbd2 hk2 HC
          go_wp2_with fail
          go_end0
          exact ⟨rfl, by rw [HO.out]; simpa only [List.append_assoc, List.nil_append, List.append_nil] using HBDf.out, HKf.out⟩
    by_cases hk1 : h.k = 1
    · have t1 : ((h.k.toNat : Int) == 1) = true := u8_eq (n := 1) (by decide) hk1
      have t2 : ((h.k.toNat : Int) == 2) = false := u8_ne (n := 2) (by decide) (by rw [hk1]; decide)
      have t3 : ((h.k.toNat : Int) == 3) = false := u8_ne (n := 3) (by decide) (by rw [hk1]; decide)
      have t6 : ((h.k.toNat : Int) == 6) = false := u8_ne (n := 6) (by decide) (by rw [hk1]; decide)
      have t4 : ((h.k.toNat : Int) == 4) = false := u8_ne (n := 4) (by decide) (by rw [hk1]; decide)
      have t5 : ((h.k.toNat : Int) == 5) = false := u8_ne (n := 5) (by decide) (by rw [hk1]; decide)
      obtain ⟨f0, hf0⟩ : ∃ f0 : List UInt8, f0 = [] := ⟨_, rfl⟩
      have hnb : ¬ (h.k < 1 ∨ 6 < h.k) := by rw [hk1]; decide
      have HO : Hid (codeV (.mk h ks) = f0 ++ (codeVs false ks ++ ([] : List UInt8))) := by unfold Hid; rw [codeV_of (f0 := f0) (st := false) hnb (by rw [hf0]; simp [hk1]) (by simp [hk1])]; simp
      have hfl : f0.length ≤ 1 := by rw [hf0]; decide
      have HBDs : Hid (Bd 66 b (bs ++ f0) W) := by unfold Hid; rw [hf0, List.append_nil]; exact HBD0.out
      have HBKs : Hid (BdK b W W) := BdK.refl _ _
      clear hf0 hnb hk1 hk6
      go_enter Tryd.func27, Tryd.ntmps27
      go_wp2_with fail
      rw [HE.out]
      clear x0 x1 x2
      have E1w := Lib.hid (HBKs.out.block E1.out HNB.out (by decide))
      obtain ⟨x0, x1, x2⟩ := va_at_box E1w.out
      go_wp2_with fail
      clear x0 x1 x2
      go_loopw [5, 28] (fun _ i wr => ∃ (k : Nat), k ≤ ks.length ∧ i = .int .i64 k ∧ Hid (Bd 66 b (bs ++ (f0 ++ codeVs false (ks.take k))) wr) ∧ Hid (BdK b W wr)) (fun _ i _ => ks.length - (intOf i).toNat)
      case atStart => exact ⟨0, Nat.zero_le _, rfl, by simp only [List.take_zero, codeVs, List.append_nil]; exact HBDs, HBKs⟩
      case round =>
        obtain ⟨k, hk, rfl, HBD, HBK⟩ := hrel
        obtain ⟨x0, x1, x2⟩ := va_at_box (HBK.out.block E1.out HNB.out (by decide))
        have hl2 := codes_size false (ks.take k)
        have hl4 := sizesV_take ks k
        by_cases hlt : k < ks.length
        · obtain ⟨t, ad, h1, ls, A1, c1, hA, hx, rfl, hc1, hr1, q0, q1, q2⟩ := va_at (bdk_row (HBK0.out.trans HBK.out) HOK.out HR.out) hlt
          subst hA
          have hmem := List.mem_of_getElem? hx
          have hs1 := HS.out _ hmem
          simp only [T.size] at hs1
          have HTK : Hid (codeVs false (ks.take (k + 1)) = codeVs false (ks.take k) ++ (([] : List UInt8) ++ codeV (T.mk h1 ls))) := by unfold Hid; rw [codeVs_take false hx]; simp
          have hsz := T.sizes_mem hmem
          simp only [T.size] at hsz
          have hTKl := congrArg List.length HTK.out
          have hOl := congrArg List.length HO.out
          have hTA := congrArg List.length (codeVs_append false (ks.take (k + 1)) (ks.drop (k + 1)))
          rw [List.take_append_drop] at hTA
          simp only [List.length_append, List.length_cons, List.length_nil] at hTKl hOl hTA
          have hbl2 := HBL.out
          rw [List.length_append] at hbl2
          have HLB : Hid (bs.length + (f0.length + (codeVs false (ks.take k)).length) + 0 + (codeV (T.mk h1 ls)).length ≤ 10000000000) := by unfold Hid; omega
          clear hTKl hOl hTA hbl2
          obtain ⟨X1, hX1⟩ : ∃ X1, wr.alloc (.cells (vaA h1 A1 ls.length c1) 32) = X1 := ⟨_, rfl⟩
          have hblt := HBD.out.lt
          have hkX : BdK b wr X1 := by rw [← hX1]; exact (BdK.refl b wr).alloc (by omega) _
          have hbd1 : Bd 66 b (bs ++ (f0 ++ codeVs false (ks.take k))) X1 := by rw [← hX1]; exact HBD.out.alloc _
          have HE5 : Hid (X1.heap[wr.heap.size]? = some (.cells (vaA h1 A1 ls.length c1) 32 (0, 0))) := by unfold Hid; rw [← hX1]; exact new_at1 _
          have HX1 := Lib.hid hX1
          have HN5 : Hid (wr.heap.size ≠ b) := by unfold Hid; omega
          have HKX := Lib.hid hkX
          have HBD1 := Lib.hid hbd1
          have HR1 := Lib.hid (bdk_row hkX HOK.out hr1)
          have HHS1 := Lib.hid hs1
          have HSZ := Lib.hid hsz
          have HL2 := Lib.hid hl2
          have HL4 := Lib.hid hl4
          clear hx hX1 hkX hbd1 hr1 hmem hl2 hl4 hsz hblt
          go_upto_region 13 with fail
          rw [show wr.alloc _ = X1 from HX1.out]
          clear x0 x1 x2 q0 q1 q2
          obtain ⟨x0, x1, x2⟩ := va_at_box ((HBK.out.trans HKX.out).block E1.out HNB.out (by decide))
          obtain ⟨z0, z1, z2⟩ := va_at_box HE5.out
          have hlb2 : ((bs ++ (f0 ++ codeVs false (ks.take k))) ++ codeV (T.mk h1 ls)).length ≤ 10000000000 := by have := HLB.out; simp only [List.length_append, List.length_cons, List.length_nil]; omega
          have HKX2 := HKX
          have HC2 := Lib.hid (IH.out ok h1 ls A1 c1 b _ X1 HHS1.out (by omega) hc1 HR1.out HOK.out HBD1.out hlb2)
          clear hlb2
          go_wp2_with fail
          refine HC2.out.mono ?_
          rintro e w3 ⟨rfl, hbd3, hk3⟩
          have HBK3 := Lib.hid (HBK.out.trans (HKX2.out.trans hk3))
          have HBD3 : Hid (Bd 66 b (bs ++ (f0 ++ codeVs false (ks.take (k + 1)))) w3) := by unfold Hid; rw [HTK.out]; simpa only [List.append_assoc, List.nil_append, List.append_nil] using hbd3
          clear x0 x1 x2 z0 z1 z2 hbd3 hk3 HC2
          go_wp2_with fail
          go_roundw
          case rel => exact ⟨k + 1, by omega, by go_num, HBD3, HBK3⟩
          case measure => simp [intOf]; omega
        · have hkk : k = ks.length := by omega
          subst hkk
          have HBDe : Hid (Bd 66 b (bs ++ (f0 ++ codeVs false ks)) wr) := by have := HBD; rwa [List.take_length] at this
          have HLe := Lib.hid (codes_size false ks)
          clear hlt hl2 hl4
          have HBDf := HBDe
          have HKf := Lib.hid (HBK0.out.trans HBK.out)
          go_wp2_with fail
          go_end0
          exact ⟨rfl, by rw [HO.out]; simpa only [List.append_assoc, List.nil_append, List.append_nil] using HBDf.out, HKf.out⟩
    by_cases hk2 : h.k = 2
    · have t1 : ((h.k.toNat : Int) == 1) = false := u8_ne (n := 1) (by decide) (by rw [hk2]; decide)
      have t2 : ((h.k.toNat : Int) == 2) = true := u8_eq (n := 2) (by decide) hk2
      have t3 : ((h.k.toNat : Int) == 3) = false := u8_ne (n := 3) (by decide) (by rw [hk2]; decide)
      have t6 : ((h.k.toNat : Int) == 6) = false := u8_ne (n := 6) (by decide) (by rw [hk2]; decide)
      have t4 : ((h.k.toNat : Int) == 4) = false := u8_ne (n := 4) (by decide) (by rw [hk2]; decide)
      have t5 : ((h.k.toNat : Int) == 5) = false := u8_ne (n := 5) (by decide) (by rw [hk2]; decide)
      obtain ⟨f0, hf0⟩ : ∃ f0 : List UInt8, f0 = [] := ⟨_, rfl⟩
      have hnb : ¬ (h.k < 1 ∨ 6 < h.k) := by rw [hk2]; decide
      have HO : Hid (codeV (.mk h ks) = f0 ++ (codeVs false ks ++ ([] : List UInt8))) := by unfold Hid; rw [codeV_of (f0 := f0) (st := false) hnb (by rw [hf0]; simp [hk2]) (by simp [hk2])]; simp
      have hfl : f0.length ≤ 1 := by rw [hf0]; decide
      have HBDs : Hid (Bd 66 b (bs ++ f0) W) := by unfold Hid; rw [hf0, List.append_nil]; exact HBD0.out
      have HBKs : Hid (BdK b W W) := BdK.refl _ _
      clear hf0 hnb hk2 hk6 hk1
      go_enter Tryd.func27, Tryd.ntmps27
      go_wp2_with fail
      rw [HE.out]
      clear x0 x1 x2
      have E1w := Lib.hid (HBKs.out.block E1.out HNB.out (by decide))
      obtain ⟨x0, x1, x2⟩ := va_at_box E1w.out
      go_wp2_with fail
      clear x0 x1 x2
      go_loopw [5, 28] (fun _ i wr => ∃ (k : Nat), k ≤ ks.length ∧ i = .int .i64 k ∧ Hid (Bd 66 b (bs ++ (f0 ++ codeVs false (ks.take k))) wr) ∧ Hid (BdK b W wr)) (fun _ i _ => ks.length - (intOf i).toNat)
      case atStart => exact ⟨0, Nat.zero_le _, rfl, by simp only [List.take_zero, codeVs, List.append_nil]; exact HBDs, HBKs⟩
      case round =>
        obtain ⟨k, hk, rfl, HBD, HBK⟩ := hrel
        obtain ⟨x0, x1, x2⟩ := va_at_box (HBK.out.block E1.out HNB.out (by decide))
        have hl2 := codes_size false (ks.take k)
        have hl4 := sizesV_take ks k
        by_cases hlt : k < ks.length
        · obtain ⟨t, ad, h1, ls, A1, c1, hA, hx, rfl, hc1, hr1, q0, q1, q2⟩ := va_at (bdk_row (HBK0.out.trans HBK.out) HOK.out HR.out) hlt
          subst hA
          have hmem := List.mem_of_getElem? hx
          have hs1 := HS.out _ hmem
          simp only [T.size] at hs1
          have HTK : Hid (codeVs false (ks.take (k + 1)) = codeVs false (ks.take k) ++ (([] : List UInt8) ++ codeV (T.mk h1 ls))) := by unfold Hid; rw [codeVs_take false hx]; simp
          have hsz := T.sizes_mem hmem
          simp only [T.size] at hsz
          have hTKl := congrArg List.length HTK.out
          have hOl := congrArg List.length HO.out
          have hTA := congrArg List.length (codeVs_append false (ks.take (k + 1)) (ks.drop (k + 1)))
          rw [List.take_append_drop] at hTA
          simp only [List.length_append, List.length_cons, List.length_nil] at hTKl hOl hTA
          have hbl2 := HBL.out
          rw [List.length_append] at hbl2
          have HLB : Hid (bs.length + (f0.length + (codeVs false (ks.take k)).length) + 0 + (codeV (T.mk h1 ls)).length ≤ 10000000000) := by unfold Hid; omega
          clear hTKl hOl hTA hbl2
          obtain ⟨X1, hX1⟩ : ∃ X1, wr.alloc (.cells (vaA h1 A1 ls.length c1) 32) = X1 := ⟨_, rfl⟩
          have hblt := HBD.out.lt
          have hkX : BdK b wr X1 := by rw [← hX1]; exact (BdK.refl b wr).alloc (by omega) _
          have hbd1 : Bd 66 b (bs ++ (f0 ++ codeVs false (ks.take k))) X1 := by rw [← hX1]; exact HBD.out.alloc _
          have HE5 : Hid (X1.heap[wr.heap.size]? = some (.cells (vaA h1 A1 ls.length c1) 32 (0, 0))) := by unfold Hid; rw [← hX1]; exact new_at1 _
          have HX1 := Lib.hid hX1
          have HN5 : Hid (wr.heap.size ≠ b) := by unfold Hid; omega
          have HKX := Lib.hid hkX
          have HBD1 := Lib.hid hbd1
          have HR1 := Lib.hid (bdk_row hkX HOK.out hr1)
          have HHS1 := Lib.hid hs1
          have HSZ := Lib.hid hsz
          have HL2 := Lib.hid hl2
          have HL4 := Lib.hid hl4
          clear hx hX1 hkX hbd1 hr1 hmem hl2 hl4 hsz hblt
          go_upto_region 13 with fail
          rw [show wr.alloc _ = X1 from HX1.out]
          clear x0 x1 x2 q0 q1 q2
          obtain ⟨x0, x1, x2⟩ := va_at_box ((HBK.out.trans HKX.out).block E1.out HNB.out (by decide))
          obtain ⟨z0, z1, z2⟩ := va_at_box HE5.out
          have hlb2 : ((bs ++ (f0 ++ codeVs false (ks.take k))) ++ codeV (T.mk h1 ls)).length ≤ 10000000000 := by have := HLB.out; simp only [List.length_append, List.length_cons, List.length_nil]; omega
          have HKX2 := HKX
          have HC2 := Lib.hid (IH.out ok h1 ls A1 c1 b _ X1 HHS1.out (by omega) hc1 HR1.out HOK.out HBD1.out hlb2)
          clear hlb2
          go_wp2_with fail
          refine HC2.out.mono ?_
          rintro e w3 ⟨rfl, hbd3, hk3⟩
          have HBK3 := Lib.hid (HBK.out.trans (HKX2.out.trans hk3))
          have HBD3 : Hid (Bd 66 b (bs ++ (f0 ++ codeVs false (ks.take (k + 1)))) w3) := by unfold Hid; rw [HTK.out]; simpa only [List.append_assoc, List.nil_append, List.append_nil] using hbd3
          clear x0 x1 x2 z0 z1 z2 hbd3 hk3 HC2
          go_wp2_with fail
          go_roundw
          case rel => exact ⟨k + 1, by omega, by go_num, HBD3, HBK3⟩
          case measure => simp [intOf]; omega
        · have hkk : k = ks.length := by omega
          subst hkk
          have HBDe : Hid (Bd 66 b (bs ++ (f0 ++ codeVs false ks)) wr) := by have := HBD; rwa [List.take_length] at this
          have HLe := Lib.hid (codes_size false ks)
          clear hlt hl2 hl4
          have HBDf := HBDe
          have HKf := Lib.hid (HBK0.out.trans HBK.out)
          go_wp2_with fail
          go_end0
          exact ⟨rfl, by rw [HO.out]; simpa only [List.append_assoc, List.nil_append, List.append_nil] using HBDf.out, HKf.out⟩
    by_cases hk3 : h.k = 3
    · have t1 : ((h.k.toNat : Int) == 1) = false := u8_ne (n := 1) (by decide) (by rw [hk3]; decide)
      have t2 : ((h.k.toNat : Int) == 2) = false := u8_ne (n := 2) (by decide) (by rw [hk3]; decide)
      have t3 : ((h.k.toNat : Int) == 3) = true := u8_eq (n := 3) (by decide) hk3
      have t6 : ((h.k.toNat : Int) == 6) = false := u8_ne (n := 6) (by decide) (by rw [hk3]; decide)
      have t4 : ((h.k.toNat : Int) == 4) = false := u8_ne (n := 4) (by decide) (by rw [hk3]; decide)
      have t5 : ((h.k.toNat : Int) == 5) = false := u8_ne (n := 5) (by decide) (by rw [hk3]; decide)
      obtain ⟨f0, hf0⟩ : ∃ f0 : List UInt8, f0 = [] := ⟨_, rfl⟩
      have hnb : ¬ (h.k < 1 ∨ 6 < h.k) := by rw [hk3]; decide
      have HO : Hid (codeV (.mk h ks) = f0 ++ (codeVs false ks ++ ([] : List UInt8))) := by unfold Hid; rw [codeV_of (f0 := f0) (st := false) hnb (by rw [hf0]; simp [hk3]) (by simp [hk3])]; simp
      have hfl : f0.length ≤ 1 := by rw [hf0]; decide
      have HBDs : Hid (Bd 66 b (bs ++ f0) W) := by unfold Hid; rw [hf0, List.append_nil]; exact HBD0.out
      have HBKs : Hid (BdK b W W) := BdK.refl _ _
      clear hf0 hnb hk3 hk6 hk1 hk2
      go_enter Tryd.func27, Tryd.ntmps27
      go_wp2_with fail
      rw [HE.out]
      clear x0 x1 x2
      have E1w := Lib.hid (HBKs.out.block E1.out HNB.out (by decide))
      obtain ⟨x0, x1, x2⟩ := va_at_box E1w.out
      go_wp2_with fail
      clear x0 x1 x2
      go_loopw [5, 28] (fun _ i wr => ∃ (k : Nat), k ≤ ks.length ∧ i = .int .i64 k ∧ Hid (Bd 66 b (bs ++ (f0 ++ codeVs false (ks.take k))) wr) ∧ Hid (BdK b W wr)) (fun _ i _ => ks.length - (intOf i).toNat)
      case atStart => exact ⟨0, Nat.zero_le _, rfl, by simp only [List.take_zero, codeVs, List.append_nil]; exact HBDs, HBKs⟩
      case round =>
        obtain ⟨k, hk, rfl, HBD, HBK⟩ := hrel
        obtain ⟨x0, x1, x2⟩ := va_at_box (HBK.out.block E1.out HNB.out (by decide))
        have hl2 := codes_size false (ks.take k)
        have hl4 := sizesV_take ks k
        by_cases hlt : k < ks.length
        · obtain ⟨t, ad, h1, ls, A1, c1, hA, hx, rfl, hc1, hr1, q0, q1, q2⟩ := va_at (bdk_row (HBK0.out.trans HBK.out) HOK.out HR.out) hlt
          subst hA
          have hmem := List.mem_of_getElem? hx
          have hs1 := HS.out _ hmem
          simp only [T.size] at hs1
          have HTK : Hid (codeVs false (ks.take (k + 1)) = codeVs false (ks.take k) ++ (([] : List UInt8) ++ codeV (T.mk h1 ls))) := by unfold Hid; rw [codeVs_take false hx]; simp
          have hsz := T.sizes_mem hmem
          simp only [T.size] at hsz
          have hTKl := congrArg List.length HTK.out
          have hOl := congrArg List.length HO.out
          have hTA := congrArg List.length (codeVs_append false (ks.take (k + 1)) (ks.drop (k + 1)))
          rw [List.take_append_drop] at hTA
          simp only [List.length_append, List.length_cons, List.length_nil] at hTKl hOl hTA
          have hbl2 := HBL.out
          rw [List.length_append] at hbl2
          have HLB : Hid (bs.length + (f0.length + (codeVs false (ks.take k)).length) + 0 + (codeV (T.mk h1 ls)).length ≤ 10000000000) := by unfold Hid; omega
          clear hTKl hOl hTA hbl2
          obtain ⟨X1, hX1⟩ : ∃ X1, wr.alloc (.cells (vaA h1 A1 ls.length c1) 32) = X1 := ⟨_, rfl⟩
          have hblt := HBD.out.lt
          have hkX : BdK b wr X1 := by rw [← hX1]; exact (BdK.refl b wr).alloc (by omega) _
          have hbd1 : Bd 66 b (bs ++ (f0 ++ codeVs false (ks.take k))) X1 := by rw [← hX1]; exact HBD.out.alloc _
          have HE5 : Hid (X1.heap[wr.heap.size]? = some (.cells (vaA h1 A1 ls.length c1) 32 (0, 0))) := by unfold Hid; rw [← hX1]; exact new_at1 _
          have HX1 := Lib.hid hX1
          have HN5 : Hid (wr.heap.size ≠ b) := by unfold Hid; omega
          have HKX := Lib.hid hkX
          have HBD1 := Lib.hid hbd1
          have HR1 := Lib.hid (bdk_row hkX HOK.out hr1)
          have HHS1 := Lib.hid hs1
          have HSZ := Lib.hid hsz
          have HL2 := Lib.hid hl2
          have HL4 := Lib.hid hl4
          clear hx hX1 hkX hbd1 hr1 hmem hl2 hl4 hsz hblt
          go_upto_region 13 with fail
          rw [show wr.alloc _ = X1 from HX1.out]
          clear x0 x1 x2 q0 q1 q2
          obtain ⟨x0, x1, x2⟩ := va_at_box ((HBK.out.trans HKX.out).block E1.out HNB.out (by decide))
          obtain ⟨z0, z1, z2⟩ := va_at_box HE5.out
          have hlb2 : ((bs ++ (f0 ++ codeVs false (ks.take k))) ++ codeV (T.mk h1 ls)).length ≤ 10000000000 := by have := HLB.out; simp only [List.length_append, List.length_cons, List.length_nil]; omega
          have HKX2 := HKX
          have HC2 := Lib.hid (IH.out ok h1 ls A1 c1 b _ X1 HHS1.out (by omega) hc1 HR1.out HOK.out HBD1.out hlb2)
          clear hlb2
          go_wp2_with fail
          refine HC2.out.mono ?_
          rintro e w3 ⟨rfl, hbd3, hk3⟩
          have HBK3 := Lib.hid (HBK.out.trans (HKX2.out.trans hk3))
          have HBD3 : Hid (Bd 66 b (bs ++ (f0 ++ codeVs false (ks.take (k + 1)))) w3) := by unfold Hid; rw [HTK.out]; simpa only [List.append_assoc, List.nil_append, List.append_nil] using hbd3
          clear x0 x1 x2 z0 z1 z2 hbd3 hk3 HC2
          go_wp2_with fail
          go_roundw
          case rel => exact ⟨k + 1, by omega, by go_num, HBD3, HBK3⟩
          case measure => simp [intOf]; omega
        · have hkk : k = ks.length := by omega
          subst hkk
          have HBDe : Hid (Bd 66 b (bs ++ (f0 ++ codeVs false ks)) wr) := by have := HBD; rwa [List.take_length] at this
          have HLe := Lib.hid (codes_size false ks)
          clear hlt hl2 hl4
          have HBDf := HBDe
          have HKf := Lib.hid (HBK0.out.trans HBK.out)
          go_wp2_with fail
          go_end0
          exact ⟨rfl, by rw [HO.out]; simpa only [List.append_assoc, List.nil_append, List.append_nil] using HBDf.out, HKf.out⟩
    by_cases hk4 : h.k = 4
    · have t1 : ((h.k.toNat : Int) == 1) = false := u8_ne (n := 1) (by decide) (by rw [hk4]; decide)
      have t2 : ((h.k.toNat : Int) == 2) = false := u8_ne (n := 2) (by decide) (by rw [hk4]; decide)
      have t3 : ((h.k.toNat : Int) == 3) = false := u8_ne (n := 3) (by decide) (by rw [hk4]; decide)
      have t6 : ((h.k.toNat : Int) == 6) = false := u8_ne (n := 6) (by decide) (by rw [hk4]; decide)
      have t4 : ((h.k.toNat : Int) == 4) = true := u8_eq (n := 4) (by decide) hk4
      have t5 : ((h.k.toNat : Int) == 5) = false := u8_ne (n := 5) (by decide) (by rw [hk4]; decide)
      obtain ⟨f0, hf0⟩ : ∃ f0 : List UInt8, f0 = [48] := ⟨_, rfl⟩
      have hnb : ¬ (h.k < 1 ∨ 6 < h.k) := by rw [hk4]; decide
      have HO : Hid (codeV (.mk h ks) = f0 ++ (codeVs false ks ++ ([] : List UInt8))) := by unfold Hid; rw [codeV_of (f0 := f0) (st := false) hnb (by rw [hf0]; simp [hk4]) (by simp [hk4])]; simp
      have hfl : f0.length ≤ 1 := by rw [hf0]; decide
      have HF0 := Lib.hid hf0
      have HC0 := Lib.hid (W48.out W bs HBD0.out (by have := HBL.out; simp only [List.length_append] at this; omega))
      clear hf0 hnb hk4 hk6 hk1 hk2 hk3
      go_enter Tryd.func27, Tryd.ntmps27
      go_wp2_with fail
      rw [HE.out]
      go_wp2_with fail
      refine HC0.out.mono ?_
      rintro e w0 ⟨rfl, hbd0, hk0⟩
      have HBDs : Hid (Bd 66 b (bs ++ f0) w0) := by unfold Hid; rw [HF0.out]; exact hbd0
      have HBKs := Lib.hid hk0
      clear hbd0 hk0 HC0
      clear x0 x1 x2
      have E1w := Lib.hid (HBKs.out.block E1.out HNB.out (by decide))
      obtain ⟨x0, x1, x2⟩ := va_at_box E1w.out
      go_wp2_with fail
      clear x0 x1 x2
      go_loopw [5, 28] (fun _ i wr => ∃ (k : Nat), k ≤ ks.length ∧ i = .int .i64 k ∧ Hid (Bd 66 b (bs ++ (f0 ++ codeVs false (ks.take k))) wr) ∧ Hid (BdK b W wr)) (fun _ i _ => ks.length - (intOf i).toNat)
      case atStart => exact ⟨0, Nat.zero_le _, rfl, by simp only [List.take_zero, codeVs, List.append_nil]; exact HBDs, HBKs⟩
      case round =>
        obtain ⟨k, hk, rfl, HBD, HBK⟩ := hrel
        obtain ⟨x0, x1, x2⟩ := va_at_box (HBK.out.block E1.out HNB.out (by decide))
        have hl2 := codes_size false (ks.take k)
        have hl4 := sizesV_take ks k
        by_cases hlt : k < ks.length
        · obtain ⟨t, ad, h1, ls, A1, c1, hA, hx, rfl, hc1, hr1, q0, q1, q2⟩ := va_at (bdk_row (HBK0.out.trans HBK.out) HOK.out HR.out) hlt
          subst hA
          have hmem := List.mem_of_getElem? hx
          have hs1 := HS.out _ hmem
          simp only [T.size] at hs1
          have HTK : Hid (codeVs false (ks.take (k + 1)) = codeVs false (ks.take k) ++ (([] : List UInt8) ++ codeV (T.mk h1 ls))) := by unfold Hid; rw [codeVs_take false hx]; simp
          have hsz := T.sizes_mem hmem
          simp only [T.size] at hsz
          have hTKl := congrArg List.length HTK.out
          have hOl := congrArg List.length HO.out
          have hTA := congrArg List.length (codeVs_append false (ks.take (k + 1)) (ks.drop (k + 1)))
          rw [List.take_append_drop] at hTA
          simp only [List.length_append, List.length_cons, List.length_nil] at hTKl hOl hTA
          have hbl2 := HBL.out
          rw [List.length_append] at hbl2
          have HLB : Hid (bs.length + (f0.length + (codeVs false (ks.take k)).length) + 0 + (codeV (T.mk h1 ls)).length ≤ 10000000000) := by unfold Hid; omega
          clear hTKl hOl hTA hbl2
          obtain ⟨X1, hX1⟩ : ∃ X1, wr.alloc (.cells (vaA h1 A1 ls.length c1) 32) = X1 := ⟨_, rfl⟩
          have hblt := HBD.out.lt
          have hkX : BdK b wr X1 := by rw [← hX1]; exact (BdK.refl b wr).alloc (by omega) _
          have hbd1 : Bd 66 b (bs ++ (f0 ++ codeVs false (ks.take k))) X1 := by rw [← hX1]; exact HBD.out.alloc _
          have HE5 : Hid (X1.heap[wr.heap.size]? = some (.cells (vaA h1 A1 ls.length c1) 32 (0, 0))) := by unfold Hid; rw [← hX1]; exact new_at1 _
          have HX1 := Lib.hid hX1
          have HN5 : Hid (wr.heap.size ≠ b) := by unfold Hid; omega
          have HKX := Lib.hid hkX
          have HBD1 := Lib.hid hbd1
          have HR1 := Lib.hid (bdk_row hkX HOK.out hr1)
          have HHS1 := Lib.hid hs1
          have HSZ := Lib.hid hsz
          have HL2 := Lib.hid hl2
          have HL4 := Lib.hid hl4
          clear hx hX1 hkX hbd1 hr1 hmem hl2 hl4 hsz hblt
          go_upto_region 13 with fail
          rw [show wr.alloc _ = X1 from HX1.out]
          clear x0 x1 x2 q0 q1 q2
          obtain ⟨x0, x1, x2⟩ := va_at_box ((HBK.out.trans HKX.out).block E1.out HNB.out (by decide))
          obtain ⟨z0, z1, z2⟩ := va_at_box HE5.out
          have hlb2 : ((bs ++ (f0 ++ codeVs false (ks.take k))) ++ codeV (T.mk h1 ls)).length ≤ 10000000000 := by have := HLB.out; simp only [List.length_append, List.length_cons, List.length_nil]; omega
          have HKX2 := HKX
          have HC2 := Lib.hid (IH.out ok h1 ls A1 c1 b _ X1 HHS1.out (by omega) hc1 HR1.out HOK.out HBD1.out hlb2)
          clear hlb2
          go_wp2_with fail
          refine HC2.out.mono ?_
          rintro e w3 ⟨rfl, hbd3, hk3⟩
          have HBK3 := Lib.hid (HBK.out.trans (HKX2.out.trans hk3))
          have HBD3 : Hid (Bd 66 b (bs ++ (f0 ++ codeVs false (ks.take (k + 1)))) w3) := by unfold Hid; rw [HTK.out]; simpa only [List.append_assoc, List.nil_append, List.append_nil] using hbd3
          clear x0 x1 x2 z0 z1 z2 hbd3 hk3 HC2
          go_wp2_with fail
          go_roundw
          case rel => exact ⟨k + 1, by omega, by go_num, HBD3, HBK3⟩
          case measure => simp [intOf]; omega
        · have hkk : k = ks.length := by omega
          subst hkk
          have HBDe : Hid (Bd 66 b (bs ++ (f0 ++ codeVs false ks)) wr) := by have := HBD; rwa [List.take_length] at this
          have HLe := Lib.hid (codes_size false ks)
          clear hlt hl2 hl4
          have HBDf := HBDe
          have HKf := Lib.hid (HBK0.out.trans HBK.out)
          go_wp2_with fail
          go_end0
          exact ⟨rfl, by rw [HO.out]; simpa only [List.append_assoc, List.nil_append, List.append_nil] using HBDf.out, HKf.out⟩
    by_cases hk5 : h.k = 5
    · have t1 : ((h.k.toNat : Int) == 1) = false := u8_ne (n := 1) (by decide) (by rw [hk5]; decide)
      have t2 : ((h.k.toNat : Int) == 2) = false := u8_ne (n := 2) (by decide) (by rw [hk5]; decide)
      have t3 : ((h.k.toNat : Int) == 3) = false := u8_ne (n := 3) (by decide) (by rw [hk5]; decide)
      have t6 : ((h.k.toNat : Int) == 6) = false := u8_ne (n := 6) (by decide) (by rw [hk5]; decide)
      have t4 : ((h.k.toNat : Int) == 4) = false := u8_ne (n := 4) (by decide) (by rw [hk5]; decide)
      have t5 : ((h.k.toNat : Int) == 5) = true := u8_eq (n := 5) (by decide) hk5
      obtain ⟨f0, hf0⟩ : ∃ f0 : List UInt8, f0 = [49] := ⟨_, rfl⟩
      have hnb : ¬ (h.k < 1 ∨ 6 < h.k) := by rw [hk5]; decide
      have HO : Hid (codeV (.mk h ks) = f0 ++ (codeVs false ks ++ ([] : List UInt8))) := by unfold Hid; rw [codeV_of (f0 := f0) (st := false) hnb (by rw [hf0]; simp [hk5]) (by simp [hk5])]; simp
      have hfl : f0.length ≤ 1 := by rw [hf0]; decide
      have HF0 := Lib.hid hf0
      have HC0 := Lib.hid (W49.out W bs HBD0.out (by have := HBL.out; simp only [List.length_append] at this; omega))
      clear hf0 hnb hk5 hk6 hk1 hk2 hk3 hk4
      go_enter Tryd.func27, Tryd.ntmps27
      go_wp2_with fail
      rw [HE.out]
      go_wp2_with fail
      refine HC0.out.mono ?_
      rintro e w0 ⟨rfl, hbd0, hk0⟩
      have HBDs : Hid (Bd 66 b (bs ++ f0) w0) := by unfold Hid; rw [HF0.out]; exact hbd0
      have HBKs := Lib.hid hk0
      clear hbd0 hk0 HC0
      clear x0 x1 x2
      have E1w := Lib.hid (HBKs.out.block E1.out HNB.out (by decide))
      obtain ⟨x0, x1, x2⟩ := va_at_box E1w.out
      go_wp2_with fail
      clear x0 x1 x2
      go_loopw [5, 28] (fun _ i wr => ∃ (k : Nat), k ≤ ks.length ∧ i = .int .i64 k ∧ Hid (Bd 66 b (bs ++ (f0 ++ codeVs false (ks.take k))) wr) ∧ Hid (BdK b W wr)) (fun _ i _ => ks.length - (intOf i).toNat)
      case atStart => exact ⟨0, Nat.zero_le _, rfl, by simp only [List.take_zero, codeVs, List.append_nil]; exact HBDs, HBKs⟩
      case round =>
        obtain ⟨k, hk, rfl, HBD, HBK⟩ := hrel
        obtain ⟨x0, x1, x2⟩ := va_at_box (HBK.out.block E1.out HNB.out (by decide))
        have hl2 := codes_size false (ks.take k)
        have hl4 := sizesV_take ks k
        by_cases hlt : k < ks.length
        · obtain ⟨t, ad, h1, ls, A1, c1, hA, hx, rfl, hc1, hr1, q0, q1, q2⟩ := va_at (bdk_row (HBK0.out.trans HBK.out) HOK.out HR.out) hlt
          subst hA
          have hmem := List.mem_of_getElem? hx
          have hs1 := HS.out _ hmem
          simp only [T.size] at hs1
          have HTK : Hid (codeVs false (ks.take (k + 1)) = codeVs false (ks.take k) ++ (([] : List UInt8) ++ codeV (T.mk h1 ls))) := by unfold Hid; rw [codeVs_take false hx]; simp
          have hsz := T.sizes_mem hmem
          simp only [T.size] at hsz
          have hTKl := congrArg List.length HTK.out
          have hOl := congrArg List.length HO.out
          have hTA := congrArg List.length (codeVs_append false (ks.take (k + 1)) (ks.drop (k + 1)))
          rw [List.take_append_drop] at hTA
          simp only [List.length_append, List.length_cons, List.length_nil] at hTKl hOl hTA
          have hbl2 := HBL.out
          rw [List.length_append] at hbl2
          have HLB : Hid (bs.length + (f0.length + (codeVs false (ks.take k)).length) + 0 + (codeV (T.mk h1 ls)).length ≤ 10000000000) := by unfold Hid; omega
          clear hTKl hOl hTA hbl2
          obtain ⟨X1, hX1⟩ : ∃ X1, wr.alloc (.cells (vaA h1 A1 ls.length c1) 32) = X1 := ⟨_, rfl⟩
          have hblt := HBD.out.lt
          have hkX : BdK b wr X1 := by rw [← hX1]; exact (BdK.refl b wr).alloc (by omega) _
          have hbd1 : Bd 66 b (bs ++ (f0 ++ codeVs false (ks.take k))) X1 := by rw [← hX1]; exact HBD.out.alloc _
          have HE5 : Hid (X1.heap[wr.heap.size]? = some (.cells (vaA h1 A1 ls.length c1) 32 (0, 0))) := by unfold Hid; rw [← hX1]; exact new_at1 _
          have HX1 := Lib.hid hX1
          have HN5 : Hid (wr.heap.size ≠ b) := by unfold Hid; omega
          have HKX := Lib.hid hkX
          have HBD1 := Lib.hid hbd1
          have HR1 := Lib.hid (bdk_row hkX HOK.out hr1)
          have HHS1 := Lib.hid hs1
          have HSZ := Lib.hid hsz
          have HL2 := Lib.hid hl2
          have HL4 := Lib.hid hl4
          clear hx hX1 hkX hbd1 hr1 hmem hl2 hl4 hsz hblt
          go_upto_region 13 with fail
          rw [show wr.alloc _ = X1 from HX1.out]
          clear x0 x1 x2 q0 q1 q2
          obtain ⟨x0, x1, x2⟩ := va_at_box ((HBK.out.trans HKX.out).block E1.out HNB.out (by decide))
          obtain ⟨z0, z1, z2⟩ := va_at_box HE5.out
          have hlb2 : ((bs ++ (f0 ++ codeVs false (ks.take k))) ++ codeV (T.mk h1 ls)).length ≤ 10000000000 := by have := HLB.out; simp only [List.length_append, List.length_cons, List.length_nil]; omega
          have HKX2 := HKX
          have HC2 := Lib.hid (IH.out ok h1 ls A1 c1 b _ X1 HHS1.out (by omega) hc1 HR1.out HOK.out HBD1.out hlb2)
          clear hlb2
          go_wp2_with fail
          refine HC2.out.mono ?_
          rintro e w3 ⟨rfl, hbd3, hk3⟩
          have HBK3 := Lib.hid (HBK.out.trans (HKX2.out.trans hk3))
          have HBD3 : Hid (Bd 66 b (bs ++ (f0 ++ codeVs false (ks.take (k + 1)))) w3) := by unfold Hid; rw [HTK.out]; simpa only [List.append_assoc, List.nil_append, List.append_nil] using hbd3
          clear x0 x1 x2 z0 z1 z2 hbd3 hk3 HC2
          go_wp2_with fail
          go_roundw
          case rel => exact ⟨k + 1, by omega, by go_num, HBD3, HBK3⟩
          case measure => simp [intOf]; omega
        · have hkk : k = ks.length := by omega
          subst hkk
          have HBDe : Hid (Bd 66 b (bs ++ (f0 ++ codeVs false ks)) wr) := by have := HBD; rwa [List.take_length] at this
          have HLe := Lib.hid (codes_size false ks)
          clear hlt hl2 hl4
          have HBDf := HBDe
          have HKf := Lib.hid (HBK0.out.trans HBK.out)
          go_wp2_with fail
          go_end0
          exact ⟨rfl, by rw [HO.out]; simpa only [List.append_assoc, List.nil_append, List.append_nil] using HBDf.out, HKf.out⟩
    have HX : Hid (codeV (.mk h ks) = []) := codeV_bad (by
      have e : ∀ n : Nat, n < 256 → h.k ≠ UInt8.ofNat n → h.k.toNat ≠ n := fun n hn hne e => hne (by rw [← e]; simp)
      have h1 := e 1 (by decide) hk1
      have h2 := e 2 (by decide) hk2
      have h3 := e 3 (by decide) hk3
      have h4 := e 4 (by decide) hk4
      have h5 := e 5 (by decide) hk5
      have h6 := e 6 (by decide) hk6
      rw [UInt8.lt_iff_toNat_lt, UInt8.lt_iff_toNat_lt]
      show h.k.toNat < 1 ∨ 6 < h.k.toNat
      omega)
    have t1 : ((h.k.toNat : Int) == 1) = false := u8_ne (n := 1) (by decide) hk1
    have t2 : ((h.k.toNat : Int) == 2) = false := u8_ne (n := 2) (by decide) hk2
    have t3 : ((h.k.toNat : Int) == 3) = false := u8_ne (n := 3) (by decide) hk3
    have t6 : ((h.k.toNat : Int) == 6) = false := u8_ne (n := 6) (by decide) hk6
    have t4 : ((h.k.toNat : Int) == 4) = false := u8_ne (n := 4) (by decide) hk4
    have t5 : ((h.k.toNat : Int) == 5) = false := u8_ne (n := 5) (by decide) hk5
    clear hk1 hk2 hk3 hk4 hk5 hk6
    go_enter Tryd.func27, Tryd.ntmps27
    go_wp2_with fail
    rw [HE.out]
    go_wp2_with fail
    refine bodyPost_ret (results_none rfl _ _ _) rfl ?_
    exact ⟨rfl, by rw [HX.out, List.append_nil]; exact HBD0.out, HBK0.out⟩
end Go.Proofs.YteokbmngebckjaaDoor
namespace Go.Proofs.YteokbmngebckjaaDoor
open Go.RowKit
set_option linter.unusedVariables false
set_option linter.unusedSimpArgs false

set_option maxRecDepth 100000 in
set_option maxHeartbeats 4000000 in
theorem code_any {P : Nat → Prop} (h : VH) (ks : List Va) (A : Option Addr) (c : Nat) (w : World) (hm : T.sizes ks ≤ 900000000) (hc : ks.length ≤ c) (hr : InRow VE P w ks A 0) :
    Calls Tryd.prog 14 #[vaV h A ks.length c] w fun e w' => e = .returned (.string (str (codeV (.mk h ks)))) ∧ Below w.heap.size w w' := by
  obtain ⟨W1, hW1⟩ : ∃ W1, w.alloc (.cells (vaA h A ks.length c) 32) = W1 := ⟨_, rfl⟩
  have hb1 : Below w.heap.size w W1 := by rw [← hW1]; exact below_new (Below.refl _ _) _
  have hs1 : W1.heap.size = w.heap.size + 1 := by rw [← hW1, World.size_alloc]
  have e1 : W1.heap[w.heap.size]? = some (.cells (vaA h A ks.length c) 32 (0, 0)) := by rw [← hW1]; exact new_at1 _
  obtain ⟨W2, hW2⟩ : ∃ W2, W1.alloc (.cells #[.pointer none, .slice none 0 0] 66) = W2 := ⟨_, rfl⟩
  have hb2 : Below W1.heap.size W1 W2 := by rw [← hW2]; exact below_new (Below.refl _ _) _
  have hbd : Bd 66 W1.heap.size [] W2 := by rw [← hW2]; exact Bd.new _ _
  have E2 := Lib.hid ((hb2.block _ (lt_of_block e1)).trans e1)
  have hcl := code_size (T.mk h ks)
  simp only [T.size] at hcl
  have HC := Lib.hid (put_upto (1 + T.sizes ks) _ h ks A c W1.heap.size [] W2 (Nat.le_refl _) (by omega) hc (hr.there.below (below_from hb1 hb2)) (fun x hx => by have := hx.2; omega) hbd (by simp only [List.nil_append]; omega))
  have HE1 := Lib.hid hW1
  have HE2 := Lib.hid hW2
  have HB2 := Lib.hid (below_from hb1 hb2)
  have HS1 := Lib.hid hs1
  clear hW1 hb1 hs1 e1 hW2 hb2 hbd hcl hr
  go_enter Tryd.func14, Tryd.ntmps14
  go_upto_region 1 with fail
  rw [show w.alloc _ = W1 from HE1.out]
  go_upto_region 2 with fail
  rw [show W1.alloc _ = W2 from HE2.out]
  obtain ⟨x0, x1, x2⟩ := va_at_box E2.out
  go_wp2_with fail
  refine HC.out.mono ?_
  rintro e w3 ⟨rfl, hbd3, hk3⟩
  have HST := Lib.hid (string_any hbd3)
  have HB3 : Hid (Below w.heap.size w w3) := HB2.out.trans (hk3.1.mono (by have := HS1.out; omega))
  clear x0 x1 x2 HC hbd3 hk3
  go_wp2_with fail
  refine HST.out.mono ?_
  rintro e w4 ⟨rfl, hb4⟩
  have HB4 := Lib.hid (HB3.out.trans (hb4.mono (show w.heap.size ≤ W1.heap.size by have := HS1.out; omega)))
  clear HST hb4
  go_wp2_with fail
  go_ret
  exact ⟨rfl, HB4.out⟩
end Go.Proofs.YteokbmngebckjaaDoor
namespace Go.Proofs.YteokbmngebckjaaDoor
open Go.RowKit
set_option linter.unusedVariables false
set_option linter.unusedSimpArgs false

def BRightPost (t : Re) (s : List UInt8) (w : World) (e : Ending) (w' : World) : Prop := ∃ v b, e = .returned (.tuple #[.string (str (codeV v)), .bool b]) ∧ RightRel t s v b ∧ Below w.heap.size w w'
set_option maxRecDepth 100000 in
set_option maxHeartbeats 4000000 in
theorem bRight_any {P : Nat → Prop} (h : RH) (ks : List Re) (A : Option Addr) (c : Nat) (S : ByteArray) (w : World) (hm : T.sizes ks ≤ 900000) (hc : ks.length ≤ c) (hr : InRow RE P w ks A 0) (hS : S.size ≤ 100)
    (hsv : ∀ v b, RightRel (.mk h ks) S.data.toList v b → v.size ≤ 900000000) :
    Calls Tryd.prog 19 #[reV h A ks.length c, .string S] w (BRightPost (.mk h ks) S.data.toList w) := by
  obtain ⟨W, hW⟩ : ∃ W, w.alloc (.cells (reA h A ks.length c) 27) = W := ⟨_, rfl⟩
  have hbW : Below w.heap.size w W := by rw [← hW]; exact below_new (Below.refl _ _) _
  have e1W : W.heap[w.heap.size]? = some (.cells (reA h A ks.length c) 27 (0, 0)) := by rw [← hW]; exact new_at1 _
  have HC := Lib.hid (vRight_any h ks A c S W hm hc (hr.below hbW) hS)
  have HE := Lib.hid hW
  have HBW := Lib.hid hbW
  have E1 := Lib.hid e1W
  have HSV := Lib.hid hsv
  clear hW hbW e1W hr hsv
  go_enter Tryd.func19, Tryd.ntmps19
  go_upto_region 1 with fail
  rw [show w.alloc _ = W from HE.out]
  obtain ⟨x0, x1, x2, x3, x4, x5⟩ := re_at_box E1.out
  go_wp2_with fail
  refine HC.out.mono ?_
  rintro e w1 ⟨hn, kn, An, cn, b, rfl, hrl, hcn, hrn, hb1⟩
  have hvs := HSV.out _ _ hrl
  simp only [T.size] at hvs
  obtain ⟨V, hV⟩ : ∃ V, w1.alloc (.cells (vaA hn An kn.length cn) 32) = V := ⟨_, rfl⟩
  have hbV : Below w1.heap.size w1 V := by rw [← hV]; exact below_new (Below.refl _ _) _
  have e1V : V.heap[w1.heap.size]? = some (.cells (vaA hn An kn.length cn) 32 (0, 0)) := by rw [← hV]; exact new_at1 _
  have HC2 := Lib.hid (code_any hn kn An cn V (by omega) hcn (hrn.below hbV))
  have HBV := Lib.hid (below_from (below_from HBW.out hb1) hbV)
  have HVV := Lib.hid hV
  have E1V := Lib.hid e1V
  have HRL := Lib.hid hrl
  clear x0 x1 x2 x3 x4 x5 HC hrl hrn hb1 hvs hV hbV e1V
  go_upto_region 2 with fail
  rw [show w1.alloc _ = V from HVV.out]
  obtain ⟨y0, y1, y2⟩ := va_at_box E1V.out
  go_wp2_with fail
  refine HC2.out.mono ?_
  rintro e w2 ⟨rfl, hb2⟩
  have HB2 := Lib.hid (below_from HBV.out hb2)
  clear y0 y1 y2 HC2 hb2
  go_wp2_with fail
  refine bodyPost_ret (v := .tuple #[.string (str (codeV (.mk hn kn))), .bool b]) (by simp [results, Tryd.results19, go_sem]) rfl ⟨_, b, rfl, HRL.out, HB2.out⟩
end Go.Proofs.YteokbmngebckjaaDoor
