/- The reader of bits: a bit. The reader of bits: a value's bits, at Eps, at a class. The reader of bits: a value's bits, at Alt. The reader of bits: a value's bits, at a Seq. The reader of bits: a value's bits, at a Star. bits.Take, where there is such a value. bits.Decode, where there is such a value; the value of a text, with and without making simpler. -/
import Derived.Test.YteokbmngebckjaaDoorBw
import Derived.Test.YteokbmngebckjaaDoorBx
import Derived.Test.YteokbmngebckjaaDoorBb
import Derived.Test.YteokbmngebckjaaDoorBa
import Derived.Test.YteokbmngebckjaaDoorBd
import Derived.Defers
import Derived.Recover
namespace Go.Proofs.YteokbmngebckjaaDoor
open Go.RowKit
set_option linter.unusedVariables false
set_option linter.unusedSimpArgs false

set_option maxRecDepth 100000 in
set_option maxHeartbeats 4000000 in
theorem bit_any (S : ByteArray) (c : UInt8) (rest : List UInt8) (bR : Nat) (w : World) (hS : S.data.toList = c :: rest) (hc : c = 48 ∨ c = 49) (hb : w.heap[bR]? = some (.cells #[.string S] 56 (0, 0))) :
    Calls Tryd.prog 36 #[.pointer (some ⟨bR, 0, none⟩)] w fun e w' => ∃ S2 : ByteArray, e = .returned (.bool (decide (c = 49))) ∧ S2.data.toList = rest ∧ w'.heap[bR]? = some (.cells #[.string S2] 56 (0, 0)) ∧ Kept w bR w' := by
  have hlt : 0 < S.size := by rw [← sl_, hS]; simp
  have t2 := sl_full (S := S) (by omega)
  have hcb : S[0]'hlt = c := by
    have h' : S.data.toList[0]? = some c := by rw [hS]; rfl
    have h2 : S.data.toList[0]? = some (S[0]'hlt) := by rw [List.getElem?_eq_getElem (by rw [sl_]; exact hlt)]; rfl
    rw [h2] at h'
    exact Option.some.inj h'
  have ea : ((S[0]'hlt).toNat : Int) = (c.toNat : Int) := by rw [hcb]
  have hl1 : ¬ ((S.size : Int) < 1) := by omega
  have hre : (S.extract 1 S.size).data.toList = rest := by rw [ext_drop, hS]; rfl
  have HRE := Lib.hid hre
  have HB := Lib.hid hb
  obtain ⟨p0, pf0⟩ := fil_cells hb
  clear hre hb hcb hS
  rcases hc with rfl | rfl
  · have g1 : (((48 : UInt8).toNat : Int) != 48) = false := rfl
    have g2 : (((48 : UInt8).toNat : Int) == 49) = false := rfl
    go_enter Tryd.func36, Tryd.ntmps36
    go_wp2_with fail
    go_ret
    exact ⟨rfl, _, HRE.out, fil_set HB.out, kept_set (kept_below (Below.refl _ _)) (.inr rfl)⟩
  · have g1 : (((49 : UInt8).toNat : Int) != 48) = true := rfl
    have g3 : (((49 : UInt8).toNat : Int) != 49) = false := rfl
    have g2 : (((49 : UInt8).toNat : Int) == 49) = true := rfl
    go_enter Tryd.func36, Tryd.ntmps36
    go_wp2_with fail
    go_ret
    exact ⟨rfl, _, HRE.out, fil_set HB.out, kept_set (kept_below (Below.refl _ _)) (.inr rfl)⟩
end Go.Proofs.YteokbmngebckjaaDoor
namespace Go.Proofs.YteokbmngebckjaaDoor
open Go.RowKit
set_option linter.unusedVariables false
set_option linter.unusedSimpArgs false

def TkPost (v : Va) (rest : List UInt8) (bR : Nat) (w : World) (e : Ending) (w' : World) : Prop := ∃ h' k' A' c' S2, e = .returned (vaV h' A' k'.length c') ∧ v = .mk h' k' ∧ k'.length ≤ c' ∧ InRow VE (fun x => w.heap.size ≤ x) w' k' A' 0 ∧ S2.data.toList = rest ∧ w'.heap[bR]? = some (.cells #[.string S2] 56 (0, 0)) ∧ Kept w bR w'
def TkOk (h : RH) (ks : List Re) : Prop := ∀ (P : Nat → Prop) (A : Option Addr) (c : Nat) (S : ByteArray) (bR : Nat) (w : World) (v : Va) (rest : List UInt8), ks.length ≤ c → InRow RE P w ks A 0 → (∀ x, P x → x ≠ bR) → w.heap[bR]? = some (.cells #[.string S] 56 (0, 0)) → S.size ≤ 1000000000 → TzOk w → bR ≠ 0 → takeT (.mk h ks) S.data.toList = some (v, rest) →
  Calls Tryd.prog 22 #[.pointer (some ⟨bR, 0, none⟩), reV h A ks.length c] w (TkPost v rest bR w)
def TkOkT (t : Re) : Prop := ∀ h ks, t = .mk h ks → TkOk h ks
theorem kept_tz {w w' : World} {b : Nat} (h : TzOk w) (k : Kept w b w') (hb : b ≠ 0) : TzOk w' := fun n =>
  (World.cell?_of_block (k.block _ (World.block_lt_of_cell? w _ (h n)) (fun e => hb (Option.some.inj e).symm))).trans (h n)
theorem kept_row {w w' : World} {b : Nat} {P : Nat → Prop} {ks : List Re} {A : Option Addr} {i : Nat} (h : InRow RE P w ks A i) (k : Kept w b w') (hp : ∀ x, P x → x ≠ b) : InRow RE P w' ks A i :=
  h.grown k (fun x hx e => hp x hx (Option.some.inj e))
set_option maxRecDepth 100000 in
set_option maxHeartbeats 4000000 in
theorem tk_eps : TkOkT rEps := by
  rintro h ks e P A c S bR w v rest hc hr hP hb hS htz hne ht
  cases e
  rw [take_eps] at ht
  cases ht
  obtain ⟨hh, hhh⟩ : ∃ hh : RH, hh = ⟨2, S4.zero⟩ := ⟨_, rfl⟩
  have g2 : ((hh.k.toNat : Int) == 2) = true := by rw [hhh]; rfl
  rw [show reV ⟨2, S4.zero⟩ A ([] : List Re).length c = reV hh A 0 c by rw [hhh]; rfl]
  clear hhh
  have hbl := lt_of_block hb
  obtain ⟨W, hW, hbW, hsW, e1W, e2W⟩ := reva_pre w hh A 0 c
  have HE := Lib.hid hW
  have HBW := Lib.hid hbW
  have E1 := Lib.hid e1W
  have E2 := Lib.hid e2W
  have EF := Lib.hid ((hbW.block _ hbl).trans hb)
  have hne : bR ≠ w.heap.size + 1 := by omega
  clear hW hbW e1W e2W hr hb hbl htz hP hsW
  go_enter Tryd.func22, Tryd.ntmps22
  go_upto_region 1 with fail
  rw [show (w.alloc _).alloc _ = W from HE.out]
  obtain ⟨x0, x1, x2, x3, x4, x5⟩ := re_at_box E1.out
  obtain ⟨⟨y0, y1, y2⟩, f0, f1, f2⟩ := va_cells E2.out
  go_wp2_with fail
  refine bodyPost_ret (v := vaV ⟨1, 0⟩ none 0 0) (by simp [results, Tryd.results22, go_sem, y0, y1, y2]; try exact ⟨rfl, rfl, rfl⟩) rfl ⟨⟨1, 0⟩, [], none, 0, S, rfl, rfl, Nat.le_refl _, by simp [InRow], rfl, (three_other hne).trans EF.out, kept_set (kept_set (kept_set (kept_below HBW.out) (.inl (by omega))) (.inl (by omega))) (.inl (by omega))⟩
set_option maxRecDepth 100000 in
set_option maxHeartbeats 4000000 in
theorem tk_cls {S0 : S4} (hz : S0 ≠ S4.zero) : TkOkT (rCls S0) := by
  rintro h ks e P A c S bR w v rest hc hr hP hb hS htz hne ht
  cases e
  rw [take_cls] at ht
  cases ht
  obtain ⟨hh, hhh⟩ : ∃ hh : RH, hh = ⟨3, S0⟩ := ⟨_, rfl⟩
  have g2 : ((hh.k.toNat : Int) == 2) = false := by rw [hhh]; rfl
  have g3 : ((hh.k.toNat : Int) == 3) = true := by rw [hhh]; rfl
  rw [show reV ⟨3, S0⟩ A ([] : List Re).length c = reV hh A 0 c by rw [hhh]; rfl]
  obtain ⟨l, hl⟩ := firstB_bytes hz
  have HL : Hid (bytesOf hh.s = firstB S0 :: l) := by unfold Hid; rw [hhh]; exact hl
  clear hhh hl
  generalize firstB S0 = fb at *
  have hbl := lt_of_block hb
  obtain ⟨W, hW, hbW, hsW, e1W, e2W⟩ := reva_pre w hh A 0 c
  have HE := Lib.hid hW
  have HBW := Lib.hid hbW
  have E1 := Lib.hid e1W
  have E2 := Lib.hid e2W
  have EF := Lib.hid ((hbW.block _ hbl).trans hb)
  have HTZ := Lib.hid (htz.below hbW)
  have hne : bR ≠ w.heap.size + 1 := by omega
  have hsz := hbW.size
  clear hW hbW e1W e2W hr hb hbl htz hP hsW hz
  go_enter Tryd.func22, Tryd.ntmps22
  go_upto_region 1 with fail
  rw [show (w.alloc _).alloc _ = W from HE.out]
  obtain ⟨x0, x1, x2, x3, x4, x5⟩ := re_at_box E1.out
  go_wp2_with fail
  refine (setBytes_any hh.s W HTZ.out).mono ?_
  rintro e w1 ⟨Ab, cb, rfl, hcb, hrb, hb1⟩
  rw [HL.out] at hrb hcb
  rw [HL.out]
  obtain ⟨ad, x, hA, hx, hcx⟩ := hrb.at_ (show 0 < (fb :: l).length by simp)
  subst hA
  cases hx
  have hcx' : w1.cell? ad = some (.int .u8 (fb.toNat : Int)) := by simpa [Addr.add, encB] using hcx
  have HB1 := Lib.hid (below_from HBW.out hb1)
  have E2' := (hb1.block _ (lt_of_block E2.out)).trans E2.out
  have EF' := Lib.hid ((hb1.block _ (lt_of_block EF.out)).trans EF.out)
  obtain ⟨⟨y0, y1, y2⟩, f0, f1, f2⟩ := va_cells E2'
  have hcbl : l.length + 1 ≤ cb := by simpa using hcb
  clear x0 x1 x2 x3 x4 x5 hcx hrb hcb hb1 HTZ E1 E2 EF E2'
  simp only [List.length_cons]
  go_wp2_with fail
  refine bodyPost_ret (v := vaV ⟨2, fb⟩ none 0 0) (by simp [results, Tryd.results22, go_sem, y0, y1, y2]; try exact ⟨rfl, rfl, rfl⟩) rfl ⟨⟨2, fb⟩, [], none, 0, S, rfl, rfl, Nat.le_refl _, by simp [InRow], rfl, (three_other hne).trans EF'.out, kept_set (kept_set (kept_set (kept_below HB1.out) (.inl (by omega))) (.inl (by omega))) (.inl (by omega))⟩
end Go.Proofs.YteokbmngebckjaaDoor
namespace Go.Proofs.YteokbmngebckjaaDoor
open Go.RowKit
set_option linter.unusedVariables false
set_option linter.unusedSimpArgs false

theorem kept_blk {w w' : World} {b j : Nat} {o : Obj} (k : Kept w b w') (h : w.heap[j]? = some o) (hj : j ≠ b) : w'.heap[j]? = some o :=
  (k.block _ (lt_of_block h) (fun e => hj (Option.some.inj e))).trans h
set_option maxRecDepth 100000 in
set_option maxHeartbeats 4000000 in
theorem tk_alt0 {hx : RH} {kx : List Re} {hy : RH} {ky : List Re} (p : TkOk hx kx) (P : Nat → Prop) (A : Option Addr) (c : Nat) (S : ByteArray) (bR : Nat) (w : World) (v : Va) (rest s1 : List UInt8) (hc : 2 ≤ c) (hr : InRow RE P w [.mk hx kx, .mk hy ky] A 0) (hP : ∀ x, P x → x ≠ bR) (hb : w.heap[bR]? = some (.cells #[.string S] 56 (0, 0))) (hS : S.size ≤ 1000000000) (htz : TzOk w) (hne : bR ≠ 0)
    (hS1 : S.data.toList = 48 :: s1) (ht : takeT (.mk hx kx) s1 = some (v, rest)) :
    Calls Tryd.prog 22 #[.pointer (some ⟨bR, 0, none⟩), reV ⟨5, S4.zero⟩ A 2 c] w (TkPost (vLeft v) rest bR w) := by
  obtain ⟨hh, hhh⟩ : ∃ hh : RH, hh = ⟨5, S4.zero⟩ := ⟨_, rfl⟩
  have g2 : ((hh.k.toNat : Int) == 2) = false := by rw [hhh]; rfl
  have g3 : ((hh.k.toNat : Int) == 3) = false := by rw [hhh]; rfl
  have g4 : ((hh.k.toNat : Int) == 4) = false := by rw [hhh]; rfl
  have g5 : ((hh.k.toNat : Int) == 5) = true := by rw [hhh]; rfl
  rw [show reV ⟨5, S4.zero⟩ A 2 c = reV hh A 2 c by rw [hhh]]
  clear hhh
  have hbl := lt_of_block hb
  obtain ⟨W, hW, hbW, hsW, e1W, e2W⟩ := reva_pre w hh A 2 c
  have efW := (hbW.block _ hbl).trans hb
  have HBIT := Lib.hid (bit_any S 48 s1 bR W hS1 (.inl rfl) efW)
  have HE := Lib.hid hW
  have HBW := Lib.hid hbW
  have HSW := Lib.hid hsW
  have E1 := Lib.hid e1W
  have E2 := Lib.hid e2W
  have HR := Lib.hid (hr.below hbW)
  have HTZ := Lib.hid (htz.below hbW)
  have HSZ : Hid (s1.length ≤ 1000000000) := by
    unfold Hid
    have h1 := congrArg List.length hS1
    rw [sl_, List.length_cons] at h1
    omega
  have hn0 : w.heap.size ≠ bR := by omega
  have hn1 : w.heap.size + 1 ≠ bR := by omega
  clear hW hbW hsW e1W e2W hr hb htz efW hS1
  go_enter Tryd.func22, Tryd.ntmps22
  go_upto_region 1 with fail
  rw [show (w.alloc _).alloc _ = W from HE.out]
  obtain ⟨x0, x1, x2, x3, x4, x5⟩ := re_at_box E1.out
  go_wp2_with fail
  refine HBIT.out.mono ?_
  rintro e w1 ⟨S1, rfl, hs1, ef1, hk1⟩
  clear x0 x1 x2 x3 x4 x5 HBIT
  have HR1 := Lib.hid (kept_row HR.out hk1 hP)
  have E11 := kept_blk hk1 E1.out hn0
  have E21 := kept_blk hk1 E2.out hn1
  have HTZ1 := Lib.hid (kept_tz HTZ.out hk1 hne)
  obtain ⟨x0, x1, x2, x3, x4, x5⟩ := re_at_box E11
  obtain ⟨ad, A1, c1, hA, hc1, hr1, u0, u1, u2, u3, u4, u5⟩ := kid0N HR1.out
  subst hA
  have HC : Hid (Calls Tryd.prog 22 #[.pointer (some ⟨bR, 0, none⟩), reV hx A1 kx.length c1] w1 (TkPost v rest bR w1)) := p _ A1 c1 S1 bR w1 v rest hc1 hr1 hP ef1 (by rw [← sl_, hs1]; exact HSZ.out) HTZ1.out hne (by rw [hs1]; exact ht)
  have E2' := Lib.hid E21
  have HK1 := Lib.hid (kept_trans (kept_below HBW.out) hk1)
  have hsz1 := hk1.size
  have hsw := HSW.out
  clear hr1 E11 E21 hk1 ef1 hs1 HTZ1 HR1 E1 E2 HR HTZ ht
  go_wp2_with fail
  refine HC.out.mono ?_
  rintro e w2 ⟨hn, kn, An, cn, S2, rfl, rfl, hcn, hrn, hs2, ef2, hk2⟩
  have E22 := kept_blk hk2 E2'.out hn1
  have hsz2 := hk2.size
  have HK2 := Lib.hid (kept_new (kept_trans HK1.out hk2) (.cells (vaA hn An kn.length cn) 32))
  have EF2 := Lib.hid (heap_keep1 ef2 (.cells (vaA hn An kn.length cn) 32))
  have HROW := Lib.hid (va_one (P := fun x => w.heap.size + 1 + 1 ≤ x) (new_at1 (w := w2) (.cells (vaA hn An kn.length cn) 32)) (by omega) hcn ((hrn.below (below_new (Below.refl _ _) _)).weak fun x hx => by omega))
  have e2Z := fun o => va_cells (heap_keep1 E22 o)
  have y0 := fun o => (e2Z o).1.1
  have y1 := fun o => (e2Z o).1.2.1
  have y2 := fun o => (e2Z o).1.2.2
  have f0 := fun o => (e2Z o).2.1
  have f1 := fun o => (e2Z o).2.2.1
  have f2 := fun o => (e2Z o).2.2.2
  clear e2Z x0 x1 x2 x3 x4 x5 u0 u1 u2 u3 u4 u5 hrn hk2 ef2 E22 HC HK1 E2'
  go_wp2_with fail
  refine bodyPost_ret (v := vaV ⟨4, 0⟩ (some ⟨w2.heap.size, 0, none⟩) 1 1) (by simp [results, Tryd.results22, go_sem, y0, y1, y2]; try exact ⟨rfl, rfl, rfl⟩) rfl ⟨⟨4, 0⟩, [.mk hn kn], some ⟨w2.heap.size, 0, none⟩, 1, S2, rfl, rfl, Nat.le_refl _, (row_three HROW.out fun x hx => by omega).weak fun x hx => by omega, hs2, (three_other (Ne.symm hn1)).trans EF2.out, kept_set (kept_set (kept_set HK2.out (.inl (by omega))) (.inl (by omega))) (.inl (by omega))⟩
set_option maxRecDepth 100000 in
set_option maxHeartbeats 4000000 in
theorem tk_alt1 {hx : RH} {kx : List Re} {hy : RH} {ky : List Re} (p : TkOk hy ky) (P : Nat → Prop) (A : Option Addr) (c : Nat) (S : ByteArray) (bR : Nat) (w : World) (v : Va) (rest s1 : List UInt8) (hc : 2 ≤ c) (hr : InRow RE P w [.mk hx kx, .mk hy ky] A 0) (hP : ∀ x, P x → x ≠ bR) (hb : w.heap[bR]? = some (.cells #[.string S] 56 (0, 0))) (hS : S.size ≤ 1000000000) (htz : TzOk w) (hne : bR ≠ 0)
    (hS1 : S.data.toList = 49 :: s1) (ht : takeT (.mk hy ky) s1 = some (v, rest)) :
    Calls Tryd.prog 22 #[.pointer (some ⟨bR, 0, none⟩), reV ⟨5, S4.zero⟩ A 2 c] w (TkPost (vRight v) rest bR w) := by
  obtain ⟨hh, hhh⟩ : ∃ hh : RH, hh = ⟨5, S4.zero⟩ := ⟨_, rfl⟩
  have g2 : ((hh.k.toNat : Int) == 2) = false := by rw [hhh]; rfl
  have g3 : ((hh.k.toNat : Int) == 3) = false := by rw [hhh]; rfl
  have g4 : ((hh.k.toNat : Int) == 4) = false := by rw [hhh]; rfl
  have g5 : ((hh.k.toNat : Int) == 5) = true := by rw [hhh]; rfl
  rw [show reV ⟨5, S4.zero⟩ A 2 c = reV hh A 2 c by rw [hhh]]
  clear hhh
  have hbl := lt_of_block hb
  obtain ⟨W, hW, hbW, hsW, e1W, e2W⟩ := reva_pre w hh A 2 c
  have efW := (hbW.block _ hbl).trans hb
  have HBIT := Lib.hid (bit_any S 49 s1 bR W hS1 (.inr rfl) efW)
  have HE := Lib.hid hW
  have HBW := Lib.hid hbW
  have HSW := Lib.hid hsW
  have E1 := Lib.hid e1W
  have E2 := Lib.hid e2W
  have HR := Lib.hid (hr.below hbW)
  have HTZ := Lib.hid (htz.below hbW)
  have HSZ : Hid (s1.length ≤ 1000000000) := by
    unfold Hid
    have h1 := congrArg List.length hS1
    rw [sl_, List.length_cons] at h1
    omega
  have hn0 : w.heap.size ≠ bR := by omega
  have hn1 : w.heap.size + 1 ≠ bR := by omega
  clear hW hbW hsW e1W e2W hr hb htz efW hS1
  go_enter Tryd.func22, Tryd.ntmps22
  go_upto_region 1 with fail
  rw [show (w.alloc _).alloc _ = W from HE.out]
  obtain ⟨x0, x1, x2, x3, x4, x5⟩ := re_at_box E1.out
  go_wp2_with fail
  refine HBIT.out.mono ?_
  rintro e w1 ⟨S1, rfl, hs1, ef1, hk1⟩
  clear x0 x1 x2 x3 x4 x5 HBIT
  have HR1 := Lib.hid (kept_row HR.out hk1 hP)
  have E11 := kept_blk hk1 E1.out hn0
  have E21 := kept_blk hk1 E2.out hn1
  have HTZ1 := Lib.hid (kept_tz HTZ.out hk1 hne)
  obtain ⟨x0, x1, x2, x3, x4, x5⟩ := re_at_box E11
  obtain ⟨ad, A1, c1, hA, hc1, hr1, u0, u1, u2, u3, u4, u5⟩ := kid1N HR1.out
  subst hA
  have HC : Hid (Calls Tryd.prog 22 #[.pointer (some ⟨bR, 0, none⟩), reV hy A1 ky.length c1] w1 (TkPost v rest bR w1)) := p _ A1 c1 S1 bR w1 v rest hc1 hr1 hP ef1 (by rw [← sl_, hs1]; exact HSZ.out) HTZ1.out hne (by rw [hs1]; exact ht)
  have E2' := Lib.hid E21
  have HK1 := Lib.hid (kept_trans (kept_below HBW.out) hk1)
  have hsz1 := hk1.size
  have hsw := HSW.out
  clear hr1 E11 E21 hk1 ef1 hs1 HTZ1 HR1 E1 E2 HR HTZ ht
  go_wp2_with fail
  refine HC.out.mono ?_
  rintro e w2 ⟨hn, kn, An, cn, S2, rfl, rfl, hcn, hrn, hs2, ef2, hk2⟩
  have E22 := kept_blk hk2 E2'.out hn1
  have hsz2 := hk2.size
  have HK2 := Lib.hid (kept_new (kept_trans HK1.out hk2) (.cells (vaA hn An kn.length cn) 32))
  have EF2 := Lib.hid (heap_keep1 ef2 (.cells (vaA hn An kn.length cn) 32))
  have HROW := Lib.hid (va_one (P := fun x => w.heap.size + 1 + 1 ≤ x) (new_at1 (w := w2) (.cells (vaA hn An kn.length cn) 32)) (by omega) hcn ((hrn.below (below_new (Below.refl _ _) _)).weak fun x hx => by omega))
  have e2Z := fun o => va_cells (heap_keep1 E22 o)
  have y0 := fun o => (e2Z o).1.1
  have y1 := fun o => (e2Z o).1.2.1
  have y2 := fun o => (e2Z o).1.2.2
  have f0 := fun o => (e2Z o).2.1
  have f1 := fun o => (e2Z o).2.2.1
  have f2 := fun o => (e2Z o).2.2.2
  clear e2Z x0 x1 x2 x3 x4 x5 u0 u1 u2 u3 u4 u5 hrn hk2 ef2 E22 HC HK1 E2'
  go_wp2_with fail
  refine bodyPost_ret (v := vaV ⟨5, 0⟩ (some ⟨w2.heap.size, 0, none⟩) 1 1) (by simp [results, Tryd.results22, go_sem, y0, y1, y2]; try exact ⟨rfl, rfl, rfl⟩) rfl ⟨⟨5, 0⟩, [.mk hn kn], some ⟨w2.heap.size, 0, none⟩, 1, S2, rfl, rfl, Nat.le_refl _, (row_three HROW.out fun x hx => by omega).weak fun x hx => by omega, hs2, (three_other (Ne.symm hn1)).trans EF2.out, kept_set (kept_set (kept_set HK2.out (.inl (by omega))) (.inl (by omega))) (.inl (by omega))⟩
theorem tk_alt {x y : Re} (px : TkOkT x) (py : TkOkT y) : TkOkT (rAlt x y) := by
  rintro h ks e P A c S bR w v rest hc hr hP hb hS htz hne ht
  cases e
  obtain ⟨hx, kx⟩ := x
  obtain ⟨hy, ky⟩ := y
  rw [take_alt] at ht
  rcases hS1 : S.data.toList with _ | ⟨c0, s1⟩
  · rw [hS1] at ht; cases ht
  rw [hS1] at ht
  simp only at ht
  by_cases h0 : c0 = 48
  · subst h0
    rw [if_pos rfl] at ht
    rcases e1 : takeT (.mk hx kx) s1 with _ | ⟨v1, r1⟩
    · rw [e1] at ht; cases ht
    · rw [e1] at ht
      simp only [Option.map_some, Option.some.injEq, Prod.mk.injEq] at ht
      obtain ⟨rfl, rfl⟩ := ht
      exact tk_alt0 (px _ _ rfl) P A c S bR w v1 r1 s1 hc hr hP hb hS htz hne hS1 e1
  · rw [if_neg h0] at ht
    by_cases h1 : c0 = 49
    · subst h1
      rw [if_pos rfl] at ht
      rcases e1 : takeT (.mk hy ky) s1 with _ | ⟨v1, r1⟩
      · rw [e1] at ht; cases ht
      · rw [e1] at ht
        simp only [Option.map_some, Option.some.injEq, Prod.mk.injEq] at ht
        obtain ⟨rfl, rfl⟩ := ht
        exact tk_alt1 (py _ _ rfl) P A c S bR w v1 r1 s1 hc hr hP hb hS htz hne hS1 e1
    · rw [if_neg h1] at ht; cases ht
end Go.Proofs.YteokbmngebckjaaDoor
namespace Go.Proofs.YteokbmngebckjaaDoor
open Go.RowKit
set_option linter.unusedVariables false
set_option linter.unusedSimpArgs false

set_option maxRecDepth 100000 in
set_option maxHeartbeats 8000000 in
theorem tk_seq_ {hx : RH} {kx : List Re} {hy : RH} {ky : List Re} (px : TkOk hx kx) (py : TkOk hy ky) (P : Nat → Prop) (A : Option Addr) (c : Nat) (S : ByteArray) (bR : Nat) (w : World) (va vb : Va) (rest s1 : List UInt8) (hc : 2 ≤ c) (hr : InRow RE P w [.mk hx kx, .mk hy ky] A 0) (hP : ∀ x, P x → x ≠ bR) (hb : w.heap[bR]? = some (.cells #[.string S] 56 (0, 0))) (hS : S.size ≤ 1000000000) (htz : TzOk w) (hne : bR ≠ 0)
    (hl1 : s1.length ≤ 1000000000) (ht : takeT (.mk hx kx) S.data.toList = some (va, s1)) (ht2 : takeT (.mk hy ky) s1 = some (vb, rest)) :
    Calls Tryd.prog 22 #[.pointer (some ⟨bR, 0, none⟩), reV ⟨4, S4.zero⟩ A 2 c] w (TkPost (vPair va vb) rest bR w) := by
  obtain ⟨hh, hhh⟩ : ∃ hh : RH, hh = ⟨4, S4.zero⟩ := ⟨_, rfl⟩
  have g2 : ((hh.k.toNat : Int) == 2) = false := by rw [hhh]; rfl
  have g3 : ((hh.k.toNat : Int) == 3) = false := by rw [hhh]; rfl
  have g4 : ((hh.k.toNat : Int) == 4) = true := by rw [hhh]; rfl
  rw [show reV ⟨4, S4.zero⟩ A 2 c = reV hh A 2 c by rw [hhh]]
  clear hhh
  have hbl := lt_of_block hb
  obtain ⟨W, hW, hbW, hsW, e1W, e2W⟩ := reva_pre w hh A 2 c
  have efW := (hbW.block _ hbl).trans hb
  have HE := Lib.hid hW
  have HBW := Lib.hid hbW
  have HSW := Lib.hid hsW
  have E1 := Lib.hid e1W
  have E2 := Lib.hid e2W
  have EF := Lib.hid efW
  have HR := Lib.hid (hr.below hbW)
  have HTZ := Lib.hid (htz.below hbW)
  have hn0 : w.heap.size ≠ bR := by omega
  have hn1 : w.heap.size + 1 ≠ bR := by omega
  have HSL := Lib.hid hl1
  have HT2 := Lib.hid ht2
  obtain ⟨ad, A1, c1, hA, hc1, hr1, u0, u1, u2, u3, u4, u5⟩ := kid0N HR.out
  subst hA
  have HC : Hid (Calls Tryd.prog 22 #[.pointer (some ⟨bR, 0, none⟩), reV hx A1 kx.length c1] W (TkPost va s1 bR W)) := px _ A1 c1 S bR W va s1 hc1 hr1 hP EF.out hS HTZ.out hne ht
  clear hW hbW e1W e2W hsW hr hb htz efW hr1 ht ht2 hl1 px
  go_enter Tryd.func22, Tryd.ntmps22
  go_upto_region 1 with fail
  rw [show (w.alloc _).alloc _ = W from HE.out]
  obtain ⟨x0, x1, x2, x3, x4, x5⟩ := re_at_box E1.out
  go_wp2_with fail
  refine HC.out.mono ?_
  rintro e w1 ⟨hn, kn, An, cn, S1, rfl, rfl, hcn, hrn, hs1, ef1, hk1⟩
  clear x0 x1 x2 x3 x4 x5 HC u0 u1 u2 u3 u4 u5
  obtain ⟨V, hV⟩ : ∃ V, w1.alloc (.cells (vaA hn An kn.length cn) 32) = V := ⟨_, rfl⟩
  have hbV : Below w1.heap.size w1 V := by rw [← hV]; exact below_new (Below.refl _ _) _
  have hsV : V.heap.size = w1.heap.size + 1 := by rw [← hV]; simp
  have e5V : V.heap[w1.heap.size]? = some (.cells (vaA hn An kn.length cn) 32 (0, 0)) := by rw [← hV]; exact new_at1 _
  have hsz1 := hk1.size
  have hsw := HSW.out
  have hn5 : w1.heap.size ≠ bR := by have := hbl; omega
  have e1V := (hbV.block _ (lt_of_block (kept_blk hk1 E1.out hn0))).trans (kept_blk hk1 E1.out hn0)
  have e2V := (hbV.block _ (lt_of_block (kept_blk hk1 E2.out hn1))).trans (kept_blk hk1 E2.out hn1)
  have efV := (hbV.block _ (lt_of_block ef1)).trans ef1
  have hrV := (kept_row HR.out hk1 hP).below hbV
  have htzV := (kept_tz HTZ.out hk1 hne).below hbV
  have HRN := Lib.hid (hrn.below hbV)
  have HKV := Lib.hid (kept_trans (kept_trans (kept_below HBW.out) hk1) (kept_below hbV))
  obtain ⟨ad', A2, c2, hA2, hc2, hr2, v0, v1, v2, v3, v4, v5⟩ := kid1N hrV
  obtain rfl := Option.some.inj hA2
  have HC2 : Hid (∀ X, (X = V ∨ X = V.drew) → Calls Tryd.prog 22 #[.pointer (some ⟨bR, 0, none⟩), reV hy A2 ky.length c2] X (TkPost vb rest bR V)) := fun X hX => by
    have hz : S1.size ≤ 1000000000 := by rw [← sl_, hs1]; exact HSL.out
    rcases hX with rfl | rfl
    · exact py _ A2 c2 S1 bR _ vb rest hc2 hr2 hP efV hz htzV hne (by rw [hs1]; exact HT2.out)
    · exact (py _ A2 c2 S1 bR V.drew vb rest hc2 (hr2.below (Below.refl _ _).drew) hP efV hz htzV hne (by rw [hs1]; exact HT2.out)).mono fun e w' ⟨h', k', A', c', S2, b1, b2, b3, b4, b5, b6, b7⟩ => ⟨h', k', A', c', S2, b1, b2, b3, b4, b5, b6, kept_trans (kept_drew (kept_below (Below.refl _ _))) b7⟩
  have Q : Hid (∀ X, Kept V bR X → (X.cell? ⟨w.heap.size, 5, none⟩ = some (.slice (some ad) 2 c) ∧ X.cell? ⟨ad.block, ad.off + 6, none⟩ = some (.int .u8 (hy.k.toNat : Int)) ∧ X.cell? ⟨ad.block, ad.off + 6 + 1, none⟩ = some (.int .u64 (hy.s.a.toNat : Int)) ∧ X.cell? ⟨ad.block, ad.off + 6 + 2, none⟩ = some (.int .u64 (hy.s.b.toNat : Int)) ∧ X.cell? ⟨ad.block, ad.off + 6 + 3, none⟩ = some (.int .u64 (hy.s.c.toNat : Int)) ∧ X.cell? ⟨ad.block, ad.off + 6 + 4, none⟩ = some (.int .u64 (hy.s.d.toNat : Int)) ∧ X.cell? ⟨ad.block, ad.off + 6 + 5, none⟩ = some (.slice A2 ky.length c2)) ∧
      X.cell? ⟨w1.heap.size, 0, none⟩ = some (.int .u8 (hn.k.toNat : Int)) ∧ X.cell? ⟨w1.heap.size, 1, none⟩ = some (.int .u8 (hn.b.toNat : Int)) ∧ X.cell? ⟨w1.heap.size, 2, none⟩ = some (.slice An kn.length cn)) := fun X hX => by
    obtain ⟨_, _, _, _, _, a5⟩ := re_at_box (kept_blk hX e1V hn0)
    obtain ⟨ad2, A3, c3, hA3, hc3, _, v0', v1', v2', v3', v4', v5'⟩ := kid1N (kept_row hrV hX hP)
    obtain rfl := Option.some.inj hA3
    obtain ⟨z0, z1, z2⟩ := va_at_box (kept_blk hX e5V hn5)
    have hv5 : X.cell? ⟨ad.block, ad.off + 6 + 5, none⟩ = some (.slice A2 ky.length c2) := by
      have h1 := World.block_lt_of_cell? V _ v5
      have hPb : ad.block ≠ bR := by
        have := hrV
        simp only [InRow, InT] at this
        obtain ⟨⟨ad3, cs, e3, hp3, _⟩, _⟩ := this
        cases e3
        exact hP _ hp3
      exact (World.cell?_of_block (hX.block _ h1 (fun e => hPb (Option.some.inj e)))).trans v5
    exact ⟨⟨a5, v0', v1', v2', v3', v4', hv5⟩, z0, z1, z2⟩
  have E2V := Lib.hid e2V
  have HCN := Lib.hid hcn
  have HS1 := Lib.hid hs1
  have HVV := Lib.hid hV
  have HSV := Lib.hid hsV
  clear hV hbV e1V e2V e5V efV hrV htzV hr2 v0 v1 v2 v3 v4 v5 hrn hk1 ef1 hs1 HR HTZ hcn E1 E2 EF py HT2 hsV
  go_upto_region 8 with fail
  rw [show w1.alloc _ = V from HVV.out]
  have hz : Kept V bR V := kept_below (Below.refl _ _)
  obtain ⟨⟨x5, v0, v1, v2, v3, v4, v5⟩, z0, z1, z2⟩ := Q.out _ hz
  have ENTRY := Lib.hid True.intro
  go_region_law
    (first
      | (go_simp; go_at_call 22; (with_reducible refine (HC2.out _ (by first | exact .inl rfl | exact .inr rfl | fail)).mono ?_); rintro e w2 ⟨hm, km, Am, cm, S2, rfl, evb, hcm, hrm, hs2, ef2, hk2⟩; obtain ⟨⟨x5, v0, v1, v2, v3, v4, v5⟩, z0, z1, z2⟩ := Q.out _ hk2; have E22 := Lib.hid (kept_blk hk2 E2V.out hn1); obtain ⟨⟨y0, y1, y2⟩, f0, f1, f2⟩ := va_cells E22.out; have y0a := fun ob => (va_cells (heap_keep1 E22.out ob)).1.1; have y1a := fun ob => (va_cells (heap_keep1 E22.out ob)).1.2.1; have y2a := fun ob => (va_cells (heap_keep1 E22.out ob)).1.2.2; have f0a := fun ob => (va_cells (heap_keep1 E22.out ob)).2.1; have f1a := fun ob => (va_cells (heap_keep1 E22.out ob)).2.2.1; have f2a := fun ob => (va_cells (heap_keep1 E22.out ob)).2.2.2)
      | fail)
  all_goals
    have hsz2 := hk2.size
    have hsv := HSV.out
    have hnb := below_new (Below.refl w2.heap.size w2) (.cells (vaA hn An kn.length cn ++ vaA hm Am km.length cm) 32)
    have m2 := new_at1 (w := w2) (.cells (vaA hn An kn.length cn ++ vaA hm Am km.length cm) 32)
    have hrn2 : InRow VE (fun x => w.heap.size + 1 + 1 ≤ x) w2 kn An 0 := (HRN.out.there.grown hk2 (fun x hx e => by have := Option.some.inj e; have := hx.1; omega)).weak fun x hx => by have := hx.1; omega
    have HROW := Lib.hid (va_two (P := fun x => w.heap.size + 1 + 1 ≤ x) m2 rfl (by omega) HCN.out (hrn2.below hnb) hcm ((hrm.below hnb).weak fun x hx => by omega))
    have HK2 := Lib.hid (kept_new (kept_trans HKV.out hk2) (.cells (vaA hn An kn.length cn ++ vaA hm Am km.length cm) 32))
    have EF2 := Lib.hid (heap_keep1 ef2 (.cells (vaA hn An kn.length cn ++ vaA hm Am km.length cm) 32))
    have hsiz : (w2.alloc (.cells (vaA hn An kn.length cn ++ vaA hm Am km.length cm) 32)).heap.size = w2.heap.size + 1 := by simp
    clear hrn2 hnb m2 hk2 ef2 hrm Q HC2 x5 v0 v1 v2 v3 v4 v5 z0 z1 z2
    go_wp2_with fail
    refine bodyPost_ret (v := vaV ⟨3, 0⟩ (some ⟨w2.heap.size, 0, none⟩) 2 2) (by simp [results, Tryd.results22, go_sem, y0a, y1a, y2a]; try exact ⟨rfl, rfl, rfl⟩) rfl ⟨⟨3, 0⟩, [.mk hn kn, .mk hm km], some ⟨w2.heap.size, 0, none⟩, 2, S2, rfl, by rw [evb], Nat.le_refl _, (row_three HROW.out fun x hx => by omega).weak fun x hx => by omega, hs2, (three_other (Ne.symm hn1)).trans EF2.out, kept_set (kept_set (kept_set HK2.out (.inl (by omega))) (.inl (by omega))) (.inl (by omega))⟩
theorem tk_seq {x y : Re} (hox : okT x = true) (px : TkOkT x) (py : TkOkT y) : TkOkT (rSeq x y) := by
  rintro h ks e P A c S bR w v rest hc hr hP hb hS htz hne ht
  cases e
  obtain ⟨hx, kx⟩ := x
  obtain ⟨hy, ky⟩ := y
  rw [take_seq] at ht
  rcases e1 : takeT (.mk hx kx) S.data.toList with _ | ⟨va, s1⟩
  · rw [e1] at ht; cases ht
  rw [e1] at ht
  simp only at ht
  rcases e2 : takeT (.mk hy ky) s1 with _ | ⟨vb, s2⟩
  · rw [e2] at ht; cases ht
  rw [e2] at ht
  simp only [Option.map_some, Option.some.injEq, Prod.mk.injEq] at ht
  obtain ⟨rfl, rfl⟩ := ht
  have hl := take_len _ hox _ _ _ e1
  rw [sl_] at hl
  exact tk_seq_ (px _ _ rfl) (py _ _ rfl) P A c S bR w va vb s2 s1 hc hr hP hb hS htz hne (by omega) e1 e2
end Go.Proofs.YteokbmngebckjaaDoor
namespace Go.Proofs.YteokbmngebckjaaDoor
open Go.RowKit
set_option linter.unusedVariables false
set_option linter.unusedSimpArgs false

/-- how long the text is that a reader's box holds -/
def rdLen (w : World) (b : Nat) : Nat := match w.cell? ⟨b, 0, none⟩ with | some (.string s) => s.size | _ => 0
theorem rdLen_eq {w : World} {b : Nat} {S : ByteArray} {t : TypeId} (h : w.heap[b]? = some (.cells #[.string S] t (0, 0))) : rdLen w b = S.size := by
  have := (fil_cells h).1
  simp [rdLen, this]
set_option maxRecDepth 100000 in
set_option maxHeartbeats 16000000 in
theorem tk_star_ {hx : RH} {kx : List Re} (hox : okT (.mk hx kx) = true) (px : TkOk hx kx) (P : Nat → Prop) (A : Option Addr) (c : Nat) (S : ByteArray) (bR : Nat) (w : World) (full : List Va) (rest : List UInt8) (hc : 1 ≤ c) (hr : InRow RE P w [.mk hx kx] A 0) (hP : ∀ x, P x → x ≠ bR) (hb : w.heap[bR]? = some (.cells #[.string S] 56 (0, 0))) (hS : S.size ≤ 1000000000) (htz : TzOk w) (hne : bR ≠ 0)
    (ht : starT (.mk hx kx) S.data.toList = some (full, rest)) :
    Calls Tryd.prog 22 #[.pointer (some ⟨bR, 0, none⟩), reV ⟨6, S4.zero⟩ A 1 c] w (TkPost (vStars full) rest bR w) := by
  obtain ⟨hh, hhh⟩ : ∃ hh : RH, hh = ⟨6, S4.zero⟩ := ⟨_, rfl⟩
  have g2 : ((hh.k.toNat : Int) == 2) = false := by rw [hhh]; rfl
  have g3 : ((hh.k.toNat : Int) == 3) = false := by rw [hhh]; rfl
  have g4 : ((hh.k.toNat : Int) == 4) = false := by rw [hhh]; rfl
  have g5 : ((hh.k.toNat : Int) == 5) = false := by rw [hhh]; rfl
  have g6 : ((hh.k.toNat : Int) == 6) = true := by rw [hhh]; rfl
  rw [show reV ⟨6, S4.zero⟩ A 1 c = reV hh A 1 c by rw [hhh]]
  clear hhh
  have hbl := lt_of_block hb
  obtain ⟨W, hW, hbW, hsW, e1W, e2W⟩ := reva_pre w hh A 1 c
  have efW := (hbW.block _ hbl).trans hb
  have HE := Lib.hid hW
  have HBW := Lib.hid hbW
  have HSW := Lib.hid hsW
  have E1 := Lib.hid e1W
  have E2 := Lib.hid e2W
  have EF := Lib.hid efW
  have HR := Lib.hid (hr.below hbW)
  have HTZ := Lib.hid (htz.below hbW)
  have hn0 : w.heap.size ≠ bR := by omega
  have hn1 : w.heap.size + 1 ≠ bR := by omega
  obtain ⟨V, hV⟩ : ∃ V, W.alloc (.cells #[.int .u8 6, .int .u8 0, .slice none 0 0] 32) = V := ⟨_, rfl⟩
  have hbV : Below W.heap.size W V := by rw [← hV]; exact below_new (Below.refl _ _) _
  have hsV : V.heap.size = w.heap.size + 1 + 1 + 1 := by rw [← hV, World.size_alloc, hsW]
  have e6V : V.heap[w.heap.size + 1 + 1]? = some (.cells #[.int .u8 6, .int .u8 0, .slice none 0 0] 32 (0, 0)) := by rw [← hV, ← hsW]; exact new_at1 _
  have E1V := Lib.hid ((hbV.block _ (lt_of_block e1W)).trans e1W)
  have E2V := Lib.hid ((hbV.block _ (lt_of_block e2W)).trans e2W)
  have EFV := Lib.hid ((hbV.block _ (lt_of_block efW)).trans efW)
  have E6V := Lib.hid e6V
  have HKV : Hid (Kept w bR V) := kept_below (below_from hbW hbV)
  have HVV := Lib.hid hV
  have HSV := Lib.hid hsV
  have HR0 := Lib.hid hr
  have HTZ0 := Lib.hid htz
  have HBL := Lib.hid hbl
  have HT := Lib.hid ht
  have HSS : Hid (([] : List Va).length + S.size ≤ 1000000000) := by unfold Hid; simpa using hS
  have HO0 : Hid (OwnT VE (fun _ => False) V (w.heap.size + 1 + 1 + 1) 32 (.slice none 0 0) []) := OwnT.nil_ _ _ _ _ _
  have HZV : Hid (w.heap.size + 1 + 1 + 1 ≤ V.heap.size) := by unfold Hid; omega
  have hn2 : w.heap.size + 1 + 1 ≠ bR := by omega
  clear hW hbW e1W e2W hsW hr hb htz efW ht hV hbV e6V hsV hbl HR HTZ
  go_enter Tryd.func22, Tryd.ntmps22
  go_upto_region 1 with fail
  rw [show (w.alloc _).alloc _ = W from HE.out]
  obtain ⟨x0, x1, x2, x3, x4, x5⟩ := re_at_box E1.out
  have hsw := HSW.out
  go_wp2_with fail
  rw [show W.alloc _ = V from HVV.out]
  clear x0 x1 x2 x3 x4 x5 HVV HE E1 E2 EF hsw HSW
  go_loopw [] (fun wr => ∃ (o : Value) (okk : Nat → Prop) (l m : List Va) (Sr : ByteArray), Hid (starT (.mk hx kx) Sr.data.toList = some (m, rest)) ∧ Hid (l ++ m = full) ∧ Hid (l.length + Sr.size ≤ 1000000000) ∧
    Hid (OwnT VE okk wr (w.heap.size + 1 + 1 + 1) 32 o l) ∧ Hid (∀ x, okk x → w.heap.size + 1 + 1 + 1 ≤ x ∧ x < wr.heap.size) ∧ Hid (wr.heap[w.heap.size + 1 + 1]? = some (.cells #[.int .u8 6, .int .u8 0, o] 32 (0, 0))) ∧ Hid (wr.heap[bR]? = some (.cells #[.string Sr] 56 (0, 0))) ∧
    Hid (wr.heap[w.heap.size]? = some (.cells (reA hh A 1 c) 27 (0, 0))) ∧ Hid (wr.heap[w.heap.size + 1]? = some (.cells vaZ 32 (0, 0))) ∧ Hid (w.heap.size + 1 + 1 + 1 ≤ wr.heap.size) ∧ Hid (Kept w bR wr)) (fun wr => rdLen wr bR)
  case atStart => exact ⟨_, fun _ => False, [], full, S, HT, rfl, HSS, HO0, Lib.hid (fun x hx => hx.elim), E6V, EFV, E1V, E2V, HZV, HKV⟩
  case round =>
    clear E1V E2V EFV E6V HKV HO0 HSS HT HZV HSV
    obtain ⟨o, okk, l, m, Sr, HST, HLM, HLS, HOw, HK, E6, EF, E1, E2, HSZ, HKP⟩ := hrel
    have hbl := HBL.out
    have hszr := HSZ.out
    rcases hSr : Sr.data.toList with _ | ⟨c0, s1⟩
    · exfalso
      have := HST.out
      rw [hSr, starT_nil] at this
      cases this
    have hlen : s1.length + 1 = Sr.size := by rw [← sl_, hSr]; rfl
    by_cases h9 : c0 = 49
    · subst h9
      have hst := HST.out
      rw [hSr, starT_end] at hst
      cases hst
      have hfull : l = full := by have := HLM.out; rwa [List.append_nil] at this
      subst hfull
      have HBIT := Lib.hid (bit_any Sr 49 rest bR wr hSr (.inr rfl) EF.out)
      obtain ⟨A3, c3, hv3, hc3, hr3⟩ := HOw.out.row
      have HR3 := Lib.hid (hr3.weak (ok' := fun x => w.heap.size + 1 + 1 + 1 ≤ x) fun x hx => by
        rcases hx with hx | hx
        · exact (HK.out x hx).1
        · exact (own_inE HOw.out hx).1)
      have HC3 := Lib.hid hc3
      subst hv3
      clear hr3 hc3 HST hlen hSr HK HOw HLM
      go_wp2_with fail
      refine HBIT.out.mono ?_
      rintro e w1 ⟨S1, rfl, hs1, ef1, hk1⟩
      obtain ⟨⟨x0, x1, x2⟩, xf0, xf1, xf2⟩ := va_cells (kept_blk hk1 E6.out hn2)
      have e21 := kept_blk hk1 E2.out hn1
      obtain ⟨⟨y0, y1, y2⟩, f0, f1, f2⟩ := va_cells e21
      have HK1 := Lib.hid (kept_trans HKP.out hk1)
      have HR4 := Lib.hid (HR3.out.grown hk1 (fun x hx e => by have := Option.some.inj e; omega))
      have EF1 := Lib.hid ef1
      clear hk1 ef1 e21 HBIT HR3
      go_wp2_with fail
      refine bodyPost_ret (v := vaV ⟨6, 0⟩ A3 l.length c3) (by simp [results, Tryd.results22, go_sem, y0, y1, y2]; try exact ⟨rfl, rfl, rfl⟩) rfl ⟨⟨6, 0⟩, l, A3, c3, S1, rfl, rfl, HC3.out, (row_three HR4.out fun x hx => by omega).weak fun x hx => by omega, hs1, (three_other (Ne.symm hn1)).trans EF1.out, kept_set (kept_set (kept_set HK1.out (.inl (by omega))) (.inl (by omega))) (.inl (by omega))⟩
    · by_cases h8 : c0 = 48
      · subst h8
        have hst := HST.out
        rw [hSr, starT_more hox] at hst
        rcases e1 : takeT (.mk hx kx) s1 with _ | ⟨v1, s2⟩
        · rw [e1] at hst; cases hst
        rw [e1] at hst
        simp only at hst
        rcases e2 : starT (.mk hx kx) s2 with _ | ⟨m2, s3⟩
        · rw [e2] at hst; cases hst
        rw [e2] at hst
        simp only [Option.map_some, Option.some.injEq, Prod.mk.injEq] at hst
        obtain ⟨rfl, rfl⟩ := hst
        have hl2 := take_len _ hox _ _ _ e1
        have HE1 := Lib.hid e1
        have HE2 := Lib.hid e2
        have HBIT := Lib.hid (bit_any Sr 48 s1 bR wr hSr (.inl rfl) EF.out)
        have HLEN := Lib.hid hlen
        have HL2 := Lib.hid hl2
        have HEF0 := EF
        clear hSr e1 e2 HST hlen hl2
        go_wp2_with fail
        refine HBIT.out.mono ?_
        rintro e w1 ⟨S1, rfl, hs1, ef1, hk1⟩
        have hs1s : S1.size = s1.length := by rw [← sl_, hs1]
        have hsz1 := hk1.size
        have E61 := Lib.hid (kept_blk hk1 E6.out hn2)
        have E11 := Lib.hid (kept_blk hk1 E1.out hn0)
        have E21 := Lib.hid (kept_blk hk1 E2.out hn1)
        have HKP1 := Lib.hid (kept_trans HKP.out hk1)
        have HO1 := Lib.hid (HOw.out.grown_bE hk1 (by omega) (fun x hx => by have := (HK.out x hx).1; omega))
        have HK1 : Hid (∀ x, okk x → w.heap.size + 1 + 1 + 1 ≤ x ∧ x < w1.heap.size) := fun x hx => ⟨(HK.out x hx).1, by have := (HK.out x hx).2; omega⟩
        have hrow := kept_row HR0.out HKP1.out hP
        have htz1 := kept_tz HTZ0.out HKP1.out hne
        obtain ⟨ad, A1, c1, hA, hc1, hr1, u0, u1, u2, u3, u4, u5⟩ := kid0N hrow
        subst hA
        have HC2 : Hid (∀ X, (X = w1 ∨ X = w1.drew) → Calls Tryd.prog 22 #[.pointer (some ⟨bR, 0, none⟩), reV hx A1 kx.length c1] X (TkPost v1 s2 bR w1)) := fun X hX => by
          have hz : S1.size ≤ 1000000000 := by have := HLEN.out; have := HLS.out; omega
          rcases hX with rfl | rfl
          · exact px _ A1 c1 S1 bR _ v1 s2 hc1 hr1 hP ef1 hz htz1 hne (by rw [hs1]; exact HE1.out)
          · exact (px _ A1 c1 S1 bR w1.drew v1 s2 hc1 (hr1.below (Below.refl _ _).drew) hP ef1 hz htz1 hne (by rw [hs1]; exact HE1.out)).mono fun e w' ⟨h', k', A', c', S2, b1, b2, b3, b4, b5, b6, b7⟩ => ⟨h', k', A', c', S2, b1, b2, b3, b4, b5, b6, kept_trans (kept_drew (kept_below (Below.refl _ _))) b7⟩
        have Q : Hid (∀ X, Kept w1 bR X → X.cell? ⟨w.heap.size + 1 + 1, 2, none⟩ = some o ∧ X.cell? ⟨w.heap.size, 5, none⟩ = some (.slice (some ad) 1 c) ∧ X.cell? ad = some (.int .u8 (hx.k.toNat : Int)) ∧ X.cell? ⟨ad.block, ad.off + 1, none⟩ = some (.int .u64 (hx.s.a.toNat : Int)) ∧ X.cell? ⟨ad.block, ad.off + 2, none⟩ = some (.int .u64 (hx.s.b.toNat : Int)) ∧ X.cell? ⟨ad.block, ad.off + 3, none⟩ = some (.int .u64 (hx.s.c.toNat : Int)) ∧ X.cell? ⟨ad.block, ad.off + 4, none⟩ = some (.int .u64 (hx.s.d.toNat : Int)) ∧ X.cell? ⟨ad.block, ad.off + 5, none⟩ = some (.slice A1 kx.length c1)) := fun X hX => by
          obtain ⟨_, _, a2⟩ := va_at_box (kept_blk hX E61.out hn2)
          obtain ⟨_, _, _, _, _, a5⟩ := re_at_box (kept_blk hX E11.out hn0)
          obtain ⟨ad2, A3, c3, hA3, hc3, _, u0', u1', u2', u3', u4', u5'⟩ := kid0N (kept_row hrow hX hP)
          obtain rfl := Option.some.inj hA3
          have hu5 : X.cell? ⟨ad.block, ad.off + 5, none⟩ = some (.slice A1 kx.length c1) := by
            have h1 := World.block_lt_of_cell? w1 _ u5
            have hPb : ad.block ≠ bR := by
              have := hrow
              simp only [InRow, InT] at this
              obtain ⟨⟨ad3, cs, e3, hp3, _⟩, _⟩ := this
              cases e3
              exact hP _ hp3
            exact (World.cell?_of_block (hX.block _ h1 (fun e => hPb (Option.some.inj e)))).trans u5
          exact ⟨a2, a5, u0', u1', u2', u3', u4', hu5⟩
        have HS1S := Lib.hid hs1s
        have hob : Hid (∀ j, o.ownBlock = some j → w.heap.size + 1 + 1 + 1 ≤ j ∧ j < w1.heap.size) := fun j hj => own_inE HO1.out hj
        clear hrow htz1 hr1 u0 u1 u2 u3 u4 u5 hk1 ef1 hs1 hs1s E6 E1 E2 HKP HOw HK HBIT EF HE1
        have hz : Kept w1 bR w1 := kept_below (Below.refl _ _)
        obtain ⟨r2, x5, u0, u1, u2, u3, u4, u5⟩ := Q.out _ hz
        go_upto_region 16 with fail
        have ENTRY := Lib.hid True.intro
        go_region_law
          (first
            | (go_simp; go_at_call 22; (with_reducible refine (HC2.out _ (by first | exact .inl rfl | exact .inr rfl | fail)).mono ?_); rintro e w2 ⟨hm, km, Am, cm, S2, rfl, evb, hcm, hrm, hs2, ef2, hk2⟩; obtain ⟨r2, x5, u0, u1, u2, u3, u4, u5⟩ := Q.out _ hk2; have r2a := fun ob => keep_cell (below_new (Below.refl w2.heap.size w2) ob) r2; have hsz2 := hk2.size; have HO2 := HO1.out.grown_bE hk2 (by omega) (fun x hx => by have := (HK1.out x hx).1; omega); obtain ⟨cs0, hown0, hsrc, happ⟩ := va_app (P := fun x => w1.heap.size ≤ x ∧ x < w2.heap.size) HO2 (fun x hx => by have := (HK1.out x hx).2; omega) (fun x hx => ⟨hx.2, fun e => by have := (hob.out x e.symm).2; have := hx.1; omega⟩) (Below.refl _ _) evb hcm (hrm.there.weak fun x hx => .inl hx))
            | (refine step_app _ (by rfl) (.tmp 64) (.tmp 71) 30 (by rfl) (w.heap.size + 1 + 1 + 1) 32 _ 3 32 Tryd.underlying30 Tryd.info_va rfl (by decide) o l.length cs0 (by rfl) hown0 (some ⟨w2.heap.size, 0, none⟩) 1 1 _ (by rfl) hsrc (vaA_one hm Am km.length cm) (by have := HLS.out; unfold maxLen; omega) (by have := HLS.out; omega) (by rw [World.size_alloc]; omega) ?_; intro v5 w5 ho5 hg5 hat5; have hr5 := happ v5 w5 ho5 hg5 hat5; obtain ⟨A5, c5, hv5, _, _⟩ := own_slice ho5; subst hv5; have hs5 := hg5.size; rw [World.size_alloc] at hs5; have hzx := below_new (Below.refl w2.heap.size w2) (.cells (vaA hm Am km.length cm) 32); have e62 := kept_blk hk2 E61.out hn2; have e65 := (hzx.block _ (lt_of_block e62)).trans e62; have e66 := (hg5.block _ (lt_of_block e65) (fun e => by have := (hob.out _ e.symm).1; omega)).trans e65; obtain ⟨⟨a0, a1, a2⟩, b0, b1, b2⟩ := va_cells e66)
            | fail)
        all_goals
          have e12 := kept_blk hk2 E11.out hn0
          have e22 := kept_blk hk2 E21.out hn1
          have e15 := (hg5.block _ (by rw [World.size_alloc]; have := lt_of_block e12; omega) (fun e => by have := (hob.out _ e.symm).1; omega)).trans ((hzx.block _ (lt_of_block e12)).trans e12)
          have e25 := (hg5.block _ (by rw [World.size_alloc]; have := lt_of_block e22; omega) (fun e => by have := (hob.out _ e.symm).1; omega)).trans ((hzx.block _ (lt_of_block e22)).trans e22)
          have ef5 := (hg5.block _ (by rw [World.size_alloc]; have := lt_of_block ef2; omega) (fun e => by have := (hob.out _ e.symm).1; omega)).trans ((hzx.block _ (lt_of_block ef2)).trans ef2)
          have hk5 := kept_grown (kept_new (kept_trans HKP1.out hk2) (.cells (vaA hm Am km.length cm) 32)) hg5 (fun j hj => .inl (by have := (hob.out j hj).1; omega))
          have E66 := Lib.hid (two_setCell (u2 := .slice A5 (l.length + 1) c5) e66)
          have E16 := Lib.hid ((Below.heap_setCell w5 ⟨w.heap.size + 1 + 1, 2, none⟩ (.slice A5 (l.length + 1) c5) _ (by show w.heap.size ≠ w.heap.size + 1 + 1; omega)).trans e15)
          have E26 := Lib.hid ((Below.heap_setCell w5 ⟨w.heap.size + 1 + 1, 2, none⟩ (.slice A5 (l.length + 1) c5) _ (by show w.heap.size + 1 ≠ w.heap.size + 1 + 1; omega)).trans e25)
          have EF6 := Lib.hid ((Below.heap_setCell w5 ⟨w.heap.size + 1 + 1, 2, none⟩ (.slice A5 (l.length + 1) c5) _ (by show bR ≠ w.heap.size + 1 + 1; omega)).trans ef5)
          have HK6 : Hid (Kept w bR (w5.setCell ⟨w.heap.size + 1 + 1, 2, none⟩ (.slice A5 (l.length + 1) c5))) := kept_set hk5 (.inl (by omega))
          have hok5 : ∀ x, (okk x ∨ (w1.heap.size ≤ x ∧ x < w2.heap.size) ∨ (w2.heap.size ≤ x ∧ x < w2.heap.size)) → w.heap.size + 1 + 1 + 1 ≤ x ∧ x < w5.heap.size := fun x hx => by
            rcases hx with hx | hx | hx
            · have := HK1.out x hx; exact ⟨this.1, by omega⟩
            · exact ⟨by omega, by omega⟩
            · omega
          have HO6 := Lib.hid (hr5.grown_bE (set_grown w5 (w.heap.size + 1 + 1) 2 (.slice A5 (l.length + 1) c5)) (by omega) (fun x hx => by have := (hok5 x hx).1; omega))
          have HK7 : Hid (∀ x, (okk x ∨ (w1.heap.size ≤ x ∧ x < w2.heap.size) ∨ (w2.heap.size ≤ x ∧ x < w2.heap.size)) → w.heap.size + 1 + 1 + 1 ≤ x ∧ x < (w5.setCell ⟨w.heap.size + 1 + 1, 2, none⟩ (.slice A5 (l.length + 1) c5)).heap.size) := fun x hx => by have := hok5 x hx; simpa using this
          have hs2s : S2.size = s2.length := by rw [← sl_, hs2]
          have HST2 : Hid (starT (.mk hx kx) S2.data.toList = some (m2, s3)) := by unfold Hid; rw [hs2]; exact HE2.out
          have HLM2 : Hid ((l ++ [v1]) ++ m2 = full) := by unfold Hid; have := HLM.out; rw [List.append_assoc]; exact this
          have HLS2 : Hid ((l ++ [v1]).length + S2.size ≤ 1000000000) := by unfold Hid; have := HLS.out; have := HLEN.out; have := HL2.out; rw [List.length_append, List.length_singleton]; omega
          have HSZ6 : Hid (w.heap.size + 1 + 1 + 1 ≤ (w5.setCell ⟨w.heap.size + 1 + 1, 2, none⟩ (.slice A5 (l.length + 1) c5)).heap.size) := by unfold Hid; simp; omega
          have HM1 := Lib.hid (rdLen_eq HEF0.out)
          have HM2 := Lib.hid (rdLen_eq EF6.out)
          have HLT : Hid (S2.size < Sr.size) := by unfold Hid; have := HLEN.out; have := HL2.out; omega
          have HLL : Hid ((l ++ [v1]).length = l.length + 1) := by unfold Hid; simp
          clear ho5 hg5 hat5 hown0 hsrc happ e12 e22 e15 e25 e62 e65 e66 ef5 hk5 hr5 hok5 hzx hs5 r2 r2a x5 u0 u1 u2 u3 u4 u5 a0 a1 a2 b0 b1 b2 hk2 ef2 hrm HO2 hs2s Q HC2
          go_wp2_with fail
          go_roundw
          case rel => exact ⟨_, _, l ++ [v1], m2, S2, HST2, HLM2, HLS2, HO6, HK7, E66, EF6, E16, E26, HSZ6, HK6⟩
          case measure => rw [HM1.out, HM2.out]; exact HLT.out
      · exfalso
        have := HST.out
        rw [hSr, starT_bad _ _ _ h8 h9] at this
        cases this
theorem tk_star {x : Re} (hox : okT x = true) (px : TkOkT x) : TkOkT (rStar x) := by
  rintro h ks e P A c S bR w v rest hc hr hP hb hS htz hne ht
  cases e
  obtain ⟨hx, kx⟩ := x
  rw [take_starT] at ht
  rcases e1 : starT (.mk hx kx) S.data.toList with _ | ⟨l, s1⟩
  · rw [e1] at ht; cases ht
  rw [e1] at ht
  simp only [Option.map_some, Option.some.injEq, Prod.mk.injEq] at ht
  obtain ⟨rfl, rfl⟩ := ht
  exact tk_star_ hox (px _ _ rfl) P A c S bR w l s1 hc hr hP hb hS htz hne e1
theorem tk_all : ∀ t : Re, okT t = true → TkOkT t := by
  refine okT_ind ?_ ?_ ?_ ?_ ?_ ?_
  · rintro h ks e P A c S bR w v rest hc hr hP hb hS htz hne ht
    cases e
    rw [take_emp] at ht
    cases ht
  · exact tk_eps
  · intro s hs; exact tk_cls hs
  · intro x y hx hy ihx ihy; exact tk_seq hx ihx ihy
  · intro x y hx hy ihx ihy; exact tk_alt ihx ihy
  · intro x hx ih; exact tk_star hx ih
end Go.Proofs.YteokbmngebckjaaDoor
namespace Go.Proofs.YteokbmngebckjaaDoor
open Go.RowKit
set_option linter.unusedVariables false
set_option linter.unusedSimpArgs false

set_option maxRecDepth 100000 in
set_option maxHeartbeats 1000000 in
theorem idleTk_any (p q r : Value) (w : World) :
    CallsD Tryd.prog 21 #[p, q, r] .returning w fun e u' w' => e = .returned (.tuple #[]) ∧ u' = .returning ∧ w' = w := by
  refine callsD_of_wpS Tryd.func21 rfl fun c₀ cs hu => ?_
  apply wpS_seq
  apply wpS_region
  simp [wpOpsS, go_sem, recoverD, hu, Tryd.ntmps21, Exit.thenS]
  refine wpS_of_wp ?_
  go_wp2_with fail
  cases c₀
  simp_all [bodyPostS, results, Tryd.results21]

def TakePost (v : Va) (rest : List UInt8) (w : World) (e : Ending) (w' : World) : Prop := ∃ h' k' A' c' S2, e = .returned (.tuple #[vaV h' A' k'.length c', .string S2, .bool true]) ∧ v = .mk h' k' ∧ k'.length ≤ c' ∧ InRow VE (fun x => w.heap.size ≤ x) w' k' A' 0 ∧ S2.data.toList = rest ∧ Below w.heap.size w w'
theorem below_kept {w x y : World} {b : Nat} (h : Below w.heap.size w x) (k : Kept x b y) (hb : w.heap.size ≤ b) : Below w.heap.size w y :=
  ⟨k.os.trans h.os, k.tape.trans h.tape, k.output.trans h.output, Nat.le_trans h.size k.size, fun j hj => (k.block j (Nat.lt_of_lt_of_le hj h.size) (fun e => by have := Option.some.inj e; omega)).trans (h.block j hj)⟩
set_option maxRecDepth 100000 in
set_option maxHeartbeats 8000000 in
theorem take_some {P : Nat → Prop} (h : RH) (ks : List Re) (A : Option Addr) (c : Nat) (S : ByteArray) (w : World) (v : Va) (rest : List UInt8) (hm : T.sizes ks ≤ 900000) (hmy : mayB (.mk h ks) = true) (hc : ks.length ≤ c) (hr : InRow RE P w ks A 0) (hS : S.size ≤ 1000000000) (htz : TzOk w) (ht : takeT (.mk h ks) S.data.toList = some (v, rest)) :
    Calls Tryd.prog 8 #[reV h A ks.length c, .string S] w (TakePost v rest w) := by
  have hmf : ∀ (fn : Fn) (first cap : Array Value) (w : World), (Instr.makeFunc fn first cap).run Tryd.prog w = .ok (.func fn first cap) w := fun _ _ _ _ => rfl
  obtain ⟨W0, hW0, hbW0, hsW0, e1W0, e2W0⟩ := reva_pre w h A ks.length c
  obtain ⟨W, hW⟩ : ∃ W, (W0.alloc (.cells #[.string ⟨#[]⟩] 9)).alloc (.cells #[.bool false] 4) = W := ⟨_, rfl⟩
  have hb0W : Below W0.heap.size W0 W := by rw [← hW]; exact below_new (below_new (Below.refl _ _) _) _
  have hsW : W.heap.size = w.heap.size + 1 + 1 + 1 + 1 := by rw [← hW]; simp [hsW0]
  have e3W : W.heap[w.heap.size + 1 + 1]? = some (.cells #[.string ⟨#[]⟩] 9 (0, 0)) := by rw [← hW, ← hsW0]; exact heap_keep1 (new_at1 _) _
  have e4W : W.heap[w.heap.size + 1 + 1 + 1]? = some (.cells #[.bool false] 4 (0, 0)) := by
    rw [← hW]
    have := new_at1 (w := W0.alloc (.cells #[.string ⟨#[]⟩] 9)) (.cells #[.bool false] 4)
    rw [World.size_alloc, hsW0] at this
    exact this
  have e1W := (hb0W.block _ (lt_of_block e1W0)).trans e1W0
  have e2W := (hb0W.block _ (lt_of_block e2W0)).trans e2W0
  have hbW := below_from hbW0 hb0W
  rw [← hW0] at hW
  obtain ⟨V, hV⟩ : ∃ V, W.alloc (.cells (reA h A ks.length c) 27) = V := ⟨_, rfl⟩
  have hbV : Below W.heap.size W V := by rw [← hV]; exact below_new (Below.refl _ _) _
  have e5V : V.heap[W.heap.size]? = some (.cells (reA h A ks.length c) 27 (0, 0)) := by rw [← hV]; exact new_at1 _
  have hbwV := below_from hbW hbV
  have HM : Hid (Calls Tryd.prog 20 #[.slice (some ⟨W.heap.size, 0, none⟩) 1 1] V fun e w' => e = .returned (.bool true) ∧ Below V.heap.size V w') := by
    have := May_any (ok := fun _ => True) [T.mk h ks] (some ⟨W.heap.size, 0, none⟩) 1 V (by simp only [T.sizes, T.size]; omega) (row_one e5V trivial hc ((hr.weak fun _ _ => trivial).below hbwV))
    unfold Hid
    simpa [hmy] using this
  have HE := Lib.hid hW
  have HV := Lib.hid hV
  have HBW := Lib.hid hbW
  have HBV := Lib.hid hbwV
  have HSW := Lib.hid hsW
  have E1 := Lib.hid e1W
  have E1V := Lib.hid ((hbV.block _ (lt_of_block e1W)).trans e1W)
  have E2V := Lib.hid ((hbV.block _ (lt_of_block e2W)).trans e2W)
  have E3V := Lib.hid ((hbV.block _ (lt_of_block e3W)).trans e3W)
  have E4V := Lib.hid ((hbV.block _ (lt_of_block e4W)).trans e4W)
  have HR := Lib.hid (hr.there.below hbwV)
  have HTZ := Lib.hid (htz.below hbwV)
  have HOK := Lib.hid (tk_all _ (may_okT hmy) h ks rfl)
  have HT := Lib.hid ht
  have HSV : Hid (V.heap.size = w.heap.size + 1 + 1 + 1 + 1 + 1) := by unfold Hid; rw [← hV, World.size_alloc, hsW]
  have HTB : Hid (0 < w.heap.size) := World.block_lt_of_cell? w _ (htz 0)
  clear hW0 hbW0 hsW0 e1W0 e2W0 hW hb0W hsW e3W e4W e1W e2W hbW hV hbV e5V hbwV hr htz ht hmy
  go_enter_defers Tryd.func8, Tryd.ntmps8
  go_upto_region 1 with fail
  rw [show (((w.alloc _).alloc _).alloc _).alloc _ = W from HE.out]
  obtain ⟨x0, x1, x2, x3, x4, x5⟩ := re_at_box E1.out
  go_wp2_with fail
  rw [show W.alloc _ = V from HV.out]
  refine HM.out.mono ?_
  rintro e w1 ⟨rfl, hb1⟩
  clear x0 x1 x2 x3 x4 x5 HM
  have hsv := HSV.out
  obtain ⟨X, hX⟩ : ∃ X, w1.alloc (.cells #[.string S] 56) = X := ⟨_, rfl⟩
  have hbX : Below w1.heap.size w1 X := by rw [← hX]; exact below_new (Below.refl _ _) _
  have hb1X := below_from hb1 hbX
  have hsz1 := hb1.size
  have hefX : X.heap[w1.heap.size]? = some (.cells #[.string S] 56 (0, 0)) := by rw [← hX]; exact new_at1 _
  have E1X := Lib.hid ((hb1X.block _ (lt_of_block E1V.out)).trans E1V.out)
  have E2X := Lib.hid ((hb1X.block _ (lt_of_block E2V.out)).trans E2V.out)
  have E3X := Lib.hid ((hb1X.block _ (lt_of_block E3V.out)).trans E3V.out)
  have E4X := Lib.hid ((hb1X.block _ (lt_of_block E4V.out)).trans E4V.out)
  have htb := HTB.out
  have HC := Lib.hid (HOK.out _ A c S w1.heap.size X v rest hc (HR.out.below hb1X) (fun x hx => by have := hx.2; omega) hefX hS (HTZ.out.below hb1X) (by omega) HT.out)
  have HBX := Lib.hid (below_from HBV.out hb1X)
  have HXX := Lib.hid hX
  have hsX : X.heap.size = w1.heap.size + 1 := by rw [← hX]; simp
  have HSX := Lib.hid hsX
  clear hX hbX hb1X hefX hb1 hsX E1 E1V E2V E3V E4V HR HTZ HOK HT hsv htb
  go_upto_region 5 with fail
  rw [show w1.alloc _ = X from HXX.out]
  obtain ⟨x0, x1, x2, x3, x4, x5⟩ := re_at_box E1X.out
  go_wp2_with fail
  refine HC.out.mono ?_
  rintro e w2 ⟨hn, kn, An, cn, S2, rfl, rfl, hcn, hrn, hs2, ef2, hk2⟩
  have hsv := HSV.out
  have hsx := HSX.out
  have e22 := kept_blk hk2 E2X.out (by omega)
  have e32 := kept_blk hk2 E3X.out (by omega)
  have e42 := kept_blk hk2 E4X.out (by omega)
  have hB2 := below_kept HBX.out hk2 (by omega)
  have hsz2 := hk2.size
  obtain ⟨⟨y0, y1, y2⟩, f0, f1, f2⟩ := va_cells e22
  have hn1 : w.heap.size + 1 ≠ w1.heap.size := by omega
  have hn3 : w.heap.size + 1 + 1 ≠ w.heap.size + 1 := by omega
  have hn4 : w.heap.size + 1 + 1 + 1 ≠ w.heap.size + 1 := by omega
  have E23 := Lib.hid (three_setCells (u0 := .int .u8 (hn.k.toNat : Int)) (u1 := .int .u8 (hn.b.toNat : Int)) (u2 := .slice An kn.length cn) e22)
  have E33 := Lib.hid ((three_other (u0 := .int .u8 (hn.k.toNat : Int)) (u1 := .int .u8 (hn.b.toNat : Int)) (u2 := .slice An kn.length cn) hn3).trans e32)
  have E43 := Lib.hid ((three_other (u0 := .int .u8 (hn.k.toNat : Int)) (u1 := .int .u8 (hn.b.toNat : Int)) (u2 := .slice An kn.length cn) hn4).trans e42)
  have EF3 := Lib.hid ((three_other (u0 := .int .u8 (hn.k.toNat : Int)) (u1 := .int .u8 (hn.b.toNat : Int)) (u2 := .slice An kn.length cn) (Ne.symm hn1)).trans ef2)
  have HB3 := Lib.hid (three_below (u0 := .int .u8 (hn.k.toNat : Int)) (u1 := .int .u8 (hn.b.toNat : Int)) (u2 := .slice An kn.length cn) hB2 (show w.heap.size ≤ w.heap.size + 1 by omega))
  have HR3 := Lib.hid (row_three (u0 := .int .u8 (hn.k.toNat : Int)) (u1 := .int .u8 (hn.b.toNat : Int)) (u2 := .slice An kn.length cn) hrn (fun x hx => by show x ≠ w.heap.size + 1; omega))
  clear hk2 e22 e32 e42 ef2 hrn hB2 x0 x1 x2 x3 x4 x5 E1X E2X E3X E4X HC hsv hsx
  go_upto_region 6 with fail
  obtain ⟨w3, hw3⟩ : ∃ w3, ((w2.setCell ⟨w.heap.size + 1, 0, none⟩ (.int .u8 (hn.k.toNat : Int))).setCell ⟨w.heap.size + 1, 1, none⟩ (.int .u8 (hn.b.toNat : Int))).setCell ⟨w.heap.size + 1, 2, none⟩ (.slice An kn.length cn) = w3 := ⟨_, rfl⟩
  rw [hw3] at E23 E33 E43 EF3 HB3 HR3 ⊢
  clear y0 y1 y2 f0 f1 f2 hw3
  obtain ⟨⟨y0, y1, y2⟩, f0, f1, f2⟩ := va_cells E23.out
  obtain ⟨p0, pf0⟩ := fil_cells EF3.out
  obtain ⟨z0, zf0⟩ := fil_cells E33.out
  obtain ⟨t0, tf0⟩ := fil_cells E43.out
  go_region
  have q1 := three_setCells (w := w3) (u0 := .int .u8 (hn.k.toNat : Int)) (u1 := .int .u8 (hn.b.toNat : Int)) (u2 := .slice An kn.length cn) E23.out
  have hB4 := three_below (x := w3) (u0 := .int .u8 (hn.k.toNat : Int)) (u1 := .int .u8 (hn.b.toNat : Int)) (u2 := .slice An kn.length cn) HB3.out (show w.heap.size ≤ w.heap.size + 1 by omega)
  have hr4 := row_three (w := w3) (u0 := .int .u8 (hn.k.toNat : Int)) (u1 := .int .u8 (hn.b.toNat : Int)) (u2 := .slice An kn.length cn) HR3.out (fun x hx => by show x ≠ w.heap.size + 1; have := HSV.out; have := HSX.out; omega)
  have e34 := (three_other (w := w3) (u0 := .int .u8 (hn.k.toNat : Int)) (u1 := .int .u8 (hn.b.toNat : Int)) (u2 := .slice An kn.length cn) hn3).trans E33.out
  have e44 := (three_other (w := w3) (u0 := .int .u8 (hn.k.toNat : Int)) (u1 := .int .u8 (hn.b.toNat : Int)) (u2 := .slice An kn.length cn) hn4).trans E43.out
  generalize hw4 : ((w3.setCell ⟨w.heap.size + 1, 0, none⟩ (.int .u8 (hn.k.toNat : Int))).setCell ⟨w.heap.size + 1, 1, none⟩ (.int .u8 (hn.b.toNat : Int))).setCell ⟨w.heap.size + 1, 2, none⟩ (.slice An kn.length cn) = w4 at *
  have n34 : w.heap.size + 1 + 1 ≠ w.heap.size + 1 + 1 + 1 := by omega
  have g3 : ((w4.setCell ⟨w.heap.size + 1 + 1, 0, none⟩ (.string S2)).setCell ⟨w.heap.size + 1 + 1 + 1, 0, none⟩ (.bool true)).heap[w.heap.size + 1 + 1]? = some (.cells #[.string S2] 9 (0, 0)) := (Below.heap_setCell _ _ _ _ n34).trans (fil_set e34)
  have g4 : ((w4.setCell ⟨w.heap.size + 1 + 1, 0, none⟩ (.string S2)).setCell ⟨w.heap.size + 1 + 1 + 1, 0, none⟩ (.bool true)).heap[w.heap.size + 1 + 1 + 1]? = some (.cells #[.bool true] 4 (0, 0)) := fil_set ((Below.heap_setCell w4 ⟨w.heap.size + 1 + 1, 0, none⟩ (.string S2) _ (Ne.symm n34)).trans e44)
  have g1 : ((w4.setCell ⟨w.heap.size + 1 + 1, 0, none⟩ (.string S2)).setCell ⟨w.heap.size + 1 + 1 + 1, 0, none⟩ (.bool true)).heap[w.heap.size + 1]? = _ := (Below.heap_setCell _ ⟨w.heap.size + 1 + 1 + 1, 0, none⟩ _ _ (Ne.symm hn4)).trans ((Below.heap_setCell w4 ⟨w.heap.size + 1 + 1, 0, none⟩ (.string S2) _ (Ne.symm hn3)).trans q1)
  have HB5 := Lib.hid (((hB4.setCell (p := ⟨w.heap.size + 1 + 1, 0, none⟩) (by show w.heap.size ≤ w.heap.size + 1 + 1; omega) (.string S2)).setCell (p := ⟨w.heap.size + 1 + 1 + 1, 0, none⟩) (by show w.heap.size ≤ w.heap.size + 1 + 1 + 1; omega) (.bool true)).drew)
  have HR5 := Lib.hid ((row_setV (b := w.heap.size + 1 + 1 + 1) (o := 0) (u := .bool true) (row_setV (b := w.heap.size + 1 + 1) (o := 0) (u := .string S2) hr4 (fun x hx => by have := HSV.out; have := HSX.out; omega)) (fun x hx => by have := HSV.out; have := HSX.out; omega)).below (Below.refl _ _).drew)
  generalize (w4.setCell ⟨w.heap.size + 1 + 1, 0, none⟩ (.string S2)).setCell ⟨w.heap.size + 1 + 1 + 1, 0, none⟩ (.bool true) = w5 at *
  change w5.drew.heap[w.heap.size + 1]? = _ at g1
  change w5.drew.heap[w.heap.size + 1 + 1]? = _ at g3
  change w5.drew.heap[w.heap.size + 1 + 1 + 1]? = _ at g4
  generalize w5.drew = w6 at *
  obtain ⟨⟨d0, d1, d2⟩, _⟩ := va_cells g1
  obtain ⟨d3, _⟩ := fil_cells g3
  obtain ⟨d4, _⟩ := fil_cells g4
  have hsv := HSV.out
  have hsx := HSX.out
  clear q1 hB4 hr4 e34 e44 g1 g3 g4 y0 y1 y2 f0 f1 f2 p0 pf0 z0 zf0 t0 tf0 E23 E33 E43 EF3 HB3 HR3
  go_wp2_with fail
  refine leaves_cons (f := 21) (args := #[.pointer (some ⟨w.heap.size + 1, 0, none⟩), .pointer (some ⟨w.heap.size + 1 + 1, 0, none⟩), .pointer (some ⟨w.heap.size + 1 + 1 + 1, 0, none⟩)]) (by simp) (by simp [go_sem]) ?_
  refine (idleTk_any _ _ _ _).mono ?_
  rintro e u' w'' ⟨rfl, rfl, rfl⟩
  exact ⟨.tuple #[vaV hn An kn.length cn, .string S2, .bool true], by simp [results, Tryd.results8, go_sem, d0, d1, d2, d3, d4], hn, kn, An, cn, S2, rfl, rfl, hcn, HR5.out.weak fun x hx => by omega, hs2, HB5.out⟩
end Go.Proofs.YteokbmngebckjaaDoor
namespace Go.Proofs.YteokbmngebckjaaDoor
open Go.RowKit
set_option linter.unusedVariables false
set_option linter.unusedSimpArgs false

def DecPost (v : Va) (b : Bool) (w : World) (e : Ending) (w' : World) : Prop := ∃ h' k' A' c', e = .returned (.tuple #[vaV h' A' k'.length c', .bool b]) ∧ v = .mk h' k' ∧ k'.length ≤ c' ∧ InRow VE (fun x => w.heap.size ≤ x) w' k' A' 0 ∧ Below w.heap.size w w'
set_option maxRecDepth 100000 in
set_option maxHeartbeats 8000000 in
theorem dec_some {P : Nat → Prop} (h : RH) (ks : List Re) (A : Option Addr) (c : Nat) (S : ByteArray) (w : World) (v : Va) (rest : List UInt8) (hm : T.sizes ks ≤ 900000) (hmy : mayB (.mk h ks) = true) (hc : ks.length ≤ c) (hr : InRow RE P w ks A 0) (hS : S.size ≤ 1000000000) (htz : TzOk w) (ht : takeT (.mk h ks) S.data.toList = some (v, rest)) :
    Calls Tryd.prog 10 #[reV h A ks.length c, .string S] w (DecPost (if rest = [] then v else .mk vaH0 []) (decide (rest = [])) w) := by
  obtain ⟨W, hW, hbW, hsW, e1W, e2W⟩ := reva_pre w h A ks.length c
  have HC := Lib.hid (take_some h ks A c S W v rest hm hmy hc (hr.below hbW) hS (htz.below hbW) ht)
  have HE := Lib.hid hW
  have HBW := Lib.hid hbW
  have HSW := Lib.hid hsW
  have E1 := Lib.hid e1W
  have E2 := Lib.hid e2W
  clear hW hbW hsW e1W e2W hr htz ht hmy
  obtain ⟨vv, hvv⟩ : ∃ vv, (if rest = [] then v else .mk vaH0 []) = vv := ⟨_, rfl⟩
  obtain ⟨bb, hbb⟩ : ∃ bb, decide (rest = []) = bb := ⟨_, rfl⟩
  rw [hvv, hbb]
  have HVV := Lib.hid hvv
  have HBB := Lib.hid hbb
  clear hvv hbb
  go_enter Tryd.func10, Tryd.ntmps10
  go_upto_region 1 with fail
  rw [show (w.alloc _).alloc _ = W from HE.out]
  obtain ⟨x0, x1, x2, x3, x4, x5⟩ := re_at_box E1.out
  go_wp2_with fail
  refine HC.out.mono ?_
  rintro e w1 ⟨hn, kn, An, cn, S2, rfl, rfl, hcn, hrn, hs2, hb1⟩
  clear x0 x1 x2 x3 x4 x5 HC
  obtain ⟨X, hX⟩ : ∃ X, w1.alloc (.cells (vaA hn An kn.length cn) 32) = X := ⟨_, rfl⟩
  have hbX : Below w1.heap.size w1 X := by rw [← hX]; exact below_new (Below.refl _ _) _
  have n6 : X.heap[w1.heap.size]? = some (.cells (vaA hn An kn.length cn) 32 (0, 0)) := by rw [← hX]; exact new_at1 _
  have hs1 := hb1.size
  have hsw := HSW.out
  have hb1X := below_from hb1 hbX
  have E2X := Lib.hid ((hb1X.block _ (lt_of_block E2.out)).trans E2.out)
  have HB := Lib.hid (below_from HBW.out hb1X)
  have HRN := Lib.hid ((hrn.weak (ok' := fun x => w.heap.size + 1 + 1 ≤ x) fun x hx => by omega).below hbX)
  have N6 := Lib.hid n6
  have HCN := Lib.hid hcn
  have HXX := Lib.hid hX
  clear hX hbX n6 hrn hcn hb1 hs1 hsw HSW E1 E2 HBW hb1X
  by_cases l0 : S2.size = 0
  · have t2 := sl_empty l0
    have hre : rest = [] := by rw [← hs2]; exact List.eq_nil_of_length_eq_zero (by rw [sl_]; exact l0)
    obtain rfl : bb = true := by rw [← HBB.out]; exact decide_eq_true hre
    have HVN : Hid (vv = .mk hn kn) := by unfold Hid; rw [← HVV.out, if_pos hre]
    clear l0 hre hs2 HBB HVV
    go_upto_region 2 with fail
    rw [show w1.alloc _ = X from HXX.out]
    obtain ⟨⟨y0, y1, y2⟩, f0, f1, f2⟩ := va_cells E2X.out
    obtain ⟨x0, x1, x2⟩ := va_at_box N6.out
    go_wp2_with fail
    refine bodyPost_ret (v := .tuple #[vaV hn An kn.length cn, .bool true]) (by simp [results, Tryd.results10, go_sem, y0, y1, y2]; try exact ⟨rfl, rfl, rfl⟩) rfl ⟨hn, kn, An, cn, rfl, HVN.out, HCN.out, (row_three HRN.out fun x hx => by omega).weak fun x hx => by omega, three_below HB.out (by omega)⟩
  · have t2 := sl_full l0
    have hre : rest ≠ [] := fun e => l0 (by rw [← sl_, hs2, e]; rfl)
    obtain rfl : bb = false := by rw [← HBB.out]; exact decide_eq_false hre
    have HVN : Hid (vv = .mk vaH0 []) := by unfold Hid; rw [← HVV.out, if_neg hre]
    clear l0 hre hs2 HBB HVV
    go_upto_region 2 with fail
    rw [show w1.alloc _ = X from HXX.out]
    obtain ⟨⟨y0, y1, y2⟩, f0, f1, f2⟩ := va_cells E2X.out
    go_wp2_with fail
    refine bodyPost_ret (v := .tuple #[vaV vaH0 none 0 0, .bool false]) (by simp [results, Tryd.results10, go_sem, y0, y1, y2]; try exact ⟨rfl, rfl, rfl⟩) rfl ⟨vaH0, [], none, 0, rfl, HVN.out, Nat.le_refl _, by simp [InRow], three_below HB.out (by omega)⟩
end Go.Proofs.YteokbmngebckjaaDoor
