/- The reader of bits: where there is no such bit, no such value, it throws. -/
import Derived.Test.YteokbmngebckjaaDoorBy
import Derived.Test.YteokbmngebckjaaDoorCb
import Derived.WalkSmall
namespace Go.Proofs.YteokbmngebckjaaDoor
open Go.RowKit
set_option linter.unusedVariables false
set_option linter.unusedSimpArgs false

/-- what is thrown -/
abbrev shortCh : List PanicEntry := [{ v := .iface 53 (.agg #[]), recovered := false }]
def TnPost (bR : Nat) (w : World) (e : Ending) (w' : World) : Prop := e = .panicked shortCh ∧ Kept w bR w'
set_option maxRecDepth 100000 in
set_option maxHeartbeats 1000000 in
theorem bit_none (S : ByteArray) (bR : Nat) (w : World) (hS : S.data.toList = [] ∨ ∃ c rest, S.data.toList = c :: rest ∧ c ≠ 48 ∧ c ≠ 49) (hb : w.heap[bR]? = some (.cells #[.string S] 56 (0, 0))) :
    Calls Tryd.prog 36 #[.pointer (some ⟨bR, 0, none⟩)] w fun e w' => e = .panicked shortCh ∧ w' = w := by
  obtain ⟨p0, pf0⟩ := fil_cells hb
  rcases hS with hS | ⟨c, rest, hS, h0, h1⟩
  · have t2 := sl_empty (S := S) (by rw [← sl_, hS]; rfl)
    clear hS
    go_enter Tryd.func36, Tryd.ntmps36
    go_wp2_with fail
    exact ⟨rfl, rfl, rfl⟩
  · have hlt : 0 < S.size := by rw [← sl_, hS]; simp
    have t2 := sl_full (S := S) (by omega)
    have hcb : S[0]'hlt = c := by
      have h' : S.data.toList[0]? = some c := by rw [hS]; rfl
      have h2 : S.data.toList[0]? = some (S[0]'hlt) := by rw [List.getElem?_eq_getElem (by rw [sl_]; exact hlt)]; rfl
      rw [h2] at h'
      exact Option.some.inj h'
    have ea : ((S[0]'hlt).toNat : Int) = (c.toNat : Int) := by rw [hcb]
    have g1 : ((c.toNat : Int) != 48) = true := by have := u8_ne (n := 48) (by decide) h0; simpa using this
    have g2 : ((c.toNat : Int) != 49) = true := by have := u8_ne (n := 49) (by decide) h1; simpa using this
    clear hS hcb h0 h1
    go_enter Tryd.func36, Tryd.ntmps36
    go_wp2_with fail
    exact ⟨rfl, rfl, rfl⟩
def TnOk (h : RH) (ks : List Re) : Prop := ∀ (P : Nat → Prop) (A : Option Addr) (c : Nat) (S : ByteArray) (bR : Nat) (w : World), ks.length ≤ c → InRow RE P w ks A 0 → (∀ x, P x → x ≠ bR) → w.heap[bR]? = some (.cells #[.string S] 56 (0, 0)) → S.size ≤ 1000000000 → TzOk w → bR ≠ 0 → takeT (.mk h ks) S.data.toList = none →
  Calls Tryd.prog 22 #[.pointer (some ⟨bR, 0, none⟩), reV h A ks.length c] w (TnPost bR w)
def TnOkT (t : Re) : Prop := ∀ h ks, t = .mk h ks → TnOk h ks
theorem tn_eps : TnOkT rEps := by
  rintro h ks e P A c S bR w hc hr hP hb hS htz hne ht
  cases e
  rw [take_eps] at ht
  cases ht
theorem tn_cls {S0 : S4} : TnOkT (rCls S0) := by
  rintro h ks e P A c S bR w hc hr hP hb hS htz hne ht
  cases e
  rw [take_cls] at ht
  cases ht
set_option maxRecDepth 100000 in
set_option maxHeartbeats 1000000 in
theorem tn_emp : TnOkT rEmp := by
  rintro h ks e P A c S bR w hc hr hP hb hS htz hne ht
  cases e
  obtain ⟨hh, hhh⟩ : ∃ hh : RH, hh = ⟨1, S4.zero⟩ := ⟨_, rfl⟩
  have g2 : ((hh.k.toNat : Int) == 2) = false := by rw [hhh]; rfl
  have g3 : ((hh.k.toNat : Int) == 3) = false := by rw [hhh]; rfl
  have g4 : ((hh.k.toNat : Int) == 4) = false := by rw [hhh]; rfl
  have g5 : ((hh.k.toNat : Int) == 5) = false := by rw [hhh]; rfl
  have g6 : ((hh.k.toNat : Int) == 6) = false := by rw [hhh]; rfl
  rw [show reV ⟨1, S4.zero⟩ A ([] : List Re).length c = reV hh A 0 c by rw [hhh]; rfl]
  clear hhh
  obtain ⟨W, hW, hbW, hsW, e1W, e2W⟩ := reva_pre w hh A 0 c
  have HE := Lib.hid hW
  have HBW := Lib.hid hbW
  have E1 := Lib.hid e1W
  clear hW hbW e1W e2W hr hb htz hP hsW ht
  go_enter Tryd.func22, Tryd.ntmps22
  go_upto_region 1 with fail
  rw [show (w.alloc _).alloc _ = W from HE.out]
  obtain ⟨x0, x1, x2, x3, x4, x5⟩ := re_at_box E1.out
  go_wp2_with fail
  exact ⟨rfl, rfl, kept_below HBW.out⟩
set_option maxRecDepth 100000 in
set_option maxHeartbeats 4000000 in
theorem tn_alt0 {hx : RH} {kx : List Re} {hy : RH} {ky : List Re} (p : TnOk hx kx) (P : Nat → Prop) (A : Option Addr) (c : Nat) (S : ByteArray) (bR : Nat) (w : World) (hc : 2 ≤ c) (hr : InRow RE P w [.mk hx kx, .mk hy ky] A 0) (hP : ∀ x, P x → x ≠ bR) (hb : w.heap[bR]? = some (.cells #[.string S] 56 (0, 0))) (hS : S.size ≤ 1000000000) (htz : TzOk w) (hne : bR ≠ 0) (s1 : List UInt8)
    (hS1 : S.data.toList = 48 :: s1) (ht : takeT (.mk hx kx) s1 = none) :
    Calls Tryd.prog 22 #[.pointer (some ⟨bR, 0, none⟩), reV ⟨5, S4.zero⟩ A 2 c] w (TnPost bR w) := by
  obtain ⟨hh, hhh⟩ : ∃ hh : RH, hh = ⟨5, S4.zero⟩ := ⟨_, rfl⟩
  have g2 : ((hh.k.toNat : Int) == 2) = false := by rw [hhh]; rfl
  have g3 : ((hh.k.toNat : Int) == 3) = false := by rw [hhh]; rfl
  have g4 : ((hh.k.toNat : Int) == 4) = false := by rw [hhh]; rfl
  have g5 : ((hh.k.toNat : Int) == 5) = true := by rw [hhh]; rfl
  rw [show reV ⟨5, S4.zero⟩ A 2 c = reV hh A 2 c by rw [hhh]]
  clear hhh
  have hbl := lt_of_block hb
  obtain ⟨W, hW, hbW, hsW, e1W, e2W⟩ := reva_pre w hh A 2 c
  have efW := (hbW.block _ hbl).trans hb
  have HBIT := Lib.hid (bit_any S 48 s1 bR W hS1 (.inl rfl) efW)
  have HE := Lib.hid hW
  have HBW := Lib.hid hbW
  have HSW := Lib.hid hsW
  have E1 := Lib.hid e1W
  have HR := Lib.hid (hr.below hbW)
  have HTZ := Lib.hid (htz.below hbW)
  have HSZ : Hid (s1.length ≤ 1000000000) := by
    unfold Hid
    have h1 := congrArg List.length hS1
    rw [sl_, List.length_cons] at h1
    omega
  have hn0 : w.heap.size ≠ bR := by omega
  clear hW hbW hsW e1W e2W hr hb htz efW hS1
  go_enter Tryd.func22, Tryd.ntmps22
  go_upto_region 1 with fail
  rw [show (w.alloc _).alloc _ = W from HE.out]
  obtain ⟨x0, x1, x2, x3, x4, x5⟩ := re_at_box E1.out
  go_wp2_with fail
  refine HBIT.out.mono ?_
  rintro e w1 ⟨S1, rfl, hs1, ef1, hk1⟩
  clear x0 x1 x2 x3 x4 x5 HBIT
  have HR1 := Lib.hid (kept_row HR.out hk1 hP)
  have E11 := kept_blk hk1 E1.out hn0
  have HTZ1 := Lib.hid (kept_tz HTZ.out hk1 hne)
  obtain ⟨x0, x1, x2, x3, x4, x5⟩ := re_at_box E11
  obtain ⟨ad, A1, c1, hA, hc1, hr1, u0, u1, u2, u3, u4, u5⟩ := kid0N HR1.out
  subst hA
  have HC : Hid (Calls Tryd.prog 22 #[.pointer (some ⟨bR, 0, none⟩), reV hx A1 kx.length c1] w1 (TnPost bR w1)) := p _ A1 c1 S1 bR w1 hc1 hr1 hP ef1 (by rw [← sl_, hs1]; exact HSZ.out) HTZ1.out hne (by rw [hs1]; exact ht)
  have HK1 := Lib.hid (kept_trans (kept_below HBW.out) hk1)
  clear hr1 E11 hk1 ef1 hs1 HTZ1 HR1 E1 HR HTZ ht
  go_wp2_with fail
  refine HC.out.mono ?_
  rintro e w2 ⟨rfl, hk2⟩
  exact ⟨rfl, rfl, kept_trans HK1.out hk2⟩
set_option maxRecDepth 100000 in
set_option maxHeartbeats 4000000 in
theorem tn_alt1 {hx : RH} {kx : List Re} {hy : RH} {ky : List Re} (p : TnOk hy ky) (P : Nat → Prop) (A : Option Addr) (c : Nat) (S : ByteArray) (bR : Nat) (w : World) (hc : 2 ≤ c) (hr : InRow RE P w [.mk hx kx, .mk hy ky] A 0) (hP : ∀ x, P x → x ≠ bR) (hb : w.heap[bR]? = some (.cells #[.string S] 56 (0, 0))) (hS : S.size ≤ 1000000000) (htz : TzOk w) (hne : bR ≠ 0) (s1 : List UInt8)
    (hS1 : S.data.toList = 49 :: s1) (ht : takeT (.mk hy ky) s1 = none) :
    Calls Tryd.prog 22 #[.pointer (some ⟨bR, 0, none⟩), reV ⟨5, S4.zero⟩ A 2 c] w (TnPost bR w) := by
  obtain ⟨hh, hhh⟩ : ∃ hh : RH, hh = ⟨5, S4.zero⟩ := ⟨_, rfl⟩
  have g2 : ((hh.k.toNat : Int) == 2) = false := by rw [hhh]; rfl
  have g3 : ((hh.k.toNat : Int) == 3) = false := by rw [hhh]; rfl
  have g4 : ((hh.k.toNat : Int) == 4) = false := by rw [hhh]; rfl
  have g5 : ((hh.k.toNat : Int) == 5) = true := by rw [hhh]; rfl
  rw [show reV ⟨5, S4.zero⟩ A 2 c = reV hh A 2 c by rw [hhh]]
  clear hhh
  have hbl := lt_of_block hb
  obtain ⟨W, hW, hbW, hsW, e1W, e2W⟩ := reva_pre w hh A 2 c
  have efW := (hbW.block _ hbl).trans hb
  have HBIT := Lib.hid (bit_any S 49 s1 bR W hS1 (.inr rfl) efW)
  have HE := Lib.hid hW
  have HBW := Lib.hid hbW
  have HSW := Lib.hid hsW
  have E1 := Lib.hid e1W
  have HR := Lib.hid (hr.below hbW)
  have HTZ := Lib.hid (htz.below hbW)
  have HSZ : Hid (s1.length ≤ 1000000000) := by
    unfold Hid
    have h1 := congrArg List.length hS1
    rw [sl_, List.length_cons] at h1
    omega
  have hn0 : w.heap.size ≠ bR := by omega
  clear hW hbW hsW e1W e2W hr hb htz efW hS1
  go_enter Tryd.func22, Tryd.ntmps22
  go_upto_region 1 with fail
  rw [show (w.alloc _).alloc _ = W from HE.out]
  obtain ⟨x0, x1, x2, x3, x4, x5⟩ := re_at_box E1.out
  go_wp2_with fail
  refine HBIT.out.mono ?_
  rintro e w1 ⟨S1, rfl, hs1, ef1, hk1⟩
  clear x0 x1 x2 x3 x4 x5 HBIT
  have HR1 := Lib.hid (kept_row HR.out hk1 hP)
  have E11 := kept_blk hk1 E1.out hn0
  have HTZ1 := Lib.hid (kept_tz HTZ.out hk1 hne)
  obtain ⟨x0, x1, x2, x3, x4, x5⟩ := re_at_box E11
  obtain ⟨ad, A1, c1, hA, hc1, hr1, u0, u1, u2, u3, u4, u5⟩ := kid1N HR1.out
  subst hA
  have HC : Hid (Calls Tryd.prog 22 #[.pointer (some ⟨bR, 0, none⟩), reV hy A1 ky.length c1] w1 (TnPost bR w1)) := p _ A1 c1 S1 bR w1 hc1 hr1 hP ef1 (by rw [← sl_, hs1]; exact HSZ.out) HTZ1.out hne (by rw [hs1]; exact ht)
  have HK1 := Lib.hid (kept_trans (kept_below HBW.out) hk1)
  clear hr1 E11 hk1 ef1 hs1 HTZ1 HR1 E1 HR HTZ ht
  go_wp2_with fail
  refine HC.out.mono ?_
  rintro e w2 ⟨rfl, hk2⟩
  exact ⟨rfl, rfl, kept_trans HK1.out hk2⟩
set_option maxRecDepth 100000 in
set_option maxHeartbeats 4000000 in
theorem tn_altn {hx : RH} {kx : List Re} {hy : RH} {ky : List Re} (P : Nat → Prop) (A : Option Addr) (c : Nat) (S : ByteArray) (bR : Nat) (w : World) (hc : 2 ≤ c) (hr : InRow RE P w [.mk hx kx, .mk hy ky] A 0) (hP : ∀ x, P x → x ≠ bR) (hb : w.heap[bR]? = some (.cells #[.string S] 56 (0, 0))) (hS : S.size ≤ 1000000000) (htz : TzOk w) (hne : bR ≠ 0) (hS1 : S.data.toList = [] ∨ ∃ c rest, S.data.toList = c :: rest ∧ c ≠ 48 ∧ c ≠ 49) :
    Calls Tryd.prog 22 #[.pointer (some ⟨bR, 0, none⟩), reV ⟨5, S4.zero⟩ A 2 c] w (TnPost bR w) := by
  obtain ⟨hh, hhh⟩ : ∃ hh : RH, hh = ⟨5, S4.zero⟩ := ⟨_, rfl⟩
  have g2 : ((hh.k.toNat : Int) == 2) = false := by rw [hhh]; rfl
  have g3 : ((hh.k.toNat : Int) == 3) = false := by rw [hhh]; rfl
  have g4 : ((hh.k.toNat : Int) == 4) = false := by rw [hhh]; rfl
  have g5 : ((hh.k.toNat : Int) == 5) = true := by rw [hhh]; rfl
  rw [show reV ⟨5, S4.zero⟩ A 2 c = reV hh A 2 c by rw [hhh]]
  clear hhh
  have hbl := lt_of_block hb
  obtain ⟨W, hW, hbW, hsW, e1W, e2W⟩ := reva_pre w hh A 2 c
  have efW := (hbW.block _ hbl).trans hb
  have HBIT := Lib.hid (bit_none S bR W hS1 efW)
  have HE := Lib.hid hW
  have HBW := Lib.hid hbW
  have E1 := Lib.hid e1W
  clear hW hbW hsW e1W e2W hr hb htz efW hS1
  go_enter Tryd.func22, Tryd.ntmps22
  go_upto_region 1 with fail
  rw [show (w.alloc _).alloc _ = W from HE.out]
  obtain ⟨x0, x1, x2, x3, x4, x5⟩ := re_at_box E1.out
  go_wp2_with fail
  refine HBIT.out.mono ?_
  rintro e w1 ⟨rfl, rfl⟩
  exact ⟨rfl, rfl, kept_below HBW.out⟩
theorem tn_alt {x y : Re} (px : TnOkT x) (py : TnOkT y) : TnOkT (rAlt x y) := by
  rintro h ks e P A c S bR w hc hr hP hb hS htz hne ht
  cases e
  obtain ⟨hx, kx⟩ := x
  obtain ⟨hy, ky⟩ := y
  rw [take_alt] at ht
  rcases hS1 : S.data.toList with _ | ⟨c0, s1⟩
  · exact tn_altn P A c S bR w hc hr hP hb hS htz hne (.inl hS1)
  · rw [hS1] at ht
    by_cases h8 : c0 = 48
    · subst h8
      simp at ht
      exact tn_alt0 (px _ _ rfl) P A c S bR w hc hr hP hb hS htz hne s1 hS1 ht
    · by_cases h9 : c0 = 49
      · subst h9
        simp at ht
        exact tn_alt1 (py _ _ rfl) P A c S bR w hc hr hP hb hS htz hne s1 hS1 ht
      · exact tn_altn P A c S bR w hc hr hP hb hS htz hne (.inr ⟨c0, s1, hS1, h8, h9⟩)
end Go.Proofs.YteokbmngebckjaaDoor
