/- The reader of bits: where there is no such value, it throws: at a Star. -/
import Derived.Test.YteokbmngebckjaaDoorTn2
namespace Go.Proofs.YteokbmngebckjaaDoor
open Go.RowKit
set_option linter.unusedVariables false
set_option linter.unusedSimpArgs false

set_option maxRecDepth 100000 in
set_option maxHeartbeats 4000000 in
theorem tn_star_ {hx : RH} {kx : List Re} (hox : okT (.mk hx kx) = true) (px : TkOk hx kx) (pn : TnOk hx kx) (P : Nat → Prop) (A : Option Addr) (c : Nat) (S : ByteArray) (bR : Nat) (w : World) (hc : 1 ≤ c) (hr : InRow RE P w [.mk hx kx] A 0) (hP : ∀ x, P x → x ≠ bR) (hb : w.heap[bR]? = some (.cells #[.string S] 56 (0, 0))) (hS : S.size ≤ 1000000000) (htz : TzOk w) (hne : bR ≠ 0)
    (ht : starT (.mk hx kx) S.data.toList = none) :
    Calls Tryd.prog 22 #[.pointer (some ⟨bR, 0, none⟩), reV ⟨6, S4.zero⟩ A 1 c] w (TnPost bR w) := by
  obtain ⟨hh, hhh⟩ : ∃ hh : RH, hh = ⟨6, S4.zero⟩ := ⟨_, rfl⟩
  have g2 : ((hh.k.toNat : Int) == 2) = false := by rw [hhh]; rfl
  have g3 : ((hh.k.toNat : Int) == 3) = false := by rw [hhh]; rfl
  have g4 : ((hh.k.toNat : Int) == 4) = false := by rw [hhh]; rfl
  have g5 : ((hh.k.toNat : Int) == 5) = false := by rw [hhh]; rfl
  have g6 : ((hh.k.toNat : Int) == 6) = true := by rw [hhh]; rfl
  rw [show reV ⟨6, S4.zero⟩ A 1 c = reV hh A 1 c by rw [hhh]]
  clear hhh
  have hbl := lt_of_block hb
  obtain ⟨W, hW, hbW, hsW, e1W, e2W⟩ := reva_pre w hh A 1 c
  have efW := (hbW.block _ hbl).trans hb
  have HE := Lib.hid hW
  have HBW := Lib.hid hbW
  have HSW := Lib.hid hsW
  have E1 := Lib.hid e1W
  have E2 := Lib.hid e2W
  have EF := Lib.hid efW
  have HR := Lib.hid (hr.below hbW)
  have HTZ := Lib.hid (htz.below hbW)
  have hn0 : w.heap.size ≠ bR := by omega
  have hn1 : w.heap.size + 1 ≠ bR := by omega
  obtain ⟨V, hV⟩ : ∃ V, W.alloc (.cells #[.int .u8 6, .int .u8 0, .slice none 0 0] 32) = V := ⟨_, rfl⟩
  have hbV : Below W.heap.size W V := by rw [← hV]; exact below_new (Below.refl _ _) _
  have hsV : V.heap.size = w.heap.size + 1 + 1 + 1 := by rw [← hV, World.size_alloc, hsW]
  have e6V : V.heap[w.heap.size + 1 + 1]? = some (.cells #[.int .u8 6, .int .u8 0, .slice none 0 0] 32 (0, 0)) := by rw [← hV, ← hsW]; exact new_at1 _
  have E1V := Lib.hid ((hbV.block _ (lt_of_block e1W)).trans e1W)
  have E2V := Lib.hid ((hbV.block _ (lt_of_block e2W)).trans e2W)
  have EFV := Lib.hid ((hbV.block _ (lt_of_block efW)).trans efW)
  have E6V := Lib.hid e6V
  have HKV : Hid (Kept w bR V) := kept_below (below_from hbW hbV)
  have HVV := Lib.hid hV
  have HSV := Lib.hid hsV
  have HR0 := Lib.hid hr
  have HTZ0 := Lib.hid htz
  have HBL := Lib.hid hbl
  have HT := Lib.hid ht
  have HSS : Hid (([] : List Va).length + S.size ≤ 1000000000) := by unfold Hid; simpa using hS
  have HO0 : Hid (OwnT VE (fun _ => False) V (w.heap.size + 1 + 1 + 1) 32 (.slice none 0 0) []) := OwnT.nil_ _ _ _ _ _
  have HZV : Hid (w.heap.size + 1 + 1 + 1 ≤ V.heap.size) := by unfold Hid; omega
  have hn2 : w.heap.size + 1 + 1 ≠ bR := by omega
  clear hW hbW e1W e2W hsW hr hb htz efW ht hV hbV e6V hsV hbl HR HTZ
  go_enter Tryd.func22, Tryd.ntmps22
  go_upto_region 1 with fail
  rw [show (w.alloc _).alloc _ = W from HE.out]
  obtain ⟨x0, x1, x2, x3, x4, x5⟩ := re_at_box E1.out
  have hsw := HSW.out
  go_wp2_with fail
  rw [show W.alloc _ = V from HVV.out]
  clear x0 x1 x2 x3 x4 x5 HVV HE E1 E2 EF hsw HSW
  go_loopw [] (fun wr => ∃ (o : Value) (okk : Nat → Prop) (l : List Va) (Sr : ByteArray), Hid (starT (.mk hx kx) Sr.data.toList = none) ∧ Hid (l.length + Sr.size ≤ 1000000000) ∧
    Hid (OwnT VE okk wr (w.heap.size + 1 + 1 + 1) 32 o l) ∧ Hid (∀ x, okk x → w.heap.size + 1 + 1 + 1 ≤ x ∧ x < wr.heap.size) ∧ Hid (wr.heap[w.heap.size + 1 + 1]? = some (.cells #[.int .u8 6, .int .u8 0, o] 32 (0, 0))) ∧ Hid (wr.heap[bR]? = some (.cells #[.string Sr] 56 (0, 0))) ∧
    Hid (wr.heap[w.heap.size]? = some (.cells (reA hh A 1 c) 27 (0, 0))) ∧ Hid (wr.heap[w.heap.size + 1]? = some (.cells vaZ 32 (0, 0))) ∧ Hid (w.heap.size + 1 + 1 + 1 ≤ wr.heap.size) ∧ Hid (Kept w bR wr)) (fun wr => rdLen wr bR)
  case atStart => exact ⟨_, fun _ => False, [], S, HT, HSS, HO0, Lib.hid (fun x hx => hx.elim), E6V, EFV, E1V, E2V, HZV, HKV⟩
  case round =>
    clear E1V E2V EFV E6V HKV HO0 HSS HT HZV HSV
    obtain ⟨o, okk, l, Sr, HST, HLS, HOw, HK, E6, EF, E1, E2, HSZ, HKP⟩ := hrel
    have hbl := HBL.out
    have hszr := HSZ.out
    rcases hSr : Sr.data.toList with _ | ⟨c0, s1⟩
    · have HBIT := Lib.hid (bit_none Sr bR wr (.inl hSr) EF.out)
      go_wp2_with fail
      refine HBIT.out.mono ?_
      rintro e w1 ⟨rfl, hw1⟩
      subst hw1
      exact ⟨rfl, rfl, HKP.out⟩
    have hlen : s1.length + 1 = Sr.size := by rw [← sl_, hSr]; rfl
    by_cases h9 : c0 = 49
    · exfalso
      have := HST.out
      rw [hSr, h9, starT_end] at this
      cases this
    · by_cases h8 : c0 = 48
      · subst h8
        have hst := HST.out
        rw [hSr, starT_more hox] at hst
        rcases e1 : takeT (.mk hx kx) s1 with _ | ⟨v1, s2⟩
        · clear hst
          have HE1 := Lib.hid e1
          have HBIT := Lib.hid (bit_any Sr 48 s1 bR wr hSr (.inl rfl) EF.out)
          have HLEN := Lib.hid hlen
          have HEF0 := EF
          clear hSr e1 HST hlen
          go_wp2_with fail
          refine HBIT.out.mono ?_
          rintro e w1 ⟨S1, rfl, hs1, ef1, hk1⟩
          have hs1s : S1.size = s1.length := by rw [← sl_, hs1]
          have hsz1 := hk1.size
          have E61 := Lib.hid (kept_blk hk1 E6.out hn2)
          have E11 := Lib.hid (kept_blk hk1 E1.out hn0)
          have E21 := Lib.hid (kept_blk hk1 E2.out hn1)
          have HKP1 := Lib.hid (kept_trans HKP.out hk1)
          have HO1 := Lib.hid (HOw.out.grown_bE hk1 (by omega) (fun x hx => by have := (HK.out x hx).1; omega))
          have HK1 : Hid (∀ x, okk x → w.heap.size + 1 + 1 + 1 ≤ x ∧ x < w1.heap.size) := fun x hx => ⟨(HK.out x hx).1, by have := (HK.out x hx).2; omega⟩
          have hrow := kept_row HR0.out HKP1.out hP
          have htz1 := kept_tz HTZ0.out HKP1.out hne
          obtain ⟨ad, A1, c1, hA, hc1, hr1, u0, u1, u2, u3, u4, u5⟩ := kid0N hrow
          subst hA
          have HC2 : Hid (∀ X, (X = w1 ∨ X = w1.drew) → Calls Tryd.prog 22 #[.pointer (some ⟨bR, 0, none⟩), reV hx A1 kx.length c1] X (TnPost bR w1)) := fun X hX => by
            have hz : S1.size ≤ 1000000000 := by have := HLEN.out; have := HLS.out; omega
            rcases hX with rfl | rfl
            · exact pn _ A1 c1 S1 bR _ hc1 hr1 hP ef1 hz htz1 hne (by rw [hs1]; exact HE1.out)
            · exact (pn _ A1 c1 S1 bR w1.drew hc1 (hr1.below (Below.refl _ _).drew) hP ef1 hz htz1 hne (by rw [hs1]; exact HE1.out)).mono fun e w' ⟨b1, b7⟩ => ⟨b1, kept_trans (kept_drew (kept_below (Below.refl _ _))) b7⟩
          have Q : Hid (∀ X, Kept w1 bR X → X.cell? ⟨w.heap.size + 1 + 1, 2, none⟩ = some o ∧ X.cell? ⟨w.heap.size, 5, none⟩ = some (.slice (some ad) 1 c) ∧ X.cell? ad = some (.int .u8 (hx.k.toNat : Int)) ∧ X.cell? ⟨ad.block, ad.off + 1, none⟩ = some (.int .u64 (hx.s.a.toNat : Int)) ∧ X.cell? ⟨ad.block, ad.off + 2, none⟩ = some (.int .u64 (hx.s.b.toNat : Int)) ∧ X.cell? ⟨ad.block, ad.off + 3, none⟩ = some (.int .u64 (hx.s.c.toNat : Int)) ∧ X.cell? ⟨ad.block, ad.off + 4, none⟩ = some (.int .u64 (hx.s.d.toNat : Int)) ∧ X.cell? ⟨ad.block, ad.off + 5, none⟩ = some (.slice A1 kx.length c1)) := fun X hX => by
            obtain ⟨_, _, a2⟩ := va_at_box (kept_blk hX E61.out hn2)
            obtain ⟨_, _, _, _, _, a5⟩ := re_at_box (kept_blk hX E11.out hn0)
            obtain ⟨ad2, A3, c3, hA3, hc3, _, u0', u1', u2', u3', u4', u5'⟩ := kid0N (kept_row hrow hX hP)
            obtain rfl := Option.some.inj hA3
            have hu5 : X.cell? ⟨ad.block, ad.off + 5, none⟩ = some (.slice A1 kx.length c1) := by
              have h1 := World.block_lt_of_cell? w1 _ u5
              have hPb : ad.block ≠ bR := by
                have := hrow
                simp only [InRow, InT] at this
                obtain ⟨⟨ad3, cs, e3, hp3, _⟩, _⟩ := this
                cases e3
                exact hP _ hp3
              exact (World.cell?_of_block (hX.block _ h1 (fun e => hPb (Option.some.inj e)))).trans u5
            exact ⟨a2, a5, u0', u1', u2', u3', u4', hu5⟩
          have HS1S := Lib.hid hs1s
          have hob : Hid (∀ j, o.ownBlock = some j → w.heap.size + 1 + 1 + 1 ≤ j ∧ j < w1.heap.size) := fun j hj => own_inE HO1.out hj
          clear hrow htz1 hr1 u0 u1 u2 u3 u4 u5 hk1 ef1 hs1 hs1s E6 E1 E2 HKP HOw HK HBIT EF HE1
          have hz : Kept w1 bR w1 := kept_below (Below.refl _ _)
          obtain ⟨r2, x5, u0, u1, u2, u3, u4, u5⟩ := Q.out _ hz
          go_upto_region 16 with fail
          refine wp_region_held_drew (S := fun X => X.cell? ⟨w.heap.size + 1 + 1, 2, none⟩ = some o ∧ X.cell? ⟨w.heap.size, 5, none⟩ = some (.slice (some ad) 1 c) ∧ X.cell? ad = some (.int .u8 (hx.k.toNat : Int)) ∧ X.cell? ⟨ad.block, ad.off + 1, none⟩ = some (.int .u64 (hx.s.a.toNat : Int)) ∧ X.cell? ⟨ad.block, ad.off + 2, none⟩ = some (.int .u64 (hx.s.b.toNat : Int)) ∧ X.cell? ⟨ad.block, ad.off + 3, none⟩ = some (.int .u64 (hx.s.c.toNat : Int)) ∧ X.cell? ⟨ad.block, ad.off + 4, none⟩ = some (.int .u64 (hx.s.d.toNat : Int)) ∧ X.cell? ⟨ad.block, ad.off + 5, none⟩ = some (.slice A1 kx.length c1)) (by kernel_rfl) (Q.out _ (kept_drew hz)) (fun hHeld => ?_)
          refine wpAnyH_take (i := 0) (oi := ⟨some 63, _, _, _, _, _⟩) (v := .pointer (some ⟨w.heap.size + 1 + 1, 2, none⟩)) rfl (by kernel_rfl) (by kernel_rfl) (by kernel_rfl) (fun _ _ _ h => h) (Or.inl ⟨by rfl, ?_⟩) (by assumption) ?_
          · intro wx hSw
            obtain ⟨r2, x5, u0, u1, u2, u3, u4, u5⟩ := hSw
            first | (go_simp; done) | (go_simp; with_reducible rfl) | (go_simp; exact ⟨rfl, rfl, rfl, rfl⟩) | (go_simp; intro hh; exfalso; omega)
          try simp only [Act.put, List.setIfInBounds_toArray, List.set_cons_zero, List.set_cons_succ]
          refine wpAnyH_take (i := 1) (oi := ⟨some 64, _, _, _, _, _⟩) (v := o) rfl (by kernel_rfl) (by kernel_rfl) (by kernel_rfl) (fun _ _ _ h => h) (Or.inl ⟨by rfl, ?_⟩) (by assumption) ?_
          · intro wx hSw
            obtain ⟨r2, x5, u0, u1, u2, u3, u4, u5⟩ := hSw
            first | (go_simp; done) | (go_simp; with_reducible rfl) | (go_simp; exact ⟨rfl, rfl, rfl, rfl⟩) | (go_simp; intro hh; exfalso; omega)
          try simp only [Act.put, List.setIfInBounds_toArray, List.set_cons_zero, List.set_cons_succ]
          refine wpAnyH_take (i := 2) (oi := ⟨some 65, _, _, _, _, _⟩) (v := .pointer (some ⟨bR, 0, none⟩)) rfl (by kernel_rfl) (by kernel_rfl) (by kernel_rfl) (fun _ _ _ h => h) (Or.inl ⟨by rfl, ?_⟩) (by assumption) ?_
          · intro wx hSw
            obtain ⟨r2, x5, u0, u1, u2, u3, u4, u5⟩ := hSw
            first | (go_simp; done) | (go_simp; with_reducible rfl) | (go_simp; exact ⟨rfl, rfl, rfl, rfl⟩) | (go_simp; intro hh; exfalso; omega)
          try simp only [Act.put, List.setIfInBounds_toArray, List.set_cons_zero, List.set_cons_succ]
          refine wpAnyH_take (i := 3) (oi := ⟨some 66, _, _, _, _, _⟩) (v := .pointer (some ⟨w.heap.size, 5, none⟩)) rfl (by kernel_rfl) (by kernel_rfl) (by kernel_rfl) (fun _ _ _ h => h) (Or.inl ⟨by rfl, ?_⟩) (by assumption) ?_
          · intro wx hSw
            obtain ⟨r2, x5, u0, u1, u2, u3, u4, u5⟩ := hSw
            first | (go_simp; done) | (go_simp; with_reducible rfl) | (go_simp; exact ⟨rfl, rfl, rfl, rfl⟩) | (go_simp; intro hh; exfalso; omega)
          try simp only [Act.put, List.setIfInBounds_toArray, List.set_cons_zero, List.set_cons_succ]
          refine wpAnyH_take (i := 4) (oi := ⟨some 67, _, _, _, _, _⟩) (v := .slice (some ad) 1 c) rfl (by kernel_rfl) (by kernel_rfl) (by kernel_rfl) (fun _ _ _ h => h) (Or.inl ⟨by rfl, ?_⟩) (by assumption) ?_
          · intro wx hSw
            obtain ⟨r2, x5, u0, u1, u2, u3, u4, u5⟩ := hSw
            first | (go_simp; done) | (go_simp; with_reducible rfl) | (go_simp; exact ⟨rfl, rfl, rfl, rfl⟩) | (go_simp; intro hh; exfalso; omega)
          try simp only [Act.put, List.setIfInBounds_toArray, List.set_cons_zero, List.set_cons_succ]
          refine wpAnyH_take (i := 5) (oi := ⟨some 68, _, _, _, _, _⟩) (v := .pointer (some ad)) rfl (by kernel_rfl) (by kernel_rfl) (by kernel_rfl) (fun _ _ _ h => h) (Or.inl ⟨by rfl, ?_⟩) (by assumption) ?_
          · intro wx hSw
            obtain ⟨r2, x5, u0, u1, u2, u3, u4, u5⟩ := hSw
            first | (go_simp; done) | (go_simp; with_reducible rfl) | (go_simp; exact ⟨rfl, rfl, rfl, rfl⟩) | (go_simp; intro hh; exfalso; omega)
          try simp only [Act.put, List.setIfInBounds_toArray, List.set_cons_zero, List.set_cons_succ]
          refine wpAnyH_take (i := 6) (oi := ⟨some 69, _, _, _, _, _⟩) (v := reV hx A1 kx.length c1) rfl (by kernel_rfl) (by kernel_rfl) (by kernel_rfl) (fun _ _ _ h => h) (Or.inl ⟨by rfl, ?_⟩) (by assumption) ?_
          · intro wx hSw
            obtain ⟨r2, x5, u0, u1, u2, u3, u4, u5⟩ := hSw
            first | (go_simp; done) | (go_simp; with_reducible rfl) | (go_simp; exact ⟨rfl, rfl, rfl, rfl⟩) | (go_simp; intro hh; exfalso; omega)
          try simp only [Act.put, List.setIfInBounds_toArray, List.set_cons_zero, List.set_cons_succ]
          refine wpAnyH_ready (rs := [7]) (by kernel_rfl) (by simp) ?_
          refine AllReadyH.cons (o := ⟨some 70, .call _, _, _, _, _⟩) rfl (fun K hK => ?_) AllReadyH.nil
          clear hK
          go_simp
          refine (HC2.out _ (.inr rfl)).mono ?_
          rintro e w2 ⟨rfl, hk2⟩
          exact ⟨rfl, rfl, kept_trans HKP1.out hk2⟩
        rw [e1] at hst
        simp only at hst
        have e2 : starT (.mk hx kx) s2 = none := by simpa using hst
        have hl2 := take_len _ hox _ _ _ e1
        have HE1 := Lib.hid e1
        have HE2 := Lib.hid e2
        have HBIT := Lib.hid (bit_any Sr 48 s1 bR wr hSr (.inl rfl) EF.out)
        have HLEN := Lib.hid hlen
        have HL2 := Lib.hid hl2
        have HEF0 := EF
        clear hSr e1 e2 HST hlen hl2
        go_wp2_with fail
        refine HBIT.out.mono ?_
        rintro e w1 ⟨S1, rfl, hs1, ef1, hk1⟩
        have hs1s : S1.size = s1.length := by rw [← sl_, hs1]
        have hsz1 := hk1.size
        have E61 := Lib.hid (kept_blk hk1 E6.out hn2)
        have E11 := Lib.hid (kept_blk hk1 E1.out hn0)
        have E21 := Lib.hid (kept_blk hk1 E2.out hn1)
        have HKP1 := Lib.hid (kept_trans HKP.out hk1)
        have HO1 := Lib.hid (HOw.out.grown_bE hk1 (by omega) (fun x hx => by have := (HK.out x hx).1; omega))
        have HK1 : Hid (∀ x, okk x → w.heap.size + 1 + 1 + 1 ≤ x ∧ x < w1.heap.size) := fun x hx => ⟨(HK.out x hx).1, by have := (HK.out x hx).2; omega⟩
        have hrow := kept_row HR0.out HKP1.out hP
        have htz1 := kept_tz HTZ0.out HKP1.out hne
        obtain ⟨ad, A1, c1, hA, hc1, hr1, u0, u1, u2, u3, u4, u5⟩ := kid0N hrow
        subst hA
        have HC2 : Hid (∀ X, (X = w1 ∨ X = w1.drew) → Calls Tryd.prog 22 #[.pointer (some ⟨bR, 0, none⟩), reV hx A1 kx.length c1] X (TkPost v1 s2 bR w1)) := fun X hX => by
          have hz : S1.size ≤ 1000000000 := by have := HLEN.out; have := HLS.out; omega
          rcases hX with rfl | rfl
          · exact px _ A1 c1 S1 bR _ v1 s2 hc1 hr1 hP ef1 hz htz1 hne (by rw [hs1]; exact HE1.out)
          · exact (px _ A1 c1 S1 bR w1.drew v1 s2 hc1 (hr1.below (Below.refl _ _).drew) hP ef1 hz htz1 hne (by rw [hs1]; exact HE1.out)).mono fun e w' ⟨h', k', A', c', S2, b1, b2, b3, b4, b5, b6, b7⟩ => ⟨h', k', A', c', S2, b1, b2, b3, b4, b5, b6, kept_trans (kept_drew (kept_below (Below.refl _ _))) b7⟩
        have Q : Hid (∀ X, Kept w1 bR X → X.cell? ⟨w.heap.size + 1 + 1, 2, none⟩ = some o ∧ X.cell? ⟨w.heap.size, 5, none⟩ = some (.slice (some ad) 1 c) ∧ X.cell? ad = some (.int .u8 (hx.k.toNat : Int)) ∧ X.cell? ⟨ad.block, ad.off + 1, none⟩ = some (.int .u64 (hx.s.a.toNat : Int)) ∧ X.cell? ⟨ad.block, ad.off + 2, none⟩ = some (.int .u64 (hx.s.b.toNat : Int)) ∧ X.cell? ⟨ad.block, ad.off + 3, none⟩ = some (.int .u64 (hx.s.c.toNat : Int)) ∧ X.cell? ⟨ad.block, ad.off + 4, none⟩ = some (.int .u64 (hx.s.d.toNat : Int)) ∧ X.cell? ⟨ad.block, ad.off + 5, none⟩ = some (.slice A1 kx.length c1)) := fun X hX => by
          obtain ⟨_, _, a2⟩ := va_at_box (kept_blk hX E61.out hn2)
          obtain ⟨_, _, _, _, _, a5⟩ := re_at_box (kept_blk hX E11.out hn0)
          obtain ⟨ad2, A3, c3, hA3, hc3, _, u0', u1', u2', u3', u4', u5'⟩ := kid0N (kept_row hrow hX hP)
          obtain rfl := Option.some.inj hA3
          have hu5 : X.cell? ⟨ad.block, ad.off + 5, none⟩ = some (.slice A1 kx.length c1) := by
            have h1 := World.block_lt_of_cell? w1 _ u5
            have hPb : ad.block ≠ bR := by
              have := hrow
              simp only [InRow, InT] at this
              obtain ⟨⟨ad3, cs, e3, hp3, _⟩, _⟩ := this
              cases e3
              exact hP _ hp3
            exact (World.cell?_of_block (hX.block _ h1 (fun e => hPb (Option.some.inj e)))).trans u5
          exact ⟨a2, a5, u0', u1', u2', u3', u4', hu5⟩
        have HS1S := Lib.hid hs1s
        have hob : Hid (∀ j, o.ownBlock = some j → w.heap.size + 1 + 1 + 1 ≤ j ∧ j < w1.heap.size) := fun j hj => own_inE HO1.out hj
        clear hrow htz1 hr1 u0 u1 u2 u3 u4 u5 hk1 ef1 hs1 hs1s E6 E1 E2 HKP HOw HK HBIT EF HE1
        have hz : Kept w1 bR w1 := kept_below (Below.refl _ _)
        obtain ⟨r2, x5, u0, u1, u2, u3, u4, u5⟩ := Q.out _ hz
        go_upto_region 16 with fail
        have ENTRY := Lib.hid True.intro
        go_region_law
          (first
            | (go_simp; go_at_call 22; (with_reducible refine (HC2.out _ (by first | exact .inl rfl | exact .inr rfl | fail)).mono ?_); rintro e w2 ⟨hm, km, Am, cm, S2, rfl, evb, hcm, hrm, hs2, ef2, hk2⟩; obtain ⟨r2, x5, u0, u1, u2, u3, u4, u5⟩ := Q.out _ hk2; have r2a := fun ob => keep_cell (below_new (Below.refl w2.heap.size w2) ob) r2; have hsz2 := hk2.size; have HO2 := HO1.out.grown_bE hk2 (by omega) (fun x hx => by have := (HK1.out x hx).1; omega); obtain ⟨cs0, hown0, hsrc, happ⟩ := va_app (P := fun x => w1.heap.size ≤ x ∧ x < w2.heap.size) HO2 (fun x hx => by have := (HK1.out x hx).2; omega) (fun x hx => ⟨hx.2, fun e => by have := (hob.out x e.symm).2; have := hx.1; omega⟩) (Below.refl _ _) evb hcm (hrm.there.weak fun x hx => .inl hx))
            | (refine step_app _ (by rfl) (.tmp 64) (.tmp 71) 30 (by rfl) (w.heap.size + 1 + 1 + 1) 32 _ 3 32 Tryd.underlying30 Tryd.info_va rfl (by decide) o l.length cs0 (by rfl) hown0 (some ⟨w2.heap.size, 0, none⟩) 1 1 _ (by rfl) hsrc (vaA_one hm Am km.length cm) (by have := HLS.out; unfold maxLen; omega) (by have := HLS.out; omega) (by rw [World.size_alloc]; omega) ?_; intro v5 w5 ho5 hg5 hat5; have hr5 := happ v5 w5 ho5 hg5 hat5; obtain ⟨A5, c5, hv5, _, _⟩ := own_slice ho5; subst hv5; have hs5 := hg5.size; rw [World.size_alloc] at hs5; have hzx := below_new (Below.refl w2.heap.size w2) (.cells (vaA hm Am km.length cm) 32); have e62 := kept_blk hk2 E61.out hn2; have e65 := (hzx.block _ (lt_of_block e62)).trans e62; have e66 := (hg5.block _ (lt_of_block e65) (fun e => by have := (hob.out _ e.symm).1; omega)).trans e65; obtain ⟨⟨a0, a1, a2⟩, b0, b1, b2⟩ := va_cells e66)
            | fail)
        all_goals
          have e12 := kept_blk hk2 E11.out hn0
          have e22 := kept_blk hk2 E21.out hn1
          have e15 := (hg5.block _ (by rw [World.size_alloc]; have := lt_of_block e12; omega) (fun e => by have := (hob.out _ e.symm).1; omega)).trans ((hzx.block _ (lt_of_block e12)).trans e12)
          have e25 := (hg5.block _ (by rw [World.size_alloc]; have := lt_of_block e22; omega) (fun e => by have := (hob.out _ e.symm).1; omega)).trans ((hzx.block _ (lt_of_block e22)).trans e22)
          have ef5 := (hg5.block _ (by rw [World.size_alloc]; have := lt_of_block ef2; omega) (fun e => by have := (hob.out _ e.symm).1; omega)).trans ((hzx.block _ (lt_of_block ef2)).trans ef2)
          have hk5 := kept_grown (kept_new (kept_trans HKP1.out hk2) (.cells (vaA hm Am km.length cm) 32)) hg5 (fun j hj => .inl (by have := (hob.out j hj).1; omega))
          have E66 := Lib.hid (two_setCell (u2 := .slice A5 (l.length + 1) c5) e66)
          have E16 := Lib.hid ((Below.heap_setCell w5 ⟨w.heap.size + 1 + 1, 2, none⟩ (.slice A5 (l.length + 1) c5) _ (by show w.heap.size ≠ w.heap.size + 1 + 1; omega)).trans e15)
          have E26 := Lib.hid ((Below.heap_setCell w5 ⟨w.heap.size + 1 + 1, 2, none⟩ (.slice A5 (l.length + 1) c5) _ (by show w.heap.size + 1 ≠ w.heap.size + 1 + 1; omega)).trans e25)
          have EF6 := Lib.hid ((Below.heap_setCell w5 ⟨w.heap.size + 1 + 1, 2, none⟩ (.slice A5 (l.length + 1) c5) _ (by show bR ≠ w.heap.size + 1 + 1; omega)).trans ef5)
          have HK6 : Hid (Kept w bR (w5.setCell ⟨w.heap.size + 1 + 1, 2, none⟩ (.slice A5 (l.length + 1) c5))) := kept_set hk5 (.inl (by omega))
          have hok5 : ∀ x, (okk x ∨ (w1.heap.size ≤ x ∧ x < w2.heap.size) ∨ (w2.heap.size ≤ x ∧ x < w2.heap.size)) → w.heap.size + 1 + 1 + 1 ≤ x ∧ x < w5.heap.size := fun x hx => by
            rcases hx with hx | hx | hx
            · have := HK1.out x hx; exact ⟨this.1, by omega⟩
            · exact ⟨by omega, by omega⟩
            · omega
          have HO6 := Lib.hid (hr5.grown_bE (set_grown w5 (w.heap.size + 1 + 1) 2 (.slice A5 (l.length + 1) c5)) (by omega) (fun x hx => by have := (hok5 x hx).1; omega))
          have HK7 : Hid (∀ x, (okk x ∨ (w1.heap.size ≤ x ∧ x < w2.heap.size) ∨ (w2.heap.size ≤ x ∧ x < w2.heap.size)) → w.heap.size + 1 + 1 + 1 ≤ x ∧ x < (w5.setCell ⟨w.heap.size + 1 + 1, 2, none⟩ (.slice A5 (l.length + 1) c5)).heap.size) := fun x hx => by have := hok5 x hx; simpa using this
          have hs2s : S2.size = s2.length := by rw [← sl_, hs2]
          have HST2 : Hid (starT (.mk hx kx) S2.data.toList = none) := by unfold Hid; rw [hs2]; exact HE2.out
          have HLS2 : Hid ((l ++ [v1]).length + S2.size ≤ 1000000000) := by unfold Hid; have := HLS.out; have := HLEN.out; have := HL2.out; rw [List.length_append, List.length_singleton]; omega
          have HSZ6 : Hid (w.heap.size + 1 + 1 + 1 ≤ (w5.setCell ⟨w.heap.size + 1 + 1, 2, none⟩ (.slice A5 (l.length + 1) c5)).heap.size) := by unfold Hid; simp; omega
          have HM1 := Lib.hid (rdLen_eq HEF0.out)
          have HM2 := Lib.hid (rdLen_eq EF6.out)
          have HLT : Hid (S2.size < Sr.size) := by unfold Hid; have := HLEN.out; have := HL2.out; omega
          have HLL : Hid ((l ++ [v1]).length = l.length + 1) := by unfold Hid; simp
          clear ho5 hg5 hat5 hown0 hsrc happ e12 e22 e15 e25 e62 e65 e66 ef5 hk5 hr5 hok5 hzx hs5 r2 r2a x5 u0 u1 u2 u3 u4 u5 a0 a1 a2 b0 b1 b2 hk2 ef2 hrm HO2 hs2s Q HC2
          go_wp2_with fail
          go_roundw
          case rel => exact ⟨_, _, l ++ [v1], S2, HST2, HLS2, HO6, HK7, E66, EF6, E16, E26, HSZ6, HK6⟩
          case measure => rw [HM1.out, HM2.out]; exact HLT.out
      · have HBIT := Lib.hid (bit_none Sr bR wr (.inr ⟨c0, s1, hSr, h8, h9⟩) EF.out)
        go_wp2_with fail
        refine HBIT.out.mono ?_
        rintro e w1 ⟨rfl, hw1⟩
        subst hw1
        exact ⟨rfl, rfl, HKP.out⟩
theorem tn_star {x : Re} (hox : okT x = true) (px : TkOkT x) (pn : TnOkT x) : TnOkT (rStar x) := by
  rintro h ks e P A c S bR w hc hr hP hb hS htz hne ht
  cases e
  obtain ⟨hx, kx⟩ := x
  rw [take_starT] at ht
  exact tn_star_ hox (px _ _ rfl) (pn _ _ rfl) P A c S bR w hc hr hP hb hS htz hne (by simpa using ht)
theorem tn_all : ∀ t : Re, okT t = true → TnOkT t := by
  refine okT_ind ?_ ?_ ?_ ?_ ?_ ?_
  · exact tn_emp
  · exact tn_eps
  · intro s hs; exact tn_cls
  · intro x y hx hy ihx ihy; exact tn_seq hx (tk_all x hx) ihx ihy
  · intro x y hx hy ihx ihy; exact tn_alt ihx ihy
  · intro x hx ih; exact tn_star hx (tk_all x hx) ih
end Go.Proofs.YteokbmngebckjaaDoor
