/- The reader of bits: where there is no such value, it throws: at Seq. -/
import Derived.Test.YteokbmngebckjaaDoorTn1
namespace Go.Proofs.YteokbmngebckjaaDoor
open Go.RowKit
set_option linter.unusedVariables false
set_option linter.unusedSimpArgs false

set_option maxRecDepth 100000 in
set_option maxHeartbeats 4000000 in
theorem tn_seq2 {hx : RH} {kx : List Re} {hy : RH} {ky : List Re} (px : TkOk hx kx) (py : TnOk hy ky) (P : Nat → Prop) (A : Option Addr) (c : Nat) (S : ByteArray) (bR : Nat) (w : World) (va : Va) (s1 : List UInt8) (hc : 2 ≤ c) (hr : InRow RE P w [.mk hx kx, .mk hy ky] A 0) (hP : ∀ x, P x → x ≠ bR) (hb : w.heap[bR]? = some (.cells #[.string S] 56 (0, 0))) (hS : S.size ≤ 1000000000) (htz : TzOk w) (hne : bR ≠ 0)
    (hl1 : s1.length ≤ 1000000000) (ht : takeT (.mk hx kx) S.data.toList = some (va, s1)) (ht2 : takeT (.mk hy ky) s1 = none) :
    Calls Tryd.prog 22 #[.pointer (some ⟨bR, 0, none⟩), reV ⟨4, S4.zero⟩ A 2 c] w (TnPost bR w) := by
  obtain ⟨hh, hhh⟩ : ∃ hh : RH, hh = ⟨4, S4.zero⟩ := ⟨_, rfl⟩
  have g2 : ((hh.k.toNat : Int) == 2) = false := by rw [hhh]; rfl
  have g3 : ((hh.k.toNat : Int) == 3) = false := by rw [hhh]; rfl
  have g4 : ((hh.k.toNat : Int) == 4) = true := by rw [hhh]; rfl
  rw [show reV ⟨4, S4.zero⟩ A 2 c = reV hh A 2 c by rw [hhh]]
  clear hhh
  have hbl := lt_of_block hb
  obtain ⟨W, hW, hbW, hsW, e1W, e2W⟩ := reva_pre w hh A 2 c
  have efW := (hbW.block _ hbl).trans hb
  have HE := Lib.hid hW
  have HBW := Lib.hid hbW
  have HSW := Lib.hid hsW
  have E1 := Lib.hid e1W
  have E2 := Lib.hid e2W
  have EF := Lib.hid efW
  have HR := Lib.hid (hr.below hbW)
  have HTZ := Lib.hid (htz.below hbW)
  have hn0 : w.heap.size ≠ bR := by omega
  have hn1 : w.heap.size + 1 ≠ bR := by omega
  have HSL := Lib.hid hl1
  have HT2 := Lib.hid ht2
  obtain ⟨ad, A1, c1, hA, hc1, hr1, u0, u1, u2, u3, u4, u5⟩ := kid0N HR.out
  subst hA
  have HC : Hid (Calls Tryd.prog 22 #[.pointer (some ⟨bR, 0, none⟩), reV hx A1 kx.length c1] W (TkPost va s1 bR W)) := px _ A1 c1 S bR W va s1 hc1 hr1 hP EF.out hS HTZ.out hne ht
  clear hW hbW e1W e2W hsW hr hb htz efW hr1 ht ht2 hl1 px
  go_enter Tryd.func22, Tryd.ntmps22
  go_upto_region 1 with fail
  rw [show (w.alloc _).alloc _ = W from HE.out]
  obtain ⟨x0, x1, x2, x3, x4, x5⟩ := re_at_box E1.out
  go_wp2_with fail
  refine HC.out.mono ?_
  rintro e w1 ⟨hn, kn, An, cn, S1, rfl, rfl, hcn, hrn, hs1, ef1, hk1⟩
  clear x0 x1 x2 x3 x4 x5 HC u0 u1 u2 u3 u4 u5
  obtain ⟨V, hV⟩ : ∃ V, w1.alloc (.cells (vaA hn An kn.length cn) 32) = V := ⟨_, rfl⟩
  have hbV : Below w1.heap.size w1 V := by rw [← hV]; exact below_new (Below.refl _ _) _
  have hsV : V.heap.size = w1.heap.size + 1 := by rw [← hV]; simp
  have e5V : V.heap[w1.heap.size]? = some (.cells (vaA hn An kn.length cn) 32 (0, 0)) := by rw [← hV]; exact new_at1 _
  have hsz1 := hk1.size
  have hsw := HSW.out
  have hn5 : w1.heap.size ≠ bR := by have := hbl; omega
  have e1V := (hbV.block _ (lt_of_block (kept_blk hk1 E1.out hn0))).trans (kept_blk hk1 E1.out hn0)
  have e2V := (hbV.block _ (lt_of_block (kept_blk hk1 E2.out hn1))).trans (kept_blk hk1 E2.out hn1)
  have efV := (hbV.block _ (lt_of_block ef1)).trans ef1
  have hrV := (kept_row HR.out hk1 hP).below hbV
  have htzV := (kept_tz HTZ.out hk1 hne).below hbV
  have HRN := Lib.hid (hrn.below hbV)
  have HKV := Lib.hid (kept_trans (kept_trans (kept_below HBW.out) hk1) (kept_below hbV))
  obtain ⟨ad', A2, c2, hA2, hc2, hr2, v0, v1, v2, v3, v4, v5⟩ := kid1N hrV
  obtain rfl := Option.some.inj hA2
  have HC2 : Hid (∀ X, (X = V ∨ X = V.drew) → Calls Tryd.prog 22 #[.pointer (some ⟨bR, 0, none⟩), reV hy A2 ky.length c2] X (TnPost bR V)) := fun X hX => by
    have hz : S1.size ≤ 1000000000 := by rw [← sl_, hs1]; exact HSL.out
    rcases hX with rfl | rfl
    · exact py _ A2 c2 S1 bR _ hc2 hr2 hP efV hz htzV hne (by rw [hs1]; exact HT2.out)
    · exact (py _ A2 c2 S1 bR V.drew hc2 (hr2.below (Below.refl _ _).drew) hP efV hz htzV hne (by rw [hs1]; exact HT2.out)).mono fun e w' ⟨b1, b7⟩ => ⟨b1, kept_trans (kept_drew (kept_below (Below.refl _ _))) b7⟩
  have Q : Hid (∀ X, Kept V bR X → (X.cell? ⟨w.heap.size, 5, none⟩ = some (.slice (some ad) 2 c) ∧ X.cell? ⟨ad.block, ad.off + 6, none⟩ = some (.int .u8 (hy.k.toNat : Int)) ∧ X.cell? ⟨ad.block, ad.off + 6 + 1, none⟩ = some (.int .u64 (hy.s.a.toNat : Int)) ∧ X.cell? ⟨ad.block, ad.off + 6 + 2, none⟩ = some (.int .u64 (hy.s.b.toNat : Int)) ∧ X.cell? ⟨ad.block, ad.off + 6 + 3, none⟩ = some (.int .u64 (hy.s.c.toNat : Int)) ∧ X.cell? ⟨ad.block, ad.off + 6 + 4, none⟩ = some (.int .u64 (hy.s.d.toNat : Int)) ∧ X.cell? ⟨ad.block, ad.off + 6 + 5, none⟩ = some (.slice A2 ky.length c2)) ∧
      X.cell? ⟨w1.heap.size, 0, none⟩ = some (.int .u8 (hn.k.toNat : Int)) ∧ X.cell? ⟨w1.heap.size, 1, none⟩ = some (.int .u8 (hn.b.toNat : Int)) ∧ X.cell? ⟨w1.heap.size, 2, none⟩ = some (.slice An kn.length cn)) := fun X hX => by
    obtain ⟨_, _, _, _, _, a5⟩ := re_at_box (kept_blk hX e1V hn0)
    obtain ⟨ad2, A3, c3, hA3, hc3, _, v0', v1', v2', v3', v4', v5'⟩ := kid1N (kept_row hrV hX hP)
    obtain rfl := Option.some.inj hA3
    obtain ⟨z0, z1, z2⟩ := va_at_box (kept_blk hX e5V hn5)
    have hv5 : X.cell? ⟨ad.block, ad.off + 6 + 5, none⟩ = some (.slice A2 ky.length c2) := by
      have h1 := World.block_lt_of_cell? V _ v5
      have hPb : ad.block ≠ bR := by
        have := hrV
        simp only [InRow, InT] at this
        obtain ⟨⟨ad3, cs, e3, hp3, _⟩, _⟩ := this
        cases e3
        exact hP _ hp3
      exact (World.cell?_of_block (hX.block _ h1 (fun e => hPb (Option.some.inj e)))).trans v5
    exact ⟨⟨a5, v0', v1', v2', v3', v4', hv5⟩, z0, z1, z2⟩
  have E2V := Lib.hid e2V
  have HCN := Lib.hid hcn
  have HS1 := Lib.hid hs1
  have HVV := Lib.hid hV
  have HSV := Lib.hid hsV
  clear hV hbV e1V e2V e5V efV hrV htzV hr2 v0 v1 v2 v3 v4 v5 hrn hk1 ef1 hs1 HR HTZ hcn E1 E2 EF py HT2 hsV
  go_upto_region 8 with fail
  rw [show w1.alloc _ = V from HVV.out]
  have hz : Kept V bR V := kept_below (Below.refl _ _)
  obtain ⟨⟨x5, v0, v1, v2, v3, v4, v5⟩, z0, z1, z2⟩ := Q.out _ hz
  refine wp_region_held_drew (S := fun X => (X.cell? ⟨w.heap.size, 5, none⟩ = some (.slice (some ad) 2 c) ∧ X.cell? ⟨ad.block, ad.off + 6, none⟩ = some (.int .u8 (hy.k.toNat : Int)) ∧ X.cell? ⟨ad.block, ad.off + 6 + 1, none⟩ = some (.int .u64 (hy.s.a.toNat : Int)) ∧ X.cell? ⟨ad.block, ad.off + 6 + 2, none⟩ = some (.int .u64 (hy.s.b.toNat : Int)) ∧ X.cell? ⟨ad.block, ad.off + 6 + 3, none⟩ = some (.int .u64 (hy.s.c.toNat : Int)) ∧ X.cell? ⟨ad.block, ad.off + 6 + 4, none⟩ = some (.int .u64 (hy.s.d.toNat : Int)) ∧ X.cell? ⟨ad.block, ad.off + 6 + 5, none⟩ = some (.slice A2 ky.length c2)) ∧ X.cell? ⟨w1.heap.size, 0, none⟩ = some (.int .u8 (hn.k.toNat : Int)) ∧ X.cell? ⟨w1.heap.size, 1, none⟩ = some (.int .u8 (hn.b.toNat : Int)) ∧ X.cell? ⟨w1.heap.size, 2, none⟩ = some (.slice An kn.length cn)) (by kernel_rfl) (Q.out _ (kept_drew hz)) (fun hHeld => ?_)
  refine wpAnyH_take (i := 0) (oi := ⟨some 28, _, _, _, _, _⟩) (v := vaV hn An kn.length cn) rfl (by kernel_rfl) (by kernel_rfl) (by kernel_rfl) (fun _ _ _ h => h) (Or.inl ⟨by rfl, ?_⟩) (by assumption) ?_
  · intro wx hSw
    obtain ⟨⟨x5, v0, v1, v2, v3, v4, v5⟩, z0, z1, z2⟩ := hSw
    first | (go_simp; done) | (go_simp; with_reducible rfl) | (go_simp; exact ⟨rfl, rfl, rfl, rfl⟩) | (go_simp; intro hh; exfalso; omega)
  try simp only [Act.put, List.setIfInBounds_toArray, List.set_cons_zero, List.set_cons_succ]
  refine wpAnyH_take (i := 1) (oi := ⟨some 29, _, _, _, _, _⟩) (v := .pointer (some ⟨bR, 0, none⟩)) rfl (by kernel_rfl) (by kernel_rfl) (by kernel_rfl) (fun _ _ _ h => h) (Or.inl ⟨by rfl, ?_⟩) (by assumption) ?_
  · intro wx hSw
    obtain ⟨⟨x5, v0, v1, v2, v3, v4, v5⟩, z0, z1, z2⟩ := hSw
    first | (go_simp; done) | (go_simp; with_reducible rfl) | (go_simp; exact ⟨rfl, rfl, rfl, rfl⟩) | (go_simp; intro hh; exfalso; omega)
  try simp only [Act.put, List.setIfInBounds_toArray, List.set_cons_zero, List.set_cons_succ]
  refine wpAnyH_take (i := 2) (oi := ⟨some 30, _, _, _, _, _⟩) (v := .pointer (some ⟨w.heap.size, 5, none⟩)) rfl (by kernel_rfl) (by kernel_rfl) (by kernel_rfl) (fun _ _ _ h => h) (Or.inl ⟨by rfl, ?_⟩) (by assumption) ?_
  · intro wx hSw
    obtain ⟨⟨x5, v0, v1, v2, v3, v4, v5⟩, z0, z1, z2⟩ := hSw
    first | (go_simp; done) | (go_simp; with_reducible rfl) | (go_simp; exact ⟨rfl, rfl, rfl, rfl⟩) | (go_simp; intro hh; exfalso; omega)
  try simp only [Act.put, List.setIfInBounds_toArray, List.set_cons_zero, List.set_cons_succ]
  refine wpAnyH_take (i := 3) (oi := ⟨some 31, _, _, _, _, _⟩) (v := .slice (some ad) 2 c) rfl (by kernel_rfl) (by kernel_rfl) (by kernel_rfl) (fun _ _ _ h => h) (Or.inl ⟨by rfl, ?_⟩) (by assumption) ?_
  · intro wx hSw
    obtain ⟨⟨x5, v0, v1, v2, v3, v4, v5⟩, z0, z1, z2⟩ := hSw
    first | (go_simp; done) | (go_simp; with_reducible rfl) | (go_simp; exact ⟨rfl, rfl, rfl, rfl⟩) | (go_simp; intro hh; exfalso; omega)
  try simp only [Act.put, List.setIfInBounds_toArray, List.set_cons_zero, List.set_cons_succ]
  refine wpAnyH_take (i := 4) (oi := ⟨some 32, _, _, _, _, _⟩) (v := .pointer (some ⟨ad.block, ad.off + 6, none⟩)) rfl (by kernel_rfl) (by kernel_rfl) (by kernel_rfl) (fun _ _ _ h => h) (Or.inl ⟨by rfl, ?_⟩) (by assumption) ?_
  · intro wx hSw
    obtain ⟨⟨x5, v0, v1, v2, v3, v4, v5⟩, z0, z1, z2⟩ := hSw
    first | (go_simp; done) | (go_simp; with_reducible rfl) | (go_simp; exact ⟨rfl, rfl, rfl, rfl⟩) | (go_simp; intro hh; exfalso; omega)
  try simp only [Act.put, List.setIfInBounds_toArray, List.set_cons_zero, List.set_cons_succ]
  refine wpAnyH_take (i := 5) (oi := ⟨some 33, _, _, _, _, _⟩) (v := reV hy A2 ky.length c2) rfl (by kernel_rfl) (by kernel_rfl) (by kernel_rfl) (fun _ _ _ h => h) (Or.inl ⟨by rfl, ?_⟩) (by assumption) ?_
  · intro wx hSw
    obtain ⟨⟨x5, v0, v1, v2, v3, v4, v5⟩, z0, z1, z2⟩ := hSw
    first | (go_simp; done) | (go_simp; with_reducible rfl) | (go_simp; exact ⟨rfl, rfl, rfl, rfl⟩) | (go_simp; intro hh; exfalso; omega)
  try simp only [Act.put, List.setIfInBounds_toArray, List.set_cons_zero, List.set_cons_succ]
  refine wpAnyH_ready (rs := [6]) (by kernel_rfl) (by simp) ?_
  refine AllReadyH.cons (o := ⟨some 34, .call _, _, _, _, _⟩) rfl (fun K hK => ?_) AllReadyH.nil
  clear hK
  go_simp
  refine (HC2.out _ (.inr rfl)).mono ?_
  rintro e w2 ⟨rfl, hk2⟩
  exact ⟨rfl, rfl, kept_trans HKV.out hk2⟩
set_option maxRecDepth 100000 in
set_option maxHeartbeats 4000000 in
theorem tn_seq1 {hx : RH} {kx : List Re} {hy : RH} {ky : List Re} (p : TnOk hx kx) (P : Nat → Prop) (A : Option Addr) (c : Nat) (S : ByteArray) (bR : Nat) (w : World) (hc : 2 ≤ c) (hr : InRow RE P w [.mk hx kx, .mk hy ky] A 0) (hP : ∀ x, P x → x ≠ bR) (hb : w.heap[bR]? = some (.cells #[.string S] 56 (0, 0))) (hS : S.size ≤ 1000000000) (htz : TzOk w) (hne : bR ≠ 0) (ht : takeT (.mk hx kx) S.data.toList = none) :
    Calls Tryd.prog 22 #[.pointer (some ⟨bR, 0, none⟩), reV ⟨4, S4.zero⟩ A 2 c] w (TnPost bR w) := by
  obtain ⟨hh, hhh⟩ : ∃ hh : RH, hh = ⟨4, S4.zero⟩ := ⟨_, rfl⟩
  have g2 : ((hh.k.toNat : Int) == 2) = false := by rw [hhh]; rfl
  have g3 : ((hh.k.toNat : Int) == 3) = false := by rw [hhh]; rfl
  have g4 : ((hh.k.toNat : Int) == 4) = true := by rw [hhh]; rfl
  rw [show reV ⟨4, S4.zero⟩ A 2 c = reV hh A 2 c by rw [hhh]]
  clear hhh
  have hbl := lt_of_block hb
  obtain ⟨W, hW, hbW, hsW, e1W, e2W⟩ := reva_pre w hh A 2 c
  have efW := (hbW.block _ hbl).trans hb
  have HE := Lib.hid hW
  have HBW := Lib.hid hbW
  have E1 := Lib.hid e1W
  obtain ⟨ad, A1, c1, hA, hc1, hr1, u0, u1, u2, u3, u4, u5⟩ := kid0N (hr.below hbW)
  subst hA
  have HC : Hid (Calls Tryd.prog 22 #[.pointer (some ⟨bR, 0, none⟩), reV hx A1 kx.length c1] W (TnPost bR W)) := p _ A1 c1 S bR W hc1 hr1 hP efW hS (htz.below hbW) hne ht
  clear hW hbW hsW e1W e2W hr hb htz efW hr1 ht
  go_enter Tryd.func22, Tryd.ntmps22
  go_upto_region 1 with fail
  rw [show (w.alloc _).alloc _ = W from HE.out]
  obtain ⟨x0, x1, x2, x3, x4, x5⟩ := re_at_box E1.out
  go_wp2_with fail
  refine HC.out.mono ?_
  rintro e w1 ⟨rfl, hk1⟩
  exact ⟨rfl, rfl, kept_trans (kept_below HBW.out) hk1⟩
theorem tn_seq {x y : Re} (hox : okT x = true) (kx : TkOkT x) (px : TnOkT x) (py : TnOkT y) : TnOkT (rSeq x y) := by
  rintro h ks e P A c S bR w hc hr hP hb hS htz hne ht
  cases e
  obtain ⟨hx, kx_⟩ := x
  obtain ⟨hy, ky⟩ := y
  rw [take_seq] at ht
  rcases e1 : takeT (.mk hx kx_) S.data.toList with _ | ⟨va, s1⟩
  · exact tn_seq1 (px _ _ rfl) P A c S bR w hc hr hP hb hS htz hne e1
  · rw [e1] at ht
    simp only at ht
    have hl := take_len _ hox _ _ _ e1
    rw [sl_] at hl
    rcases e2 : takeT (.mk hy ky) s1 with _ | ⟨vb, s2⟩
    · exact tn_seq2 (kx _ _ rfl) (py _ _ rfl) P A c S bR w va s1 hc hr hP hb hS htz hne (by omega) e1 e2
    · rw [e2] at ht; simp at ht
end Go.Proofs.YteokbmngebckjaaDoor
