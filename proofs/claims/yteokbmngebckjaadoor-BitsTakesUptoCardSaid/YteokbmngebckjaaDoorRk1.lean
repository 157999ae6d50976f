/- What the document takes of bits: at a leaf. -/
import Derived.Test.YteokbmngebckjaaDoorIsQ
import Derived.Test.YteokbmngebckjaaDoorBx
import Derived.Test.YteokbmngebckjaaDoorBb
import Derived.Test.YteokbmngebckjaaDoorCb
import Derived.Test.YteokbmngebckjaaDoorBk
import Derived.Test.YteokbmngebckjaaDoorBi
namespace Go.Proofs.YteokbmngebckjaaDoor
open Go.RowKit
set_option linter.unusedVariables false
set_option linter.unusedSimpArgs false

def TkRel (t : Re) (s : List UInt8) (v : Va) (r : List UInt8) (b : Bool) : Prop := (b = true ∧ takeT t s = some (v, r)) ∨ (b = false ∧ takeT t s = none)
def RkPost (t : Re) (s : List UInt8) (w : World) (e : Ending) (w' : World) : Prop := ∃ h' k' A' c' S2 b, e = .returned (.tuple #[vaV h' A' k'.length c', .string S2, .bool b]) ∧ TkRel t s (.mk h' k') S2.data.toList b ∧ k'.length ≤ c' ∧ InRow VE (fun x => w.heap.size ≤ x) w' k' A' 0 ∧ Below w.heap.size w w'
def RkOk (h : RH) (ks : List Re) : Prop := ∀ (P : Nat → Prop) (A : Option Addr) (c : Nat) (S : ByteArray) (w : World), ks.length ≤ c → InRow RE P w ks A 0 → S.size ≤ 1000000000 →
  Calls Tryd.prog 24 #[reV h A ks.length c, .string S] w (RkPost (.mk h ks) S.data.toList w)
def RkOkT (t : Re) : Prop := ∀ h ks, t = .mk h ks → RkOk h ks
theorem rk_pre (w : World) (h : RH) (A : Option Addr) (n c : Nat) : ∃ W, ((w.alloc (.cells (reA h A n c) 27)).alloc (.cells vaZ 32)).alloc (.cells vaZ 32) = W ∧ Below w.heap.size w W ∧ W.heap.size = w.heap.size + 1 + 1 + 1 ∧ W.heap[w.heap.size]? = some (.cells (reA h A n c) 27 (0, 0)) ∧ W.heap[w.heap.size + 1]? = some (.cells vaZ 32 (0, 0)) ∧ W.heap[w.heap.size + 1 + 1]? = some (.cells vaZ 32 (0, 0)) := by
  obtain ⟨V, hV, hbV, hsV, e1, e2⟩ := reva_pre w h A n c
  refine ⟨_, rfl, ?_, by simp, ?_, ?_, ?_⟩
  · rw [hV]; exact below_new hbV _
  · rw [hV]; exact heap_keep1 e1 _
  · rw [hV]; exact heap_keep1 e2 _
  · rw [hV]
    have := new_at1 (w := V) (.cells vaZ 32)
    rwa [hsV] at this
set_option maxRecDepth 100000 in
set_option maxHeartbeats 1000000 in
theorem rbit_any (S : ByteArray) (c : UInt8) (w : World) : Calls Tryd.prog 38 #[.string S, .int .u8 (c.toNat : Int)] w fun e w' => e = .returned (.bool (decide (S.data.toList.head? = some c))) ∧ w' = w := by
  by_cases h0 : S.size = 0
  · have g : ¬ 0 < S.size := by omega
    have hl : S.data.toList = [] := List.eq_nil_of_length_eq_zero (by rw [sl_]; exact h0)
    have HX : Hid (decide (S.data.toList.head? = some c) = false) := by unfold Hid; rw [hl]; simp
    clear h0 hl
    go_enter Tryd.func38, Tryd.ntmps38
    go_wp2_with fail
    go_ret
    exact ⟨by rw [HX.out]; rfl, rfl⟩
  · have hlt : 0 < S.size := by omega
    have g : decide ((S.size : Int) > 0) = true := by simp; omega
    obtain ⟨d, hd⟩ : ∃ d, S[0]'hlt = d := ⟨_, rfl⟩
    have hh : S.data.toList.head? = some d := by
      have h2 : S.data.toList[0]? = some (S[0]'hlt) := by rw [List.getElem?_eq_getElem (by rw [sl_]; exact hlt)]; rfl
      rw [← hd, ← h2, List.head?_eq_getElem?]
    have ea : ((S[0]'hlt).toNat : Int) = (d.toNat : Int) := by rw [hd]
    by_cases hc : d = c
    · have HX : Hid (decide (S.data.toList.head? = some c) = true) := by unfold Hid; rw [hh, hc]; simp
      have g2 : ((d.toNat : Int) == (c.toNat : Int)) = true := by rw [hc]; simp
      clear h0 hd hh hc
      go_enter Tryd.func38, Tryd.ntmps38
      go_wp2_with fail
      go_ret
      exact ⟨by rw [HX.out]; simp, rfl⟩
    · have HX : Hid (decide (S.data.toList.head? = some c) = false) := by unfold Hid; rw [hh]; simp [hc]
      have g2 : ((d.toNat : Int) == (c.toNat : Int)) = false := by
        rw [beq_eq_false_iff_ne]
        intro e
        exact hc (UInt8.toNat_inj.1 (by omega))
      clear h0 hd hh hc
      go_enter Tryd.func38, Tryd.ntmps38
      go_wp2_with fail
      go_ret
      exact ⟨by rw [HX.out]; simp, rfl⟩
set_option maxRecDepth 100000 in
set_option maxHeartbeats 2000000 in
theorem rk_emp : RkOkT rEmp := by
  rintro h ks e P A c S w hc hr hS
  cases e
  obtain ⟨hh, hhh⟩ : ∃ hh : RH, hh = ⟨1, S4.zero⟩ := ⟨_, rfl⟩
  have g2 : ((hh.k.toNat : Int) == 2) = false := by rw [hhh]; rfl
  have g3 : ((hh.k.toNat : Int) == 3) = false := by rw [hhh]; rfl
  have g4 : ((hh.k.toNat : Int) == 4) = false := by rw [hhh]; rfl
  have g5 : ((hh.k.toNat : Int) == 5) = false := by rw [hhh]; rfl
  have g6 : ((hh.k.toNat : Int) == 6) = false := by rw [hhh]; rfl
  rw [show reV ⟨1, S4.zero⟩ A ([] : List Re).length c = reV hh A 0 c by rw [hhh]; rfl]
  clear hhh
  obtain ⟨W, hW, hbW, hsW, e1W, e2W, e3W⟩ := rk_pre w hh A 0 c
  have HE := Lib.hid hW
  have HBW := Lib.hid hbW
  have E1 := Lib.hid e1W
  have E2 := Lib.hid e2W
  have E3 := Lib.hid e3W
  have HSW := Lib.hid hsW
  clear hW hbW hsW e1W e2W e3W hr
  obtain ⟨x0, x1, x2, x3, x4, x5⟩ := re_at_box E1.out
  obtain ⟨⟨y0, y1, y2⟩, f0, f1, f2⟩ := va_cells E2.out
  obtain ⟨⟨p0, p1, p2⟩, _, _, _⟩ := va_cells E3.out
  go_enter Tryd.func24, Tryd.ntmps24
  go_upto_region 2 with fail
  rw [show ((w.alloc _).alloc _).alloc _ = W from HE.out]
  go_wp2_with fail
  refine bodyPost_ret (v := .tuple #[vaV vaH0 none 0 0, .string ⟨#[]⟩, .bool false]) (by simp [results, Tryd.results24, go_sem, y0, y1, y2]; try exact ⟨rfl, rfl, rfl⟩) rfl ⟨vaH0, [], none, 0, ⟨#[]⟩, false, rfl, .inr ⟨rfl, take_emp _⟩, Nat.le_refl _, by simp [InRow], three_below HBW.out (by omega)⟩
set_option maxRecDepth 100000 in
set_option maxHeartbeats 2000000 in
theorem rk_eps : RkOkT rEps := by
  rintro h ks e P A c S w hc hr hS
  cases e
  obtain ⟨hh, hhh⟩ : ∃ hh : RH, hh = ⟨2, S4.zero⟩ := ⟨_, rfl⟩
  have g2 : ((hh.k.toNat : Int) == 2) = true := by rw [hhh]; rfl
  rw [show reV ⟨2, S4.zero⟩ A ([] : List Re).length c = reV hh A 0 c by rw [hhh]; rfl]
  clear hhh
  obtain ⟨W, hW, hbW, hsW, e1W, e2W, e3W⟩ := rk_pre w hh A 0 c
  have HE := Lib.hid hW
  have HBW := Lib.hid hbW
  have E1 := Lib.hid e1W
  have E2 := Lib.hid e2W
  have E3 := Lib.hid e3W
  have HSW := Lib.hid hsW
  clear hW hbW hsW e1W e2W e3W hr
  obtain ⟨x0, x1, x2, x3, x4, x5⟩ := re_at_box E1.out
  obtain ⟨⟨y0, y1, y2⟩, f0, f1, f2⟩ := va_cells E2.out
  obtain ⟨⟨p0, p1, p2⟩, _, _, _⟩ := va_cells E3.out
  go_enter Tryd.func24, Tryd.ntmps24
  go_upto_region 2 with fail
  rw [show ((w.alloc _).alloc _).alloc _ = W from HE.out]
  go_wp2_with fail
  refine bodyPost_ret (v := .tuple #[vaV ⟨1, 0⟩ none 0 0, .string S, .bool true]) (by simp [results, Tryd.results24, go_sem, y0, y1, y2]; try exact ⟨rfl, rfl, rfl⟩) rfl ⟨⟨1, 0⟩, [], none, 0, S, true, rfl, .inl ⟨rfl, take_eps _⟩, Nat.le_refl _, by simp [InRow], three_below HBW.out (by omega)⟩
set_option maxRecDepth 100000 in
set_option maxHeartbeats 2000000 in
theorem rk_cls {S0 : S4} (hz : S0 ≠ S4.zero) : RkOkT (rCls S0) := by
  rintro h ks e P A c S w hc hr hS
  cases e
  obtain ⟨hh, hhh⟩ : ∃ hh : RH, hh = ⟨3, S0⟩ := ⟨_, rfl⟩
  have g2 : ((hh.k.toNat : Int) == 2) = false := by rw [hhh]; rfl
  have g3 : ((hh.k.toNat : Int) == 3) = true := by rw [hhh]; rfl
  rw [show reV ⟨3, S0⟩ A ([] : List Re).length c = reV hh A 0 c by rw [hhh]; rfl]
  obtain ⟨l, hl⟩ := firstB_bytes hz
  have HL : Hid (bytesOf hh.s = firstB S0 :: l) := by unfold Hid; rw [hhh]; exact hl
  have HTK := Lib.hid (take_cls S0 S.data.toList)
  clear hhh hl
  generalize firstB S0 = fb at *
  obtain ⟨W, hW, hbW, hsW, e1W, e2W, e3W⟩ := rk_pre w hh A 0 c
  have HE := Lib.hid hW
  have HBW := Lib.hid hbW
  have E1 := Lib.hid e1W
  have E2 := Lib.hid e2W
  have E3 := Lib.hid e3W
  have HSW := Lib.hid hsW
  clear hW hbW hsW e1W e2W e3W hr hz
  obtain ⟨x0, x1, x2, x3, x4, x5⟩ := re_at_box E1.out
  obtain ⟨⟨y0, y1, y2⟩, f0, f1, f2⟩ := va_cells E2.out
  obtain ⟨⟨p0, p1, p2⟩, _, _, _⟩ := va_cells E3.out
  go_enter Tryd.func24, Tryd.ntmps24
  go_upto_region 2 with fail
  rw [show ((w.alloc _).alloc _).alloc _ = W from HE.out]
  go_wp2_with fail
  refine (refBytes_any hh.s W).mono ?_
  rintro e w1 ⟨Ab, cb, rfl, hcb, hrb, hb1⟩
  rw [HL.out] at hrb hcb
  rw [HL.out]
  obtain ⟨ad, x, hA, hx, hcx⟩ := hrb.at_ (show 0 < (fb :: l).length by simp)
  subst hA
  cases hx
  have hcx' : w1.cell? ad = some (.int .u8 (fb.toNat : Int)) := by simpa [Addr.add, encB] using hcx
  have HB1 := Lib.hid (below_from HBW.out hb1)
  have E2' := (hb1.block _ (lt_of_block E2.out)).trans E2.out
  clear x0 x1 x2 x3 x4 x5 y0 y1 y2 f0 f1 f2 p0 p1 p2
  obtain ⟨⟨y0, y1, y2⟩, f0, f1, f2⟩ := va_cells E2'
  have hcbl : l.length + 1 ≤ cb := by simpa using hcb
  clear hcx hrb hcb hb1 E1 E2 E2'
  simp only [List.length_cons]
  go_wp2_with fail
  refine bodyPost_ret (v := .tuple #[vaV ⟨2, fb⟩ none 0 0, .string S, .bool true]) (by simp [results, Tryd.results24, go_sem, y0, y1, y2]; try exact ⟨rfl, rfl, rfl⟩) rfl ⟨⟨2, fb⟩, [], none, 0, S, true, rfl, .inl ⟨rfl, HTK.out⟩, Nat.le_refl _, by simp [InRow], three_below HB1.out (by omega)⟩
end Go.Proofs.YteokbmngebckjaaDoor
