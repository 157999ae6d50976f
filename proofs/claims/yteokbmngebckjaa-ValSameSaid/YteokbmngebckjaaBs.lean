/- Rows of places: a place more. The document's: where texts end that an expression fits: leaves. The document's: where texts end that an expression fits: two behind one another, one of two. The document's: where texts end that an expression fits: as often as one likes. The document's: does an expression fit a text? -/
import Derived.Test.YteokbmngebckjaaBo
import Derived.Test.YteokbmngebckjaaBb
import Derived.OwnWalk
import Derived.Test.YteokbmngebckjaaBe
import Derived.Test.YteokbmngebckjaaBi
import Derived.Test.YteokbmngebckjaaBd
namespace Go.Proofs.Yteokbmngebckjaa
open Go.RowKit
set_option linter.unusedVariables false
set_option linter.unusedSimpArgs false

theorem Try.info_bool : (Try.prog.info? 4).map (fun i => (i.zero, i.size, i.bytes)) = some (some (.bool false), 1, 1) := by kernel_rfl
theorem bool_src {w : World} {A : Option Addr} {l : List Bool} (h : Row1 Value.bool w A l) : Src w A l.length 1 (l.map Value.bool) :=
  ⟨by simp, fun j u hu => by
    rw [List.getElem?_map] at hu
    rcases e : l[j]? with _ | b
    · rw [e] at hu; cases hu
    · rw [e] at hu; cases hu; exact h j b e⟩
theorem bool_row {w : World} {A : Option Addr} {n : Nat} {l : List Bool} (h : Src w A n 1 (l.map Value.bool)) : Row1 Value.bool w A l := fun k x hx => h.2 k _ (by rw [List.getElem?_map, hx]; rfl)
theorem bool_own {w : World} {base g n cap : Nat} {e : TypeId} {l : List Bool} (h : w.ownsRow base e 1 (.slice (some ⟨g, 0, none⟩) n cap) n (l.map Value.bool)) : Row1 Value.bool w (some ⟨g, 0, none⟩) l := fun k x hx =>
  ⟨_, rfl, h.cells (g := g) rfl k _ (by rw [List.getElem?_map, hx]; rfl)⟩
theorem bool_set {w : World} {base g n cap i : Nat} {e : TypeId} {l : List Bool} {b : Bool} (h : w.ownsRow base e 1 (.slice (some ⟨g, 0, none⟩) n cap) n (l.map Value.bool)) :
    (w.setCell ⟨g, i, none⟩ (.bool b)).ownsRow base e 1 (.slice (some ⟨g, 0, none⟩) n cap) n ((l.set i b).map Value.bool) := by
  have := (h.stored i (.bool b)).1
  rwa [← List.map_set] at this
theorem bool_cell {w : World} {g : Nat} {l : List Bool} {k : Nat} {x : Bool} (h : Row1 Value.bool w (some ⟨g, 0, none⟩) l) (hx : l[k]? = some x) : w.cell? ⟨g, k, none⟩ = some (.bool x) := by
  obtain ⟨ad, e, hc⟩ := h k x hx
  cases e
  rwa [plain_add] at hc
theorem own_len {w : World} {base g n cap : Nat} {e : TypeId} {l : List Bool} (h : w.ownsRow base e 1 (.slice (some ⟨g, 0, none⟩) n cap) n (l.map Value.bool)) : l.length = n := by
  have := h.1
  simpa using this
set_option maxRecDepth 100000 in
set_option maxHeartbeats 400000 in
theorem mark_any (l : List Bool) (A : Option Addr) (c i : Nat) (w : World) (hr : Row1 Value.bool w A l) (hi : i < l.length) (hm : l.length ≤ 1000) :
    Calls Try.prog 86 #[.slice A l.length c, .int .i64 (i : Nat)] w fun e w' => ∃ A' c', e = .returned (.slice A' l.length c') ∧ Row1 Value.bool w' A' (l.set i true) ∧ (∀ ad, A' = some ad → w.heap.size ≤ ad.block) ∧ Below w.heap.size w w' := by
  obtain ⟨W, hW⟩ : ∃ W, w.alloc (.cells #[] 4) = W := ⟨_, rfl⟩
  have hbW : Below w.heap.size w W := by rw [← hW]; exact below_new (Below.refl _ _) _
  have hown0 : W.ownsRow w.heap.size 4 1 (.slice (some ⟨w.heap.size, 0, none⟩) 0 0) 0 [] := by
    rw [← hW]
    exact World.ownsRow_lit (base := w.heap.size) (e := 4) (size := 1) w #[] 0 (Nat.le_refl _) (by unfold maxLen; omega) rfl
  have hsrc := bool_src (hr.below hbW)
  have HB := Lib.hid hbW
  have HW := Lib.hid hW
  have hsw := hbW.size
  clear hr hbW hW
  go_enter Try.func86, Try.ntmps86
  rw [← HW.out] at hown0 hsrc
  go_wp2_with (at_builtin; refine wpList_app _ rfl (.tmp 6) (.tmp 7) 94 rfl w.heap.size 4 (.bool false) 1 1 Try.underlying94 Try.info_bool rfl (by decide) (.slice (some ⟨w.heap.size, 0, none⟩) 0 0) 0 [] rfl hown0 A l.length c _ rfl hsrc ?h1 ?h2 ?h3 ?h4 ?_)
  case h1 => intro u hu; simp at hu; rcases hu with ⟨_, rfl⟩ | ⟨_, rfl⟩ <;> rfl
  case h2 => unfold maxLen; omega
  case h3 => omega
  case h4 => simp
  intro v5 w5 ho5 hg5 _
  have hb5 : Below w.heap.size w w5 := by
    have := HB.out
    rw [← HW.out] at this
    exact this.grown hg5 this.size (fun j hj => own_base hown0 j hj)
  rcases own_cases ho5 with ⟨_, h0⟩ | ⟨g, cap, rfl, hcap⟩
  · omega
  have hgb : w.heap.size ≤ g := own_base ho5 g rfl
  have hc5 := bool_cell (bool_own ho5) (List.getElem?_eq_getElem hi)
  have hf5 := ho5.frozenAt i
  have HS := Lib.hid (bool_own (bool_set (i := i) (b := true) ho5))
  have HBS := Lib.hid (hb5.setCell (p := ⟨g, i, none⟩) hgb (.bool true))
  clear ho5 hg5 hb5 hown0 hsrc HB HW
  go_wp2_with fail
  go_ret
  exact ⟨_, _, rfl, HS.out, fun ad h => by cases h; exact hgb, HBS.out⟩
end Go.Proofs.Yteokbmngebckjaa
namespace Go.Proofs.Yteokbmngebckjaa
open Go.RowKit
set_option linter.unusedVariables false
set_option linter.unusedSimpArgs false

theorem bs_len (S : ByteArray) : S.data.toList.length = S.size := by simp
def EndPost (t : Re) (S : ByteArray) (Af : Option Addr) (fr : List Bool) (w : World) (e : Ending) (w' : World) : Prop := ∃ A c l, e = .returned (.slice A (S.size + 1) c) ∧ EndsP t S.data.toList fr l ∧ Row1 Value.bool w' A l ∧ ((A = Af ∧ l = fr) ∨ ∀ ad, A = some ad → w.heap.size ≤ ad.block) ∧ Below w.heap.size w w'
def EndOk (f : FuncId) (h : RH) (ks : List Re) : Prop := ∀ (P : Nat → Prop) (A : Option Addr) (c : Nat) (S : ByteArray) (Af : Option Addr) (cf : Nat) (fr : List Bool) (w : World), ks.length ≤ c → InRow RE P w ks A 0 → S.size ≤ 100 → fr.length = S.size + 1 → Row1 Value.bool w Af fr →
  Calls Try.prog f #[reV h A ks.length c, .string S, .slice Af (S.size + 1) cf] w (EndPost (.mk h ks) S Af fr w)
def EndOkT (f : FuncId) (t : Re) : Prop := ∀ h ks, t = .mk h ks → EndOk f h ks
theorem made_bools {w : World} {base g n cap m : Nat} {e : TypeId} (h : w.ownsRow base e 1 (.slice (some ⟨g, 0, none⟩) n cap) n (madeCells (Value.bool false).cells m).toList) (hm : m = n) : w.ownsRow base e 1 (.slice (some ⟨g, 0, none⟩) n cap) n ((List.replicate n false).map Value.bool) := by
  rw [hm] at h
  have e1 : (madeCells (Value.bool false).cells n).toList = (List.replicate n false).map Value.bool := by
    rw [show (Value.bool false).cells = #[.bool false] from rfl, toList_madeCells_one, List.map_replicate]
  rwa [e1] at h
theorem none_true (n j : Nat) : (List.replicate n false)[j]? ≠ some true := fun h => by
  rw [List.getElem?_replicate] at h
  split at h <;> cases h
set_option maxRecDepth 100000 in
set_option maxHeartbeats 4000000 in
theorem fends_1 {h : RH} (e : h.k = 1) (hs : h.s = S4.zero) : EndOk 85 h [] := by
  intro P A c S Af cf fr w hc hr hS hfr hrow
  have g1 : ((h.k.toNat : Int) == 1) = true := kindY (n := 1) (by decide) e
  have HT : Hid ((T.mk h [] : Re) = rEmp) := by unfold Hid; obtain ⟨k, s⟩ := h; simp only at e hs; rw [e, hs]
  clear e hs
  obtain ⟨W, hW⟩ : ∃ W, w.alloc (.cells (reA h A 0 c) 34) = W := ⟨_, rfl⟩
  have hbW : Below w.heap.size w W := by rw [← hW]; exact below_new (Below.refl _ _) _
  have hsW : W.heap.size = w.heap.size + 1 := by rw [← hW]; simp
  have e1 : W.heap[w.heap.size]? = some (.cells (reA h A 0 c) 34 (0, 0)) := by rw [← hW]; exact new_at1 _
  obtain ⟨ib, hib, hz0, hz1, hz2⟩ := info_parts Try.info_bool
  have hz2' : ib.bytes * (S.size + 1) ≤ 281474976710656 := by rw [hz2]; omega
  have hmx : S.size + 1 ≤ maxLen := by unfold maxLen; omega
  have HE := Lib.hid hW
  have HW := Lib.hid hbW
  have E1 := Lib.hid e1
  have HFR := Lib.hid hfr
  have HRW := Lib.hid hrow
  have HR := Lib.hid hr
  have HSW := Lib.hid hsW
  have HIB := Lib.hid hib
  have HZ0 := Lib.hid hz0
  have HZ1 := Lib.hid hz1
  clear hW hbW e1 hfr hrow hr hz2 hsW hib hz0 hz1
  go_enter Try.func85, Try.ntmps85
  go_upto_region 1 with fail
  rw [show w.alloc _ = W from HE.out]
  go_wp2_with (at_make; refine wpList_make_full _ rfl _ _ 94 rfl W.heap.size 4 ib (.bool false) 1 Try.underlying94 HIB.out HZ0.out HZ1.out _ _ _ _ (S.size + 1) rfl rfl (by omega) (by omega) hz2' hmx (Nat.le_refl _) ?_; intro w1 hown hg; have hb1 : Below W.heap.size W w1 := (Below.refl _ _).grown hg (Nat.le_refl _) (by simp); obtain ⟨x0, x1, x2, x3, x4, x5⟩ := re_at_box ((hb1.block _ (lt_of_block E1.out)).trans E1.out))
  have HO1 := Lib.hid (made_bools hown (by omega))
  have HB1 := Lib.hid (below_from HW.out hb1)
  have N1 := Lib.hid ((hb1.block _ (lt_of_block E1.out)).trans E1.out)
  have HRW1 := Lib.hid ((HRW.out.below HW.out).below hb1)
  have HR1 := Lib.hid ((HR.out.below HW.out).below hb1)
  clear hb1 hown hg hz2' hmx E1 HRW HR HIB HZ0 HZ1
  go_ret
  exact ⟨_, _, List.replicate (S.size + 1) false, rfl, by rw [HT.out]; exact ends_empP (by rw [List.length_replicate, bs_len]) (fun j => none_true _ j), bool_own HO1.out, .inr (fun ad h => by cases h; exact HW.out.size), HB1.out⟩
set_option maxRecDepth 100000 in
set_option maxHeartbeats 4000000 in
theorem fends_2 {h : RH} (e : h.k = 2) (hs : h.s = S4.zero) : EndOk 85 h [] := by
  intro P A c S Af cf fr w hc hr hS hfr hrow
  have g1 : ((h.k.toNat : Int) == 1) = false := kindN (n := 1) (by decide) (by rw [e]; decide)
  have g2 : ((h.k.toNat : Int) == 2) = true := kindY (n := 2) (by decide) e
  have HT : Hid ((T.mk h [] : Re) = rEps) := by unfold Hid; obtain ⟨k, s⟩ := h; simp only at e hs; rw [e, hs]
  clear e hs
  obtain ⟨W, hW⟩ : ∃ W, w.alloc (.cells (reA h A 0 c) 34) = W := ⟨_, rfl⟩
  have hbW : Below w.heap.size w W := by rw [← hW]; exact below_new (Below.refl _ _) _
  have hsW : W.heap.size = w.heap.size + 1 := by rw [← hW]; simp
  have e1 : W.heap[w.heap.size]? = some (.cells (reA h A 0 c) 34 (0, 0)) := by rw [← hW]; exact new_at1 _
  obtain ⟨ib, hib, hz0, hz1, hz2⟩ := info_parts Try.info_bool
  have hz2' : ib.bytes * (S.size + 1) ≤ 281474976710656 := by rw [hz2]; omega
  have hmx : S.size + 1 ≤ maxLen := by unfold maxLen; omega
  have HE := Lib.hid hW
  have HW := Lib.hid hbW
  have E1 := Lib.hid e1
  have HFR := Lib.hid hfr
  have HRW := Lib.hid hrow
  have HR := Lib.hid hr
  have HSW := Lib.hid hsW
  have HIB := Lib.hid hib
  have HZ0 := Lib.hid hz0
  have HZ1 := Lib.hid hz1
  clear hW hbW e1 hfr hrow hr hz2 hsW hib hz0 hz1
  go_enter Try.func85, Try.ntmps85
  go_upto_region 1 with fail
  rw [show w.alloc _ = W from HE.out]
  go_wp2_with (at_make; refine wpList_make_full _ rfl _ _ 94 rfl W.heap.size 4 ib (.bool false) 1 Try.underlying94 HIB.out HZ0.out HZ1.out _ _ _ _ (S.size + 1) rfl rfl (by omega) (by omega) hz2' hmx (Nat.le_refl _) ?_; intro w1 hown hg; have hb1 : Below W.heap.size W w1 := (Below.refl _ _).grown hg (Nat.le_refl _) (by simp); obtain ⟨x0, x1, x2, x3, x4, x5⟩ := re_at_box ((hb1.block _ (lt_of_block E1.out)).trans E1.out))
  have HO1 := Lib.hid (made_bools hown (by omega))
  have HB1 := Lib.hid (below_from HW.out hb1)
  have N1 := Lib.hid ((hb1.block _ (lt_of_block E1.out)).trans E1.out)
  have HRW1 := Lib.hid ((HRW.out.below HW.out).below hb1)
  have HR1 := Lib.hid ((HR.out.below HW.out).below hb1)
  clear hb1 hown hg hz2' hmx E1 HRW HR HIB HZ0 HZ1
  go_ret
  exact ⟨_, _, fr, rfl, by rw [HT.out]; exact ends_epsP (by rw [HFR.out, bs_len]), HRW1.out, .inl ⟨rfl, rfl⟩, HB1.out⟩
def ClsTo (S : ByteArray) (X : S4) (fr l : List Bool) (k : Nat) : Prop := l.length = S.size + 1 ∧ ∀ j : Nat, l[j]? = some true ↔ ∃ i c, i < k ∧ j = i + 1 ∧ S.data.toList[i]? = some c ∧ fr[i]? = some true ∧ X.has c.toNat = true
theorem cls_skip {S : ByteArray} {X : S4} {fr l : List Bool} {k : Nat} {c : UInt8} (h : ClsTo S X fr l k) (hc : S.data.toList[k]? = some c) (hn : fr[k]? = some false ∨ X.has c.toNat = false) : ClsTo S X fr l (k + 1) := by
  refine ⟨h.1, fun j => ?_⟩
  rw [h.2]
  constructor
  · rintro ⟨i, d, h1, h2⟩; exact ⟨i, d, by omega, h2⟩
  · rintro ⟨i, d, h1, h2, h3, h4, h5⟩
    refine ⟨i, d, ?_, h2, h3, h4, h5⟩
    rcases Nat.lt_or_ge i k with h | h
    · exact h
    · have e : i = k := by omega
      subst e
      rw [hc] at h3
      cases h3
      rcases hn with hn | hn
      · rw [hn] at h4; cases h4
      · rw [hn] at h5; cases h5
theorem cls_mark {S : ByteArray} {X : S4} {fr l : List Bool} {k : Nat} {c : UInt8} (h : ClsTo S X fr l k) (hc : S.data.toList[k]? = some c) (h1 : fr[k]? = some true) (h2 : X.has c.toNat = true) (hk : k + 1 < l.length) : ClsTo S X fr (l.set (k + 1) true) (k + 1) := by
  refine ⟨by rw [List.length_set]; exact h.1, fun j => ?_⟩
  rw [List.getElem?_set]
  by_cases e : k + 1 = j
  · rw [if_pos e, if_pos hk]
    exact ⟨fun _ => ⟨k, c, by omega, e.symm, hc, h1, h2⟩, fun _ => rfl⟩
  · rw [if_neg e, h.2]
    constructor
    · rintro ⟨i, d, h3, h4⟩; exact ⟨i, d, by omega, h4⟩
    · rintro ⟨i, d, h3, h4, h5⟩; exact ⟨i, d, by omega, h4, h5⟩
set_option maxRecDepth 100000 in
set_option maxHeartbeats 8000000 in
theorem fends_3 {h : RH} (e : h.k = 3) : EndOk 85 h [] := by
  intro P A c S Af cf fr w hc hr hS hfr hrow
  have g1 : ((h.k.toNat : Int) == 1) = false := kindN (n := 1) (by decide) (by rw [e]; decide)
  have g2 : ((h.k.toNat : Int) == 2) = false := kindN (n := 2) (by decide) (by rw [e]; decide)
  have g3 : ((h.k.toNat : Int) == 3) = true := kindY (n := 3) (by decide) e
  have HT : Hid ((T.mk h [] : Re) = rCls h.s) := by unfold Hid; obtain ⟨k, s⟩ := h; simp only at e; rw [e]
  clear e
  obtain ⟨W, hW⟩ : ∃ W, w.alloc (.cells (reA h A 0 c) 34) = W := ⟨_, rfl⟩
  have hbW : Below w.heap.size w W := by rw [← hW]; exact below_new (Below.refl _ _) _
  have hsW : W.heap.size = w.heap.size + 1 := by rw [← hW]; simp
  have e1 : W.heap[w.heap.size]? = some (.cells (reA h A 0 c) 34 (0, 0)) := by rw [← hW]; exact new_at1 _
  obtain ⟨ib, hib, hz0, hz1, hz2⟩ := info_parts Try.info_bool
  have hz2' : ib.bytes * (S.size + 1) ≤ 281474976710656 := by rw [hz2]; omega
  have hmx : S.size + 1 ≤ maxLen := by unfold maxLen; omega
  have HE := Lib.hid hW
  have HW := Lib.hid hbW
  have E1 := Lib.hid e1
  have HFR := Lib.hid hfr
  have HRW := Lib.hid hrow
  have HR := Lib.hid hr
  have HSW := Lib.hid hsW
  have HIB := Lib.hid hib
  have HZ0 := Lib.hid hz0
  have HZ1 := Lib.hid hz1
  clear hW hbW e1 hfr hrow hr hz2 hsW hib hz0 hz1
  go_enter Try.func85, Try.ntmps85
  go_upto_region 1 with fail
  rw [show w.alloc _ = W from HE.out]
  go_wp2_with (at_make; refine wpList_make_full _ rfl _ _ 94 rfl W.heap.size 4 ib (.bool false) 1 Try.underlying94 HIB.out HZ0.out HZ1.out _ _ _ _ (S.size + 1) rfl rfl (by omega) (by omega) hz2' hmx (Nat.le_refl _) ?_; intro w1 hown hg; have hb1 : Below W.heap.size W w1 := (Below.refl _ _).grown hg (Nat.le_refl _) (by simp); obtain ⟨x0, x1, x2, x3, x4, x5⟩ := re_at_box ((hb1.block _ (lt_of_block E1.out)).trans E1.out))
  have HO1 := Lib.hid (made_bools hown (by omega))
  have HB1 := Lib.hid (below_from HW.out hb1)
  have N1 := Lib.hid ((hb1.block _ (lt_of_block E1.out)).trans E1.out)
  have HRW1 := Lib.hid ((HRW.out.below HW.out).below hb1)
  have HR1 := Lib.hid ((HR.out.below HW.out).below hb1)
  clear hb1 hown hg hz2' hmx E1 HRW HR HIB HZ0 HZ1
  have HC0 : Hid (ClsTo S h.s fr (List.replicate (S.size + 1) false) 0) := ⟨by rw [List.length_replicate], fun j => ⟨fun e => absurd e (none_true _ j), fun ⟨i, c, h, _⟩ => absurd h (Nat.not_lt_zero _)⟩⟩
  have HRN := Lib.hid (bool_own HO1.out)
  have HPL : Hid (∀ ad, some (⟨W.heap.size, 0, none⟩ : Addr) = some ad → w.heap.size ≤ ad.block) := fun ad h => by cases h; exact HW.out.size
  clear HO1
  clear x0 x1 x2 x3 x4 x5
  go_loopw [7, 8] (fun nn i wr => ∃ (k : Nat) (A1 : Option Addr) (c1 : Nat) (l : List Bool), nn = .slice A1 (S.size + 1) c1 ∧ k ≤ S.size ∧ i = .int .i64 (k : Nat) ∧ Hid (Row1 Value.bool wr A1 l) ∧ Hid (ClsTo S h.s fr l k) ∧ Hid (∀ ad, A1 = some ad → w.heap.size ≤ ad.block) ∧ Hid (Below w1.heap.size w1 wr)) (fun _ i _ => S.size - (intOf i).toNat)
  case atStart => exact ⟨0, _, _, _, rfl, Nat.zero_le _, rfl, HRN, HC0, HPL, Below.refl _ _⟩
  case round =>
    clear HRN HC0 HPL
    obtain ⟨k, A1, c1, l, rfl, hk, rfl, HRN, HCT, HPL, HB⟩ := hrel
    by_cases hlt : k < S.size
    · obtain ⟨adf, b, hAf, hbk, hcf⟩ := (HRW1.out.below HB.out).at_ (show k < fr.length by rw [HFR.out]; omega)
      subst hAf
      obtain ⟨cc, hcc⟩ : ∃ cc : UInt8, cc = S[k]'hlt := ⟨_, rfl⟩
      have hck : S.data.toList[k]? = some cc := by rw [hcc]; exact List.getElem?_eq_getElem (by rw [bs_len]; exact hlt)
      have ea : ((S[k]'hlt).toNat : Int) = (cc.toNat : Int) := by rw [hcc]
      have hdw : IntKind.i64.wrap (cc.toNat : Int) = (cc.toNat : Int) := by have := cc.toNat_lt; simp [IntKind.wrap, IntKind.bits, IntKind.signed]; omega
      have CH0 : Hid (∀ X, Calls Try.prog 72 #[setV h.s, .int .i64 (cc.toNat : Int)] X fun e w' => e = .returned (.bool (h.s.has cc.toNat)) ∧ Below X.heap.size X w') := fun X => by
        have := refHas_any h.s (cc.toNat : Int) X (by omega) (by have := cc.toNat_lt; omega)
        rw [Int.toNat_natCast] at this
        exact this
      have HCK := Lib.hid hck
      have HBK := Lib.hid hbk
      have hl1 : l.length = S.size + 1 := HCT.out.1
      have HL1 := Lib.hid hl1
      have HMK : Hid (∀ X, Below wr.heap.size wr X → Calls Try.prog 86 #[.slice A1 (S.size + 1) c1, .int .i64 ((k : Int) + 1)] X fun e w' => ∃ A' c', e = .returned (.slice A' (S.size + 1) c') ∧ Row1 Value.bool w' A' (l.set (k + 1) true) ∧ (∀ ad, A' = some ad → X.heap.size ≤ ad.block) ∧ Below X.heap.size X w') := fun X hX => by
        have := mark_any l A1 c1 (k + 1) X (HRN.out.below hX) (by omega) (by omega)
        rw [hl1, show (((k + 1 : Nat)) : Int) = (k : Int) + 1 from by omega] at this
        exact this
      obtain ⟨x0, x1, x2, x3, x4, x5⟩ := re_at_box ((HB.out.block _ (lt_of_block N1.out)).trans N1.out)
      have q1 := fun p : BelowBy wr => BelowBy.cell x1 p
      have q2 := fun p : BelowBy wr => BelowBy.cell x2 p
      have q3 := fun p : BelowBy wr => BelowBy.cell x3 p
      have q4 := fun p : BelowBy wr => BelowBy.cell x4 p
      have qf := fun p : BelowBy wr => BelowBy.cell hcf p
      clear hcc hck hbk hl1 x0 x1 x2 x3 x4 x5 hcf
      go_upto_region 11 with fail
      cases b with
      | false =>
        have HC1 := Lib.hid (cls_skip HCT.out HCK.out (.inl HBK.out))
        clear HCT HMK
        refine wp_region_below (by kernel_rfl) (by kernel_rfl) (Below.refl _ _) ?_
        repeat (go_big_quiet_step (first | (go_at_call 72; exact Calls.below_of (CH0.out _)) | fail))
        refine wpQuiet_nil ?_
        intro _ hw1
        obtain ⟨⟨wq, hq⟩, hw2⟩ := hw1
        subst hw2
        have HBQ := Lib.hid (below_from HB.out hq)
        have HRQ := Lib.hid (HRN.out.below hq)
        clear q1 q2 q3 q4 qf
        go_wp2_with fail
        go_roundw
        case rel => exact ⟨k + 1, _, _, l, rfl, by omega, by go_num, HRQ, HC1, HPL, HBQ⟩
        case measure => simp [intOf]; omega
      | true =>
        generalize hhb : h.s.has cc.toNat = hb at *
        cases hb with
        | false =>
          have HC1 := Lib.hid (cls_skip HCT.out HCK.out (.inr hhb))
          clear HCT HMK hhb
          refine wp_region_below (by kernel_rfl) (by kernel_rfl) (Below.refl _ _) ?_
          repeat (go_big_quiet_step (first | (go_at_call 72; exact Calls.below_of (CH0.out _)) | fail))
          refine wpQuiet_nil ?_
          intro _ hw1
          obtain ⟨⟨wq, hq⟩, hw2⟩ := hw1
          subst hw2
          have HBQ := Lib.hid (below_from HB.out hq)
          have HRQ := Lib.hid (HRN.out.below hq)
          clear q1 q2 q3 q4 qf
          go_wp2_with fail
          go_roundw
          case rel => exact ⟨k + 1, _, _, l, rfl, by omega, by go_num, HRQ, HC1, HPL, HBQ⟩
          case measure => simp [intOf]; omega
        | true =>
          have HC1 := Lib.hid (cls_mark HCT.out HCK.out HBK.out hhb (by have := HL1.out; omega))
          clear HCT hhb
          refine wp_region_below (by kernel_rfl) (by kernel_rfl) (Below.refl _ _) ?_
          repeat (go_big_quiet_step (first | (go_at_call 72; exact Calls.below_of (CH0.out _)) | fail))
          refine wpQuiet_nil ?_
          intro _ hw1
          obtain ⟨⟨wq, hq⟩, hw2⟩ := hw1
          subst hw2
          clear q1 q2 q3 q4 qf
          go_wp2_with fail
          refine (HMK.out _ hq).mono ?_
          rintro e w5 ⟨A5, c5, rfl, hr5, hp5, hb5⟩
          have HP5 : Hid (∀ ad, A5 = some ad → w.heap.size ≤ ad.block) := fun ad h => by have := hp5 ad h; have := hq.size; have := (below_from HB1.out HB.out).size; omega
          have HBQ := Lib.hid (below_from HB.out (below_from hq hb5))
          have HR5 := Lib.hid hr5
          clear hr5 hb5 hq hp5
          go_wp2_with fail
          go_roundw
          case rel => exact ⟨k + 1, _, _, _, rfl, by omega, by go_num, HR5, HC1, HP5, HBQ⟩
          case measure => simp [intOf]; omega
    · have hkk : k = S.size := by omega
      have HC1 : Hid (EndsP (rCls h.s) S.data.toList fr l) := by
        have := HCT.out
        refine ends_clsP (by rw [this.1, bs_len]) fun j => ?_
        rw [this.2]
        constructor
        · rintro ⟨i, c, _, h⟩; exact ⟨i, c, h⟩
        · rintro ⟨i, c, h1, h2⟩
          have h3 := (List.getElem?_eq_some_iff.1 h2.1).1
          rw [bs_len] at h3
          exact ⟨i, c, by omega, h1, h2⟩
      have hb := below_from HB1.out HB.out
      subst hkk
      clear HCT hlt hk
      go_wp2_with fail
      go_ret
      exact ⟨_, _, l, rfl, by rw [HT.out]; exact HC1.out, HRN.out, .inr HPL.out, hb⟩
end Go.Proofs.Yteokbmngebckjaa
namespace Go.Proofs.Yteokbmngebckjaa
open Go.RowKit
set_option linter.unusedVariables false
set_option linter.unusedSimpArgs false

set_option maxRecDepth 100000 in
set_option maxHeartbeats 8000000 in
theorem fends_4 {h : RH} (e : h.k = 4) (hs : h.s = S4.zero) {hx : RH} {kx : List Re} (px : EndOk 85 hx kx) {hy : RH} {ky : List Re} (py : EndOk 85 hy ky) : EndOk 85 h [.mk hx kx, .mk hy ky] := by
  intro P A c S Af cf fr w hc hr hS hfr hrow
  have HRW0 := Lib.hid hrow
  have g1 : ((h.k.toNat : Int) == 1) = false := kindN (n := 1) (by decide) (by rw [e]; decide)
  have g2 : ((h.k.toNat : Int) == 2) = false := kindN (n := 2) (by decide) (by rw [e]; decide)
  have g3 : ((h.k.toNat : Int) == 3) = false := kindN (n := 3) (by decide) (by rw [e]; decide)
  have g4 : ((h.k.toNat : Int) == 4) = true := kindY (n := 4) (by decide) e
  have HT : Hid ((T.mk h [.mk hx kx, .mk hy ky] : Re) = rSeq (.mk hx kx) (.mk hy ky)) := by unfold Hid; obtain ⟨k, s⟩ := h; simp only at e hs; rw [e, hs]
  clear e hs
  obtain ⟨ad, A1, c1, hA, hc1, hr1, u0, u1, u2, u3, u4, u5⟩ := kid0N hr
  subst hA
  obtain ⟨ad', A2, c2, hA2, hc2, hr2, v0, v1, v2, v3, v4, v5⟩ := kid1N hr
  obtain rfl := Option.some.inj hA2
  have HKX : Hid (∀ X, Below w.heap.size w X → X.cell? ad = some (.int .u8 (hx.k.toNat : Int)) ∧ X.cell? ⟨ad.block, ad.off + 1, none⟩ = some (.int .u64 (hx.s.a.toNat : Int)) ∧ X.cell? ⟨ad.block, ad.off + 2, none⟩ = some (.int .u64 (hx.s.b.toNat : Int)) ∧ X.cell? ⟨ad.block, ad.off + 3, none⟩ = some (.int .u64 (hx.s.c.toNat : Int)) ∧ X.cell? ⟨ad.block, ad.off + 4, none⟩ = some (.int .u64 (hx.s.d.toNat : Int)) ∧ X.cell? ⟨ad.block, ad.off + 5, none⟩ = some (.slice A1 kx.length c1) ∧ X.cell? ⟨ad.block, ad.off + 6, none⟩ = some (.int .u8 (hy.k.toNat : Int)) ∧ X.cell? ⟨ad.block, ad.off + 6 + 1, none⟩ = some (.int .u64 (hy.s.a.toNat : Int)) ∧ X.cell? ⟨ad.block, ad.off + 6 + 2, none⟩ = some (.int .u64 (hy.s.b.toNat : Int)) ∧ X.cell? ⟨ad.block, ad.off + 6 + 3, none⟩ = some (.int .u64 (hy.s.c.toNat : Int)) ∧ X.cell? ⟨ad.block, ad.off + 6 + 4, none⟩ = some (.int .u64 (hy.s.d.toNat : Int)) ∧ X.cell? ⟨ad.block, ad.off + 6 + 5, none⟩ = some (.slice A2 ky.length c2)) := fun X hX => ⟨keep_cell hX u0, keep_cell hX u1, keep_cell hX u2, keep_cell hX u3, keep_cell hX u4, keep_cell hX u5, keep_cell hX v0, keep_cell hX v1, keep_cell hX v2, keep_cell hX v3, keep_cell hX v4, keep_cell hX v5⟩
  have PX : Hid (∀ X Ag cg (gr : List Bool), Below w.heap.size w X → gr.length = S.size + 1 → Row1 Value.bool X Ag gr → Calls Try.prog 85 #[reV hx A1 kx.length c1, .string S, .slice Ag (S.size + 1) cg] X (EndPost (.mk hx kx) S Ag gr X)) := fun X Ag cg gr hX hg hrow => px _ A1 c1 S Ag cg gr X hc1 (hr1.below hX) hS hg hrow
  have PY : Hid (∀ X Ag cg (gr : List Bool), Below w.heap.size w X → gr.length = S.size + 1 → Row1 Value.bool X Ag gr → Calls Try.prog 85 #[reV hy A2 ky.length c2, .string S, .slice Ag (S.size + 1) cg] X (EndPost (.mk hy ky) S Ag gr X)) := fun X Ag cg gr hX hg hrow => py _ A2 c2 S Ag cg gr X hc2 (hr2.below hX) hS hg hrow
  clear px py hc1 hc2 hr1 hr2 u0 u1 u2 u3 u4 u5 v0 v1 v2 v3 v4 v5
  obtain ⟨W, hW⟩ : ∃ W, w.alloc (.cells (reA h (some ad) 2 c) 34) = W := ⟨_, rfl⟩
  have hbW : Below w.heap.size w W := by rw [← hW]; exact below_new (Below.refl _ _) _
  have hsW : W.heap.size = w.heap.size + 1 := by rw [← hW]; simp
  have e1 : W.heap[w.heap.size]? = some (.cells (reA h (some ad) 2 c) 34 (0, 0)) := by rw [← hW]; exact new_at1 _
  obtain ⟨ib, hib, hz0, hz1, hz2⟩ := info_parts Try.info_bool
  have hz2' : ib.bytes * (S.size + 1) ≤ 281474976710656 := by rw [hz2]; omega
  have hmx : S.size + 1 ≤ maxLen := by unfold maxLen; omega
  have HE := Lib.hid hW
  have HW := Lib.hid hbW
  have E1 := Lib.hid e1
  have HFR := Lib.hid hfr
  have HRW := Lib.hid hrow
  have HR := Lib.hid hr
  have HSW := Lib.hid hsW
  have HIB := Lib.hid hib
  have HZ0 := Lib.hid hz0
  have HZ1 := Lib.hid hz1
  clear hW hbW e1 hfr hrow hr hz2 hsW hib hz0 hz1
  go_enter Try.func85, Try.ntmps85
  go_upto_region 1 with fail
  rw [show w.alloc _ = W from HE.out]
  go_wp2_with (at_make; refine wpList_make_full _ rfl _ _ 94 rfl W.heap.size 4 ib (.bool false) 1 Try.underlying94 HIB.out HZ0.out HZ1.out _ _ _ _ (S.size + 1) rfl rfl (by omega) (by omega) hz2' hmx (Nat.le_refl _) ?_; intro w1 hown hg; have hb1 : Below W.heap.size W w1 := (Below.refl _ _).grown hg (Nat.le_refl _) (by simp); obtain ⟨x0, x1, x2, x3, x4, x5⟩ := re_at_box ((hb1.block _ (lt_of_block E1.out)).trans E1.out))
  have HO1 := Lib.hid (made_bools hown (by omega))
  have HB1 := Lib.hid (below_from HW.out hb1)
  have N1 := Lib.hid ((hb1.block _ (lt_of_block E1.out)).trans E1.out)
  have HRW1 := Lib.hid ((HRW.out.below HW.out).below hb1)
  have HR1 := Lib.hid ((HR.out.below HW.out).below hb1)
  clear hb1 hown hg hz2' hmx E1 HRW HR HIB HZ0 HZ1
  have hfr := HFR.out
  have HAF : Hid (∀ ad, Af = some ad → ad.block < w.heap.size) := fun a ha => by
    obtain ⟨a2, x, e1, e2, e3⟩ := HRW0.out.at_ (show 0 < fr.length by omega)
    rw [ha] at e1
    cases e1
    have := World.block_lt_of_cell? w _ e3
    rwa [block_add] at this
  have Q : Hid (∀ X, Below w1.heap.size w1 X → X.cell? ⟨w.heap.size, 5, none⟩ = some (.slice (some ad) 2 c) ∧ X.cell? ad = some (.int .u8 (hx.k.toNat : Int)) ∧ X.cell? ⟨ad.block, ad.off + 1, none⟩ = some (.int .u64 (hx.s.a.toNat : Int)) ∧ X.cell? ⟨ad.block, ad.off + 2, none⟩ = some (.int .u64 (hx.s.b.toNat : Int)) ∧ X.cell? ⟨ad.block, ad.off + 3, none⟩ = some (.int .u64 (hx.s.c.toNat : Int)) ∧ X.cell? ⟨ad.block, ad.off + 4, none⟩ = some (.int .u64 (hx.s.d.toNat : Int)) ∧ X.cell? ⟨ad.block, ad.off + 5, none⟩ = some (.slice A1 kx.length c1) ∧ X.cell? ⟨ad.block, ad.off + 6, none⟩ = some (.int .u8 (hy.k.toNat : Int)) ∧ X.cell? ⟨ad.block, ad.off + 6 + 1, none⟩ = some (.int .u64 (hy.s.a.toNat : Int)) ∧ X.cell? ⟨ad.block, ad.off + 6 + 2, none⟩ = some (.int .u64 (hy.s.b.toNat : Int)) ∧ X.cell? ⟨ad.block, ad.off + 6 + 3, none⟩ = some (.int .u64 (hy.s.c.toNat : Int)) ∧ X.cell? ⟨ad.block, ad.off + 6 + 4, none⟩ = some (.int .u64 (hy.s.d.toNat : Int)) ∧ X.cell? ⟨ad.block, ad.off + 6 + 5, none⟩ = some (.slice A2 ky.length c2)) := fun X hX => by
    obtain ⟨a0, a1, a2, a3, a4, a5⟩ := re_at_box ((hX.block _ (lt_of_block N1.out)).trans N1.out)
    obtain ⟨u0, u1, u2, u3, u4, u5, v0, v1, v2, v3, v4, v5⟩ := HKX.out X (below_from HB1.out hX)
    exact ⟨a5, u0, u1, u2, u3, u4, u5, v0, v1, v2, v3, v4, v5⟩
  have hz := Below.refl w1.heap.size w1
  refine wp_region_held_drew (S := fun X => X.cell? ⟨w.heap.size, 5, none⟩ = some (.slice (some ad) 2 c) ∧ X.cell? ad = some (.int .u8 (hx.k.toNat : Int)) ∧ X.cell? ⟨ad.block, ad.off + 1, none⟩ = some (.int .u64 (hx.s.a.toNat : Int)) ∧ X.cell? ⟨ad.block, ad.off + 2, none⟩ = some (.int .u64 (hx.s.b.toNat : Int)) ∧ X.cell? ⟨ad.block, ad.off + 3, none⟩ = some (.int .u64 (hx.s.c.toNat : Int)) ∧ X.cell? ⟨ad.block, ad.off + 4, none⟩ = some (.int .u64 (hx.s.d.toNat : Int)) ∧ X.cell? ⟨ad.block, ad.off + 5, none⟩ = some (.slice A1 kx.length c1) ∧ X.cell? ⟨ad.block, ad.off + 6, none⟩ = some (.int .u8 (hy.k.toNat : Int)) ∧ X.cell? ⟨ad.block, ad.off + 6 + 1, none⟩ = some (.int .u64 (hy.s.a.toNat : Int)) ∧ X.cell? ⟨ad.block, ad.off + 6 + 2, none⟩ = some (.int .u64 (hy.s.b.toNat : Int)) ∧ X.cell? ⟨ad.block, ad.off + 6 + 3, none⟩ = some (.int .u64 (hy.s.c.toNat : Int)) ∧ X.cell? ⟨ad.block, ad.off + 6 + 4, none⟩ = some (.int .u64 (hy.s.d.toNat : Int)) ∧ X.cell? ⟨ad.block, ad.off + 6 + 5, none⟩ = some (.slice A2 ky.length c2)) (by kernel_rfl) (Q.out _ hz.drew) (fun hHeld => ?_)
  refine wpAnyH_take (i := 0) (oi := ⟨some 56, _, _, _, _, _⟩) (v := .pointer (some ⟨w.heap.size, 5, none⟩)) rfl (by kernel_rfl) (by kernel_rfl) (by kernel_rfl) (fun _ _ _ h => h) (Or.inl ⟨by rfl, ?_⟩) (by assumption) ?_
  · intro wx hSw
    obtain ⟨p5, u0, u1, u2, u3, u4, u5, v0, v1, v2, v3, v4, v5⟩ := hSw
    first | (go_simp; done) | (go_simp; with_reducible rfl) | (go_simp; exact ⟨rfl, rfl, rfl, rfl⟩)
  try simp only [Act.put, List.setIfInBounds_toArray, List.set_cons_zero, List.set_cons_succ]
  refine wpAnyH_take (i := 1) (oi := ⟨some 57, _, _, _, _, _⟩) (v := .slice (some ad) 2 c) rfl (by kernel_rfl) (by kernel_rfl) (by kernel_rfl) (fun _ _ _ h => h) (Or.inl ⟨by rfl, ?_⟩) (by assumption) ?_
  · intro wx hSw
    obtain ⟨p5, u0, u1, u2, u3, u4, u5, v0, v1, v2, v3, v4, v5⟩ := hSw
    first | (go_simp; done) | (go_simp; with_reducible rfl) | (go_simp; exact ⟨rfl, rfl, rfl, rfl⟩)
  try simp only [Act.put, List.setIfInBounds_toArray, List.set_cons_zero, List.set_cons_succ]
  refine wpAnyH_take (i := 2) (oi := ⟨some 58, _, _, _, _, _⟩) (v := .pointer (some ⟨ad.block, ad.off + 6, none⟩)) rfl (by kernel_rfl) (by kernel_rfl) (by kernel_rfl) (fun _ _ _ h => h) (Or.inl ⟨by rfl, ?_⟩) (by assumption) ?_
  · intro wx hSw
    obtain ⟨p5, u0, u1, u2, u3, u4, u5, v0, v1, v2, v3, v4, v5⟩ := hSw
    first | (go_simp; done) | (go_simp; with_reducible rfl) | (go_simp; exact ⟨rfl, rfl, rfl, rfl⟩)
  try simp only [Act.put, List.setIfInBounds_toArray, List.set_cons_zero, List.set_cons_succ]
  refine wpAnyH_take (i := 3) (oi := ⟨some 59, _, _, _, _, _⟩) (v := reV hy A2 ky.length c2) rfl (by kernel_rfl) (by kernel_rfl) (by kernel_rfl) (fun _ _ _ h => h) (Or.inl ⟨by rfl, ?_⟩) (by assumption) ?_
  · intro wx hSw
    obtain ⟨p5, u0, u1, u2, u3, u4, u5, v0, v1, v2, v3, v4, v5⟩ := hSw
    first | (go_simp; done) | (go_simp; with_reducible rfl) | (go_simp; exact ⟨rfl, rfl, rfl, rfl⟩)
  try simp only [Act.put, List.setIfInBounds_toArray, List.set_cons_zero, List.set_cons_succ]
  refine wpAnyH_take (i := 4) (oi := ⟨some 60, _, _, _, _, _⟩) (v := .string S) rfl (by kernel_rfl) (by kernel_rfl) (by kernel_rfl) (fun _ _ _ h => h) (Or.inl ⟨by rfl, ?_⟩) (by assumption) ?_
  · intro wx hSw
    obtain ⟨p5, u0, u1, u2, u3, u4, u5, v0, v1, v2, v3, v4, v5⟩ := hSw
    first | (go_simp; done) | (go_simp; with_reducible rfl) | (go_simp; exact ⟨rfl, rfl, rfl, rfl⟩)
  try simp only [Act.put, List.setIfInBounds_toArray, List.set_cons_zero, List.set_cons_succ]
  refine wpAnyH_take (i := 5) (oi := ⟨some 61, _, _, _, _, _⟩) (v := .pointer (some ⟨w.heap.size, 5, none⟩)) rfl (by kernel_rfl) (by kernel_rfl) (by kernel_rfl) (fun _ _ _ h => h) (Or.inl ⟨by rfl, ?_⟩) (by assumption) ?_
  · intro wx hSw
    obtain ⟨p5, u0, u1, u2, u3, u4, u5, v0, v1, v2, v3, v4, v5⟩ := hSw
    first | (go_simp; done) | (go_simp; with_reducible rfl) | (go_simp; exact ⟨rfl, rfl, rfl, rfl⟩)
  try simp only [Act.put, List.setIfInBounds_toArray, List.set_cons_zero, List.set_cons_succ]
  refine wpAnyH_take (i := 6) (oi := ⟨some 62, _, _, _, _, _⟩) (v := .slice (some ad) 2 c) rfl (by kernel_rfl) (by kernel_rfl) (by kernel_rfl) (fun _ _ _ h => h) (Or.inl ⟨by rfl, ?_⟩) (by assumption) ?_
  · intro wx hSw
    obtain ⟨p5, u0, u1, u2, u3, u4, u5, v0, v1, v2, v3, v4, v5⟩ := hSw
    first | (go_simp; done) | (go_simp; with_reducible rfl) | (go_simp; exact ⟨rfl, rfl, rfl, rfl⟩)
  try simp only [Act.put, List.setIfInBounds_toArray, List.set_cons_zero, List.set_cons_succ]
  refine wpAnyH_take (i := 7) (oi := ⟨some 63, _, _, _, _, _⟩) (v := .pointer (some ad)) rfl (by kernel_rfl) (by kernel_rfl) (by kernel_rfl) (fun _ _ _ h => h) (Or.inl ⟨by rfl, ?_⟩) (by assumption) ?_
  · intro wx hSw
    obtain ⟨p5, u0, u1, u2, u3, u4, u5, v0, v1, v2, v3, v4, v5⟩ := hSw
    first | (go_simp; done) | (go_simp; with_reducible rfl) | (go_simp; exact ⟨rfl, rfl, rfl, rfl⟩)
  try simp only [Act.put, List.setIfInBounds_toArray, List.set_cons_zero, List.set_cons_succ]
  refine wpAnyH_take (i := 8) (oi := ⟨some 64, _, _, _, _, _⟩) (v := reV hx A1 kx.length c1) rfl (by kernel_rfl) (by kernel_rfl) (by kernel_rfl) (fun _ _ _ h => h) (Or.inl ⟨by rfl, ?_⟩) (by assumption) ?_
  · intro wx hSw
    obtain ⟨p5, u0, u1, u2, u3, u4, u5, v0, v1, v2, v3, v4, v5⟩ := hSw
    first | (go_simp; done) | (go_simp; with_reducible rfl) | (go_simp; exact ⟨rfl, rfl, rfl, rfl⟩)
  try simp only [Act.put, List.setIfInBounds_toArray, List.set_cons_zero, List.set_cons_succ]
  refine wpAnyH_take (i := 9) (oi := ⟨some 65, _, _, _, _, _⟩) (v := .string S) rfl (by kernel_rfl) (by kernel_rfl) (by kernel_rfl) (fun _ _ _ h => h) (Or.inl ⟨by rfl, ?_⟩) (by assumption) ?_
  · intro wx hSw
    obtain ⟨p5, u0, u1, u2, u3, u4, u5, v0, v1, v2, v3, v4, v5⟩ := hSw
    first | (go_simp; done) | (go_simp; with_reducible rfl) | (go_simp; exact ⟨rfl, rfl, rfl, rfl⟩)
  try simp only [Act.put, List.setIfInBounds_toArray, List.set_cons_zero, List.set_cons_succ]
  refine wpAnyH_take (i := 10) (oi := ⟨some 66, _, _, _, _, _⟩) (v := .slice Af (S.size + 1) cf) rfl (by kernel_rfl) (by kernel_rfl) (by kernel_rfl) (fun _ _ _ h => h) (Or.inl ⟨by rfl, ?_⟩) (by assumption) ?_
  · intro wx hSw
    obtain ⟨p5, u0, u1, u2, u3, u4, u5, v0, v1, v2, v3, v4, v5⟩ := hSw
    first | (go_simp; done) | (go_simp; with_reducible rfl) | (go_simp; exact ⟨rfl, rfl, rfl, rfl⟩)
  try simp only [Act.put, List.setIfInBounds_toArray, List.set_cons_zero, List.set_cons_succ]
  refine wpAnyH_ready (rs := [11]) (by kernel_rfl) (by simp) ?_
  refine AllReadyH.cons (o := ⟨some 67, .call _, _, _, _, _⟩) rfl (fun K hK => ?_) AllReadyH.nil
  have HK := Lib.hid hK
  clear hK
  go_simp
  refine (PX.out _ Af cf fr (below_from HB1.out hz.drew) HFR.out (HRW1.out.below hz.drew)).mono ?_
  rintro e wa ⟨A3, c3, l3, rfl, he3, hr3, hp3, hba⟩
  have hz : Below w1.heap.size w1 wa := below_from hz.drew hba
  have hl3 : l3.length = S.size + 1 := by rw [he3.1, bs_len]
  have HL3 := Lib.hid hl3
  clear hl3
  refine HK.out _ _ (Q.out _ hz) (fun hHeld2 => ?_)
  clear HK hHeld
  have hHeld := hHeld2
  clear hHeld2
  try simp only [Act.put, List.setIfInBounds_toArray, List.set_cons_zero, List.set_cons_succ]
  refine wpAnyH_ready (rs := [12]) (by kernel_rfl) (by simp) ?_
  refine AllReadyH.cons (o := ⟨some 68, .call _, _, _, _, _⟩) rfl (fun K hK => ?_) AllReadyH.nil
  have HK := Lib.hid hK
  clear hK
  go_simp
  refine (PY.out _ A3 c3 l3 (below_from HB1.out hz) HL3.out hr3).mono ?_
  rintro e wb ⟨A4, c4, l4, rfl, he4, hr4, hp4, hbb⟩
  have hzb : Below w1.heap.size w1 wb := below_from hz hbb
  have hsa := hz.size
  have hz := hzb
  refine HK.out _ _ (Q.out _ hz) (fun hHeld2 => ?_)
  clear HK hHeld
  have hHeld := hHeld2
  clear hHeld2
  try simp only [Act.put, List.setIfInBounds_toArray, List.set_cons_zero, List.set_cons_succ]
  refine wpAnyH_take (i := 13) (oi := ⟨some 6, _, _, _, _, _⟩) (v := .slice A4 (S.size + 1) c4) rfl (by kernel_rfl) (by kernel_rfl) (by kernel_rfl) (fun _ _ _ h => h) (Or.inl ⟨by rfl, ?_⟩) (by assumption) ?_
  · intro wx hSw
    obtain ⟨p5, u0, u1, u2, u3, u4, u5, v0, v1, v2, v3, v4, v5⟩ := hSw
    first | (go_simp; done) | (go_simp; with_reducible rfl) | (go_simp; exact ⟨rfl, rfl, rfl, rfl⟩)
  try simp only [Act.put, List.setIfInBounds_toArray, List.set_cons_zero, List.set_cons_succ]
  refine wpAnyH_done (by kernel_rfl) ?_ _
  have hb := below_from HB1.out hz
  have HEE := Lib.hid (ends_seqP he3 he4)
  have HPL : Hid ((A4 = Af ∧ l4 = fr) ∨ ∀ ad, A4 = some ad → w.heap.size ≤ ad.block) := by
    rcases hp4 with h | h
    · rcases hp3 with h3 | h3
      · exact .inl ⟨h.1.trans h3.1, h.2.trans h3.2⟩
      · exact .inr fun a ha => by have := h3 a (by rw [← h.1]; exact ha); have := HB1.out.size; have : w1.drew.heap.size = w1.heap.size := rfl; omega
    · exact .inr fun a ha => by have := h a ha; have := HB1.out.size; omega
  have HR4 := Lib.hid hr4
  clear he3 he4 hr3 hr4 hp3 hp4 hba hbb
  go_wp2_with fail
  go_ret
  exact ⟨_, _, l4, rfl, by rw [HT.out]; exact HEE.out, HR4.out, HPL.out, hb⟩
def AltTo (n : Nat) (a b l : List Bool) (k : Nat) : Prop := l.length = n ∧ ∀ j : Nat, l[j]? = some true ↔ (j < k ∧ (a[j]? = some true ∨ b[j]? = some true))
theorem alt_set {n k : Nat} {a b l : List Bool} {x y : Bool} (h : AltTo n a b l k) (hx : a[k]? = some x) (hy : b[k]? = some y) (hk : k < n) (hf : l[k]? = some false ∨ True) : AltTo n a b (l.set k (x || y)) (k + 1) := by
  refine ⟨by rw [List.length_set]; exact h.1, fun j => ?_⟩
  rw [List.getElem?_set]
  by_cases e : k = j
  · subst e
    rw [if_pos rfl, if_pos (by rw [h.1]; exact hk), hx, hy]
    cases x <;> cases y <;> simp
  · rw [if_neg e, h.2]
    constructor
    · rintro ⟨h1, h2⟩; exact ⟨by omega, h2⟩
    · rintro ⟨h1, h2⟩; exact ⟨by omega, h2⟩
set_option maxRecDepth 100000 in
set_option maxHeartbeats 8000000 in
theorem fends_5 {h : RH} (e : h.k = 5) (hs : h.s = S4.zero) {hx : RH} {kx : List Re} (px : EndOk 85 hx kx) {hy : RH} {ky : List Re} (py : EndOk 85 hy ky) : EndOk 85 h [.mk hx kx, .mk hy ky] := by
  intro P A c S Af cf fr w hc hr hS hfr hrow
  have HRW0 := Lib.hid hrow
  have g1 : ((h.k.toNat : Int) == 1) = false := kindN (n := 1) (by decide) (by rw [e]; decide)
  have g2 : ((h.k.toNat : Int) == 2) = false := kindN (n := 2) (by decide) (by rw [e]; decide)
  have g3 : ((h.k.toNat : Int) == 3) = false := kindN (n := 3) (by decide) (by rw [e]; decide)
  have g4 : ((h.k.toNat : Int) == 4) = false := kindN (n := 4) (by decide) (by rw [e]; decide)
  have g5 : ((h.k.toNat : Int) == 5) = true := kindY (n := 5) (by decide) e
  have HT : Hid ((T.mk h [.mk hx kx, .mk hy ky] : Re) = rAlt (.mk hx kx) (.mk hy ky)) := by unfold Hid; obtain ⟨k, s⟩ := h; simp only at e hs; rw [e, hs]
  clear e hs
  obtain ⟨ad, A1, c1, hA, hc1, hr1, u0, u1, u2, u3, u4, u5⟩ := kid0N hr
  subst hA
  obtain ⟨ad', A2, c2, hA2, hc2, hr2, v0, v1, v2, v3, v4, v5⟩ := kid1N hr
  obtain rfl := Option.some.inj hA2
  have HKX : Hid (∀ X, Below w.heap.size w X → X.cell? ad = some (.int .u8 (hx.k.toNat : Int)) ∧ X.cell? ⟨ad.block, ad.off + 1, none⟩ = some (.int .u64 (hx.s.a.toNat : Int)) ∧ X.cell? ⟨ad.block, ad.off + 2, none⟩ = some (.int .u64 (hx.s.b.toNat : Int)) ∧ X.cell? ⟨ad.block, ad.off + 3, none⟩ = some (.int .u64 (hx.s.c.toNat : Int)) ∧ X.cell? ⟨ad.block, ad.off + 4, none⟩ = some (.int .u64 (hx.s.d.toNat : Int)) ∧ X.cell? ⟨ad.block, ad.off + 5, none⟩ = some (.slice A1 kx.length c1) ∧ X.cell? ⟨ad.block, ad.off + 6, none⟩ = some (.int .u8 (hy.k.toNat : Int)) ∧ X.cell? ⟨ad.block, ad.off + 6 + 1, none⟩ = some (.int .u64 (hy.s.a.toNat : Int)) ∧ X.cell? ⟨ad.block, ad.off + 6 + 2, none⟩ = some (.int .u64 (hy.s.b.toNat : Int)) ∧ X.cell? ⟨ad.block, ad.off + 6 + 3, none⟩ = some (.int .u64 (hy.s.c.toNat : Int)) ∧ X.cell? ⟨ad.block, ad.off + 6 + 4, none⟩ = some (.int .u64 (hy.s.d.toNat : Int)) ∧ X.cell? ⟨ad.block, ad.off + 6 + 5, none⟩ = some (.slice A2 ky.length c2)) := fun X hX => ⟨keep_cell hX u0, keep_cell hX u1, keep_cell hX u2, keep_cell hX u3, keep_cell hX u4, keep_cell hX u5, keep_cell hX v0, keep_cell hX v1, keep_cell hX v2, keep_cell hX v3, keep_cell hX v4, keep_cell hX v5⟩
  have PX : Hid (∀ X Ag cg (gr : List Bool), Below w.heap.size w X → gr.length = S.size + 1 → Row1 Value.bool X Ag gr → Calls Try.prog 85 #[reV hx A1 kx.length c1, .string S, .slice Ag (S.size + 1) cg] X (EndPost (.mk hx kx) S Ag gr X)) := fun X Ag cg gr hX hg hrow => px _ A1 c1 S Ag cg gr X hc1 (hr1.below hX) hS hg hrow
  have PY : Hid (∀ X Ag cg (gr : List Bool), Below w.heap.size w X → gr.length = S.size + 1 → Row1 Value.bool X Ag gr → Calls Try.prog 85 #[reV hy A2 ky.length c2, .string S, .slice Ag (S.size + 1) cg] X (EndPost (.mk hy ky) S Ag gr X)) := fun X Ag cg gr hX hg hrow => py _ A2 c2 S Ag cg gr X hc2 (hr2.below hX) hS hg hrow
  clear px py hc1 hc2 hr1 hr2 u0 u1 u2 u3 u4 u5 v0 v1 v2 v3 v4 v5
  obtain ⟨W, hW⟩ : ∃ W, w.alloc (.cells (reA h (some ad) 2 c) 34) = W := ⟨_, rfl⟩
  have hbW : Below w.heap.size w W := by rw [← hW]; exact below_new (Below.refl _ _) _
  have hsW : W.heap.size = w.heap.size + 1 := by rw [← hW]; simp
  have e1 : W.heap[w.heap.size]? = some (.cells (reA h (some ad) 2 c) 34 (0, 0)) := by rw [← hW]; exact new_at1 _
  obtain ⟨ib, hib, hz0, hz1, hz2⟩ := info_parts Try.info_bool
  have hz2' : ib.bytes * (S.size + 1) ≤ 281474976710656 := by rw [hz2]; omega
  have hmx : S.size + 1 ≤ maxLen := by unfold maxLen; omega
  have HE := Lib.hid hW
  have HW := Lib.hid hbW
  have E1 := Lib.hid e1
  have HFR := Lib.hid hfr
  have HRW := Lib.hid hrow
  have HR := Lib.hid hr
  have HSW := Lib.hid hsW
  have HIB := Lib.hid hib
  have HZ0 := Lib.hid hz0
  have HZ1 := Lib.hid hz1
  clear hW hbW e1 hfr hrow hr hz2 hsW hib hz0 hz1
  go_enter Try.func85, Try.ntmps85
  go_upto_region 1 with fail
  rw [show w.alloc _ = W from HE.out]
  go_wp2_with (at_make; refine wpList_make_full _ rfl _ _ 94 rfl W.heap.size 4 ib (.bool false) 1 Try.underlying94 HIB.out HZ0.out HZ1.out _ _ _ _ (S.size + 1) rfl rfl (by omega) (by omega) hz2' hmx (Nat.le_refl _) ?_; intro w1 hown hg; have hb1 : Below W.heap.size W w1 := (Below.refl _ _).grown hg (Nat.le_refl _) (by simp); obtain ⟨x0, x1, x2, x3, x4, x5⟩ := re_at_box ((hb1.block _ (lt_of_block E1.out)).trans E1.out))
  have HO1 := Lib.hid (made_bools hown (by omega))
  have HB1 := Lib.hid (below_from HW.out hb1)
  have N1 := Lib.hid ((hb1.block _ (lt_of_block E1.out)).trans E1.out)
  have HRW1 := Lib.hid ((HRW.out.below HW.out).below hb1)
  have HR1 := Lib.hid ((HR.out.below HW.out).below hb1)
  clear hb1 hown hg hz2' hmx E1 HRW HR HIB HZ0 HZ1
  have hfr := HFR.out
  have HAF : Hid (∀ ad, Af = some ad → ad.block < w.heap.size) := fun a ha => by
    obtain ⟨a2, x, e1, e2, e3⟩ := HRW0.out.at_ (show 0 < fr.length by omega)
    rw [ha] at e1
    cases e1
    have := World.block_lt_of_cell? w _ e3
    rwa [block_add] at this
  have Q : Hid (∀ X, Below w1.heap.size w1 X → X.cell? ⟨w.heap.size, 5, none⟩ = some (.slice (some ad) 2 c) ∧ X.cell? ad = some (.int .u8 (hx.k.toNat : Int)) ∧ X.cell? ⟨ad.block, ad.off + 1, none⟩ = some (.int .u64 (hx.s.a.toNat : Int)) ∧ X.cell? ⟨ad.block, ad.off + 2, none⟩ = some (.int .u64 (hx.s.b.toNat : Int)) ∧ X.cell? ⟨ad.block, ad.off + 3, none⟩ = some (.int .u64 (hx.s.c.toNat : Int)) ∧ X.cell? ⟨ad.block, ad.off + 4, none⟩ = some (.int .u64 (hx.s.d.toNat : Int)) ∧ X.cell? ⟨ad.block, ad.off + 5, none⟩ = some (.slice A1 kx.length c1) ∧ X.cell? ⟨ad.block, ad.off + 6, none⟩ = some (.int .u8 (hy.k.toNat : Int)) ∧ X.cell? ⟨ad.block, ad.off + 6 + 1, none⟩ = some (.int .u64 (hy.s.a.toNat : Int)) ∧ X.cell? ⟨ad.block, ad.off + 6 + 2, none⟩ = some (.int .u64 (hy.s.b.toNat : Int)) ∧ X.cell? ⟨ad.block, ad.off + 6 + 3, none⟩ = some (.int .u64 (hy.s.c.toNat : Int)) ∧ X.cell? ⟨ad.block, ad.off + 6 + 4, none⟩ = some (.int .u64 (hy.s.d.toNat : Int)) ∧ X.cell? ⟨ad.block, ad.off + 6 + 5, none⟩ = some (.slice A2 ky.length c2)) := fun X hX => by
    obtain ⟨a0, a1, a2, a3, a4, a5⟩ := re_at_box ((hX.block _ (lt_of_block N1.out)).trans N1.out)
    obtain ⟨u0, u1, u2, u3, u4, u5, v0, v1, v2, v3, v4, v5⟩ := HKX.out X (below_from HB1.out hX)
    exact ⟨a5, u0, u1, u2, u3, u4, u5, v0, v1, v2, v3, v4, v5⟩
  have hz := Below.refl w1.heap.size w1
  refine wp_region_held_drew (S := fun X => X.cell? ⟨w.heap.size, 5, none⟩ = some (.slice (some ad) 2 c) ∧ X.cell? ad = some (.int .u8 (hx.k.toNat : Int)) ∧ X.cell? ⟨ad.block, ad.off + 1, none⟩ = some (.int .u64 (hx.s.a.toNat : Int)) ∧ X.cell? ⟨ad.block, ad.off + 2, none⟩ = some (.int .u64 (hx.s.b.toNat : Int)) ∧ X.cell? ⟨ad.block, ad.off + 3, none⟩ = some (.int .u64 (hx.s.c.toNat : Int)) ∧ X.cell? ⟨ad.block, ad.off + 4, none⟩ = some (.int .u64 (hx.s.d.toNat : Int)) ∧ X.cell? ⟨ad.block, ad.off + 5, none⟩ = some (.slice A1 kx.length c1) ∧ X.cell? ⟨ad.block, ad.off + 6, none⟩ = some (.int .u8 (hy.k.toNat : Int)) ∧ X.cell? ⟨ad.block, ad.off + 6 + 1, none⟩ = some (.int .u64 (hy.s.a.toNat : Int)) ∧ X.cell? ⟨ad.block, ad.off + 6 + 2, none⟩ = some (.int .u64 (hy.s.b.toNat : Int)) ∧ X.cell? ⟨ad.block, ad.off + 6 + 3, none⟩ = some (.int .u64 (hy.s.c.toNat : Int)) ∧ X.cell? ⟨ad.block, ad.off + 6 + 4, none⟩ = some (.int .u64 (hy.s.d.toNat : Int)) ∧ X.cell? ⟨ad.block, ad.off + 6 + 5, none⟩ = some (.slice A2 ky.length c2)) (by kernel_rfl) (Q.out _ hz.drew) (fun hHeld => ?_)
  refine wpAnyH_take (i := 0) (oi := ⟨some 71, _, _, _, _, _⟩) (v := .pointer (some ⟨w.heap.size, 5, none⟩)) rfl (by kernel_rfl) (by kernel_rfl) (by kernel_rfl) (fun _ _ _ h => h) (Or.inl ⟨by rfl, ?_⟩) (by assumption) ?_
  · intro wx hSw
    obtain ⟨p5, u0, u1, u2, u3, u4, u5, v0, v1, v2, v3, v4, v5⟩ := hSw
    first | (go_simp; done) | (go_simp; with_reducible rfl) | (go_simp; exact ⟨rfl, rfl, rfl, rfl⟩)
  try simp only [Act.put, List.setIfInBounds_toArray, List.set_cons_zero, List.set_cons_succ]
  refine wpAnyH_take (i := 1) (oi := ⟨some 72, _, _, _, _, _⟩) (v := .slice (some ad) 2 c) rfl (by kernel_rfl) (by kernel_rfl) (by kernel_rfl) (fun _ _ _ h => h) (Or.inl ⟨by rfl, ?_⟩) (by assumption) ?_
  · intro wx hSw
    obtain ⟨p5, u0, u1, u2, u3, u4, u5, v0, v1, v2, v3, v4, v5⟩ := hSw
    first | (go_simp; done) | (go_simp; with_reducible rfl) | (go_simp; exact ⟨rfl, rfl, rfl, rfl⟩)
  try simp only [Act.put, List.setIfInBounds_toArray, List.set_cons_zero, List.set_cons_succ]
  refine wpAnyH_take (i := 2) (oi := ⟨some 73, _, _, _, _, _⟩) (v := .pointer (some ad)) rfl (by kernel_rfl) (by kernel_rfl) (by kernel_rfl) (fun _ _ _ h => h) (Or.inl ⟨by rfl, ?_⟩) (by assumption) ?_
  · intro wx hSw
    obtain ⟨p5, u0, u1, u2, u3, u4, u5, v0, v1, v2, v3, v4, v5⟩ := hSw
    first | (go_simp; done) | (go_simp; with_reducible rfl) | (go_simp; exact ⟨rfl, rfl, rfl, rfl⟩)
  try simp only [Act.put, List.setIfInBounds_toArray, List.set_cons_zero, List.set_cons_succ]
  refine wpAnyH_take (i := 3) (oi := ⟨some 74, _, _, _, _, _⟩) (v := reV hx A1 kx.length c1) rfl (by kernel_rfl) (by kernel_rfl) (by kernel_rfl) (fun _ _ _ h => h) (Or.inl ⟨by rfl, ?_⟩) (by assumption) ?_
  · intro wx hSw
    obtain ⟨p5, u0, u1, u2, u3, u4, u5, v0, v1, v2, v3, v4, v5⟩ := hSw
    first | (go_simp; done) | (go_simp; with_reducible rfl) | (go_simp; exact ⟨rfl, rfl, rfl, rfl⟩)
  try simp only [Act.put, List.setIfInBounds_toArray, List.set_cons_zero, List.set_cons_succ]
  refine wpAnyH_take (i := 4) (oi := ⟨some 75, _, _, _, _, _⟩) (v := .string S) rfl (by kernel_rfl) (by kernel_rfl) (by kernel_rfl) (fun _ _ _ h => h) (Or.inl ⟨by rfl, ?_⟩) (by assumption) ?_
  · intro wx hSw
    obtain ⟨p5, u0, u1, u2, u3, u4, u5, v0, v1, v2, v3, v4, v5⟩ := hSw
    first | (go_simp; done) | (go_simp; with_reducible rfl) | (go_simp; exact ⟨rfl, rfl, rfl, rfl⟩)
  try simp only [Act.put, List.setIfInBounds_toArray, List.set_cons_zero, List.set_cons_succ]
  refine wpAnyH_take (i := 5) (oi := ⟨some 76, _, _, _, _, _⟩) (v := .slice Af (S.size + 1) cf) rfl (by kernel_rfl) (by kernel_rfl) (by kernel_rfl) (fun _ _ _ h => h) (Or.inl ⟨by rfl, ?_⟩) (by assumption) ?_
  · intro wx hSw
    obtain ⟨p5, u0, u1, u2, u3, u4, u5, v0, v1, v2, v3, v4, v5⟩ := hSw
    first | (go_simp; done) | (go_simp; with_reducible rfl) | (go_simp; exact ⟨rfl, rfl, rfl, rfl⟩)
  try simp only [Act.put, List.setIfInBounds_toArray, List.set_cons_zero, List.set_cons_succ]
  refine wpAnyH_take (i := 7) (oi := ⟨some 78, _, _, _, _, _⟩) (v := .pointer (some ⟨w.heap.size, 5, none⟩)) rfl (by kernel_rfl) (by kernel_rfl) (by kernel_rfl) (fun _ _ _ h => h) (Or.inl ⟨by rfl, ?_⟩) (by assumption) ?_
  · intro wx hSw
    obtain ⟨p5, u0, u1, u2, u3, u4, u5, v0, v1, v2, v3, v4, v5⟩ := hSw
    first | (go_simp; done) | (go_simp; with_reducible rfl) | (go_simp; exact ⟨rfl, rfl, rfl, rfl⟩)
  try simp only [Act.put, List.setIfInBounds_toArray, List.set_cons_zero, List.set_cons_succ]
  refine wpAnyH_take (i := 8) (oi := ⟨some 79, _, _, _, _, _⟩) (v := .slice (some ad) 2 c) rfl (by kernel_rfl) (by kernel_rfl) (by kernel_rfl) (fun _ _ _ h => h) (Or.inl ⟨by rfl, ?_⟩) (by assumption) ?_
  · intro wx hSw
    obtain ⟨p5, u0, u1, u2, u3, u4, u5, v0, v1, v2, v3, v4, v5⟩ := hSw
    first | (go_simp; done) | (go_simp; with_reducible rfl) | (go_simp; exact ⟨rfl, rfl, rfl, rfl⟩)
  try simp only [Act.put, List.setIfInBounds_toArray, List.set_cons_zero, List.set_cons_succ]
  refine wpAnyH_take (i := 9) (oi := ⟨some 80, _, _, _, _, _⟩) (v := .pointer (some ⟨ad.block, ad.off + 6, none⟩)) rfl (by kernel_rfl) (by kernel_rfl) (by kernel_rfl) (fun _ _ _ h => h) (Or.inl ⟨by rfl, ?_⟩) (by assumption) ?_
  · intro wx hSw
    obtain ⟨p5, u0, u1, u2, u3, u4, u5, v0, v1, v2, v3, v4, v5⟩ := hSw
    first | (go_simp; done) | (go_simp; with_reducible rfl) | (go_simp; exact ⟨rfl, rfl, rfl, rfl⟩)
  try simp only [Act.put, List.setIfInBounds_toArray, List.set_cons_zero, List.set_cons_succ]
  refine wpAnyH_take (i := 10) (oi := ⟨some 81, _, _, _, _, _⟩) (v := reV hy A2 ky.length c2) rfl (by kernel_rfl) (by kernel_rfl) (by kernel_rfl) (fun _ _ _ h => h) (Or.inl ⟨by rfl, ?_⟩) (by assumption) ?_
  · intro wx hSw
    obtain ⟨p5, u0, u1, u2, u3, u4, u5, v0, v1, v2, v3, v4, v5⟩ := hSw
    first | (go_simp; done) | (go_simp; with_reducible rfl) | (go_simp; exact ⟨rfl, rfl, rfl, rfl⟩)
  try simp only [Act.put, List.setIfInBounds_toArray, List.set_cons_zero, List.set_cons_succ]
  refine wpAnyH_take (i := 11) (oi := ⟨some 82, _, _, _, _, _⟩) (v := .string S) rfl (by kernel_rfl) (by kernel_rfl) (by kernel_rfl) (fun _ _ _ h => h) (Or.inl ⟨by rfl, ?_⟩) (by assumption) ?_
  · intro wx hSw
    obtain ⟨p5, u0, u1, u2, u3, u4, u5, v0, v1, v2, v3, v4, v5⟩ := hSw
    first | (go_simp; done) | (go_simp; with_reducible rfl) | (go_simp; exact ⟨rfl, rfl, rfl, rfl⟩)
  try simp only [Act.put, List.setIfInBounds_toArray, List.set_cons_zero, List.set_cons_succ]
  refine wpAnyH_take (i := 12) (oi := ⟨some 83, _, _, _, _, _⟩) (v := .slice Af (S.size + 1) cf) rfl (by kernel_rfl) (by kernel_rfl) (by kernel_rfl) (fun _ _ _ h => h) (Or.inl ⟨by rfl, ?_⟩) (by assumption) ?_
  · intro wx hSw
    obtain ⟨p5, u0, u1, u2, u3, u4, u5, v0, v1, v2, v3, v4, v5⟩ := hSw
    first | (go_simp; done) | (go_simp; with_reducible rfl) | (go_simp; exact ⟨rfl, rfl, rfl, rfl⟩)
  try simp only [Act.put, List.setIfInBounds_toArray, List.set_cons_zero, List.set_cons_succ]
  refine wpAnyH_ready (rs := [6]) (by kernel_rfl) (by simp) ?_
  refine AllReadyH.cons (o := ⟨some 77, .call _, _, _, _, _⟩) rfl (fun K hK => ?_) AllReadyH.nil
  have HK := Lib.hid hK
  clear hK
  go_simp
  refine (PX.out _ Af cf fr (below_from HB1.out hz.drew) HFR.out (HRW1.out.below hz.drew)).mono ?_
  rintro e wa ⟨A3, c3, l3, rfl, he3, hr3, hp3, hba⟩
  have hz : Below w1.heap.size w1 wa := below_from hz.drew hba
  refine HK.out _ _ (Q.out _ hz) (fun hHeld2 => ?_)
  clear HK hHeld
  have hHeld := hHeld2
  clear hHeld2
  try simp only [Act.put, List.setIfInBounds_toArray, List.set_cons_zero, List.set_cons_succ]
  refine wpAnyH_ready (rs := [13]) (by kernel_rfl) (by simp) ?_
  refine AllReadyH.cons (o := ⟨some 84, .call _, _, _, _, _⟩) rfl (fun K hK => ?_) AllReadyH.nil
  have HK := Lib.hid hK
  clear hK
  go_simp
  refine (PY.out _ Af cf fr (below_from HB1.out hz) HFR.out (HRW1.out.below hz)).mono ?_
  rintro e wb ⟨A4, c4, l4, rfl, he4, hr4, hp4, hbb⟩
  have hzb : Below w1.heap.size w1 wb := below_from hz hbb
  have hsa := hz.size
  have hz := hzb
  refine HK.out _ _ (Q.out _ hz) (fun hHeld2 => ?_)
  clear HK hHeld
  have hHeld := hHeld2
  clear hHeld2
  try simp only [Act.put, List.setIfInBounds_toArray, List.set_cons_zero, List.set_cons_succ]
  refine wpAnyH_take (i := 14) (oi := ⟨some 9, _, _, _, _, _⟩) (v := .slice A3 (S.size + 1) c3) rfl (by kernel_rfl) (by kernel_rfl) (by kernel_rfl) (fun _ _ _ h => h) (Or.inl ⟨by rfl, ?_⟩) (by assumption) ?_
  · intro wx hSw
    obtain ⟨p5, u0, u1, u2, u3, u4, u5, v0, v1, v2, v3, v4, v5⟩ := hSw
    first | (go_simp; done) | (go_simp; with_reducible rfl) | (go_simp; exact ⟨rfl, rfl, rfl, rfl⟩)
  try simp only [Act.put, List.setIfInBounds_toArray, List.set_cons_zero, List.set_cons_succ]
  refine wpAnyH_take (i := 15) (oi := ⟨some 10, _, _, _, _, _⟩) (v := .slice A4 (S.size + 1) c4) rfl (by kernel_rfl) (by kernel_rfl) (by kernel_rfl) (fun _ _ _ h => h) (Or.inl ⟨by rfl, ?_⟩) (by assumption) ?_
  · intro wx hSw
    obtain ⟨p5, u0, u1, u2, u3, u4, u5, v0, v1, v2, v3, v4, v5⟩ := hSw
    first | (go_simp; done) | (go_simp; with_reducible rfl) | (go_simp; exact ⟨rfl, rfl, rfl, rfl⟩)
  try simp only [Act.put, List.setIfInBounds_toArray, List.set_cons_zero, List.set_cons_succ]
  refine wpAnyH_done (by kernel_rfl) ?_ _
  have hsw : w.heap.size < W.heap.size := by have := HSW.out; omega
  have hw1 : W.heap.size < w1.heap.size := by
    have h := HO1.out
    rcases h.2 with ⟨e, _⟩ | ⟨g, cap, cur, e, h1, h2, _⟩
    · cases e
    · cases e
      exact (lt_of_block h2)
  have hwd : w1.drew.heap.size = w1.heap.size := rfl
  have HN3 : Hid (∀ a, A3 = some a → a.block ≠ W.heap.size) := fun a ha => by
    rcases hp3 with h | h
    · have := HAF.out a (by rw [← h.1]; exact ha); omega
    · have := h a ha; omega
  have HN4 : Hid (∀ a, A4 = some a → a.block ≠ W.heap.size) := fun a ha => by
    rcases hp4 with h | h
    · have := HAF.out a (by rw [← h.1]; exact ha); omega
    · have := h a ha; omega
  have hl3 : l3.length = S.size + 1 := by rw [he3.1, bs_len]
  have hl4 : l4.length = S.size + 1 := by rw [he4.1, bs_len]
  have HL3 := Lib.hid hl3
  have HL4 := Lib.hid hl4
  have HEA := Lib.hid he3
  have HEB := Lib.hid he4
  have HR3 := Lib.hid (hr3.below hbb)
  have HR4 := Lib.hid hr4
  have HBZ := Lib.hid (below_from HB1.out hz)
  have HOZ := Lib.hid (HO1.out.kept (w' := wb) (row := none) ⟨hz.os, hz.tape, hz.output, hz.size, fun k hk _ => hz.block k hk⟩ (by simp [Value.ownBlock]))
  have HA0 : Hid (AltTo (S.size + 1) l3 l4 (List.replicate (S.size + 1) false) 0) := ⟨List.length_replicate .., fun j => ⟨fun e => absurd e (none_true _ j), fun h => absurd h.1 (Nat.not_lt_zero _)⟩⟩
  clear hp3 hp4 hl3 hl4 he3 he4 hr3 hr4 hba hbb hz hzb Q HO1 hw1 hwd hHeld
  go_wp2_with fail
  go_loopw [11, 87] (fun _ i wr => ∃ (k : Nat) (l : List Bool), k ≤ S.size + 1 ∧ i = .int .i64 (k : Nat) ∧ Hid (wr.ownsRow W.heap.size 4 1 (.slice (some ⟨W.heap.size, 0, none⟩) (S.size + 1) (S.size + 1)) (S.size + 1) (l.map Value.bool)) ∧ Hid (AltTo (S.size + 1) l3 l4 l k) ∧ Hid (Row1 Value.bool wr A3 l3) ∧ Hid (Row1 Value.bool wr A4 l4) ∧ Hid (Below w.heap.size w wr)) (fun _ i _ => S.size + 1 - (intOf i).toNat)
  case atStart => exact ⟨0, _, Nat.zero_le _, rfl, HOZ, HA0, HR3, HR4, HBZ⟩
  case round =>
    clear HOZ HA0 HR3 HR4 HBZ
    obtain ⟨k, l, hk, rfl, HOZ, HAT, HR3, HR4, HBZ⟩ := hrel
    by_cases hlt : k < S.size + 1
    · have gd : decide ((k : Int) < (S.size : Int) + 1) = true := by simp; omega
      obtain ⟨ad3, x, hA3, hx, hcx⟩ := HR3.out.at_ (show k < l3.length by rw [HL3.out]; omega)
      obtain ⟨ad4, y, hA4, hy, hcy⟩ := HR4.out.at_ (show k < l4.length by rw [HL4.out]; omega)
      have hll := own_len HOZ.out
      have HA1 := Lib.hid (alt_set HAT.out hx hy hlt (.inr trivial))
      have hco := bool_cell (bool_own HOZ.out) (List.getElem?_eq_getElem (show k < l.length by omega))
      have hfo := HOZ.out.frozenAt k
      generalize l[k]'(by omega) = bo at *
      have HO2 : Hid (∀ z : Bool, (wr.setCell ⟨W.heap.size, k, none⟩ (.bool z)).ownsRow W.heap.size 4 1 (.slice (some ⟨W.heap.size, 0, none⟩) (S.size + 1) (S.size + 1)) (S.size + 1) ((l.set k z).map Value.bool)) := fun z => bool_set HOZ.out
      have HB2 : Hid (∀ z : Value, Below w.heap.size w (wr.setCell ⟨W.heap.size, k, none⟩ z)) := fun z => HBZ.out.setCell (p := ⟨W.heap.size, k, none⟩) (by show w.heap.size ≤ W.heap.size; omega) z
      have HR32 : Hid (∀ z : Value, Row1 Value.bool (wr.setCell ⟨W.heap.size, k, none⟩ z) A3 l3) := fun z j v hv => by
        obtain ⟨a, e, hc⟩ := HR3.out j v hv
        exact ⟨a, e, (World.cell?_of_block (Below.heap_setCell _ _ _ _ (by show (a.add j).block ≠ W.heap.size; rw [block_add]; exact HN3.out a e))).trans hc⟩
      have HR42 : Hid (∀ z : Value, Row1 Value.bool (wr.setCell ⟨W.heap.size, k, none⟩ z) A4 l4) := fun z j v hv => by
        obtain ⟨a, e, hc⟩ := HR4.out j v hv
        exact ⟨a, e, (World.cell?_of_block (Below.heap_setCell _ _ _ _ (by show (a.add j).block ≠ W.heap.size; rw [block_add]; exact HN4.out a e))).trans hc⟩
      subst hA3 hA4
      clear hx hy HOZ HAT HR3 HR4 HBZ hll
      cases x <;> cases y
      all_goals
        go_wp2_with fail
        go_roundw
        case rel => exact ⟨k + 1, _, by omega, by go_num, HO2.out _, HA1, HR32.out _, HR42.out _, HB2.out _⟩
        case measure => simp [intOf]; omega
    · have hkk : k = S.size + 1 := by omega
      have gd : decide ((k : Int) < (S.size : Int) + 1) = false := by simp; omega
      have HEE : Hid (EndsP (rAlt (.mk hx kx) (.mk hy ky)) S.data.toList fr l) := by
        have h := HAT.out
        refine ends_altP HEA.out HEB.out (by rw [h.1, bs_len]) fun j => ?_
        rw [h.2]
        constructor
        · exact fun h => h.2
        · intro h
          refine ⟨?_, h⟩
          rcases h with h | h
          · have := (List.getElem?_eq_some_iff.1 h).1; rw [HL3.out] at this; omega
          · have := (List.getElem?_eq_some_iff.1 h).1; rw [HL4.out] at this; omega
      have hb := HBZ.out
      have HRN := Lib.hid (bool_own HOZ.out)
      have hpl : w.heap.size ≤ W.heap.size := by omega
      clear hkk HAT HOZ HR3 HR4 HBZ hlt
      go_wp2_with fail
      go_ret
      exact ⟨_, _, l, rfl, by rw [HT.out]; exact HEE.out, HRN.out, .inr (fun a h => by cases h; exact hpl), hb⟩
end Go.Proofs.Yteokbmngebckjaa
namespace Go.Proofs.Yteokbmngebckjaa
open Go.RowKit
set_option linter.unusedVariables false
set_option linter.unusedSimpArgs false

def falsesAt (w : World) (g : Nat) : Nat → Nat
  | 0 => 0
  | n + 1 => falsesAt w g n + (match w.cell? ⟨g, n, none⟩ with | some (.bool false) => 1 | _ => 0)
theorem falsesAt_take {w : World} {g : Nat} {l : List Bool} (h : Row1 Value.bool w (some ⟨g, 0, none⟩) l) : ∀ n, n ≤ l.length → falsesAt w g n = falses (l.take n)
  | 0, _ => rfl
  | n + 1, hn => by
    have hx := List.getElem?_eq_getElem (show n < l.length by omega)
    rw [falsesAt, falsesAt_take h n (by omega), List.take_add_one, hx, bool_cell h hx]
    unfold falses
    rw [List.count_append]
    cases l[n]'(by omega) <;> rfl
theorem falsesAt_own {w : World} {base g n cap : Nat} {e : TypeId} {l : List Bool} (h : w.ownsRow base e 1 (.slice (some ⟨g, 0, none⟩) n cap) n (l.map Value.bool)) : falsesAt w g n = falses l := by
  have hl := own_len h
  have := falsesAt_take (bool_own h) n (by omega)
  rwa [List.take_of_length_le (by omega)] at this
def boolN : Value → Nat
  | .bool true => 1
  | _ => 0
def StarTo (n : Nat) (l nx lk : List Bool) (k : Nat) (m : Bool) : Prop := lk.length = n ∧ (∀ j : Nat, lk[j]? = some true ↔ (l[j]? = some true ∨ (j < k ∧ nx[j]? = some true))) ∧ ((m = false ∧ lk = l) ∨ (m = true ∧ falses lk < falses l))
theorem star_skip {n k : Nat} {l nx lk : List Bool} {m : Bool} (h : StarTo n l nx lk k m) (hx : nx[k]? = some false ∨ lk[k]? = some true) : StarTo n l nx lk (k + 1) m := by
  refine ⟨h.1, fun j => ?_, h.2.2⟩
  rw [h.2.1]
  constructor
  · rintro (h1 | ⟨h1, h2⟩)
    · exact .inl h1
    · exact .inr ⟨by omega, h2⟩
  · rintro (h1 | ⟨h1, h2⟩)
    · exact .inl h1
    · rcases Nat.lt_or_ge j k with h3 | h3
      · exact .inr ⟨h3, h2⟩
      · have e : j = k := by omega
        subst e
        rcases hx with hx | hx
        · rw [hx] at h2; cases h2
        · rcases (h.2.1 j).1 hx with h4 | h4
          · exact .inl h4
          · exact .inr h4
theorem star_set {n k : Nat} {l nx lk : List Bool} {m : Bool} (h : StarTo n l nx lk k m) (hx : nx[k]? = some true) (hy : lk[k]? = some false) : StarTo n l nx (lk.set k true) (k + 1) true := by
  have hkl := (List.getElem?_eq_some_iff.1 hy).1
  refine ⟨by rw [List.length_set]; exact h.1, fun j => ?_, .inr ⟨rfl, ?_⟩⟩
  · rw [List.getElem?_set]
    by_cases e : k = j
    · subst e
      rw [if_pos rfl, if_pos hkl]
      exact ⟨fun _ => .inr ⟨by omega, hx⟩, fun _ => rfl⟩
    · rw [if_neg e, h.2.1]
      constructor
      · rintro (h1 | ⟨h1, h2⟩)
        · exact .inl h1
        · exact .inr ⟨by omega, h2⟩
      · rintro (h1 | ⟨h1, h2⟩)
        · exact .inl h1
        · exact .inr ⟨by omega, h2⟩
  · have h1 := falses_set hy
    rcases h.2.2 with ⟨_, h2⟩ | ⟨_, h2⟩
    · rw [h2] at h1 ⊢; omega
    · omega
set_option maxRecDepth 100000 in
set_option maxHeartbeats 8000000 in
theorem fends_66 {h : RH} (e : h.k = 6) (hs : h.s = S4.zero) {hx : RH} {kx : List Re} (px : EndOk 85 hx kx) (kx6 : hx.k = 6) (hst : ∃ y, (T.mk hx kx : Re) = rStar y) : EndOk 85 h [.mk hx kx] := by
  intro P A c S Af cf fr w hc hr hS hfr hrow
  have HRW0 := Lib.hid hrow
  have g1 : ((h.k.toNat : Int) == 1) = false := kindN (n := 1) (by decide) (by rw [e]; decide)
  have g2 : ((h.k.toNat : Int) == 2) = false := kindN (n := 2) (by decide) (by rw [e]; decide)
  have g3 : ((h.k.toNat : Int) == 3) = false := kindN (n := 3) (by decide) (by rw [e]; decide)
  have g4 : ((h.k.toNat : Int) == 4) = false := kindN (n := 4) (by decide) (by rw [e]; decide)
  have g5 : ((h.k.toNat : Int) == 5) = false := kindN (n := 5) (by decide) (by rw [e]; decide)
  have HT : Hid ((T.mk h [.mk hx kx] : Re) = rStar (.mk hx kx)) := by unfold Hid; obtain ⟨k, s⟩ := h; simp only at e hs; rw [e, hs]
  clear e hs
  obtain ⟨ad, A1, c1, hA, hc1, hr1, u0, u1, u2, u3, u4, u5⟩ := kid0N hr
  subst hA
  have HKX : Hid (∀ X, Below w.heap.size w X → X.cell? ad = some (.int .u8 (hx.k.toNat : Int)) ∧ X.cell? ⟨ad.block, ad.off + 1, none⟩ = some (.int .u64 (hx.s.a.toNat : Int)) ∧ X.cell? ⟨ad.block, ad.off + 2, none⟩ = some (.int .u64 (hx.s.b.toNat : Int)) ∧ X.cell? ⟨ad.block, ad.off + 3, none⟩ = some (.int .u64 (hx.s.c.toNat : Int)) ∧ X.cell? ⟨ad.block, ad.off + 4, none⟩ = some (.int .u64 (hx.s.d.toNat : Int)) ∧ X.cell? ⟨ad.block, ad.off + 5, none⟩ = some (.slice A1 kx.length c1)) := fun X hX => ⟨keep_cell hX u0, keep_cell hX u1, keep_cell hX u2, keep_cell hX u3, keep_cell hX u4, keep_cell hX u5⟩
  have PX : Hid (∀ X Ag cg (gr : List Bool), Below w.heap.size w X → gr.length = S.size + 1 → Row1 Value.bool X Ag gr → Calls Try.prog 85 #[reV hx A1 kx.length c1, .string S, .slice Ag (S.size + 1) cg] X (EndPost (.mk hx kx) S Ag gr X)) := fun X Ag cg gr hX hg hrow => px _ A1 c1 S Ag cg gr X hc1 (hr1.below hX) hS hg hrow
  clear px hc1 hr1 u0 u1 u2 u3 u4 u5
  have gk : ((hx.k.toNat : Int) == 6) = true := kindY (n := 6) (by decide) kx6
  have HST := Lib.hid hst
  clear kx6 hst
  obtain ⟨W, hW⟩ : ∃ W, w.alloc (.cells (reA h (some ad) 1 c) 34) = W := ⟨_, rfl⟩
  have hbW : Below w.heap.size w W := by rw [← hW]; exact below_new (Below.refl _ _) _
  have hsW : W.heap.size = w.heap.size + 1 := by rw [← hW]; simp
  have e1 : W.heap[w.heap.size]? = some (.cells (reA h (some ad) 1 c) 34 (0, 0)) := by rw [← hW]; exact new_at1 _
  obtain ⟨ib, hib, hz0, hz1, hz2⟩ := info_parts Try.info_bool
  have hz2' : ib.bytes * (S.size + 1) ≤ 281474976710656 := by rw [hz2]; omega
  have hmx : S.size + 1 ≤ maxLen := by unfold maxLen; omega
  have HE := Lib.hid hW
  have HW := Lib.hid hbW
  have E1 := Lib.hid e1
  have HFR := Lib.hid hfr
  have HRW := Lib.hid hrow
  have HR := Lib.hid hr
  have HSW := Lib.hid hsW
  have HIB := Lib.hid hib
  have HZ0 := Lib.hid hz0
  have HZ1 := Lib.hid hz1
  clear hW hbW e1 hfr hrow hr hz2 hsW hib hz0 hz1
  go_enter Try.func85, Try.ntmps85
  go_upto_region 1 with fail
  rw [show w.alloc _ = W from HE.out]
  go_upto_region 24 with (at_make; refine wpList_make_full _ rfl _ _ 94 rfl W.heap.size 4 ib (.bool false) 1 Try.underlying94 HIB.out HZ0.out HZ1.out _ _ _ _ (S.size + 1) rfl rfl (by omega) (by omega) hz2' hmx (Nat.le_refl _) ?_; intro w1 hown hg; have hb1 : Below W.heap.size W w1 := (Below.refl _ _).grown hg (Nat.le_refl _) (by simp); obtain ⟨x0, x1, x2, x3, x4, x5⟩ := re_at_box ((hb1.block _ (lt_of_block E1.out)).trans E1.out))
  have HO1 := Lib.hid (made_bools hown (by omega))
  have HB1 := Lib.hid (below_from HW.out hb1)
  have N1 := Lib.hid ((hb1.block _ (lt_of_block E1.out)).trans E1.out)
  have HRW1 := Lib.hid ((HRW.out.below HW.out).below hb1)
  have HR1 := Lib.hid ((HR.out.below HW.out).below hb1)
  clear hb1 hown hg hz2' hmx E1 HRW HR HIB HZ0 HZ1
  have Q : Hid (∀ X, Below w1.heap.size w1 X → X.cell? ⟨w.heap.size, 5, none⟩ = some (.slice (some ad) 1 c) ∧ X.cell? ad = some (.int .u8 (hx.k.toNat : Int)) ∧ X.cell? ⟨ad.block, ad.off + 1, none⟩ = some (.int .u64 (hx.s.a.toNat : Int)) ∧ X.cell? ⟨ad.block, ad.off + 2, none⟩ = some (.int .u64 (hx.s.b.toNat : Int)) ∧ X.cell? ⟨ad.block, ad.off + 3, none⟩ = some (.int .u64 (hx.s.c.toNat : Int)) ∧ X.cell? ⟨ad.block, ad.off + 4, none⟩ = some (.int .u64 (hx.s.d.toNat : Int)) ∧ X.cell? ⟨ad.block, ad.off + 5, none⟩ = some (.slice A1 kx.length c1)) := fun X hX => by
    obtain ⟨a0, a1, a2, a3, a4, a5⟩ := re_at_box ((hX.block _ (lt_of_block N1.out)).trans N1.out)
    obtain ⟨u0, u1, u2, u3, u4, u5⟩ := HKX.out X (below_from HB1.out hX)
    exact ⟨a5, u0, u1, u2, u3, u4, u5⟩
  obtain ⟨p5, u0, u1, u2, u3, u4, u5⟩ := Q.out w1 (Below.refl _ _)
  go_wp2_with fail
  refine (PX.out _ Af cf fr HB1.out HFR.out HRW1.out).mono ?_
  rintro e wa ⟨A3, c3, l3, rfl, he3, hr3, hp3, hba⟩
  have HEE : Hid (EndsP (rStar (.mk hx kx)) S.data.toList fr l3) := by
    obtain ⟨y, hy⟩ := HST.out
    unfold Hid
    rw [hy] at he3 ⊢
    exact ends_star2P he3
  have hb := below_from HB1.out hba
  have HPL : Hid ((A3 = Af ∧ l3 = fr) ∨ ∀ ad, A3 = some ad → w.heap.size ≤ ad.block) := by
    rcases hp3 with h | h
    · exact .inl h
    · exact .inr fun a ha => by have := h a ha; have := HB1.out.size; omega
  have HR3 := Lib.hid hr3
  clear he3 hr3 hp3 hba p5 u0 u1 u2 u3 u4 u5
  go_wp2_with fail
  go_ret
  exact ⟨_, _, l3, rfl, by rw [HT.out]; exact HEE.out, HR3.out, HPL.out, hb⟩
set_option maxRecDepth 100000 in
set_option maxHeartbeats 8000000 in
theorem fends_6 {h : RH} (e : h.k = 6) (hs : h.s = S4.zero) {hx : RH} {kx : List Re} (px : EndOk 85 hx kx) (kx6 : hx.k ≠ 6) : EndOk 85 h [.mk hx kx] := by
  intro P A c S Af cf fr w hc hr hS hfr hrow
  have HRW0 := Lib.hid hrow
  have g1 : ((h.k.toNat : Int) == 1) = false := kindN (n := 1) (by decide) (by rw [e]; decide)
  have g2 : ((h.k.toNat : Int) == 2) = false := kindN (n := 2) (by decide) (by rw [e]; decide)
  have g3 : ((h.k.toNat : Int) == 3) = false := kindN (n := 3) (by decide) (by rw [e]; decide)
  have g4 : ((h.k.toNat : Int) == 4) = false := kindN (n := 4) (by decide) (by rw [e]; decide)
  have g5 : ((h.k.toNat : Int) == 5) = false := kindN (n := 5) (by decide) (by rw [e]; decide)
  have HT : Hid ((T.mk h [.mk hx kx] : Re) = rStar (.mk hx kx)) := by unfold Hid; obtain ⟨k, s⟩ := h; simp only at e hs; rw [e, hs]
  clear e hs
  obtain ⟨ad, A1, c1, hA, hc1, hr1, u0, u1, u2, u3, u4, u5⟩ := kid0N hr
  subst hA
  have HKX : Hid (∀ X, Below w.heap.size w X → X.cell? ad = some (.int .u8 (hx.k.toNat : Int)) ∧ X.cell? ⟨ad.block, ad.off + 1, none⟩ = some (.int .u64 (hx.s.a.toNat : Int)) ∧ X.cell? ⟨ad.block, ad.off + 2, none⟩ = some (.int .u64 (hx.s.b.toNat : Int)) ∧ X.cell? ⟨ad.block, ad.off + 3, none⟩ = some (.int .u64 (hx.s.c.toNat : Int)) ∧ X.cell? ⟨ad.block, ad.off + 4, none⟩ = some (.int .u64 (hx.s.d.toNat : Int)) ∧ X.cell? ⟨ad.block, ad.off + 5, none⟩ = some (.slice A1 kx.length c1)) := fun X hX => ⟨keep_cell hX u0, keep_cell hX u1, keep_cell hX u2, keep_cell hX u3, keep_cell hX u4, keep_cell hX u5⟩
  have PX : Hid (∀ X Ag cg (gr : List Bool), Below w.heap.size w X → gr.length = S.size + 1 → Row1 Value.bool X Ag gr → Calls Try.prog 85 #[reV hx A1 kx.length c1, .string S, .slice Ag (S.size + 1) cg] X (EndPost (.mk hx kx) S Ag gr X)) := fun X Ag cg gr hX hg hrow => px _ A1 c1 S Ag cg gr X hc1 (hr1.below hX) hS hg hrow
  clear px hc1 hr1 u0 u1 u2 u3 u4 u5
  have gk : ((hx.k.toNat : Int) == 6) = false := kindN (n := 6) (by decide) kx6
  clear kx6
  obtain ⟨W, hW⟩ : ∃ W, w.alloc (.cells (reA h (some ad) 1 c) 34) = W := ⟨_, rfl⟩
  have hbW : Below w.heap.size w W := by rw [← hW]; exact below_new (Below.refl _ _) _
  have hsW : W.heap.size = w.heap.size + 1 := by rw [← hW]; simp
  have e1 : W.heap[w.heap.size]? = some (.cells (reA h (some ad) 1 c) 34 (0, 0)) := by rw [← hW]; exact new_at1 _
  obtain ⟨ib, hib, hz0, hz1, hz2⟩ := info_parts Try.info_bool
  have hz2' : ib.bytes * (S.size + 1) ≤ 281474976710656 := by rw [hz2]; omega
  have hmx : S.size + 1 ≤ maxLen := by unfold maxLen; omega
  have HE := Lib.hid hW
  have HW := Lib.hid hbW
  have E1 := Lib.hid e1
  have HFR := Lib.hid hfr
  have HRW := Lib.hid hrow
  have HR := Lib.hid hr
  have HSW := Lib.hid hsW
  have HIB := Lib.hid hib
  have HZ0 := Lib.hid hz0
  have HZ1 := Lib.hid hz1
  clear hW hbW e1 hfr hrow hr hz2 hsW hib hz0 hz1
  go_enter Try.func85, Try.ntmps85
  go_upto_region 1 with fail
  rw [show w.alloc _ = W from HE.out]
  go_upto_region 24 with (at_make; refine wpList_make_full _ rfl _ _ 94 rfl W.heap.size 4 ib (.bool false) 1 Try.underlying94 HIB.out HZ0.out HZ1.out _ _ _ _ (S.size + 1) rfl rfl (by omega) (by omega) hz2' hmx (Nat.le_refl _) ?_; intro w1 hown hg; have hb1 : Below W.heap.size W w1 := (Below.refl _ _).grown hg (Nat.le_refl _) (by simp); obtain ⟨x0, x1, x2, x3, x4, x5⟩ := re_at_box ((hb1.block _ (lt_of_block E1.out)).trans E1.out))
  have HO1 := Lib.hid (made_bools hown (by omega))
  have HB1 := Lib.hid (below_from HW.out hb1)
  have N1 := Lib.hid ((hb1.block _ (lt_of_block E1.out)).trans E1.out)
  have HRW1 := Lib.hid ((HRW.out.below HW.out).below hb1)
  have HR1 := Lib.hid ((HR.out.below HW.out).below hb1)
  clear hb1 hown hg hz2' hmx E1 HRW HR HIB HZ0 HZ1
  have Q : Hid (∀ X, Below w1.heap.size w1 X → X.cell? ⟨w.heap.size, 5, none⟩ = some (.slice (some ad) 1 c) ∧ X.cell? ad = some (.int .u8 (hx.k.toNat : Int)) ∧ X.cell? ⟨ad.block, ad.off + 1, none⟩ = some (.int .u64 (hx.s.a.toNat : Int)) ∧ X.cell? ⟨ad.block, ad.off + 2, none⟩ = some (.int .u64 (hx.s.b.toNat : Int)) ∧ X.cell? ⟨ad.block, ad.off + 3, none⟩ = some (.int .u64 (hx.s.c.toNat : Int)) ∧ X.cell? ⟨ad.block, ad.off + 4, none⟩ = some (.int .u64 (hx.s.d.toNat : Int)) ∧ X.cell? ⟨ad.block, ad.off + 5, none⟩ = some (.slice A1 kx.length c1)) := fun X hX => by
    obtain ⟨a0, a1, a2, a3, a4, a5⟩ := re_at_box ((hX.block _ (lt_of_block N1.out)).trans N1.out)
    obtain ⟨u0, u1, u2, u3, u4, u5⟩ := HKX.out X (below_from HB1.out hX)
    exact ⟨a5, u0, u1, u2, u3, u4, u5⟩
  obtain ⟨p5, u0, u1, u2, u3, u4, u5⟩ := Q.out w1 (Below.refl _ _)
  go_upto_region 26 with fail
  clear p5 u0 u1 u2 u3 u4 u5
  obtain ⟨U, hU⟩ : ∃ U, w1.alloc (.cells #[] 4) = U := ⟨_, rfl⟩
  have hbU : Below w1.heap.size w1 U := by rw [← hU]; exact below_new (Below.refl _ _) _
  have hown0 : U.ownsRow w1.heap.size 4 1 (.slice (some ⟨w1.heap.size, 0, none⟩) 0 0) 0 [] := by
    rw [← hU]
    exact World.ownsRow_lit (base := w1.heap.size) (e := 4) (size := 1) w1 #[] 0 (Nat.le_refl _) (by unfold maxLen; omega) rfl
  have hsrc := bool_src (HRW1.out.below hbU)
  rw [HFR.out] at hsrc
  have HBU := Lib.hid hbU
  have HUU := Lib.hid hU
  have hsu := hbU.size
  clear hbU hU
  rw [← HUU.out] at hown0 hsrc
  go_wp2_with (at_builtin; refine wpList_app _ rfl (.tmp 118) (.tmp 119) 94 rfl w1.heap.size 4 (.bool false) 1 1 Try.underlying94 Try.info_bool rfl (by decide) (.slice (some ⟨w1.heap.size, 0, none⟩) 0 0) 0 [] rfl hown0 Af (S.size + 1) cf _ rfl hsrc ?h1 ?h2 ?h3 ?h4 ?_)
  case h1 => intro u hu; simp at hu; rcases hu with ⟨_, rfl⟩ | ⟨_, rfl⟩ <;> rfl
  case h2 => unfold maxLen; omega
  case h3 => omega
  case h4 => simp
  intro v5 w5 ho5 hg5 _
  have hb5 : Below w1.heap.size w1 w5 := by
    have := HBU.out
    rw [← HUU.out] at this
    exact this.grown hg5 this.size (fun j hj => own_base hown0 j hj)
  have ho6 : w5.ownsRow w1.heap.size 4 1 v5 (S.size + 1) (fr.map Value.bool) := by simpa using ho5
  rcases own_cases ho6 with ⟨_, h0⟩ | ⟨g, cap, rfl, hcap⟩
  · omega
  have hgb : w1.heap.size ≤ g := own_base ho6 g rfl
  have HO6 := Lib.hid ho6
  have HB5 := Lib.hid hb5
  have HF0 : Hid (∀ j : Nat, fr[j]? = some true → fr[j]? = some true) := fun _ h => h
  have HF1 : Hid (∀ j : Nat, fr[j]? = some true → Clos (.mk hx kx) S.data.toList fr j) := fun j h => clos_start (by rw [HFR.out, bs_len]) h
  have HF2 : Hid (true = false → ∃ n, EndsP (.mk hx kx) S.data.toList fr n ∧ ∀ j : Nat, n[j]? = some true → fr[j]? = some true) := fun h => by cases h
  have hww := HB1.out.size
  clear ho5 hg5 hb5 hown0 hsrc ho6 HBU HUU hsu
  go_wp2_with fail
  go_loopw [13] (fun mm wr => ∃ (l : List Bool) (m : Bool), mm = .bool m ∧ Hid (wr.ownsRow w1.heap.size 4 1 (.slice (some ⟨g, 0, none⟩) (S.size + 1) cap) (S.size + 1) (l.map Value.bool)) ∧ Hid (∀ j : Nat, fr[j]? = some true → l[j]? = some true) ∧ Hid (∀ j : Nat, l[j]? = some true → Clos (.mk hx kx) S.data.toList fr j) ∧ Hid (m = false → ∃ n, EndsP (.mk hx kx) S.data.toList l n ∧ ∀ j : Nat, n[j]? = some true → l[j]? = some true) ∧ Hid (Below w1.heap.size w1 wr)) (fun mm wr => 2 * falsesAt wr g (S.size + 1) + boolN mm)
  case atStart => exact ⟨fr, true, rfl, HO6, HF0, HF1, HF2, HB5⟩
  case round =>
    clear HO6 HF0 HF1 HF2 HB5
    obtain ⟨l, m, rfl, HO6, HF0, HF1, HF2, HB5⟩ := hrel
    have hll := own_len HO6.out
    have HFA := Lib.hid (falsesAt_own HO6.out)
    cases m with
    | false =>
      have HEE : Hid (EndsP (rStar (.mk hx kx)) S.data.toList fr l) := by
        obtain ⟨n, hn, hc⟩ := HF2.out rfl
        exact ends_starP (by rw [hll, bs_len]) HF0.out HF1.out hn hc
      have hb := below_from HB1.out HB5.out
      have HRN := Lib.hid (bool_own HO6.out)
      have hpl : w.heap.size ≤ g := by omega
      clear HF0 HF1 HF2 HO6 hll HFA
      go_wp2_with fail
      go_ret
      exact ⟨_, _, l, rfl, by rw [HT.out]; exact HEE.out, HRN.out, .inr (fun a h => by cases h; exact hpl), hb⟩
    | true =>
      obtain ⟨p5, u0, u1, u2, u3, u4, u5⟩ := Q.out wr HB5.out
      have PXX := Lib.hid (PX.out wr (some ⟨g, 0, none⟩) cap l (below_from HB1.out HB5.out) hll (bool_own HO6.out))
      go_wp2_with fail
      refine PXX.out.mono ?_
      rintro e wa ⟨A3, c3, l3, rfl, he3, hr3, hp3, hba⟩
      have hl3 : l3.length = S.size + 1 := by rw [he3.1, bs_len]
      have HL3 := Lib.hid hl3
      have HE3 := Lib.hid he3
      have HR3 := Lib.hid hr3
      have hgl : g < wr.heap.size := by
        have h := HO6.out
        rcases h.2 with ⟨e, _⟩ | ⟨g', cap', cur, e, h1, h2, _⟩
        · cases e
        · cases e
          exact (lt_of_block h2)
      have HPA : Hid ((A3 = some ⟨g, 0, none⟩ ∧ l3 = l) ∨ ∀ a, A3 = some a → a.block ≠ g) := by
        rcases hp3 with h | h
        · exact .inl h
        · exact .inr fun a ha => by have := h a ha; omega
      have HOA : Hid (wa.ownsRow w1.heap.size 4 1 (.slice (some ⟨g, 0, none⟩) (S.size + 1) cap) (S.size + 1) (l.map Value.bool)) := HO6.out.kept (w' := wa) (row := none) ⟨hba.os, hba.tape, hba.output, hba.size, fun k hk _ => hba.block k hk⟩ (by simp [Value.ownBlock])
      have HBA := Lib.hid (below_from HB5.out hba)
      have HS0 : Hid (StarTo (S.size + 1) l l3 l 0 false) := ⟨hll, fun j => ⟨fun h => .inl h, fun h => by rcases h with h | h; exact h; exact absurd h.1 (Nat.not_lt_zero _)⟩, .inl ⟨rfl, rfl⟩⟩
      obtain ⟨wo, rfl⟩ : ∃ x, x = wr := ⟨_, rfl⟩
      clear HF2 HB5 HO6 hl3 he3 hr3 hp3 hba p5 u0 u1 u2 u3 u4 u5 PXX hgl hll
      go_wp2_with fail
      go_loopw [13, 15, 131] (fun mm _ i wr => ∃ (k : Nat) (lk : List Bool) (m : Bool), mm = .bool m ∧ k ≤ S.size + 1 ∧ i = .int .i64 (k : Nat) ∧ Hid (wr.ownsRow w1.heap.size 4 1 (.slice (some ⟨g, 0, none⟩) (S.size + 1) cap) (S.size + 1) (lk.map Value.bool)) ∧ Hid (StarTo (S.size + 1) l l3 lk k m) ∧ Hid (Row1 Value.bool wr A3 l3) ∧ Hid (Below w1.heap.size w1 wr)) (fun _ _ i _ => S.size + 1 - (intOf i).toNat)
      case atStart => exact ⟨0, l, false, rfl, Nat.zero_le _, rfl, HOA, HS0, HR3, HBA⟩
      case round =>
        clear HOA HS0 HR3 HBA
        obtain ⟨k, lk, m, rfl, hk, rfl, HOA, HST, HR3, HBA⟩ := hrel
        by_cases hlt : k < S.size + 1
        · have gd : decide ((k : Int) < (S.size : Int) + 1) = true := by simp; omega
          obtain ⟨ad3, x, hA3, hxx, hcx⟩ := HR3.out.at_ (show k < l3.length by rw [HL3.out]; omega)
          have hlk := own_len HOA.out
          have hyy := List.getElem?_eq_getElem (show k < lk.length by omega)
          have hco := bool_cell (bool_own HOA.out) hyy
          have hfo := HOA.out.frozenAt k
          generalize lk[k]'(by omega) = y at *
          have HXX := Lib.hid hxx
          have HYY := Lib.hid hyy
          have HAA := Lib.hid hA3
          have HO2 : Hid ((wr.setCell ⟨g, k, none⟩ (.bool true)).ownsRow w1.heap.size 4 1 (.slice (some ⟨g, 0, none⟩) (S.size + 1) cap) (S.size + 1) ((lk.set k true).map Value.bool)) := bool_set HOA.out
          have HB2 : Hid (Below w1.heap.size w1 (wr.setCell ⟨g, k, none⟩ (.bool true))) := HBA.out.setCell (p := ⟨g, k, none⟩) hgb _
          subst hA3
          clear hxx hyy hlk
          cases x with
          | false =>
            have HS1 := Lib.hid (star_skip HST.out (.inl HXX.out))
            clear HST HXX HYY hfo HO2 HB2
            go_wp2_with fail
            go_roundw
            case rel => exact ⟨k + 1, lk, m, rfl, by omega, by go_num, HOA, HS1, HR3, HBA⟩
            case measure => simp [intOf]; omega
          | true =>
            cases y with
            | true =>
              have HS1 := Lib.hid (star_skip HST.out (.inr HYY.out))
              clear HST HXX HYY hfo HO2 HB2
              go_wp2_with fail
              go_roundw
              case rel => exact ⟨k + 1, lk, m, rfl, by omega, by go_num, HOA, HS1, HR3, HBA⟩
              case measure => simp [intOf]; omega
            | false =>
              have HS1 := Lib.hid (star_set HST.out HXX.out HYY.out)
              have HN : Hid (ad3.block ≠ g) := by
                rcases HPA.out with ⟨_, h2⟩ | h
                · exfalso
                  have h3 := HXX.out
                  rw [h2] at h3
                  have h4 := (HST.out.2.1 k).2 (.inl h3)
                  have h5 := HYY.out
                  rw [h4] at h5
                  cases h5
                · exact h ad3 rfl
              have HR2 : Hid (Row1 Value.bool (wr.setCell ⟨g, k, none⟩ (.bool true)) (some ad3) l3) := fun j v hv => by
                obtain ⟨a, e, hc⟩ := HR3.out j v hv
                cases e
                exact ⟨_, rfl, (World.cell?_of_block (Below.heap_setCell _ _ _ _ (by show (ad3.add j).block ≠ g; rw [block_add]; exact HN.out))).trans hc⟩
              clear HST HXX HYY HOA HR3 HBA HN
              go_wp2_with fail
              go_roundw
              case rel => exact ⟨k + 1, _, true, rfl, by omega, by go_num, HO2, HS1, HR2, HB2⟩
              case measure => simp [intOf]; omega
        · have hkk : k = S.size + 1 := by omega
          have gd : decide ((k : Int) < (S.size : Int) + 1) = false := by simp; omega
          have HG0 : Hid (∀ j : Nat, fr[j]? = some true → lk[j]? = some true) := fun j h => (HST.out.2.1 j).2 (.inl (HF0.out j h))
          have HG1 : Hid (∀ j : Nat, lk[j]? = some true → Clos (.mk hx kx) S.data.toList fr j) := fun j h => by
            rcases (HST.out.2.1 j).1 h with h | h
            · exact HF1.out j h
            · exact clos_step HF1.out HE3.out h.2
          have HG2 : Hid (m = false → ∃ n, EndsP (.mk hx kx) S.data.toList lk n ∧ ∀ j : Nat, n[j]? = some true → lk[j]? = some true) := fun hm => by
            rcases HST.out.2.2 with ⟨_, h⟩ | ⟨h, _⟩
            · refine ⟨l3, by rw [h]; exact HE3.out, fun j hj => (HST.out.2.1 j).2 (.inr ⟨?_, hj⟩)⟩
              have := (List.getElem?_eq_some_iff.1 hj).1
              rw [HL3.out] at this
              omega
            · rw [h] at hm; cases hm
          have HFK := Lib.hid (falsesAt_own HOA.out)
          have HMS : Hid (2 * falses lk + boolN (.bool m) < 2 * falses l + 1) := by
            unfold Hid
            rcases HST.out.2.2 with ⟨h1, h2⟩ | ⟨h1, h2⟩
            · rw [h1, h2]; show 2 * falses l + 0 < _; omega
            · rw [h1]; show 2 * falses lk + 1 < _; omega
          clear hkk hlt HST HR3
          go_wp2_with fail
          go_roundw
          case rel => exact ⟨lk, m, rfl, HOA, HG0, HG1, HG2, HBA⟩
          case measure => rw [HFK.out, HFA.out]; exact HMS.out
end Go.Proofs.Yteokbmngebckjaa
namespace Go.Proofs.Yteokbmngebckjaa
open Go.RowKit
set_option linter.unusedVariables false
set_option linter.unusedSimpArgs false

theorem fends_all : ∀ t : Re, okT t = true → EndOkT 85 t := by
  refine okT_ind ?_ ?_ ?_ ?_ ?_ ?_
  · intro h ks e; cases e; exact fends_1 rfl rfl
  · intro h ks e; cases e; exact fends_2 rfl rfl
  · intro s hs h ks e; cases e; exact fends_3 rfl
  · intro x y hx hy ihx ihy h ks e
    cases e
    obtain ⟨h1, k1⟩ := x
    obtain ⟨h2, k2⟩ := y
    exact fends_4 rfl rfl (ihx _ _ rfl) (ihy _ _ rfl)
  · intro x y hx hy ihx ihy h ks e
    cases e
    obtain ⟨h1, k1⟩ := x
    obtain ⟨h2, k2⟩ := y
    exact fends_5 rfl rfl (ihx _ _ rfl) (ihy _ _ rfl)
  · intro x hx ih h ks e
    cases e
    obtain ⟨h1, k1⟩ := x
    by_cases k6 : h1.k = 6
    · refine fends_66 rfl rfl (ih _ _ rfl) k6 ?_
      rcases okT_cases hx with e | e | ⟨s, _, e⟩ | ⟨x, y, _, _, e⟩ | ⟨x, y, _, _, e⟩ | ⟨x, _, e⟩
      · cases e; exact absurd k6 (by decide)
      · cases e; exact absurd k6 (by decide)
      · cases e; exact absurd k6 (by show ¬ ((3 : UInt8) = 6); decide)
      · cases e; exact absurd k6 (by decide)
      · cases e; exact absurd k6 (by decide)
      · exact ⟨x, e⟩
    · exact fends_6 rfl rfl (ih _ _ rfl) k6
def EndsPost (t : Re) (S : ByteArray) (w : World) (e : Ending) (w' : World) : Prop := ∃ A c l, e = .returned (.slice A (S.size + 1) c) ∧ l.length = S.size + 1 ∧ Row1 Value.bool w' A l ∧ (l[S.size]? = some true ↔ (mayB t = true ∧ LT t S.data.toList)) ∧ Below w.heap.size w w'
set_option maxRecDepth 100000 in
set_option maxHeartbeats 8000000 in
theorem fEnds_any {P : Nat → Prop} (h : RH) (ks : List Re) (A : Option Addr) (c : Nat) (S : ByteArray) (w : World) (hm : T.sizes ks ≤ 900000) (hc : ks.length ≤ c) (hr : InRow RE P w ks A 0) (hS : S.size ≤ 100) :
    Calls Try.prog 63 #[reV h A ks.length c, .string S, .int .i64 0] w (EndsPost (.mk h ks) S w) := by
  obtain ⟨W, hW⟩ : ∃ W, w.alloc (.cells (reA h A ks.length c) 34) = W := ⟨_, rfl⟩
  have hbW : Below w.heap.size w W := by rw [← hW]; exact below_new (Below.refl _ _) _
  have e1 : W.heap[w.heap.size]? = some (.cells (reA h A ks.length c) 34 (0, 0)) := by rw [← hW]; exact new_at1 _
  obtain ⟨ib, hib, hz0, hz1, hz2⟩ := info_parts Try.info_bool
  have hz2' : ib.bytes * (S.size + 1) ≤ 281474976710656 := by rw [hz2]; omega
  have hmx : S.size + 1 ≤ maxLen := by unfold maxLen; omega
  have HE := Lib.hid hW
  have HW := Lib.hid hbW
  have E1 := Lib.hid e1
  have HR := Lib.hid hr
  have HIB := Lib.hid hib
  have HZ0 := Lib.hid hz0
  have HZ1 := Lib.hid hz1
  have HMY := Lib.hid (fun X hX => refMay_any h ks A c X (by omega) hc (hr.below hX))
  have HEN : Hid (mayB (.mk h ks) = true → ∀ X Ag cg, Below w.heap.size w X → Row1 Value.bool X Ag ((List.replicate (S.size + 1) false).set 0 true) → Calls Try.prog 85 #[reV h A ks.length c, .string S, .slice Ag (S.size + 1) cg] X (EndPost (.mk h ks) S Ag ((List.replicate (S.size + 1) false).set 0 true) X)) := fun hmy X Ag cg hX hrow =>
    fends_all _ (may_okT hmy) h ks rfl _ A c S Ag cg _ X hc (hr.below hX) hS (by rw [List.length_set, List.length_replicate]) hrow
  have gn : decide ((0 : Int) < 0) = false := by decide
  have gs : decide ((0 : Int) > (S.size : Int)) = false := by simp
  clear hW hbW e1 hr hz2 hib hz0 hz1
  go_enter Try.func63, Try.ntmps63
  go_upto_region 1 with fail
  rw [show w.alloc _ = W from HE.out]
  go_upto_region 2 with (at_make; refine wpList_make_full _ rfl _ _ 94 rfl W.heap.size 4 ib (.bool false) 1 Try.underlying94 HIB.out HZ0.out HZ1.out _ _ _ _ (S.size + 1) rfl rfl (by omega) (by omega) hz2' hmx (Nat.le_refl _) ?_; intro w1 hown hg)
  have hb1 : Below W.heap.size W w1 := (Below.refl _ _).grown hg (Nat.le_refl _) (by simp)
  have HO1 := Lib.hid (made_bools hown (by omega))
  have HB1 := Lib.hid (below_from HW.out hb1)
  have N1 := Lib.hid ((hb1.block _ (lt_of_block E1.out)).trans E1.out)
  clear hb1 hown hg hz2' hmx E1 HR HIB HZ0 HZ1
  have HMC := Lib.hid (HMY.out w1 HB1.out)
  have HRN := Lib.hid (bool_own HO1.out)
  obtain ⟨x0, x1, x2, x3, x4, x5⟩ := re_at_box N1.out
  clear HMY HO1
  rcases hmy : mayB (.mk h ks) with _ | _
  · rw [hmy] at HMC
    have HX : Hid (mayB (.mk h ks) = false) := hmy
    clear hmy HEN
    go_wp2_with fail
    refine HMC.out.mono ?_
    rintro e wz ⟨rfl, hbz⟩
    have hb := below_from HB1.out hbz
    have HRZ := Lib.hid (HRN.out.below hbz)
    clear x0 x1 x2 x3 x4 x5 hbz HMC
    go_wp2_with fail
    go_ret
    exact ⟨_, _, List.replicate (S.size + 1) false, rfl, List.length_replicate .., HRZ.out, ⟨fun h => absurd h (none_true _ _), fun h => by rw [HX.out] at h; exact absurd h.1 (by decide)⟩, hb⟩
  · rw [hmy] at HMC
    have HX : Hid (mayB (.mk h ks) = true) := hmy
    have HEN := Lib.hid (HEN.out hmy)
    clear hmy
    go_wp2_with fail
    refine HMC.out.mono ?_
    rintro e wz ⟨rfl, hbz⟩
    have HBZ := Lib.hid hbz
    have HMK : Hid (∀ X, Below w1.heap.size w1 X → Calls Try.prog 86 #[.slice (some ⟨W.heap.size, 0, none⟩) (S.size + 1) (S.size + 1), .int .i64 0] X fun e w' => ∃ A' c', e = .returned (.slice A' (S.size + 1) c') ∧ Row1 Value.bool w' A' ((List.replicate (S.size + 1) false).set 0 true) ∧ Below X.heap.size X w') := fun X hX => by
      have := mark_any (List.replicate (S.size + 1) false) (some ⟨W.heap.size, 0, none⟩) (S.size + 1) 0 X (HRN.out.below hX) (by rw [List.length_replicate]; omega) (by rw [List.length_replicate]; omega)
      rw [List.length_replicate] at this
      exact this.mono fun e w' h => by obtain ⟨A', c', h1, h2, _, h4⟩ := h; exact ⟨A', c', h1, h2, h4⟩
    have Q : Hid (∀ X, Below wz.heap.size wz X → X.cell? ⟨w.heap.size, 0, none⟩ = some (.int .u8 (h.k.toNat : Int)) ∧ X.cell? ⟨w.heap.size, 1, none⟩ = some (.int .u64 (h.s.a.toNat : Int)) ∧ X.cell? ⟨w.heap.size, 2, none⟩ = some (.int .u64 (h.s.b.toNat : Int)) ∧ X.cell? ⟨w.heap.size, 3, none⟩ = some (.int .u64 (h.s.c.toNat : Int)) ∧ X.cell? ⟨w.heap.size, 4, none⟩ = some (.int .u64 (h.s.d.toNat : Int)) ∧ X.cell? ⟨w.heap.size, 5, none⟩ = some (.slice A ks.length c)) := fun X hX => re_at_box (((below_from hbz hX).block _ (lt_of_block N1.out)).trans N1.out)
    clear x0 x1 x2 x3 x4 x5 HMC
    go_upto_region 4 with fail
    have hz := Below.refl wz.heap.size wz
    refine wp_region_held_drew (S := fun X => X.cell? ⟨w.heap.size, 0, none⟩ = some (.int .u8 (h.k.toNat : Int)) ∧ X.cell? ⟨w.heap.size, 1, none⟩ = some (.int .u64 (h.s.a.toNat : Int)) ∧ X.cell? ⟨w.heap.size, 2, none⟩ = some (.int .u64 (h.s.b.toNat : Int)) ∧ X.cell? ⟨w.heap.size, 3, none⟩ = some (.int .u64 (h.s.c.toNat : Int)) ∧ X.cell? ⟨w.heap.size, 4, none⟩ = some (.int .u64 (h.s.d.toNat : Int)) ∧ X.cell? ⟨w.heap.size, 5, none⟩ = some (.slice A ks.length c)) (by kernel_rfl) (Q.out _ hz.drew) (fun hHeld => ?_)
    refine wpAnyH_take (i := 0) (oi := ⟨some 26, _, _, _, _, _⟩) (v := reV h A ks.length c) rfl (by kernel_rfl) (by kernel_rfl) (by kernel_rfl) (fun _ _ _ h => h) (Or.inl ⟨by rfl, ?_⟩) (by assumption) ?_
    · intro wx hSw
      obtain ⟨x0, x1, x2, x3, x4, x5⟩ := hSw
      first | (go_simp; done) | (go_simp; with_reducible rfl) | (go_simp; exact ⟨rfl, rfl, rfl, rfl⟩)
    try simp only [Act.put, List.setIfInBounds_toArray, List.set_cons_zero, List.set_cons_succ]
    refine wpAnyH_take (i := 1) (oi := ⟨some 27, _, _, _, _, _⟩) (v := .string S) rfl (by kernel_rfl) (by kernel_rfl) (by kernel_rfl) (fun _ _ _ h => h) (Or.inl ⟨by rfl, ?_⟩) (by assumption) ?_
    · intro wx hSw
      obtain ⟨x0, x1, x2, x3, x4, x5⟩ := hSw
      first | (go_simp; done) | (go_simp; with_reducible rfl) | (go_simp; exact ⟨rfl, rfl, rfl, rfl⟩)
    try simp only [Act.put, List.setIfInBounds_toArray, List.set_cons_zero, List.set_cons_succ]
    refine wpAnyH_take (i := 2) (oi := ⟨some 28, _, _, _, _, _⟩) (v := .slice (some ⟨W.heap.size, 0, none⟩) (S.size + 1) (S.size + 1)) rfl (by kernel_rfl) (by kernel_rfl) (by kernel_rfl) (fun _ _ _ h => h) (Or.inl ⟨by rfl, ?_⟩) (by assumption) ?_
    · intro wx hSw
      obtain ⟨x0, x1, x2, x3, x4, x5⟩ := hSw
      first | (go_simp; done) | (go_simp; with_reducible rfl) | (go_simp; exact ⟨rfl, rfl, rfl, rfl⟩)
    try simp only [Act.put, List.setIfInBounds_toArray, List.set_cons_zero, List.set_cons_succ]
    refine wpAnyH_take (i := 3) (oi := ⟨some 29, _, _, _, _, _⟩) (v := .int .i64 0) rfl (by kernel_rfl) (by kernel_rfl) (by kernel_rfl) (fun _ _ _ h => h) (Or.inl ⟨by rfl, ?_⟩) (by assumption) ?_
    · intro wx hSw
      obtain ⟨x0, x1, x2, x3, x4, x5⟩ := hSw
      first | (go_simp; done) | (go_simp; with_reducible rfl) | (go_simp; exact ⟨rfl, rfl, rfl, rfl⟩)
    try simp only [Act.put, List.setIfInBounds_toArray, List.set_cons_zero, List.set_cons_succ]
    refine wpAnyH_ready (rs := [4]) (by kernel_rfl) (by simp) ?_
    refine AllReadyH.cons (o := ⟨some 30, .call _, _, _, _, _⟩) rfl (fun K hK => ?_) AllReadyH.nil
    have HK := Lib.hid hK
    clear hK
    go_simp
    refine (HMK.out _ (below_from HBZ.out hz.drew)).mono ?_
    rintro e wa ⟨A3, c3, rfl, hr3, hba⟩
    have hz : Below wz.heap.size wz wa := below_from hz.drew hba
    refine HK.out _ _ (Q.out _ hz) (fun hHeld2 => ?_)
    clear HK hHeld
    have hHeld := hHeld2
    clear hHeld2
    try simp only [Act.put, List.setIfInBounds_toArray, List.set_cons_zero, List.set_cons_succ]
    refine wpAnyH_ready (rs := [5]) (by kernel_rfl) (by simp) ?_
    refine AllReadyH.cons (o := ⟨some 31, .call _, _, _, _, _⟩) rfl (fun K hK => ?_) AllReadyH.nil
    have HK := Lib.hid hK
    clear hK
    go_simp
    refine (HEN.out _ A3 c3 (below_from (below_from HB1.out HBZ.out) hz) hr3).mono ?_
    rintro e wb ⟨A4, c4, l4, rfl, he4, hr4, hp4, hbb⟩
    have hzb : Below wz.heap.size wz wb := below_from hz hbb
    have hz := hzb
    refine HK.out _ _ (Q.out _ hz) (fun hHeld2 => ?_)
    clear HK hHeld
    have hHeld := hHeld2
    clear hHeld2
    try simp only [Act.put, List.setIfInBounds_toArray, List.set_cons_zero, List.set_cons_succ]
    refine wpAnyH_take (i := 6) (oi := ⟨some 6, _, _, _, _, _⟩) (v := .slice A4 (S.size + 1) c4) rfl (by kernel_rfl) (by kernel_rfl) (by kernel_rfl) (fun _ _ _ h => h) (Or.inl ⟨by rfl, ?_⟩) (by assumption) ?_
    · intro wx hSw
      obtain ⟨x0, x1, x2, x3, x4, x5⟩ := hSw
      first | (go_simp; done) | (go_simp; with_reducible rfl) | (go_simp; exact ⟨rfl, rfl, rfl, rfl⟩)
    try simp only [Act.put, List.setIfInBounds_toArray, List.set_cons_zero, List.set_cons_succ]
    refine wpAnyH_done (by kernel_rfl) ?_ _
    have hb := below_from (below_from HB1.out HBZ.out) hz
    have HL4 : Hid (l4.length = S.size + 1) := by have := he4.1; rw [bs_len] at this; exact this
    have HFIN : Hid (l4[S.size]? = some true ↔ (mayB (.mk h ks) = true ∧ LT (.mk h ks) S.data.toList)) := by
      unfold Hid
      rw [he4.2, HX.out]
      constructor
      · rintro ⟨_, i, hi, e, hl⟩
        rw [List.getElem?_set] at e
        by_cases hi0 : 0 = i
        · subst hi0
          rw [← bs_len S, sub_all] at hl
          exact ⟨rfl, hl⟩
        · rw [if_neg hi0] at e
          exact absurd e (none_true _ _)
      · rintro ⟨_, hl⟩
        refine ⟨by rw [bs_len]; exact Nat.le_refl _, 0, Nat.zero_le _, by rw [List.getElem?_set]; simp, ?_⟩
        rw [← bs_len S, sub_all]
        exact hl
    have HR4 := Lib.hid hr4
    clear he4 hr3 hr4 hp4 hba hbb hHeld Q hz hzb
    go_wp2_with fail
    go_ret
    exact ⟨_, _, l4, rfl, HL4.out, HR4.out, HFIN.out, hb⟩
def FitsPost (t : Re) (S : ByteArray) (w : World) (e : Ending) (w' : World) : Prop := ∃ b : Bool, e = .returned (.bool b) ∧ (b = true ↔ (mayB t = true ∧ LT t S.data.toList)) ∧ Below w.heap.size w w'
set_option maxRecDepth 100000 in
set_option maxHeartbeats 4000000 in
theorem fits_any {P : Nat → Prop} (h : RH) (ks : List Re) (A : Option Addr) (c : Nat) (S : ByteArray) (w : World) (hm : T.sizes ks ≤ 900000) (hc : ks.length ≤ c) (hr : InRow RE P w ks A 0) (hS : S.size ≤ 100) :
    Calls Try.prog 42 #[reV h A ks.length c, .string S] w (FitsPost (.mk h ks) S w) := by
  have HC := Lib.hid (fun o => fEnds_any h ks A c S (w.alloc o) hm hc (hr.below (below_new (Below.refl _ _) o)) hS)
  have HB := Lib.hid (fun o => below_new (Below.refl w.heap.size w) o)
  clear hr
  go_enter Try.func42, Try.ntmps42
  go_wp2_with fail
  refine (HC.out _).mono ?_
  rintro e w1 ⟨A3, c3, l3, rfl, hl3, hr3, hf3, hb1⟩
  have hb := below_from (HB.out _) hb1
  obtain ⟨ad3, x, hA3, hx, hcx⟩ := hr3.at_ (show S.size < l3.length by omega)
  subst hA3
  have HX : Hid (x = true ↔ (mayB (.mk h ks) = true ∧ LT (.mk h ks) S.data.toList)) := by
    unfold Hid
    rw [← hf3, hx]
    exact ⟨fun h => by rw [h], fun h => Option.some.inj h⟩
  clear hr3 hf3 hb1 hx hl3 HC
  go_wp2_with fail
  go_ret
  exact ⟨x, rfl, HX.out, hb⟩
end Go.Proofs.Yteokbmngebckjaa
