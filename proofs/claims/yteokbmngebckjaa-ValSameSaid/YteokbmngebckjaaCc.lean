/- Places in a text: joined; one alone; where texts end: no kids. Where texts end: without kids. Where texts end: two behind one another; one of two. Where texts end: as often as one likes. Where texts end, as places. -/
import Derived.Test.YteokbmngebckjaaBs
import Derived.Laws.CopyOwn
import Derived.Test.YteokbmngebckjaaCb
import Derived.Test.YteokbmngebckjaaBb
import Derived.Test.YteokbmngebckjaaBa
import Derived.Test.YteokbmngebckjaaBd
import Derived.Test.YteokbmngebckjaaCa
namespace Go.Proofs.Yteokbmngebckjaa
open Go.RowKit
set_option linter.unusedVariables false
set_option linter.unusedSimpArgs false

theorem grown_trM {w x y : World} {r : Option Nat} (h : w.grownBy x r) (k : x.grownBy y r) : w.grownBy y r :=
  ⟨k.os.trans h.os, k.tape.trans h.tape, k.output.trans h.output, Nat.le_trans h.size k.size, fun j hj hr => (k.block j (Nat.lt_of_lt_of_le hj h.size) hr).trans (h.block j hj hr)⟩
theorem set_grownM (w : World) (b : Nat) (o : Nat) (v : Value) : w.grownBy (w.setCell ⟨b, o, none⟩ v) (some b) :=
  ⟨rfl, rfl, rfl, by simp, fun k _ hr => Below.heap_setCell _ _ _ _ (by show k ≠ b; rintro rfl; exact hr rfl)⟩
theorem set_same {l : List Bool} {k : Nat} {y : Bool} (h : l[k]? = some y) : l.set k y = l := by
  obtain ⟨hk, e⟩ := List.getElem?_eq_some_iff.1 h
  rw [← e]
  exact List.set_getElem_self hk
theorem star_join {n k : Nat} {l nx lk : List Bool} {m x y : Bool} (h : StarTo n l nx lk k m) (hx : nx[k]? = some x) (hy : lk[k]? = some y) : StarTo n l nx (lk.set k (y || x)) (k + 1) (m || (x && !y)) := by
  cases x with
  | false =>
    simp only [Bool.or_false, Bool.false_and]
    rw [set_same hy]
    exact star_skip h (.inl hx)
  | true =>
    cases y with
    | true =>
      simp only [Bool.or_true, Bool.not_true, Bool.and_false, Bool.or_false]
      rw [set_same hy]
      exact star_skip h (.inr hy)
    | false =>
      simp only [Bool.or_true, Bool.not_false, Bool.and_true]
      exact star_set h hx hy
def JoinPost (lp lq : List Bool) (base g n cap : Nat) (w : World) (e : Ending) (w' : World) : Prop := ∃ lk m, e = .returned (.bool m) ∧ StarTo n lp lq lk n m ∧ w'.ownsRow base 4 1 (.slice (some ⟨g, 0, none⟩) n cap) n (lk.map Value.bool) ∧ w.grownBy w' (some g)
set_option maxRecDepth 100000 in
set_option maxHeartbeats 8000000 in
theorem joinM_any (lp lq : List Bool) (base g n cap : Nat) (Aq : Option Addr) (cq : Nat) (w : World) (hp : w.ownsRow base 4 1 (.slice (some ⟨g, 0, none⟩) n cap) n (lp.map Value.bool)) (hq : Row1 Value.bool w Aq lq) (hl : lq.length = n) (hne : ∀ ad, Aq = some ad → ad.block ≠ g) (hn : n ≤ 1000) :
    Calls Try.prog 102 #[.slice (some ⟨g, 0, none⟩) n cap, .slice Aq n cq] w (JoinPost lp lq base g n cap w) := by
  have HP := Lib.hid hp
  have HQ := Lib.hid hq
  have HNE := Lib.hid hne
  have HL := Lib.hid hl
  have HS0 : Hid (StarTo n lp lq lp 0 false) := ⟨own_len hp, fun j => ⟨fun h => .inl h, fun h => by rcases h with h | h; exact h; exact absurd h.1 (Nat.not_lt_zero _)⟩, .inl ⟨rfl, rfl⟩⟩
  have HG0 : Hid (w.grownBy w (some g)) := ⟨rfl, rfl, rfl, Nat.le_refl _, fun _ _ _ => rfl⟩
  clear hp hq hne hl
  go_enter Try.func102, Try.ntmps102
  go_wp2_with fail
  go_loopw [5, 10] (fun mm i wr => ∃ (k : Nat) (lk : List Bool) (m : Bool), mm = .bool m ∧ k ≤ n ∧ i = .int .i64 (k : Nat) ∧ Hid (wr.ownsRow base 4 1 (.slice (some ⟨g, 0, none⟩) n cap) n (lk.map Value.bool)) ∧ Hid (StarTo n lp lq lk k m) ∧ Hid (Row1 Value.bool wr Aq lq) ∧ Hid (w.grownBy wr (some g))) (fun _ i _ => n - (intOf i).toNat)
  case atStart => exact ⟨0, lp, false, rfl, Nat.zero_le _, rfl, HP, HS0, HQ, HG0⟩
  case round =>
    clear HP HS0 HQ HG0
    obtain ⟨k, lk, m, rfl, hk, rfl, HOA, HST, HQ, HG⟩ := hrel
    by_cases hlt : k < n
    · have gd : decide ((k : Int) < (n : Int)) = true := by simp; omega
      obtain ⟨ad3, x, hA3, hxx, hcx⟩ := HQ.out.at_ (show k < lq.length by rw [HL.out]; omega)
      have hlk := own_len HOA.out
      have hyy := List.getElem?_eq_getElem (show k < lk.length by omega)
      have hco := bool_cell (bool_own HOA.out) hyy
      have hfo := HOA.out.frozenAt k
      generalize lk[k]'(by omega) = y at *
      have HS1 := Lib.hid (star_join HST.out hxx hyy)
      have HO2 : Hid ((wr.setCell ⟨g, k, none⟩ (.bool (y || x))).ownsRow base 4 1 (.slice (some ⟨g, 0, none⟩) n cap) n ((lk.set k (y || x)).map Value.bool)) := bool_set HOA.out
      have hN := HNE.out ad3 hA3
      have HR2 : Hid (Row1 Value.bool (wr.setCell ⟨g, k, none⟩ (.bool (y || x))) Aq lq) := fun j v hv => by
        obtain ⟨a, e, hc⟩ := HQ.out j v hv
        rw [hA3] at e
        cases e
        exact ⟨_, hA3, (World.cell?_of_block (Below.heap_setCell _ _ _ _ (by show (ad3.add j).block ≠ g; rw [block_add]; exact hN))).trans hc⟩
      have HG2 : Hid (w.grownBy (wr.setCell ⟨g, k, none⟩ (.bool (y || x))) (some g)) := grown_trM HG.out (set_grownM wr g k (.bool (y || x)))
      subst hA3
      clear hxx hyy hlk HST HOA HQ HG hN
      cases m <;> cases x <;> cases y
      all_goals
        go_wp2_with fail
        go_roundw
        case rel => exact ⟨k + 1, _, _, rfl, by omega, by go_num, HO2, HS1, HR2, HG2⟩
        case measure => simp [intOf]; omega
    · have hkk : k = n := by omega
      subst hkk
      have gd : decide ((k : Int) < (k : Int)) = false := by simp
      clear hlt hk
      go_wp2_with fail
      go_ret
      exact ⟨lk, m, rfl, HST.out, HOA.out, HG.out⟩
set_option maxRecDepth 100000 in
set_option maxHeartbeats 4000000 in
theorem only_any (n c i : Nat) (A : Option Addr) (w : World) (hi : i < n) (hn : n ≤ 1000) :
    Calls Try.prog 92 #[.slice A n c, .int .i64 (i : Nat)] w fun e w' => ∃ g cap, e = .returned (.slice (some ⟨g, 0, none⟩) n cap) ∧ Row1 Value.bool w' (some ⟨g, 0, none⟩) ((List.replicate n false).set i true) ∧ w.heap.size ≤ g ∧ Below w.heap.size w w' := by
  obtain ⟨ib, hib, hz0, hz1, hz2⟩ := info_parts Try.info_bool
  have hz2' : ib.bytes * n ≤ 281474976710656 := by rw [hz2]; omega
  have hmx : n ≤ maxLen := by unfold maxLen; omega
  go_enter Try.func92, Try.ntmps92
  go_upto_region 2 with (at_make; refine wpList_make_full _ rfl _ _ 120 rfl w.heap.size 4 ib (.bool false) 1 Try.underlying120 hib hz0 hz1 _ _ _ _ n rfl rfl (by omega) (by omega) hz2' hmx (Nat.le_refl _) ?_; intro w1 hown hg)
  have hb1 : Below w.heap.size w w1 := (Below.refl _ _).grown hg (Nat.le_refl _) (by simp)
  have ho := made_bools hown (by omega)
  have hc5 := bool_cell (bool_own ho) (List.getElem?_eq_getElem (show i < (List.replicate n false).length by rw [List.length_replicate]; exact hi))
  have hf5 := ho.frozenAt i
  have HS := Lib.hid (bool_own (bool_set (i := i) (b := true) ho))
  have HBS := Lib.hid (hb1.setCell (p := ⟨w.heap.size, i, none⟩) (Nat.le_refl _) (.bool true))
  clear hb1 hown hg ho hz2' hmx hib hz0 hz1 hz2
  go_wp2_with fail
  go_ret
  exact ⟨_, _, rfl, HS.out, Nat.le_refl _, HBS.out⟩
end Go.Proofs.Yteokbmngebckjaa
namespace Go.Proofs.Yteokbmngebckjaa
open Go.RowKit
set_option linter.unusedVariables false
set_option linter.unusedSimpArgs false

set_option maxRecDepth 100000 in
set_option maxHeartbeats 8000000 in
theorem mends_1 {h : RH} (e : h.k = 1) (hs : h.s = S4.zero) : EndOk 91 h [] := by
  intro P A c S Af cf fr w hc hr hS hfr hrow
  have g2 : ((h.k.toNat : Int) == 2) = false := u8_ne (n := 2) (by decide) (by rw [e]; decide)
  have g3 : ((h.k.toNat : Int) == 3) = false := u8_ne (n := 3) (by decide) (by rw [e]; decide)
  have g4 : ((h.k.toNat : Int) == 4) = false := u8_ne (n := 4) (by decide) (by rw [e]; decide)
  have g5 : ((h.k.toNat : Int) == 5) = false := u8_ne (n := 5) (by decide) (by rw [e]; decide)
  have g6 : ((h.k.toNat : Int) == 6) = false := u8_ne (n := 6) (by decide) (by rw [e]; decide)
  have HT : Hid ((T.mk h [] : Re) = rEmp) := by unfold Hid; obtain ⟨k, s⟩ := h; simp only at e hs; rw [e, hs]
  clear e hs
  obtain ⟨W, hW⟩ : ∃ W, w.alloc (.cells (reA h A 0 c) 34) = W := ⟨_, rfl⟩
  have hbW : Below w.heap.size w W := by rw [← hW]; exact below_new (Below.refl _ _) _
  have hsW : W.heap.size = w.heap.size + 1 := by rw [← hW]; simp
  have e1 : W.heap[w.heap.size]? = some (.cells (reA h A 0 c) 34 (0, 0)) := by rw [← hW]; exact new_at1 _
  obtain ⟨ib, hib, hz0, hz1, hz2⟩ := info_parts Try.info_bool
  have hz2' : ib.bytes * (S.size + 1) ≤ 281474976710656 := by rw [hz2]; omega
  have hmx : S.size + 1 ≤ maxLen := by unfold maxLen; omega
  have HE := Lib.hid hW
  have HW := Lib.hid hbW
  have E1 := Lib.hid e1
  have HFR := Lib.hid hfr
  have HRW := Lib.hid hrow
  have HR := Lib.hid hr
  have HSW := Lib.hid hsW
  have HIB := Lib.hid hib
  have HZ0 := Lib.hid hz0
  have HZ1 := Lib.hid hz1
  clear hW hbW e1 hfr hrow hr hz2 hsW hib hz0 hz1
  go_enter Try.func91, Try.ntmps91
  go_upto_region 1 with fail
  rw [show w.alloc _ = W from HE.out]
  go_upto_region 2 with (at_make; refine wpList_make_full _ rfl _ _ 120 rfl W.heap.size 4 ib (.bool false) 1 Try.underlying120 HIB.out HZ0.out HZ1.out _ _ _ _ (S.size + 1) rfl rfl (by omega) (by omega) hz2' hmx (Nat.le_refl _) ?_; intro w1 hown hg)
  have hb1 : Below W.heap.size W w1 := (Below.refl _ _).grown hg (Nat.le_refl _) (by simp)
  have HO1 := Lib.hid (made_bools hown (by omega))
  have HB1 := Lib.hid (below_from HW.out hb1)
  have N1 := Lib.hid ((hb1.block _ (lt_of_block E1.out)).trans E1.out)
  have HRW1 := Lib.hid ((HRW.out.below HW.out).below hb1)
  have HR1 := Lib.hid ((HR.out.below HW.out).below hb1)
  clear hb1 hown hg hz2' hmx E1 HRW HR HIB HZ0 HZ1
  obtain ⟨x0, x1, x2, x3, x4, x5⟩ := re_at_box N1.out
  go_wp2_with fail
  go_ret
  exact ⟨_, _, List.replicate (S.size + 1) false, rfl, by rw [HT.out]; exact ends_empP (by rw [List.length_replicate, bs_len]) (fun j => none_true _ j), bool_own HO1.out, .inr (fun ad h => by cases h; exact HW.out.size), HB1.out⟩
set_option maxRecDepth 100000 in
set_option maxHeartbeats 8000000 in
theorem mends_2 {h : RH} (e : h.k = 2) (hs : h.s = S4.zero) : EndOk 91 h [] := by
  intro P A c S Af cf fr w hc hr hS hfr hrow
  have g2 : ((h.k.toNat : Int) == 2) = true := u8_eq (n := 2) (by decide) e
  have HT : Hid ((T.mk h [] : Re) = rEps) := by unfold Hid; obtain ⟨k, s⟩ := h; simp only at e hs; rw [e, hs]
  clear e hs
  have HAF : Hid (∀ a, Af = some a → a.block < w.heap.size) := fun a ha => by
    obtain ⟨a2, x, e1, e2, e3⟩ := hrow.at_ (show 0 < fr.length by omega)
    rw [ha] at e1
    cases e1
    have := World.block_lt_of_cell? w _ e3
    rwa [block_add] at this
  obtain ⟨W, hW⟩ : ∃ W, w.alloc (.cells (reA h A 0 c) 34) = W := ⟨_, rfl⟩
  have hbW : Below w.heap.size w W := by rw [← hW]; exact below_new (Below.refl _ _) _
  have hsW : W.heap.size = w.heap.size + 1 := by rw [← hW]; simp
  have e1 : W.heap[w.heap.size]? = some (.cells (reA h A 0 c) 34 (0, 0)) := by rw [← hW]; exact new_at1 _
  obtain ⟨ib, hib, hz0, hz1, hz2⟩ := info_parts Try.info_bool
  have hz2' : ib.bytes * (S.size + 1) ≤ 281474976710656 := by rw [hz2]; omega
  have hmx : S.size + 1 ≤ maxLen := by unfold maxLen; omega
  have HE := Lib.hid hW
  have HW := Lib.hid hbW
  have E1 := Lib.hid e1
  have HFR := Lib.hid hfr
  have HRW := Lib.hid hrow
  have HR := Lib.hid hr
  have HSW := Lib.hid hsW
  have HIB := Lib.hid hib
  have HZ0 := Lib.hid hz0
  have HZ1 := Lib.hid hz1
  clear hW hbW e1 hfr hrow hr hz2 hsW hib hz0 hz1
  go_enter Try.func91, Try.ntmps91
  go_upto_region 1 with fail
  rw [show w.alloc _ = W from HE.out]
  go_upto_region 2 with (at_make; refine wpList_make_full _ rfl _ _ 120 rfl W.heap.size 4 ib (.bool false) 1 Try.underlying120 HIB.out HZ0.out HZ1.out _ _ _ _ (S.size + 1) rfl rfl (by omega) (by omega) hz2' hmx (Nat.le_refl _) ?_; intro w1 hown hg)
  have hb1 : Below W.heap.size W w1 := (Below.refl _ _).grown hg (Nat.le_refl _) (by simp)
  have HO1 := Lib.hid (made_bools hown (by omega))
  have HB1 := Lib.hid (below_from HW.out hb1)
  have N1 := Lib.hid ((hb1.block _ (lt_of_block E1.out)).trans E1.out)
  have HRW1 := Lib.hid ((HRW.out.below HW.out).below hb1)
  have HR1 := Lib.hid ((HR.out.below HW.out).below hb1)
  clear hb1 hown hg hz2' hmx E1 HRW HR HIB HZ0 HZ1
  obtain ⟨x0, x1, x2, x3, x4, x5⟩ := re_at_box N1.out
  obtain ⟨g, cap, cur, hv, _, hcur, hle, _, hcs, htk⟩ := HO1.out.2.resolve_left (fun h => by cases h.1)
  cases hv
  obtain ⟨adf, xf, hAf, _, _⟩ := HRW1.out.at_ (show 0 < fr.length by rw [HFR.out]; omega)
  subst hAf
  have hsrc : ∀ (j : Nat) v, (fr.map Value.bool)[j]? = some v → w1.cell? (adf.add j) = some v := fun j v hv => by
    rw [List.getElem?_map] at hv
    obtain ⟨x, hx, rfl⟩ := Option.map_eq_some_iff.1 hv
    obtain ⟨a, e, hc⟩ := HRW1.out j x hx
    cases e
    exact hc
  have hlen : (fr.map Value.bool).length = S.size + 1 := by rw [List.length_map, HFR.out]
  have HROW : Hid (Row1 Value.bool (w1.setRow W.heap.size (cur.toList.take 0 ++ (fr.map Value.bool ++ cur.toList.drop (0 + (fr.map Value.bool).length))).toArray) (some ⟨W.heap.size, 0, none⟩) fr) := fun j x hx => by
    refine ⟨_, rfl, ?_⟩
    have : (Addr.add ⟨W.heap.size, 0, none⟩ j) = ⟨W.heap.size, j, none⟩ := by unfold Addr.add; split <;> simp_all
    rw [this, cell_setRow_same _ _ _ _ _ _ _ hcur]
    have hj := (List.getElem?_eq_some_iff.1 hx).1
    simp only [List.take_zero, List.nil_append, List.getElem?_toArray]
    rw [List.getElem?_append_left (by rw [List.length_map]; exact hj), List.getElem?_map, hx]
    rfl
  have HBS := Lib.hid (below_setRow (g := W.heap.size) HB1.out (by have := HSW.out; omega) (cur.toList.take 0 ++ (fr.map Value.bool ++ cur.toList.drop (0 + (fr.map Value.bool).length))).toArray)
  have hfit : 0 + (fr.map Value.bool).length ≤ cur.size := by rw [hlen, hcs]; omega
  have hmin : (fr.map Value.bool).length = Nat.min (S.size + 1) (S.size + 1) := by rw [hlen]; exact (Nat.min_self _).symm
  have hone : ∀ v ∈ fr.map Value.bool, v.oneCell' = true := fun v hv => by
    obtain ⟨x, _, rfl⟩ := List.mem_map.1 hv
    rfl
  clear HO1 hcs htk hle
  go_wp2_with (with_reducible refine wpList_copy_own (o := ⟨some 20, _, _, _, _, _⟩) rfl (.tmp 18) (.tmp 19) 120 120 rfl 4 Try.underlying120 (by kernel_rfl) W.heap.size 0 (S.size + 1) (S.size + 1) adf (S.size + 1) cf rfl rfl cur 4 hcur (fr.map Value.bool) hmin hsrc hfit hone ?_; (generalize w1.setRow W.heap.size (cur.toList.take 0 ++ (fr.map Value.bool ++ cur.toList.drop (0 + (fr.map Value.bool).length))).toArray = w2 at HROW HBS ⊢))
  go_ret
  exact ⟨_, _, fr, rfl, by rw [HT.out]; exact ends_epsP (by rw [HFR.out, bs_len]), HROW.out, (.inr (fun ad h => by cases h; show w.heap.size ≤ W.heap.size; have := HSW.out; omega)), HBS.out⟩
theorem setHasM_any (s : S4) (d : UInt8) (w : World) : Calls Try.prog 80 #[setV s, .int .u8 (d.toNat : Int)] w fun e w' => e = .returned (.bool (s.has d.toNat)) ∧ Below w.heap.size w w' := by
  have := setHas_any s (d.toNat : Int) w (by omega) (by have := d.toNat_lt; omega)
  rw [Int.toNat_natCast] at this
  exact this
theorem cls_no {S : ByteArray} {X : S4} {fr l : List Bool} {k : Nat} (h : ClsTo S X fr l k) (hk : k + 1 < l.length) : l.set (k + 1) false = l := by
  refine set_same ?_
  have hx := List.getElem?_eq_getElem hk
  rcases hb : l[k + 1] with _ | _
  · rw [hx, hb]
  · exfalso
    rw [hb] at hx
    obtain ⟨i, c, h1, h2, _⟩ := (h.2 (k + 1)).1 hx
    omega
set_option maxRecDepth 100000 in
set_option maxHeartbeats 16000000 in
theorem mends_3 {h : RH} (e : h.k = 3) : EndOk 91 h [] := by
  intro P A c S Af cf fr w hc hr hS hfr hrow
  have g2 : ((h.k.toNat : Int) == 2) = false := u8_ne (n := 2) (by decide) (by rw [e]; decide)
  have g3 : ((h.k.toNat : Int) == 3) = true := u8_eq (n := 3) (by decide) e
  have HT : Hid ((T.mk h [] : Re) = rCls h.s) := by unfold Hid; obtain ⟨k, s⟩ := h; simp only at e; rw [e]
  clear e
  have HAF : Hid (∀ a, Af = some a → a.block < w.heap.size) := fun a ha => by
    obtain ⟨a2, x, e1, e2, e3⟩ := hrow.at_ (show 0 < fr.length by omega)
    rw [ha] at e1
    cases e1
    have := World.block_lt_of_cell? w _ e3
    rwa [block_add] at this
  obtain ⟨W, hW⟩ : ∃ W, w.alloc (.cells (reA h A 0 c) 34) = W := ⟨_, rfl⟩
  have hbW : Below w.heap.size w W := by rw [← hW]; exact below_new (Below.refl _ _) _
  have hsW : W.heap.size = w.heap.size + 1 := by rw [← hW]; simp
  have e1 : W.heap[w.heap.size]? = some (.cells (reA h A 0 c) 34 (0, 0)) := by rw [← hW]; exact new_at1 _
  obtain ⟨ib, hib, hz0, hz1, hz2⟩ := info_parts Try.info_bool
  have hz2' : ib.bytes * (S.size + 1) ≤ 281474976710656 := by rw [hz2]; omega
  have hmx : S.size + 1 ≤ maxLen := by unfold maxLen; omega
  have HE := Lib.hid hW
  have HW := Lib.hid hbW
  have E1 := Lib.hid e1
  have HFR := Lib.hid hfr
  have HRW := Lib.hid hrow
  have HR := Lib.hid hr
  have HSW := Lib.hid hsW
  have HIB := Lib.hid hib
  have HZ0 := Lib.hid hz0
  have HZ1 := Lib.hid hz1
  clear hW hbW e1 hfr hrow hr hz2 hsW hib hz0 hz1
  go_enter Try.func91, Try.ntmps91
  go_upto_region 1 with fail
  rw [show w.alloc _ = W from HE.out]
  go_upto_region 2 with (at_make; refine wpList_make_full _ rfl _ _ 120 rfl W.heap.size 4 ib (.bool false) 1 Try.underlying120 HIB.out HZ0.out HZ1.out _ _ _ _ (S.size + 1) rfl rfl (by omega) (by omega) hz2' hmx (Nat.le_refl _) ?_; intro w1 hown hg)
  have hb1 : Below W.heap.size W w1 := (Below.refl _ _).grown hg (Nat.le_refl _) (by simp)
  have HO1 := Lib.hid (made_bools hown (by omega))
  have HB1 := Lib.hid (below_from HW.out hb1)
  have N1 := Lib.hid ((hb1.block _ (lt_of_block E1.out)).trans E1.out)
  have HRW1 := Lib.hid ((HRW.out.below HW.out).below hb1)
  have HR1 := Lib.hid ((HR.out.below HW.out).below hb1)
  clear hb1 hown hg hz2' hmx E1 HRW HR HIB HZ0 HZ1
  have HC0 : Hid (ClsTo S h.s fr (List.replicate (S.size + 1) false) 0) := ⟨List.length_replicate .., fun j => ⟨fun h => absurd h (none_true _ j), fun ⟨i, _, h, _⟩ => absurd h (Nat.not_lt_zero _)⟩⟩
  have HB0 : Hid (Below w1.heap.size w1 w1) := Below.refl _ _
  have HG0 : Hid (w1.grownBy w1 (some W.heap.size)) := ⟨rfl, rfl, rfl, Nat.le_refl _, fun _ _ _ => rfl⟩
  obtain ⟨x0, x1, x2, x3, x4, x5⟩ := re_at_box N1.out
  have hlW := lt_of_block N1.out
  go_wp2_with fail
  clear x0 x1 x2 x3 x4 x5
  go_loopw [8, 25] (fun _ i wr => ∃ (k : Nat) (l : List Bool), k ≤ S.size ∧ i = .int .i64 (k : Nat) ∧ Hid (wr.ownsRow W.heap.size 4 1 (.slice (some ⟨W.heap.size, 0, none⟩) (S.size + 1) (S.size + 1)) (S.size + 1) (l.map Value.bool)) ∧ Hid (ClsTo S h.s fr l k) ∧ Hid (w1.grownBy wr (some W.heap.size))) (fun _ i _ => S.size - (intOf i).toNat)
  case atStart => exact ⟨0, _, Nat.zero_le _, rfl, HO1, HC0, HG0⟩
  case round =>
    clear HO1 HC0 HG0 HB0
    obtain ⟨k, l, hk, rfl, HOA, HCT, HG⟩ := hrel
    by_cases hlt : k < S.size
    · have gd : decide ((k : Int) < (S.size : Int)) = true := by simp; omega
      have hrw : Row1 Value.bool wr Af fr := fun j v hv => by
        obtain ⟨a, e, hc⟩ := HRW1.out j v hv
        have h1 := HAF.out a e
        have h2 := World.block_lt_of_cell? w1 _ hc
        exact ⟨a, e, (World.cell?_of_block (HG.out.block _ h2 (fun e => by have := Option.some.inj e; rw [block_add] at this; have := HSW.out; omega))).trans hc⟩
      have n1r := (HG.out.block _ hlW (fun e => by have := Option.some.inj e; have := HSW.out; omega)).trans N1.out
      obtain ⟨adf, b, hA3, hxx, hcf⟩ := hrw.at_ (show k < fr.length by rw [HFR.out]; omega)
      have hlk := own_len HOA.out
      have hyy := List.getElem?_eq_getElem (show k + 1 < l.length by omega)
      have hco := bool_cell (bool_own HOA.out) hyy
      have hfo := HOA.out.frozenAt (k + 1)
      generalize l[k + 1]'(by omega) = y at *
      obtain ⟨cc, hcc⟩ : ∃ cc : UInt8, cc = S[k]'hlt := ⟨_, rfl⟩
      have hck : S.data.toList[k]? = some cc := by rw [hcc]; exact List.getElem?_eq_getElem (by rw [bs_len]; exact hlt)
      have ea : ((S[k]'hlt).toNat : Int) = (cc.toNat : Int) := by rw [hcc]
      have HNO := Lib.hid (cls_no HCT.out (by have := HCT.out.1; omega))
      have HXX := Lib.hid hxx
      have HOF : ∀ v, Hid ((wr.setCell ⟨W.heap.size, k + 1, none⟩ (.bool v)).ownsRow W.heap.size 4 1 (.slice (some ⟨W.heap.size, 0, none⟩) (S.size + 1) (S.size + 1)) (S.size + 1) ((l.set (k + 1) v).map Value.bool)) := fun v => bool_set HOA.out
      have HGF : ∀ v, Hid (w1.grownBy (wr.setCell ⟨W.heap.size, k + 1, none⟩ (.bool v)) (some W.heap.size)) := fun v => grown_trM HG.out (set_grownM wr _ _ _)
      subst hA3
      obtain ⟨x0, x1, x2, x3, x4, x5⟩ := re_at_box n1r
      have HOA0 := HOA
      have HGG0 := HG
      clear hxx hyy hlk hcc hrw n1r HOA HG
      cases b with
      | false =>
        have HC1 : Hid (ClsTo S h.s fr (l.set (k + 1) false) (k + 1)) := by unfold Hid; rw [HNO.out]; exact cls_skip HCT.out hck (.inl HXX.out)
        have HO2 := HOF false
        have HG2 := HGF false
        clear HCT hck HNO HXX HOF HGF HOA0 HGG0
        go_upto_region 9 with fail
        go_region
        go_wp2_with fail
        go_roundw
        case rel => exact ⟨k + 1, _, by omega, by go_num, HO2, HC1, Lib.hid ⟨HG2.out.os, HG2.out.tape, HG2.out.output, HG2.out.size, HG2.out.block⟩⟩
        case measure => simp [intOf]; omega
      | true =>
        have CH := Lib.hid (fun X => setHasM_any h.s cc X)
        have HC1 : Hid (ClsTo S h.s fr (l.set (k + 1) (h.s.has cc.toNat)) (k + 1)) := by
          unfold Hid
          rcases hb : h.s.has cc.toNat with _ | _
          · rw [HNO.out]; exact cls_skip HCT.out hck (.inr hb)
          · exact cls_mark HCT.out hck HXX.out hb (by have := HCT.out.1; omega)
        clear HCT hck HNO HXX HOF HGF
        generalize h.s.has cc.toNat = hb at *
        go_upto_region 9 with fail
        have hz := Below.refl wr.heap.size wr
        have ENTRY := Lib.hid True.intro
        go_region_with
          (first
            | (go_at_call 80; (with_reducible refine (CH.out _).mono ?_); rintro e w2 ⟨rfl, hb2⟩; have hz := below_from (by first | exact hz.drew | exact hz | fail) hb2; have hob := HOA0.out.kept (w' := w2) (row := none) ⟨hz.os, hz.tape, hz.output, hz.size, fun k hk _ => hz.block k hk⟩ (by simp [Value.ownBlock]); have hco2 := keep_cell hz hco; have hfo2 := hob.frozenAt (k + 1))
            | fail)
        all_goals
          have HO2 := Lib.hid (bool_set (i := k + 1) (b := hb) hob)
          have HG2 := Lib.hid (grown_trM (grown_trM HGG0.out ⟨hz.os, hz.tape, hz.output, hz.size, fun k hk _ => hz.block k hk⟩) (set_grownM w2 W.heap.size (k + 1) (.bool hb)))
          clear hob hco2 hfo2 hz hb2 HOA0 HGG0 CH
          go_wp2_with fail
          go_roundw
          case rel => exact ⟨k + 1, _, by omega, by go_num, HO2, HC1, HG2⟩
          case measure => simp [intOf]; omega
    · have hkk : k = S.size := by omega
      have HC1 : Hid (EndsP (rCls h.s) S.data.toList fr l) := by
        have := HCT.out
        refine ends_clsP (by rw [this.1, bs_len]) fun j => ?_
        rw [this.2]
        constructor
        · rintro ⟨i, c, _, h⟩; exact ⟨i, c, h⟩
        · rintro ⟨i, c, h1, h2⟩
          have h3 := (List.getElem?_eq_some_iff.1 h2.1).1
          rw [bs_len] at h3
          exact ⟨i, c, by omega, h1, h2⟩
      have HRN := Lib.hid (bool_own HOA.out)
      have HBE := Lib.hid (HB1.out.grown HG.out HB1.out.size (fun j hj => by cases hj; have := HSW.out; omega))
      subst hkk
      have gd : decide ((S.size : Int) < (S.size : Int)) = false := by simp
      clear HCT hlt hk HOA HG
      go_wp2_with fail
      go_ret
      exact ⟨_, _, l, rfl, by rw [HT.out]; exact HC1.out, HRN.out, .inr (fun a h => by cases h; show w.heap.size ≤ W.heap.size; have := HSW.out; omega), HBE.out⟩
end Go.Proofs.Yteokbmngebckjaa
namespace Go.Proofs.Yteokbmngebckjaa
open Go.RowKit
set_option linter.unusedVariables false
set_option linter.unusedSimpArgs false

set_option maxRecDepth 100000 in
set_option maxHeartbeats 16000000 in
theorem mends_4 {h : RH} (e : h.k = 4) (hs : h.s = S4.zero) {hx : RH} {kx : List Re} (px : EndOk 91 hx kx) {hy : RH} {ky : List Re} (py : EndOk 91 hy ky) : EndOk 91 h [.mk hx kx, .mk hy ky] := by
  intro P A c S Af cf fr w hc hr hS hfr hrow
  have g2 : ((h.k.toNat : Int) == 2) = false := u8_ne (n := 2) (by decide) (by rw [e]; decide)
  have g3 : ((h.k.toNat : Int) == 3) = false := u8_ne (n := 3) (by decide) (by rw [e]; decide)
  have g4 : ((h.k.toNat : Int) == 4) = true := u8_eq (n := 4) (by decide) e
  have HT : Hid ((T.mk h [.mk hx kx, .mk hy ky] : Re) = rSeq (.mk hx kx) (.mk hy ky)) := by unfold Hid; obtain ⟨k, s⟩ := h; simp only at e hs; rw [e, hs]
  clear e hs
  have HAF : Hid (∀ a, Af = some a → a.block < w.heap.size) := fun a ha => by
    obtain ⟨a2, x, e1, e2, e3⟩ := hrow.at_ (show 0 < fr.length by omega)
    rw [ha] at e1
    cases e1
    have := World.block_lt_of_cell? w _ e3
    rwa [block_add] at this
  obtain ⟨ad, A1, c1, hA, hc1, hr1, u0, u1, u2, u3, u4, u5⟩ := kid0N hr
  subst hA
  obtain ⟨ad', A2, c2, hA2, hc2, hr2, v0, v1, v2, v3, v4, v5⟩ := kid1N hr
  obtain rfl := Option.some.inj hA2
  have hadl := World.block_lt_of_cell? w _ u0
  have HKX : Hid (∀ X, Below w.heap.size w X → (X.cell? ad = some (.int .u8 (hx.k.toNat : Int)) ∧ X.cell? ⟨ad.block, ad.off + 1, none⟩ = some (.int .u64 (hx.s.a.toNat : Int)) ∧ X.cell? ⟨ad.block, ad.off + 2, none⟩ = some (.int .u64 (hx.s.b.toNat : Int)) ∧ X.cell? ⟨ad.block, ad.off + 3, none⟩ = some (.int .u64 (hx.s.c.toNat : Int)) ∧ X.cell? ⟨ad.block, ad.off + 4, none⟩ = some (.int .u64 (hx.s.d.toNat : Int)) ∧ X.cell? ⟨ad.block, ad.off + 5, none⟩ = some (.slice A1 kx.length c1)) ∧ X.cell? ⟨ad.block, ad.off + 6, none⟩ = some (.int .u8 (hy.k.toNat : Int)) ∧ X.cell? ⟨ad.block, ad.off + 6 + 1, none⟩ = some (.int .u64 (hy.s.a.toNat : Int)) ∧ X.cell? ⟨ad.block, ad.off + 6 + 2, none⟩ = some (.int .u64 (hy.s.b.toNat : Int)) ∧ X.cell? ⟨ad.block, ad.off + 6 + 3, none⟩ = some (.int .u64 (hy.s.c.toNat : Int)) ∧ X.cell? ⟨ad.block, ad.off + 6 + 4, none⟩ = some (.int .u64 (hy.s.d.toNat : Int)) ∧ X.cell? ⟨ad.block, ad.off + 6 + 5, none⟩ = some (.slice A2 ky.length c2)) := fun X hX => ⟨⟨keep_cell hX u0, keep_cell hX u1, keep_cell hX u2, keep_cell hX u3, keep_cell hX u4, keep_cell hX u5⟩, keep_cell hX v0, keep_cell hX v1, keep_cell hX v2, keep_cell hX v3, keep_cell hX v4, keep_cell hX v5⟩
  have PX : Hid (∀ X Ag cg (gr : List Bool), Below w.heap.size w X → gr.length = S.size + 1 → Row1 Value.bool X Ag gr → Calls Try.prog 91 #[reV hx A1 kx.length c1, .string S, .slice Ag (S.size + 1) cg] X (EndPost (.mk hx kx) S Ag gr X)) := fun X Ag cg gr hX hg hrow => px _ A1 c1 S Ag cg gr X hc1 (hr1.below hX) hS hg hrow
  have PY : Hid (∀ X Ag cg (gr : List Bool), Below w.heap.size w X → gr.length = S.size + 1 → Row1 Value.bool X Ag gr → Calls Try.prog 91 #[reV hy A2 ky.length c2, .string S, .slice Ag (S.size + 1) cg] X (EndPost (.mk hy ky) S Ag gr X)) := fun X Ag cg gr hX hg hrow => py _ A2 c2 S Ag cg gr X hc2 (hr2.below hX) hS hg hrow
  clear px py hc1 hc2 hr1 hr2 u0 u1 u2 u3 u4 u5 v0 v1 v2 v3 v4 v5
  obtain ⟨W, hW⟩ : ∃ W, w.alloc (.cells (reA h (some ad) 2 c) 34) = W := ⟨_, rfl⟩
  have hbW : Below w.heap.size w W := by rw [← hW]; exact below_new (Below.refl _ _) _
  have hsW : W.heap.size = w.heap.size + 1 := by rw [← hW]; simp
  have e1 : W.heap[w.heap.size]? = some (.cells (reA h (some ad) 2 c) 34 (0, 0)) := by rw [← hW]; exact new_at1 _
  obtain ⟨ib, hib, hz0, hz1, hz2⟩ := info_parts Try.info_bool
  have hz2' : ib.bytes * (S.size + 1) ≤ 281474976710656 := by rw [hz2]; omega
  have hmx : S.size + 1 ≤ maxLen := by unfold maxLen; omega
  have HE := Lib.hid hW
  have HW := Lib.hid hbW
  have E1 := Lib.hid e1
  have HFR := Lib.hid hfr
  have HRW := Lib.hid hrow
  have HR := Lib.hid hr
  have HSW := Lib.hid hsW
  have HIB := Lib.hid hib
  have HZ0 := Lib.hid hz0
  have HZ1 := Lib.hid hz1
  clear hW hbW e1 hfr hrow hr hz2 hsW hib hz0 hz1
  go_enter Try.func91, Try.ntmps91
  go_upto_region 1 with fail
  rw [show w.alloc _ = W from HE.out]
  go_upto_region 2 with (at_make; refine wpList_make_full _ rfl _ _ 120 rfl W.heap.size 4 ib (.bool false) 1 Try.underlying120 HIB.out HZ0.out HZ1.out _ _ _ _ (S.size + 1) rfl rfl (by omega) (by omega) hz2' hmx (Nat.le_refl _) ?_; intro w1 hown hg)
  have hb1 : Below W.heap.size W w1 := (Below.refl _ _).grown hg (Nat.le_refl _) (by simp)
  have HO1 := Lib.hid (made_bools hown (by omega))
  have HB1 := Lib.hid (below_from HW.out hb1)
  have N1 := Lib.hid ((hb1.block _ (lt_of_block E1.out)).trans E1.out)
  have HRW1 := Lib.hid ((HRW.out.below HW.out).below hb1)
  have HR1 := Lib.hid ((HR.out.below HW.out).below hb1)
  clear hb1 hown hg hz2' hmx E1 HRW HR HIB HZ0 HZ1
  have Q : Hid (∀ X, Below w1.heap.size w1 X → X.cell? ⟨w.heap.size, 5, none⟩ = some (.slice (some ad) 2 c) ∧ X.cell? ad = some (.int .u8 (hx.k.toNat : Int)) ∧ X.cell? ⟨ad.block, ad.off + 1, none⟩ = some (.int .u64 (hx.s.a.toNat : Int)) ∧ X.cell? ⟨ad.block, ad.off + 2, none⟩ = some (.int .u64 (hx.s.b.toNat : Int)) ∧ X.cell? ⟨ad.block, ad.off + 3, none⟩ = some (.int .u64 (hx.s.c.toNat : Int)) ∧ X.cell? ⟨ad.block, ad.off + 4, none⟩ = some (.int .u64 (hx.s.d.toNat : Int)) ∧ X.cell? ⟨ad.block, ad.off + 5, none⟩ = some (.slice A1 kx.length c1) ∧ X.cell? ⟨ad.block, ad.off + 6, none⟩ = some (.int .u8 (hy.k.toNat : Int)) ∧ X.cell? ⟨ad.block, ad.off + 6 + 1, none⟩ = some (.int .u64 (hy.s.a.toNat : Int)) ∧ X.cell? ⟨ad.block, ad.off + 6 + 2, none⟩ = some (.int .u64 (hy.s.b.toNat : Int)) ∧ X.cell? ⟨ad.block, ad.off + 6 + 3, none⟩ = some (.int .u64 (hy.s.c.toNat : Int)) ∧ X.cell? ⟨ad.block, ad.off + 6 + 4, none⟩ = some (.int .u64 (hy.s.d.toNat : Int)) ∧ X.cell? ⟨ad.block, ad.off + 6 + 5, none⟩ = some (.slice A2 ky.length c2)) := fun X hX => by
    obtain ⟨a0, a1, a2, a3, a4, a5⟩ := re_at_box ((hX.block _ (lt_of_block N1.out)).trans N1.out)
    obtain ⟨⟨u0, u1, u2, u3, u4, u5⟩, v0, v1, v2, v3, v4, v5⟩ := HKX.out X (below_from HB1.out hX)
    exact ⟨a5, u0, u1, u2, u3, u4, u5, v0, v1, v2, v3, v4, v5⟩
  have hz := Below.refl w1.heap.size w1
  obtain ⟨x0, x1, x2, x3, x4, x5⟩ := re_at_box N1.out
  go_upto_region 12 with fail
  clear x0 x1 x2 x3 x4 x5
  refine wp_region_held_drew (S := fun X => X.cell? ⟨w.heap.size, 5, none⟩ = some (.slice (some ad) 2 c) ∧ X.cell? ad = some (.int .u8 (hx.k.toNat : Int)) ∧ X.cell? ⟨ad.block, ad.off + 1, none⟩ = some (.int .u64 (hx.s.a.toNat : Int)) ∧ X.cell? ⟨ad.block, ad.off + 2, none⟩ = some (.int .u64 (hx.s.b.toNat : Int)) ∧ X.cell? ⟨ad.block, ad.off + 3, none⟩ = some (.int .u64 (hx.s.c.toNat : Int)) ∧ X.cell? ⟨ad.block, ad.off + 4, none⟩ = some (.int .u64 (hx.s.d.toNat : Int)) ∧ X.cell? ⟨ad.block, ad.off + 5, none⟩ = some (.slice A1 kx.length c1) ∧ X.cell? ⟨ad.block, ad.off + 6, none⟩ = some (.int .u8 (hy.k.toNat : Int)) ∧ X.cell? ⟨ad.block, ad.off + 6 + 1, none⟩ = some (.int .u64 (hy.s.a.toNat : Int)) ∧ X.cell? ⟨ad.block, ad.off + 6 + 2, none⟩ = some (.int .u64 (hy.s.b.toNat : Int)) ∧ X.cell? ⟨ad.block, ad.off + 6 + 3, none⟩ = some (.int .u64 (hy.s.c.toNat : Int)) ∧ X.cell? ⟨ad.block, ad.off + 6 + 4, none⟩ = some (.int .u64 (hy.s.d.toNat : Int)) ∧ X.cell? ⟨ad.block, ad.off + 6 + 5, none⟩ = some (.slice A2 ky.length c2)) (by kernel_rfl) (Q.out _ hz.drew) (fun hHeld => ?_)
  refine wpAnyH_take (i := 0) (oi := ⟨some 47, _, _, _, _, _⟩) (v := .pointer (some ⟨w.heap.size, 5, none⟩)) rfl (by kernel_rfl) (by kernel_rfl) (by kernel_rfl) (fun _ _ _ h => h) (Or.inl ⟨by rfl, ?_⟩) (by assumption) ?_
  · intro wx hSw
    obtain ⟨p5, u0, u1, u2, u3, u4, u5, v0, v1, v2, v3, v4, v5⟩ := hSw
    first | (go_simp; done) | (go_simp; with_reducible rfl) | (go_simp; exact ⟨rfl, rfl, rfl, rfl⟩) | (go_simp; intro hh; exfalso; omega)
  try simp only [Act.put, List.setIfInBounds_toArray, List.set_cons_zero, List.set_cons_succ]
  refine wpAnyH_take (i := 1) (oi := ⟨some 48, _, _, _, _, _⟩) (v := .slice (some ad) 2 c) rfl (by kernel_rfl) (by kernel_rfl) (by kernel_rfl) (fun _ _ _ h => h) (Or.inl ⟨by rfl, ?_⟩) (by assumption) ?_
  · intro wx hSw
    obtain ⟨p5, u0, u1, u2, u3, u4, u5, v0, v1, v2, v3, v4, v5⟩ := hSw
    first | (go_simp; done) | (go_simp; with_reducible rfl) | (go_simp; exact ⟨rfl, rfl, rfl, rfl⟩) | (go_simp; intro hh; exfalso; omega)
  try simp only [Act.put, List.setIfInBounds_toArray, List.set_cons_zero, List.set_cons_succ]
  refine wpAnyH_take (i := 2) (oi := ⟨some 49, _, _, _, _, _⟩) (v := .pointer (some ⟨ad.block, ad.off + 6, none⟩)) rfl (by kernel_rfl) (by kernel_rfl) (by kernel_rfl) (fun _ _ _ h => h) (Or.inl ⟨by rfl, ?_⟩) (by assumption) ?_
  · intro wx hSw
    obtain ⟨p5, u0, u1, u2, u3, u4, u5, v0, v1, v2, v3, v4, v5⟩ := hSw
    first | (go_simp; done) | (go_simp; with_reducible rfl) | (go_simp; exact ⟨rfl, rfl, rfl, rfl⟩) | (go_simp; intro hh; exfalso; omega)
  try simp only [Act.put, List.setIfInBounds_toArray, List.set_cons_zero, List.set_cons_succ]
  refine wpAnyH_take (i := 3) (oi := ⟨some 50, _, _, _, _, _⟩) (v := reV hy A2 ky.length c2) rfl (by kernel_rfl) (by kernel_rfl) (by kernel_rfl) (fun _ _ _ h => h) (Or.inl ⟨by rfl, ?_⟩) (by assumption) ?_
  · intro wx hSw
    obtain ⟨p5, u0, u1, u2, u3, u4, u5, v0, v1, v2, v3, v4, v5⟩ := hSw
    first | (go_simp; done) | (go_simp; with_reducible rfl) | (go_simp; exact ⟨rfl, rfl, rfl, rfl⟩) | (go_simp; intro hh; exfalso; omega)
  try simp only [Act.put, List.setIfInBounds_toArray, List.set_cons_zero, List.set_cons_succ]
  refine wpAnyH_take (i := 4) (oi := ⟨some 51, _, _, _, _, _⟩) (v := .string S) rfl (by kernel_rfl) (by kernel_rfl) (by kernel_rfl) (fun _ _ _ h => h) (Or.inl ⟨by rfl, ?_⟩) (by assumption) ?_
  · intro wx hSw
    obtain ⟨p5, u0, u1, u2, u3, u4, u5, v0, v1, v2, v3, v4, v5⟩ := hSw
    first | (go_simp; done) | (go_simp; with_reducible rfl) | (go_simp; exact ⟨rfl, rfl, rfl, rfl⟩) | (go_simp; intro hh; exfalso; omega)
  try simp only [Act.put, List.setIfInBounds_toArray, List.set_cons_zero, List.set_cons_succ]
  refine wpAnyH_take (i := 5) (oi := ⟨some 52, _, _, _, _, _⟩) (v := .pointer (some ⟨w.heap.size, 5, none⟩)) rfl (by kernel_rfl) (by kernel_rfl) (by kernel_rfl) (fun _ _ _ h => h) (Or.inl ⟨by rfl, ?_⟩) (by assumption) ?_
  · intro wx hSw
    obtain ⟨p5, u0, u1, u2, u3, u4, u5, v0, v1, v2, v3, v4, v5⟩ := hSw
    first | (go_simp; done) | (go_simp; with_reducible rfl) | (go_simp; exact ⟨rfl, rfl, rfl, rfl⟩) | (go_simp; intro hh; exfalso; omega)
  try simp only [Act.put, List.setIfInBounds_toArray, List.set_cons_zero, List.set_cons_succ]
  refine wpAnyH_take (i := 6) (oi := ⟨some 53, _, _, _, _, _⟩) (v := .slice (some ad) 2 c) rfl (by kernel_rfl) (by kernel_rfl) (by kernel_rfl) (fun _ _ _ h => h) (Or.inl ⟨by rfl, ?_⟩) (by assumption) ?_
  · intro wx hSw
    obtain ⟨p5, u0, u1, u2, u3, u4, u5, v0, v1, v2, v3, v4, v5⟩ := hSw
    first | (go_simp; done) | (go_simp; with_reducible rfl) | (go_simp; exact ⟨rfl, rfl, rfl, rfl⟩) | (go_simp; intro hh; exfalso; omega)
  try simp only [Act.put, List.setIfInBounds_toArray, List.set_cons_zero, List.set_cons_succ]
  refine wpAnyH_take (i := 7) (oi := ⟨some 54, _, _, _, _, _⟩) (v := .pointer (some ad)) rfl (by kernel_rfl) (by kernel_rfl) (by kernel_rfl) (fun _ _ _ h => h) (Or.inl ⟨by rfl, ?_⟩) (by assumption) ?_
  · intro wx hSw
    obtain ⟨p5, u0, u1, u2, u3, u4, u5, v0, v1, v2, v3, v4, v5⟩ := hSw
    first | (go_simp; done) | (go_simp; with_reducible rfl) | (go_simp; exact ⟨rfl, rfl, rfl, rfl⟩) | (go_simp; intro hh; exfalso; omega)
  try simp only [Act.put, List.setIfInBounds_toArray, List.set_cons_zero, List.set_cons_succ]
  refine wpAnyH_take (i := 8) (oi := ⟨some 55, _, _, _, _, _⟩) (v := reV hx A1 kx.length c1) rfl (by kernel_rfl) (by kernel_rfl) (by kernel_rfl) (fun _ _ _ h => h) (Or.inl ⟨by rfl, ?_⟩) (by assumption) ?_
  · intro wx hSw
    obtain ⟨p5, u0, u1, u2, u3, u4, u5, v0, v1, v2, v3, v4, v5⟩ := hSw
    first | (go_simp; done) | (go_simp; with_reducible rfl) | (go_simp; exact ⟨rfl, rfl, rfl, rfl⟩) | (go_simp; intro hh; exfalso; omega)
  try simp only [Act.put, List.setIfInBounds_toArray, List.set_cons_zero, List.set_cons_succ]
  refine wpAnyH_take (i := 9) (oi := ⟨some 56, _, _, _, _, _⟩) (v := .string S) rfl (by kernel_rfl) (by kernel_rfl) (by kernel_rfl) (fun _ _ _ h => h) (Or.inl ⟨by rfl, ?_⟩) (by assumption) ?_
  · intro wx hSw
    obtain ⟨p5, u0, u1, u2, u3, u4, u5, v0, v1, v2, v3, v4, v5⟩ := hSw
    first | (go_simp; done) | (go_simp; with_reducible rfl) | (go_simp; exact ⟨rfl, rfl, rfl, rfl⟩) | (go_simp; intro hh; exfalso; omega)
  try simp only [Act.put, List.setIfInBounds_toArray, List.set_cons_zero, List.set_cons_succ]
  refine wpAnyH_take (i := 10) (oi := ⟨some 57, _, _, _, _, _⟩) (v := .slice Af (S.size + 1) cf) rfl (by kernel_rfl) (by kernel_rfl) (by kernel_rfl) (fun _ _ _ h => h) (Or.inl ⟨by rfl, ?_⟩) (by assumption) ?_
  · intro wx hSw
    obtain ⟨p5, u0, u1, u2, u3, u4, u5, v0, v1, v2, v3, v4, v5⟩ := hSw
    first | (go_simp; done) | (go_simp; with_reducible rfl) | (go_simp; exact ⟨rfl, rfl, rfl, rfl⟩) | (go_simp; intro hh; exfalso; omega)
  try simp only [Act.put, List.setIfInBounds_toArray, List.set_cons_zero, List.set_cons_succ]
  refine wpAnyH_ready (rs := [11]) (by kernel_rfl) (by simp) ?_
  refine AllReadyH.cons (o := ⟨some 58, .call _, _, _, _, _⟩) rfl (fun K hK => ?_) AllReadyH.nil
  have HK := Lib.hid hK
  clear hK
  go_simp
  refine (PX.out _ Af cf fr (below_from HB1.out hz.drew) HFR.out (HRW1.out.below hz.drew)).mono ?_
  rintro e wa ⟨A3, c3, l3, rfl, he3, hr3, hp3, hba⟩
  have hz : Below w1.heap.size w1 wa := below_from hz.drew hba
  have hl3 : l3.length = S.size + 1 := by rw [he3.1, bs_len]
  have HL3 := Lib.hid hl3
  clear hl3
  refine HK.out _ _ (Q.out _ hz) (fun hHeld2 => ?_)
  clear HK hHeld
  have hHeld := hHeld2
  clear hHeld2
  try simp only [Act.put, List.setIfInBounds_toArray, List.set_cons_zero, List.set_cons_succ]
  refine wpAnyH_ready (rs := [12]) (by kernel_rfl) (by simp) ?_
  refine AllReadyH.cons (o := ⟨some 59, .call _, _, _, _, _⟩) rfl (fun K hK => ?_) AllReadyH.nil
  have HK := Lib.hid hK
  clear hK
  go_simp
  refine (PY.out _ A3 c3 l3 (below_from HB1.out hz) HL3.out hr3).mono ?_
  rintro e wb ⟨A4, c4, l4, rfl, he4, hr4, hp4, hbb⟩
  have hzb : Below w1.heap.size w1 wb := below_from hz hbb
  have hsa := hz.size
  have hz := hzb
  refine HK.out _ _ (Q.out _ hz) (fun hHeld2 => ?_)
  clear HK hHeld
  have hHeld := hHeld2
  clear hHeld2
  try simp only [Act.put, List.setIfInBounds_toArray, List.set_cons_zero, List.set_cons_succ]
  refine wpAnyH_take (i := 13) (oi := ⟨some 6, _, _, _, _, _⟩) (v := .slice A4 (S.size + 1) c4) rfl (by kernel_rfl) (by kernel_rfl) (by kernel_rfl) (fun _ _ _ h => h) (Or.inl ⟨by rfl, ?_⟩) (by assumption) ?_
  · intro wx hSw
    obtain ⟨p5, u0, u1, u2, u3, u4, u5, v0, v1, v2, v3, v4, v5⟩ := hSw
    first | (go_simp; done) | (go_simp; with_reducible rfl) | (go_simp; exact ⟨rfl, rfl, rfl, rfl⟩) | (go_simp; intro hh; exfalso; omega)
  try simp only [Act.put, List.setIfInBounds_toArray, List.set_cons_zero, List.set_cons_succ]
  refine wpAnyH_done (by kernel_rfl) ?_ _
  have hb := below_from HB1.out hz
  have HEE := Lib.hid (ends_seqP he3 he4)
  have HPL : Hid ((A4 = Af ∧ l4 = fr) ∨ ∀ ad, A4 = some ad → w.heap.size ≤ ad.block) := by
    rcases hp4 with h | h
    · rcases hp3 with h3 | h3
      · exact .inl ⟨h.1.trans h3.1, h.2.trans h3.2⟩
      · exact .inr fun a ha => by have := h3 a (by rw [← h.1]; exact ha); have := HB1.out.size; have : w1.drew.heap.size = w1.heap.size := rfl; omega
    · exact .inr fun a ha => by have := h a ha; have := HB1.out.size; omega
  have HR4 := Lib.hid hr4
  clear he3 he4 hr3 hr4 hp3 hp4 hba hbb
  go_wp2_with fail
  go_ret
  exact ⟨_, _, l4, rfl, by rw [HT.out]; exact HEE.out, HR4.out, HPL.out, hb⟩
set_option maxRecDepth 100000 in
set_option maxHeartbeats 16000000 in
theorem mends_5 {h : RH} (e : h.k = 5) (hs : h.s = S4.zero) {hx : RH} {kx : List Re} (px : EndOk 91 hx kx) {hy : RH} {ky : List Re} (py : EndOk 91 hy ky) : EndOk 91 h [.mk hx kx, .mk hy ky] := by
  intro P A c S Af cf fr w hc hr hS hfr hrow
  have g2 : ((h.k.toNat : Int) == 2) = false := u8_ne (n := 2) (by decide) (by rw [e]; decide)
  have g3 : ((h.k.toNat : Int) == 3) = false := u8_ne (n := 3) (by decide) (by rw [e]; decide)
  have g4 : ((h.k.toNat : Int) == 4) = false := u8_ne (n := 4) (by decide) (by rw [e]; decide)
  have g5 : ((h.k.toNat : Int) == 5) = true := u8_eq (n := 5) (by decide) e
  have HT : Hid ((T.mk h [.mk hx kx, .mk hy ky] : Re) = rAlt (.mk hx kx) (.mk hy ky)) := by unfold Hid; obtain ⟨k, s⟩ := h; simp only at e hs; rw [e, hs]
  clear e hs
  have HAF : Hid (∀ a, Af = some a → a.block < w.heap.size) := fun a ha => by
    obtain ⟨a2, x, e1, e2, e3⟩ := hrow.at_ (show 0 < fr.length by omega)
    rw [ha] at e1
    cases e1
    have := World.block_lt_of_cell? w _ e3
    rwa [block_add] at this
  obtain ⟨ad, A1, c1, hA, hc1, hr1, u0, u1, u2, u3, u4, u5⟩ := kid0N hr
  subst hA
  obtain ⟨ad', A2, c2, hA2, hc2, hr2, v0, v1, v2, v3, v4, v5⟩ := kid1N hr
  obtain rfl := Option.some.inj hA2
  have hadl := World.block_lt_of_cell? w _ u0
  have HADL := Lib.hid hadl
  have HK0 := Lib.hid (show (w.cell? ad = some (.int .u8 (hx.k.toNat : Int)) ∧ w.cell? ⟨ad.block, ad.off + 1, none⟩ = some (.int .u64 (hx.s.a.toNat : Int)) ∧ w.cell? ⟨ad.block, ad.off + 2, none⟩ = some (.int .u64 (hx.s.b.toNat : Int)) ∧ w.cell? ⟨ad.block, ad.off + 3, none⟩ = some (.int .u64 (hx.s.c.toNat : Int)) ∧ w.cell? ⟨ad.block, ad.off + 4, none⟩ = some (.int .u64 (hx.s.d.toNat : Int)) ∧ w.cell? ⟨ad.block, ad.off + 5, none⟩ = some (.slice A1 kx.length c1)) ∧ w.cell? ⟨ad.block, ad.off + 6, none⟩ = some (.int .u8 (hy.k.toNat : Int)) ∧ w.cell? ⟨ad.block, ad.off + 6 + 1, none⟩ = some (.int .u64 (hy.s.a.toNat : Int)) ∧ w.cell? ⟨ad.block, ad.off + 6 + 2, none⟩ = some (.int .u64 (hy.s.b.toNat : Int)) ∧ w.cell? ⟨ad.block, ad.off + 6 + 3, none⟩ = some (.int .u64 (hy.s.c.toNat : Int)) ∧ w.cell? ⟨ad.block, ad.off + 6 + 4, none⟩ = some (.int .u64 (hy.s.d.toNat : Int)) ∧ w.cell? ⟨ad.block, ad.off + 6 + 5, none⟩ = some (.slice A2 ky.length c2) from ⟨⟨u0, u1, u2, u3, u4, u5⟩, v0, v1, v2, v3, v4, v5⟩)
  have HRX := Lib.hid hr1.there
  have HRY := Lib.hid hr2.there
  have HCX := Lib.hid hc1
  have HCY := Lib.hid hc2
  clear hc1 hc2 hr1 hr2 u0 u1 u2 u3 u4 u5 v0 v1 v2 v3 v4 v5 hadl
  obtain ⟨W, hW⟩ : ∃ W, w.alloc (.cells (reA h (some ad) 2 c) 34) = W := ⟨_, rfl⟩
  have hbW : Below w.heap.size w W := by rw [← hW]; exact below_new (Below.refl _ _) _
  have hsW : W.heap.size = w.heap.size + 1 := by rw [← hW]; simp
  have e1 : W.heap[w.heap.size]? = some (.cells (reA h (some ad) 2 c) 34 (0, 0)) := by rw [← hW]; exact new_at1 _
  obtain ⟨ib, hib, hz0, hz1, hz2⟩ := info_parts Try.info_bool
  have hz2' : ib.bytes * (S.size + 1) ≤ 281474976710656 := by rw [hz2]; omega
  have hmx : S.size + 1 ≤ maxLen := by unfold maxLen; omega
  have HE := Lib.hid hW
  have HW := Lib.hid hbW
  have E1 := Lib.hid e1
  have HFR := Lib.hid hfr
  have HRW := Lib.hid hrow
  have HR := Lib.hid hr
  have HSW := Lib.hid hsW
  have HIB := Lib.hid hib
  have HZ0 := Lib.hid hz0
  have HZ1 := Lib.hid hz1
  clear hW hbW e1 hfr hrow hr hz2 hsW hib hz0 hz1
  go_enter Try.func91, Try.ntmps91
  go_upto_region 1 with fail
  rw [show w.alloc _ = W from HE.out]
  go_upto_region 2 with (at_make; refine wpList_make_full _ rfl _ _ 120 rfl W.heap.size 4 ib (.bool false) 1 Try.underlying120 HIB.out HZ0.out HZ1.out _ _ _ _ (S.size + 1) rfl rfl (by omega) (by omega) hz2' hmx (Nat.le_refl _) ?_; intro w1 hown hg)
  have hb1 : Below W.heap.size W w1 := (Below.refl _ _).grown hg (Nat.le_refl _) (by simp)
  have HO1 := Lib.hid (made_bools hown (by omega))
  have HB1 := Lib.hid (below_from HW.out hb1)
  have N1 := Lib.hid ((hb1.block _ (lt_of_block E1.out)).trans E1.out)
  have HRW1 := Lib.hid ((HRW.out.below HW.out).below hb1)
  have HR1 := Lib.hid ((HR.out.below HW.out).below hb1)
  clear hb1 hown hg hz2' hmx E1 HRW HR HIB HZ0 HZ1
  have HLW := Lib.hid (lt_of_block N1.out)
  have hgl : W.heap.size < w1.heap.size := by
    obtain ⟨g, cap, cur, hv, _, hcur, _⟩ := HO1.out.2.resolve_left (fun h => by cases h.1)
    cases hv
    exact lt_of_block hcur
  have HGL := Lib.hid hgl
  clear hgl
  have KEEP : Hid (∀ X, w1.grownBy X (some W.heap.size) → (X.heap[w.heap.size]? = some (.cells (reA h (some ad) 2 c) 34 (0, 0)) ∧ Row1 Value.bool X Af fr) ∧ ((X.cell? ad = some (.int .u8 (hx.k.toNat : Int)) ∧ X.cell? ⟨ad.block, ad.off + 1, none⟩ = some (.int .u64 (hx.s.a.toNat : Int)) ∧ X.cell? ⟨ad.block, ad.off + 2, none⟩ = some (.int .u64 (hx.s.b.toNat : Int)) ∧ X.cell? ⟨ad.block, ad.off + 3, none⟩ = some (.int .u64 (hx.s.c.toNat : Int)) ∧ X.cell? ⟨ad.block, ad.off + 4, none⟩ = some (.int .u64 (hx.s.d.toNat : Int)) ∧ X.cell? ⟨ad.block, ad.off + 5, none⟩ = some (.slice A1 kx.length c1)) ∧ X.cell? ⟨ad.block, ad.off + 6, none⟩ = some (.int .u8 (hy.k.toNat : Int)) ∧ X.cell? ⟨ad.block, ad.off + 6 + 1, none⟩ = some (.int .u64 (hy.s.a.toNat : Int)) ∧ X.cell? ⟨ad.block, ad.off + 6 + 2, none⟩ = some (.int .u64 (hy.s.b.toNat : Int)) ∧ X.cell? ⟨ad.block, ad.off + 6 + 3, none⟩ = some (.int .u64 (hy.s.c.toNat : Int)) ∧ X.cell? ⟨ad.block, ad.off + 6 + 4, none⟩ = some (.int .u64 (hy.s.d.toNat : Int)) ∧ X.cell? ⟨ad.block, ad.off + 6 + 5, none⟩ = some (.slice A2 ky.length c2)) ∧ InRow RE (fun b => P b ∧ b < w.heap.size) X kx A1 0 ∧ InRow RE (fun b => P b ∧ b < w.heap.size) X ky A2 0) := fun X hX => by
    have hsw := HSW.out
    have hw1 := HB1.out
    have hblk : ∀ b, b < w.heap.size → X.heap[b]? = w1.heap[b]? := fun b hb => hX.block b (by have := hw1.size; omega) (fun e => by have := Option.some.inj e; omega)
    have hcell : ∀ (a : Addr) v, w1.cell? a = some v → a.block < w.heap.size → X.cell? a = some v := fun a v hv hb => (World.cell?_of_block (hblk _ hb)).trans hv
    refine ⟨⟨(hX.block _ HLW.out (fun e => by have := Option.some.inj e; omega)).trans N1.out, fun j v hv => ?_⟩, ?_, ?_, ?_⟩
    · obtain ⟨a, e, hc⟩ := HRW1.out j v hv
      exact ⟨a, e, hcell _ _ hc (by rw [block_add]; exact HAF.out a e)⟩
    · obtain ⟨⟨u0, u1, u2, u3, u4, u5⟩, v0, v1, v2, v3, v4, v5⟩ := HK0.out
      have hl := HADL.out
      exact ⟨⟨hcell _ _ (keep_cell hw1 u0) hl, hcell ⟨ad.block, ad.off + 1, none⟩ _ (keep_cell hw1 u1) hl, hcell ⟨ad.block, ad.off + 2, none⟩ _ (keep_cell hw1 u2) hl, hcell ⟨ad.block, ad.off + 3, none⟩ _ (keep_cell hw1 u3) hl, hcell ⟨ad.block, ad.off + 4, none⟩ _ (keep_cell hw1 u4) hl, hcell ⟨ad.block, ad.off + 5, none⟩ _ (keep_cell hw1 u5) hl⟩,
        hcell ⟨ad.block, ad.off + 6, none⟩ _ (keep_cell hw1 v0) hl, hcell ⟨ad.block, ad.off + 6 + 1, none⟩ _ (keep_cell hw1 v1) hl, hcell ⟨ad.block, ad.off + 6 + 2, none⟩ _ (keep_cell hw1 v2) hl, hcell ⟨ad.block, ad.off + 6 + 3, none⟩ _ (keep_cell hw1 v3) hl, hcell ⟨ad.block, ad.off + 6 + 4, none⟩ _ (keep_cell hw1 v4) hl, hcell ⟨ad.block, ad.off + 6 + 5, none⟩ _ (keep_cell hw1 v5) hl⟩
    · exact (HRX.out.below hw1).grown hX (fun x hx e => by have := Option.some.inj e; have := hx.2; omega)
    · exact (HRY.out.below hw1).grown hX (fun x hx e => by have := Option.some.inj e; have := hx.2; omega)
  obtain ⟨⟨n1, hrf⟩, ⟨⟨u0, u1, u2, u3, u4, u5⟩, _⟩, hrx, _⟩ := KEEP.out w1 ⟨rfl, rfl, rfl, Nat.le_refl _, fun _ _ _ => rfl⟩
  have HC1 := Lib.hid (px _ A1 c1 S Af cf fr w1 HCX.out hrx hS HFR.out hrf)
  obtain ⟨x0, x1, x2, x3, x4, x5⟩ := re_at_box n1
  clear px n1 hrf hrx
  go_wp2_with fail
  refine HC1.out.mono ?_
  rintro e wa ⟨A3, c3, l3, rfl, he3, hr3, hp3, hba⟩
  clear x0 x1 x2 x3 x4 x5 u0 u1 u2 u3 u4 u5 HC1
  have hsw := HSW.out
  have hgl := HGL.out
  have hl3 : l3.length = S.size + 1 := by rw [he3.1, bs_len]
  have HJ1 := Lib.hid (joinM_any (List.replicate (S.size + 1) false) l3 W.heap.size W.heap.size (S.size + 1) (S.size + 1) A3 c3 wa (HO1.out.kept (w' := wa) (row := none) ⟨hba.os, hba.tape, hba.output, hba.size, fun k hk _ => hba.block k hk⟩ (by simp [Value.ownBlock])) hr3 hl3 (fun a ha => by
    rcases hp3 with h | h
    · have := HAF.out a (by rw [← h.1]; exact ha); omega
    · have := h a ha; omega) (by omega))
  have HGA : Hid (w1.grownBy wa (some W.heap.size)) := ⟨hba.os, hba.tape, hba.output, hba.size, fun k hk _ => hba.block k hk⟩
  have HE3 := Lib.hid he3
  clear hr3 hp3 hba he3 hl3 hsw hgl
  go_wp2_with fail
  refine HJ1.out.mono ?_
  rintro e wb ⟨lk1, m1, rfl, hst1, ho1, hg1⟩
  have HGB := Lib.hid (grown_trM HGA.out hg1)
  have HST1 := Lib.hid hst1
  have HOB := Lib.hid ho1
  clear hst1 ho1 hg1 HJ1 HGA
  obtain ⟨⟨n1, hrf⟩, ⟨_, v0, v1, v2, v3, v4, v5⟩, _, hry⟩ := KEEP.out wb HGB.out
  have HC2 := Lib.hid (py _ A2 c2 S Af cf fr wb HCY.out hry hS HFR.out hrf)
  obtain ⟨x0, x1, x2, x3, x4, x5⟩ := re_at_box n1
  clear py n1 hrf hry
  go_wp2_with fail
  refine HC2.out.mono ?_
  rintro e wc ⟨A4, c4, l4, rfl, he4, hr4, hp4, hbc⟩
  clear x0 x1 x2 x3 x4 x5 v0 v1 v2 v3 v4 v5 HC2
  have hsw := HSW.out
  have hgl := HGL.out
  have hsb := HGB.out.size
  have hl4 : l4.length = S.size + 1 := by rw [he4.1, bs_len]
  have HJ2 := Lib.hid (joinM_any lk1 l4 W.heap.size W.heap.size (S.size + 1) (S.size + 1) A4 c4 wc (HOB.out.kept (w' := wc) (row := none) ⟨hbc.os, hbc.tape, hbc.output, hbc.size, fun k hk _ => hbc.block k hk⟩ (by simp [Value.ownBlock])) hr4 hl4 (fun a ha => by
    rcases hp4 with h | h
    · have := HAF.out a (by rw [← h.1]; exact ha); omega
    · have := h a ha; omega) (by omega))
  have HGC := Lib.hid (grown_trM HGB.out ⟨hbc.os, hbc.tape, hbc.output, hbc.size, fun k hk _ => hbc.block k hk⟩)
  have HE4 := Lib.hid he4
  clear hr4 hp4 hbc he4 hl4 hsw hgl hsb
  go_wp2_with fail
  refine HJ2.out.mono ?_
  rintro e wd ⟨lk2, m2, rfl, hst2, ho2, hg2⟩
  have HGD := Lib.hid (grown_trM HGC.out hg2)
  have HBE := Lib.hid (HB1.out.grown HGD.out HB1.out.size (fun j hj => by cases hj; have := HSW.out; omega))
  have HRN := Lib.hid (bool_own ho2)
  have HEE : Hid (EndsP (rAlt (.mk hx kx) (.mk hy ky)) S.data.toList fr lk2) := by
    refine ends_altP HE3.out HE4.out (by rw [hst2.1, bs_len]) (fun j => ?_)
    have h1 := HE3.out.1
    have h2 := HE4.out.1
    rw [bs_len] at h1 h2
    rw [hst2.2.1, HST1.out.2.1]
    constructor
    · rintro ((h | ⟨_, h⟩) | ⟨_, h⟩)
      · exact absurd h (none_true _ j)
      · exact .inl h
      · exact .inr h
    · rintro (h | h)
      · exact .inl (.inr ⟨by have := (List.getElem?_eq_some_iff.1 h).1; omega, h⟩)
      · exact .inr ⟨by have := (List.getElem?_eq_some_iff.1 h).1; omega, h⟩
  clear hst2 ho2 hg2 HJ2
  go_wp2_with fail
  go_ret
  exact ⟨_, _, lk2, rfl, by rw [HT.out]; exact HEE.out, HRN.out, .inr (fun a h => by cases h; show w.heap.size ≤ W.heap.size; have := HSW.out; omega), HBE.out⟩
end Go.Proofs.Yteokbmngebckjaa
namespace Go.Proofs.Yteokbmngebckjaa
open Go.RowKit
set_option linter.unusedVariables false
set_option linter.unusedSimpArgs false

mutual
/-- below the stars -/
def stripT : Re → Re
  | .mk h ks => if h.k = 6 then stripTs (.mk h ks) ks else .mk h ks
def stripTs (d : Re) : List Re → Re
  | [] => d
  | t :: _ => stripT t
end
mutual
/-- how many stars are around -/
def sdT : Re → Nat
  | .mk h ks => if h.k = 6 then sdTs ks else 0
def sdTs : List Re → Nat
  | [] => 0
  | t :: _ => 1 + sdT t
end
theorem strip_star (x : Re) : stripT (rStar x) = stripT x := by simp [stripT, stripTs]
theorem strip_no {h : RH} {ks : List Re} (hk : h.k ≠ 6) : stripT (.mk h ks) = .mk h ks := by simp [stripT, hk]
theorem sd_star (x : Re) : sdT (rStar x) = 1 + sdT x := by simp [sdT, sdTs]
theorem sd_no {h : RH} {ks : List Re} (hk : h.k ≠ 6) : sdT (.mk h ks) = 0 := by simp [sdT, hk]
theorem star_form6 {h : RH} {ks : List Re} (ho : okT (.mk h ks) = true) (hk : h.k = 6) : ∃ x, okT x = true ∧ T.mk h ks = rStar x := by
  rcases okT_cases ho with e | e | ⟨s, _, e⟩ | ⟨x, y, _, _, e⟩ | ⟨x, y, _, _, e⟩ | ⟨x, hx, e⟩
  · cases e; exact absurd hk (by decide)
  · cases e; exact absurd hk (by decide)
  · cases e; exact absurd hk (by show ¬ ((3 : UInt8) = 6); decide)
  · cases e; exact absurd hk (by decide)
  · cases e; exact absurd hk (by decide)
  · exact ⟨x, hx, e⟩
theorem strip_LT : ∀ x : Re, okT x = true → ∀ s, LT (rStar x) s ↔ LT (rStar (stripT x)) s := by
  refine okT_ind ?_ ?_ ?_ ?_ ?_ ?_
  · intro s; rw [strip_no (by decide)]
  · intro s; rw [strip_no (by decide)]
  · intro S _ s; rw [strip_no (by show ¬ ((3 : UInt8) = 6); decide)]
  · intro x y _ _ _ _ s; rw [strip_no (by decide)]
  · intro x y _ _ _ _ s; rw [strip_no (by decide)]
  · intro x hx ih s; rw [strip_star, LT_star2]; exact ih s
def kindOf (w : World) (a : Addr) : Bool := match w.cell? a with | some (.int .u8 6) => true | _ => false
def rowOf (w : World) (a : Addr) : Option Addr := match w.cell? ⟨a.block, a.off + 5, none⟩ with | some (.slice b _ _) => b | _ => none
def sdA (w : World) : Nat → Option Addr → Nat
  | 0, _ => 0
  | _ + 1, none => 0
  | n + 1, some a => if kindOf w a then 1 + sdA w n (rowOf w a) else 0
theorem kindOf_eq {w : World} {a : Addr} {k : UInt8} (h : w.cell? a = some (.int .u8 (k.toNat : Int))) : kindOf w a = decide (k = 6) := by
  unfold kindOf
  rw [h]
  by_cases hk : k = 6
  · subst hk; rfl
  · have : (k.toNat : Int) ≠ 6 := fun e => hk (by rw [← UInt8.toNat_inj]; have h6 : k.toNat = 6 := (by omega); exact h6)
    rw [decide_eq_false hk]
    split
    · rename_i heq
      simp only [Option.some.injEq, Value.int.injEq, true_and] at heq
      exact absurd heq this
    · rfl
theorem rowOf_eq {w : World} {a : Addr} {b : Option Addr} {n c : Nat} (h : w.cell? ⟨a.block, a.off + 5, none⟩ = some (.slice b n c)) : rowOf w a = b := by unfold rowOf; rw [h]
theorem sdA_eq : ∀ t : Re, okT t = true → ∀ (n : Nat) (w : World) (P : Nat → Prop) (A : Option Addr) (ts : List Re), t.size ≤ n → InRow RE P w (t :: ts) A 0 → sdA w n A = sdT t := by
  have hno : ∀ (h : RH) (ks : List Re), h.k ≠ 6 → ∀ (n : Nat) (w : World) (P : Nat → Prop) (A : Option Addr) (ts : List Re), (T.mk h ks : Re).size ≤ n → InRow RE P w (.mk h ks :: ts) A 0 → sdA w n A = sdT (.mk h ks) := by
    intro h ks hk n w P A ts hn hr
    obtain ⟨ad, A1, c1, rfl, _, _, u0, _, _, _, _, u5⟩ := kid0N hr
    cases n with
    | zero => simp only [T.size] at hn; omega
    | succ n => rw [sdA, kindOf_eq u0, sd_no hk]; simp [hk]
  refine okT_ind ?_ ?_ ?_ ?_ ?_ ?_
  · exact hno _ _ (by decide)
  · exact hno _ _ (by decide)
  · intro s _; exact hno _ _ (by show ¬ ((3 : UInt8) = 6); decide)
  · intro x y _ _ _ _; exact hno _ _ (by decide)
  · intro x y _ _ _ _; exact hno _ _ (by decide)
  · intro x hx ih n w P A ts hn hr
    obtain ⟨ad, A1, c1, rfl, _, hr1, u0, _, _, _, _, u5⟩ := kid0N hr
    cases n with
    | zero => simp only [T.size] at hn; omega
    | succ n =>
      simp only [T.size, T.sizes] at hn
      rw [sdA, kindOf_eq u0, rowOf_eq u5, sd_star, ih n w P A1 [] (by omega) hr1]
      simp
def sdB (w : World) (b : Nat) : Nat := if kindOf w ⟨b, 0, none⟩ then 1 + sdA w 1000000000 (rowOf w ⟨b, 0, none⟩) else 0
theorem sdB_eq {w : World} {b : Nat} {h : RH} {ks : List Re} {A : Option Addr} {c : Nat} {P : Nat → Prop} {t : TypeId} (hb : w.heap[b]? = some (.cells (reA h A ks.length c) t (0, 0))) (hr : InRow RE P w ks A 0) (ho : okT (.mk h ks) = true) (hz : T.sizes ks ≤ 1000000000) : sdB w b = sdT (.mk h ks) := by
  obtain ⟨x0, x1, x2, x3, x4, x5⟩ := re_at_box hb
  unfold sdB
  rw [kindOf_eq x0]
  by_cases hk : h.k = 6
  · obtain ⟨x, hx, e⟩ := star_form6 ho hk
    cases e
    rw [rowOf_eq (a := ⟨b, 0, none⟩) x5, sd_star, sdA_eq x hx _ w P A [] (by simp only [T.sizes] at hz; omega) hr]
    simp
  · rw [sd_no hk]; simp [hk]
/-- a star's ends, by what is closed -/
theorem star_closedC {x : Re} {S : List UInt8} {l : List Bool} (hc : ∀ i j : Nat, l[i]? = some true → i ≤ j → j ≤ S.length → LT x (sub S i j) → l[j]? = some true) {s : List UInt8} (h : StarP (LT x) s) : ∀ i j : Nat, i ≤ j → j ≤ S.length → sub S i j = s → l[i]? = some true → l[j]? = some true := by
  induction h with
  | nil =>
    intro i j hi hj e h
    have := sub_len (i := i) hj
    rw [e] at this
    simp only [List.length_nil] at this
    rw [show j = i by omega]
    exact h
  | @cons u v h1 h2 h3 ih =>
    intro i j hi hj e h
    obtain ⟨k, hk1, hk2, rfl, rfl⟩ := sub_split hi hj e
    exact ih k j hk2 hj rfl (hc i k h hk1 (by omega) h1)
theorem ends_starC {x : Re} {S : List UInt8} {fr l : List Bool} (hlen : l.length = S.length + 1) (h0 : ∀ j : Nat, fr[j]? = some true → l[j]? = some true) (h1 : ∀ j : Nat, l[j]? = some true → Clos x S fr j) (hc : ∀ i j : Nat, l[i]? = some true → i ≤ j → j ≤ S.length → LT x (sub S i j) → l[j]? = some true) : EndsP (rStar x) S fr l := by
  refine ⟨hlen, fun j => ⟨fun h => ?_, fun ⟨hj, i, hi, e, h⟩ => ?_⟩⟩
  · obtain ⟨hj, i, hi, e, h2⟩ := h1 j h
    exact ⟨hj, i, hi, e, (LT_star _ _).2 h2⟩
  · exact star_closedC hc ((LT_star _ _).1 h) i j hi hj rfl (h0 i e)
theorem EndsP.lang {x y : Re} {S : List UInt8} {fr l : List Bool} (h : EndsP x S fr l) (hl : ∀ s, LT x s ↔ LT y s) : EndsP y S fr l := by
  refine ⟨h.1, fun j => ?_⟩
  rw [h.2]
  constructor
  · rintro ⟨hj, i, hi, e, h⟩; exact ⟨hj, i, hi, e, (hl _).1 h⟩
  · rintro ⟨hj, i, hi, e, h⟩; exact ⟨hj, i, hi, e, (hl _).2 h⟩
/-- what the rounds of a star keep: l what is joined, n what comes next -/
def StarInv (x : Re) (S : List UInt8) (fr l n : List Bool) : Prop := (∀ j : Nat, fr[j]? = some true → l[j]? = some true ∨ n[j]? = some true) ∧ (∀ j : Nat, l[j]? = some true → Clos x S fr j) ∧ (∀ j : Nat, n[j]? = some true → Clos x S fr j) ∧ ∀ i j : Nat, l[i]? = some true → i ≤ j → j ≤ S.length → LT x (sub S i j) → l[j]? = some true ∨ n[j]? = some true
theorem inv_start {x : Re} {S : List UInt8} {fr : List Bool} (hl : fr.length = S.length + 1) (m : Nat) : StarInv x S fr (List.replicate m false) fr :=
  ⟨fun j h => .inr h, fun j h => absurd h (none_true _ j), fun j h => clos_start hl h, fun i j h => absurd h (none_true _ i)⟩
theorem inv_step {x : Re} {S : List UInt8} {fr l n lk n2 : List Bool} {m : Bool} (h : StarInv x S fr l n) (hn : n.length = S.length + 1) (hs : StarTo (S.length + 1) l n lk (S.length + 1) m) (he : EndsP x S n n2) : StarInv x S fr lk n2 := by
  have hk : ∀ j : Nat, lk[j]? = some true ↔ (l[j]? = some true ∨ n[j]? = some true) := fun j => by
    rw [hs.2.1]
    constructor
    · rintro (h | ⟨_, h⟩); exact .inl h; exact .inr h
    · rintro (h | h); exact .inl h; exact .inr ⟨by have := (List.getElem?_eq_some_iff.1 h).1; omega, h⟩
  refine ⟨fun j hj => .inl ((hk j).2 (h.1 j hj)), fun j hj => ?_, fun j hj => clos_step h.2.2.1 he hj, fun i j hi hij hj hl => ?_⟩
  · rcases (hk j).1 hj with h1 | h1
    · exact h.2.1 j h1
    · exact h.2.2.1 j h1
  · rcases (hk i).1 hi with h1 | h1
    · exact .inl ((hk j).2 (h.2.2.2 i j h1 hij hj hl))
    · exact .inr ((he.2 j).2 ⟨hj, i, hij, h1, hl⟩)
theorem inv_end {x : Re} {S : List UInt8} {fr l n lk : List Bool} (h : StarInv x S fr l n) (hn : n.length = S.length + 1) (hs : StarTo (S.length + 1) l n lk (S.length + 1) false) : EndsP (rStar x) S fr lk := by
  have hk : ∀ j : Nat, lk[j]? = some true ↔ (l[j]? = some true ∨ n[j]? = some true) := fun j => by
    rw [hs.2.1]
    constructor
    · rintro (h | ⟨_, h⟩); exact .inl h; exact .inr h
    · rintro (h | h); exact .inl h; exact .inr ⟨by have := (List.getElem?_eq_some_iff.1 h).1; omega, h⟩
  have hlk : lk = l := by rcases hs.2.2 with ⟨_, e⟩ | ⟨e, _⟩; exact e; cases e
  refine ends_starC hs.1 (fun j hj => (hk j).2 (h.1 j hj)) (fun j hj => ?_) (fun i j hi hij hj hl => ?_)
  · rcases (hk j).1 hj with h1 | h1
    · exact h.2.1 j h1
    · exact h.2.2.1 j h1
  · rw [hlk] at hi
    exact (hk j).2 (h.2.2.2 i j hi hij hj hl)
set_option maxRecDepth 100000 in
set_option maxHeartbeats 16000000 in
theorem mends_6 {h : RH} (e : h.k = 6) (hs : h.s = S4.zero) {hx : RH} {kx : List Re} (hox : okT (.mk hx kx) = true) (hzx : T.sizes kx ≤ 1000000) {h0 : RH} {k0 : List Re} (es : stripT (.mk hx kx) = .mk h0 k0) (p0 : EndOk 91 h0 k0) : EndOk 91 h [.mk hx kx] := by
  intro P A c S Af cf fr w hc hr hS hfr hrow
  have g2 : ((h.k.toNat : Int) == 2) = false := u8_ne (n := 2) (by decide) (by rw [e]; decide)
  have g3 : ((h.k.toNat : Int) == 3) = false := u8_ne (n := 3) (by decide) (by rw [e]; decide)
  have g4 : ((h.k.toNat : Int) == 4) = false := u8_ne (n := 4) (by decide) (by rw [e]; decide)
  have g5 : ((h.k.toNat : Int) == 5) = false := u8_ne (n := 5) (by decide) (by rw [e]; decide)
  have g6 : ((h.k.toNat : Int) == 6) = true := u8_eq (n := 6) (by decide) e
  have HT : Hid ((T.mk h [.mk hx kx] : Re) = rStar (.mk hx kx)) := by unfold Hid; obtain ⟨k, s⟩ := h; simp only at e hs; rw [e, hs]
  clear e hs
  have HAF : Hid (∀ a, Af = some a → a.block < w.heap.size) := fun a ha => by
    obtain ⟨a2, x, e1, e2, e3⟩ := hrow.at_ (show 0 < fr.length by omega)
    rw [ha] at e1
    cases e1
    have := World.block_lt_of_cell? w _ e3
    rwa [block_add] at this
  obtain ⟨ad, A1, c1, hA, hc1, hr1, u0, u1, u2, u3, u4, u5⟩ := kid0N hr
  subst hA
  have HADL := Lib.hid (World.block_lt_of_cell? w _ u0)
  have HK0 := Lib.hid (show w.cell? ad = some (.int .u8 (hx.k.toNat : Int)) ∧ w.cell? ⟨ad.block, ad.off + 1, none⟩ = some (.int .u64 (hx.s.a.toNat : Int)) ∧ w.cell? ⟨ad.block, ad.off + 2, none⟩ = some (.int .u64 (hx.s.b.toNat : Int)) ∧ w.cell? ⟨ad.block, ad.off + 3, none⟩ = some (.int .u64 (hx.s.c.toNat : Int)) ∧ w.cell? ⟨ad.block, ad.off + 4, none⟩ = some (.int .u64 (hx.s.d.toNat : Int)) ∧ w.cell? ⟨ad.block, ad.off + 5, none⟩ = some (.slice A1 kx.length c1) from ⟨u0, u1, u2, u3, u4, u5⟩)
  have HRX := Lib.hid hr1.there
  have HCX := Lib.hid hc1
  clear hc1 hr1 u0 u1 u2 u3 u4 u5
  obtain ⟨W, hW⟩ : ∃ W, w.alloc (.cells (reA h (some ad) 1 c) 34) = W := ⟨_, rfl⟩
  have hbW : Below w.heap.size w W := by rw [← hW]; exact below_new (Below.refl _ _) _
  have hsW : W.heap.size = w.heap.size + 1 := by rw [← hW]; simp
  have e1 : W.heap[w.heap.size]? = some (.cells (reA h (some ad) 1 c) 34 (0, 0)) := by rw [← hW]; exact new_at1 _
  obtain ⟨ib, hib, hz0, hz1, hz2⟩ := info_parts Try.info_bool
  have hz2' : ib.bytes * (S.size + 1) ≤ 281474976710656 := by rw [hz2]; omega
  have hmx : S.size + 1 ≤ maxLen := by unfold maxLen; omega
  have HE := Lib.hid hW
  have HW := Lib.hid hbW
  have E1 := Lib.hid e1
  have HFR := Lib.hid hfr
  have HRW := Lib.hid hrow
  have HR := Lib.hid hr
  have HSW := Lib.hid hsW
  have HIB := Lib.hid hib
  have HZ0 := Lib.hid hz0
  have HZ1 := Lib.hid hz1
  clear hW hbW e1 hfr hrow hr hz2 hsW hib hz0 hz1
  go_enter Try.func91, Try.ntmps91
  go_upto_region 1 with fail
  rw [show w.alloc _ = W from HE.out]
  go_upto_region 2 with (at_make; refine wpList_make_full _ rfl _ _ 120 rfl W.heap.size 4 ib (.bool false) 1 Try.underlying120 HIB.out HZ0.out HZ1.out _ _ _ _ (S.size + 1) rfl rfl (by omega) (by omega) hz2' hmx (Nat.le_refl _) ?_; intro w1 hown hg)
  have hb1 : Below W.heap.size W w1 := (Below.refl _ _).grown hg (Nat.le_refl _) (by simp)
  have HO1 := Lib.hid (made_bools hown (by omega))
  have HB1 := Lib.hid (below_from HW.out hb1)
  have N1 := Lib.hid ((hb1.block _ (lt_of_block E1.out)).trans E1.out)
  have HRW1 := Lib.hid ((HRW.out.below HW.out).below hb1)
  have HR1 := Lib.hid ((HR.out.below HW.out).below hb1)
  clear hb1 hown hg hz2' hmx E1 HRW HR HIB HZ0 HZ1
  have HLW := Lib.hid (lt_of_block N1.out)
  have hgl : W.heap.size < w1.heap.size := by
    obtain ⟨g, cap, cur, hv, _, hcur, _⟩ := HO1.out.2.resolve_left (fun h => by cases h.1)
    cases hv
    exact lt_of_block hcur
  have HGL := Lib.hid hgl
  clear hgl
  obtain ⟨x0, x1, x2, x3, x4, x5⟩ := re_at_box N1.out
  obtain ⟨u0, u1, u2, u3, u4, u5⟩ : w1.cell? ad = some (.int .u8 (hx.k.toNat : Int)) ∧ w1.cell? ⟨ad.block, ad.off + 1, none⟩ = some (.int .u64 (hx.s.a.toNat : Int)) ∧ w1.cell? ⟨ad.block, ad.off + 2, none⟩ = some (.int .u64 (hx.s.b.toNat : Int)) ∧ w1.cell? ⟨ad.block, ad.off + 3, none⟩ = some (.int .u64 (hx.s.c.toNat : Int)) ∧ w1.cell? ⟨ad.block, ad.off + 4, none⟩ = some (.int .u64 (hx.s.d.toNat : Int)) ∧ w1.cell? ⟨ad.block, ad.off + 5, none⟩ = some (.slice A1 kx.length c1) := by
    obtain ⟨u0, u1, u2, u3, u4, u5⟩ := HK0.out
    have hw1 := HB1.out
    exact ⟨keep_cell hw1 u0, keep_cell hw1 u1, keep_cell hw1 u2, keep_cell hw1 u3, keep_cell hw1 u4, keep_cell hw1 u5⟩
  obtain ⟨V, hV⟩ : ∃ V, w1.alloc (.cells (reA hx A1 kx.length c1) 34) = V := ⟨_, rfl⟩
  have hbV : Below w1.heap.size w1 V := by rw [← hV]; exact below_new (Below.refl _ _) _
  have n9V : V.heap[w1.heap.size]? = some (.cells (reA hx A1 kx.length c1) 34 (0, 0)) := by rw [← hV]; exact new_at1 _
  have HVV := Lib.hid hV
  have N9 := Lib.hid n9V
  have HBV := Lib.hid (below_from HB1.out hbV)
  have HOV := Lib.hid (HO1.out.kept (w' := V) (row := none) ⟨hbV.os, hbV.tape, hbV.output, hbV.size, fun k hk _ => hbV.block k hk⟩ (by simp [Value.ownBlock]))
  have HRV := Lib.hid (HRX.out.below HBV.out)
  have HRWV := Lib.hid (HRW1.out.below hbV)
  have HG0 : Hid (V.grownBy V (some w1.heap.size)) := ⟨rfl, rfl, rfl, Nat.le_refl _, fun _ _ _ => rfl⟩
  have HLV := Lib.hid (lt_of_block n9V)
  have HES := Lib.hid es
  have HOX := Lib.hid hox
  clear hV hbV n9V es
  go_wp2_with fail
  rw [show w1.alloc _ = V from HVV.out]
  clear x0 x1 x2 x3 x4 x5 u0 u1 u2 u3 u4 u5
  go_loopw [] (fun wr => ∃ (hk : RH) (kk : List Re) (Ak : Option Addr) (ck : Nat), Hid (wr.heap[w1.heap.size]? = some (.cells (reA hk Ak kk.length ck) 34 (0, 0))) ∧ Hid (kk.length ≤ ck) ∧ Hid (InRow RE (fun b => P b ∧ b < w.heap.size) wr kk Ak 0) ∧ Hid (okT (.mk hk kk) = true) ∧ Hid (stripT (.mk hk kk) = .mk h0 k0) ∧ Hid (T.sizes kk ≤ 1000000) ∧ Hid (V.grownBy wr (some w1.heap.size))) (fun wr => sdB wr w1.heap.size)
  case atStart => exact ⟨hx, kx, A1, c1, N9, HCX, HRV, HOX, HES, Lib.hid hzx, HG0⟩
  case round =>
    clear N9 HRV HG0
    obtain ⟨hk, kk, Ak, ck, N9, HCK, HRK, HOK, HSK, HZK, HGV⟩ := hrel
    obtain ⟨⟨x0, x1, x2, x3, x4, x5⟩, f0, f1, f2, f3, f4, f5⟩ := re_cells N9.out
    by_cases hk6 : hk.k = 6
    · have t6 : ((hk.k.toNat : Int) == 6) = true := u8_eq (n := 6) (by decide) hk6
      obtain ⟨y, hoy, ey⟩ := star_form6 HOK.out hk6
      obtain ⟨hy, ky⟩ := y
      have HM0 := Lib.hid (sdB_eq N9.out HRK.out HOK.out (by have := HZK.out; omega))
      injection ey with e1 e2
      subst e1 e2
      obtain ⟨ad2, A2, c2, hA2, hc2, hr2, v0, v1, v2, v3, v4, v5⟩ := kid0N HRK.out
      subst hA2
      have hb2 : ad2.block ≠ w1.heap.size := by
        have := HRK.out
        simp only [InRow, InT] at this
        obtain ⟨⟨ad3, cs, e3, hp3, _⟩, _⟩ := this
        cases e3
        have h1 := hp3.2
        have h2 := HB1.out.size
        omega
      have n9' := six_setCells (u0 := .int .u8 (hy.k.toNat : Int)) (u1 := .int .u64 (hy.s.a.toNat : Int)) (u2 := .int .u64 (hy.s.b.toNat : Int)) (u3 := .int .u64 (hy.s.c.toNat : Int)) (u4 := .int .u64 (hy.s.d.toNat : Int)) (u5 := .slice A2 ky.length c2) N9.out
      have hg6 : wr.grownBy ((((((wr.setCell ⟨w1.heap.size, 0, none⟩ (.int .u8 (hy.k.toNat : Int))).setCell ⟨w1.heap.size, 1, none⟩ (.int .u64 (hy.s.a.toNat : Int))).setCell ⟨w1.heap.size, 2, none⟩ (.int .u64 (hy.s.b.toNat : Int))).setCell ⟨w1.heap.size, 3, none⟩ (.int .u64 (hy.s.c.toNat : Int))).setCell ⟨w1.heap.size, 4, none⟩ (.int .u64 (hy.s.d.toNat : Int))).setCell ⟨w1.heap.size, 5, none⟩ (.slice A2 ky.length c2)) (some w1.heap.size) :=
        grown_trM (grown_trM (grown_trM (grown_trM (grown_trM (set_grownM _ _ _ _) (set_grownM _ _ _ _)) (set_grownM _ _ _ _)) (set_grownM _ _ _ _)) (set_grownM _ _ _ _)) (set_grownM _ _ _ _)
      have hr6 := hr2.grown hg6 (fun x hx e => by have := Option.some.inj e; have h1 := hx.2; have := HB1.out.size; omega)
      have HZ2 : Hid (T.sizes ky ≤ 1000000) := by unfold Hid; have := HZK.out; simp only [T.sizes, T.size] at this; omega
      have HS2 : Hid (stripT (.mk hy ky) = .mk h0 k0) := by unfold Hid; have := HSK.out; rw [strip_star] at this; exact this
      have HG2 := Lib.hid (grown_trM HGV.out hg6)
      have HM1 := Lib.hid (sdB_eq n9' hr6 hoy (by have := HZ2.out; omega))
      have HM2 : Hid (sdT (.mk hy ky) < sdT (rStar (.mk hy ky))) := by unfold Hid; rw [sd_star]; omega
      have N2 := Lib.hid n9'
      have HR2 := Lib.hid hr6
      have HC2 := Lib.hid hc2
      have HO2 := Lib.hid hoy
      clear hk6 n9' hg6 hr6 hr2 hc2 hoy hb2
      go_wp2_with fail
      go_roundw
      case rel => exact ⟨hy, ky, A2, c2, N2, HC2, HR2, HO2, HS2, HZ2, HG2⟩
      case measure => rw [HM0.out, HM1.out]; exact HM2.out
    · have t6 : ((hk.k.toNat : Int) == 6) = false := u8_ne (n := 6) (by decide) hk6
      have hst := HSK.out
      rw [strip_no hk6] at hst
      injection hst with e1 e2
      subst e1 e2
      have HLT : Hid (∀ s, LT (rStar (.mk hk kk)) s ↔ LT (rStar (.mk hx kx)) s) := fun s => by
        have := strip_LT (.mk hx kx) HOX.out s
        rw [HES.out] at this
        exact this.symm
      have hgr : ∀ b, b < w1.heap.size → wr.heap[b]? = V.heap[b]? := fun b hb => HGV.out.block b (by have := HLV.out; omega) (fun e => by have := Option.some.inj e; omega)
      have HOR := Lib.hid (HOV.out.kept (w' := wr) (row := some w1.heap.size) HGV.out (by rw [show (Value.slice (some ⟨W.heap.size, 0, none⟩) (S.size + 1) (S.size + 1)).ownBlock = some W.heap.size from rfl]; exact .inr (by intro e; have := Option.some.inj e; have := HGL.out; omega)))
      have HRWR : Hid (Row1 Value.bool wr Af fr) := fun j v hv => by
        obtain ⟨a, e, hc⟩ := HRWV.out j v hv
        have h1 := HAF.out a e
        have h2 := HB1.out.size
        exact ⟨a, e, (World.cell?_of_block (hgr _ (by rw [block_add]; omega))).trans hc⟩
      have HIV : Hid (StarInv (.mk hk kk) S.data.toList fr (List.replicate (S.size + 1) false) fr) := inv_start (by rw [HFR.out, bs_len]) _
      have HNF : Hid (∀ a, Af = some a → a.block ≠ W.heap.size) := fun a ha => by have := HAF.out a ha; have := HSW.out; omega
      have HLR : Hid (w1.heap.size < wr.heap.size) := by unfold Hid; have := HGV.out.size; have := HLV.out; omega
      have HGW : Hid (wr.grownBy wr (some W.heap.size)) := ⟨rfl, rfl, rfl, Nat.le_refl _, fun _ _ _ => rfl⟩
      have HBR : Hid (Below w.heap.size w wr) := HBV.out.grown HGV.out HBV.out.size (fun j hj => by cases hj; exact HB1.out.size)
      obtain ⟨wS, rfl⟩ : ∃ x, x = wr := ⟨_, rfl⟩
      clear hk6 hgr HRWV HOV HSK HGV
      go_wp2_with fail
      clear x0 x1 x2 x3 x4 x5 f0 f1 f2 f3 f4 f5
      go_loopw [10] (fun nx wr => ∃ (An : Option Addr) (cn : Nat) (l nl : List Bool), nx = .slice An (S.size + 1) cn ∧ Hid (wr.ownsRow W.heap.size 4 1 (.slice (some ⟨W.heap.size, 0, none⟩) (S.size + 1) (S.size + 1)) (S.size + 1) (l.map Value.bool)) ∧ Hid (Row1 Value.bool wr An nl) ∧ Hid (nl.length = S.size + 1) ∧ Hid (∀ a, An = some a → a.block ≠ W.heap.size) ∧ Hid (StarInv (.mk hk kk) S.data.toList fr l nl) ∧ Hid (wS.grownBy wr (some W.heap.size))) (fun _ wr => falsesAt wr W.heap.size (S.size + 1))
      case atStart => exact ⟨Af, cf, _, fr, rfl, HOR, HRWR, HFR, HNF, HIV, HGW⟩
      case round =>
        clear HOR HRWR HNF HIV HGW
        obtain ⟨An, cn, l, nl, rfl, HOR, HRN, HNL, HNF, HIV, HGW⟩ := hrel
        have HJ := Lib.hid (joinM_any l nl W.heap.size W.heap.size (S.size + 1) (S.size + 1) An cn wr HOR.out HRN.out HNL.out HNF.out (by omega))
        have HFA := Lib.hid (falsesAt_own HOR.out)
        go_wp2_with fail
        refine HJ.out.mono ?_
        rintro e wa ⟨lk, m, rfl, hst, hoa, hga⟩
        have HGA := Lib.hid (grown_trM HGW.out hga)
        cases m with
        | false =>
          have HEE : Hid (EndsP (rStar (.mk hx kx)) S.data.toList fr lk) := (inv_end HIV.out (by rw [HNL.out, bs_len]) (by rw [bs_len]; exact hst)).lang HLT.out
          have HBE := Lib.hid (HBR.out.grown HGA.out HBR.out.size (fun j hj => by cases hj; have := HSW.out; omega))
          have HRO := Lib.hid (bool_own hoa)
          clear hst hoa hga HJ HIV HOR HRN HFA
          go_wp2_with fail
          go_ret
          exact ⟨_, _, lk, rfl, by rw [HT.out]; exact HEE.out, HRO.out, .inr (fun a h => by cases h; show w.heap.size ≤ W.heap.size; have := HSW.out; omega), HBE.out⟩
        | true =>
          have hne9 : w1.heap.size ≠ W.heap.size := by have := HGL.out; omega
          have n9a := (HGA.out.block _ HLR.out (fun e => by have := Option.some.inj e; omega)).trans N9.out
          have hrka := HRK.out.grown HGA.out (fun x hx e => by have := Option.some.inj e; have := hx.2; have := HSW.out; omega)
          have hrna : Row1 Value.bool wa An nl := fun j v hv => by
            obtain ⟨a, e, hc⟩ := HRN.out j v hv
            exact ⟨a, e, (World.cell?_of_block (hga.block _ (World.block_lt_of_cell? wr _ hc) (fun e2 => by have := Option.some.inj e2; rw [block_add] at this; exact HNF.out a e this))).trans hc⟩
          have HC := Lib.hid (p0 _ Ak ck S An cn nl wa HCK.out hrka hS HNL.out hrna)
          obtain ⟨x0, x1, x2, x3, x4, x5⟩ := re_at_box n9a
          have HST := Lib.hid hst
          have HOA := Lib.hid hoa
          have HLA : Hid (W.heap.size < wa.heap.size) := by unfold Hid; have := HGA.out.size; have := HLR.out; have := HGL.out; omega
          clear n9a hrka hrna hst hoa hga HJ HOR HRN hne9
          go_wp2_with fail
          refine HC.out.mono ?_
          rintro e wb ⟨A5, c5, l5, rfl, he5, hr5, hp5, hb5⟩
          clear x0 x1 x2 x3 x4 x5 HC
          have hl5 : l5.length = S.size + 1 := by rw [he5.1, bs_len]
          have HOB := Lib.hid (HOA.out.kept (w' := wb) (row := none) ⟨hb5.os, hb5.tape, hb5.output, hb5.size, fun k hk _ => hb5.block k hk⟩ (by simp [Value.ownBlock]))
          have HNF5 : Hid (∀ a, A5 = some a → a.block ≠ W.heap.size) := fun a ha => by
            rcases hp5 with h | h
            · exact HNF.out a (by rw [← h.1]; exact ha)
            · have := h a ha; have := HLA.out; omega
          have HIV5 : Hid (StarInv (.mk hk kk) S.data.toList fr lk l5) := inv_step HIV.out (by rw [HNL.out, bs_len]) (by rw [bs_len]; exact HST.out) he5
          have HGB := Lib.hid (grown_trM HGA.out ⟨hb5.os, hb5.tape, hb5.output, hb5.size, fun k hk _ => hb5.block k hk⟩)
          have HFB := Lib.hid (falsesAt_own HOB.out)
          have HFL : Hid (falses lk < falses l) := by
            rcases HST.out.2.2 with ⟨h, _⟩ | ⟨_, h⟩
            · cases h
            · exact h
          have HR5 := Lib.hid hr5
          have HL5 := Lib.hid hl5
          clear he5 hr5 hp5 hb5 hl5 HST HOA HIV
          go_wp2_with fail
          go_roundw
          case rel => exact ⟨A5, c5, lk, l5, rfl, HOB, HR5, HL5, HNF5, HIV5, HGB⟩
          case measure => rw [HFB.out, HFA.out]; exact HFL.out
theorem mends_all : ∀ t : Re, okT t = true → t.size ≤ 1000000 → EndOkT 91 t ∧ EndOkT 91 (stripT t) := by
  refine okT_ind ?_ ?_ ?_ ?_ ?_ ?_
  · intro _
    have : EndOkT 91 rEmp := by intro h ks e; cases e; exact mends_1 rfl rfl
    exact ⟨this, by rw [strip_no (by decide)]; exact this⟩
  · intro _
    have : EndOkT 91 rEps := by intro h ks e; cases e; exact mends_2 rfl rfl
    exact ⟨this, by rw [strip_no (by decide)]; exact this⟩
  · intro s hs _
    have : EndOkT 91 (rCls s) := by intro h ks e; cases e; exact mends_3 rfl
    exact ⟨this, by rw [strip_no (by show ¬ ((3 : UInt8) = 6); decide)]; exact this⟩
  · intro x y hx hy ihx ihy hz
    simp only [T.size, T.sizes] at hz
    have hX := (ihx (by omega)).1
    have hY := (ihy (by omega)).1
    have : EndOkT 91 (rSeq x y) := by
      intro h ks e
      cases e
      obtain ⟨h1, k1⟩ := x
      obtain ⟨h2, k2⟩ := y
      exact mends_4 rfl rfl (hX _ _ rfl) (hY _ _ rfl)
    exact ⟨this, by rw [strip_no (by decide)]; exact this⟩
  · intro x y hx hy ihx ihy hz
    simp only [T.size, T.sizes] at hz
    have hX := (ihx (by omega)).1
    have hY := (ihy (by omega)).1
    have : EndOkT 91 (rAlt x y) := by
      intro h ks e
      cases e
      obtain ⟨h1, k1⟩ := x
      obtain ⟨h2, k2⟩ := y
      exact mends_5 rfl rfl (hX _ _ rfl) (hY _ _ rfl)
    exact ⟨this, by rw [strip_no (by decide)]; exact this⟩
  · intro x hx ih hz
    simp only [T.size, T.sizes] at hz
    have hX := ih (by omega)
    refine ⟨?_, by rw [strip_star]; exact hX.2⟩
    intro h ks e
    cases e
    obtain ⟨h1, k1⟩ := x
    rcases es : stripT (.mk h1 k1) with ⟨h0, k0⟩
    exact mends_6 rfl rfl hx (by simp only [T.size] at hz; omega) es (hX.2 _ _ es)
end Go.Proofs.Yteokbmngebckjaa
namespace Go.Proofs.Yteokbmngebckjaa
open Go.RowKit
set_option linter.unusedVariables false
set_option linter.unusedSimpArgs false

theorem Try.info_intM : (Try.prog.info? 3).map (fun i => (i.zero, i.size, i.bytes)) = some (some (.int .i64 0), 1, 8) := by kernel_rfl
def encN (n : Nat) : Value := .int .i64 (n : Int)
/-- the places below k that are true -/
def trueTo (l : List Bool) : Nat → List Nat
  | 0 => []
  | k + 1 => if l[k]? = some true then trueTo l k ++ [k] else trueTo l k
theorem trueTo_len (l : List Bool) : ∀ k, (trueTo l k).length ≤ k
  | 0 => Nat.le_refl _
  | k + 1 => by
    have := trueTo_len l k
    simp only [trueTo]
    split
    · rw [List.length_append, List.length_singleton]; omega
    · omega
theorem trueTo_mem (l : List Bool) (j : Nat) : ∀ k, j ∈ trueTo l k ↔ j < k ∧ l[j]? = some true
  | 0 => by simp [trueTo]
  | k + 1 => by
    have ih := trueTo_mem l j k
    simp only [trueTo]
    split
    · rename_i h
      rw [List.mem_append, ih, List.mem_singleton]
      constructor
      · rintro (⟨h1, h2⟩ | rfl)
        · exact ⟨by omega, h2⟩
        · exact ⟨by omega, h⟩
      · rintro ⟨h1, h2⟩
        rcases Nat.lt_or_ge j k with h3 | h3
        · exact .inl ⟨h3, h2⟩
        · exact .inr (by omega)
    · rename_i h
      rw [ih]
      constructor
      · rintro ⟨h1, h2⟩; exact ⟨by omega, h2⟩
      · rintro ⟨h1, h2⟩
        refine ⟨?_, h2⟩
        rcases Nat.lt_or_ge j k with h3 | h3
        · exact h3
        · have : j = k := by omega
          subst this
          exact absurd h2 h
def onlyAt (n i : Nat) : List Bool := (List.replicate n false).set i true
def EndsMPost (t : Re) (S : ByteArray) (i : Nat) (w : World) (e : Ending) (w' : World) : Prop := ∃ A c l, e = .returned (.slice A (trueTo l (S.size + 1)).length c) ∧ (trueTo l (S.size + 1)).length ≤ c ∧ EndsP t S.data.toList (onlyAt (S.size + 1) i) l ∧ Row1 encN w' A (trueTo l (S.size + 1)) ∧ Below w.heap.size w w'
set_option maxRecDepth 100000 in
set_option maxHeartbeats 16000000 in
theorem mEnds_any {P : Nat → Prop} (h : RH) (ks : List Re) (A : Option Addr) (c : Nat) (S : ByteArray) (i : Nat) (w : World) (hmy : mayB (.mk h ks) = true) (hc : ks.length ≤ c) (hr : InRow RE P w ks A 0) (hS : S.size ≤ 100) (hi : i ≤ S.size) :
    Calls Try.prog 71 #[reV h A ks.length c, .string S, .int .i64 (i : Nat)] w (EndsMPost (.mk h ks) S i w) := by
  have hsz := (may_iff.1 hmy).2
  simp only [T.size] at hsz
  obtain ⟨W, hW⟩ : ∃ W, w.alloc (.cells (reA h A ks.length c) 34) = W := ⟨_, rfl⟩
  have hbW : Below w.heap.size w W := by rw [← hW]; exact below_new (Below.refl _ _) _
  have hsW : W.heap.size = w.heap.size + 1 := by rw [← hW]; simp
  have e1W : W.heap[w.heap.size]? = some (.cells (reA h A ks.length c) 34 (0, 0)) := by rw [← hW]; exact new_at1 _
  obtain ⟨V, hV⟩ : ∃ V, W.alloc (.cells (reA h A ks.length c) 34) = V := ⟨_, rfl⟩
  have hbV : Below W.heap.size W V := by rw [← hV]; exact below_new (Below.refl _ _) _
  have e5V : V.heap[W.heap.size]? = some (.cells (reA h A ks.length c) 34 (0, 0)) := by rw [← hV]; exact new_at1 _
  have hbwV := below_from hbW hbV
  have HM : Hid (Calls Try.prog 44 #[.slice (some ⟨W.heap.size, 0, none⟩) 1 1] V fun e w' => e = .returned (.bool true) ∧ Below V.heap.size V w') := by
    have := May_any (ok := fun _ => True) [T.mk h ks] (some ⟨W.heap.size, 0, none⟩) 1 V (by simp only [T.sizes, T.size]; omega) (row_one e5V trivial hc ((hr.weak fun _ _ => trivial).below hbwV))
    unfold Hid
    simpa [hmy] using this
  obtain ⟨ib, hib, hz0, hz1, hz2⟩ := info_parts Try.info_bool
  obtain ⟨Z, hZ⟩ : ∃ Z, madeCells (Value.bool false).cells ((S.size + 1) * 1) = Z := ⟨_, rfl⟩
  have hmk : ∀ X : World, (Instr.makeSlice 120 (.int .i64 ((S.size : Int) + 1)) (.int .i64 ((S.size : Int) + 1))).run Try.prog X = .ok (.slice (some ⟨X.heap.size, 0, none⟩) (S.size + 1) (S.size + 1)) (X.alloc (.cells Z 4)) := fun X => by
    have := run_makeSlice (P := Try.prog) (w := X) 120 4 ib (.bool false) Try.underlying120 hib hz0 .i64 .i64 ((S.size : Int) + 1) ((S.size : Int) + 1) (by omega) (Int.le_refl _) (by rw [hz1]; omega) (by rw [hz2]; omega) (by omega)
    rw [hz1, show ((S.size : Int) + 1).toNat = S.size + 1 by omega, hZ] at this
    exact this
  have HEN : Hid (∀ X Ag cg (gr : List Bool), Below w.heap.size w X → gr.length = S.size + 1 → Row1 Value.bool X Ag gr → Calls Try.prog 91 #[reV h A ks.length c, .string S, .slice Ag (S.size + 1) cg] X (EndPost (.mk h ks) S Ag gr X)) := fun X Ag cg gr hX hg hrow =>
    (mends_all _ (may_okT hmy) (by simp only [T.size]; omega)).1 h ks rfl _ A c S Ag cg gr X hc (hr.below hX) hS hg hrow
  have HON : Hid (∀ (X : World) (Ag : Option Addr), Calls Try.prog 92 #[.slice Ag (S.size + 1) (S.size + 1), .int .i64 (i : Nat)] X fun e w' => ∃ g cap, e = .returned (.slice (some ⟨g, 0, none⟩) (S.size + 1) cap) ∧ Row1 Value.bool w' (some ⟨g, 0, none⟩) (onlyAt (S.size + 1) i) ∧ X.heap.size ≤ g ∧ Below X.heap.size X w') := fun X Ag => only_any (S.size + 1) (S.size + 1) i Ag X (by omega) (by omega)
  have HE := Lib.hid hW
  have HV := Lib.hid hV
  have HBW := Lib.hid hbW
  have HBV := Lib.hid hbwV
  have E1 := Lib.hid e1W
  have E1V := Lib.hid ((hbV.block _ (lt_of_block e1W)).trans e1W)
  have gi0 : decide ((i : Int) < 0) = false := by simp
  have gw1 : IntKind.i64.wrap ((S.size : Int) + 1) = (S.size : Int) + 1 := IntWalk.i64_in _ (by omega)
  have gi1 : decide ((i : Int) > (S.size : Int)) = false := by simp; omega
  clear hW hbW hsW e1W hV hbV e5V hbwV hr hib hz0 hz1 hz2 hZ hmy
  go_enter Try.func71, Try.ntmps71
  go_upto_region 1 with fail
  rw [show w.alloc _ = W from HE.out]
  obtain ⟨x0, x1, x2, x3, x4, x5⟩ := re_at_box E1.out
  go_wp2_with fail
  rw [show W.alloc _ = V from HV.out]
  refine HM.out.mono ?_
  rintro e w1 ⟨rfl, hb1⟩
  have HB1 := Lib.hid (below_from HBV.out hb1)
  have E11 := Lib.hid ((hb1.block _ (lt_of_block E1V.out)).trans E1V.out)
  clear x0 x1 x2 x3 x4 x5 HM hb1 E1 E1V HBW HBV HE HV
  go_upto_region 4 with fail
  have Q : Hid (∀ X, Below w1.heap.size w1 X → X.cell? ⟨w.heap.size, 0, none⟩ = some (.int .u8 (h.k.toNat : Int)) ∧ X.cell? ⟨w.heap.size, 1, none⟩ = some (.int .u64 (h.s.a.toNat : Int)) ∧ X.cell? ⟨w.heap.size, 2, none⟩ = some (.int .u64 (h.s.b.toNat : Int)) ∧ X.cell? ⟨w.heap.size, 3, none⟩ = some (.int .u64 (h.s.c.toNat : Int)) ∧ X.cell? ⟨w.heap.size, 4, none⟩ = some (.int .u64 (h.s.d.toNat : Int)) ∧ X.cell? ⟨w.heap.size, 5, none⟩ = some (.slice A ks.length c)) := fun X hX => re_at_box ((hX.block _ (lt_of_block E11.out)).trans E11.out)
  have hz := Below.refl w1.heap.size w1
  obtain ⟨x0, x1, x2, x3, x4, x5⟩ := Q.out _ hz
  go_region_held3 (fun X => X.cell? ⟨w.heap.size, 0, none⟩ = some (.int .u8 (h.k.toNat : Int)) ∧ X.cell? ⟨w.heap.size, 1, none⟩ = some (.int .u64 (h.s.a.toNat : Int)) ∧ X.cell? ⟨w.heap.size, 2, none⟩ = some (.int .u64 (h.s.b.toNat : Int)) ∧ X.cell? ⟨w.heap.size, 3, none⟩ = some (.int .u64 (h.s.c.toNat : Int)) ∧ X.cell? ⟨w.heap.size, 4, none⟩ = some (.int .u64 (h.s.d.toNat : Int)) ∧ X.cell? ⟨w.heap.size, 5, none⟩ = some (.slice A ks.length c))
    ((refine Q.out _ ?_; (repeat (first | with_reducible exact hz | with_reducible refine Below.drew ?_ | with_reducible refine below_new ?_ _))))
    (first
      | (go_at_call 92; (with_reducible refine (HON.out _ _).mono ?_); rintro e wo ⟨g, cap, rfl, hro, hgo, hbo⟩; have HRO := Lib.hid hro; clear hro; have hz := below_from (by first | exact (below_new hz _).drew | exact below_new hz.drew _ | exact below_new hz _ | exact hz.drew | exact hz) hbo)
      | (go_at_call 91; (with_reducible refine (HEN.out _ (some ⟨g, 0, none⟩) cap _ (below_from HB1.out hz) (by simp [onlyAt]) HRO.out).mono ?_); rintro e we ⟨Ae, ce, le, rfl, hee, hre, hpe, hbe⟩; have hz := below_from hz hbe)
      | fail)
  obtain ⟨wb, rfl⟩ : ∃ x, x = we := ⟨_, rfl⟩
  have hle : le.length = S.size + 1 := by rw [hee.1, bs_len]
  have HEE := Lib.hid hee
  have HRE := Lib.hid hre
  have HLE := Lib.hid hle
  have HBE := Lib.hid (below_from HB1.out hz)
  have HO0 := World.ownsRow_nil wb wb.heap.size 3 1
  have HB0 := Below.refl wb.heap.size wb
  have h1w : w.heap.size ≤ wb.heap.size := HBE.out.size
  clear hee hre hle hpe hbe hbo hgo HRO x0 x1 x2 x3 x4 x5 Q HEN HON E11 hmk
  go_wp2_with fail
  go_loopw [7, 8, 9, 34] (fun o _ _ j wr => ∃ (k : Nat), k ≤ S.size + 1 ∧ j = .int .i64 (k : Nat) ∧ wr.ownsRow wb.heap.size 3 1 o (trueTo le k).length ((trueTo le k).map encN) ∧ Below wb.heap.size wb wr) (fun _ _ _ j _ => S.size + 1 - (intOf j).toNat)
  case atStart => exact ⟨0, Nat.zero_le _, rfl, HO0, HB0⟩
  case round =>
    clear HO0 HB0
    obtain ⟨k, hk, rfl, ho, hb⟩ := hrel
    obtain ⟨A2, c2, rfl, hc2, hs2⟩ := own_slice ho
    have hlen := trueTo_len le k
    by_cases hlt : k < S.size + 1
    · have gd : decide ((k : Int) < (S.size : Int) + 1) = true := by simp; omega
      obtain ⟨ad3, x, hA3, hxx, hcx⟩ := (HRE.out.below hb).at_ (show k < le.length by rw [HLE.out]; omega)
      subst hA3
      have HT : Hid (trueTo le (k + 1) = if le[k]? = some true then trueTo le k ++ [k] else trueTo le k) := rfl
      rw [hxx] at HT
      clear hxx
      cases x with
      | false =>
        clear hlen hs2
        go_wp2_with fail
        go_roundw
        case rel => exact ⟨k + 1, by omega, by go_num, by rw [HT.out]; exact ho, hb⟩
        case measure => simp [intOf]; omega
      | true =>
        have hsrc := new_src wr 1 1 #[.int .i64 (k : Int)] 3 rfl
        have HSZ := Lib.hid hb.size
        have HL := Lib.hid hlen
        clear hlen hs2
        go_wp2_with (at_builtin; refine wpList_app _ rfl (.tmp 40) (.tmp 42) 68 rfl wb.heap.size 3 (.int .i64 0) 1 8 Try.underlying68 Try.info_intM rfl (by decide) (.slice A2 (trueTo le k).length c2) (trueTo le k).length _ rfl (ho.alloc _) (some ⟨wr.heap.size, 0, none⟩) 1 1 _ rfl hsrc ?h1 ?h2 ?h3 ?h4 ?_)
        case h1 => rfl
        case h2 => unfold maxLen; have := HL.out; omega
        case h3 => have := HL.out; omega
        case h4 => have := HSZ.out; simp; omega
        intro v3 w3 ho3 hg3 _
        have hb3 : Below wb.heap.size wb w3 := (below_new hb _).grown hg3 (by have := HSZ.out; simp; omega) (fun j hj => by have := own_base ho j hj; omega)
        clear hg3 ho hsrc
        go_wp2_with fail
        go_roundw
        case rel => exact ⟨k + 1, by omega, by go_num, by rw [HT.out]; simp only [if_true, List.map_append, List.length_append, List.map_cons, List.map_nil, List.length_cons, List.length_nil, encN]; exact ho3, hb3⟩
        case measure => simp [intOf]; omega
    · have he : k = S.size + 1 := by omega
      subst he
      have gd : decide (((S.size + 1 : Nat) : Int) < (S.size : Int) + 1) = false := by simp
      have hbf := below_from HBE.out hb
      clear hlt hk hlen
      go_wp2_with fail
      go_ret
      exact ⟨A2, c2, le, rfl, hc2, HEE.out, hs2.row1, hbf⟩
set_option maxRecDepth 100000 in
set_option maxHeartbeats 4000000 in
theorem idxInt_any (L : List Nat) (A : Option Addr) (c n : Nat) (w : World) (hr : Row1 encN w A L) (hm : L.length ≤ 1000) :
    Calls Try.prog 90 #[.slice A L.length c, .int .i64 (n : Nat)] w fun e w' => ∃ z : Int, e = .returned (.int .i64 z) ∧ (z ≥ 0 ↔ n ∈ L) ∧ w' = w := by
  go_enter Try.func90, Try.ntmps90
  go_wp2_with fail
  go_loopw [5, 8] (fun _ i wr => ∃ k : Nat, k ≤ L.length ∧ i = .int .i64 k ∧ Hid (∀ j : Nat, j < k → L[j]? ≠ some n) ∧ wr = w) (fun _ i _ => L.length - (intOf i).toNat)
  case atStart => exact ⟨0, Nat.zero_le _, rfl, Lib.hid (fun j h => absurd h (by omega)), rfl⟩
  case round =>
    obtain ⟨k, hk, rfl, HN, rfl⟩ := hrel
    by_cases hlt : k < L.length
    · obtain ⟨ad, x, hA, hx, hcx⟩ := hr.at_ hlt
      subst hA
      simp only [encN] at hcx
      have HX := Lib.hid hx
      have hmem := List.mem_of_getElem? hx
      clear hx hr
      by_cases he : x = n
      · subst he
        have g : ((x : Int) == (x : Int)) = true := by simp
        go_wp2_with fail
        go_ret
        exact ⟨_, rfl, ⟨fun _ => hmem, fun _ => by omega⟩, rfl⟩
      · have g : ((n : Int) == (x : Int)) = false := by rw [beq_eq_false_iff_ne]; omega
        have HN2 : Hid (∀ j : Nat, j < k + 1 → L[j]? ≠ some n) := fun j hj hy => by
          by_cases e : j = k
          · subst e; rw [HX.out] at hy; exact he (Option.some.inj hy)
          · exact HN.out j (by omega) hy
        clear HN he
        go_wp2_with fail
        go_roundw
        case rel => first | exact ⟨k + 1, by omega, by go_num, HN2, rfl⟩ | exact ⟨k + 1, by omega, by go_num, HN2, trivial⟩ | exact ⟨k + 1, by omega, by go_num, HN2⟩
        case measure => simp [intOf]; omega
    · have hno : n ∉ L := fun hmem => by
        obtain ⟨j, hj⟩ := List.getElem?_of_mem hmem
        exact HN.out j (by have := (List.getElem?_eq_some_iff.1 hj).1; omega) hj
      have HNO := Lib.hid hno
      clear hno HN
      go_wp2_with fail
      go_ret
      exact ⟨-1, rfl, ⟨fun h => absurd h (by decide), fun h => (HNO.out h).elim⟩, rfl⟩
set_option maxRecDepth 100000 in
theorem conInt_any (L : List Nat) (A : Option Addr) (c n : Nat) (w : World) (hr : Row1 encN w A L) (hm : L.length ≤ 1000) :
    Calls Try.prog 70 #[.slice A L.length c, .int .i64 (n : Nat)] w fun e w' => e = .returned (.bool (decide (n ∈ L))) ∧ w' = w := by
  have HC := Lib.hid (idxInt_any L A c n w hr hm)
  clear hr
  go_enter Try.func70, Try.ntmps70
  go_wp2_with fail
  refine HC.out.mono ?_
  rintro e w1 ⟨z, rfl, hz, rfl⟩
  have HZ : Hid (decide (z ≥ 0) = decide (n ∈ L)) := by unfold Hid; rw [decide_eq_decide]; exact hz
  clear hz HC
  go_wp2_with fail
  go_ret
  exact ⟨by rw [HZ.out]; rfl, rfl⟩
set_option maxRecDepth 100000 in
set_option maxHeartbeats 4000000 in
theorem mfits_any {P : Nat → Prop} (h : RH) (ks : List Re) (A : Option Addr) (c : Nat) (S : ByteArray) (w : World) (hmy : mayB (.mk h ks) = true) (hc : ks.length ≤ c) (hr : InRow RE P w ks A 0) (hS : S.size ≤ 100) :
    Calls Try.prog 47 #[reV h A ks.length c, .string S] w fun e w' => e = .returned (.bool (fitB (.mk h ks) S.data.toList)) ∧ Below w.heap.size w w' := by
  obtain ⟨W, hW⟩ : ∃ W, w.alloc (.cells (reA h A ks.length c) 34) = W := ⟨_, rfl⟩
  have hbW : Below w.heap.size w W := by rw [← hW]; exact below_new (Below.refl _ _) _
  have e1W : W.heap[w.heap.size]? = some (.cells (reA h A ks.length c) 34 (0, 0)) := by rw [← hW]; exact new_at1 _
  have HC := Lib.hid (mEnds_any h ks A c S 0 W hmy hc (hr.below hbW) hS (Nat.zero_le _))
  have HE := Lib.hid hW
  have HBW := Lib.hid hbW
  have E1 := Lib.hid e1W
  clear hW hbW e1W hr
  go_enter Try.func47, Try.ntmps47
  go_upto_region 1 with fail
  rw [show w.alloc _ = W from HE.out]
  obtain ⟨x0, x1, x2, x3, x4, x5⟩ := re_at_box E1.out
  go_wp2_with fail
  refine HC.out.mono ?_
  rintro e w1 ⟨A1, c1, l, rfl, hc1, hee, hr1, hb1⟩
  have hlen := trueTo_len l (S.size + 1)
  have HC2 := Lib.hid (conInt_any (trueTo l (S.size + 1)) A1 c1 S.size w1 hr1 (by omega))
  have HB := Lib.hid (below_from HBW.out hb1)
  have HF : Hid (decide (S.size ∈ trueTo l (S.size + 1)) = fitB (.mk h ks) S.data.toList) := by
    unfold Hid
    rw [Bool.eq_iff_iff, decide_eq_true_eq, fitB_true, trueTo_mem, hee.2]
    constructor
    · rintro ⟨_, _, i, hi, e, hl⟩
      unfold onlyAt at e
      rw [List.getElem?_set] at e
      by_cases hi0 : 0 = i
      · subst hi0
        rw [← bs_len S, sub_all] at hl
        exact hl
      · rw [if_neg hi0] at e
        exact absurd e (none_true _ _)
    · intro hl
      refine ⟨by omega, by rw [bs_len]; exact Nat.le_refl _, 0, Nat.zero_le _, by unfold onlyAt; rw [List.getElem?_set]; simp, ?_⟩
      rw [← bs_len S, sub_all]
      exact hl
  clear x0 x1 x2 x3 x4 x5 HC hee hr1 hb1 hlen
  go_wp2_with fail
  refine HC2.out.mono ?_
  rintro e w2 ⟨rfl, rfl⟩
  have hb := HB.out
  clear HC2
  go_wp2_with fail
  go_ret
  exact ⟨by rw [HF.out]; rfl, hb⟩
set_option maxRecDepth 100000 in
set_option maxHeartbeats 4000000 in
theorem mFits1_any {P : Nat → Prop} (h : RH) (ks : List Re) (A : Option Addr) (c cb : Nat) (S : ByteArray) (w : World) (hmy : mayB (.mk h ks) = true) (hc : ks.length ≤ c) (hr : InRow RE P w ks A 0) (hS : S.size ≤ 100) (hb : w.heap[cb]? = some (.cells (reA h A ks.length c) 34 (0, 0))) :
    Calls Try.prog 46 #[.string S, .pointer (some ⟨cb, 0, none⟩)] w fun e w' => e = .returned (.bool (!fitB (.mk h ks) S.data.toList)) ∧ Below w.heap.size w w' := by
  have HC := Lib.hid (mfits_any h ks A c S w hmy hc hr hS)
  obtain ⟨x0, x1, x2, x3, x4, x5⟩ := re_at_box hb
  clear hr hb
  go_enter Try.func46, Try.ntmps46
  go_wp2_with fail
  refine HC.out.mono ?_
  rintro e w1 ⟨rfl, hb1⟩
  clear HC
  go_wp2_with fail
  go_ret
  exact ⟨rfl, hb1⟩
set_option maxRecDepth 100000 in
set_option maxHeartbeats 4000000 in
theorem idxFits_any (b : Bool) (S : ByteArray) (A : Option Addr) (c cb : Nat) (w : World) (hr : Row1 Value.string w A [S])
    (hcall : ∀ w1, Below w.heap.size w w1 → Calls Try.prog 46 #[.string S, .pointer (some ⟨cb, 0, none⟩)] w1 fun e w' => e = .returned (.bool (!b)) ∧ Below w1.heap.size w1 w') :
    Calls Try.prog 69 #[.slice A 1 c, .func (.func 46) #[] #[.pointer (some ⟨cb, 0, none⟩)]] w fun e w' => e = .returned (.int .i64 (if b then -1 else 0)) ∧ Below w.heap.size w w' := by
  have HC := Lib.hid hcall
  clear hcall
  go_enter Try.func69, Try.ntmps69
  go_wp2_with fail
  go_loopw [5, 8] (fun _ i wr => ∃ k : Nat, k ≤ 1 ∧ i = .int .i64 k ∧ (k = 1 → b = true) ∧ Below w.heap.size w wr) (fun _ i _ => 1 - (intOf i).toNat)
  case atStart => exact ⟨0, Nat.zero_le _, rfl, fun h => absurd h (by decide), Below.refl _ _⟩
  case round =>
    obtain ⟨k, hk, rfl, hn, hb⟩ := hrel
    have HN := Lib.hid hn
    clear hn
    by_cases h0 : k = 0
    · subst h0
      obtain ⟨ad, x, hA, hx, hcx⟩ := (hr.below hb).at_ (show 0 < [S].length by simp)
      subst hA
      cases hx
      have hcx' : wr.cell? ad = some (.string S) := by simpa [Addr.add] using hcx
      have HC2 := Lib.hid (HC.out wr hb)
      clear hcx hr
      go_wp2_with fail
      refine HC2.out.mono ?_
      rintro e w1 ⟨rfl, hb1⟩
      have hb2 := below_from hb hb1
      clear hb1 HC2
      cases b with
      | true =>
        go_wp2_with fail
        go_roundw
        case rel => exact ⟨1, Nat.le_refl _, rfl, by simp, hb2⟩
        case measure => simp [intOf]
      | false =>
        go_wp2_with fail
        go_ret
        exact ⟨rfl, hb2⟩
    · have h1 : k = 1 := by omega
      subst h1
      have hbt := HN.out rfl
      subst hbt
      clear h0
      go_wp2_with fail
      go_ret
      exact ⟨rfl, hb⟩
set_option maxRecDepth 100000 in
set_option maxHeartbeats 4000000 in
theorem conFits_any (b : Bool) (S : ByteArray) (A : Option Addr) (c cb : Nat) (w : World) (hr : Row1 Value.string w A [S])
    (hcall : ∀ w1, Below w.heap.size w w1 → Calls Try.prog 46 #[.string S, .pointer (some ⟨cb, 0, none⟩)] w1 fun e w' => e = .returned (.bool (!b)) ∧ Below w1.heap.size w1 w') :
    Calls Try.prog 45 #[.slice A 1 c, .func (.func 46) #[] #[.pointer (some ⟨cb, 0, none⟩)]] w fun e w' => e = .returned (.bool (!b)) ∧ Below w.heap.size w w' := by
  have HC := Lib.hid (idxFits_any b S A c cb w hr hcall)
  clear hr hcall
  go_enter Try.func45, Try.ntmps45
  go_wp2_with fail
  refine HC.out.mono ?_
  rintro e w1 ⟨rfl, hb1⟩
  clear HC
  cases b with
  | true =>
    go_wp2_with fail
    go_ret
    exact ⟨rfl, hb1⟩
  | false =>
    go_wp2_with fail
    go_ret
    exact ⟨rfl, hb1⟩
set_option maxRecDepth 100000 in
set_option maxHeartbeats 8000000 in
/-- match.Fits, with one text -/
theorem mFits_any {P : Nat → Prop} (h : RH) (ks : List Re) (A : Option Addr) (c : Nat) (S : ByteArray) (B : Option Addr) (cb : Nat) (w : World) (hm : T.sizes ks ≤ 900000) (hc : ks.length ≤ c) (hr : InRow RE P w ks A 0) (hS : S.size ≤ 100) (hrs : Row1 Value.string w B [S]) :
    Calls Try.prog 23 #[reV h A ks.length c, .slice B 1 cb] w fun e w' => e = .returned (.bool (mayB (.mk h ks) && fitB (.mk h ks) S.data.toList)) ∧ Below w.heap.size w w' := by
  have hmf : ∀ (fn : Fn) (first cap : Array Value) (w : World), (Instr.makeFunc fn first cap).run Try.prog w = .ok (.func fn first cap) w := fun _ _ _ _ => rfl
  obtain ⟨W, hW⟩ : ∃ W, w.alloc (.cells (reA h A ks.length c) 34) = W := ⟨_, rfl⟩
  have hbW : Below w.heap.size w W := by rw [← hW]; exact below_new (Below.refl _ _) _
  have e1W : W.heap[w.heap.size]? = some (.cells (reA h A ks.length c) 34 (0, 0)) := by rw [← hW]; exact new_at1 _
  obtain ⟨V, hV⟩ : ∃ V, W.alloc (.cells (reA h A ks.length c) 34) = V := ⟨_, rfl⟩
  have hbV : Below W.heap.size W V := by rw [← hV]; exact below_new (Below.refl _ _) _
  have e5V : V.heap[W.heap.size]? = some (.cells (reA h A ks.length c) 34 (0, 0)) := by rw [← hV]; exact new_at1 _
  have hbwV := below_from hbW hbV
  have HM : Hid (Calls Try.prog 44 #[.slice (some ⟨W.heap.size, 0, none⟩) 1 1] V fun e w' => e = .returned (.bool (mayB (.mk h ks))) ∧ Below V.heap.size V w') := by
    have := May_any (ok := fun _ => True) [T.mk h ks] (some ⟨W.heap.size, 0, none⟩) 1 V (by simp only [T.sizes, T.size]; omega) (row_one e5V trivial hc ((hr.weak fun _ _ => trivial).below hbwV))
    unfold Hid
    simpa using this
  have HCF : Hid (mayB (.mk h ks) = true → ∀ X, Below w.heap.size w X → X.heap[w.heap.size]? = some (.cells (reA h A ks.length c) 34 (0, 0)) → Calls Try.prog 45 #[.slice B 1 cb, .func (.func 46) #[] #[.pointer (some ⟨w.heap.size, 0, none⟩)]] X fun e w' => e = .returned (.bool (!fitB (.mk h ks) S.data.toList)) ∧ Below X.heap.size X w') := fun hmy X hX hbx =>
    conFits_any (fitB (.mk h ks) S.data.toList) S B cb w.heap.size X (hrs.below hX) (fun w1 h1 => mFits1_any h ks A c w.heap.size S w1 hmy hc (hr.below (below_from hX h1)) hS ((h1.block _ (lt_of_block hbx)).trans hbx))
  have HE := Lib.hid hW
  have HV := Lib.hid hV
  have HBV := Lib.hid hbwV
  have E1 := Lib.hid e1W
  have E1V := Lib.hid ((hbV.block _ (lt_of_block e1W)).trans e1W)
  clear hW hbW e1W hV hbV e5V hbwV hr hrs
  go_enter Try.func23, Try.ntmps23
  go_upto_region 1 with fail
  rw [show w.alloc _ = W from HE.out]
  obtain ⟨x0, x1, x2, x3, x4, x5⟩ := re_at_box E1.out
  go_wp2_with fail
  rw [show W.alloc _ = V from HV.out]
  refine HM.out.mono ?_
  rintro e w1 ⟨rfl, hb1⟩
  have HB1 := Lib.hid (below_from HBV.out hb1)
  have E11 := Lib.hid ((hb1.block _ (lt_of_block E1V.out)).trans E1V.out)
  clear x0 x1 x2 x3 x4 x5 HM hb1
  rcases hmy : mayB (.mk h ks) with _ | _
  · have hb := HB1.out
    have HMF := Lib.hid hmy
    clear HCF hmy
    go_wp2_with fail
    go_ret
    exact ⟨by rw [HMF.out]; rfl, hb⟩
  · have HMT := Lib.hid hmy
    have HC := Lib.hid (HCF.out hmy w1 HB1.out E11.out)
    clear HCF hmy
    obtain ⟨b, hbf⟩ : ∃ b, fitB (.mk h ks) S.data.toList = b := ⟨_, rfl⟩
    rw [hbf] at HC
    have HBF := Lib.hid hbf
    clear hbf
    go_wp2_with fail
    refine HC.out.mono ?_
    rintro e w2 ⟨rfl, hb2⟩
    have hb := below_from HB1.out hb2
    clear HC hb2
    go_wp2_with fail
    go_ret
    exact ⟨by rw [HMT.out, HBF.out]; simp, hb⟩
end Go.Proofs.Yteokbmngebckjaa
