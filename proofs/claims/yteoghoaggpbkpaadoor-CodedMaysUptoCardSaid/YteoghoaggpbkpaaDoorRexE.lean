/- Whether an expression may be, as the document has it. -/
import Derived.Test.YteoghoaggpbkpaaDoorRexD
namespace Go.Proofs.YteoghoaggpbkpaaDoor
open Go.RowKit
set_option linter.unusedVariables false
set_option linter.unusedSimpArgs false

mutual
theorem okT_all : ∀ t : Re, okT t = t.all.all fun x => okNode x.head x.kids.length
  | .mk h ks => by
    simp only [okT, T.all, List.all_cons, T.head, T.kids, okL_alls ks]
theorem okL_alls : ∀ ts : List Re, okL ts = (T.alls ts).all fun x => okNode x.head x.kids.length
  | [] => rfl
  | t :: ts => by
    simp only [okL, T.alls, List.all_append, okT_all t, okL_alls ts]
end

mutual
theorem T.all_le {α : Type} : ∀ (t : T α) {x : T α}, x ∈ t.all → x.size ≤ t.size
  | .mk a ks, x, h => by
    simp only [T.all, List.mem_cons] at h
    rcases h with rfl | h
    · exact Nat.le_refl _
    · have := T.alls_le ks h; simp only [T.size]; omega
theorem T.alls_le {α : Type} : ∀ (ts : List (T α)) {x : T α}, x ∈ T.alls ts → x.size ≤ T.sizes ts
  | [], x, h => by simp [T.alls] at h
  | t :: ts, x, h => by
    simp only [T.alls, List.mem_append] at h
    rcases h with h | h
    · have := T.all_le t h; simp only [T.sizes]; omega
    · have := T.alls_le ts h; simp only [T.sizes]; omega
end
theorem all_no {α : Type} {l : List α} {p : α → Bool} {k : Nat} {t : α} (h : l[k]? = some t) (hp : p t = false) : l.all p = false := by
  rw [List.all_eq_false]
  exact ⟨t, List.mem_of_getElem? h, by simp [hp]⟩
theorem all_yes {α : Type} {l : List α} {p : α → Bool} (h : ∀ (j : Nat) (t : α), j < l.length → l[j]? = some t → p t = true) : l.all p = true := by
  rw [List.all_eq_true]
  intro t ht
  obtain ⟨j, hj⟩ := List.getElem?_of_mem ht
  exact h j t (by rcases Nat.lt_or_ge j l.length with h | h; exact h; rw [List.getElem?_eq_none h] at hj; simp at hj) hj

theorem pw_drew {B : Nat} {a w : World} (h : Below B a w) : Below B a w.drew := ⟨h.os, h.tape, h.output, h.size, h.block⟩

set_option maxHeartbeats 16000000 in
theorem refMay_any {ok : Nat → Prop} (h : RH) (ks : List Re) (A : Option Addr) (c : Nat) (w : World) (hm : T.sizes ks ≤ 900000000) (hc : ks.length ≤ c) (hr : InRow RE ok w ks A 0) :
    Calls Tryd.prog 24 #[reV h A ks.length c] w fun e w' => e = .returned (.bool (mayB (.mk h ks))) ∧ Below w.heap.size w w' := by
  have HM : Hid (mayB (.mk h ks) = (((T.mk h ks).all.all fun x => okNode x.head x.kids.length) && decide ((T.mk h ks).all.length ≤ 2000))) := by
    unfold Hid mayB
    rw [okT_all, T.all_length]
  have hrn : ∀ o, InRow RE (fun b => ok b ∧ b < w.heap.size) (w.alloc o) ks A 0 := fun o => hr.there.below (below_new (Below.refl _ _) o)
  have hlen : (T.mk h ks).all.length ≤ 1000000000 := by rw [T.all_length]; simp only [T.size]; omega
  have HS : Hid (∀ t ∈ (T.mk h ks).all, t.size ≤ 1000000000) := fun t ht => by
    have := T.all_le _ ht
    simp only [T.size] at this; omega
  go_enter Tryd.func24, Tryd.ntmps24
  go_wp2_with fail
  refine (All_upto 1000000000 _ h ks A c _ (by omega) (Nat.le_refl _) hc (hrn _) (fun b hb => by have := hb.2; simp; omega)).mono ?_
  rintro e w1 ⟨v1, rfl, ho1, hb1⟩
  have hb2 := below_from (below_new (Below.refl _ _) _) hb1
  clear hb1 hrn hr
  generalize (T.mk h ks).all = l at *
  obtain ⟨A1, c1, rfl, hc1, hr1⟩ := ho1.row
  clear ho1
  generalize (fun b => (ok b ∧ b < w.heap.size) ∨ (Value.slice A1 l.length c1).ownBlock = some b) = ok1 at hr1
  go_wp2_with fail
  go_loopw [4, 5, 10] (fun _ _ i wr => ∃ (k : Nat), k ≤ l.length ∧ i = .int .i64 k ∧ (∀ (j : Nat) (t : Re), j < k → l[j]? = some t → okNode t.head t.kids.length = true) ∧ Below w1.heap.size w1 wr) (fun _ _ i _ => l.length - (intOf i).toNat)
  case atStart => exact ⟨0, Nat.zero_le _, rfl, fun j t hj => absurd hj (by omega), Below.refl _ _⟩
  case round =>
    obtain ⟨k, hk, rfl, hn, hb⟩ := hrel
    have HN := Lib.hid hn
    clear hn
    by_cases hlt : k < l.length
    · obtain ⟨t, ad, h1, ls, A2, c2, hA, hx, rfl, hc2, hr2, q0, q1, q2, q3, q4, q5⟩ := re_at (hr1.below hb) hlt
      subst hA
      have HX := Lib.hid hx
      have hls : ls.length ≤ 1000000000 := by
        have h1 := HS.out _ (List.mem_of_getElem? hx)
        have h2 := T.length_le_sizes ls
        simp only [T.size] at h1; omega
      clear hx hr1 hr2
      have hq := run_eql_zero h1.s
      have HO : Hid (okNode h1 ls.length = if h1.k.toNat = 1 ∨ h1.k.toNat = 2 then decide (ls.length = 0) && decide (h1.s = S4.zero)
        else if h1.k.toNat = 3 then decide (ls.length = 0) && !decide (h1.s = S4.zero)
        else if h1.k.toNat = 4 ∨ h1.k.toNat = 5 then decide (ls.length = 2) && decide (h1.s = S4.zero)
        else if h1.k.toNat = 6 then decide (ls.length = 1) && decide (h1.s = S4.zero) else false) := rfl
      have hkb := h1.k.toNat_lt
      have z0 : ∀ o, (wr.alloc o).cell? (ad.add (k * 6)) = _ := fun o => (World.cell?_alloc_lt wr o _ (World.block_lt_of_cell? _ _ q0)).trans q0
      have z5 : ∀ o, (wr.alloc o).cell? ⟨(ad.add (k * 6)).block, (ad.add (k * 6)).off + 5, none⟩ = _ := fun o => (World.cell?_alloc_lt wr o _ (World.block_lt_of_cell? _ _ q5)).trans q5
      generalize hz1 : decide (h1.s = S4.zero) = bz at *
      have hyes : okNode h1 ls.length = true → ∀ (j : Nat) (t : Re), j < k + 1 → l[j]? = some t → okNode t.head t.kids.length = true := by
        intro hy j t hj ht
        rcases Nat.lt_or_ge j k with h | h
        · exact HN.out j t h ht
        · have : j = k := by omega
          subst this
          have := HX.out.symm.trans ht
          simp only [Option.some.injEq] at this
          subst this
          exact hy
      have hno : okNode h1 ls.length = false → mayB (T.mk h ks) = false := by
        intro hy
        rw [HM.out, all_no HX.out hy, Bool.false_and]
      have HY := Lib.hid hyes
      have HNo := Lib.hid hno
      clear hyes hno
      have hcase : h1.k.toNat = 1 ∨ h1.k.toNat = 2 ∨ h1.k.toNat = 3 ∨ h1.k.toNat = 4 ∨ h1.k.toNat = 5 ∨ h1.k.toNat = 6 ∨ h1.k.toNat = 0 ∨ 6 < h1.k.toNat := by omega
      generalize h1.k.toNat = kk at *
      generalize ls.length = m at *
      rcases hcase with rfl | rfl | rfl | rfl | rfl | rfl | rfl | h6
      · cases bz with
        | false =>
          go_wp2_with fail
          go_ret
          exact ⟨by rw [HNo.out (by rw [HO.out]; simp)]; rfl, below_from hb2 hb⟩
        | true =>
          go_wp2_with fail
          by_cases hm0 : m = 0
          · subst hm0
            go_region
            go_wp2_with fail
            go_roundw
            case rel => exact ⟨k + 1, by omega, by go_num, HY.out (by rw [HO.out]; simp), pw_drew (below_new hb _)⟩
            case measure => simp [intOf]; omega
          · have t1 : ((m : Int) == 0) = false := by simp; omega
            have t2 : ((m : Int) != 0) = true := by simp; omega
            have t3 : decide ((m : Int) = 0) = false := by simp; omega
            go_region
            go_wp2_with fail
            go_ret
            exact ⟨by rw [HNo.out (by rw [HO.out]; simp [hm0])]; rfl, below_from hb2 (pw_drew (below_new hb _))⟩
      · cases bz with
        | false =>
          go_wp2_with fail
          go_ret
          exact ⟨by rw [HNo.out (by rw [HO.out]; simp)]; rfl, below_from hb2 hb⟩
        | true =>
          go_wp2_with fail
          by_cases hm0 : m = 0
          · subst hm0
            go_region
            go_wp2_with fail
            go_roundw
            case rel => exact ⟨k + 1, by omega, by go_num, HY.out (by rw [HO.out]; simp), pw_drew (below_new hb _)⟩
            case measure => simp [intOf]; omega
          · have t1 : ((m : Int) == 0) = false := by simp; omega
            have t2 : ((m : Int) != 0) = true := by simp; omega
            have t3 : decide ((m : Int) = 0) = false := by simp; omega
            go_region
            go_wp2_with fail
            go_ret
            exact ⟨by rw [HNo.out (by rw [HO.out]; simp [hm0])]; rfl, below_from hb2 (pw_drew (below_new hb _))⟩
      · cases bz with
        | true =>
          go_wp2_with fail
          go_ret
          exact ⟨by rw [HNo.out (by rw [HO.out]; simp)]; rfl, below_from hb2 hb⟩
        | false =>
          go_wp2_with fail
          by_cases hm0 : m = 0
          · subst hm0
            go_region
            go_wp2_with fail
            go_roundw
            case rel => exact ⟨k + 1, by omega, by go_num, HY.out (by rw [HO.out]; simp), pw_drew (below_new hb _)⟩
            case measure => simp [intOf]; omega
          · have t1 : ((m : Int) == 0) = false := by simp; omega
            have t2 : ((m : Int) != 0) = true := by simp; omega
            have t3 : decide ((m : Int) = 0) = false := by simp; omega
            go_region
            go_wp2_with fail
            go_ret
            exact ⟨by rw [HNo.out (by rw [HO.out]; simp [hm0])]; rfl, below_from hb2 (pw_drew (below_new hb _))⟩
      · cases bz with
        | false =>
          go_wp2_with fail
          go_ret
          exact ⟨by rw [HNo.out (by rw [HO.out]; simp)]; rfl, below_from hb2 hb⟩
        | true =>
          go_wp2_with fail
          by_cases hm0 : m = 2
          · subst hm0
            go_region
            go_wp2_with fail
            go_roundw
            case rel => exact ⟨k + 1, by omega, by go_num, HY.out (by rw [HO.out]; simp), pw_drew (below_new hb _)⟩
            case measure => simp [intOf]; omega
          · have t1 : ((m : Int) == 2) = false := by simp; omega
            have t2 : ((m : Int) != 2) = true := by simp; omega
            have t3 : decide ((m : Int) = 2) = false := by simp; omega
            go_region
            go_wp2_with fail
            go_ret
            exact ⟨by rw [HNo.out (by rw [HO.out]; simp [hm0])]; rfl, below_from hb2 (pw_drew (below_new hb _))⟩
      · cases bz with
        | false =>
          go_wp2_with fail
          go_ret
          exact ⟨by rw [HNo.out (by rw [HO.out]; simp)]; rfl, below_from hb2 hb⟩
        | true =>
          go_wp2_with fail
          by_cases hm0 : m = 2
          · subst hm0
            go_region
            go_wp2_with fail
            go_roundw
            case rel => exact ⟨k + 1, by omega, by go_num, HY.out (by rw [HO.out]; simp), pw_drew (below_new hb _)⟩
            case measure => simp [intOf]; omega
          · have t1 : ((m : Int) == 2) = false := by simp; omega
            have t2 : ((m : Int) != 2) = true := by simp; omega
            have t3 : decide ((m : Int) = 2) = false := by simp; omega
            go_region
            go_wp2_with fail
            go_ret
            exact ⟨by rw [HNo.out (by rw [HO.out]; simp [hm0])]; rfl, below_from hb2 (pw_drew (below_new hb _))⟩
      · cases bz with
        | false =>
          go_wp2_with fail
          go_ret
          exact ⟨by rw [HNo.out (by rw [HO.out]; simp)]; rfl, below_from hb2 hb⟩
        | true =>
          go_wp2_with fail
          by_cases hm0 : m = 1
          · subst hm0
            go_region
            go_wp2_with fail
            go_roundw
            case rel => exact ⟨k + 1, by omega, by go_num, HY.out (by rw [HO.out]; simp), pw_drew (below_new hb _)⟩
            case measure => simp [intOf]; omega
          · have t1 : ((m : Int) == 1) = false := by simp; omega
            have t2 : ((m : Int) != 1) = true := by simp; omega
            have t3 : decide ((m : Int) = 1) = false := by simp; omega
            go_region
            go_wp2_with fail
            go_ret
            exact ⟨by rw [HNo.out (by rw [HO.out]; simp [hm0])]; rfl, below_from hb2 (pw_drew (below_new hb _))⟩
      · go_wp2_with fail
        go_ret
        exact ⟨by rw [HNo.out (by rw [HO.out]; simp)]; rfl, below_from hb2 hb⟩
      · have g1 : decide ((kk : Int) < 1) = false := by simp; omega
        have g2 : decide ((kk : Int) > 6) = true := by simp; omega
        have g3 : decide (6 < (kk : Int)) = true := by simp; omega
        go_wp2_with fail
        go_ret
        exact ⟨by rw [HNo.out (by rw [HO.out, if_neg (by omega), if_neg (by omega), if_neg (by omega), if_neg (by omega)])]; rfl, below_from hb2 hb⟩
    · have he : k = l.length := by omega
      subst he
      have HA : Hid (l.all (fun x => okNode x.head x.kids.length) = true) := all_yes HN.out
      have g1 : decide ((l.length : Int) < (l.length : Int)) = false := by simp
      go_wp2_with fail
      go_ret
      exact ⟨by rw [HM.out, HA.out, Bool.true_and]; simp; omega, below_from hb2 hb⟩
end Go.Proofs.YteoghoaggpbkpaaDoor
