/- Whether two expressions are the same. -/
import Derived.Test.YthagcmpehpgmpaaSame1
namespace Go.Proofs.Ythagcmpehpgmpaa
open Go.RowKit
set_option linter.unusedVariables false
set_option linter.unusedSimpArgs false

set_option maxHeartbeats 16000000 in
theorem equalFunc_any {ok : Nat → Prop} (ks ks2 : List Re) (A A2 : Option Addr) (c c2 : Nat) (w : World) (hl : ks.length ≤ 1000000000) (hl2 : ks2.length ≤ 1000000000) (hr : InRow RE ok w ks A 0) (hr2 : InRow RE ok w ks2 A2 0)
    (hcall : ∀ (h h2 : RH) (ls ls2 : List Re) (A A2 : Option Addr) (c c2 : Nat) (w1 : World), T.mk h ls ∈ ks → T.mk h2 ls2 ∈ ks2 → InRow RE ok w1 ls A 0 → InRow RE ok w1 ls2 A2 0 →
      Calls Try.prog 34 #[reV h A ls.length c, reV h2 A2 ls2.length c2] w1 fun e w' => e = .returned (.bool (sameT (.mk h ls) (.mk h2 ls2))) ∧ Below w1.heap.size w1 w') :
    Calls Try.prog 51 #[.slice A ks.length c, .slice A2 ks2.length c2, .func (.func 34) #[] #[]] w fun e w' => e = .returned (.bool (sames ks ks2)) ∧ Below w.heap.size w w' := by
  have HC := Lib.hid hcall
  clear hcall
  by_cases hlen : ks.length = ks2.length
  · have t2 : ((ks.length : Int) != (ks2.length : Int)) = false := by simp; omega
    have HL := Lib.hid hlen
    clear hlen
    go_enter Try.func51, Try.ntmps51
    go_wp2_with fail
    go_loopw [7, 17] (fun _ i wr => ∃ (k : Nat), k ≤ ks.length ∧ i = .int .i64 k ∧ Hid (∀ (j : Nat) (x y : Re), j < k → ks[j]? = some x → ks2[j]? = some y → sameT x y = true) ∧ Below w.heap.size w wr) (fun _ i _ => ks.length - (intOf i).toNat)
    case atStart => exact ⟨0, Nat.zero_le _, rfl, fun j x y hj => absurd hj (by omega), Below.refl _ _⟩
    case round =>
      obtain ⟨k, hk, rfl, HN, hb⟩ := hrel
      by_cases hlt : k < ks.length
      · have hlt2 : k < ks2.length := by have := HL.out; omega
        obtain ⟨t, ad, h3, ls, A3, c3, hA, hx, rfl, hc3, hr3, q0, q1, q2, q3, q4, q5⟩ := re_at (hr.below hb) hlt
        obtain ⟨t', ad', h4, ls4, A4, c4, hA', hx', rfl, hc4, hr4, p0, p1, p2, p3, p4, p5⟩ := re_at (hr2.below hb) hlt2
        subst hA hA'
        have hm1 := Lib.hid (List.mem_of_getElem? hx)
        have hm2 := Lib.hid (List.mem_of_getElem? hx')
        have HNo : Hid (sameT (.mk h3 ls) (.mk h4 ls4) = false → sames ks ks2 = false) := fun e => sames_no hx hx' e
        have HYes : Hid (sameT (.mk h3 ls) (.mk h4 ls4) = true → ∀ (j : Nat) (x y : Re), j < k + 1 → ks[j]? = some x → ks2[j]? = some y → sameT x y = true) := by
          intro e j x y hj ex ey
          rcases Nat.lt_or_ge j k with hjk | hjk
          · exact HN.out j x y hjk ex ey
          · have : j = k := by omega
            subst this
            rw [hx] at ex
            rw [hx'] at ey
            cases ex; cases ey
            exact e
        clear hx hx'
        have z0 := fun o => keep_cell (below_new (Below.refl _ wr) o) p0
        have z1 := fun o => keep_cell (below_new (Below.refl _ wr) o) p1
        have z2 := fun o => keep_cell (below_new (Below.refl _ wr) o) p2
        have z3 := fun o => keep_cell (below_new (Below.refl _ wr) o) p3
        have z4 := fun o => keep_cell (below_new (Below.refl _ wr) o) p4
        have z5 := fun o => keep_cell (below_new (Below.refl _ wr) o) p5
        have hb' := fun o1 o2 => below_new (below_new (Below.refl _ wr) o1) o2
        go_wp2_with fail
        refine (HC.out h3 h4 ls ls4 A3 A4 c3 c4 _ hm1.out hm2.out (hr3.below (hb' _ _)) (hr4.below (hb' _ _))).mono ?_
        rintro e w1 ⟨rfl, hb1⟩
        have hb2 : Below w.heap.size w w1 := below_from (below_from hb (hb' _ _)) hb1
        clear hb1 hr3 hr4 q0 q1 q2 q3 q4 q5 p0 p1 p2 p3 p4 p5 hb z0 z1 z2 z3 z4 z5 hb'
        generalize sameT (.mk h3 ls) (.mk h4 ls4) = b at *
        cases b with
        | false =>
          go_wp2_with fail
          go_ret
          exact ⟨by rw [HNo.out trivial]; rfl, hb2⟩
        | true =>
          go_wp2_with fail
          go_roundw
          case rel => exact ⟨k + 1, by omega, by go_num, HYes.out trivial, hb2⟩
          case measure => simp [intOf]; omega
      · have hkk : k = ks.length := by omega
        have HY : Hid (sames ks ks2 = true) := sames_yes HL.out (fun j x y hj => HN.out j x y (by omega))
        subst hkk
        have g : decide ((ks.length : Int) < (ks.length : Int)) = false := by simp
        clear hlt hk
        go_wp2_with fail
        go_ret
        exact ⟨by rw [HY.out]; rfl, hb⟩
  · have t2 : ((ks.length : Int) != (ks2.length : Int)) = true := by simp; omega
    have HF := Lib.hid (sames_len hlen)
    go_enter Try.func51, Try.ntmps51
    go_wp2_with fail
    go_ret
    exact ⟨by rw [HF.out]; rfl, Below.refl _ _⟩

set_option maxHeartbeats 16000000 in
theorem rexSame_upto (n : Nat) : ∀ (ok : Nat → Prop) (h h2 : RH) (ks ks2 : List Re) (A A2 : Option Addr) (c c2 : Nat) (w : World), 1 + T.sizes ks ≤ n → n ≤ 1000000000 → T.sizes ks2 ≤ 1000000000 → InRow RE ok w ks A 0 → InRow RE ok w ks2 A2 0 →
    Calls Try.prog 34 #[reV h A ks.length c, reV h2 A2 ks2.length c2] w fun e w' => e = .returned (.bool (sameT (.mk h ks) (.mk h2 ks2))) ∧ Below w.heap.size w w' := by
  induction n with
  | zero => intro ok h h2 ks ks2 A A2 c c2 w h0; omega
  | succ n ih =>
    intro ok h h2 ks ks2 A A2 c c2 w hn hm hm2 hr hr2
    have hl := T.length_le_sizes ks
    have hl2 := T.length_le_sizes ks2
    have hcall : ∀ (h h2 : RH) (ls ls2 : List Re) (A A2 : Option Addr) (c c2 : Nat) (w1 : World), T.mk h ls ∈ ks → T.mk h2 ls2 ∈ ks2 → InRow RE ok w1 ls A 0 → InRow RE ok w1 ls2 A2 0 →
      Calls Try.prog 34 #[reV h A ls.length c, reV h2 A2 ls2.length c2] w1 fun e w' => e = .returned (.bool (sameT (.mk h ls) (.mk h2 ls2))) ∧ Below w1.heap.size w1 w' := by
      intro h h2 ls ls2 A A2 c c2 w1 hx hy hr hr2
      have h1 := T.sizes_mem hx
      have h3 := T.sizes_mem hy
      simp only [T.size] at h1 h3
      exact ih ok h h2 ls ls2 A A2 c c2 w1 (by omega) (by omega) (by omega) hr hr2
    have HC := Lib.hid hcall
    clear hcall ih
    have HE : Hid (sameT (.mk h ks) (.mk h2 ks2) = (decide (h.k = h2.k) && decide (h.s = h2.s) && sames ks ks2)) := by unfold Hid; simp only [sameT]
    have hq := run_eql_set h.s h2.s
    have hkn : decide (h.k = h2.k) = decide (h.k.toNat = h2.k.toNat) := by
      rw [Bool.eq_iff_iff]; simp [UInt8.toNat_inj]
    rw [hkn] at HE
    clear hkn
    generalize decide (h.s = h2.s) = bs at *
    have hbW := fun o1 o2 => below_new (below_new (Below.refl _ w) o1) o2
    by_cases hk : h.k.toNat = h2.k.toNat
    · have t1 : ((h.k.toNat : Int) == (h2.k.toNat : Int)) = true := by simp; omega
      have HK : Hid (decide (h.k.toNat = h2.k.toNat) = true) := by unfold Hid; simp [hk]
      clear hk
      cases bs with
      | false =>
        go_enter Try.func34, Try.ntmps34
        go_wp2_with fail
        go_ret
        exact ⟨by rw [HE.out]; simp, hbW _ _⟩
      | true =>
        go_enter Try.func34, Try.ntmps34
        go_wp2_with fail
        refine (equalFunc_any ks ks2 A A2 c c2 _ (by omega) (by omega) (hr.below (hbW _ _)) (hr2.below (hbW _ _)) HC.out).mono ?_
        rintro e w1 ⟨rfl, hb1⟩
        have hb2 := below_from (hbW _ _) hb1
        clear hb1
        go_wp2_with fail
        go_ret
        exact ⟨by rw [HE.out, HK.out]; simp, hb2⟩
    · have t1 : ((h.k.toNat : Int) == (h2.k.toNat : Int)) = false := by simp; omega
      go_enter Try.func34, Try.ntmps34
      go_wp2_with fail
      go_ret
      exact ⟨by rw [HE.out]; simp [hk], hbW _ _⟩
end Go.Proofs.Ythagcmpehpgmpaa
