/- Whether two values are the same. -/
import Derived.Test.YteokbmngebckjaaBv
import Derived.Test.YteokbmngebckjaaBx
namespace Go.Proofs.Yteokbmngebckjaa
open Go.RowKit
set_option linter.unusedVariables false
set_option linter.unusedSimpArgs false

set_option maxHeartbeats 16000000 in
theorem equalFuncV_any {ok : Nat → Prop} (ks ks2 : List Va) (A A2 : Option Addr) (c c2 : Nat) (w : World) (hl : ks.length ≤ 1000000000) (hl2 : ks2.length ≤ 1000000000) (hr : InRow VE ok w ks A 0) (hr2 : InRow VE ok w ks2 A2 0)
    (hcall : ∀ (h h2 : VH) (ls ls2 : List Va) (A A2 : Option Addr) (c c2 : Nat) (w1 : World), T.mk h ls ∈ ks → T.mk h2 ls2 ∈ ks2 → InRow VE ok w1 ls A 0 → InRow VE ok w1 ls2 A2 0 →
      Calls Try.prog 21 #[vaV h A ls.length c, vaV h2 A2 ls2.length c2] w1 fun e w' => e = .returned (.bool (sameV (.mk h ls) (.mk h2 ls2))) ∧ Below w1.heap.size w1 w') :
    Calls Try.prog 41 #[.slice A ks.length c, .slice A2 ks2.length c2, .func (.func 21) #[] #[]] w fun e w' => e = .returned (.bool (samesV ks ks2)) ∧ Below w.heap.size w w' := by
  have HC := Lib.hid hcall
  clear hcall
  by_cases hlen : ks.length = ks2.length
  · have t2 : ((ks.length : Int) != (ks2.length : Int)) = false := by simp; omega
    have HL := Lib.hid hlen
    clear hlen
    go_enter Try.func41, Try.ntmps41
    go_wp2_with fail
    go_loopw [7, 17] (fun _ i wr => ∃ (k : Nat), k ≤ ks.length ∧ i = .int .i64 k ∧ Hid (∀ (j : Nat) (x y : Va), j < k → ks[j]? = some x → ks2[j]? = some y → sameV x y = true) ∧ Below w.heap.size w wr) (fun _ i _ => ks.length - (intOf i).toNat)
    case atStart => exact ⟨0, Nat.zero_le _, rfl, fun j x y hj => absurd hj (by omega), Below.refl _ _⟩
    case round =>
      obtain ⟨k, hk, rfl, HN, hb⟩ := hrel
      by_cases hlt : k < ks.length
      · have hlt2 : k < ks2.length := by have := HL.out; omega
        obtain ⟨t, ad, h3, ls, A3, c3, hA, hx, rfl, hc3, hr3, q0, q1, q2⟩ := va_at (hr.below hb) hlt
        obtain ⟨t', ad', h4, ls4, A4, c4, hA', hx', rfl, hc4, hr4, p0, p1, p2⟩ := va_at (hr2.below hb) hlt2
        subst hA hA'
        have hm1 := Lib.hid (List.mem_of_getElem? hx)
        have hm2 := Lib.hid (List.mem_of_getElem? hx')
        have HNo : Hid (sameV (.mk h3 ls) (.mk h4 ls4) = false → samesV ks ks2 = false) := fun e => samesV_no hx hx' e
        have HYes : Hid (sameV (.mk h3 ls) (.mk h4 ls4) = true → ∀ (j : Nat) (x y : Va), j < k + 1 → ks[j]? = some x → ks2[j]? = some y → sameV x y = true) := by
          intro e j x y hj ex ey
          rcases Nat.lt_or_ge j k with hjk | hjk
          · exact HN.out j x y hjk ex ey
          · have : j = k := by omega
            subst this
            rw [hx] at ex
            rw [hx'] at ey
            cases ex; cases ey
            exact e
        clear hx hx'
        have z0 := fun o => keep_cell (below_new (Below.refl _ wr) o) p0
        have z1 := fun o => keep_cell (below_new (Below.refl _ wr) o) p1
        have z2 := fun o => keep_cell (below_new (Below.refl _ wr) o) p2
        have hb' := fun o1 o2 => below_new (below_new (Below.refl _ wr) o1) o2
        go_wp2_with fail
        refine (HC.out h3 h4 ls ls4 A3 A4 c3 c4 _ hm1.out hm2.out (hr3.below (hb' _ _)) (hr4.below (hb' _ _))).mono ?_
        rintro e w1 ⟨rfl, hb1⟩
        have hb2 : Below w.heap.size w w1 := below_from (below_from hb (hb' _ _)) hb1
        clear hb1 hr3 hr4 q0 q1 q2 p0 p1 p2 hb z0 z1 z2 hb'
        generalize sameV (.mk h3 ls) (.mk h4 ls4) = b at *
        cases b with
        | false =>
          go_wp2_with fail
          go_ret
          exact ⟨by rw [HNo.out trivial]; rfl, hb2⟩
        | true =>
          go_wp2_with fail
          go_roundw
          case rel => exact ⟨k + 1, by omega, by go_num, HYes.out trivial, hb2⟩
          case measure => simp [intOf]; omega
      · have hkk : k = ks.length := by omega
        have HY : Hid (samesV ks ks2 = true) := samesV_yes HL.out (fun j x y hj => HN.out j x y (by omega))
        subst hkk
        have g : decide ((ks.length : Int) < (ks.length : Int)) = false := by simp
        clear hlt hk
        go_wp2_with fail
        go_ret
        exact ⟨by rw [HY.out]; rfl, hb⟩
  · have t2 : ((ks.length : Int) != (ks2.length : Int)) = true := by simp; omega
    have HF := Lib.hid (samesV_len hlen)
    go_enter Try.func41, Try.ntmps41
    go_wp2_with fail
    go_ret
    exact ⟨by rw [HF.out]; rfl, Below.refl _ _⟩

set_option maxHeartbeats 16000000 in
theorem valSame_upto (n : Nat) : ∀ (ok : Nat → Prop) (h h2 : VH) (ks ks2 : List Va) (A A2 : Option Addr) (c c2 : Nat) (w : World), 1 + T.sizes ks ≤ n → n ≤ 1000000000 → T.sizes ks2 ≤ 1000000000 → InRow VE ok w ks A 0 → InRow VE ok w ks2 A2 0 →
    Calls Try.prog 21 #[vaV h A ks.length c, vaV h2 A2 ks2.length c2] w fun e w' => e = .returned (.bool (sameV (.mk h ks) (.mk h2 ks2))) ∧ Below w.heap.size w w' := by
  induction n with
  | zero => intro ok h h2 ks ks2 A A2 c c2 w h0; omega
  | succ n ih =>
    intro ok h h2 ks ks2 A A2 c c2 w hn hm hm2 hr hr2
    have hl := T.length_le_sizes ks
    have hl2 := T.length_le_sizes ks2
    have hcall : ∀ (h h2 : VH) (ls ls2 : List Va) (A A2 : Option Addr) (c c2 : Nat) (w1 : World), T.mk h ls ∈ ks → T.mk h2 ls2 ∈ ks2 → InRow VE ok w1 ls A 0 → InRow VE ok w1 ls2 A2 0 →
      Calls Try.prog 21 #[vaV h A ls.length c, vaV h2 A2 ls2.length c2] w1 fun e w' => e = .returned (.bool (sameV (.mk h ls) (.mk h2 ls2))) ∧ Below w1.heap.size w1 w' := by
      intro h h2 ls ls2 A A2 c c2 w1 hx hy hr hr2
      have h1 := T.sizes_mem hx
      have h3 := T.sizes_mem hy
      simp only [T.size] at h1 h3
      exact ih ok h h2 ls ls2 A A2 c c2 w1 (by omega) (by omega) (by omega) hr hr2
    have HC := Lib.hid hcall
    clear hcall ih
    have HE : Hid (sameV (.mk h ks) (.mk h2 ks2) = (decide (h.k = h2.k) && decide (h.b = h2.b) && samesV ks ks2)) := by unfold Hid; simp only [sameV]
    have hkn : decide (h.k = h2.k) = decide (h.k.toNat = h2.k.toNat) := by
      rw [Bool.eq_iff_iff]; simp [UInt8.toNat_inj]
    have hbn : decide (h.b = h2.b) = decide (h.b.toNat = h2.b.toNat) := by
      rw [Bool.eq_iff_iff]; simp [UInt8.toNat_inj]
    rw [hkn, hbn] at HE
    clear hkn hbn
    have hbW := fun o1 o2 => below_new (below_new (Below.refl _ w) o1) o2
    by_cases hk : h.k.toNat = h2.k.toNat
    · have t1 : ((h.k.toNat : Int) == (h2.k.toNat : Int)) = true := by simp; omega
      have HK : Hid (decide (h.k.toNat = h2.k.toNat) = true) := by unfold Hid; simp [hk]
      clear hk
      by_cases hb : h.b.toNat = h2.b.toNat
      · have t2 : ((h.b.toNat : Int) == (h2.b.toNat : Int)) = true := by simp; omega
        have HB : Hid (decide (h.b.toNat = h2.b.toNat) = true) := by unfold Hid; simp [hb]
        clear hb
        go_enter Try.func21, Try.ntmps21
        go_wp2_with fail
        refine (equalFuncV_any ks ks2 A A2 c c2 _ (by omega) (by omega) (hr.below (hbW _ _)) (hr2.below (hbW _ _)) HC.out).mono ?_
        rintro e w1 ⟨rfl, hb1⟩
        have hb2 := below_from (hbW _ _) hb1
        clear hb1
        go_wp2_with fail
        go_ret
        exact ⟨by rw [HE.out, HK.out, HB.out]; simp, hb2⟩
      · have t2 : ((h.b.toNat : Int) == (h2.b.toNat : Int)) = false := by simp; omega
        go_enter Try.func21, Try.ntmps21
        go_wp2_with fail
        go_ret
        exact ⟨by rw [HE.out]; simp [hb], hbW _ _⟩
    · have t1 : ((h.k.toNat : Int) == (h2.k.toNat : Int)) = false := by simp; omega
      go_enter Try.func21, Try.ntmps21
      go_wp2_with fail
      go_ret
      exact ⟨by rw [HE.out]; simp [hk], hbW _ _⟩
end Go.Proofs.Yteokbmngebckjaa
