/- Whether two coded expressions are the same, as the document has it. Whether two coded expressions are the same. -/
import Derived.Test.YteoghoaggpbkpaaDoorCodAm
import Derived.Test.YteoghoaggpbkpaaDoorSame1
import Derived.StillTailTactics
namespace Go.Proofs.YteoghoaggpbkpaaDoor
open Go.RowKit
set_option linter.unusedVariables false
set_option linter.unusedSimpArgs false

mutual
theorem sameC_eq : ∀ a b : Co, sameC a b = true ↔ a = b
  | .mk h ks, .mk h2 ks2 => by
    simp only [sameC, Bool.and_eq_true, decide_eq_true_eq, samesC_eq ks ks2]
    constructor
    · rintro ⟨⟨⟨e1, e3⟩, e2⟩, rfl⟩
      cases h; cases h2
      simp only [beq_iff_eq] at e1 e2 e3
      subst e1 e2 e3
      rfl
    · intro e
      cases e
      exact ⟨⟨⟨rfl, beq_self_eq_true _⟩, rfl⟩, rfl⟩
theorem samesC_eq : ∀ xs ys : List Co, samesC xs ys = true ↔ xs = ys
  | [], [] => by simp [samesC]
  | [], y :: ys => by simp [samesC]
  | x :: xs, [] => by simp [samesC]
  | x :: xs, y :: ys => by simp only [samesC, Bool.and_eq_true, sameC_eq x y, samesC_eq xs ys, List.cons.injEq]
end
theorem sameC_refl (a : Co) : sameC a a = true := (sameC_eq a a).2 rfl
theorem sameC_comm (a b : Co) : sameC a b = sameC b a := by
  rw [Bool.eq_iff_iff, sameC_eq, sameC_eq]
  exact eq_comm
theorem samesC_len {xs ys : List Co} (h : xs.length ≠ ys.length) : samesC xs ys = false := by
  cases hs : samesC xs ys with
  | false => rfl
  | true => rw [samesC_eq] at hs; subst hs; exact absurd rfl h
theorem samesC_no {xs ys : List Co} {k : Nat} {x y : Co} (hx : xs[k]? = some x) (hy : ys[k]? = some y) (h : sameC x y = false) : samesC xs ys = false := by
  cases hs : samesC xs ys with
  | false => rfl
  | true =>
    rw [samesC_eq] at hs
    subst hs
    rw [hx] at hy
    cases hy
    rw [sameC_refl] at h
    cases h
theorem samesC_yes {xs ys : List Co} (hl : xs.length = ys.length) (h : ∀ (k : Nat) (x y : Co), k < xs.length → xs[k]? = some x → ys[k]? = some y → sameC x y = true) : samesC xs ys = true := by
  rw [samesC_eq]
  apply List.ext_getElem hl
  intro i h1 h2
  exact (sameC_eq _ _).1 (h i xs[i] ys[i] h1 (by simp [h1]) (by simp [h2]))

set_option maxRecDepth 100000 in
set_option maxHeartbeats 16000000 in
theorem refSameC_upto (n : Nat) : ∀ (ok : Nat → Prop) (h h2 : CH) (ks ks2 : List Co) (A A2 : Option Addr) (c c2 : Nat) (w : World), 1 + T.sizes ks ≤ n → n ≤ 1000000000 → T.sizes ks2 ≤ 1000000000 → InRow CE ok w ks A 0 → InRow CE ok w ks2 A2 0 →
    Calls Tryd.prog 16 #[coV h A ks.length c, coV h2 A2 ks2.length c2] w fun e w' => e = .returned (.bool (sameC (.mk h ks) (.mk h2 ks2))) ∧ Below w.heap.size w w' := by
  induction n with
  | zero => intro ok h h2 ks ks2 A A2 c c2 w h0; omega
  | succ n ih =>
    intro ok h h2 ks ks2 A A2 c c2 w hn hm hm2 hr hr2
    have hl := T.length_le_sizes ks
    have hl2 := T.length_le_sizes ks2
    have IH := Lib.hid ih
    clear ih
    have hsz : ∀ t ∈ ks, t.size ≤ n := fun t ht => by have := T.sizes_mem ht; omega
    have hsz2 : ∀ t ∈ ks2, t.size ≤ 1000000000 := fun t ht => by have := T.sizes_mem ht; omega
    have HS := Lib.hid hsz
    have HS2 := Lib.hid hsz2
    clear hsz hsz2
    have HE : Hid (sameC (.mk h ks) (.mk h2 ks2) = (decide (h.k = h2.k) && (h.b == h2.b) && decide (h.s = h2.s) && samesC ks ks2)) := by unfold Hid; simp only [sameC]
    have hq := run_neq_set h.s h2.s
    have hkn : decide (h.k = h2.k) = decide (h.k.toNat = h2.k.toNat) := by
      rw [Bool.eq_iff_iff]; simp [UInt8.toNat_inj]
    rw [hkn] at HE
    clear hkn
    generalize decide (h.s = h2.s) = bs at *
    have hbW : Below w.heap.size w ((w.alloc (.cells #[.int .u8 (h.k.toNat : Int), .string (str h.b), .int .u64 (h.s.a.toNat : Int), .int .u64 (h.s.b.toNat : Int), .int .u64 (h.s.c.toNat : Int), .int .u64 (h.s.d.toNat : Int), .slice A ks.length c] 29)).alloc (.cells #[.int .u8 (h2.k.toNat : Int), .string (str h2.b), .int .u64 (h2.s.a.toNat : Int), .int .u64 (h2.s.b.toNat : Int), .int .u64 (h2.s.c.toNat : Int), .int .u64 (h2.s.d.toNat : Int), .slice A2 ks2.length c2] 29)) := below_new (below_new (Below.refl _ _) _) _
    obtain ⟨e1, e2⟩ := two_new (w := w) (.cells #[.int .u8 (h.k.toNat : Int), .string (str h.b), .int .u64 (h.s.a.toNat : Int), .int .u64 (h.s.b.toNat : Int), .int .u64 (h.s.c.toNat : Int), .int .u64 (h.s.d.toNat : Int), .slice A ks.length c] 29) (.cells #[.int .u8 (h2.k.toNat : Int), .string (str h2.b), .int .u64 (h2.s.a.toNat : Int), .int .u64 (h2.s.b.toNat : Int), .int .u64 (h2.s.c.toNat : Int), .int .u64 (h2.s.d.toNat : Int), .slice A2 ks2.length c2] 29)
    obtain ⟨x0, x1, x2, x3, x4, x5, x6⟩ := co_at_box e1
    obtain ⟨y0, y1, y2, y3, y4, y5, y6⟩ := co_at_box e2
    clear x0 x1 x2 x3 x4 x5 y0 y1 y2 y3 y4 y5 e1 e2
    have hrW := hr.below hbW
    have hrW2 := hr2.below hbW
    have X5 := Lib.hid x6
    have Y5 := Lib.hid y6
    clear x6 y6 hr hr2
    by_cases hk : h.k.toNat = h2.k.toNat
    · have t1 : ((h.k.toNat : Int) != (h2.k.toNat : Int)) = false := by simp; omega
      have HK : Hid (decide (h.k.toNat = h2.k.toNat) = true) := by unfold Hid; simp [hk]
      clear hk
      rcases hbb : (h.b == h2.b) with _ | _
      · rw [hbb] at HE
        go_enter Tryd.func16, Tryd.ntmps16
        go_wp2_with fail
        go_ret
        exact ⟨by rw [HE.out]; simp, hbW⟩
      · rw [hbb] at HE
        cases bs with
        | false =>
          go_enter Tryd.func16, Tryd.ntmps16
          go_wp2_with fail
          go_ret
          exact ⟨by rw [HE.out]; simp, hbW⟩
        | true =>
          by_cases hlen : ks.length = ks2.length
          · have t2 : ((ks.length : Int) != (ks2.length : Int)) = false := by simp; omega
            have HL := Lib.hid hlen
            clear hlen
            go_enter Tryd.func16, Tryd.ntmps16
            go_wp2_with fail
            generalize hWW : (w.alloc (.cells #[.int .u8 (h.k.toNat : Int), .string (str h.b), .int .u64 (h.s.a.toNat : Int), .int .u64 (h.s.b.toNat : Int), .int .u64 (h.s.c.toNat : Int), .int .u64 (h.s.d.toNat : Int), .slice A ks.length c] 29)).alloc (.cells #[.int .u8 (h2.k.toNat : Int), .string (str h2.b), .int .u64 (h2.s.a.toNat : Int), .int .u64 (h2.s.b.toNat : Int), .int .u64 (h2.s.c.toNat : Int), .int .u64 (h2.s.d.toNat : Int), .slice A2 ks2.length c2] 29) = W at *
            clear hWW
            go_loopw [5, 37] (fun _ i wr => ∃ (k : Nat), k ≤ ks.length ∧ i = .int .i64 k ∧ Hid (∀ (j : Nat) (x y : Co), j < k → ks[j]? = some x → ks2[j]? = some y → sameC x y = true) ∧ Below W.heap.size W wr) (fun _ i _ => ks.length - (intOf i).toNat)
            case atStart => exact ⟨0, Nat.zero_le _, rfl, fun j x y hj => absurd hj (by omega), Below.refl _ _⟩
            case round =>
              obtain ⟨k, hk, rfl, HN, hb⟩ := hrel
              have z5 := keep_cell hb X5.out
              have u5 := keep_cell hb Y5.out
              by_cases hlt : k < ks.length
              · have hlt2 : k < ks2.length := by have := HL.out; omega
                obtain ⟨t, ad, h3, ls, A3, c3, hA, hx, rfl, hc3, hr3, q0, q1, q2, q3, q4, q5, q6⟩ := co_at (hrW.below hb) hlt
                obtain ⟨t', ad', h4, ls4, A4, c4, hA', hx', rfl, hc4, hr4, p0, p1, p2, p3, p4, p5, p6⟩ := co_at (hrW2.below hb) hlt2
                subst hA hA'
                have hs1 := HS.out _ (List.mem_of_getElem? hx)
                have hs2 := HS2.out _ (List.mem_of_getElem? hx')
                simp only [T.size] at hs1 hs2
                have HNo : Hid (sameC (.mk h3 ls) (.mk h4 ls4) = false → samesC ks ks2 = false) := fun e => samesC_no hx hx' e
                have HYes : Hid (sameC (.mk h3 ls) (.mk h4 ls4) = true → ∀ (j : Nat) (x y : Co), j < k + 1 → ks[j]? = some x → ks2[j]? = some y → sameC x y = true) := by
                  intro e j x y hj ex ey
                  rcases Nat.lt_or_ge j k with hjk | hjk
                  · exact HN.out j x y hjk ex ey
                  · have : j = k := by omega
                    subst this
                    rw [hx] at ex
                    rw [hx'] at ey
                    cases ex; cases ey
                    exact e
                clear hx hx'
                go_wp2_with fail
                go_still_tail 10, (by kernel_rfl)
                go_wp2_with fail
                refine (IH.out ok h3 h4 ls ls4 A3 A4 c3 c4 wr.drew hs1 (by omega) (by omega) (hr3.below (Below.refl _ _).drew) (hr4.below (Below.refl _ _).drew)).mono ?_
                rintro e w1 ⟨rfl, hb1⟩
                have hb2 : Below W.heap.size W w1 := below_from (pw_drewN hb 1) hb1
                clear hb1 hr3 hr4 q0 q1 q2 q3 q4 q5 q6 p0 p1 p2 p3 p4 p5 p6 hb z5 u5
                generalize sameC (.mk h3 ls) (.mk h4 ls4) = b at *
                cases b with
                | false =>
                  go_wp2_with fail
                  go_ret
                  exact ⟨by rw [HE.out, HNo.out trivial]; simp, hbW.trans (hb2.mono hbW.size)⟩
                | true =>
                  go_wp2_with fail
                  go_roundw
                  case rel => exact ⟨k + 1, by omega, by go_num, HYes.out trivial, hb2⟩
                  case measure => simp [intOf]; omega
              · have hkk : k = ks.length := by omega
                have HY : Hid (samesC ks ks2 = true) := samesC_yes HL.out (fun j x y hj => HN.out j x y (by omega))
                subst hkk
                have g : decide ((ks.length : Int) < (ks.length : Int)) = false := by simp
                clear hlt hk
                go_wp2_with fail
                go_ret
                exact ⟨by rw [HE.out, HY.out, HK.out]; rfl, hbW.trans (hb.mono hbW.size)⟩
          · have t2 : ((ks.length : Int) != (ks2.length : Int)) = true := by simp; omega
            have HF := Lib.hid (samesC_len hlen)
            go_enter Tryd.func16, Tryd.ntmps16
            go_wp2_with fail
            go_ret
            exact ⟨by rw [HE.out, HF.out]; simp, hbW⟩
    · have t1 : ((h.k.toNat : Int) != (h2.k.toNat : Int)) = true := by simp; omega
      go_enter Tryd.func16, Tryd.ntmps16
      go_wp2_with fail
      go_ret
      exact ⟨by rw [HE.out]; simp [hk], hbW⟩
end Go.Proofs.YteoghoaggpbkpaaDoor
namespace Go.Proofs.YteoghoaggpbkpaaDoor
open Go.RowKit
set_option linter.unusedVariables false
set_option linter.unusedSimpArgs false

set_option maxHeartbeats 16000000 in
theorem equalFuncC_any {ok : Nat → Prop} (ks ks2 : List Co) (A A2 : Option Addr) (c c2 : Nat) (w : World) (hl : ks.length ≤ 1000000000) (hl2 : ks2.length ≤ 1000000000) (hr : InRow CE ok w ks A 0) (hr2 : InRow CE ok w ks2 A2 0)
    (hcall : ∀ (h h2 : CH) (ls ls2 : List Co) (A A2 : Option Addr) (c c2 : Nat) (w1 : World), T.mk h ls ∈ ks → T.mk h2 ls2 ∈ ks2 → InRow CE ok w1 ls A 0 → InRow CE ok w1 ls2 A2 0 →
      Calls Tryd.prog 18 #[coV h A ls.length c, coV h2 A2 ls2.length c2] w1 fun e w' => e = .returned (.bool (sameC (.mk h ls) (.mk h2 ls2))) ∧ Below w1.heap.size w1 w') :
    Calls Tryd.prog 37 #[.slice A ks.length c, .slice A2 ks2.length c2, .func (.func 18) #[] #[]] w fun e w' => e = .returned (.bool (samesC ks ks2)) ∧ Below w.heap.size w w' := by
  have HC := Lib.hid hcall
  clear hcall
  by_cases hlen : ks.length = ks2.length
  · have t2 : ((ks.length : Int) != (ks2.length : Int)) = false := by simp; omega
    have HL := Lib.hid hlen
    clear hlen
    go_enter Tryd.func37, Tryd.ntmps37
    go_wp2_with fail
    go_loopw [7, 17] (fun _ i wr => ∃ (k : Nat), k ≤ ks.length ∧ i = .int .i64 k ∧ Hid (∀ (j : Nat) (x y : Co), j < k → ks[j]? = some x → ks2[j]? = some y → sameC x y = true) ∧ Below w.heap.size w wr) (fun _ i _ => ks.length - (intOf i).toNat)
    case atStart => exact ⟨0, Nat.zero_le _, rfl, fun j x y hj => absurd hj (by omega), Below.refl _ _⟩
    case round =>
      obtain ⟨k, hk, rfl, HN, hb⟩ := hrel
      by_cases hlt : k < ks.length
      · have hlt2 : k < ks2.length := by have := HL.out; omega
        obtain ⟨t, ad, h3, ls, A3, c3, hA, hx, rfl, hc3, hr3, q0, q1, q2, q3, q4, q5, q6⟩ := co_at (hr.below hb) hlt
        obtain ⟨t', ad', h4, ls4, A4, c4, hA', hx', rfl, hc4, hr4, p0, p1, p2, p3, p4, p5, p6⟩ := co_at (hr2.below hb) hlt2
        subst hA hA'
        have hm1 := Lib.hid (List.mem_of_getElem? hx)
        have hm2 := Lib.hid (List.mem_of_getElem? hx')
        have HNo : Hid (sameC (.mk h3 ls) (.mk h4 ls4) = false → samesC ks ks2 = false) := fun e => samesC_no hx hx' e
        have HYes : Hid (sameC (.mk h3 ls) (.mk h4 ls4) = true → ∀ (j : Nat) (x y : Co), j < k + 1 → ks[j]? = some x → ks2[j]? = some y → sameC x y = true) := by
          intro e j x y hj ex ey
          rcases Nat.lt_or_ge j k with hjk | hjk
          · exact HN.out j x y hjk ex ey
          · have : j = k := by omega
            subst this
            rw [hx] at ex
            rw [hx'] at ey
            cases ex; cases ey
            exact e
        clear hx hx'
        have z0 := fun o => keep_cell (below_new (Below.refl _ wr) o) p0
        have z1 := fun o => keep_cell (below_new (Below.refl _ wr) o) p1
        have z2 := fun o => keep_cell (below_new (Below.refl _ wr) o) p2
        have z3 := fun o => keep_cell (below_new (Below.refl _ wr) o) p3
        have z4 := fun o => keep_cell (below_new (Below.refl _ wr) o) p4
        have z5 := fun o => keep_cell (below_new (Below.refl _ wr) o) p5
        have z6 := fun o => keep_cell (below_new (Below.refl _ wr) o) p6
        have hb' := fun o1 o2 => below_new (below_new (Below.refl _ wr) o1) o2
        go_wp2_with fail
        refine (HC.out h3 h4 ls ls4 A3 A4 c3 c4 _ hm1.out hm2.out (hr3.below (hb' _ _)) (hr4.below (hb' _ _))).mono ?_
        rintro e w1 ⟨rfl, hb1⟩
        have hb2 : Below w.heap.size w w1 := below_from (below_from hb (hb' _ _)) hb1
        clear hb1 hr3 hr4 q0 q1 q2 q3 q4 q5 q6 p0 p1 p2 p3 p4 p5 p6 hb z0 z1 z2 z3 z4 z5 z6 hb'
        generalize sameC (.mk h3 ls) (.mk h4 ls4) = b at *
        cases b with
        | false =>
          go_wp2_with fail
          go_ret
          exact ⟨by rw [HNo.out trivial]; rfl, hb2⟩
        | true =>
          go_wp2_with fail
          go_roundw
          case rel => exact ⟨k + 1, by omega, by go_num, HYes.out trivial, hb2⟩
          case measure => simp [intOf]; omega
      · have hkk : k = ks.length := by omega
        have HY : Hid (samesC ks ks2 = true) := samesC_yes HL.out (fun j x y hj => HN.out j x y (by omega))
        subst hkk
        have g : decide ((ks.length : Int) < (ks.length : Int)) = false := by simp
        clear hlt hk
        go_wp2_with fail
        go_ret
        exact ⟨by rw [HY.out]; rfl, hb⟩
  · have t2 : ((ks.length : Int) != (ks2.length : Int)) = true := by simp; omega
    have HF := Lib.hid (samesC_len hlen)
    go_enter Tryd.func37, Tryd.ntmps37
    go_wp2_with fail
    go_ret
    exact ⟨by rw [HF.out]; rfl, Below.refl _ _⟩

set_option maxHeartbeats 16000000 in
theorem codSame_upto (n : Nat) : ∀ (ok : Nat → Prop) (h h2 : CH) (ks ks2 : List Co) (A A2 : Option Addr) (c c2 : Nat) (w : World), 1 + T.sizes ks ≤ n → n ≤ 1000000000 → T.sizes ks2 ≤ 1000000000 → InRow CE ok w ks A 0 → InRow CE ok w ks2 A2 0 →
    Calls Tryd.prog 18 #[coV h A ks.length c, coV h2 A2 ks2.length c2] w fun e w' => e = .returned (.bool (sameC (.mk h ks) (.mk h2 ks2))) ∧ Below w.heap.size w w' := by
  induction n with
  | zero => intro ok h h2 ks ks2 A A2 c c2 w h0; omega
  | succ n ih =>
    intro ok h h2 ks ks2 A A2 c c2 w hn hm hm2 hr hr2
    have hl := T.length_le_sizes ks
    have hl2 := T.length_le_sizes ks2
    have hcall : ∀ (h h2 : CH) (ls ls2 : List Co) (A A2 : Option Addr) (c c2 : Nat) (w1 : World), T.mk h ls ∈ ks → T.mk h2 ls2 ∈ ks2 → InRow CE ok w1 ls A 0 → InRow CE ok w1 ls2 A2 0 →
      Calls Tryd.prog 18 #[coV h A ls.length c, coV h2 A2 ls2.length c2] w1 fun e w' => e = .returned (.bool (sameC (.mk h ls) (.mk h2 ls2))) ∧ Below w1.heap.size w1 w' := by
      intro h h2 ls ls2 A A2 c c2 w1 hx hy hr hr2
      have h1 := T.sizes_mem hx
      have h3 := T.sizes_mem hy
      simp only [T.size] at h1 h3
      exact ih ok h h2 ls ls2 A A2 c c2 w1 (by omega) (by omega) (by omega) hr hr2
    have HC := Lib.hid hcall
    clear hcall ih
    have HE : Hid (sameC (.mk h ks) (.mk h2 ks2) = (decide (h.k = h2.k) && (h.b == h2.b) && decide (h.s = h2.s) && samesC ks ks2)) := by unfold Hid; simp only [sameC]
    have hq := run_eql_set h.s h2.s
    have hkn : decide (h.k = h2.k) = decide (h.k.toNat = h2.k.toNat) := by
      rw [Bool.eq_iff_iff]; simp [UInt8.toNat_inj]
    rw [hkn] at HE
    clear hkn
    generalize decide (h.s = h2.s) = bs at *
    have hbW := fun o1 o2 => below_new (below_new (Below.refl _ w) o1) o2
    by_cases hk : h.k.toNat = h2.k.toNat
    · have t1 : ((h.k.toNat : Int) == (h2.k.toNat : Int)) = true := by simp; omega
      have HK : Hid (decide (h.k.toNat = h2.k.toNat) = true) := by unfold Hid; simp [hk]
      clear hk
      rcases hbb : (h.b == h2.b) with _ | _
      · rw [hbb] at HE
        go_enter Tryd.func18, Tryd.ntmps18
        go_wp2_with fail
        go_ret
        exact ⟨by rw [HE.out]; simp, hbW _ _⟩
      · rw [hbb] at HE
        cases bs with
        | false =>
          go_enter Tryd.func18, Tryd.ntmps18
          go_wp2_with fail
          go_ret
          exact ⟨by rw [HE.out]; simp, hbW _ _⟩
        | true =>
          go_enter Tryd.func18, Tryd.ntmps18
          go_wp2_with fail
          refine (equalFuncC_any ks ks2 A A2 c c2 _ (by omega) (by omega) (hr.below (hbW _ _)) (hr2.below (hbW _ _)) HC.out).mono ?_
          rintro e w1 ⟨rfl, hb1⟩
          have hb2 := below_from (hbW _ _) hb1
          clear hb1
          go_wp2_with fail
          go_ret
          exact ⟨by rw [HE.out, HK.out]; simp, hb2⟩
    · have t1 : ((h.k.toNat : Int) == (h2.k.toNat : Int)) = false := by simp; omega
      go_enter Tryd.func18, Tryd.ntmps18
      go_wp2_with fail
      go_ret
      exact ⟨by rw [HE.out]; simp [hk], hbW _ _⟩
end Go.Proofs.YteoghoaggpbkpaaDoor
