/- Whether two expressions are the same, as the document has it. Whether two expressions are the same. Some, two by two; a text's bytes: as the document has it. -/
import Derived.Test.YtbblhhkacdgmiaaBa
import Derived.StillTailTactics
import Derived.Test.YtbblhhkacdgmiaaBd
import Derived.Deep.RegionHeld3
namespace Go.Proofs.Ytbblhhkacdgmiaa
open Go.RowKit
set_option linter.unusedVariables false
set_option linter.unusedSimpArgs false

mutual
def sameT : Re → Re → Bool
  | .mk h ks, .mk h2 ks2 => decide (h.k = h2.k) && decide (h.s = h2.s) && sames ks ks2
def sames : List Re → List Re → Bool
  | [], [] => true
  | x :: xs, y :: ys => sameT x y && sames xs ys
  | _, _ => false
end
mutual
theorem sameT_eq : ∀ a b : Re, sameT a b = true ↔ a = b
  | .mk h ks, .mk h2 ks2 => by
    simp only [sameT, Bool.and_eq_true, decide_eq_true_eq, sames_eq ks ks2]
    constructor
    · rintro ⟨⟨e1, e2⟩, rfl⟩
      cases h; cases h2
      simp only at e1 e2
      subst e1 e2
      rfl
    · intro e
      cases e
      exact ⟨⟨rfl, rfl⟩, rfl⟩
theorem sames_eq : ∀ xs ys : List Re, sames xs ys = true ↔ xs = ys
  | [], [] => by simp [sames]
  | [], y :: ys => by simp [sames]
  | x :: xs, [] => by simp [sames]
  | x :: xs, y :: ys => by simp only [sames, Bool.and_eq_true, sameT_eq x y, sames_eq xs ys, List.cons.injEq]
end
theorem sameT_refl (a : Re) : sameT a a = true := (sameT_eq a a).2 rfl
theorem sameT_comm (a b : Re) : sameT a b = sameT b a := by
  rw [Bool.eq_iff_iff, sameT_eq, sameT_eq]
  exact eq_comm
theorem sames_len {xs ys : List Re} (h : xs.length ≠ ys.length) : sames xs ys = false := by
  cases hs : sames xs ys with
  | false => rfl
  | true => rw [sames_eq] at hs; subst hs; exact absurd rfl h
theorem sames_no {xs ys : List Re} {k : Nat} {x y : Re} (hx : xs[k]? = some x) (hy : ys[k]? = some y) (h : sameT x y = false) : sames xs ys = false := by
  cases hs : sames xs ys with
  | false => rfl
  | true =>
    rw [sames_eq] at hs
    subst hs
    rw [hx] at hy
    cases hy
    rw [sameT_refl] at h
    cases h
theorem sames_yes {xs ys : List Re} (hl : xs.length = ys.length) (h : ∀ (k : Nat) (x y : Re), k < xs.length → xs[k]? = some x → ys[k]? = some y → sameT x y = true) : sames xs ys = true := by
  rw [sames_eq]
  apply List.ext_getElem hl
  intro i h1 h2
  exact (sameT_eq _ _).1 (h i xs[i] ys[i] h1 (by simp [h1]) (by simp [h2]))

theorem re_at_box {w1 : World} {b : Nat} {v0 v1 v2 v3 v4 v5 : Value} {t : TypeId} (h : w1.heap[b]? = some (.cells #[v0, v1, v2, v3, v4, v5] t (0, 0))) :
    w1.cell? ⟨b, 0, none⟩ = some v0 ∧ w1.cell? ⟨b, 1, none⟩ = some v1 ∧ w1.cell? ⟨b, 2, none⟩ = some v2 ∧ w1.cell? ⟨b, 3, none⟩ = some v3 ∧ w1.cell? ⟨b, 4, none⟩ = some v4 ∧ w1.cell? ⟨b, 5, none⟩ = some v5 := by
  refine ⟨?_, ?_, ?_, ?_, ?_, ?_⟩ <;> simp [World.cell?, h]
theorem two_new {w : World} (o1 o2 : Obj) : ((w.alloc o1).alloc o2).heap[w.heap.size]? = some o1 ∧ ((w.alloc o1).alloc o2).heap[w.heap.size + 1]? = some o2 := by
  refine ⟨(Below.heap_alloc _ _ _ (by simp)).trans (heap_alloc_new w o1), ?_⟩
  have := heap_alloc_new (w.alloc o1) o2
  simpa using this

set_option maxRecDepth 100000 in
set_option maxHeartbeats 16000000 in
theorem refSame_upto (n : Nat) : ∀ (ok : Nat → Prop) (h h2 : RH) (ks ks2 : List Re) (A A2 : Option Addr) (c c2 : Nat) (w : World), 1 + T.sizes ks ≤ n → n ≤ 1000000000 → T.sizes ks2 ≤ 1000000000 → InRow RE ok w ks A 0 → InRow RE ok w ks2 A2 0 →
    Calls Try.prog 8 #[reV h A ks.length c, reV h2 A2 ks2.length c2] w fun e w' => e = .returned (.bool (sameT (.mk h ks) (.mk h2 ks2))) ∧ Below w.heap.size w w' := by
  induction n with
  | zero => intro ok h h2 ks ks2 A A2 c c2 w h0; omega
  | succ n ih =>
    intro ok h h2 ks ks2 A A2 c c2 w hn hm hm2 hr hr2
    have hl := T.length_le_sizes ks
    have hl2 := T.length_le_sizes ks2
    have IH := Lib.hid ih
    clear ih
    have hsz : ∀ t ∈ ks, t.size ≤ n := fun t ht => by have := T.sizes_mem ht; omega
    have hsz2 : ∀ t ∈ ks2, t.size ≤ 1000000000 := fun t ht => by have := T.sizes_mem ht; omega
    have HS := Lib.hid hsz
    have HS2 := Lib.hid hsz2
    clear hsz hsz2
    have HE : Hid (sameT (.mk h ks) (.mk h2 ks2) = (decide (h.k = h2.k) && decide (h.s = h2.s) && sames ks ks2)) := by unfold Hid; simp only [sameT]
    have hq := run_neq_set h.s h2.s
    have hkn : decide (h.k = h2.k) = decide (h.k.toNat = h2.k.toNat) := by
      rw [Bool.eq_iff_iff]; simp [UInt8.toNat_inj]
    rw [hkn] at HE
    clear hkn
    generalize decide (h.s = h2.s) = bs at *
    have hbW : Below w.heap.size w ((w.alloc (.cells #[.int .u8 (h.k.toNat : Int), .int .u64 (h.s.a.toNat : Int), .int .u64 (h.s.b.toNat : Int), .int .u64 (h.s.c.toNat : Int), .int .u64 (h.s.d.toNat : Int), .slice A ks.length c] 30)).alloc (.cells #[.int .u8 (h2.k.toNat : Int), .int .u64 (h2.s.a.toNat : Int), .int .u64 (h2.s.b.toNat : Int), .int .u64 (h2.s.c.toNat : Int), .int .u64 (h2.s.d.toNat : Int), .slice A2 ks2.length c2] 30)) := below_new (below_new (Below.refl _ _) _) _
    obtain ⟨e1, e2⟩ := two_new (w := w) (.cells #[.int .u8 (h.k.toNat : Int), .int .u64 (h.s.a.toNat : Int), .int .u64 (h.s.b.toNat : Int), .int .u64 (h.s.c.toNat : Int), .int .u64 (h.s.d.toNat : Int), .slice A ks.length c] 30) (.cells #[.int .u8 (h2.k.toNat : Int), .int .u64 (h2.s.a.toNat : Int), .int .u64 (h2.s.b.toNat : Int), .int .u64 (h2.s.c.toNat : Int), .int .u64 (h2.s.d.toNat : Int), .slice A2 ks2.length c2] 30)
    obtain ⟨x0, x1, x2, x3, x4, x5⟩ := re_at_box e1
    obtain ⟨y0, y1, y2, y3, y4, y5⟩ := re_at_box e2
    clear x0 x1 x2 x3 x4 y0 y1 y2 y3 y4 e1 e2
    have hrW := hr.below hbW
    have hrW2 := hr2.below hbW
    have X5 := Lib.hid x5
    have Y5 := Lib.hid y5
    clear x5 y5 hr hr2
    by_cases hk : h.k.toNat = h2.k.toNat
    · have t1 : ((h.k.toNat : Int) != (h2.k.toNat : Int)) = false := by simp; omega
      have HK : Hid (decide (h.k.toNat = h2.k.toNat) = true) := by unfold Hid; simp [hk]
      clear hk
      cases bs with
      | false =>
        go_enter Try.func8, Try.ntmps8
        go_wp2_with fail
        go_ret
        exact ⟨by rw [HE.out]; simp, hbW⟩
      | true =>
        by_cases hlen : ks.length = ks2.length
        · have t2 : ((ks.length : Int) != (ks2.length : Int)) = false := by simp; omega
          have HL := Lib.hid hlen
          clear hlen
          go_enter Try.func8, Try.ntmps8
          go_wp2_with fail
          generalize hWW : (w.alloc (.cells #[.int .u8 (h.k.toNat : Int), .int .u64 (h.s.a.toNat : Int), .int .u64 (h.s.b.toNat : Int), .int .u64 (h.s.c.toNat : Int), .int .u64 (h.s.d.toNat : Int), .slice A ks.length c] 30)).alloc (.cells #[.int .u8 (h2.k.toNat : Int), .int .u64 (h2.s.a.toNat : Int), .int .u64 (h2.s.b.toNat : Int), .int .u64 (h2.s.c.toNat : Int), .int .u64 (h2.s.d.toNat : Int), .slice A2 ks2.length c2] 30) = W at *
          clear hWW
          go_loopw [5, 30] (fun _ i wr => ∃ (k : Nat), k ≤ ks.length ∧ i = .int .i64 k ∧ Hid (∀ (j : Nat) (x y : Re), j < k → ks[j]? = some x → ks2[j]? = some y → sameT x y = true) ∧ Below W.heap.size W wr) (fun _ i _ => ks.length - (intOf i).toNat)
          case atStart => exact ⟨0, Nat.zero_le _, rfl, fun j x y hj => absurd hj (by omega), Below.refl _ _⟩
          case round =>
            obtain ⟨k, hk, rfl, HN, hb⟩ := hrel
            have z5 := keep_cell hb X5.out
            have u5 := keep_cell hb Y5.out
            by_cases hlt : k < ks.length
            · have hlt2 : k < ks2.length := by have := HL.out; omega
              obtain ⟨t, ad, h3, ls, A3, c3, hA, hx, rfl, hc3, hr3, q0, q1, q2, q3, q4, q5⟩ := re_at (hrW.below hb) hlt
              obtain ⟨t', ad', h4, ls4, A4, c4, hA', hx', rfl, hc4, hr4, p0, p1, p2, p3, p4, p5⟩ := re_at (hrW2.below hb) hlt2
              subst hA hA'
              have hs1 := HS.out _ (List.mem_of_getElem? hx)
              have hs2 := HS2.out _ (List.mem_of_getElem? hx')
              simp only [T.size] at hs1 hs2
              have HNo : Hid (sameT (.mk h3 ls) (.mk h4 ls4) = false → sames ks ks2 = false) := fun e => sames_no hx hx' e
              have HYes : Hid (sameT (.mk h3 ls) (.mk h4 ls4) = true → ∀ (j : Nat) (x y : Re), j < k + 1 → ks[j]? = some x → ks2[j]? = some y → sameT x y = true) := by
                intro e j x y hj ex ey
                rcases Nat.lt_or_ge j k with hjk | hjk
                · exact HN.out j x y hjk ex ey
                · have : j = k := by omega
                  subst this
                  rw [hx] at ex
                  rw [hx'] at ey
                  cases ex; cases ey
                  exact e
              clear hx hx'
              go_wp2_with fail
              go_still_tail 10, (by kernel_rfl)
              go_wp2_with fail
              refine (IH.out ok h3 h4 ls ls4 A3 A4 c3 c4 wr.drew hs1 (by omega) (by omega) (hr3.below (Below.refl _ _).drew) (hr4.below (Below.refl _ _).drew)).mono ?_
              rintro e w1 ⟨rfl, hb1⟩
              have hb2 : Below W.heap.size W w1 := below_from (pw_drewN hb 1) hb1
              clear hb1 hr3 hr4 q0 q1 q2 q3 q4 q5 p0 p1 p2 p3 p4 p5 hb z5 u5
              generalize sameT (.mk h3 ls) (.mk h4 ls4) = b at *
              cases b with
              | false =>
                go_wp2_with fail
                go_ret
                exact ⟨by rw [HE.out, HNo.out trivial]; simp, hbW.trans (hb2.mono hbW.size)⟩
              | true =>
                go_wp2_with fail
                go_roundw
                case rel => exact ⟨k + 1, by omega, by go_num, HYes.out trivial, hb2⟩
                case measure => simp [intOf]; omega
            · have hkk : k = ks.length := by omega
              have HY : Hid (sames ks ks2 = true) := sames_yes HL.out (fun j x y hj => HN.out j x y (by omega))
              subst hkk
              have g : decide ((ks.length : Int) < (ks.length : Int)) = false := by simp
              clear hlt hk
              go_wp2_with fail
              go_ret
              exact ⟨by rw [HE.out, HY.out, HK.out]; rfl, hbW.trans (hb.mono hbW.size)⟩
        · have t2 : ((ks.length : Int) != (ks2.length : Int)) = true := by simp; omega
          have HF := Lib.hid (sames_len hlen)
          go_enter Try.func8, Try.ntmps8
          go_wp2_with fail
          go_ret
          exact ⟨by rw [HE.out, HF.out]; simp, hbW⟩
    · have t1 : ((h.k.toNat : Int) != (h2.k.toNat : Int)) = true := by simp; omega
      go_enter Try.func8, Try.ntmps8
      go_wp2_with fail
      go_ret
      exact ⟨by rw [HE.out]; simp [hk], hbW⟩
end Go.Proofs.Ytbblhhkacdgmiaa
namespace Go.Proofs.Ytbblhhkacdgmiaa
open Go.RowKit
set_option linter.unusedVariables false
set_option linter.unusedSimpArgs false

set_option maxHeartbeats 16000000 in
theorem equalFunc_any {ok : Nat → Prop} (ks ks2 : List Re) (A A2 : Option Addr) (c c2 : Nat) (w : World) (hl : ks.length ≤ 1000000000) (hl2 : ks2.length ≤ 1000000000) (hr : InRow RE ok w ks A 0) (hr2 : InRow RE ok w ks2 A2 0)
    (hcall : ∀ (h h2 : RH) (ls ls2 : List Re) (A A2 : Option Addr) (c c2 : Nat) (w1 : World), T.mk h ls ∈ ks → T.mk h2 ls2 ∈ ks2 → InRow RE ok w1 ls A 0 → InRow RE ok w1 ls2 A2 0 →
      Calls Try.prog 19 #[reV h A ls.length c, reV h2 A2 ls2.length c2] w1 fun e w' => e = .returned (.bool (sameT (.mk h ls) (.mk h2 ls2))) ∧ Below w1.heap.size w1 w') :
    Calls Try.prog 28 #[.slice A ks.length c, .slice A2 ks2.length c2, .func (.func 19) #[] #[]] w fun e w' => e = .returned (.bool (sames ks ks2)) ∧ Below w.heap.size w w' := by
  have HC := Lib.hid hcall
  clear hcall
  by_cases hlen : ks.length = ks2.length
  · have t2 : ((ks.length : Int) != (ks2.length : Int)) = false := by simp; omega
    have HL := Lib.hid hlen
    clear hlen
    go_enter Try.func28, Try.ntmps28
    go_wp2_with fail
    go_loopw [7, 17] (fun _ i wr => ∃ (k : Nat), k ≤ ks.length ∧ i = .int .i64 k ∧ Hid (∀ (j : Nat) (x y : Re), j < k → ks[j]? = some x → ks2[j]? = some y → sameT x y = true) ∧ Below w.heap.size w wr) (fun _ i _ => ks.length - (intOf i).toNat)
    case atStart => exact ⟨0, Nat.zero_le _, rfl, fun j x y hj => absurd hj (by omega), Below.refl _ _⟩
    case round =>
      obtain ⟨k, hk, rfl, HN, hb⟩ := hrel
      by_cases hlt : k < ks.length
      · have hlt2 : k < ks2.length := by have := HL.out; omega
        obtain ⟨t, ad, h3, ls, A3, c3, hA, hx, rfl, hc3, hr3, q0, q1, q2, q3, q4, q5⟩ := re_at (hr.below hb) hlt
        obtain ⟨t', ad', h4, ls4, A4, c4, hA', hx', rfl, hc4, hr4, p0, p1, p2, p3, p4, p5⟩ := re_at (hr2.below hb) hlt2
        subst hA hA'
        have hm1 := Lib.hid (List.mem_of_getElem? hx)
        have hm2 := Lib.hid (List.mem_of_getElem? hx')
        have HNo : Hid (sameT (.mk h3 ls) (.mk h4 ls4) = false → sames ks ks2 = false) := fun e => sames_no hx hx' e
        have HYes : Hid (sameT (.mk h3 ls) (.mk h4 ls4) = true → ∀ (j : Nat) (x y : Re), j < k + 1 → ks[j]? = some x → ks2[j]? = some y → sameT x y = true) := by
          intro e j x y hj ex ey
          rcases Nat.lt_or_ge j k with hjk | hjk
          · exact HN.out j x y hjk ex ey
          · have : j = k := by omega
            subst this
            rw [hx] at ex
            rw [hx'] at ey
            cases ex; cases ey
            exact e
        clear hx hx'
        have z0 := fun o => keep_cell (below_new (Below.refl _ wr) o) p0
        have z1 := fun o => keep_cell (below_new (Below.refl _ wr) o) p1
        have z2 := fun o => keep_cell (below_new (Below.refl _ wr) o) p2
        have z3 := fun o => keep_cell (below_new (Below.refl _ wr) o) p3
        have z4 := fun o => keep_cell (below_new (Below.refl _ wr) o) p4
        have z5 := fun o => keep_cell (below_new (Below.refl _ wr) o) p5
        have hb' := fun o1 o2 => below_new (below_new (Below.refl _ wr) o1) o2
        go_wp2_with fail
        refine (HC.out h3 h4 ls ls4 A3 A4 c3 c4 _ hm1.out hm2.out (hr3.below (hb' _ _)) (hr4.below (hb' _ _))).mono ?_
        rintro e w1 ⟨rfl, hb1⟩
        have hb2 : Below w.heap.size w w1 := below_from (below_from hb (hb' _ _)) hb1
        clear hb1 hr3 hr4 q0 q1 q2 q3 q4 q5 p0 p1 p2 p3 p4 p5 hb z0 z1 z2 z3 z4 z5 hb'
        generalize sameT (.mk h3 ls) (.mk h4 ls4) = b at *
        cases b with
        | false =>
          go_wp2_with fail
          go_ret
          exact ⟨by rw [HNo.out trivial]; rfl, hb2⟩
        | true =>
          go_wp2_with fail
          go_roundw
          case rel => exact ⟨k + 1, by omega, by go_num, HYes.out trivial, hb2⟩
          case measure => simp [intOf]; omega
      · have hkk : k = ks.length := by omega
        have HY : Hid (sames ks ks2 = true) := sames_yes HL.out (fun j x y hj => HN.out j x y (by omega))
        subst hkk
        have g : decide ((ks.length : Int) < (ks.length : Int)) = false := by simp
        clear hlt hk
        go_wp2_with fail
        go_ret
        exact ⟨by rw [HY.out]; rfl, hb⟩
  · have t2 : ((ks.length : Int) != (ks2.length : Int)) = true := by simp; omega
    have HF := Lib.hid (sames_len hlen)
    go_enter Try.func28, Try.ntmps28
    go_wp2_with fail
    go_ret
    exact ⟨by rw [HF.out]; rfl, Below.refl _ _⟩

set_option maxHeartbeats 16000000 in
theorem rexSame_upto (n : Nat) : ∀ (ok : Nat → Prop) (h h2 : RH) (ks ks2 : List Re) (A A2 : Option Addr) (c c2 : Nat) (w : World), 1 + T.sizes ks ≤ n → n ≤ 1000000000 → T.sizes ks2 ≤ 1000000000 → InRow RE ok w ks A 0 → InRow RE ok w ks2 A2 0 →
    Calls Try.prog 19 #[reV h A ks.length c, reV h2 A2 ks2.length c2] w fun e w' => e = .returned (.bool (sameT (.mk h ks) (.mk h2 ks2))) ∧ Below w.heap.size w w' := by
  induction n with
  | zero => intro ok h h2 ks ks2 A A2 c c2 w h0; omega
  | succ n ih =>
    intro ok h h2 ks ks2 A A2 c c2 w hn hm hm2 hr hr2
    have hl := T.length_le_sizes ks
    have hl2 := T.length_le_sizes ks2
    have hcall : ∀ (h h2 : RH) (ls ls2 : List Re) (A A2 : Option Addr) (c c2 : Nat) (w1 : World), T.mk h ls ∈ ks → T.mk h2 ls2 ∈ ks2 → InRow RE ok w1 ls A 0 → InRow RE ok w1 ls2 A2 0 →
      Calls Try.prog 19 #[reV h A ls.length c, reV h2 A2 ls2.length c2] w1 fun e w' => e = .returned (.bool (sameT (.mk h ls) (.mk h2 ls2))) ∧ Below w1.heap.size w1 w' := by
      intro h h2 ls ls2 A A2 c c2 w1 hx hy hr hr2
      have h1 := T.sizes_mem hx
      have h3 := T.sizes_mem hy
      simp only [T.size] at h1 h3
      exact ih ok h h2 ls ls2 A A2 c c2 w1 (by omega) (by omega) (by omega) hr hr2
    have HC := Lib.hid hcall
    clear hcall ih
    have HE : Hid (sameT (.mk h ks) (.mk h2 ks2) = (decide (h.k = h2.k) && decide (h.s = h2.s) && sames ks ks2)) := by unfold Hid; simp only [sameT]
    have hq := run_eql_set h.s h2.s
    have hkn : decide (h.k = h2.k) = decide (h.k.toNat = h2.k.toNat) := by
      rw [Bool.eq_iff_iff]; simp [UInt8.toNat_inj]
    rw [hkn] at HE
    clear hkn
    generalize decide (h.s = h2.s) = bs at *
    have hbW := fun o1 o2 => below_new (below_new (Below.refl _ w) o1) o2
    by_cases hk : h.k.toNat = h2.k.toNat
    · have t1 : ((h.k.toNat : Int) == (h2.k.toNat : Int)) = true := by simp; omega
      have HK : Hid (decide (h.k.toNat = h2.k.toNat) = true) := by unfold Hid; simp [hk]
      clear hk
      cases bs with
      | false =>
        go_enter Try.func19, Try.ntmps19
        go_wp2_with fail
        go_ret
        exact ⟨by rw [HE.out]; simp, hbW _ _⟩
      | true =>
        go_enter Try.func19, Try.ntmps19
        go_wp2_with fail
        refine (equalFunc_any ks ks2 A A2 c c2 _ (by omega) (by omega) (hr.below (hbW _ _)) (hr2.below (hbW _ _)) HC.out).mono ?_
        rintro e w1 ⟨rfl, hb1⟩
        have hb2 := below_from (hbW _ _) hb1
        clear hb1
        go_wp2_with fail
        go_ret
        exact ⟨by rw [HE.out, HK.out]; simp, hb2⟩
    · have t1 : ((h.k.toNat : Int) == (h2.k.toNat : Int)) = false := by simp; omega
      go_enter Try.func19, Try.ntmps19
      go_wp2_with fail
      go_ret
      exact ⟨by rw [HE.out]; simp [hk], hbW _ _⟩
end Go.Proofs.Ytbblhhkacdgmiaa
namespace Go.Proofs.Ytbblhhkacdgmiaa
open Go.RowKit
set_option linter.unusedVariables false
set_option linter.unusedSimpArgs false

theorem InRow.shift {α : Type} {E : Enc α} {ok : Nat → Prop} {w : World} {ad : Addr} : ∀ {ts : List (T α)} (n i : Nat), InRow E ok w ts (some ad) (n + i) → InRow E ok w ts (some (ad.add (n * (E.sz + 1)))) i
  | [], n, i, _ => by simp [InRow]
  | t :: ts, n, i, h => by
    simp only [InRow] at h ⊢
    obtain ⟨⟨ad', cs, e, ho, hc, ht⟩, hr⟩ := h
    cases e
    refine ⟨⟨_, cs, rfl, ?_, fun j u hu => ?_, ht⟩, InRow.shift n (i + 1) (by rwa [show n + (i + 1) = n + i + 1 by omega])⟩
    · have : (ad.add (n * (E.sz + 1))).block = ad.block := by unfold Addr.add; split <;> rfl
      rw [this]; exact ho
    · rw [add_add_, ← hc j u hu]
      congr 2
      rw [Nat.add_mul]; omega
theorem InRow.tail {α : Type} {E : Enc α} {ok : Nat → Prop} {w : World} {ad : Addr} {t : T α} {ts : List (T α)} (h : InRow E ok w (t :: ts) (some ad) 0) : InRow E ok w ts (some (ad.add (E.sz + 1))) 0 := by
  simp only [InRow] at h
  have := InRow.shift 1 0 h.2
  rwa [Nat.one_mul] at this

/-- the result is laid into its variable, which nothing leads to -/
theorem res_post {ok P : Nat → Prop} {w w1 : World} {t : Re} {h : RH} {ks : List Re} {A : Option Addr} {c : Nat} (ht : t = .mk h ks) (hc : ks.length ≤ c) (hr1 : InRow RE P w1 ks A 0) (hP : ∀ x, P x → (ok x ∨ w.heap.size ≤ x) ∧ x ≠ w.heap.size) (hb2 : Below w.heap.size w w1) :
    RePost ok t w (.returned (reV h A ks.length c)) ((((((w1.setCell ⟨w.heap.size, 0, none⟩ (.int .u8 (h.k.toNat : Int))).setCell ⟨w.heap.size, 1, none⟩ (.int .u64 (h.s.a.toNat : Int))).setCell ⟨w.heap.size, 2, none⟩ (.int .u64 (h.s.b.toNat : Int))).setCell ⟨w.heap.size, 3, none⟩ (.int .u64 (h.s.c.toNat : Int))).setCell ⟨w.heap.size, 4, none⟩ (.int .u64 (h.s.d.toNat : Int))).setCell ⟨w.heap.size, 5, none⟩ (.slice A ks.length c)) :=
  ⟨_, rfl, ⟨h, ks, A, c, ht, hc, rfl, hr1.keep (fun b hb => (hP b hb).1) fun a v ha hv => (World.cell?_of_block (six_other (hP _ ha).2)).trans hv⟩, six_below hb2 (Nat.le_refl _)⟩

/-- what a call leaves, said of an elder world -/
def RePostAt (P : Nat → Prop) (t : Re) (W : World) (e : Ending) (w' : World) : Prop := ∃ h ks A c, e = .returned (reV h A ks.length c) ∧ t = .mk h ks ∧ ks.length ≤ c ∧ InRow RE P w' ks A 0 ∧ Below W.heap.size W w'
theorem RePost.at_ {ok : Nat → Prop} {t : Re} {W w : World} {e : Ending} {w' : World} (hb : Below W.heap.size W w) (h : RePost ok t w e w') : RePostAt (fun b => ok b ∨ W.heap.size ≤ b) t W e w' := by
  obtain ⟨v, rfl, ⟨h, ks, A, c, ht, hc, rfl, hr⟩, hb1⟩ := h
  refine ⟨h, ks, A, c, rfl, ht, hc, hr.weak fun b hb' => ?_, below_from hb hb1⟩
  rcases hb' with hb' | hb'
  · exact .inl hb'
  · exact .inr (Nat.le_trans hb.size hb')

set_option maxHeartbeats 8000000 in
theorem refFold_upto (kv : Int) (kd nn : UInt8) (hkv : kv = (kd.toNat : Int)) (hkn : (kd = 4 ∧ nn = 2) ∨ (kd = 5 ∧ nn = 1)) : ∀ (ts : List Re) (ok : Nat → Prop) (A : Option Addr) (c : Nat) (w : World), ts.length ≤ 1000000000 → ts.length ≤ c → InRow RE ok w ts A 0 →
    Calls Try.prog 10 #[.int .u8 kv, .slice A ts.length c] w (RePost ok (foldT kd nn ts) w) := by
  subst hkv
  intro ts
  induction ts with
  | nil =>
    intro ok A c w hm hc hr
    rcases hkn with ⟨rfl, rfl⟩ | ⟨rfl, rfl⟩
    · go_enter Try.func10, Try.ntmps10
      go_wp2_with fail
      refine (bare_any _ 2 rfl _).mono ?_
      rintro e w1 ⟨rfl, hb1⟩
      have hb2 := below_from (below_new (Below.refl _ _) _) hb1
      have E1 := Lib.hid (one_block hb1)
      obtain ⟨⟨x0, x1, x2, x3, x4, x5⟩, f0, f1, f2, f3, f4, f5⟩ := re_cells E1.out
      clear hb1
      go_wp2_with fail
      refine bodyPost_ret (v := reV ⟨2, S4.zero⟩ none 0 0) (by simp [results, Try.results10, go_sem, x0, x1, x2, x3, x4, x5]) rfl (res_post (ks := []) (P := fun _ => False) rfl (Nat.le_refl _) (by simp [InRow]) (fun _ h => h.elim) hb2)
    · go_enter Try.func10, Try.ntmps10
      go_wp2_with fail
      refine (bare_any _ 1 rfl _).mono ?_
      rintro e w1 ⟨rfl, hb1⟩
      have hb2 := below_from (below_new (Below.refl _ _) _) hb1
      have E1 := Lib.hid (one_block hb1)
      obtain ⟨⟨x0, x1, x2, x3, x4, x5⟩, f0, f1, f2, f3, f4, f5⟩ := re_cells E1.out
      clear hb1
      go_wp2_with fail
      refine bodyPost_ret (v := reV ⟨1, S4.zero⟩ none 0 0) (by simp [results, Try.results10, go_sem, x0, x1, x2, x3, x4, x5]) rfl (res_post (ks := []) (P := fun _ => False) rfl (Nat.le_refl _) (by simp [InRow]) (fun _ h => h.elim) hb2)
  | cons t ts ih =>
    intro ok A c w hm hc hr
    clear hkn
    have IH := Lib.hid ih
    clear ih
    obtain ⟨t', ad, hh, ks, A1, c1, hA, hx, ht, hc1, hr1, q0, q1, q2, q3, q4, q5⟩ := re_at hr (show 0 < (t :: ts).length by simp)
    subst hA
    have hr1' := hr1.there
    have HX : Hid (t = .mk hh ks) := by
      simp only [List.getElem?_cons_zero, Option.some.injEq] at hx
      exact hx.trans ht
    have HTl := Lib.hid (InRow.tail hr.there)
    clear hx ht hr hr1
    simp only [Nat.zero_mul] at q0 q1 q2 q3 q4 q5
    have e0 : ad.add 0 = ad := rfl
    rw [e0] at q0 q1 q2 q3 q4 q5
    have z0 := fun o => keep_cell (below_new (Below.refl _ w) o) q0
    have z1 := fun o => keep_cell (below_new (Below.refl _ w) o) q1
    have z2 := fun o => keep_cell (below_new (Below.refl _ w) o) q2
    have z3 := fun o => keep_cell (below_new (Below.refl _ w) o) q3
    have z4 := fun o => keep_cell (below_new (Below.refl _ w) o) q4
    have z5 := fun o => keep_cell (below_new (Below.refl _ w) o) q5
    cases ts with
    | nil =>
      go_enter Try.func10, Try.ntmps10
      go_wp2_with fail
      refine bodyPost_ret (v := reV hh A1 ks.length c1) (by simp [results, Try.results10, go_sem]) rfl ⟨_, rfl, ⟨hh, ks, A1, c1, HX.out, hc1, rfl, (hr1'.below (below_new (Below.refl _ _) _)).weak fun b hb => .inl hb.1⟩, below_new (Below.refl _ _) _⟩
    | cons u ts =>
      have HT : Hid (foldT kd nn (t :: u :: ts) = .mk ⟨kd, S4.zero⟩ [t, foldT kd nn (u :: ts)]) := rfl
      have hl : (t :: u :: ts).length = (u :: ts).length + 1 := rfl
      obtain ⟨n, hn⟩ : ∃ n, (u :: ts).length = n := ⟨_, rfl⟩
      have hn1 : 1 ≤ n := by rw [← hn]; simp
      have gb1 : (1 : Int) ≤ (n : Int) + 1 := by omega
      have g0 : ((n : Int) + 1 == 0) = false := by simp; omega
      have g1 : ((n : Int) + 1 == 1) = false := by simp; omega
      rw [hl, hn] at hm hc ⊢
      have gb2 : (n : Int) + 1 ≤ (c : Int) := by omega
      have gc : ¬ (c = 1) := by omega
      have gne : ¬ (ad.block = w.heap.size) := by have := World.block_lt_of_cell? _ _ q0; omega
      have gne' : ¬ (w.heap.size = ad.block) := fun e => gne e.symm
      have E0 := Lib.hid (new_at (w := w) (.cells #[.int .u8 0, .int .u64 0, .int .u64 0, .int .u64 0, .int .u64 0, .slice none 0 0] 30) rfl)
      obtain ⟨W, hW⟩ : ∃ W, w.alloc (.cells #[.int .u8 0, .int .u64 0, .int .u64 0, .int .u64 0, .int .u64 0, .slice none 0 0] 30) = W := ⟨_, rfl⟩
      have hbW : Below w.heap.size w W := by rw [← hW]; exact below_new (Below.refl _ _) _
      have hsW : W.heap.size = w.heap.size + 1 := by rw [← hW]; simp
      have hC : ∀ X, Below W.heap.size W X → Calls Try.prog 10 #[.int .u8 (kd.toNat : Int), .slice (some ⟨ad.block, ad.off + 6, none⟩) n (c - 1)] X (RePostAt (fun b => (ok b ∧ b < w.heap.size) ∨ W.heap.size ≤ b) (foldT kd nn (u :: ts)) W) := by
        intro X hX
        have := IH.out (fun b => ok b ∧ b < w.heap.size) (some ⟨ad.block, ad.off + 6, none⟩) (c - 1) X (by rw [hn]; omega) (by rw [hn]; omega) ((HTl.out.below hbW).below hX)
        rw [hn] at this
        exact this.mono fun e w' h => h.at_ hX
      have HC := Lib.hid hC
      clear hC
      have hC2 : ∀ (h5 : RH) (ks5 : List Re) (A5 : Option Addr) (c5 : Nat) (X : World), ks5.length ≤ c5 → InRow RE (fun b => (ok b ∧ b < w.heap.size) ∨ W.heap.size ≤ b) X ks5 A5 0 → Below W.heap.size W X →
          Calls Try.prog 24 #[.int .u8 (kd.toNat : Int), reV hh A1 ks.length c1, reV h5 A5 ks5.length c5] X (RePostAt (fun b => ((ok b ∧ b < w.heap.size) ∨ W.heap.size ≤ b) ∨ W.heap.size ≤ b) (.mk ⟨kd, S4.zero⟩ [.mk hh ks, .mk h5 ks5]) W) := by
        intro h5 ks5 A5 c5 X hc5 hr5 hX
        exact (two_any _ kd rfl hh h5 ks ks5 A1 A5 c1 c5 X hc1 hc5 (((hr1'.below hbW).below hX).weak fun b hb => .inl hb) hr5).mono fun e w' h => h.at_ hX
      have HC2 := Lib.hid hC2
      clear hC2
      have w0 := keep_cell hbW q0
      have w1' := keep_cell hbW q1
      have w2' := keep_cell hbW q2
      have w3' := keep_cell hbW q3
      have w4' := keep_cell hbW q4
      have w5' := keep_cell hbW q5
      go_enter Try.func10, Try.ntmps10
      go_wp2_with fail
      rw [hW] at E0
      go_region_held3 (fun w' => w'.cell? ad = some (.int .u8 (hh.k.toNat : Int)) ∧ w'.cell? ⟨ad.block, ad.off + 1, none⟩ = some (.int .u64 (hh.s.a.toNat : Int)) ∧ w'.cell? ⟨ad.block, ad.off + 2, none⟩ = some (.int .u64 (hh.s.b.toNat : Int)) ∧ w'.cell? ⟨ad.block, ad.off + 3, none⟩ = some (.int .u64 (hh.s.c.toNat : Int)) ∧ w'.cell? ⟨ad.block, ad.off + 4, none⟩ = some (.int .u64 (hh.s.d.toNat : Int)) ∧ w'.cell? ⟨ad.block, ad.off + 5, none⟩ = some (.slice A1 ks.length c1))
        (go_keep)
        (first
          | (go_at_call 10; refine (HC.out _ (by first | exact Below.refl _ _ | exact (Below.refl _ _).drew | exact (Below.refl _ _).drew.drew)).mono ?_; rintro e w1 ⟨h5, ks5, A5, c5, rfl, e5, hc5, hr5, hb1⟩; have k0 := keep_cell hb1 w0; have k1 := keep_cell hb1 w1'; have k2 := keep_cell hb1 w2'; have k3 := keep_cell hb1 w3'; have k4 := keep_cell hb1 w4'; have k5 := keep_cell hb1 w5'; have E5 := Lib.hid e5; clear e5)
          | (go_at_call 24; refine (HC2.out h5 ks5 A5 c5 _ hc5 hr5 hb1).mono ?_; rintro e w2 ⟨h6, ks6, A6, c6, rfl, e6, hc6, hr6, hb2⟩; have l0 := keep_cell hb2 w0; have l1 := keep_cell hb2 w1'; have l2 := keep_cell hb2 w2'; have l3 := keep_cell hb2 w3'; have l4 := keep_cell hb2 w4'; have l5 := keep_cell hb2 w5'; have E6 := Lib.hid e6; clear e6; obtain ⟨⟨y0, y1, y2, y3, y4, y5⟩, f0, f1, f2, f3, f4, f5⟩ := re_cells ((hb2.block _ (lt_of_block E0.out)).trans E0.out))
          | fail)
      have HSW := Lib.hid hsW
      clear hsW
      go_wp2_with fail
      refine bodyPost_ret (v := reV h6 A6 ks6.length c6) (by simp [results, Try.results10, go_sem, y0, y1, y2, y3, y4, y5]) rfl (res_post (by rw [HT.out, HX.out, E5.out]; exact E6.out) hc6 hr6 (fun b hb => ?_) (below_from hbW hb2))
      have := HSW.out
      rcases hb with (hb | hb) | hb
      · exact ⟨.inl hb.1, by omega⟩
      · exact ⟨.inr (by omega), by omega⟩
      · exact ⟨.inr (by omega), by omega⟩
end Go.Proofs.Ytbblhhkacdgmiaa
