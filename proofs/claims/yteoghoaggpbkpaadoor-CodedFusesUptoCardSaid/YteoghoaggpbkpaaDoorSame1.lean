/- Whether two expressions are the same, as the document has it. -/
import Derived.Test.YteoghoaggpbkpaaDoorRexC
import Derived.StillTailTactics
namespace Go.Proofs.YteoghoaggpbkpaaDoor
open Go.RowKit
set_option linter.unusedVariables false
set_option linter.unusedSimpArgs false

mutual
def sameT : Re → Re → Bool
  | .mk h ks, .mk h2 ks2 => decide (h.k = h2.k) && decide (h.s = h2.s) && sames ks ks2
def sames : List Re → List Re → Bool
  | [], [] => true
  | x :: xs, y :: ys => sameT x y && sames xs ys
  | _, _ => false
end
mutual
theorem sameT_eq : ∀ a b : Re, sameT a b = true ↔ a = b
  | .mk h ks, .mk h2 ks2 => by
    simp only [sameT, Bool.and_eq_true, decide_eq_true_eq, sames_eq ks ks2]
    constructor
    · rintro ⟨⟨e1, e2⟩, rfl⟩
      cases h; cases h2
      simp only at e1 e2
      subst e1 e2
      rfl
    · intro e
      cases e
      exact ⟨⟨rfl, rfl⟩, rfl⟩
theorem sames_eq : ∀ xs ys : List Re, sames xs ys = true ↔ xs = ys
  | [], [] => by simp [sames]
  | [], y :: ys => by simp [sames]
  | x :: xs, [] => by simp [sames]
  | x :: xs, y :: ys => by simp only [sames, Bool.and_eq_true, sameT_eq x y, sames_eq xs ys, List.cons.injEq]
end
theorem sameT_refl (a : Re) : sameT a a = true := (sameT_eq a a).2 rfl
theorem sameT_comm (a b : Re) : sameT a b = sameT b a := by
  rw [Bool.eq_iff_iff, sameT_eq, sameT_eq]
  exact eq_comm
theorem sames_len {xs ys : List Re} (h : xs.length ≠ ys.length) : sames xs ys = false := by
  cases hs : sames xs ys with
  | false => rfl
  | true => rw [sames_eq] at hs; subst hs; exact absurd rfl h
theorem sames_no {xs ys : List Re} {k : Nat} {x y : Re} (hx : xs[k]? = some x) (hy : ys[k]? = some y) (h : sameT x y = false) : sames xs ys = false := by
  cases hs : sames xs ys with
  | false => rfl
  | true =>
    rw [sames_eq] at hs
    subst hs
    rw [hx] at hy
    cases hy
    rw [sameT_refl] at h
    cases h
theorem sames_yes {xs ys : List Re} (hl : xs.length = ys.length) (h : ∀ (k : Nat) (x y : Re), k < xs.length → xs[k]? = some x → ys[k]? = some y → sameT x y = true) : sames xs ys = true := by
  rw [sames_eq]
  apply List.ext_getElem hl
  intro i h1 h2
  exact (sameT_eq _ _).1 (h i xs[i] ys[i] h1 (by simp [h1]) (by simp [h2]))

theorem re_at_box {w1 : World} {b : Nat} {v0 v1 v2 v3 v4 v5 : Value} {t : TypeId} (h : w1.heap[b]? = some (.cells #[v0, v1, v2, v3, v4, v5] t (0, 0))) :
    w1.cell? ⟨b, 0, none⟩ = some v0 ∧ w1.cell? ⟨b, 1, none⟩ = some v1 ∧ w1.cell? ⟨b, 2, none⟩ = some v2 ∧ w1.cell? ⟨b, 3, none⟩ = some v3 ∧ w1.cell? ⟨b, 4, none⟩ = some v4 ∧ w1.cell? ⟨b, 5, none⟩ = some v5 := by
  refine ⟨?_, ?_, ?_, ?_, ?_, ?_⟩ <;> simp [World.cell?, h]
theorem two_new {w : World} (o1 o2 : Obj) : ((w.alloc o1).alloc o2).heap[w.heap.size]? = some o1 ∧ ((w.alloc o1).alloc o2).heap[w.heap.size + 1]? = some o2 := by
  refine ⟨(Below.heap_alloc _ _ _ (by simp)).trans (heap_alloc_new w o1), ?_⟩
  have := heap_alloc_new (w.alloc o1) o2
  simpa using this

set_option maxRecDepth 100000 in
set_option maxHeartbeats 16000000 in
theorem refSame_upto (n : Nat) : ∀ (ok : Nat → Prop) (h h2 : RH) (ks ks2 : List Re) (A A2 : Option Addr) (c c2 : Nat) (w : World), 1 + T.sizes ks ≤ n → n ≤ 1000000000 → T.sizes ks2 ≤ 1000000000 → InRow RE ok w ks A 0 → InRow RE ok w ks2 A2 0 →
    Calls Tryd.prog 19 #[reV h A ks.length c, reV h2 A2 ks2.length c2] w fun e w' => e = .returned (.bool (sameT (.mk h ks) (.mk h2 ks2))) ∧ Below w.heap.size w w' := by
  induction n with
  | zero => intro ok h h2 ks ks2 A A2 c c2 w h0; omega
  | succ n ih =>
    intro ok h h2 ks ks2 A A2 c c2 w hn hm hm2 hr hr2
    have hl := T.length_le_sizes ks
    have hl2 := T.length_le_sizes ks2
    have IH := Lib.hid ih
    clear ih
    have hsz : ∀ t ∈ ks, t.size ≤ n := fun t ht => by have := T.sizes_mem ht; omega
    have hsz2 : ∀ t ∈ ks2, t.size ≤ 1000000000 := fun t ht => by have := T.sizes_mem ht; omega
    have HS := Lib.hid hsz
    have HS2 := Lib.hid hsz2
    clear hsz hsz2
    have HE : Hid (sameT (.mk h ks) (.mk h2 ks2) = (decide (h.k = h2.k) && decide (h.s = h2.s) && sames ks ks2)) := by unfold Hid; simp only [sameT]
    have hq := run_neq_set h.s h2.s
    have hkn : decide (h.k = h2.k) = decide (h.k.toNat = h2.k.toNat) := by
      rw [Bool.eq_iff_iff]; simp [UInt8.toNat_inj]
    rw [hkn] at HE
    clear hkn
    generalize decide (h.s = h2.s) = bs at *
    have hbW : Below w.heap.size w ((w.alloc (.cells #[.int .u8 (h.k.toNat : Int), .int .u64 (h.s.a.toNat : Int), .int .u64 (h.s.b.toNat : Int), .int .u64 (h.s.c.toNat : Int), .int .u64 (h.s.d.toNat : Int), .slice A ks.length c] 42)).alloc (.cells #[.int .u8 (h2.k.toNat : Int), .int .u64 (h2.s.a.toNat : Int), .int .u64 (h2.s.b.toNat : Int), .int .u64 (h2.s.c.toNat : Int), .int .u64 (h2.s.d.toNat : Int), .slice A2 ks2.length c2] 42)) := below_new (below_new (Below.refl _ _) _) _
    obtain ⟨e1, e2⟩ := two_new (w := w) (.cells #[.int .u8 (h.k.toNat : Int), .int .u64 (h.s.a.toNat : Int), .int .u64 (h.s.b.toNat : Int), .int .u64 (h.s.c.toNat : Int), .int .u64 (h.s.d.toNat : Int), .slice A ks.length c] 42) (.cells #[.int .u8 (h2.k.toNat : Int), .int .u64 (h2.s.a.toNat : Int), .int .u64 (h2.s.b.toNat : Int), .int .u64 (h2.s.c.toNat : Int), .int .u64 (h2.s.d.toNat : Int), .slice A2 ks2.length c2] 42)
    obtain ⟨x0, x1, x2, x3, x4, x5⟩ := re_at_box e1
    obtain ⟨y0, y1, y2, y3, y4, y5⟩ := re_at_box e2
    clear x0 x1 x2 x3 x4 y0 y1 y2 y3 y4 e1 e2
    have hrW := hr.below hbW
    have hrW2 := hr2.below hbW
    have X5 := Lib.hid x5
    have Y5 := Lib.hid y5
    clear x5 y5 hr hr2
    by_cases hk : h.k.toNat = h2.k.toNat
    · have t1 : ((h.k.toNat : Int) != (h2.k.toNat : Int)) = false := by simp; omega
      have HK : Hid (decide (h.k.toNat = h2.k.toNat) = true) := by unfold Hid; simp [hk]
      clear hk
      cases bs with
      | false =>
        go_enter Tryd.func19, Tryd.ntmps19
        go_wp2_with fail
        go_ret
        exact ⟨by rw [HE.out]; simp, hbW⟩
      | true =>
        by_cases hlen : ks.length = ks2.length
        · have t2 : ((ks.length : Int) != (ks2.length : Int)) = false := by simp; omega
          have HL := Lib.hid hlen
          clear hlen
          go_enter Tryd.func19, Tryd.ntmps19
          go_wp2_with fail
          generalize hWW : (w.alloc (.cells #[.int .u8 (h.k.toNat : Int), .int .u64 (h.s.a.toNat : Int), .int .u64 (h.s.b.toNat : Int), .int .u64 (h.s.c.toNat : Int), .int .u64 (h.s.d.toNat : Int), .slice A ks.length c] 42)).alloc (.cells #[.int .u8 (h2.k.toNat : Int), .int .u64 (h2.s.a.toNat : Int), .int .u64 (h2.s.b.toNat : Int), .int .u64 (h2.s.c.toNat : Int), .int .u64 (h2.s.d.toNat : Int), .slice A2 ks2.length c2] 42) = W at *
          clear hWW
          go_loopw [5, 30] (fun _ i wr => ∃ (k : Nat), k ≤ ks.length ∧ i = .int .i64 k ∧ Hid (∀ (j : Nat) (x y : Re), j < k → ks[j]? = some x → ks2[j]? = some y → sameT x y = true) ∧ Below W.heap.size W wr) (fun _ i _ => ks.length - (intOf i).toNat)
          case atStart => exact ⟨0, Nat.zero_le _, rfl, fun j x y hj => absurd hj (by omega), Below.refl _ _⟩
          case round =>
            obtain ⟨k, hk, rfl, HN, hb⟩ := hrel
            have z5 := keep_cell hb X5.out
            have u5 := keep_cell hb Y5.out
            by_cases hlt : k < ks.length
            · have hlt2 : k < ks2.length := by have := HL.out; omega
              obtain ⟨t, ad, h3, ls, A3, c3, hA, hx, rfl, hc3, hr3, q0, q1, q2, q3, q4, q5⟩ := re_at (hrW.below hb) hlt
              obtain ⟨t', ad', h4, ls4, A4, c4, hA', hx', rfl, hc4, hr4, p0, p1, p2, p3, p4, p5⟩ := re_at (hrW2.below hb) hlt2
              subst hA hA'
              have hs1 := HS.out _ (List.mem_of_getElem? hx)
              have hs2 := HS2.out _ (List.mem_of_getElem? hx')
              simp only [T.size] at hs1 hs2
              have HNo : Hid (sameT (.mk h3 ls) (.mk h4 ls4) = false → sames ks ks2 = false) := fun e => sames_no hx hx' e
              have HYes : Hid (sameT (.mk h3 ls) (.mk h4 ls4) = true → ∀ (j : Nat) (x y : Re), j < k + 1 → ks[j]? = some x → ks2[j]? = some y → sameT x y = true) := by
                intro e j x y hj ex ey
                rcases Nat.lt_or_ge j k with hjk | hjk
                · exact HN.out j x y hjk ex ey
                · have : j = k := by omega
                  subst this
                  rw [hx] at ex
                  rw [hx'] at ey
                  cases ex; cases ey
                  exact e
              clear hx hx'
              go_wp2_with fail
              go_still_tail 10, (by kernel_rfl)
              go_wp2_with fail
              refine (IH.out ok h3 h4 ls ls4 A3 A4 c3 c4 wr.drew hs1 (by omega) (by omega) (hr3.below (Below.refl _ _).drew) (hr4.below (Below.refl _ _).drew)).mono ?_
              rintro e w1 ⟨rfl, hb1⟩
              have hb2 : Below W.heap.size W w1 := below_from (pw_drewN hb 1) hb1
              clear hb1 hr3 hr4 q0 q1 q2 q3 q4 q5 p0 p1 p2 p3 p4 p5 hb z5 u5
              generalize sameT (.mk h3 ls) (.mk h4 ls4) = b at *
              cases b with
              | false =>
                go_wp2_with fail
                go_ret
                exact ⟨by rw [HE.out, HNo.out trivial]; simp, hbW.trans (hb2.mono hbW.size)⟩
              | true =>
                go_wp2_with fail
                go_roundw
                case rel => exact ⟨k + 1, by omega, by go_num, HYes.out trivial, hb2⟩
                case measure => simp [intOf]; omega
            · have hkk : k = ks.length := by omega
              have HY : Hid (sames ks ks2 = true) := sames_yes HL.out (fun j x y hj => HN.out j x y (by omega))
              subst hkk
              have g : decide ((ks.length : Int) < (ks.length : Int)) = false := by simp
              clear hlt hk
              go_wp2_with fail
              go_ret
              exact ⟨by rw [HE.out, HY.out, HK.out]; rfl, hbW.trans (hb.mono hbW.size)⟩
        · have t2 : ((ks.length : Int) != (ks2.length : Int)) = true := by simp; omega
          have HF := Lib.hid (sames_len hlen)
          go_enter Tryd.func19, Tryd.ntmps19
          go_wp2_with fail
          go_ret
          exact ⟨by rw [HE.out, HF.out]; simp, hbW⟩
    · have t1 : ((h.k.toNat : Int) != (h2.k.toNat : Int)) = true := by simp; omega
      go_enter Tryd.func19, Tryd.ntmps19
      go_wp2_with fail
      go_ret
      exact ⟨by rw [HE.out]; simp [hk], hbW⟩
end Go.Proofs.YteoghoaggpbkpaaDoor
