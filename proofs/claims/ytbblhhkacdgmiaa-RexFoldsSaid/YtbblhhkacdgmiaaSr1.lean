/- Expressions of any size: how many nodes (or some number, where that is too great for an int); whether two are the same. -/
import Derived.Test.YtbblhhkacdgmiaaSh1
import Derived.Test.YtbblhhkacdgmiaaBg
import Derived.Test.YtbblhhkacdgmiaaBa
import Derived.Test.YtbblhhkacdgmiaaBf
import Derived.StillTailTactics
namespace Go.Proofs.Ytbblhhkacdgmiaa
open Go.RowKit Go.ChangeShapes Go.WideShapes Go.ChangeAt
set_option linter.unusedVariables false
set_option linter.unusedSimpArgs false

section
variable {H : Type} {enc : TypeId × Value → H} {w : World} {base : Nat} {spare : Nat → Bool} {held : Bool}
set_option maxRecDepth 100000 in
theorem open_res_s {v : Value} {d : DataW H} {p : List MemPlace} {r : Reach} {b0 : Nat} (hv : Value.okWide Try.prog w r b0 22 v) (h : DataW.Trod enc Try.prog w base spare held 22 v d p) :
    ∃ (ts : List Re) (A : Option Addr) (c : Nat), v = .slice A ts.length c ∧ ts.length ≤ c ∧ InRow RE (fun _ => True) w ts A 0 ∧ ts.length ≤ 9223372036854775807 ∧ T.shorts ts := by
  obtain ⟨a0, len, cap, rfl⟩ := okWide_slice Try.underlying22 hv
  obtain ⟨fuel, hf⟩ := h
  obtain ⟨ts, A, c, e, hc, hr, hs⟩ := open_trees_s (E := RE) Try.underlying22 (by kernel_rfl) open_re1 _ _ _ _ hf (Nat.le_refl _)
  simp only [Value.cells, List.cons.injEq, and_true] at e
  exact ⟨ts, A, c, e, hc, hr, hs⟩
set_option maxRecDepth 100000 in
theorem open_re_s {v : Value} {d : DataW H} {p : List MemPlace} {r : Reach} {b0 : Nat} (hv : Value.okWide Try.prog w r b0 30 v) (h : DataW.Trod enc Try.prog w base spare held 30 v d p) :
    ∃ (h : RH) (ks : List Re) (A : Option Addr) (c : Nat), v = reV h A ks.length c ∧ ks.length ≤ c ∧ InRow RE (fun _ => True) w ks A 0 ∧ T.short (T.mk h ks) := by
  obtain ⟨cs, rfl, hcs⟩ := okWide_struct Try.underlying30 hv
  obtain ⟨fuel, hf⟩ := h
  obtain ⟨a, v, n', y, e, hy, hlt⟩ := open_re1 _ _ _ hf
  obtain ⟨ks, A, c, e2, hc, hr, hs, hss⟩ := open_trees_s (E := RE) Try.underlying22 (by kernel_rfl) open_re1 _ _ _ _ hy (Nat.le_refl _)
  simp only [List.cons.injEq, and_true] at e2
  subst e2
  refine ⟨a, ks, A, c, ?_, hc, hr, .mk hs hss⟩
  have : cs.toList = [.int .u8 (a.k.toNat : Int), .int .u64 (a.s.a.toNat : Int), .int .u64 (a.s.b.toNat : Int), .int .u64 (a.s.c.toNat : Int), .int .u64 (a.s.d.toNat : Int), .slice A ks.length c] := e
  have h2 : cs = #[.int .u8 (a.k.toNat : Int), .int .u64 (a.s.a.toNat : Int), .int .u64 (a.s.b.toNat : Int), .int .u64 (a.s.c.toNat : Int), .int .u64 (a.s.d.toNat : Int), .slice A ks.length c] := by
    rw [← Array.toList_inj]; exact this
  rw [h2]
end
set_option maxHeartbeats 1000000 in
theorem count_s (n : Nat) : ∀ (ok : Nat → Prop) (h : RH) (ks : List Re) (A : Option Addr) (c : Nat) (m : Int) (w : World), 1 + T.sizes ks ≤ n → T.short (T.mk h ks) → ks.length ≤ c → InRow RE ok w ks A 0 →
    Calls Try.prog 27 #[reV h A ks.length c, .int .i64 m] w fun e w' => (∃ z, e = .returned (.int .i64 z)) ∧ Below w.heap.size w w' := by
  induction n with
  | zero => intro ok h ks A c m w h0; omega
  | succ n ih =>
    intro ok h ks A c m w hn hm hc hr
    have IH := Lib.hid ih
    clear ih
    have hsz : ∀ t ∈ ks, t.size ≤ n := fun t ht => by have := T.sizes_mem ht; omega
    have HS := Lib.hid hsz
    have HM := Lib.hid hm
    have hlm := hm.len
    clear hsz hm
    go_enter Try.func27, Try.ntmps27
    go_wp2_with fail
    generalize hW : w.alloc _ = W
    have hbW : Below w.heap.size w W := by rw [← hW]; exact below_new (Below.refl _ _) _
    go_loopw [4, 5, 6, 10] (fun r s _ i wr => ∃ (k : Nat) (z : Int), k ≤ ks.length ∧ i = .int .i64 k ∧ s = .int .i64 z ∧ r = .int .i64 0 ∧ Below W.heap.size W wr) (fun _ _ _ i _ => ks.length - (intOf i).toNat)
    case atStart => exact ⟨0, 1, Nat.zero_le _, rfl, rfl, rfl, Below.refl _ _⟩
    case round =>
      obtain ⟨k, z, hk, rfl, rfl, rfl, hb⟩ := hrel
      have hbx := hb
      rw [← hW] at hbx
      obtain ⟨x0, x1, x2, x3, x4, x5⟩ := re_box hbx
      clear hbx x0 x1 x2 x3 x4
      by_cases hlt : k < ks.length
      · obtain ⟨t, ad, h1, ls, A1, c1, hA, hx, rfl, hc1, hr1, q0, q1, q2, q3, q4, q5⟩ := re_at ((hr.below hbW).below hb) hlt
        subst hA
        have hmem := List.mem_of_getElem? hx
        have hs1 := HS.out _ hmem
        have HM1 := Lib.hid (HM.out.mem hmem)
        simp only [T.size] at hs1
        by_cases hgt : m < z
        · clear hx hr
          go_wp2_with fail
          go_ret
          exact ⟨⟨_, rfl⟩, hbW.trans (hb.mono hbW.size)⟩
        · clear hx hr
          go_wp2_with fail
          refine (IH.out ok h1 ls A1 c1 m _ hs1 HM1.out hc1 hr1).mono ?_
          rintro e w1 ⟨⟨cc, rfl⟩, hb1⟩
          have hb2 := below_from hb hb1
          clear hb1 hr1 q0 q1 q2 q3 q4 q5 x5
          go_wp2_with fail
          go_roundw
          case rel => exact ⟨k + 1, _, by omega, by go_num, rfl, rfl, hb2⟩
          case measure => simp [intOf]; omega
      · have hkk : k = ks.length := by omega
        subst hkk
        clear hlt
        go_wp2_with fail
        go_ret
        exact ⟨⟨_, rfl⟩, hbW.trans (hb.mono hbW.size)⟩
set_option maxHeartbeats 1000000 in
theorem Great_s {ok : Nat → Prop} (h : RH) (ks : List Re) (A : Option Addr) (c : Nat) (m : Int) (w : World) (hm : T.short (T.mk h ks)) (hc : ks.length ≤ c) (hr : InRow RE ok w ks A 0) :
    Calls Try.prog 18 #[reV h A ks.length c, .int .i64 m] w fun e w' => (∃ b, e = .returned (.bool b)) ∧ Below w.heap.size w w' := by
  go_enter Try.func18, Try.ntmps18
  go_wp2_with fail
  refine (count_s _ ok h ks A c m _ (Nat.le_refl _) hm hc (hr.below (below_new (Below.refl _ _) _))).mono ?_
  rintro e w1 ⟨⟨z, rfl⟩, hb⟩
  have hb2 := below_from (below_new (Below.refl _ _) _) hb
  clear hb hr hm
  go_wp2_with fail
  go_ret
  exact ⟨⟨_, rfl⟩, hb2⟩
set_option maxHeartbeats 1000000 in
theorem GreatAll_s {ok : Nat → Prop} (ts : List Re) (A : Option Addr) (c : Nat) (m : Int) (w : World) (hm : ts.length ≤ 9223372036854775807) (hs : T.shorts ts) (hr : InRow RE ok w ts A 0) :
    Calls Try.prog 6 #[.slice A ts.length c, .int .i64 m] w fun e w' => (∃ b, e = .returned (.bool b) ∧ (b = false → ts.length ≤ 20)) ∧ Below w.heap.size w w' := by
  have HS : Hid (∀ t ∈ ts, T.short t) := fun t ht => T.shorts_mem ht hs
  clear hs
  by_cases h20 : 20 < ts.length
  · go_enter Try.func6, Try.ntmps6
    go_wp2_with fail
    go_ret
    exact ⟨⟨_, rfl, fun h => by simp at h⟩, Below.refl _ _⟩
  · go_enter Try.func6, Try.ntmps6
    go_wp2_with fail
    go_loopw [4, 5, 11] (fun r _ i wr => ∃ (k : Nat), k ≤ ts.length ∧ i = .int .i64 k ∧ r = .bool false ∧ Below w.heap.size w wr) (fun _ _ i _ => ts.length - (intOf i).toNat)
    case atStart => exact ⟨0, Nat.zero_le _, rfl, rfl, Below.refl _ _⟩
    case round =>
      obtain ⟨k, hk, rfl, rfl, hb⟩ := hrel
      by_cases hlt : k < ts.length
      · obtain ⟨t, ad, h1, ls, A1, c1, hA, hx, rfl, hc1, hr1, q0, q1, q2, q3, q4, q5⟩ := re_at (hr.below hb) hlt
        subst hA
        have HM1 := Lib.hid (HS.out _ (List.mem_of_getElem? hx))
        clear hx hr
        go_wp2_with fail
        refine (Great_s h1 ls A1 c1 m _ HM1.out hc1 hr1).mono ?_
        rintro e w1 ⟨⟨b, rfl⟩, hb1⟩
        have hb2 := below_from hb hb1
        clear hb1 hr1 q0 q1 q2 q3 q4 q5
        cases b with
        | false =>
          go_wp2_with fail
          go_roundw
          case rel => exact ⟨k + 1, by omega, by go_num, rfl, hb2⟩
          case measure => simp [intOf]; omega
        | true =>
          go_wp2_with fail
          go_ret
          exact ⟨⟨_, rfl, fun h => by omega⟩, hb2⟩
      · go_wp2_with fail
        go_ret
        exact ⟨⟨_, rfl, fun h => by omega⟩, hb⟩
set_option maxRecDepth 100000 in
set_option maxHeartbeats 16000000 in
theorem refSame_s (n : Nat) : ∀ (ok : Nat → Prop) (h h2 : RH) (ks ks2 : List Re) (A A2 : Option Addr) (c c2 : Nat) (w : World), 1 + T.sizes ks ≤ n → T.short (T.mk h ks) → T.short (T.mk h2 ks2) → InRow RE ok w ks A 0 → InRow RE ok w ks2 A2 0 →
    Calls Try.prog 8 #[reV h A ks.length c, reV h2 A2 ks2.length c2] w fun e w' => e = .returned (.bool (sameT (.mk h ks) (.mk h2 ks2))) ∧ Below w.heap.size w w' := by
  induction n with
  | zero => intro ok h h2 ks ks2 A A2 c c2 w h0; omega
  | succ n ih =>
    intro ok h h2 ks ks2 A A2 c c2 w hn hm hm2 hr hr2
    have hl := hm.len
    have hl2 := hm2.len
    have HM := Lib.hid hm
    have HM2 := Lib.hid hm2
    clear hm hm2
    have IH := Lib.hid ih
    clear ih
    have hsz : ∀ t ∈ ks, t.size ≤ n := fun t ht => by have := T.sizes_mem ht; omega
    have HS := Lib.hid hsz
    clear hsz
    have HE : Hid (sameT (.mk h ks) (.mk h2 ks2) = (decide (h.k = h2.k) && decide (h.s = h2.s) && sames ks ks2)) := by unfold Hid; simp only [sameT]
    have hq := run_neq_set h.s h2.s
    have hkn : decide (h.k = h2.k) = decide (h.k.toNat = h2.k.toNat) := by
      rw [Bool.eq_iff_iff]; simp [UInt8.toNat_inj]
    rw [hkn] at HE
    clear hkn
    generalize decide (h.s = h2.s) = bs at *
    have hbW : Below w.heap.size w ((w.alloc (.cells #[.int .u8 (h.k.toNat : Int), .int .u64 (h.s.a.toNat : Int), .int .u64 (h.s.b.toNat : Int), .int .u64 (h.s.c.toNat : Int), .int .u64 (h.s.d.toNat : Int), .slice A ks.length c] 30)).alloc (.cells #[.int .u8 (h2.k.toNat : Int), .int .u64 (h2.s.a.toNat : Int), .int .u64 (h2.s.b.toNat : Int), .int .u64 (h2.s.c.toNat : Int), .int .u64 (h2.s.d.toNat : Int), .slice A2 ks2.length c2] 30)) := below_new (below_new (Below.refl _ _) _) _
    obtain ⟨e1, e2⟩ := two_new (w := w) (.cells #[.int .u8 (h.k.toNat : Int), .int .u64 (h.s.a.toNat : Int), .int .u64 (h.s.b.toNat : Int), .int .u64 (h.s.c.toNat : Int), .int .u64 (h.s.d.toNat : Int), .slice A ks.length c] 30) (.cells #[.int .u8 (h2.k.toNat : Int), .int .u64 (h2.s.a.toNat : Int), .int .u64 (h2.s.b.toNat : Int), .int .u64 (h2.s.c.toNat : Int), .int .u64 (h2.s.d.toNat : Int), .slice A2 ks2.length c2] 30)
    obtain ⟨x0, x1, x2, x3, x4, x5⟩ := re_at_box e1
    obtain ⟨y0, y1, y2, y3, y4, y5⟩ := re_at_box e2
    clear x0 x1 x2 x3 x4 y0 y1 y2 y3 y4 e1 e2
    have hrW := hr.below hbW
    have hrW2 := hr2.below hbW
    have X5 := Lib.hid x5
    have Y5 := Lib.hid y5
    clear x5 y5 hr hr2
    by_cases hk : h.k.toNat = h2.k.toNat
    · have t1 : ((h.k.toNat : Int) != (h2.k.toNat : Int)) = false := by simp; omega
      have HK : Hid (decide (h.k.toNat = h2.k.toNat) = true) := by unfold Hid; simp [hk]
      clear hk
      cases bs with
      | false =>
        go_enter Try.func8, Try.ntmps8
        go_wp2_with fail
        go_ret
        exact ⟨by rw [HE.out]; simp, hbW⟩
      | true =>
        by_cases hlen : ks.length = ks2.length
        · have t2 : ((ks.length : Int) != (ks2.length : Int)) = false := by simp; omega
          have HL := Lib.hid hlen
          clear hlen
          go_enter Try.func8, Try.ntmps8
          go_wp2_with fail
          generalize hWW : (w.alloc (.cells #[.int .u8 (h.k.toNat : Int), .int .u64 (h.s.a.toNat : Int), .int .u64 (h.s.b.toNat : Int), .int .u64 (h.s.c.toNat : Int), .int .u64 (h.s.d.toNat : Int), .slice A ks.length c] 30)).alloc (.cells #[.int .u8 (h2.k.toNat : Int), .int .u64 (h2.s.a.toNat : Int), .int .u64 (h2.s.b.toNat : Int), .int .u64 (h2.s.c.toNat : Int), .int .u64 (h2.s.d.toNat : Int), .slice A2 ks2.length c2] 30) = W at *
          clear hWW
          go_loopw [5, 30] (fun _ i wr => ∃ (k : Nat), k ≤ ks.length ∧ i = .int .i64 k ∧ Hid (∀ (j : Nat) (x y : Re), j < k → ks[j]? = some x → ks2[j]? = some y → sameT x y = true) ∧ Below W.heap.size W wr) (fun _ i _ => ks.length - (intOf i).toNat)
          case atStart => exact ⟨0, Nat.zero_le _, rfl, fun j x y hj => absurd hj (by omega), Below.refl _ _⟩
          case round =>
            obtain ⟨k, hk, rfl, HN, hb⟩ := hrel
            have z5 := keep_cell hb X5.out
            have u5 := keep_cell hb Y5.out
            by_cases hlt : k < ks.length
            · have hlt2 : k < ks2.length := by have := HL.out; omega
              obtain ⟨t, ad, h3, ls, A3, c3, hA, hx, rfl, hc3, hr3, q0, q1, q2, q3, q4, q5⟩ := re_at (hrW.below hb) hlt
              obtain ⟨t', ad', h4, ls4, A4, c4, hA', hx', rfl, hc4, hr4, p0, p1, p2, p3, p4, p5⟩ := re_at (hrW2.below hb) hlt2
              subst hA hA'
              have hs1 := HS.out _ (List.mem_of_getElem? hx)
              have HM3 := Lib.hid (HM.out.mem (List.mem_of_getElem? hx))
              have HM4 := Lib.hid (HM2.out.mem (List.mem_of_getElem? hx'))
              simp only [T.size] at hs1
              have HNo : Hid (sameT (.mk h3 ls) (.mk h4 ls4) = false → sames ks ks2 = false) := fun e => sames_no hx hx' e
              have HYes : Hid (sameT (.mk h3 ls) (.mk h4 ls4) = true → ∀ (j : Nat) (x y : Re), j < k + 1 → ks[j]? = some x → ks2[j]? = some y → sameT x y = true) := by
                intro e j x y hj ex ey
                rcases Nat.lt_or_ge j k with hjk | hjk
                · exact HN.out j x y hjk ex ey
                · have : j = k := by omega
                  subst this
                  rw [hx] at ex
                  rw [hx'] at ey
                  cases ex; cases ey
                  exact e
              clear hx hx'
              go_wp2_with fail
              go_still_tail 10, (by kernel_rfl)
              go_wp2_with fail
              refine (IH.out ok h3 h4 ls ls4 A3 A4 c3 c4 wr.drew hs1 HM3.out HM4.out (hr3.below (Below.refl _ _).drew) (hr4.below (Below.refl _ _).drew)).mono ?_
              rintro e w1 ⟨rfl, hb1⟩
              have hb2 : Below W.heap.size W w1 := below_from (pw_drewN hb 1) hb1
              clear hb1 hr3 hr4 q0 q1 q2 q3 q4 q5 p0 p1 p2 p3 p4 p5 hb z5 u5
              generalize sameT (.mk h3 ls) (.mk h4 ls4) = b at *
              cases b with
              | false =>
                go_wp2_with fail
                go_ret
                exact ⟨by rw [HE.out, HNo.out trivial]; simp, hbW.trans (hb2.mono hbW.size)⟩
              | true =>
                go_wp2_with fail
                go_roundw
                case rel => exact ⟨k + 1, by omega, by go_num, HYes.out trivial, hb2⟩
                case measure => simp [intOf]; omega
            · have hkk : k = ks.length := by omega
              have HY : Hid (sames ks ks2 = true) := sames_yes HL.out (fun j x y hj => HN.out j x y (by omega))
              subst hkk
              have g : decide ((ks.length : Int) < (ks.length : Int)) = false := by simp
              clear hlt hk
              go_wp2_with fail
              go_ret
              exact ⟨by rw [HE.out, HY.out, HK.out]; rfl, hbW.trans (hb.mono hbW.size)⟩
        · have t2 : ((ks.length : Int) != (ks2.length : Int)) = true := by simp; omega
          have HF := Lib.hid (sames_len hlen)
          go_enter Try.func8, Try.ntmps8
          go_wp2_with fail
          go_ret
          exact ⟨by rw [HE.out, HF.out]; simp, hbW⟩
    · have t1 : ((h.k.toNat : Int) != (h2.k.toNat : Int)) = true := by simp; omega
      go_enter Try.func8, Try.ntmps8
      go_wp2_with fail
      go_ret
      exact ⟨by rw [HE.out]; simp [hk], hbW⟩
set_option maxHeartbeats 16000000 in
theorem equalFunc_s {ok : Nat → Prop} (ks ks2 : List Re) (A A2 : Option Addr) (c c2 : Nat) (w : World) (hl : ks.length ≤ 9223372036854775807) (hl2 : ks2.length ≤ 9223372036854775807) (hr : InRow RE ok w ks A 0) (hr2 : InRow RE ok w ks2 A2 0)
    (hcall : ∀ (h h2 : RH) (ls ls2 : List Re) (A A2 : Option Addr) (c c2 : Nat) (w1 : World), T.mk h ls ∈ ks → T.mk h2 ls2 ∈ ks2 → InRow RE ok w1 ls A 0 → InRow RE ok w1 ls2 A2 0 →
      Calls Try.prog 19 #[reV h A ls.length c, reV h2 A2 ls2.length c2] w1 fun e w' => e = .returned (.bool (sameT (.mk h ls) (.mk h2 ls2))) ∧ Below w1.heap.size w1 w') :
    Calls Try.prog 28 #[.slice A ks.length c, .slice A2 ks2.length c2, .func (.func 19) #[] #[]] w fun e w' => e = .returned (.bool (sames ks ks2)) ∧ Below w.heap.size w w' := by
  have HC := Lib.hid hcall
  clear hcall
  by_cases hlen : ks.length = ks2.length
  · have t2 : ((ks.length : Int) != (ks2.length : Int)) = false := by simp; omega
    have HL := Lib.hid hlen
    clear hlen
    go_enter Try.func28, Try.ntmps28
    go_wp2_with fail
    go_loopw [7, 17] (fun _ i wr => ∃ (k : Nat), k ≤ ks.length ∧ i = .int .i64 k ∧ Hid (∀ (j : Nat) (x y : Re), j < k → ks[j]? = some x → ks2[j]? = some y → sameT x y = true) ∧ Below w.heap.size w wr) (fun _ i _ => ks.length - (intOf i).toNat)
    case atStart => exact ⟨0, Nat.zero_le _, rfl, fun j x y hj => absurd hj (by omega), Below.refl _ _⟩
    case round =>
      obtain ⟨k, hk, rfl, HN, hb⟩ := hrel
      by_cases hlt : k < ks.length
      · have hlt2 : k < ks2.length := by have := HL.out; omega
        obtain ⟨t, ad, h3, ls, A3, c3, hA, hx, rfl, hc3, hr3, q0, q1, q2, q3, q4, q5⟩ := re_at (hr.below hb) hlt
        obtain ⟨t', ad', h4, ls4, A4, c4, hA', hx', rfl, hc4, hr4, p0, p1, p2, p3, p4, p5⟩ := re_at (hr2.below hb) hlt2
        subst hA hA'
        have hm1 := Lib.hid (List.mem_of_getElem? hx)
        have hm2 := Lib.hid (List.mem_of_getElem? hx')
        have HNo : Hid (sameT (.mk h3 ls) (.mk h4 ls4) = false → sames ks ks2 = false) := fun e => sames_no hx hx' e
        have HYes : Hid (sameT (.mk h3 ls) (.mk h4 ls4) = true → ∀ (j : Nat) (x y : Re), j < k + 1 → ks[j]? = some x → ks2[j]? = some y → sameT x y = true) := by
          intro e j x y hj ex ey
          rcases Nat.lt_or_ge j k with hjk | hjk
          · exact HN.out j x y hjk ex ey
          · have : j = k := by omega
            subst this
            rw [hx] at ex
            rw [hx'] at ey
            cases ex; cases ey
            exact e
        clear hx hx'
        have z0 := fun o => keep_cell (below_new (Below.refl _ wr) o) p0
        have z1 := fun o => keep_cell (below_new (Below.refl _ wr) o) p1
        have z2 := fun o => keep_cell (below_new (Below.refl _ wr) o) p2
        have z3 := fun o => keep_cell (below_new (Below.refl _ wr) o) p3
        have z4 := fun o => keep_cell (below_new (Below.refl _ wr) o) p4
        have z5 := fun o => keep_cell (below_new (Below.refl _ wr) o) p5
        have hb' := fun o1 o2 => below_new (below_new (Below.refl _ wr) o1) o2
        go_wp2_with fail
        refine (HC.out h3 h4 ls ls4 A3 A4 c3 c4 _ hm1.out hm2.out (hr3.below (hb' _ _)) (hr4.below (hb' _ _))).mono ?_
        rintro e w1 ⟨rfl, hb1⟩
        have hb2 : Below w.heap.size w w1 := below_from (below_from hb (hb' _ _)) hb1
        clear hb1 hr3 hr4 q0 q1 q2 q3 q4 q5 p0 p1 p2 p3 p4 p5 hb z0 z1 z2 z3 z4 z5 hb'
        generalize sameT (.mk h3 ls) (.mk h4 ls4) = b at *
        cases b with
        | false =>
          go_wp2_with fail
          go_ret
          exact ⟨by rw [HNo.out trivial]; rfl, hb2⟩
        | true =>
          go_wp2_with fail
          go_roundw
          case rel => exact ⟨k + 1, by omega, by go_num, HYes.out trivial, hb2⟩
          case measure => simp [intOf]; omega
      · have hkk : k = ks.length := by omega
        have HY : Hid (sames ks ks2 = true) := sames_yes HL.out (fun j x y hj => HN.out j x y (by omega))
        subst hkk
        have g : decide ((ks.length : Int) < (ks.length : Int)) = false := by simp
        clear hlt hk
        go_wp2_with fail
        go_ret
        exact ⟨by rw [HY.out]; rfl, hb⟩
  · have t2 : ((ks.length : Int) != (ks2.length : Int)) = true := by simp; omega
    have HF := Lib.hid (sames_len hlen)
    go_enter Try.func28, Try.ntmps28
    go_wp2_with fail
    go_ret
    exact ⟨by rw [HF.out]; rfl, Below.refl _ _⟩

set_option maxHeartbeats 16000000 in
theorem rexSame_s (n : Nat) : ∀ (ok : Nat → Prop) (h h2 : RH) (ks ks2 : List Re) (A A2 : Option Addr) (c c2 : Nat) (w : World), 1 + T.sizes ks ≤ n → T.short (T.mk h ks) → T.short (T.mk h2 ks2) → InRow RE ok w ks A 0 → InRow RE ok w ks2 A2 0 →
    Calls Try.prog 19 #[reV h A ks.length c, reV h2 A2 ks2.length c2] w fun e w' => e = .returned (.bool (sameT (.mk h ks) (.mk h2 ks2))) ∧ Below w.heap.size w w' := by
  induction n with
  | zero => intro ok h h2 ks ks2 A A2 c c2 w h0; omega
  | succ n ih =>
    intro ok h h2 ks ks2 A A2 c c2 w hn hm hm2 hr hr2
    have hl := hm.len
    have hl2 := hm2.len
    have HM := Lib.hid hm
    have HM2 := Lib.hid hm2
    clear hm hm2
    have hcall : ∀ (h h2 : RH) (ls ls2 : List Re) (A A2 : Option Addr) (c c2 : Nat) (w1 : World), T.mk h ls ∈ ks → T.mk h2 ls2 ∈ ks2 → InRow RE ok w1 ls A 0 → InRow RE ok w1 ls2 A2 0 →
      Calls Try.prog 19 #[reV h A ls.length c, reV h2 A2 ls2.length c2] w1 fun e w' => e = .returned (.bool (sameT (.mk h ls) (.mk h2 ls2))) ∧ Below w1.heap.size w1 w' := by
      intro h h2 ls ls2 A A2 c c2 w1 hx hy hr hr2
      have h1 := T.sizes_mem hx
      simp only [T.size] at h1
      exact ih ok h h2 ls ls2 A A2 c c2 w1 (by omega) (HM.out.mem hx) (HM2.out.mem hy) hr hr2
    have HC := Lib.hid hcall
    clear hcall ih
    have HE : Hid (sameT (.mk h ks) (.mk h2 ks2) = (decide (h.k = h2.k) && decide (h.s = h2.s) && sames ks ks2)) := by unfold Hid; simp only [sameT]
    have hq := run_eql_set h.s h2.s
    have hkn : decide (h.k = h2.k) = decide (h.k.toNat = h2.k.toNat) := by
      rw [Bool.eq_iff_iff]; simp [UInt8.toNat_inj]
    rw [hkn] at HE
    clear hkn
    generalize decide (h.s = h2.s) = bs at *
    have hbW := fun o1 o2 => below_new (below_new (Below.refl _ w) o1) o2
    by_cases hk : h.k.toNat = h2.k.toNat
    · have t1 : ((h.k.toNat : Int) == (h2.k.toNat : Int)) = true := by simp; omega
      have HK : Hid (decide (h.k.toNat = h2.k.toNat) = true) := by unfold Hid; simp [hk]
      clear hk
      cases bs with
      | false =>
        go_enter Try.func19, Try.ntmps19
        go_wp2_with fail
        go_ret
        exact ⟨by rw [HE.out]; simp, hbW _ _⟩
      | true =>
        go_enter Try.func19, Try.ntmps19
        go_wp2_with fail
        refine (equalFunc_s ks ks2 A A2 c c2 _ (by omega) (by omega) (hr.below (hbW _ _)) (hr2.below (hbW _ _)) HC.out).mono ?_
        rintro e w1 ⟨rfl, hb1⟩
        have hb2 := below_from (hbW _ _) hb1
        clear hb1
        go_wp2_with fail
        go_ret
        exact ⟨by rw [HE.out, HK.out]; simp, hb2⟩
    · have t1 : ((h.k.toNat : Int) == (h2.k.toNat : Int)) = false := by simp; omega
      go_enter Try.func19, Try.ntmps19
      go_wp2_with fail
      go_ret
      exact ⟨by rw [HE.out]; simp [hk], hbW _ _⟩
end Go.Proofs.Ytbblhhkacdgmiaa
