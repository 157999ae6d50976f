/- Whether a value is one of an expression: val.Is. -/
import Derived.Test.YteokbmngebckjaaVi2
import Derived.Test.YteokbmngebckjaaVi3
namespace Go.Proofs.Yteokbmngebckjaa
open Go.RowKit
set_option linter.unusedVariables false
set_option linter.unusedSimpArgs false

theorem vis_upto (n : Nat) (hm : n ≤ 1000000000) : IH_vis n := by
  induction n with
  | zero => intro okr okv h ks A c h2 ls A2 c2 w h0; omega
  | succ n ih =>
    have ih := ih (by omega)
    intro okr okv h ks A c h2 ls A2 c2 w hn ho hc hc2 hr hr2
    rcases hd : isHd h2 ls.length with _ | _
    · exact vis_no n ih hm okr okv h ks A c h2 ls A2 c2 w hn ho hc hc2 hr hr2 hd
    · rcases ((isHd_iff h2 ls.length).1 hd).2 with ⟨e, _⟩ | ⟨e, _⟩ | ⟨e, _⟩ | ⟨e, _⟩ | ⟨e, _⟩ | e
      · exact vis_1 n ih hm okr okv h ks A c h2 ls A2 c2 w hn ho hc hc2 hr hr2 hd e
      · exact vis_2 n ih hm okr okv h ks A c h2 ls A2 c2 w hn ho hc hc2 hr hr2 hd e
      · by_cases hr0 : h.k = 4
        · exact vis_3y n ih hm okr okv h ks A c h2 ls A2 c2 w hn ho hc hc2 hr hr2 hd e hr0
        · exact vis_3n n ih hm okr okv h ks A c h2 ls A2 c2 w hn ho hc hc2 hr hr2 hd e hr0
      · by_cases hr0 : h.k = 5
        · exact vis_4y n ih hm okr okv h ks A c h2 ls A2 c2 w hn ho hc hc2 hr hr2 hd e hr0
        · exact vis_4n n ih hm okr okv h ks A c h2 ls A2 c2 w hn ho hc hc2 hr hr2 hd e hr0
      · by_cases hr0 : h.k = 5
        · exact vis_5y n ih hm okr okv h ks A c h2 ls A2 c2 w hn ho hc hc2 hr hr2 hd e hr0
        · exact vis_5n n ih hm okr okv h ks A c h2 ls A2 c2 w hn ho hc hc2 hr hr2 hd e hr0
      · exact vis_6 n ih hm okr okv h ks A c h2 ls A2 c2 w hn ho hc hc2 hr hr2 hd e
set_option maxHeartbeats 4000000 in
theorem idx_vIs {ok : Nat → Prop} {cb : Nat} (p : Va → Bool) (ts : List Va) (A : Option Addr) (c : Nat) (w : World)  (hr : InRow VE ok w ts A 0) (hm : ts.length ≤ 1000000000)
    (hcall : ∀ (h : VH) (ks : List Va) (A1 : Option Addr) (c1 : Nat) (w1 : World), T.mk h ks ∈ ts → ks.length ≤ c1 → InRow VE ok w1 ks A1 0 → Below w.heap.size w w1 →
      Calls Try.prog 58 #[vaV h A1 ks.length c1, .pointer (some ⟨cb, 0, none⟩)] w1 fun e w' => e = .returned (.bool (p (.mk h ks))) ∧ Below w1.heap.size w1 w') :
    Calls Try.prog 74 #[.slice A ts.length c, .func (.func 58) #[] #[.pointer (some ⟨cb, 0, none⟩)]] w fun e w' => e = .returned (.int .i64 (idx p ts)) ∧ Below w.heap.size w w' := by
  have HC := Lib.hid hcall
  clear hcall
  go_enter Try.func74, Try.ntmps74
  go_wp2_with fail
  go_loopw [5, 8] (fun _ i wr => ∃ k : Nat, k ≤ ts.length ∧ i = .int .i64 k ∧ (∀ (j : Nat) (y : Va), j < k → ts[j]? = some y → p y = false) ∧ Below w.heap.size w wr) (fun _ i _ => ts.length - (intOf i).toNat)
  case atStart => exact ⟨0, Nat.zero_le _, rfl, fun j y h => absurd h (by omega), Below.refl _ _⟩
  case round =>
    obtain ⟨k, hk, rfl, hn, hb⟩ := hrel
    have HN := Lib.hid hn
    clear hn
    by_cases hlt : k < ts.length
    · obtain ⟨t, ad, h, ks, A1, c1, hA, hx, rfl, hc1, hr1, q0, q1, q2⟩ := va_at (hr.below hb) hlt
      subst hA
      have HX := Lib.hid hx
      have hmem := List.mem_of_getElem? hx
      clear hx hr
      go_wp2_with fail
      refine (HC.out h ks A1 c1 _ hmem hc1 hr1 hb).mono ?_
      rintro e w1 ⟨rfl, hb1⟩
      have hb2 := below_from hb hb1
      clear hb1 hr1 q0 q1 q2
      rcases hp : p (.mk h ks) with _ | _
      · have HP := Lib.hid hp
        clear hp
        go_wp2_with fail
        go_roundw
        case rel => exact ⟨k + 1, by omega, by go_num, fun j y hj hy => by
          by_cases e : j = k
          · subst e; rw [HX.out] at hy; cases hy; exact HP.out
          · exact HN.out j y (by omega) hy, hb2⟩
        case measure => simp [intOf]; omega
      · have HP := Lib.hid hp
        clear hp
        go_wp2_with fail
        go_ret
        exact ⟨by rw [idx_at _ ts k _ HX.out (fun j y hj hy => HN.out j y hj hy) HP.out]; rfl, hb2⟩
    · have hfin := Lib.hid (idx_none p ts fun j y hy => HN.out j y (by
        have := (List.getElem?_eq_some_iff.1 hy).1; omega) hy)
      go_wp2_with fail
      go_ret
      exact ⟨by rw [hfin.out]; rfl, hb⟩

theorem has_vIs {ok : Nat → Prop} {cb : Nat} (p : Va → Bool) (ts : List Va) (A : Option Addr) (c : Nat) (w : World)  (hr : InRow VE ok w ts A 0) (hm : ts.length ≤ 1000000000)
    (hcall : ∀ (h : VH) (ks : List Va) (A1 : Option Addr) (c1 : Nat) (w1 : World), T.mk h ks ∈ ts → ks.length ≤ c1 → InRow VE ok w1 ks A1 0 → Below w.heap.size w w1 →
      Calls Try.prog 58 #[vaV h A1 ks.length c1, .pointer (some ⟨cb, 0, none⟩)] w1 fun e w' => e = .returned (.bool (p (.mk h ks))) ∧ Below w1.heap.size w1 w') :
    Calls Try.prog 51 #[.slice A ts.length c, .func (.func 58) #[] #[.pointer (some ⟨cb, 0, none⟩)]] w fun e w' => e = .returned (.bool (ts.any p)) ∧ Below w.heap.size w w' := by
  have HC := Lib.hid hcall
  clear hcall
  have HA := Lib.hid (idx_any p ts)
  go_enter Try.func51, Try.ntmps51
  go_wp2_with fail
  refine (idx_vIs p ts A c _ hr hm HC.out).mono ?_
  rintro e w1 ⟨rfl, hb⟩
  go_wp2_with fail
  go_ret
  exact ⟨by rw [← HA.out]; rfl, hb⟩
set_option maxRecDepth 100000 in
set_option maxHeartbeats 4000000 in
theorem vIsLit_any (okv : Nat → Prop) (b : Nat) (h : RH) (ks : List Re) (A : Option Addr) (c : Nat) (h1 : VH) (l1 : List Va) (A1 : Option Addr) (c1 : Nat) (w : World) (hc1 : l1.length ≤ c1) (hr1 : InRow VE okv w l1 A1 0) (hb : w.heap[b]? = some (.cells (reA h A ks.length c) 34 (0, 0)))
    (hcall : ∀ X, Below w.heap.size w X → Calls Try.prog 59 #[reV h A ks.length c, vaV h1 A1 l1.length c1] X fun e w' => e = .returned (.bool (isB (.mk h1 l1) (.mk h ks))) ∧ Below X.heap.size X w') :
    Calls Try.prog 58 #[vaV h1 A1 l1.length c1, .pointer (some ⟨b, 0, none⟩)] w fun e w' => e = .returned (.bool (!isB (.mk h1 l1) (.mk h ks))) ∧ Below w.heap.size w w' := by
  obtain ⟨W, hW⟩ : ∃ W, w.alloc (.cells (vaA h1 A1 l1.length c1) 24) = W := ⟨_, rfl⟩
  have hbW : Below w.heap.size w W := by rw [← hW]; exact below_new (Below.refl _ _) _
  have e1 : W.heap[w.heap.size]? = some (.cells (vaA h1 A1 l1.length c1) 24 (0, 0)) := by rw [← hW]; exact new_at1 _
  obtain ⟨x0, x1, x2, x3, x4, x5⟩ := re_at_box ((hbW.block _ (lt_of_block hb)).trans hb)
  obtain ⟨y0, y1, y2⟩ := va_at_box e1
  have C0 := Lib.hid (hcall W hbW)
  have HE := Lib.hid hW
  have HB := Lib.hid hbW
  clear hW hbW e1 hcall hr1 hb
  generalize isB (.mk h1 l1) (.mk h ks) = b0 at *
  go_enter Try.func58, Try.ntmps58
  go_upto_region 1 with fail
  rw [show w.alloc _ = W from HE.out]
  go_wp2_with fail
  refine C0.out.mono ?_
  rintro e w1 ⟨rfl, hb1⟩
  have hq2 := below_from HB.out hb1
  clear hb1
  go_wp2_with fail
  go_ret
  exact ⟨rfl, hq2⟩
theorem any_not_isB (x : Re) (ls : List Va) : (!ls.any fun v => !isB v x) = ls.all fun v => isB v x := by rw [List.all_eq_not_any_not]
set_option maxRecDepth 100000 in
set_option maxHeartbeats 4000000 in
/-- are values some of an expression -/
theorem vIs_any (okr okv : Nat → Prop) (h : RH) (ks : List Re) (A : Option Addr) (c : Nat) (ls : List Va) (A2 : Option Addr) (c2 : Nat) (w : World) (hm : T.sizes ks ≤ 900000) (hm2 : T.sizes ls ≤ 900000000) (hc : ks.length ≤ c) (hr : InRow RE okr w ks A 0) (hr2 : InRow VE okv w ls A2 0) :
    Calls Try.prog 32 #[reV h A ks.length c, .slice A2 ls.length c2] w fun e w' => e = .returned (.bool (mayB (.mk h ks) && ls.all fun v => isB v (.mk h ks))) ∧ Below w.heap.size w w' := by
  have hl := T.length_le_sizes ls
  obtain ⟨W, hW⟩ : ∃ W, w.alloc (.cells (reA h A ks.length c) 34) = W := ⟨_, rfl⟩
  have hbW : Below w.heap.size w W := by rw [← hW]; exact below_new (Below.refl _ _) _
  have e1W : W.heap[w.heap.size]? = some (.cells (reA h A ks.length c) 34 (0, 0)) := by rw [← hW]; exact new_at1 _
  obtain ⟨V, hV⟩ : ∃ V, W.alloc (.cells (reA h A ks.length c) 34) = V := ⟨_, rfl⟩
  have hbV : Below W.heap.size W V := by rw [← hV]; exact below_new (Below.refl _ _) _
  have e5V : V.heap[W.heap.size]? = some (.cells (reA h A ks.length c) 34 (0, 0)) := by rw [← hV]; exact new_at1 _
  have hbwV := below_from hbW hbV
  have HM : Hid (Calls Try.prog 44 #[.slice (some ⟨W.heap.size, 0, none⟩) 1 1] V fun e w' => e = .returned (.bool (mayB (.mk h ks))) ∧ Below V.heap.size V w') := by
    have := May_any (ok := fun _ => True) [T.mk h ks] (some ⟨W.heap.size, 0, none⟩) 1 V (by simp only [T.sizes, T.size]; omega) (row_one e5V trivial hc ((hr.weak fun _ _ => trivial).below hbwV))
    unfold Hid
    simpa using this
  have E1V := (hbV.block _ (lt_of_block e1W)).trans e1W
  have CF : Hid (mayB (.mk h ks) = true → ∀ X, Below V.heap.size V X → Calls Try.prog 51 #[.slice A2 ls.length c2, .func (.func 58) #[] #[.pointer (some ⟨w.heap.size, 0, none⟩)]] X fun e w' => e = .returned (.bool (ls.any fun v => !isB v (.mk h ks))) ∧ Below X.heap.size X w') := fun hh X hX =>
    has_vIs (cb := w.heap.size) (fun v => !isB v (.mk h ks)) ls A2 c2 X (hr2.below (below_from hbwV hX)) (by omega) fun h1 l1 A1 c1 w1 hm1 hc1 hr1 hbw => by
      have hs := T.sizes_mem hm1
      simp only [T.size] at hs
      have hb2 := below_from hX hbw
      exact vIsLit_any okv w.heap.size h ks A c h1 l1 A1 c1 w1 hc1 hr1 ((hb2.block _ (lt_of_block E1V)).trans E1V) fun Y hY => vis_upto 1000000000 (Nat.le_refl _) okr okv h ks A c h1 l1 A1 c1 Y (by omega) (may_okT hh) hc hc1 (hr.below (below_from (below_from hbwV hb2) hY)) (hr1.below hY)
  have HX := Lib.hid (any_not_isB (.mk h ks) ls)
  have HE := Lib.hid hW
  have HV := Lib.hid hV
  have HB := Lib.hid hbwV
  have E1 := Lib.hid e1W
  clear hW hbW e1W hV hbV e5V hbwV hr hr2 E1V
  generalize (ls.any fun v => !isB v (.mk h ks)) = ab at *
  generalize (ls.all fun v => isB v (.mk h ks)) = aa at *
  generalize mayB (.mk h ks) = mb at *
  go_enter Try.func32, Try.ntmps32
  go_upto_region 1 with fail
  rw [show w.alloc _ = W from HE.out]
  obtain ⟨x0, x1, x2, x3, x4, x5⟩ := re_at_box E1.out
  go_wp2_with fail
  rw [show W.alloc _ = V from HV.out]
  refine HM.out.mono ?_
  rintro e w1 ⟨rfl, hb1⟩
  clear x0 x1 x2 x3 x4 x5 HM
  cases mb with
  | false =>
    have hq2 := below_from HB.out hb1
    clear hb1 CF
    go_wp2_with fail
    go_ret
    exact ⟨rfl, hq2⟩
  | true =>
    have HC := Lib.hid (CF.out rfl w1 hb1)
    have HB1 := Lib.hid (below_from HB.out hb1)
    clear hb1 CF
    go_wp2_with fail
    refine HC.out.mono ?_
    rintro e w2 ⟨rfl, hb2⟩
    have hq2 := below_from HB1.out hb2
    clear hb2
    go_wp2_with fail
    go_ret
    exact ⟨by rw [← HX.out]; simp, hq2⟩
end Go.Proofs.Yteokbmngebckjaa
