/- Whether a value is one of an expression: the document's Is. -/
import Derived.Test.YteokbmngebckjaaVj2
import Derived.Test.YteokbmngebckjaaVj3
import Derived.Test.YteokbmngebckjaaBd
namespace Go.Proofs.Yteokbmngebckjaa
open Go.RowKit
set_option linter.unusedVariables false
set_option linter.unusedSimpArgs false

theorem rof_upto (n : Nat) (hm : n ≤ 1000000000) : IH_rof n := by
  induction n with
  | zero => intro okr okv h ks A c h2 ls A2 c2 w h0; omega
  | succ n ih =>
    have ih := ih (by omega)
    intro okr okv h ks A c h2 ls A2 c2 w hn ho hc hc2 hr hr2
    rcases hd : isHd h2 ls.length with _ | _
    · exact rof_no n ih hm okr okv h ks A c h2 ls A2 c2 w hn ho hc hc2 hr hr2 hd
    · rcases ((isHd_iff h2 ls.length).1 hd).2 with ⟨e, _⟩ | ⟨e, _⟩ | ⟨e, _⟩ | ⟨e, _⟩ | ⟨e, _⟩ | e
      · exact rof_1 n ih hm okr okv h ks A c h2 ls A2 c2 w hn ho hc hc2 hr hr2 hd e
      · exact rof_2 n ih hm okr okv h ks A c h2 ls A2 c2 w hn ho hc hc2 hr hr2 hd e
      · by_cases hr0 : h.k = 4
        · exact rof_3y n ih hm okr okv h ks A c h2 ls A2 c2 w hn ho hc hc2 hr hr2 hd e hr0
        · exact rof_3n n ih hm okr okv h ks A c h2 ls A2 c2 w hn ho hc hc2 hr hr2 hd e hr0
      · by_cases hr0 : h.k = 5
        · exact rof_4y n ih hm okr okv h ks A c h2 ls A2 c2 w hn ho hc hc2 hr hr2 hd e hr0
        · exact rof_4n n ih hm okr okv h ks A c h2 ls A2 c2 w hn ho hc hc2 hr hr2 hd e hr0
      · by_cases hr0 : h.k = 5
        · exact rof_5y n ih hm okr okv h ks A c h2 ls A2 c2 w hn ho hc hc2 hr hr2 hd e hr0
        · exact rof_5n n ih hm okr okv h ks A c h2 ls A2 c2 w hn ho hc hc2 hr hr2 hd e hr0
      · exact rof_6 n ih hm okr okv h ks A c h2 ls A2 c2 w hn ho hc hc2 hr hr2 hd e
set_option maxRecDepth 100000 in
set_option maxHeartbeats 4000000 in
/-- is a value one of an expression -/
theorem rIs_any (okr okv : Nat → Prop) (h : RH) (ks : List Re) (A : Option Addr) (c : Nat) (h2 : VH) (ls : List Va) (A2 : Option Addr) (c2 : Nat) (w : World) (hm : T.sizes ks ≤ 900000000) (hm2 : T.sizes ls ≤ 900000000) (hc : ks.length ≤ c) (hc2 : ls.length ≤ c2) (hr : InRow RE okr w ks A 0) (hr2 : InRow VE okv w ls A2 0) :
    Calls Try.prog 24 #[reV h A ks.length c, vaV h2 A2 ls.length c2] w fun e w' => e = .returned (.bool (mayB (.mk h ks) && isB (.mk h2 ls) (.mk h ks))) ∧ Below w.heap.size w w' := by
  obtain ⟨W, hW, hbW, hsW, e1W, e2W⟩ := rv_pre w h A ks.length c h2 A2 ls.length c2
  have CM := Lib.hid (refMay_any h ks A c W hm hc (hr.below hbW))
  have CO : Hid (mayB (.mk h ks) = true → ∀ X, Below W.heap.size W X → Calls Try.prog 48 #[reV h A ks.length c, vaV h2 A2 ls.length c2] X fun e w' => e = .returned (.bool (isB (.mk h2 ls) (.mk h ks))) ∧ Below X.heap.size X w') := fun hh X hX => rof_upto 1000000000 (Nat.le_refl _) okr okv h ks A c h2 ls A2 c2 X (by omega) (may_okT hh) hc hc2 (hr.below (below_from hbW hX)) (hr2.below (below_from hbW hX))
  have HE := Lib.hid hW
  have HB := Lib.hid hbW
  have E1 := Lib.hid e1W
  have E2 := Lib.hid e2W
  clear hW hbW hsW e1W e2W hr hr2
  generalize isB (.mk h2 ls) (.mk h ks) = ib at *
  generalize mayB (.mk h ks) = mb at *
  obtain ⟨x0, x1, x2, x3, x4, x5⟩ := re_at_box E1.out
  go_enter Try.func24, Try.ntmps24
  go_upto_region 1 with fail
  rw [show (w.alloc _).alloc _ = W from HE.out]
  go_wp2_with fail
  refine CM.out.mono ?_
  rintro e w1 ⟨rfl, hb1⟩
  clear x0 x1 x2 x3 x4 x5
  obtain ⟨x0, x1, x2, x3, x4, x5⟩ := re_at_box ((hb1.block _ (lt_of_block E1.out)).trans E1.out)
  obtain ⟨y0, y1, y2⟩ := va_at_box ((hb1.block _ (lt_of_block E2.out)).trans E2.out)
  cases mb with
  | false =>
    go_wp2_with fail
    go_ret
    exact ⟨rfl, below_from HB.out hb1⟩
  | true =>
    have HC := Lib.hid (CO.out rfl w1 hb1)
    have HB1 := Lib.hid (below_from HB.out hb1)
    clear CO CM hb1
    go_wp2_with fail
    refine HC.out.mono ?_
    rintro e w2 ⟨rfl, hb2⟩
    have hq2 := below_from HB1.out hb2
    clear hb2
    go_wp2_with fail
    go_ret
    exact ⟨by simp, hq2⟩
end Go.Proofs.Yteokbmngebckjaa
