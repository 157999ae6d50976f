/- Whether any two expressions are the same is the document's. -/
import Derived.Test.YthagcmpehpgmpaaAwake3
import Derived.Test.YthagcmpehpgmpaaSame2
import Derived.Test.YthagcmpehpgmpaaOpenRe
import Derived.WalkKit
import Derived.OpenShut
import Derived.JoinedCond
namespace Go.Proofs.Ythagcmpehpgmpaa
open Go.RowKit
set_option linter.unusedVariables false
set_option linter.unusedSimpArgs false

set_option maxHeartbeats 4000000 in
theorem rexSame_walk (h h2 : RH) (ks ks2 : List Re) (A A2 : Option Addr) (c c2 : Nat) (w : World) (hm : T.sizes ks ≤ 1048576) (hm2 : T.sizes ks2 ≤ 1048576) (hc : ks.length ≤ c) (hc2 : ks2.length ≤ c2) (hr : InRow RE (fun _ => True) w ks A 0) (hr2 : InRow RE (fun _ => True) w ks2 A2 0) :
    Calls Try.prog 8 #[reV h A ks.length c, reV h2 A2 ks2.length c2] w fun e w' => e = .returned (.bool true) ∧ Below w.heap.size w w' := by
  have hbW := fun o1 o2 => below_new (below_new (Below.refl _ w) o1) o2
  have HB := Lib.hid hbW
  go_enter Try.func8, Try.ntmps8
  go_wp2_with fail
  refine (Great_any h ks A c 200 _ (by omega) hc (hr.below (hbW _ _))).mono ?_
  rintro e w1 ⟨rfl, hb1⟩
  obtain ⟨e1, e2⟩ := two_new (w := w) (.cells #[.int .u8 (h.k.toNat : Int), .int .u64 (h.s.a.toNat : Int), .int .u64 (h.s.b.toNat : Int), .int .u64 (h.s.c.toNat : Int), .int .u64 (h.s.d.toNat : Int), .slice A ks.length c] 43)
    (.cells #[.int .u8 (h2.k.toNat : Int), .int .u64 (h2.s.a.toNat : Int), .int .u64 (h2.s.b.toNat : Int), .int .u64 (h2.s.c.toNat : Int), .int .u64 (h2.s.d.toNat : Int), .slice A2 ks2.length c2] 43)
  have E1 := Lib.hid ((hb1.block _ (lt_of_block e1)).trans e1)
  have E2 := Lib.hid ((hb1.block _ (lt_of_block e2)).trans e2)
  have hb2 := below_from (hbW _ _) hb1
  clear e1 e2 hb1 hbW
  obtain ⟨x0, x1, x2, x3, x4, x5⟩ := re_at_box E1.out
  obtain ⟨y0, y1, y2, y3, y4, y5⟩ := re_at_box E2.out
  cases greatB 200 (.mk h ks) with
  | true =>
    go_wp2_with fail
    refine (awake3_any w1).mono ?_
    rintro e w2 ⟨rfl, hb3⟩
    have hb4 := below_from hb2 hb3
    clear hb3 hb2
    go_wp2_with fail
    go_ret
    exact ⟨rfl, hb4⟩
  | false =>
    go_wp2_with fail
    refine (Great_any h2 ks2 A2 c2 200 _ (by omega) hc2 (hr2.below hb2)).mono ?_
    rintro e w3 ⟨rfl, hb3⟩
    have hb4 := below_from hb2 hb3
    have E3 := Lib.hid ((hb3.block _ (lt_of_block E1.out)).trans E1.out)
    have E4 := Lib.hid ((hb3.block _ (lt_of_block E2.out)).trans E2.out)
    clear x0 x1 x2 x3 x4 x5 y0 y1 y2 y3 y4 y5 E1 E2 hb2 hb3
    cases greatB 200 (.mk h2 ks2) with
    | true =>
      go_wp2_with fail
      refine (awake3_any w3).mono ?_
      rintro e w2 ⟨rfl, hb5⟩
      have hb6 := below_from hb4 hb5
      clear hb4 hb5
      go_wp2_with fail
      go_ret
      exact ⟨rfl, hb6⟩
    | false =>
      obtain ⟨x0, x1, x2, x3, x4, x5⟩ := re_at_box E3.out
      obtain ⟨y0, y1, y2, y3, y4, y5⟩ := re_at_box E4.out
      have C1 := Lib.hid (fun W (hb : Below w.heap.size w W) => refSame_upto 1048577 (fun _ => True) h h2 ks ks2 A A2 c c2 W (by omega) (by decide) (by omega) (hr.below hb) (hr2.below hb))
      have C2 := Lib.hid (fun W (hb : Below w.heap.size w W) => rexSame_upto 1048577 (fun _ => True) h h2 ks ks2 A A2 c c2 W (by omega) (by decide) (by omega) (hr.below hb) (hr2.below hb))
      have C3 := Lib.hid (fun W (hb : Below w.heap.size w W) => rexSame_upto 1048577 (fun _ => True) h2 h ks2 ks A2 A c2 c W (by omega) (by decide) (by omega) (hr2.below hb) (hr.below hb))
      have C4 := Lib.hid (fun W (hb : Below w.heap.size w W) => rexSame_upto 1048577 (fun _ => True) h h ks ks A A c c W (by omega) (by decide) (by omega) (hr.below hb) (hr.below hb))
      simp only [sameT_refl, sameT_comm (.mk h2 ks2) (.mk h ks)] at C3 C4
      generalize sameT (.mk h ks) (.mk h2 ks2) = b at *
      have hbb : (b == b) = true := by simp
      clear hr hr2
      go_wp2_with fail
      refine (C1.out w3 hb4).mono ?_
      rintro e w4 ⟨rfl, hb5⟩
      have E5 := Lib.hid ((hb5.block _ (lt_of_block E3.out)).trans E3.out)
      have E6 := Lib.hid ((hb5.block _ (lt_of_block E4.out)).trans E4.out)
      have hb6 := below_from hb4 hb5
      clear x0 x1 x2 x3 x4 x5 y0 y1 y2 y3 y4 y5 E3 E4 hb4 hb5
      obtain ⟨x0, x1, x2, x3, x4, x5⟩ := re_at_box E5.out
      obtain ⟨y0, y1, y2, y3, y4, y5⟩ := re_at_box E6.out
      go_wp2_with fail
      refine (C2.out w4 hb6).mono ?_
      rintro e w5 ⟨rfl, hb5⟩
      have E3 := Lib.hid ((hb5.block _ (lt_of_block E5.out)).trans E5.out)
      have E4 := Lib.hid ((hb5.block _ (lt_of_block E6.out)).trans E6.out)
      have hb4 := below_from hb6 hb5
      clear x0 x1 x2 x3 x4 x5 y0 y1 y2 y3 y4 y5 E5 E6 hb6 hb5
      obtain ⟨x0, x1, x2, x3, x4, x5⟩ := re_at_box E3.out
      obtain ⟨y0, y1, y2, y3, y4, y5⟩ := re_at_box E4.out
      go_wp2_with fail
      refine (C3.out w5 hb4).mono ?_
      rintro e w6 ⟨rfl, hb5⟩
      have E5 := Lib.hid ((hb5.block _ (lt_of_block E3.out)).trans E3.out)
      have hb6 := below_from hb4 hb5
      clear x0 x1 x2 x3 x4 x5 y0 y1 y2 y3 y4 y5 E3 E4 hb4 hb5
      obtain ⟨x0, x1, x2, x3, x4, x5⟩ := re_at_box E5.out
      go_wp2_with fail
      refine (C4.out w6 hb6).mono ?_
      rintro e w7 ⟨rfl, hb5⟩
      have hb4 := below_from hb6 hb5
      clear x0 x1 x2 x3 x4 x5 E5 hb6 hb5
      go_wp2_with fail
      refine (awake3_any w7).mono ?_
      rintro e w8 ⟨rfl, hb5⟩
      have hb6 := below_from hb4 hb5
      clear hb4 hb5
      go_wp2_with fail
      go_ret
      exact ⟨rfl, hb6⟩
namespace lawRexSame
open Go.ChangeShapes Go.WideShapes Go.ChangeAt
open Go.ChangeMaps (open_string)
theorem contract (H : Type) (enc : TypeId × Value → H) (W : World) (base : Nat) (args : Array Value) (ds gs : List (DataW H)) (before : List MemPlace)
    (hval : ∀ (j : Nat) t v, Try.f8.params[j]? = some t → args[j]? = some v → Value.okWide Try.prog W .any base t v)
    (hW : DataW.Whole enc Try.prog Try.f8.params.toList Rows.rexSameSpec.vars false W args.toList ds gs before) (hk : Rows.uptoSmall H (ds ++ gs) = true) :
    Calls Try.prog 8 args W fun e W' => ∃ v, e = .returned v ∧ Rows.rexSameSpec.post enc Try.prog Try.f8 false true false false W args v W' := by
  have hW' := hW
  obtain ⟨p, q, hA0, hV, rfl, hfz, hnd⟩ := hW
  have hA : DataW.TrodAll enc Try.prog W 0 (fun _ => true) true Try.f8.params.toList args.toList ds p := hA0
  rw [Try.params8] at hA hval
  obtain ⟨v0, vs0, d0, ds0, p0, q0, hargs, rfl, rfl, h0, r0⟩ := trodAll_cons hA
  obtain ⟨v1, vs1, d1, ds1, p1, q1, rfl, rfl, rfl, h1, r1⟩ := trodAll_cons r0
  obtain ⟨rfl, rfl, rfl⟩ := trodAll_nil r1
  obtain rfl : args = #[v0, v1] := by cases args; simp_all
  obtain ⟨rfl, rfl⟩ := trodVars_none hV
  have hkk : Rows.uptoBulk d0 + Rows.uptoBulk d1 ≤ 1048576 := by simp [Rows.uptoSmall, Rows.uptoBulkAll] at hk; omega
  obtain ⟨hx, kx, A0, c0, rfl, hc0, hr0, hz0⟩ := open_re (hval 0 43 v0 rfl rfl) h0
  obtain ⟨hy, ky, A1, c1, rfl, hc1, hr1, hz1⟩ := open_re (hval 1 43 v1 rfl rfl) h1
  refine (rexSame_walk hx hy kx ky A0 A1 c0 c1 W (by omega) (by omega) hc0 hc1 hr0 hr1).mono fun e W' ⟨he, hb⟩ => ?_
  subst he
  exact ⟨_, rfl, post_true Try.laidOut (by rw [Try.params8]; intro t ht; simp at ht; rcases ht with rfl <;> exact ⟨by kernel_rfl, of_decide_eq_true (by kernel_rfl)⟩) hW' rfl rfl rfl Try.underlying4 hb⟩
set_option maxRecDepth 100000 in
theorem lifted (os : Os) (started : os.Started) (H : Type) (enc : TypeId × Value → H) (F : Stop.Interp) :
    ReturnsInHanded {} Try.checked os 8 .any ((Rows.OpenSpec.upto Rows.rexSameSpec).pre6 enc Try.prog Try.f8 Rows.rexSameUptoRow.domain false) (((Rows.OpenSpec.upto Rows.rexSameSpec).at F).post enc Try.prog Try.f8 false true false false) := by
  refine returnsInHanded_of_cond (C := Try.checked) (s := Rows.OpenSpec.upto Rows.rexSameSpec) (k := Rows.uptoSmall) rfl Try.own started (by kernel_rfl) Try.func8
    (OpenSpec.witness (enc := enc) (C := Try.checked) (s := Rows.OpenSpec.upto Rows.rexSameSpec) (k := Rows.uptoSmall) rfl false ⟨#[], #[.agg #[.int .u8 0, .int .u64 0, .int .u64 0, .int .u64 0, .int .u64 0, .slice none 0 0], .agg #[.int .u8 0, .int .u64 0, .int .u64 0, .int .u64 0, .int .u64 0, .slice none 0 0]], []⟩ 8 (by kernel_rfl) (by kernel_rfl) (by kernel_rfl)
      (x := ([.agg [.lit (.int .u8 0), .agg [.lit (.int .u64 0), .lit (.int .u64 0), .lit (.int .u64 0), .lit (.int .u64 0)], .nil], .agg [.lit (.int .u8 0), .agg [.lit (.int .u64 0), .lit (.int .u64 0), .lit (.int .u64 0), .lit (.int .u64 0)], .nil]], [], [])) (by kernel_rfl) rfl (by kernel_rfl)) ?_
  intro W base args ds gs before hval hW _ hk _
  exact contract H enc W base args ds gs before hval hW hk
theorem proved : Rows.RexSameUptoSaid :=
  OpenClaim.holds_of_cond 8 Try.f8 rfl rfl rfl rfl rfl rfl rfl ⟨rfl, rfl, rfl, rfl, rfl⟩ rfl rfl rfl rfl rfl (by kernel_rfl) Try.func8 (by kernel_rfl)
    (of_decide_eq_true (by kernel_rfl)) (by unfold Func.isWrapper; first | (rw [if_pos (by decide +kernel)]; kernel_rfl) | (rw [if_neg (by decide +kernel)]; exact ⟨rfl, rfl⟩))
    (fun os started H enc _ F => lifted os started H enc F)
end lawRexSame
end Go.Proofs.Ythagcmpehpgmpaa
