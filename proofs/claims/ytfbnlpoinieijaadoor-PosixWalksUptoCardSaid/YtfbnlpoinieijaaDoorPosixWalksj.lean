/- The steps of any expression by any text, and the bits of the value, or the error, are the document's. For every input that is not too large. -/
import Derived.Test.YtfbnlpoinieijaaDoorBl
import Derived.Test.YtfbnlpoinieijaaDoorBn
import Derived.Test.YtfbnlpoinieijaaDoorBf
import Derived.Test.YtfbnlpoinieijaaDoorBg
namespace Go.Proofs.YtfbnlpoinieijaaDoor
open Go.RowKit
set_option linter.unusedVariables false
set_option linter.unusedSimpArgs false

theorem walkR_facts {t : Re} {s : List UInt8} (hs : s.length ≤ 100) : (walkR stepE stepT t s).1.length ≤ 101 ∧ ∀ x ∈ (walkR stepE stepT t s).1, x.size ≤ 20000 := by
  unfold walkR
  by_cases h1 : mayB t = true
  · rw [if_pos h1]
    by_cases h2 : walkE stepE stepT (ofC t) s = 0
    · rw [if_pos h2]
      exact ⟨by simp only; rw [walkL_len]; omega, fun x hx => (walk_good good_step _ _ (good_of h1 hs) h2 x hx).2.1⟩
    · rw [if_neg h2]
      exact ⟨Nat.zero_le _, fun x hx => by cases hx⟩
  · rw [if_neg h1]
    exact ⟨Nat.zero_le _, fun x hx => by cases hx⟩
set_option maxRecDepth 100000 in
set_option maxHeartbeats 8000000 in
theorem sameAll_any {P Q : Nat → Prop} (L : List Co) (A A2 : Option Addr) (c c2 : Nat) (w : World) (hl : L.length ≤ 1000) (hz : ∀ x ∈ L, x.size ≤ 20000) (hr : InRow CE P w L A 0) (hr2 : InRow CE Q w L A2 0) :
    Calls Tryd.prog 44 #[.slice A L.length c, .slice A2 L.length c2] w fun e w' => e = .returned (.bool true) ∧ Below w.heap.size w w' := by
  have HZ := Lib.hid hz
  have HR := Lib.hid hr
  have HR2 := Lib.hid hr2
  have t2 : ((L.length : Int) != (L.length : Int)) = false := by simp
  clear hz hr hr2
  go_enter Tryd.func44, Tryd.ntmps44
  go_wp2_with fail
  go_loopw [5, 13] (fun _ i wr => ∃ (k : Nat), k ≤ L.length ∧ i = .int .i64 k ∧ Hid (Below w.heap.size w wr)) (fun _ i _ => L.length - (intOf i).toNat)
  case atStart => exact ⟨0, Nat.zero_le _, rfl, Below.refl _ _⟩
  case round =>
    obtain ⟨k, hk, rfl, HB⟩ := hrel
    by_cases hlt : k < L.length
    · obtain ⟨t, ad, h1, ls, A3, c3, hA, hx, rfl, hc3, hr3, q0, q1, q2, q3, q4, q5, q6⟩ := co_at (HR.out.below HB.out) hlt
      obtain ⟨t', ad', h4, ls4, A4, c4, hA', hx', e4, hc4, hr4, p0, p1, p2, p3, p4, p5, p6⟩ := co_at (HR2.out.below HB.out) hlt
      rw [hx] at hx'
      rw [e4] at hx'
      have e5 := Option.some.inj hx'
      injection e5 with a1 a2
      subst a1 a2
      subst hA hA'
      have hs1 := HZ.out _ (List.mem_of_getElem? hx)
      simp only [T.size] at hs1
      have HC : Hid (∀ X, Below wr.heap.size wr X → Calls Tryd.prog 40 #[coV h1 A3 ls.length c3, coV h1 A4 ls.length c4] X fun e w' => e = .returned (.bool true) ∧ Below X.heap.size X w') := fun X hX => by
        have := refSameC_upto (1 + T.sizes ls) (fun _ => True) h1 h1 ls ls A3 A4 c3 c4 X (Nat.le_refl _) (by omega) (by omega) ((hr3.below hX).weak fun _ _ => trivial) ((hr4.below hX).weak fun _ _ => trivial)
        rw [sameC_refl] at this
        exact this
      clear hx hx' hr3 hr4 e4 hs1
      go_wp2_with fail
      go_still_tail 8, (by kernel_rfl)
      go_wp2_with fail
      refine (HC.out _ (Below.refl _ _).drew).mono ?_
      rintro e w1 ⟨rfl, hb1⟩
      have HB2 := Lib.hid (below_from (pw_drewN HB.out 1) hb1)
      clear hb1 q0 q1 q2 q3 q4 q5 q6 p0 p1 p2 p3 p4 p5 p6 HB
      go_wp2_with fail
      go_roundw
      case rel => exact ⟨k + 1, by omega, by go_num, HB2⟩
      case measure => simp [intOf]; omega
    · have hkk : k = L.length := by omega
      subst hkk
      have hb := HB.out
      have g : decide ((L.length : Int) < (L.length : Int)) = false := by simp
      clear hlt hk
      go_wp2_with fail
      go_ret
      exact ⟨rfl, hb⟩
set_option maxRecDepth 100000 in
set_option maxHeartbeats 16000000 in
theorem posixWalks_walk (h : RH) (ks : List Re) (A : Option Addr) (c : Nat) (S : ByteArray) (w : World) (hm : T.sizes ks ≤ 1048576) (hc : ks.length ≤ c) (hr : InRow RE (fun _ => True) w ks A 0) :
    Calls Tryd.prog 10 #[reV h A ks.length c, .string S] w fun e w' => e = .returned (.bool true) ∧ Below w.heap.size w w' := by
  obtain ⟨W, hW⟩ : ∃ W, w.alloc (.cells (reA h A ks.length c) 39) = W := ⟨_, rfl⟩
  have hbW : Below w.heap.size w W := by rw [← hW]; exact below_new (Below.refl _ _) _
  have e1 : W.heap[w.heap.size]? = some (.cells (reA h A ks.length c) 39 (0, 0)) := by rw [← hW]; exact new_at1 _
  have CG : Hid (∀ X, Below W.heap.size W X → Calls Tryd.prog 27 #[reV h A ks.length c, .int .i64 20] X fun e w' => e = .returned (.bool (greatB 20 (.mk h ks))) ∧ Below X.heap.size X w') := fun X hX => Great_any h ks A c 20 X (by omega) hc (hr.below (below_from hbW hX))
  have CA : Hid (∀ X, Below W.heap.size W X → Calls Tryd.prog 45 #[] X fun e w' => e = .returned (.bool true) ∧ Below X.heap.size X w') := fun X hX => awake17_any X
  have Q1 : Hid (∀ X, Below W.heap.size W X → X.cell? ⟨w.heap.size, 0, none⟩ = some (.int .u8 (h.k.toNat : Int)) ∧ X.cell? ⟨w.heap.size, 1, none⟩ = some (.int .u64 (h.s.a.toNat : Int)) ∧ X.cell? ⟨w.heap.size, 2, none⟩ = some (.int .u64 (h.s.b.toNat : Int)) ∧ X.cell? ⟨w.heap.size, 3, none⟩ = some (.int .u64 (h.s.c.toNat : Int)) ∧ X.cell? ⟨w.heap.size, 4, none⟩ = some (.int .u64 (h.s.d.toNat : Int)) ∧ X.cell? ⟨w.heap.size, 5, none⟩ = some (.slice A ks.length c)) := by
    intro X hX
    obtain ⟨x0, x1, x2, x3, x4, x5⟩ := re_at_box ((hX.block _ (lt_of_block e1)).trans e1)
    exact ⟨x0, x1, x2, x3, x4, x5⟩
  have HR := Lib.hid hr
  have HW := Lib.hid hbW
  have HE := Lib.hid hW
  clear hW hr hbW e1
  rcases hg : greatB 20 (.mk h ks) with _ | _
  · have hsz : 1 + T.sizes ks ≤ 20 := by
      have := of_decide_eq_false hg
      simp only [T.size] at this
      omega
    rw [hg] at CG
    clear hg
    by_cases ls : 5 < S.size
    · have gls : decide (((S.size : Nat) : Int) > 5) = true := by simp; omega
      go_enter Tryd.func10, Tryd.ntmps10
      go_wp2_with fail
      rw [HE.out]
      refine (CG.out _ (Below.refl _ _)).mono ?_
      rintro e w0 ⟨rfl, hb0⟩
      have HB0 := Lib.hid hb0
      clear hb0
      go_wp2_with fail
      refine (CA.out _ HB0.out).mono ?_
      rintro e w4 ⟨rfl, hb4⟩
      have hb := below_from HW.out (below_from HB0.out hb4)
      clear hb4
      go_wp2_with fail
      go_ret
      exact ⟨rfl, hb⟩
    have gls : decide (((S.size : Nat) : Int) > 5) = false := by simp; omega
    have CP : Hid (∀ X, Below W.heap.size W X → Calls Tryd.prog 48 #[reV h A ks.length c, .string S] X (WalkPost (walkR stepE stepT (.mk h ks) S.data.toList) X)) := fun X hX => pWalk_any h ks A c S X (by omega) hc (HR.out.below (below_from HW.out hX)) (by omega)
    have CD : Hid (∀ X, Below W.heap.size W X → Calls Tryd.prog 49 #[reV h A ks.length c, .string S] X (WalkPost (walkR stepE stepT (.mk h ks) S.data.toList) X)) := fun X hX => dWalk_any h ks A c S X (by omega) hc (HR.out.below (below_from HW.out hX)) (by omega)
    have CPB : Hid (∀ X, Below W.heap.size W X → Calls Tryd.prog 50 #[reV h A ks.length c, .string S] X fun e w' => e = .returned (.tuple #[.string (str (lastBits (walkR stepE stepT (.mk h ks) S.data.toList)).1), .int .i64 (lastBits (walkR stepE stepT (.mk h ks) S.data.toList)).2]) ∧ Below X.heap.size X w') := fun X hX => pBits_any h ks A c S X (by omega) hc (HR.out.below (below_from HW.out hX)) (by omega)
    have CDB : Hid (∀ X, Below W.heap.size W X → Calls Tryd.prog 51 #[reV h A ks.length c, .string S] X fun e w' => e = .returned (.tuple #[.string (str (lastBits (walkR stepE stepT (.mk h ks) S.data.toList)).1), .int .i64 (lastBits (walkR stepE stepT (.mk h ks) S.data.toList)).2]) ∧ Below X.heap.size X w') := fun X hX => dBits_any h ks A c S X (by omega) hc (HR.out.below (below_from HW.out hX)) (by omega)
    have HF := Lib.hid (walkR_facts (t := .mk h ks) (s := S.data.toList) (by rw [text_len]; omega))
    clear ls
    generalize walkR stepE stepT (.mk h ks) S.data.toList = R at *
    obtain ⟨LL, ee⟩ := R
    obtain ⟨bs, hbs⟩ : ∃ bs, str (lastBits (LL, ee)).1 = bs := ⟨_, rfl⟩
    rw [hbs] at CPB CDB
    clear hbs
    generalize (lastBits (LL, ee)).2 = be at *
    go_enter Tryd.func10, Tryd.ntmps10
    go_wp2_with fail
    rw [HE.out]
    refine (CG.out _ (Below.refl _ _)).mono ?_
    rintro e w0 ⟨rfl, hb0⟩
    have HB0 := Lib.hid hb0
    obtain ⟨x0, x1, x2, x3, x4, x5⟩ := Q1.out _ hb0
    clear hb0 CG
    go_wp2_with fail
    refine (CP.out _ HB0.out).mono ?_
    rintro e w1 ⟨A1, c1, rfl, hc1, hr1, hb1⟩
    have HB1 := Lib.hid (below_from HB0.out hb1)
    have HR1 := Lib.hid hr1
    clear x0 x1 x2 x3 x4 x5 hb1 hr1 HB0
    obtain ⟨x0, x1, x2, x3, x4, x5⟩ := Q1.out _ HB1.out
    go_wp2_with fail
    refine (CD.out _ HB1.out).mono ?_
    rintro e w2 ⟨A2, c2, rfl, hc2, hr2, hb2⟩
    have HB2 := Lib.hid (below_from HB1.out hb2)
    have HR12 := Lib.hid (HR1.out.below hb2)
    have HR2 := Lib.hid hr2
    clear x0 x1 x2 x3 x4 x5 hb2 hr2 HB1 HR1
    obtain ⟨x0, x1, x2, x3, x4, x5⟩ := Q1.out _ HB2.out
    go_wp2_with fail
    refine (CPB.out _ HB2.out).mono ?_
    rintro e w3 ⟨rfl, hb3⟩
    have HB3 := Lib.hid (below_from HB2.out hb3)
    have HR13 := Lib.hid (HR12.out.below hb3)
    have HR23 := Lib.hid (HR2.out.below hb3)
    clear x0 x1 x2 x3 x4 x5 hb3 HB2 HR12 HR2
    obtain ⟨x0, x1, x2, x3, x4, x5⟩ := Q1.out _ HB3.out
    go_wp2_with fail
    refine (CDB.out _ HB3.out).mono ?_
    rintro e w4 ⟨rfl, hb4⟩
    have HB4 := Lib.hid (below_from HB3.out hb4)
    have HSA := Lib.hid (sameAll_any LL A1 A2 c1 c2 w4 (by have : LL.length ≤ 101 := HF.out.1; omega) HF.out.2 (HR13.out.below hb4) (HR23.out.below hb4))
    have g0 : (ee == ee) = true := by simp
    have g1 : (be == be) = true := by simp
    clear x0 x1 x2 x3 x4 x5 hb4 HB3 HR13 HR23 hc1 hc2
    go_wp2_with fail
    refine HSA.out.mono ?_
    rintro e w5 ⟨rfl, hb5⟩
    have HB5 := Lib.hid (below_from HB4.out hb5)
    clear hb5
    go_wp2_with fail
    refine (CA.out _ HB5.out).mono ?_
    rintro e w6 ⟨rfl, hb6⟩
    have hb := below_from HW.out (below_from HB5.out hb6)
    clear hb6
    go_wp2_with fail
    go_ret
    exact ⟨rfl, hb⟩
  · rw [hg] at CG
    clear hg
    go_enter Tryd.func10, Tryd.ntmps10
    go_wp2_with fail
    rw [HE.out]
    refine (CG.out _ (Below.refl _ _)).mono ?_
    rintro e w0 ⟨rfl, hb0⟩
    have HB0 := Lib.hid hb0
    clear hb0
    go_wp2_with fail
    refine (CA.out _ HB0.out).mono ?_
    rintro e w4 ⟨rfl, hb4⟩
    have hb := below_from HW.out (below_from HB0.out hb4)
    clear hb4
    go_wp2_with fail
    go_ret
    exact ⟨rfl, hb⟩
namespace lawPosixWalks
open Go.ChangeShapes Go.WideShapes Go.ChangeAt
open Go.ChangeMaps (open_string)
set_option maxRecDepth 100000 in
theorem contract (H : Type) (enc : TypeId × Value → H) (W : World) (base : Nat) (args : Array Value) (ds gs : List (DataW H)) (before : List MemPlace)
    (hval : ∀ (j : Nat) t v, Tryd.f10.params[j]? = some t → args[j]? = some v → Value.okWide Tryd.prog W .any base t v)
    (hW : DataW.Whole enc Tryd.prog Tryd.f10.params.toList Rows.posixWalksSpec.vars false W args.toList ds gs before) (hL : laidMetH Tryd.prog Rows.posixWalksUptoRow.laid W) (hk : Rows.uptoSmall H (ds ++ gs) = true) :
    Calls Tryd.prog 10 args W fun e W' => ∃ v, e = .returned v ∧ Rows.posixWalksSpec.post enc Tryd.prog Tryd.f10 false true false false W args v W' := by
  have hW' := hW
  obtain ⟨p, q, hA0, hV, rfl, hfz, hnd⟩ := hW
  have hA : DataW.TrodAll enc Tryd.prog W 0 (fun _ => true) true Tryd.f10.params.toList args.toList ds p := hA0
  rw [Tryd.params10] at hA hval
  obtain ⟨v0, vs0, d0, ds0, p0, q0, hargs, rfl, rfl, h0, r0⟩ := trodAll_cons hA
  obtain ⟨v1, vs1, d1, ds1, p1, q1, rfl, rfl, rfl, h1, r1⟩ := trodAll_cons r0
  obtain ⟨rfl, rfl, rfl⟩ := trodAll_nil r1
  obtain rfl : args = #[v0, v1] := by cases args; simp_all
  obtain ⟨rfl, rfl⟩ := trodVars_none hV
  have hkk : Rows.uptoBulk d0 + Rows.uptoBulk d1 ≤ 1048576 := by simp [Rows.uptoSmall, Rows.uptoBulkAll] at hk; omega
  obtain ⟨x, kx, A0, c0, rfl, hc0, hr0, hz0⟩ := open_re (hval 0 39 v0 rfl rfl) h0
  obtain ⟨s, rfl, rfl, rfl, hs1⟩ := open_string Tryd.underlying9 (hval 1 9 v1 rfl rfl) h1
  refine (posixWalks_walk x kx A0 c0 s W (by omega) hc0 hr0).mono fun e W' ⟨he, hb⟩ => ?_
  subst he
  exact ⟨_, rfl, post_true Tryd.laidOut (by rw [Tryd.params10]; intro t ht; simp at ht; rcases ht with rfl | rfl <;> exact ⟨by kernel_rfl, of_decide_eq_true (by kernel_rfl)⟩) hW' rfl rfl rfl Tryd.underlying4 hb⟩
theorem laid_met (os : Os) : laidMet Tryd.prog Rows.posixWalksUptoRow.laid ((utfWorld os).forCall (fun _ _ => 0) ⟨#[], #[.agg #[.int .u8 0, .int .u64 0, .int .u64 0, .int .u64 0, .int .u64 0, .slice none 0 0], .string ByteArray.empty], []⟩).memory :=
  laidMet_of_run' 600 (by kernel_rfl) (by kernel_rfl)
theorem reads (os : Os) {H : Type} (enc : TypeId × Value → H) : ∃ places, DataW.whole enc Tryd.prog ((utfWorld os).forCall (fun _ _ => 0) ⟨#[], #[.agg #[.int .u8 0, .int .u64 0, .int .u64 0, .int .u64 0, .int .u64 0, .slice none 0 0], .string ByteArray.empty], []⟩).memory Tryd.f10.params.toList Rows.posixWalksSpec.vars false (#[.agg #[.int .u8 0, .int .u64 0, .int .u64 0, .int .u64 0, .int .u64 0, .slice none 0 0], .string ByteArray.empty] : Array Value).toList 8 = some ([.agg [.lit (.int .u8 0), .agg [.lit (.int .u64 0), .lit (.int .u64 0), .lit (.int .u64 0), .lit (.int .u64 0)], .nil], .lit (.string [])], [], places) :=
  ⟨[], by kernel_rfl⟩
set_option maxRecDepth 100000 in
theorem lifted (os : Os) (started : os.Started) (H : Type) (enc : TypeId × Value → H) (F : Stop.Interp) :
    ReturnsInHanded {} Tryd.checked os 10 .any ((Rows.OpenSpec.upto Rows.posixWalksSpec).preRow enc Tryd.prog Tryd.f10 Rows.posixWalksUptoRow.domain false Rows.posixWalksUptoRow.laid) (((Rows.OpenSpec.upto Rows.posixWalksSpec).at F).post enc Tryd.prog Tryd.f10 false true false false) := by
  obtain ⟨places, hx⟩ := reads os enc
  refine returnsInHanded_of_row (C := Tryd.checked) (s := Rows.OpenSpec.upto Rows.posixWalksSpec) Tryd.own started (by kernel_rfl) Tryd.func10
    (witness_row_at (enc := enc) (C := Tryd.checked) false (utfWorld os) #[.agg #[.int .u8 0, .int .u64 0, .int .u64 0, .int .u64 0, .int .u64 0, .slice none 0 0], .string ByteArray.empty] rfl (by kernel_rfl) (by kernel_rfl) (by kernel_rfl)
      (OpenSpec.preRow_of_cond 8 hx (by kernel_rfl) (fun k hk => by cases hk; kernel_rfl) (by kernel_rfl) (laid_met os))) ?_
  intro W base args ds gs before hval hW _ hcond _ hL _ _
  exact contract H enc W base args ds gs before hval hW hL (hcond _ rfl)
theorem said : Rows.PosixWalksUptoSaid :=
  OpenClaim.holds_of_cond 10 Tryd.f10 rfl rfl rfl rfl rfl rfl rfl ⟨rfl, rfl, rfl, rfl, rfl⟩ rfl rfl rfl rfl rfl (by kernel_rfl) Tryd.func10 (by kernel_rfl)
    (of_decide_eq_true (by kernel_rfl)) (by unfold Func.isWrapper; first | (rw [if_pos (by decide +kernel)]; kernel_rfl) | (rw [if_neg (by decide +kernel)]; exact ⟨rfl, rfl⟩))
    (fun os started H enc _ F => by rw [OpenClaim.pre_eq_preRow]; exact lifted os started H enc F)
theorem plain (f : FuncId) (fn : Func) (hf : Tryd.pinned.checked.prog.funcNamed "quill/quilllaw17.PosixWalks" = some f) (hfn : Tryd.pinned.checked.prog.funcs[f]? = some fn) :
    true = Tryd.pinned.checked.prog.looks [] ∧ ∀ (j : Nat) t, fn.params[j]? = some t → Tryd.pinned.checked.prog.wantsStandIn t = false := by
  obtain rfl : f = 10 := Option.some.inj ((show Tryd.prog.funcNamed "quill/quilllaw17.PosixWalks" = some 10 by kernel_rfl).symm.trans hf) |>.symm
  obtain rfl : fn = Tryd.f10 := (Option.some.inj (Tryd.func10.symm.trans hfn)).symm
  refine ⟨by kernel_rfl, fun j t ht => ?_⟩
  rw [Tryd.params10] at ht
  have hm := Array.mem_of_getElem? ht
  simp at hm
  rcases hm with rfl | rfl
  · exact (show Tryd.prog.wantsStandIn 39 = false by kernel_rfl)
  · exact (show Tryd.prog.wantsStandIn 9 = false by kernel_rfl)
theorem proved : Rows.PosixWalksUptoCardSaid :=
  Claim7.holds_tied_plain_at .later [] _ _ _ _ said (fun _ h => by cases h) (by kernel_rfl) (fun _ h => by cases h) posixWalksUpto_row_tie rfl ⟨rfl, rfl⟩ (by kernel_rfl) rfl plain (by kernel_rfl)
end lawPosixWalks
end Go.Proofs.YtfbnlpoinieijaaDoor
