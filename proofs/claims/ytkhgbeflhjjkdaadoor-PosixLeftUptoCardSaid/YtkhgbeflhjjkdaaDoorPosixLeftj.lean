/- What is left behind a byte stands for what is left of what the expression stands for: it fits the same texts. For every input that is not too large. -/
import Derived.Test.YtkhgbeflhjjkdaaDoorBr
import Derived.Test.YtkhgbeflhjjkdaaDoorBs
import Derived.Test.YtkhgbeflhjjkdaaDoorBm
import Derived.Test.YtkhgbeflhjjkdaaDoorBg
namespace Go.Proofs.YtkhgbeflhjjkdaaDoor
open Go.RowKit
set_option linter.unusedVariables false
set_option linter.unusedSimpArgs false

theorem may_bareL {t : Co} (h : okC t = true) (hz : t.size ≤ 900) : mayB (bareT t) = true := by
  have h1 := bare_ok t h
  have h2 := bare_size t
  unfold mayB
  simp only [Bool.and_eq_true, decide_eq_true_eq]
  exact ⟨h1, by omega⟩
theorem left_size {d : UInt8} {t : Co} (h : okC t = true) (hz : t.size ≤ 20) : (stepC d t).size ≤ 440 := by
  have h1 := step_size d t h
  have h2 : (t.size + 1) * (t.size + 1) ≤ 21 * 21 := Nat.mul_le_mul (by omega) (by omega)
  omega
set_option maxRecDepth 100000 in
set_option maxHeartbeats 16000000 in
theorem posixLeft_walk (h : RH) (ks : List Re) (A : Option Addr) (c : Nat) (S : ByteArray) (w : World) (hm : T.sizes ks ≤ 1048576) (hc : ks.length ≤ c) (hr : InRow RE (fun _ => True) w ks A 0) :
    Calls Tryd.prog 6 #[reV h A ks.length c, .string S] w fun e w' => e = .returned (.bool true) ∧ Below w.heap.size w w' := by
  obtain ⟨W, hW⟩ : ∃ W, w.alloc (.cells (reA h A ks.length c) 39) = W := ⟨_, rfl⟩
  have hbW : Below w.heap.size w W := by rw [← hW]; exact below_new (Below.refl _ _) _
  have e1 : W.heap[w.heap.size]? = some (.cells (reA h A ks.length c) 39 (0, 0)) := by rw [← hW]; exact new_at1 _
  have CG : Hid (∀ X, Below W.heap.size W X → Calls Tryd.prog 22 #[reV h A ks.length c, .int .i64 20] X fun e w' => e = .returned (.bool (greatB 20 (.mk h ks))) ∧ Below X.heap.size X w') := fun X hX => Great_any h ks A c 20 X (by omega) hc (hr.below (below_from hbW hX))
  have CA : Hid (∀ X, Below W.heap.size W X → Calls Tryd.prog 26 #[] X fun e w' => e = .returned (.bool true) ∧ Below X.heap.size X w') := fun X hX => awake17_any X
  have Q1 : Hid (∀ X, Below W.heap.size W X → X.cell? ⟨w.heap.size, 0, none⟩ = some (.int .u8 (h.k.toNat : Int)) ∧ X.cell? ⟨w.heap.size, 1, none⟩ = some (.int .u64 (h.s.a.toNat : Int)) ∧ X.cell? ⟨w.heap.size, 2, none⟩ = some (.int .u64 (h.s.b.toNat : Int)) ∧ X.cell? ⟨w.heap.size, 3, none⟩ = some (.int .u64 (h.s.c.toNat : Int)) ∧ X.cell? ⟨w.heap.size, 4, none⟩ = some (.int .u64 (h.s.d.toNat : Int)) ∧ X.cell? ⟨w.heap.size, 5, none⟩ = some (.slice A ks.length c)) := by
    intro X hX
    obtain ⟨x0, x1, x2, x3, x4, x5⟩ := re_at_box ((hX.block _ (lt_of_block e1)).trans e1)
    exact ⟨x0, x1, x2, x3, x4, x5⟩
  have HR := Lib.hid hr
  have HCC := Lib.hid hc
  have HW := Lib.hid hbW
  have HE := Lib.hid hW
  have E1 := Lib.hid e1
  clear hW hr hbW e1
  rcases hg : greatB 20 (.mk h ks) with _ | _
  · have hsz : 1 + T.sizes ks ≤ 20 := by
      have := of_decide_eq_false hg
      simp only [T.size] at this
      omega
    rw [hg] at CG
    clear hg
    by_cases ls : 5 < S.size
    · have gls : decide (((S.size : Nat) : Int) > 5) = true := by simp; omega
      go_enter Tryd.func6, Tryd.ntmps6
      go_wp2_with fail
      rw [HE.out]
      refine (CG.out _ (Below.refl _ _)).mono ?_
      rintro e w0 ⟨rfl, hb0⟩
      have HB0 := Lib.hid hb0
      clear hb0
      go_wp2_with fail
      refine (CA.out _ HB0.out).mono ?_
      rintro e w4 ⟨rfl, hb4⟩
      have hb := below_from HW.out (below_from HB0.out hb4)
      clear hb4
      go_wp2_with fail
      go_ret
      exact ⟨rfl, hb⟩
    have gls : decide (((S.size : Nat) : Int) > 5) = false := by simp; omega
    by_cases l0 : S.size = 0
    · have gl0 : (((S.size : Nat) : Int) == 0) = true := by rw [l0]; rfl
      clear l0
      go_enter Tryd.func6, Tryd.ntmps6
      go_wp2_with fail
      rw [HE.out]
      refine (CG.out _ (Below.refl _ _)).mono ?_
      rintro e w0 ⟨rfl, hb0⟩
      have HB0 := Lib.hid hb0
      clear hb0
      go_wp2_with fail
      refine (CA.out _ HB0.out).mono ?_
      rintro e w4 ⟨rfl, hb4⟩
      have hb := below_from HW.out (below_from HB0.out hb4)
      clear hb4
      go_wp2_with fail
      go_ret
      exact ⟨rfl, hb⟩
    have gl0 : (((S.size : Nat) : Int) == 0) = false := beq_eq_false_iff_ne.2 (by omega)
    have hlt : 0 < S.size := by omega
    have hS : S.size ≤ 100 := by omega
    have CM : Hid (∀ X, Below W.heap.size W X → Calls Tryd.prog 29 #[reV h A ks.length c] X fun e w' => e = .returned (.bool (mayB (.mk h ks))) ∧ Below X.heap.size X w') := fun X hX => refMay_any h ks A c X (by omega) hc (HR.out.below (below_from HW.out hX))
    have CO : Hid (∀ X, Below W.heap.size W X → Calls Tryd.prog 27 #[reV h A ks.length c] X fun e w' => Below X.heap.size X w' ∧ ((mayB (.mk h ks) = false ∧ e = .returned (.tuple #[coV ⟨0, [], S4.zero⟩ none 0 0, .bool false])) ∨
      (mayB (.mk h ks) = true ∧ ∃ h2 k2 A2 c2, e = .returned (.tuple #[coV h2 A2 k2.length c2, .bool true]) ∧ ofC (.mk h ks) = .mk h2 k2 ∧ k2.length ≤ c2 ∧ InRow CE (fun x => X.heap.size ≤ x) w' k2 A2 0))) := fun X hX => cOf_any h ks A c X (by omega) hc (HR.out.below (below_from HW.out hX))
    clear ls l0
    rcases hmy : mayB (.mk h ks) with _ | _
    · have HMY : Hid (mayB (.mk h ks) = false) := hmy
      rw [hmy] at CM
      clear hmy
      go_enter Tryd.func6, Tryd.ntmps6
      go_wp2_with fail
      rw [HE.out]
      refine (CG.out _ (Below.refl _ _)).mono ?_
      rintro e w0 ⟨rfl, hb0⟩
      have HB0 := Lib.hid hb0
      obtain ⟨x0, x1, x2, x3, x4, x5⟩ := Q1.out _ hb0
      clear hb0
      go_wp2_with fail
      refine (CO.out _ HB0.out).mono ?_
      rintro e w1 ⟨hb1, (⟨_, rfl⟩ | ⟨hmt, _⟩)⟩
      case inr => rw [HMY.out] at hmt; cases hmt
      obtain ⟨hc, hhc⟩ : ∃ hc : CH, hc = ⟨0, [], S4.zero⟩ := ⟨_, rfl⟩
      obtain ⟨kc, hkc⟩ : ∃ kc : List Co, kc = [] := ⟨_, rfl⟩
      obtain ⟨Ac, hAc⟩ : ∃ Ac : Option Addr, Ac = none := ⟨_, rfl⟩
      obtain ⟨cc, hcc⟩ : ∃ cc : Nat, cc = 0 := ⟨_, rfl⟩
      rw [show coV ⟨0, [], S4.zero⟩ none 0 0 = coV hc Ac kc.length cc by rw [hhc, hkc, hAc, hcc]; rfl]
      obtain ⟨U, hU⟩ : ∃ U, w1.alloc (.cells (coA hc Ac kc.length cc) 27) = U := ⟨_, rfl⟩
      have hbU : Below w1.heap.size w1 U := by rw [← hU]; exact below_new (Below.refl _ _) _
      have n5 : U.heap[w1.heap.size]? = some (.cells (coA hc Ac kc.length cc) 27 (0, 0)) := by rw [← hU]; exact new_at1 _
      obtain ⟨b5, hb5⟩ : ∃ b5, w1.heap.size = b5 := ⟨_, rfl⟩
      rw [hb5] at n5
      have N5 := Lib.hid n5
      have HU := Lib.hid hU
      have HB5 := Lib.hid hb5
      have HBU := Lib.hid (below_from (below_from HB0.out hb1) hbU)
      have HSE : Hid (∀ d, stepE d (.mk hc kc) = 1) := fun d => by rw [hhc, hkc]; rfl
      have HST0 : Hid (∀ (d : UInt8) (X : World), Below U.heap.size U X → Calls Tryd.prog 28 #[coV hc Ac kc.length cc, .int .u8 (d.toNat : Int)] X (StepPost (fun x => True ∧ x < U.heap.size) d (.mk hc kc) X)) := fun d X hX => by
        subst hhc hkc hAc hcc
        exact pStep_any d ⟨0, [], S4.zero⟩ [] none 0 X (by decide) (by decide) (by simp [InRow]) (fun x hx => by simp [T.all, T.alls] at hx; subst hx; decide) (fun ho => absurd ho (by decide))
      clear x0 x1 x2 x3 x4 x5 hb1 hbU n5 hU hb5 hhc hkc hAc hcc HB0
      have Q5 : Hid (∀ X, Below U.heap.size U X → X.cell? ⟨b5, 0, none⟩ = some (.int .u8 (hc.k.toNat : Int)) ∧ X.cell? ⟨b5, 1, none⟩ = some (.string (str hc.b)) ∧ X.cell? ⟨b5, 2, none⟩ = some (.int .u64 (hc.s.a.toNat : Int)) ∧ X.cell? ⟨b5, 3, none⟩ = some (.int .u64 (hc.s.b.toNat : Int)) ∧ X.cell? ⟨b5, 4, none⟩ = some (.int .u64 (hc.s.c.toNat : Int)) ∧ X.cell? ⟨b5, 5, none⟩ = some (.int .u64 (hc.s.d.toNat : Int)) ∧ X.cell? ⟨b5, 6, none⟩ = some (.slice Ac kc.length cc)) := fun X hX => co_at_box ((hX.block _ (lt_of_block N5.out)).trans N5.out)
      have hb5l := lt_of_block N5.out
      obtain ⟨b, hbb⟩ : ∃ b : UInt8, b = S[0]'hlt := ⟨_, rfl⟩
      have ea : ((S[0]'hlt).toNat : Int) = (b.toNat : Int) := by rw [hbb]
      have HBYTE : Hid (b = S[0]'hlt) := hbb
      clear hbb
      have HST := Lib.hid (HST0.out b)
      go_upto_region 4 with fail
      rw [show w1.alloc _ = U from HU.out]
      try rw [HB5.out]
      clear HU
      go_cut [7, 8] from 29 to 35 (fun q e wx => e = .int .i64 (stepE b (.mk hc kc)) ∧ BoxC (fun _ => True) U (stepT b (.mk hc kc)) q wx)
      case first =>
        have hz := Below.refl U.heap.size U
        obtain ⟨u0, u1, u2, u3, u4, u5, u6⟩ := Q5.out _ hz
        go_region_held3 (fun X => X.cell? ⟨b5, 0, none⟩ = some (.int .u8 (hc.k.toNat : Int)) ∧ X.cell? ⟨b5, 1, none⟩ = some (.string (str hc.b)) ∧ X.cell? ⟨b5, 2, none⟩ = some (.int .u64 (hc.s.a.toNat : Int)) ∧ X.cell? ⟨b5, 3, none⟩ = some (.int .u64 (hc.s.b.toNat : Int)) ∧ X.cell? ⟨b5, 4, none⟩ = some (.int .u64 (hc.s.c.toNat : Int)) ∧ X.cell? ⟨b5, 5, none⟩ = some (.int .u64 (hc.s.d.toNat : Int)) ∧ X.cell? ⟨b5, 6, none⟩ = some (.slice Ac kc.length cc))
          ((refine Q5.out _ ?_; (repeat (first | with_reducible exact hz | with_reducible refine Below.drew ?_ | with_reducible refine below_new ?_ _ | (with_reducible refine Below.setCell ?_ (by first | exact Nat.le_refl _ | (simp; done) | (simp; omega)) _)))))
          (first | (go_at_call 28; (with_reducible refine (HST.out _ ?_).mono ?_); (repeat (first | with_reducible exact hz | with_reducible refine Below.drew ?_ | with_reducible refine below_new ?_ _ | (with_reducible refine Below.setCell ?_ (by first | exact Nat.le_refl _ | (simp; done) | (simp; omega)) _))); rintro e wi ⟨hn, kn, An, cn, rfl, en, hcn, hrn, hbi⟩; have EN := Lib.hid en; clear en; (try (first | (have hq : Below (World.alloc U (.cells #[.int .u8 0, .string ⟨#[]⟩, .int .u64 0, .int .u64 0, .int .u64 0, .int .u64 0, .slice none 0 0] 27)).drew.heap.size (World.alloc U (.cells #[.int .u8 0, .string ⟨#[]⟩, .int .u64 0, .int .u64 0, .int .u64 0, .int .u64 0, .slice none 0 0] 27)).drew wi := (by with_reducible exact hbi); have hnk := new_kept hq; obtain ⟨⟨r0, r1, r2, r3, r4, r5, r6⟩, g0, g1, g2, g3, g4, g5, g6⟩ := co_cells hnk; have zr0 := fun o => keep_cell (below_new (Below.refl _ wi) o) r0; have zr1 := fun o => keep_cell (below_new (Below.refl _ wi) o) r1; have zr2 := fun o => keep_cell (below_new (Below.refl _ wi) o) r2; have zr3 := fun o => keep_cell (below_new (Below.refl _ wi) o) r3; have zr4 := fun o => keep_cell (below_new (Below.refl _ wi) o) r4; have zr5 := fun o => keep_cell (below_new (Below.refl _ wi) o) r5; have zr6 := fun o => keep_cell (below_new (Below.refl _ wi) o) r6; have zg0 := fun o => (co_cells (heap_keep1 hnk o)).2.1; have zg1 := fun o => (co_cells (heap_keep1 hnk o)).2.2.1; have zg2 := fun o => (co_cells (heap_keep1 hnk o)).2.2.2.1; have zg3 := fun o => (co_cells (heap_keep1 hnk o)).2.2.2.2.1; have zg4 := fun o => (co_cells (heap_keep1 hnk o)).2.2.2.2.2.1; have zg5 := fun o => (co_cells (heap_keep1 hnk o)).2.2.2.2.2.2.1; have zg6 := fun o => (co_cells (heap_keep1 hnk o)).2.2.2.2.2.2.2) | (have hq : Below (World.alloc (World.drew U) (.cells #[.int .u8 0, .string ⟨#[]⟩, .int .u64 0, .int .u64 0, .int .u64 0, .int .u64 0, .slice none 0 0] 27)).heap.size (World.alloc (World.drew U) (.cells #[.int .u8 0, .string ⟨#[]⟩, .int .u64 0, .int .u64 0, .int .u64 0, .int .u64 0, .slice none 0 0] 27)) wi := (by with_reducible exact hbi); have hnk := new_kept2 hq; obtain ⟨⟨r0, r1, r2, r3, r4, r5, r6⟩, g0, g1, g2, g3, g4, g5, g6⟩ := co_cells hnk; have zr0 := fun o => keep_cell (below_new (Below.refl _ wi) o) r0; have zr1 := fun o => keep_cell (below_new (Below.refl _ wi) o) r1; have zr2 := fun o => keep_cell (below_new (Below.refl _ wi) o) r2; have zr3 := fun o => keep_cell (below_new (Below.refl _ wi) o) r3; have zr4 := fun o => keep_cell (below_new (Below.refl _ wi) o) r4; have zr5 := fun o => keep_cell (below_new (Below.refl _ wi) o) r5; have zr6 := fun o => keep_cell (below_new (Below.refl _ wi) o) r6; have zg0 := fun o => (co_cells (heap_keep1 hnk o)).2.1; have zg1 := fun o => (co_cells (heap_keep1 hnk o)).2.2.1; have zg2 := fun o => (co_cells (heap_keep1 hnk o)).2.2.2.1; have zg3 := fun o => (co_cells (heap_keep1 hnk o)).2.2.2.2.1; have zg4 := fun o => (co_cells (heap_keep1 hnk o)).2.2.2.2.2.1; have zg5 := fun o => (co_cells (heap_keep1 hnk o)).2.2.2.2.2.2.1; have zg6 := fun o => (co_cells (heap_keep1 hnk o)).2.2.2.2.2.2.2))); have hz : Below U.heap.size U wi := (by refine below_from ?_ hbi; (repeat (first | with_reducible exact hz | with_reducible refine Below.drew ?_ | with_reducible refine below_new ?_ _ | (with_reducible refine Below.setCell ?_ (by first | exact Nat.le_refl _ | (simp; done) | (simp; omega)) _)))); obtain ⟨u0, u1, u2, u3, u4, u5, u6⟩ := Q5.out _ hz) | fail)
        all_goals go_wp2_with fail
        all_goals go_meet
        all_goals have hzs := hz.size
        all_goals first
          | (have hlk := lt_of_block hnk
             refine ⟨rfl, _, hn, kn, An, cn, rfl, EN.out, hcn, seven_setCells hnk, ?_, seven_below hz (by omega), by omega⟩
             refine (row_seven (hrn.weak (ok' := fun x => (x < U.heap.size ∨ U.heap.size + 1 ≤ x)) fun x hx => ?_) fun x hx => ?_).weak fun x hx => ⟨trivial, ?_⟩
             · rcases hx with h | h
               · exact .inl h.2
               · exact .inr (by have e : (World.alloc U (.cells #[.int .u8 0, .string ⟨#[]⟩, .int .u64 0, .int .u64 0, .int .u64 0, .int .u64 0, .slice none 0 0] 27)).heap.size = U.heap.size + 1 := World.size_alloc _ _; have h2 : (World.alloc U (.cells #[.int .u8 0, .string ⟨#[]⟩, .int .u64 0, .int .u64 0, .int .u64 0, .int .u64 0, .slice none 0 0] 27)).heap.size ≤ x := h; omega)
             · rcases hx with h | h; omega; omega
             · rcases hx with h | h; omega; omega)
          | (refine ⟨rfl, _, hn, kn, An, cn, rfl, EN.out, hcn, new_at1 (w := wi) _, (hrn.there.below (below_new (Below.refl _ _) _)).weak (fun x hx => ⟨trivial, by have := hx.2; omega⟩), below_new hz _, by omega⟩; done)
          | fail
      case rest =>
        obtain ⟨rfl, b7, hn, kn, An, cn, rfl, en, hcn, n7, hrn, hbD, hb7⟩ := hcut
        obtain ⟨wD, rfl⟩ : ∃ x, x = wc := ⟨_, rfl⟩
        have EN := Lib.hid en
        have N7 := Lib.hid n7
        have HRN := Lib.hid (hrn.weak (ok' := fun _ => True) fun _ _ => trivial)
        have HBD := Lib.hid (below_from HBU.out hbD)
        clear en n7 hrn hbD Q5 HST HST0
        rw [HSE.out]
        obtain ⟨x0, x1, x2, x3, x4, x5⟩ := Q1.out _ HBD.out
        go_wp2_with fail
        refine (CM.out _ HBD.out).mono ?_
        rintro e w5 ⟨rfl, hb5⟩
        have HB9 := Lib.hid (below_from HBD.out hb5)
        clear hb5 x0 x1 x2 x3 x4 x5
        go_wp2_with fail
        refine (CA.out _ HB9.out).mono ?_
        rintro e w4 ⟨rfl, hb4⟩
        have hb := below_from HW.out (below_from HB9.out hb4)
        clear hb4
        go_wp2_with fail
        go_ret
        exact ⟨rfl, hb⟩
    · have HMY : Hid (mayB (.mk h ks) = true) := hmy
      have hgd : Good 1 (ofC (.mk h ks)) := good_of hmy (by decide)
      have hmc := of_may hmy
      have hokr := may_okT hmy
      have hszr : (ofC (.mk h ks)).size ≤ 20 := by rw [of_size _ hokr]; simp only [T.size]; omega
      rw [hmy] at CM
      clear hmy
      go_enter Tryd.func6, Tryd.ntmps6
      go_wp2_with fail
      rw [HE.out]
      refine (CG.out _ (Below.refl _ _)).mono ?_
      rintro e w0 ⟨rfl, hb0⟩
      have HB0 := Lib.hid hb0
      obtain ⟨x0, x1, x2, x3, x4, x5⟩ := Q1.out _ hb0
      clear hb0
      go_wp2_with fail
      refine (CO.out _ HB0.out).mono ?_
      rintro e w1 ⟨hb1, (⟨hmf, _⟩ | ⟨_, hc, kc, Ac, cc, rfl, ec, hcc, hrc⟩)⟩
      case inl => rw [HMY.out] at hmf; cases hmf
      obtain ⟨U, hU⟩ : ∃ U, w1.alloc (.cells (coA hc Ac kc.length cc) 27) = U := ⟨_, rfl⟩
      have hbU : Below w1.heap.size w1 U := by rw [← hU]; exact below_new (Below.refl _ _) _
      have n5 : U.heap[w1.heap.size]? = some (.cells (coA hc Ac kc.length cc) 27 (0, 0)) := by rw [← hU]; exact new_at1 _
      obtain ⟨b5, hb5⟩ : ∃ b5, w1.heap.size = b5 := ⟨_, rfl⟩
      rw [hb5] at n5
      have N5 := Lib.hid n5
      have HU := Lib.hid hU
      have HB5 := Lib.hid hb5
      have HBU := Lib.hid (below_from (below_from HB0.out hb1) hbU)
      rw [ec] at hgd hmc hszr
      have HGD := Lib.hid hgd
      have HMC := Lib.hid hmc
      have HSR := Lib.hid hszr
      have EC := Lib.hid ec
      have HOK := Lib.hid hokr
      have hkz : T.sizes kc ≤ 20 := by simp only [T.size] at hszr; omega
      have hrU := (hrc.below hbU).there
      have HST0 : Hid (∀ (d : UInt8) (X : World), Below U.heap.size U X → Calls Tryd.prog 28 #[coV hc Ac kc.length cc, .int .u8 (d.toNat : Int)] X (StepPost (fun x => True ∧ x < U.heap.size) d (.mk hc kc) X)) := fun d X hX =>
        pStep_any d hc kc Ac cc X (by omega) hcc ((hrU.weak fun x hx => ⟨trivial, hx.2⟩).below hX) (good_short hgd) (fun _ => good_two hgd)
      clear x0 x1 x2 x3 x4 x5 hb1 hbU n5 hU hb5 hgd hmc hszr ec hokr hrc hrU HB0
      have Q5 : Hid (∀ X, Below U.heap.size U X → X.cell? ⟨b5, 0, none⟩ = some (.int .u8 (hc.k.toNat : Int)) ∧ X.cell? ⟨b5, 1, none⟩ = some (.string (str hc.b)) ∧ X.cell? ⟨b5, 2, none⟩ = some (.int .u64 (hc.s.a.toNat : Int)) ∧ X.cell? ⟨b5, 3, none⟩ = some (.int .u64 (hc.s.b.toNat : Int)) ∧ X.cell? ⟨b5, 4, none⟩ = some (.int .u64 (hc.s.c.toNat : Int)) ∧ X.cell? ⟨b5, 5, none⟩ = some (.int .u64 (hc.s.d.toNat : Int)) ∧ X.cell? ⟨b5, 6, none⟩ = some (.slice Ac kc.length cc)) := fun X hX => co_at_box ((hX.block _ (lt_of_block N5.out)).trans N5.out)
      have hb5l := lt_of_block N5.out
      obtain ⟨b, hbb⟩ : ∃ b : UInt8, b = S[0]'hlt := ⟨_, rfl⟩
      have ea : ((S[0]'hlt).toNat : Int) = (b.toNat : Int) := by rw [hbb]
      have HBYTE : Hid (b = S[0]'hlt) := hbb
      clear hbb
      have HST := Lib.hid (HST0.out b)
      go_upto_region 4 with fail
      rw [show w1.alloc _ = U from HU.out]
      try rw [HB5.out]
      clear HU
      go_cut [7, 8] from 29 to 35 (fun q e wx => e = .int .i64 (stepE b (.mk hc kc)) ∧ BoxC (fun _ => True) U (stepT b (.mk hc kc)) q wx)
      case first =>
        have hz := Below.refl U.heap.size U
        obtain ⟨u0, u1, u2, u3, u4, u5, u6⟩ := Q5.out _ hz
        go_region_held3 (fun X => X.cell? ⟨b5, 0, none⟩ = some (.int .u8 (hc.k.toNat : Int)) ∧ X.cell? ⟨b5, 1, none⟩ = some (.string (str hc.b)) ∧ X.cell? ⟨b5, 2, none⟩ = some (.int .u64 (hc.s.a.toNat : Int)) ∧ X.cell? ⟨b5, 3, none⟩ = some (.int .u64 (hc.s.b.toNat : Int)) ∧ X.cell? ⟨b5, 4, none⟩ = some (.int .u64 (hc.s.c.toNat : Int)) ∧ X.cell? ⟨b5, 5, none⟩ = some (.int .u64 (hc.s.d.toNat : Int)) ∧ X.cell? ⟨b5, 6, none⟩ = some (.slice Ac kc.length cc))
          ((refine Q5.out _ ?_; (repeat (first | with_reducible exact hz | with_reducible refine Below.drew ?_ | with_reducible refine below_new ?_ _ | (with_reducible refine Below.setCell ?_ (by first | exact Nat.le_refl _ | (simp; done) | (simp; omega)) _)))))
          (first | (go_at_call 28; (with_reducible refine (HST.out _ ?_).mono ?_); (repeat (first | with_reducible exact hz | with_reducible refine Below.drew ?_ | with_reducible refine below_new ?_ _ | (with_reducible refine Below.setCell ?_ (by first | exact Nat.le_refl _ | (simp; done) | (simp; omega)) _))); rintro e wi ⟨hn, kn, An, cn, rfl, en, hcn, hrn, hbi⟩; have EN := Lib.hid en; clear en; (try (first | (have hq : Below (World.alloc U (.cells #[.int .u8 0, .string ⟨#[]⟩, .int .u64 0, .int .u64 0, .int .u64 0, .int .u64 0, .slice none 0 0] 27)).drew.heap.size (World.alloc U (.cells #[.int .u8 0, .string ⟨#[]⟩, .int .u64 0, .int .u64 0, .int .u64 0, .int .u64 0, .slice none 0 0] 27)).drew wi := (by with_reducible exact hbi); have hnk := new_kept hq; obtain ⟨⟨r0, r1, r2, r3, r4, r5, r6⟩, g0, g1, g2, g3, g4, g5, g6⟩ := co_cells hnk; have zr0 := fun o => keep_cell (below_new (Below.refl _ wi) o) r0; have zr1 := fun o => keep_cell (below_new (Below.refl _ wi) o) r1; have zr2 := fun o => keep_cell (below_new (Below.refl _ wi) o) r2; have zr3 := fun o => keep_cell (below_new (Below.refl _ wi) o) r3; have zr4 := fun o => keep_cell (below_new (Below.refl _ wi) o) r4; have zr5 := fun o => keep_cell (below_new (Below.refl _ wi) o) r5; have zr6 := fun o => keep_cell (below_new (Below.refl _ wi) o) r6; have zg0 := fun o => (co_cells (heap_keep1 hnk o)).2.1; have zg1 := fun o => (co_cells (heap_keep1 hnk o)).2.2.1; have zg2 := fun o => (co_cells (heap_keep1 hnk o)).2.2.2.1; have zg3 := fun o => (co_cells (heap_keep1 hnk o)).2.2.2.2.1; have zg4 := fun o => (co_cells (heap_keep1 hnk o)).2.2.2.2.2.1; have zg5 := fun o => (co_cells (heap_keep1 hnk o)).2.2.2.2.2.2.1; have zg6 := fun o => (co_cells (heap_keep1 hnk o)).2.2.2.2.2.2.2) | (have hq : Below (World.alloc (World.drew U) (.cells #[.int .u8 0, .string ⟨#[]⟩, .int .u64 0, .int .u64 0, .int .u64 0, .int .u64 0, .slice none 0 0] 27)).heap.size (World.alloc (World.drew U) (.cells #[.int .u8 0, .string ⟨#[]⟩, .int .u64 0, .int .u64 0, .int .u64 0, .int .u64 0, .slice none 0 0] 27)) wi := (by with_reducible exact hbi); have hnk := new_kept2 hq; obtain ⟨⟨r0, r1, r2, r3, r4, r5, r6⟩, g0, g1, g2, g3, g4, g5, g6⟩ := co_cells hnk; have zr0 := fun o => keep_cell (below_new (Below.refl _ wi) o) r0; have zr1 := fun o => keep_cell (below_new (Below.refl _ wi) o) r1; have zr2 := fun o => keep_cell (below_new (Below.refl _ wi) o) r2; have zr3 := fun o => keep_cell (below_new (Below.refl _ wi) o) r3; have zr4 := fun o => keep_cell (below_new (Below.refl _ wi) o) r4; have zr5 := fun o => keep_cell (below_new (Below.refl _ wi) o) r5; have zr6 := fun o => keep_cell (below_new (Below.refl _ wi) o) r6; have zg0 := fun o => (co_cells (heap_keep1 hnk o)).2.1; have zg1 := fun o => (co_cells (heap_keep1 hnk o)).2.2.1; have zg2 := fun o => (co_cells (heap_keep1 hnk o)).2.2.2.1; have zg3 := fun o => (co_cells (heap_keep1 hnk o)).2.2.2.2.1; have zg4 := fun o => (co_cells (heap_keep1 hnk o)).2.2.2.2.2.1; have zg5 := fun o => (co_cells (heap_keep1 hnk o)).2.2.2.2.2.2.1; have zg6 := fun o => (co_cells (heap_keep1 hnk o)).2.2.2.2.2.2.2))); have hz : Below U.heap.size U wi := (by refine below_from ?_ hbi; (repeat (first | with_reducible exact hz | with_reducible refine Below.drew ?_ | with_reducible refine below_new ?_ _ | (with_reducible refine Below.setCell ?_ (by first | exact Nat.le_refl _ | (simp; done) | (simp; omega)) _)))); obtain ⟨u0, u1, u2, u3, u4, u5, u6⟩ := Q5.out _ hz) | fail)
        all_goals go_wp2_with fail
        all_goals go_meet
        all_goals have hzs := hz.size
        all_goals first
          | (have hlk := lt_of_block hnk
             refine ⟨rfl, _, hn, kn, An, cn, rfl, EN.out, hcn, seven_setCells hnk, ?_, seven_below hz (by omega), by omega⟩
             refine (row_seven (hrn.weak (ok' := fun x => (x < U.heap.size ∨ U.heap.size + 1 ≤ x)) fun x hx => ?_) fun x hx => ?_).weak fun x hx => ⟨trivial, ?_⟩
             · rcases hx with h | h
               · exact .inl h.2
               · exact .inr (by have e : (World.alloc U (.cells #[.int .u8 0, .string ⟨#[]⟩, .int .u64 0, .int .u64 0, .int .u64 0, .int .u64 0, .slice none 0 0] 27)).heap.size = U.heap.size + 1 := World.size_alloc _ _; have h2 : (World.alloc U (.cells #[.int .u8 0, .string ⟨#[]⟩, .int .u64 0, .int .u64 0, .int .u64 0, .int .u64 0, .slice none 0 0] 27)).heap.size ≤ x := h; omega)
             · rcases hx with h | h; omega; omega
             · rcases hx with h | h; omega; omega)
          | (refine ⟨rfl, _, hn, kn, An, cn, rfl, EN.out, hcn, new_at1 (w := wi) _, (hrn.there.below (below_new (Below.refl _ _) _)).weak (fun x hx => ⟨trivial, by have := hx.2; omega⟩), below_new hz _, by omega⟩; done)
          | fail
      case rest =>
        obtain ⟨rfl, b7, hn, kn, An, cn, rfl, en, hcn, n7, hrn, hbD, hb7⟩ := hcut
        obtain ⟨wD, rfl⟩ : ∃ x, x = wc := ⟨_, rfl⟩
        have EN := Lib.hid en
        have N7 := Lib.hid n7
        have HRN := Lib.hid (hrn.weak (ok' := fun _ => True) fun _ _ => trivial)
        have HBD := Lib.hid (below_from HBU.out hbD)
        clear en n7 hrn hbD Q5 HST HST0
        by_cases he0 : stepE b (.mk hc kc) = 0
        · have hmx : mayC (stepC b (.mk hc kc)) = true ∧ stepT b (.mk hc kc) = stepC b (.mk hc kc) := by
            unfold stepE at he0
            rw [if_pos HMC.out] at he0
            by_cases h2 : mayC (stepC b (.mk hc kc)) = true
            · exact ⟨h2, by unfold stepT; rw [if_pos HMC.out, if_pos h2]⟩
            · rw [if_neg h2] at he0; cases he0
          have ESX : Hid (stepC b (.mk hc kc) = .mk hn kn) := by unfold Hid; rw [← hmx.2]; exact EN.out
          have hmn : mayC (.mk hn kn) = true := by rw [← ESX.out]; exact hmx.1
          have hox := (may_okC hmn).1
          have hzx : (T.mk hn kn : Co).size ≤ 440 := by rw [← ESX.out]; exact left_size (may_okC HMC.out).1 HSR.out
          have hmb : mayB (bareT (.mk hn kn)) = true := may_bareL hox (by omega)
          have hgx : Good 0 (.mk hn kn) := by rw [← EN.out]; exact good_step HGD.out he0
          have HCB : Hid (∀ X, Below wD.heap.size wD X → Calls Tryd.prog 30 #[coV hn An kn.length cn] X fun e w' => Below X.heap.size X w' ∧ ∃ h4 k4 A4 c4, e = .returned (.tuple #[reV h4 A4 k4.length c4, .bool true]) ∧ bareT (.mk hn kn) = .mk h4 k4 ∧ k4.length ≤ c4 ∧ InRow RE (fun x => X.heap.size ≤ x) w' k4 A4 0) := fun X hX => by
            have := cBare_any hn kn An cn X (by simp only [T.size] at hzx; omega) hcn (HRN.out.below hX) (good_short hgx)
            refine this.mono fun e w' hh => ⟨hh.1, ?_⟩
            rcases hh.2 with ⟨h1, _⟩ | ⟨_, h2⟩
            · rw [hmn, hmb] at h1; cases h1
            · exact h2
          have HBS : Hid (∀ (h4 : RH) (k4 : List Re), bareT (.mk hn kn) = .mk h4 k4 → T.sizes k4 ≤ 900000) := fun h4 k4 e => by
            have h2 := bare_size (.mk hn kn)
            rw [e] at h2
            simp only [T.size] at h2 hzx
            omega
          have hext : (S.extract 1 S.size).data.toList = S.data.toList.drop 1 := by simp; exact List.take_of_length_le (by rw [List.length_tail, bs_len]; exact Nat.le_refl _)
          have hcons : S.data.toList = b :: S.data.toList.drop 1 := by
            have h' : 0 < S.data.toList.length := by rw [bs_len]; exact hlt
            rw [HBYTE.out]
            have := List.drop_eq_getElem_cons h'
            rw [List.drop_zero] at this
            exact this
          have HBB : Hid (∀ b1 b2 : Bool, (b1 = true ↔ (mayB (bareT (.mk hn kn)) = true ∧ LT (bareT (.mk hn kn)) (S.extract 1 S.size).data.toList)) → (b2 = true ↔ (mayB (.mk h ks) = true ∧ LT (.mk h ks) S.data.toList)) → b2 = b1) := fun b1 b2 h1 h2 => by
            have hr2 : bareT (.mk hc kc) = .mk h ks := by rw [← EC.out]; exact bare_of _ HOK.out
            rw [hmb, ← LC_bare _ hox, hext, ← ESX.out, step_L b _ (may_okC HMC.out).1, ← hcons, LC_bare _ (may_okC HMC.out).1, hr2] at h1
            rw [HMY.out] at h2
            rw [Bool.eq_iff_iff, h1, h2]
          have g0 : (stepE b (.mk hc kc) != 0) = false := by rw [he0]; rfl
          clear he0 hmx hmn hox hzx hmb hgx hext hcons ea CM HMY HGD HMC HSR EC HOK ESX
          generalize stepE b (.mk hc kc) = se at *
          obtain ⟨z0, z1, z2, z3, z4, z5, z6⟩ := co_at_box N7.out
          go_wp2_with fail
          refine (HCB.out _ (Below.refl _ _)).mono ?_
          rintro e w5 ⟨hb5, h4, k4, A4, c4, rfl, e4, hc4, hr4⟩
          obtain ⟨V, hV⟩ : ∃ V, w5.alloc (.cells (reA h4 A4 k4.length c4) 39) = V := ⟨_, rfl⟩
          have hbV : Below w5.heap.size w5 V := by rw [← hV]; exact below_new (Below.refl _ _) _
          have n9 : V.heap[w5.heap.size]? = some (.cells (reA h4 A4 k4.length c4) 39 (0, 0)) := by rw [← hV]; exact new_at1 _
          have HBV := Lib.hid (below_from (below_from HBD.out hb5) hbV)
          have hm4 := HBS.out h4 k4 e4
          have hr4V := hr4.below hbV
          have F1 : Hid (∀ X, Below V.heap.size V X → Calls Tryd.prog 16 #[reV h4 A4 k4.length c4, .string (S.extract 1 S.size)] X (FitsPost (bareT (.mk hn kn)) (S.extract 1 S.size) X)) := fun X hX => by
            rw [e4]
            exact fits_any h4 k4 A4 c4 (S.extract 1 S.size) X hm4 hc4 (hr4V.below hX) (by rw [← bs_len]; simp; omega)
          have F2 : Hid (∀ X, Below V.heap.size V X → Calls Tryd.prog 16 #[reV h A ks.length c, .string S] X (FitsPost (.mk h ks) S X)) := fun X hX => fits_any h ks A c S X (by omega) HCC.out (HR.out.below (below_from HW.out (below_from HBV.out hX))) hS
          have N9 := Lib.hid n9
          have HVV := Lib.hid hV
          have EV1 := Lib.hid ((HBV.out.block _ (lt_of_block E1.out)).trans E1.out)
          clear z0 z1 z2 z3 z4 z5 z6 hb5 hbV n9 hV hm4 hr4 hr4V HCB HBS e4
          go_upto_region 8 with fail
          rw [show w5.alloc _ = V from HVV.out]
          obtain ⟨b9, hb9⟩ : ∃ b9, w5.heap.size = b9 := ⟨_, rfl⟩
          rw [hb9] at N9 ⊢
          clear hb9 HVV
          have Q : Hid (∀ X, Below V.heap.size V X → X.cell? ⟨w.heap.size, 0, none⟩ = some (.int .u8 (h.k.toNat : Int)) ∧ X.cell? ⟨w.heap.size, 1, none⟩ = some (.int .u64 (h.s.a.toNat : Int)) ∧ X.cell? ⟨w.heap.size, 2, none⟩ = some (.int .u64 (h.s.b.toNat : Int)) ∧ X.cell? ⟨w.heap.size, 3, none⟩ = some (.int .u64 (h.s.c.toNat : Int)) ∧ X.cell? ⟨w.heap.size, 4, none⟩ = some (.int .u64 (h.s.d.toNat : Int)) ∧ X.cell? ⟨w.heap.size, 5, none⟩ = some (.slice A ks.length c) ∧ X.cell? ⟨b9, 0, none⟩ = some (.int .u8 (h4.k.toNat : Int)) ∧ X.cell? ⟨b9, 1, none⟩ = some (.int .u64 (h4.s.a.toNat : Int)) ∧ X.cell? ⟨b9, 2, none⟩ = some (.int .u64 (h4.s.b.toNat : Int)) ∧ X.cell? ⟨b9, 3, none⟩ = some (.int .u64 (h4.s.c.toNat : Int)) ∧ X.cell? ⟨b9, 4, none⟩ = some (.int .u64 (h4.s.d.toNat : Int)) ∧ X.cell? ⟨b9, 5, none⟩ = some (.slice A4 k4.length c4)) := fun X hX => by
            obtain ⟨x0, x1, x2, x3, x4, x5⟩ := re_at_box ((hX.block _ (lt_of_block EV1.out)).trans EV1.out)
            obtain ⟨y0, y1, y2, y3, y4, y5⟩ := re_at_box ((hX.block _ (lt_of_block N9.out)).trans N9.out)
            exact ⟨x0, x1, x2, x3, x4, x5, y0, y1, y2, y3, y4, y5⟩
          have hz := Below.refl V.heap.size V
          refine wp_region_held_drew (S := fun X => X.cell? ⟨w.heap.size, 0, none⟩ = some (.int .u8 (h.k.toNat : Int)) ∧ X.cell? ⟨w.heap.size, 1, none⟩ = some (.int .u64 (h.s.a.toNat : Int)) ∧ X.cell? ⟨w.heap.size, 2, none⟩ = some (.int .u64 (h.s.b.toNat : Int)) ∧ X.cell? ⟨w.heap.size, 3, none⟩ = some (.int .u64 (h.s.c.toNat : Int)) ∧ X.cell? ⟨w.heap.size, 4, none⟩ = some (.int .u64 (h.s.d.toNat : Int)) ∧ X.cell? ⟨w.heap.size, 5, none⟩ = some (.slice A ks.length c) ∧ X.cell? ⟨b9, 0, none⟩ = some (.int .u8 (h4.k.toNat : Int)) ∧ X.cell? ⟨b9, 1, none⟩ = some (.int .u64 (h4.s.a.toNat : Int)) ∧ X.cell? ⟨b9, 2, none⟩ = some (.int .u64 (h4.s.b.toNat : Int)) ∧ X.cell? ⟨b9, 3, none⟩ = some (.int .u64 (h4.s.c.toNat : Int)) ∧ X.cell? ⟨b9, 4, none⟩ = some (.int .u64 (h4.s.d.toNat : Int)) ∧ X.cell? ⟨b9, 5, none⟩ = some (.slice A4 k4.length c4)) (by kernel_rfl) (Q.out _ hz.drew) (fun hHeld => ?_)
          refine wpAnyH_take (i := 0) (oi := ⟨some 54, _, _, _, _, _⟩) (v := .bool true) rfl (by kernel_rfl) (by kernel_rfl) (by kernel_rfl) (fun _ _ _ h => h) (Or.inl ⟨by rfl, ?_⟩) (by assumption) ?_
          · intro wx hSw
            obtain ⟨x0, x1, x2, x3, x4, x5, y0, y1, y2, y3, y4, y5⟩ := hSw
            first | (go_simp; done) | (go_simp; with_reducible rfl) | (go_simp; exact ⟨rfl, rfl, rfl, rfl⟩) | (go_simp; intro hh; exfalso; omega)
          try simp only [Act.put, List.setIfInBounds_toArray, List.set_cons_zero, List.set_cons_succ]
          refine wpAnyH_take (i := 1) (oi := ⟨some 55, _, _, _, _, _⟩) (v := .bool true) rfl (by kernel_rfl) (by kernel_rfl) (by kernel_rfl) (fun _ _ _ h => h) (Or.inl ⟨by rfl, ?_⟩) (by assumption) ?_
          · intro wx hSw
            obtain ⟨x0, x1, x2, x3, x4, x5, y0, y1, y2, y3, y4, y5⟩ := hSw
            first | (go_simp; done) | (go_simp; with_reducible rfl) | (go_simp; exact ⟨rfl, rfl, rfl, rfl⟩) | (go_simp; intro hh; exfalso; omega)
          try simp only [Act.put, List.setIfInBounds_toArray, List.set_cons_zero, List.set_cons_succ]
          refine wpAnyH_take (i := 2) (oi := ⟨some 56, _, _, _, _, _⟩) (v := reV h4 A4 k4.length c4) rfl (by kernel_rfl) (by kernel_rfl) (by kernel_rfl) (fun _ _ _ h => h) (Or.inl ⟨by rfl, ?_⟩) (by assumption) ?_
          · intro wx hSw
            obtain ⟨x0, x1, x2, x3, x4, x5, y0, y1, y2, y3, y4, y5⟩ := hSw
            first | (go_simp; done) | (go_simp; with_reducible rfl) | (go_simp; exact ⟨rfl, rfl, rfl, rfl⟩) | (go_simp; intro hh; exfalso; omega)
          try simp only [Act.put, List.setIfInBounds_toArray, List.set_cons_zero, List.set_cons_succ]
          refine wpAnyH_take (i := 3) (oi := ⟨some 57, _, _, _, _, _⟩) (v := .string S) rfl (by kernel_rfl) (by kernel_rfl) (by kernel_rfl) (fun _ _ _ h => h) (Or.inl ⟨by rfl, ?_⟩) (by assumption) ?_
          · intro wx hSw
            obtain ⟨x0, x1, x2, x3, x4, x5, y0, y1, y2, y3, y4, y5⟩ := hSw
            first | (go_simp; done) | (go_simp; with_reducible rfl) | (go_simp; exact ⟨rfl, rfl, rfl, rfl⟩) | (go_simp; intro hh; exfalso; omega)
          try simp only [Act.put, List.setIfInBounds_toArray, List.set_cons_zero, List.set_cons_succ]
          refine wpAnyH_take (i := 4) (oi := ⟨some 58, _, _, _, _, _⟩) (v := .string (S.extract 1 S.size)) rfl (by kernel_rfl) (by kernel_rfl) (by kernel_rfl) (fun _ _ _ h => h) (Or.inl ⟨by rfl, ?_⟩) (by assumption) ?_
          · intro wx hSw
            obtain ⟨x0, x1, x2, x3, x4, x5, y0, y1, y2, y3, y4, y5⟩ := hSw
            first | (go_simp; done) | (go_simp; with_reducible rfl) | (go_simp; exact ⟨rfl, rfl, rfl, rfl⟩) | (go_simp; intro hh; exfalso; omega)
          try simp only [Act.put, List.setIfInBounds_toArray, List.set_cons_zero, List.set_cons_succ]
          refine wpAnyH_take (i := 6) (oi := ⟨some 60, _, _, _, _, _⟩) (v := reV h A ks.length c) rfl (by kernel_rfl) (by kernel_rfl) (by kernel_rfl) (fun _ _ _ h => h) (Or.inl ⟨by rfl, ?_⟩) (by assumption) ?_
          · intro wx hSw
            obtain ⟨x0, x1, x2, x3, x4, x5, y0, y1, y2, y3, y4, y5⟩ := hSw
            first | (go_simp; done) | (go_simp; with_reducible rfl) | (go_simp; exact ⟨rfl, rfl, rfl, rfl⟩) | (go_simp; intro hh; exfalso; omega)
          try simp only [Act.put, List.setIfInBounds_toArray, List.set_cons_zero, List.set_cons_succ]
          refine wpAnyH_take (i := 7) (oi := ⟨some 61, _, _, _, _, _⟩) (v := .string S) rfl (by kernel_rfl) (by kernel_rfl) (by kernel_rfl) (fun _ _ _ h => h) (Or.inl ⟨by rfl, ?_⟩) (by assumption) ?_
          · intro wx hSw
            obtain ⟨x0, x1, x2, x3, x4, x5, y0, y1, y2, y3, y4, y5⟩ := hSw
            first | (go_simp; done) | (go_simp; with_reducible rfl) | (go_simp; exact ⟨rfl, rfl, rfl, rfl⟩) | (go_simp; intro hh; exfalso; omega)
          try simp only [Act.put, List.setIfInBounds_toArray, List.set_cons_zero, List.set_cons_succ]
          refine wpAnyH_ready (rs := [5]) (by kernel_rfl) (by simp) ?_
          refine AllReadyH.cons (o := ⟨some 59, .call _, _, _, _, _⟩) rfl (fun K hK => ?_) AllReadyH.nil
          have HK := Lib.hid hK
          clear hK
          go_simp
          refine (F1.out _ hz.drew).mono ?_
          rintro e wb ⟨b1, rfl, hb1, hbb⟩
          have hz : Below V.heap.size V wb := below_from hz.drew hbb
          clear hbb F1
          refine HK.out _ _ (Q.out _ hz) (fun hHeld2 => ?_)
          clear HK hHeld
          have hHeld := hHeld2
          clear hHeld2
          try simp only [Act.put, List.setIfInBounds_toArray, List.set_cons_zero, List.set_cons_succ]
          refine wpAnyH_ready (rs := [8]) (by kernel_rfl) (by simp) ?_
          refine AllReadyH.cons (o := ⟨some 62, .call _, _, _, _, _⟩) rfl (fun K hK => ?_) AllReadyH.nil
          have HK := Lib.hid hK
          clear hK
          go_simp
          refine (F2.out _ hz).mono ?_
          rintro e wd ⟨b2, rfl, hb2, hbd⟩
          have hz : Below V.heap.size V wd := below_from hz hbd
          have hbe : b2 = b1 := HBB.out b1 b2 hb1 hb2
          subst hbe
          have gb : (b2 == b2) = true := by cases b2 <;> rfl
          clear hbd F2 hb1 hb2
          refine HK.out _ _ (Q.out _ hz) (fun hHeld2 => ?_)
          clear HK hHeld
          have hHeld := hHeld2
          clear hHeld2
          try simp only [Act.put, List.setIfInBounds_toArray, List.set_cons_zero, List.set_cons_succ]
          refine wpAnyH_take (i := 9) (oi := ⟨some 63, _, _, _, _, _⟩) (v := .bool true) rfl (by kernel_rfl) (by kernel_rfl) (by kernel_rfl) (fun _ _ _ h => h) (Or.inl ⟨by rfl, ?_⟩) (by assumption) ?_
          · intro wx hSw
            obtain ⟨x0, x1, x2, x3, x4, x5, y0, y1, y2, y3, y4, y5⟩ := hSw
            first | (go_simp; done) | (go_simp; with_reducible rfl) | (go_simp; exact ⟨rfl, rfl, rfl, rfl⟩) | (go_simp; intro hh; exfalso; omega)
          try simp only [Act.put, List.setIfInBounds_toArray, List.set_cons_zero, List.set_cons_succ]
          refine wpAnyH_take (i := 10) (oi := ⟨some 64, _, _, _, _, _⟩) (v := .bool true) rfl (by kernel_rfl) (by kernel_rfl) (by kernel_rfl) (fun _ _ _ h => h) (Or.inl ⟨by rfl, ?_⟩) (by assumption) ?_
          · intro wx hSw
            obtain ⟨x0, x1, x2, x3, x4, x5, y0, y1, y2, y3, y4, y5⟩ := hSw
            first | (go_simp; done) | (go_simp; with_reducible rfl) | (go_simp; exact ⟨rfl, rfl, rfl, rfl⟩) | (go_simp; intro hh; exfalso; omega)
          try simp only [Act.put, List.setIfInBounds_toArray, List.set_cons_zero, List.set_cons_succ]
          refine wpAnyH_take (i := 11) (oi := ⟨some 65, _, _, _, _, _⟩) (v := .bool true) rfl (by kernel_rfl) (by kernel_rfl) (by kernel_rfl) (fun _ _ _ h => h) (Or.inl ⟨by rfl, ?_⟩) (by assumption) ?_
          · intro wx hSw
            obtain ⟨x0, x1, x2, x3, x4, x5, y0, y1, y2, y3, y4, y5⟩ := hSw
            first | (go_simp; done) | (go_simp; with_reducible rfl) | (go_simp; exact ⟨rfl, rfl, rfl, rfl⟩) | (go_simp; intro hh; exfalso; omega)
          try simp only [Act.put, List.setIfInBounds_toArray, List.set_cons_zero, List.set_cons_succ]
          refine wpAnyH_ready (rs := [12]) (by kernel_rfl) (by simp) ?_
          refine AllReadyH.cons (o := ⟨some 66, .call _, _, _, _, _⟩) rfl (fun K hK => ?_) AllReadyH.nil
          have HK := Lib.hid hK
          clear hK
          go_simp
          refine (CA.out _ (below_from HBV.out hz)).mono ?_
          rintro e wr ⟨rfl, hbr⟩
          have hz : Below V.heap.size V wr := below_from hz hbr
          refine HK.out _ _ (Q.out _ hz) (fun hHeld2 => ?_)
          clear HK hHeld
          have hHeld := hHeld2
          clear hHeld2
          try simp only [Act.put, List.setIfInBounds_toArray, List.set_cons_zero, List.set_cons_succ]
          refine wpAnyH_take (i := 13) (oi := ⟨some 67, _, _, _, _, _⟩) (v := .bool true) rfl (by kernel_rfl) (by kernel_rfl) (by kernel_rfl) (fun _ _ _ h => h) (Or.inl ⟨by rfl, ?_⟩) (by assumption) ?_
          · intro wx hSw
            obtain ⟨x0, x1, x2, x3, x4, x5, y0, y1, y2, y3, y4, y5⟩ := hSw
            first | (go_simp; done) | (go_simp; with_reducible rfl) | (go_simp; exact ⟨rfl, rfl, rfl, rfl⟩) | (go_simp; intro hh; exfalso; omega)
          try simp only [Act.put, List.setIfInBounds_toArray, List.set_cons_zero, List.set_cons_succ]
          refine wpAnyH_take (i := 14) (oi := ⟨some 4, _, _, _, _, _⟩) (v := .bool true) rfl (by kernel_rfl) (by kernel_rfl) (by kernel_rfl) (fun _ _ _ h => h) (Or.inl ⟨by rfl, ?_⟩) (by assumption) ?_
          · intro wx hSw
            obtain ⟨x0, x1, x2, x3, x4, x5, y0, y1, y2, y3, y4, y5⟩ := hSw
            first | (go_simp; done) | (go_simp; with_reducible rfl) | (go_simp; exact ⟨rfl, rfl, rfl, rfl⟩) | (go_simp; intro hh; exfalso; omega)
          try simp only [Act.put, List.setIfInBounds_toArray, List.set_cons_zero, List.set_cons_succ]
          refine wpAnyH_done (by kernel_rfl) ?_ _
          have hbf := below_from HW.out (below_from HBV.out hz)
          go_wp2_with fail
          go_ret
          exact ⟨rfl, hbf⟩
        · have g0 : (stepE b (.mk hc kc) != 0) = true := by simpa using he0
          clear he0 ea
          generalize stepE b (.mk hc kc) = se at *
          obtain ⟨x0, x1, x2, x3, x4, x5⟩ := Q1.out _ HBD.out
          go_wp2_with fail
          refine (CM.out _ HBD.out).mono ?_
          rintro e w5 ⟨rfl, hb5⟩
          have HB9 := Lib.hid (below_from HBD.out hb5)
          clear hb5 x0 x1 x2 x3 x4 x5
          go_wp2_with fail
          refine (CA.out _ HB9.out).mono ?_
          rintro e w4 ⟨rfl, hb4⟩
          have hb := below_from HW.out (below_from HB9.out hb4)
          clear hb4
          go_wp2_with fail
          go_ret
          exact ⟨rfl, hb⟩
  · rw [hg] at CG
    clear hg
    go_enter Tryd.func6, Tryd.ntmps6
    go_wp2_with fail
    rw [HE.out]
    refine (CG.out _ (Below.refl _ _)).mono ?_
    rintro e w0 ⟨rfl, hb0⟩
    have HB0 := Lib.hid hb0
    clear hb0
    go_wp2_with fail
    refine (CA.out _ HB0.out).mono ?_
    rintro e w4 ⟨rfl, hb4⟩
    have hb := below_from HW.out (below_from HB0.out hb4)
    clear hb4
    go_wp2_with fail
    go_ret
    exact ⟨rfl, hb⟩
namespace lawPosixLeft
open Go.ChangeShapes Go.WideShapes Go.ChangeAt
open Go.ChangeMaps (open_string)
set_option maxRecDepth 100000 in
theorem contract (H : Type) (enc : TypeId × Value → H) (W : World) (base : Nat) (args : Array Value) (ds gs : List (DataW H)) (before : List MemPlace)
    (hval : ∀ (j : Nat) t v, Tryd.f6.params[j]? = some t → args[j]? = some v → Value.okWide Tryd.prog W .any base t v)
    (hW : DataW.Whole enc Tryd.prog Tryd.f6.params.toList Rows.posixLeftSpec.vars false W args.toList ds gs before) (hL : laidMetH Tryd.prog Rows.posixLeftUptoRow.laid W) (hk : Rows.uptoSmall H (ds ++ gs) = true) :
    Calls Tryd.prog 6 args W fun e W' => ∃ v, e = .returned v ∧ Rows.posixLeftSpec.post enc Tryd.prog Tryd.f6 false true false false W args v W' := by
  have hW' := hW
  obtain ⟨p, q, hA0, hV, rfl, hfz, hnd⟩ := hW
  have hA : DataW.TrodAll enc Tryd.prog W 0 (fun _ => true) true Tryd.f6.params.toList args.toList ds p := hA0
  rw [Tryd.params6] at hA hval
  obtain ⟨v0, vs0, d0, ds0, p0, q0, hargs, rfl, rfl, h0, r0⟩ := trodAll_cons hA
  obtain ⟨v1, vs1, d1, ds1, p1, q1, rfl, rfl, rfl, h1, r1⟩ := trodAll_cons r0
  obtain ⟨rfl, rfl, rfl⟩ := trodAll_nil r1
  obtain rfl : args = #[v0, v1] := by cases args; simp_all
  obtain ⟨rfl, rfl⟩ := trodVars_none hV
  have hkk : Rows.uptoBulk d0 + Rows.uptoBulk d1 ≤ 1048576 := by simp [Rows.uptoSmall, Rows.uptoBulkAll] at hk; omega
  obtain ⟨x, kx, A0, c0, rfl, hc0, hr0, hz0⟩ := open_re (hval 0 39 v0 rfl rfl) h0
  obtain ⟨s, rfl, rfl, rfl, hs1⟩ := open_string Tryd.underlying9 (hval 1 9 v1 rfl rfl) h1
  refine (posixLeft_walk x kx A0 c0 s W (by omega) hc0 hr0).mono fun e W' ⟨he, hb⟩ => ?_
  subst he
  exact ⟨_, rfl, post_true Tryd.laidOut (by rw [Tryd.params6]; intro t ht; simp at ht; rcases ht with rfl | rfl <;> exact ⟨by kernel_rfl, of_decide_eq_true (by kernel_rfl)⟩) hW' rfl rfl rfl Tryd.underlying4 hb⟩
theorem laid_met (os : Os) : laidMet Tryd.prog Rows.posixLeftUptoRow.laid ((utfWorld os).forCall (fun _ _ => 0) ⟨#[], #[.agg #[.int .u8 0, .int .u64 0, .int .u64 0, .int .u64 0, .int .u64 0, .slice none 0 0], .string ByteArray.empty], []⟩).memory :=
  laidMet_of_run' 600 (by kernel_rfl) (by kernel_rfl)
theorem reads (os : Os) {H : Type} (enc : TypeId × Value → H) : ∃ places, DataW.whole enc Tryd.prog ((utfWorld os).forCall (fun _ _ => 0) ⟨#[], #[.agg #[.int .u8 0, .int .u64 0, .int .u64 0, .int .u64 0, .int .u64 0, .slice none 0 0], .string ByteArray.empty], []⟩).memory Tryd.f6.params.toList Rows.posixLeftSpec.vars false (#[.agg #[.int .u8 0, .int .u64 0, .int .u64 0, .int .u64 0, .int .u64 0, .slice none 0 0], .string ByteArray.empty] : Array Value).toList 8 = some ([.agg [.lit (.int .u8 0), .agg [.lit (.int .u64 0), .lit (.int .u64 0), .lit (.int .u64 0), .lit (.int .u64 0)], .nil], .lit (.string [])], [], places) :=
  ⟨[], by kernel_rfl⟩
set_option maxRecDepth 100000 in
theorem lifted (os : Os) (started : os.Started) (H : Type) (enc : TypeId × Value → H) (F : Stop.Interp) :
    ReturnsInHanded {} Tryd.checked os 6 .any ((Rows.OpenSpec.upto Rows.posixLeftSpec).preRow enc Tryd.prog Tryd.f6 Rows.posixLeftUptoRow.domain false Rows.posixLeftUptoRow.laid) (((Rows.OpenSpec.upto Rows.posixLeftSpec).at F).post enc Tryd.prog Tryd.f6 false true false false) := by
  obtain ⟨places, hx⟩ := reads os enc
  refine returnsInHanded_of_row (C := Tryd.checked) (s := Rows.OpenSpec.upto Rows.posixLeftSpec) Tryd.own started (by kernel_rfl) Tryd.func6
    (witness_row_at (enc := enc) (C := Tryd.checked) false (utfWorld os) #[.agg #[.int .u8 0, .int .u64 0, .int .u64 0, .int .u64 0, .int .u64 0, .slice none 0 0], .string ByteArray.empty] rfl (by kernel_rfl) (by kernel_rfl) (by kernel_rfl)
      (OpenSpec.preRow_of_cond 8 hx (by kernel_rfl) (fun k hk => by cases hk; kernel_rfl) (by kernel_rfl) (laid_met os))) ?_
  intro W base args ds gs before hval hW _ hcond _ hL _ _
  exact contract H enc W base args ds gs before hval hW hL (hcond _ rfl)
theorem said : Rows.PosixLeftUptoSaid :=
  OpenClaim.holds_of_cond 6 Tryd.f6 rfl rfl rfl rfl rfl rfl rfl ⟨rfl, rfl, rfl, rfl, rfl⟩ rfl rfl rfl rfl rfl (by kernel_rfl) Tryd.func6 (by kernel_rfl)
    (of_decide_eq_true (by kernel_rfl)) (by unfold Func.isWrapper; first | (rw [if_pos (by decide +kernel)]; kernel_rfl) | (rw [if_neg (by decide +kernel)]; exact ⟨rfl, rfl⟩))
    (fun os started H enc _ F => by rw [OpenClaim.pre_eq_preRow]; exact lifted os started H enc F)
theorem plain (f : FuncId) (fn : Func) (hf : Tryd.pinned.checked.prog.funcNamed "quill/quilllaw17.PosixLeft" = some f) (hfn : Tryd.pinned.checked.prog.funcs[f]? = some fn) :
    true = Tryd.pinned.checked.prog.looks [] ∧ ∀ (j : Nat) t, fn.params[j]? = some t → Tryd.pinned.checked.prog.wantsStandIn t = false := by
  obtain rfl : f = 6 := Option.some.inj ((show Tryd.prog.funcNamed "quill/quilllaw17.PosixLeft" = some 6 by kernel_rfl).symm.trans hf) |>.symm
  obtain rfl : fn = Tryd.f6 := (Option.some.inj (Tryd.func6.symm.trans hfn)).symm
  refine ⟨by kernel_rfl, fun j t ht => ?_⟩
  rw [Tryd.params6] at ht
  have hm := Array.mem_of_getElem? ht
  simp at hm
  rcases hm with rfl | rfl
  · exact (show Tryd.prog.wantsStandIn 39 = false by kernel_rfl)
  · exact (show Tryd.prog.wantsStandIn 9 = false by kernel_rfl)
theorem proved : Rows.PosixLeftUptoCardSaid :=
  Claim7.holds_tied_plain_at .later [] _ _ _ _ said (fun _ h => by cases h) (by kernel_rfl) (fun _ h => by cases h) posixLeftUpto_row_tie rfl ⟨rfl, rfl⟩ (by kernel_rfl) rfl plain (by kernel_rfl)
end lawPosixLeft
end Go.Proofs.YtkhgbeflhjjkdaaDoor
