/- Any coded expression made simpler, and its step by any byte, or the error, are the document's. For every input that is not too large. -/
import Derived.Test.YtkhgbeflhjjkdaaDoorBp
import Derived.Test.YtkhgbeflhjjkdaaDoorBh
import Derived.Test.YtkhgbeflhjjkdaaDoorBf
import Derived.Test.YtkhgbeflhjjkdaaDoorBg
namespace Go.Proofs.YtkhgbeflhjjkdaaDoor
open Go.RowKit
set_option linter.unusedVariables false
set_option linter.unusedSimpArgs false

theorem sstep_sz (d : UInt8) (t : Co) : T.sizes (sstepT d t).kids ≤ 20000 := by
  have h : (sstepT d t).size ≤ 20000 := by
    unfold sstepT
    by_cases h0 : stepE d t = 0
    · rw [if_pos h0]
      have ⟨h1, h2⟩ : okC (stepT d t) = true ∧ (stepT d t).size ≤ 20000 := by
        unfold stepE at h0
        by_cases g1 : mayC t = true
        · rw [if_pos g1] at h0
          by_cases g2 : mayC (stepC d t) = true
          · unfold stepT; rw [if_pos g1, if_pos g2]; exact may_okC g2
          · rw [if_neg g2] at h0; cases h0
        · rw [if_neg g1] at h0; cases h0
      exact Nat.le_trans (simp_size _ h1) h2
    · rw [if_neg h0]; decide
  generalize sstepT d t = z at h ⊢
  obtain ⟨h1, k1⟩ := z
  simp only [T.size, T.kids] at h ⊢
  omega
theorem great_pot5 {t : Co} (h : greatC 60 t = false) (ho : okC t = true) : potV t + 2 * potS t ≤ 500000000 := by
  obtain ⟨hz, hb⟩ := great_few (m := 60) h
  obtain ⟨a, b⟩ := potV_le (m := 100) t ho hb
  have a1 : t.size * (100 + 1) ≤ 60 * 101 := Nat.mul_le_mul hz (by omega)
  have a2 : t.size * (t.size * (100 + 1)) ≤ 60 * (60 * 101) := Nat.mul_le_mul hz a1
  omega
set_option maxRecDepth 100000 in
set_option maxHeartbeats 16000000 in
theorem simpIs_walk (h : CH) (ks : List Co) (A : Option Addr) (c : Nat) (b : UInt8) (w : World) (hm : T.sizes ks ≤ 1048576) (hc : ks.length ≤ c) (hr : InRow CE (fun _ => True) w ks A 0) :
    Calls Tryd.prog 4 #[coV h A ks.length c, .int .u8 (b.toNat : Int)] w fun e w' => e = .returned (.bool true) ∧ Below w.heap.size w w' := by
  obtain ⟨W, hW⟩ : ∃ W, w.alloc (.cells (coA h A ks.length c) 27) = W := ⟨_, rfl⟩
  have hbW : Below w.heap.size w W := by rw [← hW]; exact below_new (Below.refl _ _) _
  have e1 : W.heap[w.heap.size]? = some (.cells (coA h A ks.length c) 27 (0, 0)) := by rw [← hW]; exact new_at1 _
  have CG : Hid (∀ X, Below W.heap.size W X → Calls Tryd.prog 10 #[coV h A ks.length c, .int .i64 60] X fun e w' => e = .returned (.bool (greatC 60 (.mk h ks))) ∧ Below X.heap.size X w') := fun X hX => cGreat_any h ks A c 60 X (by omega) hc (hr.below (below_from hbW hX))
  have CA : Hid (∀ X, Below W.heap.size W X → Calls Tryd.prog 12 #[] X fun e w' => e = .returned (.bool true) ∧ Below X.heap.size X w') := fun X hX => awake18_any X
  have Q1 : Hid (∀ X, Below W.heap.size W X → X.cell? ⟨w.heap.size, 0, none⟩ = some (.int .u8 (h.k.toNat : Int)) ∧ X.cell? ⟨w.heap.size, 1, none⟩ = some (.string (str h.b)) ∧ X.cell? ⟨w.heap.size, 2, none⟩ = some (.int .u64 (h.s.a.toNat : Int)) ∧ X.cell? ⟨w.heap.size, 3, none⟩ = some (.int .u64 (h.s.b.toNat : Int)) ∧ X.cell? ⟨w.heap.size, 4, none⟩ = some (.int .u64 (h.s.c.toNat : Int)) ∧ X.cell? ⟨w.heap.size, 5, none⟩ = some (.int .u64 (h.s.d.toNat : Int)) ∧ X.cell? ⟨w.heap.size, 6, none⟩ = some (.slice A ks.length c)) := by
    intro X hX
    obtain ⟨x0, x1, x2, x3, x4, x5, x6⟩ := co_at_box ((hX.block _ (lt_of_block e1)).trans e1)
    exact ⟨x0, x1, x2, x3, x4, x5, x6⟩
  have HR := Lib.hid hr
  have HW := Lib.hid hbW
  have HE := Lib.hid hW
  have E1 := Lib.hid e1
  clear hW hr hbW e1
  rcases hg : greatC 60 (.mk h ks) with _ | _
  · have hgf := great_few (m := 60) hg
    have hsh : shortC (.mk h ks) := fun x hx => Nat.le_trans (hgf.2 x hx) (by decide)
    have hpot := fun ho => great_pot5 hg ho
    have CP : Hid (∀ X, Below W.heap.size W X → Calls Tryd.prog 13 #[coV h A ks.length c] X (SimpPost (fun _ => True) (.mk h ks) (mayC (.mk h ks)) X)) := fun X hX => simpS_any h ks A c X (by omega) hc (HR.out.below (below_from HW.out hX)) hsh (fun ho => by have := hpot ho; omega)
    have CT : Hid (∀ X, Below W.heap.size W X → Calls Tryd.prog 18 #[coV h A ks.length c, .int .u8 (b.toNat : Int)] X (SStepPostE (fun _ => True) b (.mk h ks) (stepE b (.mk h ks)) X)) := fun X hX => sStep_any b h ks A c X (by omega) hc (HR.out.below (below_from HW.out hX)) hsh hpot
    have CD : Hid (∀ X, Below W.heap.size W X → Calls Tryd.prog 19 #[coV h A ks.length c, .int .u8 (b.toNat : Int)] X (SStepPostE (fun _ => True) b (.mk h ks) (stepE b (.mk h ks)) X)) := fun X hX => dsStep_any b h ks A c X (by omega) hc (HR.out.below (below_from HW.out hX)) hsh hpot
    have CM : Hid (∀ X, Below W.heap.size W X → Calls Tryd.prog 11 #[coV h A ks.length c] X fun e w' => e = .returned (.bool (mayC (.mk h ks))) ∧ Below X.heap.size X w') := fun X hX => refMayC_any h ks A c X (by omega) hc (HR.out.below (below_from HW.out hX)) hsh
    have CO : Hid (mayC (.mk h ks) = true → ∀ X, Below W.heap.size W X → Calls Tryd.prog 21 #[coV h A ks.length c] X (CoPostX (fun _ => True) (simpC (.mk h ks)) X)) := fun hmy X hX => dsimp_all_ _ (may_okC hmy).1 (may_okC hmy).2 (by have := hpot (may_okC hmy).1; omega) h ks rfl _ A c X hc (HR.out.below (below_from HW.out hX))
    have HSZ := Lib.hid (sstep_sz b (.mk h ks))
    have HXT : Hid (simpMT (.mk h ks) = if mayC (.mk h ks) = true then simpC (.mk h ks) else zeroC) := rfl
    have HXS : Hid (mayC (.mk h ks) = true → T.sizes (simpC (.mk h ks)).kids ≤ 20000) := fun hmy => by
      have h1 := simp_size _ (may_okC hmy).1
      have h2 := (may_okC hmy).2
      generalize simpC (.mk h ks) = z at h1 ⊢
      obtain ⟨h3, k3⟩ := z
      simp only [T.size, T.kids] at h1 h2 ⊢
      omega
    rw [hg] at CG
    clear hg hgf hsh hpot
    generalize stepE b (.mk h ks) = se at *
    generalize mayC (.mk h ks) = m at *
    go_enter Tryd.func4, Tryd.ntmps4
    go_wp2_with fail
    rw [HE.out]
    refine (CG.out _ (Below.refl _ _)).mono ?_
    rintro e w0 ⟨rfl, hb0⟩
    have HB0 := Lib.hid hb0
    obtain ⟨x0, x1, x2, x3, x4, x5, x6⟩ := Q1.out _ hb0
    clear hb0 CG
    go_wp2_with fail
    refine (CP.out _ HB0.out).mono ?_
    rintro e w1 ⟨h1, k1, A1, c1, rfl, e1, hc1, hr1, hb1⟩
    obtain ⟨U, hU⟩ : ∃ U, w1.alloc (.cells (coA h1 A1 k1.length c1) 27) = U := ⟨_, rfl⟩
    have hbU : Below w1.heap.size w1 U := by rw [← hU]; exact below_new (Below.refl _ _) _
    have n1 : U.heap[w1.heap.size]? = some (.cells (coA h1 A1 k1.length c1) 27 (0, 0)) := by rw [← hU]; exact new_at1 _
    have HBU := Lib.hid (below_from (below_from HB0.out hb1) hbU)
    have N1 := Lib.hid n1
    have HU := Lib.hid hU
    have HR1 := Lib.hid (hr1.below hbU)
    have EX1 := Lib.hid e1
    clear x0 x1 x2 x3 x4 x5 x6 hU hbU n1 hb1 hr1 e1 HB0 CP
    go_upto_region 4 with fail
    rw [show w1.alloc _ = U from HU.out]
    obtain ⟨b5, hb5⟩ : ∃ b5, w1.heap.size = b5 := ⟨_, rfl⟩
    rw [hb5] at N1 ⊢
    obtain ⟨x0, x1, x2, x3, x4, x5, x6⟩ := Q1.out _ HBU.out
    clear hb5 HU
    go_wp2_with fail
    refine (CT.out _ HBU.out).mono ?_
    rintro e w2 ⟨h2, k2, A2, c2, rfl, e2, hc2, hr2, hb2⟩
    obtain ⟨U2, hU2⟩ : ∃ U2, w2.alloc (.cells (coA h2 A2 k2.length c2) 27) = U2 := ⟨_, rfl⟩
    have hbU2 : Below w2.heap.size w2 U2 := by rw [← hU2]; exact below_new (Below.refl _ _) _
    have n2 : U2.heap[w2.heap.size]? = some (.cells (coA h2 A2 k2.length c2) 27 (0, 0)) := by rw [← hU2]; exact new_at1 _
    have hbUU := below_from hb2 hbU2
    have HBU2 := Lib.hid (below_from HBU.out hbUU)
    have N2 := Lib.hid n2
    have N12 := Lib.hid ((hbUU.block _ (lt_of_block N1.out)).trans N1.out)
    have HU2 := Lib.hid hU2
    have HR12 := Lib.hid (HR1.out.below hbUU)
    have HR2 := Lib.hid (hr2.below hbU2)
    have EX2 := Lib.hid e2
    clear x0 x1 x2 x3 x4 x5 x6 hU2 hbU2 n2 hb2 hr2 e2 HR1 N1 HBU hbUU CT
    go_upto_region 5 with fail
    rw [show w2.alloc _ = U2 from HU2.out]
    obtain ⟨b7, hb7⟩ : ∃ b7, w2.heap.size = b7 := ⟨_, rfl⟩
    rw [hb7] at N2 ⊢
    obtain ⟨x0, x1, x2, x3, x4, x5, x6⟩ := Q1.out _ HBU2.out
    clear hb7 HU2
    go_wp2_with fail
    refine (CD.out _ HBU2.out).mono ?_
    rintro e w3 ⟨h3, k3, A3, c3, rfl, e3, hc3, hr3, hb3⟩
    obtain ⟨V, hV⟩ : ∃ V, w3.alloc (.cells (coA h3 A3 k3.length c3) 27) = V := ⟨_, rfl⟩
    have hbV : Below w3.heap.size w3 V := by rw [← hV]; exact below_new (Below.refl _ _) _
    have n3 : V.heap[w3.heap.size]? = some (.cells (coA h3 A3 k3.length c3) 27 (0, 0)) := by rw [← hV]; exact new_at1 _
    have hbVV := below_from hb3 hbV
    have HBV := Lib.hid (below_from HBU2.out hbVV)
    have N3 := Lib.hid n3
    have N13 := Lib.hid ((hbVV.block _ (lt_of_block N12.out)).trans N12.out)
    have N23 := Lib.hid ((hbVV.block _ (lt_of_block N2.out)).trans N2.out)
    have E13 := Lib.hid ((HBV.out.block _ (lt_of_block E1.out)).trans E1.out)
    have HV := Lib.hid hV
    have HR13 := Lib.hid (HR12.out.below hbVV)
    have HR23 := Lib.hid (HR2.out.below hbVV)
    have HR3 := Lib.hid (hr3.below hbV)
    have hz2 : T.sizes k2 ≤ 20000 := by have := HSZ.out; rw [EX2.out] at this; exact this
    have hz3 : T.sizes k3 ≤ 20000 := by have := HSZ.out; rw [e3] at this; exact this
    have CS : Hid (∀ X, Below V.heap.size V X → Calls Tryd.prog 20 #[coV h2 A2 k2.length c2, coV h3 A3 k3.length c3] X fun e w' => e = .returned (.bool true) ∧ Below X.heap.size X w') := fun X hX => by
      have := refSameC_upto (1 + T.sizes k2) (fun _ => True) h2 h3 k2 k3 A2 A3 c2 c3 X (Nat.le_refl _) (by omega) (by omega) ((HR23.out.below hX).weak fun _ _ => trivial) ((HR3.out.below hX).weak fun _ _ => trivial)
      rw [← EX2.out, ← e3, sameC_refl] at this
      exact this
    clear x0 x1 x2 x3 x4 x5 x6 hV hbV n3 hb3 hr3 e3 HR12 HR2 N12 N2 HBU2 hbVV CD HSZ hz2 hz3
    go_upto_region 6 with fail
    rw [show w3.alloc _ = V from HV.out]
    obtain ⟨b9, hb9⟩ : ∃ b9, w3.heap.size = b9 := ⟨_, rfl⟩
    rw [hb9] at N3 ⊢
    clear hb9 HV
    have g0 : (se == se) = true := by simp
    have gm : (m != m) = false := by cases m <;> rfl
    obtain ⟨x0, x1, x2, x3, x4, x5, x6⟩ := Q1.out _ HBV.out
    go_wp2_with fail
    refine (CM.out _ HBV.out).mono ?_
    rintro e w4 ⟨rfl, hb4⟩
    obtain ⟨y0, y1, y2, y3, y4, y5, y6⟩ := co_at_box ((hb4.block _ (lt_of_block N23.out)).trans N23.out)
    obtain ⟨z0, z1, z2, z3, z4, z5, z6⟩ := co_at_box ((hb4.block _ (lt_of_block N3.out)).trans N3.out)
    clear x0 x1 x2 x3 x4 x5 x6
    go_wp2_with fail
    refine (CS.out _ hb4).mono ?_
    rintro e w5 ⟨rfl, hb5⟩
    have HB5 := Lib.hid (below_from hb4 hb5)
    clear y0 y1 y2 y3 y4 y5 y6 z0 z1 z2 z3 z4 z5 z6 hb4 hb5 CM CS
    go_upto_region 8 with fail
    have hz := HB5.out
    have Q : Hid (∀ X, Below V.heap.size V X → X.cell? ⟨w.heap.size, 0, none⟩ = some (.int .u8 (h.k.toNat : Int)) ∧ X.cell? ⟨w.heap.size, 1, none⟩ = some (.string (str h.b)) ∧ X.cell? ⟨w.heap.size, 2, none⟩ = some (.int .u64 (h.s.a.toNat : Int)) ∧ X.cell? ⟨w.heap.size, 3, none⟩ = some (.int .u64 (h.s.b.toNat : Int)) ∧ X.cell? ⟨w.heap.size, 4, none⟩ = some (.int .u64 (h.s.c.toNat : Int)) ∧ X.cell? ⟨w.heap.size, 5, none⟩ = some (.int .u64 (h.s.d.toNat : Int)) ∧ X.cell? ⟨w.heap.size, 6, none⟩ = some (.slice A ks.length c) ∧ X.cell? ⟨b5, 0, none⟩ = some (.int .u8 (h1.k.toNat : Int)) ∧ X.cell? ⟨b5, 1, none⟩ = some (.string (str h1.b)) ∧ X.cell? ⟨b5, 2, none⟩ = some (.int .u64 (h1.s.a.toNat : Int)) ∧ X.cell? ⟨b5, 3, none⟩ = some (.int .u64 (h1.s.b.toNat : Int)) ∧ X.cell? ⟨b5, 4, none⟩ = some (.int .u64 (h1.s.c.toNat : Int)) ∧ X.cell? ⟨b5, 5, none⟩ = some (.int .u64 (h1.s.d.toNat : Int)) ∧ X.cell? ⟨b5, 6, none⟩ = some (.slice A1 k1.length c1)) := fun X hX => by
      obtain ⟨x0, x1, x2, x3, x4, x5, x6⟩ := co_at_box ((hX.block _ (lt_of_block E13.out)).trans E13.out)
      obtain ⟨p0, p1, p2, p3, p4, p5, p6⟩ := co_at_box ((hX.block _ (lt_of_block N13.out)).trans N13.out)
      exact ⟨x0, x1, x2, x3, x4, x5, x6, p0, p1, p2, p3, p4, p5, p6⟩
    cases m with
    | true =>
      have HX1 : Hid (simpC (.mk h ks) = .mk h1 k1) := by unfold Hid; rw [← EX1.out, HXT.out]; rfl
      have hz1 : T.sizes k1 ≤ 20000 := by have := HXS.out rfl; rw [HX1.out] at this; exact this
      have CO := Lib.hid (fun X (hX : Below V.heap.size V X) => CO.out rfl X (below_from HBV.out hX))
      have CS2 : Hid (∀ (X : World) (h4 : CH) (k4 : List Co) (A4 : Option Addr) (c4 : Nat), Below V.heap.size V X → simpC (.mk h ks) = .mk h4 k4 → InRow CE (fun _ => True) X k4 A4 0 → Calls Tryd.prog 20 #[coV h1 A1 k1.length c1, coV h4 A4 k4.length c4] X fun e w' => e = .returned (.bool true) ∧ Below X.heap.size X w') := fun X h4 k4 A4 c4 hX e4 hr4 => by
        have e5 : T.mk h4 k4 = .mk h1 k1 := by rw [← e4]; exact HX1.out
        have hz4 : T.sizes k4 ≤ 20000 := by injection e5 with a1 a2; rw [a2]; exact hz1
        have := refSameC_upto (1 + T.sizes k1) (fun _ => True) h1 h4 k1 k4 A1 A4 c1 c4 X (Nat.le_refl _) (by omega) (by omega) ((HR13.out.below hX).weak fun _ _ => trivial) hr4
        rw [e5, sameC_refl] at this
        exact this
      clear HXS HXT EX1 EX2 hz1 HB5
      refine wp_region_held_drew (S := fun X => X.cell? ⟨w.heap.size, 0, none⟩ = some (.int .u8 (h.k.toNat : Int)) ∧ X.cell? ⟨w.heap.size, 1, none⟩ = some (.string (str h.b)) ∧ X.cell? ⟨w.heap.size, 2, none⟩ = some (.int .u64 (h.s.a.toNat : Int)) ∧ X.cell? ⟨w.heap.size, 3, none⟩ = some (.int .u64 (h.s.b.toNat : Int)) ∧ X.cell? ⟨w.heap.size, 4, none⟩ = some (.int .u64 (h.s.c.toNat : Int)) ∧ X.cell? ⟨w.heap.size, 5, none⟩ = some (.int .u64 (h.s.d.toNat : Int)) ∧ X.cell? ⟨w.heap.size, 6, none⟩ = some (.slice A ks.length c) ∧ X.cell? ⟨b5, 0, none⟩ = some (.int .u8 (h1.k.toNat : Int)) ∧ X.cell? ⟨b5, 1, none⟩ = some (.string (str h1.b)) ∧ X.cell? ⟨b5, 2, none⟩ = some (.int .u64 (h1.s.a.toNat : Int)) ∧ X.cell? ⟨b5, 3, none⟩ = some (.int .u64 (h1.s.b.toNat : Int)) ∧ X.cell? ⟨b5, 4, none⟩ = some (.int .u64 (h1.s.c.toNat : Int)) ∧ X.cell? ⟨b5, 5, none⟩ = some (.int .u64 (h1.s.d.toNat : Int)) ∧ X.cell? ⟨b5, 6, none⟩ = some (.slice A1 k1.length c1)) (by kernel_rfl) (Q.out _ hz.drew) (fun hHeld => ?_)
      refine wpAnyH_take (i := 0) (oi := ⟨some 46, _, _, _, _, _⟩) (v := .bool true) rfl (by kernel_rfl) (by kernel_rfl) (by kernel_rfl) (fun _ _ _ h => h) (Or.inl ⟨by rfl, ?_⟩) (by assumption) ?_
      · intro wx hSw
        obtain ⟨x0, x1, x2, x3, x4, x5, x6, p0, p1, p2, p3, p4, p5, p6⟩ := hSw
        first | (go_simp; done) | (go_simp; with_reducible rfl) | (go_simp; exact ⟨rfl, rfl, rfl, rfl⟩)
      try simp only [Act.put, List.setIfInBounds_toArray, List.set_cons_zero, List.set_cons_succ]
      refine wpAnyH_take (i := 1) (oi := ⟨some 47, _, _, _, _, _⟩) (v := .bool true) rfl (by kernel_rfl) (by kernel_rfl) (by kernel_rfl) (fun _ _ _ h => h) (Or.inl ⟨by rfl, ?_⟩) (by assumption) ?_
      · intro wx hSw
        obtain ⟨x0, x1, x2, x3, x4, x5, x6, p0, p1, p2, p3, p4, p5, p6⟩ := hSw
        first | (go_simp; done) | (go_simp; with_reducible rfl) | (go_simp; exact ⟨rfl, rfl, rfl, rfl⟩)
      try simp only [Act.put, List.setIfInBounds_toArray, List.set_cons_zero, List.set_cons_succ]
      refine wpAnyH_take (i := 2) (oi := ⟨some 48, _, _, _, _, _⟩) (v := coV h1 A1 k1.length c1) rfl (by kernel_rfl) (by kernel_rfl) (by kernel_rfl) (fun _ _ _ h => h) (Or.inl ⟨by rfl, ?_⟩) (by assumption) ?_
      · intro wx hSw
        obtain ⟨x0, x1, x2, x3, x4, x5, x6, p0, p1, p2, p3, p4, p5, p6⟩ := hSw
        first | (go_simp; done) | (go_simp; with_reducible rfl) | (go_simp; exact ⟨rfl, rfl, rfl, rfl⟩)
      try simp only [Act.put, List.setIfInBounds_toArray, List.set_cons_zero, List.set_cons_succ]
      refine wpAnyH_take (i := 3) (oi := ⟨some 49, _, _, _, _, _⟩) (v := coV h A ks.length c) rfl (by kernel_rfl) (by kernel_rfl) (by kernel_rfl) (fun _ _ _ h => h) (Or.inl ⟨by rfl, ?_⟩) (by assumption) ?_
      · intro wx hSw
        obtain ⟨x0, x1, x2, x3, x4, x5, x6, p0, p1, p2, p3, p4, p5, p6⟩ := hSw
        first | (go_simp; done) | (go_simp; with_reducible rfl) | (go_simp; exact ⟨rfl, rfl, rfl, rfl⟩)
      try simp only [Act.put, List.setIfInBounds_toArray, List.set_cons_zero, List.set_cons_succ]
      refine wpAnyH_ready (rs := [4]) (by kernel_rfl) (by simp) ?_
      refine AllReadyH.cons (o := ⟨some 50, .call _, _, _, _, _⟩) rfl (fun K hK => ?_) AllReadyH.nil
      have HK := Lib.hid hK
      clear hK
      go_simp
      refine (CO.out _ hz.drew).mono ?_
      rintro e wo ⟨h4, k4, A4, c4, rfl, e4, hc4, hr4, hbo⟩
      have hz : Below V.heap.size V wo := below_from hz.drew hbo
      refine HK.out _ _ (Q.out _ hz) (fun hHeld2 => ?_)
      clear HK hHeld
      have hHeld := hHeld2
      clear hHeld2
      try simp only [Act.put, List.setIfInBounds_toArray, List.set_cons_zero, List.set_cons_succ]
      refine wpAnyH_ready (rs := [5]) (by kernel_rfl) (by simp) ?_
      refine AllReadyH.cons (o := ⟨some 51, .call _, _, _, _, _⟩) rfl (fun K hK => ?_) AllReadyH.nil
      have HK := Lib.hid hK
      clear hK
      go_simp
      refine (CS2.out wo h4 k4 A4 c4 hz e4 (hr4.weak fun _ _ => trivial)).mono ?_
      rintro e wq ⟨rfl, hbq⟩
      have hz : Below V.heap.size V wq := below_from hz hbq
      refine HK.out _ _ (Q.out _ hz) (fun hHeld2 => ?_)
      clear HK hHeld
      have hHeld := hHeld2
      clear hHeld2
      try simp only [Act.put, List.setIfInBounds_toArray, List.set_cons_zero, List.set_cons_succ]
      refine wpAnyH_take (i := 6) (oi := ⟨some 52, _, _, _, _, _⟩) (v := .bool true) rfl (by kernel_rfl) (by kernel_rfl) (by kernel_rfl) (fun _ _ _ h => h) (Or.inl ⟨by rfl, ?_⟩) (by assumption) ?_
      · intro wx hSw
        obtain ⟨x0, x1, x2, x3, x4, x5, x6, p0, p1, p2, p3, p4, p5, p6⟩ := hSw
        first | (go_simp; done) | (go_simp; with_reducible rfl) | (go_simp; exact ⟨rfl, rfl, rfl, rfl⟩)
      try simp only [Act.put, List.setIfInBounds_toArray, List.set_cons_zero, List.set_cons_succ]
      refine wpAnyH_take (i := 7) (oi := ⟨some 53, _, _, _, _, _⟩) (v := .bool true) rfl (by kernel_rfl) (by kernel_rfl) (by kernel_rfl) (fun _ _ _ h => h) (Or.inl ⟨by rfl, ?_⟩) (by assumption) ?_
      · intro wx hSw
        obtain ⟨x0, x1, x2, x3, x4, x5, x6, p0, p1, p2, p3, p4, p5, p6⟩ := hSw
        first | (go_simp; done) | (go_simp; with_reducible rfl) | (go_simp; exact ⟨rfl, rfl, rfl, rfl⟩)
      try simp only [Act.put, List.setIfInBounds_toArray, List.set_cons_zero, List.set_cons_succ]
      refine wpAnyH_take (i := 8) (oi := ⟨some 54, _, _, _, _, _⟩) (v := undef) rfl (by kernel_rfl) (by kernel_rfl) (by kernel_rfl) (fun _ _ _ h => h) (Or.inr ⟨by rfl, rfl⟩) (by assumption) ?_
      try simp only [Act.put, List.setIfInBounds_toArray, List.set_cons_zero, List.set_cons_succ]
      refine wpAnyH_take (i := 9) (oi := ⟨some 55, _, _, _, _, _⟩) (v := undef) rfl (by kernel_rfl) (by kernel_rfl) (by kernel_rfl) (fun _ _ _ h => h) (Or.inr ⟨by rfl, rfl⟩) (by assumption) ?_
      try simp only [Act.put, List.setIfInBounds_toArray, List.set_cons_zero, List.set_cons_succ]
      refine wpAnyH_take (i := 10) (oi := ⟨some 56, _, _, _, _, _⟩) (v := undef) rfl (by kernel_rfl) (by kernel_rfl) (by kernel_rfl) (fun _ _ _ h => h) (Or.inr ⟨by rfl, rfl⟩) (by assumption) ?_
      try simp only [Act.put, List.setIfInBounds_toArray, List.set_cons_zero, List.set_cons_succ]
      refine wpAnyH_take (i := 11) (oi := ⟨some 57, _, _, _, _, _⟩) (v := undef) rfl (by kernel_rfl) (by kernel_rfl) (by kernel_rfl) (fun _ _ _ h => h) (Or.inr ⟨by rfl, rfl⟩) (by assumption) ?_
      try simp only [Act.put, List.setIfInBounds_toArray, List.set_cons_zero, List.set_cons_succ]
      refine wpAnyH_take (i := 12) (oi := ⟨some 58, _, _, _, _, _⟩) (v := undef) rfl (by kernel_rfl) (by kernel_rfl) (by kernel_rfl) (fun _ _ _ h => h) (Or.inr ⟨by rfl, rfl⟩) (by assumption) ?_
      try simp only [Act.put, List.setIfInBounds_toArray, List.set_cons_zero, List.set_cons_succ]
      refine wpAnyH_take (i := 13) (oi := ⟨some 59, _, _, _, _, _⟩) (v := undef) rfl (by kernel_rfl) (by kernel_rfl) (by kernel_rfl) (fun _ _ _ h => h) (Or.inr ⟨by rfl, rfl⟩) (by assumption) ?_
      try simp only [Act.put, List.setIfInBounds_toArray, List.set_cons_zero, List.set_cons_succ]
      refine wpAnyH_take (i := 14) (oi := ⟨some 60, _, _, _, _, _⟩) (v := undef) rfl (by kernel_rfl) (by kernel_rfl) (by kernel_rfl) (fun _ _ _ h => h) (Or.inr ⟨by rfl, rfl⟩) (by assumption) ?_
      try simp only [Act.put, List.setIfInBounds_toArray, List.set_cons_zero, List.set_cons_succ]
      refine wpAnyH_take (i := 15) (oi := ⟨some 61, _, _, _, _, _⟩) (v := .bool true) rfl (by kernel_rfl) (by kernel_rfl) (by kernel_rfl) (fun _ _ _ h => h) (Or.inl ⟨by rfl, ?_⟩) (by assumption) ?_
      · intro wx hSw
        obtain ⟨x0, x1, x2, x3, x4, x5, x6, p0, p1, p2, p3, p4, p5, p6⟩ := hSw
        first | (go_simp; done) | (go_simp; with_reducible rfl) | (go_simp; exact ⟨rfl, rfl, rfl, rfl⟩)
      try simp only [Act.put, List.setIfInBounds_toArray, List.set_cons_zero, List.set_cons_succ]
      refine wpAnyH_take (i := 16) (oi := ⟨some 62, _, _, _, _, _⟩) (v := .bool true) rfl (by kernel_rfl) (by kernel_rfl) (by kernel_rfl) (fun _ _ _ h => h) (Or.inl ⟨by rfl, ?_⟩) (by assumption) ?_
      · intro wx hSw
        obtain ⟨x0, x1, x2, x3, x4, x5, x6, p0, p1, p2, p3, p4, p5, p6⟩ := hSw
        first | (go_simp; done) | (go_simp; with_reducible rfl) | (go_simp; exact ⟨rfl, rfl, rfl, rfl⟩)
      try simp only [Act.put, List.setIfInBounds_toArray, List.set_cons_zero, List.set_cons_succ]
      refine wpAnyH_ready (rs := [17]) (by kernel_rfl) (by simp) ?_
      refine AllReadyH.cons (o := ⟨some 63, .call _, _, _, _, _⟩) rfl (fun K hK => ?_) AllReadyH.nil
      have HK := Lib.hid hK
      clear hK
      go_simp
      refine (CA.out _ (below_from HBV.out hz)).mono ?_
      rintro e wr ⟨rfl, hbr⟩
      have hz : Below V.heap.size V wr := below_from hz hbr
      refine HK.out _ _ (Q.out _ hz) (fun hHeld2 => ?_)
      clear HK hHeld
      have hHeld := hHeld2
      clear hHeld2
      try simp only [Act.put, List.setIfInBounds_toArray, List.set_cons_zero, List.set_cons_succ]
      refine wpAnyH_take (i := 18) (oi := ⟨some 64, _, _, _, _, _⟩) (v := .bool true) rfl (by kernel_rfl) (by kernel_rfl) (by kernel_rfl) (fun _ _ _ h => h) (Or.inl ⟨by rfl, ?_⟩) (by assumption) ?_
      · intro wx hSw
        obtain ⟨x0, x1, x2, x3, x4, x5, x6, p0, p1, p2, p3, p4, p5, p6⟩ := hSw
        first | (go_simp; done) | (go_simp; with_reducible rfl) | (go_simp; exact ⟨rfl, rfl, rfl, rfl⟩)
      try simp only [Act.put, List.setIfInBounds_toArray, List.set_cons_zero, List.set_cons_succ]
      refine wpAnyH_take (i := 19) (oi := ⟨some 4, _, _, _, _, _⟩) (v := .bool true) rfl (by kernel_rfl) (by kernel_rfl) (by kernel_rfl) (fun _ _ _ h => h) (Or.inl ⟨by rfl, ?_⟩) (by assumption) ?_
      · intro wx hSw
        obtain ⟨x0, x1, x2, x3, x4, x5, x6, p0, p1, p2, p3, p4, p5, p6⟩ := hSw
        first | (go_simp; done) | (go_simp; with_reducible rfl) | (go_simp; exact ⟨rfl, rfl, rfl, rfl⟩)
      try simp only [Act.put, List.setIfInBounds_toArray, List.set_cons_zero, List.set_cons_succ]
      refine wpAnyH_done (by kernel_rfl) ?_ _
      have hbf := below_from HW.out (below_from HBV.out hz)
      go_wp2_with fail
      go_ret
      exact ⟨rfl, hbf⟩
    | false =>
      have HX1 : T.mk h1 k1 = .mk ⟨0, [], S4.zero⟩ [] := by rw [← EX1.out, HXT.out]; rfl
      injection HX1 with a1 a2
      subst a1 a2
      have CS3 : Hid (∀ (X : World), Below V.heap.size V X → Calls Tryd.prog 20 #[coV ⟨0, [], S4.zero⟩ A1 0 c1, coV ⟨0, [], S4.zero⟩ none 0 0] X fun e w' => e = .returned (.bool true) ∧ Below X.heap.size X w') := fun X hX => by
        have := refSameC_upto 1 (fun _ => True) ⟨0, [], S4.zero⟩ ⟨0, [], S4.zero⟩ [] [] A1 none c1 0 X (by decide) (by decide) (by decide) (by simp [InRow]) (by simp [InRow])
        rw [sameC_refl] at this
        exact this
      clear HXS HXT EX1 EX2 HB5 CO
      refine wp_region_held_drew (S := fun X => X.cell? ⟨w.heap.size, 0, none⟩ = some (.int .u8 (h.k.toNat : Int)) ∧ X.cell? ⟨w.heap.size, 1, none⟩ = some (.string (str h.b)) ∧ X.cell? ⟨w.heap.size, 2, none⟩ = some (.int .u64 (h.s.a.toNat : Int)) ∧ X.cell? ⟨w.heap.size, 3, none⟩ = some (.int .u64 (h.s.b.toNat : Int)) ∧ X.cell? ⟨w.heap.size, 4, none⟩ = some (.int .u64 (h.s.c.toNat : Int)) ∧ X.cell? ⟨w.heap.size, 5, none⟩ = some (.int .u64 (h.s.d.toNat : Int)) ∧ X.cell? ⟨w.heap.size, 6, none⟩ = some (.slice A ks.length c) ∧ X.cell? ⟨b5, 0, none⟩ = some (.int .u8 ((⟨0, [], S4.zero⟩ : CH).k.toNat : Int)) ∧ X.cell? ⟨b5, 1, none⟩ = some (.string (str (⟨0, [], S4.zero⟩ : CH).b)) ∧ X.cell? ⟨b5, 2, none⟩ = some (.int .u64 (S4.zero.a.toNat : Int)) ∧ X.cell? ⟨b5, 3, none⟩ = some (.int .u64 (S4.zero.b.toNat : Int)) ∧ X.cell? ⟨b5, 4, none⟩ = some (.int .u64 (S4.zero.c.toNat : Int)) ∧ X.cell? ⟨b5, 5, none⟩ = some (.int .u64 (S4.zero.d.toNat : Int)) ∧ X.cell? ⟨b5, 6, none⟩ = some (.slice A1 ([] : List Co).length c1)) (by kernel_rfl) (Q.out _ hz.drew) (fun hHeld => ?_)
      refine wpAnyH_take (i := 0) (oi := ⟨some 46, _, _, _, _, _⟩) (v := .bool false) rfl (by kernel_rfl) (by kernel_rfl) (by kernel_rfl) (fun _ _ _ h => h) (Or.inl ⟨by rfl, ?_⟩) (by assumption) ?_
      · intro wx hSw
        obtain ⟨x0, x1, x2, x3, x4, x5, x6, p0, p1, p2, p3, p4, p5, p6⟩ := hSw
        first | (go_simp; done) | (go_simp; with_reducible rfl) | (go_simp; exact ⟨rfl, rfl, rfl, rfl⟩)
      try simp only [Act.put, List.setIfInBounds_toArray, List.set_cons_zero, List.set_cons_succ]
      refine wpAnyH_take (i := 1) (oi := ⟨some 47, _, _, _, _, _⟩) (v := .bool false) rfl (by kernel_rfl) (by kernel_rfl) (by kernel_rfl) (fun _ _ _ h => h) (Or.inl ⟨by rfl, ?_⟩) (by assumption) ?_
      · intro wx hSw
        obtain ⟨x0, x1, x2, x3, x4, x5, x6, p0, p1, p2, p3, p4, p5, p6⟩ := hSw
        first | (go_simp; done) | (go_simp; with_reducible rfl) | (go_simp; exact ⟨rfl, rfl, rfl, rfl⟩)
      try simp only [Act.put, List.setIfInBounds_toArray, List.set_cons_zero, List.set_cons_succ]
      refine wpAnyH_take (i := 2) (oi := ⟨some 48, _, _, _, _, _⟩) (v := undef) rfl (by kernel_rfl) (by kernel_rfl) (by kernel_rfl) (fun _ _ _ h => h) (Or.inr ⟨by rfl, rfl⟩) (by assumption) ?_
      try simp only [Act.put, List.setIfInBounds_toArray, List.set_cons_zero, List.set_cons_succ]
      refine wpAnyH_take (i := 3) (oi := ⟨some 49, _, _, _, _, _⟩) (v := undef) rfl (by kernel_rfl) (by kernel_rfl) (by kernel_rfl) (fun _ _ _ h => h) (Or.inr ⟨by rfl, rfl⟩) (by assumption) ?_
      try simp only [Act.put, List.setIfInBounds_toArray, List.set_cons_zero, List.set_cons_succ]
      refine wpAnyH_take (i := 4) (oi := ⟨some 50, _, _, _, _, _⟩) (v := undef) rfl (by kernel_rfl) (by kernel_rfl) (by kernel_rfl) (fun _ _ _ h => h) (Or.inr ⟨by rfl, rfl⟩) (by assumption) ?_
      try simp only [Act.put, List.setIfInBounds_toArray, List.set_cons_zero, List.set_cons_succ]
      refine wpAnyH_take (i := 5) (oi := ⟨some 51, _, _, _, _, _⟩) (v := undef) rfl (by kernel_rfl) (by kernel_rfl) (by kernel_rfl) (fun _ _ _ h => h) (Or.inr ⟨by rfl, rfl⟩) (by assumption) ?_
      try simp only [Act.put, List.setIfInBounds_toArray, List.set_cons_zero, List.set_cons_succ]
      refine wpAnyH_take (i := 6) (oi := ⟨some 52, _, _, _, _, _⟩) (v := .bool false) rfl (by kernel_rfl) (by kernel_rfl) (by kernel_rfl) (fun _ _ _ h => h) (Or.inl ⟨by rfl, ?_⟩) (by assumption) ?_
      · intro wx hSw
        obtain ⟨x0, x1, x2, x3, x4, x5, x6, p0, p1, p2, p3, p4, p5, p6⟩ := hSw
        first | (go_simp; done) | (go_simp; with_reducible rfl) | (go_simp; exact ⟨rfl, rfl, rfl, rfl⟩)
      try simp only [Act.put, List.setIfInBounds_toArray, List.set_cons_zero, List.set_cons_succ]
      refine wpAnyH_take (i := 7) (oi := ⟨some 53, _, _, _, _, _⟩) (v := .bool false) rfl (by kernel_rfl) (by kernel_rfl) (by kernel_rfl) (fun _ _ _ h => h) (Or.inl ⟨by rfl, ?_⟩) (by assumption) ?_
      · intro wx hSw
        obtain ⟨x0, x1, x2, x3, x4, x5, x6, p0, p1, p2, p3, p4, p5, p6⟩ := hSw
        first | (go_simp; done) | (go_simp; with_reducible rfl) | (go_simp; exact ⟨rfl, rfl, rfl, rfl⟩)
      try simp only [Act.put, List.setIfInBounds_toArray, List.set_cons_zero, List.set_cons_succ]
      refine wpAnyH_take (i := 8) (oi := ⟨some 54, _, _, _, _, _⟩) (v := .bool false) rfl (by kernel_rfl) (by kernel_rfl) (by kernel_rfl) (fun _ _ _ h => h) (Or.inl ⟨by rfl, ?_⟩) (by assumption) ?_
      · intro wx hSw
        obtain ⟨x0, x1, x2, x3, x4, x5, x6, p0, p1, p2, p3, p4, p5, p6⟩ := hSw
        first | (go_simp; done) | (go_simp; with_reducible rfl) | (go_simp; exact ⟨rfl, rfl, rfl, rfl⟩)
      try simp only [Act.put, List.setIfInBounds_toArray, List.set_cons_zero, List.set_cons_succ]
      refine wpAnyH_take (i := 9) (oi := ⟨some 55, _, _, _, _, _⟩) (v := .bool true) rfl (by kernel_rfl) (by kernel_rfl) (by kernel_rfl) (fun _ _ _ h => h) (Or.inl ⟨by rfl, ?_⟩) (by assumption) ?_
      · intro wx hSw
        obtain ⟨x0, x1, x2, x3, x4, x5, x6, p0, p1, p2, p3, p4, p5, p6⟩ := hSw
        first | (go_simp; done) | (go_simp; with_reducible rfl) | (go_simp; exact ⟨rfl, rfl, rfl, rfl⟩)
      try simp only [Act.put, List.setIfInBounds_toArray, List.set_cons_zero, List.set_cons_succ]
      refine wpAnyH_take (i := 10) (oi := ⟨some 56, _, _, _, _, _⟩) (v := .bool true) rfl (by kernel_rfl) (by kernel_rfl) (by kernel_rfl) (fun _ _ _ h => h) (Or.inl ⟨by rfl, ?_⟩) (by assumption) ?_
      · intro wx hSw
        obtain ⟨x0, x1, x2, x3, x4, x5, x6, p0, p1, p2, p3, p4, p5, p6⟩ := hSw
        first | (go_simp; done) | (go_simp; with_reducible rfl) | (go_simp; exact ⟨rfl, rfl, rfl, rfl⟩)
      try simp only [Act.put, List.setIfInBounds_toArray, List.set_cons_zero, List.set_cons_succ]
      refine wpAnyH_take (i := 11) (oi := ⟨some 57, _, _, _, _, _⟩) (v := coV ⟨0, [], S4.zero⟩ A1 0 c1) rfl (by kernel_rfl) (by kernel_rfl) (by kernel_rfl) (fun _ _ _ h => h) (Or.inl ⟨by rfl, ?_⟩) (by assumption) ?_
      · intro wx hSw
        obtain ⟨x0, x1, x2, x3, x4, x5, x6, p0, p1, p2, p3, p4, p5, p6⟩ := hSw
        first | (go_simp; done) | (go_simp; with_reducible rfl) | (go_simp; exact ⟨rfl, rfl, rfl, rfl⟩)
      try simp only [Act.put, List.setIfInBounds_toArray, List.set_cons_zero, List.set_cons_succ]
      refine wpAnyH_take (i := 12) (oi := ⟨some 58, _, _, _, _, _⟩) (v := coV ⟨0, [], S4.zero⟩ none 0 0) rfl (by kernel_rfl) (by kernel_rfl) (by kernel_rfl) (fun _ _ _ h => h) (Or.inl ⟨by rfl, ?_⟩) (by assumption) ?_
      · intro wx hSw
        obtain ⟨x0, x1, x2, x3, x4, x5, x6, p0, p1, p2, p3, p4, p5, p6⟩ := hSw
        first | (go_simp; done) | (go_simp; with_reducible rfl) | (go_simp; exact ⟨rfl, rfl, rfl, rfl⟩)
      try simp only [Act.put, List.setIfInBounds_toArray, List.set_cons_zero, List.set_cons_succ]
      refine wpAnyH_ready (rs := [13]) (by kernel_rfl) (by simp) ?_
      refine AllReadyH.cons (o := ⟨some 59, .call _, _, _, _, _⟩) rfl (fun K hK => ?_) AllReadyH.nil
      have HK := Lib.hid hK
      clear hK
      go_simp
      refine (CS3.out _ hz.drew).mono ?_
      rintro e wq ⟨rfl, hbq⟩
      have hz : Below V.heap.size V wq := below_from hz.drew hbq
      refine HK.out _ _ (Q.out _ hz) (fun hHeld2 => ?_)
      clear HK hHeld
      have hHeld := hHeld2
      clear hHeld2
      try simp only [Act.put, List.setIfInBounds_toArray, List.set_cons_zero, List.set_cons_succ]
      refine wpAnyH_take (i := 14) (oi := ⟨some 60, _, _, _, _, _⟩) (v := .bool true) rfl (by kernel_rfl) (by kernel_rfl) (by kernel_rfl) (fun _ _ _ h => h) (Or.inl ⟨by rfl, ?_⟩) (by assumption) ?_
      · intro wx hSw
        obtain ⟨x0, x1, x2, x3, x4, x5, x6, p0, p1, p2, p3, p4, p5, p6⟩ := hSw
        first | (go_simp; done) | (go_simp; with_reducible rfl) | (go_simp; exact ⟨rfl, rfl, rfl, rfl⟩)
      try simp only [Act.put, List.setIfInBounds_toArray, List.set_cons_zero, List.set_cons_succ]
      refine wpAnyH_take (i := 15) (oi := ⟨some 61, _, _, _, _, _⟩) (v := .bool true) rfl (by kernel_rfl) (by kernel_rfl) (by kernel_rfl) (fun _ _ _ h => h) (Or.inl ⟨by rfl, ?_⟩) (by assumption) ?_
      · intro wx hSw
        obtain ⟨x0, x1, x2, x3, x4, x5, x6, p0, p1, p2, p3, p4, p5, p6⟩ := hSw
        first | (go_simp; done) | (go_simp; with_reducible rfl) | (go_simp; exact ⟨rfl, rfl, rfl, rfl⟩)
      try simp only [Act.put, List.setIfInBounds_toArray, List.set_cons_zero, List.set_cons_succ]
      refine wpAnyH_take (i := 16) (oi := ⟨some 62, _, _, _, _, _⟩) (v := .bool true) rfl (by kernel_rfl) (by kernel_rfl) (by kernel_rfl) (fun _ _ _ h => h) (Or.inl ⟨by rfl, ?_⟩) (by assumption) ?_
      · intro wx hSw
        obtain ⟨x0, x1, x2, x3, x4, x5, x6, p0, p1, p2, p3, p4, p5, p6⟩ := hSw
        first | (go_simp; done) | (go_simp; with_reducible rfl) | (go_simp; exact ⟨rfl, rfl, rfl, rfl⟩)
      try simp only [Act.put, List.setIfInBounds_toArray, List.set_cons_zero, List.set_cons_succ]
      refine wpAnyH_ready (rs := [17]) (by kernel_rfl) (by simp) ?_
      refine AllReadyH.cons (o := ⟨some 63, .call _, _, _, _, _⟩) rfl (fun K hK => ?_) AllReadyH.nil
      have HK := Lib.hid hK
      clear hK
      go_simp
      refine (CA.out _ (below_from HBV.out hz)).mono ?_
      rintro e wr ⟨rfl, hbr⟩
      have hz : Below V.heap.size V wr := below_from hz hbr
      refine HK.out _ _ (Q.out _ hz) (fun hHeld2 => ?_)
      clear HK hHeld
      have hHeld := hHeld2
      clear hHeld2
      try simp only [Act.put, List.setIfInBounds_toArray, List.set_cons_zero, List.set_cons_succ]
      refine wpAnyH_take (i := 18) (oi := ⟨some 64, _, _, _, _, _⟩) (v := .bool true) rfl (by kernel_rfl) (by kernel_rfl) (by kernel_rfl) (fun _ _ _ h => h) (Or.inl ⟨by rfl, ?_⟩) (by assumption) ?_
      · intro wx hSw
        obtain ⟨x0, x1, x2, x3, x4, x5, x6, p0, p1, p2, p3, p4, p5, p6⟩ := hSw
        first | (go_simp; done) | (go_simp; with_reducible rfl) | (go_simp; exact ⟨rfl, rfl, rfl, rfl⟩)
      try simp only [Act.put, List.setIfInBounds_toArray, List.set_cons_zero, List.set_cons_succ]
      refine wpAnyH_take (i := 19) (oi := ⟨some 4, _, _, _, _, _⟩) (v := .bool true) rfl (by kernel_rfl) (by kernel_rfl) (by kernel_rfl) (fun _ _ _ h => h) (Or.inl ⟨by rfl, ?_⟩) (by assumption) ?_
      · intro wx hSw
        obtain ⟨x0, x1, x2, x3, x4, x5, x6, p0, p1, p2, p3, p4, p5, p6⟩ := hSw
        first | (go_simp; done) | (go_simp; with_reducible rfl) | (go_simp; exact ⟨rfl, rfl, rfl, rfl⟩)
      try simp only [Act.put, List.setIfInBounds_toArray, List.set_cons_zero, List.set_cons_succ]
      refine wpAnyH_done (by kernel_rfl) ?_ _
      have hbf := below_from HW.out (below_from HBV.out hz)
      go_wp2_with fail
      go_ret
      exact ⟨rfl, hbf⟩
  · rw [hg] at CG
    clear hg
    go_enter Tryd.func4, Tryd.ntmps4
    obtain ⟨x0, x1, x2, x3, x4, x5, x6⟩ := Q1.out _ (Below.refl _ _)
    rw [← HE.out] at x0 x1 x2 x3 x4 x5 x6
    go_wp2_with fail
    rw [HE.out]
    refine (CG.out _ (Below.refl _ _)).mono ?_
    rintro e w0 ⟨rfl, hb0⟩
    have HB0 := Lib.hid hb0
    clear hb0 x0 x1 x2 x3 x4 x5 x6
    go_wp2_with fail
    refine (CA.out _ HB0.out).mono ?_
    rintro e w4 ⟨rfl, hb4⟩
    have hb := below_from HW.out (below_from HB0.out hb4)
    clear hb4
    go_wp2_with fail
    go_ret
    exact ⟨rfl, hb⟩
namespace lawSimpIs
open Go.ChangeShapes Go.WideShapes Go.ChangeAt
open Go.ChangeMaps (open_string)
set_option maxRecDepth 100000 in
theorem contract (H : Type) (enc : TypeId × Value → H) (W : World) (base : Nat) (args : Array Value) (ds gs : List (DataW H)) (before : List MemPlace)
    (hval : ∀ (j : Nat) t v, Tryd.f4.params[j]? = some t → args[j]? = some v → Value.okWide Tryd.prog W .any base t v)
    (hW : DataW.Whole enc Tryd.prog Tryd.f4.params.toList Rows.simpIsSpec.vars false W args.toList ds gs before) (hL : laidMetH Tryd.prog Rows.simpIsUptoRow.laid W) (hk : Rows.uptoSmall H (ds ++ gs) = true) :
    Calls Tryd.prog 4 args W fun e W' => ∃ v, e = .returned v ∧ Rows.simpIsSpec.post enc Tryd.prog Tryd.f4 false true false false W args v W' := by
  have hW' := hW
  obtain ⟨p, q, hA0, hV, rfl, hfz, hnd⟩ := hW
  have hA : DataW.TrodAll enc Tryd.prog W 0 (fun _ => true) true Tryd.f4.params.toList args.toList ds p := hA0
  rw [Tryd.params4] at hA hval
  obtain ⟨v0, vs0, d0, ds0, p0, q0, hargs, rfl, rfl, h0, r0⟩ := trodAll_cons hA
  obtain ⟨v1, vs1, d1, ds1, p1, q1, rfl, rfl, rfl, h1, r1⟩ := trodAll_cons r0
  obtain ⟨rfl, rfl, rfl⟩ := trodAll_nil r1
  obtain rfl : args = #[v0, v1] := by cases args; simp_all
  obtain ⟨rfl, rfl⟩ := trodVars_none hV
  have hkk : Rows.uptoBulk d0 + Rows.uptoBulk d1 ≤ 1048576 := by simp [Rows.uptoSmall, Rows.uptoBulkAll] at hk; omega
  obtain ⟨x, kx, A0, c0, rfl, hc0, hr0, hz0⟩ := open_coded (hval 0 27 v0 rfl rfl) h0
  obtain ⟨b, rfl, rfl, rfl, hw1⟩ := open_int Tryd.underlying5 (hval 1 5 v1 rfl rfl) h1
  obtain ⟨bb, rfl⟩ := u8_of hw1
  refine (simpIs_walk x kx A0 c0 bb W (by omega) hc0 hr0).mono fun e W' ⟨he, hb⟩ => ?_
  subst he
  exact ⟨_, rfl, post_true Tryd.laidOut (by rw [Tryd.params4]; intro t ht; simp at ht; rcases ht with rfl | rfl <;> exact ⟨by kernel_rfl, of_decide_eq_true (by kernel_rfl)⟩) hW' rfl rfl rfl Tryd.underlying4 hb⟩
theorem laid_met (os : Os) : laidMet Tryd.prog Rows.simpIsUptoRow.laid ((utfWorld os).forCall (fun _ _ => 0) ⟨#[], #[.agg #[.int .u8 0, .string ByteArray.empty, .int .u64 0, .int .u64 0, .int .u64 0, .int .u64 0, .slice none 0 0], .int .u8 0], []⟩).memory :=
  laidMet_of_run' 600 (by kernel_rfl) (by kernel_rfl)
theorem reads (os : Os) {H : Type} (enc : TypeId × Value → H) : ∃ places, DataW.whole enc Tryd.prog ((utfWorld os).forCall (fun _ _ => 0) ⟨#[], #[.agg #[.int .u8 0, .string ByteArray.empty, .int .u64 0, .int .u64 0, .int .u64 0, .int .u64 0, .slice none 0 0], .int .u8 0], []⟩).memory Tryd.f4.params.toList Rows.simpIsSpec.vars false (#[.agg #[.int .u8 0, .string ByteArray.empty, .int .u64 0, .int .u64 0, .int .u64 0, .int .u64 0, .slice none 0 0], .int .u8 0] : Array Value).toList 8 = some ([.agg [.lit (.int .u8 0), .lit (.string []), .agg [.lit (.int .u64 0), .lit (.int .u64 0), .lit (.int .u64 0), .lit (.int .u64 0)], .nil], .lit (.int .u8 0)], [], places) :=
  ⟨[], by kernel_rfl⟩
set_option maxRecDepth 100000 in
theorem lifted (os : Os) (started : os.Started) (H : Type) (enc : TypeId × Value → H) (F : Stop.Interp) :
    ReturnsInHanded {} Tryd.checked os 4 .any ((Rows.OpenSpec.upto Rows.simpIsSpec).preRow enc Tryd.prog Tryd.f4 Rows.simpIsUptoRow.domain false Rows.simpIsUptoRow.laid) (((Rows.OpenSpec.upto Rows.simpIsSpec).at F).post enc Tryd.prog Tryd.f4 false true false false) := by
  obtain ⟨places, hx⟩ := reads os enc
  refine returnsInHanded_of_row (C := Tryd.checked) (s := Rows.OpenSpec.upto Rows.simpIsSpec) Tryd.own started (by kernel_rfl) Tryd.func4
    (witness_row_at (enc := enc) (C := Tryd.checked) false (utfWorld os) #[.agg #[.int .u8 0, .string ByteArray.empty, .int .u64 0, .int .u64 0, .int .u64 0, .int .u64 0, .slice none 0 0], .int .u8 0] rfl (by kernel_rfl) (by kernel_rfl) (by kernel_rfl)
      (OpenSpec.preRow_of_cond 8 hx (by kernel_rfl) (fun k hk => by cases hk; kernel_rfl) (by kernel_rfl) (laid_met os))) ?_
  intro W base args ds gs before hval hW _ hcond _ hL _ _
  exact contract H enc W base args ds gs before hval hW hL (hcond _ rfl)
theorem said : Rows.SimpIsUptoSaid :=
  OpenClaim.holds_of_cond 4 Tryd.f4 rfl rfl rfl rfl rfl rfl rfl ⟨rfl, rfl, rfl, rfl, rfl⟩ rfl rfl rfl rfl rfl (by kernel_rfl) Tryd.func4 (by kernel_rfl)
    (of_decide_eq_true (by kernel_rfl)) (by unfold Func.isWrapper; first | (rw [if_pos (by decide +kernel)]; kernel_rfl) | (rw [if_neg (by decide +kernel)]; exact ⟨rfl, rfl⟩))
    (fun os started H enc _ F => by rw [OpenClaim.pre_eq_preRow]; exact lifted os started H enc F)
theorem plain (f : FuncId) (fn : Func) (hf : Tryd.pinned.checked.prog.funcNamed "quill/quilllaw18.SimpIs" = some f) (hfn : Tryd.pinned.checked.prog.funcs[f]? = some fn) :
    true = Tryd.pinned.checked.prog.looks [] ∧ ∀ (j : Nat) t, fn.params[j]? = some t → Tryd.pinned.checked.prog.wantsStandIn t = false := by
  obtain rfl : f = 4 := Option.some.inj ((show Tryd.prog.funcNamed "quill/quilllaw18.SimpIs" = some 4 by kernel_rfl).symm.trans hf) |>.symm
  obtain rfl : fn = Tryd.f4 := (Option.some.inj (Tryd.func4.symm.trans hfn)).symm
  refine ⟨by kernel_rfl, fun j t ht => ?_⟩
  rw [Tryd.params4] at ht
  have hm := Array.mem_of_getElem? ht
  simp at hm
  rcases hm with rfl | rfl
  · exact (show Tryd.prog.wantsStandIn 27 = false by kernel_rfl)
  · exact (show Tryd.prog.wantsStandIn 5 = false by kernel_rfl)
theorem proved : Rows.SimpIsUptoCardSaid :=
  Claim7.holds_tied_plain_at .later [] _ _ _ _ said (fun _ h => by cases h) (by kernel_rfl) (fun _ h => by cases h) simpIsUpto_row_tie rfl ⟨rfl, rfl⟩ (by kernel_rfl) rfl plain (by kernel_rfl)
end lawSimpIs
end Go.Proofs.YtkhgbeflhjjkdaaDoor
