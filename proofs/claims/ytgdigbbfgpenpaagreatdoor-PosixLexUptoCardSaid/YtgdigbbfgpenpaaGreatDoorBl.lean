/- A step: the coded derivative, or the error. -/
import Derived.Test.YtgdigbbfgpenpaaGreatDoorBk
import Derived.Test.YtgdigbbfgpenpaaGreatDoorBh
namespace Go.Proofs.YtgdigbbfgpenpaaGreatDoor
open Go.RowKit
set_option linter.unusedVariables false
set_option linter.unusedSimpArgs false

abbrev zeroC : Co := .mk ⟨0, [], S4.zero⟩ []
/-- the error's number -/
def stepE (d : UInt8) (t : Co) : Int := if mayC t = true then (if mayC (stepC d t) = true then 0 else 4) else 1
def stepT (d : UInt8) (t : Co) : Co := if mayC t = true then (if mayC (stepC d t) = true then stepC d t else zeroC) else zeroC
def StepPost (P : Nat → Prop) (d : UInt8) (t : Co) (w : World) (e : Ending) (w' : World) : Prop := ∃ h ks A c, e = .returned (.tuple #[coV h A ks.length c, .int .i64 (stepE d t)]) ∧ stepT d t = .mk h ks ∧ ks.length ≤ c ∧ InRow CE (fun x => P x ∨ w.heap.size ≤ x) w' ks A 0 ∧ Below w.heap.size w w'
theorem may_none {t : Co} (ho : okC t = false) : mayC t = false := by unfold mayC; rw [ho]; rfl
set_option maxRecDepth 100000 in
set_option maxHeartbeats 8000000 in
theorem pStep_any {P : Nat → Prop} (d : UInt8) (h : CH) (ks : List Co) (A : Option Addr) (c : Nat) (w : World) (hm : T.sizes ks ≤ 800000000) (hc : ks.length ≤ c) (hr : InRow CE P w ks A 0) (hsh : shortC (.mk h ks)) (hp : okC (.mk h ks) = true → potV (.mk h ks) + 2 * potS (.mk h ks) ≤ 1000000000) :
    Calls Tryz.prog 34 #[coV h A ks.length c, .int .u8 (d.toNat : Int)] w (StepPost P d (.mk h ks) w) := by
  obtain ⟨W, hW⟩ : ∃ W, ((w.alloc (.cells (coA h A ks.length c) 60)).alloc (.cells coZ 60)) = W := ⟨_, rfl⟩
  have hbW : Below w.heap.size w W := by rw [← hW]; exact below_new (below_new (Below.refl _ _) _) _
  have e1 : W.heap[w.heap.size]? = some (.cells (coA h A ks.length c) 60 (0, 0)) := by
    rw [← hW]
    exact heap_keep1 (new_at1 (w := w) _) _
  have e2 : W.heap[w.heap.size + 1]? = some (.cells coZ 60 (0, 0)) := by
    rw [← hW]
    have := new_at1 (w := w.alloc (.cells (coA h A ks.length c) 60)) (.cells coZ 60)
    rw [World.size_alloc] at this
    exact this
  have hsW : W.heap.size = w.heap.size + 1 + 1 := by rw [← hW]; simp
  obtain ⟨X, hX⟩ : ∃ X, W.alloc (.cells (coA h A ks.length c) 60) = X := ⟨_, rfl⟩
  have hbX : Below W.heap.size W X := by rw [← hX]; exact below_new (Below.refl _ _) _
  have x1 : X.heap[w.heap.size + 1 + 1]? = some (.cells (coA h A ks.length c) 60 (0, 0)) := by rw [← hX, ← hsW]; exact new_at1 _
  have HM := Lib.hid (cMay_any [.mk h ks] (some ⟨w.heap.size + 1 + 1, 0, none⟩) 1 X (by simp only [T.sizes, T.size]; omega) (co_one (P := fun _ => True) x1 trivial hc (((hr.below hbW).below hbX).weak fun _ _ => trivial)) (fun t ht => by simp at ht; subst ht; exact hsh))
  rw [show [T.mk h ks].all mayC = mayC (.mk h ks) by simp] at HM
  have HXX : Hid (((w.alloc (.cells (coA h A ks.length c) 60)).alloc (.cells coZ 60)).alloc (.cells (coA h A ks.length c) 60) = X) := by unfold Hid; rw [hW]; exact hX
  have HB := Lib.hid (below_from hbW hbX)
  have HE1 := Lib.hid ((hbX.block _ (lt_of_block e1)).trans e1)
  have HE2 := Lib.hid ((hbX.block _ (lt_of_block e2)).trans e2)
  have HS0 : Hid (mayC (.mk h ks) = true → ∀ Y, Below w.heap.size w Y → Calls Tryz.prog 46 #[coV h A ks.length c, .int .u8 (d.toNat : Int)] Y (CoPostX (fun b => P b ∧ b < w.heap.size) (stepC d (.mk h ks)) Y)) := fun hmay Y hY =>
    step_all d _ (may_okC hmay).1 (Nat.le_trans (may_okC hmay).2 (by decide)) (by have := hp (may_okC hmay).1; omega) h ks rfl _ A c Y hc (hr.there.below hY)
  have HSZ : Hid (mayC (.mk h ks) = true → (stepC d (.mk h ks)).size ≤ 400040001 ∧ shortC (stepC d (.mk h ks))) := fun hmay => by
    have hp2 := step_pot d _ (may_okC hmay).1
    exact ⟨step_size_le hmay, pot_short (step_ok d _ (may_okC hmay).1) (by have := hp (may_okC hmay).1; omega)⟩
  have HTT : Hid (stepT d (.mk h ks) = if mayC (.mk h ks) = true then (if mayC (stepC d (.mk h ks)) = true then stepC d (.mk h ks) else zeroC) else zeroC) := rfl
  have HTE : Hid (stepE d (.mk h ks) = if mayC (.mk h ks) = true then (if mayC (stepC d (.mk h ks)) = true then 0 else 4) else 1) := rfl
  have hszw := hbX.size
  clear hW hbW e1 e2 hX hbX hr hsh hp x1
  generalize mayC (.mk h ks) = m at *
  generalize stepC d (.mk h ks) = st at *
  go_enter Tryz.func34, Tryz.ntmps34
  obtain ⟨x0, x1, x2, x3, x4, x5, x6⟩ := co_at_box HE1.out
  rw [← HXX.out] at x0 x1 x2 x3 x4 x5 x6
  go_wp2_with fail
  clear x0 x1 x2 x3 x4 x5 x6
  have hcall := HM.out
  rw [← HXX.out] at hcall
  refine hcall.mono ?_
  rw [HXX.out]
  rintro e w1 ⟨rfl, hb1⟩
  have HB1 := Lib.hid (below_from HB.out hb1)
  have E1 := Lib.hid ((hb1.block _ (lt_of_block HE1.out)).trans HE1.out)
  have E2 := Lib.hid ((hb1.block _ (lt_of_block HE2.out)).trans HE2.out)
  obtain ⟨x0, x1, x2, x3, x4, x5, x6⟩ := co_at_box E1.out
  obtain ⟨⟨y0, y1, y2, y3, y4, y5, y6⟩, f0, f1, f2, f3, f4, f5, f6⟩ := co_cells E2.out
  have hszw := lt_of_block E2.out
  clear hb1 HM hcall HE1 HE2
  cases m with
  | false =>
    go_wp2_with fail
    refine bodyPost_ret (v := .tuple #[coV ⟨0, [], S4.zero⟩ none 0 0, .int .i64 1]) (by simp [results, Tryz.results34, go_sem, y0, y1, y2, y3, y4, y5, y6]; exact ⟨rfl, rfl, rfl, rfl⟩) rfl ⟨⟨0, [], S4.zero⟩, [], none, 0, by rw [HTE.out]; rfl, by rw [HTT.out]; rfl, Nat.le_refl _, by simp [InRow], seven_below HB1.out (by omega)⟩
  | true =>
    have HC := Lib.hid (HS0.out (by trivial) w1 HB1.out)
    have HSZ2 := Lib.hid (HSZ.out (by trivial))
    clear HS0 HSZ
    go_wp2_with fail
    refine HC.out.mono ?_
    rintro e w2 ⟨h2, k2, A2, c2, rfl, e2, hc2, hr2, hb2⟩
    have HB2 := Lib.hid (below_from HB1.out hb2)
    have E22 := Lib.hid ((hb2.block _ (lt_of_block E2.out)).trans E2.out)
    obtain ⟨Z, hZ⟩ : ∃ Z, (w2.alloc (.cells (coA h2 A2 k2.length c2) 60)) = Z := ⟨_, rfl⟩
    have hbZ : Below w2.heap.size w2 Z := by rw [← hZ]; exact below_new (Below.refl _ _) _
    have z1 : Z.heap[w2.heap.size]? = some (.cells (coA h2 A2 k2.length c2) 60 (0, 0)) := by rw [← hZ]; exact new_at1 _
    have hsZ : Z.heap.size = w2.heap.size + 1 := by rw [← hZ]; simp
    have hsz2 : T.sizes k2 ≤ 400040001 := by have := HSZ2.out.1; rw [e2] at this; simp only [T.size] at this; omega
    have hsh2 : shortC (.mk h2 k2) := by have := HSZ2.out.2; rw [e2] at this; exact this
    obtain ⟨Y, hY⟩ : ∃ Y, Z.alloc (.cells (coA h2 A2 k2.length c2) 60) = Y := ⟨_, rfl⟩
    have hbY : Below Z.heap.size Z Y := by rw [← hY]; exact below_new (Below.refl _ _) _
    have y1' : Y.heap[w2.heap.size + 1]? = some (.cells (coA h2 A2 k2.length c2) 60 (0, 0)) := by rw [← hY, ← hsZ]; exact new_at1 _
    have HM2 := Lib.hid (cMay_any [.mk h2 k2] (some ⟨w2.heap.size + 1, 0, none⟩) 1 Y (by simp only [T.sizes, T.size]; omega) (co_one (P := fun _ => True) y1' trivial hc2 (((hr2.below hbZ).below hbY).weak fun _ _ => trivial)) (fun t ht => by simp at ht; subst ht; exact hsh2))
    rw [show [T.mk h2 k2].all mayC = mayC (.mk h2 k2) by simp] at HM2
    rw [← e2] at HM2
    have HYY : Hid ((w2.alloc (.cells (coA h2 A2 k2.length c2) 60)).alloc (.cells (coA h2 A2 k2.length c2) 60) = Y) := by unfold Hid; rw [hZ]; exact hY
    have HB3 := Lib.hid (below_from HB2.out (below_from hbZ hbY))
    have Z1 := Lib.hid ((hbY.block _ (lt_of_block z1)).trans z1)
    have E23 := Lib.hid (((below_from hbZ hbY).block _ (lt_of_block E22.out)).trans E22.out)
    have HR3 := Lib.hid ((hr2.below hbZ).below hbY)
    have HT := Lib.hid e2
    have HC2 := Lib.hid hc2
    have hsb2 := hb2.size
    clear hZ hbZ z1 hsZ hY hbY hr2 hb2 e2 hc2 hsz2 hsh2 E2 E22 HC HSZ2 x0 x1 x2 x3 x4 x5 x6 E1 y0 y1 y2 y3 y4 y5 y6 f0 f1 f2 f3 f4 f5 f6 y1'
    obtain ⟨z0, z1, z2, z3, z4, z5, z6⟩ := co_at_box Z1.out
    rw [← HYY.out] at z0 z1 z2 z3 z4 z5 z6
    go_wp2_with fail
    clear z0 z1 z2 z3 z4 z5 z6
    have hcall := HM2.out
    rw [← HYY.out] at hcall
    refine hcall.mono ?_
    rw [HYY.out]
    rintro e w4 ⟨rfl, hb4⟩
    have HB4 := Lib.hid (below_from HB3.out hb4)
    have E24 := (hb4.block _ (lt_of_block E23.out)).trans E23.out
    obtain ⟨⟨y0, y1, y2, y3, y4, y5, y6⟩, f0, f1, f2, f3, f4, f5, f6⟩ := co_cells E24
    obtain ⟨z0, z1, z2, z3, z4, z5, z6⟩ := co_at_box ((hb4.block _ (lt_of_block Z1.out)).trans Z1.out)
    have HR4 := Lib.hid (HR3.out.below hb4)
    have hlt2 := HB1.out.size
    clear hb4 HM2 hcall E24 HR3
    rcases hmb : mayC st with _ | _
    · have HMB : Hid (mayC st = false) := hmb
      clear hmb
      go_wp2_with fail
      refine bodyPost_ret (v := .tuple #[coV ⟨0, [], S4.zero⟩ none 0 0, .int .i64 4]) (by simp [results, Tryz.results34, go_sem, y0, y1, y2, y3, y4, y5, y6]; exact ⟨rfl, rfl, rfl, rfl⟩) rfl ⟨⟨0, [], S4.zero⟩, [], none, 0, by rw [HTE.out, HMB.out]; rfl, by rw [HTT.out, HMB.out]; rfl, Nat.le_refl _, by simp [InRow], seven_below HB4.out (by omega)⟩
    · have HMB : Hid (mayC st = true) := hmb
      clear hmb
      go_wp2_with fail
      refine bodyPost_ret (v := .tuple #[coV h2 A2 k2.length c2, .int .i64 0]) (by simp [results, Tryz.results34, go_sem, y0, y1, y2, y3, y4, y5, y6]) rfl ⟨h2, k2, A2, c2, by rw [HTE.out, HMB.out]; rfl, by rw [HTT.out, HMB.out]; exact HT.out, HC2.out, (row_seven HR4.out fun x hx => by rcases hx with h | h; omega; omega).weak fun x hx => by rcases hx with h | h; exact .inl h.1; exact .inr (by omega), seven_below HB4.out (by omega)⟩
end Go.Proofs.YtgdigbbfgpenpaaGreatDoor
