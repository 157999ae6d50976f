/- Made simpler, at a Seq. The document's, made simpler, at a Seq. The document's, made simpler, at an Alt. Made simpler: all kinds; Simp; the steps. The document's example of layer 18. -/
import Derived.Test.YtgdigbbfgpenpaaGreatDoorBo
import Derived.Test.YtgdigbbfgpenpaaGreatDoorBl
import Derived.Test.YtgdigbbfgpenpaaGreatDoorBf
namespace Go.Proofs.YtgdigbbfgpenpaaGreatDoor
open Go.RowKit
set_option linter.unusedVariables false
set_option linter.unusedSimpArgs false

end Go.Proofs.YtgdigbbfgpenpaaGreatDoor
namespace Go.Proofs.YtgdigbbfgpenpaaGreatDoor
open Go.RowKit
set_option linter.unusedVariables false
set_option linter.unusedSimpArgs false

end Go.Proofs.YtgdigbbfgpenpaaGreatDoor
namespace Go.Proofs.YtgdigbbfgpenpaaGreatDoor
open Go.RowKit
set_option linter.unusedVariables false
set_option linter.unusedSimpArgs false

end Go.Proofs.YtgdigbbfgpenpaaGreatDoor
namespace Go.Proofs.YtgdigbbfgpenpaaGreatDoor
open Go.RowKit
set_option linter.unusedVariables false
set_option linter.unusedSimpArgs false

theorem flatL_sizes : ∀ {ks : List Co}, (∀ t ∈ ks, okC t = true) → T.sizes (flatL ks) ≤ T.sizes ks
  | [], _ => Nat.le_refl _
  | t :: ts, h => by
    have ih := flatL_sizes fun x hx => h x (List.mem_cons_of_mem _ hx)
    have h1 := flat1_size (simp_ok t (h t List.mem_cons_self))
    have h2 := simp_size t (h t List.mem_cons_self)
    unfold flatL at ih ⊢
    rw [List.flatMap_cons, T.sizes_append]
    simp only [T.sizes]
    omega
theorem flatL_mem {ks : List Co} {x : Co} (h : x ∈ flatL ks) : ∃ t ∈ ks, x ∈ flat1 (simpC t) := by
  unfold flatL at h
  exact List.mem_flatMap.1 h
theorem kid_all {t y : Co} (h : y ∈ t.kids) : y ∈ t.all := by
  obtain ⟨h1, ks⟩ := t
  obtain ⟨h2, k2⟩ := y
  simp only [T.kids] at h
  simp only [T.all, List.mem_cons]
  exact .inr (alls_mem h (by simp [T.all]))
theorem self_all (t : Co) : t ∈ t.all := by
  obtain ⟨h1, ks⟩ := t
  simp [T.all]
/-- what an Alt's row of those made simpler is like -/
theorem flat_facts {b : List UInt8} {ks : List Co} (hk : okCL ks = true) (hz : (cAlt b ks).size ≤ 20000) (hp : potV (cAlt b ks) + potS (cAlt b ks) ≤ 1000000000) :
    ks.length ≤ 1000000 ∧ (flatL ks).length ≤ 1000000 ∧ (∀ t ∈ ks, ∀ y ∈ (simpC t).kids, (simpC t).head.b.length + y.head.b.length ≤ 9223372036854775807) ∧ SieveOk (flatL ks) ∧ ∀ t ∈ flatL ks, b.length + t.head.b.length ≤ 9223372036854775807 := by
  have ho : ∀ t ∈ ks, okC t = true := fun t ht => okCL_mem hk ht
  rw [potV_alt, potS_alt] at hp
  simp only [T.size] at hz
  have hs := flatL_sizes ho
  have hl := T.length_le_sizes ks
  have hl2 := T.length_le_sizes (flatL ks)
  have hpt : ∀ t ∈ ks, potV (simpC t) + potS (simpC t) ≤ 1000000000 := fun t ht => by
    have h1 := simp_pot t (ho t ht)
    have h2 := le_potMax ht
    have h3 := le_potSs ht
    omega
  have hpf : ∀ t ∈ flatL ks, okC t = true ∧ potV t + potS t ≤ 1000000000 := fun t ht => by
    obtain ⟨x, hx, hf⟩ := flatL_mem ht
    have h1 := flat1_pot (simp_ok x (ho x hx)) t hf
    have h2 := hpt x hx
    exact ⟨flat1_ok (simp_ok x (ho x hx)) t hf, by omega⟩
  refine ⟨by omega, by omega, fun t ht y hy => ?_, fun t ht => ?_, fun t ht => ?_⟩
  · have h1 := node_pot _ (simp_ok t (ho t ht)) _ (self_all _)
    have h2 := node_pot _ (simp_ok t (ho t ht)) _ (kid_all hy)
    have := hpt t ht
    omega
  · have h1 := hpf t ht
    have h2 := T.sizes_mem ht
    refine ⟨?_, by omega, pot_short h1.1 (by omega)⟩
    unfold mayC
    rw [h1.1]
    simp only [Bool.true_and, decide_eq_true_eq]
    omega
  · have h1 := head_pot t
    have h2 := (hpf t ht).2
    omega
/-- a row's post, in a box of the result's -/
theorem coPost_mono {P P' : Nat → Prop} {t : Co} {w0 w : World} {e : Ending} {w' : World} (h : CoPostX P' t w e w') (hP : ∀ x, P' x → P x ∨ w0.heap.size ≤ x) (hb : Below w0.heap.size w0 w) : CoPostX P t w0 e w' := by
  obtain ⟨h1, k, A, c, e1, e2, hc, hr, hb1⟩ := h
  exact ⟨h1, k, A, c, e1, e2, hc, hr.weak fun x hx => by rcases hx with h | h; exact hP x h; exact .inr (Nat.le_trans hb.size h), below_from hb hb1⟩
def simpMT (t : Co) : Co := if mayC t = true then simpC t else zeroC
def SimpPost (P : Nat → Prop) (t : Co) (m : Bool) (w : World) (e : Ending) (w' : World) : Prop := ∃ h ks A c, e = .returned (.tuple #[coV h A ks.length c, .bool m]) ∧ simpMT t = .mk h ks ∧ ks.length ≤ c ∧ InRow CE (fun x => P x ∨ w.heap.size ≤ x) w' ks A 0 ∧ Below w.heap.size w w'
def sstepT (d : UInt8) (t : Co) : Co := if stepE d t = 0 then simpC (stepT d t) else zeroC
def SStepPostE (P : Nat → Prop) (d : UInt8) (t : Co) (se : Int) (w : World) (e : Ending) (w' : World) : Prop := ∃ h ks A c, e = .returned (.tuple #[coV h A ks.length c, .int .i64 se]) ∧ sstepT d t = .mk h ks ∧ ks.length ≤ c ∧ InRow CE (fun x => P x ∨ w.heap.size ≤ x) w' ks A 0 ∧ Below w.heap.size w w'
abbrev SStepPost (P : Nat → Prop) (d : UInt8) (t : Co) (w : World) (e : Ending) (w' : World) : Prop := SStepPostE P d t (stepE d t) w e w'
theorem step_good {d : UInt8} {t : Co} (he : stepE d t = 0) (hp : okC t = true → potV t + 2 * potS t ≤ 1000000000) : okC (stepT d t) = true ∧ (stepT d t).size ≤ 20000 ∧ potV (stepT d t) + potS (stepT d t) ≤ 1000000000 := by
  unfold stepE at he
  by_cases h1 : mayC t = true
  · rw [if_pos h1] at he
    by_cases h2 : mayC (stepC d t) = true
    · have ho := (may_okC h1).1
      have h3 := step_pot d t ho
      have h4 := hp ho
      unfold stepT
      rw [if_pos h1, if_pos h2]
      exact ⟨(may_okC h2).1, (may_okC h2).2, by omega⟩
    · rw [if_neg h2] at he; cases he
  · rw [if_neg h1] at he; cases he
end Go.Proofs.YtgdigbbfgpenpaaGreatDoor
namespace Go.Proofs.YtgdigbbfgpenpaaGreatDoor
open Go.RowKit
set_option linter.unusedVariables false
set_option linter.unusedSimpArgs false

abbrev ex18 : Co := .mk ⟨5, [], S4.zero⟩ [.mk ⟨1, [], S4.zero⟩ [], .mk ⟨2, [49], S4.zero⟩ []]
theorem ex18_may : mayC ex18 = true := by decide +kernel
theorem ex18_simp : simpMT ex18 = .mk ⟨2, [49], S4.zero⟩ [] := by rfl
theorem ex18_short : shortC ex18 := fun x hx => by
  simp [T.all, T.alls] at hx
  rcases hx with rfl | rfl | rfl <;> decide
theorem ex18_pot : potV ex18 + potS ex18 ≤ 1000000000 := by decide +kernel
end Go.Proofs.YtgdigbbfgpenpaaGreatDoor
