/- The steps of a text. -/
import Derived.Test.YteokbmngebckjaaBl
import Derived.Test.YteokbmngebckjaaBi
namespace Go.Proofs.Yteokbmngebckjaa
open Go.RowKit
set_option linter.unusedVariables false
set_option linter.unusedSimpArgs false

theorem grown_transW {w x y : World} {r : Option Nat} (h : w.grownBy x r) (k : x.grownBy y r) : w.grownBy y r :=
  ⟨k.os.trans h.os, k.tape.trans h.tape, k.output.trans h.output, Nat.le_trans h.size k.size, fun j hj hr => (k.block j (Nat.lt_of_lt_of_le hj h.size) hr).trans (h.block j hj hr)⟩
theorem seven_grown (w : World) (b : Nat) (u0 u1 u2 u3 u4 u5 u6 : Value) : w.grownBy (((((((w.setCell ⟨b, 0, none⟩ u0).setCell ⟨b, 1, none⟩ u1).setCell ⟨b, 2, none⟩ u2).setCell ⟨b, 3, none⟩ u3).setCell ⟨b, 4, none⟩ u4).setCell ⟨b, 5, none⟩ u5).setCell ⟨b, 6, none⟩ u6) (some b) :=
  grown_transW (grown_transW (grown_transW (grown_transW (grown_transW (grown_transW (set_grown w b 0 u0) (set_grown _ b 1 u1)) (set_grown _ b 2 u2)) (set_grown _ b 3 u3)) (set_grown _ b 4 u4)) (set_grown _ b 5 u5)) (set_grown _ b 6 u6)
def walkE (sE : UInt8 → Co → Int) (sT : UInt8 → Co → Co) : Co → List UInt8 → Int
  | _, [] => 0
  | c, b :: s => if sE b c = 0 then walkE sE sT (sT b c) s else sE b c
def walkL (sT : UInt8 → Co → Co) : Co → List UInt8 → List Co
  | c, [] => [c]
  | c, b :: s => c :: walkL sT (sT b c) s
/-- the steps of a text, and the error's number -/
def walkR (sE : UInt8 → Co → Int) (sT : UInt8 → Co → Co) (t : Re) (s : List UInt8) : List Co × Int :=
  if mayB t = true then (if walkE sE sT (ofC t) s = 0 then (walkL sT (ofC t) s, 0) else ([], walkE sE sT (ofC t) s)) else ([], 1)
def Good (n : Nat) (t : Co) : Prop := okC t = true ∧ t.size ≤ 20000 ∧ potV t + (n + 2) * potS t ≤ 1000000000
theorem good_step {n : Nat} {t : Co} {b : UInt8} (h : Good (n + 1) t) (he : stepE b t = 0) : Good n (stepT b t) := by
  unfold stepE at he
  by_cases h1 : mayC t = true
  · rw [if_pos h1] at he
    by_cases h2 : mayC (stepC b t) = true
    · have hp := step_pot b t h.1
      have h3 := h.2.2
      unfold stepT
      rw [if_pos h1, if_pos h2]
      refine ⟨(may_okC h2).1, (may_okC h2).2, ?_⟩
      have a1 : (n + 2) * potS (stepC b t) ≤ (n + 2) * potS t := Nat.mul_le_mul_left _ hp.2
      have a2 : (n + 1 + 2) * potS t = (n + 2) * potS t + potS t := by rw [show n + 1 + 2 = (n + 2) + 1 by omega, Nat.add_mul, Nat.one_mul]
      omega
    · rw [if_neg h2] at he; cases he
  · rw [if_neg h1] at he; cases he
theorem good_of {n : Nat} {t : Re} (h : mayB t = true) (hn : n ≤ 100) : Good n (ofC t) := by
  have ho := of_ok t (may_okT h)
  have hm := of_may h
  have hz := (may_okC hm).2
  have h2 := potV_le (m := 1) (ofC t) ho (of_few t (may_okT h))
  have hz2 : (ofC t).size ≤ 2000 := by
    rw [of_size t (may_okT h)]
    unfold mayB at h
    simp only [Bool.and_eq_true, decide_eq_true_eq] at h
    exact h.2
  have a1 : (ofC t).size * (1 + 1) ≤ 2000 * 2 := Nat.mul_le_mul hz2 (by omega)
  have a2 : (ofC t).size * ((ofC t).size * (1 + 1)) ≤ 2000 * (2000 * 2) := Nat.mul_le_mul hz2 a1
  have a3 : (n + 2) * potS (ofC t) ≤ 102 * (2000 * (2000 * 2)) := Nat.mul_le_mul (by omega) (by omega)
  exact ⟨ho, hz, by omega⟩
theorem good_short {n : Nat} {t : Co} (h : Good n t) : shortC t := pot_short h.1 (by have := h.2.2; have a : 1 * potS t ≤ (n + 2) * potS t := Nat.mul_le_mul_right _ (by omega); omega)
theorem good_two {n : Nat} {t : Co} (h : Good n t) : potV t + 2 * potS t ≤ 1000000000 := by have := h.2.2; have a : 2 * potS t ≤ (n + 2) * potS t := Nat.mul_le_mul_right _ (by omega); omega
def WalkPost (R : List Co × Int) (w : World) (e : Ending) (w' : World) : Prop := ∃ A c, e = .returned (.tuple #[.slice A R.1.length c, .int .i64 R.2]) ∧ R.1.length ≤ c ∧ InRow CE (fun x => w.heap.size ≤ x) w' R.1 A 0 ∧ Below w.heap.size w w'
end Go.Proofs.Yteokbmngebckjaa
