/- A step: the coded derivative, or the error. -/
import Derived.Test.YteokbmngebckjaaBk
import Derived.Test.YteokbmngebckjaaBh
namespace Go.Proofs.Yteokbmngebckjaa
open Go.RowKit
set_option linter.unusedVariables false
set_option linter.unusedSimpArgs false

abbrev zeroC : Co := .mk ⟨0, [], S4.zero⟩ []
/-- the error's number -/
def stepE (d : UInt8) (t : Co) : Int := if mayC t = true then (if mayC (stepC d t) = true then 0 else 4) else 1
def stepT (d : UInt8) (t : Co) : Co := if mayC t = true then (if mayC (stepC d t) = true then stepC d t else zeroC) else zeroC
def StepPost (P : Nat → Prop) (d : UInt8) (t : Co) (w : World) (e : Ending) (w' : World) : Prop := ∃ h ks A c, e = .returned (.tuple #[coV h A ks.length c, .int .i64 (stepE d t)]) ∧ stepT d t = .mk h ks ∧ ks.length ≤ c ∧ InRow CE (fun x => P x ∨ w.heap.size ≤ x) w' ks A 0 ∧ Below w.heap.size w w'
theorem may_none {t : Co} (ho : okC t = false) : mayC t = false := by unfold mayC; rw [ho]; rfl
end Go.Proofs.Yteokbmngebckjaa
