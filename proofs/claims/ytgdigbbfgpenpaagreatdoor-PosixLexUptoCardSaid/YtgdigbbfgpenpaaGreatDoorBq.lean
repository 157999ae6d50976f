/- The steps of a text, made simpler. -/
import Derived.Test.YtgdigbbfgpenpaaGreatDoorBm
import Derived.Test.YtgdigbbfgpenpaaGreatDoorBd
import Derived.Test.YtgdigbbfgpenpaaGreatDoorBp
namespace Go.Proofs.YtgdigbbfgpenpaaGreatDoor
open Go.RowKit
set_option linter.unusedVariables false
set_option linter.unusedSimpArgs false

theorem good_sstep {n : Nat} {t : Co} {b : UInt8} (h : Good (n + 1) t) (he : stepE b t = 0) : Good n (sstepT b t) := by
  have h1 := good_step h he
  unfold sstepT
  rw [if_pos he]
  have h2 := simp_pot _ h1.1
  have h3 := simp_size _ h1.1
  refine ⟨simp_ok _ h1.1, Nat.le_trans h3 h1.2.1, ?_⟩
  have h4 := h1.2.2
  have a : (n + 2) * potS (simpC (stepT b t)) ≤ (n + 2) * potS (stepT b t) := Nat.mul_le_mul_left _ h2.2
  omega
end Go.Proofs.YtgdigbbfgpenpaaGreatDoor
