/- The reader of bits: a bit. The reader of bits: a value's bits, at Eps, at a class. The reader of bits: a value's bits, at Alt. The reader of bits: a value's bits, at a Seq. The reader of bits: a value's bits, at a Star. -/
import Derived.Test.YteokbmngebckjaaBw
import Derived.Test.YteokbmngebckjaaBx
import Derived.Test.YteokbmngebckjaaBb
namespace Go.Proofs.Yteokbmngebckjaa
open Go.RowKit
set_option linter.unusedVariables false
set_option linter.unusedSimpArgs false

end Go.Proofs.Yteokbmngebckjaa
namespace Go.Proofs.Yteokbmngebckjaa
open Go.RowKit
set_option linter.unusedVariables false
set_option linter.unusedSimpArgs false

theorem kept_row {w w' : World} {b : Nat} {P : Nat → Prop} {ks : List Re} {A : Option Addr} {i : Nat} (h : InRow RE P w ks A i) (k : Kept w b w') (hp : ∀ x, P x → x ≠ b) : InRow RE P w' ks A i :=
  h.grown k (fun x hx e => hp x hx (Option.some.inj e))
end Go.Proofs.Yteokbmngebckjaa
namespace Go.Proofs.Yteokbmngebckjaa
open Go.RowKit
set_option linter.unusedVariables false
set_option linter.unusedSimpArgs false

theorem kept_blk {w w' : World} {b j : Nat} {o : Obj} (k : Kept w b w') (h : w.heap[j]? = some o) (hj : j ≠ b) : w'.heap[j]? = some o :=
  (k.block _ (lt_of_block h) (fun e => hj (Option.some.inj e))).trans h
end Go.Proofs.Yteokbmngebckjaa
namespace Go.Proofs.Yteokbmngebckjaa
open Go.RowKit
set_option linter.unusedVariables false
set_option linter.unusedSimpArgs false

end Go.Proofs.Yteokbmngebckjaa
namespace Go.Proofs.Yteokbmngebckjaa
open Go.RowKit
set_option linter.unusedVariables false
set_option linter.unusedSimpArgs false

/-- how long the text is that a reader's box holds -/
def rdLen (w : World) (b : Nat) : Nat := match w.cell? ⟨b, 0, none⟩ with | some (.string s) => s.size | _ => 0
theorem rdLen_eq {w : World} {b : Nat} {S : ByteArray} {t : TypeId} (h : w.heap[b]? = some (.cells #[.string S] t (0, 0))) : rdLen w b = S.size := by
  have := (fil_cells h).1
  simp [rdLen, this]
end Go.Proofs.Yteokbmngebckjaa
