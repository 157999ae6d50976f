/- A region that draws its order, whose callees keep what was there: walked once, in the order of the text. -/
import Derived.Test.YteoghoaggpbkpaaDoorRow1
import Derived.BigQuiet
namespace Go.Proofs.YteoghoaggpbkpaaDoor
open Go.RowKit
set_option linter.unusedVariables false

/-- a world in which all lies that lay in W -/
structure BelowBy (W : World) where
  w : World
  h : Below W.heap.size W w
noncomputable instance (W : World) : Inhabited (BelowBy W) := ⟨⟨W, Below.refl _ _⟩⟩
theorem wp_region_below {P : Program} {id : Nat} {Q : Exit → Act → World → Prop} {a : Act} {W w : World} {l : List Oper} (hm : P.follows .mixedOrders = true) (hB : Region.lexB .any l.toArray = true) (hw : Below W.heap.size W w)
    (h : wpQuiet P l.toArray (fun w' => ∃ p : BelowBy W, w' = p.w) (fun a' => ∀ w', (∃ p : BelowBy W, w' = p.w) → Q .normal a' w') l a) : (Code.region id l.toArray true).wp P Q a w :=
  wp_region_quiet (C := fun w' => ∃ p : BelowBy W, w' = p.w) hm hB ⟨⟨w.drew, hw.drew⟩, rfl⟩ (by simpa using h)
theorem Calls.below_of {P : Program} {f : FuncId} {args : Array Value} {W : World} {v : Value} {q : BelowBy W}
    (h : Calls P f args q.w fun e w' => e = .returned v ∧ Below q.w.heap.size q.w w') : Calls P f args q.w fun e w'' => e = .returned v ∧ ∃ p : BelowBy W, w'' = p.w :=
  h.mono fun _ w' ⟨he, hb⟩ => ⟨he, ⟨w', below_from q.h hb⟩, rfl⟩
theorem Calls.below_same {P : Program} {f : FuncId} {args : Array Value} {W : World} {v : Value} {q : BelowBy W}
    (h : Calls P f args q.w fun e w' => e = .returned v ∧ w' = q.w) : Calls P f args q.w fun e w'' => e = .returned v ∧ ∃ p : BelowBy W, w'' = p.w :=
  h.mono fun _ w' ⟨he, hb⟩ => ⟨he, q, hb⟩
theorem BelowBy.cell {W : World} {a : Addr} {v : Value} (h : W.cell? a = some v) (p : BelowBy W) : p.w.cell? a = some v := keep_cell p.h h
end Go.Proofs.YteoghoaggpbkpaaDoor
