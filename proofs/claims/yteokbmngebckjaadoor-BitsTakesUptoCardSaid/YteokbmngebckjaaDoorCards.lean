/-
  DERIVED. GIVEN WITH THE SEED: THE CARDS: each row of YteokbmngebckjaaDoorRows.lean that lists a variable, with what it lists TIED to the program's text (the seventh form; the later family's looks); each row that meets fmt, with fmt's text TOLD by the authors' own Lean function (tested against real Go, not proved from fmt's source: count such statements apart). THE CARD IS WHAT COUNTS. Prove the row's statement (the work); the ties are given (YteokbmngebckjaaDoorTie.lean); close each card by the builder's one call (the guide's Derived/Test/ToyasCard.lean, 'card_holds'). Laid BY PROGRAM, IN A SANDBOX (cutbox-door.mjs). By AI agents, Wed Nov 11 2026. No macro, syntax, notation, axiom, sorry.
-/
import Derived.Test.YteokbmngebckjaaDoorRows
import GoSem.ClaimSeven
namespace Go.Proofs.YteokbmngebckjaaDoor
namespace Rows

/-- THE TIED CARD OF 'quilllaw15.BitsTakes'. -/
def bitsTakesCard : Claim7 := { stood := { row := bitsTakesRow, standIns := [], harness := (true, "8d2073f1a43574bd75846755ee109654c9a0700942b62675e359741a225d27e4"), looks := true }, kinds := [], alts := [], laidByText := true, laidKinds := [.data], laidTests := true, laidLooks := .later }
def BitsTakesCardSaid : Prop := Claim7.holds Tryd.pinned (.plain (OpenSpec.ofChange bitsTakesSpec)) bitsTakesCard

/-- THE TIED CARD OF 'quilllaw15.BitsBack'. -/
def bitsBackCard : Claim7 := { stood := { row := bitsBackRow, standIns := [], harness := (true, "8d2073f1a43574bd75846755ee109654c9a0700942b62675e359741a225d27e4"), looks := true }, kinds := [], alts := [], laidByText := true, laidKinds := [.data], laidTests := true, laidLooks := .later }
def BitsBackCardSaid : Prop := Claim7.holds Tryd.pinned (.plain (OpenSpec.ofChange bitsBackSpec)) bitsBackCard

/-- THE TIED CARD OF 'quilllaw15.BitsTails'. -/
def bitsTailsCard : Claim7 := { stood := { row := bitsTailsRow, standIns := [], harness := (true, "8d2073f1a43574bd75846755ee109654c9a0700942b62675e359741a225d27e4"), looks := true }, kinds := [], alts := [], laidByText := true, laidKinds := [.data], laidTests := true, laidLooks := .later }
def BitsTailsCardSaid : Prop := Claim7.holds Tryd.pinned (.plain (OpenSpec.ofChange bitsTailsSpec)) bitsTailsCard

/-- THE SECOND FORM's CARD OF 'quilllaw15.BitsTakes'. -/
def bitsTakesUptoCard : Claim7 := { stood := { row := bitsTakesUptoRow, standIns := [], harness := (true, "8d2073f1a43574bd75846755ee109654c9a0700942b62675e359741a225d27e4"), looks := true }, kinds := [], alts := [], laidByText := true, laidKinds := [.data], laidTests := true, laidLooks := .later }
def BitsTakesUptoCardSaid : Prop := Claim7.holds Tryd.pinned (.plain (OpenSpec.upto bitsTakesSpec)) bitsTakesUptoCard

/-- THE SECOND FORM's CARD OF 'quilllaw15.BitsBack'. -/
def bitsBackUptoCard : Claim7 := { stood := { row := bitsBackUptoRow, standIns := [], harness := (true, "8d2073f1a43574bd75846755ee109654c9a0700942b62675e359741a225d27e4"), looks := true }, kinds := [], alts := [], laidByText := true, laidKinds := [.data], laidTests := true, laidLooks := .later }
def BitsBackUptoCardSaid : Prop := Claim7.holds Tryd.pinned (.plain (OpenSpec.upto bitsBackSpec)) bitsBackUptoCard

/-- THE SECOND FORM's CARD OF 'quilllaw15.BitsTails'. -/
def bitsTailsUptoCard : Claim7 := { stood := { row := bitsTailsUptoRow, standIns := [], harness := (true, "8d2073f1a43574bd75846755ee109654c9a0700942b62675e359741a225d27e4"), looks := true }, kinds := [], alts := [], laidByText := true, laidKinds := [.data], laidTests := true, laidLooks := .later }
def BitsTailsUptoCardSaid : Prop := Claim7.holds Tryd.pinned (.plain (OpenSpec.upto bitsTailsSpec)) bitsTailsUptoCard
end Rows
end Go.Proofs.YteokbmngebckjaaDoor
