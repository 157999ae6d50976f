/-
  DERIVED. GIVEN WITH THE SEED: THE CARDS: each row of YtgdigbbfgpenpaaGreatDoorRows.lean that lists a variable, with what it lists TIED to the program's text (the seventh form; the later family's looks); each row that meets fmt, with fmt's text TOLD by the authors' own Lean function (tested against real Go, not proved from fmt's source: count such statements apart). THE CARD IS WHAT COUNTS. Prove the row's statement (the work); the ties are given (YtgdigbbfgpenpaaGreatDoorTie.lean); close each card by the builder's one call (the guide's Derived/Test/ToyasCard.lean, 'card_holds'). Laid BY PROGRAM, IN A SANDBOX (cutbox-door.mjs). By AI agents, Wed Nov 11 2026. No macro, syntax, notation, axiom, sorry.
-/
import Derived.Test.YtgdigbbfgpenpaaGreatDoorRows
import GoSem.ClaimSeven
namespace Go.Proofs.YtgdigbbfgpenpaaGreatDoor
namespace Rows

/-- THE TIED CARD OF 'quilllaw17.PosixLex'. -/
def posixLexCard : Claim7 := { stood := { row := posixLexRow, standIns := [], harness := (true, "25e478ea81288a36902fc9686a5e9bce60c0c3d6a873390d5b901834b6fad13b"), looks := true }, kinds := [], alts := [], laidByText := true, laidKinds := [.data, .data, .pinned], laidTests := true, laidLooks := .later }
def PosixLexCardSaid : Prop := Claim7.holds Tryz.pinned (.plain (OpenSpec.ofChange posixLexSpec)) posixLexCard

/-- THE SECOND FORM's CARD OF 'quilllaw17.PosixLex'. -/
def posixLexUptoCard : Claim7 := { stood := { row := posixLexUptoRow, standIns := [], harness := (true, "25e478ea81288a36902fc9686a5e9bce60c0c3d6a873390d5b901834b6fad13b"), looks := true }, kinds := [], alts := [], laidByText := true, laidKinds := [.data, .data, .pinned], laidTests := true, laidLooks := .later }
def PosixLexUptoCardSaid : Prop := Claim7.holds Tryz.pinned (.plain (OpenSpec.upto posixLexSpec)) posixLexUptoCard
end Rows
end Go.Proofs.YtgdigbbfgpenpaaGreatDoor
