/-
  DERIVED. GIVEN WITH THE SEED: THE CARDS: each row of YthbcofbdgljfbaaDoorRows.lean that lists a variable, with what it lists TIED to the program's text (the seventh form; the later family's looks); each row that meets fmt, with fmt's text TOLD by the authors' own Lean function (tested against real Go, not proved from fmt's source: count such statements apart). THE CARD IS WHAT COUNTS. Prove the row's statement (the work); the ties are given (YthbcofbdgljfbaaDoorTie.lean); close each card by the builder's one call (the guide's Derived/Test/ToyasCard.lean, 'card_holds'). Laid BY PROGRAM, IN A SANDBOX (cutbox-door.mjs). By AI agents, Wed Nov 11 2026. No macro, syntax, notation, axiom, sorry.
-/
import Derived.Test.YthbcofbdgljfbaaDoorRows
import GoSem.ClaimSeven
namespace Go.Proofs.YthbcofbdgljfbaaDoor
namespace Rows

/-- THE TIED CARD OF 'quilllaw01.NumDigits'. -/
def numDigitsCard : Claim7 := { stood := { row := numDigitsRow, standIns := [], harness := (true, "fbbaa6778bfa1df5db7d1d95fc9c07b6abd309e74a4f9dd5f4cd829cd853f512"), looks := true }, kinds := [], alts := [], laidByText := true, laidKinds := [.data, .data, .data], laidTests := true, laidLooks := .later }
def NumDigitsCardSaid : Prop := Claim7.holds Tryd.pinned (.plain (OpenSpec.ofChange numDigitsSpec)) numDigitsCard

/-- THE TIED CARD OF 'quilllaw01.NumReads'. -/
def numReadsCard : Claim7 := { stood := { row := numReadsRow, standIns := [], harness := (true, "fbbaa6778bfa1df5db7d1d95fc9c07b6abd309e74a4f9dd5f4cd829cd853f512"), looks := true }, kinds := [], alts := [], laidByText := true, laidKinds := [.data, .data, .data, .sentinel, .sentinel], laidTests := true, laidLooks := .later }
def NumReadsCardSaid : Prop := Claim7.holds Tryd.pinned (.plain (OpenSpec.ofChange numReadsSpec)) numReadsCard

/-- THE TIED CARD OF 'quilllaw01.NumBack'. -/
def numBackCard : Claim7 := { stood := { row := numBackRow, standIns := [], harness := (true, "fbbaa6778bfa1df5db7d1d95fc9c07b6abd309e74a4f9dd5f4cd829cd853f512"), looks := true }, kinds := [], alts := [], laidByText := true, laidKinds := [.data, .data, .data, .sentinel, .sentinel], laidTests := true, laidLooks := .later }
def NumBackCardSaid : Prop := Claim7.holds Tryd.pinned (.plain (OpenSpec.ofChange numBackSpec)) numBackCard

/-- THE SECOND FORM's CARD OF 'quilllaw01.NumDigits'. -/
def numDigitsUptoCard : Claim7 := { stood := { row := numDigitsUptoRow, standIns := [], harness := (true, "fbbaa6778bfa1df5db7d1d95fc9c07b6abd309e74a4f9dd5f4cd829cd853f512"), looks := true }, kinds := [], alts := [], laidByText := true, laidKinds := [.data, .data, .data], laidTests := true, laidLooks := .later }
def NumDigitsUptoCardSaid : Prop := Claim7.holds Tryd.pinned (.plain (OpenSpec.upto numDigitsSpec)) numDigitsUptoCard

/-- THE SECOND FORM's CARD OF 'quilllaw01.NumReads'. -/
def numReadsUptoCard : Claim7 := { stood := { row := numReadsUptoRow, standIns := [], harness := (true, "fbbaa6778bfa1df5db7d1d95fc9c07b6abd309e74a4f9dd5f4cd829cd853f512"), looks := true }, kinds := [], alts := [], laidByText := true, laidKinds := [.data, .data, .data, .sentinel, .sentinel], laidTests := true, laidLooks := .later }
def NumReadsUptoCardSaid : Prop := Claim7.holds Tryd.pinned (.plain (OpenSpec.upto numReadsSpec)) numReadsUptoCard

/-- THE SECOND FORM's CARD OF 'quilllaw01.NumBack'. -/
def numBackUptoCard : Claim7 := { stood := { row := numBackUptoRow, standIns := [], harness := (true, "fbbaa6778bfa1df5db7d1d95fc9c07b6abd309e74a4f9dd5f4cd829cd853f512"), looks := true }, kinds := [], alts := [], laidByText := true, laidKinds := [.data, .data, .data, .sentinel, .sentinel], laidTests := true, laidLooks := .later }
def NumBackUptoCardSaid : Prop := Claim7.holds Tryd.pinned (.plain (OpenSpec.upto numBackSpec)) numBackUptoCard
end Rows
end Go.Proofs.YthbcofbdgljfbaaDoor
