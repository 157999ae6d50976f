/-
  DERIVED. GIVEN WITH THE SEED: THE CARDS: each row of YthagcmpehpgmpaaDoorRows.lean that lists a variable, with what it lists TIED to the program's text (the seventh form; the later family's looks); each row that meets fmt, with fmt's text TOLD by the authors' own Lean function (tested against real Go, not proved from fmt's source: count such statements apart). THE CARD IS WHAT COUNTS. Prove the row's statement (the work); the ties are given (YthagcmpehpgmpaaDoorTie.lean); close each card by the builder's one call (the guide's Derived/Test/ToyasCard.lean, 'card_holds'). Laid BY PROGRAM, IN A SANDBOX (cutbox-door.mjs). By AI agents, Wed Nov 11 2026. No macro, syntax, notation, axiom, sorry.
-/
import Derived.Test.YthagcmpehpgmpaaDoorRows
import GoSem.ClaimSeven
namespace Go.Proofs.YthagcmpehpgmpaaDoor
namespace Rows

/-- THE TIED CARD OF 'quilllaw02.SetTexts'. -/
def setTextsCard : Claim7 := { stood := { row := setTextsRow, standIns := [], harness := (true, "b5f2ad447ac8cc9334ff213ca2e3e0e82d5c3f4aa6330504614077623fe701fb"), looks := true }, kinds := [], alts := [], laidByText := true, laidKinds := [.data], laidTests := true, laidLooks := .later }
def SetTextsCardSaid : Prop := Claim7.holds Tryd.pinned (.plain (OpenSpec.ofChange setTextsSpec)) setTextsCard

/-- THE TIED CARD OF 'quilllaw02.SetMakes'. -/
def setMakesCard : Claim7 := { stood := { row := setMakesRow, standIns := [], harness := (true, "b5f2ad447ac8cc9334ff213ca2e3e0e82d5c3f4aa6330504614077623fe701fb"), looks := true }, kinds := [], alts := [], laidByText := true, laidKinds := [.data], laidTests := true, laidLooks := .later }
def SetMakesCardSaid : Prop := Claim7.holds Tryd.pinned (.plain (OpenSpec.ofChange setMakesSpec)) setMakesCard

/-- THE TIED CARD OF 'quilllaw02.SetBack'. -/
def setBackCard : Claim7 := { stood := { row := setBackRow, standIns := [], harness := (true, "b5f2ad447ac8cc9334ff213ca2e3e0e82d5c3f4aa6330504614077623fe701fb"), looks := true }, kinds := [], alts := [], laidByText := true, laidKinds := [.data], laidTests := true, laidLooks := .later }
def SetBackCardSaid : Prop := Claim7.holds Tryd.pinned (.plain (OpenSpec.ofChange setBackSpec)) setBackCard

/-- THE TIED CARD OF 'quilllaw02.SetMany'. -/
def setManyCard : Claim7 := { stood := { row := setManyRow, standIns := [], harness := (true, "b5f2ad447ac8cc9334ff213ca2e3e0e82d5c3f4aa6330504614077623fe701fb"), looks := true }, kinds := [], alts := [], laidByText := true, laidKinds := [.data], laidTests := true, laidLooks := .later }
def SetManyCardSaid : Prop := Claim7.holds Tryd.pinned (.plain (OpenSpec.ofChange setManySpec)) setManyCard

/-- THE TIED CARD OF 'quilllaw02.SetTwos'. -/
def setTwosCard : Claim7 := { stood := { row := setTwosRow, standIns := [], harness := (true, "b5f2ad447ac8cc9334ff213ca2e3e0e82d5c3f4aa6330504614077623fe701fb"), looks := true }, kinds := [], alts := [], laidByText := true, laidKinds := [.data], laidTests := true, laidLooks := .later }
def SetTwosCardSaid : Prop := Claim7.holds Tryd.pinned (.plain (OpenSpec.ofChange setTwosSpec)) setTwosCard

/-- THE TIED CARD OF 'quilllaw05.ShowApart'. -/
def showApartCard : Claim7 := { stood := { row := showApartRow, standIns := [], harness := (true, "b5f2ad447ac8cc9334ff213ca2e3e0e82d5c3f4aa6330504614077623fe701fb"), looks := true }, kinds := [], alts := [], laidByText := true, laidKinds := [.data], laidTests := true, laidLooks := .later }
def ShowApartCardSaid : Prop := Claim7.holds Tryd.pinned (.plain (OpenSpec.ofChange showApartSpec)) showApartCard

/-- THE TIED CARD OF 'quilllaw05.ShowTurns'. -/
def showTurnsCard : Claim7 := { stood := { row := showTurnsRow, standIns := [], harness := (true, "b5f2ad447ac8cc9334ff213ca2e3e0e82d5c3f4aa6330504614077623fe701fb"), looks := true }, kinds := [], alts := [], laidByText := true, laidKinds := [.data], laidTests := true, laidLooks := .later }
def ShowTurnsCardSaid : Prop := Claim7.holds Tryd.pinned (.plain (OpenSpec.ofChange showTurnsSpec)) showTurnsCard

/-- THE TIED CARD OF 'quilllaw05.ShowSigns'. -/
def showSignsCard : Claim7 := { stood := { row := showSignsRow, standIns := [], harness := (true, "b5f2ad447ac8cc9334ff213ca2e3e0e82d5c3f4aa6330504614077623fe701fb"), looks := true }, kinds := [], alts := [], laidByText := true, laidKinds := [.data], laidTests := true, laidLooks := .later }
def ShowSignsCardSaid : Prop := Claim7.holds Tryd.pinned (.plain (OpenSpec.ofChange showSignsSpec)) showSignsCard

/-- THE TIED CARD OF 'quilllaw05.ShowTexts'. -/
def showTextsCard : Claim7 := { stood := { row := showTextsRow, standIns := [], harness := (true, "b5f2ad447ac8cc9334ff213ca2e3e0e82d5c3f4aa6330504614077623fe701fb"), looks := true }, kinds := [], alts := [], laidByText := true, laidKinds := [.data], laidTests := true, laidLooks := .later }
def ShowTextsCardSaid : Prop := Claim7.holds Tryd.pinned (.plain (OpenSpec.ofChange showTextsSpec)) showTextsCard

/-- THE TIED CARD OF 'quilllaw01.NumDigits'. -/
def numDigitsCard : Claim7 := { stood := { row := numDigitsRow, standIns := [], harness := (true, "b5f2ad447ac8cc9334ff213ca2e3e0e82d5c3f4aa6330504614077623fe701fb"), looks := true }, kinds := [], alts := [], laidByText := true, laidKinds := [.data, .data, .data], laidTests := true, laidLooks := .later }
def NumDigitsCardSaid : Prop := Claim7.holds Tryd.pinned (.plain (OpenSpec.ofChange numDigitsSpec)) numDigitsCard

/-- THE TIED CARD OF 'quilllaw01.NumReads'. -/
def numReadsCard : Claim7 := { stood := { row := numReadsRow, standIns := [], harness := (true, "b5f2ad447ac8cc9334ff213ca2e3e0e82d5c3f4aa6330504614077623fe701fb"), looks := true }, kinds := [], alts := [], laidByText := true, laidKinds := [.data, .data, .data, .sentinel, .sentinel], laidTests := true, laidLooks := .later }
def NumReadsCardSaid : Prop := Claim7.holds Tryd.pinned (.plain (OpenSpec.ofChange numReadsSpec)) numReadsCard

/-- THE TIED CARD OF 'quilllaw01.NumBack'. -/
def numBackCard : Claim7 := { stood := { row := numBackRow, standIns := [], harness := (true, "b5f2ad447ac8cc9334ff213ca2e3e0e82d5c3f4aa6330504614077623fe701fb"), looks := true }, kinds := [], alts := [], laidByText := true, laidKinds := [.data, .data, .data, .sentinel, .sentinel], laidTests := true, laidLooks := .later }
def NumBackCardSaid : Prop := Claim7.holds Tryd.pinned (.plain (OpenSpec.ofChange numBackSpec)) numBackCard

/-- THE SECOND FORM's CARD OF 'quilllaw02.SetTexts'. -/
def setTextsUptoCard : Claim7 := { stood := { row := setTextsUptoRow, standIns := [], harness := (true, "b5f2ad447ac8cc9334ff213ca2e3e0e82d5c3f4aa6330504614077623fe701fb"), looks := true }, kinds := [], alts := [], laidByText := true, laidKinds := [.data], laidTests := true, laidLooks := .later }
def SetTextsUptoCardSaid : Prop := Claim7.holds Tryd.pinned (.plain (OpenSpec.upto setTextsSpec)) setTextsUptoCard

/-- THE SECOND FORM's CARD OF 'quilllaw02.SetMakes'. -/
def setMakesUptoCard : Claim7 := { stood := { row := setMakesUptoRow, standIns := [], harness := (true, "b5f2ad447ac8cc9334ff213ca2e3e0e82d5c3f4aa6330504614077623fe701fb"), looks := true }, kinds := [], alts := [], laidByText := true, laidKinds := [.data], laidTests := true, laidLooks := .later }
def SetMakesUptoCardSaid : Prop := Claim7.holds Tryd.pinned (.plain (OpenSpec.upto setMakesSpec)) setMakesUptoCard

/-- THE SECOND FORM's CARD OF 'quilllaw02.SetBack'. -/
def setBackUptoCard : Claim7 := { stood := { row := setBackUptoRow, standIns := [], harness := (true, "b5f2ad447ac8cc9334ff213ca2e3e0e82d5c3f4aa6330504614077623fe701fb"), looks := true }, kinds := [], alts := [], laidByText := true, laidKinds := [.data], laidTests := true, laidLooks := .later }
def SetBackUptoCardSaid : Prop := Claim7.holds Tryd.pinned (.plain (OpenSpec.upto setBackSpec)) setBackUptoCard

/-- THE SECOND FORM's CARD OF 'quilllaw02.SetMany'. -/
def setManyUptoCard : Claim7 := { stood := { row := setManyUptoRow, standIns := [], harness := (true, "b5f2ad447ac8cc9334ff213ca2e3e0e82d5c3f4aa6330504614077623fe701fb"), looks := true }, kinds := [], alts := [], laidByText := true, laidKinds := [.data], laidTests := true, laidLooks := .later }
def SetManyUptoCardSaid : Prop := Claim7.holds Tryd.pinned (.plain (OpenSpec.upto setManySpec)) setManyUptoCard

/-- THE SECOND FORM's CARD OF 'quilllaw02.SetTwos'. -/
def setTwosUptoCard : Claim7 := { stood := { row := setTwosUptoRow, standIns := [], harness := (true, "b5f2ad447ac8cc9334ff213ca2e3e0e82d5c3f4aa6330504614077623fe701fb"), looks := true }, kinds := [], alts := [], laidByText := true, laidKinds := [.data], laidTests := true, laidLooks := .later }
def SetTwosUptoCardSaid : Prop := Claim7.holds Tryd.pinned (.plain (OpenSpec.upto setTwosSpec)) setTwosUptoCard

/-- THE SECOND FORM's CARD OF 'quilllaw05.ShowApart'. -/
def showApartUptoCard : Claim7 := { stood := { row := showApartUptoRow, standIns := [], harness := (true, "b5f2ad447ac8cc9334ff213ca2e3e0e82d5c3f4aa6330504614077623fe701fb"), looks := true }, kinds := [], alts := [], laidByText := true, laidKinds := [.data], laidTests := true, laidLooks := .later }
def ShowApartUptoCardSaid : Prop := Claim7.holds Tryd.pinned (.plain (OpenSpec.upto showApartSpec)) showApartUptoCard

/-- THE SECOND FORM's CARD OF 'quilllaw05.ShowTurns'. -/
def showTurnsUptoCard : Claim7 := { stood := { row := showTurnsUptoRow, standIns := [], harness := (true, "b5f2ad447ac8cc9334ff213ca2e3e0e82d5c3f4aa6330504614077623fe701fb"), looks := true }, kinds := [], alts := [], laidByText := true, laidKinds := [.data], laidTests := true, laidLooks := .later }
def ShowTurnsUptoCardSaid : Prop := Claim7.holds Tryd.pinned (.plain (OpenSpec.upto showTurnsSpec)) showTurnsUptoCard

/-- THE SECOND FORM's CARD OF 'quilllaw05.ShowSigns'. -/
def showSignsUptoCard : Claim7 := { stood := { row := showSignsUptoRow, standIns := [], harness := (true, "b5f2ad447ac8cc9334ff213ca2e3e0e82d5c3f4aa6330504614077623fe701fb"), looks := true }, kinds := [], alts := [], laidByText := true, laidKinds := [.data], laidTests := true, laidLooks := .later }
def ShowSignsUptoCardSaid : Prop := Claim7.holds Tryd.pinned (.plain (OpenSpec.upto showSignsSpec)) showSignsUptoCard

/-- THE SECOND FORM's CARD OF 'quilllaw05.ShowTexts'. -/
def showTextsUptoCard : Claim7 := { stood := { row := showTextsUptoRow, standIns := [], harness := (true, "b5f2ad447ac8cc9334ff213ca2e3e0e82d5c3f4aa6330504614077623fe701fb"), looks := true }, kinds := [], alts := [], laidByText := true, laidKinds := [.data], laidTests := true, laidLooks := .later }
def ShowTextsUptoCardSaid : Prop := Claim7.holds Tryd.pinned (.plain (OpenSpec.upto showTextsSpec)) showTextsUptoCard

/-- THE SECOND FORM's CARD OF 'quilllaw01.NumDigits'. -/
def numDigitsUptoCard : Claim7 := { stood := { row := numDigitsUptoRow, standIns := [], harness := (true, "b5f2ad447ac8cc9334ff213ca2e3e0e82d5c3f4aa6330504614077623fe701fb"), looks := true }, kinds := [], alts := [], laidByText := true, laidKinds := [.data, .data, .data], laidTests := true, laidLooks := .later }
def NumDigitsUptoCardSaid : Prop := Claim7.holds Tryd.pinned (.plain (OpenSpec.upto numDigitsSpec)) numDigitsUptoCard

/-- THE SECOND FORM's CARD OF 'quilllaw01.NumReads'. -/
def numReadsUptoCard : Claim7 := { stood := { row := numReadsUptoRow, standIns := [], harness := (true, "b5f2ad447ac8cc9334ff213ca2e3e0e82d5c3f4aa6330504614077623fe701fb"), looks := true }, kinds := [], alts := [], laidByText := true, laidKinds := [.data, .data, .data, .sentinel, .sentinel], laidTests := true, laidLooks := .later }
def NumReadsUptoCardSaid : Prop := Claim7.holds Tryd.pinned (.plain (OpenSpec.upto numReadsSpec)) numReadsUptoCard

/-- THE SECOND FORM's CARD OF 'quilllaw01.NumBack'. -/
def numBackUptoCard : Claim7 := { stood := { row := numBackUptoRow, standIns := [], harness := (true, "b5f2ad447ac8cc9334ff213ca2e3e0e82d5c3f4aa6330504614077623fe701fb"), looks := true }, kinds := [], alts := [], laidByText := true, laidKinds := [.data, .data, .data, .sentinel, .sentinel], laidTests := true, laidLooks := .later }
def NumBackUptoCardSaid : Prop := Claim7.holds Tryd.pinned (.plain (OpenSpec.upto numBackSpec)) numBackUptoCard
end Rows
end Go.Proofs.YthagcmpehpgmpaaDoor
