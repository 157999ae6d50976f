/-
  DERIVED. GIVEN WITH THE SEED: THE CARDS: each row of YtfbnlpoinieijaaDoorRows.lean that lists a variable, with what it lists TIED to the program's text (the seventh form; the later family's looks); each row that meets fmt, with fmt's text TOLD by the authors' own Lean function (tested against real Go, not proved from fmt's source: count such statements apart). THE CARD IS WHAT COUNTS. Prove the row's statement (the work); the ties are given (YtfbnlpoinieijaaDoorTie.lean); close each card by the builder's one call (the guide's Derived/Test/ToyasCard.lean, 'card_holds'). Laid BY PROGRAM, IN A SANDBOX (cutbox-door.mjs). By AI agents, Wed Nov 11 2026. No macro, syntax, notation, axiom, sorry.
-/
import Derived.Test.YtfbnlpoinieijaaDoorRows
import GoSem.ClaimSeven
namespace Go.Proofs.YtfbnlpoinieijaaDoor
namespace Rows

/-- THE TIED CARD OF 'quilllaw18.SimpKeeps'. -/
def simpKeepsCard : Claim7 := { stood := { row := simpKeepsRow, standIns := [], harness := (true, "a7534e9ae878cd522032e0f548feadd0074436032b4d8bdcf3cbc31ae52871d8"), looks := true }, kinds := [], alts := [], laidByText := true, laidKinds := [.data, .pinned], laidTests := true, laidLooks := .later }
def SimpKeepsCardSaid : Prop := Claim7.holds Tryd.pinned (.plain (OpenSpec.ofChange simpKeepsSpec)) simpKeepsCard

/-- THE TIED CARD OF 'quilllaw15.BitsTakes'. -/
def bitsTakesCard : Claim7 := { stood := { row := bitsTakesRow, standIns := [], harness := (true, "a7534e9ae878cd522032e0f548feadd0074436032b4d8bdcf3cbc31ae52871d8"), looks := true }, kinds := [], alts := [], laidByText := true, laidKinds := [.data], laidTests := true, laidLooks := .later }
def BitsTakesCardSaid : Prop := Claim7.holds Tryd.pinned (.plain (OpenSpec.ofChange bitsTakesSpec)) bitsTakesCard

/-- THE TIED CARD OF 'quilllaw15.BitsBack'. -/
def bitsBackCard : Claim7 := { stood := { row := bitsBackRow, standIns := [], harness := (true, "a7534e9ae878cd522032e0f548feadd0074436032b4d8bdcf3cbc31ae52871d8"), looks := true }, kinds := [], alts := [], laidByText := true, laidKinds := [.data], laidTests := true, laidLooks := .later }
def BitsBackCardSaid : Prop := Claim7.holds Tryd.pinned (.plain (OpenSpec.ofChange bitsBackSpec)) bitsBackCard

/-- THE TIED CARD OF 'quilllaw15.BitsTails'. -/
def bitsTailsCard : Claim7 := { stood := { row := bitsTailsRow, standIns := [], harness := (true, "a7534e9ae878cd522032e0f548feadd0074436032b4d8bdcf3cbc31ae52871d8"), looks := true }, kinds := [], alts := [], laidByText := true, laidKinds := [.data], laidTests := true, laidLooks := .later }
def BitsTailsCardSaid : Prop := Claim7.holds Tryd.pinned (.plain (OpenSpec.ofChange bitsTailsSpec)) bitsTailsCard

/-- THE TIED CARD OF 'quilllaw18.SimpIs'. -/
def simpIsCard : Claim7 := { stood := { row := simpIsRow, standIns := [], harness := (true, "a7534e9ae878cd522032e0f548feadd0074436032b4d8bdcf3cbc31ae52871d8"), looks := true }, kinds := [], alts := [], laidByText := true, laidKinds := [.data, .pinned], laidTests := true, laidLooks := .later }
def SimpIsCardSaid : Prop := Claim7.holds Tryd.pinned (.plain (OpenSpec.ofChange simpIsSpec)) simpIsCard

/-- THE TIED CARD OF 'quilllaw18.SimpWalks'. -/
def simpWalksCard : Claim7 := { stood := { row := simpWalksRow, standIns := [], harness := (true, "a7534e9ae878cd522032e0f548feadd0074436032b4d8bdcf3cbc31ae52871d8"), looks := true }, kinds := [], alts := [], laidByText := true, laidKinds := [.data, .pinned], laidTests := true, laidLooks := .later }
def SimpWalksCardSaid : Prop := Claim7.holds Tryd.pinned (.plain (OpenSpec.ofChange simpWalksSpec)) simpWalksCard

/-- THE TIED CARD OF 'quilllaw17.PosixSteps'. -/
def posixStepsCard : Claim7 := { stood := { row := posixStepsRow, standIns := [], harness := (true, "a7534e9ae878cd522032e0f548feadd0074436032b4d8bdcf3cbc31ae52871d8"), looks := true }, kinds := [], alts := [], laidByText := true, laidKinds := [.data, .pinned], laidTests := true, laidLooks := .later }
def PosixStepsCardSaid : Prop := Claim7.holds Tryd.pinned (.plain (OpenSpec.ofChange posixStepsSpec)) posixStepsCard

/-- THE TIED CARD OF 'quilllaw17.PosixWalks'. -/
def posixWalksCard : Claim7 := { stood := { row := posixWalksRow, standIns := [], harness := (true, "a7534e9ae878cd522032e0f548feadd0074436032b4d8bdcf3cbc31ae52871d8"), looks := true }, kinds := [], alts := [], laidByText := true, laidKinds := [.data, .pinned], laidTests := true, laidLooks := .later }
def PosixWalksCardSaid : Prop := Claim7.holds Tryd.pinned (.plain (OpenSpec.ofChange posixWalksSpec)) posixWalksCard

/-- THE TIED CARD OF 'quilllaw17.PosixLeft'. -/
def posixLeftCard : Claim7 := { stood := { row := posixLeftRow, standIns := [], harness := (true, "a7534e9ae878cd522032e0f548feadd0074436032b4d8bdcf3cbc31ae52871d8"), looks := true }, kinds := [], alts := [], laidByText := true, laidKinds := [.data, .pinned], laidTests := true, laidLooks := .later }
def PosixLeftCardSaid : Prop := Claim7.holds Tryd.pinned (.plain (OpenSpec.ofChange posixLeftSpec)) posixLeftCard

/-- THE TIED CARD OF 'quilllaw17.PosixFills'. -/
def posixFillsCard : Claim7 := { stood := { row := posixFillsRow, standIns := [], harness := (true, "a7534e9ae878cd522032e0f548feadd0074436032b4d8bdcf3cbc31ae52871d8"), looks := true }, kinds := [], alts := [], laidByText := true, laidKinds := [.data, .pinned], laidTests := true, laidLooks := .later }
def PosixFillsCardSaid : Prop := Claim7.holds Tryd.pinned (.plain (OpenSpec.ofChange posixFillsSpec)) posixFillsCard

/-- THE TIED CARD OF 'quilllaw18.SimpLex'. -/
def simpLexCard : Claim7 := { stood := { row := simpLexRow, standIns := [], harness := (true, "a7534e9ae878cd522032e0f548feadd0074436032b4d8bdcf3cbc31ae52871d8"), looks := true }, kinds := [], alts := [], laidByText := true, laidKinds := [.data, .data, .pinned], laidTests := true, laidLooks := .later }
def SimpLexCardSaid : Prop := Claim7.holds Tryd.pinned (.plain (OpenSpec.ofChange simpLexSpec)) simpLexCard

/-- THE TIED CARD OF 'quilllaw16.CodedMays'. -/
def codedMaysCard : Claim7 := { stood := { row := codedMaysRow, standIns := [], harness := (true, "a7534e9ae878cd522032e0f548feadd0074436032b4d8bdcf3cbc31ae52871d8"), looks := true }, kinds := [], alts := [], laidByText := true, laidKinds := [.data, .data, .pinned], laidTests := true, laidLooks := .later }
def CodedMaysCardSaid : Prop := Claim7.holds Tryd.pinned (.plain (OpenSpec.ofChange codedMaysSpec)) codedMaysCard

/-- THE TIED CARD OF 'quilllaw18.SimpBoth'. -/
def simpBothCard : Claim7 := { stood := { row := simpBothRow, standIns := [], harness := (true, "a7534e9ae878cd522032e0f548feadd0074436032b4d8bdcf3cbc31ae52871d8"), looks := true }, kinds := [], alts := [], laidByText := true, laidKinds := [.data, .data, .pinned], laidTests := true, laidLooks := .later }
def SimpBothCardSaid : Prop := Claim7.holds Tryd.pinned (.plain (OpenSpec.ofChange simpBothSpec)) simpBothCard

/-- THE TIED CARD OF 'quilllaw16.CodedFuses'. -/
def codedFusesCard : Claim7 := { stood := { row := codedFusesRow, standIns := [], harness := (true, "a7534e9ae878cd522032e0f548feadd0074436032b4d8bdcf3cbc31ae52871d8"), looks := true }, kinds := [], alts := [], laidByText := true, laidKinds := [.data, .data, .pinned], laidTests := true, laidLooks := .later }
def CodedFusesCardSaid : Prop := Claim7.holds Tryd.pinned (.plain (OpenSpec.ofChange codedFusesSpec)) codedFusesCard

/-- THE TIED CARD OF 'quilllaw16.CodedAlike'. -/
def codedAlikeCard : Claim7 := { stood := { row := codedAlikeRow, standIns := [], harness := (true, "a7534e9ae878cd522032e0f548feadd0074436032b4d8bdcf3cbc31ae52871d8"), looks := true }, kinds := [], alts := [], laidByText := true, laidKinds := [.data, .data, .pinned], laidTests := true, laidLooks := .later }
def CodedAlikeCardSaid : Prop := Claim7.holds Tryd.pinned (.plain (OpenSpec.ofChange codedAlikeSpec)) codedAlikeCard

/-- THE TIED CARD OF 'quilllaw16.CodedOf'. -/
def codedOfCard : Claim7 := { stood := { row := codedOfRow, standIns := [], harness := (true, "a7534e9ae878cd522032e0f548feadd0074436032b4d8bdcf3cbc31ae52871d8"), looks := true }, kinds := [], alts := [], laidByText := true, laidKinds := [.data, .data, .pinned], laidTests := true, laidLooks := .later }
def CodedOfCardSaid : Prop := Claim7.holds Tryd.pinned (.plain (OpenSpec.ofChange codedOfSpec)) codedOfCard

/-- THE SECOND FORM's CARD OF 'quilllaw18.SimpKeeps'. -/
def simpKeepsUptoCard : Claim7 := { stood := { row := simpKeepsUptoRow, standIns := [], harness := (true, "a7534e9ae878cd522032e0f548feadd0074436032b4d8bdcf3cbc31ae52871d8"), looks := true }, kinds := [], alts := [], laidByText := true, laidKinds := [.data, .pinned], laidTests := true, laidLooks := .later }
def SimpKeepsUptoCardSaid : Prop := Claim7.holds Tryd.pinned (.plain (OpenSpec.upto simpKeepsSpec)) simpKeepsUptoCard

/-- THE SECOND FORM's CARD OF 'quilllaw15.BitsTakes'. -/
def bitsTakesUptoCard : Claim7 := { stood := { row := bitsTakesUptoRow, standIns := [], harness := (true, "a7534e9ae878cd522032e0f548feadd0074436032b4d8bdcf3cbc31ae52871d8"), looks := true }, kinds := [], alts := [], laidByText := true, laidKinds := [.data], laidTests := true, laidLooks := .later }
def BitsTakesUptoCardSaid : Prop := Claim7.holds Tryd.pinned (.plain (OpenSpec.upto bitsTakesSpec)) bitsTakesUptoCard

/-- THE SECOND FORM's CARD OF 'quilllaw15.BitsBack'. -/
def bitsBackUptoCard : Claim7 := { stood := { row := bitsBackUptoRow, standIns := [], harness := (true, "a7534e9ae878cd522032e0f548feadd0074436032b4d8bdcf3cbc31ae52871d8"), looks := true }, kinds := [], alts := [], laidByText := true, laidKinds := [.data], laidTests := true, laidLooks := .later }
def BitsBackUptoCardSaid : Prop := Claim7.holds Tryd.pinned (.plain (OpenSpec.upto bitsBackSpec)) bitsBackUptoCard

/-- THE SECOND FORM's CARD OF 'quilllaw15.BitsTails'. -/
def bitsTailsUptoCard : Claim7 := { stood := { row := bitsTailsUptoRow, standIns := [], harness := (true, "a7534e9ae878cd522032e0f548feadd0074436032b4d8bdcf3cbc31ae52871d8"), looks := true }, kinds := [], alts := [], laidByText := true, laidKinds := [.data], laidTests := true, laidLooks := .later }
def BitsTailsUptoCardSaid : Prop := Claim7.holds Tryd.pinned (.plain (OpenSpec.upto bitsTailsSpec)) bitsTailsUptoCard

/-- THE SECOND FORM's CARD OF 'quilllaw18.SimpIs'. -/
def simpIsUptoCard : Claim7 := { stood := { row := simpIsUptoRow, standIns := [], harness := (true, "a7534e9ae878cd522032e0f548feadd0074436032b4d8bdcf3cbc31ae52871d8"), looks := true }, kinds := [], alts := [], laidByText := true, laidKinds := [.data, .pinned], laidTests := true, laidLooks := .later }
def SimpIsUptoCardSaid : Prop := Claim7.holds Tryd.pinned (.plain (OpenSpec.upto simpIsSpec)) simpIsUptoCard

/-- THE SECOND FORM's CARD OF 'quilllaw18.SimpWalks'. -/
def simpWalksUptoCard : Claim7 := { stood := { row := simpWalksUptoRow, standIns := [], harness := (true, "a7534e9ae878cd522032e0f548feadd0074436032b4d8bdcf3cbc31ae52871d8"), looks := true }, kinds := [], alts := [], laidByText := true, laidKinds := [.data, .pinned], laidTests := true, laidLooks := .later }
def SimpWalksUptoCardSaid : Prop := Claim7.holds Tryd.pinned (.plain (OpenSpec.upto simpWalksSpec)) simpWalksUptoCard

/-- THE SECOND FORM's CARD OF 'quilllaw17.PosixSteps'. -/
def posixStepsUptoCard : Claim7 := { stood := { row := posixStepsUptoRow, standIns := [], harness := (true, "a7534e9ae878cd522032e0f548feadd0074436032b4d8bdcf3cbc31ae52871d8"), looks := true }, kinds := [], alts := [], laidByText := true, laidKinds := [.data, .pinned], laidTests := true, laidLooks := .later }
def PosixStepsUptoCardSaid : Prop := Claim7.holds Tryd.pinned (.plain (OpenSpec.upto posixStepsSpec)) posixStepsUptoCard

/-- THE SECOND FORM's CARD OF 'quilllaw17.PosixWalks'. -/
def posixWalksUptoCard : Claim7 := { stood := { row := posixWalksUptoRow, standIns := [], harness := (true, "a7534e9ae878cd522032e0f548feadd0074436032b4d8bdcf3cbc31ae52871d8"), looks := true }, kinds := [], alts := [], laidByText := true, laidKinds := [.data, .pinned], laidTests := true, laidLooks := .later }
def PosixWalksUptoCardSaid : Prop := Claim7.holds Tryd.pinned (.plain (OpenSpec.upto posixWalksSpec)) posixWalksUptoCard

/-- THE SECOND FORM's CARD OF 'quilllaw17.PosixLeft'. -/
def posixLeftUptoCard : Claim7 := { stood := { row := posixLeftUptoRow, standIns := [], harness := (true, "a7534e9ae878cd522032e0f548feadd0074436032b4d8bdcf3cbc31ae52871d8"), looks := true }, kinds := [], alts := [], laidByText := true, laidKinds := [.data, .pinned], laidTests := true, laidLooks := .later }
def PosixLeftUptoCardSaid : Prop := Claim7.holds Tryd.pinned (.plain (OpenSpec.upto posixLeftSpec)) posixLeftUptoCard

/-- THE SECOND FORM's CARD OF 'quilllaw17.PosixFills'. -/
def posixFillsUptoCard : Claim7 := { stood := { row := posixFillsUptoRow, standIns := [], harness := (true, "a7534e9ae878cd522032e0f548feadd0074436032b4d8bdcf3cbc31ae52871d8"), looks := true }, kinds := [], alts := [], laidByText := true, laidKinds := [.data, .pinned], laidTests := true, laidLooks := .later }
def PosixFillsUptoCardSaid : Prop := Claim7.holds Tryd.pinned (.plain (OpenSpec.upto posixFillsSpec)) posixFillsUptoCard

/-- THE SECOND FORM's CARD OF 'quilllaw18.SimpLex'. -/
def simpLexUptoCard : Claim7 := { stood := { row := simpLexUptoRow, standIns := [], harness := (true, "a7534e9ae878cd522032e0f548feadd0074436032b4d8bdcf3cbc31ae52871d8"), looks := true }, kinds := [], alts := [], laidByText := true, laidKinds := [.data, .data, .pinned], laidTests := true, laidLooks := .later }
def SimpLexUptoCardSaid : Prop := Claim7.holds Tryd.pinned (.plain (OpenSpec.upto simpLexSpec)) simpLexUptoCard

/-- THE SECOND FORM's CARD OF 'quilllaw16.CodedMays'. -/
def codedMaysUptoCard : Claim7 := { stood := { row := codedMaysUptoRow, standIns := [], harness := (true, "a7534e9ae878cd522032e0f548feadd0074436032b4d8bdcf3cbc31ae52871d8"), looks := true }, kinds := [], alts := [], laidByText := true, laidKinds := [.data, .data, .pinned], laidTests := true, laidLooks := .later }
def CodedMaysUptoCardSaid : Prop := Claim7.holds Tryd.pinned (.plain (OpenSpec.upto codedMaysSpec)) codedMaysUptoCard

/-- THE SECOND FORM's CARD OF 'quilllaw18.SimpBoth'. -/
def simpBothUptoCard : Claim7 := { stood := { row := simpBothUptoRow, standIns := [], harness := (true, "a7534e9ae878cd522032e0f548feadd0074436032b4d8bdcf3cbc31ae52871d8"), looks := true }, kinds := [], alts := [], laidByText := true, laidKinds := [.data, .data, .pinned], laidTests := true, laidLooks := .later }
def SimpBothUptoCardSaid : Prop := Claim7.holds Tryd.pinned (.plain (OpenSpec.upto simpBothSpec)) simpBothUptoCard

/-- THE SECOND FORM's CARD OF 'quilllaw16.CodedFuses'. -/
def codedFusesUptoCard : Claim7 := { stood := { row := codedFusesUptoRow, standIns := [], harness := (true, "a7534e9ae878cd522032e0f548feadd0074436032b4d8bdcf3cbc31ae52871d8"), looks := true }, kinds := [], alts := [], laidByText := true, laidKinds := [.data, .data, .pinned], laidTests := true, laidLooks := .later }
def CodedFusesUptoCardSaid : Prop := Claim7.holds Tryd.pinned (.plain (OpenSpec.upto codedFusesSpec)) codedFusesUptoCard

/-- THE SECOND FORM's CARD OF 'quilllaw16.CodedAlike'. -/
def codedAlikeUptoCard : Claim7 := { stood := { row := codedAlikeUptoRow, standIns := [], harness := (true, "a7534e9ae878cd522032e0f548feadd0074436032b4d8bdcf3cbc31ae52871d8"), looks := true }, kinds := [], alts := [], laidByText := true, laidKinds := [.data, .data, .pinned], laidTests := true, laidLooks := .later }
def CodedAlikeUptoCardSaid : Prop := Claim7.holds Tryd.pinned (.plain (OpenSpec.upto codedAlikeSpec)) codedAlikeUptoCard

/-- THE SECOND FORM's CARD OF 'quilllaw16.CodedOf'. -/
def codedOfUptoCard : Claim7 := { stood := { row := codedOfUptoRow, standIns := [], harness := (true, "a7534e9ae878cd522032e0f548feadd0074436032b4d8bdcf3cbc31ae52871d8"), looks := true }, kinds := [], alts := [], laidByText := true, laidKinds := [.data, .data, .pinned], laidTests := true, laidLooks := .later }
def CodedOfUptoCardSaid : Prop := Claim7.holds Tryd.pinned (.plain (OpenSpec.upto codedOfSpec)) codedOfUptoCard
end Rows
end Go.Proofs.YtfbnlpoinieijaaDoor
