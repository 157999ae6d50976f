/-
  DERIVED. GIVEN WITH THE SEED: THE CARDS: each row of YtkhgbeflhjjkdaaDoorRows.lean that lists a variable, with what it lists TIED to the program's text (the seventh form; the later family's looks); each row that meets fmt, with fmt's text TOLD by the authors' own Lean function (tested against real Go, not proved from fmt's source: count such statements apart). THE CARD IS WHAT COUNTS. Prove the row's statement (the work); the ties are given (YtkhgbeflhjjkdaaDoorTie.lean); close each card by the builder's one call (the guide's Derived/Test/ToyasCard.lean, 'card_holds'). Laid BY PROGRAM, IN A SANDBOX (cutbox-door.mjs). By AI agents, Wed Nov 11 2026. No macro, syntax, notation, axiom, sorry.
-/
import Derived.Test.YtkhgbeflhjjkdaaDoorRows
import GoSem.ClaimSeven
namespace Go.Proofs.YtkhgbeflhjjkdaaDoor
namespace Rows

/-- THE TIED CARD OF 'quilllaw18.SimpKeeps'. -/
def simpKeepsCard : Claim7 := { stood := { row := simpKeepsRow, standIns := [], harness := (true, "91b22facae4b0e00489bd4f0fc6591591c6b7fd80e3c7e75b3b6140a7b7948ce"), looks := true }, kinds := [], alts := [], laidByText := true, laidKinds := [.data, .pinned], laidTests := true, laidLooks := .later }
def SimpKeepsCardSaid : Prop := Claim7.holds Tryd.pinned (.plain (OpenSpec.ofChange simpKeepsSpec)) simpKeepsCard

/-- THE TIED CARD OF 'quilllaw18.SimpIs'. -/
def simpIsCard : Claim7 := { stood := { row := simpIsRow, standIns := [], harness := (true, "91b22facae4b0e00489bd4f0fc6591591c6b7fd80e3c7e75b3b6140a7b7948ce"), looks := true }, kinds := [], alts := [], laidByText := true, laidKinds := [.data, .pinned], laidTests := true, laidLooks := .later }
def SimpIsCardSaid : Prop := Claim7.holds Tryd.pinned (.plain (OpenSpec.ofChange simpIsSpec)) simpIsCard

/-- THE TIED CARD OF 'quilllaw18.SimpWalks'. -/
def simpWalksCard : Claim7 := { stood := { row := simpWalksRow, standIns := [], harness := (true, "91b22facae4b0e00489bd4f0fc6591591c6b7fd80e3c7e75b3b6140a7b7948ce"), looks := true }, kinds := [], alts := [], laidByText := true, laidKinds := [.data, .pinned], laidTests := true, laidLooks := .later }
def SimpWalksCardSaid : Prop := Claim7.holds Tryd.pinned (.plain (OpenSpec.ofChange simpWalksSpec)) simpWalksCard

/-- THE TIED CARD OF 'quilllaw17.PosixLeft'. -/
def posixLeftCard : Claim7 := { stood := { row := posixLeftRow, standIns := [], harness := (true, "91b22facae4b0e00489bd4f0fc6591591c6b7fd80e3c7e75b3b6140a7b7948ce"), looks := true }, kinds := [], alts := [], laidByText := true, laidKinds := [.data, .pinned], laidTests := true, laidLooks := .later }
def PosixLeftCardSaid : Prop := Claim7.holds Tryd.pinned (.plain (OpenSpec.ofChange posixLeftSpec)) posixLeftCard

/-- THE TIED CARD OF 'quilllaw17.PosixFills'. -/
def posixFillsCard : Claim7 := { stood := { row := posixFillsRow, standIns := [], harness := (true, "91b22facae4b0e00489bd4f0fc6591591c6b7fd80e3c7e75b3b6140a7b7948ce"), looks := true }, kinds := [], alts := [], laidByText := true, laidKinds := [.data, .pinned], laidTests := true, laidLooks := .later }
def PosixFillsCardSaid : Prop := Claim7.holds Tryd.pinned (.plain (OpenSpec.ofChange posixFillsSpec)) posixFillsCard

/-- THE TIED CARD OF 'quilllaw18.SimpLex'. -/
def simpLexCard : Claim7 := { stood := { row := simpLexRow, standIns := [], harness := (true, "91b22facae4b0e00489bd4f0fc6591591c6b7fd80e3c7e75b3b6140a7b7948ce"), looks := true }, kinds := [], alts := [], laidByText := true, laidKinds := [.data, .data, .pinned], laidTests := true, laidLooks := .later }
def SimpLexCardSaid : Prop := Claim7.holds Tryd.pinned (.plain (OpenSpec.ofChange simpLexSpec)) simpLexCard

/-- THE TIED CARD OF 'quilllaw18.SimpBoth'. -/
def simpBothCard : Claim7 := { stood := { row := simpBothRow, standIns := [], harness := (true, "91b22facae4b0e00489bd4f0fc6591591c6b7fd80e3c7e75b3b6140a7b7948ce"), looks := true }, kinds := [], alts := [], laidByText := true, laidKinds := [.data, .data, .pinned], laidTests := true, laidLooks := .later }
def SimpBothCardSaid : Prop := Claim7.holds Tryd.pinned (.plain (OpenSpec.ofChange simpBothSpec)) simpBothCard

/-- THE SECOND FORM's CARD OF 'quilllaw18.SimpKeeps'. -/
def simpKeepsUptoCard : Claim7 := { stood := { row := simpKeepsUptoRow, standIns := [], harness := (true, "91b22facae4b0e00489bd4f0fc6591591c6b7fd80e3c7e75b3b6140a7b7948ce"), looks := true }, kinds := [], alts := [], laidByText := true, laidKinds := [.data, .pinned], laidTests := true, laidLooks := .later }
def SimpKeepsUptoCardSaid : Prop := Claim7.holds Tryd.pinned (.plain (OpenSpec.upto simpKeepsSpec)) simpKeepsUptoCard

/-- THE SECOND FORM's CARD OF 'quilllaw18.SimpIs'. -/
def simpIsUptoCard : Claim7 := { stood := { row := simpIsUptoRow, standIns := [], harness := (true, "91b22facae4b0e00489bd4f0fc6591591c6b7fd80e3c7e75b3b6140a7b7948ce"), looks := true }, kinds := [], alts := [], laidByText := true, laidKinds := [.data, .pinned], laidTests := true, laidLooks := .later }
def SimpIsUptoCardSaid : Prop := Claim7.holds Tryd.pinned (.plain (OpenSpec.upto simpIsSpec)) simpIsUptoCard

/-- THE SECOND FORM's CARD OF 'quilllaw18.SimpWalks'. -/
def simpWalksUptoCard : Claim7 := { stood := { row := simpWalksUptoRow, standIns := [], harness := (true, "91b22facae4b0e00489bd4f0fc6591591c6b7fd80e3c7e75b3b6140a7b7948ce"), looks := true }, kinds := [], alts := [], laidByText := true, laidKinds := [.data, .pinned], laidTests := true, laidLooks := .later }
def SimpWalksUptoCardSaid : Prop := Claim7.holds Tryd.pinned (.plain (OpenSpec.upto simpWalksSpec)) simpWalksUptoCard

/-- THE SECOND FORM's CARD OF 'quilllaw17.PosixLeft'. -/
def posixLeftUptoCard : Claim7 := { stood := { row := posixLeftUptoRow, standIns := [], harness := (true, "91b22facae4b0e00489bd4f0fc6591591c6b7fd80e3c7e75b3b6140a7b7948ce"), looks := true }, kinds := [], alts := [], laidByText := true, laidKinds := [.data, .pinned], laidTests := true, laidLooks := .later }
def PosixLeftUptoCardSaid : Prop := Claim7.holds Tryd.pinned (.plain (OpenSpec.upto posixLeftSpec)) posixLeftUptoCard

/-- THE SECOND FORM's CARD OF 'quilllaw17.PosixFills'. -/
def posixFillsUptoCard : Claim7 := { stood := { row := posixFillsUptoRow, standIns := [], harness := (true, "91b22facae4b0e00489bd4f0fc6591591c6b7fd80e3c7e75b3b6140a7b7948ce"), looks := true }, kinds := [], alts := [], laidByText := true, laidKinds := [.data, .pinned], laidTests := true, laidLooks := .later }
def PosixFillsUptoCardSaid : Prop := Claim7.holds Tryd.pinned (.plain (OpenSpec.upto posixFillsSpec)) posixFillsUptoCard

/-- THE SECOND FORM's CARD OF 'quilllaw18.SimpLex'. -/
def simpLexUptoCard : Claim7 := { stood := { row := simpLexUptoRow, standIns := [], harness := (true, "91b22facae4b0e00489bd4f0fc6591591c6b7fd80e3c7e75b3b6140a7b7948ce"), looks := true }, kinds := [], alts := [], laidByText := true, laidKinds := [.data, .data, .pinned], laidTests := true, laidLooks := .later }
def SimpLexUptoCardSaid : Prop := Claim7.holds Tryd.pinned (.plain (OpenSpec.upto simpLexSpec)) simpLexUptoCard

/-- THE SECOND FORM's CARD OF 'quilllaw18.SimpBoth'. -/
def simpBothUptoCard : Claim7 := { stood := { row := simpBothUptoRow, standIns := [], harness := (true, "91b22facae4b0e00489bd4f0fc6591591c6b7fd80e3c7e75b3b6140a7b7948ce"), looks := true }, kinds := [], alts := [], laidByText := true, laidKinds := [.data, .data, .pinned], laidTests := true, laidLooks := .later }
def SimpBothUptoCardSaid : Prop := Claim7.holds Tryd.pinned (.plain (OpenSpec.upto simpBothSpec)) simpBothUptoCard
end Rows
end Go.Proofs.YtkhgbeflhjjkdaaDoor
