/-
  DERIVED. GIVEN WITH THE SEED: THE CARDS: each row of YteoghoaggpbkpaaDoorRows.lean that lists a variable, with what it lists TIED to the program's text (the seventh form; the later family's looks); each row that meets fmt, with fmt's text TOLD by the authors' own Lean function (tested against real Go, not proved from fmt's source: count such statements apart). THE CARD IS WHAT COUNTS. Prove the row's statement (the work); the ties are given (YteoghoaggpbkpaaDoorTie.lean); close each card by the builder's one call (the guide's Derived/Test/ToyasCard.lean, 'card_holds'). Laid BY PROGRAM, IN A SANDBOX (cutbox-door.mjs). By AI agents, Wed Nov 11 2026. No macro, syntax, notation, axiom, sorry.
-/
import Derived.Test.YteoghoaggpbkpaaDoorRows
import GoSem.ClaimSeven
namespace Go.Proofs.YteoghoaggpbkpaaDoor
namespace Rows

/-- THE TIED CARD OF 'quilllaw16.CodedMays'. -/
def codedMaysCard : Claim7 := { stood := { row := codedMaysRow, standIns := [], harness := (true, "0c9c9a43e89faf755a59e8301dcc30a440add01413a8319d81266dbd9baccdf4"), looks := true }, kinds := [], alts := [], laidByText := true, laidKinds := [.data, .data, .pinned], laidTests := true, laidLooks := .later }
def CodedMaysCardSaid : Prop := Claim7.holds Tryd.pinned (.plain (OpenSpec.ofChange codedMaysSpec)) codedMaysCard

/-- THE TIED CARD OF 'quilllaw16.CodedFuses'. -/
def codedFusesCard : Claim7 := { stood := { row := codedFusesRow, standIns := [], harness := (true, "0c9c9a43e89faf755a59e8301dcc30a440add01413a8319d81266dbd9baccdf4"), looks := true }, kinds := [], alts := [], laidByText := true, laidKinds := [.data, .data, .pinned], laidTests := true, laidLooks := .later }
def CodedFusesCardSaid : Prop := Claim7.holds Tryd.pinned (.plain (OpenSpec.ofChange codedFusesSpec)) codedFusesCard

/-- THE TIED CARD OF 'quilllaw16.CodedAlike'. -/
def codedAlikeCard : Claim7 := { stood := { row := codedAlikeRow, standIns := [], harness := (true, "0c9c9a43e89faf755a59e8301dcc30a440add01413a8319d81266dbd9baccdf4"), looks := true }, kinds := [], alts := [], laidByText := true, laidKinds := [.data, .data, .pinned], laidTests := true, laidLooks := .later }
def CodedAlikeCardSaid : Prop := Claim7.holds Tryd.pinned (.plain (OpenSpec.ofChange codedAlikeSpec)) codedAlikeCard

/-- THE TIED CARD OF 'quilllaw16.CodedOf'. -/
def codedOfCard : Claim7 := { stood := { row := codedOfRow, standIns := [], harness := (true, "0c9c9a43e89faf755a59e8301dcc30a440add01413a8319d81266dbd9baccdf4"), looks := true }, kinds := [], alts := [], laidByText := true, laidKinds := [.data, .data, .pinned], laidTests := true, laidLooks := .later }
def CodedOfCardSaid : Prop := Claim7.holds Tryd.pinned (.plain (OpenSpec.ofChange codedOfSpec)) codedOfCard

/-- THE SECOND FORM's CARD OF 'quilllaw16.CodedMays'. -/
def codedMaysUptoCard : Claim7 := { stood := { row := codedMaysUptoRow, standIns := [], harness := (true, "0c9c9a43e89faf755a59e8301dcc30a440add01413a8319d81266dbd9baccdf4"), looks := true }, kinds := [], alts := [], laidByText := true, laidKinds := [.data, .data, .pinned], laidTests := true, laidLooks := .later }
def CodedMaysUptoCardSaid : Prop := Claim7.holds Tryd.pinned (.plain (OpenSpec.upto codedMaysSpec)) codedMaysUptoCard

/-- THE SECOND FORM's CARD OF 'quilllaw16.CodedFuses'. -/
def codedFusesUptoCard : Claim7 := { stood := { row := codedFusesUptoRow, standIns := [], harness := (true, "0c9c9a43e89faf755a59e8301dcc30a440add01413a8319d81266dbd9baccdf4"), looks := true }, kinds := [], alts := [], laidByText := true, laidKinds := [.data, .data, .pinned], laidTests := true, laidLooks := .later }
def CodedFusesUptoCardSaid : Prop := Claim7.holds Tryd.pinned (.plain (OpenSpec.upto codedFusesSpec)) codedFusesUptoCard

/-- THE SECOND FORM's CARD OF 'quilllaw16.CodedAlike'. -/
def codedAlikeUptoCard : Claim7 := { stood := { row := codedAlikeUptoRow, standIns := [], harness := (true, "0c9c9a43e89faf755a59e8301dcc30a440add01413a8319d81266dbd9baccdf4"), looks := true }, kinds := [], alts := [], laidByText := true, laidKinds := [.data, .data, .pinned], laidTests := true, laidLooks := .later }
def CodedAlikeUptoCardSaid : Prop := Claim7.holds Tryd.pinned (.plain (OpenSpec.upto codedAlikeSpec)) codedAlikeUptoCard

/-- THE SECOND FORM's CARD OF 'quilllaw16.CodedOf'. -/
def codedOfUptoCard : Claim7 := { stood := { row := codedOfUptoRow, standIns := [], harness := (true, "0c9c9a43e89faf755a59e8301dcc30a440add01413a8319d81266dbd9baccdf4"), looks := true }, kinds := [], alts := [], laidByText := true, laidKinds := [.data, .data, .pinned], laidTests := true, laidLooks := .later }
def CodedOfUptoCardSaid : Prop := Claim7.holds Tryd.pinned (.plain (OpenSpec.upto codedOfSpec)) codedOfUptoCard
end Rows
end Go.Proofs.YteoghoaggpbkpaaDoor
