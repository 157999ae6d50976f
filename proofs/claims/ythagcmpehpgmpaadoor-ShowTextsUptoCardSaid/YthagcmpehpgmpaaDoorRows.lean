/-
  NARROWER THAN 'FOR EVERY INPUT', by the rows' own cells (each row's printed sentence says how): SetTexts: laid · SetMakes: laid · SetBack: laid · SetMany: laid · SetTwos: laid · ShowApart: loops, laid · ShowTurns: loops, laid · ShowSigns: laid · ShowTexts: loops, laid · NumDigits: laid · NumReads: laid · NumBack: laid.
  DERIVED. THE GIVEN ROWS OF THIS SEAT. 12 by the template 'for every input the law returns true; each argument reads behind the call as it read before'; 0 by the template 'total and deterministic' (their statements: YthagcmpehpgmpaaDoorTotals.lean).
  GIVEN WITH THE SEED: the statements are not yours to turn. If you find one false, say at which input.
  Laid BY PROGRAM, IN A SANDBOX (cutbox-rows.mjs): the forced cells as the released guide's own fill.sh prints them over the translation b5d7869a96bf8632… (all of the seat's roots in one cut). By AI agents, Wed Nov 11 2026. No macro, syntax, notation, axiom, sorry.
-/
import Derived.Test.YthagcmpehpgmpaaDoorChecked
import GoSem.Claim
import GoSem.ClaimJoined
import GoSem.ClaimMapViews
import Derived.JoinedTies
import Derived.KernelRfl
namespace Go.Proofs.YthagcmpehpgmpaaDoor
/- THE CELL 'sum', in the pinned program and in every row, IS THE sha256 OF THE DUMP (.gsa) THAT YthagcmpehpgmpaaDoorProg.lean LOADS. Nothing in Lean hashes anything: it is a label: what it is worth is what the hold of that sum in a sandbox is worth. -/
noncomputable def Tryd.pinned : Pinned := { name := "ythagcmpehpgmpaadoor", sum := "b5d7869a96bf86329249ae8bdedfb23b4ddd3250f93f6b7985daa19dde3b43b7", checked := Tryd.checked }
namespace Rows
def none {H : Type} : Left H := { results := [], args := [] }

/- WHAT THE LISTED PACKAGE-LEVEL VARIABLES READ AS WHEN THE CALL BEGINS. Each datum BY PROGRAM (the guide's laid-datum.mjs) off the statement by which the dump's own 'gosem.cut.vars' lays the variable. In a bare row this is a premise. The card (YthagcmpehpgmpaaDoorCards.lean) ties it to the program's text. -/
def laid_math_bits_deBruijn64tab {H : Type} : DataW H := .agg [.lit (.int .u8 0), .lit (.int .u8 1), .lit (.int .u8 56), .lit (.int .u8 2), .lit (.int .u8 57), .lit (.int .u8 49), .lit (.int .u8 28), .lit (.int .u8 3), .lit (.int .u8 61), .lit (.int .u8 58), .lit (.int .u8 42), .lit (.int .u8 50), .lit (.int .u8 38), .lit (.int .u8 29), .lit (.int .u8 17), .lit (.int .u8 4), .lit (.int .u8 62), .lit (.int .u8 47), .lit (.int .u8 59), .lit (.int .u8 36), .lit (.int .u8 45), .lit (.int .u8 43), .lit (.int .u8 51), .lit (.int .u8 22), .lit (.int .u8 53), .lit (.int .u8 39), .lit (.int .u8 33), .lit (.int .u8 30), .lit (.int .u8 24), .lit (.int .u8 18), .lit (.int .u8 12), .lit (.int .u8 5), .lit (.int .u8 63), .lit (.int .u8 55), .lit (.int .u8 48), .lit (.int .u8 27), .lit (.int .u8 60), .lit (.int .u8 41), .lit (.int .u8 37), .lit (.int .u8 16), .lit (.int .u8 46), .lit (.int .u8 35), .lit (.int .u8 44), .lit (.int .u8 21), .lit (.int .u8 52), .lit (.int .u8 32), .lit (.int .u8 23), .lit (.int .u8 11), .lit (.int .u8 54), .lit (.int .u8 26), .lit (.int .u8 40), .lit (.int .u8 15), .lit (.int .u8 34), .lit (.int .u8 20), .lit (.int .u8 31), .lit (.int .u8 10), .lit (.int .u8 25), .lit (.int .u8 14), .lit (.int .u8 19), .lit (.int .u8 9), .lit (.int .u8 13), .lit (.int .u8 8), .lit (.int .u8 7), .lit (.int .u8 6)]
def laid_math_bits_deBruijn32tab {H : Type} : DataW H := .agg [.lit (.int .u8 0), .lit (.int .u8 1), .lit (.int .u8 28), .lit (.int .u8 2), .lit (.int .u8 29), .lit (.int .u8 14), .lit (.int .u8 24), .lit (.int .u8 3), .lit (.int .u8 30), .lit (.int .u8 22), .lit (.int .u8 20), .lit (.int .u8 15), .lit (.int .u8 25), .lit (.int .u8 17), .lit (.int .u8 4), .lit (.int .u8 8), .lit (.int .u8 31), .lit (.int .u8 27), .lit (.int .u8 13), .lit (.int .u8 23), .lit (.int .u8 21), .lit (.int .u8 19), .lit (.int .u8 16), .lit (.int .u8 7), .lit (.int .u8 26), .lit (.int .u8 12), .lit (.int .u8 18), .lit (.int .u8 6), .lit (.int .u8 11), .lit (.int .u8 5), .lit (.int .u8 10), .lit (.int .u8 9)]
def laid_internal_strconv_uint64pow10 {H : Type} : DataW H := .agg [.lit (.int .u64 1), .lit (.int .u64 10), .lit (.int .u64 100), .lit (.int .u64 1000), .lit (.int .u64 10000), .lit (.int .u64 100000), .lit (.int .u64 1000000), .lit (.int .u64 10000000), .lit (.int .u64 100000000), .lit (.int .u64 1000000000), .lit (.int .u64 10000000000), .lit (.int .u64 100000000000), .lit (.int .u64 1000000000000), .lit (.int .u64 10000000000000), .lit (.int .u64 100000000000000), .lit (.int .u64 1000000000000000), .lit (.int .u64 10000000000000000), .lit (.int .u64 100000000000000000), .lit (.int .u64 1000000000000000000), .lit (.int .u64 10000000000000000000)]
def laid_strconv_ErrRange {H : Type} : DataW H := .iface "*errors.errorString" (.ptr (.agg [.lit (.string [118, 97, 108, 117, 101, 32, 111, 117, 116, 32, 111, 102, 32, 114, 97, 110, 103, 101])]))
def laid_strconv_ErrSyntax {H : Type} : DataW H := .iface "*errors.errorString" (.ptr (.agg [.lit (.string [105, 110, 118, 97, 108, 105, 100, 32, 115, 121, 110, 116, 97, 120])]))

/-- 'quilllaw02.SetTexts': WHATEVER THE INPUT: true; the input reads as it did. -/
def setTextsSpec : ChangeSpec := { name := "setTexts", fn := fun _ => fun
  | [d1, d2] => { results := [.lit (.bool true)], args := [d1, d2] }
  | _ => none }
def setTextsRow : OpenClaim := { program := "ythagcmpehpgmpaadoor", sum := "b5d7869a96bf86329249ae8bdedfb23b4ddd3250f93f6b7985daa19dde3b43b7", func := "quill/quilllaw02.SetTexts", spec := "setTexts", inPlace := ["internal/bytealg.IndexByteString", "internal/abi.NoEscape"], named := ["math/bits.deBruijn64tab"], apart := false, laid := [("math/bits.deBruijn64tab", laid_math_bits_deBruijn64tab)] }
def SetTextsSaid : Prop := setTextsRow.holds Tryd.pinned (OpenSpec.ofChange setTextsSpec)

/-- ITS FALSE NEIGHBOUR: 'it returns false'. Refute it at one input. -/
def setTextsWrong : ChangeSpec := { name := "setTexts", fn := fun _ => fun
  | [d1, d2] => { results := [.lit (.bool false)], args := [d1, d2] }
  | _ => none }
def SetTextsWrongFalsely : Prop := setTextsRow.holds Tryd.pinned (OpenSpec.ofChange setTextsWrong)

/-- 'quilllaw02.SetMakes': WHATEVER THE INPUT: true; the input reads as it did. -/
def setMakesSpec : ChangeSpec := { name := "setMakes", fn := fun _ => fun
  | [d1, d2, d3, d4] => { results := [.lit (.bool true)], args := [d1, d2, d3, d4] }
  | _ => none }
def setMakesRow : OpenClaim := { program := "ythagcmpehpgmpaadoor", sum := "b5d7869a96bf86329249ae8bdedfb23b4ddd3250f93f6b7985daa19dde3b43b7", func := "quill/quilllaw02.SetMakes", spec := "setMakes", inPlace := ["internal/bytealg.IndexByteString", "internal/abi.NoEscape"], named := ["math/bits.deBruijn64tab"], apart := false, laid := [("math/bits.deBruijn64tab", laid_math_bits_deBruijn64tab)] }
def SetMakesSaid : Prop := setMakesRow.holds Tryd.pinned (OpenSpec.ofChange setMakesSpec)

/-- ITS FALSE NEIGHBOUR: 'it returns false'. Refute it at one input. -/
def setMakesWrong : ChangeSpec := { name := "setMakes", fn := fun _ => fun
  | [d1, d2, d3, d4] => { results := [.lit (.bool false)], args := [d1, d2, d3, d4] }
  | _ => none }
def SetMakesWrongFalsely : Prop := setMakesRow.holds Tryd.pinned (OpenSpec.ofChange setMakesWrong)

/-- 'quilllaw02.SetBack': WHATEVER THE INPUT: true; the input reads as it did. -/
def setBackSpec : ChangeSpec := { name := "setBack", fn := fun _ => fun
  | [d1, d2] => { results := [.lit (.bool true)], args := [d1, d2] }
  | _ => none }
def setBackRow : OpenClaim := { program := "ythagcmpehpgmpaadoor", sum := "b5d7869a96bf86329249ae8bdedfb23b4ddd3250f93f6b7985daa19dde3b43b7", func := "quill/quilllaw02.SetBack", spec := "setBack", inPlace := ["internal/bytealg.IndexByteString", "internal/abi.NoEscape"], unfollowed := true, recurses := true, named := ["math/bits.deBruijn64tab"], apart := false, laid := [("math/bits.deBruijn64tab", laid_math_bits_deBruijn64tab)] }
def SetBackSaid : Prop := setBackRow.holds Tryd.pinned (OpenSpec.ofChange setBackSpec)

/-- ITS FALSE NEIGHBOUR: 'it returns false'. Refute it at one input. -/
def setBackWrong : ChangeSpec := { name := "setBack", fn := fun _ => fun
  | [d1, d2] => { results := [.lit (.bool false)], args := [d1, d2] }
  | _ => none }
def SetBackWrongFalsely : Prop := setBackRow.holds Tryd.pinned (OpenSpec.ofChange setBackWrong)

/-- 'quilllaw02.SetMany': WHATEVER THE INPUT: true; the input reads as it did. -/
def setManySpec : ChangeSpec := { name := "setMany", fn := fun _ => fun
  | [d] => { results := [.lit (.bool true)], args := [d] }
  | _ => none }
def setManyRow : OpenClaim := { program := "ythagcmpehpgmpaadoor", sum := "b5d7869a96bf86329249ae8bdedfb23b4ddd3250f93f6b7985daa19dde3b43b7", func := "quill/quilllaw02.SetMany", spec := "setMany", inPlace := ["internal/bytealg.IndexByteString", "internal/abi.NoEscape"], named := ["math/bits.deBruijn64tab"], apart := false, laid := [("math/bits.deBruijn64tab", laid_math_bits_deBruijn64tab)] }
def SetManySaid : Prop := setManyRow.holds Tryd.pinned (OpenSpec.ofChange setManySpec)

/-- ITS FALSE NEIGHBOUR: 'it returns false'. Refute it at one input. -/
def setManyWrong : ChangeSpec := { name := "setMany", fn := fun _ => fun
  | [d] => { results := [.lit (.bool false)], args := [d] }
  | _ => none }
def SetManyWrongFalsely : Prop := setManyRow.holds Tryd.pinned (OpenSpec.ofChange setManyWrong)

/-- 'quilllaw02.SetTwos': WHATEVER THE INPUT: true; the input reads as it did. -/
def setTwosSpec : ChangeSpec := { name := "setTwos", fn := fun _ => fun
  | [d1, d2] => { results := [.lit (.bool true)], args := [d1, d2] }
  | _ => none }
def setTwosRow : OpenClaim := { program := "ythagcmpehpgmpaadoor", sum := "b5d7869a96bf86329249ae8bdedfb23b4ddd3250f93f6b7985daa19dde3b43b7", func := "quill/quilllaw02.SetTwos", spec := "setTwos", inPlace := ["internal/bytealg.IndexByteString", "internal/abi.NoEscape"], unfollowed := true, recurses := true, named := ["math/bits.deBruijn64tab"], apart := false, laid := [("math/bits.deBruijn64tab", laid_math_bits_deBruijn64tab)] }
def SetTwosSaid : Prop := setTwosRow.holds Tryd.pinned (OpenSpec.ofChange setTwosSpec)

/-- ITS FALSE NEIGHBOUR: 'it returns false'. Refute it at one input. -/
def setTwosWrong : ChangeSpec := { name := "setTwos", fn := fun _ => fun
  | [d1, d2] => { results := [.lit (.bool false)], args := [d1, d2] }
  | _ => none }
def SetTwosWrongFalsely : Prop := setTwosRow.holds Tryd.pinned (OpenSpec.ofChange setTwosWrong)

/-- 'quilllaw05.ShowApart': WHATEVER THE INPUT: true; the input reads as it did. -/
def showApartSpec : ChangeSpec := { name := "showApart", fn := fun _ => fun
  | [d1, d2] => { results := [.lit (.bool true)], args := [d1, d2] }
  | _ => none }
def showApartRow : OpenClaim := { program := "ythagcmpehpgmpaadoor", sum := "b5d7869a96bf86329249ae8bdedfb23b4ddd3250f93f6b7985daa19dde3b43b7", func := "quill/quilllaw05.ShowApart", spec := "showApart", inPlace := ["internal/abi.NoEscape", "internal/bytealg.IndexByteString"], unfollowed := true, recurses := true, named := ["math/bits.deBruijn64tab"], loops := true, apart := false, laid := [("math/bits.deBruijn64tab", laid_math_bits_deBruijn64tab)] }
def ShowApartSaid : Prop := showApartRow.holds Tryd.pinned (OpenSpec.ofChange showApartSpec)

/-- ITS FALSE NEIGHBOUR: 'it returns false'. Refute it at one input. -/
def showApartWrong : ChangeSpec := { name := "showApart", fn := fun _ => fun
  | [d1, d2] => { results := [.lit (.bool false)], args := [d1, d2] }
  | _ => none }
def ShowApartWrongFalsely : Prop := showApartRow.holds Tryd.pinned (OpenSpec.ofChange showApartWrong)

/-- 'quilllaw05.ShowTurns': WHATEVER THE INPUT: true; the input reads as it did. -/
def showTurnsSpec : ChangeSpec := { name := "showTurns", fn := fun _ => fun
  | [d1, d2, d3, d4] => { results := [.lit (.bool true)], args := [d1, d2, d3, d4] }
  | _ => none }
def showTurnsRow : OpenClaim := { program := "ythagcmpehpgmpaadoor", sum := "b5d7869a96bf86329249ae8bdedfb23b4ddd3250f93f6b7985daa19dde3b43b7", func := "quill/quilllaw05.ShowTurns", spec := "showTurns", inPlace := ["internal/abi.NoEscape", "internal/bytealg.IndexByteString"], unfollowed := true, recurses := true, named := ["math/bits.deBruijn64tab"], loops := true, apart := false, laid := [("math/bits.deBruijn64tab", laid_math_bits_deBruijn64tab)] }
def ShowTurnsSaid : Prop := showTurnsRow.holds Tryd.pinned (OpenSpec.ofChange showTurnsSpec)

/-- ITS FALSE NEIGHBOUR: 'it returns false'. Refute it at one input. -/
def showTurnsWrong : ChangeSpec := { name := "showTurns", fn := fun _ => fun
  | [d1, d2, d3, d4] => { results := [.lit (.bool false)], args := [d1, d2, d3, d4] }
  | _ => none }
def ShowTurnsWrongFalsely : Prop := showTurnsRow.holds Tryd.pinned (OpenSpec.ofChange showTurnsWrong)

/-- 'quilllaw05.ShowSigns': WHATEVER THE INPUT: true; the input reads as it did. -/
def showSignsSpec : ChangeSpec := { name := "showSigns", fn := fun _ => fun
  | [d] => { results := [.lit (.bool true)], args := [d] }
  | _ => none }
def showSignsRow : OpenClaim := { program := "ythagcmpehpgmpaadoor", sum := "b5d7869a96bf86329249ae8bdedfb23b4ddd3250f93f6b7985daa19dde3b43b7", func := "quill/quilllaw05.ShowSigns", spec := "showSigns", inPlace := ["internal/abi.NoEscape", "internal/bytealg.IndexByteString"], unfollowed := true, recurses := true, named := ["math/bits.deBruijn64tab"], apart := false, laid := [("math/bits.deBruijn64tab", laid_math_bits_deBruijn64tab)] }
def ShowSignsSaid : Prop := showSignsRow.holds Tryd.pinned (OpenSpec.ofChange showSignsSpec)

/-- ITS FALSE NEIGHBOUR: 'it returns false'. Refute it at one input. -/
def showSignsWrong : ChangeSpec := { name := "showSigns", fn := fun _ => fun
  | [d] => { results := [.lit (.bool false)], args := [d] }
  | _ => none }
def ShowSignsWrongFalsely : Prop := showSignsRow.holds Tryd.pinned (OpenSpec.ofChange showSignsWrong)

/-- 'quilllaw05.ShowTexts': WHATEVER THE INPUT: true; the input reads as it did. -/
def showTextsSpec : ChangeSpec := { name := "showTexts", fn := fun _ => fun
  | [d] => { results := [.lit (.bool true)], args := [d] }
  | _ => none }
def showTextsRow : OpenClaim := { program := "ythagcmpehpgmpaadoor", sum := "b5d7869a96bf86329249ae8bdedfb23b4ddd3250f93f6b7985daa19dde3b43b7", func := "quill/quilllaw05.ShowTexts", spec := "showTexts", inPlace := ["internal/abi.NoEscape", "internal/bytealg.IndexByteString"], unfollowed := true, recurses := true, named := ["math/bits.deBruijn64tab"], loops := true, apart := false, laid := [("math/bits.deBruijn64tab", laid_math_bits_deBruijn64tab)] }
def ShowTextsSaid : Prop := showTextsRow.holds Tryd.pinned (OpenSpec.ofChange showTextsSpec)

/-- ITS FALSE NEIGHBOUR: 'it returns false'. Refute it at one input. -/
def showTextsWrong : ChangeSpec := { name := "showTexts", fn := fun _ => fun
  | [d] => { results := [.lit (.bool false)], args := [d] }
  | _ => none }
def ShowTextsWrongFalsely : Prop := showTextsRow.holds Tryd.pinned (OpenSpec.ofChange showTextsWrong)

/-- 'quilllaw01.NumDigits': WHATEVER THE INPUT: true; the input reads as it did. -/
def numDigitsSpec : ChangeSpec := { name := "numDigits", fn := fun _ => fun
  | [d] => { results := [.lit (.bool true)], args := [d] }
  | _ => none }
def numDigitsRow : OpenClaim := { program := "ythagcmpehpgmpaadoor", sum := "b5d7869a96bf86329249ae8bdedfb23b4ddd3250f93f6b7985daa19dde3b43b7", func := "quill/quilllaw01.NumDigits", spec := "numDigits", inPlace := ["internal/abi.NoEscape", "internal/bytealg.MakeNoZero"], unfollowed := true, recurses := true, named := ["internal/strconv.uint64pow10", "math/bits.deBruijn32tab", "math/bits.deBruijn64tab"], apart := false, laid := [("math/bits.deBruijn32tab", laid_math_bits_deBruijn32tab), ("math/bits.deBruijn64tab", laid_math_bits_deBruijn64tab), ("internal/strconv.uint64pow10", laid_internal_strconv_uint64pow10)] }
def NumDigitsSaid : Prop := numDigitsRow.holds Tryd.pinned (OpenSpec.ofChange numDigitsSpec)

/-- ITS FALSE NEIGHBOUR: 'it returns false'. Refute it at one input. -/
def numDigitsWrong : ChangeSpec := { name := "numDigits", fn := fun _ => fun
  | [d] => { results := [.lit (.bool false)], args := [d] }
  | _ => none }
def NumDigitsWrongFalsely : Prop := numDigitsRow.holds Tryd.pinned (OpenSpec.ofChange numDigitsWrong)

/-- 'quilllaw01.NumReads': WHATEVER THE INPUT: true; the input reads as it did. -/
def numReadsSpec : ChangeSpec := { name := "numReads", fn := fun _ => fun
  | [d] => { results := [.lit (.bool true)], args := [d] }
  | _ => none }
def numReadsRow : OpenClaim := { program := "ythagcmpehpgmpaadoor", sum := "b5d7869a96bf86329249ae8bdedfb23b4ddd3250f93f6b7985daa19dde3b43b7", func := "quill/quilllaw01.NumReads", spec := "numReads", unfollowed := true, recurses := true, named := ["strconv.ErrSyntax", "strconv.ErrRange", "internal/strconv.uint64pow10", "math/bits.deBruijn32tab", "math/bits.deBruijn64tab"], apart := false, laid := [("math/bits.deBruijn32tab", laid_math_bits_deBruijn32tab), ("math/bits.deBruijn64tab", laid_math_bits_deBruijn64tab), ("internal/strconv.uint64pow10", laid_internal_strconv_uint64pow10), ("strconv.ErrRange", laid_strconv_ErrRange), ("strconv.ErrSyntax", laid_strconv_ErrSyntax)] }
def NumReadsSaid : Prop := numReadsRow.holds Tryd.pinned (OpenSpec.ofChange numReadsSpec)

/-- ITS FALSE NEIGHBOUR: 'it returns false'. Refute it at one input. -/
def numReadsWrong : ChangeSpec := { name := "numReads", fn := fun _ => fun
  | [d] => { results := [.lit (.bool false)], args := [d] }
  | _ => none }
def NumReadsWrongFalsely : Prop := numReadsRow.holds Tryd.pinned (OpenSpec.ofChange numReadsWrong)

/-- 'quilllaw01.NumBack': WHATEVER THE INPUT: true; the input reads as it did. -/
def numBackSpec : ChangeSpec := { name := "numBack", fn := fun _ => fun
  | [d1, d2] => { results := [.lit (.bool true)], args := [d1, d2] }
  | _ => none }
def numBackRow : OpenClaim := { program := "ythagcmpehpgmpaadoor", sum := "b5d7869a96bf86329249ae8bdedfb23b4ddd3250f93f6b7985daa19dde3b43b7", func := "quill/quilllaw01.NumBack", spec := "numBack", inPlace := ["internal/abi.NoEscape", "internal/bytealg.MakeNoZero"], unfollowed := true, recurses := true, named := ["internal/strconv.uint64pow10", "math/bits.deBruijn32tab", "math/bits.deBruijn64tab", "strconv.ErrSyntax", "strconv.ErrRange"], apart := false, laid := [("math/bits.deBruijn32tab", laid_math_bits_deBruijn32tab), ("math/bits.deBruijn64tab", laid_math_bits_deBruijn64tab), ("internal/strconv.uint64pow10", laid_internal_strconv_uint64pow10), ("strconv.ErrRange", laid_strconv_ErrRange), ("strconv.ErrSyntax", laid_strconv_ErrSyntax)] }
def NumBackSaid : Prop := numBackRow.holds Tryd.pinned (OpenSpec.ofChange numBackSpec)

/-- ITS FALSE NEIGHBOUR: 'it returns false'. Refute it at one input. -/
def numBackWrong : ChangeSpec := { name := "numBack", fn := fun _ => fun
  | [d1, d2] => { results := [.lit (.bool false)], args := [d1, d2] }
  | _ => none }
def NumBackWrongFalsely : Prop := numBackRow.holds Tryd.pinned (OpenSpec.ofChange numBackWrong)

/- THE SECOND FORM. 'bulk': how many values and letters a reading holds, each counted each time it is reached (what is shared counts as often as it is met; a slice's spare places count too). A statement '..UptoSaid' is the law's where the arguments, and the package variables that the reading takes, are together of bulk at most 1048576: NARROWER than '..Said'. Prove '..Said' where nothing that the law and all that it calls make is longer than what came in: it says more and counts as full. Else prove '..UptoSaid'. A law counts once. -/
mutual
def uptoBulk {H : Type} : DataW H → Nat
  | .lit (.string bytes) => bytes.length + 1
  | .lit _ => 1
  | .nil => 1
  | .ptr d => uptoBulk d + 1
  | .slice elems spare => uptoBulkAll elems + uptoBulkAll spare + 1
  | .agg parts => uptoBulkAll parts + 1
  | .iface _ d => uptoBulk d + 1
  | .map entries => uptoBulkEntries entries + 1
  | .held _ => 1
def uptoBulkAll {H : Type} : List (DataW H) → Nat
  | [] => 0
  | d :: r => uptoBulk d + uptoBulkAll r
def uptoBulkEntries {H : Type} : List (Lit × DataW H) → Nat
  | [] => 0
  | x :: r => uptoBulkEntry x + uptoBulkEntries r
def uptoBulkEntry {H : Type} : Lit × DataW H → Nat
  | (.string bytes, d) => bytes.length + uptoBulk d + 1
  | (_, d) => uptoBulk d + 1
 end
def uptoSmall : (H : Type) → List (DataW H) → Bool := fun _ ds => decide (uptoBulkAll ds ≤ 1048576)
def OpenSpec.upto (s : _root_.Go.ChangeSpec) : _root_.Go.OpenSpec := { _root_.Go.OpenSpec.ofChange s with cond := some uptoSmall }

/-- 'quilllaw02.SetTexts', WHERE WHAT IT READS IS OF BULK AT MOST 1048576: true; the input reads as it did. -/
def setTextsUptoRow : OpenClaim := { program := "ythagcmpehpgmpaadoor", sum := "b5d7869a96bf86329249ae8bdedfb23b4ddd3250f93f6b7985daa19dde3b43b7", func := "quill/quilllaw02.SetTexts", spec := "setTexts", inPlace := ["internal/bytealg.IndexByteString", "internal/abi.NoEscape"], named := ["math/bits.deBruijn64tab"], apart := false, laid := [("math/bits.deBruijn64tab", laid_math_bits_deBruijn64tab)], narrowed := true }
def SetTextsUptoSaid : Prop := setTextsUptoRow.holds Tryd.pinned (OpenSpec.upto setTextsSpec)

/-- 'quilllaw02.SetMakes', WHERE WHAT IT READS IS OF BULK AT MOST 1048576: true; the input reads as it did. -/
def setMakesUptoRow : OpenClaim := { program := "ythagcmpehpgmpaadoor", sum := "b5d7869a96bf86329249ae8bdedfb23b4ddd3250f93f6b7985daa19dde3b43b7", func := "quill/quilllaw02.SetMakes", spec := "setMakes", inPlace := ["internal/bytealg.IndexByteString", "internal/abi.NoEscape"], named := ["math/bits.deBruijn64tab"], apart := false, laid := [("math/bits.deBruijn64tab", laid_math_bits_deBruijn64tab)], narrowed := true }
def SetMakesUptoSaid : Prop := setMakesUptoRow.holds Tryd.pinned (OpenSpec.upto setMakesSpec)

/-- 'quilllaw02.SetBack', WHERE WHAT IT READS IS OF BULK AT MOST 1048576: true; the input reads as it did. -/
def setBackUptoRow : OpenClaim := { program := "ythagcmpehpgmpaadoor", sum := "b5d7869a96bf86329249ae8bdedfb23b4ddd3250f93f6b7985daa19dde3b43b7", func := "quill/quilllaw02.SetBack", spec := "setBack", inPlace := ["internal/bytealg.IndexByteString", "internal/abi.NoEscape"], unfollowed := true, recurses := true, named := ["math/bits.deBruijn64tab"], apart := false, laid := [("math/bits.deBruijn64tab", laid_math_bits_deBruijn64tab)], narrowed := true }
def SetBackUptoSaid : Prop := setBackUptoRow.holds Tryd.pinned (OpenSpec.upto setBackSpec)

/-- 'quilllaw02.SetMany', WHERE WHAT IT READS IS OF BULK AT MOST 1048576: true; the input reads as it did. -/
def setManyUptoRow : OpenClaim := { program := "ythagcmpehpgmpaadoor", sum := "b5d7869a96bf86329249ae8bdedfb23b4ddd3250f93f6b7985daa19dde3b43b7", func := "quill/quilllaw02.SetMany", spec := "setMany", inPlace := ["internal/bytealg.IndexByteString", "internal/abi.NoEscape"], named := ["math/bits.deBruijn64tab"], apart := false, laid := [("math/bits.deBruijn64tab", laid_math_bits_deBruijn64tab)], narrowed := true }
def SetManyUptoSaid : Prop := setManyUptoRow.holds Tryd.pinned (OpenSpec.upto setManySpec)

/-- 'quilllaw02.SetTwos', WHERE WHAT IT READS IS OF BULK AT MOST 1048576: true; the input reads as it did. -/
def setTwosUptoRow : OpenClaim := { program := "ythagcmpehpgmpaadoor", sum := "b5d7869a96bf86329249ae8bdedfb23b4ddd3250f93f6b7985daa19dde3b43b7", func := "quill/quilllaw02.SetTwos", spec := "setTwos", inPlace := ["internal/bytealg.IndexByteString", "internal/abi.NoEscape"], unfollowed := true, recurses := true, named := ["math/bits.deBruijn64tab"], apart := false, laid := [("math/bits.deBruijn64tab", laid_math_bits_deBruijn64tab)], narrowed := true }
def SetTwosUptoSaid : Prop := setTwosUptoRow.holds Tryd.pinned (OpenSpec.upto setTwosSpec)

/-- 'quilllaw05.ShowApart', WHERE WHAT IT READS IS OF BULK AT MOST 1048576: true; the input reads as it did. -/
def showApartUptoRow : OpenClaim := { program := "ythagcmpehpgmpaadoor", sum := "b5d7869a96bf86329249ae8bdedfb23b4ddd3250f93f6b7985daa19dde3b43b7", func := "quill/quilllaw05.ShowApart", spec := "showApart", inPlace := ["internal/abi.NoEscape", "internal/bytealg.IndexByteString"], unfollowed := true, recurses := true, named := ["math/bits.deBruijn64tab"], loops := true, apart := false, laid := [("math/bits.deBruijn64tab", laid_math_bits_deBruijn64tab)], narrowed := true }
def ShowApartUptoSaid : Prop := showApartUptoRow.holds Tryd.pinned (OpenSpec.upto showApartSpec)

/-- 'quilllaw05.ShowTurns', WHERE WHAT IT READS IS OF BULK AT MOST 1048576: true; the input reads as it did. -/
def showTurnsUptoRow : OpenClaim := { program := "ythagcmpehpgmpaadoor", sum := "b5d7869a96bf86329249ae8bdedfb23b4ddd3250f93f6b7985daa19dde3b43b7", func := "quill/quilllaw05.ShowTurns", spec := "showTurns", inPlace := ["internal/abi.NoEscape", "internal/bytealg.IndexByteString"], unfollowed := true, recurses := true, named := ["math/bits.deBruijn64tab"], loops := true, apart := false, laid := [("math/bits.deBruijn64tab", laid_math_bits_deBruijn64tab)], narrowed := true }
def ShowTurnsUptoSaid : Prop := showTurnsUptoRow.holds Tryd.pinned (OpenSpec.upto showTurnsSpec)

/-- 'quilllaw05.ShowSigns', WHERE WHAT IT READS IS OF BULK AT MOST 1048576: true; the input reads as it did. -/
def showSignsUptoRow : OpenClaim := { program := "ythagcmpehpgmpaadoor", sum := "b5d7869a96bf86329249ae8bdedfb23b4ddd3250f93f6b7985daa19dde3b43b7", func := "quill/quilllaw05.ShowSigns", spec := "showSigns", inPlace := ["internal/abi.NoEscape", "internal/bytealg.IndexByteString"], unfollowed := true, recurses := true, named := ["math/bits.deBruijn64tab"], apart := false, laid := [("math/bits.deBruijn64tab", laid_math_bits_deBruijn64tab)], narrowed := true }
def ShowSignsUptoSaid : Prop := showSignsUptoRow.holds Tryd.pinned (OpenSpec.upto showSignsSpec)

/-- 'quilllaw05.ShowTexts', WHERE WHAT IT READS IS OF BULK AT MOST 1048576: true; the input reads as it did. -/
def showTextsUptoRow : OpenClaim := { program := "ythagcmpehpgmpaadoor", sum := "b5d7869a96bf86329249ae8bdedfb23b4ddd3250f93f6b7985daa19dde3b43b7", func := "quill/quilllaw05.ShowTexts", spec := "showTexts", inPlace := ["internal/abi.NoEscape", "internal/bytealg.IndexByteString"], unfollowed := true, recurses := true, named := ["math/bits.deBruijn64tab"], loops := true, apart := false, laid := [("math/bits.deBruijn64tab", laid_math_bits_deBruijn64tab)], narrowed := true }
def ShowTextsUptoSaid : Prop := showTextsUptoRow.holds Tryd.pinned (OpenSpec.upto showTextsSpec)

/-- 'quilllaw01.NumDigits', WHERE WHAT IT READS IS OF BULK AT MOST 1048576: true; the input reads as it did. -/
def numDigitsUptoRow : OpenClaim := { program := "ythagcmpehpgmpaadoor", sum := "b5d7869a96bf86329249ae8bdedfb23b4ddd3250f93f6b7985daa19dde3b43b7", func := "quill/quilllaw01.NumDigits", spec := "numDigits", inPlace := ["internal/abi.NoEscape", "internal/bytealg.MakeNoZero"], unfollowed := true, recurses := true, named := ["internal/strconv.uint64pow10", "math/bits.deBruijn32tab", "math/bits.deBruijn64tab"], apart := false, laid := [("math/bits.deBruijn32tab", laid_math_bits_deBruijn32tab), ("math/bits.deBruijn64tab", laid_math_bits_deBruijn64tab), ("internal/strconv.uint64pow10", laid_internal_strconv_uint64pow10)], narrowed := true }
def NumDigitsUptoSaid : Prop := numDigitsUptoRow.holds Tryd.pinned (OpenSpec.upto numDigitsSpec)

/-- 'quilllaw01.NumReads', WHERE WHAT IT READS IS OF BULK AT MOST 1048576: true; the input reads as it did. -/
def numReadsUptoRow : OpenClaim := { program := "ythagcmpehpgmpaadoor", sum := "b5d7869a96bf86329249ae8bdedfb23b4ddd3250f93f6b7985daa19dde3b43b7", func := "quill/quilllaw01.NumReads", spec := "numReads", unfollowed := true, recurses := true, named := ["strconv.ErrSyntax", "strconv.ErrRange", "internal/strconv.uint64pow10", "math/bits.deBruijn32tab", "math/bits.deBruijn64tab"], apart := false, laid := [("math/bits.deBruijn32tab", laid_math_bits_deBruijn32tab), ("math/bits.deBruijn64tab", laid_math_bits_deBruijn64tab), ("internal/strconv.uint64pow10", laid_internal_strconv_uint64pow10), ("strconv.ErrRange", laid_strconv_ErrRange), ("strconv.ErrSyntax", laid_strconv_ErrSyntax)], narrowed := true }
def NumReadsUptoSaid : Prop := numReadsUptoRow.holds Tryd.pinned (OpenSpec.upto numReadsSpec)

/-- 'quilllaw01.NumBack', WHERE WHAT IT READS IS OF BULK AT MOST 1048576: true; the input reads as it did. -/
def numBackUptoRow : OpenClaim := { program := "ythagcmpehpgmpaadoor", sum := "b5d7869a96bf86329249ae8bdedfb23b4ddd3250f93f6b7985daa19dde3b43b7", func := "quill/quilllaw01.NumBack", spec := "numBack", inPlace := ["internal/abi.NoEscape", "internal/bytealg.MakeNoZero"], unfollowed := true, recurses := true, named := ["internal/strconv.uint64pow10", "math/bits.deBruijn32tab", "math/bits.deBruijn64tab", "strconv.ErrSyntax", "strconv.ErrRange"], apart := false, laid := [("math/bits.deBruijn32tab", laid_math_bits_deBruijn32tab), ("math/bits.deBruijn64tab", laid_math_bits_deBruijn64tab), ("internal/strconv.uint64pow10", laid_internal_strconv_uint64pow10), ("strconv.ErrRange", laid_strconv_ErrRange), ("strconv.ErrSyntax", laid_strconv_ErrSyntax)], narrowed := true }
def NumBackUptoSaid : Prop := numBackUptoRow.holds Tryd.pinned (OpenSpec.upto numBackSpec)

end Rows
end Go.Proofs.YthagcmpehpgmpaaDoor
