/-
  NARROWER THAN 'FOR EVERY INPUT', by the rows' own cells (each row's printed sentence says how): BitsCodes: loops · BitsRight: loops · ValTurns: loops · ValSame: loops · ValRight: loops · ValIs: loops.
  DERIVED. THE GIVEN ROWS OF THIS SEAT. 6 by the template 'for every input the law returns true; each argument reads behind the call as it read before'; 0 by the template 'total and deterministic' (their statements: YteokbmngebckjaaTotals.lean).
  GIVEN WITH THE SEED: the statements are not yours to turn. If you find one false, say at which input.
  Laid BY PROGRAM, IN A SANDBOX (cutbox-rows.mjs): the forced cells as the released guide's own fill.sh prints them over the translation 177facba9823f88b… (all of the seat's roots in one cut). By AI agents, Wed Nov 11 2026. No macro, syntax, notation, axiom, sorry.
-/
import Derived.Test.YteokbmngebckjaaChecked
import GoSem.Claim
import GoSem.ClaimJoined
import GoSem.ClaimMapViews
import Derived.JoinedTies
import Derived.KernelRfl
namespace Go.Proofs.Yteokbmngebckjaa
/- THE CELL 'sum', in the pinned program and in every row, IS THE sha256 OF THE DUMP (.gsa) THAT YteokbmngebckjaaProg.lean LOADS. Nothing in Lean hashes anything: it is a label: what it is worth is what the hold of that sum in a sandbox is worth. -/
noncomputable def Try.pinned : Pinned := { name := "yteokbmngebckjaa", sum := "177facba9823f88b29a0beea200a273a4131ac744e056718971caa1982b640d3", checked := Try.checked }
namespace Rows
def none {H : Type} : Left H := { results := [], args := [] }

/-- 'quilllaw15.BitsCodes': WHATEVER THE INPUT: true; the input reads as it did. -/
def bitsCodesSpec : ChangeSpec := { name := "bitsCodes", fn := fun _ => fun
  | [d] => { results := [.lit (.bool true)], args := [d] }
  | _ => none }
def bitsCodesRow : OpenClaim := { program := "yteokbmngebckjaa", sum := "177facba9823f88b29a0beea200a273a4131ac744e056718971caa1982b640d3", func := "quill/quilllaw15.BitsCodes", spec := "bitsCodes", inPlace := ["internal/bytealg.IndexByteString", "internal/abi.NoEscape"], unfollowed := true, recurses := true, loops := true, apart := false }
def BitsCodesSaid : Prop := bitsCodesRow.holds Try.pinned (OpenSpec.ofChange bitsCodesSpec)

/-- ITS FALSE NEIGHBOUR: 'it returns false'. Refute it at one input. -/
def bitsCodesWrong : ChangeSpec := { name := "bitsCodes", fn := fun _ => fun
  | [d] => { results := [.lit (.bool false)], args := [d] }
  | _ => none }
def BitsCodesWrongFalsely : Prop := bitsCodesRow.holds Try.pinned (OpenSpec.ofChange bitsCodesWrong)

/-- 'quilllaw15.BitsRight': WHATEVER THE INPUT: true; the input reads as it did. -/
def bitsRightSpec : ChangeSpec := { name := "bitsRight", fn := fun _ => fun
  | [d1, d2] => { results := [.lit (.bool true)], args := [d1, d2] }
  | _ => none }
def bitsRightRow : OpenClaim := { program := "yteokbmngebckjaa", sum := "177facba9823f88b29a0beea200a273a4131ac744e056718971caa1982b640d3", func := "quill/quilllaw15.BitsRight", spec := "bitsRight", inPlace := ["internal/bytealg.IndexByteString", "internal/abi.NoEscape"], unfollowed := true, recurses := true, loops := true, apart := false }
def BitsRightSaid : Prop := bitsRightRow.holds Try.pinned (OpenSpec.ofChange bitsRightSpec)

/-- ITS FALSE NEIGHBOUR: 'it returns false'. Refute it at one input. -/
def bitsRightWrong : ChangeSpec := { name := "bitsRight", fn := fun _ => fun
  | [d1, d2] => { results := [.lit (.bool false)], args := [d1, d2] }
  | _ => none }
def BitsRightWrongFalsely : Prop := bitsRightRow.holds Try.pinned (OpenSpec.ofChange bitsRightWrong)

/-- 'quilllaw14.ValTurns': WHATEVER THE INPUT: true; the input reads as it did. -/
def valTurnsSpec : ChangeSpec := { name := "valTurns", fn := fun _ => fun
  | [d1, d2, d3] => { results := [.lit (.bool true)], args := [d1, d2, d3] }
  | _ => none }
def valTurnsRow : OpenClaim := { program := "yteokbmngebckjaa", sum := "177facba9823f88b29a0beea200a273a4131ac744e056718971caa1982b640d3", func := "quill/quilllaw14.ValTurns", spec := "valTurns", inPlace := ["internal/bytealg.IndexByteString", "internal/abi.NoEscape", "internal/bytealg.MakeNoZero"], unfollowed := true, recurses := true, loops := true, apart := false }
def ValTurnsSaid : Prop := valTurnsRow.holds Try.pinned (OpenSpec.ofChange valTurnsSpec)

/-- ITS FALSE NEIGHBOUR: 'it returns false'. Refute it at one input. -/
def valTurnsWrong : ChangeSpec := { name := "valTurns", fn := fun _ => fun
  | [d1, d2, d3] => { results := [.lit (.bool false)], args := [d1, d2, d3] }
  | _ => none }
def ValTurnsWrongFalsely : Prop := valTurnsRow.holds Try.pinned (OpenSpec.ofChange valTurnsWrong)

/-- 'quilllaw14.ValSame': WHATEVER THE INPUT: true; the input reads as it did. -/
def valSameSpec : ChangeSpec := { name := "valSame", fn := fun _ => fun
  | [d1, d2] => { results := [.lit (.bool true)], args := [d1, d2] }
  | _ => none }
def valSameRow : OpenClaim := { program := "yteokbmngebckjaa", sum := "177facba9823f88b29a0beea200a273a4131ac744e056718971caa1982b640d3", func := "quill/quilllaw14.ValSame", spec := "valSame", inPlace := ["internal/bytealg.IndexByteString", "internal/abi.NoEscape", "internal/bytealg.MakeNoZero"], unfollowed := true, recurses := true, loops := true, apart := false }
def ValSameSaid : Prop := valSameRow.holds Try.pinned (OpenSpec.ofChange valSameSpec)

/-- ITS FALSE NEIGHBOUR: 'it returns false'. Refute it at one input. -/
def valSameWrong : ChangeSpec := { name := "valSame", fn := fun _ => fun
  | [d1, d2] => { results := [.lit (.bool false)], args := [d1, d2] }
  | _ => none }
def ValSameWrongFalsely : Prop := valSameRow.holds Try.pinned (OpenSpec.ofChange valSameWrong)

/-- 'quilllaw14.ValRight': WHATEVER THE INPUT: true; the input reads as it did. -/
def valRightSpec : ChangeSpec := { name := "valRight", fn := fun _ => fun
  | [d1, d2] => { results := [.lit (.bool true)], args := [d1, d2] }
  | _ => none }
def valRightRow : OpenClaim := { program := "yteokbmngebckjaa", sum := "177facba9823f88b29a0beea200a273a4131ac744e056718971caa1982b640d3", func := "quill/quilllaw14.ValRight", spec := "valRight", inPlace := ["internal/bytealg.IndexByteString", "internal/abi.NoEscape", "internal/bytealg.MakeNoZero"], unfollowed := true, recurses := true, loops := true, apart := false }
def ValRightSaid : Prop := valRightRow.holds Try.pinned (OpenSpec.ofChange valRightSpec)

/-- ITS FALSE NEIGHBOUR: 'it returns false'. Refute it at one input. -/
def valRightWrong : ChangeSpec := { name := "valRight", fn := fun _ => fun
  | [d1, d2] => { results := [.lit (.bool false)], args := [d1, d2] }
  | _ => none }
def ValRightWrongFalsely : Prop := valRightRow.holds Try.pinned (OpenSpec.ofChange valRightWrong)

/-- 'quilllaw14.ValIs': WHATEVER THE INPUT: true; the input reads as it did. -/
def valIsSpec : ChangeSpec := { name := "valIs", fn := fun _ => fun
  | [d1, d2] => { results := [.lit (.bool true)], args := [d1, d2] }
  | _ => none }
def valIsRow : OpenClaim := { program := "yteokbmngebckjaa", sum := "177facba9823f88b29a0beea200a273a4131ac744e056718971caa1982b640d3", func := "quill/quilllaw14.ValIs", spec := "valIs", inPlace := ["internal/bytealg.IndexByteString", "internal/abi.NoEscape", "internal/bytealg.MakeNoZero"], unfollowed := true, recurses := true, loops := true, apart := false }
def ValIsSaid : Prop := valIsRow.holds Try.pinned (OpenSpec.ofChange valIsSpec)

/-- ITS FALSE NEIGHBOUR: 'it returns false'. Refute it at one input. -/
def valIsWrong : ChangeSpec := { name := "valIs", fn := fun _ => fun
  | [d1, d2] => { results := [.lit (.bool false)], args := [d1, d2] }
  | _ => none }
def ValIsWrongFalsely : Prop := valIsRow.holds Try.pinned (OpenSpec.ofChange valIsWrong)

/- THE SECOND FORM. 'bulk': how many values and letters a reading holds, each counted each time it is reached (what is shared counts as often as it is met; a slice's spare places count too). A statement '..UptoSaid' is the law's where the arguments, and the package variables that the reading takes, are together of bulk at most 1048576: NARROWER than '..Said'. Prove '..Said' where nothing that the law and all that it calls make is longer than what came in: it says more and counts as full. Else prove '..UptoSaid'. A law counts once. -/
mutual
def uptoBulk {H : Type} : DataW H → Nat
  | .lit (.string bytes) => bytes.length + 1
  | .lit _ => 1
  | .nil => 1
  | .ptr d => uptoBulk d + 1
  | .slice elems spare => uptoBulkAll elems + uptoBulkAll spare + 1
  | .agg parts => uptoBulkAll parts + 1
  | .iface _ d => uptoBulk d + 1
  | .map entries => uptoBulkEntries entries + 1
  | .held _ => 1
def uptoBulkAll {H : Type} : List (DataW H) → Nat
  | [] => 0
  | d :: r => uptoBulk d + uptoBulkAll r
def uptoBulkEntries {H : Type} : List (Lit × DataW H) → Nat
  | [] => 0
  | x :: r => uptoBulkEntry x + uptoBulkEntries r
def uptoBulkEntry {H : Type} : Lit × DataW H → Nat
  | (.string bytes, d) => bytes.length + uptoBulk d + 1
  | (_, d) => uptoBulk d + 1
 end
def uptoSmall : (H : Type) → List (DataW H) → Bool := fun _ ds => decide (uptoBulkAll ds ≤ 1048576)
def OpenSpec.upto (s : _root_.Go.ChangeSpec) : _root_.Go.OpenSpec := { _root_.Go.OpenSpec.ofChange s with cond := some uptoSmall }

/-- 'quilllaw15.BitsCodes', WHERE WHAT IT READS IS OF BULK AT MOST 1048576: true; the input reads as it did. -/
def bitsCodesUptoRow : OpenClaim := { program := "yteokbmngebckjaa", sum := "177facba9823f88b29a0beea200a273a4131ac744e056718971caa1982b640d3", func := "quill/quilllaw15.BitsCodes", spec := "bitsCodes", inPlace := ["internal/bytealg.IndexByteString", "internal/abi.NoEscape"], unfollowed := true, recurses := true, loops := true, apart := false, narrowed := true }
def BitsCodesUptoSaid : Prop := bitsCodesUptoRow.holds Try.pinned (OpenSpec.upto bitsCodesSpec)

/-- 'quilllaw15.BitsRight', WHERE WHAT IT READS IS OF BULK AT MOST 1048576: true; the input reads as it did. -/
def bitsRightUptoRow : OpenClaim := { program := "yteokbmngebckjaa", sum := "177facba9823f88b29a0beea200a273a4131ac744e056718971caa1982b640d3", func := "quill/quilllaw15.BitsRight", spec := "bitsRight", inPlace := ["internal/bytealg.IndexByteString", "internal/abi.NoEscape"], unfollowed := true, recurses := true, loops := true, apart := false, narrowed := true }
def BitsRightUptoSaid : Prop := bitsRightUptoRow.holds Try.pinned (OpenSpec.upto bitsRightSpec)

/-- 'quilllaw14.ValTurns', WHERE WHAT IT READS IS OF BULK AT MOST 1048576: true; the input reads as it did. -/
def valTurnsUptoRow : OpenClaim := { program := "yteokbmngebckjaa", sum := "177facba9823f88b29a0beea200a273a4131ac744e056718971caa1982b640d3", func := "quill/quilllaw14.ValTurns", spec := "valTurns", inPlace := ["internal/bytealg.IndexByteString", "internal/abi.NoEscape", "internal/bytealg.MakeNoZero"], unfollowed := true, recurses := true, loops := true, apart := false, narrowed := true }
def ValTurnsUptoSaid : Prop := valTurnsUptoRow.holds Try.pinned (OpenSpec.upto valTurnsSpec)

/-- 'quilllaw14.ValSame', WHERE WHAT IT READS IS OF BULK AT MOST 1048576: true; the input reads as it did. -/
def valSameUptoRow : OpenClaim := { program := "yteokbmngebckjaa", sum := "177facba9823f88b29a0beea200a273a4131ac744e056718971caa1982b640d3", func := "quill/quilllaw14.ValSame", spec := "valSame", inPlace := ["internal/bytealg.IndexByteString", "internal/abi.NoEscape", "internal/bytealg.MakeNoZero"], unfollowed := true, recurses := true, loops := true, apart := false, narrowed := true }
def ValSameUptoSaid : Prop := valSameUptoRow.holds Try.pinned (OpenSpec.upto valSameSpec)

/-- 'quilllaw14.ValRight', WHERE WHAT IT READS IS OF BULK AT MOST 1048576: true; the input reads as it did. -/
def valRightUptoRow : OpenClaim := { program := "yteokbmngebckjaa", sum := "177facba9823f88b29a0beea200a273a4131ac744e056718971caa1982b640d3", func := "quill/quilllaw14.ValRight", spec := "valRight", inPlace := ["internal/bytealg.IndexByteString", "internal/abi.NoEscape", "internal/bytealg.MakeNoZero"], unfollowed := true, recurses := true, loops := true, apart := false, narrowed := true }
def ValRightUptoSaid : Prop := valRightUptoRow.holds Try.pinned (OpenSpec.upto valRightSpec)

/-- 'quilllaw14.ValIs', WHERE WHAT IT READS IS OF BULK AT MOST 1048576: true; the input reads as it did. -/
def valIsUptoRow : OpenClaim := { program := "yteokbmngebckjaa", sum := "177facba9823f88b29a0beea200a273a4131ac744e056718971caa1982b640d3", func := "quill/quilllaw14.ValIs", spec := "valIs", inPlace := ["internal/bytealg.IndexByteString", "internal/abi.NoEscape", "internal/bytealg.MakeNoZero"], unfollowed := true, recurses := true, loops := true, apart := false, narrowed := true }
def ValIsUptoSaid : Prop := valIsUptoRow.holds Try.pinned (OpenSpec.upto valIsSpec)

end Rows
end Go.Proofs.Yteokbmngebckjaa
