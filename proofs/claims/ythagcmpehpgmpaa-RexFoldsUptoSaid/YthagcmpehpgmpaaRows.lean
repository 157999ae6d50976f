/-
  NARROWER THAN 'FOR EVERY INPUT', by the rows' own cells (each row's printed sentence says how): RexMays: loops · RexMakes: loops · RexSame: loops · RexFolds: loops.
  DERIVED. THE GIVEN ROWS OF THIS SEAT. 7 by the template 'for every input the law returns true; each argument reads behind the call as it read before'; 0 by the template 'total and deterministic' (their statements: YthagcmpehpgmpaaTotals.lean).
  GIVEN WITH THE SEED: the statements are not yours to turn. If you find one false, say at which input.
  Laid BY PROGRAM, IN A SANDBOX (cutbox-rows.mjs): the forced cells as the released guide's own fill.sh prints them over the translation bc7ab8d69ada16cc… (all of the seat's roots in one cut). By AI agents, Wed Nov 11 2026. No macro, syntax, notation, axiom, sorry.
-/
import Derived.Test.YthagcmpehpgmpaaChecked
import GoSem.Claim
import GoSem.ClaimJoined
import GoSem.ClaimMapViews
import Derived.JoinedTies
import Derived.KernelRfl
namespace Go.Proofs.Ythagcmpehpgmpaa
/- THE CELL 'sum', in the pinned program and in every row, IS THE sha256 OF THE DUMP (.gsa) THAT YthagcmpehpgmpaaProg.lean LOADS. Nothing in Lean hashes anything: it is a label: what it is worth is what the hold of that sum in a sandbox is worth. -/
noncomputable def Try.pinned : Pinned := { name := "ythagcmpehpgmpaa", sum := "bc7ab8d69ada16cc78dc1996f44e9b48d9da72e4bdbabe4cd739c4712e0c0d0b", checked := Try.checked }
namespace Rows
def none {H : Type} : Left H := { results := [], args := [] }

/-- 'quilllaw01.NumNames': WHATEVER THE INPUT: true; the input reads as it did. -/
def numNamesSpec : ChangeSpec := { name := "numNames", fn := fun _ => fun
  | [d] => { results := [.lit (.bool true)], args := [d] }
  | _ => none }
def numNamesRow : OpenClaim := { program := "ythagcmpehpgmpaa", sum := "bc7ab8d69ada16cc78dc1996f44e9b48d9da72e4bdbabe4cd739c4712e0c0d0b", func := "quill/quilllaw01.NumNames", spec := "numNames", unfollowed := true, recurses := true, apart := false }
def NumNamesSaid : Prop := numNamesRow.holds Try.pinned (OpenSpec.ofChange numNamesSpec)

/-- ITS FALSE NEIGHBOUR: 'it returns false'. Refute it at one input. -/
def numNamesWrong : ChangeSpec := { name := "numNames", fn := fun _ => fun
  | [d] => { results := [.lit (.bool false)], args := [d] }
  | _ => none }
def NumNamesWrongFalsely : Prop := numNamesRow.holds Try.pinned (OpenSpec.ofChange numNamesWrong)

/-- 'quilllaw01.NumHex': WHATEVER THE INPUT: true; the input reads as it did. -/
def numHexSpec : ChangeSpec := { name := "numHex", fn := fun _ => fun
  | [d1, d2] => { results := [.lit (.bool true)], args := [d1, d2] }
  | _ => none }
def numHexRow : OpenClaim := { program := "ythagcmpehpgmpaa", sum := "bc7ab8d69ada16cc78dc1996f44e9b48d9da72e4bdbabe4cd739c4712e0c0d0b", func := "quill/quilllaw01.NumHex", spec := "numHex", inPlace := ["internal/bytealg.IndexByteString"], unfollowed := true, recurses := true, apart := false }
def NumHexSaid : Prop := numHexRow.holds Try.pinned (OpenSpec.ofChange numHexSpec)

/-- ITS FALSE NEIGHBOUR: 'it returns false'. Refute it at one input. -/
def numHexWrong : ChangeSpec := { name := "numHex", fn := fun _ => fun
  | [d1, d2] => { results := [.lit (.bool false)], args := [d1, d2] }
  | _ => none }
def NumHexWrongFalsely : Prop := numHexRow.holds Try.pinned (OpenSpec.ofChange numHexWrong)

/-- 'quilllaw03.RexMays': WHATEVER THE INPUT: true; the input reads as it did. -/
def rexMaysSpec : ChangeSpec := { name := "rexMays", fn := fun _ => fun
  | [d] => { results := [.lit (.bool true)], args := [d] }
  | _ => none }
def rexMaysRow : OpenClaim := { program := "ythagcmpehpgmpaa", sum := "bc7ab8d69ada16cc78dc1996f44e9b48d9da72e4bdbabe4cd739c4712e0c0d0b", func := "quill/quilllaw03.RexMays", spec := "rexMays", unfollowed := true, recurses := true, loops := true, apart := false }
def RexMaysSaid : Prop := rexMaysRow.holds Try.pinned (OpenSpec.ofChange rexMaysSpec)

/-- ITS FALSE NEIGHBOUR: 'it returns false'. Refute it at one input. -/
def rexMaysWrong : ChangeSpec := { name := "rexMays", fn := fun _ => fun
  | [d] => { results := [.lit (.bool false)], args := [d] }
  | _ => none }
def RexMaysWrongFalsely : Prop := rexMaysRow.holds Try.pinned (OpenSpec.ofChange rexMaysWrong)

/-- 'quilllaw03.RexMost': WHATEVER THE INPUT: true; the input reads as it did. -/
def rexMostSpec : ChangeSpec := { name := "rexMost", fn := fun _ => fun
  | [d] => { results := [.lit (.bool true)], args := [d] }
  | _ => none }
def rexMostRow : OpenClaim := { program := "ythagcmpehpgmpaa", sum := "bc7ab8d69ada16cc78dc1996f44e9b48d9da72e4bdbabe4cd739c4712e0c0d0b", func := "quill/quilllaw03.RexMost", spec := "rexMost", unfollowed := true, recurses := true, apart := false }
def RexMostSaid : Prop := rexMostRow.holds Try.pinned (OpenSpec.ofChange rexMostSpec)

/-- ITS FALSE NEIGHBOUR: 'it returns false'. Refute it at one input. -/
def rexMostWrong : ChangeSpec := { name := "rexMost", fn := fun _ => fun
  | [d] => { results := [.lit (.bool false)], args := [d] }
  | _ => none }
def RexMostWrongFalsely : Prop := rexMostRow.holds Try.pinned (OpenSpec.ofChange rexMostWrong)

/-- 'quilllaw03.RexMakes': WHATEVER THE INPUT: true; the input reads as it did. -/
def rexMakesSpec : ChangeSpec := { name := "rexMakes", fn := fun _ => fun
  | [d1, d2, d3] => { results := [.lit (.bool true)], args := [d1, d2, d3] }
  | _ => none }
def rexMakesRow : OpenClaim := { program := "ythagcmpehpgmpaa", sum := "bc7ab8d69ada16cc78dc1996f44e9b48d9da72e4bdbabe4cd739c4712e0c0d0b", func := "quill/quilllaw03.RexMakes", spec := "rexMakes", unfollowed := true, recurses := true, loops := true, apart := false }
def RexMakesSaid : Prop := rexMakesRow.holds Try.pinned (OpenSpec.ofChange rexMakesSpec)

/-- ITS FALSE NEIGHBOUR: 'it returns false'. Refute it at one input. -/
def rexMakesWrong : ChangeSpec := { name := "rexMakes", fn := fun _ => fun
  | [d1, d2, d3] => { results := [.lit (.bool false)], args := [d1, d2, d3] }
  | _ => none }
def RexMakesWrongFalsely : Prop := rexMakesRow.holds Try.pinned (OpenSpec.ofChange rexMakesWrong)

/-- 'quilllaw03.RexSame': WHATEVER THE INPUT: true; the input reads as it did. -/
def rexSameSpec : ChangeSpec := { name := "rexSame", fn := fun _ => fun
  | [d1, d2] => { results := [.lit (.bool true)], args := [d1, d2] }
  | _ => none }
def rexSameRow : OpenClaim := { program := "ythagcmpehpgmpaa", sum := "bc7ab8d69ada16cc78dc1996f44e9b48d9da72e4bdbabe4cd739c4712e0c0d0b", func := "quill/quilllaw03.RexSame", spec := "rexSame", unfollowed := true, recurses := true, loops := true, apart := false }
def RexSameSaid : Prop := rexSameRow.holds Try.pinned (OpenSpec.ofChange rexSameSpec)

/-- ITS FALSE NEIGHBOUR: 'it returns false'. Refute it at one input. -/
def rexSameWrong : ChangeSpec := { name := "rexSame", fn := fun _ => fun
  | [d1, d2] => { results := [.lit (.bool false)], args := [d1, d2] }
  | _ => none }
def RexSameWrongFalsely : Prop := rexSameRow.holds Try.pinned (OpenSpec.ofChange rexSameWrong)

/-- 'quilllaw03.RexFolds': WHATEVER THE INPUT: true; the input reads as it did. -/
def rexFoldsSpec : ChangeSpec := { name := "rexFolds", fn := fun _ => fun
  | [d] => { results := [.lit (.bool true)], args := [d] }
  | _ => none }
def rexFoldsRow : OpenClaim := { program := "ythagcmpehpgmpaa", sum := "bc7ab8d69ada16cc78dc1996f44e9b48d9da72e4bdbabe4cd739c4712e0c0d0b", func := "quill/quilllaw03.RexFolds", spec := "rexFolds", unfollowed := true, recurses := true, loops := true, apart := false }
def RexFoldsSaid : Prop := rexFoldsRow.holds Try.pinned (OpenSpec.ofChange rexFoldsSpec)

/-- ITS FALSE NEIGHBOUR: 'it returns false'. Refute it at one input. -/
def rexFoldsWrong : ChangeSpec := { name := "rexFolds", fn := fun _ => fun
  | [d] => { results := [.lit (.bool false)], args := [d] }
  | _ => none }
def RexFoldsWrongFalsely : Prop := rexFoldsRow.holds Try.pinned (OpenSpec.ofChange rexFoldsWrong)

/- THE SECOND FORM. 'bulk': how many values and letters a reading holds, each counted each time it is reached (what is shared counts as often as it is met; a slice's spare places count too). A statement '..UptoSaid' is the law's where the arguments, and the package variables that the reading takes, are together of bulk at most 1048576: NARROWER than '..Said'. Prove '..Said' where nothing that the law and all that it calls make is longer than what came in: it says more and counts as full. Else prove '..UptoSaid'. A law counts once. -/
mutual
def uptoBulk {H : Type} : DataW H → Nat
  | .lit (.string bytes) => bytes.length + 1
  | .lit _ => 1
  | .nil => 1
  | .ptr d => uptoBulk d + 1
  | .slice elems spare => uptoBulkAll elems + uptoBulkAll spare + 1
  | .agg parts => uptoBulkAll parts + 1
  | .iface _ d => uptoBulk d + 1
  | .map entries => uptoBulkEntries entries + 1
  | .held _ => 1
def uptoBulkAll {H : Type} : List (DataW H) → Nat
  | [] => 0
  | d :: r => uptoBulk d + uptoBulkAll r
def uptoBulkEntries {H : Type} : List (Lit × DataW H) → Nat
  | [] => 0
  | x :: r => uptoBulkEntry x + uptoBulkEntries r
def uptoBulkEntry {H : Type} : Lit × DataW H → Nat
  | (.string bytes, d) => bytes.length + uptoBulk d + 1
  | (_, d) => uptoBulk d + 1
 end
def uptoSmall : (H : Type) → List (DataW H) → Bool := fun _ ds => decide (uptoBulkAll ds ≤ 1048576)
def OpenSpec.upto (s : _root_.Go.ChangeSpec) : _root_.Go.OpenSpec := { _root_.Go.OpenSpec.ofChange s with cond := some uptoSmall }

/-- 'quilllaw01.NumNames', WHERE WHAT IT READS IS OF BULK AT MOST 1048576: true; the input reads as it did. -/
def numNamesUptoRow : OpenClaim := { program := "ythagcmpehpgmpaa", sum := "bc7ab8d69ada16cc78dc1996f44e9b48d9da72e4bdbabe4cd739c4712e0c0d0b", func := "quill/quilllaw01.NumNames", spec := "numNames", unfollowed := true, recurses := true, apart := false, narrowed := true }
def NumNamesUptoSaid : Prop := numNamesUptoRow.holds Try.pinned (OpenSpec.upto numNamesSpec)

/-- 'quilllaw01.NumHex', WHERE WHAT IT READS IS OF BULK AT MOST 1048576: true; the input reads as it did. -/
def numHexUptoRow : OpenClaim := { program := "ythagcmpehpgmpaa", sum := "bc7ab8d69ada16cc78dc1996f44e9b48d9da72e4bdbabe4cd739c4712e0c0d0b", func := "quill/quilllaw01.NumHex", spec := "numHex", inPlace := ["internal/bytealg.IndexByteString"], unfollowed := true, recurses := true, apart := false, narrowed := true }
def NumHexUptoSaid : Prop := numHexUptoRow.holds Try.pinned (OpenSpec.upto numHexSpec)

/-- 'quilllaw03.RexMays', WHERE WHAT IT READS IS OF BULK AT MOST 1048576: true; the input reads as it did. -/
def rexMaysUptoRow : OpenClaim := { program := "ythagcmpehpgmpaa", sum := "bc7ab8d69ada16cc78dc1996f44e9b48d9da72e4bdbabe4cd739c4712e0c0d0b", func := "quill/quilllaw03.RexMays", spec := "rexMays", unfollowed := true, recurses := true, loops := true, apart := false, narrowed := true }
def RexMaysUptoSaid : Prop := rexMaysUptoRow.holds Try.pinned (OpenSpec.upto rexMaysSpec)

/-- 'quilllaw03.RexMost', WHERE WHAT IT READS IS OF BULK AT MOST 1048576: true; the input reads as it did. -/
def rexMostUptoRow : OpenClaim := { program := "ythagcmpehpgmpaa", sum := "bc7ab8d69ada16cc78dc1996f44e9b48d9da72e4bdbabe4cd739c4712e0c0d0b", func := "quill/quilllaw03.RexMost", spec := "rexMost", unfollowed := true, recurses := true, apart := false, narrowed := true }
def RexMostUptoSaid : Prop := rexMostUptoRow.holds Try.pinned (OpenSpec.upto rexMostSpec)

/-- 'quilllaw03.RexMakes', WHERE WHAT IT READS IS OF BULK AT MOST 1048576: true; the input reads as it did. -/
def rexMakesUptoRow : OpenClaim := { program := "ythagcmpehpgmpaa", sum := "bc7ab8d69ada16cc78dc1996f44e9b48d9da72e4bdbabe4cd739c4712e0c0d0b", func := "quill/quilllaw03.RexMakes", spec := "rexMakes", unfollowed := true, recurses := true, loops := true, apart := false, narrowed := true }
def RexMakesUptoSaid : Prop := rexMakesUptoRow.holds Try.pinned (OpenSpec.upto rexMakesSpec)

/-- 'quilllaw03.RexSame', WHERE WHAT IT READS IS OF BULK AT MOST 1048576: true; the input reads as it did. -/
def rexSameUptoRow : OpenClaim := { program := "ythagcmpehpgmpaa", sum := "bc7ab8d69ada16cc78dc1996f44e9b48d9da72e4bdbabe4cd739c4712e0c0d0b", func := "quill/quilllaw03.RexSame", spec := "rexSame", unfollowed := true, recurses := true, loops := true, apart := false, narrowed := true }
def RexSameUptoSaid : Prop := rexSameUptoRow.holds Try.pinned (OpenSpec.upto rexSameSpec)

/-- 'quilllaw03.RexFolds', WHERE WHAT IT READS IS OF BULK AT MOST 1048576: true; the input reads as it did. -/
def rexFoldsUptoRow : OpenClaim := { program := "ythagcmpehpgmpaa", sum := "bc7ab8d69ada16cc78dc1996f44e9b48d9da72e4bdbabe4cd739c4712e0c0d0b", func := "quill/quilllaw03.RexFolds", spec := "rexFolds", unfollowed := true, recurses := true, loops := true, apart := false, narrowed := true }
def RexFoldsUptoSaid : Prop := rexFoldsUptoRow.holds Try.pinned (OpenSpec.upto rexFoldsSpec)

end Rows
end Go.Proofs.Ythagcmpehpgmpaa
