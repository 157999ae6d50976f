/-
  NARROWER THAN 'FOR EVERY INPUT', by the rows' own cells (each row's printed sentence says how): RexMakes: loops · RexSame: loops · RexFolds: loops.
  DERIVED. THE GIVEN ROWS OF THIS SEAT. 3 by the template 'for every input the law returns true; each argument reads behind the call as it read before'; 0 by the template 'total and deterministic' (their statements: YtbblhhkacdgmiaaTotals.lean).
  GIVEN WITH THE SEED: the statements are not yours to turn. If you find one false, say at which input.
  Laid BY PROGRAM, IN A SANDBOX (cutbox-rows.mjs): the forced cells as the released guide's own fill.sh prints them over the translation fda34976570de21d… (all of the seat's roots in one cut). By AI agents, Wed Nov 11 2026. No macro, syntax, notation, axiom, sorry.
-/
import Derived.Test.YtbblhhkacdgmiaaChecked
import GoSem.Claim
import GoSem.ClaimJoined
import GoSem.ClaimMapViews
import Derived.JoinedTies
import Derived.KernelRfl
namespace Go.Proofs.Ytbblhhkacdgmiaa
/- THE CELL 'sum', in the pinned program and in every row, IS THE sha256 OF THE DUMP (.gsa) THAT YtbblhhkacdgmiaaProg.lean LOADS. Nothing in Lean hashes anything: it is a label: what it is worth is what the hold of that sum in a sandbox is worth. -/
noncomputable def Try.pinned : Pinned := { name := "ytbblhhkacdgmiaa", sum := "fda34976570de21d1fce1964d60afde07eb0404b64003d0bd4a0778686745600", checked := Try.checked }
namespace Rows
def none {H : Type} : Left H := { results := [], args := [] }

/-- 'quilllaw03.RexMakes': WHATEVER THE INPUT: true; the input reads as it did. -/
def rexMakesSpec : ChangeSpec := { name := "rexMakes", fn := fun _ => fun
  | [d1, d2, d3] => { results := [.lit (.bool true)], args := [d1, d2, d3] }
  | _ => none }
def rexMakesRow : OpenClaim := { program := "ytbblhhkacdgmiaa", sum := "fda34976570de21d1fce1964d60afde07eb0404b64003d0bd4a0778686745600", func := "quill/quilllaw03.RexMakes", spec := "rexMakes", unfollowed := true, recurses := true, loops := true, apart := false }
def RexMakesSaid : Prop := rexMakesRow.holds Try.pinned (OpenSpec.ofChange rexMakesSpec)

/-- ITS FALSE NEIGHBOUR: 'it returns false'. Refute it at one input. -/
def rexMakesWrong : ChangeSpec := { name := "rexMakes", fn := fun _ => fun
  | [d1, d2, d3] => { results := [.lit (.bool false)], args := [d1, d2, d3] }
  | _ => none }
def RexMakesWrongFalsely : Prop := rexMakesRow.holds Try.pinned (OpenSpec.ofChange rexMakesWrong)

/-- 'quilllaw03.RexSame': WHATEVER THE INPUT: true; the input reads as it did. -/
def rexSameSpec : ChangeSpec := { name := "rexSame", fn := fun _ => fun
  | [d1, d2] => { results := [.lit (.bool true)], args := [d1, d2] }
  | _ => none }
def rexSameRow : OpenClaim := { program := "ytbblhhkacdgmiaa", sum := "fda34976570de21d1fce1964d60afde07eb0404b64003d0bd4a0778686745600", func := "quill/quilllaw03.RexSame", spec := "rexSame", unfollowed := true, recurses := true, loops := true, apart := false }
def RexSameSaid : Prop := rexSameRow.holds Try.pinned (OpenSpec.ofChange rexSameSpec)

/-- ITS FALSE NEIGHBOUR: 'it returns false'. Refute it at one input. -/
def rexSameWrong : ChangeSpec := { name := "rexSame", fn := fun _ => fun
  | [d1, d2] => { results := [.lit (.bool false)], args := [d1, d2] }
  | _ => none }
def RexSameWrongFalsely : Prop := rexSameRow.holds Try.pinned (OpenSpec.ofChange rexSameWrong)

/-- 'quilllaw03.RexFolds': WHATEVER THE INPUT: true; the input reads as it did. -/
def rexFoldsSpec : ChangeSpec := { name := "rexFolds", fn := fun _ => fun
  | [d] => { results := [.lit (.bool true)], args := [d] }
  | _ => none }
def rexFoldsRow : OpenClaim := { program := "ytbblhhkacdgmiaa", sum := "fda34976570de21d1fce1964d60afde07eb0404b64003d0bd4a0778686745600", func := "quill/quilllaw03.RexFolds", spec := "rexFolds", unfollowed := true, recurses := true, loops := true, apart := false }
def RexFoldsSaid : Prop := rexFoldsRow.holds Try.pinned (OpenSpec.ofChange rexFoldsSpec)

/-- ITS FALSE NEIGHBOUR: 'it returns false'. Refute it at one input. -/
def rexFoldsWrong : ChangeSpec := { name := "rexFolds", fn := fun _ => fun
  | [d] => { results := [.lit (.bool false)], args := [d] }
  | _ => none }
def RexFoldsWrongFalsely : Prop := rexFoldsRow.holds Try.pinned (OpenSpec.ofChange rexFoldsWrong)

/- THE SECOND FORM. 'bulk': how many values and letters a reading holds, each counted each time it is reached (what is shared counts as often as it is met; a slice's spare places count too). A statement '..UptoSaid' is the law's where the arguments, and the package variables that the reading takes, are together of bulk at most 1048576: NARROWER than '..Said'. Prove '..Said' where nothing that the law and all that it calls make is longer than what came in: it says more and counts as full. Else prove '..UptoSaid'. A law counts once. -/
mutual
def uptoBulk {H : Type} : DataW H → Nat
  | .lit (.string bytes) => bytes.length + 1
  | .lit _ => 1
  | .nil => 1
  | .ptr d => uptoBulk d + 1
  | .slice elems spare => uptoBulkAll elems + uptoBulkAll spare + 1
  | .agg parts => uptoBulkAll parts + 1
  | .iface _ d => uptoBulk d + 1
  | .map entries => uptoBulkEntries entries + 1
  | .held _ => 1
def uptoBulkAll {H : Type} : List (DataW H) → Nat
  | [] => 0
  | d :: r => uptoBulk d + uptoBulkAll r
def uptoBulkEntries {H : Type} : List (Lit × DataW H) → Nat
  | [] => 0
  | x :: r => uptoBulkEntry x + uptoBulkEntries r
def uptoBulkEntry {H : Type} : Lit × DataW H → Nat
  | (.string bytes, d) => bytes.length + uptoBulk d + 1
  | (_, d) => uptoBulk d + 1
 end
def uptoSmall : (H : Type) → List (DataW H) → Bool := fun _ ds => decide (uptoBulkAll ds ≤ 1048576)
def OpenSpec.upto (s : _root_.Go.ChangeSpec) : _root_.Go.OpenSpec := { _root_.Go.OpenSpec.ofChange s with cond := some uptoSmall }

/-- 'quilllaw03.RexMakes', WHERE WHAT IT READS IS OF BULK AT MOST 1048576: true; the input reads as it did. -/
def rexMakesUptoRow : OpenClaim := { program := "ytbblhhkacdgmiaa", sum := "fda34976570de21d1fce1964d60afde07eb0404b64003d0bd4a0778686745600", func := "quill/quilllaw03.RexMakes", spec := "rexMakes", unfollowed := true, recurses := true, loops := true, apart := false, narrowed := true }
def RexMakesUptoSaid : Prop := rexMakesUptoRow.holds Try.pinned (OpenSpec.upto rexMakesSpec)

/-- 'quilllaw03.RexSame', WHERE WHAT IT READS IS OF BULK AT MOST 1048576: true; the input reads as it did. -/
def rexSameUptoRow : OpenClaim := { program := "ytbblhhkacdgmiaa", sum := "fda34976570de21d1fce1964d60afde07eb0404b64003d0bd4a0778686745600", func := "quill/quilllaw03.RexSame", spec := "rexSame", unfollowed := true, recurses := true, loops := true, apart := false, narrowed := true }
def RexSameUptoSaid : Prop := rexSameUptoRow.holds Try.pinned (OpenSpec.upto rexSameSpec)

/-- 'quilllaw03.RexFolds', WHERE WHAT IT READS IS OF BULK AT MOST 1048576: true; the input reads as it did. -/
def rexFoldsUptoRow : OpenClaim := { program := "ytbblhhkacdgmiaa", sum := "fda34976570de21d1fce1964d60afde07eb0404b64003d0bd4a0778686745600", func := "quill/quilllaw03.RexFolds", spec := "rexFolds", unfollowed := true, recurses := true, loops := true, apart := false, narrowed := true }
def RexFoldsUptoSaid : Prop := rexFoldsUptoRow.holds Try.pinned (OpenSpec.upto rexFoldsSpec)

end Rows
end Go.Proofs.Ytbblhhkacdgmiaa
