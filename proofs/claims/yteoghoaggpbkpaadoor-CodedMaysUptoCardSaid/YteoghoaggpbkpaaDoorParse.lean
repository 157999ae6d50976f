/- How a text is read as an expression, as far as it has neither classes nor escapes: plain. -/
import Derived.Test.YteoghoaggpbkpaaDoorWord
import Derived.Test.YteoghoaggpbkpaaDoorText1
namespace Go.Proofs.YteoghoaggpbkpaaDoor
set_option linter.unusedVariables false

/-- is the next byte one of some? -/
def isAt (s : List UInt8) (i : Nat) (cs : List UInt8) : Bool := match s[i]? with
  | some c => cs.contains c
  | none => false
/-- does a sign begin here? -/
def beginsAt (s : List UInt8) (i : Nat) : Bool := isAt s i [92] || match s[i]? with
  | some c => signB c == [c]
  | none => false
/-- the stars behind a part -/
def pStars (s : List UInt8) : Nat → Re → Nat → Option (Re × Nat)
  | 0, _, _ => none
  | f + 1, t, i => if isAt s i [42] then pStars s f (.mk ⟨6, S4.zero⟩ [t]) (i + 1) else some (t, i)
mutual
def pAtom (s : List UInt8) : Nat → Nat → Option (Re × Nat)
  | 0, _ => none
  | f + 1, i =>
    if isAt s i [46] then none
    else if isAt s i [91] then none
    else if isAt s i [40] then
      if isAt s (i + 1) [41] then none
      else match pAlt s f (i + 1) with
        | some (t, j) => if isAt s j [41] then some (t, j + 1) else none
        | none => none
    else match s[i]? with
      | some c => if c ≠ 92 ∧ signB c = [c] then some (leaf c, i + 1) else none
      | none => none
def pPart (s : List UInt8) : Nat → Nat → Option (Re × Nat)
  | 0, _ => none
  | f + 1, i => match pAtom s f i with
    | some (t, j) => pStars s f t j
    | none => none
/-- the parts behind the first one -/
def pParts (s : List UInt8) : Nat → List Re → Nat → Option (List Re × Nat)
  | 0, _, _ => none
  | f + 1, l, i => if isAt s i [46, 91, 40] || beginsAt s i then match pPart s f i with
      | some (t, j) => pParts s f (l ++ [t]) j
      | none => none
    else some (l, i)
def pRow (s : List UInt8) : Nat → Nat → Option (Re × Nat)
  | 0, _ => none
  | f + 1, i => match pPart s f i with
    | some (t, j) => match pParts s f [t] j with
      | some (l, k) => some (foldT 4 2 l, k)
      | none => none
    | none => none
/-- the rows behind the first one -/
def pRows (s : List UInt8) : Nat → List Re → Nat → Option (List Re × Nat)
  | 0, _, _ => none
  | f + 1, l, i => if isAt s i [124] then match pRow s f (i + 1) with
      | some (t, j) => pRows s f (l ++ [t]) j
      | none => none
    else some (l, i)
def pAlt (s : List UInt8) : Nat → Nat → Option (Re × Nat)
  | 0, _ => none
  | f + 1, i => match pRow s f i with
    | some (t, j) => match pRows s f [t] j with
      | some (l, k) => some (foldT 5 1 l, k)
      | none => none
    | none => none
end
end Go.Proofs.YteoghoaggpbkpaaDoor
