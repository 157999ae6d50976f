/- How a text is read as an expression, as far as it has neither classes nor escapes: plain. A region that draws its order, whose callees keep what was there: walked once, in the order of the text. The reader of texts: what stands next. The reader of texts: a sign; what a call that reads an expression leaves. The reader of texts: an atom. The reader of texts: a part. The reader of texts: a row, and all. The reader of texts: whole texts that are of the form. read.Read, of texts that are of the form (without classes and escapes), and may be. -/
import Derived.Test.YteokbmngebckjaaBd
import Derived.Test.YteokbmngebckjaaBb
import Derived.Test.YteokbmngebckjaaBa
import Derived.BigQuiet
import Derived.Test.YteokbmngebckjaaBc
import Derived.Test.YteokbmngebckjaaShelf
import Derived.Lib.IndexAny
import Derived.Laws.Strings2
import Derived.Deep.LoopGhost
import Derived.Defers
import Derived.Recover
namespace Go.Proofs.Yteokbmngebckjaa
set_option linter.unusedVariables false

/-- is the next byte one of some? -/
def isAt (s : List UInt8) (i : Nat) (cs : List UInt8) : Bool := match s[i]? with
  | some c => cs.contains c
  | none => false
/-- does a sign begin here? -/
def beginsAt (s : List UInt8) (i : Nat) : Bool := isAt s i [92] || match s[i]? with
  | some c => signB c == [c]
  | none => false
/-- the stars behind a part -/
def pStars (s : List UInt8) : Nat → Re → Nat → Option (Re × Nat)
  | 0, _, _ => none
  | f + 1, t, i => if isAt s i [42] then pStars s f (.mk ⟨6, S4.zero⟩ [t]) (i + 1) else some (t, i)
mutual
def pAtom (s : List UInt8) : Nat → Nat → Option (Re × Nat)
  | 0, _ => none
  | f + 1, i =>
    if isAt s i [46] then none
    else if isAt s i [91] then none
    else if isAt s i [40] then
      if isAt s (i + 1) [41] then none
      else match pAlt s f (i + 1) with
        | some (t, j) => if isAt s j [41] then some (t, j + 1) else none
        | none => none
    else match s[i]? with
      | some c => if c ≠ 92 ∧ signB c = [c] then some (leaf c, i + 1) else none
      | none => none
def pPart (s : List UInt8) : Nat → Nat → Option (Re × Nat)
  | 0, _ => none
  | f + 1, i => match pAtom s f i with
    | some (t, j) => pStars s f t j
    | none => none
/-- the parts behind the first one -/
def pParts (s : List UInt8) : Nat → List Re → Nat → Option (List Re × Nat)
  | 0, _, _ => none
  | f + 1, l, i => if isAt s i [46, 91, 40] || beginsAt s i then match pPart s f i with
      | some (t, j) => pParts s f (l ++ [t]) j
      | none => none
    else some (l, i)
def pRow (s : List UInt8) : Nat → Nat → Option (Re × Nat)
  | 0, _ => none
  | f + 1, i => match pPart s f i with
    | some (t, j) => match pParts s f [t] j with
      | some (l, k) => some (foldT 4 2 l, k)
      | none => none
    | none => none
/-- the rows behind the first one -/
def pRows (s : List UInt8) : Nat → List Re → Nat → Option (List Re × Nat)
  | 0, _, _ => none
  | f + 1, l, i => if isAt s i [124] then match pRow s f (i + 1) with
      | some (t, j) => pRows s f (l ++ [t]) j
      | none => none
    else some (l, i)
def pAlt (s : List UInt8) : Nat → Nat → Option (Re × Nat)
  | 0, _ => none
  | f + 1, i => match pRow s f i with
    | some (t, j) => match pRows s f [t] j with
      | some (l, k) => some (foldT 5 1 l, k)
      | none => none
    | none => none
end
end Go.Proofs.Yteokbmngebckjaa
namespace Go.Proofs.Yteokbmngebckjaa
open Go.RowKit
set_option linter.unusedVariables false

/-- a world in which all lies that lay in W -/
structure BelowBy (W : World) where
  w : World
  h : Below W.heap.size W w
noncomputable instance (W : World) : Inhabited (BelowBy W) := ⟨⟨W, Below.refl _ _⟩⟩
theorem wp_region_below {P : Program} {id : Nat} {Q : Exit → Act → World → Prop} {a : Act} {W w : World} {l : List Oper} (hm : P.follows .mixedOrders = true) (hB : Region.lexB .any l.toArray = true) (hw : Below W.heap.size W w)
    (h : wpQuiet P l.toArray (fun w' => ∃ p : BelowBy W, w' = p.w) (fun a' => ∀ w', (∃ p : BelowBy W, w' = p.w) → Q .normal a' w') l a) : (Code.region id l.toArray true).wp P Q a w :=
  wp_region_quiet (C := fun w' => ∃ p : BelowBy W, w' = p.w) hm hB ⟨⟨w.drew, hw.drew⟩, rfl⟩ (by simpa using h)
theorem Calls.below_of {P : Program} {f : FuncId} {args : Array Value} {W : World} {v : Value} {q : BelowBy W}
    (h : Calls P f args q.w fun e w' => e = .returned v ∧ Below q.w.heap.size q.w w') : Calls P f args q.w fun e w'' => e = .returned v ∧ ∃ p : BelowBy W, w'' = p.w :=
  h.mono fun _ w' ⟨he, hb⟩ => ⟨he, ⟨w', below_from q.h hb⟩, rfl⟩
theorem Calls.below_same {P : Program} {f : FuncId} {args : Array Value} {W : World} {v : Value} {q : BelowBy W}
    (h : Calls P f args q.w fun e w' => e = .returned v ∧ w' = q.w) : Calls P f args q.w fun e w'' => e = .returned v ∧ ∃ p : BelowBy W, w'' = p.w :=
  h.mono fun _ w' ⟨he, hb⟩ => ⟨he, q, hb⟩
theorem BelowBy.cell {W : World} {a : Addr} {v : Value} (h : W.cell? a = some v) (p : BelowBy W) : p.w.cell? a = some v := keep_cell p.h h
end Go.Proofs.Yteokbmngebckjaa
namespace Go.Proofs.Yteokbmngebckjaa
open Go.RowKit
set_option linter.unusedVariables false
set_option linter.unusedSimpArgs false

/-- a reader of a text, so far -/
def Rd (b : Nat) (S : ByteArray) (i : Nat) (w : World) : Prop := w.heap[b]? = some (.cells #[.string S, .int .i64 (i : Int)] 89 (0, 0))
theorem Rd.cells {b : Nat} {S : ByteArray} {i : Nat} {w : World} (h : Rd b S i w) : w.cell? ⟨b, 0, none⟩ = some (.string S) ∧ w.cell? ⟨b, 1, none⟩ = some (.int .i64 (i : Int)) ∧ w.frozen? ⟨b, 1, none⟩ = false := by
  unfold Rd at h
  refine ⟨?_, ?_, ?_⟩ <;> simp [World.cell?, World.frozen?, h]
theorem Rd.keep {b : Nat} {S : ByteArray} {i : Nat} {w w' : World} (h : Rd b S i w) (hb : Below w.heap.size w w') : Rd b S i w' := (hb.block _ (lt_of_block h)).trans h
theorem index_in (l : List UInt8) (x : UInt8) : decide (0 ≤ Lib.indexByte l ((x.toNat : Int)).toNat.toUInt8) = l.contains x := by
  have e : ((x.toNat : Int)).toNat.toUInt8 = x := by simp
  rw [e]
  exact (Lib.contains_iff_indexByte l x).symm
theorem isAt_yes {S : ByteArray} {i : Nat} (h : i < S.size) (cs : List UInt8) : isAt S.data.toList i cs = cs.contains (S[i]'h) := by
  unfold isAt
  rw [text_at S i h]
theorem isAt_no {S : ByteArray} {i : Nat} (h : ¬ i < S.size) (cs : List UInt8) : isAt S.data.toList i cs = false := by
  unfold isAt
  rw [List.getElem?_eq_none (by rw [text_len]; omega)]

set_option maxRecDepth 100000 in
set_option maxHeartbeats 1000000 in
theorem is_any {b : Nat} {S : ByteArray} {i : Nat} {w : World} (cs : List UInt8) (hs : S.size ≤ 65536) (h : Rd b S i w) (hi : i ≤ S.size) :
    Calls Try.prog 99 #[.pointer (some ⟨b, 0, none⟩), .string (str cs)] w fun e w' => e = .returned (.bool (isAt S.data.toList i cs)) ∧ Below w.heap.size w w' := by
  obtain ⟨x0, x1, _⟩ := h.cells
  have f0 := fun q : BelowBy w => BelowBy.cell x0 q
  have f1 := fun q : BelowBy w => BelowBy.cell x1 q
  by_cases hlt : i < S.size
  · have g : decide ((i : Int) < (S.size : Int)) = true := by simp; omega
    have HI := Lib.hid (isAt_yes hlt cs)
    have hix := index_in cs (S[i]'hlt)
    have HX := Lib.hid (fun X => Try.strings_IndexByte (str cs) ((S[i]'hlt).toNat : Int) X)
    have hcs : (str cs).data.toList = cs := by simp
    rw [hcs] at HX
    generalize Lib.indexByte cs (((S[i]'hlt).toNat : Int)).toNat.toUInt8 = ix at *
    generalize cs.contains (S[i]'hlt) = bb at *
    go_enter Try.func99, Try.ntmps99
    go_wp2_with fail
    refine wp_region_below (by kernel_rfl) (by kernel_rfl) (Below.refl _ _) ?_
    repeat (go_big_quiet_step ((go_at_call 76; exact Calls.below_same (HX.out _))))
    refine wpQuiet_nil ?_
    intro _ hw1
    obtain ⟨⟨wq, hq⟩, hw2⟩ := hw1
    subst hw2
    go_wp2_with fail
    go_ret
    exact ⟨by rw [HI.out, ← hix]; rfl, hq⟩
  · have g : decide ((i : Int) < (S.size : Int)) = false := by simp; omega
    have HI := Lib.hid (isAt_no hlt cs)
    go_enter Try.func99, Try.ntmps99
    go_wp2_with fail
    refine wp_region_below (by kernel_rfl) (by kernel_rfl) (Below.refl _ _) ?_
    repeat (go_big_quiet_step (fail))
    refine wpQuiet_nil ?_
    intro _ hw1
    obtain ⟨⟨wq, hq⟩, hw2⟩ := hw1
    subst hw2
    go_wp2_with fail
    go_ret
    exact ⟨by rw [HI.out]; rfl, hq⟩

theorem run_cut {S : ByteArray} {i : Nat} (h : i < S.size) : ∀ w : World, (Instr.slice 9 (.string S) (some (.int .i64 (i : Int))) (some (.int .i64 ((i : Int) + 1))) none).run Try.prog w = .ok (.string (str [S[i]'h])) w := by
  intro w
  have e : str [S[i]'h] = S.extract ((i : Int)).toNat ((i : Int) + 1).toNat := by
    have h1 : S = str S.data.toList := by cases S; rfl
    rw [show ((i : Int)).toNat = i by omega, show ((i : Int) + 1).toNat = i + 1 by omega]
    conv => rhs; rw [h1]
    rw [ByteArray.extract_mk]
    have h2 : S.data.toList.drop i = S[i]'h :: S.data.toList.drop (i + 1) := by
      have hl : i < S.data.toList.length := by rw [text_len]; exact h
      rw [List.drop_eq_getElem_cons hl]
      rfl
    rw [h2, show i + 1 - i = 1 by omega]
    rfl
  rw [e]
  exact run_slice_string w 9 S .i64 .i64 (i : Int) ((i : Int) + 1) Try.underlying9 (by omega) (by omega) (by omega)
theorem begins_at {S : ByteArray} {i : Nat} (h : i < S.size) : beginsAt S.data.toList i = (isAt S.data.toList i [92] || signB (S[i]'h) == [S[i]'h]) := by
  unfold beginsAt
  rw [text_at S i h]
theorem begins_no {S : ByteArray} {i : Nat} (h : ¬ i < S.size) : beginsAt S.data.toList i = false := by
  unfold beginsAt isAt
  rw [List.getElem?_eq_none (by rw [text_len]; omega)]
  rfl
set_option maxRecDepth 100000 in
set_option maxHeartbeats 1000000 in
theorem begins_any {b : Nat} {S : ByteArray} {i : Nat} {w : World} (hs : S.size ≤ 65536) (h : Rd b S i w) (hi : i ≤ S.size) :
    Calls Try.prog 106 #[.pointer (some ⟨b, 0, none⟩)] w fun e w' => e = .returned (.bool (beginsAt S.data.toList i)) ∧ Below w.heap.size w w' := by
  obtain ⟨x0, x1, _⟩ := h.cells
  have f0 := fun q : BelowBy w => BelowBy.cell x0 q
  have f1 := fun q : BelowBy w => BelowBy.cell x1 q
  have HI : Hid (∀ q : BelowBy w, Calls Try.prog 99 #[.pointer (some ⟨b, 0, none⟩), .string (str [92])] q.w fun e w' => e = .returned (.bool (isAt S.data.toList i [92])) ∧ Below q.w.heap.size q.w w') := fun q => is_any [92] hs (h.keep q.h) hi
  by_cases hlt : i < S.size
  · have g : decide ((i : Int) < (S.size : Int)) = true := by simp; omega
    have HX := Lib.hid (fun X => setSign_any (S[i]'hlt) X)
    have HB := Lib.hid (begins_at hlt)
    have hct := run_cut hlt
    generalize signB (S[i]'hlt) = sg at *
    rcases h92 : isAt S.data.toList i [92] with _ | _
    · rw [h92] at HI HB
      go_enter Try.func106, Try.ntmps106
      go_wp2_with fail
      refine wp_region_below (by kernel_rfl) (by kernel_rfl) (Below.refl _ _) ?_
      repeat (go_big_quiet_step (first | (go_at_call 99; exact Calls.below_of (HI.out _)) | (go_at_call 55; exact Calls.below_of (HX.out _))))
      refine wpQuiet_nil ?_
      intro _ hw1
      obtain ⟨⟨wq, hq⟩, hw2⟩ := hw1
      subst hw2
      go_wp2_with fail
      go_ret
      exact ⟨by rw [HB.out]; rfl, hq⟩
    · rw [h92] at HI HB
      go_enter Try.func106, Try.ntmps106
      go_wp2_with fail
      refine wp_region_below (by kernel_rfl) (by kernel_rfl) (Below.refl _ _) ?_
      repeat (go_big_quiet_step (first | (go_at_call 99; exact Calls.below_of (HI.out _)) | (go_at_call 55; exact Calls.below_of (HX.out _))))
      refine wpQuiet_nil ?_
      intro _ hw1
      obtain ⟨⟨wq, hq⟩, hw2⟩ := hw1
      subst hw2
      go_wp2_with fail
      go_ret
      exact ⟨by rw [HB.out]; rfl, hq⟩
  · have g : decide ((i : Int) < (S.size : Int)) = false := by simp; omega
    have HB := Lib.hid (begins_no hlt)
    rw [isAt_no hlt] at HI
    go_enter Try.func106, Try.ntmps106
    go_wp2_with fail
    refine wp_region_below (by kernel_rfl) (by kernel_rfl) (Below.refl _ _) ?_
    repeat (go_big_quiet_step ((go_at_call 99; exact Calls.below_of (HI.out _))))
    refine wpQuiet_nil ?_
    intro _ hw1
    obtain ⟨⟨wq, hq⟩, hw2⟩ := hw1
    subst hw2
    go_wp2_with fail
    go_ret
    exact ⟨by rw [HB.out]; rfl, hq⟩
end Go.Proofs.Yteokbmngebckjaa
namespace Go.Proofs.Yteokbmngebckjaa
open Go.RowKit
set_option linter.unusedVariables false
set_option linter.unusedSimpArgs false

theorem grown_refl (w : World) (r : Option Nat) : w.grownBy w r := ⟨rfl, rfl, rfl, Nat.le_refl _, fun _ _ _ => rfl⟩
theorem grown_below {w x y : World} {r : Option Nat} (h : w.grownBy x r) (hb : Below x.heap.size x y) : w.grownBy y r :=
  ⟨hb.os.trans h.os, hb.tape.trans h.tape, hb.output.trans h.output, Nat.le_trans h.size hb.size, fun k hk hr => (hb.block k (Nat.lt_of_lt_of_le hk h.size)).trans (h.block k hk hr)⟩
theorem grown_trans {w x y : World} {r : Option Nat} (h : w.grownBy x r) (k : x.grownBy y r) : w.grownBy y r :=
  ⟨k.os.trans h.os, k.tape.trans h.tape, k.output.trans h.output, Nat.le_trans h.size k.size, fun j hj hr => (k.block j (Nat.lt_of_lt_of_le hj h.size) hr).trans (h.block j hj hr)⟩
theorem grown_set {w x : World} {b : Nat} (h : w.grownBy x (some b)) (p : Addr) (v : Value) (hp : w.heap.size ≤ p.block ∨ p.block = b) : w.grownBy (x.setCell p v) (some b) :=
  ⟨h.os, h.tape, h.output, by simpa using h.size, fun k hk hr => (Below.heap_setCell _ _ _ _ (by rintro rfl; rcases hp with hp | hp; exact absurd hk (by omega); exact hr (by rw [hp]))).trans (h.block k hk hr)⟩
theorem row_set {w : World} {ok : Nat → Prop} {ks : List Re} {A : Option Addr} {i : Nat} (h : InRow RE ok w ks A i) (p : Addr) (v : Value) (hp : ∀ x, ok x → x ≠ p.block) : InRow RE ok (w.setCell p v) ks A i :=
  h.keep (fun _ h => h) fun a u ha hu => (World.cell?_of_block (Below.heap_setCell _ _ _ _ (hp _ ha))).trans hu
theorem row_six {w : World} {ok : Nat → Prop} {ks : List Re} {A : Option Addr} {i : Nat} {b : Nat} {u0 u1 u2 u3 u4 u5 : Value} (h : InRow RE ok w ks A i) (hp : ∀ x, ok x → x ≠ b) :
    InRow RE ok ((((((w.setCell ⟨b, 0, none⟩ u0).setCell ⟨b, 1, none⟩ u1).setCell ⟨b, 2, none⟩ u2).setCell ⟨b, 3, none⟩ u3).setCell ⟨b, 4, none⟩ u4).setCell ⟨b, 5, none⟩ u5) ks A i :=
  h.keep (fun _ h => h) fun a u ha hu => (World.cell?_of_block (six_other (hp _ ha))).trans hu
theorem grown_six {w x : World} {b c : Nat} {u0 u1 u2 u3 u4 u5 : Value} (h : w.grownBy x (some b)) (hc : w.heap.size ≤ c) :
    w.grownBy ((((((x.setCell ⟨c, 0, none⟩ u0).setCell ⟨c, 1, none⟩ u1).setCell ⟨c, 2, none⟩ u2).setCell ⟨c, 3, none⟩ u3).setCell ⟨c, 4, none⟩ u4).setCell ⟨c, 5, none⟩ u5) (some b) :=
  grown_set (grown_set (grown_set (grown_set (grown_set (grown_set h _ _ (.inl hc)) _ _ (.inl hc)) _ _ (.inl hc)) _ _ (.inl hc)) _ _ (.inl hc)) _ _ (.inl hc)
theorem Rd.step {b : Nat} {S : ByteArray} {i : Nat} {w : World} (h : Rd b S i w) : Rd b S (i + 1) (w.setCell ⟨b, 1, none⟩ (.int .i64 ((i : Int) + 1))) := by
  unfold Rd at h ⊢
  simp [World.setCell, Array.getElem?_modify, h]
theorem Rd.lt {b : Nat} {S : ByteArray} {i : Nat} {w : World} (h : Rd b S i w) : b < w.heap.size := lt_of_block h
theorem Rd.six {b c : Nat} {S : ByteArray} {i : Nat} {w : World} {u0 u1 u2 u3 u4 u5 : Value} (h : Rd b S i w) (hc : b ≠ c) :
    Rd b S i ((((((w.setCell ⟨c, 0, none⟩ u0).setCell ⟨c, 1, none⟩ u1).setCell ⟨c, 2, none⟩ u2).setCell ⟨c, 3, none⟩ u3).setCell ⟨c, 4, none⟩ u4).setCell ⟨c, 5, none⟩ u5) := (six_other hc).trans h
/-- what a call that reads an expression leaves -/
def RPost (b : Nat) (S : ByteArray) (t : Re) (j : Nat) (w : World) (e : Ending) (w' : World) : Prop :=
  ∃ h ks A c, e = .returned (reV h A ks.length c) ∧ t = .mk h ks ∧ ks.length ≤ c ∧ InRow RE (fun x => w.heap.size ≤ x) w' ks A 0 ∧ Rd b S j w' ∧ w.grownBy w' (some b)

set_option maxRecDepth 100000 in
set_option maxHeartbeats 1000000 in
theorem sign_any_r {b : Nat} {S : ByteArray} {i : Nat} {w : World} (hs : S.size ≤ 65536) (h : Rd b S i w) (hi : i < S.size) (h92 : S[i]'hi ≠ 92) (hsg : signB (S[i]'hi) = [S[i]'hi]) :
    Calls Try.prog 117 #[.pointer (some ⟨b, 0, none⟩)] w fun e w' => e = .returned (.int .u8 ((S[i]'hi).toNat : Int)) ∧ Rd b S (i + 1) w' ∧ w.grownBy w' (some b) := by
  have HB := Lib.hid (begins_any hs h (Nat.le_of_lt hi))
  have hbt : beginsAt S.data.toList i = true := by rw [begins_at hi, hsg]; simp
  rw [hbt] at HB
  have g : (((S[i]'hi).toNat : Int) != 92) = true := by
    rw [bne_iff_ne]
    intro e
    exact h92 (UInt8.toNat_inj.1 (by rw [show (92 : UInt8).toNat = 92 from rfl]; omega))
  have hlt : decide ((i : Int) < (S.size : Int)) = true := by simp; omega
  have HR := Lib.hid h
  clear h h92 hsg hbt
  go_enter Try.func117, Try.ntmps117
  go_wp2_with fail
  refine HB.out.mono ?_
  rintro e w1 ⟨rfl, hb1⟩
  have HR1 := Lib.hid (HR.out.keep hb1)
  have HG1 := Lib.hid (grown_below (grown_refl w (some b)) hb1)
  obtain ⟨x0, x1, f1⟩ := HR1.out.cells
  clear hb1 HB
  go_wp2_with fail
  go_quiet (fail)
  obtain ⟨y0, y1, fy1⟩ : (w1.drewN nq).cell? ⟨b, 0, none⟩ = some (.string S) ∧ (w1.drewN nq).cell? ⟨b, 1, none⟩ = some (.int .i64 (i : Int)) ∧ (w1.drewN nq).frozen? ⟨b, 1, none⟩ = false := ⟨x0, x1, f1⟩
  have HR2 : Hid (Rd b S i (w1.drewN nq)) := HR1.out
  have HG2 : Hid (w.grownBy (w1.drewN nq) (some b)) := ⟨HG1.out.os, HG1.out.tape, HG1.out.output, HG1.out.size, HG1.out.block⟩
  generalize w1.drewN nq = w2 at *
  go_wp2_with fail
  go_ret
  exact ⟨rfl, HR2.out.step, grown_set HG2.out _ _ (.inr rfl)⟩
end Go.Proofs.Yteokbmngebckjaa
namespace Go.Proofs.Yteokbmngebckjaa
open Go.RowKit
set_option linter.unusedVariables false
set_option linter.unusedSimpArgs false

theorem grown_drewN {w x : World} {r : Option Nat} (h : w.grownBy x r) (n : Nat) : w.grownBy (x.drewN n) r := ⟨h.os, h.tape, h.output, h.size, h.block⟩
theorem grown_alloc {w x : World} {r : Option Nat} (h : w.grownBy x r) (o : Obj) : w.grownBy (x.alloc o) r := grown_below h (below_new (Below.refl _ _) o)
/-- what lies ahead of an alloc -/
theorem grown_from {w x : World} {r : Option Nat} {o : Obj} (h : (w.alloc o).grownBy x r) : w.grownBy x r := grown_trans (grown_alloc (grown_refl w r) o) h
abbrev reZ : Array Value := #[.int .u8 0, .int .u64 0, .int .u64 0, .int .u64 0, .int .u64 0, .slice none 0 0]
/-- the reading of atoms, parts, rows, all: what is to be shown -/
def ROk (f : FuncId) (p : List UInt8 → Nat → Nat → Option (Re × Nat)) (S : ByteArray) (n : Nat) : Prop :=
  ∀ (i : Nat) (t : Re) (j b : Nat) (w : World), p S.data.toList n i = some (t, j) → i ≤ S.size → Rd b S i w → j ≤ S.size ∧ Calls Try.prog f #[.pointer (some ⟨b, 0, none⟩)] w (RPost b S t j w)

set_option maxRecDepth 100000 in
set_option maxHeartbeats 1000000 in
theorem eat_any {b : Nat} {S : ByteArray} {i : Nat} {w : World} (cs : List UInt8) (hs : S.size ≤ 65536) (h : Rd b S i w) (hi : i ≤ S.size) (hat : isAt S.data.toList i cs = true) :
    Calls Try.prog 115 #[.pointer (some ⟨b, 0, none⟩), .string (str cs)] w fun e w' => e = .returned (.tuple #[]) ∧ Rd b S (i + 1) w' ∧ w.grownBy w' (some b) := by
  have HI := Lib.hid (is_any cs hs h hi)
  rw [hat] at HI
  have HR := Lib.hid h
  clear h
  go_enter Try.func115, Try.ntmps115
  go_wp2_with fail
  refine HI.out.mono ?_
  rintro e w1 ⟨rfl, hb1⟩
  have HR1 := Lib.hid (HR.out.keep hb1)
  have HG1 := Lib.hid (grown_below (grown_refl w (some b)) hb1)
  obtain ⟨x0, x1, f1⟩ := HR1.out.cells
  clear hb1 HI
  go_wp2_with fail
  first | go_end0 | refine bodyPost_ret (results_none rfl _ _ _) rfl ?_
  exact ⟨rfl, HR1.out.step, grown_set HG1.out _ _ (.inr rfl)⟩

theorem isAt_in {S : ByteArray} {i : Nat} {cs : List UInt8} (h : isAt S.data.toList i cs = true) : i < S.size := by
  rcases Nat.lt_or_ge i S.size with h1 | h1
  · exact h1
  · rw [isAt_no (by omega)] at h; cases h
set_option maxRecDepth 100000 in
set_option maxHeartbeats 4000000 in
theorem atom_step {S : ByteArray} (hs : S.size ≤ 65536) (n : Nat) (HA : ROk 83 pAlt S n) : ROk 109 pAtom S (n + 1) := by
  intro i t j b w hp hi hr
  simp only [pAtom] at hp
  rcases h46 : isAt S.data.toList i [46] with _ | _
  case true => rw [h46] at hp; simp at hp
  rcases h91 : isAt S.data.toList i [91] with _ | _
  case true => rw [h46, h91] at hp; simp at hp
  rw [h46, h91] at hp
  have hlt := hr.lt
  have hbw := below_new (Below.refl w.heap.size w) (.cells reZ 34)
  have HR0 := Lib.hid (hr.keep hbw)
  have HE0 := Lib.hid (new_at1 (w := w) (.cells reZ 34))
  have HG0 := Lib.hid (grown_alloc (grown_refl w (some b)) (.cells reZ 34))
  have I46 : Hid (∀ X, Rd b S i X → Calls Try.prog 99 #[.pointer (some ⟨b, 0, none⟩), .string (str [46])] X fun e w' => e = .returned (.bool false) ∧ Below X.heap.size X w') := fun X h => by have := is_any [46] hs h hi; rwa [h46] at this
  have I91 : Hid (∀ X, Rd b S i X → Calls Try.prog 99 #[.pointer (some ⟨b, 0, none⟩), .string (str [91])] X fun e w' => e = .returned (.bool false) ∧ Below X.heap.size X w') := fun X h => by have := is_any [91] hs h hi; rwa [h91] at this
  rcases h40 : isAt S.data.toList i [40] with _ | _
  · -- a sign
    rw [h40] at hp
    have I40 : Hid (∀ X, Rd b S i X → Calls Try.prog 99 #[.pointer (some ⟨b, 0, none⟩), .string (str [40])] X fun e w' => e = .returned (.bool false) ∧ Below X.heap.size X w') := fun X h => by have := is_any [40] hs h hi; rwa [h40] at this
    rcases Nat.lt_or_ge i S.size with hin | hin
    case inr => rw [List.getElem?_eq_none (by rw [text_len]; omega)] at hp; simp at hp
    rw [text_at S i hin] at hp
    by_cases hc : S[i]'hin ≠ 92 ∧ signB (S[i]'hin) = [S[i]'hin]
    case neg => simp [hc] at hp
    simp only [Bool.false_eq_true, if_false, if_pos hc, Option.some.injEq, Prod.mk.injEq] at hp
    obtain ⟨rfl, rfl⟩ := hp
    have CS := Lib.hid (fun X (h : Rd b S i X) => sign_any_r hs h hin hc.1 hc.2)
    refine ⟨hin, ?_⟩
    have SO : Hid (∀ X, Calls Try.prog 116 #[.slice (some ⟨X.heap.size, 0, none⟩) 1 1] (X.alloc (.cells #[encB (S[i]'hin)] 5)) fun e w' => e = .returned (setV (setOf [S[i]'hin])) ∧ Below X.heap.size X w') := fun X => (setOf_any [S[i]'hin] _ 1 _ (by simp) (Nat.le_refl _) (new_row encB X [S[i]'hin] _ _ rfl)).mono fun e w' h => ⟨h.1, below_from (below_new (Below.refl _ _) _) h.2⟩
    have RO := Lib.hid (rexOf_any (setOf [S[i]'hin]))
    have hleaf : leaf (S[i]'hin) = .mk (ofH (setOf [S[i]'hin])) [] := rfl
    have HL := Lib.hid hleaf
    generalize setOf [S[i]'hin] = so at *
    clear hleaf hr hbw h46 h91 h40 hc
    go_enter Try.func109, Try.ntmps109
    go_wp2_with fail
    refine (I46.out _ HR0.out).mono ?_
    rintro e w1 ⟨rfl, hb1⟩
    have HR1 := Lib.hid (HR0.out.keep hb1)
    have HE1 := Lib.hid ((hb1.block _ (lt_of_block HE0.out)).trans HE0.out)
    have HG1 := Lib.hid (grown_below HG0.out hb1)
    clear hb1 HR0 HE0 HG0
    go_wp2_with fail
    refine (I91.out _ HR1.out).mono ?_
    rintro e w2 ⟨rfl, hb1⟩
    have HR2 := Lib.hid (HR1.out.keep hb1)
    have HE2 := Lib.hid ((hb1.block _ (lt_of_block HE1.out)).trans HE1.out)
    have HG2 := Lib.hid (grown_below HG1.out hb1)
    clear hb1 HR1 HE1 HG1
    go_wp2_with fail
    refine (I40.out _ HR2.out).mono ?_
    rintro e w3 ⟨rfl, hb1⟩
    have HR3 := Lib.hid (HR2.out.keep hb1)
    have HE3 := Lib.hid ((hb1.block _ (lt_of_block HE2.out)).trans HE2.out)
    have HG3 := Lib.hid (grown_below HG2.out hb1)
    clear hb1 HR2 HE2 HG2
    go_wp2_with fail
    refine (CS.out _ HR3.out).mono ?_
    rintro e w4 ⟨rfl, hr4, hg4⟩
    have HE4 := Lib.hid ((hg4.block _ (lt_of_block HE3.out) (by simp; omega)).trans HE3.out)
    have HG4 := Lib.hid (grown_trans HG3.out hg4)
    have HR4 := Lib.hid hr4
    clear hr4 hg4 HR3 HE3 HG3
    go_wp2_with fail
    refine (SO.out _).mono ?_
    rintro e w5 ⟨rfl, hb1⟩
    have HR5 := Lib.hid (HR4.out.keep hb1)
    have HE5 := Lib.hid ((hb1.block _ (lt_of_block HE4.out)).trans HE4.out)
    have HG5 := Lib.hid (grown_below HG4.out hb1)
    clear hb1 HR4 HE4 HG4
    go_wp2_with fail
    refine (RO.out _).mono ?_
    rintro e w6 ⟨rfl, hb1⟩
    have HR6 := Lib.hid (HR5.out.keep hb1)
    have e6 := (hb1.block _ (lt_of_block HE5.out)).trans HE5.out
    have HG6 := Lib.hid (grown_below HG5.out hb1)
    clear hb1 HR5 HE5 HG5
    obtain ⟨⟨x0, x1, x2, x3, x4, x5⟩, f0, f1, f2, f3, f4, f5⟩ := re_cells e6
    go_wp2_with fail
    refine bodyPost_ret (v := reV (ofH so) none 0 0) (by simp [results, Try.results109, go_sem, x0, x1, x2, x3, x4, x5]) rfl ⟨ofH so, [], none, 0, rfl, HL.out, Nat.le_refl _, by simp [InRow], HR6.out.six (by omega), grown_six HG6.out (Nat.le_refl _)⟩
  · -- brackets
    rw [h40] at hp
    have hin := isAt_in h40
    have I40 : Hid (∀ X, Rd b S i X → Calls Try.prog 99 #[.pointer (some ⟨b, 0, none⟩), .string (str [40])] X fun e w' => e = .returned (.bool true) ∧ Below X.heap.size X w') := fun X h => by have := is_any [40] hs h hi; rwa [h40] at this
    rcases h41 : isAt S.data.toList (i + 1) [41] with _ | _
    case true => rw [h41] at hp; simp at hp
    rw [h41] at hp
    have I41 : Hid (∀ X, Rd b S (i + 1) X → Calls Try.prog 99 #[.pointer (some ⟨b, 0, none⟩), .string (str [41])] X fun e w' => e = .returned (.bool false) ∧ Below X.heap.size X w') := fun X h => by have := is_any [41] hs h (show i + 1 ≤ S.size from hin); rwa [h41] at this
    rcases ha : pAlt S.data.toList n (i + 1) with _ | ⟨t1, j1⟩
    case none => rw [ha] at hp; simp at hp
    rw [ha] at hp
    rcases hj : isAt S.data.toList j1 [41] with _ | _
    case false => simp [hj] at hp
    simp only [Bool.false_eq_true, if_false, if_true, hj, Option.some.injEq, Prod.mk.injEq] at hp
    obtain ⟨rfl, rfl⟩ := hp
    refine ⟨isAt_in hj, ?_⟩
    have CA := Lib.hid (fun X (h : Rd b S (i + 1) X) => HA (i + 1) t1 j1 b X ha hin h)
    have CE := Lib.hid (fun X (h : Rd b S j1 X) => eat_any [41] hs h (Nat.le_of_lt (isAt_in hj)) hj)
    clear hr hbw h46 h91 h40 h41 ha hj HA
    go_enter Try.func109, Try.ntmps109
    go_wp2_with fail
    refine (I46.out _ HR0.out).mono ?_
    rintro e w1 ⟨rfl, hb1⟩
    have HR1 := Lib.hid (HR0.out.keep hb1)
    have HE1 := Lib.hid ((hb1.block _ (lt_of_block HE0.out)).trans HE0.out)
    have HG1 := Lib.hid (grown_below HG0.out hb1)
    clear hb1 HR0 HE0 HG0
    go_wp2_with fail
    refine (I91.out _ HR1.out).mono ?_
    rintro e w2 ⟨rfl, hb1⟩
    have HR2 := Lib.hid (HR1.out.keep hb1)
    have HE2 := Lib.hid ((hb1.block _ (lt_of_block HE1.out)).trans HE1.out)
    have HG2 := Lib.hid (grown_below HG1.out hb1)
    clear hb1 HR1 HE1 HG1
    go_wp2_with fail
    refine (I40.out _ HR2.out).mono ?_
    rintro e w3 ⟨rfl, hb1⟩
    have HR3 := Lib.hid (HR2.out.keep hb1)
    have HE3 := Lib.hid ((hb1.block _ (lt_of_block HE2.out)).trans HE2.out)
    have HG3 := Lib.hid (grown_below HG2.out hb1)
    obtain ⟨x0, x1, f1⟩ := HR3.out.cells
    have HR4 := Lib.hid HR3.out.step
    have HE4 : Hid ((w3.setCell ⟨b, 1, none⟩ (.int .i64 ((i : Int) + 1))).heap[w.heap.size]? = _) := (Below.heap_setCell _ _ _ _ (by show w.heap.size ≠ b; omega)).trans HE3.out
    have HG4 := Lib.hid (grown_set HG3.out ⟨b, 1, none⟩ (.int .i64 ((i : Int) + 1)) (.inr rfl))
    clear hb1 HR2 HE2 HG2 HE3 HG3 HR3
    go_wp2_with fail
    refine (I41.out _ HR4.out).mono ?_
    rintro e w5 ⟨rfl, hb1⟩
    have HR5 := Lib.hid (HR4.out.keep hb1)
    have HE5 := Lib.hid ((hb1.block _ (lt_of_block HE4.out)).trans HE4.out)
    have HG5 := Lib.hid (grown_below HG4.out hb1)
    clear hb1 HR4 HE4 HG4 x0 x1 f1
    go_wp2_with fail
    refine (CA.out _ HR5.out).2.mono ?_
    rintro e w6 ⟨h1, k1, A1, c1, rfl, et, hc1, hr1, hr6, hg6⟩
    have HS5 := HG5.out.size
    have hlt5 := lt_of_block HE5.out
    have HT := Lib.hid et
    have HC1 := Lib.hid hc1
    have hg7 := grown_alloc hg6 (.cells (reA h1 A1 k1.length c1) 34)
    have HE7 := Lib.hid ((hg7.block _ hlt5 (by simp; omega)).trans HE5.out)
    have HG7 := Lib.hid (grown_trans HG5.out hg7)
    have HR7 := Lib.hid (hr6.keep (below_new (Below.refl _ _) (.cells (reA h1 A1 k1.length c1) 34)))
    have HW7 := Lib.hid (hr1.below (below_new (Below.refl _ _) (.cells (reA h1 A1 k1.length c1) 34)))
    have HB7 := Lib.hid (new_at1 (w := w6) (.cells (reA h1 A1 k1.length c1) 34))
    have hb6 := hr6.lt
    have hs6 := hg6.size
    clear et hc1 hr1 hr6 hg6 hg7 HR5 HE5 HG5
    go_wp2_with fail
    refine (CE.out _ HR7.out).mono ?_
    rintro e w8 ⟨rfl, hr8, hg8⟩
    have hb8 := (hg8.block _ (lt_of_block HB7.out) (by simp; omega)).trans HB7.out
    have he8 := (hg8.block _ (lt_of_block HE7.out) (by simp; omega)).trans HE7.out
    have HG8 := Lib.hid (grown_trans HG7.out hg8)
    have HW8 := Lib.hid (HW7.out.grown hg8 (fun x hx e => by simp at e; omega))
    have HR8 := Lib.hid hr8
    obtain ⟨⟨x0, x1, x2, x3, x4, x5⟩, _⟩ := re_cells hb8
    obtain ⟨⟨y0, y1, y2, y3, y4, y5⟩, f0, f1, f2, f3, f4, f5⟩ := re_cells he8
    clear hr8 hg8 hb8 he8 HR7 HE7 HG7 HW7 HB7
    go_wp2_with fail
    refine bodyPost_ret (v := reV h1 A1 k1.length c1) (by simp [results, Try.results109, go_sem, y0, y1, y2, y3, y4, y5]) rfl ⟨h1, k1, A1, c1, rfl, HT.out, HC1.out, (row_six HW8.out fun x hx => by omega).weak fun x hx => by omega, HR8.out.six (by omega), grown_six HG8.out (Nat.le_refl _)⟩
end Go.Proofs.Yteokbmngebckjaa
namespace Go.Proofs.Yteokbmngebckjaa
open Go.RowKit
set_option linter.unusedVariables false
set_option linter.unusedSimpArgs false

theorem pStars_le (s : List UInt8) : ∀ (f : Nat) (t : Re) (i : Nat) (T : Re) (J : Nat), pStars s f t i = some (T, J) → i ≤ s.length → J ≤ s.length
  | 0, t, i, T, J, h, _ => by simp [pStars] at h
  | f + 1, t, i, T, J, h, hi => by
    simp only [pStars] at h
    split at h
    · rename_i h42
      refine pStars_le s f _ _ T J h ?_
      unfold isAt at h42
      rcases Nat.lt_or_ge i s.length with h1 | h1
      · exact h1
      · rw [List.getElem?_eq_none h1] at h42; cases h42
    · simp only [Option.some.injEq, Prod.mk.injEq] at h
      omega

set_option maxRecDepth 100000 in
set_option maxHeartbeats 4000000 in
theorem part_step {S : ByteArray} (hs : S.size ≤ 65536) (n : Nat) (HA : ROk 109 pAtom S n) : ROk 105 pPart S (n + 1) := by
  intro i T J b w hp hi hr
  simp only [pPart] at hp
  rcases ha : pAtom S.data.toList n i with _ | ⟨t0, j0⟩
  case none => rw [ha] at hp; simp at hp
  rw [ha] at hp
  simp only at hp
  have hbw := below_new (Below.refl w.heap.size w) (.cells reZ 34)
  have HR0 := Lib.hid (hr.keep hbw)
  have HE0 := Lib.hid (new_at1 (w := w) (.cells reZ 34))
  have HG0 := Lib.hid (grown_alloc (grown_refl w (some b)) (.cells reZ 34))
  have hlt := hr.lt
  have hj0 := (HA i t0 j0 b _ ha hi HR0.out).1
  refine ⟨by rw [← text_len]; exact pStars_le _ _ _ _ _ _ hp (by rw [text_len]; exact hj0), ?_⟩
  have CA := Lib.hid (HA i t0 j0 b _ ha hi HR0.out).2
  have HP := Lib.hid hp
  clear hp ha HA hr hbw HR0
  go_enter Try.func105, Try.ntmps105
  go_wp2_with fail
  refine CA.out.mono ?_
  rintro e w1 ⟨h1, k1, A1, c1, rfl, et, hc1, hr1, hrd1, hg1⟩
  obtain ⟨bx, hbx⟩ : ∃ bx, w1.heap.size = bx := ⟨_, rfl⟩
  have hsz1 := hg1.size
  rw [World.size_alloc] at hsz1
  have HG1 := Lib.hid (grown_alloc (grown_trans HG0.out hg1) (.cells (reA h1 A1 k1.length c1) 34))
  have HE1 := Lib.hid (heap_keep1 ((hg1.block _ (lt_of_block HE0.out) (by simp; omega)).trans HE0.out) (.cells (reA h1 A1 k1.length c1) 34))
  have HR1 := Lib.hid (hrd1.keep (below_new (Below.refl _ _) (.cells (reA h1 A1 k1.length c1) 34)))
  have HB1 : Hid ((w1.alloc (.cells (reA h1 A1 k1.length c1) 34)).heap[bx]? = some (.cells (reA h1 A1 k1.length c1) 34 (0, 0))) := by
    have := new_at1 (w := w1) (.cells (reA h1 A1 k1.length c1) 34)
    rw [hbx] at this
    exact this
  have HW1 : Hid (InRow RE (fun x => w.heap.size ≤ x ∧ x ≠ bx ∧ x ≠ w.heap.size) (w1.alloc (.cells (reA h1 A1 k1.length c1) 34)) k1 A1 0) :=
    (hr1.there.below (below_new (Below.refl _ _) _)).weak fun x hx => by have := hx.1; have := hx.2; rw [World.size_alloc] at *; omega
  have HT1 := Lib.hid et
  have HC1 := Lib.hid hc1
  have hrl := hrd1.lt
  have hbb : b ≠ bx := by omega
  clear et hc1 hr1 hrd1 hg1 HG0 HE0 CA
  go_wp2_with fail
  try rw [hbx]
  go_loopg [7] n (fun k _ wr => ∃ (t : Re) (i : Nat) (h : RH) (ks : List Re) (A : Option Addr) (c : Nat), Hid (pStars S.data.toList k t i = some (T, J)) ∧ i ≤ S.size ∧ Hid (t = .mk h ks) ∧ Hid (ks.length ≤ c) ∧ Hid (wr.heap[bx]? = some (.cells (reA h A ks.length c) 34 (0, 0))) ∧
    Hid (InRow RE (fun x => w.heap.size ≤ x ∧ x ≠ bx ∧ x ≠ w.heap.size) wr ks A 0) ∧ Hid (Rd b S i wr) ∧ Hid (wr.heap[w.heap.size]? = some (.cells reZ 34 (0, 0))) ∧ Hid (w.grownBy wr (some b)))
  case atStart => exact ⟨t0, j0, h1, k1, A1, c1, HP, hj0, HT1, HC1, HB1, HW1, HR1, HE1, HG1⟩
  case round =>
    clear HP HT1 HC1 HB1 HW1 HR1 HE1 HG1 hj0
    obtain ⟨t, i, h, ks, A, c, HP, hi, HT, HC, HB, HW, HR, HE, HG⟩ := hrel
    cases gk with
    | zero => have := HP.out; simp [pStars] at this
    | succ gk =>
      have hp := HP.out
      simp only [pStars] at hp
      have hwb := lt_of_block HB.out
      have hwe := lt_of_block HE.out
      rcases h42 : isAt S.data.toList i [42] with _ | _
      · have I42 := Lib.hid (is_any [42] hs HR.out hi)
        rw [h42] at I42 hp
        simp only [Bool.false_eq_true, if_false, Option.some.injEq, Prod.mk.injEq] at hp
        obtain ⟨rfl, rfl⟩ := hp
        clear h42 HP
        go_wp2_with fail
        refine I42.out.mono ?_
        rintro e w2 ⟨rfl, hb2⟩
        have HR2 := Lib.hid (HR.out.keep hb2)
        have HG2 := Lib.hid (grown_below HG.out hb2)
        have HW2 := Lib.hid (HW.out.below hb2)
        obtain ⟨⟨x0, x1, x2, x3, x4, x5⟩, _⟩ := re_cells ((hb2.block _ hwb).trans HB.out)
        obtain ⟨⟨y0, y1, y2, y3, y4, y5⟩, f0, f1, f2, f3, f4, f5⟩ := re_cells ((hb2.block _ hwe).trans HE.out)
        clear hb2 I42 HR HG HW HB HE
        go_wp2_with fail
        refine bodyPost_ret (v := reV h A ks.length c) (by simp [results, Try.results105, go_sem, y0, y1, y2, y3, y4, y5]) rfl ⟨h, ks, A, c, rfl, HT.out, HC.out, (row_six HW2.out fun x hx => hx.2.2).weak fun x hx => hx.1, HR2.out.six (by omega), grown_six HG2.out (Nat.le_refl _)⟩
      · have I42 := Lib.hid (is_any [42] hs HR.out hi)
        have hin := isAt_in h42
        rw [h42] at I42 hp
        simp only [if_true] at hp
        have HP2 := Lib.hid hp
        clear h42 HP hp
        go_wp2_with fail
        refine I42.out.mono ?_
        rintro e w2 ⟨rfl, hb2⟩
        have HR2 := Lib.hid (HR.out.keep hb2)
        obtain ⟨z0, z1, fz⟩ := HR2.out.cells
        have HG2 := Lib.hid (grown_set (grown_below HG.out hb2) ⟨b, 1, none⟩ (.int .i64 ((i : Int) + 1)) (.inr rfl))
        have HW2 := Lib.hid (row_set (HW.out.below hb2) ⟨b, 1, none⟩ (.int .i64 ((i : Int) + 1)) fun x hx => by show x ≠ b; omega)
        have HR3 := Lib.hid HR2.out.step
        have hB2 := (Below.heap_setCell w2 ⟨b, 1, none⟩ (.int .i64 ((i : Int) + 1)) bx (by show bx ≠ b; omega)).trans ((hb2.block _ hwb).trans HB.out)
        have hE2 := (Below.heap_setCell w2 ⟨b, 1, none⟩ (.int .i64 ((i : Int) + 1)) w.heap.size (by show w.heap.size ≠ b; omega)).trans ((hb2.block _ hwe).trans HE.out)
        have HB2 := Lib.hid hB2
        have HE2 := Lib.hid hE2
        obtain ⟨⟨x0, x1, x2, x3, x4, x5⟩, _⟩ := re_cells hB2
        clear hb2 I42 HR HG HW HB HE HR2 hB2 hE2
        obtain ⟨w3, hw3⟩ : ∃ w3, w2.setCell ⟨b, 1, none⟩ (.int .i64 ((i : Int) + 1)) = w3 := ⟨_, rfl⟩
        rw [hw3] at HG2 HW2 HR3 HB2 HE2
        have HM := Lib.hid (rexMany_any (ok := fun x => w.heap.size ≤ x ∧ x ≠ bx ∧ x ≠ w.heap.size) h ks A c w3 HC.out HW2.out)
        rw [← hw3] at HM
        have HW3 := Lib.hid hw3
        clear hw3
        go_wp2_with fail
        refine HM.out.mono ?_
        rw [HW3.out]
        rintro e w4 ⟨v, rfl, ⟨h4, k4, A4, c4, et4, hc4, rfl, hr4⟩, hb4⟩
        have hB4 := (hb4.block _ (lt_of_block HB2.out)).trans HB2.out
        have HE4 := Lib.hid ((hb4.block _ (lt_of_block HE2.out)).trans HE2.out)
        have HR4 := Lib.hid (HR3.out.keep hb4)
        have HG4 := Lib.hid (grown_below HG2.out hb4)
        have HT4 := Lib.hid et4
        have HC4 := Lib.hid hc4
        have hsz3 := lt_of_block HB2.out
        have hsz4 := lt_of_block HE2.out
        have HW4 : Hid (InRow RE (fun x => w.heap.size ≤ x ∧ x ≠ bx ∧ x ≠ w.heap.size) w4 k4 A4 0) := hr4.weak fun x hx => by rcases hx with hx | hx <;> omega
        obtain ⟨⟨x0, x1, x2, x3, x4, x5⟩, f0, f1, f2, f3, f4, f5⟩ := re_cells hB4
        have HB4 := Lib.hid hB4
        clear et4 hc4 hr4 hb4 hB4 HM HB2 HE2 HR3 HG2 HW2
        go_wp2_with fail
        go_roundg gk
        case measure => omega
        case rel =>
          refine ⟨.mk ⟨6, S4.zero⟩ [t], i + 1, h4, k4, A4, c4, HP2, hin, ?_, HC4, six_setCells HB4.out, row_six HW4.out fun x hx => hx.2.1, HR4.out.six (by omega), (six_other (by omega)).trans HE4.out, grown_six HG4.out (by omega)⟩
          unfold Hid
          rw [HT.out]
          exact HT4.out
end Go.Proofs.Yteokbmngebckjaa
namespace Go.Proofs.Yteokbmngebckjaa
open Go.RowKit
set_option linter.unusedVariables false
set_option linter.unusedSimpArgs false

theorem OwnT.grown_b {ok : Nat → Prop} {w w' : World} {base b : Nat} {e : TypeId} {v : Value} {ts : List Re} (h : OwnT RE ok w base e v ts) (hg : w.grownBy w' (some b)) (hbb : b < base) (hok : ∀ x, ok x → x ≠ b) : OwnT RE ok w' base e v ts := by
  obtain ⟨h0, cs, ho, hk⟩ := h
  refine ⟨h0, cs, ho.kept hg ?_, fun k t ht => ?_⟩
  · cases hv : v.ownBlock with
    | none => exact .inl rfl
    | some g => exact .inr (by intro e; cases e; have := own_base ho _ hv; omega)
  · obtain ⟨c, h1, h2⟩ := hk k t ht
    exact ⟨c, h1, h2.grown hg fun x hx e => hok x hx (Option.some.inj e)⟩
theorem re_src {P : Nat → Prop} {w : World} {h : RH} {ks : List Re} {A : Option Addr} {c : Nat} (hc : ks.length ≤ c) (hr : InRow RE P w ks A 0) : ∀ (k : Nat) (t : Re), [T.mk h ks][k]? = some t → ∃ d, (∀ j u, d[j]? = some u → (reA h A ks.length c).toList[k * 6 + j]? = some u) ∧ InT RE P w t d := by
  intro k t ht
  cases k with
  | succ k => simp at ht
  | zero =>
    simp at ht
    subst ht
    refine ⟨RH.cells h ++ [.slice A ks.length c], fun j u hu => by simpa [RH.cells] using hu, ?_⟩
    simp only [InT]
    exact ⟨A, c, rfl, hc, hr⟩
theorem own_in {ok : Nat → Prop} {w : World} {base : Nat} {e : TypeId} {v : Value} {ts : List Re} (h : OwnT RE ok w base e v ts) {g : Nat} (hv : v.ownBlock = some g) : base ≤ g ∧ g < w.heap.size := by
  obtain ⟨cs, ho⟩ := h.own
  exact ho.lt g hv

theorem pParts_le {S : ByteArray} (n : Nat) (HS : ∀ m, m ≤ n → ROk 105 pPart S m) {b : Nat} : ∀ (k : Nat) (l : List Re) (i : Nat) (L : List Re) (K : Nat) (w : World), k ≤ n + 1 → pParts S.data.toList k l i = some (L, K) → i ≤ S.size → Rd b S i w → K ≤ S.size
  | 0, l, i, L, K, w, _, h, _, _ => by simp [pParts] at h
  | k + 1, l, i, L, K, w, hk, h, hi, hr => by
    simp only [pParts] at h
    split at h
    · rcases hp : pPart S.data.toList k i with _ | ⟨t, j⟩
      · rw [hp] at h; simp at h
      · rw [hp] at h
        have hj := (HS k (by omega) i t j b w hp hi hr).1
        obtain ⟨w', hw'⟩ : ∃ w' : World, Rd b S j w' := ⟨w.setCell ⟨b, 1, none⟩ (.int .i64 (j : Int)), by unfold Rd at hr ⊢; simp [World.setCell, Array.getElem?_modify, hr]⟩
        exact pParts_le n HS k _ j L K w' (by omega) h hj hw'
    · simp only [Option.some.injEq, Prod.mk.injEq] at h
      omega
set_option maxRecDepth 100000 in
set_option maxHeartbeats 4000000 in
theorem row_step {S : ByteArray} (hs : S.size ≤ 65536) (n : Nat) (hn : n ≤ 1000000) (HA : ∀ m, m ≤ n → ROk 105 pPart S m) : ROk 98 pRow S (n + 1) := by
  intro i T J b w hp hi hr
  simp only [pRow] at hp
  rcases ha : pPart S.data.toList n i with _ | ⟨t0, j0⟩
  case none => rw [ha] at hp; simp at hp
  rw [ha] at hp
  simp only at hp
  rcases hl : pParts S.data.toList n [t0] j0 with _ | ⟨L, K⟩
  case none => rw [hl] at hp; simp at hp
  rw [hl] at hp
  simp only [Option.some.injEq, Prod.mk.injEq] at hp
  obtain ⟨rfl, rfl⟩ := hp
  have hbw := below_new (Below.refl w.heap.size w) (.cells reZ 34)
  have HR0 := Lib.hid (hr.keep hbw)
  have HE0 := Lib.hid (new_at1 (w := w) (.cells reZ 34))
  have HG0 := Lib.hid (grown_alloc (grown_refl w (some b)) (.cells reZ 34))
  have hlt := hr.lt
  have hj0 := (HA n (Nat.le_refl _) i t0 j0 b _ ha hi HR0.out).1
  refine ⟨by
    obtain ⟨w', hw'⟩ : ∃ w' : World, Rd b S j0 w' := ⟨w.setCell ⟨b, 1, none⟩ (.int .i64 (j0 : Int)), by unfold Rd at hr ⊢; simp [World.setCell, Array.getElem?_modify, hr]⟩
    exact pParts_le n HA n _ _ _ _ w' (by omega) hl hj0 hw', ?_⟩
  have CA := Lib.hid (HA n (Nat.le_refl _) i t0 j0 b _ ha hi HR0.out).2
  have CP : Hid (∀ m, m ≤ n → ROk 105 pPart S m) := HA
  have HP := Lib.hid hl
  clear ha HA hr hbw HR0 hl
  go_enter Try.func98, Try.ntmps98
  go_wp2_with fail
  refine CA.out.mono ?_
  rintro e w1 ⟨h1, k1, A1, c1, rfl, et, hc1, hr1, hrd1, hg1⟩
  have hsz1 := hg1.size
  rw [World.size_alloc] at hsz1
  have HG1 := Lib.hid (grown_alloc (grown_trans HG0.out hg1) (.cells (reA h1 A1 k1.length c1) 34))
  have HE1 := Lib.hid (heap_keep1 ((hg1.block _ (lt_of_block HE0.out) (by simp; omega)).trans HE0.out) (.cells (reA h1 A1 k1.length c1) 34))
  have HR1 := Lib.hid (hrd1.keep (below_new (Below.refl _ _) (.cells (reA h1 A1 k1.length c1) 34)))
  have HO1 : Hid (OwnT RE (fun x => w.heap.size < x ∧ x < w1.heap.size) (w1.alloc (.cells (reA h1 A1 k1.length c1) 34)) (w.heap.size + 1) 34 (.slice (some ⟨w1.heap.size, 0, none⟩) 1 1) [t0]) := by
    rw [et]
    exact re_new hc1 (hr1.there.weak fun x hx => by have := hx.1; have := hx.2; rw [World.size_alloc] at *; omega) (fun x hx => hx.2) _ (by omega)
  clear et hc1 hr1 hrd1 hg1 HG0 HE0 CA
  go_wp2_with fail
  go_loopg [3] n (fun k o wr => ∃ (l : List Re) (i : Nat) (ok : Nat → Prop) (v : Value), v = o ∧ Hid (pParts S.data.toList k l i = some (L, K)) ∧ i ≤ S.size ∧ l.length + k ≤ n + 1 ∧ Hid (OwnT RE ok wr (w.heap.size + 1) 34 o l) ∧ Hid (∀ x, ok x → w.heap.size < x ∧ x < wr.heap.size) ∧
    Hid (Rd b S i wr) ∧ Hid (wr.heap[w.heap.size]? = some (.cells reZ 34 (0, 0))) ∧ Hid (w.grownBy wr (some b)))
  case atStart => exact ⟨[t0], j0, _, _, rfl, HP, hj0, by simp; omega, HO1, Lib.hid (fun x hx => ⟨hx.1, by rw [World.size_alloc]; omega⟩), HR1, HE1, HG1⟩
  case round =>
    clear HP HO1 HR1 HE1 HG1 hj0
    obtain ⟨l, i, ok, o, rfl, HP, hi, hll, HO, HK, HR, HE, HG⟩ := hrel
    cases gk with
    | zero => have := HP.out; simp [pParts] at this
    | succ gk =>
      have hp := HP.out
      simp only [pParts] at hp
      have hwe := lt_of_block HE.out
      have I1 := Lib.hid (is_any [46, 91, 40] hs HR.out hi)
      rcases h1 : isAt S.data.toList i [46, 91, 40] with _ | _
      · rw [h1] at I1 hp
        go_wp2_with fail
        refine I1.out.mono ?_
        rintro e w2 ⟨rfl, hb2⟩
        have HR1 := Lib.hid (HR.out.keep hb2)
        have HE1 := Lib.hid ((hb2.block _ hwe).trans HE.out)
        have HG1 := Lib.hid (grown_below HG.out hb2)
        have HO1 := Lib.hid (HO.out.keep hb2)
        have hs2 := hb2.size
        clear hb2 I1 h1
        have I2 := Lib.hid (begins_any hs HR1.out hi)
        rcases h2 : beginsAt S.data.toList i with _ | _
        · rw [h2] at I2 hp
          simp only [Bool.or_self, Bool.false_eq_true, if_false, Option.some.injEq, Prod.mk.injEq] at hp
          obtain ⟨rfl, rfl⟩ := hp
          clear h2 HP
          go_wp2_with fail
          refine I2.out.mono ?_
          rintro e w3 ⟨rfl, hb3⟩
          have HR2 := Lib.hid (HR1.out.keep hb3)
          have HE2 := Lib.hid ((hb3.block _ (lt_of_block HE1.out)).trans HE1.out)
          have HG2 := Lib.hid (grown_below HG1.out hb3)
          have HO2 := Lib.hid (HO1.out.keep hb3)
          clear hb3 I2 HR1 HE1 HG1 HO1 HR HE HG
          obtain ⟨A2, c2, ho2, hc2, hr2⟩ := HO2.out.row
          subst ho2
          have HV : Hid (∀ x, ok x ∨ (Value.slice A2 l.length c2).ownBlock = some x → w.heap.size < x) := fun x hx => by
            rcases hx with hx | hx
            · exact (HK.out x hx).1
            · have := own_in HO2.out hx; omega
          have HT := Lib.hid (then_any l A2 c2 w3 (by omega) hc2 hr2)
          clear hc2 hr2 HO HO2
          go_wp2_with fail
          refine HT.out.mono ?_
          rintro e w4 ⟨v, rfl, ⟨h4, k4, A4, c4, et4, hc4, rfl, hr4⟩, hb4⟩
          have he4 := (hb4.block _ (lt_of_block HE2.out)).trans HE2.out
          have HR4 := Lib.hid (HR2.out.keep hb4)
          have HG4 := Lib.hid (grown_below HG2.out hb4)
          have hsz4 := lt_of_block HE2.out
          have HW4 : Hid (InRow RE (fun x => w.heap.size < x) w4 k4 A4 0) := hr4.weak fun x hx => by
            rcases hx with hx | hx
            · exact HV.out x hx
            · omega
          have HT4 := Lib.hid et4
          have HC4 := Lib.hid hc4
          obtain ⟨⟨y0, y1, y2, y3, y4, y5⟩, f0, f1, f2, f3, f4, f5⟩ := re_cells he4
          clear et4 hc4 hr4 hb4 he4 HT HR2 HG2 HE2
          go_wp2_with fail
          refine bodyPost_ret (v := reV h4 A4 k4.length c4) (by simp [results, Try.results98, go_sem, y0, y1, y2, y3, y4, y5]) rfl ⟨h4, k4, A4, c4, rfl, HT4.out, HC4.out, (row_six HW4.out fun x hx => by omega).weak fun x hx => by omega, HR4.out.six (by omega), grown_six HG4.out (Nat.le_refl _)⟩
        · rw [h2] at I2 hp
          simp only [Bool.false_or, if_true] at hp
          clear h2
          go_wp2_with fail
          refine I2.out.mono ?_
          rintro e w3 ⟨rfl, hb3⟩
          have HR2 := Lib.hid (HR1.out.keep hb3)
          have HE2 := Lib.hid ((hb3.block _ (lt_of_block HE1.out)).trans HE1.out)
          have HG2 := Lib.hid (grown_below HG1.out hb3)
          have HO2 := Lib.hid (HO1.out.keep hb3)
          have HKX : Hid (∀ x, ok x → w.heap.size < x ∧ x < w3.heap.size) := fun x hx => by have := HK.out x hx; have := hb3.size; omega
          clear hb3 I2 HR1 HE1 HG1 HO1 HR HE HG
          rcases hq : pPart S.data.toList gk i with _ | ⟨t1, j1⟩
          case none => rw [hq] at hp; simp at hp
          rw [hq] at hp
          have HP2 := Lib.hid hp
          obtain ⟨hj1, hcall⟩ := CP.out gk (by omega) i t1 j1 b _ hq (by omega) HR2.out
          have HCL := Lib.hid hcall
          clear hp hq hcall HP
          go_wp2_with fail
          refine HCL.out.mono ?_
          rintro e w4 ⟨h4, k4, A4, c4, rfl, et4, hc4, hr4, hrd4, hg4⟩
          have hX := lt_of_block HE2.out
          have hX4 := hg4.size
          have ho4 := (HO2.out.grown_b hg4 (by omega) (fun x hx => by have := HK.out x hx; omega)).keep (below_new (Below.refl w4.heap.size w4) (.cells (reA h4 A4 k4.length c4) 34))
          have hw4 := hr4.there.below (below_new (Below.refl w4.heap.size w4) (.cells (reA h4 A4 k4.length c4) 34))
          have HE4 := Lib.hid (heap_keep1 ((hg4.block _ hX (by simp; omega)).trans HE2.out) (.cells (reA h4 A4 k4.length c4) 34))
          have HR4 := Lib.hid (hrd4.keep (below_new (Below.refl w4.heap.size w4) (.cells (reA h4 A4 k4.length c4) 34)))
          have HG4 := Lib.hid (grown_alloc (grown_trans HG2.out hg4) (.cells (reA h4 A4 k4.length c4) 34))
          have hown := ho4.own
          have hoi : ∀ g, Value.ownBlock o = some g → w.heap.size + 1 ≤ g ∧ g < w3.heap.size := fun g hg => own_in HO2.out hg
          have ho5 : OwnT RE (fun x => ok x ∨ (w3.heap.size ≤ x ∧ x < w4.heap.size)) (w4.alloc (.cells (reA h4 A4 k4.length c4) 34)) (w.heap.size + 1) 34 o l := ho4.narrow (fun x hx => .inl hx) fun x hx e => by
            rcases hx with hx | hx
            · exact ho4.1 x hx e
            · have := hoi x e.symm; omega
          obtain ⟨h0, cs0, hown0, hk0⟩ := ho5
          have hsrc := new_src w4 1 6 (reA h4 A4 k4.length c4) 34 rfl
          have hnew : ∀ (k : Nat) (t : Re), [t1][k]? = some t → ∃ d, (∀ j u, d[j]? = some u → (reA h4 A4 k4.length c4).toList[k * 6 + j]? = some u) ∧ InT RE (fun x => ok x ∨ (w3.heap.size ≤ x ∧ x < w4.heap.size)) (w4.alloc (.cells (reA h4 A4 k4.length c4) 34)) t d := by
            rw [et4]
            exact re_src hc4 (hw4.weak fun x hx => .inr hx)
          have HN := Lib.hid hnew
          have hokl : ∀ x, (ok x ∨ (w3.heap.size ≤ x ∧ x < w4.heap.size)) → w.heap.size < x ∧ x < w4.heap.size + 1 := fun x hx => by
            rcases hx with hx | hx
            · have := HKX.out x hx; omega
            · omega
          have HKL := Lib.hid hokl
          clear et4 hc4 hr4 hrd4 hg4 ho4 hw4 hown hnew hokl HO HO2 HE2 HR2 HG2 HCL hoi
          go_wp2_with (at_builtin; refine wpList_app _ rfl (.tmp 13) (.tmp 16) 32 rfl (w.heap.size + 1) 34 _ 6 64 Try.underlying32 Try.info_re rfl (by decide) _ _ _ rfl hown0 (some ⟨w4.heap.size, 0, none⟩) 1 1 _ rfl hsrc ?h1 ?h2 ?h3 ?h4 ?_)
          case h1 => intro u hu; simp at hu; rcases hu with rfl | rfl | rfl | rfl | rfl | rfl <;> rfl
          case h2 => unfold maxLen; omega
          case h3 => omega
          case h4 => have := lt_of_block HE4.out; rw [World.size_alloc] at *; omega
          intro v5 w5 ho5 hg5 hat5
          have hr5 := Lib.hid (OwnT.app (ys := [t1]) h0 hown0 hk0 HN.out ho5 hg5 (by rw [World.size_alloc]; exact hat5) (fun x hx => by have := HKL.out x hx; rw [World.size_alloc]; omega))
          have hne : ∀ k, k ≤ w.heap.size → some k ≠ Value.ownBlock o := fun k hk e => by have := own_base hown0 k e.symm; omega
          have hE5 := Lib.hid ((hg5.block _ (lt_of_block HE4.out) (hne _ (Nat.le_refl _))).trans HE4.out)
          have hR5 : Hid (Rd b S j1 w5) := (hg5.block _ (lt_of_block HR4.out) (hne _ (by omega))).trans HR4.out
          have hs5 := hg5.size
          rw [World.size_alloc] at hs5
          have hG5 : Hid (w.grownBy w5 (some b)) := ⟨hg5.os.trans HG4.out.os, hg5.tape.trans HG4.out.tape, hg5.output.trans HG4.out.output, Nat.le_trans HG4.out.size hg5.size, fun k hk hr => (hg5.block k (Nat.lt_of_lt_of_le hk HG4.out.size) (hne _ (by omega))).trans (HG4.out.block k hk hr)⟩
          have HK5 : Hid (∀ x, (ok x ∨ (w3.heap.size ≤ x ∧ x < w4.heap.size)) → w.heap.size < x ∧ x < w5.heap.size) := fun x hx => by have := HKL.out x hx; omega
          clear ho5 hg5 hat5 hown0 hk0 h0 hsrc HN hne HE4 HR4 HG4 HKL HK HKX
          go_wp2_with fail
          go_roundg gk
          case measure => omega
          case rel => exact ⟨l ++ [t1], j1, _, _, rfl, HP2, hj1, by simp; omega, hr5, HK5, hR5, hE5, hG5⟩
      · rw [h1] at I1 hp
        simp only [Bool.true_or, if_true] at hp
        clear h1
        go_wp2_with fail
        refine I1.out.mono ?_
        rintro e w3 ⟨rfl, hb3⟩
        have HR2 := Lib.hid (HR.out.keep hb3)
        have HE2 := Lib.hid ((hb3.block _ hwe).trans HE.out)
        have HG2 := Lib.hid (grown_below HG.out hb3)
        have HO2 := Lib.hid (HO.out.keep hb3)
        have HKX : Hid (∀ x, ok x → w.heap.size < x ∧ x < w3.heap.size) := fun x hx => by have := HK.out x hx; have := hb3.size; omega
        clear hb3 I1 HR HE HG
        rcases hq : pPart S.data.toList gk i with _ | ⟨t1, j1⟩
        case none => rw [hq] at hp; simp at hp
        rw [hq] at hp
        have HP2 := Lib.hid hp
        obtain ⟨hj1, hcall⟩ := CP.out gk (by omega) i t1 j1 b _ hq (by omega) HR2.out
        have HCL := Lib.hid hcall
        clear hp hq hcall HP
        go_wp2_with fail
        refine HCL.out.mono ?_
        rintro e w4 ⟨h4, k4, A4, c4, rfl, et4, hc4, hr4, hrd4, hg4⟩
        have hX := lt_of_block HE2.out
        have hX4 := hg4.size
        have ho4 := (HO2.out.grown_b hg4 (by omega) (fun x hx => by have := HK.out x hx; omega)).keep (below_new (Below.refl w4.heap.size w4) (.cells (reA h4 A4 k4.length c4) 34))
        have hw4 := hr4.there.below (below_new (Below.refl w4.heap.size w4) (.cells (reA h4 A4 k4.length c4) 34))
        have HE4 := Lib.hid (heap_keep1 ((hg4.block _ hX (by simp; omega)).trans HE2.out) (.cells (reA h4 A4 k4.length c4) 34))
        have HR4 := Lib.hid (hrd4.keep (below_new (Below.refl w4.heap.size w4) (.cells (reA h4 A4 k4.length c4) 34)))
        have HG4 := Lib.hid (grown_alloc (grown_trans HG2.out hg4) (.cells (reA h4 A4 k4.length c4) 34))
        have hown := ho4.own
        have hoi : ∀ g, Value.ownBlock o = some g → w.heap.size + 1 ≤ g ∧ g < w3.heap.size := fun g hg => own_in HO2.out hg
        have ho5 : OwnT RE (fun x => ok x ∨ (w3.heap.size ≤ x ∧ x < w4.heap.size)) (w4.alloc (.cells (reA h4 A4 k4.length c4) 34)) (w.heap.size + 1) 34 o l := ho4.narrow (fun x hx => .inl hx) fun x hx e => by
          rcases hx with hx | hx
          · exact ho4.1 x hx e
          · have := hoi x e.symm; omega
        obtain ⟨h0, cs0, hown0, hk0⟩ := ho5
        have hsrc := new_src w4 1 6 (reA h4 A4 k4.length c4) 34 rfl
        have hnew : ∀ (k : Nat) (t : Re), [t1][k]? = some t → ∃ d, (∀ j u, d[j]? = some u → (reA h4 A4 k4.length c4).toList[k * 6 + j]? = some u) ∧ InT RE (fun x => ok x ∨ (w3.heap.size ≤ x ∧ x < w4.heap.size)) (w4.alloc (.cells (reA h4 A4 k4.length c4) 34)) t d := by
          rw [et4]
          exact re_src hc4 (hw4.weak fun x hx => .inr hx)
        have HN := Lib.hid hnew
        have hokl : ∀ x, (ok x ∨ (w3.heap.size ≤ x ∧ x < w4.heap.size)) → w.heap.size < x ∧ x < w4.heap.size + 1 := fun x hx => by
          rcases hx with hx | hx
          · have := HKX.out x hx; omega
          · omega
        have HKL := Lib.hid hokl
        clear et4 hc4 hr4 hrd4 hg4 ho4 hw4 hown hnew hokl HO HO2 HE2 HR2 HG2 HCL hoi
        go_wp2_with (at_builtin; refine wpList_app _ rfl (.tmp 13) (.tmp 16) 32 rfl (w.heap.size + 1) 34 _ 6 64 Try.underlying32 Try.info_re rfl (by decide) _ _ _ rfl hown0 (some ⟨w4.heap.size, 0, none⟩) 1 1 _ rfl hsrc ?h1 ?h2 ?h3 ?h4 ?_)
        case h1 => intro u hu; simp at hu; rcases hu with rfl | rfl | rfl | rfl | rfl | rfl <;> rfl
        case h2 => unfold maxLen; omega
        case h3 => omega
        case h4 => have := lt_of_block HE4.out; rw [World.size_alloc] at *; omega
        intro v5 w5 ho5 hg5 hat5
        have hr5 := Lib.hid (OwnT.app (ys := [t1]) h0 hown0 hk0 HN.out ho5 hg5 (by rw [World.size_alloc]; exact hat5) (fun x hx => by have := HKL.out x hx; rw [World.size_alloc]; omega))
        have hne : ∀ k, k ≤ w.heap.size → some k ≠ Value.ownBlock o := fun k hk e => by have := own_base hown0 k e.symm; omega
        have hE5 := Lib.hid ((hg5.block _ (lt_of_block HE4.out) (hne _ (Nat.le_refl _))).trans HE4.out)
        have hR5 : Hid (Rd b S j1 w5) := (hg5.block _ (lt_of_block HR4.out) (hne _ (by omega))).trans HR4.out
        have hs5 := hg5.size
        rw [World.size_alloc] at hs5
        have hG5 : Hid (w.grownBy w5 (some b)) := ⟨hg5.os.trans HG4.out.os, hg5.tape.trans HG4.out.tape, hg5.output.trans HG4.out.output, Nat.le_trans HG4.out.size hg5.size, fun k hk hr => (hg5.block k (Nat.lt_of_lt_of_le hk HG4.out.size) (hne _ (by omega))).trans (HG4.out.block k hk hr)⟩
        have HK5 : Hid (∀ x, (ok x ∨ (w3.heap.size ≤ x ∧ x < w4.heap.size)) → w.heap.size < x ∧ x < w5.heap.size) := fun x hx => by have := HKL.out x hx; omega
        clear ho5 hg5 hat5 hown0 hk0 h0 hsrc HN hne HE4 HR4 HG4 HKL HK HKX
        go_wp2_with fail
        go_roundg gk
        case measure => omega
        case rel => exact ⟨l ++ [t1], j1, _, _, rfl, HP2, hj1, by simp; omega, hr5, HK5, hR5, hE5, hG5⟩
theorem pRows_le {S : ByteArray} (n : Nat) (HS : ∀ m, m ≤ n → ROk 98 pRow S m) {b : Nat} : ∀ (k : Nat) (l : List Re) (i : Nat) (L : List Re) (K : Nat) (w : World), k ≤ n + 1 → pRows S.data.toList k l i = some (L, K) → i ≤ S.size → Rd b S i w → K ≤ S.size
  | 0, l, i, L, K, w, _, h, _, _ => by simp [pRows] at h
  | k + 1, l, i, L, K, w, hk, h, hi, hr => by
    simp only [pRows] at h
    split at h
    · rename_i hat
      have hin := isAt_in hat
      obtain ⟨w1, hw1⟩ : ∃ w' : World, Rd b S (i + 1) w' := ⟨_, hr.step⟩
      rcases hp : pRow S.data.toList k (i + 1) with _ | ⟨t, j⟩
      · rw [hp] at h; simp at h
      · rw [hp] at h
        have hj := (HS k (by omega) (i + 1) t j b w1 hp hin hw1).1
        obtain ⟨w', hw'⟩ : ∃ w' : World, Rd b S j w' := ⟨w.setCell ⟨b, 1, none⟩ (.int .i64 (j : Int)), by unfold Rd at hr ⊢; simp [World.setCell, Array.getElem?_modify, hr]⟩
        exact pRows_le n HS k _ j L K w' (by omega) h hj hw'
    · simp only [Option.some.injEq, Prod.mk.injEq] at h
      omega
set_option maxRecDepth 100000 in
set_option maxHeartbeats 4000000 in
theorem alt_step {S : ByteArray} (hs : S.size ≤ 65536) (n : Nat) (hn : n ≤ 1000000) (HA : ∀ m, m ≤ n → ROk 98 pRow S m) : ROk 83 pAlt S (n + 1) := by
  intro i T J b w hp hi hr
  simp only [pAlt] at hp
  rcases ha : pRow S.data.toList n i with _ | ⟨t0, j0⟩
  case none => rw [ha] at hp; simp at hp
  rw [ha] at hp
  simp only at hp
  rcases hl : pRows S.data.toList n [t0] j0 with _ | ⟨L, K⟩
  case none => rw [hl] at hp; simp at hp
  rw [hl] at hp
  simp only [Option.some.injEq, Prod.mk.injEq] at hp
  obtain ⟨rfl, rfl⟩ := hp
  have hbw := below_new (Below.refl w.heap.size w) (.cells reZ 34)
  have HR0 := Lib.hid (hr.keep hbw)
  have HE0 := Lib.hid (new_at1 (w := w) (.cells reZ 34))
  have HG0 := Lib.hid (grown_alloc (grown_refl w (some b)) (.cells reZ 34))
  have hlt := hr.lt
  have hj0 := (HA n (Nat.le_refl _) i t0 j0 b _ ha hi HR0.out).1
  refine ⟨by
    obtain ⟨w', hw'⟩ : ∃ w' : World, Rd b S j0 w' := ⟨w.setCell ⟨b, 1, none⟩ (.int .i64 (j0 : Int)), by unfold Rd at hr ⊢; simp [World.setCell, Array.getElem?_modify, hr]⟩
    exact pRows_le n HA n _ _ _ _ w' (by omega) hl hj0 hw', ?_⟩
  have CA := Lib.hid (HA n (Nat.le_refl _) i t0 j0 b _ ha hi HR0.out).2
  have CP : Hid (∀ m, m ≤ n → ROk 98 pRow S m) := HA
  have HP := Lib.hid hl
  clear ha HA hr hbw HR0 hl
  go_enter Try.func83, Try.ntmps83
  go_wp2_with fail
  refine CA.out.mono ?_
  rintro e w1 ⟨h1, k1, A1, c1, rfl, et, hc1, hr1, hrd1, hg1⟩
  have hsz1 := hg1.size
  rw [World.size_alloc] at hsz1
  have HG1 := Lib.hid (grown_alloc (grown_trans HG0.out hg1) (.cells (reA h1 A1 k1.length c1) 34))
  have HE1 := Lib.hid (heap_keep1 ((hg1.block _ (lt_of_block HE0.out) (by simp; omega)).trans HE0.out) (.cells (reA h1 A1 k1.length c1) 34))
  have HR1 := Lib.hid (hrd1.keep (below_new (Below.refl _ _) (.cells (reA h1 A1 k1.length c1) 34)))
  have HO1 : Hid (OwnT RE (fun x => w.heap.size < x ∧ x < w1.heap.size) (w1.alloc (.cells (reA h1 A1 k1.length c1) 34)) (w.heap.size + 1) 34 (.slice (some ⟨w1.heap.size, 0, none⟩) 1 1) [t0]) := by
    rw [et]
    exact re_new hc1 (hr1.there.weak fun x hx => by have := hx.1; have := hx.2; rw [World.size_alloc] at *; omega) (fun x hx => hx.2) _ (by omega)
  clear et hc1 hr1 hrd1 hg1 HG0 HE0 CA
  go_wp2_with fail
  go_loopg [3] n (fun k o wr => ∃ (l : List Re) (i : Nat) (ok : Nat → Prop) (v : Value), v = o ∧ Hid (pRows S.data.toList k l i = some (L, K)) ∧ i ≤ S.size ∧ l.length + k ≤ n + 1 ∧ Hid (OwnT RE ok wr (w.heap.size + 1) 34 o l) ∧ Hid (∀ x, ok x → w.heap.size < x ∧ x < wr.heap.size) ∧
    Hid (Rd b S i wr) ∧ Hid (wr.heap[w.heap.size]? = some (.cells reZ 34 (0, 0))) ∧ Hid (w.grownBy wr (some b)))
  case atStart => exact ⟨[t0], j0, _, _, rfl, HP, hj0, by simp; omega, HO1, Lib.hid (fun x hx => ⟨hx.1, by rw [World.size_alloc]; omega⟩), HR1, HE1, HG1⟩
  case round =>
    clear HP HO1 HR1 HE1 HG1 hj0
    obtain ⟨l, i, ok, o, rfl, HP, hi, hll, HO, HK, HR, HE, HG⟩ := hrel
    cases gk with
    | zero => have := HP.out; simp [pRows] at this
    | succ gk =>
      have hp := HP.out
      simp only [pRows] at hp
      have hwe := lt_of_block HE.out
      have I1 := Lib.hid (is_any [124] hs HR.out hi)
      rcases h1 : isAt S.data.toList i [124] with _ | _
      · rw [h1] at I1 hp
        simp only [Bool.false_eq_true, if_false, Option.some.injEq, Prod.mk.injEq] at hp
        obtain ⟨rfl, rfl⟩ := hp
        clear h1 HP
        go_wp2_with fail
        refine I1.out.mono ?_
        rintro e w3 ⟨rfl, hb3⟩
        have HR2 := Lib.hid (HR.out.keep hb3)
        have HE2 := Lib.hid ((hb3.block _ hwe).trans HE.out)
        have HG2 := Lib.hid (grown_below HG.out hb3)
        have HO2 := Lib.hid (HO.out.keep hb3)
        clear hb3 I1 HR HE HG
        obtain ⟨A2, c2, ho2, hc2, hr2⟩ := HO2.out.row
        subst ho2
        have HV : Hid (∀ x, ok x ∨ (Value.slice A2 l.length c2).ownBlock = some x → w.heap.size < x) := fun x hx => by
          rcases hx with hx | hx
          · exact (HK.out x hx).1
          · have := own_in HO2.out hx; omega
        have HT := Lib.hid (or_any l A2 c2 w3 (by omega) hc2 hr2)
        clear hc2 hr2 HO HO2
        go_wp2_with fail
        refine HT.out.mono ?_
        rintro e w4 ⟨v, rfl, ⟨h4, k4, A4, c4, et4, hc4, rfl, hr4⟩, hb4⟩
        have he4 := (hb4.block _ (lt_of_block HE2.out)).trans HE2.out
        have HR4 := Lib.hid (HR2.out.keep hb4)
        have HG4 := Lib.hid (grown_below HG2.out hb4)
        have hsz4 := lt_of_block HE2.out
        have HW4 : Hid (InRow RE (fun x => w.heap.size < x) w4 k4 A4 0) := hr4.weak fun x hx => by
          rcases hx with hx | hx
          · exact HV.out x hx
          · omega
        have HT4 := Lib.hid et4
        have HC4 := Lib.hid hc4
        obtain ⟨⟨y0, y1, y2, y3, y4, y5⟩, f0, f1, f2, f3, f4, f5⟩ := re_cells he4
        clear et4 hc4 hr4 hb4 he4 HT HR2 HG2 HE2
        go_wp2_with fail
        refine bodyPost_ret (v := reV h4 A4 k4.length c4) (by simp [results, Try.results83, go_sem, y0, y1, y2, y3, y4, y5]) rfl ⟨h4, k4, A4, c4, rfl, HT4.out, HC4.out, (row_six HW4.out fun x hx => by omega).weak fun x hx => by omega, HR4.out.six (by omega), grown_six HG4.out (Nat.le_refl _)⟩
      · have hin := isAt_in h1
        rw [h1] at I1 hp
        simp only [if_true] at hp
        clear h1
        go_wp2_with fail
        refine I1.out.mono ?_
        rintro e w2 ⟨rfl, hb3⟩
        have HR1 := Lib.hid (HR.out.keep hb3)
        obtain ⟨z0, z1, fz⟩ := HR1.out.cells
        have HS : Hid (w2.grownBy (w2.setCell ⟨b, 1, none⟩ (.int .i64 ((i : Int) + 1))) (some b)) := grown_set (grown_refl _ _) _ _ (.inr rfl)
        have HR2 := Lib.hid HR1.out.step
        have HE2 : Hid ((w2.setCell ⟨b, 1, none⟩ (.int .i64 ((i : Int) + 1))).heap[w.heap.size]? = some (.cells reZ 34 (0, 0))) := (Below.heap_setCell _ _ _ _ (by show w.heap.size ≠ b; omega)).trans ((hb3.block _ hwe).trans HE.out)
        have HG2 := Lib.hid (grown_trans (grown_below HG.out hb3) HS.out)
        have HO2 := Lib.hid ((HO.out.keep hb3).grown_b HS.out (by omega) (fun x hx => by have := HK.out x hx; omega))
        have HKX : Hid (∀ x, ok x → w.heap.size < x ∧ x < (w2.setCell ⟨b, 1, none⟩ (.int .i64 ((i : Int) + 1))).heap.size) := fun x hx => by have := HK.out x hx; have := hb3.size; have := HS.out.size; omega
        clear hb3 I1 HR HE HG HR1 HS
        obtain ⟨w3, hw3⟩ : ∃ w3, w2.setCell ⟨b, 1, none⟩ (.int .i64 ((i : Int) + 1)) = w3 := ⟨_, rfl⟩
        rw [hw3] at HR2 HE2 HG2 HO2 HKX
        have HW3 := Lib.hid hw3
        clear hw3
        rcases hq : pRow S.data.toList gk (i + 1) with _ | ⟨t1, j1⟩
        case none => rw [hq] at hp; simp at hp
        rw [hq] at hp
        have HP2 := Lib.hid hp
        obtain ⟨hj1, hcall⟩ := CP.out gk (by omega) (i + 1) t1 j1 b _ hq (by omega) HR2.out
        rw [← HW3.out] at hcall
        have HCL := Lib.hid hcall
        clear hp hq hcall HP
        go_wp2_with fail
        refine HCL.out.mono ?_
        rw [HW3.out]
        rintro e w4 ⟨h4, k4, A4, c4, rfl, et4, hc4, hr4, hrd4, hg4⟩
        have hX := lt_of_block HE2.out
        have hX4 := hg4.size
        have ho4 := (HO2.out.grown_b hg4 (by omega) (fun x hx => by have := HK.out x hx; omega)).keep (below_new (Below.refl w4.heap.size w4) (.cells (reA h4 A4 k4.length c4) 34))
        have hw4 := hr4.there.below (below_new (Below.refl w4.heap.size w4) (.cells (reA h4 A4 k4.length c4) 34))
        have HE4 := Lib.hid (heap_keep1 ((hg4.block _ hX (by simp; omega)).trans HE2.out) (.cells (reA h4 A4 k4.length c4) 34))
        have HR4 := Lib.hid (hrd4.keep (below_new (Below.refl w4.heap.size w4) (.cells (reA h4 A4 k4.length c4) 34)))
        have HG4 := Lib.hid (grown_alloc (grown_trans HG2.out hg4) (.cells (reA h4 A4 k4.length c4) 34))
        have hown := ho4.own
        have hoi : ∀ g, Value.ownBlock o = some g → w.heap.size + 1 ≤ g ∧ g < w3.heap.size := fun g hg => own_in HO2.out hg
        have ho5 : OwnT RE (fun x => ok x ∨ (w3.heap.size ≤ x ∧ x < w4.heap.size)) (w4.alloc (.cells (reA h4 A4 k4.length c4) 34)) (w.heap.size + 1) 34 o l := ho4.narrow (fun x hx => .inl hx) fun x hx e => by
          rcases hx with hx | hx
          · exact ho4.1 x hx e
          · have := hoi x e.symm; omega
        obtain ⟨h0, cs0, hown0, hk0⟩ := ho5
        have hsrc := new_src w4 1 6 (reA h4 A4 k4.length c4) 34 rfl
        have hnew : ∀ (k : Nat) (t : Re), [t1][k]? = some t → ∃ d, (∀ j u, d[j]? = some u → (reA h4 A4 k4.length c4).toList[k * 6 + j]? = some u) ∧ InT RE (fun x => ok x ∨ (w3.heap.size ≤ x ∧ x < w4.heap.size)) (w4.alloc (.cells (reA h4 A4 k4.length c4) 34)) t d := by
          rw [et4]
          exact re_src hc4 (hw4.weak fun x hx => .inr hx)
        have HN := Lib.hid hnew
        have hokl : ∀ x, (ok x ∨ (w3.heap.size ≤ x ∧ x < w4.heap.size)) → w.heap.size < x ∧ x < w4.heap.size + 1 := fun x hx => by
          rcases hx with hx | hx
          · have := HKX.out x hx; omega
          · omega
        have HKL := Lib.hid hokl
        clear et4 hc4 hr4 hrd4 hg4 ho4 hw4 hown hnew hokl HO HO2 HE2 HR2 HG2 HCL hoi
        go_wp2_with (at_builtin; refine wpList_app _ rfl (.tmp 16) (.tmp 19) 32 rfl (w.heap.size + 1) 34 _ 6 64 Try.underlying32 Try.info_re rfl (by decide) _ _ _ rfl hown0 (some ⟨w4.heap.size, 0, none⟩) 1 1 _ rfl hsrc ?h1 ?h2 ?h3 ?h4 ?_)
        case h1 => intro u hu; simp at hu; rcases hu with rfl | rfl | rfl | rfl | rfl | rfl <;> rfl
        case h2 => unfold maxLen; omega
        case h3 => omega
        case h4 => have := lt_of_block HE4.out; rw [World.size_alloc] at *; omega
        intro v5 w5 ho5 hg5 hat5
        have hr5 := Lib.hid (OwnT.app (ys := [t1]) h0 hown0 hk0 HN.out ho5 hg5 (by rw [World.size_alloc]; exact hat5) (fun x hx => by have := HKL.out x hx; rw [World.size_alloc]; omega))
        have hne : ∀ k, k ≤ w.heap.size → some k ≠ Value.ownBlock o := fun k hk e => by have := own_base hown0 k e.symm; omega
        have hE5 := Lib.hid ((hg5.block _ (lt_of_block HE4.out) (hne _ (Nat.le_refl _))).trans HE4.out)
        have hR5 : Hid (Rd b S j1 w5) := (hg5.block _ (lt_of_block HR4.out) (hne _ (by omega))).trans HR4.out
        have hs5 := hg5.size
        rw [World.size_alloc] at hs5
        have hG5 : Hid (w.grownBy w5 (some b)) := ⟨hg5.os.trans HG4.out.os, hg5.tape.trans HG4.out.tape, hg5.output.trans HG4.out.output, Nat.le_trans HG4.out.size hg5.size, fun k hk hr => (hg5.block k (Nat.lt_of_lt_of_le hk HG4.out.size) (hne _ (by omega))).trans (HG4.out.block k hk hr)⟩
        have HK5 : Hid (∀ x, (ok x ∨ (w3.heap.size ≤ x ∧ x < w4.heap.size)) → w.heap.size < x ∧ x < w5.heap.size) := fun x hx => by have := HKL.out x hx; omega
        clear ho5 hg5 hat5 hown0 hk0 h0 hsrc HN hne HE4 HR4 HG4 HKL HK HKX
        go_wp2_with fail
        go_roundg gk
        case measure => omega
        case rel => exact ⟨l ++ [t1], j1, _, _, rfl, HP2, hj1, by simp; omega, hr5, HK5, hR5, hE5, hG5⟩
end Go.Proofs.Yteokbmngebckjaa
namespace Go.Proofs.Yteokbmngebckjaa
open Go.RowKit
set_option linter.unusedVariables false
set_option linter.unusedSimpArgs false

theorem reads_ok {S : ByteArray} (hs : S.size ≤ 65536) : ∀ N n : Nat, n ≤ N → n ≤ 1000000 → ROk 109 pAtom S n ∧ ROk 105 pPart S n ∧ ROk 98 pRow S n ∧ ROk 83 pAlt S n
  | 0, n, hn, _ => by
    obtain rfl : n = 0 := by omega
    refine ⟨?_, ?_, ?_, ?_⟩ <;> (intro i t j b w hp; simp [pAtom, pPart, pRow, pAlt] at hp)
  | N + 1, n, hn, hm => by
    cases n with
    | zero => refine ⟨?_, ?_, ?_, ?_⟩ <;> (intro i t j b w hp; simp [pAtom, pPart, pRow, pAlt] at hp)
    | succ n =>
      have ih := reads_ok hs N
      exact ⟨atom_step hs n (ih n (by omega) (by omega)).2.2.2, part_step hs n (ih n (by omega) (by omega)).1, row_step hs n (by omega) (fun m h => (ih m (by omega) (by omega)).2.1), alt_step hs n (by omega) (fun m h => (ih m (by omega) (by omega)).2.2.1)⟩

set_option maxRecDepth 100000 in
set_option maxHeartbeats 1000000 in
theorem idle_any (p q r : Value) (w : World) :
    CallsD Try.prog 82 #[p, q, r] .returning w fun e u' w' => e = .returned (.tuple #[]) ∧ u' = .returning ∧ w' = w := by
  refine callsD_of_wpS Try.func82 rfl fun c₀ cs hu => ?_
  apply wpS_seq
  apply wpS_region
  simp [wpOpsS, go_sem, recoverD, hu, Try.ntmps82, Exit.thenS]
  refine wpS_of_wp ?_
  go_wp2_with fail
  cases c₀
  simp_all [bodyPostS, results, Try.results82]

theorem row_drewN {ok : Nat → Prop} {w : World} {ks : List Re} {A : Option Addr} {i : Nat} (h : InRow RE ok w ks A i) (n : Nat) : InRow RE ok (w.drewN n) ks A i := h.below (pw_drewN (Below.refl _ _) n)
set_option maxRecDepth 100000 in
set_option maxHeartbeats 2000000 in
theorem whole_any {S : ByteArray} (hs : S.size ≤ 65536) (n : Nat) (hn : n ≤ 1000000) {t : Re} {b : Nat} {w : World} (hp : pAlt S.data.toList n 0 = some (t, S.size)) (hr : Rd b S 0 w) :
    Calls Try.prog 60 #[.pointer (some ⟨b, 0, none⟩)] w fun e w' => ∃ h ks A c, e = .returned (.tuple #[reV h A ks.length c, .int .i64 0, .int .i64 0]) ∧ t = .mk h ks ∧ ks.length ≤ c ∧ InRow RE (fun x => w.heap.size ≤ x) w' ks A 0 ∧ w.grownBy w' (some b) := by
  have hmf : ∀ (fn : Fn) (first cap : Array Value) (w : World), (Instr.makeFunc fn first cap).run Try.prog w = .ok (.func fn first cap) w := fun _ _ _ _ => rfl
  have HA := Lib.hid (fun (X : World) (h : Rd b S 0 X) => ((reads_ok hs n n (Nat.le_refl _) hn).2.2.2 0 t S.size b X hp (Nat.zero_le _) h).2)
  have hlt := hr.lt
  obtain ⟨W, hW⟩ : ∃ W, ((w.alloc (.cells reZ 34)).alloc (.cells #[.int .i64 0] 3)).alloc (.cells #[.int .i64 0] 54) = W := ⟨_, rfl⟩
  have hbW : Below w.heap.size w W := by rw [← hW]; exact below_new (below_new (below_new (Below.refl _ _) _) _) _
  have hrW := hr.keep hbW
  have e1 : W.heap[w.heap.size]? = some (.cells reZ 34 (0, 0)) := by
    rw [← hW]
    exact heap_keep1 (heap_keep1 (new_at1 (w := w) _) _) _
  have e2 : W.heap[w.heap.size + 1]? = some (.cells #[.int .i64 0] 3 (0, 0)) := by
    rw [← hW]
    have := heap_keep1 (new_at1 (w := w.alloc (.cells reZ 34)) (.cells #[.int .i64 0] 3)) (.cells #[.int .i64 0] 54)
    rw [World.size_alloc] at this
    exact this
  have e3 : W.heap[w.heap.size + 1 + 1]? = some (.cells #[.int .i64 0] 54 (0, 0)) := by
    rw [← hW]
    have := new_at1 (w := (w.alloc (.cells reZ 34)).alloc (.cells #[.int .i64 0] 3)) (.cells #[.int .i64 0] 54)
    rw [World.size_alloc, World.size_alloc] at this
    exact this
  have HE1 := Lib.hid e1
  have HE2 := Lib.hid e2
  have HE3 := Lib.hid e3
  have HRW := Lib.hid hrW
  have HBW := Lib.hid hbW
  have HWW := Lib.hid hW
  have hsW := lt_of_block e3
  clear e1 e2 e3 hrW hbW hW hp hr
  go_enter_defers Try.func60, Try.ntmps60
  go_wp2_with fail
  refine (HA.out _ (by rw [HWW.out]; exact HRW.out)).mono ?_
  rw [HWW.out]
  rintro e w1 ⟨h1, k1, A1, c1, rfl, et, hc1, hr1, hrd1, hg1⟩
  have HG1 := Lib.hid (grown_trans (grown_below (grown_refl w (some b)) HBW.out) hg1)
  have q1 := (hg1.block _ (lt_of_block HE1.out) (by simp; omega)).trans HE1.out
  have q2 := (hg1.block _ (lt_of_block HE2.out) (by simp; omega)).trans HE2.out
  have q3 := (hg1.block _ (lt_of_block HE3.out) (by simp; omega)).trans HE3.out
  have HT := Lib.hid et
  have HC := Lib.hid hc1
  have HR1 := Lib.hid hr1
  obtain ⟨z0, z1, _⟩ := hrd1.cells
  obtain ⟨⟨x0, x1, x2, x3, x4, x5⟩, f0, f1, f2, f3, f4, f5⟩ := re_cells q1
  have HRD := Lib.hid (hrd1.six (c := w.heap.size) (u0 := .int .u8 (h1.k.toNat : Int)) (u1 := .int .u64 (h1.s.a.toNat : Int)) (u2 := .int .u64 (h1.s.b.toNat : Int)) (u3 := .int .u64 (h1.s.c.toNat : Int)) (u4 := .int .u64 (h1.s.d.toNat : Int)) (u5 := .slice A1 k1.length c1) (by omega))
  have HG2 := Lib.hid (grown_six (u0 := .int .u8 (h1.k.toNat : Int)) (u1 := .int .u64 (h1.s.a.toNat : Int)) (u2 := .int .u64 (h1.s.b.toNat : Int)) (u3 := .int .u64 (h1.s.c.toNat : Int)) (u4 := .int .u64 (h1.s.d.toNat : Int)) (u5 := .slice A1 k1.length c1) HG1.out (Nat.le_refl _))
  have HR2 := Lib.hid (row_six (b := w.heap.size) (u0 := .int .u8 (h1.k.toNat : Int)) (u1 := .int .u64 (h1.s.a.toNat : Int)) (u2 := .int .u64 (h1.s.b.toNat : Int)) (u3 := .int .u64 (h1.s.c.toNat : Int)) (u4 := .int .u64 (h1.s.d.toNat : Int)) (u5 := .slice A1 k1.length c1) HR1.out fun x hx => by omega)
  have HQ1 := Lib.hid (six_setCells (u0 := .int .u8 (h1.k.toNat : Int)) (u1 := .int .u64 (h1.s.a.toNat : Int)) (u2 := .int .u64 (h1.s.b.toNat : Int)) (u3 := .int .u64 (h1.s.c.toNat : Int)) (u4 := .int .u64 (h1.s.d.toNat : Int)) (u5 := .slice A1 k1.length c1) q1)
  have HQ2 := Lib.hid ((six_other (w := w1) (b := w.heap.size) (k := w.heap.size + 1) (u0 := .int .u8 (h1.k.toNat : Int)) (u1 := .int .u64 (h1.s.a.toNat : Int)) (u2 := .int .u64 (h1.s.b.toNat : Int)) (u3 := .int .u64 (h1.s.c.toNat : Int)) (u4 := .int .u64 (h1.s.d.toNat : Int)) (u5 := .slice A1 k1.length c1) (by omega)).trans q2)
  have HQ3 := Lib.hid ((six_other (w := w1) (b := w.heap.size) (k := w.heap.size + 1 + 1) (u0 := .int .u8 (h1.k.toNat : Int)) (u1 := .int .u64 (h1.s.a.toNat : Int)) (u2 := .int .u64 (h1.s.b.toNat : Int)) (u3 := .int .u64 (h1.s.c.toNat : Int)) (u4 := .int .u64 (h1.s.d.toNat : Int)) (u5 := .slice A1 k1.length c1) (by omega)).trans q3)
  clear et hc1 hr1 hrd1 hg1 HA HE1 HE2 HE3 q1 q2 q3 HR1 HG1
  go_wp2_with fail
  generalize (((((w1.setCell ⟨w.heap.size, 0, none⟩ _).setCell ⟨w.heap.size, 1, none⟩ _).setCell ⟨w.heap.size, 2, none⟩ _).setCell ⟨w.heap.size, 3, none⟩ _).setCell ⟨w.heap.size, 4, none⟩ _).setCell ⟨w.heap.size, 5, none⟩ _ = w2 at *
  clear x0 x1 x2 x3 x4 x5 f0 f1 f2 f3 f4 f5 z0 z1
  obtain ⟨z0, z1, _⟩ := HRD.out.cells
  have gl : decide ((S.size : Int) < (S.size : Int)) = false := by simp
  go_quiet (fail)
  have r1 : (w2.drewN nq).heap[w.heap.size]? = _ := HQ1.out
  have r2 : (w2.drewN nq).heap[w.heap.size + 1]? = _ := HQ2.out
  have r3 : (w2.drewN nq).heap[w.heap.size + 1 + 1]? = _ := HQ3.out
  have HG3 := Lib.hid (grown_drewN HG2.out nq)
  have HR3 : Hid (InRow RE (fun x => W.heap.size ≤ x) (w2.drewN nq) k1 A1 0) := row_drewN HR2.out nq
  generalize w2.drewN nq = w3 at *
  obtain ⟨⟨x0, x1, x2, x3, x4, x5⟩, f0, f1, f2, f3, f4, f5⟩ := re_cells r1
  have y0 : w3.cell? ⟨w.heap.size + 1, 0, none⟩ = some (.int .i64 0) ∧ w3.frozen? ⟨w.heap.size + 1, 0, none⟩ = false := by constructor <;> simp [World.cell?, World.frozen?, r2]
  have v0 : w3.cell? ⟨w.heap.size + 1 + 1, 0, none⟩ = some (.int .i64 0) ∧ w3.frozen? ⟨w.heap.size + 1 + 1, 0, none⟩ = false := by constructor <;> simp [World.cell?, World.frozen?, r3]
  obtain ⟨y0, fy⟩ := y0
  obtain ⟨v0, fv⟩ := v0
  have HQ1' := Lib.hid r1
  clear z0 z1 HRD HQ1 HQ2 HQ3 HG2 HR2 r1 r2 r3
  go_wp2_with fail
  have q1 := six_setCells (u0 := .int .u8 (h1.k.toNat : Int)) (u1 := .int .u64 (h1.s.a.toNat : Int)) (u2 := .int .u64 (h1.s.b.toNat : Int)) (u3 := .int .u64 (h1.s.c.toNat : Int)) (u4 := .int .u64 (h1.s.d.toNat : Int)) (u5 := .slice A1 k1.length c1) HQ1'.out
  have HG4 := Lib.hid (grown_set (grown_set (grown_six (u0 := .int .u8 (h1.k.toNat : Int)) (u1 := .int .u64 (h1.s.a.toNat : Int)) (u2 := .int .u64 (h1.s.b.toNat : Int)) (u3 := .int .u64 (h1.s.c.toNat : Int)) (u4 := .int .u64 (h1.s.d.toNat : Int)) (u5 := .slice A1 k1.length c1) HG3.out (Nat.le_refl _)) ⟨w.heap.size + 1, 0, none⟩ (.int .i64 0) (.inl (Nat.le_succ _))) ⟨w.heap.size + 1 + 1, 0, none⟩ (.int .i64 0) (.inl (by show _ ≤ w.heap.size + 1 + 1; omega)))
  have HR4 := Lib.hid (row_set (row_set (row_six (b := w.heap.size) (u0 := .int .u8 (h1.k.toNat : Int)) (u1 := .int .u64 (h1.s.a.toNat : Int)) (u2 := .int .u64 (h1.s.b.toNat : Int)) (u3 := .int .u64 (h1.s.c.toNat : Int)) (u4 := .int .u64 (h1.s.d.toNat : Int)) (u5 := .slice A1 k1.length c1) HR3.out fun x hx => by omega) ⟨w.heap.size + 1, 0, none⟩ (.int .i64 0) fun x hx => by show x ≠ w.heap.size + 1; omega) ⟨w.heap.size + 1 + 1, 0, none⟩ (.int .i64 0) fun x hx => by show x ≠ w.heap.size + 1 + 1; omega)
  have y1 := y0
  have v1 := v0
  generalize hw4 : ((((((w3.setCell ⟨w.heap.size, 0, none⟩ (.int .u8 (h1.k.toNat : Int))).setCell ⟨w.heap.size, 1, none⟩ (.int .u64 (h1.s.a.toNat : Int))).setCell ⟨w.heap.size, 2, none⟩ (.int .u64 (h1.s.b.toNat : Int))).setCell ⟨w.heap.size, 3, none⟩ (.int .u64 (h1.s.c.toNat : Int))).setCell ⟨w.heap.size, 4, none⟩ (.int .u64 (h1.s.d.toNat : Int))).setCell ⟨w.heap.size, 5, none⟩ (.slice A1 k1.length c1)) = w4 at *
  have c1' : (w4.setCell ⟨w.heap.size + 1, 0, none⟩ (.int .i64 0)).heap[w.heap.size]? = _ := (Below.heap_setCell _ _ _ _ (by show w.heap.size ≠ w.heap.size + 1; omega)).trans q1
  have c2' : ((w4.setCell ⟨w.heap.size + 1, 0, none⟩ (.int .i64 0)).setCell ⟨w.heap.size + 1 + 1, 0, none⟩ (.int .i64 0)).heap[w.heap.size]? = _ := (Below.heap_setCell _ _ _ _ (by show w.heap.size ≠ w.heap.size + 1 + 1; omega)).trans c1'
  have y4 : w4.heap[w.heap.size + 1]? = w3.heap[w.heap.size + 1]? := by rw [← hw4]; exact six_other (by omega)
  have v4 : w4.heap[w.heap.size + 1 + 1]? = w3.heap[w.heap.size + 1 + 1]? := by rw [← hw4]; exact six_other (by omega)
  have d1 : ((w4.setCell ⟨w.heap.size + 1, 0, none⟩ (.int .i64 0)).setCell ⟨w.heap.size + 1 + 1, 0, none⟩ (.int .i64 0)).cell? ⟨w.heap.size + 1, 0, none⟩ = some (.int .i64 0) := by
    have e1 : w4.cell? ⟨w.heap.size + 1, 0, none⟩ = some (.int .i64 0) := (World.cell?_of_block y4).trans y1
    have e2 : ((w4.setCell ⟨w.heap.size + 1, 0, none⟩ (.int .i64 0)).setCell ⟨w.heap.size + 1 + 1, 0, none⟩ (.int .i64 0)).cell? ⟨w.heap.size + 1, 0, none⟩ = (w4.setCell ⟨w.heap.size + 1, 0, none⟩ (.int .i64 0)).cell? ⟨w.heap.size + 1, 0, none⟩ := World.cell?_of_block (Below.heap_setCell _ _ _ _ (by show w.heap.size + 1 ≠ w.heap.size + 1 + 1; omega))
    rw [e2]
    exact World.cell?_setCell_same' _ _ _ (by rw [e1]; rfl)
  have d2 : ((w4.setCell ⟨w.heap.size + 1, 0, none⟩ (.int .i64 0)).setCell ⟨w.heap.size + 1 + 1, 0, none⟩ (.int .i64 0)).cell? ⟨w.heap.size + 1 + 1, 0, none⟩ = some (.int .i64 0) := by
    have e1 : (w4.setCell ⟨w.heap.size + 1, 0, none⟩ (.int .i64 0)).cell? ⟨w.heap.size + 1 + 1, 0, none⟩ = some (.int .i64 0) := (World.cell?_of_block ((Below.heap_setCell _ _ _ _ (by show w.heap.size + 1 + 1 ≠ w.heap.size + 1; omega)).trans v4)).trans v1
    exact World.cell?_setCell_same' _ _ _ (by rw [e1]; rfl)
  obtain ⟨⟨x0, x1, x2, x3, x4, x5⟩, _⟩ := re_cells c2'
  generalize (w4.setCell ⟨w.heap.size + 1, 0, none⟩ (.int .i64 0)).setCell ⟨w.heap.size + 1 + 1, 0, none⟩ (.int .i64 0) = w5 at *
  refine leaves_cons (f := 82) (args := #[.pointer (some ⟨w.heap.size, 0, none⟩), .pointer (some ⟨w.heap.size + 1, 0, none⟩), .pointer (some ⟨w.heap.size + 1 + 1, 0, none⟩)]) (by simp) (by simp [go_sem]) ?_
  refine (idle_any _ _ _ _).mono ?_
  rintro e u' w'' ⟨rfl, rfl, rfl⟩
  refine ⟨.tuple #[reV h1 A1 k1.length c1, .int .i64 0, .int .i64 0], by simp [results, Try.results60, go_sem, x0, x1, x2, x3, x4, x5, d1, d2], h1, k1, A1, c1, rfl, HT.out, HC.out, HR4.out.weak fun x hx => by omega, HG4.out⟩
end Go.Proofs.Yteokbmngebckjaa
namespace Go.Proofs.Yteokbmngebckjaa
open Go.RowKit
set_option linter.unusedVariables false
set_option linter.unusedSimpArgs false

theorem below_grown {w x y : World} {b : Nat} (h : Below w.heap.size w x) (g : x.grownBy y (some b)) (hb : w.heap.size ≤ b) : Below w.heap.size w y :=
  ⟨g.os.trans h.os, g.tape.trans h.tape, g.output.trans h.output, Nat.le_trans h.size g.size, fun k hk => (g.block k (Nat.lt_of_lt_of_le hk h.size) (by intro e; cases e; omega)).trans (h.block k hk)⟩
set_option maxRecDepth 100000 in
set_option maxHeartbeats 2000000 in
theorem readRe_any {S : ByteArray} (hs : S.size ≤ 65536) (n : Nat) (hn : n ≤ 1000000) {t : Re} (hp : pAlt S.data.toList n 0 = some (t, S.size)) (hm : mayB t = true) (w : World) :
    Calls Try.prog 35 #[.string S] w fun e w' => ∃ h ks A c, e = .returned (.tuple #[reV h A ks.length c, .int .i64 0, .int .i64 0]) ∧ t = .mk h ks ∧ ks.length ≤ c ∧ InRow RE (fun x => w.heap.size ≤ x) w' ks A 0 ∧ Below w.heap.size w w' := by
  have HM := Lib.hid hm
  have hsz : t.size ≤ 2000 := by
    unfold mayB at hm
    simp only [Bool.and_eq_true, decide_eq_true_eq] at hm
    exact hm.2
  have g : decide ((S.size : Int) > 65536) = false := by simp; omega
  obtain ⟨W, hW⟩ : ∃ W, (w.alloc (.cells reZ 34)).alloc (.cells #[.string S, .int .i64 0] 89) = W := ⟨_, rfl⟩
  have hbW : Below w.heap.size w W := by rw [← hW]; exact below_new (below_new (Below.refl _ _) _) _
  have e1 : W.heap[w.heap.size]? = some (.cells reZ 34 (0, 0)) := by
    rw [← hW]
    exact heap_keep1 (new_at1 (w := w) _) _
  have e2 : Rd (w.heap.size + 1) S 0 W := by
    rw [← hW]
    have := new_at1 (w := w.alloc (.cells reZ 34)) (.cells #[.string S, .int .i64 0] 89)
    rw [World.size_alloc] at this
    exact this
  have hsW := lt_of_block e2
  have HWh := Lib.hid (whole_any hs n hn hp e2)
  have HE1 := Lib.hid e1
  have HBW := Lib.hid hbW
  have HWW := Lib.hid hW
  clear e1 e2 hbW hW hp hm
  go_enter Try.func35, Try.ntmps35
  go_wp2_with fail
  have hcall := HWh.out
  rw [← HWW.out] at hcall
  refine hcall.mono ?_
  rw [HWW.out]
  rintro e w1 ⟨h1, k1, A1, c1, rfl, et, hc1, hr1, hg1⟩
  have hb1 := below_grown HBW.out hg1 (Nat.le_succ _)
  have q1 := (hg1.block _ (lt_of_block HE1.out) (by simp)).trans HE1.out
  have hr2 := hr1.there
  have hsw1 := lt_of_block q1
  obtain ⟨X, hX⟩ : ∃ X, w1.alloc (.cells (reA h1 A1 k1.length c1) 34) = X := ⟨_, rfl⟩
  have hbX : Below w1.heap.size w1 X := by rw [← hX]; exact below_new (Below.refl _ _) _
  have x1 : X.heap[w1.heap.size]? = some (.cells (reA h1 A1 k1.length c1) 34 (0, 0)) := by rw [← hX]; exact new_at1 _
  have hsX : X.heap.size = w1.heap.size + 1 := by rw [← hX]; simp
  obtain ⟨Y, hY⟩ : ∃ Y, X.alloc (.cells (reA h1 A1 k1.length c1) 34) = Y := ⟨_, rfl⟩
  have hbY : Below X.heap.size X Y := by rw [← hY]; exact below_new (Below.refl _ _) _
  have y1 : Y.heap[w1.heap.size + 1]? = some (.cells (reA h1 A1 k1.length c1) 34 (0, 0)) := by rw [← hY, ← hsX]; exact new_at1 _
  have hz : 1 + T.sizes k1 ≤ 2000 := by rw [et] at hsz; exact hsz
  have HMay := Lib.hid (May_any [.mk h1 k1] (some ⟨w1.heap.size + 1, 0, none⟩) 1 Y (by simp only [T.sizes, T.size]; omega) (row_one (P := fun _ => True) y1 trivial hc1 (((hr1.below hbX).below hbY).weak fun _ _ => trivial)))
  have hall : [T.mk h1 k1].all mayB = true := by rw [← et]; simp [HM.out]
  rw [hall] at HMay
  have HQ := Lib.hid (((hbY.block _ (by omega)).trans ((hbX.block _ hsw1).trans q1)))
  have HX1 := Lib.hid ((hbY.block _ (by omega)).trans x1)
  have HB2 := Lib.hid (below_from (below_from hb1 hbX) hbY)
  have HR2 : Hid (InRow RE (fun x => w.heap.size < x) Y k1 A1 0) := ((hr1.below hbX).below hbY).weak fun x hx => by omega
  have HT := Lib.hid et
  have HC := Lib.hid hc1
  have HYY : Hid ((w1.alloc (.cells (reA h1 A1 k1.length c1) 34)).alloc (.cells (reA h1 A1 k1.length c1) 34) = Y) := by unfold Hid; rw [hX]; exact hY
  clear et hc1 hr1 hg1 hb1 q1 hr2 hbX hbY x1 y1 hX hY hall HWh hcall
  go_wp2_with fail
  have hcall := HMay.out
  rw [← HYY.out] at hcall
  refine hcall.mono ?_
  rw [HYY.out]
  rintro e w2 ⟨rfl, hb2⟩
  have HB3 := Lib.hid (below_from HB2.out hb2)
  have HR3 := Lib.hid (HR2.out.below hb2)
  have q2 := (hb2.block _ (lt_of_block HQ.out)).trans HQ.out
  have p2 := (hb2.block _ (lt_of_block HX1.out)).trans HX1.out
  obtain ⟨⟨x0, x1, x2, x3, x4, x5⟩, f0, f1, f2, f3, f4, f5⟩ := re_cells q2
  obtain ⟨⟨y0, y1, y2, y3, y4, y5⟩, _⟩ := re_cells p2
  clear hb2 HMay hcall HQ HX1 q2 p2 HB2 HR2
  go_wp2_with fail
  refine bodyPost_ret (v := .tuple #[reV h1 A1 k1.length c1, .int .i64 0, .int .i64 0]) (by simp [results, Try.results35, go_sem, x0, x1, x2, x3, x4, x5]) rfl ⟨h1, k1, A1, c1, rfl, HT.out, HC.out, (row_six HR3.out fun x hx => by omega).weak fun x hx => by omega, six_below HB3.out (Nat.le_refl _)⟩
end Go.Proofs.Yteokbmngebckjaa
