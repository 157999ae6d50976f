/- Rows of places: a place more. The document's: where texts end that an expression fits: leaves. The document's: where texts end that an expression fits: two behind one another, one of two. The document's: where texts end that an expression fits: as often as one likes. The document's: does an expression fit a text? -/
import Derived.Test.YteokbmngebckjaaDoorBo
import Derived.Test.YteokbmngebckjaaDoorBb
import Derived.OwnWalk
import Derived.Test.YteokbmngebckjaaDoorBe
import Derived.Test.YteokbmngebckjaaDoorBi
import Derived.Test.YteokbmngebckjaaDoorBd
namespace Go.Proofs.YteokbmngebckjaaDoor
open Go.RowKit
set_option linter.unusedVariables false
set_option linter.unusedSimpArgs false

theorem Tryd.info_bool : (Tryd.prog.info? 4).map (fun i => (i.zero, i.size, i.bytes)) = some (some (.bool false), 1, 1) := by kernel_rfl
theorem bool_src {w : World} {A : Option Addr} {l : List Bool} (h : Row1 Value.bool w A l) : Src w A l.length 1 (l.map Value.bool) :=
  ⟨by simp, fun j u hu => by
    rw [List.getElem?_map] at hu
    rcases e : l[j]? with _ | b
    · rw [e] at hu; cases hu
    · rw [e] at hu; cases hu; exact h j b e⟩
theorem bool_row {w : World} {A : Option Addr} {n : Nat} {l : List Bool} (h : Src w A n 1 (l.map Value.bool)) : Row1 Value.bool w A l := fun k x hx => h.2 k _ (by rw [List.getElem?_map, hx]; rfl)
theorem bool_own {w : World} {base g n cap : Nat} {e : TypeId} {l : List Bool} (h : w.ownsRow base e 1 (.slice (some ⟨g, 0, none⟩) n cap) n (l.map Value.bool)) : Row1 Value.bool w (some ⟨g, 0, none⟩) l := fun k x hx =>
  ⟨_, rfl, h.cells (g := g) rfl k _ (by rw [List.getElem?_map, hx]; rfl)⟩
theorem bool_set {w : World} {base g n cap i : Nat} {e : TypeId} {l : List Bool} {b : Bool} (h : w.ownsRow base e 1 (.slice (some ⟨g, 0, none⟩) n cap) n (l.map Value.bool)) :
    (w.setCell ⟨g, i, none⟩ (.bool b)).ownsRow base e 1 (.slice (some ⟨g, 0, none⟩) n cap) n ((l.set i b).map Value.bool) := by
  have := (h.stored i (.bool b)).1
  rwa [← List.map_set] at this
theorem bool_cell {w : World} {g : Nat} {l : List Bool} {k : Nat} {x : Bool} (h : Row1 Value.bool w (some ⟨g, 0, none⟩) l) (hx : l[k]? = some x) : w.cell? ⟨g, k, none⟩ = some (.bool x) := by
  obtain ⟨ad, e, hc⟩ := h k x hx
  cases e
  rwa [plain_add] at hc
theorem own_len {w : World} {base g n cap : Nat} {e : TypeId} {l : List Bool} (h : w.ownsRow base e 1 (.slice (some ⟨g, 0, none⟩) n cap) n (l.map Value.bool)) : l.length = n := by
  have := h.1
  simpa using this
end Go.Proofs.YteokbmngebckjaaDoor
namespace Go.Proofs.YteokbmngebckjaaDoor
open Go.RowKit
set_option linter.unusedVariables false
set_option linter.unusedSimpArgs false

theorem bs_len (S : ByteArray) : S.data.toList.length = S.size := by simp
def EndPost (t : Re) (S : ByteArray) (Af : Option Addr) (fr : List Bool) (w : World) (e : Ending) (w' : World) : Prop := ∃ A c l, e = .returned (.slice A (S.size + 1) c) ∧ EndsP t S.data.toList fr l ∧ Row1 Value.bool w' A l ∧ ((A = Af ∧ l = fr) ∨ ∀ ad, A = some ad → w.heap.size ≤ ad.block) ∧ Below w.heap.size w w'
def EndOk (f : FuncId) (h : RH) (ks : List Re) : Prop := ∀ (P : Nat → Prop) (A : Option Addr) (c : Nat) (S : ByteArray) (Af : Option Addr) (cf : Nat) (fr : List Bool) (w : World), ks.length ≤ c → InRow RE P w ks A 0 → S.size ≤ 100 → fr.length = S.size + 1 → Row1 Value.bool w Af fr →
  Calls Tryd.prog f #[reV h A ks.length c, .string S, .slice Af (S.size + 1) cf] w (EndPost (.mk h ks) S Af fr w)
def EndOkT (f : FuncId) (t : Re) : Prop := ∀ h ks, t = .mk h ks → EndOk f h ks
theorem made_bools {w : World} {base g n cap m : Nat} {e : TypeId} (h : w.ownsRow base e 1 (.slice (some ⟨g, 0, none⟩) n cap) n (madeCells (Value.bool false).cells m).toList) (hm : m = n) : w.ownsRow base e 1 (.slice (some ⟨g, 0, none⟩) n cap) n ((List.replicate n false).map Value.bool) := by
  rw [hm] at h
  have e1 : (madeCells (Value.bool false).cells n).toList = (List.replicate n false).map Value.bool := by
    rw [show (Value.bool false).cells = #[.bool false] from rfl, toList_madeCells_one, List.map_replicate]
  rwa [e1] at h
theorem none_true (n j : Nat) : (List.replicate n false)[j]? ≠ some true := fun h => by
  rw [List.getElem?_replicate] at h
  split at h <;> cases h
def ClsTo (S : ByteArray) (X : S4) (fr l : List Bool) (k : Nat) : Prop := l.length = S.size + 1 ∧ ∀ j : Nat, l[j]? = some true ↔ ∃ i c, i < k ∧ j = i + 1 ∧ S.data.toList[i]? = some c ∧ fr[i]? = some true ∧ X.has c.toNat = true
theorem cls_skip {S : ByteArray} {X : S4} {fr l : List Bool} {k : Nat} {c : UInt8} (h : ClsTo S X fr l k) (hc : S.data.toList[k]? = some c) (hn : fr[k]? = some false ∨ X.has c.toNat = false) : ClsTo S X fr l (k + 1) := by
  refine ⟨h.1, fun j => ?_⟩
  rw [h.2]
  constructor
  · rintro ⟨i, d, h1, h2⟩; exact ⟨i, d, by omega, h2⟩
  · rintro ⟨i, d, h1, h2, h3, h4, h5⟩
    refine ⟨i, d, ?_, h2, h3, h4, h5⟩
    rcases Nat.lt_or_ge i k with h | h
    · exact h
    · have e : i = k := by omega
      subst e
      rw [hc] at h3
      cases h3
      rcases hn with hn | hn
      · rw [hn] at h4; cases h4
      · rw [hn] at h5; cases h5
theorem cls_mark {S : ByteArray} {X : S4} {fr l : List Bool} {k : Nat} {c : UInt8} (h : ClsTo S X fr l k) (hc : S.data.toList[k]? = some c) (h1 : fr[k]? = some true) (h2 : X.has c.toNat = true) (hk : k + 1 < l.length) : ClsTo S X fr (l.set (k + 1) true) (k + 1) := by
  refine ⟨by rw [List.length_set]; exact h.1, fun j => ?_⟩
  rw [List.getElem?_set]
  by_cases e : k + 1 = j
  · rw [if_pos e, if_pos hk]
    exact ⟨fun _ => ⟨k, c, by omega, e.symm, hc, h1, h2⟩, fun _ => rfl⟩
  · rw [if_neg e, h.2]
    constructor
    · rintro ⟨i, d, h3, h4⟩; exact ⟨i, d, by omega, h4⟩
    · rintro ⟨i, d, h3, h4, h5⟩; exact ⟨i, d, by omega, h4, h5⟩
end Go.Proofs.YteokbmngebckjaaDoor
namespace Go.Proofs.YteokbmngebckjaaDoor
open Go.RowKit
set_option linter.unusedVariables false
set_option linter.unusedSimpArgs false

def AltTo (n : Nat) (a b l : List Bool) (k : Nat) : Prop := l.length = n ∧ ∀ j : Nat, l[j]? = some true ↔ (j < k ∧ (a[j]? = some true ∨ b[j]? = some true))
theorem alt_set {n k : Nat} {a b l : List Bool} {x y : Bool} (h : AltTo n a b l k) (hx : a[k]? = some x) (hy : b[k]? = some y) (hk : k < n) (hf : l[k]? = some false ∨ True) : AltTo n a b (l.set k (x || y)) (k + 1) := by
  refine ⟨by rw [List.length_set]; exact h.1, fun j => ?_⟩
  rw [List.getElem?_set]
  by_cases e : k = j
  · subst e
    rw [if_pos rfl, if_pos (by rw [h.1]; exact hk), hx, hy]
    cases x <;> cases y <;> simp
  · rw [if_neg e, h.2]
    constructor
    · rintro ⟨h1, h2⟩; exact ⟨by omega, h2⟩
    · rintro ⟨h1, h2⟩; exact ⟨by omega, h2⟩
end Go.Proofs.YteokbmngebckjaaDoor
namespace Go.Proofs.YteokbmngebckjaaDoor
open Go.RowKit
set_option linter.unusedVariables false
set_option linter.unusedSimpArgs false

def falsesAt (w : World) (g : Nat) : Nat → Nat
  | 0 => 0
  | n + 1 => falsesAt w g n + (match w.cell? ⟨g, n, none⟩ with | some (.bool false) => 1 | _ => 0)
theorem falsesAt_take {w : World} {g : Nat} {l : List Bool} (h : Row1 Value.bool w (some ⟨g, 0, none⟩) l) : ∀ n, n ≤ l.length → falsesAt w g n = falses (l.take n)
  | 0, _ => rfl
  | n + 1, hn => by
    have hx := List.getElem?_eq_getElem (show n < l.length by omega)
    rw [falsesAt, falsesAt_take h n (by omega), List.take_add_one, hx, bool_cell h hx]
    unfold falses
    rw [List.count_append]
    cases l[n]'(by omega) <;> rfl
theorem falsesAt_own {w : World} {base g n cap : Nat} {e : TypeId} {l : List Bool} (h : w.ownsRow base e 1 (.slice (some ⟨g, 0, none⟩) n cap) n (l.map Value.bool)) : falsesAt w g n = falses l := by
  have hl := own_len h
  have := falsesAt_take (bool_own h) n (by omega)
  rwa [List.take_of_length_le (by omega)] at this
def boolN : Value → Nat
  | .bool true => 1
  | _ => 0
def StarTo (n : Nat) (l nx lk : List Bool) (k : Nat) (m : Bool) : Prop := lk.length = n ∧ (∀ j : Nat, lk[j]? = some true ↔ (l[j]? = some true ∨ (j < k ∧ nx[j]? = some true))) ∧ ((m = false ∧ lk = l) ∨ (m = true ∧ falses lk < falses l))
theorem star_skip {n k : Nat} {l nx lk : List Bool} {m : Bool} (h : StarTo n l nx lk k m) (hx : nx[k]? = some false ∨ lk[k]? = some true) : StarTo n l nx lk (k + 1) m := by
  refine ⟨h.1, fun j => ?_, h.2.2⟩
  rw [h.2.1]
  constructor
  · rintro (h1 | ⟨h1, h2⟩)
    · exact .inl h1
    · exact .inr ⟨by omega, h2⟩
  · rintro (h1 | ⟨h1, h2⟩)
    · exact .inl h1
    · rcases Nat.lt_or_ge j k with h3 | h3
      · exact .inr ⟨h3, h2⟩
      · have e : j = k := by omega
        subst e
        rcases hx with hx | hx
        · rw [hx] at h2; cases h2
        · rcases (h.2.1 j).1 hx with h4 | h4
          · exact .inl h4
          · exact .inr h4
theorem star_set {n k : Nat} {l nx lk : List Bool} {m : Bool} (h : StarTo n l nx lk k m) (hx : nx[k]? = some true) (hy : lk[k]? = some false) : StarTo n l nx (lk.set k true) (k + 1) true := by
  have hkl := (List.getElem?_eq_some_iff.1 hy).1
  refine ⟨by rw [List.length_set]; exact h.1, fun j => ?_, .inr ⟨rfl, ?_⟩⟩
  · rw [List.getElem?_set]
    by_cases e : k = j
    · subst e
      rw [if_pos rfl, if_pos hkl]
      exact ⟨fun _ => .inr ⟨by omega, hx⟩, fun _ => rfl⟩
    · rw [if_neg e, h.2.1]
      constructor
      · rintro (h1 | ⟨h1, h2⟩)
        · exact .inl h1
        · exact .inr ⟨by omega, h2⟩
      · rintro (h1 | ⟨h1, h2⟩)
        · exact .inl h1
        · exact .inr ⟨by omega, h2⟩
  · have h1 := falses_set hy
    rcases h.2.2 with ⟨_, h2⟩ | ⟨_, h2⟩
    · rw [h2] at h1 ⊢; omega
    · omega
end Go.Proofs.YteokbmngebckjaaDoor
namespace Go.Proofs.YteokbmngebckjaaDoor
open Go.RowKit
set_option linter.unusedVariables false
set_option linter.unusedSimpArgs false

def EndsPost (t : Re) (S : ByteArray) (w : World) (e : Ending) (w' : World) : Prop := ∃ A c l, e = .returned (.slice A (S.size + 1) c) ∧ l.length = S.size + 1 ∧ Row1 Value.bool w' A l ∧ (l[S.size]? = some true ↔ (mayB t = true ∧ LT t S.data.toList)) ∧ Below w.heap.size w w'
def FitsPost (t : Re) (S : ByteArray) (w : World) (e : Ending) (w' : World) : Prop := ∃ b : Bool, e = .returned (.bool b) ∧ (b = true ↔ (mayB t = true ∧ LT t S.data.toList)) ∧ Below w.heap.size w w'
end Go.Proofs.YteokbmngebckjaaDoor
