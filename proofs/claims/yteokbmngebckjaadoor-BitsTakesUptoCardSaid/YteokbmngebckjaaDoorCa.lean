/- The document's right value: at Eps, at a class, at an Alt. The document's right value: at a Seq. The document's right value: at a Star. The document's right value: Right. -/
import Derived.Test.YteokbmngebckjaaDoorBs
import Derived.Test.YteokbmngebckjaaDoorBx
import Derived.Test.YteokbmngebckjaaDoorBe
namespace Go.Proofs.YteokbmngebckjaaDoor
open Go.RowKit
set_option linter.unusedVariables false
set_option linter.unusedSimpArgs false

/-- does an expression fit a text -/
noncomputable def fitB (t : Re) (s : List UInt8) : Bool := by classical exact decide (LT t s)
theorem fitB_true {t : Re} {s : List UInt8} : fitB t s = true ↔ LT t s := by unfold fitB; simp
theorem fitB_false {t : Re} {s : List UInt8} : fitB t s = false ↔ ¬ LT t s := by unfold fitB; simp
theorem may_iff {t : Re} : mayB t = true ↔ okT t = true ∧ t.size ≤ 2000 := by
  unfold mayB
  simp only [Bool.and_eq_true, decide_eq_true_eq]
def RtPost (t : Re) (s : List UInt8) (w : World) (e : Ending) (w' : World) : Prop := ∃ h' k' A' c', e = .returned (vaV h' A' k'.length c') ∧ RV t s (.mk h' k') ∧ k'.length ≤ c' ∧ InRow VE (fun x => w.heap.size ≤ x) w' k' A' 0 ∧ Below w.heap.size w w'
theorem may_two {k : UInt8} {x y : Re} (h : mayB (.mk ⟨k, S4.zero⟩ [x, y]) = true) : mayB x = true ∧ mayB y = true := by
  obtain ⟨h1, h2⟩ := may_iff.1 h
  simp only [T.size, T.sizes] at h2
  exact ⟨may_iff.2 ⟨(okT_two h1).1, by omega⟩, may_iff.2 ⟨(okT_two h1).2, by omega⟩⟩
theorem may_one {k : UInt8} {x : Re} (h : mayB (.mk ⟨k, S4.zero⟩ [x]) = true) : mayB x = true := by
  obtain ⟨h1, h2⟩ := may_iff.1 h
  simp only [T.size, T.sizes] at h2
  exact may_iff.2 ⟨okT_one h1, by omega⟩
end Go.Proofs.YteokbmngebckjaaDoor
namespace Go.Proofs.YteokbmngebckjaaDoor
open Go.RowKit
set_option linter.unusedVariables false
set_option linter.unusedSimpArgs false

theorem seq_some {x y : Re} {s : List UInt8} (h : LT (rSeq x y) s) (hn : ∀ j, 0 ≤ j → j ≤ s.length → ¬ (LT x (s.take j) ∧ LT y (s.drop j))) : False := by
  obtain ⟨u, v, rfl, h1, h2⟩ := (LT_seq _ _ _).1 h
  exact hn u.length (Nat.zero_le _) (by rw [List.length_append]; omega) ⟨by rw [List.take_left]; exact h1, by rw [List.drop_left]; exact h2⟩
theorem ext_take (S : ByteArray) (n : Nat) : (S.extract 0 n).data.toList = S.data.toList.take n := by simp
end Go.Proofs.YteokbmngebckjaaDoor
namespace Go.Proofs.YteokbmngebckjaaDoor
open Go.RowKit
set_option linter.unusedVariables false
set_option linter.unusedSimpArgs false

theorem star_nil {x : Re} {s : List UInt8} (h : LT (rStar x) s) (hn : ∀ j, 0 < j → j ≤ s.length → ¬ (LT x (s.take j) ∧ StarP (LT x) (s.drop j))) : s = [] := by
  have h2 := (LT_star _ _).1 h
  cases h2 with
  | nil => rfl
  | @cons u v h1 h2 h3 =>
    have : u.length ≠ 0 := fun e => h2 (List.eq_nil_of_length_eq_zero e)
    exact (hn u.length (by omega) (by rw [List.length_append]; omega) ⟨by rw [List.take_left]; exact h1, by rw [List.drop_left]; exact h3⟩).elim
theorem star_form {x : Re} {s : List UInt8} {v : Va} (h : RV (rStar x) s v) : ∃ l, v = vStars l := by
  cases h with
  | nil x => exact ⟨_, rfl⟩
  | cons x s t v l => exact ⟨_, rfl⟩
/-- a row of a value's kids, as an append takes it -/
theorem row_src {P : Nat → Prop} {w : World} {ks : List Va} {A : Option Addr} (h : InRow VE P w ks A 0) : ∃ news, Src w A ks.length 3 news ∧ (∀ u ∈ news, u.oneCell' = true) ∧ ∀ (k : Nat) (t : Va), ks[k]? = some t → ∃ c, (∀ j u, c[j]? = some u → news[k * (VE.sz + 1) + j]? = some u) ∧ InT VE P w t c := by
  obtain ⟨news, a1, a2, a3, a4⟩ := InRow.cells h
  refine ⟨news, ⟨a1, fun j u hu => ?_⟩, a3, a4⟩
  obtain ⟨ad, e, hc⟩ := a2 j u hu
  rw [Nat.zero_mul, Nat.zero_add] at hc
  exact ⟨ad, e, hc⟩
end Go.Proofs.YteokbmngebckjaaDoor
namespace Go.Proofs.YteokbmngebckjaaDoor
open Go.RowKit
set_option linter.unusedVariables false
set_option linter.unusedSimpArgs false

def RightRel (t : Re) (s : List UInt8) (v : Va) (b : Bool) : Prop := (b = true ∧ mayB t = true ∧ RV t s v) ∨ (b = false ∧ v = .mk vaH0 [] ∧ ¬ (mayB t = true ∧ LT t s))
def RightPost (t : Re) (s : List UInt8) (w : World) (e : Ending) (w' : World) : Prop := ∃ h' k' A' c' b, e = .returned (.tuple #[vaV h' A' k'.length c', .bool b]) ∧ RightRel t s (.mk h' k') b ∧ k'.length ≤ c' ∧ InRow VE (fun x => w.heap.size ≤ x) w' k' A' 0 ∧ Below w.heap.size w w'
end Go.Proofs.YteokbmngebckjaaDoor
