/- Expressions: how many nodes; whether they may be. -/
import Derived.Test.YthbcofbdgljfbaaDoorTree
import Derived.Deep.QuietTactic
import Derived.BigQuiet
namespace Go.Proofs.YthbcofbdgljfbaaDoor
open Go.RowKit
set_option linter.unusedVariables false
set_option linter.unusedSimpArgs false

theorem cell_0 {ad : Addr} {w : World} {i s : Nat} {cs : List Value} (h : ∀ j u, cs[j]? = some u → w.cell? (ad.add (i * s + j)) = some u) {u : Value} (hu : cs[0]? = some u) :
    w.cell? (ad.add (i * s)) = some u := by
  have := h 0 u hu
  simpa using this
theorem cell_j {ad : Addr} {w : World} {i s : Nat} {cs : List Value} (h : ∀ j u, cs[j]? = some u → w.cell? (ad.add (i * s + j)) = some u) (j : Nat) (hj : j ≠ 0) {u : Value} (hu : cs[j]? = some u) :
    w.cell? ⟨(ad.add (i * s)).block, (ad.add (i * s)).off + j, none⟩ = some u := by
  have := h j u hu
  rw [← this]
  congr 1
  unfold Addr.add
  by_cases h0 : i * s = 0 <;> simp [h0, hj, Nat.add_assoc]

/-- an expression as a value -/
abbrev reV (h : RH) (A : Option Addr) (n c : Nat) : Value :=
  .agg #[.int .u8 (h.k.toNat : Int), .int .u64 (h.s.a.toNat : Int), .int .u64 (h.s.b.toNat : Int), .int .u64 (h.s.c.toNat : Int), .int .u64 (h.s.d.toNat : Int), .slice A n c]
/-- an expression in a row: its cells -/
theorem re_at {ok : Nat → Prop} {w : World} {ts : List Re} {A : Option Addr} (hr : InRow RE ok w ts A 0) {k : Nat} (hk : k < ts.length) :
    ∃ (t : Re) (ad : Addr) (h : RH) (ks : List Re) (A1 : Option Addr) (c1 : Nat), A = some ad ∧ ts[k]? = some t ∧ t = .mk h ks ∧ ks.length ≤ c1 ∧ InRow RE ok w ks A1 0 ∧
      w.cell? (ad.add (k * 6)) = some (.int .u8 (h.k.toNat : Int)) ∧
      w.cell? ⟨(ad.add (k * 6)).block, (ad.add (k * 6)).off + 1, none⟩ = some (.int .u64 (h.s.a.toNat : Int)) ∧
      w.cell? ⟨(ad.add (k * 6)).block, (ad.add (k * 6)).off + 2, none⟩ = some (.int .u64 (h.s.b.toNat : Int)) ∧
      w.cell? ⟨(ad.add (k * 6)).block, (ad.add (k * 6)).off + 3, none⟩ = some (.int .u64 (h.s.c.toNat : Int)) ∧
      w.cell? ⟨(ad.add (k * 6)).block, (ad.add (k * 6)).off + 4, none⟩ = some (.int .u64 (h.s.d.toNat : Int)) ∧
      w.cell? ⟨(ad.add (k * 6)).block, (ad.add (k * 6)).off + 5, none⟩ = some (.slice A1 ks.length c1) := by
  have hk' : ts[k]? = some ts[k] := by simp [hk]
  obtain ⟨ad, cs, hA, _, hc, ht⟩ := hr.at_ k _ hk'
  rw [Nat.zero_add] at hc
  generalize ts[k] = t at *
  obtain ⟨h, ks⟩ := t
  simp only [InT] at ht
  obtain ⟨A1, c1, rfl, hc1, hr1⟩ := ht
  exact ⟨_, ad, h, ks, A1, c1, hA, hk', rfl, hc1, hr1, cell_0 hc rfl, cell_j hc 1 (by decide) rfl, cell_j hc 2 (by decide) rfl, cell_j hc 3 (by decide) rfl, cell_j hc 4 (by decide) rfl, cell_j hc 5 (by decide) rfl⟩

/-- a node alone may be: its head, and how many kids it has -/
def okNode (h : RH) (n : Nat) : Bool :=
  if h.k.toNat = 1 ∨ h.k.toNat = 2 then decide (n = 0) && decide (h.s = S4.zero)
  else if h.k.toNat = 3 then decide (n = 0) && !decide (h.s = S4.zero)
  else if h.k.toNat = 4 ∨ h.k.toNat = 5 then decide (n = 2) && decide (h.s = S4.zero)
  else if h.k.toNat = 6 then decide (n = 1) && decide (h.s = S4.zero)
  else false
mutual
def okT : Re → Bool
  | .mk h ks => okNode h ks.length && okL ks
def okL : List Re → Bool
  | [] => true
  | t :: ts => okT t && okL ts
end
theorem okL_all (ts : List Re) : okL ts = ts.all okT := by
  induction ts with
  | nil => simp [okL]
  | cons t r ih => simp [okL, ih]
/-- an expression may be -/
def mayB (t : Re) : Bool := okT t && decide (t.size ≤ 2000)

end Go.Proofs.YthbcofbdgljfbaaDoor
