/- The coded derivative, as the program has it. The coded derivative, as the document has it. -/
import Derived.Test.YteokbmngebckjaaBi
import Derived.Test.YteokbmngebckjaaBf
import Derived.Test.YteokbmngebckjaaBb
import Derived.Deep.RegionHeld3
import Derived.Deep.RegionWith
import Derived.Deep.CutRange
namespace Go.Proofs.Yteokbmngebckjaa
open Go.RowKit
set_option linter.unusedVariables false
set_option linter.unusedSimpArgs false

/-- a value that is a coded expression, in blocks that were ok, or new -/
def CoPostX (P : Nat → Prop) (t : Co) (w : World) (e : Ending) (w' : World) : Prop := ∃ h ks A c, e = .returned (coV h A ks.length c) ∧ t = .mk h ks ∧ ks.length ≤ c ∧ InRow CE (fun x => P x ∨ w.heap.size ≤ x) w' ks A 0 ∧ Below w.heap.size w w'
theorem setHasU_any (s : S4) (d : UInt8) (w : World) : Calls Try.prog 80 #[setV s, .int .u8 (d.toNat : Int)] w fun e w' => e = .returned (.bool (s.has d.toNat)) ∧ Below w.heap.size w w' := by
  have := setHas_any s (d.toNat : Int) w (by omega) (by have := d.toNat_lt; omega)
  rw [Int.toNat_natCast] at this
  exact this
def StepOk (f : FuncId) (d : UInt8) (h : CH) (ks : List Co) : Prop := ∀ (P : Nat → Prop) (A : Option Addr) (c : Nat) (w : World), ks.length ≤ c → InRow CE P w ks A 0 →
  Calls Try.prog f #[coV h A ks.length c, .int .u8 (d.toNat : Int)] w (CoPostX P (stepC d (.mk h ks)) w)
def StepOkT (f : FuncId) (d : UInt8) (t : Co) : Prop := ∀ h ks, t = .mk h ks → StepOk f d h ks
theorem head_potA (x : Co) : x.head.b.length ≤ potV x := by
  obtain ⟨h, ks⟩ := x
  simp only [T.head, potV]; omega
theorem new_kept {w0 wi : World} {o : Obj} (h : Below (w0.alloc o).drew.heap.size (w0.alloc o).drew wi) : wi.heap[w0.heap.size]? = some o :=
  (h.block _ (by show w0.heap.size < (w0.alloc o).heap.size; simp)).trans (new_at1 (w := w0) o)
theorem new_kept2 {w0 wi : World} {o : Obj} (h : Below (w0.drew.alloc o).heap.size (w0.drew.alloc o) wi) : wi.heap[w0.heap.size]? = some o :=
  (h.block _ (by show w0.drew.heap.size < (w0.drew.alloc o).heap.size; simp)).trans (new_at1 (w := w0.drew) o)
theorem coA_one (h : CH) (A : Option Addr) (n c : Nat) : ∀ u ∈ (coA h A n c).toList, u.oneCell' = true := by
  intro u hu
  simp at hu
  rcases hu with rfl | rfl | rfl | rfl | rfl | rfl | rfl <;> rfl
/-- one more behind a row of the call's own -/
theorem co_app {okk P : Nat → Prop} {w1 w2 : World} {base : Nat} {o : Value} {ts : List Co} {tb : Co} {h2 : CH} {k2 : List Co} {A2 : Option Addr} {c2 : Nat} {e : TypeId}
    (HO : OwnT CE okk w1 base e o ts) (hok : ∀ x, okk x → x < w1.heap.size) (hP : ∀ x, P x → x < w1.heap.size ∧ some x ≠ o.ownBlock) (hz : Below w1.heap.size w1 w2) (e2 : tb = .mk h2 k2) (hc2 : k2.length ≤ c2) (hr2 : InRow CE (fun x => P x ∨ w1.heap.size ≤ x) w2 k2 A2 0) :
    ∃ cs0, (w2.alloc (.cells (coA h2 A2 k2.length c2) e)).ownsRow base e 7 o ts.length cs0 ∧ Src (w2.alloc (.cells (coA h2 A2 k2.length c2) e)) (some ⟨w2.heap.size, 0, none⟩) 1 7 (coA h2 A2 k2.length c2).toList ∧
      ∀ v5 w5, w5.ownsRow base e 7 v5 (ts.length + 1) (cs0 ++ (coA h2 A2 k2.length c2).toList) → (w2.alloc (.cells (coA h2 A2 k2.length c2) e)).grownBy w5 o.ownBlock → (v5.ownBlock = o.ownBlock ∨ v5.ownBlock = some (w2.alloc (.cells (coA h2 A2 k2.length c2) e)).heap.size) →
        OwnT CE (fun x => okk x ∨ P x ∨ (w1.heap.size ≤ x ∧ x < w2.heap.size)) w5 base e v5 (ts ++ [tb]) := by
  have hXb : Below w2.heap.size w2 (w2.alloc (.cells (coA h2 A2 k2.length c2) e)) := below_new (Below.refl _ _) _
  have ho5 : OwnT CE (fun x => okk x ∨ P x ∨ (w1.heap.size ≤ x ∧ x < w2.heap.size)) (w2.alloc (.cells (coA h2 A2 k2.length c2) e)) base e o ts := (HO.keep (below_from hz hXb)).narrow (fun x hx => .inl hx) fun x hx e => by
    rcases hx with hx | hx | hx
    · exact HO.1 x hx e
    · exact (hP x hx).2 e
    · have := own_inE HO e.symm; omega
  obtain ⟨h0, cs0, hown0, hk0⟩ := ho5
  refine ⟨cs0, hown0, new_src w2 1 7 (coA h2 A2 k2.length c2) e rfl, fun v5 w5 a b d => ?_⟩
  refine OwnT.app (ys := [tb]) h0 hown0 hk0 ?_ a b d (fun x hx => ?_)
  · rw [e2]
    exact co_src hc2 ((hr2.there.below hXb).weak fun x hx => by rcases hx.1 with h | h; exact .inr (.inl h); exact .inr (.inr ⟨h, hx.2⟩))
  · rw [World.size_alloc]
    have := hz.size
    rcases hx with hx | hx | hx
    · have := hok x hx; omega
    · have := (hP x hx).1; omega
    · omega
end Go.Proofs.Yteokbmngebckjaa
namespace Go.Proofs.Yteokbmngebckjaa
open Go.RowKit
set_option linter.unusedVariables false
set_option linter.unusedSimpArgs false

theorem cell_drewU (W : World) (a : Addr) : W.drew.cell? a = W.cell? a := rfl
end Go.Proofs.Yteokbmngebckjaa
