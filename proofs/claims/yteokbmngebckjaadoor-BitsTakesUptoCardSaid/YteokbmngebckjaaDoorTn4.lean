/- bits.Take, where there is no such value: what is thrown is caught. -/
import Derived.Test.YteokbmngebckjaaDoorTn3
namespace Go.Proofs.YteokbmngebckjaaDoor
open Go.RowKit
set_option linter.unusedVariables false
set_option linter.unusedSimpArgs false

theorem run_short (xT : TypeId) (w : World) : (Instr.typeAssert (.iface 53 (.agg #[])) xT 53 true).run Tryd.prog w = .ok (.tuple #[.agg #[], .bool true]) w := by
  simp [Instr.typeAssert, Tryd.underlying53, go_sem]
/-- the world behind the closure that catches -/
def caught (p q r : Nat) (w : World) : World :=
  (((((w.alloc (.cells #[] 53)).setCell ⟨p, 0, none⟩ (.int .u8 0)).setCell ⟨p, 1, none⟩ (.int .u8 0)).setCell ⟨p, 2, none⟩ (.slice none 0 0)).setCell ⟨q, 0, none⟩ (.string ⟨#[]⟩)).setCell ⟨r, 0, none⟩ (.bool false)
set_option maxRecDepth 100000 in
set_option maxHeartbeats 1000000 in
theorem throwTk_any {a0 b0 S T0 z : Value} (p q r : Nat) (w : World) (hp : w.heap[p]? = some (.cells #[a0, b0, S] 32 (0, 0))) (hq : w.heap[q]? = some (.cells #[T0] 9 (0, 0))) (hr : w.heap[r]? = some (.cells #[z] 4 (0, 0))) (hpq : p ≠ q) (hpr : p ≠ r) (hqr : q ≠ r) :
    CallsD Tryd.prog 21 #[.pointer (some ⟨p, 0, none⟩), .pointer (some ⟨q, 0, none⟩), .pointer (some ⟨r, 0, none⟩)] (.panicking shortCh) w fun e u' w' => e = .returned (.tuple #[]) ∧ u' = .panicking [{ v := .iface 53 (.agg #[]), recovered := true }] ∧ w' = caught p q r w := by
  have hta := run_short
  obtain ⟨⟨y0, y1, y2⟩, f0, f1, f2⟩ := va_cells (heap_keep1 hp (.cells #[] 53))
  obtain ⟨z0, zf0⟩ := fil_cells (heap_keep1 hq (.cells #[] 53))
  obtain ⟨t0, tf0⟩ := fil_cells (heap_keep1 hr (.cells #[] 53))
  have hqp := Ne.symm hpq
  have hrp := Ne.symm hpr
  have hrq := Ne.symm hqr
  refine callsD_of_wpS Tryd.func21 rfl fun c₀ cs hu => ?_
  apply wpS_seq
  apply wpS_region
  simp [wpOpsS, go_sem, recoverD, hu, Tryd.ntmps21, Exit.thenS]
  refine wpS_of_wp ?_
  go_wp2_with fail
  simp [bodyPostS, results, Tryd.results21, caught]
theorem caught_blk {p q r k : Nat} {w : World} {o : Obj} (h : w.heap[k]? = some o) (hp : k ≠ p) (hq : k ≠ q) (hr : k ≠ r) : (caught p q r w).heap[k]? = some o := by
  unfold caught
  rw [Below.heap_setCell _ _ _ _ hr, Below.heap_setCell _ _ _ _ hq, three_other hp]
  exact heap_keep1 h _
theorem caught_at {p q r : Nat} {w : World} {a0 b0 S T0 z : Value} (hp : w.heap[p]? = some (.cells #[a0, b0, S] 32 (0, 0))) (hq : w.heap[q]? = some (.cells #[T0] 9 (0, 0))) (hr : w.heap[r]? = some (.cells #[z] 4 (0, 0))) (hpq : p ≠ q) (hpr : p ≠ r) (hqr : q ≠ r) :
    (caught p q r w).heap[p]? = some (.cells #[.int .u8 0, .int .u8 0, .slice none 0 0] 32 (0, 0)) ∧ (caught p q r w).heap[q]? = some (.cells #[.string ⟨#[]⟩] 9 (0, 0)) ∧ (caught p q r w).heap[r]? = some (.cells #[.bool false] 4 (0, 0)) := by
  unfold caught
  refine ⟨?_, ?_, ?_⟩
  · rw [Below.heap_setCell _ _ _ _ hpr, Below.heap_setCell _ _ _ _ hpq]
    exact three_setCells (heap_keep1 hp _)
  · rw [Below.heap_setCell _ _ _ _ hqr]
    exact fil_set ((three_other (Ne.symm hpq)).trans (heap_keep1 hq _))
  · exact fil_set ((Below.heap_setCell _ _ _ _ (Ne.symm hqr)).trans ((three_other (Ne.symm hpr)).trans (heap_keep1 hr _)))
theorem caught_below {B p q r : Nat} {w0 w : World} (h : Below B w0 w) (hB : B ≤ w.heap.size) (hp : B ≤ p) (hq : B ≤ q) (hr : B ≤ r) : Below B w0 (caught p q r w) := by
  unfold caught
  exact ((three_below (h.alloc hB _) hp).setCell hq _).setCell hr _
end Go.Proofs.YteokbmngebckjaaDoor
