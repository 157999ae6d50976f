/- What is made of sets and expressions: nodes. -/
import Derived.Test.YteoghoaggpbkpaaDoorFold
import Derived.Test.YteoghoaggpbkpaaDoorSet2
namespace Go.Proofs.YteoghoaggpbkpaaDoor
open Go.RowKit
set_option linter.unusedVariables false
set_option linter.unusedSimpArgs false

theorem new_at {w : World} {n : Nat} (o : Obj) (h : w.heap.size = n) : (w.alloc o).heap[n]? = some o := by
  subst h
  exact World.alloc_heap_new w o
theorem row_one {P : Nat → Prop} {Y : World} {N : Nat} {t : TypeId} {h : RH} {ks : List Re} {A : Option Addr} {c : Nat} (hN : Y.heap[N]? = some (.cells (reA h A ks.length c) t (0, 0))) (hP : P N) (hc : ks.length ≤ c) (hr : InRow RE P Y ks A 0) :
    InRow RE P Y [.mk h ks] (some ⟨N, 0, none⟩) 0 := by
  simp only [InRow, InT]
  refine ⟨⟨_, RH.cells h ++ [.slice A ks.length c], rfl, hP, fun j u hu => ?_, A, c, rfl, hc, hr⟩, trivial⟩
  rw [cell_heap hN, ← hu]
  simp [RH.cells]
theorem row_two {P : Nat → Prop} {Y : World} {N : Nat} {t : TypeId} {h h2 : RH} {ks ks2 : List Re} {A A2 : Option Addr} {c c2 : Nat} {x : Array Value} (hN : Y.heap[N]? = some (.cells x t (0, 0))) (hx : x = reA h A ks.length c ++ reA h2 A2 ks2.length c2) (hP : P N)
    (hc : ks.length ≤ c) (hr : InRow RE P Y ks A 0) (hc2 : ks2.length ≤ c2) (hr2 : InRow RE P Y ks2 A2 0) : InRow RE P Y [.mk h ks, .mk h2 ks2] (some ⟨N, 0, none⟩) 0 := by
  simp only [InRow, InT]
  refine ⟨⟨_, RH.cells h ++ [.slice A ks.length c], rfl, hP, fun j u hu => ?_, A, c, rfl, hc, hr⟩, ⟨_, RH.cells h2 ++ [.slice A2 ks2.length c2], rfl, hP, fun j u hu => ?_, A2, c2, rfl, hc2, hr2⟩, trivial⟩
  · rw [cell_heap hN, hx, Array.getElem?_append]
    have hj : j < 6 := by
      rcases Nat.lt_or_ge j 6 with h | h
      · exact h
      · rw [List.getElem?_eq_none (by simpa [RH.cells] using h)] at hu; cases hu
    rw [if_pos (by simpa using hj), ← hu]
    simp [RH.cells]
  · rw [cell_heap hN, hx, Array.getElem?_append, if_neg (by simp [RE]), ← hu]
    simp [RH.cells, RE]

def ofH (s : S4) : RH := if s = S4.zero then ⟨1, S4.zero⟩ else ⟨3, s⟩

set_option maxHeartbeats 4000000 in
theorem bare_any (kv : Int) (k : UInt8) (hk : kv = (k.toNat : Int)) (w : World) :
    Calls Tryd.prog 55 #[.int .u8 kv] w fun e w' => e = .returned (reV ⟨k, S4.zero⟩ none 0 0) ∧ Below w.heap.size w w' := by
  subst hk
  go_enter Tryd.func55, Tryd.ntmps55
  go_wp2_with fail
  refine bodyPost_ret (v := reV ⟨k, S4.zero⟩ none 0 0) (by simp [results, Tryd.results55, go_sem]; exact ⟨rfl, rfl, rfl, rfl⟩) rfl ⟨rfl, below_new (Below.refl _ _) _⟩

set_option maxHeartbeats 4000000 in
theorem rexOf_any (s : S4) (w : World) :
    Calls Tryd.prog 114 #[setV s] w fun e w' => e = .returned (reV (ofH s) none 0 0) ∧ Below w.heap.size w w' := by
  have hq := run_eql_zero s
  by_cases hs : s = S4.zero
  · have HO : Hid (ofH s = ⟨1, S4.zero⟩) := by unfold Hid ofH; rw [if_pos hs]
    have hd : decide (s = S4.zero) = true := by simp [hs]
    rw [hd] at hq
    clear hs hd
    go_enter Tryd.func114, Tryd.ntmps114
    go_wp2_with fail
    refine bodyPost_ret (v := reV ⟨1, S4.zero⟩ none 0 0) (by simp [results, Tryd.results114, go_sem]; exact ⟨rfl, rfl, rfl, rfl⟩) rfl ⟨by rw [HO.out], below_new (below_new (Below.refl _ _) _) _⟩
  · have HO : Hid (ofH s = ⟨3, s⟩) := by unfold Hid ofH; rw [if_neg hs]
    have hd : decide (s = S4.zero) = false := by simp [hs]
    rw [hd] at hq
    clear hs hd
    go_enter Tryd.func114, Tryd.ntmps114
    go_wp2_with fail
    refine bodyPost_ret (v := reV ⟨3, s⟩ none 0 0) (by simp [results, Tryd.results114, go_sem]) rfl ⟨by rw [HO.out], below_new (below_new (Below.refl _ _) _) _⟩


set_option maxHeartbeats 4000000 in
theorem rexMany_any {ok : Nat → Prop} (h : RH) (ks : List Re) (A : Option Addr) (c : Nat) (w : World) (hc : ks.length ≤ c) (hr : InRow RE ok w ks A 0) :
    Calls Tryd.prog 109 #[reV h A ks.length c] w (RePost ok (.mk ⟨6, S4.zero⟩ [.mk h ks]) w) := by
  go_enter Tryd.func109, Tryd.ntmps109
  go_wp2_with fail
  have hb := fun o1 o2 o3 => below_new (below_new (below_new (Below.refl _ w) o1) o2) o3
  refine bodyPost_ret (v := reV ⟨6, S4.zero⟩ (some ⟨w.heap.size + 1 + 1, 0, none⟩) 1 1) (by simp [results, Tryd.results109, go_sem]; exact ⟨rfl, rfl, rfl, rfl⟩) rfl ⟨_, rfl, ⟨_, _, _, _, rfl, Nat.le_refl _, rfl, ?_⟩, hb _ _ _⟩
  exact row_one (new_at _ (by simp)) (.inr (by omega)) hc ((hr.below (hb _ _ _)).weak fun b hb => .inl hb)


set_option maxHeartbeats 4000000 in
theorem two_any {ok : Nat → Prop} (kv : Int) (k : UInt8) (hk : kv = (k.toNat : Int)) (h h2 : RH) (ks ks2 : List Re) (A A2 : Option Addr) (c c2 : Nat) (w : World) (hc : ks.length ≤ c) (hc2 : ks2.length ≤ c2) (hr : InRow RE ok w ks A 0) (hr2 : InRow RE ok w ks2 A2 0) :
    Calls Tryd.prog 56 #[.int .u8 kv, reV h A ks.length c, reV h2 A2 ks2.length c2] w (RePost ok (.mk ⟨k, S4.zero⟩ [.mk h ks, .mk h2 ks2]) w) := by
  subst hk
  go_enter Tryd.func56, Tryd.ntmps56
  go_wp2_with fail
  have hb := fun o1 o2 o3 o4 => below_new (below_new (below_new (below_new (Below.refl _ w) o1) o2) o3) o4
  refine bodyPost_ret (v := reV ⟨k, S4.zero⟩ (some ⟨w.heap.size + 1 + 1 + 1, 0, none⟩) 2 2) (by simp [results, Tryd.results56, go_sem]; exact ⟨rfl, rfl, rfl, rfl⟩) rfl ⟨_, rfl, ⟨_, _, _, _, rfl, Nat.le_refl _, rfl, ?_⟩, hb _ _ _ _⟩
  exact row_two (new_at _ (by simp)) rfl (.inr (by omega)) hc ((hr.below (hb _ _ _ _)).weak fun b hb => .inl hb) hc2 ((hr2.below (hb _ _ _ _)).weak fun b hb => .inl hb)
end Go.Proofs.YteoghoaggpbkpaaDoor
