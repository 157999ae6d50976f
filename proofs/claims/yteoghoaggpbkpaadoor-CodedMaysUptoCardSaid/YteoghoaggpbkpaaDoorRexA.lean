/- Expressions: how many nodes; whether they may be. -/
import Derived.Test.YteoghoaggpbkpaaDoorTree
import Derived.Deep.QuietTactic
import Derived.BigQuiet
namespace Go.Proofs.YteoghoaggpbkpaaDoor
open Go.RowKit
set_option linter.unusedVariables false
set_option linter.unusedSimpArgs false

theorem cell_0 {ad : Addr} {w : World} {i s : Nat} {cs : List Value} (h : ∀ j u, cs[j]? = some u → w.cell? (ad.add (i * s + j)) = some u) {u : Value} (hu : cs[0]? = some u) :
    w.cell? (ad.add (i * s)) = some u := by
  have := h 0 u hu
  simpa using this
theorem cell_j {ad : Addr} {w : World} {i s : Nat} {cs : List Value} (h : ∀ j u, cs[j]? = some u → w.cell? (ad.add (i * s + j)) = some u) (j : Nat) (hj : j ≠ 0) {u : Value} (hu : cs[j]? = some u) :
    w.cell? ⟨(ad.add (i * s)).block, (ad.add (i * s)).off + j, none⟩ = some u := by
  have := h j u hu
  rw [← this]
  congr 1
  unfold Addr.add
  by_cases h0 : i * s = 0 <;> simp [h0, hj, Nat.add_assoc]

/-- an expression as a value -/
abbrev reV (h : RH) (A : Option Addr) (n c : Nat) : Value :=
  .agg #[.int .u8 (h.k.toNat : Int), .int .u64 (h.s.a.toNat : Int), .int .u64 (h.s.b.toNat : Int), .int .u64 (h.s.c.toNat : Int), .int .u64 (h.s.d.toNat : Int), .slice A n c]
/-- an expression in a row: its cells -/
theorem re_at {ok : Nat → Prop} {w : World} {ts : List Re} {A : Option Addr} (hr : InRow RE ok w ts A 0) {k : Nat} (hk : k < ts.length) :
    ∃ (t : Re) (ad : Addr) (h : RH) (ks : List Re) (A1 : Option Addr) (c1 : Nat), A = some ad ∧ ts[k]? = some t ∧ t = .mk h ks ∧ ks.length ≤ c1 ∧ InRow RE ok w ks A1 0 ∧
      w.cell? (ad.add (k * 6)) = some (.int .u8 (h.k.toNat : Int)) ∧
      w.cell? ⟨(ad.add (k * 6)).block, (ad.add (k * 6)).off + 1, none⟩ = some (.int .u64 (h.s.a.toNat : Int)) ∧
      w.cell? ⟨(ad.add (k * 6)).block, (ad.add (k * 6)).off + 2, none⟩ = some (.int .u64 (h.s.b.toNat : Int)) ∧
      w.cell? ⟨(ad.add (k * 6)).block, (ad.add (k * 6)).off + 3, none⟩ = some (.int .u64 (h.s.c.toNat : Int)) ∧
      w.cell? ⟨(ad.add (k * 6)).block, (ad.add (k * 6)).off + 4, none⟩ = some (.int .u64 (h.s.d.toNat : Int)) ∧
      w.cell? ⟨(ad.add (k * 6)).block, (ad.add (k * 6)).off + 5, none⟩ = some (.slice A1 ks.length c1) := by
  have hk' : ts[k]? = some ts[k] := by simp [hk]
  obtain ⟨ad, cs, hA, _, hc, ht⟩ := hr.at_ k _ hk'
  rw [Nat.zero_add] at hc
  generalize ts[k] = t at *
  obtain ⟨h, ks⟩ := t
  simp only [InT] at ht
  obtain ⟨A1, c1, rfl, hc1, hr1⟩ := ht
  exact ⟨_, ad, h, ks, A1, c1, hA, hk', rfl, hc1, hr1, cell_0 hc rfl, cell_j hc 1 (by decide) rfl, cell_j hc 2 (by decide) rfl, cell_j hc 3 (by decide) rfl, cell_j hc 4 (by decide) rfl, cell_j hc 5 (by decide) rfl⟩

/-- a node alone may be: its head, and how many kids it has -/
def okNode (h : RH) (n : Nat) : Bool :=
  if h.k.toNat = 1 ∨ h.k.toNat = 2 then decide (n = 0) && decide (h.s = S4.zero)
  else if h.k.toNat = 3 then decide (n = 0) && !decide (h.s = S4.zero)
  else if h.k.toNat = 4 ∨ h.k.toNat = 5 then decide (n = 2) && decide (h.s = S4.zero)
  else if h.k.toNat = 6 then decide (n = 1) && decide (h.s = S4.zero)
  else false
mutual
def okT : Re → Bool
  | .mk h ks => okNode h ks.length && okL ks
def okL : List Re → Bool
  | [] => true
  | t :: ts => okT t && okL ts
end
theorem okL_all (ts : List Re) : okL ts = ts.all okT := by
  induction ts with
  | nil => simp [okL]
  | cons t r ih => simp [okL, ih]
/-- an expression may be -/
def mayB (t : Re) : Bool := okT t && decide (t.size ≤ 2000)

set_option maxHeartbeats 1000000 in
theorem node_any (h : RH) (A : Option Addr) (n c : Nat) (w : World) (hn : n ≤ 1000000000) :
    Calls Tryd.prog 78 #[reV h A n c] w fun e w' => e = .returned (.bool (okNode h n)) ∧ Below w.heap.size w w' := by
  have hk := h.k.toNat_lt
  have hq := run_eql_zero h.s
  have hb : Below w.heap.size w (w.alloc (.cells #[.int .u8 (h.k.toNat : Int), .int .u64 (h.s.a.toNat : Int), .int .u64 (h.s.b.toNat : Int), .int .u64 (h.s.c.toNat : Int), .int .u64 (h.s.d.toNat : Int), .slice A n c] 42)) := below_new (Below.refl _ _) _
  have HO : Hid (okNode h n = if h.k.toNat = 1 ∨ h.k.toNat = 2 then decide (n = 0) && decide (h.s = S4.zero)
      else if h.k.toNat = 3 then decide (n = 0) && !decide (h.s = S4.zero)
      else if h.k.toNat = 4 ∨ h.k.toNat = 5 then decide (n = 2) && decide (h.s = S4.zero)
      else if h.k.toNat = 6 then decide (n = 1) && decide (h.s = S4.zero) else false) := rfl
  have e0 : ((n : Int) == 0) = decide (n = 0) := by rw [Bool.eq_iff_iff]; simp
  have e1 : ((n : Int) == 1) = decide (n = 1) := by rw [Bool.eq_iff_iff]; simp; omega
  have e2 : ((n : Int) == 2) = decide (n = 2) := by rw [Bool.eq_iff_iff]; simp; omega
  generalize decide (h.s = S4.zero) = bz at *
  go_enter Tryd.func78, Tryd.ntmps78
  go_wp2_with fail
  go_quiet (fail)
  clear hq
  have hbq := pw_drewN hb nq
  have hcase : h.k.toNat = 1 ∨ h.k.toNat = 2 ∨ h.k.toNat = 3 ∨ h.k.toNat = 4 ∨ h.k.toNat = 5 ∨ h.k.toNat = 6 ∨ h.k.toNat = 0 ∨ 6 < h.k.toNat := by omega
  generalize h.k.toNat = kk at *
  rcases hcase with rfl | rfl | rfl | rfl | rfl | rfl | rfl | h6
  · by_cases hm : n = 0
    · subst hm
      go_wp2_with fail
      go_ret
      exact ⟨by rw [HO.out]; rfl, hbq⟩
    · rw [decide_eq_false hm] at e0
      go_wp2_with fail
      go_ret
      refine ⟨?_, hbq⟩
      rw [HO.out]
      refine ret_bool ?_
      simp [hm]
  · by_cases hm : n = 0
    · subst hm
      go_wp2_with fail
      go_ret
      exact ⟨by rw [HO.out]; rfl, hbq⟩
    · rw [decide_eq_false hm] at e0
      go_wp2_with fail
      go_ret
      refine ⟨?_, hbq⟩
      rw [HO.out]
      refine ret_bool ?_
      simp [hm]
  · by_cases hm : n = 0
    · subst hm
      go_wp2_with fail
      go_ret
      exact ⟨by rw [HO.out]; rfl, hbq⟩
    · rw [decide_eq_false hm] at e0
      go_wp2_with fail
      go_ret
      refine ⟨?_, hbq⟩
      rw [HO.out]
      refine ret_bool ?_
      simp [hm]
  · by_cases hm : n = 2
    · subst hm
      go_wp2_with fail
      go_ret
      exact ⟨by rw [HO.out]; rfl, hbq⟩
    · rw [decide_eq_false hm] at e2
      go_wp2_with fail
      go_ret
      refine ⟨?_, hbq⟩
      rw [HO.out]
      refine ret_bool ?_
      simp [hm]
  · by_cases hm : n = 2
    · subst hm
      go_wp2_with fail
      go_ret
      exact ⟨by rw [HO.out]; rfl, hbq⟩
    · rw [decide_eq_false hm] at e2
      go_wp2_with fail
      go_ret
      refine ⟨?_, hbq⟩
      rw [HO.out]
      refine ret_bool ?_
      simp [hm]
  · by_cases hm : n = 1
    · subst hm
      go_wp2_with fail
      go_ret
      exact ⟨by rw [HO.out]; rfl, hbq⟩
    · rw [decide_eq_false hm] at e1
      go_wp2_with fail
      go_ret
      refine ⟨?_, hbq⟩
      rw [HO.out]
      refine ret_bool ?_
      simp [hm]
  · go_wp2_with fail
    go_ret
    exact ⟨by rw [HO.out]; rfl, hbq⟩
  · go_wp2_with fail
    go_ret
    refine ⟨?_, hbq⟩
    rw [HO.out, if_neg (by omega), if_neg (by omega), if_neg (by omega), if_neg (by omega)]
    rfl
end Go.Proofs.YteoghoaggpbkpaaDoor
