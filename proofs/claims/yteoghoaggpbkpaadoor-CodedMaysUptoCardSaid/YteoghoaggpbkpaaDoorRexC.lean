/- The document's bound on expressions: how many nodes, as far as some more. -/
import Derived.Test.YteoghoaggpbkpaaDoorRexA
namespace Go.Proofs.YteoghoaggpbkpaaDoor
open Go.RowKit
set_option linter.unusedVariables false
set_option linter.unusedSimpArgs false

section
variable {α : Type}
mutual
def cnt (m : Int) : T α → Int
  | .mk _ ks => cnts m 1 ks
def cnts (m : Int) (n : Int) : List (T α) → Int
  | [] => n
  | t :: ts => if m < n then n else cnts m (n + cnt m t) ts
end
mutual
theorem cnt_spec (m : Int) : ∀ t : T α, (cnt m t ≤ m → cnt m t = t.size) ∧ cnt m t ≤ t.size ∧ 1 ≤ cnt m t
  | .mk a ks => by
    have := cnts_spec m 1 (by omega) ks
    simp only [cnt, T.size]
    omega
theorem cnts_spec (m : Int) (n : Int) (hn : 0 ≤ n) : ∀ ts : List (T α), (cnts m n ts ≤ m → cnts m n ts = n + T.sizes ts) ∧ cnts m n ts ≤ n + T.sizes ts ∧ n ≤ cnts m n ts
  | [] => by simp [cnts, T.sizes]
  | t :: ts => by
    have h1 := cnt_spec m t
    simp only [cnts, T.sizes]
    split
    · omega
    · have h2 := cnts_spec m (n + cnt m t) (by omega) ts
      omega
end
/-- more than m nodes -/
def greatB (m : Int) (t : T α) : Bool := decide (m < (t.size : Int))
theorem great_cnt (m : Int) (t : T α) : decide (m < cnt m t) = greatB m t := by
  have := cnt_spec m t
  unfold greatB
  rw [Bool.eq_iff_iff]
  simp only [decide_eq_true_eq]
  omega
theorem cnts_skip (m n : Int) (ts : List (T α)) (k : Nat) (t : T α) (h : ts[k]? = some t) (hn : ¬ m < n) : cnts m n (ts.drop k) = cnts m (n + cnt m t) (ts.drop (k + 1)) := by
  have hk : k < ts.length := (List.getElem?_eq_some_iff.1 h).1
  rw [List.drop_eq_getElem_cons hk, (List.getElem?_eq_some_iff.1 h).2]
  simp only [cnts]
  rw [if_neg hn]
theorem cnts_stop (m n : Int) (ts : List (T α)) (k : Nat) (hk : k < ts.length) (hn : m < n) : cnts m n (ts.drop k) = n := by
  rw [List.drop_eq_getElem_cons hk]
  simp only [cnts]
  rw [if_pos hn]
end

/-- a box's cells, behind what has left them alone -/
theorem re_box {w w1 : World} {t : TypeId} {h : RH} {A : Option Addr} {n c : Nat} (hb : Below (w.alloc (.cells #[.int .u8 (h.k.toNat : Int), .int .u64 (h.s.a.toNat : Int), .int .u64 (h.s.b.toNat : Int), .int .u64 (h.s.c.toNat : Int), .int .u64 (h.s.d.toNat : Int), .slice A n c] t)).heap.size
      (w.alloc (.cells #[.int .u8 (h.k.toNat : Int), .int .u64 (h.s.a.toNat : Int), .int .u64 (h.s.b.toNat : Int), .int .u64 (h.s.c.toNat : Int), .int .u64 (h.s.d.toNat : Int), .slice A n c] t)) w1) :
    w1.cell? ⟨w.heap.size, 0, none⟩ = some (.int .u8 (h.k.toNat : Int)) ∧ w1.cell? ⟨w.heap.size, 1, none⟩ = some (.int .u64 (h.s.a.toNat : Int)) ∧ w1.cell? ⟨w.heap.size, 2, none⟩ = some (.int .u64 (h.s.b.toNat : Int)) ∧
    w1.cell? ⟨w.heap.size, 3, none⟩ = some (.int .u64 (h.s.c.toNat : Int)) ∧ w1.cell? ⟨w.heap.size, 4, none⟩ = some (.int .u64 (h.s.d.toNat : Int)) ∧ w1.cell? ⟨w.heap.size, 5, none⟩ = some (.slice A n c) := by
  have q : ∀ j u, (#[Value.int .u8 (h.k.toNat : Int), .int .u64 (h.s.a.toNat : Int), .int .u64 (h.s.b.toNat : Int), .int .u64 (h.s.c.toNat : Int), .int .u64 (h.s.d.toNat : Int), .slice A n c] : Array Value)[j]? = some u → w1.cell? ⟨w.heap.size, j, none⟩ = some u :=
    fun j u hu => keep_cell hb (by rw [cell_of_row _ _ _ _ _ _ (heap_alloc_new w _)]; exact hu)
  exact ⟨q 0 _ rfl, q 1 _ rfl, q 2 _ rfl, q 3 _ rfl, q 4 _ rfl, q 5 _ rfl⟩

set_option maxHeartbeats 1000000 in
theorem count_upto (n : Nat) : ∀ (ok : Nat → Prop) (h : RH) (ks : List Re) (A : Option Addr) (c : Nat) (m : Int) (w : World), 1 + T.sizes ks ≤ n → n ≤ 1000000000 → ks.length ≤ c → InRow RE ok w ks A 0 →
    Calls Tryd.prog 41 #[reV h A ks.length c, .int .i64 m] w fun e w' => e = .returned (.int .i64 (cnt m (.mk h ks))) ∧ Below w.heap.size w w' := by
  induction n with
  | zero => intro ok h ks A c m w h0; omega
  | succ n ih =>
    intro ok h ks A c m w hn hm hc hr
    have hl := T.length_le_sizes ks
    have IH := Lib.hid ih
    clear ih
    have HO : Hid (cnt m (.mk h ks) = cnts m 1 ks) := by simp only [Hid, cnt]
    have hsz : ∀ t ∈ ks, t.size ≤ n := fun t ht => by have := T.sizes_mem ht; omega
    have HS := Lib.hid hsz
    clear hsz
    have hlm : ks.length ≤ 1000000000 := by omega
    go_enter Tryd.func41, Tryd.ntmps41
    go_wp2_with fail
    generalize hW : w.alloc _ = W
    have hbW : Below w.heap.size w W := by rw [← hW]; exact below_new (Below.refl _ _) _
    go_loopw [4, 5, 6, 10] (fun r s _ i wr => ∃ (k : Nat) (z : Int), k ≤ ks.length ∧ i = .int .i64 k ∧ s = .int .i64 z ∧ r = .int .i64 0 ∧ 0 ≤ z ∧ z ≤ 1 + T.sizes (ks.take k) ∧ cnts m z (ks.drop k) = cnts m 1 ks ∧ Below W.heap.size W wr) (fun _ _ _ i _ => ks.length - (intOf i).toNat)
    case atStart => exact ⟨0, 1, Nat.zero_le _, rfl, rfl, rfl, by omega, by simp [T.sizes], by simp, Below.refl _ _⟩
    case round =>
      obtain ⟨k, z, hk, rfl, rfl, rfl, hz0, hz1, hcn, hb⟩ := hrel
      have HN := Lib.hid hcn
      clear hcn
      have hbx := hb
      rw [← hW] at hbx
      obtain ⟨x0, x1, x2, x3, x4, x5⟩ := re_box hbx
      clear hbx x0 x1 x2 x3 x4
      by_cases hlt : k < ks.length
      · obtain ⟨t, ad, h1, ls, A1, c1, hA, hx, rfl, hc1, hr1, q0, q1, q2, q3, q4, q5⟩ := re_at ((hr.below hbW).below hb) hlt
        subst hA
        have hmem := List.mem_of_getElem? hx
        have hs1 := HS.out _ hmem
        simp only [T.size] at hs1
        have hcs := cnt_spec m (T.mk h1 ls)
        simp only [T.size] at hcs
        have htk : Hid (T.sizes (ks.take (k + 1)) = T.sizes (ks.take k) + (1 + T.sizes ls)) := by
          unfold Hid
          rw [List.take_add_one, hx, T.sizes_append]
          simp [T.sizes, T.size]
        have hle : T.sizes (ks.take (k + 1)) ≤ T.sizes ks := by
          conv => rhs; rw [← List.take_append_drop (k + 1) ks, T.sizes_append]
          omega
        have hz2 : z + (1 + T.sizes ls) ≤ 1000000001 := by have := htk.out; omega
        by_cases hgt : m < z
        · have HF := Lib.hid (cnts_stop m z ks k hlt hgt)
          clear hx hr hcs
          go_wp2_with fail
          go_ret
          exact ⟨by rw [HO.out, ← HN.out, HF.out]; rfl, hbW.trans (hb.mono hbW.size)⟩
        · have HF := Lib.hid (cnts_skip m z ks k _ hx hgt)
          have hcs2 := hcs.2
          clear hx hr hcs
          go_wp2_with fail
          refine (IH.out ok h1 ls A1 c1 m _ hs1 (by omega) hc1 hr1).mono ?_
          rintro e w1 ⟨rfl, hb1⟩
          have hb2 := below_from hb hb1
          clear hb1 hr1 q0 q1 q2 q3 q4 q5 x5
          generalize cnt m (T.mk h1 ls) = cc at *
          go_wp2_with fail
          go_roundw
          case rel => exact ⟨k + 1, z + cc, by omega, by go_num, rfl, rfl, by omega, by rw [htk.out]; omega, by rw [← HF.out, HN.out], hb2⟩
          case measure => simp [intOf]; omega
      · have hkk : k = ks.length := by omega
        subst hkk
        have HE : Hid (z = cnts m 1 ks) := by
          have := HN.out
          rwa [List.drop_length] at this
        clear hlt
        go_wp2_with fail
        go_ret
        exact ⟨by rw [HO.out, ← HE.out]; rfl, hbW.trans (hb.mono hbW.size)⟩

theorem Great_any {ok : Nat → Prop} (h : RH) (ks : List Re) (A : Option Addr) (c : Nat) (m : Int) (w : World) (hm : T.sizes ks ≤ 900000000) (hc : ks.length ≤ c) (hr : InRow RE ok w ks A 0) :
    Calls Tryd.prog 22 #[reV h A ks.length c, .int .i64 m] w fun e w' => e = .returned (.bool (greatB m (.mk h ks))) ∧ Below w.heap.size w w' := by
  have HG := Lib.hid (great_cnt m (T.mk h ks))
  go_enter Tryd.func22, Tryd.ntmps22
  go_wp2_with fail
  refine (count_upto 1000000000 ok h ks A c m _ (by omega) (Nat.le_refl _) hc (hr.below (below_new (Below.refl _ _) _))).mono ?_
  rintro e w1 ⟨rfl, hb⟩
  have hb2 := below_from (below_new (Below.refl _ _) _) hb
  clear hb hr
  go_wp2_with fail
  go_ret
  exact ⟨by rw [← HG.out]; rfl, hb2⟩

/-- more than 20 of them, or more than m nodes in one -/
def greatAllB {α : Type} (m : Int) (ts : List (T α)) : Bool := decide (20 < ts.length) || ts.any (greatB m)
end Go.Proofs.YteoghoaggpbkpaaDoor
