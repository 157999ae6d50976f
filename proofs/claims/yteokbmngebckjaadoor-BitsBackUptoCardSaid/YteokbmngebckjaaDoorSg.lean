/- Has a set one byte alone? -/
import Derived.Test.YteokbmngebckjaaDoorIsQ
import Derived.Test.YteokbmngebckjaaDoorBb
namespace Go.Proofs.YteokbmngebckjaaDoor
open Go.RowKit
set_option linter.unusedVariables false
set_option linter.unusedSimpArgs false

theorem one_bit (n : Nat) : ∀ x : Nat, x ≤ n → x &&& (x - 1) = 0 → ∀ i j : Nat, bitOf x i = true → bitOf x j = true → i = j := by
  induction n with
  | zero =>
    intro x hx _ i j h
    obtain rfl : x = 0 := by omega
    simp [bitOf] at h
  | succ n ih =>
    intro x hx h i j hi hj
    have h2 : (x &&& (x - 1)) / 2 = x / 2 &&& (x - 1) / 2 := Nat.and_div_two
    rw [h] at h2
    rcases Nat.mod_two_eq_zero_or_one x with e | e
    · rcases Nat.eq_zero_or_pos x with h0 | h0
      · subst h0; simp [bitOf] at hi
      have e3 : (x - 1) / 2 = x / 2 - 1 := by omega
      rw [e3] at h2
      have hb : ∀ r : Nat, bitOf x r = true → ∃ q, r = q + 1 ∧ bitOf (x / 2) q = true := by
        intro r hr
        rcases r with _ | q
        · simp [bitOf, e] at hr
        · refine ⟨q, rfl, ?_⟩
          unfold bitOf at hr ⊢
          rw [Nat.pow_succ, Nat.mul_comm, ← Nat.div_div_eq_div_mul] at hr
          exact hr
      obtain ⟨p, rfl, hp⟩ := hb i hi
      obtain ⟨q, rfl, hq⟩ := hb j hj
      rw [ih (x / 2) (by omega) h2.symm p q hp hq]
    · have e3 : (x - 1) / 2 = x / 2 := by omega
      rw [e3, Nat.and_self] at h2
      obtain rfl : x = 1 := by omega
      have hb : ∀ r : Nat, bitOf 1 r = true → r = 0 := by
        intro r hr
        rcases r with _ | q
        · rfl
        · exfalso
          unfold bitOf at hr
          have : 1 / 2 ^ (q + 1) = 0 := Nat.div_eq_of_lt (Nat.one_lt_two_pow (by omega))
          rw [this] at hr
          simp at hr
      rw [hb i hi, hb j hj]
def costW (x : Nat) : Nat := if x = 0 then 0 else if x &&& (x - 1) = 0 then 1 else 2
def sumC (s : S4) : Nat → Nat
  | 0 => 0
  | k + 1 => sumC s k + costW (s.get k).toNat
def singleB (s : S4) : Bool := decide (sumC s 4 = 1)
theorem cost_pos {x r : Nat} (h : bitOf x r = true) : 1 ≤ costW x := by
  unfold costW
  split
  · rename_i h0; subst h0; simp [bitOf] at h
  · split <;> omega
theorem cost_one {x i j : Nat} (hc : costW x ≤ 1) (hi : bitOf x i = true) (hj : bitOf x j = true) : i = j := by
  have := cost_pos hi
  unfold costW at hc this
  split at hc
  · rename_i h0; simp [h0] at this
  · split at hc
    · rename_i h1 h2; exact one_bit x x (Nat.le_refl _) h2 i j hi hj
    · omega
theorem single_only {s : S4} (h : singleB s = true) : OnlyOne s := by
  intro a b ha hb
  have hs : sumC s 4 = 1 := of_decide_eq_true h
  have hs2 : costW s.a.toNat + costW s.b.toNat + costW s.c.toNat + costW s.d.toNat = 1 := by
    simpa [sumC, S4.get] using hs
  have la := a.toNat_lt
  have lb := b.toNat_lt
  unfold S4.has at ha hb
  have key : a.toNat / 64 = b.toNat / 64 ∧ a.toNat % 64 = b.toNat % 64 := by
    have ca : a.toNat / 64 = 0 ∨ a.toNat / 64 = 1 ∨ a.toNat / 64 = 2 ∨ a.toNat / 64 = 3 := by omega
    have cb : b.toNat / 64 = 0 ∨ b.toNat / 64 = 1 ∨ b.toNat / 64 = 2 ∨ b.toNat / 64 = 3 := by omega
    rcases ca with e | e | e | e <;> rcases cb with f | f | f | f <;> rw [e] at ha <;> rw [f] at hb <;> simp only [S4.get] at ha hb <;> have p := cost_pos ha <;> have q := cost_pos hb <;> first | (exfalso; omega) | exact ⟨by omega, cost_one (by omega) ha hb⟩
  refine UInt8.toNat_inj.1 ?_
  omega
set_option maxRecDepth 100000 in
set_option maxHeartbeats 4000000 in
theorem single_any (s : S4) (w : World) :
    Calls Tryd.prog 16 #[setV s] w fun e w' => e = .returned (.bool (singleB s)) ∧ Below w.heap.size w w' := by
  have HX : Hid (singleB s = decide (sumC s 4 = 1)) := rfl
  obtain ⟨W, hW⟩ : ∃ W, w.alloc (.cells (setA s) 24) = W := ⟨_, rfl⟩
  have hbW : Below w.heap.size w W := by rw [← hW]; exact below_new (Below.refl _ _) _
  have e1 : W.heap[w.heap.size]? = some (.cells (setA s) 24 (0, 0)) := by rw [← hW]; exact new_at1 _
  have HE := Lib.hid hW
  have HB := Lib.hid hbW
  have E1 := Lib.hid e1
  clear hW hbW e1
  go_enter Tryd.func16, Tryd.ntmps16
  go_upto_region 3 with fail
  rw [show w.alloc _ = W from HE.out]
  go_loopw [3, 4] (fun n i wr => ∃ (k : Nat), k ≤ 4 ∧ i = .int .i64 k ∧ n = .int .i64 ((sumC s k : Nat) : Int) ∧ Below W.heap.size W wr) (fun _ i _ => 4 - (intOf i).toNat)
  case atStart => exact ⟨0, by omega, rfl, rfl, Below.refl _ _⟩
  case round =>
    obtain ⟨k, hk, rfl, rfl, hb⟩ := hrel
    have e1 := (hb.block _ (lt_of_block E1.out)).trans E1.out
    obtain ⟨⟨x0, x1, x2, x3⟩, _, _, _, _⟩ := cells4_of e1
    clear e1
    have hsum : sumC s k ≤ 2 * k := by
      clear hb x0 x1 x2 x3 hk
      induction k with
      | zero => exact Nat.le_refl _
      | succ k ih =>
        have : costW (s.get k).toNat ≤ 2 := by unfold costW; split; omega; split <;> omega
        simp only [sumC]; omega
    have hkc : k = 0 ∨ k = 1 ∨ k = 2 ∨ k = 3 ∨ k = 4 := by omega
    rcases hkc with rfl | rfl | rfl | rfl | rfl
    · have hstep : Hid (sumC s 1 = sumC s 0 + costW s.a.toNat) := rfl
      have hlt := s.a.toNat_lt
      obtain ⟨m, hm⟩ : ∃ m, sumC s 0 = m := ⟨_, rfl⟩
      rw [hm] at hsum hstep ⊢
      generalize hx : s.a.toNat = x at *
      clear hm hx
      by_cases h0 : x = 0
      · have HC : Hid (costW x = 0) := by unfold Hid costW; rw [if_pos h0]
        have g0 : ((x : Int) != 0) = false := by simp; omega
        clear h0
        go_wp2_with fail
        go_quiet (fail)
        go_wp2_with fail
        go_roundw
        case rel => exact ⟨1, by omega, by go_num, by rw [hstep.out, HC.out]; go_num, pw_drewN hb nq⟩
        case measure => simp [intOf]
      · have g0 : ((x : Int) != 0) = true := by simp; omega
        have hsub : IntKind.u64.wrap ((x : Int) - 1) = ((x - 1 : Nat) : Int) := by rw [show ((x : Int) - 1) = ((x - 1 : Nat) : Int) by omega]; exact wrap_u64 _ (by omega)
        have hand := bits_and_word x (x - 1) (by omega) (by omega)
        by_cases h1 : x &&& (x - 1) = 0
        · have HC : Hid (costW x = 1) := by unfold Hid costW; rw [if_neg h0, if_pos h1]
          have g1 : (((x &&& (x - 1) : Nat) : Int) == 0) = true := by simp [h1]
          clear h0 h1
          generalize x &&& (x - 1) = y at *
          go_wp2_with fail
          go_quiet (fail)
          go_wp2_with fail
          go_roundw
          case rel => exact ⟨1, by omega, by go_num, by rw [hstep.out, HC.out]; go_num, pw_drewN hb nq⟩
          case measure => simp [intOf]
        · have HC : Hid (costW x = 2) := by unfold Hid costW; rw [if_neg h0, if_neg h1]
          have g1 : (((x &&& (x - 1) : Nat) : Int) == 0) = false := by simp; omega
          clear h0 h1
          generalize x &&& (x - 1) = y at *
          go_wp2_with fail
          go_quiet (fail)
          go_wp2_with fail
          go_roundw
          case rel => exact ⟨1, by omega, by go_num, by rw [hstep.out, HC.out]; go_num, pw_drewN hb nq⟩
          case measure => simp [intOf]
    · have hstep : Hid (sumC s 2 = sumC s 1 + costW s.b.toNat) := rfl
      have hlt := s.b.toNat_lt
      obtain ⟨m, hm⟩ : ∃ m, sumC s 1 = m := ⟨_, rfl⟩
      rw [hm] at hsum hstep ⊢
      generalize hx : s.b.toNat = x at *
      clear hm hx
      by_cases h0 : x = 0
      · have HC : Hid (costW x = 0) := by unfold Hid costW; rw [if_pos h0]
        have g0 : ((x : Int) != 0) = false := by simp; omega
        clear h0
        go_wp2_with fail
        go_quiet (fail)
        go_wp2_with fail
        go_roundw
        case rel => exact ⟨2, by omega, by go_num, by rw [hstep.out, HC.out]; go_num, pw_drewN hb nq⟩
        case measure => simp [intOf]
      · have g0 : ((x : Int) != 0) = true := by simp; omega
        have hsub : IntKind.u64.wrap ((x : Int) - 1) = ((x - 1 : Nat) : Int) := by rw [show ((x : Int) - 1) = ((x - 1 : Nat) : Int) by omega]; exact wrap_u64 _ (by omega)
        have hand := bits_and_word x (x - 1) (by omega) (by omega)
        by_cases h1 : x &&& (x - 1) = 0
        · have HC : Hid (costW x = 1) := by unfold Hid costW; rw [if_neg h0, if_pos h1]
          have g1 : (((x &&& (x - 1) : Nat) : Int) == 0) = true := by simp [h1]
          clear h0 h1
          generalize x &&& (x - 1) = y at *
          go_wp2_with fail
          go_quiet (fail)
          go_wp2_with fail
          go_roundw
          case rel => exact ⟨2, by omega, by go_num, by rw [hstep.out, HC.out]; go_num, pw_drewN hb nq⟩
          case measure => simp [intOf]
        · have HC : Hid (costW x = 2) := by unfold Hid costW; rw [if_neg h0, if_neg h1]
          have g1 : (((x &&& (x - 1) : Nat) : Int) == 0) = false := by simp; omega
          clear h0 h1
          generalize x &&& (x - 1) = y at *
          go_wp2_with fail
          go_quiet (fail)
          go_wp2_with fail
          go_roundw
          case rel => exact ⟨2, by omega, by go_num, by rw [hstep.out, HC.out]; go_num, pw_drewN hb nq⟩
          case measure => simp [intOf]
    · have hstep : Hid (sumC s 3 = sumC s 2 + costW s.c.toNat) := rfl
      have hlt := s.c.toNat_lt
      obtain ⟨m, hm⟩ : ∃ m, sumC s 2 = m := ⟨_, rfl⟩
      rw [hm] at hsum hstep ⊢
      generalize hx : s.c.toNat = x at *
      clear hm hx
      by_cases h0 : x = 0
      · have HC : Hid (costW x = 0) := by unfold Hid costW; rw [if_pos h0]
        have g0 : ((x : Int) != 0) = false := by simp; omega
        clear h0
        go_wp2_with fail
        go_quiet (fail)
        go_wp2_with fail
        go_roundw
        case rel => exact ⟨3, by omega, by go_num, by rw [hstep.out, HC.out]; go_num, pw_drewN hb nq⟩
        case measure => simp [intOf]
      · have g0 : ((x : Int) != 0) = true := by simp; omega
        have hsub : IntKind.u64.wrap ((x : Int) - 1) = ((x - 1 : Nat) : Int) := by rw [show ((x : Int) - 1) = ((x - 1 : Nat) : Int) by omega]; exact wrap_u64 _ (by omega)
        have hand := bits_and_word x (x - 1) (by omega) (by omega)
        by_cases h1 : x &&& (x - 1) = 0
        · have HC : Hid (costW x = 1) := by unfold Hid costW; rw [if_neg h0, if_pos h1]
          have g1 : (((x &&& (x - 1) : Nat) : Int) == 0) = true := by simp [h1]
          clear h0 h1
          generalize x &&& (x - 1) = y at *
          go_wp2_with fail
          go_quiet (fail)
          go_wp2_with fail
          go_roundw
          case rel => exact ⟨3, by omega, by go_num, by rw [hstep.out, HC.out]; go_num, pw_drewN hb nq⟩
          case measure => simp [intOf]
        · have HC : Hid (costW x = 2) := by unfold Hid costW; rw [if_neg h0, if_neg h1]
          have g1 : (((x &&& (x - 1) : Nat) : Int) == 0) = false := by simp; omega
          clear h0 h1
          generalize x &&& (x - 1) = y at *
          go_wp2_with fail
          go_quiet (fail)
          go_wp2_with fail
          go_roundw
          case rel => exact ⟨3, by omega, by go_num, by rw [hstep.out, HC.out]; go_num, pw_drewN hb nq⟩
          case measure => simp [intOf]
    · have hstep : Hid (sumC s 4 = sumC s 3 + costW s.d.toNat) := rfl
      have hlt := s.d.toNat_lt
      obtain ⟨m, hm⟩ : ∃ m, sumC s 3 = m := ⟨_, rfl⟩
      rw [hm] at hsum hstep ⊢
      generalize hx : s.d.toNat = x at *
      clear hm hx
      by_cases h0 : x = 0
      · have HC : Hid (costW x = 0) := by unfold Hid costW; rw [if_pos h0]
        have g0 : ((x : Int) != 0) = false := by simp; omega
        clear h0
        go_wp2_with fail
        go_quiet (fail)
        go_wp2_with fail
        go_roundw
        case rel => exact ⟨4, by omega, by go_num, by rw [hstep.out, HC.out]; go_num, pw_drewN hb nq⟩
        case measure => simp [intOf]
      · have g0 : ((x : Int) != 0) = true := by simp; omega
        have hsub : IntKind.u64.wrap ((x : Int) - 1) = ((x - 1 : Nat) : Int) := by rw [show ((x : Int) - 1) = ((x - 1 : Nat) : Int) by omega]; exact wrap_u64 _ (by omega)
        have hand := bits_and_word x (x - 1) (by omega) (by omega)
        by_cases h1 : x &&& (x - 1) = 0
        · have HC : Hid (costW x = 1) := by unfold Hid costW; rw [if_neg h0, if_pos h1]
          have g1 : (((x &&& (x - 1) : Nat) : Int) == 0) = true := by simp [h1]
          clear h0 h1
          generalize x &&& (x - 1) = y at *
          go_wp2_with fail
          go_quiet (fail)
          go_wp2_with fail
          go_roundw
          case rel => exact ⟨4, by omega, by go_num, by rw [hstep.out, HC.out]; go_num, pw_drewN hb nq⟩
          case measure => simp [intOf]
        · have HC : Hid (costW x = 2) := by unfold Hid costW; rw [if_neg h0, if_neg h1]
          have g1 : (((x &&& (x - 1) : Nat) : Int) == 0) = false := by simp; omega
          clear h0 h1
          generalize x &&& (x - 1) = y at *
          go_wp2_with fail
          go_quiet (fail)
          go_wp2_with fail
          go_roundw
          case rel => exact ⟨4, by omega, by go_num, by rw [hstep.out, HC.out]; go_num, pw_drewN hb nq⟩
          case measure => simp [intOf]
    · obtain ⟨m, hm⟩ : ∃ m, sumC s 4 = m := ⟨_, rfl⟩
      rw [hm] at HX ⊢
      clear hm hsum
      by_cases h1 : m = 1
      · have g1 : ((m : Int) == 1) = true := by simp; omega
        have HX2 : Hid (singleB s = true) := by unfold Hid; rw [HX.out]; simp [h1]
        clear h1
        go_wp2_with fail
        go_ret
        exact ⟨by rw [HX2.out]; rfl, below_from HB.out hb⟩
      · have g1 : ((m : Int) == 1) = false := by simp; omega
        have HX2 : Hid (singleB s = false) := by unfold Hid; rw [HX.out]; simp [h1]
        clear h1
        go_wp2_with fail
        go_ret
        exact ⟨by rw [HX2.out]; rfl, below_from HB.out hb⟩
end Go.Proofs.YteokbmngebckjaaDoor
