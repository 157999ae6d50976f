/- Sets of bytes: is a byte in one? -/
import Derived.Test.YthagcmpehpgmpaaDoorSet4
namespace Go.Proofs.YthagcmpehpgmpaaDoor
open Go.RowKit
set_option linter.unusedVariables false
set_option linter.unusedSimpArgs false

theorem bits_and_one (y : Nat) (h : y < 18446744073709551616) : Go.bits BinOp.and IntKind.u64 (y : Int) 1 = ((y % 2 : Nat) : Int) := by
  simp [Go.bits, IntKind.bits, IntKind.signed, IntKind.wrap]
  have k : (BitVec.ofNat 64 y &&& 1#64).toNat = y % 2 := by
    rw [BitVec.toNat_and, BitVec.toNat_ofNat, Nat.mod_eq_of_lt (by omega : y < 2 ^ 64)]
    simp [Nat.and_one_is_mod]
  have m : (((BitVec.ofNat 64 y &&& 1#64).toNat : Nat) : Int) % 18446744073709551616 = (y : Int) % 2 := by rw [k]; omega
  exact m
theorem bit_test (x : UInt64) (r : Nat) : (Go.bits BinOp.and IntKind.u64 ((x.toNat : Int) / 2 ^ r) 1 == 1) = bitOf x.toNat r := by
  have e : ((x.toNat : Int) / 2 ^ r) = ((half x.toNat r : Nat) : Int) := by unfold half; simp
  have h1 := half_le x.toNat r
  have h2 := x.toNat_lt
  rw [e, bits_and_one _ (by omega), half_bit, Bool.eq_iff_iff]
  simp
  omega

set_option maxHeartbeats 4000000 in
theorem setHas_any (s : S4) (b : Int) (w : World) (h0 : 0 ≤ b) (h1 : b ≤ 255) :
    Calls Tryd.prog 26 #[setV s, .int .u8 b] w fun e w' => e = .returned (.bool (s.has b.toNat)) ∧ Below w.heap.size w w' := by
  obtain ⟨j, hj, hjj⟩ : ∃ j : Nat, b.toNat / 64 = j ∧ (j = 0 ∨ j = 1 ∨ j = 2 ∨ j = 3) := ⟨_, rfl, by omega⟩
  obtain ⟨r, hr, hrr⟩ : ∃ r : Nat, b.toNat % 64 = r ∧ r < 64 := ⟨_, rfl, by omega⟩
  have hq : b.tdiv 64 = j := by rw [Int.tdiv_eq_ediv_of_nonneg h0]; omega
  have hm : b.tmod 64 = r := by rw [Int.tmod_eq_emod_of_nonneg h0]; omega
  have HS : Hid (s.has b.toNat = bitOf (s.get j).toNat r) := by unfold Hid S4.has; rw [hj, hr]
  clear hj hr
  rcases hjj with rfl | rfl | rfl | rfl
  · have HB : Hid (s.has b.toNat = bitOf s.a.toNat r) := HS.out
    go_enter Tryd.func26, Tryd.ntmps26
    go_wp2_with fail
    go_ret
    exact ⟨by rw [HB.out, ← bit_test]; rfl, below_new (Below.refl _ _) _⟩
  · have HB : Hid (s.has b.toNat = bitOf s.b.toNat r) := HS.out
    go_enter Tryd.func26, Tryd.ntmps26
    go_wp2_with fail
    go_ret
    exact ⟨by rw [HB.out, ← bit_test]; rfl, below_new (Below.refl _ _) _⟩
  · have HB : Hid (s.has b.toNat = bitOf s.c.toNat r) := HS.out
    go_enter Tryd.func26, Tryd.ntmps26
    go_wp2_with fail
    go_ret
    exact ⟨by rw [HB.out, ← bit_test]; rfl, below_new (Below.refl _ _) _⟩
  · have HB : Hid (s.has b.toNat = bitOf s.d.toNat r) := HS.out
    go_enter Tryd.func26, Tryd.ntmps26
    go_wp2_with fail
    go_ret
    exact ⟨by rw [HB.out, ← bit_test]; rfl, below_new (Below.refl _ _) _⟩
end Go.Proofs.YthagcmpehpgmpaaDoor
