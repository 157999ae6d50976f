/- The zeros that a word ends in: the library's count. -/
import Derived.Test.YthbcofbdgljfbaaDoorTz
namespace Go.Proofs.YthbcofbdgljfbaaDoor
open Go.RowKit
set_option linter.unusedVariables false
set_option linter.unusedSimpArgs false

/-- the library's table -/
def tzTab : List Nat := [0, 1, 56, 2, 57, 49, 28, 3, 61, 58, 42, 50, 38, 29, 17, 4, 62, 47, 59, 36, 45, 43, 51, 22, 53, 39, 33, 30, 24, 18, 12, 5, 63, 55, 48, 27, 60, 41, 37, 16, 46, 35, 44, 21, 52, 32, 23, 11, 54, 26, 40, 15, 34, 20, 31, 10, 25, 14, 19, 9, 13, 8, 7, 6]
/-- the table lies where the program has it -/
def TzOk (w : World) : Prop := ∀ n : Fin 64, w.cell? ⟨5, n.val, none⟩ = some (.int .u8 ((tzTab[n.val]'(by have := n.isLt; simp [tzTab]) : Nat) : Int))
theorem TzOk.below {w w' : World} (h : TzOk w) (hb : Below w.heap.size w w') : TzOk w' := fun n => keep_cell hb (h n)
theorem tz_table : ∀ k : Fin 64, tzTab[(2 ^ k.val * 285870213051353865) % 18446744073709551616 / 288230376151711744]? = some k.val := by decide +kernel

theorem low_alone (x : Nat) (h0 : 0 < x) (h1 : x < 18446744073709551616) : x &&& (18446744073709551616 - x) = 2 ^ tzN 64 x ∧ tzN 64 x < 64 := by
  obtain ⟨m, e, hk⟩ := tz_spec 64 x h0 h1
  generalize tzN 64 x = k at *
  refine ⟨?_, hk⟩
  have hp : (18446744073709551616 : Nat) = 2 ^ k * (2 * 2 ^ (63 - k)) := by
    rw [show 2 * 2 ^ (63 - k) = 2 ^ (64 - k) by rw [← Nat.pow_succ']; congr 1; omega, ← Nat.pow_add, show k + (64 - k) = 64 by omega]
  have hpos : 0 < 2 ^ k := Nat.two_pow_pos k
  have hm : m < 2 ^ (63 - k) := by
    have h2 : 2 ^ k * (2 * m + 1) < 2 ^ k * (2 * 2 ^ (63 - k)) := by rw [← hp, ← e]; exact h1
    have := Nat.lt_of_mul_lt_mul_left h2
    omega
  have hy : 18446744073709551616 - x = 2 ^ k * (2 * (2 ^ (63 - k) - 1 - m) + 1) := by
    rw [hp, e, ← Nat.mul_sub]
    congr 1
    omega
  rw [hy]
  conv => lhs; lhs; rw [e]
  rw [and_shift, low_bit _ _ hm, Nat.mul_one]
theorem bits_and_word (x y : Nat) (hx : x < 18446744073709551616) (hy : y < 18446744073709551616) : Go.bits BinOp.and IntKind.u64 (x : Int) (y : Int) = ((x &&& y : Nat) : Int) := by
  simp [Go.bits, IntKind.bits, IntKind.signed, IntKind.wrap]
  have k : (BitVec.ofNat 64 x &&& BitVec.ofNat 64 y).toNat = x &&& y := by
    rw [BitVec.toNat_and, BitVec.toNat_ofNat, BitVec.toNat_ofNat, Nat.mod_eq_of_lt (by omega : x < 2 ^ 64), Nat.mod_eq_of_lt (by omega : y < 2 ^ 64)]
  have h3 : x &&& y ≤ x := Nat.and_le_left
  have m : (((BitVec.ofNat 64 x &&& BitVec.ofNat 64 y).toNat : Nat) : Int) % 18446744073709551616 = ((x &&& y : Nat) : Int) := by rw [k]; omega
  exact m
theorem wrap_neg (x : Nat) (h0 : 0 < x) (h1 : x < 18446744073709551616) : IntKind.u64.wrap (-(x : Int)) = ((18446744073709551616 - x : Nat) : Int) := by
  simp [IntKind.wrap, IntKind.bits, IntKind.signed]
  omega

set_option maxHeartbeats 4000000 in
theorem tz64_any (x : Nat) (w : World) (h0 : 0 < x) (h1 : x < 18446744073709551616) (ht : TzOk w) :
    Calls Tryd.prog 55 #[.int .u64 (x : Int)] w fun e w' => e = .returned (.int .i64 (tzN 64 x : Nat)) ∧ w' = w := by
  have g : ((x : Int) == 0) = false := by simp; omega
  obtain ⟨hl, hk⟩ := low_alone x h0 h1
  have e1 := wrap_neg x h0 h1
  have e2 := bits_and_word x (18446744073709551616 - x) h1 (by omega)
  rw [hl] at e2
  have HK : Hid (tzN 64 x < 64) := hk
  have htab := tz_table ⟨tzN 64 x, hk⟩
  have hpk : 2 ^ tzN 64 x < 18446744073709551616 := Nat.pow_lt_pow_right (a := 2) (n := 64) (by decide) hk
  obtain ⟨p, hp⟩ : ∃ p, 2 ^ tzN 64 x = p := ⟨_, rfl⟩
  simp only [hp] at e2 htab hpk
  have e3 : IntKind.u64.wrap ((p : Int) * 285870213051353865) = ((p * 285870213051353865 % 18446744073709551616 : Nat) : Int) := by
    simp [IntKind.wrap, IntKind.bits, IntKind.signed]
  obtain ⟨q, hq⟩ : ∃ q, p * 285870213051353865 % 18446744073709551616 = q := ⟨_, rfl⟩
  rw [hq] at e3 htab
  have hq2 : q < 18446744073709551616 := by rw [← hq]; exact Nat.mod_lt _ (by decide)
  have e4 : ((q : Int) / 288230376151711744).toNat = q / 288230376151711744 := by omega
  have hidx : q / 288230376151711744 < 64 := by omega
  have hc := ht ⟨q / 288230376151711744, hidx⟩
  have hv : tzTab[q / 288230376151711744]'(by simp [tzTab]; omega) = tzN 64 x := by
    have h2 := htab
    rw [List.getElem?_eq_getElem (by simp [tzTab]; omega)] at h2
    exact Option.some.inj h2
  simp only [hv] at hc
  have gi : (q : Int) / 288230376151711744 < 64 := by omega
  have gi2 : 0 ≤ (q : Int) / 288230376151711744 := by omega
  generalize tzN 64 x = k at *
  clear hl hp hq htab hv ht
  go_enter Tryd.func55, Tryd.ntmps55
  go_wp2_with fail
  go_ret
  exact ⟨rfl, rfl⟩
end Go.Proofs.YthbcofbdgljfbaaDoor
