/- The number of a word's ones: the library's. -/
import Derived.Test.YthagcmpehpgmpaaDoorPop1
import Derived.Test.YthagcmpehpgmpaaDoorTz2
namespace Go.Proofs.YthagcmpehpgmpaaDoor
open Go.RowKit
set_option linter.unusedVariables false
set_option linter.unusedSimpArgs false

def addL : List Nat → List Nat → List Nat
  | [], s => s
  | a :: r, [] => a :: r
  | a :: r, b :: s => (a + b) :: addL r s
theorem valB_add : ∀ r s : List Nat, valB r + valB s = valB (addL r s)
  | [], s => by show 0 + valB s = valB s; omega
  | a :: r, [] => rfl
  | a :: r, b :: s => by
    show (a + 256 * valB r) + (b + 256 * valB s) = (a + b) + 256 * valB (addL r s)
    rw [← valB_add r s]
    omega
theorem valB_lt (l : List Nat) : (∀ c ∈ l, c ≤ 64) → 3 * valB l < 256 ^ l.length := by
  induction l with
  | nil => intro _; decide
  | cons c r ih =>
    intro h
    have h1 := ih fun x hx => h x (List.mem_cons_of_mem _ hx)
    have h2 := h c List.mem_cons_self
    show 3 * (c + 256 * valB r) < 256 ^ (r.length + 1)
    rw [Nat.pow_succ]
    generalize 256 ^ r.length = p at *
    omega
theorem valB_lt' (l : List Nat) (n P : Nat) (hP : 256 ^ n = P) (hl : l.length = n) (h : ∀ c ∈ l, c ≤ 64) : 3 * valB l < P := by
  rw [← hP, ← hl]
  exact valB_lt l h
theorem valB_sum {l : List Nat} {n : Nat} (hl : l.length = n) (h : ∀ c ∈ l, c ≤ 8) (hn : n = 8) :
    ∃ r z1 z2 z3, z1 = valB l + valB l / 256 ∧ z2 = z1 + z1 / 65536 ∧ z3 = z2 + z2 / 4294967296 ∧ z3 = l.sum + 256 * r ∧ r < 24019198012642646 ∧ z1 < 9223372036854775808 ∧ z2 < 9223372036854775808 ∧ l.sum ≤ 64 ∧ valB l < 9223372036854775808 := by
  subst hn
  match l, hl with
  | [c0, c1, c2, c3, c4, c5, c6, c7], _ =>
    simp only [List.mem_cons, List.not_mem_nil, or_false, forall_eq_or_imp, forall_eq] at h
    obtain ⟨h0, h1, h2, h3, h4, h5, h6, h7⟩ := h
    have d8 : valB [c0, c1, c2, c3, c4, c5, c6, c7] / 256 = valB [c1, c2, c3, c4, c5, c6, c7] := valB_div (by omega)
    have e1 : valB [c0, c1, c2, c3, c4, c5, c6, c7] + valB [c1, c2, c3, c4, c5, c6, c7] = valB [c0 + c1, c1 + c2, c2 + c3, c3 + c4, c4 + c5, c5 + c6, c6 + c7, c7] := valB_add _ _
    have d16 : valB [c0 + c1, c1 + c2, c2 + c3, c3 + c4, c4 + c5, c5 + c6, c6 + c7, c7] / 65536 = valB [c2 + c3, c3 + c4, c4 + c5, c5 + c6, c6 + c7, c7] := by
      rw [show 65536 = 256 * 256 from rfl, ← Nat.div_div_eq_div_mul, valB_div (by omega), valB_div (by omega)]
    have e2 : valB [c0 + c1, c1 + c2, c2 + c3, c3 + c4, c4 + c5, c5 + c6, c6 + c7, c7] + valB [c2 + c3, c3 + c4, c4 + c5, c5 + c6, c6 + c7, c7] = valB [c0 + c1 + (c2 + c3), c1 + c2 + (c3 + c4), c2 + c3 + (c4 + c5), c3 + c4 + (c5 + c6), c4 + c5 + (c6 + c7), c5 + c6 + c7, c6 + c7, c7] := valB_add _ _
    have d32 : valB [c0 + c1 + (c2 + c3), c1 + c2 + (c3 + c4), c2 + c3 + (c4 + c5), c3 + c4 + (c5 + c6), c4 + c5 + (c6 + c7), c5 + c6 + c7, c6 + c7, c7] / 4294967296 = valB [c4 + c5 + (c6 + c7), c5 + c6 + c7, c6 + c7, c7] := by
      rw [show 4294967296 = 256 * 256 * 256 * 256 from rfl, ← Nat.div_div_eq_div_mul, ← Nat.div_div_eq_div_mul, ← Nat.div_div_eq_div_mul, valB_div (by omega), valB_div (by omega), valB_div (by omega), valB_div (by omega)]
    have e3 : valB [c0 + c1 + (c2 + c3), c1 + c2 + (c3 + c4), c2 + c3 + (c4 + c5), c3 + c4 + (c5 + c6), c4 + c5 + (c6 + c7), c5 + c6 + c7, c6 + c7, c7] + valB [c4 + c5 + (c6 + c7), c5 + c6 + c7, c6 + c7, c7] = (c0 + c1 + (c2 + c3) + (c4 + c5 + (c6 + c7))) + 256 * valB [c1 + c2 + (c3 + c4) + (c5 + c6 + c7), c2 + c3 + (c4 + c5) + (c6 + c7), c3 + c4 + (c5 + c6) + c7, c4 + c5 + (c6 + c7), c5 + c6 + c7, c6 + c7, c7] := valB_add _ _
    have hs : [c0, c1, c2, c3, c4, c5, c6, c7].sum = c0 + c1 + (c2 + c3) + (c4 + c5 + (c6 + c7)) := by simp only [List.sum_cons, List.sum_nil]; omega
    have b0 := valB_lt' [c0, c1, c2, c3, c4, c5, c6, c7] 8 18446744073709551616 (by decide) rfl (by simp; omega)
    have b1 := valB_lt' [c0 + c1, c1 + c2, c2 + c3, c3 + c4, c4 + c5, c5 + c6, c6 + c7, c7] 8 18446744073709551616 (by decide) rfl (by simp; omega)
    have b2 := valB_lt' [c0 + c1 + (c2 + c3), c1 + c2 + (c3 + c4), c2 + c3 + (c4 + c5), c3 + c4 + (c5 + c6), c4 + c5 + (c6 + c7), c5 + c6 + c7, c6 + c7, c7] 8 18446744073709551616 (by decide) rfl (by simp; omega)
    have b3 := valB_lt' [c1 + c2 + (c3 + c4) + (c5 + c6 + c7), c2 + c3 + (c4 + c5) + (c6 + c7), c3 + c4 + (c5 + c6) + c7, c4 + c5 + (c6 + c7), c5 + c6 + c7, c6 + c7, c7] 7 72057594037927936 (by decide) rfl (by simp; omega)
    refine ⟨_, _, _, _, rfl, rfl, rfl, (by rw [d8, e1, d16, e2, d32, e3, hs]), ?_, ?_, ?_, ?_, ?_⟩
    · generalize valB [c1 + c2 + (c3 + c4) + (c5 + c6 + c7), c2 + c3 + (c4 + c5) + (c6 + c7), c3 + c4 + (c5 + c6) + c7, c4 + c5 + (c6 + c7), c5 + c6 + c7, c6 + c7, c7] = v at *
      clear d8 e1 d16 e2 d32 e3 b0 b1 b2
      omega
    · rw [d8, e1]
      generalize valB [c0 + c1, c1 + c2, c2 + c3, c3 + c4, c4 + c5, c5 + c6, c6 + c7, c7] = v at *
      clear d8 e1 d16 e2 d32 e3 b0 b3 b2
      omega
    · rw [d8, e1, d16, e2]
      generalize valB [c0 + c1 + (c2 + c3), c1 + c2 + (c3 + c4), c2 + c3 + (c4 + c5), c3 + c4 + (c5 + c6), c4 + c5 + (c6 + c7), c5 + c6 + c7, c6 + c7, c7] = v at *
      clear d8 e1 d16 e2 d32 e3 b0 b1 b3
      omega
    · rw [hs]; omega
    · generalize valB [c0, c1, c2, c3, c4, c5, c6, c7] = v at *
      clear d8 e1 d16 e2 d32 e3 b3 b1 b2
      omega
theorem rep85 : rep 85 8 = 6148914691236517205 := by decide
theorem rep51 : rep 51 8 = 3689348814741910323 := by decide
theorem rep15 : rep 15 8 = 1085102592571150095 := by decide
theorem swar_bounds (x : Nat) (hx : x < 18446744073709551616) :
    st1 6148914691236517205 x < 18446744073709551616 ∧ st2 3689348814741910323 (st1 6148914691236517205 x) ≤ 7378697629483820646 := by
  refine ⟨?_, ?_⟩
  · unfold st1
    have h1 : x / 2 &&& 6148914691236517205 ≤ 6148914691236517205 := Nat.and_le_right
    have h2 : x &&& 6148914691236517205 ≤ 6148914691236517205 := Nat.and_le_right
    generalize x / 2 &&& 6148914691236517205 = p at *
    generalize x &&& 6148914691236517205 = q at *
    omega
  · unfold st2
    generalize st1 6148914691236517205 x = y
    have h1 : y / 4 &&& 3689348814741910323 ≤ 3689348814741910323 := Nat.and_le_right
    have h2 : y &&& 3689348814741910323 ≤ 3689348814741910323 := Nat.and_le_right
    generalize y / 4 &&& 3689348814741910323 = p at *
    generalize y &&& 3689348814741910323 = q at *
    omega
theorem bits_and_i64 (x : Nat) (hx : x < 9223372036854775808) : Go.bits BinOp.and IntKind.i64 (x : Int) 127 = ((x % 128 : Nat) : Int) := by
  have k : (BitVec.ofNat 64 x &&& BitVec.ofNat 64 127).toNat = x % 128 := by
    rw [BitVec.toNat_and, BitVec.toNat_ofNat, BitVec.toNat_ofNat, Nat.mod_eq_of_lt (by omega : x < 2 ^ 64), show 127 % 2 ^ 64 = 2 ^ 7 - 1 from rfl, Nat.and_two_pow_sub_one_eq_mod]
  simp [Go.bits, IntKind.bits, IntKind.signed, IntKind.wrap]
  have h2 : (((BitVec.ofNat 64 x &&& BitVec.ofNat 64 127).toNat : Nat) : Int) % 18446744073709551616 = (x : Int) % 128 := by rw [k]; omega
  refine (if_neg ?_).trans ?_
  · show ¬ 9223372036854775808 ≤ (((BitVec.ofNat 64 x &&& BitVec.ofNat 64 127).toNat : Nat) : Int) % 18446744073709551616
    rw [h2]
    omega
  · exact h2
theorem wrap_sum (a b c : Nat) (h : a + b = c) (hc : c < 18446744073709551616) : IntKind.u64.wrap ((a : Int) + (b : Int)) = (c : Int) := by
  simp [IntKind.wrap, IntKind.bits, IntKind.signed]
  omega
set_option maxHeartbeats 4000000 in
theorem ones64_any (x : Nat) (w : World) (h1 : x < 18446744073709551616) :
    Calls Tryd.prog 66 #[.int .u64 (x : Int)] w fun e w' => e = .returned (.int .i64 (popTo x 64 : Nat)) ∧ w' = w := by
  obtain ⟨l, hl1, hl2, hl3, hl4⟩ := swar_list 8 x (Nat.lt_of_lt_of_le h1 (by decide))
  obtain ⟨r, z1, z2, z3, e1, e2, e3, e4, e5, e6, e7, e8, e9⟩ := valB_sum hl1 hl2 rfl
  rw [show (64 : Nat) = 8 * 8 from rfl, hl4]
  clear hl4 hl1 hl2
  rw [← hl3] at e1 e9
  clear hl3
  generalize l.sum = ss at *
  unfold swar at e1 e9
  rw [rep85, rep51, rep15] at e1 e9
  obtain ⟨b1, b2⟩ := swar_bounds x h1
  unfold st2 at b2 e1 e9
  unfold st1 at b1 b2 e1 e9
  have f2 := bits_and_word (x / 2) 6148914691236517205 (by omega) (by decide)
  have f3 := bits_and_word x 6148914691236517205 h1 (by decide)
  obtain ⟨y1, g1⟩ : ∃ y, x / 2 = y := ⟨_, rfl⟩
  rw [g1] at f2 b1 b2 e1 e9
  obtain ⟨y2, g2⟩ : ∃ y, y1 &&& 6148914691236517205 = y := ⟨_, rfl⟩
  rw [g2] at f2 b1 b2 e1 e9
  obtain ⟨y3, g3⟩ : ∃ y, x &&& 6148914691236517205 = y := ⟨_, rfl⟩
  rw [g3] at f3 b1 b2 e1 e9
  obtain ⟨y4, g4⟩ : ∃ y, y2 + y3 = y := ⟨_, rfl⟩
  rw [g4] at b1 b2 e1 e9
  have f4 := wrap_sum y2 y3 y4 g4 b1
  have f5 := bits_and_word (y4 / 4) 3689348814741910323 (by omega) (by decide)
  have f6 := bits_and_word y4 3689348814741910323 b1 (by decide)
  obtain ⟨y5, g5⟩ : ∃ y, y4 / 4 = y := ⟨_, rfl⟩
  rw [g5] at f5 b2 e1 e9
  obtain ⟨y6, g6⟩ : ∃ y, y5 &&& 3689348814741910323 = y := ⟨_, rfl⟩
  rw [g6] at f5 b2 e1 e9
  obtain ⟨y7, g7⟩ : ∃ y, y4 &&& 3689348814741910323 = y := ⟨_, rfl⟩
  rw [g7] at f6 b2 e1 e9
  obtain ⟨y8, g8⟩ : ∃ y, y6 + y7 = y := ⟨_, rfl⟩
  rw [g8] at b2 e1 e9
  have f8 := wrap_sum y6 y7 y8 g8 (by omega)
  unfold st3 at e1 e9
  obtain ⟨y9, g9⟩ : ∃ y, y8 / 16 = y := ⟨_, rfl⟩
  rw [g9] at e1 e9
  obtain ⟨y10, g10⟩ : ∃ y, y9 + y8 = y := ⟨_, rfl⟩
  rw [g10] at e1 e9
  have f10 := wrap_sum y9 y8 y10 g10 (by omega)
  have f11 := bits_and_word y10 1085102592571150095 (by omega) (by decide)
  obtain ⟨v, gv⟩ : ∃ y, y10 &&& 1085102592571150095 = y := ⟨_, rfl⟩
  rw [gv] at f11 e1 e9
  obtain ⟨v1, gv1⟩ : ∃ y, v / 256 = y := ⟨_, rfl⟩
  obtain ⟨v2, gv2⟩ : ∃ y, z1 / 65536 = y := ⟨_, rfl⟩
  obtain ⟨v3, gv3⟩ : ∃ y, z2 / 4294967296 = y := ⟨_, rfl⟩
  rw [gv1] at e1
  rw [gv2] at e2
  rw [gv3] at e3
  have f12 := wrap_sum v v1 z1 e1.symm (by omega)
  have f13 := wrap_sum z1 v2 z2 e2.symm (by omega)
  have f14 := wrap_sum z2 v3 z3 e3.symm (by omega)
  have f15 := bits_and_i64 z3 (by omega)
  rw [show z3 % 128 = ss by omega] at f15
  have f2 : Go.bits BinOp.and IntKind.u64 (y1 : Int) 6148914691236517205 = (y2 : Int) := f2
  have f3 : Go.bits BinOp.and IntKind.u64 (x : Int) 6148914691236517205 = (y3 : Int) := f3
  have f5 : Go.bits BinOp.and IntKind.u64 (y5 : Int) 3689348814741910323 = (y6 : Int) := f5
  have f6 : Go.bits BinOp.and IntKind.u64 (y4 : Int) 3689348814741910323 = (y7 : Int) := f6
  have f11 : Go.bits BinOp.and IntKind.u64 (y10 : Int) 1085102592571150095 = (v : Int) := f11
  have k1 : (x : Int) / 2 = (y1 : Nat) := by omega
  have k2 : (y4 : Int) / 4 = (y5 : Nat) := by omega
  have k3 : (y8 : Int) / 16 = (y9 : Nat) := by omega
  have k4 : (v : Int) / 256 = (v1 : Nat) := by omega
  have k5 : (z1 : Int) / 65536 = (v2 : Nat) := by omega
  have k6 : (z2 : Int) / 4294967296 = (v3 : Nat) := by omega
  have hz3 : (z3 : Int) < 9223372036854775808 := by omega
  clear e1 e2 e3 e4 e5 e6 e7 e8 e9 b1 b2 g1 g2 g3 g4 g5 g6 g7 g8 g9 g10 gv gv1 gv2 gv3
  go_enter Tryd.func66, Tryd.ntmps66
  go_wp2_with fail
  go_ret
  exact ⟨rfl, rfl⟩
end Go.Proofs.YthagcmpehpgmpaaDoor
