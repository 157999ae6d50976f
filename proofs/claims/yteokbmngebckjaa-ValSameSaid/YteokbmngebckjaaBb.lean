/- Sets of bytes: is a byte in one? Sets of bytes: a byte more; of bytes. Sets of bytes: the document's, of bytes. Sets of bytes: of bytes. Sets of bytes: is a byte in one? Sets of bytes: of a range. Sets of bytes: of a range. Bytes' digits. A set's bytes, as the document has them. The lowest bit of a word: plain. The zeros that a word ends in: the library's count. A word's bits, from the lowest on: plain. A set's bytes. Bytes' digits, as the document has them. (For a seat without the digits' values.) Signs of bytes. Signs of bytes: the document's. A text that grows: strings.Builder, in a struct of two cells. A set's text: plain. -/
import Derived.Test.YteokbmngebckjaaBa
import Derived.Deep.QuietTactic
import Derived.BigQuiet
import Derived.StillTailTactics
import Derived.Laws.BitsLemmas
import Derived.Lib.Builder
import Derived.Lib.AppendStr
import Derived.Lib.UnsafeStr
import Derived.Lib.OthersKept
import Derived.Laws.Externs
import Derived.RegionTactic
namespace Go.Proofs.Yteokbmngebckjaa
open Go.RowKit
set_option linter.unusedVariables false
set_option linter.unusedSimpArgs false

abbrev setV (s : S4) : Value := .agg #[.int .u64 (s.a.toNat : Int), .int .u64 (s.b.toNat : Int), .int .u64 (s.c.toNat : Int), .int .u64 (s.d.toNat : Int)]
/-- a set's word -/
def S4.get (s : S4) : Nat → UInt64
  | 0 => s.a
  | 1 => s.b
  | 2 => s.c
  | _ => s.d
/-- a byte's bit in a word -/
def bitOf (x r : Nat) : Bool := decide (x / 2 ^ r % 2 = 1)
def S4.has (s : S4) (b : Nat) : Bool := bitOf (s.get (b / 64)).toNat (b % 64)

theorem wrap_u64 (x : Nat) (h : x < 18446744073709551616) : IntKind.u64.wrap (x : Int) = (x : Int) := by
  simp [IntKind.wrap, IntKind.bits, IntKind.signed]
  omega
/-- a word, halved -/
def half (x k : Nat) : Nat := x / 2 ^ k
theorem half_zero (x : Nat) : half x 0 = x := by simp [half]
theorem half_succ (x k : Nat) : half x (k + 1) = half x k / 2 := by
  unfold half
  rw [Nat.pow_succ, ← Nat.div_div_eq_div_mul]
theorem half_le (x k : Nat) : half x k ≤ x := Nat.div_le_self _ _
theorem half_bit (x k : Nat) : bitOf x k = decide (half x k % 2 = 1) := rfl
set_option maxHeartbeats 4000000 in
theorem refHas_any (s : S4) (b : Int) (w : World) (h0 : 0 ≤ b) (h1 : b ≤ 255) :
    Calls Try.prog 72 #[setV s, .int .i64 b] w fun e w' => e = .returned (.bool (s.has b.toNat)) ∧ Below w.heap.size w w' := by
  obtain ⟨j, hj, hjj⟩ : ∃ j : Nat, b.toNat / 64 = j ∧ (j = 0 ∨ j = 1 ∨ j = 2 ∨ j = 3) := ⟨_, rfl, by omega⟩
  obtain ⟨r, hr, hrr⟩ : ∃ r : Nat, b.toNat % 64 = r ∧ r < 64 := ⟨_, rfl, by omega⟩
  have hq : b.tdiv 64 = j := by rw [Int.tdiv_eq_ediv_of_nonneg h0]; omega
  have hm : b.tmod 64 = r := by rw [Int.tmod_eq_emod_of_nonneg h0]; omega
  have HS : Hid (s.has b.toNat = bitOf (s.get j).toNat r) := by unfold Hid S4.has; rw [hj, hr]
  clear hj hr
  rcases hjj with rfl | rfl | rfl | rfl
  · have HB : Hid (s.has b.toNat = bitOf s.a.toNat r) := HS.out
    have hX := s.a.toNat_lt
    go_enter Try.func72, Try.ntmps72
    go_wp2_with fail
    generalize hXX : s.a.toNat = X at *
    go_loopw [5, 6] (fun x i wr => ∃ k : Nat, k ≤ r ∧ i = .int .i64 k ∧ x = .int .u64 (half X k : Int) ∧ Below w.heap.size w wr) (fun _ i _ => r - (intOf i).toNat)
    case atStart => exact ⟨0, Nat.zero_le _, rfl, by rw [half_zero], below_new (Below.refl _ _) _⟩
    case round =>
      obtain ⟨k, hk, rfl, rfl, hb⟩ := hrel
      have e1 := half_le X k
      have e2 := half_succ X k
      have HF := Lib.hid (half_bit X k)
      generalize e3 : half X (k + 1) = y1 at *
      generalize half X k = y at *
      have d1 : (y : Int).tdiv 2 = (y1 : Int) := by rw [Int.tdiv_eq_ediv_of_nonneg (by omega)]; omega
      have d2 : (y : Int).tmod 2 = ((y % 2 : Nat) : Int) := by rw [Int.tmod_eq_emod_of_nonneg (by omega)]; omega
      have d3 := wrap_u64 y1 (by omega)
      by_cases hlt : k < r
      · have g : decide ((k : Int) < (r : Int)) = true := by simp; omega
        go_wp2_with fail
        go_roundw
        case rel => exact ⟨k + 1, by omega, by go_num, by simp [d1, d3, e3]; omega, hb⟩
        case measure => simp [intOf]; omega
      · have hk : k = r := by omega
        subst hk
        have g : decide ((k : Int) < (k : Int)) = false := by simp
        go_wp2_with fail
        go_ret
        exact ⟨by rw [HB.out, HF.out]; simp; rw [Bool.eq_iff_iff]; simp; omega, hb⟩
  · have HB : Hid (s.has b.toNat = bitOf s.b.toNat r) := HS.out
    have hX := s.b.toNat_lt
    go_enter Try.func72, Try.ntmps72
    go_wp2_with fail
    generalize hXX : s.b.toNat = X at *
    go_loopw [5, 6] (fun x i wr => ∃ k : Nat, k ≤ r ∧ i = .int .i64 k ∧ x = .int .u64 (half X k : Int) ∧ Below w.heap.size w wr) (fun _ i _ => r - (intOf i).toNat)
    case atStart => exact ⟨0, Nat.zero_le _, rfl, by rw [half_zero], below_new (Below.refl _ _) _⟩
    case round =>
      obtain ⟨k, hk, rfl, rfl, hb⟩ := hrel
      have e1 := half_le X k
      have e2 := half_succ X k
      have HF := Lib.hid (half_bit X k)
      generalize e3 : half X (k + 1) = y1 at *
      generalize half X k = y at *
      have d1 : (y : Int).tdiv 2 = (y1 : Int) := by rw [Int.tdiv_eq_ediv_of_nonneg (by omega)]; omega
      have d2 : (y : Int).tmod 2 = ((y % 2 : Nat) : Int) := by rw [Int.tmod_eq_emod_of_nonneg (by omega)]; omega
      have d3 := wrap_u64 y1 (by omega)
      by_cases hlt : k < r
      · have g : decide ((k : Int) < (r : Int)) = true := by simp; omega
        go_wp2_with fail
        go_roundw
        case rel => exact ⟨k + 1, by omega, by go_num, by simp [d1, d3, e3]; omega, hb⟩
        case measure => simp [intOf]; omega
      · have hk : k = r := by omega
        subst hk
        have g : decide ((k : Int) < (k : Int)) = false := by simp
        go_wp2_with fail
        go_ret
        exact ⟨by rw [HB.out, HF.out]; simp; rw [Bool.eq_iff_iff]; simp; omega, hb⟩
  · have HB : Hid (s.has b.toNat = bitOf s.c.toNat r) := HS.out
    have hX := s.c.toNat_lt
    go_enter Try.func72, Try.ntmps72
    go_wp2_with fail
    generalize hXX : s.c.toNat = X at *
    go_loopw [5, 6] (fun x i wr => ∃ k : Nat, k ≤ r ∧ i = .int .i64 k ∧ x = .int .u64 (half X k : Int) ∧ Below w.heap.size w wr) (fun _ i _ => r - (intOf i).toNat)
    case atStart => exact ⟨0, Nat.zero_le _, rfl, by rw [half_zero], below_new (Below.refl _ _) _⟩
    case round =>
      obtain ⟨k, hk, rfl, rfl, hb⟩ := hrel
      have e1 := half_le X k
      have e2 := half_succ X k
      have HF := Lib.hid (half_bit X k)
      generalize e3 : half X (k + 1) = y1 at *
      generalize half X k = y at *
      have d1 : (y : Int).tdiv 2 = (y1 : Int) := by rw [Int.tdiv_eq_ediv_of_nonneg (by omega)]; omega
      have d2 : (y : Int).tmod 2 = ((y % 2 : Nat) : Int) := by rw [Int.tmod_eq_emod_of_nonneg (by omega)]; omega
      have d3 := wrap_u64 y1 (by omega)
      by_cases hlt : k < r
      · have g : decide ((k : Int) < (r : Int)) = true := by simp; omega
        go_wp2_with fail
        go_roundw
        case rel => exact ⟨k + 1, by omega, by go_num, by simp [d1, d3, e3]; omega, hb⟩
        case measure => simp [intOf]; omega
      · have hk : k = r := by omega
        subst hk
        have g : decide ((k : Int) < (k : Int)) = false := by simp
        go_wp2_with fail
        go_ret
        exact ⟨by rw [HB.out, HF.out]; simp; rw [Bool.eq_iff_iff]; simp; omega, hb⟩
  · have HB : Hid (s.has b.toNat = bitOf s.d.toNat r) := HS.out
    have hX := s.d.toNat_lt
    go_enter Try.func72, Try.ntmps72
    go_wp2_with fail
    generalize hXX : s.d.toNat = X at *
    go_loopw [5, 6] (fun x i wr => ∃ k : Nat, k ≤ r ∧ i = .int .i64 k ∧ x = .int .u64 (half X k : Int) ∧ Below w.heap.size w wr) (fun _ i _ => r - (intOf i).toNat)
    case atStart => exact ⟨0, Nat.zero_le _, rfl, by rw [half_zero], below_new (Below.refl _ _) _⟩
    case round =>
      obtain ⟨k, hk, rfl, rfl, hb⟩ := hrel
      have e1 := half_le X k
      have e2 := half_succ X k
      have HF := Lib.hid (half_bit X k)
      generalize e3 : half X (k + 1) = y1 at *
      generalize half X k = y at *
      have d1 : (y : Int).tdiv 2 = (y1 : Int) := by rw [Int.tdiv_eq_ediv_of_nonneg (by omega)]; omega
      have d2 : (y : Int).tmod 2 = ((y % 2 : Nat) : Int) := by rw [Int.tmod_eq_emod_of_nonneg (by omega)]; omega
      have d3 := wrap_u64 y1 (by omega)
      by_cases hlt : k < r
      · have g : decide ((k : Int) < (r : Int)) = true := by simp; omega
        go_wp2_with fail
        go_roundw
        case rel => exact ⟨k + 1, by omega, by go_num, by simp [d1, d3, e3]; omega, hb⟩
        case measure => simp [intOf]; omega
      · have hk : k = r := by omega
        subst hk
        have g : decide ((k : Int) < (k : Int)) = false := by simp
        go_wp2_with fail
        go_ret
        exact ⟨by rw [HB.out, HF.out]; simp; rw [Bool.eq_iff_iff]; simp; omega, hb⟩

/-- a word with one bit more -/
def orBit (x r : Nat) : Nat := x ||| 2 ^ r
theorem orBit_lt {x r : Nat} (h : x < 18446744073709551616) (hr : r < 64) : orBit x r < 18446744073709551616 := by
  unfold orBit
  have h2 : 2 ^ r < 2 ^ 64 := Nat.pow_lt_pow_right (by decide) hr
  exact Nat.or_lt_two_pow (n := 64) h h2
theorem bitOf_test (x r : Nat) : bitOf x r = x.testBit r := by
  unfold bitOf
  rw [Nat.testBit_eq_decide_div_mod_eq]
theorem orBit_same {x r : Nat} (h : bitOf x r = true) : orBit x r = x := by
  rw [bitOf_test] at h
  unfold orBit
  apply Nat.eq_of_testBit_eq
  intro i
  rw [Nat.testBit_or, Nat.testBit_two_pow]
  by_cases hi : r = i
  · subst hi; simp [h]
  · simp [hi]
theorem orBit_add {x r : Nat} (hx : x < 18446744073709551616) (hr : r < 64) (h : bitOf x r = false) : x + 2 ^ r = orBit x r := by
  rw [bitOf_test] at h
  unfold orBit
  have h2 : x &&& 2 ^ r = 0 := by
    apply Nat.eq_of_testBit_eq
    intro k
    rw [Nat.testBit_and, Nat.testBit_two_pow, Nat.zero_testBit]
    by_cases hk : r = k
    · subst hk; simp [h]
    · simp [hk]
  have hp : 2 ^ r < 18446744073709551616 := Nat.pow_lt_pow_right (a := 2) (n := 64) (by decide) hr
  generalize 2 ^ r = y at *
  have e := BitVec.add_eq_or_of_and_eq_zero (BitVec.ofNat 66 x) (BitVec.ofNat 66 y) (by
    apply BitVec.eq_of_toNat_eq
    rw [BitVec.toNat_and, BitVec.toNat_ofNat, BitVec.toNat_ofNat, Nat.mod_eq_of_lt (by omega), Nat.mod_eq_of_lt (by omega), h2]
    rfl)
  have e2 := congrArg BitVec.toNat e
  rw [BitVec.toNat_add, BitVec.toNat_or, BitVec.toNat_ofNat, BitVec.toNat_ofNat, Nat.mod_eq_of_lt (a := x) (by omega), Nat.mod_eq_of_lt (a := y) (by omega), Nat.mod_eq_of_lt (by omega)] at e2
  exact e2
/-- a set with a bit more in a word -/
def S4.withAt (s : S4) (j r : Nat) : S4 :=
  match j with
  | 0 => { s with a := UInt64.ofNat (orBit s.a.toNat r) }
  | 1 => { s with b := UInt64.ofNat (orBit s.b.toNat r) }
  | 2 => { s with c := UInt64.ofNat (orBit s.c.toNat r) }
  | _ => { s with d := UInt64.ofNat (orBit s.d.toNat r) }
/-- a set with a byte more -/
def S4.with' (s : S4) (b : Nat) : S4 := s.withAt (b / 64) (b % 64)
/-- the set of bytes -/
def setFrom (s : S4) : List UInt8 → S4
  | [] => s
  | b :: r => setFrom (s.with' b.toNat) r
def setOf (l : List UInt8) : S4 := setFrom S4.zero l
theorem setFrom_append (s : S4) (l r : List UInt8) : setFrom s (l ++ r) = setFrom (setFrom s l) r := by
  induction l generalizing s with
  | nil => rfl
  | cons b l ih => exact ih _
end Go.Proofs.Yteokbmngebckjaa
namespace Go.Proofs.Yteokbmngebckjaa
open Go.RowKit
set_option linter.unusedVariables false
set_option linter.unusedSimpArgs false

/-- a power of two -/
def pow2 (k : Nat) : Nat := 2 ^ k
theorem pow2_zero : pow2 0 = 1 := rfl
theorem pow2_succ (k : Nat) : pow2 (k + 1) = 2 * pow2 k := by unfold pow2; rw [Nat.pow_succ, Nat.mul_comm]
theorem pow2_lt {k : Nat} (h : k < 64) : pow2 k < 18446744073709551616 := Nat.pow_lt_pow_right (a := 2) (n := 64) (by decide) h
/-- what is added to a word -/
def plusBit (x r : Nat) : Nat := if bitOf x r then x else x + pow2 r
theorem plusBit_or {x r : Nat} (hx : x < 18446744073709551616) (hr : r < 64) : plusBit x r = orBit x r := by
  unfold plusBit
  cases h : bitOf x r with
  | true => simp [orBit_same h]
  | false => simp [pow2, orBit_add hx hr h]

/-- two new blocks, still there -/
theorem one_block {w w1 : World} {o1 : Obj} (hb : Below (w.alloc o1).heap.size (w.alloc o1) w1) : w1.heap[w.heap.size]? = some o1 := by
  rw [hb.block _ (by simp)]
  show (w.heap.push o1)[w.heap.size]? = _
  simp
theorem two_blocks {w w1 : World} {o1 o2 : Obj} (hb : Below ((w.alloc o1).alloc o2).heap.size ((w.alloc o1).alloc o2) w1) : w1.heap[w.heap.size]? = some o1 ∧ w1.heap[w.heap.size + 1]? = some o2 := by
  constructor
  · rw [hb.block _ (by simp; omega), Below.heap_alloc _ _ _ (by simp)]
    show (w.heap.push o1)[w.heap.size]? = _
    simp
  · have h := one_block hb
    simpa using h
/-- a block of four cells -/
theorem cells4_of {w : World} {b : Nat} {v0 v1 v2 v3 : Value} {t : TypeId} (h : w.heap[b]? = some (.cells #[v0, v1, v2, v3] t (0, 0))) :
    (w.cell? ⟨b, 0, none⟩ = some v0 ∧ w.cell? ⟨b, 1, none⟩ = some v1 ∧ w.cell? ⟨b, 2, none⟩ = some v2 ∧ w.cell? ⟨b, 3, none⟩ = some v3) ∧
    w.frozen? ⟨b, 0, none⟩ = false ∧ w.frozen? ⟨b, 1, none⟩ = false ∧ w.frozen? ⟨b, 2, none⟩ = false ∧ w.frozen? ⟨b, 3, none⟩ = false := by
  refine ⟨⟨?_, ?_, ?_, ?_⟩, ?_, ?_, ?_, ?_⟩ <;> simp [World.cell?, World.frozen?, h]
end Go.Proofs.Yteokbmngebckjaa
namespace Go.Proofs.Yteokbmngebckjaa
open Go.RowKit
set_option linter.unusedVariables false
set_option linter.unusedSimpArgs false

abbrev setA (s : S4) : Array Value := #[.int .u64 (s.a.toNat : Int), .int .u64 (s.b.toNat : Int), .int .u64 (s.c.toNat : Int), .int .u64 (s.d.toNat : Int)]
/-- a block of four cells, written -/
theorem four_setCells {w : World} {b : Nat} {v0 v1 v2 v3 u0 u1 u2 u3 : Value} {t : TypeId} (h : w.heap[b]? = some (.cells #[v0, v1, v2, v3] t (0, 0))) :
    ((((w.setCell ⟨b, 0, none⟩ u0).setCell ⟨b, 1, none⟩ u1).setCell ⟨b, 2, none⟩ u2).setCell ⟨b, 3, none⟩ u3).heap[b]? = some (.cells #[u0, u1, u2, u3] t (0, 0)) := by
  have hlt := lt_of_block h
  have h' : w.heap[b] = .cells #[v0, v1, v2, v3] t (0, 0) := by simpa [Array.getElem?_eq_getElem hlt] using h
  simp [World.setCell, Array.getElem?_modify, h]
theorem four_other {w : World} {b k : Nat} {u0 u1 u2 u3 : Value} (hk : k ≠ b) :
    ((((w.setCell ⟨b, 0, none⟩ u0).setCell ⟨b, 1, none⟩ u1).setCell ⟨b, 2, none⟩ u2).setCell ⟨b, 3, none⟩ u3).heap[k]? = w.heap[k]? := by
  rw [Below.heap_setCell _ _ _ _ hk, Below.heap_setCell _ _ _ _ hk, Below.heap_setCell _ _ _ _ hk, Below.heap_setCell _ _ _ _ hk]
theorem four_below {w x : World} {b B : Nat} {u0 u1 u2 u3 : Value} (hb : Below B w x) (hB : B ≤ b) :
    Below B w ((((x.setCell ⟨b, 0, none⟩ u0).setCell ⟨b, 1, none⟩ u1).setCell ⟨b, 2, none⟩ u2).setCell ⟨b, 3, none⟩ u3) :=
  (((hb.setCell hB _).setCell hB _).setCell hB _).setCell hB _

theorem setFrom_take {l : List UInt8} {k : Nat} {x : UInt8} (h : l[k]? = some x) (s : S4) : setFrom s (l.take (k + 1)) = (setFrom s (l.take k)).with' x.toNat := by
  rw [List.take_add_one, h, setFrom_append]
  rfl

end Go.Proofs.Yteokbmngebckjaa
namespace Go.Proofs.Yteokbmngebckjaa
open Go.RowKit
set_option linter.unusedVariables false
set_option linter.unusedSimpArgs false

theorem bits_or_word {x : UInt64} {r : Nat} (hr : r < 64) : Go.bits BinOp.or IntKind.u64 (x.toNat : Int) (IntKind.u64.wrap (2 ^ r)) = ((UInt64.ofNat (orBit x.toNat r)).toNat : Int) := by
  have h2 := pow2_lt hr
  unfold pow2 at h2
  have e : IntKind.u64.wrap ((2 ^ r : Nat) : Int) = ((2 ^ r : Nat) : Int) := wrap_u64 _ h2
  rw [show ((2 : Int) ^ r) = ((2 ^ r : Nat) : Int) by simp, e, UInt64.toNat_ofNat', Nat.mod_eq_of_lt (orBit_lt x.toNat_lt hr)]
  have hx := x.toNat_lt
  generalize x.toNat = a at *
  unfold orBit
  generalize 2 ^ r = b at *
  simp [Go.bits, IntKind.bits, IntKind.signed, IntKind.wrap]
  have h3 : a ||| b < 2 ^ 64 := Nat.or_lt_two_pow hx h2
  have k : (BitVec.ofNat 64 a ||| BitVec.ofNat 64 b).toNat = a ||| b := by
    rw [BitVec.toNat_or, BitVec.toNat_ofNat, BitVec.toNat_ofNat, Nat.mod_eq_of_lt (by omega : a < 2 ^ 64), Nat.mod_eq_of_lt (by omega : b < 2 ^ 64)]
  have m : (((BitVec.ofNat 64 a ||| BitVec.ofNat 64 b).toNat : Nat) : Int) % 18446744073709551616 = ((a ||| b : Nat) : Int) := by rw [k]; omega
  exact m
theorem four_set {w : World} {b : Nat} {v0 v1 v2 v3 u : Value} {t : TypeId} (h : w.heap[b]? = some (.cells #[v0, v1, v2, v3] t (0, 0))) :
    (w.setCell ⟨b, 0, none⟩ u).heap[b]? = some (.cells #[u, v1, v2, v3] t (0, 0)) ∧ (w.setCell ⟨b, 1, none⟩ u).heap[b]? = some (.cells #[v0, u, v2, v3] t (0, 0)) ∧
    (w.setCell ⟨b, 2, none⟩ u).heap[b]? = some (.cells #[v0, v1, u, v3] t (0, 0)) ∧ (w.setCell ⟨b, 3, none⟩ u).heap[b]? = some (.cells #[v0, v1, v2, u] t (0, 0)) := by
  refine ⟨?_, ?_, ?_, ?_⟩ <;> simp [World.setCell, Array.getElem?_modify, h]

set_option maxHeartbeats 8000000 in
theorem setOf_any (l : List UInt8) (A : Option Addr) (c : Nat) (w : World) (hm : l.length ≤ 1000000000) (hc : l.length ≤ c) (hr : Row1 encB w A l) :
    Calls Try.prog 116 #[.slice A l.length c] w fun e w' => e = .returned (setV (setOf l)) ∧ Below w.heap.size w w' := by
  have HO : Hid (setOf l = setFrom S4.zero l) := rfl
  go_enter Try.func116, Try.ntmps116
  go_wp2_with fail
  obtain ⟨e1, e2⟩ := two_blocks (w := w) (o1 := .cells (setA S4.zero) 31) (o2 := .cells (setA S4.zero) 31) (Below.refl _ _)
  have hb0 : Below w.heap.size w ((w.alloc (.cells (setA S4.zero) 31)).alloc (.cells (setA S4.zero) 31)) := below_new (below_new (Below.refl _ _) _) _
  have E1 := Lib.hid e1
  have E2 := Lib.hid e2
  clear e1 e2
  go_loopw [5, 8] (fun _ i wr => ∃ (k : Nat), k ≤ l.length ∧ i = .int .i64 k ∧ Hid (wr.heap[w.heap.size]? = some (.cells (setA S4.zero) 31 (0, 0))) ∧ Hid (wr.heap[w.heap.size + 1]? = some (.cells (setA (setFrom S4.zero (l.take k))) 31 (0, 0))) ∧ Below w.heap.size w wr) (fun _ i _ => l.length - (intOf i).toNat)
  case atStart => exact ⟨0, Nat.zero_le _, rfl, E1, E2, hb0⟩
  case round =>
    clear E1 E2 hb0
    obtain ⟨k, hk, rfl, E1, E2, hb⟩ := hrel
    obtain ⟨⟨x0, x1, x2, x3⟩, f0, f1, f2, f3⟩ := cells4_of E1.out
    obtain ⟨⟨y0, y1, y2, y3⟩, g0, g1, g2, g3⟩ := cells4_of E2.out
    by_cases hlt : k < l.length
    · have hT := Lib.hid (setFrom_take (l := l) (k := k) (x := l[k]) (by simp [hlt]) S4.zero)
      generalize setFrom S4.zero (l.take k) = s0 at *
      obtain ⟨ad, hA, hcell⟩ := (hr.below hb) k l[k] (by simp [hlt])
      subst hA
      have hx := l[k].toNat_lt
      generalize l[k] = x at *
      obtain ⟨j, hj, hjj⟩ : ∃ j : Nat, x.toNat / 64 = j ∧ (j = 0 ∨ j = 1 ∨ j = 2 ∨ j = 3) := ⟨_, rfl, by omega⟩
      obtain ⟨r, hrr, hr64⟩ : ∃ r : Nat, x.toNat % 64 = r ∧ r < 64 := ⟨_, rfl, by omega⟩
      have HWi : Hid (s0.with' x.toNat = s0.withAt j r) := by unfold Hid S4.with'; rw [hj, hrr]
      have hq : (x.toNat : Int).tdiv 64 = j := by rw [Int.tdiv_eq_ediv_of_nonneg (by omega)]; omega
      have hm2 : (x.toNat : Int).tmod 64 = r := by rw [Int.tmod_eq_emod_of_nonneg (by omega)]; omega
      clear hj hrr hr
      rcases hjj with rfl | rfl | rfl | rfl
      · have hw := bits_or_word (x := s0.a) hr64
        have HWi' : Hid (s0.with' x.toNat = { s0 with a := UInt64.ofNat (orBit s0.a.toNat r) }) := HWi.out
        generalize UInt64.ofNat (orBit s0.a.toNat r) = u at *
        go_wp2_with fail
        go_roundw
        case rel => exact ⟨k + 1, by omega, by go_num, (Below.heap_setCell _ _ _ _ (by simp)).trans E1.out, by rw [hT.out, HWi'.out]; exact (four_set E2.out).1, hb.setCell (by simp) _⟩
        case measure => simp [intOf]; omega
      · have hw := bits_or_word (x := s0.b) hr64
        have HWi' : Hid (s0.with' x.toNat = { s0 with b := UInt64.ofNat (orBit s0.b.toNat r) }) := HWi.out
        generalize UInt64.ofNat (orBit s0.b.toNat r) = u at *
        go_wp2_with fail
        go_roundw
        case rel => exact ⟨k + 1, by omega, by go_num, (Below.heap_setCell _ _ _ _ (by simp)).trans E1.out, by rw [hT.out, HWi'.out]; exact (four_set E2.out).2.1, hb.setCell (by simp) _⟩
        case measure => simp [intOf]; omega
      · have hw := bits_or_word (x := s0.c) hr64
        have HWi' : Hid (s0.with' x.toNat = { s0 with c := UInt64.ofNat (orBit s0.c.toNat r) }) := HWi.out
        generalize UInt64.ofNat (orBit s0.c.toNat r) = u at *
        go_wp2_with fail
        go_roundw
        case rel => exact ⟨k + 1, by omega, by go_num, (Below.heap_setCell _ _ _ _ (by simp)).trans E1.out, by rw [hT.out, HWi'.out]; exact (four_set E2.out).2.2.1, hb.setCell (by simp) _⟩
        case measure => simp [intOf]; omega
      · have hw := bits_or_word (x := s0.d) hr64
        have HWi' : Hid (s0.with' x.toNat = { s0 with d := UInt64.ofNat (orBit s0.d.toNat r) }) := HWi.out
        generalize UInt64.ofNat (orBit s0.d.toNat r) = u at *
        go_wp2_with fail
        go_roundw
        case rel => exact ⟨k + 1, by omega, by go_num, (Below.heap_setCell _ _ _ _ (by simp)).trans E1.out, by rw [hT.out, HWi'.out]; exact (four_set E2.out).2.2.2, hb.setCell (by simp) _⟩
        case measure => simp [intOf]; omega
    · have he : k = l.length := by omega
      subst he
      have g : decide ((l.length : Int) < (l.length : Int)) = false := by simp
      rw [List.take_length] at E2 y0 y1 y2 y3
      have HB := Lib.hid hb
      go_wp2_with fail
      refine bodyPost_ret (v := setV (setOf l)) (by rw [HO.out]; simp [results, Try.results116, go_sem, x0, x1, x2, x3, y0, y1, y2, y3]) rfl ⟨rfl, ?_⟩
      exact four_below hb (Nat.le_refl _)
end Go.Proofs.Yteokbmngebckjaa
namespace Go.Proofs.Yteokbmngebckjaa
open Go.RowKit
set_option linter.unusedVariables false
set_option linter.unusedSimpArgs false

theorem bits_and_one (y : Nat) (h : y < 18446744073709551616) : Go.bits BinOp.and IntKind.u64 (y : Int) 1 = ((y % 2 : Nat) : Int) := by
  simp [Go.bits, IntKind.bits, IntKind.signed, IntKind.wrap]
  have k : (BitVec.ofNat 64 y &&& 1#64).toNat = y % 2 := by
    rw [BitVec.toNat_and, BitVec.toNat_ofNat, Nat.mod_eq_of_lt (by omega : y < 2 ^ 64)]
    simp [Nat.and_one_is_mod]
  have m : (((BitVec.ofNat 64 y &&& 1#64).toNat : Nat) : Int) % 18446744073709551616 = (y : Int) % 2 := by rw [k]; omega
  exact m
theorem bit_test (x : UInt64) (r : Nat) : (Go.bits BinOp.and IntKind.u64 ((x.toNat : Int) / 2 ^ r) 1 == 1) = bitOf x.toNat r := by
  have e : ((x.toNat : Int) / 2 ^ r) = ((half x.toNat r : Nat) : Int) := by unfold half; simp
  have h1 := half_le x.toNat r
  have h2 := x.toNat_lt
  rw [e, bits_and_one _ (by omega), half_bit, Bool.eq_iff_iff]
  simp
  omega

set_option maxHeartbeats 4000000 in
theorem setHas_any (s : S4) (b : Int) (w : World) (h0 : 0 ≤ b) (h1 : b ≤ 255) :
    Calls Try.prog 80 #[setV s, .int .u8 b] w fun e w' => e = .returned (.bool (s.has b.toNat)) ∧ Below w.heap.size w w' := by
  obtain ⟨j, hj, hjj⟩ : ∃ j : Nat, b.toNat / 64 = j ∧ (j = 0 ∨ j = 1 ∨ j = 2 ∨ j = 3) := ⟨_, rfl, by omega⟩
  obtain ⟨r, hr, hrr⟩ : ∃ r : Nat, b.toNat % 64 = r ∧ r < 64 := ⟨_, rfl, by omega⟩
  have hq : b.tdiv 64 = j := by rw [Int.tdiv_eq_ediv_of_nonneg h0]; omega
  have hm : b.tmod 64 = r := by rw [Int.tmod_eq_emod_of_nonneg h0]; omega
  have HS : Hid (s.has b.toNat = bitOf (s.get j).toNat r) := by unfold Hid S4.has; rw [hj, hr]
  clear hj hr
  rcases hjj with rfl | rfl | rfl | rfl
  · have HB : Hid (s.has b.toNat = bitOf s.a.toNat r) := HS.out
    go_enter Try.func80, Try.ntmps80
    go_wp2_with fail
    go_ret
    exact ⟨by rw [HB.out, ← bit_test]; rfl, below_new (Below.refl _ _) _⟩
  · have HB : Hid (s.has b.toNat = bitOf s.b.toNat r) := HS.out
    go_enter Try.func80, Try.ntmps80
    go_wp2_with fail
    go_ret
    exact ⟨by rw [HB.out, ← bit_test]; rfl, below_new (Below.refl _ _) _⟩
  · have HB : Hid (s.has b.toNat = bitOf s.c.toNat r) := HS.out
    go_enter Try.func80, Try.ntmps80
    go_wp2_with fail
    go_ret
    exact ⟨by rw [HB.out, ← bit_test]; rfl, below_new (Below.refl _ _) _⟩
  · have HB : Hid (s.has b.toNat = bitOf s.d.toNat r) := HS.out
    go_enter Try.func80, Try.ntmps80
    go_wp2_with fail
    go_ret
    exact ⟨by rw [HB.out, ← bit_test]; rfl, below_new (Below.refl _ _) _⟩
end Go.Proofs.Yteokbmngebckjaa
namespace Go.Proofs.Yteokbmngebckjaa
open Go.RowKit
set_option linter.unusedVariables false
set_option linter.unusedSimpArgs false

/-- the set of n bytes from lo on -/
def setRun (lo : Nat) : Nat → S4
  | 0 => S4.zero
  | n + 1 => (setRun lo n).with' (lo + n)

end Go.Proofs.Yteokbmngebckjaa
namespace Go.Proofs.Yteokbmngebckjaa
open Go.RowKit
set_option linter.unusedVariables false
set_option linter.unusedSimpArgs false

set_option maxRecDepth 100000 in
set_option maxHeartbeats 8000000 in
theorem setRange_any (lo hi : Int) (w : World) (h0 : 0 ≤ lo) (h1 : lo ≤ 255) (h2 : 0 ≤ hi) (h3 : hi ≤ 255) :
    Calls Try.prog 113 #[.int .u8 lo, .int .u8 hi] w fun e w' => e = .returned (setV (setRun lo.toNat (hi.toNat + 1 - lo.toNat))) ∧ Below w.heap.size w w' := by
  obtain ⟨l, rfl⟩ : ∃ l : Nat, lo = (l : Int) := ⟨lo.toNat, by omega⟩
  obtain ⟨u, rfl⟩ : ∃ u : Nat, hi = (u : Int) := ⟨hi.toNat, by omega⟩
  simp only [Int.toNat_natCast]
  go_enter Try.func113, Try.ntmps113
  go_wp2_with fail
  obtain ⟨e1, e2⟩ := two_blocks (w := w) (o1 := .cells (setA S4.zero) 31) (o2 := .cells (setA S4.zero) 31) (Below.refl _ _)
  have hb0 : Below w.heap.size w ((w.alloc (.cells (setA S4.zero) 31)).alloc (.cells (setA S4.zero) 31)) := below_new (below_new (Below.refl _ _) _) _
  have E1 := Lib.hid e1
  have E2 := Lib.hid e2
  clear e1 e2
  go_loopw [6] (fun i wr => ∃ (k : Nat), k ≤ u + 1 - l ∧ i = .int .i64 (l + k : Nat) ∧ Hid (wr.heap[w.heap.size]? = some (.cells (setA S4.zero) 31 (0, 0))) ∧ Hid (wr.heap[w.heap.size + 1]? = some (.cells (setA (setRun l k)) 31 (0, 0))) ∧ Below w.heap.size w wr) (fun i _ => 300 - (intOf i).toNat)
  case atStart => exact ⟨0, Nat.zero_le _, rfl, E1, E2, hb0⟩
  case round =>
    clear E1 E2 hb0
    obtain ⟨k, hk, rfl, E1, E2, hb⟩ := hrel
    obtain ⟨⟨x0, x1, x2, x3⟩, f0, f1, f2, f3⟩ := cells4_of E1.out
    obtain ⟨⟨y0, y1, y2, y3⟩, g0, g1, g2, g3⟩ := cells4_of E2.out
    by_cases hlt : l + k ≤ u
    · have hT : Hid (setRun l (k + 1) = (setRun l k).with' (l + k)) := rfl
      generalize setRun l k = s0 at *
      obtain ⟨m, hm⟩ : ∃ m, l + k = m := ⟨_, rfl⟩
      rw [hm] at hT hlt ⊢
      have HM := Lib.hid hm
      clear hm
      have g : decide ((m : Int) ≤ (u : Int)) = true := by simp; omega
      obtain ⟨j, hj, hjj⟩ : ∃ j : Nat, m / 64 = j ∧ (j = 0 ∨ j = 1 ∨ j = 2 ∨ j = 3) := ⟨_, rfl, by omega⟩
      obtain ⟨r, hrr, hr64⟩ : ∃ r : Nat, m % 64 = r ∧ r < 64 := ⟨_, rfl, by omega⟩
      have HWi : Hid (s0.with' m = s0.withAt j r) := by unfold Hid S4.with'; rw [hj, hrr]
      have hq : (m : Int).tdiv 64 = j := by rw [Int.tdiv_eq_ediv_of_nonneg (by omega)]; omega
      have hm2 : (m : Int).tmod 64 = r := by rw [Int.tmod_eq_emod_of_nonneg (by omega)]; omega
      clear hj hrr
      rcases hjj with rfl | rfl | rfl | rfl
      · have hw := bits_or_word (x := s0.a) hr64
        have HWi' : Hid (s0.with' m = { s0 with a := UInt64.ofNat (orBit s0.a.toNat r) }) := HWi.out
        generalize UInt64.ofNat (orBit s0.a.toNat r) = v at *
        go_wp2_with fail
        go_region
        go_wp2_with fail
        go_roundw
        case rel => exact ⟨k + 1, by have := HM.out; omega, by have := HM.out; go_num, (Below.heap_setCell _ _ _ _ (by simp)).trans E1.out, by rw [hT.out, HWi'.out]; exact (four_set E2.out).1, (hb.setCell (by simp) _).drew⟩
        case measure => simp [intOf]; omega
      · have hw := bits_or_word (x := s0.b) hr64
        have HWi' : Hid (s0.with' m = { s0 with b := UInt64.ofNat (orBit s0.b.toNat r) }) := HWi.out
        generalize UInt64.ofNat (orBit s0.b.toNat r) = v at *
        go_wp2_with fail
        go_region
        go_wp2_with fail
        go_roundw
        case rel => exact ⟨k + 1, by have := HM.out; omega, by have := HM.out; go_num, (Below.heap_setCell _ _ _ _ (by simp)).trans E1.out, by rw [hT.out, HWi'.out]; exact (four_set E2.out).2.1, (hb.setCell (by simp) _).drew⟩
        case measure => simp [intOf]; omega
      · have hw := bits_or_word (x := s0.c) hr64
        have HWi' : Hid (s0.with' m = { s0 with c := UInt64.ofNat (orBit s0.c.toNat r) }) := HWi.out
        generalize UInt64.ofNat (orBit s0.c.toNat r) = v at *
        go_wp2_with fail
        go_region
        go_wp2_with fail
        go_roundw
        case rel => exact ⟨k + 1, by have := HM.out; omega, by have := HM.out; go_num, (Below.heap_setCell _ _ _ _ (by simp)).trans E1.out, by rw [hT.out, HWi'.out]; exact (four_set E2.out).2.2.1, (hb.setCell (by simp) _).drew⟩
        case measure => simp [intOf]; omega
      · have hw := bits_or_word (x := s0.d) hr64
        have HWi' : Hid (s0.with' m = { s0 with d := UInt64.ofNat (orBit s0.d.toNat r) }) := HWi.out
        generalize UInt64.ofNat (orBit s0.d.toNat r) = v at *
        go_wp2_with fail
        go_region
        go_wp2_with fail
        go_roundw
        case rel => exact ⟨k + 1, by have := HM.out; omega, by have := HM.out; go_num, (Below.heap_setCell _ _ _ _ (by simp)).trans E1.out, by rw [hT.out, HWi'.out]; exact (four_set E2.out).2.2.2, (hb.setCell (by simp) _).drew⟩
        case measure => simp [intOf]; omega
    · have he : k = u + 1 - l := by omega
      subst he
      have g : decide (((l + (u + 1 - l) : Nat) : Int) ≤ (u : Int)) = false := by simp; omega
      go_wp2_with fail
      refine bodyPost_ret (v := setV (setRun l (u + 1 - l))) (by simp [results, Try.results113, go_sem, x0, x1, x2, x3, y0, y1, y2, y3]) rfl ⟨rfl, ?_⟩
      exact four_below hb (Nat.le_refl _)
end Go.Proofs.Yteokbmngebckjaa
namespace Go.Proofs.Yteokbmngebckjaa
open Go.RowKit
set_option linter.unusedVariables false
set_option linter.unusedSimpArgs false

/-- a hexadecimal digit's sign -/
def hexd (n : Nat) : UInt8 := if n < 10 then UInt8.ofNat (48 + n) else UInt8.ofNat (87 + n)
abbrev digitsText : ByteArray := ⟨#[48, 49, 50, 51, 52, 53, 54, 55, 56, 57, 97, 98, 99, 100, 101, 102]⟩
theorem hexd_at : ∀ (n : Nat) (h : n < digitsText.size), digitsText[n] = hexd n := by
  intro n h
  have h' : n < 16 := h
  have : ∀ m : Fin 16, digitsText[m.val]'(m.isLt) = hexd m.val := by decide
  exact this ⟨n, h'⟩

theorem digit_any (z : Int) (w : World) (h0 : 0 ≤ z) (hz : z < 256) :
    Calls Try.prog 96 #[.int .u8 z] w fun e w' => e = .returned (.int .u8 (hexd (z.toNat % 16)).toNat) ∧ w' = w := by
  obtain ⟨n, rfl⟩ := Int.eq_ofNat_of_zero_le h0
  have hn : n < 256 := by omega
  have ha : Go.bits .and .u8 (n : Int) 15 = ((n % 16 : Nat) : Int) := by rw [u8_and15 _ (by omega) (by omega)]; rfl
  rw [Int.toNat_natCast]
  clear h0 hz
  have h1 : n % 16 < 16 := Nat.mod_lt _ (by decide)
  have he := Lib.hid (hexd_at (n % 16) h1)
  generalize n % 16 = m at *
  go_enter Try.func96, Try.ntmps96
  go_wp2_with fail
  go_ret
  exact ⟨by rw [← he.out]; rfl, rfl⟩

/-- the digits of bytes -/
def hexOf (l : List UInt8) : List UInt8 := l.flatMap fun b => [hexd (b.toNat / 16), hexd (b.toNat % 16)]
theorem hexOf_length (l : List UInt8) : (hexOf l).length = 2 * l.length := by
  induction l with
  | nil => rfl
  | cons b r ih => simp only [hexOf, List.flatMap_cons, List.length_append, List.length_cons, List.length_nil] at ih ⊢; omega
theorem hexOf_snoc (l : List UInt8) (b : UInt8) : hexOf (l ++ [b]) = hexOf l ++ [hexd (b.toNat / 16), hexd (b.toNat % 16)] := by simp [hexOf]
theorem take_snoc_ {α : Type} {l : List α} {k : Nat} {x : α} (h : l[k]? = some x) : l.take (k + 1) = l.take k ++ [x] := by
  rw [List.take_add_one, h]; rfl
theorem hex_cells {w : World} {x y : Value} (t : TypeId) : Src (w.alloc (.cells #[x, y] t)) (some ⟨w.heap.size, 0, none⟩) 2 1 [x, y] :=
  ⟨rfl, fun j u hu => ⟨_, rfl, by
    rw [show (⟨w.heap.size, 0, none⟩ : Addr).add j = ⟨w.heap.size, j, none⟩ by unfold Addr.add; split <;> simp_all]
    match j, hu with
    | 0, hu => simp at hu; subst hu; rw [cell_of_row _ _ _ _ _ _ (heap_alloc_new w _)]; rfl
    | 1, hu => simp at hu; subst hu; rw [cell_of_row _ _ _ _ _ _ (heap_alloc_new w _)]; rfl⟩⟩
theorem Try.info_u8 : (Try.prog.info? 5).map (fun i => (i.zero, i.size, i.bytes)) = some (some (.int .u8 0), 1, 1) := by kernel_rfl

set_option maxHeartbeats 1000000 in
theorem Hex_any (l : List UInt8) (A : Option Addr) (c : Nat) (w : World) (hr : Row1 encB w A l) (hm : l.length ≤ 1000000000) :
    Calls Try.prog 77 #[.slice A l.length c] w fun e w' => e = .returned (.string (str (hexOf l))) ∧ Below w.heap.size w w' := by
  obtain ⟨i0, hi, hz0, hz1, hz2⟩ := info_parts Try.info_u8
  have hz2' : i0.bytes * (2 * l.length) ≤ 281474976710656 := by rw [hz2]; omega
  have hmx : 2 * l.length ≤ maxLen := by unfold maxLen; omega
  go_enter Try.func77, Try.ntmps77
  go_wp2_with (at_make; refine wpList_make_own _ rfl _ _ 59 rfl w.heap.size 5 i0 (.int .u8 0) 1 Try.underlying59 hi hz0 hz1 _ _ _ (2 * l.length) rfl rfl (by omega) hz2' hmx (Nat.le_refl _) ?_; intro w1 hown hg)
  have hb0 : Below w.heap.size w w1 := (Below.refl _ _).grown hg (Nat.le_refl _) (by simp)
  clear hg hz2' hmx
  go_loopw [3, 12] (fun o i wr => ∃ k : Nat, k ≤ l.length ∧ i = .int .i64 k ∧ wr.ownsRow w.heap.size 5 1 o (2 * k) ((hexOf (l.take k)).map encB) ∧ Below w.heap.size w wr) (fun _ i _ => l.length - (intOf i).toNat)
  case atStart => exact ⟨0, Nat.zero_le _, rfl, hown, hb0⟩
  case round =>
    obtain ⟨k, hk, rfl, ho, hb⟩ := hrel
    obtain ⟨A2, c2, rfl, _, _⟩ := own_slice ho
    by_cases hlt : k < l.length
    · obtain ⟨ad, b, hA, hx, hc⟩ := (hr.below hb).at_ hlt
      subst hA
      have HX := Lib.hid hx
      clear hx hr hb0 hown
      have h16 := b.toNat_lt
      have HS := Lib.hid (hexOf_snoc (l.take k) b)
      have HT := Lib.hid (take_snoc_ HX.out)
      have e1 : (((b.toNat : Int) / 16).toNat % 16) = b.toNat / 16 := by omega
      have e2 : (((b.toNat : Int)).toNat % 16) = b.toNat % 16 := by omega
      replace e1 := Lib.hid e1
      replace e2 := Lib.hid e2
      go_wp2_with fail
      refine (digit_any _ _ (by omega) (by omega)).mono ?_
      rintro e w2 ⟨rfl, rfl⟩
      go_wp2_with fail
      refine (digit_any _ _ (by omega) (by omega)).mono ?_
      rintro e w2 ⟨rfl, rfl⟩
      rw [e1.out, e2.out]
      go_wp2_with (at_builtin; refine wpList_app _ rfl (.tmp 16) (.tmp 22) 59 rfl w.heap.size 5 (.int .u8 0) 1 1 Try.underlying59 Try.info_u8 rfl (by decide) (.slice A2 (2 * k) c2) (2 * k) _ rfl (ho.alloc _) (some ⟨_, 0, none⟩) 2 2 _ rfl (hex_cells _) ?h1 ?h2 ?h3 ?h4 ?_)
      case h1 => intro u hu; simp at hu; rcases hu with rfl | rfl <;> rfl
      case h2 => unfold maxLen; omega
      case h3 => omega
      case h4 => have := hb.size; simp; omega
      intro v3 w3 ho3 hg3 _
      have hb3 : Below w.heap.size w w3 := (below_new hb _).grown hg3 (by have := hb.size; simp; omega) (fun j hj => own_base ho j hj)
      clear hg3 ho hb
      go_wp2_with fail
      go_roundw
      case rel => exact ⟨k + 1, by omega, by go_num, by rw [HT.out, HS.out, show 2 * (k + 1) = 2 * k + 2 by omega]; simpa using ho3, hb3⟩
      case measure => simp [intOf]; omega
    · have hkk : k = l.length := by omega
      subst hkk
      clear hlt hk
      rw [List.take_length] at ho
      obtain ⟨A3, c3, he, _, hs3⟩ := own_slice ho
      have hcv := conv_bytes (P := Try.prog) (w := wr) (dst := 9) Try.underlying59 Try.underlying5 Try.underlying9 (2 * l.length) c3 (hexOf_length l) hs3.row1
      rw [← he] at hcv
      go_wp2_with fail
      go_ret
      exact ⟨rfl, hb⟩
end Go.Proofs.Yteokbmngebckjaa
namespace Go.Proofs.Yteokbmngebckjaa
open Go.RowKit
set_option linter.unusedVariables false
set_option linter.unusedSimpArgs false

/-- a set's bytes below n -/
def bytesTo (s : S4) : Nat → List UInt8
  | 0 => []
  | n + 1 => if s.has n then bytesTo s n ++ [UInt8.ofNat n] else bytesTo s n
def bytesOf (s : S4) : List UInt8 := bytesTo s 256
theorem bytesTo_length (s : S4) (n : Nat) : (bytesTo s n).length ≤ n := by
  induction n with
  | zero => simp [bytesTo]
  | succ n ih =>
    simp only [bytesTo]
    split
    · rw [List.length_append, List.length_singleton]; omega
    · omega
theorem new_at1 {w : World} (o : Obj) : (w.alloc o).heap[w.heap.size]? = some o := heap_alloc_new w o
theorem heap_keep1 {W : World} {b : Nat} {x : Obj} (h : W.heap[b]? = some x) (o : Obj) : (W.alloc o).heap[b]? = some x :=
  (Below.heap_alloc W o b (lt_of_block h)).trans h
def BytesPost (l : List UInt8) (w : World) (e : Ending) (w' : World) : Prop := ∃ A c, e = .returned (.slice A l.length c) ∧ l.length ≤ c ∧ Row1 encB w' A l ∧ Below w.heap.size w w'

end Go.Proofs.Yteokbmngebckjaa
namespace Go.Proofs.Yteokbmngebckjaa
set_option linter.unusedVariables false

/-- how many zeros a word ends in -/
def tzN : Nat → Nat → Nat
  | 0, _ => 0
  | n + 1, x => if x % 2 = 1 then 0 else tzN n (x / 2) + 1
theorem tz_spec : ∀ (n x : Nat), 0 < x → x < 2 ^ n → ∃ m, x = 2 ^ tzN n x * (2 * m + 1) ∧ tzN n x < n
  | 0, x, h0, h1 => by simp at h1; omega
  | n + 1, x, h0, h1 => by
    unfold tzN
    split
    · rename_i h
      exact ⟨x / 2, by simp; omega, by omega⟩
    · rename_i h
      obtain ⟨m, e, hl⟩ := tz_spec n (x / 2) (by omega) (by rw [Nat.pow_succ] at h1; omega)
      refine ⟨m, ?_, by omega⟩
      have hx : x = 2 * (x / 2) := by omega
      rw [hx, show (2 * (x / 2)) / 2 = x / 2 by omega]
      conv => lhs; rw [e]
      rw [Nat.pow_succ]
      rw [← Nat.mul_assoc, Nat.mul_comm 2 (2 ^ _)]
theorem and_shift (k a b : Nat) : (2 ^ k * a) &&& (2 ^ k * b) = 2 ^ k * (a &&& b) := by
  apply Nat.eq_of_testBit_eq
  intro i
  simp only [Nat.testBit_and, Nat.testBit_two_pow_mul]
  by_cases h : k ≤ i <;> simp [h]
/-- the lowest bit alone -/
theorem low_bit (w m : Nat) (hm : m < 2 ^ w) : (2 * m + 1) &&& (2 * (2 ^ w - 1 - m) + 1) = 1 := by
  apply Nat.eq_of_testBit_eq
  intro i
  rw [Nat.testBit_and]
  cases i with
  | zero => simp [Nat.testBit_zero]
  | succ i =>
    rw [Nat.testBit_succ, Nat.testBit_succ, Nat.testBit_succ, show (2 * m + 1) / 2 = m by omega, show (2 * (2 ^ w - 1 - m) + 1) / 2 = 2 ^ w - 1 - m by omega,
      show 2 ^ w - 1 - m = 2 ^ w - (m + 1) by omega, Nat.testBit_two_pow_sub_succ hm]
    cases m.testBit i <;> simp
end Go.Proofs.Yteokbmngebckjaa
namespace Go.Proofs.Yteokbmngebckjaa
open Go.RowKit
set_option linter.unusedVariables false
set_option linter.unusedSimpArgs false

/-- the library's table -/
def tzTab : List Nat := [0, 1, 56, 2, 57, 49, 28, 3, 61, 58, 42, 50, 38, 29, 17, 4, 62, 47, 59, 36, 45, 43, 51, 22, 53, 39, 33, 30, 24, 18, 12, 5, 63, 55, 48, 27, 60, 41, 37, 16, 46, 35, 44, 21, 52, 32, 23, 11, 54, 26, 40, 15, 34, 20, 31, 10, 25, 14, 19, 9, 13, 8, 7, 6]
theorem tz_table : ∀ k : Fin 64, tzTab[(2 ^ k.val * 285870213051353865) % 18446744073709551616 / 288230376151711744]? = some k.val := by decide +kernel

theorem low_alone (x : Nat) (h0 : 0 < x) (h1 : x < 18446744073709551616) : x &&& (18446744073709551616 - x) = 2 ^ tzN 64 x ∧ tzN 64 x < 64 := by
  obtain ⟨m, e, hk⟩ := tz_spec 64 x h0 h1
  generalize tzN 64 x = k at *
  refine ⟨?_, hk⟩
  have hp : (18446744073709551616 : Nat) = 2 ^ k * (2 * 2 ^ (63 - k)) := by
    rw [show 2 * 2 ^ (63 - k) = 2 ^ (64 - k) by rw [← Nat.pow_succ']; congr 1; omega, ← Nat.pow_add, show k + (64 - k) = 64 by omega]
  have hpos : 0 < 2 ^ k := Nat.two_pow_pos k
  have hm : m < 2 ^ (63 - k) := by
    have h2 : 2 ^ k * (2 * m + 1) < 2 ^ k * (2 * 2 ^ (63 - k)) := by rw [← hp, ← e]; exact h1
    have := Nat.lt_of_mul_lt_mul_left h2
    omega
  have hy : 18446744073709551616 - x = 2 ^ k * (2 * (2 ^ (63 - k) - 1 - m) + 1) := by
    rw [hp, e, ← Nat.mul_sub]
    congr 1
    omega
  rw [hy]
  conv => lhs; lhs; rw [e]
  rw [and_shift, low_bit _ _ hm, Nat.mul_one]
theorem bits_and_word (x y : Nat) (hx : x < 18446744073709551616) (hy : y < 18446744073709551616) : Go.bits BinOp.and IntKind.u64 (x : Int) (y : Int) = ((x &&& y : Nat) : Int) := by
  simp [Go.bits, IntKind.bits, IntKind.signed, IntKind.wrap]
  have k : (BitVec.ofNat 64 x &&& BitVec.ofNat 64 y).toNat = x &&& y := by
    rw [BitVec.toNat_and, BitVec.toNat_ofNat, BitVec.toNat_ofNat, Nat.mod_eq_of_lt (by omega : x < 2 ^ 64), Nat.mod_eq_of_lt (by omega : y < 2 ^ 64)]
  have h3 : x &&& y ≤ x := Nat.and_le_left
  have m : (((BitVec.ofNat 64 x &&& BitVec.ofNat 64 y).toNat : Nat) : Int) % 18446744073709551616 = ((x &&& y : Nat) : Int) := by rw [k]; omega
  exact m
theorem wrap_neg (x : Nat) (h0 : 0 < x) (h1 : x < 18446744073709551616) : IntKind.u64.wrap (-(x : Int)) = ((18446744073709551616 - x : Nat) : Int) := by
  simp [IntKind.wrap, IntKind.bits, IntKind.signed]
  omega

end Go.Proofs.Yteokbmngebckjaa
namespace Go.Proofs.Yteokbmngebckjaa
set_option linter.unusedVariables false
set_option linter.unusedSimpArgs false

theorem tz_bits (x : Nat) (h0 : 0 < x) (h1 : x < 18446744073709551616) :
    tzN 64 x < 64 ∧ x.testBit (tzN 64 x) = true ∧ (∀ j, j < tzN 64 x → x.testBit j = false) ∧ ∀ j, (x &&& (x - 1)).testBit j = (decide (tzN 64 x < j) && x.testBit j) := by
  obtain ⟨m, e, hk⟩ := tz_spec 64 x h0 h1
  generalize tzN 64 x = k at *
  have hpos : 0 < 2 ^ k := Nat.two_pow_pos k
  have hlow : ∀ j, j < k → x.testBit j = false := by
    intro j hj
    rw [e, Nat.testBit_two_pow_mul]
    simp; omega
  have hat : x.testBit k = true := by
    rw [e, Nat.testBit_two_pow_mul]
    simp [Nat.testBit_zero]
  refine ⟨hk, hat, hlow, fun j => ?_⟩
  rw [Nat.testBit_and]
  rcases Nat.lt_trichotomy j k with h | h | h
  · rw [hlow j h]; simp
  · subst h
    have e2 : x - 1 = 2 ^ j * (2 * m) + (2 ^ j - 1) := by
      rw [e, Nat.mul_add, Nat.mul_one]; omega
    have : (x - 1).testBit j = false := by
      rw [e2, Nat.testBit_two_pow_mul_add _ (by omega)]
      simp [Nat.testBit_zero]
    rw [this]; simp
  · have e2 : x - 1 = 2 ^ k * (2 * m) + (2 ^ k - 1) := by
      rw [e, Nat.mul_add, Nat.mul_one]; omega
    obtain ⟨t, rfl⟩ : ∃ t, j = k + (t + 1) := ⟨j - k - 1, by omega⟩
    have a : x.testBit (k + (t + 1)) = m.testBit t := by
      rw [e, Nat.testBit_two_pow_mul, show k + (t + 1) - k = t + 1 by omega, Nat.testBit_succ, show (2 * m + 1) / 2 = m by omega]
      rw [decide_eq_true (by omega : k + (t + 1) ≥ k), Bool.true_and]
    have b : (x - 1).testBit (k + (t + 1)) = m.testBit t := by
      rw [e2, Nat.testBit_two_pow_mul_add _ (by omega), if_neg (by omega), show k + (t + 1) - k = t + 1 by omega, Nat.testBit_succ, show (2 * m) / 2 = m by omega]
    rw [a, b, Bool.and_self, decide_eq_true (by omega : k < k + (t + 1)), Bool.true_and]
theorem has_test (s : S4) (i j : Nat) (hj : j < 64) : s.has (64 * i + j) = (s.get i).toNat.testBit j := by
  unfold S4.has
  rw [bitOf_test, show (64 * i + j) / 64 = i by omega, show (64 * i + j) % 64 = j by omega]
theorem bytesTo_skip (s : S4) (a : Nat) : ∀ n, (∀ j, j < n → s.has (a + j) = false) → bytesTo s (a + n) = bytesTo s a
  | 0, _ => rfl
  | n + 1, h => by
    show bytesTo s (a + n + 1) = _
    simp only [bytesTo]
    rw [h n (Nat.lt_succ_self n)]
    simpa using bytesTo_skip s a n fun j hj => h j (Nat.lt_succ_of_lt hj)
/-- what is left of the i-th word from its p-th bit on -/
def Rest (s : S4) (i p x : Nat) : Prop := ∀ j, x.testBit j = (decide (p ≤ j) && (s.get i).toNat.testBit j)
theorem rest_start (s : S4) (i : Nat) : Rest s i 0 (s.get i).toNat := fun j => by simp
theorem rest_end (s : S4) {i p : Nat} (h : Rest s i p 0) (hp : p ≤ 64) : bytesTo s (64 * i + 64) = bytesTo s (64 * i + p) := by
  obtain ⟨n, hn⟩ : ∃ n, 64 = p + n := ⟨64 - p, by omega⟩
  have := bytesTo_skip s (64 * i + p) n fun j hj => by
    rw [Nat.add_assoc, has_test s i (p + j) (by omega)]
    have h1 := h (p + j)
    rw [Nat.zero_testBit, decide_eq_true (by omega : p ≤ p + j), Bool.true_and] at h1
    exact h1.symm
  rwa [Nat.add_assoc, ← hn] at this
theorem rest_step (s : S4) {i p x : Nat} (h : Rest s i p x) (hp : p ≤ 64) (h0 : 0 < x) (h1 : x < 18446744073709551616) :
    tzN 64 x < 64 ∧ Rest s i (tzN 64 x + 1) (x &&& (x - 1)) ∧ bytesTo s (64 * i + (tzN 64 x + 1)) = bytesTo s (64 * i + p) ++ [UInt8.ofNat (64 * i + tzN 64 x)] := by
  obtain ⟨hk, hat, hlow, hnext⟩ := tz_bits x h0 h1
  generalize tzN 64 x = k at *
  have hpk : p ≤ k := by
    rcases Nat.lt_or_ge k p with hlt | hge
    · have := h k
      rw [hat] at this
      simp at this
      omega
    · exact hge
  have hX : (s.get i).toNat.testBit k = true := by
    have := h k
    rw [hat] at this
    simpa [hpk] using this.symm
  refine ⟨hk, fun j => ?_, ?_⟩
  · rw [hnext j, h j]
    by_cases h2 : k < j
    · simp [h2, show p ≤ j by omega, show k + 1 ≤ j by omega]
    · simp [h2, show ¬ (k + 1 ≤ j) by omega]
  · have e1 : bytesTo s (64 * i + k) = bytesTo s (64 * i + p) := by
      obtain ⟨n, rfl⟩ : ∃ n, k = p + n := ⟨k - p, by omega⟩
      have := bytesTo_skip s (64 * i + p) n fun j hj => by
        rw [Nat.add_assoc, has_test s i (p + j) (by omega)]
        have h2 := h (p + j)
        rw [hlow (p + j) (by omega)] at h2
        simpa using h2.symm
      rwa [Nat.add_assoc] at this
    show bytesTo s (64 * i + k + 1) = _
    simp only [bytesTo]
    rw [has_test s i k hk, hX, e1]
    simp
end Go.Proofs.Yteokbmngebckjaa
namespace Go.Proofs.Yteokbmngebckjaa
open Go.RowKit
set_option linter.unusedVariables false
set_option linter.unusedSimpArgs false

theorem index_word (s : S4) (k : Nat) (hk : k < 4) : ∀ w : World, (Instr.index 31 (setV s) (.int .i64 k)).run Try.prog w = .ok (.int .u64 ((s.get k).toNat : Int)) w := by
  intro w
  obtain rfl | rfl | rfl | rfl : k = 0 ∨ k = 1 ∨ k = 2 ∨ k = 3 := by omega
  all_goals kernel_rfl
theorem wrap_pred (y : Nat) (h0 : 0 < y) (h1 : y < 18446744073709551616) : IntKind.u64.wrap ((y : Int) - 1) = ((y - 1 : Nat) : Int) := by
  simp [IntKind.wrap, IntKind.bits, IntKind.signed]
  omega

end Go.Proofs.Yteokbmngebckjaa
namespace Go.Proofs.Yteokbmngebckjaa
open Go.RowKit
set_option linter.unusedVariables false
set_option linter.unusedSimpArgs false

theorem refDigit_any (z : Int) (w : World) (h0 : 0 ≤ z) (hz : z < 16) :
    Calls Try.prog 97 #[.int .i64 z] w fun e w' => e = .returned (.string (str [hexd z.toNat])) ∧ w' = w := by
  obtain ⟨n, rfl⟩ := Int.eq_ofNat_of_zero_le h0
  rw [Int.toNat_natCast]
  have hn : n < 16 := by omega
  clear h0 hz
  have he : ∀ m : Fin 16, digitsText.extract m.val (m.val + 1) = str [hexd m.val] := by decide +kernel
  have hs := run_slice_string (P := Try.prog) w 9 digitsText .i64 .i64 (n : Int) ((n : Int) + 1) Try.underlying9 (by omega) (by omega) (by show ((n : Int) + 1) ≤ 16; omega)
  rw [Int.toNat_natCast, show ((n : Int) + 1).toNat = n + 1 by omega, he ⟨n, hn⟩] at hs
  clear he
  go_enter Try.func97, Try.ntmps97
  go_wp2_with fail
  go_ret
  exact ⟨rfl, rfl⟩

theorem refDigit_nat (n : Nat) (w : World) (hn : n < 16) :
    Calls Try.prog 97 #[.int .i64 n] w fun e w' => e = .returned (.string (str [hexd n])) ∧ w' = w := by
  have := refDigit_any (n : Int) w (by omega) (by omega)
  rwa [Int.toNat_natCast] at this
set_option maxHeartbeats 1000000 in
theorem refHex_any (l : List UInt8) (A : Option Addr) (c : Nat) (w : World) (hr : Row1 encB w A l) (hm : l.length ≤ 1000000000) :
    Calls Try.prog 79 #[.slice A l.length c] w fun e w' => e = .returned (.string (str (hexOf l))) ∧ Below w.heap.size w w' := by
  go_enter Try.func79, Try.ntmps79
  go_wp2_with fail
  go_loopw [3, 4, 7] (fun o _ i wr => ∃ k : Nat, k ≤ l.length ∧ i = .int .i64 k ∧ o = .string (str (hexOf (l.take k))) ∧ Below w.heap.size w wr) (fun _ _ i _ => l.length - (intOf i).toNat)
  case atStart => exact ⟨0, Nat.zero_le _, rfl, rfl, Below.refl _ _⟩
  case round =>
    obtain ⟨k, hk, rfl, rfl, hb⟩ := hrel
    by_cases hlt : k < l.length
    · obtain ⟨ad, b, hA, hx, hc⟩ := (hr.below hb).at_ hlt
      subst hA
      have HX := Lib.hid hx
      clear hx hr
      have hq := b.toNat_lt
      have HS := Lib.hid (hexOf_snoc (l.take k) b)
      have HT := Lib.hid (take_snoc_ HX.out)
      have w1 : IntKind.i64.wrap (b.toNat : Int) = b.toNat := IntWalk.i64_in _ (by omega)
      have w2 : ((b.toNat : Int)).tdiv 16 = ((b.toNat / 16 : Nat) : Int) := by rw [Int.tdiv_eq_ediv_of_nonneg (by omega)]; omega
      have w3 : ((b.toNat : Int)).tmod 16 = ((b.toNat % 16 : Nat) : Int) := by rw [Int.tmod_eq_emod_of_nonneg (by omega)]; omega
      have w4 : IntKind.i64.wrap ((b.toNat / 16 : Nat) : Int) = ((b.toNat / 16 : Nat) : Int) := IntWalk.i64_in _ (by omega)
      have w5 : IntKind.i64.wrap ((b.toNat % 16 : Nat) : Int) = ((b.toNat % 16 : Nat) : Int) := IntWalk.i64_in _ (by omega)
      have d1 : b.toNat / 16 < 16 := by omega
      have d2 : b.toNat % 16 < 16 := by omega
      clear hq
      generalize b.toNat / 16 = p at *
      generalize b.toNat % 16 = q at *
      have hl1 : (hexOf (l.take k)).length ≤ 2000000000 := by rw [hexOf_length, List.length_take]; omega
      have c1 := run_cat (P := Try.prog) (hexOf (l.take k)) [hexd p] (by simp; omega)
      have c2 := run_cat (P := Try.prog) (hexOf (l.take k) ++ [hexd p]) [hexd q] (by simp; omega)
      generalize hexOf (l.take k) = hh at *
      go_wp2_with fail
      go_quiet ((go_at_call 97; exact Calls.quiet_of_same (refDigit_nat _ _ (by assumption))))
      go_wp2_with fail
      go_roundw
      case rel => exact ⟨k + 1, by omega, by go_num, by rw [HT.out, HS.out], (by exact ⟨hb.os, hb.tape, hb.output, hb.size, hb.block⟩)⟩
      case measure => simp [intOf]; omega
    · have hkk : k = l.length := by omega
      subst hkk
      rw [List.take_length]
      go_wp2_with fail
      go_ret
      exact ⟨rfl, hb⟩
end Go.Proofs.Yteokbmngebckjaa
namespace Go.Proofs.Yteokbmngebckjaa
open Go.RowKit
set_option linter.unusedVariables false
set_option linter.unusedSimpArgs false

/-- the bytes that have no sign of their own, among those that are shown -/
abbrev oddText : ByteArray := ⟨#[92, 124, 42, 40, 41, 91, 93, 46, 45]⟩
def odd (b : UInt8) : Bool := oddText.data.toList.contains b
def special (b : UInt8) : Bool := odd b || (decide (b.toNat < 33) || decide (126 < b.toNat))
def signB (b : UInt8) : List UInt8 := if special b then 92 :: hexOf [b] else [b]

set_option maxHeartbeats 4000000 in
theorem special_any (b : UInt8) (w : World) :
    Calls Try.prog 78 #[.int .u8 (b.toNat : Int)] w fun e w' => e = .returned (.bool (special b)) ∧ w' = w := by
  go_enter Try.func78, Try.ntmps78
  go_wp2_with fail
  go_loopw [4] (fun i wr => ∃ (k : Nat), k ≤ 9 ∧ i = .int .i64 k ∧ Hid ((oddText.data.toList.take k).contains b = false) ∧ wr = w) (fun i _ => 9 - (intOf i).toNat)
  case atStart => exact ⟨0, Nat.zero_le _, rfl, rfl, rfl⟩
  case round =>
    obtain ⟨k, hk, rfl, HN, rfl⟩ := hrel
    have hcase : k = 0 ∨ k = 1 ∨ k = 2 ∨ k = 3 ∨ k = 4 ∨ k = 5 ∨ k = 6 ∨ k = 7 ∨ k = 8 ∨ k = 9 := by omega
    rcases hcase with rfl | rfl | rfl | rfl | rfl | rfl | rfl | rfl | rfl | rfl
    · have ek : (((⟨#[92, 124, 42, 40, 41, 91, 93, 46, 45]⟩ : ByteArray)[0]'(by decide)).toNat : Int) = 92 := rfl
      by_cases hb : b.toNat = 92
      · obtain rfl : b = 92 := UInt8.toNat_inj.1 hb
        go_wp2_with fail
        go_ret
        exact ⟨rfl, rfl⟩
      · have g : ((92 : Int) == (b.toNat : Int)) = false := by simp; omega
        have g2 : ¬ ((92 : Int) = (b.toNat : Int)) := by omega
        have g3 : ¬ (92 = b.toNat) := by omega
        have g4 : ¬ ((92 : UInt8).toNat = b.toNat) := by simpa using g3
        have HN2 : Hid ((oddText.data.toList.take 1).contains b = false) := by
          have h1 := HN.out
          have hne : ¬ b = 92 := fun e => hb (by rw [e]; rfl)
          unfold Hid
          simp at h1 ⊢
          simp [h1, hne]
        go_wp2_with fail
        go_roundw
        case rel => exact ⟨1, by omega, rfl, HN2, trivial⟩
        case measure => simp [intOf]
    · have ek : (((⟨#[92, 124, 42, 40, 41, 91, 93, 46, 45]⟩ : ByteArray)[1]'(by decide)).toNat : Int) = 124 := rfl
      by_cases hb : b.toNat = 124
      · obtain rfl : b = 124 := UInt8.toNat_inj.1 hb
        go_wp2_with fail
        go_ret
        exact ⟨rfl, rfl⟩
      · have g : ((124 : Int) == (b.toNat : Int)) = false := by simp; omega
        have g2 : ¬ ((124 : Int) = (b.toNat : Int)) := by omega
        have g3 : ¬ (124 = b.toNat) := by omega
        have g4 : ¬ ((124 : UInt8).toNat = b.toNat) := by simpa using g3
        have HN2 : Hid ((oddText.data.toList.take 2).contains b = false) := by
          have h1 := HN.out
          have hne : ¬ b = 124 := fun e => hb (by rw [e]; rfl)
          unfold Hid
          simp at h1 ⊢
          simp [h1, hne]
        go_wp2_with fail
        go_roundw
        case rel => exact ⟨2, by omega, rfl, HN2, trivial⟩
        case measure => simp [intOf]
    · have ek : (((⟨#[92, 124, 42, 40, 41, 91, 93, 46, 45]⟩ : ByteArray)[2]'(by decide)).toNat : Int) = 42 := rfl
      by_cases hb : b.toNat = 42
      · obtain rfl : b = 42 := UInt8.toNat_inj.1 hb
        go_wp2_with fail
        go_ret
        exact ⟨rfl, rfl⟩
      · have g : ((42 : Int) == (b.toNat : Int)) = false := by simp; omega
        have g2 : ¬ ((42 : Int) = (b.toNat : Int)) := by omega
        have g3 : ¬ (42 = b.toNat) := by omega
        have g4 : ¬ ((42 : UInt8).toNat = b.toNat) := by simpa using g3
        have HN2 : Hid ((oddText.data.toList.take 3).contains b = false) := by
          have h1 := HN.out
          have hne : ¬ b = 42 := fun e => hb (by rw [e]; rfl)
          unfold Hid
          simp at h1 ⊢
          simp [h1, hne]
        go_wp2_with fail
        go_roundw
        case rel => exact ⟨3, by omega, rfl, HN2, trivial⟩
        case measure => simp [intOf]
    · have ek : (((⟨#[92, 124, 42, 40, 41, 91, 93, 46, 45]⟩ : ByteArray)[3]'(by decide)).toNat : Int) = 40 := rfl
      by_cases hb : b.toNat = 40
      · obtain rfl : b = 40 := UInt8.toNat_inj.1 hb
        go_wp2_with fail
        go_ret
        exact ⟨rfl, rfl⟩
      · have g : ((40 : Int) == (b.toNat : Int)) = false := by simp; omega
        have g2 : ¬ ((40 : Int) = (b.toNat : Int)) := by omega
        have g3 : ¬ (40 = b.toNat) := by omega
        have g4 : ¬ ((40 : UInt8).toNat = b.toNat) := by simpa using g3
        have HN2 : Hid ((oddText.data.toList.take 4).contains b = false) := by
          have h1 := HN.out
          have hne : ¬ b = 40 := fun e => hb (by rw [e]; rfl)
          unfold Hid
          simp at h1 ⊢
          simp [h1, hne]
        go_wp2_with fail
        go_roundw
        case rel => exact ⟨4, by omega, rfl, HN2, trivial⟩
        case measure => simp [intOf]
    · have ek : (((⟨#[92, 124, 42, 40, 41, 91, 93, 46, 45]⟩ : ByteArray)[4]'(by decide)).toNat : Int) = 41 := rfl
      by_cases hb : b.toNat = 41
      · obtain rfl : b = 41 := UInt8.toNat_inj.1 hb
        go_wp2_with fail
        go_ret
        exact ⟨rfl, rfl⟩
      · have g : ((41 : Int) == (b.toNat : Int)) = false := by simp; omega
        have g2 : ¬ ((41 : Int) = (b.toNat : Int)) := by omega
        have g3 : ¬ (41 = b.toNat) := by omega
        have g4 : ¬ ((41 : UInt8).toNat = b.toNat) := by simpa using g3
        have HN2 : Hid ((oddText.data.toList.take 5).contains b = false) := by
          have h1 := HN.out
          have hne : ¬ b = 41 := fun e => hb (by rw [e]; rfl)
          unfold Hid
          simp at h1 ⊢
          simp [h1, hne]
        go_wp2_with fail
        go_roundw
        case rel => exact ⟨5, by omega, rfl, HN2, trivial⟩
        case measure => simp [intOf]
    · have ek : (((⟨#[92, 124, 42, 40, 41, 91, 93, 46, 45]⟩ : ByteArray)[5]'(by decide)).toNat : Int) = 91 := rfl
      by_cases hb : b.toNat = 91
      · obtain rfl : b = 91 := UInt8.toNat_inj.1 hb
        go_wp2_with fail
        go_ret
        exact ⟨rfl, rfl⟩
      · have g : ((91 : Int) == (b.toNat : Int)) = false := by simp; omega
        have g2 : ¬ ((91 : Int) = (b.toNat : Int)) := by omega
        have g3 : ¬ (91 = b.toNat) := by omega
        have g4 : ¬ ((91 : UInt8).toNat = b.toNat) := by simpa using g3
        have HN2 : Hid ((oddText.data.toList.take 6).contains b = false) := by
          have h1 := HN.out
          have hne : ¬ b = 91 := fun e => hb (by rw [e]; rfl)
          unfold Hid
          simp at h1 ⊢
          simp [h1, hne]
        go_wp2_with fail
        go_roundw
        case rel => exact ⟨6, by omega, rfl, HN2, trivial⟩
        case measure => simp [intOf]
    · have ek : (((⟨#[92, 124, 42, 40, 41, 91, 93, 46, 45]⟩ : ByteArray)[6]'(by decide)).toNat : Int) = 93 := rfl
      by_cases hb : b.toNat = 93
      · obtain rfl : b = 93 := UInt8.toNat_inj.1 hb
        go_wp2_with fail
        go_ret
        exact ⟨rfl, rfl⟩
      · have g : ((93 : Int) == (b.toNat : Int)) = false := by simp; omega
        have g2 : ¬ ((93 : Int) = (b.toNat : Int)) := by omega
        have g3 : ¬ (93 = b.toNat) := by omega
        have g4 : ¬ ((93 : UInt8).toNat = b.toNat) := by simpa using g3
        have HN2 : Hid ((oddText.data.toList.take 7).contains b = false) := by
          have h1 := HN.out
          have hne : ¬ b = 93 := fun e => hb (by rw [e]; rfl)
          unfold Hid
          simp at h1 ⊢
          simp [h1, hne]
        go_wp2_with fail
        go_roundw
        case rel => exact ⟨7, by omega, rfl, HN2, trivial⟩
        case measure => simp [intOf]
    · have ek : (((⟨#[92, 124, 42, 40, 41, 91, 93, 46, 45]⟩ : ByteArray)[7]'(by decide)).toNat : Int) = 46 := rfl
      by_cases hb : b.toNat = 46
      · obtain rfl : b = 46 := UInt8.toNat_inj.1 hb
        go_wp2_with fail
        go_ret
        exact ⟨rfl, rfl⟩
      · have g : ((46 : Int) == (b.toNat : Int)) = false := by simp; omega
        have g2 : ¬ ((46 : Int) = (b.toNat : Int)) := by omega
        have g3 : ¬ (46 = b.toNat) := by omega
        have g4 : ¬ ((46 : UInt8).toNat = b.toNat) := by simpa using g3
        have HN2 : Hid ((oddText.data.toList.take 8).contains b = false) := by
          have h1 := HN.out
          have hne : ¬ b = 46 := fun e => hb (by rw [e]; rfl)
          unfold Hid
          simp at h1 ⊢
          simp [h1, hne]
        go_wp2_with fail
        go_roundw
        case rel => exact ⟨8, by omega, rfl, HN2, trivial⟩
        case measure => simp [intOf]
    · have ek : (((⟨#[92, 124, 42, 40, 41, 91, 93, 46, 45]⟩ : ByteArray)[8]'(by decide)).toNat : Int) = 45 := rfl
      by_cases hb : b.toNat = 45
      · obtain rfl : b = 45 := UInt8.toNat_inj.1 hb
        go_wp2_with fail
        go_ret
        exact ⟨rfl, rfl⟩
      · have g : ((45 : Int) == (b.toNat : Int)) = false := by simp; omega
        have g2 : ¬ ((45 : Int) = (b.toNat : Int)) := by omega
        have g3 : ¬ (45 = b.toNat) := by omega
        have g4 : ¬ ((45 : UInt8).toNat = b.toNat) := by simpa using g3
        have HN2 : Hid ((oddText.data.toList.take 9).contains b = false) := by
          have h1 := HN.out
          have hne : ¬ b = 45 := fun e => hb (by rw [e]; rfl)
          unfold Hid
          simp at h1 ⊢
          simp [h1, hne]
        go_wp2_with fail
        go_roundw
        case rel => exact ⟨9, by omega, rfl, HN2, trivial⟩
        case measure => simp [intOf]
    · have HO : Hid (odd b = false) := HN.out
      cases h1 : decide (b.toNat < 33) with
      | true =>
        have g : decide ((b.toNat : Int) < 33) = true := by simp at h1 ⊢; omega
        have HS : Hid (special b = true) := by unfold Hid special; rw [h1]; simp
        go_wp2_with fail
        go_ret
        exact ⟨by rw [HS.out]; rfl, rfl⟩
      | false =>
        have g : decide ((b.toNat : Int) < 33) = false := by simp at h1 ⊢; omega
        have HS : Hid (special b = decide (126 < b.toNat)) := by unfold Hid special; rw [h1, HO.out]; simp
        go_wp2_with fail
        go_ret
        exact ⟨by rw [HS.out]; simp; omega, rfl⟩
end Go.Proofs.Yteokbmngebckjaa
namespace Go.Proofs.Yteokbmngebckjaa
open Go.RowKit
set_option linter.unusedVariables false
set_option linter.unusedSimpArgs false

set_option maxHeartbeats 4000000 in
theorem refSign_any (b : UInt8) (w : World) :
    Calls Try.prog 57 #[.int .u8 (b.toNat : Int)] w fun e w' => e = .returned (.string (str (signB b))) ∧ Below w.heap.size w w' := by
  have HSB : Hid (signB b = if special b then 92 :: hexOf [b] else [b]) := rfl
  go_enter Try.func57, Try.ntmps57
  go_wp2_with fail
  refine (special_any b w).mono ?_
  rintro e w1 ⟨rfl, rfl⟩
  cases hs : special b with
  | true =>
    have HT : Hid (signB b = 92 :: hexOf [b]) := by unfold Hid; rw [HSB.out, hs]; rfl
    clear hs
    go_wp2_with fail
    refine (refHex_any [b] (some ⟨w1.heap.size, 0, none⟩) 1 _ (new_row encB w1 [b] _ _ rfl) (show 1 ≤ 1000000000 by decide)).mono ?_
    rintro e w2 ⟨rfl, hb⟩
    have hb2 := below_from (below_new (Below.refl _ _) _) hb
    have hc := run_cat (P := Try.prog) [92] (hexOf [b]) (by rw [hexOf_length]; simp)
    clear hb
    go_wp2_with fail
    go_ret
    exact ⟨by rw [HT.out]; rfl, hb2⟩
  | false =>
    have HT : Hid (signB b = [b]) := by unfold Hid; rw [HSB.out, hs]; rfl
    clear hs
    have hcv := fun t => conv_bytes (P := Try.prog) (w := w1.alloc (.cells #[encB b] t)) (dst := 9) (A := some ⟨w1.heap.size, 0, none⟩) Try.underlying59 Try.underlying5 Try.underlying9 1 1 (l := [b]) rfl (new_row encB w1 [b] _ t rfl)
    go_wp2_with fail
    go_ret
    exact ⟨by rw [HT.out]; rfl, below_new (Below.refl _ _) _⟩
end Go.Proofs.Yteokbmngebckjaa
namespace Go.Proofs.Yteokbmngebckjaa
open Go.RowKit
set_option linter.unusedVariables false
set_option linter.unusedSimpArgs false

theorem Try.info_u8b : (Try.prog.info? 5).map (fun i => (i.zero, i.size, i.bytes)) = some (some (.int .u8 0), 1, 1) := by kernel_rfl
theorem Try.info_bld : (Try.prog.info? 61).map (·.size) = some 2 := by kernel_rfl
theorem Try.cells_u8b : Try.prog.cellsOf 5 = 1 := by kernel_rfl

/-- What a struct is that bears a builder at its head: two cells. -/
structure IsBld (T : TypeId) : Prop where
  lies : liesAt Try.prog Try.prog.depth T (2 / Try.prog.cellsOf T) 0 61 1 = true
  ne : T ≠ 5
theorem isBld_self : IsBld 61 := ⟨by kernel_rfl, by decide⟩
/-- A builder in block b that holds these bytes. -/
def Bd (T : TypeId) (b : Nat) (bs : List UInt8) (w : World) : Prop :=
  ∃ p v, (p = .pointer none ∨ p = .pointer (some ⟨b, 0, none⟩)) ∧ w.heap[b]? = some (.cells #[p, v] T (0, 0)) ∧ w.ownsRow b 5 1 v bs.length (bs.map encB)
/-- What a write keeps: all below b, and all else that is no row of bytes. -/
def BdK (b : Nat) (w w' : World) : Prop := Below b w w' ∧ Lib.OthersKept 5 (some b) w w'
theorem BdK.refl (b : Nat) (w : World) : BdK b w w := ⟨Below.refl _ _, Lib.OthersKept.refl _ _ _⟩
theorem BdK.trans {b : Nat} {a c d : World} (h : BdK b a c) (k : BdK b c d) : BdK b a d := ⟨h.1.trans k.1, h.2.trans k.2⟩
theorem BdK.alloc {b : Nat} {a w : World} (h : BdK b a w) (hb : b ≤ w.heap.size) (o : Obj) : BdK b a (w.alloc o) := ⟨h.1.alloc hb o, h.2.alloc o⟩
theorem BdK.drew {b : Nat} {a w : World} (h : BdK b a w) : BdK b a w.drew := ⟨h.1.drew, h.2.drew⟩
/-- what lies above, and is no row of bytes, stays -/
theorem BdK.block {b k : Nat} {w w' : World} {cs : Array Value} {t : TypeId} {fz : Nat × Nat} (h : BdK b w w') (hk : w.heap[k]? = some (.cells cs t fz)) (hkb : k ≠ b) (ht : t ≠ 5) : w'.heap[k]? = some (.cells cs t fz) :=
  h.2 k _ hk (fun e => hkb (Option.some.inj e)) (fun c fz' e => ht (Obj.cells.inj e).2.1)
/-- a call that keeps all that was there keeps this too -/
theorem Below.bdk {b : Nat} {w w' : World} (h : Below w.heap.size w w') (hb : b ≤ w.heap.size) : BdK b w w' :=
  ⟨h.mono hb, fun k o hk _ _ => (h.block k (Array.getElem?_eq_some_iff.1 hk).1).trans hk⟩
theorem Bd.lt {T : TypeId} {b : Nat} {bs : List UInt8} {w : World} (h : Bd T b bs w) : b < w.heap.size := by
  obtain ⟨p, v, _, hb, _⟩ := h
  exact (Array.getElem?_eq_some_iff.1 hb).1
theorem Bd.keep {T : TypeId} {b : Nat} {bs : List UInt8} {w w' : World} (h : Bd T b bs w) (hb : Below w.heap.size w w') : Bd T b bs w' := by
  have hlt := h.lt
  obtain ⟨p, v, hp, hbk, hown⟩ := h
  exact ⟨p, v, hp, (hb.block _ hlt).trans hbk, hown.kept (row := none) ⟨hb.os, hb.tape, hb.output, hb.size, fun k hk _ => hb.block k hk⟩ (by cases hv : v.ownBlock <;> simp)⟩
theorem Bd.alloc {T : TypeId} {b : Nat} {bs : List UInt8} {w : World} (h : Bd T b bs w) (o : Obj) : Bd T b bs (w.alloc o) := h.keep ((Below.refl _ _).alloc (Nat.le_refl _) o)
theorem Bd.drew {T : TypeId} {b : Nat} {bs : List UInt8} {w : World} (h : Bd T b bs w) : Bd T b bs w.drew := h
/-- a new one -/
theorem Bd.new (T : TypeId) (w : World) : Bd T w.heap.size [] (w.alloc (.cells #[.pointer none, .slice none 0 0] T)) :=
  ⟨_, _, .inl rfl, heap_alloc_new w _, World.ownsRow_nil _ _ _ _⟩

set_option maxHeartbeats 1000000 in
set_option maxRecDepth 100000 in
theorem copyCheck_any {T : TypeId} (hT : IsBld T) {b : Nat} {bs : List UInt8} {w : World} (h : Bd T b bs w) :
    Calls Try.prog 73 #[.pointer (some ⟨b, 0, none⟩)] w fun e w' => e = .returned (.tuple #[]) ∧ BdK b w w' ∧
      ∃ v, w'.heap[b]? = some (.cells #[.pointer (some ⟨b, 0, none⟩), v] T (0, 0)) ∧ w'.ownsRow b 5 1 v bs.length (bs.map encB) := by
  obtain ⟨j, hj, hjs⟩ := Option.map_eq_some_iff.1 Try.info_bld
  obtain ⟨p, v, hp, hbk, hown⟩ := h
  rcases hp with rfl | rfl
  · have h0 : w.cell? ⟨b, 0, none⟩ = some (.pointer none) := by simp [World.cell?, hbk]
    have hsh : w.shape? b = some (T, 2) := by simp [World.shape?, hbk]
    have hfz : w.frozen? ⟨b, 0, none⟩ = false := by simp [World.frozen?, hbk]
    have HB := Lib.hid hbk
    have HO := Lib.hid hown
    clear hbk hown
    go_enter Try.func73, Try.ntmps73
    go_wp2_with fail
    rw [Lib.run_to_unsafe w ⟨b, 0, none⟩ Try.underlying58 Try.underlying123 hj (by rw [hjs]; decide) hsh (Nat.zero_lt_succ 1)]
    simp only [Result.andThen]
    rw [Oper.upon_value]
    go_wp2_with fail
    rw [run_callFunc_extern Try.func93 (by kernel_rfl) (by kernel_rfl) (by kernel_rfl) (e := Extern.AbiNoEscape.same) (by kernel_rfl)]
    rw [Lib.run_noEscape]
    simp only [Result.andThen]
    rw [Oper.upon_value]
    go_wp2_with fail
    rw [Lib.run_from_unsafe w ⟨b, 0, none⟩ Try.underlying123 Try.underlying58 hj hsh hT.lies]
    simp only [Result.andThen]
    rw [Oper.upon_value]
    go_wp2_with fail
    go_end0
    have hne := Lib.ownBlock_ne HO.out HB.out hT.ne
    refine ⟨rfl, ⟨(Below.refl _ _).setCell (p := ⟨b, 0, none⟩) (Nat.le_refl _) _, Lib.OthersKept.setCell (b := b) (Lib.OthersKept.refl _ _ _) ⟨b, 0, none⟩ rfl _⟩, v, ?_, ?_⟩
    · have := HB.out
      simp [World.setCell, Array.getElem?_modify, this]
    · exact HO.out.kept (row := some b) ⟨rfl, rfl, rfl, by simp [World.setCell], fun k _ hk => Below.heap_setCell _ _ _ _ (fun e => hk (by simp [e]))⟩ (Or.inr hne)
  · have h0 : w.cell? ⟨b, 0, none⟩ = some (.pointer (some ⟨b, 0, none⟩)) := by simp [World.cell?, hbk]
    have HB := Lib.hid hbk
    have HO := Lib.hid hown
    clear hbk hown
    go_enter Try.func73, Try.ntmps73
    go_wp2_with fail
    rw [Lib.run_neq_ptr_same w _ Try.underlying58 hj]
    go_wp2_with fail
    go_end0
    exact ⟨rfl, BdK.refl _ _, v, HB.out, HO.out⟩

/-- a new buffer, laid into its field -/
theorem bd_put {T : TypeId} (hT : IsBld T) {b : Nat} {v v' : Value} {bs : List UInt8} {w : World} (hb : w.heap[b]? = some (.cells #[.pointer (some ⟨b, 0, none⟩), v] T (0, 0))) (hown : w.ownsRow b 5 1 v' bs.length (bs.map encB)) :
    Bd T b bs (w.setCell ⟨b, 1, none⟩ v') := by
  have hne := Lib.ownBlock_ne hown hb hT.ne
  refine ⟨_, v', .inr rfl, ?_, ?_⟩
  · simp [World.setCell, Array.getElem?_modify, hb]
  · exact hown.kept (row := some b) ⟨rfl, rfl, rfl, by simp [World.setCell], fun k _ hk => Below.heap_setCell _ _ _ _ (fun e => hk (by simp [e]))⟩ (Or.inr hne)
theorem own_kind {w : World} {B : Nat} {e : TypeId} {v : Value} {n : Nat} {xs : List Value} (h : w.ownsRow B e 1 v n xs) : ∀ g, v.ownBlock = some g → ∃ c fz, w.heap[g]? = some (.cells c e fz) := by
  intro g hg
  rcases h.2 with ⟨rfl, _⟩ | ⟨g', cap, cur, rfl, _, hgg, _⟩
  · simp [Value.ownBlock] at hg
  · simp [Value.ownBlock] at hg
    subst hg
    exact ⟨cur, _, hgg⟩

set_option maxHeartbeats 2000000 in
set_option maxRecDepth 100000 in
theorem writeByte_any {T : TypeId} (hT : IsBld T) {b : Nat} {bs : List UInt8} (c : UInt8) {w : World} (h : Bd T b bs w) (hlen : bs.length ≤ 100000000000) :
    Calls Try.prog 49 #[.pointer (some ⟨b, 0, none⟩), .int .u8 (c.toNat : Int)] w fun e w' => e = .returned .nilIface ∧ Bd T b (bs ++ [c]) w' ∧ BdK b w w' := by
  have hlt := h.lt
  have hcc := Lib.hid (copyCheck_any hT h)
  clear h
  go_enter Try.func49, Try.ntmps49
  go_wp2_with fail
  refine hcc.out.mono ?_
  rintro e w1 ⟨rfl, hk1, v, hbk, hown⟩
  have c0 : w1.cell? ⟨b, 0, none⟩ = some (.pointer (some ⟨b, 0, none⟩)) := by rw [Lib.cell_of_heap hbk]; rfl
  have c1 : w1.cell? ⟨b, 1, none⟩ = some v := by rw [Lib.cell_of_heap hbk]; rfl
  have HB := Lib.hid hbk
  have HT := Lib.hid hT
  have hsz := hk1.1.size
  have hsrc := new_src w1 1 1 #[.int .u8 (c.toNat : Int)] 5 rfl
  clear hbk hT hcc
  go_wp2_with (at_builtin; refine wpList_app _ rfl _ _ 59 rfl b 5 (.int .u8 0) 1 1 Try.underlying59 Try.info_u8b rfl (by decide) v bs.length _ rfl (hown.alloc _) (some ⟨w1.heap.size, 0, none⟩) 1 1 _ rfl hsrc ?h1 ?h2 ?h3 ?h4 ?_)
  case h1 => intro u hu; rw [List.mem_singleton] at hu; subst hu; rfl
  case h2 => unfold maxLen; omega
  case h3 => omega
  case h4 => simp; omega
  intro v' w2 hown' hgrow _
  have hne := Lib.ownBlock_ne hown HB.out HT.out.ne
  have hb2 : w2.heap[b]? = some (.cells #[.pointer (some ⟨b, 0, none⟩), v] T (0, 0)) := by
    rw [hgrow.block b (by simp; omega) (fun e => hne e.symm), Below.heap_alloc w1 _ b (by omega)]
    exact HB.out
  have d0 : w2.cell? ⟨b, 0, none⟩ = some (.pointer (some ⟨b, 0, none⟩)) := by rw [Lib.cell_of_heap hb2]; rfl
  have d1 : w2.cell? ⟨b, 1, none⟩ = some v := by rw [Lib.cell_of_heap hb2]; rfl
  have f1 : w2.frozen? ⟨b, 1, none⟩ = false := Lib.frozen_of_heap hb2 1
  have H2 := Lib.hid hb2
  have hk2 : BdK b w w2 := hk1.trans ⟨((Below.refl _ _).alloc (by omega) _).grown hgrow (by simp; omega) (fun k hk => (hown.lt k hk).1),
    ((Lib.OthersKept.refl _ _ _).alloc _).grown hgrow (own_kind (hown.alloc _))⟩
  obtain ⟨A3, c3, rfl, _, _⟩ := own_slice hown'
  have HW := Lib.hid hown'
  clear hb2 hgrow hown hown' hsrc
  go_wp2_with fail
  go_ret
  exact ⟨rfl, bd_put HT.out H2.out (by rw [List.map_append, List.length_append]; exact HW.out), hk2.1.setCell (p := ⟨b, 1, none⟩) (Nat.le_refl _) _, Lib.OthersKept.setCell (b := b) hk2.2 ⟨b, 1, none⟩ rfl _⟩

theorem strCells_enc (s : ByteArray) : Lib.strCells s = s.data.toList.map encB := by
  unfold Lib.strCells
  simp [encB]

set_option maxHeartbeats 2000000 in
set_option maxRecDepth 100000 in
theorem writeString_any {T : TypeId} (hT : IsBld T) {b : Nat} {bs : List UInt8} (s : List UInt8) {w : World} (h : Bd T b bs w) (hlen : bs.length + s.length ≤ 100000000000) :
    Calls Try.prog 50 #[.pointer (some ⟨b, 0, none⟩), .string (str s)] w fun e w' => e = .returned (.tuple #[.int .i64 s.length, .nilIface]) ∧ Bd T b (bs ++ s) w' ∧ BdK b w w' := by
  have hlt := h.lt
  have hcc := Lib.hid (copyCheck_any hT h)
  obtain ⟨i0, hi, hz0, hz1, hz2⟩ := info_parts Try.info_u8b
  have hss : (str s).size = s.length := str_size s
  clear h
  go_enter Try.func50, Try.ntmps50
  go_wp2_with fail
  refine hcc.out.mono ?_
  rintro e w1 ⟨rfl, hk1, v, hbk, hown⟩
  have c0 : w1.cell? ⟨b, 0, none⟩ = some (.pointer (some ⟨b, 0, none⟩)) := by rw [Lib.cell_of_heap hbk]; rfl
  have c1 : w1.cell? ⟨b, 1, none⟩ = some v := by rw [Lib.cell_of_heap hbk]; rfl
  have HB := Lib.hid hbk
  have HT := Lib.hid hT
  have hsz := hk1.1.size
  have hsc := strCells_enc (str s)
  rw [show (str s).data.toList = s by simp] at hsc
  have HSC := Lib.hid hsc
  have HSS := Lib.hid hss
  clear hbk hT hcc hsc hss
  go_wp2_with (at_builtin; refine Lib.wpList_append_own_string _ rfl _ _ 59 9 rfl b 5 i0 Try.underlying59 Try.underlying9 hi hz0 hz1 hz2 _ _ _ rfl hown (str s) rfl ?h2 ?h3 ?h4 ?_)
  case h2 => unfold maxLen; have := HSS.out; omega
  case h3 => have := HSS.out; omega
  case h4 => omega
  intro v' w2 hown' hgrow _
  have hne := Lib.ownBlock_ne hown HB.out HT.out.ne
  have hb2 : w2.heap[b]? = some (.cells #[.pointer (some ⟨b, 0, none⟩), v] T (0, 0)) := by
    rw [hgrow.block b (by omega) (fun e => hne e.symm)]
    exact HB.out
  have d0 : w2.cell? ⟨b, 0, none⟩ = some (.pointer (some ⟨b, 0, none⟩)) := by rw [Lib.cell_of_heap hb2]; rfl
  have d1 : w2.cell? ⟨b, 1, none⟩ = some v := by rw [Lib.cell_of_heap hb2]; rfl
  have f1 : w2.frozen? ⟨b, 1, none⟩ = false := Lib.frozen_of_heap hb2 1
  have H2 := Lib.hid hb2
  have hk2 : BdK b w w2 := hk1.trans ⟨(Below.refl _ _).grown hgrow (by omega) (fun k hk => (hown.lt k hk).1), (Lib.OthersKept.refl _ _ _).grown hgrow (own_kind hown)⟩
  obtain ⟨A3, c3, rfl, _, _⟩ := own_slice hown'
  have HW : Hid (w2.ownsRow b 5 1 (.slice A3 (bs.length + s.length) c3) (bs.length + s.length) (bs.map encB ++ s.map encB)) := hown'
  clear hb2 hgrow hown hown'
  have hss := HSS.out
  go_wp2_with fail
  go_ret2
  exact ⟨rfl, bd_put HT.out H2.out (by rw [List.map_append, List.length_append]; exact HW.out), hk2.1.setCell (p := ⟨b, 1, none⟩) (Nat.le_refl _) _, Lib.OthersKept.setCell (b := b) hk2.2 ⟨b, 1, none⟩ rfl _⟩

set_option maxHeartbeats 1000000 in
set_option maxRecDepth 100000 in
theorem string_any {T : TypeId} {b : Nat} {l : List UInt8} {w : World} (h : Bd T b l w) :
    Calls Try.prog 37 #[.pointer (some ⟨b, 0, none⟩)] w fun e w' => e = .returned (.string (str l)) ∧ Below b w w' := by
  have hlt := h.lt
  obtain ⟨p, v, _, hbk, hown⟩ := h
  rcases hown.2 with ⟨rfl, hl0⟩ | ⟨g, cap, cur, rfl, hbg, hg, hnc, hcm, hcs, htake⟩
  · have hl : l = [] := List.eq_nil_of_length_eq_zero hl0
    subst hl
    have hUS : ∀ (W : World) (q : Option Addr), (Builtin.unsafeString_ #[91, 3] 9 #[.pointer q, .int .i64 0]).run Try.prog W = .ok (.string .empty) W := fun W q => Lib.run_unsafeString_none W _ _ _ q
    have c1 : w.drew.cell? ⟨b, 1, none⟩ = some (.slice none 0 0) := by
      have : w.drew.heap[b]? = some (.cells #[p, .slice none 0 0] T (0, 0)) := hbk
      rw [Lib.cell_of_heap this]; rfl
    have hSD : (Builtin.unsafeSliceData_ #[59] 91 #[.slice none 0 0]).run Try.prog w.drew = .ok (.pointer none) w.drew := rfl
    clear hbk hown
    go_enter Try.func37, Try.ntmps37
    go_wp2_with fail
    go_region
    all_goals (go_wp2_with fail; go_ret; exact ⟨rfl, Below.drew (Below.refl b w)⟩)
  · cases l with
    | nil =>
      have hUS : ∀ (W : World) (q : Option Addr), (Builtin.unsafeString_ #[91, 3] 9 #[.pointer q, .int .i64 0]).run Try.prog W = .ok (.string .empty) W := fun W q => Lib.run_unsafeString_none W _ _ _ q
      have c1 : w.drew.cell? ⟨b, 1, none⟩ = some (.slice (some ⟨g, 0, none⟩) 0 cap) := by
        have : w.drew.heap[b]? = some (.cells #[p, .slice (some ⟨g, 0, none⟩) 0 cap] T (0, 0)) := hbk
        rw [Lib.cell_of_heap this]; rfl
      by_cases hc0 : cap = 0
      · subst hc0
        have hSD : (Builtin.unsafeSliceData_ #[59] 91 #[.slice (some ⟨g, 0, none⟩) 0 0]).run Try.prog w.drew = .ok (.pointer (some ⟨w.drew.heap.size, 0, none⟩)) (w.drew.alloc (.view ⟨g, 0, none⟩ 5)) :=
          Lib.run_unsafeSliceData_zero w.drew _ _ 5 Try.underlying91 ⟨g, 0, none⟩ 0 (5, cur.size) (by have hg' : w.drew.heap[g]? = some (.cells cur 5 (0, 0)) := hg; simp [World.shape?, hg'])
        have c2 : (w.drew.alloc (.view ⟨g, 0, none⟩ 5)).cell? ⟨b, 1, none⟩ = some (.slice (some ⟨g, 0, none⟩) 0 0) := by
          have : (w.drew.alloc (.view ⟨g, 0, none⟩ 5)).heap[b]? = _ := (Lib.alloc_old w.drew _ b hlt).trans hbk
          rw [Lib.cell_of_heap this]; rfl
        have c3 : (w.alloc (.view ⟨g, 0, none⟩ 5)).drew.cell? ⟨b, 1, none⟩ = some (.slice (some ⟨g, 0, none⟩) 0 0) := c2
        have c0 : w.cell? ⟨b, 1, none⟩ = some (.slice (some ⟨g, 0, none⟩) 0 0) := c1
        clear hbk hown hg hcs htake hcm hnc
        go_enter Try.func37, Try.ntmps37
        go_wp2_with fail
        go_region
        all_goals (go_wp2_with fail; go_ret; exact ⟨rfl, (Below.drew (Below.refl b w)).alloc (Nat.le_of_lt hlt) _⟩)
      · have hSD : (Builtin.unsafeSliceData_ #[59] 91 #[.slice (some ⟨g, 0, none⟩) 0 cap]).run Try.prog w.drew = .ok (.pointer (some ⟨g, 0, none⟩)) w.drew :=
          Lib.run_unsafeSliceData_row _ _ _ _ _ _ hc0
        clear hc0 hbk hown hg hcs htake hcm hnc
        go_enter Try.func37, Try.ntmps37
        go_wp2_with fail
        go_region
        all_goals (go_wp2_with fail; go_ret; exact ⟨rfl, Below.drew (Below.refl b w)⟩)
    | cons x r =>
      have h0 : x :: r ≠ [] := by simp
      generalize x :: r = l at *
      have hl0 : l.length ≠ 0 := by simpa using h0
      have c1 : w.drew.cell? ⟨b, 1, none⟩ = some (.slice (some ⟨g, 0, none⟩) l.length cap) := by
        have : w.drew.heap[b]? = some (.cells #[p, .slice (some ⟨g, 0, none⟩) l.length cap] T (0, 0)) := hbk
        rw [Lib.cell_of_heap this]; rfl
      have hSD : (Builtin.unsafeSliceData_ #[59] 91 #[.slice (some ⟨g, 0, none⟩) l.length cap]).run Try.prog w.drew = .ok (.pointer (some ⟨g, 0, none⟩)) w.drew :=
        Lib.run_unsafeSliceData_row _ _ _ _ _ _ (by omega)
      have hUS : (Builtin.unsafeString_ #[91, 3] 9 #[.pointer (some ⟨g, 0, none⟩), .int .i64 l.length]).run Try.prog w.drew = .ok (.string ⟨l.toArray⟩) (w.drew.freeze ⟨g, 0, none⟩ l.length) := by
        refine Lib.run_unsafeString_row w.drew 91 3 9 5 Try.underlying91 Try.cells_u8b g cur.size (by have hg' : w.drew.heap[g]? = some (.cells cur 5 (0, 0)) := hg; simp [World.shape?, hg']) l h0 (by omega) (by unfold maxLen at hcm; omega) ?_
        intro j x hx
        have := hown.cells (g := g) rfl j (.int .u8 x.toNat) (by simp [encB, hx])
        exact this
      clear hbk hown hg hcs htake hcm hnc hl0 h0
      go_enter Try.func37, Try.ntmps37
      go_wp2_with fail
      go_region
      all_goals (go_wp2_with fail; go_ret; exact ⟨rfl, Lib.below_freeze (Below.drew (Below.refl b w)) (p := ⟨g, 0, none⟩) hbg _⟩)
end Go.Proofs.Yteokbmngebckjaa
namespace Go.Proofs.Yteokbmngebckjaa
set_option linter.unusedVariables false
set_option linter.unusedSimpArgs false

/-- where a run of bytes ends -/
def runE (s : S4) : Nat → Nat → Nat
  | 0, b => b
  | f + 1, b => if s.has (b + 1) then runE s f (b + 1) else b
def runEnd (s : S4) (b : Nat) : Nat := runE s (255 - b) b
theorem runEnd_last (s : S4) {b : Nat} (h : 255 ≤ b) : runEnd s b = b := by
  unfold runEnd
  rw [show 255 - b = 0 by omega]
  rfl
theorem runEnd_step (s : S4) {b : Nat} (h : b < 255) (hh : s.has (b + 1) = true) : runEnd s b = runEnd s (b + 1) := by
  unfold runEnd
  rw [show 255 - b = (255 - (b + 1)) + 1 by omega]
  simp [runE, hh]
theorem runEnd_stop (s : S4) {b : Nat} (hh : s.has (b + 1) = false) : runEnd s b = b := by
  unfold runEnd
  cases 255 - b with
  | zero => rfl
  | succ f => simp [runE, hh]
theorem runE_le (s : S4) : ∀ f b, b ≤ runE s f b ∧ runE s f b ≤ b + f
  | 0, b => ⟨Nat.le_refl _, Nat.le_refl _⟩
  | f + 1, b => by
    simp only [runE]
    split
    · have := runE_le s f (b + 1); omega
    · omega
theorem runEnd_le (s : S4) {b : Nat} (h : b ≤ 255) : b ≤ runEnd s b ∧ runEnd s b ≤ 255 := by
  have := runE_le s (255 - b) b
  unfold runEnd
  omega
/-- a run's text -/
def runText (b e : Nat) : List UInt8 := signB (UInt8.ofNat b) ++ (if b + 1 < e then [45] else []) ++ (if b < e then signB (UInt8.ofNat e) else [])
def txtF (s : S4) : Nat → Nat → List UInt8
  | 0, _ => []
  | f + 1, b => if 256 ≤ b then [] else if s.has b then runText b (runEnd s b) ++ txtF s f (runEnd s b + 1) else txtF s f (b + 1)
/-- the text of the bytes from b on -/
def txt (s : S4) (b : Nat) : List UInt8 := txtF s (256 - b) b
theorem txtF_end (s : S4) {b : Nat} (h : 256 ≤ b) : ∀ f, txtF s f b = []
  | 0 => rfl
  | f + 1 => by simp [txtF, h]
theorem txtF_more (s : S4) : ∀ (n b f g : Nat), 256 - b ≤ n → 256 - b ≤ f → 256 - b ≤ g → txtF s f b = txtF s g b
  | n, b, f, g, hn, hf, hg => by
    by_cases h : b < 256
    · cases n with
      | zero => omega
      | succ m =>
        obtain ⟨f, rfl⟩ : ∃ x, f = x + 1 := ⟨f - 1, by omega⟩
        obtain ⟨g, rfl⟩ : ∃ x, g = x + 1 := ⟨g - 1, by omega⟩
        have he := runEnd_le s (show b ≤ 255 by omega)
        simp only [txtF]
        rw [txtF_more s m (runEnd s b + 1) f g (by omega) (by omega) (by omega), txtF_more s m (b + 1) f g (by omega) (by omega) (by omega)]
    · rw [txtF_end s (by omega), txtF_end s (by omega)]
theorem txt_end (s : S4) {b : Nat} (h : 256 ≤ b) : txt s b = [] := txtF_end s h _
theorem txt_skip (s : S4) {b : Nat} (h : b < 256) (hh : s.has b = false) : txt s b = txt s (b + 1) := by
  unfold txt
  rw [show 256 - b = (256 - (b + 1)) + 1 by omega]
  simp only [txtF]
  rw [if_neg (by omega), hh]
  simp
theorem txt_take (s : S4) {b : Nat} (h : b < 256) (hh : s.has b = true) : txt s b = runText b (runEnd s b) ++ txt s (runEnd s b + 1) := by
  have he := runEnd_le s (show b ≤ 255 by omega)
  unfold txt
  rw [show 256 - b = (256 - (b + 1)) + 1 by omega]
  simp only [txtF]
  rw [if_neg (by omega), hh]
  simp only [if_true]
  rw [txtF_more s 256 (runEnd s b + 1) (256 - (b + 1)) (256 - (runEnd s b + 1)) (by omega) (by omega) (by omega)]
theorem bytesTo_has (s : S4) {b : Nat} (hh : s.has b = true) : bytesTo s (b + 1) = bytesTo s b ++ [UInt8.ofNat b] := by simp [bytesTo, hh]
theorem bytesTo_not (s : S4) {b : Nat} (hh : s.has b = false) : bytesTo s (b + 1) = bytesTo s b := by simp [bytesTo, hh]
theorem bytesTo_front (s : S4) (b : Nat) : ∀ n, ∃ r, bytesTo s (b + n) = bytesTo s b ++ r
  | 0 => ⟨[], by simp⟩
  | n + 1 => by
    obtain ⟨r, h⟩ := bytesTo_front s b n
    rw [← Nat.add_assoc]
    cases hh : s.has (b + n) with
    | true => exact ⟨r ++ [UInt8.ofNat (b + n)], by rw [bytesTo_has s hh, h, List.append_assoc]⟩
    | false => exact ⟨r, by rw [bytesTo_not s hh, h]⟩
theorem bytesTo_le (s : S4) {b c : Nat} (h : b ≤ c) : (bytesTo s b).length ≤ (bytesTo s c).length := by
  obtain ⟨n, rfl⟩ := Nat.exists_eq_add_of_le h
  obtain ⟨r, h⟩ := bytesTo_front s b n
  rw [h, List.length_append]; omega
theorem bytes_at (s : S4) {b : Nat} (h : b < 256) (hh : s.has b = true) : (bytesOf s)[(bytesTo s b).length]? = some (UInt8.ofNat b) ∧ (bytesTo s b).length < (bytesOf s).length := by
  obtain ⟨n, hn⟩ := Nat.exists_eq_add_of_le (show b + 1 ≤ 256 by omega)
  obtain ⟨r, hr⟩ := bytesTo_front s (b + 1) n
  unfold bytesOf
  rw [hn, hr, bytesTo_has s hh]
  constructor
  · simp
  · simp
theorem bytesTo_mem (s : S4) : ∀ n, n ≤ 256 → ∀ x ∈ bytesTo s n, s.has x.toNat = true
  | 0, _, x, hx => by simp [bytesTo] at hx
  | n + 1, hn, x, hx => by
    cases hh : s.has n with
    | true =>
      rw [bytesTo_has s hh, List.mem_append, List.mem_singleton] at hx
      rcases hx with hx | hx
      · exact bytesTo_mem s n (by omega) x hx
      · subst hx
        rw [UInt8.toNat_ofNat', Nat.mod_eq_of_lt (by omega)]
        exact hh
    | false =>
      rw [bytesTo_not s hh] at hx
      exact bytesTo_mem s n (by omega) x hx
theorem next_member (s : S4) : ∀ n b, 256 - b ≤ n → b ≤ 256 → (bytesTo s b).length < (bytesOf s).length →
    ∃ c, b ≤ c ∧ c < 256 ∧ s.has c = true ∧ bytesTo s c = bytesTo s b ∧ txt s c = txt s b
  | n, b, hn, hb, hl => by
    by_cases h : b < 256
    · cases n with
      | zero => omega
      | succ m =>
        cases hh : s.has b with
        | true => exact ⟨b, Nat.le_refl _, h, hh, rfl, rfl⟩
        | false =>
          obtain ⟨c, h1, h2, h3, h4, h5⟩ := next_member s m (b + 1) (by omega) (by omega) (by rw [bytesTo_not s hh]; exact hl)
          exact ⟨c, by omega, h2, h3, by rw [h4, bytesTo_not s hh], by rw [h5, txt_skip s h hh]⟩
    · have : b = 256 := by omega
      subst this
      exact absurd hl (Nat.lt_irrefl _)
theorem no_member (s : S4) : ∀ n b, 256 - b ≤ n → b ≤ 256 → (bytesTo s b).length = (bytesOf s).length → txt s b = []
  | n, b, hn, hb, hl => by
    by_cases h : b < 256
    · cases n with
      | zero => omega
      | succ m =>
        cases hh : s.has b with
        | true => have := (bytes_at s h hh).2; omega
        | false =>
          rw [txt_skip s h hh]
          exact no_member s m (b + 1) (by omega) (by omega) (by rw [bytesTo_not s hh]; exact hl)
    · exact txt_end s (by omega)
theorem full_has (s : S4) : ∀ n, (bytesTo s n).length = n → ∀ b, b < n → s.has b = true
  | 0, _, b, hb => by omega
  | n + 1, h, b, hb => by
    cases hh : s.has n with
    | true =>
      rw [bytesTo_has s hh, List.length_append, List.length_singleton] at h
      by_cases e : b = n
      · subst e; exact hh
      · exact full_has s n (by omega) b (by omega)
    | false =>
      rw [bytesTo_not s hh] at h
      have := bytesTo_length s n
      omega
def S4.all : S4 := ⟨18446744073709551615, 18446744073709551615, 18446744073709551615, 18446744073709551615⟩
theorem word_full (x : UInt64) (h : ∀ j, j < 64 → x.toNat.testBit j = true) : x = 18446744073709551615 := by
  apply UInt64.toNat_inj.1
  show x.toNat = 2 ^ 64 - 1
  apply Nat.eq_of_testBit_eq
  intro i
  rw [Nat.testBit_two_pow_sub_one]
  by_cases hi : i < 64
  · rw [h i hi]; simp [hi]
  · rw [Nat.testBit_lt_two_pow (Nat.lt_of_lt_of_le x.toNat_lt (Nat.pow_le_pow_right (by decide) (by omega)))]
    simp [hi]
theorem all_full : (bytesOf S4.all).length = 256 := by decide +kernel
theorem all_iff (s : S4) : decide (s = S4.all) = decide ((bytesOf s).length = 256) := by
  rw [Bool.eq_iff_iff, decide_eq_true_eq, decide_eq_true_eq]
  constructor
  · rintro rfl; exact all_full
  · intro h
    have hh := full_has s 256 h
    have hw : ∀ i j, i < 4 → j < 64 → (s.get i).toNat.testBit j = true := fun i j hi hj => by rw [← has_test s i j hj]; exact hh _ (by omega)
    rw [S4.ext_iff_]
    exact ⟨word_full _ fun j hj => hw 0 j (by decide) hj, word_full _ fun j hj => hw 1 j (by decide) hj, word_full _ fun j hj => hw 2 j (by decide) hj, word_full _ fun j hj => hw 3 j (by decide) hj⟩
theorem signB_length (b : UInt8) : 1 ≤ (signB b).length ∧ (signB b).length ≤ 3 := by
  unfold signB
  split
  · rw [List.length_cons, hexOf_length]; simp
  · simp
theorem runText_length (b e : Nat) : (runText b e).length ≤ 7 := by
  unfold runText
  have h1 := signB_length (UInt8.ofNat b)
  have h2 := signB_length (UInt8.ofNat e)
  simp only [List.length_append]
  split <;> split <;> simp <;> omega
/-- a set's text -/
def textS (s : S4) : List UInt8 :=
  if (bytesOf s).length = 256 then [46] else
  match bytesOf s with
  | [b] => signB b
  | _ => 91 :: (txt s 0 ++ [93])
theorem textS_all (s : S4) (h : (bytesOf s).length = 256) : textS s = [46] := by simp [textS, h]
theorem textS_one (s : S4) {b : UInt8} (h : bytesOf s = [b]) : textS s = signB b := by simp [textS, h]
theorem textS_many (s : S4) (h : (bytesOf s).length ≠ 256) (h1 : (bytesOf s).length ≠ 1) : textS s = 91 :: (txt s 0 ++ [93]) := by
  unfold textS
  rw [if_neg h]
  split
  · rename_i b hb; rw [hb] at h1; simp at h1
  · rfl
theorem txtF_length (s : S4) : ∀ f b, (txtF s f b).length ≤ 7 * f
  | 0, b => by simp [txtF]
  | f + 1, b => by
    simp only [txtF]
    split
    · simp
    · split
      · have h1 := txtF_length s f (runEnd s b + 1)
        have h2 := runText_length b (runEnd s b)
        rw [List.length_append]; omega
      · have h1 := txtF_length s f (b + 1)
        omega
theorem txt_length (s : S4) (b : Nat) : (txt s b).length ≤ 1792 := by
  have := txtF_length s (256 - b) b
  unfold txt
  omega
theorem textS_length (s : S4) : 1 ≤ (textS s).length ∧ (textS s).length ≤ 2000 := by
  unfold textS
  split
  · simp
  · split
    · rename_i b _; have := signB_length b; omega
    · have := txt_length s 0
      simp; omega
end Go.Proofs.Yteokbmngebckjaa
