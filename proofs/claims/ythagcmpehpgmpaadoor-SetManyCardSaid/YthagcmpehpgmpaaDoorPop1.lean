/- The number of a word's ones: plain. -/
import Derived.Test.YthagcmpehpgmpaaDoorRow1
namespace Go.Proofs.YthagcmpehpgmpaaDoor
set_option linter.unusedVariables false

/-- how many of a word's first bits are ones -/
def popTo (x : Nat) : Nat → Nat
  | 0 => 0
  | n + 1 => popTo x n + (x.testBit n).toNat
theorem testBit_byte (b y j : Nat) (hb : b < 256) : (b + 256 * y).testBit j = if j < 8 then b.testBit j else y.testBit (j - 8) := by
  rw [Nat.add_comm, show (256 : Nat) = 2 ^ 8 from rfl, Nat.testBit_two_pow_mul_add y (show b < 2 ^ 8 from hb)]
theorem and_byte {b m y M : Nat} (hb : b < 256) (hm : m < 256) : (b + 256 * y) &&& (m + 256 * M) = (b &&& m) + 256 * (y &&& M) := by
  have h : b &&& m < 256 := Nat.lt_of_le_of_lt Nat.and_le_left hb
  apply Nat.eq_of_testBit_eq
  intro j
  rw [Nat.testBit_and, testBit_byte b y j hb, testBit_byte m M j hm, testBit_byte _ _ j h]
  split <;> rw [Nat.testBit_and]
theorem popTo_byte (b y : Nat) (hb : b < 256) : ∀ n, popTo (b + 256 * y) (8 + n) = popTo b 8 + popTo y n
  | 0 => by
    have key : ∀ k, k ≤ 8 → popTo (b + 256 * y) k = popTo b k := by
      intro k
      induction k with
      | zero => intro _; rfl
      | succ k ih =>
        intro hk
        show popTo (b + 256 * y) k + ((b + 256 * y).testBit k).toNat = popTo b k + (b.testBit k).toNat
        rw [ih (by omega), testBit_byte b y k hb, if_pos (by omega)]
    exact key 8 (by omega)
  | n + 1 => by
    show popTo (b + 256 * y) (8 + n) + ((b + 256 * y).testBit (8 + n)).toNat = popTo b 8 + (popTo y n + (y.testBit n).toNat)
    rw [popTo_byte b y hb n, testBit_byte b y _ hb, if_neg (by omega), show 8 + n - 8 = n by omega, Nat.add_assoc]
/-- a byte, so many times -/
def rep (m : Nat) : Nat → Nat
  | 0 => 0
  | n + 1 => m + 256 * rep m n
def st1 (M x : Nat) : Nat := ((x / 2) &&& M) + (x &&& M)
def st2 (M x : Nat) : Nat := ((x / 4) &&& M) + (x &&& M)
def st3 (M x : Nat) : Nat := (x / 16 + x) &&& M
theorem t1 : ∀ (b : Fin 256) (c : Fin 2), (b.val / 2 + 128 * c.val) &&& 85 = (b.val / 2) &&& 85 := by decide +kernel
theorem t2 : ∀ (b : Fin 256) (c : Fin 4), (b.val / 4 + 64 * c.val) &&& 51 = (b.val / 4) &&& 51 := by decide +kernel
theorem t3 : ∀ (b : Fin 256) (c : Fin 5), st2 51 (st1 85 b.val) / 16 + st2 51 (st1 85 b.val) + 16 * c.val < 256 ∧ ((st2 51 (st1 85 b.val) / 16 + st2 51 (st1 85 b.val) + 16 * c.val) &&& 15) = popTo b.val 8 ∧ popTo b.val 8 ≤ 8 ∧ st1 85 b.val < 256 ∧ st2 51 (st1 85 b.val) < 256 ∧ st2 51 (st1 85 b.val) % 16 ≤ 4 := by decide +kernel
theorem st1_step {b : Nat} (y n : Nat) (hb : b < 256) : st1 (rep 85 (n + 1)) (b + 256 * y) = st1 85 b + 256 * st1 (rep 85 n) y := by
  have h1 : (b + 256 * y) / 2 = (b / 2 + 128 * (y % 2)) + 256 * (y / 2) := by omega
  unfold st1
  rw [h1]
  show (_ &&& (85 + 256 * rep 85 n)) + (_ &&& (85 + 256 * rep 85 n)) = _
  rw [and_byte (by omega) (by omega), and_byte hb (by omega)]
  have := t1 ⟨b, hb⟩ ⟨y % 2, Nat.mod_lt _ (by decide)⟩
  simp only at this
  rw [this]
  generalize y / 2 &&& rep 85 n = p
  generalize y &&& rep 85 n = q
  generalize b / 2 &&& 85 = r
  generalize b &&& 85 = s
  omega
theorem st2_step {b : Nat} (y n : Nat) (hb : b < 256) : st2 (rep 51 (n + 1)) (b + 256 * y) = st2 51 b + 256 * st2 (rep 51 n) y := by
  have h1 : (b + 256 * y) / 4 = (b / 4 + 64 * (y % 4)) + 256 * (y / 4) := by omega
  unfold st2
  rw [h1]
  show (_ &&& (51 + 256 * rep 51 n)) + (_ &&& (51 + 256 * rep 51 n)) = _
  rw [and_byte (by omega) (by omega), and_byte hb (by omega)]
  have := t2 ⟨b, hb⟩ ⟨y % 4, Nat.mod_lt _ (by decide)⟩
  simp only at this
  rw [this]
  generalize y / 4 &&& rep 51 n = p
  generalize y &&& rep 51 n = q
  generalize b / 4 &&& 51 = r
  generalize b &&& 51 = s
  omega
theorem byte_cut (x : Nat) : x = x % 256 + 256 * (x / 256) := by omega
theorem st12_step {b : Nat} (y n : Nat) (hb : b < 256) : st2 (rep 51 (n + 1)) (st1 (rep 85 (n + 1)) (b + 256 * y)) = st2 51 (st1 85 b) + 256 * st2 (rep 51 n) (st1 (rep 85 n) y) := by
  rw [st1_step y n hb, st2_step _ n (t3 ⟨b, hb⟩ 0).2.2.2.1]
theorem low4 (y n : Nat) : st2 (rep 51 n) (st1 (rep 85 n) y) % 16 ≤ 4 := by
  cases n with
  | zero => simp [st2, rep]
  | succ n =>
    rw [byte_cut y, st12_step _ n (Nat.mod_lt _ (by decide))]
    have h := t3 ⟨y % 256, Nat.mod_lt _ (by decide)⟩ 0
    simp only at h
    have h2 := h.2.2.2.2.2
    generalize st2 51 (st1 85 (y % 256)) = p at *
    generalize st2 (rep 51 n) (st1 (rep 85 n) (y / 256)) = q at *
    omega
/-- each byte's ones in its place -/
def swar (n x : Nat) : Nat := st3 (rep 15 n) (st2 (rep 51 n) (st1 (rep 85 n) x))
theorem swar_step {b : Nat} (y n : Nat) (hb : b < 256) : swar (n + 1) (b + 256 * y) = popTo b 8 + 256 * swar n y := by
  unfold swar
  rw [st12_step y n hb]
  have hl := low4 y n
  have h := t3 ⟨b, hb⟩ ⟨st2 (rep 51 n) (st1 (rep 85 n) y) % 16, by omega⟩
  simp only at h
  obtain ⟨h1, h2, _, _, h5, _⟩ := h
  generalize st2 51 (st1 85 b) = p at *
  generalize st2 (rep 51 n) (st1 (rep 85 n) y) = q at *
  unfold st3
  have e : (p + 256 * q) / 16 + (p + 256 * q) = (p / 16 + p + 16 * (q % 16)) + 256 * (q / 16 + q) := by omega
  rw [e]
  show _ &&& (15 + 256 * rep 15 n) = _
  rw [and_byte h1 (by omega), h2]
/-- a number of its bytes -/
def valB : List Nat → Nat
  | [] => 0
  | c :: r => c + 256 * valB r
theorem swar_list (n : Nat) : ∀ x, x < 256 ^ n → ∃ l : List Nat, l.length = n ∧ (∀ c ∈ l, c ≤ 8) ∧ swar n x = valB l ∧ popTo x (8 * n) = l.sum := by
  induction n with
  | zero => intro x hx; exact ⟨[], rfl, by simp, by simp [swar, st3, rep, valB], rfl⟩
  | succ n ih =>
    intro x hx
    obtain ⟨l, h1, h2, h3, h4⟩ := ih (x / 256) (by rw [Nat.pow_succ] at hx; omega)
    have hb : x % 256 < 256 := Nat.mod_lt _ (by decide)
    refine ⟨popTo (x % 256) 8 :: l, by simp [h1], ?_, ?_, ?_⟩
    · intro c hc
      rcases List.mem_cons.1 hc with rfl | hc
      · exact (t3 ⟨x % 256, hb⟩ 0).2.2.1
      · exact h2 c hc
    · conv => lhs; rw [byte_cut x]
      rw [swar_step _ n hb, h3]
      rfl
    · conv => lhs; rw [byte_cut x, show 8 * (n + 1) = 8 + 8 * n by omega]
      rw [popTo_byte _ _ hb, h4]
      rfl
theorem valB_div {c : Nat} {r : List Nat} (h : c < 256) : valB (c :: r) / 256 = valB r := by
  show (c + 256 * valB r) / 256 = valB r
  omega
end Go.Proofs.YthagcmpehpgmpaaDoor
