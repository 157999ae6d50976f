/- Numbers' digits. -/
import Derived.Test.YthbcofbdgljfbaaDoorHexB
import Derived.Test.YthbcofbdgljfbaaDoorShelfN
import Derived.Lib.ItoaNum
import Derived.Lib.LaidTab
namespace Go.Proofs.YthbcofbdgljfbaaDoor
open Go.RowKit
set_option linter.unusedVariables false
set_option linter.unusedSimpArgs false

/-- the powers of ten lie where the program has them -/
def PowOk (w : World) : Prop := Lib.TabIs Tryd.prog w "internal/strconv.uint64pow10" .u64 Lib.pow10Tab
theorem Tryd.gPow : Tryd.prog.globalNamed "internal/strconv.uint64pow10" = some 3 := by kernel_rfl
theorem var_below {w w' : World} (hb : Below w.heap.size w w') {name : String} {cs : Array Value} {g : Nat} (hg : Tryd.prog.globalNamed name = some g) (h : w.var? Tryd.prog name = some cs) : w'.var? Tryd.prog name = some cs := by
  have hlt : g < w.heap.size := by
    unfold World.var? at h
    rw [hg] at h
    simp only [Option.bind_some] at h
    rcases Nat.lt_or_ge g w.heap.size with h1 | h1
    · exact h1
    · rw [Array.getElem?_eq_none h1] at h; cases h
  rw [← h]
  unfold World.var?
  rw [hg]
  simp only [Option.bind_some]
  rw [hb.block g hlt]
theorem PowOk.below {w w' : World} (h : PowOk w) (hb : Below w.heap.size w w') : PowOk w' := var_below hb Tryd.gPow h
/-- a number's digits -/
def digN (n : Int) : List UInt8 := if n < 0 ∨ 1000000 < n then [] else Lib.decDigits n.toNat
theorem digN_out {n : Int} (h : n < 0 ∨ 1000000 < n) : digN n = [] := by unfold digN; rw [if_pos h]
theorem digN_in {n : Nat} (h : n ≤ 1000000) : digN n = Lib.decDigits n := by unfold digN; rw [if_neg (by omega), Int.toNat_natCast]
theorem decDigits_le : ∀ (k u : Nat), u < 10 ^ k → (Lib.decDigits u).length ≤ k + 1
  | 0, u, h => by rw [Lib.decDigits, dif_pos (by omega)]; simp
  | k + 1, u, h => by
    by_cases h1 : u < 10
    · rw [Lib.decDigits, dif_pos h1]; simp
    · rw [Lib.decDigits, dif_neg h1, List.length_append, List.length_singleton]
      have := decDigits_le k (u / 10) (by rw [Nat.pow_succ] at h; omega)
      omega
theorem digN_length (n : Int) : (digN n).length ≤ 8 := by
  unfold digN
  split
  · simp
  · exact decDigits_le 7 _ (by omega)

theorem grow_keeps (w : World) (k : Nat) (os : Array Obj) : Below w.heap.size w («Sort».grow (w.drewN k) os) :=
  ⟨rfl, rfl, rfl, by simp [«Sort».grow, World.drewN], fun i hi => by
    show (w.heap ++ os)[i]? = _
    rw [Array.getElem?_append_left hi]⟩
set_option maxHeartbeats 2000000 in
theorem digits_any (n : Int) (w : World) (h0 : -9223372036854775808 ≤ n) (h1 : n ≤ 9223372036854775807) (hp : PowOk w) :
    Calls Tryd.prog 13 #[.int .i64 n] w fun e w' => e = .returned (.string (str (digN n))) ∧ Below w.heap.size w w' := by
  have HP := Lib.hid hp
  clear hp
  by_cases h : n < 0
  · have HD := Lib.hid (digN_out (.inl h))
    have g : decide (n < 0) = true := by simp; omega
    go_enter Tryd.func13, Tryd.ntmps13
    go_wp2_with fail
    go_ret
    exact ⟨by rw [HD.out]; rfl, Below.refl _ _⟩
  · have g : decide (n < 0) = false := by simp; omega
    by_cases h2 : 1000000 < n
    · have HD := Lib.hid (digN_out (.inr h2))
      have g2 : decide (n > 1000000) = true := by simp; omega
      go_enter Tryd.func13, Tryd.ntmps13
      go_wp2_with fail
      go_ret
      exact ⟨by rw [HD.out]; rfl, Below.refl _ _⟩
    · have g2 : decide (n > 1000000) = false := by simp; omega
      obtain ⟨u, rfl⟩ : ∃ u : Nat, n = (u : Int) := ⟨n.toNat, by omega⟩
      have HD := Lib.hid (digN_in (n := u) (by omega))
      have hi := Tryd.strconv_Itoa (u : Int) h0 h1 w HP.out
      rw [show Lib.itoa (u : Int) = Lib.decDigits u by unfold Lib.itoa; rw [if_neg (by omega)]; simp] at hi
      have HI := Lib.hid hi
      clear hi
      go_enter Tryd.func13, Tryd.ntmps13
      go_wp2_with fail
      refine HI.out.mono ?_
      rintro e w1 ⟨rfl, k, os, rfl⟩
      have hb := Lib.hid (grow_keeps w k os)
      generalize «Sort».grow (w.drewN k) os = w1 at *
      go_wp2_with fail
      go_ret
      exact ⟨by rw [HD.out]; rfl, hb.out⟩

/-- a decimal digit -/
def digc (d : Nat) : UInt8 := UInt8.ofNat (48 + d)
theorem hexd_dec : ∀ n : Fin 10, hexd n.val = digc n.val := by decide +kernel
/-- what is left to put ahead -/
def decRest (m : Nat) : List UInt8 := if 9 < m then Lib.decDigits (m / 10) else []
theorem decRest_start (m : Nat) : Lib.decDigits m = decRest m ++ [digc (m % 10)] := by
  unfold decRest
  rw [Lib.decDigits]
  by_cases h : m < 10
  · rw [dif_pos h, if_neg (by omega), Nat.mod_eq_of_lt h]; rfl
  · rw [dif_neg h, if_pos (by omega)]; rfl
theorem decRest_step {m : Nat} (h : 9 < m) : decRest m = decRest (m / 10) ++ [digc (m / 10 % 10)] := by
  conv => lhs; unfold decRest
  rw [if_pos h, decRest_start]
set_option maxHeartbeats 4000000 in
theorem refDigits_any (n : Int) (w : World) :
    Calls Tryd.prog 15 #[.int .i64 n] w fun e w' => e = .returned (.string (str (digN n))) ∧ w = w' := by
  by_cases h : n < 0
  · have HD := Lib.hid (digN_out (.inl h))
    have g : decide (n < 0) = true := by simp; omega
    go_enter Tryd.func15, Tryd.ntmps15
    go_wp2_with fail
    go_ret
    exact ⟨by rw [HD.out]; rfl, rfl⟩
  · have g : decide (n < 0) = false := by simp; omega
    by_cases h2 : 1000000 < n
    · have HD := Lib.hid (digN_out (.inr h2))
      have g2 : decide (n > 1000000) = true := by simp; omega
      go_enter Tryd.func15, Tryd.ntmps15
      go_wp2_with fail
      go_ret
      exact ⟨by rw [HD.out]; rfl, rfl⟩
    · have g2 : decide (n > 1000000) = false := by simp; omega
      obtain ⟨u, rfl⟩ : ∃ u : Nat, n = (u : Int) := ⟨n.toNat, by omega⟩
      have HD := Lib.hid (digN_in (n := u) (by omega))
      have hr : (u : Int).tmod 10 = ((u % 10 : Nat) : Int) := by rw [Int.tmod_eq_emod_of_nonneg (by omega)]; omega
      have hx := hexd_dec ⟨u % 10, Nat.mod_lt _ (by decide)⟩
      simp only at hx
      have hd0 := refDigit_nat (u % 10) w (by omega)
      rw [hx] at hd0
      have HD0 := Lib.hid hd0
      have HS : Hid (Lib.decDigits u = decRest u ++ [digc (u % 10)]) := decRest_start u
      have hu : u ≤ 1000000 := by omega
      clear hx hd0 h h2
      go_enter Tryd.func15, Tryd.ntmps15
      go_wp2_with fail
      refine HD0.out.mono ?_
      rintro e w1 ⟨rfl, rfl⟩
      clear hr
      go_wp2_with fail
      go_loopw [0, 3] (fun a o wr => ∃ (m : Nat) (acc : List UInt8), m ≤ 1000000 ∧ a = .int .i64 (m : Nat) ∧ o = .string (str acc) ∧ Hid (Lib.decDigits u = decRest m ++ acc) ∧ Hid (acc.length + (decRest m).length ≤ 8) ∧ wr = w1) (fun a _ _ => (intOf a).toNat)
      case atStart => exact ⟨u, [digc (u % 10)], hu, rfl, rfl, HS, by have h := congrArg List.length HS.out; have h2 := decDigits_le 7 u (by omega); rw [List.length_append] at h; unfold Hid; omega, rfl⟩
      case round =>
        clear HS
        obtain ⟨m, acc, hm, rfl, rfl, HS, HL, rfl⟩ := hrel
        by_cases h9 : 9 < m
        · have g9 : decide ((m : Int) > 9) = true := by simp; omega
          have q1 : (m : Int).tdiv 10 = ((m / 10 : Nat) : Int) := by rw [Int.tdiv_eq_ediv_of_nonneg (by omega)]; omega
          have q2 : ((m / 10 : Nat) : Int).tmod 10 = ((m / 10 % 10 : Nat) : Int) := by rw [Int.tmod_eq_emod_of_nonneg (by omega)]; omega
          have hx := hexd_dec ⟨m / 10 % 10, Nat.mod_lt _ (by decide)⟩
          simp only at hx
          have hd0 := refDigit_nat (m / 10 % 10) wr (by omega)
          rw [hx] at hd0
          have HD0 := Lib.hid hd0
          have HS2 : Hid (Lib.decDigits u = decRest (m / 10) ++ ([digc (m / 10 % 10)] ++ acc)) := by unfold Hid; rw [HS.out, decRest_step h9, List.append_assoc]
          have HL2 : Hid (([digc (m / 10 % 10)] ++ acc).length + (decRest (m / 10)).length ≤ 8) := by
            have := HL.out
            rw [decRest_step h9, List.length_append] at this
            unfold Hid
            rw [List.length_append]
            omega
          have hcat := run_cat (P := Tryd.prog) [digc (m / 10 % 10)] acc (by have := HL.out; simp; omega)
          have hm10 : m / 10 ≤ 1000000 := by omega
          have hlt : m / 10 < m := by omega
          clear hx hd0
          generalize m / 10 = m2 at *
          generalize digc (m2 % 10) = dg at *
          go_wp2_with fail
          refine HD0.out.mono ?_
          rintro e w2 ⟨rfl, rfl⟩
          go_wp2_with fail
          go_roundw
          case rel => exact ⟨m2, [dg] ++ acc, hm10, rfl, rfl, HS2, HL2, trivial⟩
          case measure => simp [intOf]; omega
        · have g9 : decide ((m : Int) > 9) = false := by simp; omega
          have HE : Hid (Lib.decDigits u = acc) := by unfold Hid; rw [HS.out]; unfold decRest; rw [if_neg h9]; rfl
          go_wp2_with fail
          go_ret
          exact ⟨by rw [HD.out, HE.out]; rfl, rfl⟩
end Go.Proofs.YthbcofbdgljfbaaDoor
