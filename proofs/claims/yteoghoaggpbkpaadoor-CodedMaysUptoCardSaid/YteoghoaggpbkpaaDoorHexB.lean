/- Bytes' digits, as the document has them. (For a seat without the digits' values.) -/
import Derived.Test.YteoghoaggpbkpaaDoorNum4
import Derived.Deep.QuietTactic
import Derived.BigQuiet
namespace Go.Proofs.YteoghoaggpbkpaaDoor
open Go.RowKit
set_option linter.unusedVariables false
set_option linter.unusedSimpArgs false

theorem refDigit_any (z : Int) (w : World) (h0 : 0 ≤ z) (hz : z < 16) :
    Calls Tryd.prog 82 #[.int .i64 z] w fun e w' => e = .returned (.string (str [hexd z.toNat])) ∧ w' = w := by
  obtain ⟨n, rfl⟩ := Int.eq_ofNat_of_zero_le h0
  rw [Int.toNat_natCast]
  have hn : n < 16 := by omega
  clear h0 hz
  have he : ∀ m : Fin 16, digitsText.extract m.val (m.val + 1) = str [hexd m.val] := by decide +kernel
  have hs := run_slice_string (P := Tryd.prog) w 9 digitsText .i64 .i64 (n : Int) ((n : Int) + 1) Tryd.underlying9 (by omega) (by omega) (by show ((n : Int) + 1) ≤ 16; omega)
  rw [Int.toNat_natCast, show ((n : Int) + 1).toNat = n + 1 by omega, he ⟨n, hn⟩] at hs
  clear he
  go_enter Tryd.func82, Tryd.ntmps82
  go_wp2_with fail
  go_ret
  exact ⟨rfl, rfl⟩

theorem refDigit_nat (n : Nat) (w : World) (hn : n < 16) :
    Calls Tryd.prog 82 #[.int .i64 n] w fun e w' => e = .returned (.string (str [hexd n])) ∧ w' = w := by
  have := refDigit_any (n : Int) w (by omega) (by omega)
  rwa [Int.toNat_natCast] at this
set_option maxHeartbeats 1000000 in
theorem refHex_any (l : List UInt8) (A : Option Addr) (c : Nat) (w : World) (hr : Row1 encB w A l) (hm : l.length ≤ 1000000000) :
    Calls Tryd.prog 67 #[.slice A l.length c] w fun e w' => e = .returned (.string (str (hexOf l))) ∧ Below w.heap.size w w' := by
  go_enter Tryd.func67, Tryd.ntmps67
  go_wp2_with fail
  go_loopw [3, 4, 7] (fun o _ i wr => ∃ k : Nat, k ≤ l.length ∧ i = .int .i64 k ∧ o = .string (str (hexOf (l.take k))) ∧ Below w.heap.size w wr) (fun _ _ i _ => l.length - (intOf i).toNat)
  case atStart => exact ⟨0, Nat.zero_le _, rfl, rfl, Below.refl _ _⟩
  case round =>
    obtain ⟨k, hk, rfl, rfl, hb⟩ := hrel
    by_cases hlt : k < l.length
    · obtain ⟨ad, b, hA, hx, hc⟩ := (hr.below hb).at_ hlt
      subst hA
      have HX := Lib.hid hx
      clear hx hr
      have hq := b.toNat_lt
      have HS := Lib.hid (hexOf_snoc (l.take k) b)
      have HT := Lib.hid (take_snoc_ HX.out)
      have w1 : IntKind.i64.wrap (b.toNat : Int) = b.toNat := IntWalk.i64_in _ (by omega)
      have w2 : ((b.toNat : Int)).tdiv 16 = ((b.toNat / 16 : Nat) : Int) := by rw [Int.tdiv_eq_ediv_of_nonneg (by omega)]; omega
      have w3 : ((b.toNat : Int)).tmod 16 = ((b.toNat % 16 : Nat) : Int) := by rw [Int.tmod_eq_emod_of_nonneg (by omega)]; omega
      have w4 : IntKind.i64.wrap ((b.toNat / 16 : Nat) : Int) = ((b.toNat / 16 : Nat) : Int) := IntWalk.i64_in _ (by omega)
      have w5 : IntKind.i64.wrap ((b.toNat % 16 : Nat) : Int) = ((b.toNat % 16 : Nat) : Int) := IntWalk.i64_in _ (by omega)
      have d1 : b.toNat / 16 < 16 := by omega
      have d2 : b.toNat % 16 < 16 := by omega
      clear hq
      generalize b.toNat / 16 = p at *
      generalize b.toNat % 16 = q at *
      have hl1 : (hexOf (l.take k)).length ≤ 2000000000 := by rw [hexOf_length, List.length_take]; omega
      have c1 := run_cat (P := Tryd.prog) (hexOf (l.take k)) [hexd p] (by simp; omega)
      have c2 := run_cat (P := Tryd.prog) (hexOf (l.take k) ++ [hexd p]) [hexd q] (by simp; omega)
      generalize hexOf (l.take k) = hh at *
      go_wp2_with fail
      go_quiet ((go_at_call 82; exact Calls.quiet_of_same (refDigit_nat _ _ (by assumption))))
      go_wp2_with fail
      go_roundw
      case rel => exact ⟨k + 1, by omega, by go_num, by rw [HT.out, HS.out], (by exact ⟨hb.os, hb.tape, hb.output, hb.size, hb.block⟩)⟩
      case measure => simp [intOf]; omega
    · have hkk : k = l.length := by omega
      subst hkk
      rw [List.take_length]
      go_wp2_with fail
      go_ret
      exact ⟨rfl, hb⟩
end Go.Proofs.YteoghoaggpbkpaaDoor
