/- Bytes' digits, as the document has them. (For a seat without the digits' values.) -/
import Derived.Test.YthbcofbdgljfbaaDoorNum4
import Derived.Deep.QuietTactic
import Derived.BigQuiet
namespace Go.Proofs.YthbcofbdgljfbaaDoor
open Go.RowKit
set_option linter.unusedVariables false
set_option linter.unusedSimpArgs false

theorem refDigit_any (z : Int) (w : World) (h0 : 0 ≤ z) (hz : z < 16) :
    Calls Tryd.prog 25 #[.int .i64 z] w fun e w' => e = .returned (.string (str [hexd z.toNat])) ∧ w' = w := by
  obtain ⟨n, rfl⟩ := Int.eq_ofNat_of_zero_le h0
  rw [Int.toNat_natCast]
  have hn : n < 16 := by omega
  clear h0 hz
  have he : ∀ m : Fin 16, digitsText.extract m.val (m.val + 1) = str [hexd m.val] := by decide +kernel
  have hs := run_slice_string (P := Tryd.prog) w 9 digitsText .i64 .i64 (n : Int) ((n : Int) + 1) Tryd.underlying9 (by omega) (by omega) (by show ((n : Int) + 1) ≤ 16; omega)
  rw [Int.toNat_natCast, show ((n : Int) + 1).toNat = n + 1 by omega, he ⟨n, hn⟩] at hs
  clear he
  go_enter Tryd.func25, Tryd.ntmps25
  go_wp2_with fail
  go_ret
  exact ⟨rfl, rfl⟩

theorem refDigit_nat (n : Nat) (w : World) (hn : n < 16) :
    Calls Tryd.prog 25 #[.int .i64 n] w fun e w' => e = .returned (.string (str [hexd n])) ∧ w' = w := by
  have := refDigit_any (n : Int) w (by omega) (by omega)
  rwa [Int.toNat_natCast] at this
end Go.Proofs.YthbcofbdgljfbaaDoor
