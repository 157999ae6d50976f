/- The document's text of an expression: brackets, and the leaves. -/
import Derived.Test.YthagcmpehpgmpaaDoorShow1
import Derived.Test.YthagcmpehpgmpaaDoorText3
import Derived.Test.YthagcmpehpgmpaaDoorMake1
import Derived.Deep.RegionHeld3
namespace Go.Proofs.YthagcmpehpgmpaaDoor
open Go.RowKit
set_option linter.unusedVariables false
set_option linter.unusedSimpArgs false

set_option maxHeartbeats 2000000 in
theorem round_any (s : List UInt8) (b : Bool) (w : World) (hs : s.length ≤ 10000000000) :
    Calls Tryd.prog 74 #[.string (str s), .bool b] w fun e w' => e = .returned (.string (str (brk b s))) ∧ w' = w := by
  have c1 := run_cat (P := Tryd.prog) [40] s (by simp; omega)
  have c2 := run_cat (P := Tryd.prog) ([40] ++ s) [41] (by simp; omega)
  cases b with
  | true =>
    have HB : Hid (brk true s = [40] ++ s ++ [41]) := by simp [Hid, brk]
    go_enter Tryd.func74, Tryd.ntmps74
    go_wp2_with fail
    go_ret
    exact ⟨by rw [HB.out]; rfl, rfl⟩
  | false =>
    have HB : Hid (brk false s = s) := rfl
    go_enter Tryd.func74, Tryd.ntmps74
    go_wp2_with fail
    go_ret
    exact ⟨by rw [HB.out]; rfl, rfl⟩
theorem k_eq4 (x : UInt8) : ((x.toNat : Int) == 4) = (x == 4) := by
  rw [Bool.eq_iff_iff, beq_iff_eq, beq_iff_eq, ← UInt8.toNat_inj]
  show (x.toNat : Int) = 4 ↔ x.toNat = 4
  omega
theorem k_eq5 (x : UInt8) : ((x.toNat : Int) == 5) = (x == 5) := by
  rw [Bool.eq_iff_iff, beq_iff_eq, beq_iff_eq, ← UInt8.toNat_inj]
  show (x.toNat : Int) = 5 ↔ x.toNat = 5
  omega
/-- what the document answers at a node -/
def OfOk (h : RH) (ks : List Re) : Prop :=
  ∀ (ok : Nat → Prop) (A : Option Addr) (c : Nat) (w : World), ks.length ≤ c → InRow RE ok w ks A 0 → 1 + T.sizes ks ≤ 1000000 →
    Calls Tryd.prog 42 #[reV h A ks.length c] w fun e w' => e = .returned (.string (str (showT (.mk h ks)))) ∧ Below w.heap.size w w'
def OfT : Re → Prop | .mk h ks => OfOk h ks

set_option maxRecDepth 100000 in
set_option maxHeartbeats 4000000 in
theorem of_1 {h : RH} (e : h.k = 1) : OfOk h [] := by
  intro ok A c w hc hr hm
  have HS := Lib.hid (show_1 (ks := []) e)
  have hkn : (h.k.toNat : Int) = 1 := by rw [e]; rfl
  go_enter Tryd.func42, Tryd.ntmps42
  go_wp2_with fail
  go_ret
  exact ⟨by rw [HS.out]; rfl, below_new (Below.refl _ _) _⟩
set_option maxRecDepth 100000 in
set_option maxHeartbeats 4000000 in
theorem of_2 {h : RH} (e : h.k = 2) : OfOk h [] := by
  intro ok A c w hc hr hm
  have HS := Lib.hid (show_2 (ks := []) e)
  have hkn : (h.k.toNat : Int) = 2 := by rw [e]; rfl
  go_enter Tryd.func42, Tryd.ntmps42
  go_wp2_with fail
  go_ret
  exact ⟨by rw [HS.out]; rfl, below_new (Below.refl _ _) _⟩
set_option maxRecDepth 100000 in
set_option maxHeartbeats 4000000 in
theorem of_3 {h : RH} (e : h.k = 3) : OfOk h [] := by
  intro ok A c w hc hr hm
  have HS := Lib.hid (show_3 (ks := []) e)
  have hkn : (h.k.toNat : Int) = 3 := by rw [e]; rfl
  have HX := Lib.hid (fun X => refText_any h.s X)
  generalize textS h.s = tx at *
  go_enter Tryd.func42, Tryd.ntmps42
  go_wp2_with fail
  refine (HX.out _).mono ?_
  rintro e w1 ⟨rfl, hb⟩
  have hb2 := below_from (below_new (Below.refl _ _) _) hb
  go_wp2_with fail
  go_ret
  exact ⟨by rw [HS.out]; rfl, hb2⟩
end Go.Proofs.YthagcmpehpgmpaaDoor
