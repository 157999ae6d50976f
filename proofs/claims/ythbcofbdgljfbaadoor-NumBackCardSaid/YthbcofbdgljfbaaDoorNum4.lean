/- Bytes' digits. -/
import Derived.Test.YthbcofbdgljfbaaDoorBytes
import Derived.Laws.BitsLemmas
namespace Go.Proofs.YthbcofbdgljfbaaDoor
open Go.RowKit
set_option linter.unusedVariables false
set_option linter.unusedSimpArgs false

/-- a hexadecimal digit's sign -/
def hexd (n : Nat) : UInt8 := if n < 10 then UInt8.ofNat (48 + n) else UInt8.ofNat (87 + n)
abbrev digitsText : ByteArray := ⟨#[48, 49, 50, 51, 52, 53, 54, 55, 56, 57, 97, 98, 99, 100, 101, 102]⟩
theorem hexd_at : ∀ (n : Nat) (h : n < digitsText.size), digitsText[n] = hexd n := by
  intro n h
  have h' : n < 16 := h
  have : ∀ m : Fin 16, digitsText[m.val]'(m.isLt) = hexd m.val := by decide
  exact this ⟨n, h'⟩

theorem digit_any (z : Int) (w : World) (h0 : 0 ≤ z) (hz : z < 256) :
    Calls Tryd.prog 17 #[.int .u8 z] w fun e w' => e = .returned (.int .u8 (hexd (z.toNat % 16)).toNat) ∧ w' = w := by
  obtain ⟨n, rfl⟩ := Int.eq_ofNat_of_zero_le h0
  have hn : n < 256 := by omega
  have ha : Go.bits .and .u8 (n : Int) 15 = ((n % 16 : Nat) : Int) := by rw [u8_and15 _ (by omega) (by omega)]; rfl
  rw [Int.toNat_natCast]
  clear h0 hz
  have h1 : n % 16 < 16 := Nat.mod_lt _ (by decide)
  have he := Lib.hid (hexd_at (n % 16) h1)
  generalize n % 16 = m at *
  go_enter Tryd.func17, Tryd.ntmps17
  go_wp2_with fail
  go_ret
  exact ⟨by rw [← he.out]; rfl, rfl⟩

/-- the digits of bytes -/
def hexOf (l : List UInt8) : List UInt8 := l.flatMap fun b => [hexd (b.toNat / 16), hexd (b.toNat % 16)]
theorem hexOf_length (l : List UInt8) : (hexOf l).length = 2 * l.length := by
  induction l with
  | nil => rfl
  | cons b r ih => simp only [hexOf, List.flatMap_cons, List.length_append, List.length_cons, List.length_nil] at ih ⊢; omega
theorem hexOf_snoc (l : List UInt8) (b : UInt8) : hexOf (l ++ [b]) = hexOf l ++ [hexd (b.toNat / 16), hexd (b.toNat % 16)] := by simp [hexOf]
theorem take_snoc_ {α : Type} {l : List α} {k : Nat} {x : α} (h : l[k]? = some x) : l.take (k + 1) = l.take k ++ [x] := by
  rw [List.take_add_one, h]; rfl
theorem hex_cells {w : World} {x y : Value} (t : TypeId) : Src (w.alloc (.cells #[x, y] t)) (some ⟨w.heap.size, 0, none⟩) 2 1 [x, y] :=
  ⟨rfl, fun j u hu => ⟨_, rfl, by
    rw [show (⟨w.heap.size, 0, none⟩ : Addr).add j = ⟨w.heap.size, j, none⟩ by unfold Addr.add; split <;> simp_all]
    match j, hu with
    | 0, hu => simp at hu; subst hu; rw [cell_of_row _ _ _ _ _ _ (heap_alloc_new w _)]; rfl
    | 1, hu => simp at hu; subst hu; rw [cell_of_row _ _ _ _ _ _ (heap_alloc_new w _)]; rfl⟩⟩
theorem Tryd.info_u8 : (Tryd.prog.info? 5).map (fun i => (i.zero, i.size, i.bytes)) = some (some (.int .u8 0), 1, 1) := by kernel_rfl

set_option maxHeartbeats 1000000 in
theorem Hex_any (l : List UInt8) (A : Option Addr) (c : Nat) (w : World) (hr : Row1 encB w A l) (hm : l.length ≤ 1000000000) :
    Calls Tryd.prog 11 #[.slice A l.length c] w fun e w' => e = .returned (.string (str (hexOf l))) ∧ Below w.heap.size w w' := by
  obtain ⟨i0, hi, hz0, hz1, hz2⟩ := info_parts Tryd.info_u8
  have hz2' : i0.bytes * (2 * l.length) ≤ 281474976710656 := by rw [hz2]; omega
  have hmx : 2 * l.length ≤ maxLen := by unfold maxLen; omega
  go_enter Tryd.func11, Tryd.ntmps11
  go_wp2_with (at_make; refine wpList_make_own _ rfl _ _ 43 rfl w.heap.size 5 i0 (.int .u8 0) 1 Tryd.underlying43 hi hz0 hz1 _ _ _ (2 * l.length) rfl rfl (by omega) hz2' hmx (Nat.le_refl _) ?_; intro w1 hown hg)
  have hb0 : Below w.heap.size w w1 := (Below.refl _ _).grown hg (Nat.le_refl _) (by simp)
  clear hg hz2' hmx
  go_loopw [3, 12] (fun o i wr => ∃ k : Nat, k ≤ l.length ∧ i = .int .i64 k ∧ wr.ownsRow w.heap.size 5 1 o (2 * k) ((hexOf (l.take k)).map encB) ∧ Below w.heap.size w wr) (fun _ i _ => l.length - (intOf i).toNat)
  case atStart => exact ⟨0, Nat.zero_le _, rfl, hown, hb0⟩
  case round =>
    obtain ⟨k, hk, rfl, ho, hb⟩ := hrel
    obtain ⟨A2, c2, rfl, _, _⟩ := own_slice ho
    by_cases hlt : k < l.length
    · obtain ⟨ad, b, hA, hx, hc⟩ := (hr.below hb).at_ hlt
      subst hA
      have HX := Lib.hid hx
      clear hx hr hb0 hown
      have h16 := b.toNat_lt
      have HS := Lib.hid (hexOf_snoc (l.take k) b)
      have HT := Lib.hid (take_snoc_ HX.out)
      have e1 : (((b.toNat : Int) / 16).toNat % 16) = b.toNat / 16 := by omega
      have e2 : (((b.toNat : Int)).toNat % 16) = b.toNat % 16 := by omega
      replace e1 := Lib.hid e1
      replace e2 := Lib.hid e2
      go_wp2_with fail
      refine (digit_any _ _ (by omega) (by omega)).mono ?_
      rintro e w2 ⟨rfl, rfl⟩
      go_wp2_with fail
      refine (digit_any _ _ (by omega) (by omega)).mono ?_
      rintro e w2 ⟨rfl, rfl⟩
      rw [e1.out, e2.out]
      go_wp2_with (at_builtin; refine wpList_app _ rfl (.tmp 16) (.tmp 22) 43 rfl w.heap.size 5 (.int .u8 0) 1 1 Tryd.underlying43 Tryd.info_u8 rfl (by decide) (.slice A2 (2 * k) c2) (2 * k) _ rfl (ho.alloc _) (some ⟨_, 0, none⟩) 2 2 _ rfl (hex_cells _) ?h1 ?h2 ?h3 ?h4 ?_)
      case h1 => intro u hu; simp at hu; rcases hu with rfl | rfl <;> rfl
      case h2 => unfold maxLen; omega
      case h3 => omega
      case h4 => have := hb.size; simp; omega
      intro v3 w3 ho3 hg3 _
      have hb3 : Below w.heap.size w w3 := (below_new hb _).grown hg3 (by have := hb.size; simp; omega) (fun j hj => own_base ho j hj)
      clear hg3 ho hb
      go_wp2_with fail
      go_roundw
      case rel => exact ⟨k + 1, by omega, by go_num, by rw [HT.out, HS.out, show 2 * (k + 1) = 2 * k + 2 by omega]; simpa using ho3, hb3⟩
      case measure => simp [intOf]; omega
    · have hkk : k = l.length := by omega
      subst hkk
      clear hlt hk
      rw [List.take_length] at ho
      obtain ⟨A3, c3, he, _, hs3⟩ := own_slice ho
      have hcv := conv_bytes (P := Tryd.prog) (w := wr) (dst := 9) Tryd.underlying43 Tryd.underlying5 Tryd.underlying9 (2 * l.length) c3 (hexOf_length l) hs3.row1
      rw [← he] at hcv
      go_wp2_with fail
      go_ret
      exact ⟨rfl, hb⟩
end Go.Proofs.YthbcofbdgljfbaaDoor
