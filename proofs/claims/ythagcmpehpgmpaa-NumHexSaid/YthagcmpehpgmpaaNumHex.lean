/- The digits of any bytes, and the bytes of any digits, or the error, are the document's: there and back (up to 200 bytes). For every input. -/
import Derived.Test.YthagcmpehpgmpaaNum7
import Derived.Test.YthagcmpehpgmpaaNumA
import Derived.Test.YthagcmpehpgmpaaClose
namespace Go.Proofs.Ythagcmpehpgmpaa
open Go.RowKit
set_option linter.unusedVariables false
set_option linter.unusedSimpArgs false

set_option maxHeartbeats 4000000 in
theorem hexLaw_any (l : List UInt8) (A : Option Addr) (c : Nat) (s : ByteArray) (w : World) (hr : Row1 encB w A l) (hm : l.length ≤ 9223372036854775807) (hs : s.size ≤ 9223372036854775807) :
    Calls Try.prog 4 #[.slice A l.length c, .string s] w fun e w' => e = .returned (.bool true) ∧ Below w.heap.size w w' := by
  by_cases h1 : 200 < s.size
  · go_enter Try.func4, Try.ntmps4
    go_wp2_with fail
    refine (awake1_any _).mono ?_
    rintro e w1 ⟨rfl, hb⟩
    go_wp2_with fail
    go_ret
    exact ⟨rfl, hb⟩
  have k1 : decide ((200 : Int) < s.size) = false := decide_eq_false (by omega)
  by_cases h2 : 200 < l.length
  · have k2 : decide ((200 : Int) < l.length) = true := decide_eq_true (by omega)
    go_enter Try.func4, Try.ntmps4
    go_wp2_with fail
    refine (awake1_any _).mono ?_
    rintro e w1 ⟨rfl, hb⟩
    go_wp2_with fail
    go_ret
    exact ⟨rfl, hb⟩
  have k2 : decide ((200 : Int) < l.length) = false := decide_eq_false (by omega)
  have e1 : (str (hexOf l)).data.toList = hexOf l := rfl
  have e2 : (str (hexOf l)).size ≤ 1000000000 := by rw [str_size, hexOf_length]; omega
  have hbk := Lib.hid (unhex_hexOf l)
  generalize hx : str (hexOf l) = hex at *
  have HX := Lib.hid hx
  clear hx
  have HX2 : Hid (unhex hex.data.toList = some l) := by rw [e1]; exact hbk.out
  clear e1 hbk
  go_enter Try.func4, Try.ntmps4
  go_wp2_with fail
  refine (ReadHex_any s _ (by omega)).mono ?_
  intro e w1 hp1
  have hl2 : l.length ≤ 1000000000 := by omega
  rcases hu : unhex s.data.toList with _ | lb
  · rw [hu] at hp1
    obtain ⟨rfl, hb1⟩ := hp1
    have HU := Lib.hid hu
    clear hu
    go_wp2_with fail
    refine (refReadHex_any s _ (by omega)).mono ?_
    intro e w2 hp2
    rw [HU.out] at hp2
    obtain ⟨⟨A2, c2, rfl⟩, hb2'⟩ := hp2
    have hb2 := below_from hb1 hb2'
    clear hb1 hb2'
    go_wp2_with fail
    refine (Hex_any l A c _ (hr.below hb2) hl2).mono ?_
    rintro e w3 ⟨rfl, hb3'⟩
    rw [HX.out]
    have hb3 := below_from hb2 hb3'
    go_wp2_with fail
    refine (ReadHex_any hex _ e2).mono ?_
    intro e w4 hp4
    rw [HX2.out] at hp4
    obtain ⟨⟨A4, c4, rfl, hr4⟩, hb4'⟩ := hp4
    have hb4 := below_from hb3 hb4'
    go_wp2_with fail
    refine (Hex_any l A c _ (hr.below hb4) hl2).mono ?_
    rintro e w5 ⟨rfl, hb5'⟩
    rw [HX.out]
    have hb5 := below_from hb4 hb5'
    go_wp2_with fail
    refine (refHex_any l A c _ (hr.below hb5) hl2).mono ?_
    rintro e w6 ⟨rfl, hb6'⟩
    rw [HX.out]
    have hb6 := below_from hb5 hb6'
    have hw26 : Below w2.heap.size w2 w6 := below_from (below_from (below_from hb3' hb4') hb5') hb6'
    have hr6 := hr.below hb6
    have hr46 := hr4.below (below_from hb5' hb6')
    clear hb3' hb4' hb5' hb6' hb2 hb3 hb4 hb5 hr hr4
    have cv3 := conv_bytes (P := Try.prog) (w := w6) (dst := 9) (A := A4) Try.underlying27 Try.underlying5 Try.underlying9 l.length c4 rfl hr46
    have cv4 := conv_bytes (P := Try.prog) (w := w6) (dst := 9) (A := A) Try.underlying27 Try.underlying5 Try.underlying9 l.length c rfl hr6
    have cv1 := conv_bytes (P := Try.prog) (w := w6) (dst := 9) (A := none) Try.underlying27 Try.underlying5 Try.underlying9 0 0 (l := []) rfl (fun k x h => by simp at h)
    have cv2 := conv_bytes (P := Try.prog) (w := w6) (dst := 9) (A := A2) Try.underlying27 Try.underlying5 Try.underlying9 0 c2 (l := []) rfl (fun k x h => by simp at h)
    clear hr6 hr46
    go_wp2_with fail
    refine (awake1_any _).mono ?_
    rintro e w7 ⟨rfl, hb7⟩
    have hb8 := below_from hb6 hb7
    clear hb6 hb7 hw26
    go_wp2_with fail
    go_ret
    exact ⟨rfl, hb8⟩
  · rw [hu] at hp1
    obtain ⟨⟨A1, c1, rfl, hr1⟩, hb1⟩ := hp1
    have HU := Lib.hid hu
    clear hu
    go_wp2_with fail
    refine (refReadHex_any s _ (by omega)).mono ?_
    intro e w2 hp2
    rw [HU.out] at hp2
    obtain ⟨⟨A2, c2, rfl, hr2⟩, hb2'⟩ := hp2
    have hr1' := hr1.below hb2'
    have hb2 := below_from hb1 hb2'
    clear hb1 hb2' hr1
    go_wp2_with fail
    refine (Hex_any l A c _ (hr.below hb2) hl2).mono ?_
    rintro e w3 ⟨rfl, hb3'⟩
    rw [HX.out]
    have hb3 := below_from hb2 hb3'
    go_wp2_with fail
    refine (ReadHex_any hex _ e2).mono ?_
    intro e w4 hp4
    rw [HX2.out] at hp4
    obtain ⟨⟨A4, c4, rfl, hr4⟩, hb4'⟩ := hp4
    have hb4 := below_from hb3 hb4'
    go_wp2_with fail
    refine (Hex_any l A c _ (hr.below hb4) hl2).mono ?_
    rintro e w5 ⟨rfl, hb5'⟩
    rw [HX.out]
    have hb5 := below_from hb4 hb5'
    go_wp2_with fail
    refine (refHex_any l A c _ (hr.below hb5) hl2).mono ?_
    rintro e w6 ⟨rfl, hb6'⟩
    rw [HX.out]
    have hb6 := below_from hb5 hb6'
    have hw26 : Below w2.heap.size w2 w6 := below_from (below_from (below_from hb3' hb4') hb5') hb6'
    have hr6 := hr.below hb6
    have hr46 := hr4.below (below_from hb5' hb6')
    clear hb3' hb4' hb5' hb6' hb2 hb3 hb4 hb5 hr hr4
    have cv3 := conv_bytes (P := Try.prog) (w := w6) (dst := 9) (A := A4) Try.underlying27 Try.underlying5 Try.underlying9 l.length c4 rfl hr46
    have cv4 := conv_bytes (P := Try.prog) (w := w6) (dst := 9) (A := A) Try.underlying27 Try.underlying5 Try.underlying9 l.length c rfl hr6
    have cv1 := conv_bytes (P := Try.prog) (w := w6) (dst := 9) (A := A1) Try.underlying27 Try.underlying5 Try.underlying9 lb.length c1 rfl (hr1'.below hw26)
    have cv2 := conv_bytes (P := Try.prog) (w := w6) (dst := 9) (A := A2) Try.underlying27 Try.underlying5 Try.underlying9 lb.length c2 rfl (hr2.below hw26)
    clear hr1' hr2
    clear hr6 hr46
    go_wp2_with fail
    refine (awake1_any _).mono ?_
    rintro e w7 ⟨rfl, hb7⟩
    have hb8 := below_from hb6 hb7
    clear hb6 hb7 hw26
    go_wp2_with fail
    go_ret
    exact ⟨rfl, hb8⟩
namespace lawHex
open Go.ChangeShapes Go.WideShapes Go.ChangeAt
open Go.ChangeMaps (open_string)
theorem cells_u8 : Try.prog.cellsOf 5 = 1 := by kernel_rfl
set_option maxRecDepth 100000 in
theorem lifted (os : Os) (started : os.Started) (H : Type) (enc : TypeId × Value → H) :
    ReturnsInHanded {} Try.checked os 4 .any (Rows.numHexSpec.pre6 enc Try.prog Try.f4 Rows.numHexRow.domain false) (Rows.numHexSpec.post enc Try.prog Try.f4 false true false false) := by
  refine returnsInHanded_of_change (C := Try.checked) Try.own started (by kernel_rfl) Try.func4
    (ChangeSpec.witness6 (enc := enc) (C := Try.checked) false ⟨#[], #[.slice none 0 0, .string ByteArray.empty], []⟩ 8 (by kernel_rfl) (by kernel_rfl) (by kernel_rfl) (by kernel_rfl)) ?_
  intro W base args ds gs before hval0 hW hcnd _
  have hval : ∀ (j : Nat) t v, Try.f4.params[j]? = some t → args[j]? = some v → Value.okWide Try.prog W .any base t v := hval0
  have hW' := hW
  obtain ⟨p, q, hA0, hV, rfl, hfz, hnd⟩ := hW
  have hA : DataW.TrodAll enc Try.prog W 0 (fun _ => true) true Try.f4.params.toList args.toList ds p := hA0
  rw [Try.params4] at hA hval
  obtain ⟨v0, vs0, d0, ds0, p0, q0, hargs, rfl, rfl, h0, r0⟩ := trodAll_cons hA
  obtain ⟨v1, vs1, d1, ds1, p1, q1, rfl, rfl, rfl, h1, r1⟩ := trodAll_cons r0
  obtain ⟨rfl, rfl, rfl⟩ := trodAll_nil r1
  obtain rfl : args = #[v0, v1] := by cases args; simp_all
  obtain ⟨rfl, rfl⟩ := trodVars_none hV
  obtain ⟨l, A0, c0, rfl, hc0, hm0, hr0⟩ := open_bytes Try.underlying27 Try.underlying5 cells_u8 (hval 0 27 v0 rfl rfl) h0
  obtain ⟨s, rfl, rfl, rfl, hs1⟩ := open_string Try.underlying9 (hval 1 9 v1 rfl rfl) h1
  refine (hexLaw_any l A0 c0 s W hr0 (by unfold maxLen at hm0; omega) (by unfold maxLen at hs1; omega)).mono fun e W' ⟨he, hb⟩ => ?_
  subst he
  exact ⟨_, rfl, post_true Try.laidOut (by rw [Try.params4]; intro t ht; simp at ht; rcases ht with rfl | rfl <;> exact ⟨by kernel_rfl, of_decide_eq_true (by kernel_rfl)⟩) hW' rfl rfl rfl Try.underlying4 hb⟩
theorem proved : Rows.NumHexSaid :=
  OpenClaim.holds_of_wide 4 Try.f4 rfl rfl rfl rfl rfl rfl rfl ⟨rfl, rfl, rfl, rfl, rfl⟩ rfl rfl rfl rfl rfl (by kernel_rfl) Try.func4 (by kernel_rfl)
    (of_decide_eq_true (by kernel_rfl)) (by unfold Func.isWrapper; first | (rw [if_pos (by decide +kernel)]; kernel_rfl) | (rw [if_neg (by decide +kernel)]; exact ⟨rfl, rfl⟩))
    (fun os started H enc _ => lifted os started H enc)
end lawHex
end Go.Proofs.Ythagcmpehpgmpaa
