/- A set's text: the document's. -/
import Derived.Test.YteoghoaggpbkpaaDoorText2
namespace Go.Proofs.YteoghoaggpbkpaaDoor
open Go.RowKit
set_option linter.unusedVariables false
set_option linter.unusedSimpArgs false

theorem str_cat (x y : List UInt8) : str x ++ str y = str (x ++ y) := by
  rw [ByteArray.mk_append_mk]
theorem refSignC (n : Int) (b : UInt8) (hn : n = (b.toNat : Int)) (w : World) :
    Calls Tryd.prog 48 #[.int .u8 n] w fun e w' => e = .returned (.string (str (signB b))) ∧ Below w.heap.size w w' := by
  subst hn
  exact refSign_any b w

set_option maxRecDepth 100000 in
set_option maxHeartbeats 16000000 in
theorem refText_any (s : S4) (w : World) :
    Calls Tryd.prog 32 #[setV s] w fun e w' => e = .returned (.string (str (textS s))) ∧ Below w.heap.size w w' := by
  have hle : (bytesOf s).length ≤ 256 := bytesTo_length s 256
  go_enter Tryd.func32, Tryd.ntmps32
  go_wp2_with fail
  refine (refBytes_any s _).mono ?_
  rintro e w1 ⟨A, c, rfl, hc, hr, hb1⟩
  have hb2 : Below w.heap.size w w1 := below_from (below_new (Below.refl _ _) _) hb1
  have E1 : w1.heap[w.heap.size]? = some (.cells (setA s) 27 (0, 0)) := (hb1.block _ (by simp)).trans (new_at1 (w := w) _)
  have HE1 := Lib.hid E1
  have HB2 := Lib.hid hb2
  clear hb1 hb2 E1
  by_cases hlen : (bytesOf s).length = 256
  · have HTx := Lib.hid (textS_all s hlen)
    have g : (((bytesOf s).length : Int) == 256) = true := by simp; omega
    clear hlen
    go_wp2_with fail
    go_ret
    exact ⟨by rw [HTx.out]; rfl, HB2.out⟩
  have g0 : (((bytesOf s).length : Int) == 256) = false := by simp; omega
  by_cases h1 : (bytesOf s).length = 1
  · obtain ⟨x, hx⟩ := List.length_eq_one_iff.1 h1
    have HTx := Lib.hid (textS_one s hx)
    obtain ⟨ad, hA, hcell⟩ := hr 0 x (by rw [hx]; rfl)
    subst hA
    have g : (((bytesOf s).length : Int) == 1) = true := by simp; omega
    have hcell0 : w1.cell? ad = some (encB x) := hcell
    have gg : (0 : Int) < ((bytesOf s).length : Int) := by omega
    clear hx h1 hlen
    go_wp2_with fail
    refine (refSign_any x _).mono ?_
    rintro e w3 ⟨rfl, hb4⟩
    have hb5 := below_from HB2.out hb4
    clear hb4
    go_wp2_with fail
    go_ret
    exact ⟨by rw [HTx.out]; rfl, hb5⟩
  have HTx := Lib.hid (textS_many s hlen h1)
  have g : (((bytesOf s).length : Int) == 1) = false := by simp; omega
  have HTL := Lib.hid (txt_length s 0)
  clear h1 hlen hr hc
  go_wp2_with fail
  go_loopw [4, 5] (fun o i wr => ∃ (b : Nat) (acc : List UInt8), b ≤ 256 ∧ i = .int .i64 (b : Nat) ∧ o = .string (str acc) ∧ Hid (acc ++ txt s b = 91 :: txt s 0) ∧ Hid (acc.length ≤ 7 * b + 1) ∧ Hid (wr.heap[w.heap.size]? = some (.cells (setA s) 27 (0, 0))) ∧ Hid (Below w.heap.size w wr)) (fun _ i _ => 256 - (intOf i).toNat)
  case atStart => exact ⟨0, [91], Nat.zero_le _, rfl, rfl, rfl, Nat.le_refl _, HE1, HB2⟩
  case round =>
    clear HE1 HB2
    obtain ⟨b, acc, hb0, rfl, rfl, HE, HL, HE1, HBW⟩ := hrel
    by_cases hlt : b < 256
    · obtain ⟨⟨x0, x1, x2, x3⟩, f0, f1, f2, f3⟩ := cells4_of HE1.out
      clear f0 f1 f2 f3
      have gl : decide ((b : Int) < 256) = true := by simp; omega
      go_wp2_with fail
      refine (refHas_any s (b : Int) wr (by omega) (by omega)).mono ?_
      rintro e w2 ⟨rfl, hba⟩
      have HE2 := Lib.hid ((hba.block _ (lt_of_block HE1.out)).trans HE1.out)
      have HBW2 := Lib.hid (below_from HBW.out hba)
      simp only [Int.toNat_natCast]
      clear hba x0 x1 x2 x3 HE1 HBW
      cases hh : s.has b with
      | false =>
        have HS : Hid (acc ++ txt s (b + 1) = 91 :: txt s 0) := by unfold Hid; rw [← txt_skip s hlt hh]; exact HE.out
        clear hh
        go_wp2_with fail
        go_roundw
        case rel => exact ⟨b + 1, acc, by omega, by go_num, rfl, HS, by have := HL.out; unfold Hid; omega, HE2, HBW2⟩
        case measure => simp [intOf]; omega
      | true =>
        have HH := Lib.hid hh
        clear hh
        go_wp2_with fail
        obtain ⟨wo, rfl⟩ : ∃ wo : World, wo = w2 := ⟨_, rfl⟩
        go_loopw [6] (fun kx wi => ∃ (t : Nat), b ≤ t ∧ t < 256 ∧ kx = .int .i64 (t : Nat) ∧ Hid (runEnd s t = runEnd s b) ∧ Hid (wi.heap[w.heap.size]? = some (.cells (setA s) 27 (0, 0))) ∧ Hid (Below w.heap.size w wi)) (fun kx _ => 256 - (intOf kx).toNat)
        case atStart => exact ⟨b, Nat.le_refl _, hlt, rfl, rfl, HE2, HBW2⟩
        case round =>
          clear HE2 HBW2
          obtain ⟨t, ht1, ht2, rfl, HRE, HE1, HBW⟩ := hrel
          obtain ⟨⟨x0, x1, x2, x3⟩, f0, f1, f2, f3⟩ := cells4_of HE1.out
          clear f0 f1 f2 f3
          by_cases h255 : t < 255
          · have gd : decide ((t : Int) < 255) = true := by simp; omega
            go_wp2_with fail
            refine (refHas_any s ((t : Int) + 1) wr (by omega) (by omega)).mono ?_
            rintro e w2 ⟨rfl, hba⟩
            have HE2 := Lib.hid ((hba.block _ (lt_of_block HE1.out)).trans HE1.out)
            have HBW2 := Lib.hid (below_from HBW.out hba)
            have et : ((t : Int) + 1).toNat = t + 1 := by omega
            rw [et]
            clear hba x0 x1 x2 x3 HE1 HBW et
            cases hh : s.has (t + 1) with
            | true =>
              have HRE2 : Hid (runEnd s (t + 1) = runEnd s b) := by rw [← HRE.out]; exact (runEnd_step s h255 hh).symm
              clear hh
              go_wp2_with fail
              go_roundw
              case rel => exact ⟨t + 1, by omega, by omega, by go_num, HRE2, HE2, HBW2⟩
              case measure => simp [intOf]; omega
            | false =>
              have he : runEnd s b = t := by rw [← HRE.out]; exact runEnd_stop s hh
              clear hh
              have HST := Lib.hid (step_text s hlt HH.out he HE.out)
              have hla : acc.length ≤ 2000 := by have := HL.out; omega
              have hsg := signB_length (UInt8.ofNat b)
              have hst := signB_length (UInt8.ofNat t)
              have hc8 : (b : Int) = ((UInt8.ofNat b).toNat : Int) := by simp; omega
              have ht8 : (t : Int) = ((UInt8.ofNat t).toNat : Int) := by simp; omega
              have HC8 := Lib.hid hc8
              have HT8 := Lib.hid ht8
              clear hc8 ht8 he
              have w8b : IntKind.u8.wrap (b : Int) = (b : Int) := by simp [IntKind.wrap, IntKind.bits, IntKind.signed]; omega
              have w8t : IntKind.u8.wrap (t : Int) = (t : Int) := by simp [IntKind.wrap, IntKind.bits, IntKind.signed]; omega
              obtain ⟨j, hj, hj2⟩ : ∃ j, j = t - b ∧ (j = 0 ∨ j = 1 ∨ 1 < j) := ⟨_, rfl, by omega⟩
              have hcat1 := run_cat (P := Tryd.prog) acc (signB (UInt8.ofNat b)) (by omega)
              rcases hj2 with hj0 | hj1 | hj2
              · have ht : t = b := by omega
                have HRT : Hid (runText b t = signB (UInt8.ofNat b)) := by unfold Hid runText; simp [ht]
                have ge1 : decide ((t : Int) > (b : Int) + 1) = false := by simp; omega
                have ge2 : decide ((t : Int) > (b : Int)) = false := by simp; omega
                have ge3 : decide (b < t) = false := by simp; omega
                have HTT := Lib.hid ht
                clear ht hj hj0
                go_wp2_with fail
                refine (refSignC (b : Int) (UInt8.ofNat b) HC8.out _).mono ?_
                rintro e wa ⟨rfl, hba⟩
                have HEa := Lib.hid ((hba.block _ (lt_of_block HE2.out)).trans HE2.out)
                have HBWa := Lib.hid (below_from HBW2.out hba)
                clear hba
                go_wp2_with fail
                go_roundw
                case rel => exact ⟨t + 1, acc ++ runText b t, by omega, by go_num, by rw [HRT.out], HST, by have := HRT.out; unfold Hid; rw [this, List.length_append]; have := HL.out; have := HTT.out; omega, HEa, HBWa⟩
                case measure => simp [intOf]; omega
              · have ht : t = b + 1 := by omega
                have HRT : Hid (runText b t = signB (UInt8.ofNat b) ++ signB (UInt8.ofNat t)) := by unfold Hid runText; simp [ht]
                have ge1 : decide ((t : Int) > (b : Int) + 1) = false := by simp; omega
                have ge2 : decide ((t : Int) > (b : Int)) = true := by simp; omega
                have ge3 : decide (b < t) = true := by simp; omega
                have HTT := Lib.hid ht
                have hcat2 := run_cat (P := Tryd.prog) (acc ++ signB (UInt8.ofNat b)) (signB (UInt8.ofNat t)) (by rw [List.length_append]; omega)
                clear ht hj hj1
                go_wp2_with fail
                refine (refSignC (b : Int) (UInt8.ofNat b) HC8.out _).mono ?_
                rintro e wa ⟨rfl, hba⟩
                have HEa := Lib.hid ((hba.block _ (lt_of_block HE2.out)).trans HE2.out)
                have HBWa := Lib.hid (below_from HBW2.out hba)
                clear hba
                go_wp2_with fail
                refine (refSignC (t : Int) (UInt8.ofNat t) HT8.out _).mono ?_
                rintro e wb ⟨rfl, hba⟩
                have HEb := Lib.hid ((hba.block _ (lt_of_block HEa.out)).trans HEa.out)
                have HBWb := Lib.hid (below_from HBWa.out hba)
                clear hba
                go_wp2_with fail
                go_roundw
                case rel => exact ⟨t + 1, acc ++ runText b t, by omega, by go_num, by rw [HRT.out, ← List.append_assoc], HST, by have := HRT.out; unfold Hid; rw [this, List.length_append, List.length_append]; have := HL.out; have := HTT.out; omega, HEb, HBWb⟩
                case measure => simp [intOf]; omega
              · have ht : b + 1 < t := by omega
                have HRT : Hid (runText b t = signB (UInt8.ofNat b) ++ [45] ++ signB (UInt8.ofNat t)) := by unfold Hid runText; rw [if_pos (by omega), if_pos (by omega)]
                have ge1 : decide ((t : Int) > (b : Int) + 1) = true := by simp; omega
                have ge2 : decide ((t : Int) > (b : Int)) = true := by simp; omega
                have ge3 : decide (b < t) = true := by simp; omega
                have hcat2 := run_cat (P := Tryd.prog) (acc ++ signB (UInt8.ofNat b)) [45] (by rw [List.length_append, List.length_singleton]; omega)
                have hcat3 := run_cat (P := Tryd.prog) (acc ++ signB (UInt8.ofNat b) ++ [45]) (signB (UInt8.ofNat t)) (by rw [List.length_append, List.length_append, List.length_singleton]; omega)
                clear hj
                go_wp2_with fail
                refine (refSignC (b : Int) (UInt8.ofNat b) HC8.out _).mono ?_
                rintro e wa ⟨rfl, hba⟩
                have HEa := Lib.hid ((hba.block _ (lt_of_block HE2.out)).trans HE2.out)
                have HBWa := Lib.hid (below_from HBW2.out hba)
                clear hba
                go_wp2_with fail
                refine (refSignC (t : Int) (UInt8.ofNat t) HT8.out _).mono ?_
                rintro e wb ⟨rfl, hba⟩
                have HEb := Lib.hid ((hba.block _ (lt_of_block HEa.out)).trans HEa.out)
                have HBWb := Lib.hid (below_from HBWa.out hba)
                clear hba
                go_wp2_with fail
                go_roundw
                case rel => exact ⟨t + 1, acc ++ runText b t, by omega, by go_num, by rw [HRT.out, str_cat, List.append_assoc, List.append_assoc], HST, by have := HRT.out; unfold Hid; rw [this, List.length_append, List.length_append, List.length_append, List.length_singleton]; have := HL.out; omega, HEb, HBWb⟩
                case measure => simp [intOf]; omega
          · have gd : decide ((t : Int) < 255) = false := by simp; omega
            have he : runEnd s b = t := by rw [← HRE.out]; exact runEnd_last s (by omega)
            have HE2 := HE1
            have HBW2 := HBW
            obtain ⟨w2, hw2⟩ : ∃ w2, w2 = wr := ⟨_, rfl⟩
            clear x0 x1 x2 x3 HE1 HBW
            subst hw2
            have HST := Lib.hid (step_text s hlt HH.out he HE.out)
            have hla : acc.length ≤ 2000 := by have := HL.out; omega
            have hsg := signB_length (UInt8.ofNat b)
            have hst := signB_length (UInt8.ofNat t)
            have hc8 : (b : Int) = ((UInt8.ofNat b).toNat : Int) := by simp; omega
            have ht8 : (t : Int) = ((UInt8.ofNat t).toNat : Int) := by simp; omega
            have HC8 := Lib.hid hc8
            have HT8 := Lib.hid ht8
            clear hc8 ht8 he
            have w8b : IntKind.u8.wrap (b : Int) = (b : Int) := by simp [IntKind.wrap, IntKind.bits, IntKind.signed]; omega
            have w8t : IntKind.u8.wrap (t : Int) = (t : Int) := by simp [IntKind.wrap, IntKind.bits, IntKind.signed]; omega
            obtain ⟨j, hj, hj2⟩ : ∃ j, j = t - b ∧ (j = 0 ∨ j = 1 ∨ 1 < j) := ⟨_, rfl, by omega⟩
            have hcat1 := run_cat (P := Tryd.prog) acc (signB (UInt8.ofNat b)) (by omega)
            rcases hj2 with hj0 | hj1 | hj2
            · have ht : t = b := by omega
              have HRT : Hid (runText b t = signB (UInt8.ofNat b)) := by unfold Hid runText; simp [ht]
              have ge1 : decide ((t : Int) > (b : Int) + 1) = false := by simp; omega
              have ge2 : decide ((t : Int) > (b : Int)) = false := by simp; omega
              have ge3 : decide (b < t) = false := by simp; omega
              have HTT := Lib.hid ht
              clear ht hj hj0
              go_wp2_with fail
              refine (refSignC (b : Int) (UInt8.ofNat b) HC8.out _).mono ?_
              rintro e wa ⟨rfl, hba⟩
              have HEa := Lib.hid ((hba.block _ (lt_of_block HE2.out)).trans HE2.out)
              have HBWa := Lib.hid (below_from HBW2.out hba)
              clear hba
              go_wp2_with fail
              go_roundw
              case rel => exact ⟨t + 1, acc ++ runText b t, by omega, by go_num, by rw [HRT.out], HST, by have := HRT.out; unfold Hid; rw [this, List.length_append]; have := HL.out; have := HTT.out; omega, HEa, HBWa⟩
              case measure => simp [intOf]; omega
            · have ht : t = b + 1 := by omega
              have HRT : Hid (runText b t = signB (UInt8.ofNat b) ++ signB (UInt8.ofNat t)) := by unfold Hid runText; simp [ht]
              have ge1 : decide ((t : Int) > (b : Int) + 1) = false := by simp; omega
              have ge2 : decide ((t : Int) > (b : Int)) = true := by simp; omega
              have ge3 : decide (b < t) = true := by simp; omega
              have HTT := Lib.hid ht
              have hcat2 := run_cat (P := Tryd.prog) (acc ++ signB (UInt8.ofNat b)) (signB (UInt8.ofNat t)) (by rw [List.length_append]; omega)
              clear ht hj hj1
              go_wp2_with fail
              refine (refSignC (b : Int) (UInt8.ofNat b) HC8.out _).mono ?_
              rintro e wa ⟨rfl, hba⟩
              have HEa := Lib.hid ((hba.block _ (lt_of_block HE2.out)).trans HE2.out)
              have HBWa := Lib.hid (below_from HBW2.out hba)
              clear hba
              go_wp2_with fail
              refine (refSignC (t : Int) (UInt8.ofNat t) HT8.out _).mono ?_
              rintro e wb ⟨rfl, hba⟩
              have HEb := Lib.hid ((hba.block _ (lt_of_block HEa.out)).trans HEa.out)
              have HBWb := Lib.hid (below_from HBWa.out hba)
              clear hba
              go_wp2_with fail
              go_roundw
              case rel => exact ⟨t + 1, acc ++ runText b t, by omega, by go_num, by rw [HRT.out, ← List.append_assoc], HST, by have := HRT.out; unfold Hid; rw [this, List.length_append, List.length_append]; have := HL.out; have := HTT.out; omega, HEb, HBWb⟩
              case measure => simp [intOf]; omega
            · have ht : b + 1 < t := by omega
              have HRT : Hid (runText b t = signB (UInt8.ofNat b) ++ [45] ++ signB (UInt8.ofNat t)) := by unfold Hid runText; rw [if_pos (by omega), if_pos (by omega)]
              have ge1 : decide ((t : Int) > (b : Int) + 1) = true := by simp; omega
              have ge2 : decide ((t : Int) > (b : Int)) = true := by simp; omega
              have ge3 : decide (b < t) = true := by simp; omega
              have hcat2 := run_cat (P := Tryd.prog) (acc ++ signB (UInt8.ofNat b)) [45] (by rw [List.length_append, List.length_singleton]; omega)
              have hcat3 := run_cat (P := Tryd.prog) (acc ++ signB (UInt8.ofNat b) ++ [45]) (signB (UInt8.ofNat t)) (by rw [List.length_append, List.length_append, List.length_singleton]; omega)
              clear hj
              go_wp2_with fail
              refine (refSignC (b : Int) (UInt8.ofNat b) HC8.out _).mono ?_
              rintro e wa ⟨rfl, hba⟩
              have HEa := Lib.hid ((hba.block _ (lt_of_block HE2.out)).trans HE2.out)
              have HBWa := Lib.hid (below_from HBW2.out hba)
              clear hba
              go_wp2_with fail
              refine (refSignC (t : Int) (UInt8.ofNat t) HT8.out _).mono ?_
              rintro e wb ⟨rfl, hba⟩
              have HEb := Lib.hid ((hba.block _ (lt_of_block HEa.out)).trans HEa.out)
              have HBWb := Lib.hid (below_from HBWa.out hba)
              clear hba
              go_wp2_with fail
              go_roundw
              case rel => exact ⟨t + 1, acc ++ runText b t, by omega, by go_num, by rw [HRT.out, str_cat, List.append_assoc, List.append_assoc], HST, by have := HRT.out; unfold Hid; rw [this, List.length_append, List.length_append, List.length_append, List.length_singleton]; have := HL.out; omega, HEb, HBWb⟩
              case measure => simp [intOf]; omega
    · have he : b = 256 := by omega
      subst he
      have HE2 : Hid (acc = 91 :: txt s 0) := by have h := HE.out; rw [txt_end s (by omega), List.append_nil] at h; exact h
      have gl : decide (((256 : Nat) : Int) < 256) = false := by simp
      have hcat := run_cat (P := Tryd.prog) acc [93] (by have := HL.out; simp; omega)
      go_wp2_with fail
      go_ret
      exact ⟨by rw [HTx.out, HE2.out]; rfl, HBW.out⟩
end Go.Proofs.YteoghoaggpbkpaaDoor
