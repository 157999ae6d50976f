/- A set's text. -/
import Derived.Test.YteoghoaggpbkpaaDoorText1
import Derived.Test.YteoghoaggpbkpaaDoorBuild
import Derived.Test.YteoghoaggpbkpaaDoorSign3
import Derived.Deep.RegionHeld3
import Derived.Deep.QuietTactic
import Derived.BigQuiet
import Derived.IntWalk
namespace Go.Proofs.YteoghoaggpbkpaaDoor
open Go.RowKit
set_option linter.unusedVariables false
set_option linter.unusedSimpArgs false

set_option maxHeartbeats 1000000 in
theorem setAll_any (w : World) :
    Calls Tryd.prog 69 #[] w fun e w' => e = .returned (setV S4.all) ∧ Below w.heap.size w w' := by
  go_enter Tryd.func69, Tryd.ntmps69
  go_wp2_with fail
  exact bodyPost_ret (v := setV S4.all) (by simp [results, Tryd.results69, go_sem, S4.all]) rfl ⟨rfl, (Below.refl _ _).alloc (Nat.le_refl _) _⟩
theorem writeByteC {T : TypeId} (hT : IsBld T) {b : Nat} {bs : List UInt8} (n : Int) (c : UInt8) (hn : n = (c.toNat : Int)) {w : World} (h : Bd T b bs w) (hlen : bs.length ≤ 100000000000) :
    Calls Tryd.prog 71 #[.pointer (some ⟨b, 0, none⟩), .int .u8 n] w fun e w' => e = .returned .nilIface ∧ Bd T b (bs ++ [c]) w' ∧ BdK b w w' := by
  subst hn
  exact writeByte_any hT c h hlen
theorem setSignC (n : Int) (b : UInt8) (hn : n = (b.toNat : Int)) (w : World) :
    Calls Tryd.prog 70 #[.int .u8 n] w fun e w' => e = .returned (.string (str (signB b))) ∧ Below w.heap.size w w' := by
  subst hn
  exact setSign_any b w
/-- the round's way, plain -/
theorem run_index (s : S4) {c t : Nat} (hct : c ≤ t) (ht : t < 256) (hh : s.has t = true) (hi : (bytesTo s t).length = (bytesTo s c).length + (t - c)) :
    (bytesTo s (t + 1)).length = (bytesTo s c).length + (t - c) + 1 := by
  rw [bytesTo_has s hh, List.length_append, List.length_singleton, hi]
theorem run_more (s : S4) {c t : Nat} (hct : c ≤ t) (ht : t < 256) (hh : s.has t = true) (hi : (bytesTo s t).length = (bytesTo s c).length + (t - c)) (hm : t < 255 ∧ s.has (t + 1) = true) :
    (bytesOf s)[(bytesTo s c).length + (t - c) + 1]? = some (UInt8.ofNat (t + 1)) ∧ (bytesTo s c).length + (t - c) + 1 < (bytesOf s).length := by
  have := bytes_at s (b := t + 1) (by omega) hm.2
  rwa [run_index s hct ht hh hi] at this
theorem run_done (s : S4) {c t : Nat} (hct : c ≤ t) (ht : t < 256) (hh : s.has t = true) (hi : (bytesTo s t).length = (bytesTo s c).length + (t - c)) (hm : ¬ (t < 255 ∧ s.has (t + 1) = true)) :
    (bytesOf s).length ≤ (bytesTo s c).length + (t - c) + 1 ∨
    ((bytesTo s c).length + (t - c) + 1 < (bytesOf s).length ∧ t < 255 ∧ ∃ u : UInt8, (bytesOf s)[(bytesTo s c).length + (t - c) + 1]? = some u ∧ u.toNat ≠ t + 1) := by
  have h1 := run_index s hct ht hh hi
  rcases Nat.lt_or_ge ((bytesTo s c).length + (t - c) + 1) (bytesOf s).length with hl | hl
  · right
    have h255 : t < 255 := by
      rcases Nat.lt_or_ge t 255 with h | h
      · exact h
      · have : t = 255 := by omega
        subst this
        unfold bytesOf at hl
        rw [show 256 = 255 + 1 from rfl, h1] at hl
        omega
    refine ⟨hl, h255, (bytesOf s)[(bytesTo s c).length + (t - c) + 1], List.getElem?_eq_getElem hl, fun e => hm ⟨h255, ?_⟩⟩
    have := bytesTo_mem s 256 (Nat.le_refl _) _ (List.getElem_mem hl)
    rwa [e] at this
  · exact .inl hl
theorem run_end (s : S4) {t : Nat} (ht : t < 256) (hm : ¬ (t < 255 ∧ s.has (t + 1) = true)) : runEnd s t = t := by
  by_cases h : t < 255
  · refine runEnd_stop s ?_
    cases hh : s.has (t + 1) with
    | true => exact absurd ⟨h, hh⟩ hm
    | false => rfl
  · exact runEnd_last s (by omega)
theorem step_text (s : S4) {acc tot : List UInt8} {c t : Nat} (hc : c < 256) (hh : s.has c = true) (he : runEnd s c = t) (h : acc ++ txt s c = tot) : (acc ++ runText c t) ++ txt s (t + 1) = tot := by
  rw [← h, txt_take s hc hh, he, List.append_assoc]

theorem add_next (a : Addr) (k : Nat) : a.add (k + 1) = ⟨a.block, a.off + (k + 1), none⟩ := by
  unfold Addr.add
  rw [if_neg (by omega)]
set_option maxRecDepth 100000 in
set_option maxHeartbeats 16000000 in
theorem setText_any (s : S4) (w : World) (ht : TzOk w) :
    Calls Tryd.prog 50 #[setV s] w fun e w' => e = .returned (.string (str (textS s))) ∧ Below w.heap.size w w' := by
  have HT := Lib.hid ht
  clear ht
  obtain ⟨al, hal⟩ : ∃ al, S4.all = al := ⟨_, rfl⟩
  have HA : Hid (∀ W, Calls Tryd.prog 69 #[] W fun e w' => e = .returned (setV al) ∧ Below W.heap.size W w') := by
    unfold Hid
    rw [← hal]
    exact setAll_any
  have HI : Hid (decide (s = al) = decide ((bytesOf s).length = 256)) := by rw [← hal]; exact all_iff s
  clear hal
  have hq := run_eql_set s al
  go_enter Tryd.func50, Tryd.ntmps50
  go_wp2_with fail
  refine (setBytes_any s _ (HT.out.below (below_new (Below.refl _ _) _))).mono ?_
  rintro e w1 ⟨A, c, rfl, hc, hr, hb1⟩
  have hb2 : Below w.heap.size w w1 := below_from (below_new (Below.refl _ _) _) hb1
  have E1 : w1.heap[w.heap.size]? = some (.cells (setA s) 27 (0, 0)) := (hb1.block _ (by simp)).trans (new_at1 (w := w) _)
  obtain ⟨⟨x0, x1, x2, x3⟩, f0, f1, f2, f3⟩ := cells4_of E1
  clear f0 f1 f2 f3 hb1 E1
  have HR := Lib.hid hr
  have HB2 := Lib.hid hb2
  clear hr hb2
  go_wp2_with fail
  go_region_held3 (fun w' => w'.cell? ⟨w.heap.size, 0, none⟩ = some (.int .u64 (s.a.toNat : Int)) ∧ w'.cell? ⟨w.heap.size, 1, none⟩ = some (.int .u64 (s.b.toNat : Int)) ∧ w'.cell? ⟨w.heap.size, 2, none⟩ = some (.int .u64 (s.c.toNat : Int)) ∧ w'.cell? ⟨w.heap.size, 3, none⟩ = some (.int .u64 (s.d.toNat : Int)))
    (go_keep)
    (first
      | (go_at_call 69; refine (HA.out w1.drew).mono ?_; rintro e w2 ⟨rfl, hba⟩; have x0a := keep_cell hba x0; have x1a := keep_cell hba x1; have x2a := keep_cell hba x2; have x3a := keep_cell hba x3)
      | fail)
  have hb3 : Below w.heap.size w w2 := below_from HB2.out.drew hba
  have HR2 : Hid (∀ W, Below w2.heap.size w2 W → Row1 encB W A (bytesOf s)) := fun W hW => ((HR.out.below ((Below.refl _ w1).drew)).below hba).below hW
  have HB3 := Lib.hid hb3
  clear hba hb3 HR HB2 x0 x1 x2 x3 x0a x1a x2a x3a
  cases hd : decide (s = al) with
  | true =>
    rw [hd] at HI hq
    have hlen : (bytesOf s).length = 256 := by have := HI.out; simpa using this.symm
    have HTx := Lib.hid (textS_all s hlen)
    clear hd hlen
    go_wp2_with fail
    go_ret
    exact ⟨by rw [HTx.out]; rfl, HB3.out⟩
  | false =>
    rw [hd] at HI hq
    have hlen : (bytesOf s).length ≠ 256 := by have := HI.out; simpa using this.symm
    have hle : (bytesOf s).length ≤ 256 := bytesTo_length s 256
    clear hd
    by_cases h1 : (bytesOf s).length = 1
    · obtain ⟨x, hx⟩ := List.length_eq_one_iff.1 h1
      have HTx := Lib.hid (textS_one s hx)
      obtain ⟨ad, hA, hcell⟩ := HR2.out w2 (Below.refl _ _) 0 x (by rw [hx]; rfl)
      subst hA
      have g : (((bytesOf s).length : Int) == 1) = true := by simp; omega
      have hcell0 : w2.cell? ad = some (encB x) := hcell
      have g0 : (0 : Int) < ((bytesOf s).length : Int) := by omega
      clear hx h1 hlen
      go_wp2_with fail
      refine (setSign_any x _).mono ?_
      rintro e w3 ⟨rfl, hb4⟩
      have hb5 := below_from HB3.out hb4
      clear hb4
      go_wp2_with fail
      go_ret
      exact ⟨by rw [HTx.out]; rfl, hb5⟩
    · have HTx := Lib.hid (textS_many s hlen h1)
      have g : (((bytesOf s).length : Int) == 1) = false := by simp; omega
      have HTL := Lib.hid (txt_length s 0)
      clear h1 hlen
      go_wp2_with fail
      refine (writeByteC isBld_self 91 91 rfl (Bd.new 92 w2) (Nat.zero_le _)).mono ?_
      rintro e w3 ⟨rfl, hbd, hbk⟩
      have hbw := (below_new (Below.refl _ w2) (.cells #[.pointer none, .slice none 0 0] 92)).trans hbk.1
      have HBD := Lib.hid hbd
      have HBW := Lib.hid hbw
      clear hbd hbk hbw
      go_wp2_with fail
      go_loopw [5] (fun i wr => ∃ (b : Nat) (acc : List UInt8), b ≤ 256 ∧ i = .int .i64 ((bytesTo s b).length : Nat) ∧ Hid (acc ++ txt s b = 91 :: txt s 0) ∧ Hid (acc.length ≤ 7 * b + 1) ∧ Hid (Bd 92 w2.heap.size acc wr) ∧ Hid (Below w2.heap.size w2 wr)) (fun i _ => (bytesOf s).length - (intOf i).toNat)
      case atStart => exact ⟨0, [91], Nat.zero_le _, rfl, rfl, Nat.le_refl _, HBD, HBW⟩
      case round =>
        clear HBD HBW
        obtain ⟨b0, acc, hb0, rfl, HE0, HL0, HBD, HBW⟩ := hrel
        by_cases hlt : (bytesTo s b0).length < (bytesOf s).length
        · obtain ⟨c0, k1, k2, k3, k4, k5⟩ := next_member s 256 b0 (by omega) hb0 hlt
          rw [← k4] at hlt ⊢
          have HE : Hid (acc ++ txt s c0 = 91 :: txt s 0) := by unfold Hid; rw [k5]; exact HE0.out
          have HL : Hid (acc.length ≤ 7 * c0 + 1) := by have := HL0.out; unfold Hid; omega
          have HC := Lib.hid k3
          have hat := (bytes_at s k2 k3).1
          obtain ⟨ad, hA, hcell⟩ := HR2.out wr HBW.out _ _ hat
          subst hA
          have hc8 : ((UInt8.ofNat c0).toNat : Int) = (c0 : Int) := by simp; omega
          simp only [encB, hc8] at hcell
          have HC8 := Lib.hid hc8
          have HIX : Hid (∀ t, c0 ≤ t → t < 256 → s.has t = true → (bytesTo s t).length = (bytesTo s c0).length + (t - c0) → (bytesTo s (t + 1)).length = (bytesTo s c0).length + (t - c0) + 1) := fun t a b c d => run_index s a b c d
          have HMORE : Hid (∀ t, c0 ≤ t → t < 256 → s.has t = true → (bytesTo s t).length = (bytesTo s c0).length + (t - c0) → (t < 255 ∧ s.has (t + 1) = true) → (bytesOf s)[(bytesTo s c0).length + (t - c0) + 1]? = some (UInt8.ofNat (t + 1)) ∧ (bytesTo s c0).length + (t - c0) + 1 < (bytesOf s).length) := fun t a b c d e => run_more s a b c d e
          have HDONE : Hid (∀ t, c0 ≤ t → t < 256 → s.has t = true → (bytesTo s t).length = (bytesTo s c0).length + (t - c0) → ¬ (t < 255 ∧ s.has (t + 1) = true) → ((bytesOf s).length ≤ (bytesTo s c0).length + (t - c0) + 1 ∨
            ((bytesTo s c0).length + (t - c0) + 1 < (bytesOf s).length ∧ t < 255 ∧ ∃ u : UInt8, (bytesOf s)[(bytesTo s c0).length + (t - c0) + 1]? = some u ∧ u.toNat ≠ t + 1))) := fun t a b c d e => run_done s a b c d e
          have HAT : Hid (∀ t, t < 256 → s.has t = true → (bytesTo s t).length = (bytesTo s c0).length + (t - c0) → (bytesOf s)[(bytesTo s c0).length + (t - c0)]? = some (UInt8.ofNat t) ∧ (bytesTo s c0).length + (t - c0) < (bytesOf s).length) := fun t a b c => by have := bytes_at s a b; rwa [c] at this
          obtain ⟨i0, hi0⟩ : ∃ i0, (bytesTo s c0).length = i0 := ⟨_, rfl⟩
          have HI0 := Lib.hid hi0
          have HAT0 := Lib.hid hat
          simp only [hi0] at hlt hcell HIX HMORE HDONE HAT HAT0 ⊢
          clear hi0 hat k1 k4 k5 HE0 HL0 hb0 k3
          have gl : decide ((i0 : Int) < ((bytesOf s).length : Int)) = true := by simp; omega
          go_wp2_with fail
          obtain ⟨wo, rfl⟩ : ∃ wo : World, wo = wr := ⟨_, rfl⟩
          have HCo := Lib.hid hcell
          clear hcell
          go_loopw [6] (fun kx wi => ∃ (t : Nat), c0 ≤ t ∧ t < 256 ∧ Hid (s.has t = true) ∧ Hid ((bytesTo s t).length = i0 + (t - c0)) ∧ kx = .int .i64 (i0 + (t - c0) : Nat) ∧ Hid (runEnd s t = runEnd s c0) ∧ Hid (Bd 92 w2.heap.size acc wi) ∧ Hid (Below w2.heap.size w2 wi)) (fun kx _ => (bytesOf s).length - (intOf kx).toNat)
          case atStart => exact ⟨c0, Nat.le_refl _, k2, HC, by unfold Hid; rw [HI0.out]; omega, by simp, rfl, HBD, HBW⟩
          case round =>
            clear HBD HBW HCo
            obtain ⟨t, ht1, ht2, HH, HIT, rfl, HRE, HBD, HBW⟩ := hrel
            by_cases hm : t < 255 ∧ s.has (t + 1) = true
            · obtain ⟨m1, m2⟩ := HMORE.out t ht1 ht2 HH.out HIT.out hm
              obtain ⟨m3, m4⟩ := HAT.out t ht2 HH.out HIT.out
              obtain ⟨ad1, hA, q1⟩ := HR2.out wr HBW.out _ _ m1
              cases hA
              obtain ⟨ad2, hA, q0⟩ := HR2.out wr HBW.out _ _ m3
              cases hA
              have e1 : ((UInt8.ofNat (t + 1)).toNat : Int) = (t : Int) + 1 := by simp; omega
              have e0 : ((UInt8.ofNat t).toNat : Int) = (t : Int) := by simp; omega
              simp only [encB, e1, e0] at q1 q0
              have HIX2 := Lib.hid (HIX.out t ht1 ht2 HH.out HIT.out)
              have HRE2 : Hid (runEnd s (t + 1) = runEnd s c0) := by rw [← HRE.out]; exact (runEnd_step s hm.1 hm.2).symm
              have HH2 := Lib.hid hm.2
              have h255 := hm.1
              obtain ⟨k, hk⟩ : ∃ k, i0 + (t - c0) = k := ⟨_, rfl⟩
              have HK := Lib.hid hk
              simp only [hk] at m2 m4 q0 q1 HIX2 ⊢
              rw [add_next] at q1
              clear hm e1 e0 hk m1 m3
              have d1 : decide ((k : Int) + 1 < ((bytesOf s).length : Int)) = true := by simp; omega
              have w8 : IntKind.u8.wrap ((t : Int) + 1) = (t : Int) + 1 := by simp [IntKind.wrap, IntKind.bits, IntKind.signed]; omega
              have b1 : (k : Int) + 1 < ((bytesOf s).length : Int) := by omega
              have b0 : (k : Int) < ((bytesOf s).length : Int) := by omega
              have b2 : 0 ≤ (k : Int) + 1 := by omega
              have n1 : ((k : Int) + 1).toNat = k + 1 := by omega
              have n2 : IntKind.i64.wrap ((k : Int) + 1) = (k : Int) + 1 := IntWalk.i64_in _ (by omega)
              have eq1 : (((t : Int) + 1) == ((t : Int) + 1)) = true := by simp
              go_wp2_with fail
              go_quiet (fail)
              clear d1 w8 n1 n2 eq1 q0 q1
              go_wp2_with fail
              go_roundw
              case rel => exact ⟨t + 1, by omega, by omega, HH2, by have := HIX2.out; have := HK.out; unfold Hid; omega, by have := HK.out; go_num, HRE2, HBD, pw_drewN HBW.out nq⟩
              case measure => simp [intOf]; omega
            · have he : runEnd s c0 = t := by rw [← HRE.out]; exact run_end s ht2 hm
              have HST := Lib.hid (step_text s k2 HC.out he HE.out)
              have HIX2 := Lib.hid (HIX.out t ht1 ht2 HH.out HIT.out)
              have HDN := Lib.hid (HDONE.out t ht1 ht2 HH.out HIT.out hm)
              obtain ⟨m3, m4⟩ := HAT.out t ht2 HH.out HIT.out
              obtain ⟨ad2, hA, q0⟩ := HR2.out wr HBW.out _ _ m3
              cases hA
              have e0 : ((UInt8.ofNat t).toNat : Int) = (t : Int) := by simp; omega
              have HT8 := Lib.hid e0
              simp only [encB, e0] at q0
              obtain ⟨k, hk⟩ : ∃ k, i0 + (t - c0) = k := ⟨_, rfl⟩
              have HK := Lib.hid hk
              have M3 := Lib.hid m3
              simp only [hk] at m4 q0 HIX2 HDN M3 ⊢
              clear hm e0 hk m3 he
              have HDN' := HDN.out
              have b0 : (k : Int) < ((bytesOf s).length : Int) := by omega
              have b2 : 0 ≤ (k : Int) + 1 := by omega
              have n1 : ((k : Int) + 1).toNat = k + 1 := by omega
              have n2 : IntKind.i64.wrap ((k : Int) + 1) = (k : Int) + 1 := IntWalk.i64_in _ (by omega)
              rcases HDN' with hA | ⟨hB1, hB2, u, hB3, hB4⟩
              · have d1 : decide ((k : Int) + 1 < ((bytesOf s).length : Int)) = false := by simp; omega
                go_wp2_with fail
                go_quiet (fail)
                have HBDq : Hid (Bd 92 w2.heap.size acc (wr.drewN nq)) := HBD
                have HBWq : Hid (Below w2.heap.size w2 (wr.drewN nq)) := pw_drewN HBW.out nq
                obtain ⟨ad3, hA, p0⟩ := HR2.out (wr.drewN nq) HBWq.out _ _ HAT0.out
                cases hA
                have hc8 := HC8.out
                simp only [encB, hc8] at p0
                clear hc8 d1 q0 n1 n2 HBD HBW
                generalize wr.drewN nq = wq at *
                obtain ⟨j, hj, hj2⟩ : ∃ j, j = t - c0 ∧ (j = 0 ∨ j = 1 ∨ 1 < j) := ⟨_, rfl, by omega⟩
                have hla : acc.length ≤ 2000 := by have := HL.out; omega
                have hki : i0 ≤ k := by have := HK.out; omega
                have hsg := signB_length (UInt8.ofNat c0)
                have hst := signB_length (UInt8.ofNat t)
                rcases hj2 with hj0 | hj1 | hj2
                · have ht : t = c0 := by omega
                  have hk0 : k = i0 := by have := HK.out; omega
                  have HRT : Hid (runText c0 t = signB (UInt8.ofNat c0)) := by unfold Hid runText; simp [ht]
                  have ge1 : decide ((k : Int) > (i0 : Int) + 1) = false := by simp; omega
                  have ge2 : decide ((k : Int) > (i0 : Int)) = false := by simp; omega
                  have ge3 : decide (i0 < k) = false := by simp; omega
                  have HTT := Lib.hid ht
                  clear hk0 ht hj hj0
                  go_wp2_with fail
                  refine (setSignC (c0 : Int) (UInt8.ofNat c0) HC8.out.symm _).mono ?_
                  rintro e wa ⟨rfl, hba⟩
                  have HBDa := Lib.hid (HBDq.out.keep hba)
                  have HBWa := Lib.hid (below_from HBWq.out hba)
                  clear hba
                  go_wp2_with fail
                  refine (writeString_any isBld_self (signB (UInt8.ofNat c0)) HBDa.out (by omega)).mono ?_
                  rintro e wb ⟨rfl, hbd, hbk⟩
                  have HBDb := Lib.hid hbd
                  have HBWb := Lib.hid (HBWa.out.trans hbk.1)
                  clear hbd hbk
                  go_wp2_with fail
                  go_roundw
                  case rel => exact ⟨t + 1, acc ++ runText c0 t, by omega, by have := HIX2.out; rw [this]; go_num, HST, by have := HRT.out; unfold Hid; rw [this, List.length_append]; have := HL.out; have := HTT.out; omega, by have := HRT.out; unfold Hid; rw [this]; exact HBDb.out, HBWb⟩
                  case measure => simp [intOf]; omega
                · have ht : t = c0 + 1 := by omega
                  have hk0 : k = i0 + 1 := by have := HK.out; omega
                  have HRT : Hid (runText c0 t = signB (UInt8.ofNat c0) ++ signB (UInt8.ofNat t)) := by unfold Hid runText; simp [ht]
                  have ge1 : decide ((k : Int) > (i0 : Int) + 1) = false := by simp; omega
                  have ge2 : decide ((k : Int) > (i0 : Int)) = true := by simp; omega
                  have ge3 : decide (i0 < k) = true := by simp; omega
                  have HTT := Lib.hid ht
                  clear hk0 ht hj hj1
                  go_wp2_with fail
                  refine (setSignC (c0 : Int) (UInt8.ofNat c0) HC8.out.symm _).mono ?_
                  rintro e wa ⟨rfl, hba⟩
                  have HBDa := Lib.hid (HBDq.out.keep hba)
                  have HBWa := Lib.hid (below_from HBWq.out hba)
                  clear hba
                  go_wp2_with fail
                  refine (writeString_any isBld_self (signB (UInt8.ofNat c0)) HBDa.out (by omega)).mono ?_
                  rintro e wb ⟨rfl, hbd, hbk⟩
                  have HBDb := Lib.hid hbd
                  have HBWb := Lib.hid (HBWa.out.trans hbk.1)
                  obtain ⟨ad4, hA, p1⟩ := HR2.out wb HBWb.out _ _ M3.out
                  cases hA
                  have ht8 := HT8.out
                  simp only [encB, ht8] at p1
                  clear ht8 hbd hbk
                  go_wp2_with fail
                  refine (setSignC (t : Int) (UInt8.ofNat t) HT8.out.symm _).mono ?_
                  rintro e wc ⟨rfl, hba⟩
                  have HBDc := Lib.hid (HBDb.out.keep hba)
                  have HBWc := Lib.hid (below_from HBWb.out hba)
                  clear hba p1
                  go_wp2_with fail
                  refine (writeString_any isBld_self (signB (UInt8.ofNat t)) HBDc.out (by rw [List.length_append]; omega)).mono ?_
                  rintro e wd ⟨rfl, hbd, hbk⟩
                  have HBDd := Lib.hid hbd
                  have HBWd := Lib.hid (HBWc.out.trans hbk.1)
                  clear hbd hbk
                  go_wp2_with fail
                  go_roundw
                  case rel => exact ⟨t + 1, acc ++ runText c0 t, by omega, by have := HIX2.out; rw [this]; go_num, HST, by have := HRT.out; unfold Hid; rw [this, List.length_append, List.length_append]; have := HL.out; have := HTT.out; omega, by have := HRT.out; unfold Hid; rw [this, ← List.append_assoc]; exact HBDd.out, HBWd⟩
                  case measure => simp [intOf]; omega
                · have ht : c0 + 1 < t := by omega
                  have hk0 : i0 + 1 < k := by have := HK.out; omega
                  have HRT : Hid (runText c0 t = signB (UInt8.ofNat c0) ++ [45] ++ signB (UInt8.ofNat t)) := by unfold Hid runText; rw [if_pos (by omega), if_pos (by omega)]
                  have ge1 : decide ((k : Int) > (i0 : Int) + 1) = true := by simp; omega
                  have ge2 : decide ((k : Int) > (i0 : Int)) = true := by simp; omega
                  have ge3 : decide (i0 < k) = true := by simp; omega
                  go_wp2_with fail
                  refine (setSignC (c0 : Int) (UInt8.ofNat c0) HC8.out.symm _).mono ?_
                  rintro e wa ⟨rfl, hba⟩
                  have HBDa := Lib.hid (HBDq.out.keep hba)
                  have HBWa := Lib.hid (below_from HBWq.out hba)
                  clear hba
                  go_wp2_with fail
                  refine (writeString_any isBld_self (signB (UInt8.ofNat c0)) HBDa.out (by omega)).mono ?_
                  rintro e wb ⟨rfl, hbd, hbk⟩
                  have HBDb := Lib.hid hbd
                  have HBWb := Lib.hid (HBWa.out.trans hbk.1)
                  clear hbd hbk
                  go_wp2_with fail
                  refine (writeByteC isBld_self 45 45 rfl HBDb.out (by rw [List.length_append]; omega)).mono ?_
                  rintro e wc ⟨rfl, hbd, hbk⟩
                  have HBDc := Lib.hid hbd
                  have HBWc := Lib.hid (HBWb.out.trans hbk.1)
                  obtain ⟨ad4, hA, p1⟩ := HR2.out wc HBWc.out _ _ M3.out
                  cases hA
                  have ht8 := HT8.out
                  simp only [encB, ht8] at p1
                  clear ht8 hbd hbk
                  go_wp2_with fail
                  refine (setSignC (t : Int) (UInt8.ofNat t) HT8.out.symm _).mono ?_
                  rintro e wd ⟨rfl, hba⟩
                  have HBDd := Lib.hid (HBDc.out.keep hba)
                  have HBWd := Lib.hid (below_from HBWc.out hba)
                  clear hba p1
                  go_wp2_with fail
                  refine (writeString_any isBld_self (signB (UInt8.ofNat t)) HBDd.out (by rw [List.length_append, List.length_append, List.length_singleton]; omega)).mono ?_
                  rintro e we ⟨rfl, hbd, hbk⟩
                  have HBDe := Lib.hid hbd
                  have HBWe := Lib.hid (HBWd.out.trans hbk.1)
                  clear hbd hbk
                  go_wp2_with fail
                  go_roundw
                  case rel => exact ⟨t + 1, acc ++ runText c0 t, by omega, by have := HIX2.out; rw [this]; go_num, HST, by have := HRT.out; unfold Hid; rw [this, List.length_append, List.length_append, List.length_append, List.length_singleton]; have := HL.out; omega, by have := HRT.out; unfold Hid; rw [this, ← List.append_assoc, ← List.append_assoc]; exact HBDe.out, HBWe⟩
                  case measure => simp [intOf]; omega
              · obtain ⟨ad1, hA, q1⟩ := HR2.out wr HBW.out _ _ hB3
                cases hA
                rw [add_next] at q1
                have d1 : decide ((k : Int) + 1 < ((bytesOf s).length : Int)) = true := by simp; omega
                have w8 : IntKind.u8.wrap ((t : Int) + 1) = (t : Int) + 1 := by simp [IntKind.wrap, IntKind.bits, IntKind.signed]; omega
                have b1 : (k : Int) + 1 < ((bytesOf s).length : Int) := by omega
                have eq1 : ((u.toNat : Int) == ((t : Int) + 1)) = false := by simp; omega
                go_wp2_with fail
                go_quiet (fail)
                have HBDq : Hid (Bd 92 w2.heap.size acc (wr.drewN nq)) := HBD
                have HBWq : Hid (Below w2.heap.size w2 (wr.drewN nq)) := pw_drewN HBW.out nq
                obtain ⟨ad3, hA, p0⟩ := HR2.out (wr.drewN nq) HBWq.out _ _ HAT0.out
                cases hA
                have hc8 := HC8.out
                simp only [encB, hc8] at p0
                clear hc8 d1 q0 n1 n2 HBD HBW
                generalize wr.drewN nq = wq at *
                obtain ⟨j, hj, hj2⟩ : ∃ j, j = t - c0 ∧ (j = 0 ∨ j = 1 ∨ 1 < j) := ⟨_, rfl, by omega⟩
                have hla : acc.length ≤ 2000 := by have := HL.out; omega
                have hki : i0 ≤ k := by have := HK.out; omega
                have hsg := signB_length (UInt8.ofNat c0)
                have hst := signB_length (UInt8.ofNat t)
                rcases hj2 with hj0 | hj1 | hj2
                · have ht : t = c0 := by omega
                  have hk0 : k = i0 := by have := HK.out; omega
                  have HRT : Hid (runText c0 t = signB (UInt8.ofNat c0)) := by unfold Hid runText; simp [ht]
                  have ge1 : decide ((k : Int) > (i0 : Int) + 1) = false := by simp; omega
                  have ge2 : decide ((k : Int) > (i0 : Int)) = false := by simp; omega
                  have ge3 : decide (i0 < k) = false := by simp; omega
                  have HTT := Lib.hid ht
                  clear hk0 ht hj hj0
                  go_wp2_with fail
                  refine (setSignC (c0 : Int) (UInt8.ofNat c0) HC8.out.symm _).mono ?_
                  rintro e wa ⟨rfl, hba⟩
                  have HBDa := Lib.hid (HBDq.out.keep hba)
                  have HBWa := Lib.hid (below_from HBWq.out hba)
                  clear hba
                  go_wp2_with fail
                  refine (writeString_any isBld_self (signB (UInt8.ofNat c0)) HBDa.out (by omega)).mono ?_
                  rintro e wb ⟨rfl, hbd, hbk⟩
                  have HBDb := Lib.hid hbd
                  have HBWb := Lib.hid (HBWa.out.trans hbk.1)
                  clear hbd hbk
                  go_wp2_with fail
                  go_roundw
                  case rel => exact ⟨t + 1, acc ++ runText c0 t, by omega, by have := HIX2.out; rw [this]; go_num, HST, by have := HRT.out; unfold Hid; rw [this, List.length_append]; have := HL.out; have := HTT.out; omega, by have := HRT.out; unfold Hid; rw [this]; exact HBDb.out, HBWb⟩
                  case measure => simp [intOf]; omega
                · have ht : t = c0 + 1 := by omega
                  have hk0 : k = i0 + 1 := by have := HK.out; omega
                  have HRT : Hid (runText c0 t = signB (UInt8.ofNat c0) ++ signB (UInt8.ofNat t)) := by unfold Hid runText; simp [ht]
                  have ge1 : decide ((k : Int) > (i0 : Int) + 1) = false := by simp; omega
                  have ge2 : decide ((k : Int) > (i0 : Int)) = true := by simp; omega
                  have ge3 : decide (i0 < k) = true := by simp; omega
                  have HTT := Lib.hid ht
                  clear hk0 ht hj hj1
                  go_wp2_with fail
                  refine (setSignC (c0 : Int) (UInt8.ofNat c0) HC8.out.symm _).mono ?_
                  rintro e wa ⟨rfl, hba⟩
                  have HBDa := Lib.hid (HBDq.out.keep hba)
                  have HBWa := Lib.hid (below_from HBWq.out hba)
                  clear hba
                  go_wp2_with fail
                  refine (writeString_any isBld_self (signB (UInt8.ofNat c0)) HBDa.out (by omega)).mono ?_
                  rintro e wb ⟨rfl, hbd, hbk⟩
                  have HBDb := Lib.hid hbd
                  have HBWb := Lib.hid (HBWa.out.trans hbk.1)
                  obtain ⟨ad4, hA, p1⟩ := HR2.out wb HBWb.out _ _ M3.out
                  cases hA
                  have ht8 := HT8.out
                  simp only [encB, ht8] at p1
                  clear ht8 hbd hbk
                  go_wp2_with fail
                  refine (setSignC (t : Int) (UInt8.ofNat t) HT8.out.symm _).mono ?_
                  rintro e wc ⟨rfl, hba⟩
                  have HBDc := Lib.hid (HBDb.out.keep hba)
                  have HBWc := Lib.hid (below_from HBWb.out hba)
                  clear hba p1
                  go_wp2_with fail
                  refine (writeString_any isBld_self (signB (UInt8.ofNat t)) HBDc.out (by rw [List.length_append]; omega)).mono ?_
                  rintro e wd ⟨rfl, hbd, hbk⟩
                  have HBDd := Lib.hid hbd
                  have HBWd := Lib.hid (HBWc.out.trans hbk.1)
                  clear hbd hbk
                  go_wp2_with fail
                  go_roundw
                  case rel => exact ⟨t + 1, acc ++ runText c0 t, by omega, by have := HIX2.out; rw [this]; go_num, HST, by have := HRT.out; unfold Hid; rw [this, List.length_append, List.length_append]; have := HL.out; have := HTT.out; omega, by have := HRT.out; unfold Hid; rw [this, ← List.append_assoc]; exact HBDd.out, HBWd⟩
                  case measure => simp [intOf]; omega
                · have ht : c0 + 1 < t := by omega
                  have hk0 : i0 + 1 < k := by have := HK.out; omega
                  have HRT : Hid (runText c0 t = signB (UInt8.ofNat c0) ++ [45] ++ signB (UInt8.ofNat t)) := by unfold Hid runText; rw [if_pos (by omega), if_pos (by omega)]
                  have ge1 : decide ((k : Int) > (i0 : Int) + 1) = true := by simp; omega
                  have ge2 : decide ((k : Int) > (i0 : Int)) = true := by simp; omega
                  have ge3 : decide (i0 < k) = true := by simp; omega
                  go_wp2_with fail
                  refine (setSignC (c0 : Int) (UInt8.ofNat c0) HC8.out.symm _).mono ?_
                  rintro e wa ⟨rfl, hba⟩
                  have HBDa := Lib.hid (HBDq.out.keep hba)
                  have HBWa := Lib.hid (below_from HBWq.out hba)
                  clear hba
                  go_wp2_with fail
                  refine (writeString_any isBld_self (signB (UInt8.ofNat c0)) HBDa.out (by omega)).mono ?_
                  rintro e wb ⟨rfl, hbd, hbk⟩
                  have HBDb := Lib.hid hbd
                  have HBWb := Lib.hid (HBWa.out.trans hbk.1)
                  clear hbd hbk
                  go_wp2_with fail
                  refine (writeByteC isBld_self 45 45 rfl HBDb.out (by rw [List.length_append]; omega)).mono ?_
                  rintro e wc ⟨rfl, hbd, hbk⟩
                  have HBDc := Lib.hid hbd
                  have HBWc := Lib.hid (HBWb.out.trans hbk.1)
                  obtain ⟨ad4, hA, p1⟩ := HR2.out wc HBWc.out _ _ M3.out
                  cases hA
                  have ht8 := HT8.out
                  simp only [encB, ht8] at p1
                  clear ht8 hbd hbk
                  go_wp2_with fail
                  refine (setSignC (t : Int) (UInt8.ofNat t) HT8.out.symm _).mono ?_
                  rintro e wd ⟨rfl, hba⟩
                  have HBDd := Lib.hid (HBDc.out.keep hba)
                  have HBWd := Lib.hid (below_from HBWc.out hba)
                  clear hba p1
                  go_wp2_with fail
                  refine (writeString_any isBld_self (signB (UInt8.ofNat t)) HBDd.out (by rw [List.length_append, List.length_append, List.length_singleton]; omega)).mono ?_
                  rintro e we ⟨rfl, hbd, hbk⟩
                  have HBDe := Lib.hid hbd
                  have HBWe := Lib.hid (HBWd.out.trans hbk.1)
                  clear hbd hbk
                  go_wp2_with fail
                  go_roundw
                  case rel => exact ⟨t + 1, acc ++ runText c0 t, by omega, by have := HIX2.out; rw [this]; go_num, HST, by have := HRT.out; unfold Hid; rw [this, List.length_append, List.length_append, List.length_append, List.length_singleton]; have := HL.out; omega, by have := HRT.out; unfold Hid; rw [this, ← List.append_assoc, ← List.append_assoc]; exact HBDe.out, HBWe⟩
                  case measure => simp [intOf]; omega
        · have HN := Lib.hid (no_member s 256 b0 (by omega) hb0 (by have := bytesTo_le s hb0; unfold bytesOf at hlt ⊢; omega))
          have HE2 : Hid (acc = 91 :: txt s 0) := by have h := HE0.out; rw [HN.out, List.append_nil] at h; exact h
          have gl : decide (((bytesTo s b0).length : Int) < ((bytesOf s).length : Int)) = false := by simp; omega
          have gl2 : decide ((bytesTo s b0).length < (bytesOf s).length) = false := by simp; omega
          have hal : acc.length ≤ 100000000000 := by have := HL0.out; omega
          clear HE0 HL0 HN
          go_wp2_with fail
          refine (writeByteC isBld_self 93 93 rfl HBD.out hal).mono ?_
          rintro e w4 ⟨rfl, hbd, hbk⟩
          have HBD4 := Lib.hid hbd
          have HB4 := Lib.hid (HBW.out.trans hbk.1)
          clear hbd hbk HBD HBW
          go_wp2_with fail
          refine (string_any HBD4.out).mono ?_
          rintro e w5 ⟨rfl, hb5⟩
          have hb6 := below_from HB3.out (HB4.out.trans hb5)
          clear hb5
          go_wp2_with fail
          go_ret
          exact ⟨by rw [HTx.out, HE2.out]; rfl, hb6⟩
end Go.Proofs.YteoghoaggpbkpaaDoor
