/- Signs of bytes. A set's text. Coded expressions: whether a node may be. Coded expressions: how many nodes; whether they may be. Coded expressions' texts. Coded expressions' texts: coded.text. -/
import Derived.Test.YtfbnlpoinieijaaGreatDoorBb
import Derived.Test.YtfbnlpoinieijaaGreatDoorShelf
import Derived.Deep.RegionHeld3
import Derived.Deep.QuietTactic
import Derived.BigQuiet
import Derived.IntWalk
import Derived.Test.YtfbnlpoinieijaaGreatDoorBa
import Derived.Test.YtfbnlpoinieijaaGreatDoorShelfT
import Derived.Deep.CutRange
namespace Go.Proofs.YtfbnlpoinieijaaGreatDoor
open Go.RowKit
set_option linter.unusedVariables false
set_option linter.unusedSimpArgs false

theorem index_odd : ∀ n : Fin 256, decide (0 ≤ Lib.indexByte oddText.data.toList (UInt8.ofNat n.val)) = odd (UInt8.ofNat n.val) := by decide +kernel

theorem index_odd' (b : UInt8) : decide (0 ≤ Lib.indexByte oddText.data.toList ((b.toNat : Int)).toNat.toUInt8) = odd b := by
  have h := index_odd ⟨b.toNat, b.toNat_lt⟩
  simpa using h

set_option maxHeartbeats 4000000 in
theorem setSign_any (b : UInt8) (w : World) :
    Calls Tryz.prog 82 #[.int .u8 (b.toNat : Int)] w fun e w' => e = .returned (.string (str (signB b))) ∧ Below w.heap.size w w' := by
  have HSB : Hid (signB b = if special b then 92 :: hexOf [b] else [b]) := rfl
  have hi := Lib.hid (Tryz.strings_IndexByte oddText (b.toNat : Int) w)
  have ho := index_odd' b
  have hl := b.toNat_lt
  by_cases h1 : b.toNat < 33
  · have HT : Hid (signB b = 92 :: hexOf [b]) := by unfold Hid; rw [HSB.out, if_pos (by unfold special; simp [h1])]
    have g : decide ((b.toNat : Int) < 33) = true := by simp; omega
    clear h1
    go_enter Tryz.func82, Tryz.ntmps82
    go_wp2_with fail
    refine (Hex_any [b] (some ⟨w.heap.size, 0, none⟩) 1 _ (new_row encB w [b] _ _ rfl) (show 1 ≤ 1000000000 by decide)).mono ?_
    rintro e w2 ⟨rfl, hb⟩
    have hb2 := below_from (below_new (Below.refl _ _) _) hb
    have hc := run_cat (P := Tryz.prog) [92] (hexOf [b]) (by rw [hexOf_length]; simp)
    clear hb
    go_wp2_with fail
    go_ret
    exact ⟨by rw [HT.out]; rfl, hb2⟩
  by_cases h2 : 126 < b.toNat
  · have HT : Hid (signB b = 92 :: hexOf [b]) := by unfold Hid; rw [HSB.out, if_pos (by unfold special; simp [h2])]
    have g : decide ((b.toNat : Int) < 33) = false := by simp; omega
    have g2 : decide ((b.toNat : Int) > 126) = true := by simp; omega
    clear h1 h2
    go_enter Tryz.func82, Tryz.ntmps82
    go_wp2_with fail
    refine (Hex_any [b] (some ⟨w.heap.size, 0, none⟩) 1 _ (new_row encB w [b] _ _ rfl) (show 1 ≤ 1000000000 by decide)).mono ?_
    rintro e w2 ⟨rfl, hb⟩
    have hb2 := below_from (below_new (Below.refl _ _) _) hb
    have hc := run_cat (P := Tryz.prog) [92] (hexOf [b]) (by rw [hexOf_length]; simp)
    clear hb
    go_wp2_with fail
    go_ret
    exact ⟨by rw [HT.out]; rfl, hb2⟩
  have g : decide ((b.toNat : Int) < 33) = false := by simp; omega
  have g2 : decide ((b.toNat : Int) > 126) = false := by simp; omega
  have HSP : Hid (special b = odd b) := by unfold Hid special; simp [h1, h2]
  have HI := Lib.hid hi.out
  generalize Lib.indexByte oddText.data.toList ((b.toNat : Int)).toNat.toUInt8 = ix at *
  cases hod : odd b with
  | true =>
    have HT : Hid (signB b = 92 :: hexOf [b]) := by unfold Hid; rw [HSB.out, HSP.out, hod]; rfl
    rw [hod] at ho
    clear hod h1 h2
    go_enter Tryz.func82, Tryz.ntmps82
    go_wp2_with fail
    refine HI.out.mono ?_
    rintro e w1 ⟨rfl, rfl⟩
    have g3 : decide (ix ≥ 0) = true := ho
    go_wp2_with fail
    refine (Hex_any [b] (some ⟨w1.heap.size, 0, none⟩) 1 _ (new_row encB w1 [b] _ _ rfl) (show 1 ≤ 1000000000 by decide)).mono ?_
    rintro e w2 ⟨rfl, hb⟩
    have hb2 := below_from (below_new (Below.refl _ _) _) hb
    have hc := run_cat (P := Tryz.prog) [92] (hexOf [b]) (by rw [hexOf_length]; simp)
    clear hb
    go_wp2_with fail
    go_ret
    exact ⟨by rw [HT.out]; rfl, hb2⟩
  | false =>
    have HT : Hid (signB b = [b]) := by unfold Hid; rw [HSB.out, HSP.out, hod]; rfl
    rw [hod] at ho
    clear hod h1 h2
    go_enter Tryz.func82, Tryz.ntmps82
    go_wp2_with fail
    refine HI.out.mono ?_
    rintro e w1 ⟨rfl, rfl⟩
    have g3 : decide (ix ≥ 0) = false := ho
    have hcv := fun t => conv_bytes (P := Tryz.prog) (w := w1.alloc (.cells #[encB b] t)) (dst := 9) (A := some ⟨w1.heap.size, 0, none⟩) Tryz.underlying116 Tryz.underlying5 Tryz.underlying9 1 1 (l := [b]) rfl (new_row encB w1 [b] _ t rfl)
    go_wp2_with fail
    go_ret
    exact ⟨by rw [HT.out]; rfl, below_new (Below.refl _ _) _⟩
end Go.Proofs.YtfbnlpoinieijaaGreatDoor
namespace Go.Proofs.YtfbnlpoinieijaaGreatDoor
open Go.RowKit
set_option linter.unusedVariables false
set_option linter.unusedSimpArgs false

set_option maxHeartbeats 1000000 in
theorem setAll_any (w : World) :
    Calls Tryz.prog 81 #[] w fun e w' => e = .returned (setV S4.all) ∧ Below w.heap.size w w' := by
  go_enter Tryz.func81, Tryz.ntmps81
  go_wp2_with fail
  exact bodyPost_ret (v := setV S4.all) (by simp [results, Tryz.results81, go_sem, S4.all]) rfl ⟨rfl, (Below.refl _ _).alloc (Nat.le_refl _) _⟩
theorem writeByteC {T : TypeId} (hT : IsBld T) {b : Nat} {bs : List UInt8} (n : Int) (c : UInt8) (hn : n = (c.toNat : Int)) {w : World} (h : Bd T b bs w) (hlen : bs.length ≤ 100000000000) :
    Calls Tryz.prog 83 #[.pointer (some ⟨b, 0, none⟩), .int .u8 n] w fun e w' => e = .returned .nilIface ∧ Bd T b (bs ++ [c]) w' ∧ BdK b w w' := by
  subst hn
  exact writeByte_any hT c h hlen
theorem setSignC (n : Int) (b : UInt8) (hn : n = (b.toNat : Int)) (w : World) :
    Calls Tryz.prog 82 #[.int .u8 n] w fun e w' => e = .returned (.string (str (signB b))) ∧ Below w.heap.size w w' := by
  subst hn
  exact setSign_any b w
/-- the round's way, plain -/
theorem run_index (s : S4) {c t : Nat} (hct : c ≤ t) (ht : t < 256) (hh : s.has t = true) (hi : (bytesTo s t).length = (bytesTo s c).length + (t - c)) :
    (bytesTo s (t + 1)).length = (bytesTo s c).length + (t - c) + 1 := by
  rw [bytesTo_has s hh, List.length_append, List.length_singleton, hi]
theorem run_more (s : S4) {c t : Nat} (hct : c ≤ t) (ht : t < 256) (hh : s.has t = true) (hi : (bytesTo s t).length = (bytesTo s c).length + (t - c)) (hm : t < 255 ∧ s.has (t + 1) = true) :
    (bytesOf s)[(bytesTo s c).length + (t - c) + 1]? = some (UInt8.ofNat (t + 1)) ∧ (bytesTo s c).length + (t - c) + 1 < (bytesOf s).length := by
  have := bytes_at s (b := t + 1) (by omega) hm.2
  rwa [run_index s hct ht hh hi] at this
theorem run_done (s : S4) {c t : Nat} (hct : c ≤ t) (ht : t < 256) (hh : s.has t = true) (hi : (bytesTo s t).length = (bytesTo s c).length + (t - c)) (hm : ¬ (t < 255 ∧ s.has (t + 1) = true)) :
    (bytesOf s).length ≤ (bytesTo s c).length + (t - c) + 1 ∨
    ((bytesTo s c).length + (t - c) + 1 < (bytesOf s).length ∧ t < 255 ∧ ∃ u : UInt8, (bytesOf s)[(bytesTo s c).length + (t - c) + 1]? = some u ∧ u.toNat ≠ t + 1) := by
  have h1 := run_index s hct ht hh hi
  rcases Nat.lt_or_ge ((bytesTo s c).length + (t - c) + 1) (bytesOf s).length with hl | hl
  · right
    have h255 : t < 255 := by
      rcases Nat.lt_or_ge t 255 with h | h
      · exact h
      · have : t = 255 := by omega
        subst this
        unfold bytesOf at hl
        rw [show 256 = 255 + 1 from rfl, h1] at hl
        omega
    refine ⟨hl, h255, (bytesOf s)[(bytesTo s c).length + (t - c) + 1], List.getElem?_eq_getElem hl, fun e => hm ⟨h255, ?_⟩⟩
    have := bytesTo_mem s 256 (Nat.le_refl _) _ (List.getElem_mem hl)
    rwa [e] at this
  · exact .inl hl
theorem run_end (s : S4) {t : Nat} (ht : t < 256) (hm : ¬ (t < 255 ∧ s.has (t + 1) = true)) : runEnd s t = t := by
  by_cases h : t < 255
  · refine runEnd_stop s ?_
    cases hh : s.has (t + 1) with
    | true => exact absurd ⟨h, hh⟩ hm
    | false => rfl
  · exact runEnd_last s (by omega)
theorem step_text (s : S4) {acc tot : List UInt8} {c t : Nat} (hc : c < 256) (hh : s.has c = true) (he : runEnd s c = t) (h : acc ++ txt s c = tot) : (acc ++ runText c t) ++ txt s (t + 1) = tot := by
  rw [← h, txt_take s hc hh, he, List.append_assoc]

theorem add_next (a : Addr) (k : Nat) : a.add (k + 1) = ⟨a.block, a.off + (k + 1), none⟩ := by
  unfold Addr.add
  rw [if_neg (by omega)]
set_option maxRecDepth 100000 in
set_option maxHeartbeats 16000000 in
theorem setText_any (s : S4) (w : World) (ht : TzOk w) :
    Calls Tryz.prog 65 #[setV s] w fun e w' => e = .returned (.string (str (textS s))) ∧ Below w.heap.size w w' := by
  have HT := Lib.hid ht
  clear ht
  obtain ⟨al, hal⟩ : ∃ al, S4.all = al := ⟨_, rfl⟩
  have HA : Hid (∀ W, Calls Tryz.prog 81 #[] W fun e w' => e = .returned (setV al) ∧ Below W.heap.size W w') := by
    unfold Hid
    rw [← hal]
    exact setAll_any
  have HI : Hid (decide (s = al) = decide ((bytesOf s).length = 256)) := by rw [← hal]; exact all_iff s
  clear hal
  have hq := run_eql_set s al
  go_enter Tryz.func65, Tryz.ntmps65
  go_wp2_with fail
  refine (setBytes_any s _ (HT.out.below (below_new (Below.refl _ _) _))).mono ?_
  rintro e w1 ⟨A, c, rfl, hc, hr, hb1⟩
  have hb2 : Below w.heap.size w w1 := below_from (below_new (Below.refl _ _) _) hb1
  have E1 : w1.heap[w.heap.size]? = some (.cells (setA s) 24 (0, 0)) := (hb1.block _ (by simp)).trans (new_at1 (w := w) _)
  obtain ⟨⟨x0, x1, x2, x3⟩, f0, f1, f2, f3⟩ := cells4_of E1
  clear f0 f1 f2 f3 hb1 E1
  have HR := Lib.hid hr
  have HB2 := Lib.hid hb2
  clear hr hb2
  go_wp2_with fail
  go_region_held3 (fun w' => w'.cell? ⟨w.heap.size, 0, none⟩ = some (.int .u64 (s.a.toNat : Int)) ∧ w'.cell? ⟨w.heap.size, 1, none⟩ = some (.int .u64 (s.b.toNat : Int)) ∧ w'.cell? ⟨w.heap.size, 2, none⟩ = some (.int .u64 (s.c.toNat : Int)) ∧ w'.cell? ⟨w.heap.size, 3, none⟩ = some (.int .u64 (s.d.toNat : Int)))
    (go_keep)
    (first
      | (go_at_call 81; refine (HA.out w1.drew).mono ?_; rintro e w2 ⟨rfl, hba⟩; have x0a := keep_cell hba x0; have x1a := keep_cell hba x1; have x2a := keep_cell hba x2; have x3a := keep_cell hba x3)
      | fail)
  have hb3 : Below w.heap.size w w2 := below_from HB2.out.drew hba
  have HR2 : Hid (∀ W, Below w2.heap.size w2 W → Row1 encB W A (bytesOf s)) := fun W hW => ((HR.out.below ((Below.refl _ w1).drew)).below hba).below hW
  have HB3 := Lib.hid hb3
  clear hba hb3 HR HB2 x0 x1 x2 x3 x0a x1a x2a x3a
  cases hd : decide (s = al) with
  | true =>
    rw [hd] at HI hq
    have hlen : (bytesOf s).length = 256 := by have := HI.out; simpa using this.symm
    have HTx := Lib.hid (textS_all s hlen)
    clear hd hlen
    go_wp2_with fail
    go_ret
    exact ⟨by rw [HTx.out]; rfl, HB3.out⟩
  | false =>
    rw [hd] at HI hq
    have hlen : (bytesOf s).length ≠ 256 := by have := HI.out; simpa using this.symm
    have hle : (bytesOf s).length ≤ 256 := bytesTo_length s 256
    clear hd
    by_cases h1 : (bytesOf s).length = 1
    · obtain ⟨x, hx⟩ := List.length_eq_one_iff.1 h1
      have HTx := Lib.hid (textS_one s hx)
      obtain ⟨ad, hA, hcell⟩ := HR2.out w2 (Below.refl _ _) 0 x (by rw [hx]; rfl)
      subst hA
      have g : (((bytesOf s).length : Int) == 1) = true := by simp; omega
      have hcell0 : w2.cell? ad = some (encB x) := hcell
      have g0 : (0 : Int) < ((bytesOf s).length : Int) := by omega
      clear hx h1 hlen
      go_wp2_with fail
      refine (setSign_any x _).mono ?_
      rintro e w3 ⟨rfl, hb4⟩
      have hb5 := below_from HB3.out hb4
      clear hb4
      go_wp2_with fail
      go_ret
      exact ⟨by rw [HTx.out]; rfl, hb5⟩
    · have HTx := Lib.hid (textS_many s hlen h1)
      have g : (((bytesOf s).length : Int) == 1) = false := by simp; omega
      have HTL := Lib.hid (txt_length s 0)
      clear h1 hlen
      go_wp2_with fail
      refine (writeByteC isBld_self 91 91 rfl (Bd.new 122 w2) (Nat.zero_le _)).mono ?_
      rintro e w3 ⟨rfl, hbd, hbk⟩
      have hbw := (below_new (Below.refl _ w2) (.cells #[.pointer none, .slice none 0 0] 122)).trans hbk.1
      have HBD := Lib.hid hbd
      have HBW := Lib.hid hbw
      clear hbd hbk hbw
      go_wp2_with fail
      go_loopw [5] (fun i wr => ∃ (b : Nat) (acc : List UInt8), b ≤ 256 ∧ i = .int .i64 ((bytesTo s b).length : Nat) ∧ Hid (acc ++ txt s b = 91 :: txt s 0) ∧ Hid (acc.length ≤ 7 * b + 1) ∧ Hid (Bd 122 w2.heap.size acc wr) ∧ Hid (Below w2.heap.size w2 wr)) (fun i _ => (bytesOf s).length - (intOf i).toNat)
      case atStart => exact ⟨0, [91], Nat.zero_le _, rfl, rfl, Nat.le_refl _, HBD, HBW⟩
      case round =>
        clear HBD HBW
        obtain ⟨b0, acc, hb0, rfl, HE0, HL0, HBD, HBW⟩ := hrel
        by_cases hlt : (bytesTo s b0).length < (bytesOf s).length
        · obtain ⟨c0, k1, k2, k3, k4, k5⟩ := next_member s 256 b0 (by omega) hb0 hlt
          rw [← k4] at hlt ⊢
          have HE : Hid (acc ++ txt s c0 = 91 :: txt s 0) := by unfold Hid; rw [k5]; exact HE0.out
          have HL : Hid (acc.length ≤ 7 * c0 + 1) := by have := HL0.out; unfold Hid; omega
          have HC := Lib.hid k3
          have hat := (bytes_at s k2 k3).1
          obtain ⟨ad, hA, hcell⟩ := HR2.out wr HBW.out _ _ hat
          subst hA
          have hc8 : ((UInt8.ofNat c0).toNat : Int) = (c0 : Int) := by simp; omega
          simp only [encB, hc8] at hcell
          have HC8 := Lib.hid hc8
          have HIX : Hid (∀ t, c0 ≤ t → t < 256 → s.has t = true → (bytesTo s t).length = (bytesTo s c0).length + (t - c0) → (bytesTo s (t + 1)).length = (bytesTo s c0).length + (t - c0) + 1) := fun t a b c d => run_index s a b c d
          have HMORE : Hid (∀ t, c0 ≤ t → t < 256 → s.has t = true → (bytesTo s t).length = (bytesTo s c0).length + (t - c0) → (t < 255 ∧ s.has (t + 1) = true) → (bytesOf s)[(bytesTo s c0).length + (t - c0) + 1]? = some (UInt8.ofNat (t + 1)) ∧ (bytesTo s c0).length + (t - c0) + 1 < (bytesOf s).length) := fun t a b c d e => run_more s a b c d e
          have HDONE : Hid (∀ t, c0 ≤ t → t < 256 → s.has t = true → (bytesTo s t).length = (bytesTo s c0).length + (t - c0) → ¬ (t < 255 ∧ s.has (t + 1) = true) → ((bytesOf s).length ≤ (bytesTo s c0).length + (t - c0) + 1 ∨
            ((bytesTo s c0).length + (t - c0) + 1 < (bytesOf s).length ∧ t < 255 ∧ ∃ u : UInt8, (bytesOf s)[(bytesTo s c0).length + (t - c0) + 1]? = some u ∧ u.toNat ≠ t + 1))) := fun t a b c d e => run_done s a b c d e
          have HAT : Hid (∀ t, t < 256 → s.has t = true → (bytesTo s t).length = (bytesTo s c0).length + (t - c0) → (bytesOf s)[(bytesTo s c0).length + (t - c0)]? = some (UInt8.ofNat t) ∧ (bytesTo s c0).length + (t - c0) < (bytesOf s).length) := fun t a b c => by have := bytes_at s a b; rwa [c] at this
          obtain ⟨i0, hi0⟩ : ∃ i0, (bytesTo s c0).length = i0 := ⟨_, rfl⟩
          have HI0 := Lib.hid hi0
          have HAT0 := Lib.hid hat
          simp only [hi0] at hlt hcell HIX HMORE HDONE HAT HAT0 ⊢
          clear hi0 hat k1 k4 k5 HE0 HL0 hb0 k3
          have gl : decide ((i0 : Int) < ((bytesOf s).length : Int)) = true := by simp; omega
          go_wp2_with fail
          obtain ⟨wo, rfl⟩ : ∃ wo : World, wo = wr := ⟨_, rfl⟩
          have HCo := Lib.hid hcell
          clear hcell
          go_loopw [6] (fun kx wi => ∃ (t : Nat), c0 ≤ t ∧ t < 256 ∧ Hid (s.has t = true) ∧ Hid ((bytesTo s t).length = i0 + (t - c0)) ∧ kx = .int .i64 (i0 + (t - c0) : Nat) ∧ Hid (runEnd s t = runEnd s c0) ∧ Hid (Bd 122 w2.heap.size acc wi) ∧ Hid (Below w2.heap.size w2 wi)) (fun kx _ => (bytesOf s).length - (intOf kx).toNat)
          case atStart => exact ⟨c0, Nat.le_refl _, k2, HC, by unfold Hid; rw [HI0.out]; omega, by simp, rfl, HBD, HBW⟩
          case round =>
            clear HBD HBW HCo
            obtain ⟨t, ht1, ht2, HH, HIT, rfl, HRE, HBD, HBW⟩ := hrel
            by_cases hm : t < 255 ∧ s.has (t + 1) = true
            · obtain ⟨m1, m2⟩ := HMORE.out t ht1 ht2 HH.out HIT.out hm
              obtain ⟨m3, m4⟩ := HAT.out t ht2 HH.out HIT.out
              obtain ⟨ad1, hA, q1⟩ := HR2.out wr HBW.out _ _ m1
              cases hA
              obtain ⟨ad2, hA, q0⟩ := HR2.out wr HBW.out _ _ m3
              cases hA
              have e1 : ((UInt8.ofNat (t + 1)).toNat : Int) = (t : Int) + 1 := by simp; omega
              have e0 : ((UInt8.ofNat t).toNat : Int) = (t : Int) := by simp; omega
              simp only [encB, e1, e0] at q1 q0
              have HIX2 := Lib.hid (HIX.out t ht1 ht2 HH.out HIT.out)
              have HRE2 : Hid (runEnd s (t + 1) = runEnd s c0) := by rw [← HRE.out]; exact (runEnd_step s hm.1 hm.2).symm
              have HH2 := Lib.hid hm.2
              have h255 := hm.1
              obtain ⟨k, hk⟩ : ∃ k, i0 + (t - c0) = k := ⟨_, rfl⟩
              have HK := Lib.hid hk
              simp only [hk] at m2 m4 q0 q1 HIX2 ⊢
              rw [add_next] at q1
              clear hm e1 e0 hk m1 m3
              have d1 : decide ((k : Int) + 1 < ((bytesOf s).length : Int)) = true := by simp; omega
              have w8 : IntKind.u8.wrap ((t : Int) + 1) = (t : Int) + 1 := by simp [IntKind.wrap, IntKind.bits, IntKind.signed]; omega
              have b1 : (k : Int) + 1 < ((bytesOf s).length : Int) := by omega
              have b0 : (k : Int) < ((bytesOf s).length : Int) := by omega
              have b2 : 0 ≤ (k : Int) + 1 := by omega
              have n1 : ((k : Int) + 1).toNat = k + 1 := by omega
              have n2 : IntKind.i64.wrap ((k : Int) + 1) = (k : Int) + 1 := IntWalk.i64_in _ (by omega)
              have eq1 : (((t : Int) + 1) == ((t : Int) + 1)) = true := by simp
              go_wp2_with fail
              go_quiet (fail)
              clear d1 w8 n1 n2 eq1 q0 q1
              go_wp2_with fail
              go_roundw
              case rel => exact ⟨t + 1, by omega, by omega, HH2, by have := HIX2.out; have := HK.out; unfold Hid; omega, by have := HK.out; go_num, HRE2, HBD, pw_drewN HBW.out nq⟩
              case measure => simp [intOf]; omega
            · have he : runEnd s c0 = t := by rw [← HRE.out]; exact run_end s ht2 hm
              have HST := Lib.hid (step_text s k2 HC.out he HE.out)
              have HIX2 := Lib.hid (HIX.out t ht1 ht2 HH.out HIT.out)
              have HDN := Lib.hid (HDONE.out t ht1 ht2 HH.out HIT.out hm)
              obtain ⟨m3, m4⟩ := HAT.out t ht2 HH.out HIT.out
              obtain ⟨ad2, hA, q0⟩ := HR2.out wr HBW.out _ _ m3
              cases hA
              have e0 : ((UInt8.ofNat t).toNat : Int) = (t : Int) := by simp; omega
              have HT8 := Lib.hid e0
              simp only [encB, e0] at q0
              obtain ⟨k, hk⟩ : ∃ k, i0 + (t - c0) = k := ⟨_, rfl⟩
              have HK := Lib.hid hk
              have M3 := Lib.hid m3
              simp only [hk] at m4 q0 HIX2 HDN M3 ⊢
              clear hm e0 hk m3 he
              have HDN' := HDN.out
              have b0 : (k : Int) < ((bytesOf s).length : Int) := by omega
              have b2 : 0 ≤ (k : Int) + 1 := by omega
              have n1 : ((k : Int) + 1).toNat = k + 1 := by omega
              have n2 : IntKind.i64.wrap ((k : Int) + 1) = (k : Int) + 1 := IntWalk.i64_in _ (by omega)
              rcases HDN' with hA | ⟨hB1, hB2, u, hB3, hB4⟩
              · have d1 : decide ((k : Int) + 1 < ((bytesOf s).length : Int)) = false := by simp; omega
                go_wp2_with fail
                go_quiet (fail)
                have HBDq : Hid (Bd 122 w2.heap.size acc (wr.drewN nq)) := HBD
                have HBWq : Hid (Below w2.heap.size w2 (wr.drewN nq)) := pw_drewN HBW.out nq
                obtain ⟨ad3, hA, p0⟩ := HR2.out (wr.drewN nq) HBWq.out _ _ HAT0.out
                cases hA
                have hc8 := HC8.out
                simp only [encB, hc8] at p0
                clear hc8 d1 q0 n1 n2 HBD HBW
                generalize wr.drewN nq = wq at *
                obtain ⟨j, hj, hj2⟩ : ∃ j, j = t - c0 ∧ (j = 0 ∨ j = 1 ∨ 1 < j) := ⟨_, rfl, by omega⟩
                have hla : acc.length ≤ 2000 := by have := HL.out; omega
                have hki : i0 ≤ k := by have := HK.out; omega
                have hsg := signB_length (UInt8.ofNat c0)
                have hst := signB_length (UInt8.ofNat t)
                rcases hj2 with hj0 | hj1 | hj2
                · have ht : t = c0 := by omega
                  have hk0 : k = i0 := by have := HK.out; omega
                  have HRT : Hid (runText c0 t = signB (UInt8.ofNat c0)) := by unfold Hid runText; simp [ht]
                  have ge1 : decide ((k : Int) > (i0 : Int) + 1) = false := by simp; omega
                  have ge2 : decide ((k : Int) > (i0 : Int)) = false := by simp; omega
                  have ge3 : decide (i0 < k) = false := by simp; omega
                  have HTT := Lib.hid ht
                  clear hk0 ht hj hj0
                  go_wp2_with fail
                  refine (setSignC (c0 : Int) (UInt8.ofNat c0) HC8.out.symm _).mono ?_
                  rintro e wa ⟨rfl, hba⟩
                  have HBDa := Lib.hid (HBDq.out.keep hba)
                  have HBWa := Lib.hid (below_from HBWq.out hba)
                  clear hba
                  go_wp2_with fail
                  refine (writeString_any isBld_self (signB (UInt8.ofNat c0)) HBDa.out (by omega)).mono ?_
                  rintro e wb ⟨rfl, hbd, hbk⟩
                  have HBDb := Lib.hid hbd
                  have HBWb := Lib.hid (HBWa.out.trans hbk.1)
                  clear hbd hbk
                  go_wp2_with fail
                  go_roundw
                  case rel => exact ⟨t + 1, acc ++ runText c0 t, by omega, by have := HIX2.out; rw [this]; go_num, HST, by have := HRT.out; unfold Hid; rw [this, List.length_append]; have := HL.out; have := HTT.out; omega, by have := HRT.out; unfold Hid; rw [this]; exact HBDb.out, HBWb⟩
                  case measure => simp [intOf]; omega
                · have ht : t = c0 + 1 := by omega
                  have hk0 : k = i0 + 1 := by have := HK.out; omega
                  have HRT : Hid (runText c0 t = signB (UInt8.ofNat c0) ++ signB (UInt8.ofNat t)) := by unfold Hid runText; simp [ht]
                  have ge1 : decide ((k : Int) > (i0 : Int) + 1) = false := by simp; omega
                  have ge2 : decide ((k : Int) > (i0 : Int)) = true := by simp; omega
                  have ge3 : decide (i0 < k) = true := by simp; omega
                  have HTT := Lib.hid ht
                  clear hk0 ht hj hj1
                  go_wp2_with fail
                  refine (setSignC (c0 : Int) (UInt8.ofNat c0) HC8.out.symm _).mono ?_
                  rintro e wa ⟨rfl, hba⟩
                  have HBDa := Lib.hid (HBDq.out.keep hba)
                  have HBWa := Lib.hid (below_from HBWq.out hba)
                  clear hba
                  go_wp2_with fail
                  refine (writeString_any isBld_self (signB (UInt8.ofNat c0)) HBDa.out (by omega)).mono ?_
                  rintro e wb ⟨rfl, hbd, hbk⟩
                  have HBDb := Lib.hid hbd
                  have HBWb := Lib.hid (HBWa.out.trans hbk.1)
                  obtain ⟨ad4, hA, p1⟩ := HR2.out wb HBWb.out _ _ M3.out
                  cases hA
                  have ht8 := HT8.out
                  simp only [encB, ht8] at p1
                  clear ht8 hbd hbk
                  go_wp2_with fail
                  refine (setSignC (t : Int) (UInt8.ofNat t) HT8.out.symm _).mono ?_
                  rintro e wc ⟨rfl, hba⟩
                  have HBDc := Lib.hid (HBDb.out.keep hba)
                  have HBWc := Lib.hid (below_from HBWb.out hba)
                  clear hba p1
                  go_wp2_with fail
                  refine (writeString_any isBld_self (signB (UInt8.ofNat t)) HBDc.out (by rw [List.length_append]; omega)).mono ?_
                  rintro e wd ⟨rfl, hbd, hbk⟩
                  have HBDd := Lib.hid hbd
                  have HBWd := Lib.hid (HBWc.out.trans hbk.1)
                  clear hbd hbk
                  go_wp2_with fail
                  go_roundw
                  case rel => exact ⟨t + 1, acc ++ runText c0 t, by omega, by have := HIX2.out; rw [this]; go_num, HST, by have := HRT.out; unfold Hid; rw [this, List.length_append, List.length_append]; have := HL.out; have := HTT.out; omega, by have := HRT.out; unfold Hid; rw [this, ← List.append_assoc]; exact HBDd.out, HBWd⟩
                  case measure => simp [intOf]; omega
                · have ht : c0 + 1 < t := by omega
                  have hk0 : i0 + 1 < k := by have := HK.out; omega
                  have HRT : Hid (runText c0 t = signB (UInt8.ofNat c0) ++ [45] ++ signB (UInt8.ofNat t)) := by unfold Hid runText; rw [if_pos (by omega), if_pos (by omega)]
                  have ge1 : decide ((k : Int) > (i0 : Int) + 1) = true := by simp; omega
                  have ge2 : decide ((k : Int) > (i0 : Int)) = true := by simp; omega
                  have ge3 : decide (i0 < k) = true := by simp; omega
                  go_wp2_with fail
                  refine (setSignC (c0 : Int) (UInt8.ofNat c0) HC8.out.symm _).mono ?_
                  rintro e wa ⟨rfl, hba⟩
                  have HBDa := Lib.hid (HBDq.out.keep hba)
                  have HBWa := Lib.hid (below_from HBWq.out hba)
                  clear hba
                  go_wp2_with fail
                  refine (writeString_any isBld_self (signB (UInt8.ofNat c0)) HBDa.out (by omega)).mono ?_
                  rintro e wb ⟨rfl, hbd, hbk⟩
                  have HBDb := Lib.hid hbd
                  have HBWb := Lib.hid (HBWa.out.trans hbk.1)
                  clear hbd hbk
                  go_wp2_with fail
                  refine (writeByteC isBld_self 45 45 rfl HBDb.out (by rw [List.length_append]; omega)).mono ?_
                  rintro e wc ⟨rfl, hbd, hbk⟩
                  have HBDc := Lib.hid hbd
                  have HBWc := Lib.hid (HBWb.out.trans hbk.1)
                  obtain ⟨ad4, hA, p1⟩ := HR2.out wc HBWc.out _ _ M3.out
                  cases hA
                  have ht8 := HT8.out
                  simp only [encB, ht8] at p1
                  clear ht8 hbd hbk
                  go_wp2_with fail
                  refine (setSignC (t : Int) (UInt8.ofNat t) HT8.out.symm _).mono ?_
                  rintro e wd ⟨rfl, hba⟩
                  have HBDd := Lib.hid (HBDc.out.keep hba)
                  have HBWd := Lib.hid (below_from HBWc.out hba)
                  clear hba p1
                  go_wp2_with fail
                  refine (writeString_any isBld_self (signB (UInt8.ofNat t)) HBDd.out (by rw [List.length_append, List.length_append, List.length_singleton]; omega)).mono ?_
                  rintro e we ⟨rfl, hbd, hbk⟩
                  have HBDe := Lib.hid hbd
                  have HBWe := Lib.hid (HBWd.out.trans hbk.1)
                  clear hbd hbk
                  go_wp2_with fail
                  go_roundw
                  case rel => exact ⟨t + 1, acc ++ runText c0 t, by omega, by have := HIX2.out; rw [this]; go_num, HST, by have := HRT.out; unfold Hid; rw [this, List.length_append, List.length_append, List.length_append, List.length_singleton]; have := HL.out; omega, by have := HRT.out; unfold Hid; rw [this, ← List.append_assoc, ← List.append_assoc]; exact HBDe.out, HBWe⟩
                  case measure => simp [intOf]; omega
              · obtain ⟨ad1, hA, q1⟩ := HR2.out wr HBW.out _ _ hB3
                cases hA
                rw [add_next] at q1
                have d1 : decide ((k : Int) + 1 < ((bytesOf s).length : Int)) = true := by simp; omega
                have w8 : IntKind.u8.wrap ((t : Int) + 1) = (t : Int) + 1 := by simp [IntKind.wrap, IntKind.bits, IntKind.signed]; omega
                have b1 : (k : Int) + 1 < ((bytesOf s).length : Int) := by omega
                have eq1 : ((u.toNat : Int) == ((t : Int) + 1)) = false := by simp; omega
                go_wp2_with fail
                go_quiet (fail)
                have HBDq : Hid (Bd 122 w2.heap.size acc (wr.drewN nq)) := HBD
                have HBWq : Hid (Below w2.heap.size w2 (wr.drewN nq)) := pw_drewN HBW.out nq
                obtain ⟨ad3, hA, p0⟩ := HR2.out (wr.drewN nq) HBWq.out _ _ HAT0.out
                cases hA
                have hc8 := HC8.out
                simp only [encB, hc8] at p0
                clear hc8 d1 q0 n1 n2 HBD HBW
                generalize wr.drewN nq = wq at *
                obtain ⟨j, hj, hj2⟩ : ∃ j, j = t - c0 ∧ (j = 0 ∨ j = 1 ∨ 1 < j) := ⟨_, rfl, by omega⟩
                have hla : acc.length ≤ 2000 := by have := HL.out; omega
                have hki : i0 ≤ k := by have := HK.out; omega
                have hsg := signB_length (UInt8.ofNat c0)
                have hst := signB_length (UInt8.ofNat t)
                rcases hj2 with hj0 | hj1 | hj2
                · have ht : t = c0 := by omega
                  have hk0 : k = i0 := by have := HK.out; omega
                  have HRT : Hid (runText c0 t = signB (UInt8.ofNat c0)) := by unfold Hid runText; simp [ht]
                  have ge1 : decide ((k : Int) > (i0 : Int) + 1) = false := by simp; omega
                  have ge2 : decide ((k : Int) > (i0 : Int)) = false := by simp; omega
                  have ge3 : decide (i0 < k) = false := by simp; omega
                  have HTT := Lib.hid ht
                  clear hk0 ht hj hj0
                  go_wp2_with fail
                  refine (setSignC (c0 : Int) (UInt8.ofNat c0) HC8.out.symm _).mono ?_
                  rintro e wa ⟨rfl, hba⟩
                  have HBDa := Lib.hid (HBDq.out.keep hba)
                  have HBWa := Lib.hid (below_from HBWq.out hba)
                  clear hba
                  go_wp2_with fail
                  refine (writeString_any isBld_self (signB (UInt8.ofNat c0)) HBDa.out (by omega)).mono ?_
                  rintro e wb ⟨rfl, hbd, hbk⟩
                  have HBDb := Lib.hid hbd
                  have HBWb := Lib.hid (HBWa.out.trans hbk.1)
                  clear hbd hbk
                  go_wp2_with fail
                  go_roundw
                  case rel => exact ⟨t + 1, acc ++ runText c0 t, by omega, by have := HIX2.out; rw [this]; go_num, HST, by have := HRT.out; unfold Hid; rw [this, List.length_append]; have := HL.out; have := HTT.out; omega, by have := HRT.out; unfold Hid; rw [this]; exact HBDb.out, HBWb⟩
                  case measure => simp [intOf]; omega
                · have ht : t = c0 + 1 := by omega
                  have hk0 : k = i0 + 1 := by have := HK.out; omega
                  have HRT : Hid (runText c0 t = signB (UInt8.ofNat c0) ++ signB (UInt8.ofNat t)) := by unfold Hid runText; simp [ht]
                  have ge1 : decide ((k : Int) > (i0 : Int) + 1) = false := by simp; omega
                  have ge2 : decide ((k : Int) > (i0 : Int)) = true := by simp; omega
                  have ge3 : decide (i0 < k) = true := by simp; omega
                  have HTT := Lib.hid ht
                  clear hk0 ht hj hj1
                  go_wp2_with fail
                  refine (setSignC (c0 : Int) (UInt8.ofNat c0) HC8.out.symm _).mono ?_
                  rintro e wa ⟨rfl, hba⟩
                  have HBDa := Lib.hid (HBDq.out.keep hba)
                  have HBWa := Lib.hid (below_from HBWq.out hba)
                  clear hba
                  go_wp2_with fail
                  refine (writeString_any isBld_self (signB (UInt8.ofNat c0)) HBDa.out (by omega)).mono ?_
                  rintro e wb ⟨rfl, hbd, hbk⟩
                  have HBDb := Lib.hid hbd
                  have HBWb := Lib.hid (HBWa.out.trans hbk.1)
                  obtain ⟨ad4, hA, p1⟩ := HR2.out wb HBWb.out _ _ M3.out
                  cases hA
                  have ht8 := HT8.out
                  simp only [encB, ht8] at p1
                  clear ht8 hbd hbk
                  go_wp2_with fail
                  refine (setSignC (t : Int) (UInt8.ofNat t) HT8.out.symm _).mono ?_
                  rintro e wc ⟨rfl, hba⟩
                  have HBDc := Lib.hid (HBDb.out.keep hba)
                  have HBWc := Lib.hid (below_from HBWb.out hba)
                  clear hba p1
                  go_wp2_with fail
                  refine (writeString_any isBld_self (signB (UInt8.ofNat t)) HBDc.out (by rw [List.length_append]; omega)).mono ?_
                  rintro e wd ⟨rfl, hbd, hbk⟩
                  have HBDd := Lib.hid hbd
                  have HBWd := Lib.hid (HBWc.out.trans hbk.1)
                  clear hbd hbk
                  go_wp2_with fail
                  go_roundw
                  case rel => exact ⟨t + 1, acc ++ runText c0 t, by omega, by have := HIX2.out; rw [this]; go_num, HST, by have := HRT.out; unfold Hid; rw [this, List.length_append, List.length_append]; have := HL.out; have := HTT.out; omega, by have := HRT.out; unfold Hid; rw [this, ← List.append_assoc]; exact HBDd.out, HBWd⟩
                  case measure => simp [intOf]; omega
                · have ht : c0 + 1 < t := by omega
                  have hk0 : i0 + 1 < k := by have := HK.out; omega
                  have HRT : Hid (runText c0 t = signB (UInt8.ofNat c0) ++ [45] ++ signB (UInt8.ofNat t)) := by unfold Hid runText; rw [if_pos (by omega), if_pos (by omega)]
                  have ge1 : decide ((k : Int) > (i0 : Int) + 1) = true := by simp; omega
                  have ge2 : decide ((k : Int) > (i0 : Int)) = true := by simp; omega
                  have ge3 : decide (i0 < k) = true := by simp; omega
                  go_wp2_with fail
                  refine (setSignC (c0 : Int) (UInt8.ofNat c0) HC8.out.symm _).mono ?_
                  rintro e wa ⟨rfl, hba⟩
                  have HBDa := Lib.hid (HBDq.out.keep hba)
                  have HBWa := Lib.hid (below_from HBWq.out hba)
                  clear hba
                  go_wp2_with fail
                  refine (writeString_any isBld_self (signB (UInt8.ofNat c0)) HBDa.out (by omega)).mono ?_
                  rintro e wb ⟨rfl, hbd, hbk⟩
                  have HBDb := Lib.hid hbd
                  have HBWb := Lib.hid (HBWa.out.trans hbk.1)
                  clear hbd hbk
                  go_wp2_with fail
                  refine (writeByteC isBld_self 45 45 rfl HBDb.out (by rw [List.length_append]; omega)).mono ?_
                  rintro e wc ⟨rfl, hbd, hbk⟩
                  have HBDc := Lib.hid hbd
                  have HBWc := Lib.hid (HBWb.out.trans hbk.1)
                  obtain ⟨ad4, hA, p1⟩ := HR2.out wc HBWc.out _ _ M3.out
                  cases hA
                  have ht8 := HT8.out
                  simp only [encB, ht8] at p1
                  clear ht8 hbd hbk
                  go_wp2_with fail
                  refine (setSignC (t : Int) (UInt8.ofNat t) HT8.out.symm _).mono ?_
                  rintro e wd ⟨rfl, hba⟩
                  have HBDd := Lib.hid (HBDc.out.keep hba)
                  have HBWd := Lib.hid (below_from HBWc.out hba)
                  clear hba p1
                  go_wp2_with fail
                  refine (writeString_any isBld_self (signB (UInt8.ofNat t)) HBDd.out (by rw [List.length_append, List.length_append, List.length_singleton]; omega)).mono ?_
                  rintro e we ⟨rfl, hbd, hbk⟩
                  have HBDe := Lib.hid hbd
                  have HBWe := Lib.hid (HBWd.out.trans hbk.1)
                  clear hbd hbk
                  go_wp2_with fail
                  go_roundw
                  case rel => exact ⟨t + 1, acc ++ runText c0 t, by omega, by have := HIX2.out; rw [this]; go_num, HST, by have := HRT.out; unfold Hid; rw [this, List.length_append, List.length_append, List.length_append, List.length_singleton]; have := HL.out; omega, by have := HRT.out; unfold Hid; rw [this, ← List.append_assoc, ← List.append_assoc]; exact HBDe.out, HBWe⟩
                  case measure => simp [intOf]; omega
        · have HN := Lib.hid (no_member s 256 b0 (by omega) hb0 (by have := bytesTo_le s hb0; unfold bytesOf at hlt ⊢; omega))
          have HE2 : Hid (acc = 91 :: txt s 0) := by have h := HE0.out; rw [HN.out, List.append_nil] at h; exact h
          have gl : decide (((bytesTo s b0).length : Int) < ((bytesOf s).length : Int)) = false := by simp; omega
          have gl2 : decide ((bytesTo s b0).length < (bytesOf s).length) = false := by simp; omega
          have hal : acc.length ≤ 100000000000 := by have := HL0.out; omega
          clear HE0 HL0 HN
          go_wp2_with fail
          refine (writeByteC isBld_self 93 93 rfl HBD.out hal).mono ?_
          rintro e w4 ⟨rfl, hbd, hbk⟩
          have HBD4 := Lib.hid hbd
          have HB4 := Lib.hid (HBW.out.trans hbk.1)
          clear hbd hbk HBD HBW
          go_wp2_with fail
          refine (string_any HBD4.out).mono ?_
          rintro e w5 ⟨rfl, hb5⟩
          have hb6 := below_from HB3.out (HB4.out.trans hb5)
          clear hb5
          go_wp2_with fail
          go_ret
          exact ⟨by rw [HTx.out, HE2.out]; rfl, hb6⟩
end Go.Proofs.YtfbnlpoinieijaaGreatDoor
namespace Go.Proofs.YtfbnlpoinieijaaGreatDoor
open Go.RowKit
set_option linter.unusedVariables false
set_option linter.unusedSimpArgs false

theorem dropWhile_nil {p : UInt8 → Bool} (l : List UInt8) : (l.dropWhile p = []) ↔ l.all p = true := by
  induction l with
  | nil => simp
  | cons x l ih =>
    simp only [List.dropWhile, List.all_cons]
    cases h : p x with
    | true => simp [ih]
    | false => simp
theorem trim_bits (l : List UInt8) : (Lib.trimS l [48, 49] == []) = bitsB l := by
  have hp : ∀ x : UInt8, [(48 : UInt8), 49].contains x = (x == 48 || x == 49) := fun x => by
    simp only [List.contains, List.elem]
    cases x == 48 <;> cases x == 49 <;> rfl
  rw [Bool.eq_iff_iff, beq_iff_eq]
  unfold Lib.trimS Lib.trimLeftS Lib.trimRightS bitsB
  rw [dropWhile_nil]
  simp only [hp]
  constructor
  · intro h
    have h2 : l.reverse.dropWhile (fun x => x == 48 || x == 49) = [] := by
      generalize hq : l.reverse.dropWhile (fun x => x == 48 || x == 49) = q at *
      cases q with
      | nil => rfl
      | cons y q =>
        exfalso
        have h3 : (y == 48 || y == 49) = true := List.all_eq_true.1 h y (by simp)
        have h4 : ∀ m : List UInt8, m.dropWhile (fun x => x == 48 || x == 49) = y :: q → (y == 48 || y == 49) = false := by
          intro m
          induction m with
          | nil => intro e; simp at e
          | cons z m ih =>
            intro e
            simp only [List.dropWhile] at e
            cases hz : (z == 48 || z == 49) with
            | true => rw [hz] at e; exact ih e
            | false => rw [hz] at e; cases e; exact hz
        rw [h4 _ hq] at h3
        cases h3
    rw [dropWhile_nil] at h2
    simpa using h2
  · intro h
    have h2 : l.reverse.dropWhile (fun x => x == 48 || x == 49) = [] := by
      rw [dropWhile_nil]
      simpa using h
    rw [h2]
    rfl
theorem trim_any (l : List UInt8) (w : World) (hl : l.length ≤ 9223372036854775807) :
    Calls Tryz.prog 87 #[.string (str l), .string (str [48, 49])] w fun e w' => e = .returned (.string (str (Lib.trimS l [48, 49]))) ∧ Below w.heap.size w w' := by
  have := Go.Proofs.Any.strings_Trim_laid Tryz.lays160 (by kernel_rfl) (str l) (str [48, 49]) w (by rw [str_size]; exact hl) (by decide) (Go.Proofs.ascii_of_all (by decide))
  rw [show (str l).data.toList = l by simp, show (str [48, 49]).data.toList = [48, 49] from rfl] at this
  exact this

set_option maxRecDepth 100000 in
set_option maxHeartbeats 4000000 in
theorem cnode_any (h : CH) (A : Option Addr) (n c : Nat) (w : World) (hn : n ≤ 1000000000) (hl : h.b.length ≤ 1000000000) :
    Calls Tryz.prog 68 #[coV h A n c] w fun e w' => e = .returned (.bool (okNodeC h n)) ∧ Below w.heap.size w w' := by
  have hk := h.k.toNat_lt
  have hq := run_eql_zero h.s
  have hb : Below w.heap.size w (w.alloc (.cells (coA h A n c) 27)) := below_new (Below.refl _ _) _
  have HN := Lib.hid (new_at1 (w := w) (.cells (coA h A n c) 27))
  have HO : Hid (okNodeC h n = (bitsB h.b && if h.k.toNat = 1 then decide (n = 0) && (decide (h.s = S4.zero) && (h.b == []))
      else if h.k.toNat = 2 then decide (n = 0) && decide (h.s = S4.zero)
      else if h.k.toNat = 3 then decide (n = 0) && !decide (h.s = S4.zero)
      else if h.k.toNat = 4 then decide (n = 2) && decide (h.s = S4.zero)
      else if h.k.toNat = 5 then decide (h.s = S4.zero)
      else if h.k.toNat = 6 then decide (n = 1) && decide (h.s = S4.zero) else false)) := rfl
  have e0 : ((n : Int) == 0) = decide (n = 0) := by rw [Bool.eq_iff_iff]; simp
  have e1 : ((n : Int) == 1) = decide (n = 1) := by rw [Bool.eq_iff_iff]; simp; omega
  have e2 : ((n : Int) == 2) = decide (n = 2) := by rw [Bool.eq_iff_iff]; simp; omega
  have HT := Lib.hid (fun X => trim_any h.b X (by omega))
  have HB := Lib.hid (trim_bits h.b)
  generalize Lib.trimS h.b [48, 49] = tr at *
  generalize decide (h.s = S4.zero) = bz at *
  go_enter Tryz.func68, Tryz.ntmps68
  go_wp2_with fail
  go_quiet (fail)
  clear hq
  have hbq := Lib.hid (pw_drewN hb nq)
  have HNq : Hid (((w.alloc (.cells (coA h A n c) 27)).drewN nq).heap[w.heap.size]? = some (.cells (coA h A n c) 27 (0, 0))) := HN.out
  generalize (w.alloc (.cells (coA h A n c) 27)).drewN nq = W at *
  obtain ⟨x0, x1, x2, x3, x4, x5, x6⟩ := co_at_box HNq.out
  clear hb HN
  go_wp2_with fail
  refine (HT.out W).mono ?_
  rintro e w1 ⟨rfl, hb1⟩
  have hb2 := Lib.hid (below_from hbq.out hb1)
  clear x0 x1 x2 x3 x4 x5 x6
  obtain ⟨x0, x1, x2, x3, x4, x5, x6⟩ := co_at_box ((hb1.block _ (lt_of_block HNq.out)).trans HNq.out)
  clear hb1 HNq hbq HT
  cases hbb : bitsB h.b with
  | false =>
    rw [hbb] at HB HO
    have htr : (tr == []) = false := HB.out
    clear hbb HB
    go_wp2_with fail
    go_ret
    exact ⟨by rw [HO.out]; rfl, hb2.out⟩
  | true =>
    rw [hbb] at HB HO
    have htr : tr = [] := by have := HB.out; simpa using this
    subst htr
    clear hbb HB
    have hcase : h.k.toNat = 1 ∨ h.k.toNat = 2 ∨ h.k.toNat = 3 ∨ h.k.toNat = 4 ∨ h.k.toNat = 5 ∨ h.k.toNat = 6 ∨ h.k.toNat = 0 ∨ 6 < h.k.toNat := by omega
    generalize h.k.toNat = kk at *
    rcases hcase with rfl | rfl | rfl | rfl | rfl | rfl | rfl | h6
    · by_cases hm : n = 0
      · subst hm
        cases bz with
        | false =>
          go_wp2_with fail
          go_ret
          exact ⟨by rw [HO.out]; rfl, hb2.out⟩
        | true =>
          go_wp2_with fail
          go_ret
          refine ⟨?_, hb2.out⟩
          rw [HO.out]
          refine ret_bool ?_
          cases h.b <;> rfl
      · rw [decide_eq_false hm] at e0
        go_wp2_with fail
        go_ret
        refine ⟨?_, hb2.out⟩
        rw [HO.out]
        refine ret_bool ?_
        simp [hm]
    · by_cases hm : n = 0
      · subst hm
        go_wp2_with fail
        go_ret
        exact ⟨by rw [HO.out]; rfl, hb2.out⟩
      · rw [decide_eq_false hm] at e0
        go_wp2_with fail
        go_ret
        refine ⟨?_, hb2.out⟩
        rw [HO.out]
        refine ret_bool ?_
        simp [hm]
    · by_cases hm : n = 0
      · subst hm
        go_wp2_with fail
        go_ret
        exact ⟨by rw [HO.out]; rfl, hb2.out⟩
      · rw [decide_eq_false hm] at e0
        go_wp2_with fail
        go_ret
        refine ⟨?_, hb2.out⟩
        rw [HO.out]
        refine ret_bool ?_
        simp [hm]
    · by_cases hm : n = 2
      · subst hm
        go_wp2_with fail
        go_ret
        exact ⟨by rw [HO.out]; rfl, hb2.out⟩
      · rw [decide_eq_false hm] at e2
        go_wp2_with fail
        go_ret
        refine ⟨?_, hb2.out⟩
        rw [HO.out]
        refine ret_bool ?_
        simp [hm]
    · go_wp2_with fail
      go_ret
      exact ⟨by rw [HO.out]; rfl, hb2.out⟩
    · by_cases hm : n = 1
      · subst hm
        go_wp2_with fail
        go_ret
        exact ⟨by rw [HO.out]; rfl, hb2.out⟩
      · rw [decide_eq_false hm] at e1
        go_wp2_with fail
        go_ret
        refine ⟨?_, hb2.out⟩
        rw [HO.out]
        refine ret_bool ?_
        simp [hm]
    · go_wp2_with fail
      go_ret
      exact ⟨by rw [HO.out]; rfl, hb2.out⟩
    · have g1 : ((kk : Int) == 1) = false := by simp; omega
      have g2 : ((kk : Int) == 2) = false := by simp; omega
      have g3 : ((kk : Int) == 3) = false := by simp; omega
      have g4 : ((kk : Int) == 4) = false := by simp; omega
      have g5 : ((kk : Int) == 5) = false := by simp; omega
      have g6 : ((kk : Int) == 6) = false := by simp; omega
      go_wp2_with fail
      go_ret
      refine ⟨?_, hb2.out⟩
      rw [HO.out]
      refine ret_bool ?_
      rw [if_neg (by omega), if_neg (by omega), if_neg (by omega), if_neg (by omega), if_neg (by omega), if_neg (by omega)]
      rfl
end Go.Proofs.YtfbnlpoinieijaaGreatDoor
namespace Go.Proofs.YtfbnlpoinieijaaGreatDoor
open Go.RowKit
set_option linter.unusedVariables false
set_option linter.unusedSimpArgs false

/-- no node has bits beyond measure -/
def shortC (t : Co) : Prop := ∀ x ∈ t.all, x.head.b.length ≤ 1000000000
theorem shortC.head {h : CH} {ks : List Co} (H : shortC (.mk h ks)) : h.b.length ≤ 1000000000 := H (.mk h ks) (by simp [T.all])
theorem alls_mem {x t : Co} : ∀ {ks : List Co}, t ∈ ks → x ∈ t.all → x ∈ T.alls ks
  | [], h, _ => by cases h
  | y :: ks, h, hx => by
    simp only [T.alls, List.mem_append]
    rcases List.mem_cons.1 h with rfl | h
    · exact .inl hx
    · exact .inr (alls_mem h hx)
theorem shortC.kid {h : CH} {ks : List Co} (H : shortC (.mk h ks)) {t : Co} (ht : t ∈ ks) : shortC t := fun x hx => H x (by simp only [T.all, List.mem_cons]; exact .inr (alls_mem ht hx))

set_option maxHeartbeats 1000000 in
theorem idx_cnodes {ok : Nat → Prop} (p : Co → Bool) (ts : List Co) (A : Option Addr) (c : Nat) (w : World)  (hr : InRow CE ok w ts A 0) (hm : ts.length ≤ 1000000000)
    (hcall : ∀ (h : CH) (ks : List Co) (A1 : Option Addr) (c1 : Nat) (w1 : World), T.mk h ks ∈ ts → ks.length ≤ c1 → InRow CE ok w1 ks A1 0 → Below w.heap.size w w1 →
      Calls Tryz.prog 69 #[coV h A1 ks.length c1] w1 fun e w' => e = .returned (.bool (p (.mk h ks))) ∧ Below w1.heap.size w1 w') :
    Calls Tryz.prog 67 #[.slice A ts.length c, .func (.func 69) #[] #[]] w fun e w' => e = .returned (.int .i64 (idx p ts)) ∧ Below w.heap.size w w' := by
  have HC := Lib.hid hcall
  clear hcall
  go_enter Tryz.func67, Tryz.ntmps67
  go_wp2_with fail
  go_loopw [5, 8] (fun _ i wr => ∃ k : Nat, k ≤ ts.length ∧ i = .int .i64 k ∧ (∀ (j : Nat) (y : Co), j < k → ts[j]? = some y → p y = false) ∧ Below w.heap.size w wr) (fun _ i _ => ts.length - (intOf i).toNat)
  case atStart => exact ⟨0, Nat.zero_le _, rfl, fun j y h => absurd h (by omega), Below.refl _ _⟩
  case round =>
    obtain ⟨k, hk, rfl, hn, hb⟩ := hrel
    have HN := Lib.hid hn
    clear hn
    by_cases hlt : k < ts.length
    · obtain ⟨t, ad, h, ks, A1, c1, hA, hx, rfl, hc1, hr1, q0, q1, q2, q3, q4, q5, q6⟩ := co_at (hr.below hb) hlt
      subst hA
      have HX := Lib.hid hx
      have hmem := List.mem_of_getElem? hx
      clear hx hr
      go_wp2_with fail
      refine (HC.out h ks A1 c1 _ hmem hc1 hr1 hb).mono ?_
      rintro e w1 ⟨rfl, hb1⟩
      have hb2 := below_from hb hb1
      clear hb1 hr1 q0 q1 q2 q3 q4 q5 q6
      rcases hp : p (.mk h ks) with _ | _
      · have HP := Lib.hid hp
        clear hp
        go_wp2_with fail
        go_roundw
        case rel => exact ⟨k + 1, by omega, by go_num, fun j y hj hy => by
          by_cases e : j = k
          · subst e; rw [HX.out] at hy; cases hy; exact HP.out
          · exact HN.out j y (by omega) hy, hb2⟩
        case measure => simp [intOf]; omega
      · have HP := Lib.hid hp
        clear hp
        go_wp2_with fail
        go_ret
        exact ⟨by rw [idx_at _ ts k _ HX.out (fun j y hj hy => HN.out j y hj hy) HP.out]; rfl, hb2⟩
    · have hfin := Lib.hid (idx_none p ts fun j y hy => HN.out j y (by
        have := (List.getElem?_eq_some_iff.1 hy).1; omega) hy)
      go_wp2_with fail
      go_ret
      exact ⟨by rw [hfin.out]; rfl, hb⟩

theorem has_cnodes {ok : Nat → Prop} (p : Co → Bool) (ts : List Co) (A : Option Addr) (c : Nat) (w : World)  (hr : InRow CE ok w ts A 0) (hm : ts.length ≤ 1000000000)
    (hcall : ∀ (h : CH) (ks : List Co) (A1 : Option Addr) (c1 : Nat) (w1 : World), T.mk h ks ∈ ts → ks.length ≤ c1 → InRow CE ok w1 ks A1 0 → Below w.heap.size w w1 →
      Calls Tryz.prog 69 #[coV h A1 ks.length c1] w1 fun e w' => e = .returned (.bool (p (.mk h ks))) ∧ Below w1.heap.size w1 w') :
    Calls Tryz.prog 45 #[.slice A ts.length c, .func (.func 69) #[] #[]] w fun e w' => e = .returned (.bool (ts.any p)) ∧ Below w.heap.size w w' := by
  have HC := Lib.hid hcall
  clear hcall
  have HA := Lib.hid (idx_any p ts)
  go_enter Tryz.func45, Tryz.ntmps45
  go_wp2_with fail
  refine (idx_cnodes p ts A c _ hr hm HC.out).mono ?_
  rintro e w1 ⟨rfl, hb⟩
  go_wp2_with fail
  go_ret
  exact ⟨by rw [← HA.out]; rfl, hb⟩


set_option maxHeartbeats 1000000 in
theorem idx_cmay {ok : Nat → Prop} (p : Co → Bool) (ts : List Co) (A : Option Addr) (c : Nat) (w : World)  (hr : InRow CE ok w ts A 0) (hm : ts.length ≤ 1000000000)
    (hcall : ∀ (h : CH) (ks : List Co) (A1 : Option Addr) (c1 : Nat) (w1 : World), T.mk h ks ∈ ts → ks.length ≤ c1 → InRow CE ok w1 ks A1 0 → Below w.heap.size w w1 →
      Calls Tryz.prog 46 #[coV h A1 ks.length c1] w1 fun e w' => e = .returned (.bool (p (.mk h ks))) ∧ Below w1.heap.size w1 w') :
    Calls Tryz.prog 67 #[.slice A ts.length c, .func (.func 46) #[] #[]] w fun e w' => e = .returned (.int .i64 (idx p ts)) ∧ Below w.heap.size w w' := by
  have HC := Lib.hid hcall
  clear hcall
  go_enter Tryz.func67, Tryz.ntmps67
  go_wp2_with fail
  go_loopw [5, 8] (fun _ i wr => ∃ k : Nat, k ≤ ts.length ∧ i = .int .i64 k ∧ (∀ (j : Nat) (y : Co), j < k → ts[j]? = some y → p y = false) ∧ Below w.heap.size w wr) (fun _ i _ => ts.length - (intOf i).toNat)
  case atStart => exact ⟨0, Nat.zero_le _, rfl, fun j y h => absurd h (by omega), Below.refl _ _⟩
  case round =>
    obtain ⟨k, hk, rfl, hn, hb⟩ := hrel
    have HN := Lib.hid hn
    clear hn
    by_cases hlt : k < ts.length
    · obtain ⟨t, ad, h, ks, A1, c1, hA, hx, rfl, hc1, hr1, q0, q1, q2, q3, q4, q5, q6⟩ := co_at (hr.below hb) hlt
      subst hA
      have HX := Lib.hid hx
      have hmem := List.mem_of_getElem? hx
      clear hx hr
      go_wp2_with fail
      refine (HC.out h ks A1 c1 _ hmem hc1 hr1 hb).mono ?_
      rintro e w1 ⟨rfl, hb1⟩
      have hb2 := below_from hb hb1
      clear hb1 hr1 q0 q1 q2 q3 q4 q5 q6
      rcases hp : p (.mk h ks) with _ | _
      · have HP := Lib.hid hp
        clear hp
        go_wp2_with fail
        go_roundw
        case rel => exact ⟨k + 1, by omega, by go_num, fun j y hj hy => by
          by_cases e : j = k
          · subst e; rw [HX.out] at hy; cases hy; exact HP.out
          · exact HN.out j y (by omega) hy, hb2⟩
        case measure => simp [intOf]; omega
      · have HP := Lib.hid hp
        clear hp
        go_wp2_with fail
        go_ret
        exact ⟨by rw [idx_at _ ts k _ HX.out (fun j y hj hy => HN.out j y hj hy) HP.out]; rfl, hb2⟩
    · have hfin := Lib.hid (idx_none p ts fun j y hy => HN.out j y (by
        have := (List.getElem?_eq_some_iff.1 hy).1; omega) hy)
      go_wp2_with fail
      go_ret
      exact ⟨by rw [hfin.out]; rfl, hb⟩

theorem has_cmay {ok : Nat → Prop} (p : Co → Bool) (ts : List Co) (A : Option Addr) (c : Nat) (w : World)  (hr : InRow CE ok w ts A 0) (hm : ts.length ≤ 1000000000)
    (hcall : ∀ (h : CH) (ks : List Co) (A1 : Option Addr) (c1 : Nat) (w1 : World), T.mk h ks ∈ ts → ks.length ≤ c1 → InRow CE ok w1 ks A1 0 → Below w.heap.size w w1 →
      Calls Tryz.prog 46 #[coV h A1 ks.length c1] w1 fun e w' => e = .returned (.bool (p (.mk h ks))) ∧ Below w1.heap.size w1 w') :
    Calls Tryz.prog 45 #[.slice A ts.length c, .func (.func 46) #[] #[]] w fun e w' => e = .returned (.bool (ts.any p)) ∧ Below w.heap.size w w' := by
  have HC := Lib.hid hcall
  clear hcall
  have HA := Lib.hid (idx_any p ts)
  go_enter Tryz.func45, Tryz.ntmps45
  go_wp2_with fail
  refine (idx_cmay p ts A c _ hr hm HC.out).mono ?_
  rintro e w1 ⟨rfl, hb⟩
  go_wp2_with fail
  go_ret
  exact ⟨by rw [← HA.out]; rfl, hb⟩

theorem any_not_okC (ts : List Co) : (!ts.any fun t => !okC t) = okCL ts := by rw [okCL_all, List.all_eq_not_any_not]
set_option maxHeartbeats 1000000 in
theorem cnodes_upto (n : Nat) : ∀ (ok : Nat → Prop) (h : CH) (ks : List Co) (A : Option Addr) (c : Nat) (w : World), 1 + T.sizes ks ≤ n → n ≤ 1000000000 → ks.length ≤ c → InRow CE ok w ks A 0 → shortC (.mk h ks) →
    Calls Tryz.prog 47 #[coV h A ks.length c] w fun e w' => e = .returned (.bool (okC (.mk h ks))) ∧ Below w.heap.size w w' := by
  induction n with
  | zero => intro ok h ks A c w h0; omega
  | succ n ih =>
    intro ok h ks A c w hn hm hc hr hsh
    have HSH := Lib.hid hsh
    clear hsh
    have hl := T.length_le_sizes ks
    have IH := Lib.hid ih
    clear ih
    have HO : Hid (okC (.mk h ks) = (okNodeC h ks.length && okCL ks)) := by simp [Hid, okC]
    have HA := Lib.hid (any_not_okC ks)
    have hsz : ∀ t ∈ ks, t.size ≤ n := fun t ht => by have := T.sizes_mem ht; omega
    have HS := Lib.hid hsz
    clear hsz
    have hlm : ks.length ≤ 1000000000 := by omega
    have hcall : ∀ (h1 : CH) (ls : List Co) (A1 : Option Addr) (c1 : Nat) (w1 : World), T.mk h1 ls ∈ ks → ls.length ≤ c1 → InRow CE ok w1 ls A1 0 →
        Calls Tryz.prog 69 #[coV h1 A1 ls.length c1] w1 fun e w' => e = .returned (.bool (!okC (.mk h1 ls))) ∧ Below w1.heap.size w1 w' := by
      intro h1 ls A1 c1 w1 hmem hc1 hr1
      have hsz1 := HS.out _ hmem
      simp only [T.size] at hsz1
      clear hr HO HA
      go_enter Tryz.func69, Tryz.ntmps69
      go_wp2_with fail
      refine (IH.out ok h1 ls A1 c1 _ hsz1 (by omega) hc1 (hr1.below (below_new (Below.refl _ _) _)) (HSH.out.kid hmem)).mono ?_
      rintro e w2 ⟨rfl, hb⟩
      have hb2 := below_from (below_new (Below.refl _ _) _) hb
      clear hb
      go_wp2_with fail
      go_ret
      exact ⟨rfl, hb2⟩
    replace hcall := Lib.hid hcall
    have hrn : ∀ o, InRow CE ok (w.alloc o) ks A 0 := fun o => hr.below (below_new (Below.refl _ _) o)
    go_enter Tryz.func47, Tryz.ntmps47
    go_wp2_with fail
    refine (cnode_any h A ks.length c _ hlm HSH.out.head).mono ?_
    rintro e w1 ⟨rfl, hb1⟩
    have hr1 := (hrn _).below hb1
    have hq5 : w1.cell? ⟨w.heap.size, 6, none⟩ = some (.slice A ks.length c) := keep_cell hb1 (by rw [cell_of_row _ _ _ _ _ _ (heap_alloc_new w _)]; rfl)
    have hb2 := below_from (below_new (Below.refl _ _) _) hb1
    clear hb1 hrn hr
    rcases hnode : okNodeC h ks.length with _ | _
    · rw [hnode] at HO
      clear hnode
      go_wp2_with fail
      go_ret
      exact ⟨by rw [HO.out]; rfl, hb2⟩
    · rw [hnode] at HO
      clear hnode
      go_wp2_with fail
      refine (has_cnodes (fun t => !okC t) ks A c _ hr1 hlm (fun h1 ls A1 c1 w2 hmem hc1 hr2 _ => hcall.out h1 ls A1 c1 w2 hmem hc1 hr2)).mono ?_
      rintro e w3 ⟨rfl, hb3⟩
      have hb4 := below_from hb2 hb3
      clear hb3 hb2
      go_wp2_with fail
      go_ret
      exact ⟨by rw [HO.out, ← HA.out]; rfl, hb4⟩

set_option maxHeartbeats 400000 in
theorem cSize_upto (n : Nat) : ∀ (ok : Nat → Prop) (ts : List Co) (A : Option Addr) (c : Nat) (w : World), T.sizes ts ≤ n → n ≤ 1000000000 → InRow CE ok w ts A 0 →
    Calls Tryz.prog 48 #[.slice A ts.length c] w fun e w' => e = .returned (.int .i64 (T.sizes ts)) ∧ Below w.heap.size w w' := by
  induction n with
  | zero =>
    intro ok ts A c w hn hm hr
    have hl := T.length_le_sizes ts
    have h0 : ts = [] := List.eq_nil_of_length_eq_zero (by omega)
    subst h0
    show Calls Tryz.prog 48 #[.slice A 0 c] w _
    go_enter Tryz.func48, Tryz.ntmps48
    go_wp2_with fail
    go_loopw [3, 10] (fun s i wr => i = .int .i64 0 ∧ s = .int .i64 0 ∧ wr = w) (fun _ i _ => 0)
    case atStart => exact ⟨rfl, rfl, rfl⟩
    case round =>
      obtain ⟨rfl, rfl, rfl⟩ := hrel
      go_wp2_with fail
      go_ret
      exact ⟨rfl, Below.refl _ _⟩
  | succ n ih =>
    intro ok ts A c w hn hm hr
    have hl := T.length_le_sizes ts
    have hse := Lib.hid (sizes_eq ts)
    have IH := Lib.hid ih
    clear ih
    go_enter Tryz.func48, Tryz.ntmps48
    go_wp2_with fail
    go_loopw [3, 10] (fun s i wr => ∃ k : Nat, k ≤ ts.length ∧ i = .int .i64 k ∧ s = .int .i64 ((ts.length + subs (ts.take k) : Nat) : Int) ∧ Below w.heap.size w wr) (fun _ i _ => ts.length - (intOf i).toNat)
    case atStart => exact ⟨0, Nat.zero_le _, rfl, by simp [subs], Below.refl _ _⟩
    case round =>
      obtain ⟨k, hk, rfl, rfl, hb⟩ := hrel
      have hsub := subs_le ts k
      have hsz' : ts.length + subs ts ≤ n + 1 := by have := hse.out; omega
      by_cases hlt : k < ts.length
      · obtain ⟨t, ad, h, ks, A1, c1, hA, hx, rfl, hc1, hr1, q0, q1, q2, q3, q4, q5, q6⟩ := co_at (hr.below hb) hlt
        subst hA
        have hst := Lib.hid (subs_take hx)
        have hle2 := subs_le ts (k+1)
        have hks : T.sizes ks ≤ n := by have := hst.out; simp only [T.kids] at this; omega
        clear hx hr
        have hr2 : ∀ o, InRow CE ok (wr.alloc o) ks A1 0 := fun o => hr1.below (below_new (Below.refl _ _) o)
        go_wp2_with fail
        refine (IH.out ok ks A1 c1 _ hks (by omega) (hr2 _)).mono ?_
        rintro e w1 ⟨rfl, hb1⟩
        have hb2 := below_from (below_new hb _) hb1
        clear hb1 hr2 hr1 q0 q1 q2 q3 q4 q5 q6
        go_wp2_with fail
        go_roundw
        case rel => exact ⟨k + 1, by omega, by go_num, by have := hst.out; simp only [T.kids] at this; rw [this]; go_num, hb2⟩
        case measure => simp [intOf]; omega
      · have hkk : k = ts.length := by omega
        subst hkk
        clear hlt
        go_wp2_with fail
        go_ret
        refine ⟨?_, hb⟩
        rw [hse.out]; simp

set_option maxHeartbeats 400000 in
theorem cmayLit_any {ok : Nat → Prop} (h : CH) (ks : List Co) (A : Option Addr) (c : Nat) (w : World) (hm : T.sizes ks ≤ 900000000) (hc : ks.length ≤ c) (hr : InRow CE ok w ks A 0) (hsh : shortC (.mk h ks)) :
    Calls Tryz.prog 46 #[coV h A ks.length c] w fun e w' => e = .returned (.bool (!mayC (.mk h ks))) ∧ Below w.heap.size w w' := by
  have HM : Hid (mayC (.mk h ks) = (okC (.mk h ks) && decide (1 + T.sizes ks ≤ 20000))) := by unfold Hid mayC; rw [show T.size (T.mk h ks) = 1 + T.sizes ks by simp only [T.size]]
  have hrn : ∀ o, InRow CE ok (w.alloc o) ks A 0 := fun o => hr.below (below_new (Below.refl _ _) o)
  go_enter Tryz.func46, Tryz.ntmps46
  go_wp2_with fail
  refine (cnodes_upto 1000000000 ok h ks A c _ (by omega) (Nat.le_refl _) hc (hrn _) hsh).mono ?_
  rintro e w1 ⟨rfl, hb1⟩
  have q : ∀ j u, (#[Value.int .u8 (h.k.toNat : Int), .string (str h.b), .int .u64 (h.s.a.toNat : Int), .int .u64 (h.s.b.toNat : Int), .int .u64 (h.s.c.toNat : Int), .int .u64 (h.s.d.toNat : Int), .slice A ks.length c] : Array Value)[j]? = some u → w1.cell? ⟨w.heap.size, j, none⟩ = some u :=
    fun j u hu => keep_cell hb1 (by rw [cell_of_row _ _ _ _ _ _ (heap_alloc_new w _)]; exact hu)
  have q0 := q 0 _ rfl
  have q1 := q 1 _ rfl
  have q2 := q 2 _ rfl
  have q3 := q 3 _ rfl
  have q4 := q 4 _ rfl
  have q5 := q 5 _ rfl
  have q6 := q 6 _ rfl
  clear q
  have hr1 := (hrn _).below hb1
  have hb2 := below_from (below_new (Below.refl _ _) _) hb1
  clear hb1 hrn hr
  rcases hnode : okC (.mk h ks) with _ | _
  · rw [hnode] at HM
    clear hnode
    go_wp2_with fail
    go_ret
    exact ⟨by rw [HM.out]; rfl, hb2⟩
  · rw [hnode] at HM
    clear hnode
    have hrow : ∀ cs, cs = #[Value.int .u8 (h.k.toNat : Int), .string (str h.b), .int .u64 (h.s.a.toNat : Int), .int .u64 (h.s.b.toNat : Int), .int .u64 (h.s.c.toNat : Int), .int .u64 (h.s.d.toNat : Int), .slice A ks.length c] →
        InRow CE (fun _ => True) (w1.alloc (.cells cs 27)) [.mk h ks] (some ⟨w1.heap.size, 0, none⟩) 0 := by
      rintro cs rfl
      simp only [InRow, InT]
      refine ⟨⟨_, _, rfl, trivial, fun j u hu => ?_, A, c, rfl, hc, (hr1.weak fun _ _ => trivial).below (below_new (Below.refl _ _) _)⟩, trivial⟩
      rw [plain_add, cell_of_row _ _ _ _ _ _ (heap_alloc_new w1 _)]
      simpa [CE, CH.cells] using hu
    go_wp2_with fail
    refine (cSize_upto 1000000000 _ [.mk h ks] _ 1 _ (by simp only [T.sizes, T.size]; omega) (Nat.le_refl _) (hrow _ rfl)).mono ?_
    rintro e w3 ⟨rfl, hb3⟩
    have hb4 := below_from (below_new hb2 _) hb3
    clear hb3 hb2 hrow hr1 q0 q1 q2 q3 q4 q5 q6
    have e1 : T.sizes [T.mk h ks] = 1 + T.sizes ks := by simp [T.sizes, T.size]
    rw [e1]
    clear e1
    go_wp2_with fail
    go_ret
    refine ⟨?_, hb4⟩
    rw [HM.out]
    refine ret_bool ?_
    rw [Bool.eq_iff_iff]; simp; omega

theorem cMay_any {ok : Nat → Prop} (ts : List Co) (A : Option Addr) (c : Nat) (w : World) (hm : T.sizes ts ≤ 900000000) (hr : InRow CE ok w ts A 0) (hsh : ∀ t ∈ ts, shortC t) :
    Calls Tryz.prog 29 #[.slice A ts.length c] w fun e w' => e = .returned (.bool (ts.all mayC)) ∧ Below w.heap.size w w' := by
  have hl := T.length_le_sizes ts
  have hcall : ∀ (h1 : CH) (ls : List Co) (A1 : Option Addr) (c1 : Nat) (w1 : World), T.mk h1 ls ∈ ts → ls.length ≤ c1 → InRow CE ok w1 ls A1 0 → Below w.heap.size w w1 →
      Calls Tryz.prog 46 #[coV h1 A1 ls.length c1] w1 fun e w' => e = .returned (.bool (!mayC (.mk h1 ls))) ∧ Below w1.heap.size w1 w' := by
    intro h1 ls A1 c1 w1 hmem hc1 hr1 _
    have := T.sizes_mem hmem
    simp only [T.size] at this
    exact cmayLit_any h1 ls A1 c1 w1 (by omega) hc1 hr1 (hsh _ hmem)
  replace hcall := Lib.hid hcall
  have HA : Hid ((!ts.any fun t => !mayC t) = ts.all mayC) := by rw [List.all_eq_not_any_not]; rfl
  go_enter Tryz.func29, Tryz.ntmps29
  go_wp2_with fail
  refine (has_cmay (fun t => !mayC t) ts A c _ hr (by omega) hcall.out).mono ?_
  rintro e w1 ⟨rfl, hb⟩
  go_wp2_with fail
  go_ret
  exact ⟨by rw [← HA.out]; rfl, hb⟩
end Go.Proofs.YtfbnlpoinieijaaGreatDoor
namespace Go.Proofs.YtfbnlpoinieijaaGreatDoor
open Go.RowKit
set_option linter.unusedVariables false
set_option linter.unusedSimpArgs false

def headC (b : List UInt8) : List UInt8 := if b = [] then [] else 58 :: (b ++ [58])
/-- a node's text, of its kids' texts -/
def textK (h : CH) (l : List (List UInt8)) : List UInt8 :=
  if h.k = 1 then [91, 93] else if h.k = 2 then headC h.b ++ [40, 41] else if h.k = 3 then headC h.b ++ textS h.s
  else if h.k = 4 then headC h.b ++ [40] ++ Lib.join l [] ++ [41] else if h.k = 5 then headC h.b ++ [40] ++ Lib.join l [124] ++ [41] else headC h.b ++ [40] ++ Lib.join l [] ++ [41, 42]
mutual
def textC : Co → List UInt8
  | .mk h ks => textK h (textCs ks)
def textCs : List Co → List (List UInt8)
  | [] => []
  | t :: ts => textC t :: textCs ts
end
theorem textCs_map : ∀ ts : List Co, textCs ts = ts.map textC
  | [] => rfl
  | t :: ts => by simp only [textCs, List.map_cons, textCs_map ts]
/-- no node has many bits -/
def fewC (t : Co) : Prop := ∀ x ∈ t.all, x.head.b.length ≤ 1000
theorem fewC.short {t : Co} (h : fewC t) : shortC t := fun x hx => Nat.le_trans (h x hx) (by decide)
theorem fewC.head {h : CH} {ks : List Co} (H : fewC (.mk h ks)) : h.b.length ≤ 1000 := H (.mk h ks) (by simp [T.all])
theorem fewC.kid {h : CH} {ks : List Co} (H : fewC (.mk h ks)) {t : Co} (ht : t ∈ ks) : fewC t := fun x hx => H x (by simp only [T.all, List.mem_cons]; exact .inr (alls_mem ht hx))
theorem head_length (b : List UInt8) : (headC b).length ≤ b.length + 2 := by
  unfold headC
  split <;> simp
def lensC (l : List (List UInt8)) : Nat := (l.map List.length).sum
theorem join_le : ∀ (l : List (List UInt8)) (sep : List UInt8), sep.length ≤ 1 → (Lib.join l sep).length ≤ lensC l + l.length
  | [], sep, _ => by simp [Lib.join, List.intercalate]
  | [x], sep, _ => by simp [Lib.join, List.intercalate, lensC]
  | x :: y :: l, sep, h => by
    have ih := join_le (y :: l) sep h
    have e : Lib.join (x :: y :: l) sep = x ++ (sep ++ Lib.join (y :: l) sep) := by simp [Lib.join, List.intercalate, List.intersperse]
    rw [e]
    simp only [List.length_append, lensC, List.map_cons, List.sum_cons, List.length_cons] at ih ⊢
    omega
theorem text_le (n : Nat) : ∀ t : Co, t.size ≤ n → fewC t → (textC t).length + 1 ≤ 4000 * t.size := by
  induction n with
  | zero => intro t hn; have := t.size_pos; omega
  | succ n ih =>
    intro t hn hf
    obtain ⟨h, ks⟩ := t
    have hk : ∀ l : List Co, (∀ t ∈ l, t ∈ ks) → lensC (textCs l) + (textCs l).length ≤ 4000 * T.sizes l := by
      intro l
      induction l with
      | nil => intro _; simp [textCs, lensC, T.sizes]
      | cons t l il =>
        intro hl
        have i1 := il fun x hx => hl x (List.mem_cons_of_mem _ hx)
        have i2 := ih t (by have := T.sizes_mem (hl t (List.mem_cons_self ..)); simp only [T.size] at hn; omega) (hf.kid (hl t (List.mem_cons_self ..)))
        simp only [textCs, lensC, List.map_cons, List.sum_cons, List.length_cons, T.sizes] at i1 ⊢
        omega
    have hk0 := hk ks fun _ h => h
    have j1 := join_le (textCs ks) [] (by simp)
    have j2 := join_le (textCs ks) [124] (by simp)
    have hh := head_length h.b
    have hb := hf.head
    have hs := textS_length h.s
    simp only [textC, T.size]
    unfold textK
    split
    · simp; omega
    · split
      · simp; omega
      · split
        · simp; omega
        · split
          · simp; omega
          · split
            · simp; omega
            · simp; omega
/-- strings.Join, of a row of the call's own -/
theorem join_any {w : World} {base : Nat} {v : Value} (l : List (List UInt8)) (sep : List UInt8) (hown : w.ownsRow base 9 1 v l.length (l.map fun x => .string (str x))) (hlen : (Lib.join l sep).length ≤ 140737488355328) (hl : l.length ≤ 1000000) :
    Calls Tryz.prog 66 #[v, .string (str sep)] w fun e w' => e = .returned (.string (str (Lib.join l sep))) ∧ Below w.heap.size w w' := by
  have hs := own_slice hown
  rcases hown.2 with ⟨rfl, hl0⟩ | ⟨g, cap, cur, rfl, hb, hbg, hrest⟩
  · obtain rfl : l = [] := List.eq_nil_of_length_eq_zero hl0
    refine (Tryz.strings_Join_none none 0 (str sep) w).mono ?_
    rintro e w' ⟨rfl, rfl⟩
    exact ⟨rfl, Below.refl _ _⟩
  · obtain ⟨A, c, hv, hc, hsrc⟩ := hs
    cases hv
    have hcells : ∀ (j : Nat) x, (l.map str)[j]? = some x → w.cell? ⟨g, 0 + j, none⟩ = some (.string x) := by
      intro j x hx
      rw [List.getElem?_map] at hx
      obtain ⟨y, hy, rfl⟩ := Option.map_eq_some_iff.1 hx
      obtain ⟨ad, e1, e2⟩ := hsrc.2 j (.string (str y)) (by rw [List.getElem?_map, hy]; rfl)
      cases e1
      rw [plain_add] at e2
      rw [Nat.zero_add]
      exact e2
    have hm : (l.map str).map (fun x => x.data.toList) = l := by
      rw [List.map_map]
      conv => rhs; rw [← List.map_id l]
      congr 1
    have := Tryz.strings_Join g 0 cap (l.map str) (str sep) w hcells (lt_of_block hbg) (by rw [List.length_map]; omega) (by rw [List.length_map]; exact hc) (by rw [hm]; simpa using hlen)
    rw [hm, List.length_map] at this
    simpa using this
end Go.Proofs.YtfbnlpoinieijaaGreatDoor
namespace Go.Proofs.YtfbnlpoinieijaaGreatDoor
open Go.RowKit
set_option linter.unusedVariables false
set_option linter.unusedSimpArgs false

theorem Tryz.info_str : (Tryz.prog.info? 9).map (fun i => (i.zero, i.size, i.bytes)) = some (some (.string .empty), 1, 16) := by kernel_rfl
theorem textCs_take {ks : List Co} {k : Nat} {t : Co} (h : ks[k]? = some t) : textCs (ks.take (k + 1)) = textCs (ks.take k) ++ [textC t] := by
  rw [textCs_map, textCs_map, List.take_add_one, h]
  simp
theorem textCs_length (ks : List Co) : (textCs ks).length = ks.length := by rw [textCs_map, List.length_map]
theorem ret_lit : True := trivial
theorem k_ne {x y : UInt8} {n : Int} (h : x ≠ y) (hn : n = (y.toNat : Int)) : ((x.toNat : Int) == n) = false := by
  rw [beq_eq_false_iff_ne]
  intro e
  exact h (UInt8.toNat_inj.1 (by omega))
set_option maxRecDepth 100000 in
set_option maxHeartbeats 8000000 in
theorem ctext_upto (n : Nat) : ∀ (ok : Nat → Prop) (h : CH) (ks : List Co) (A : Option Addr) (c : Nat) (w : World), 1 + T.sizes ks ≤ n → n ≤ 100000 → ks.length ≤ c → InRow CE ok w ks A 0 → fewC (.mk h ks) → TzOk w →
    Calls Tryz.prog 44 #[coV h A ks.length c] w fun e w' => e = .returned (.string (str (textC (.mk h ks)))) ∧ Below w.heap.size w w' := by
  induction n with
  | zero => intro ok h ks A c w h0; omega
  | succ n ih =>
    intro ok h ks A c w hn hm hc hr hf ht
    have hl := T.length_le_sizes ks
    have IH := Lib.hid ih
    have HS : Hid (∀ t ∈ ks, t.size ≤ n) := fun t ht => by have := T.sizes_mem ht; omega
    have HF := Lib.hid hf
    have HT := Lib.hid ht
    have hbW := below_new (Below.refl w.heap.size w) (.cells (coA h A ks.length c) 27)
    have HR := Lib.hid (hr.below hbW)
    have HB0 := Lib.hid hbW
    have HE0 := Lib.hid (new_at1 (w := w) (.cells (coA h A ks.length c) 27))
    have HO : Hid (textC (.mk h ks) = textK h (textCs ks)) := by simp only [Hid, textC]
    have HL : Hid ((Lib.join (textCs ks) []).length ≤ 500000000 ∧ (Lib.join (textCs ks) [124]).length ≤ 500000000) := by
      have hk : ∀ l : List Co, (∀ t ∈ l, t ∈ ks) → lensC (textCs l) + (textCs l).length ≤ 4000 * T.sizes l := by
        intro l
        induction l with
        | nil => intro _; simp [textCs, lensC, T.sizes]
        | cons t l il =>
          intro hl
          have i1 := il fun x hx => hl x (List.mem_cons_of_mem _ hx)
          have i2 := text_le t.size t (Nat.le_refl _) (hf.kid (hl t (List.mem_cons_self ..)))
          simp only [textCs, lensC, List.map_cons, List.sum_cons, List.length_cons, T.sizes] at i1 ⊢
          omega
      have hk0 := hk ks fun _ h => h
      have j1 := join_le (textCs ks) [] (by simp)
      have j2 := join_le (textCs ks) [124] (by simp)
      constructor <;> omega
    have T0 : Hid (textCs (ks.take 0) = []) := rfl
    have hbl := hf.head
    clear ih hr hf ht
    go_enter Tryz.func44, Tryz.ntmps44
    go_wp2_with fail
    generalize hW : w.alloc (.cells (coA h A ks.length c) 27) = W at *
    have hsW : W.heap.size = w.heap.size + 1 := by rw [← hW]; simp
    clear hW hbW
    go_loopw [3, 10] (fun o i wr => ∃ (k : Nat) (v : Value), v = o ∧ k ≤ ks.length ∧ i = .int .i64 (k : Nat) ∧ Hid (wr.ownsRow (w.heap.size + 1) 9 1 v (textCs (ks.take k)).length ((textCs (ks.take k)).map fun x => .string (str x))) ∧ Hid (Below W.heap.size W wr)) (fun _ i _ => ks.length - (intOf i).toNat)
    case atStart => exact ⟨0, _, rfl, Nat.zero_le _, rfl, by rw [T0.out]; exact World.ownsRow_nil _ _ _ _, Lib.hid (Below.refl _ _)⟩
    case round =>
      obtain ⟨k, o, rfl, hk, rfl, HW, HB⟩ := hrel
      have HEr := Lib.hid ((HB.out.block _ (lt_of_block HE0.out)).trans HE0.out)
      by_cases hlt : k < ks.length
      · obtain ⟨t, ad, h1, ls, A1, c1, hA, hx, rfl, hc1, hr1, q0, q1, q2, q3, q4, q5, q6⟩ := co_at (HR.out.below HB.out) hlt
        subst hA
        have hmem := List.mem_of_getElem? hx
        have hs1 := HS.out _ hmem
        have hf1 := HF.out.kid hmem
        simp only [T.size] at hs1
        have HTk := Lib.hid (textCs_take hx)
        have HLk : Hid ((textCs (ks.take k)).length = k) := by unfold Hid; rw [textCs_length, List.length_take]; omega
        have hb1 := below_new (Below.refl wr.heap.size wr) (.cells (coA h1 A1 ls.length c1) 27)
        have HC := Lib.hid (IH.out ok h1 ls A1 c1 _ hs1 (by omega) hc1 (hr1.below hb1) hf1 (HT.out.below (below_from (below_from HB0.out HB.out) hb1)))
        generalize textC (.mk h1 ls) = tx at *
        clear hx hr1 hmem hs1 hf1
        go_wp2_with fail
        refine HC.out.mono ?_
        rintro e w2 ⟨rfl, hb2⟩
        have hb3 := below_new (below_from hb1 hb2) (.cells #[.string (str tx)] 9)
        have HB3 := Lib.hid (below_from HB.out hb3)
        have hown := HW.out.kept (w' := w2.alloc (.cells #[.string (str tx)] 9)) (row := none) ⟨hb3.os, hb3.tape, hb3.output, hb3.size, fun k hk _ => hb3.block k hk⟩ (by cases hv : o.ownBlock <;> simp)
        have hsrc := new_src w2 1 1 #[.string (str tx)] 9 rfl
        have hsz3 := HB3.out.size
        clear hb1 hb2 hb3 HC HW q0 q1 q2 q3 q4 q5 q6
        go_wp2_with (at_builtin; refine wpList_app _ rfl (.tmp 14) (.tmp 17) 102 rfl (w.heap.size + 1) 9 _ 1 16 Tryz.underlying102 Tryz.info_str rfl (by decide) _ _ _ rfl hown (some ⟨w2.heap.size, 0, none⟩) 1 1 _ rfl hsrc ?h1 ?h2 ?h3 ?h4 ?_)
        case h1 => first | (intro u hu; simp at hu; subst hu; rfl) | trivial
        case h2 => rw [HLk.out]; unfold maxLen; omega
        case h3 => rw [HLk.out]; omega
        case h4 => omega
        intro v5 w5 ho5 hg5 hat5
        have hb5 := HB3.out.grown hg5 HB3.out.size (fun j hj => by have := own_base hown j hj; omega)
        have HB5 := Lib.hid hb5
        have HO5 : Hid (w5.ownsRow (w.heap.size + 1) 9 1 v5 (textCs (ks.take (k + 1))).length ((textCs (ks.take (k + 1))).map fun x => .string (str x))) := by
          unfold Hid
          rw [HTk.out, List.map_append, List.length_append]
          exact ho5
        clear ho5 hg5 hat5 hown hsrc hb5
        go_wp2_with fail
        go_roundw
        case rel => exact ⟨k + 1, v5, rfl, by omega, by go_num, HO5, HB5⟩
        case measure => simp [intOf]; omega
      · have hkk : k = ks.length := by omega
        subst hkk
        have hown : wr.ownsRow (w.heap.size + 1) 9 1 o (textCs ks).length ((textCs ks).map fun x => .string (str x)) := by
          have := HW.out
          rw [List.take_length] at this
          exact this
        have CJ1 := Lib.hid (join_any (textCs ks) [] hown (by have := HL.out.1; omega) (by rw [textCs_length]; omega))
        have CJ2 := Lib.hid (join_any (textCs ks) [124] hown (by have := HL.out.2; omega) (by rw [textCs_length]; omega))
        have HBw := Lib.hid (below_from HB0.out HB.out)
        have CS := Lib.hid (setText_any h.s wr (HT.out.below HBw.out))
        have hsl := textS_length h.s
        obtain ⟨hj1, hj2⟩ := HL.out
        obtain ⟨x0, x1, x2, x3, x4, x5, x6⟩ := co_at_box HEr.out
        have hkn := h.k.toNat_lt
        have hcase : h.k = 1 ∨ h.k = 2 ∨ h.k = 3 ∨ h.k = 4 ∨ h.k = 5 ∨ (h.k ≠ 1 ∧ h.k ≠ 2 ∧ h.k ≠ 3 ∧ h.k ≠ 4 ∧ h.k ≠ 5) := by
          by_cases e1 : h.k = 1; exact .inl e1
          by_cases e2 : h.k = 2; exact .inr (.inl e2)
          by_cases e3 : h.k = 3; exact .inr (.inr (.inl e3))
          by_cases e4 : h.k = 4; exact .inr (.inr (.inr (.inl e4)))
          by_cases e5 : h.k = 5; exact .inr (.inr (.inr (.inr (.inl e5))))
          exact .inr (.inr (.inr (.inr (.inr ⟨e1, e2, e3, e4, e5⟩))))
        clear hown HW HL HEr HB0 HB hlt hk
        rcases hb : h.b with _ | ⟨y, r⟩
        · have HH : Hid (headC h.b = []) := by unfold Hid headC; rw [hb]; simp
          rw [hb] at x1
          have hbe : (([] : List UInt8) == []) = true := rfl
          clear hb
          rcases hcase with e | e | e | e | e | ⟨e1, e2, e3, e4, e5⟩
          · have g : (h.k.toNat : Int) = 1 := by rw [e]; rfl
            have HX : Hid (textC (.mk h ks) = [91, 93]) := by unfold Hid; rw [HO.out]; simp [textK, e]
            clear HO HH
            go_wp2_with fail
            go_ret
            exact ⟨by rw [HX.out]; simp [ret_lit], HBw.out⟩
          · have g : (h.k.toNat : Int) = 2 := by rw [e]; rfl
            have HX : Hid (textC (.mk h ks) = [] ++ [40, 41]) := by unfold Hid; rw [HO.out]; simp [textK, e, HH.out]
            have hc1 := run_cat (P := Tryz.prog) [] [40, 41] (by simp; try omega)
            clear HO HH
            go_wp2_with fail
            go_ret
            exact ⟨by rw [HX.out]; simp [ret_lit], HBw.out⟩
          · have g : (h.k.toNat : Int) = 3 := by rw [e]; rfl
            have HX : Hid (textC (.mk h ks) = [] ++ textS h.s) := by unfold Hid; rw [HO.out]; simp [textK, e, HH.out]
            have hc1 := run_cat (P := Tryz.prog) [] (textS h.s) (by simp; omega)
            clear HO HH
            go_wp2_with fail
            refine CS.out.mono ?_
            rintro e' w2 ⟨rfl, hb2⟩
            have hbz := below_from HBw.out hb2
            go_wp2_with fail
            go_ret
            exact ⟨by rw [HX.out]; simp [ret_lit], hbz⟩
          · have g : (h.k.toNat : Int) = 4 := by rw [e]; rfl
            have HX : Hid (textC (.mk h ks) = [] ++ 40 :: (Lib.join (textCs ks) [] ++ [41])) := by unfold Hid; rw [HO.out]; simp [textK, HH.out, e]
            generalize Lib.join (textCs ks) [] = jn at *
            have hc1 := run_cat (P := Tryz.prog) [] [40] (by simp; try omega)
            have hc2 := run_cat (P := Tryz.prog) [40] jn (by simp; omega)
            have hc3 := run_cat (P := Tryz.prog) (40 :: jn) [41] (by simp; omega)
            clear HO HH
            go_wp2_with fail
            refine CJ1.out.mono ?_
            rintro e' w2 ⟨rfl, hb2⟩
            have hbz := below_from HBw.out hb2
            go_wp2_with fail
            go_ret
            exact ⟨by rw [HX.out]; simp [ret_lit], hbz⟩
          · have g : (h.k.toNat : Int) = 5 := by rw [e]; rfl
            have HX : Hid (textC (.mk h ks) = [] ++ 40 :: (Lib.join (textCs ks) [124] ++ [41])) := by unfold Hid; rw [HO.out]; simp [textK, HH.out, e]
            generalize Lib.join (textCs ks) [124] = jn at *
            have hc1 := run_cat (P := Tryz.prog) [] [40] (by simp; try omega)
            have hc2 := run_cat (P := Tryz.prog) [40] jn (by simp; omega)
            have hc3 := run_cat (P := Tryz.prog) (40 :: jn) [41] (by simp; omega)
            clear HO HH
            go_wp2_with fail
            refine CJ2.out.mono ?_
            rintro e' w2 ⟨rfl, hb2⟩
            have hbz := below_from HBw.out hb2
            go_wp2_with fail
            go_ret
            exact ⟨by rw [HX.out]; simp [ret_lit], hbz⟩
          · have g1 : ((h.k.toNat : Int) == 1) = false := k_ne e1 rfl
            have g2 : ((h.k.toNat : Int) == 2) = false := k_ne e2 rfl
            have g3 : ((h.k.toNat : Int) == 3) = false := k_ne e3 rfl
            have g4 : ((h.k.toNat : Int) == 4) = false := k_ne e4 rfl
            have g5 : ((h.k.toNat : Int) == 5) = false := k_ne e5 rfl
            have HX : Hid (textC (.mk h ks) = [] ++ 40 :: (Lib.join (textCs ks) [] ++ [41, 42])) := by unfold Hid; rw [HO.out]; simp [textK, HH.out, e1, e2, e3, e4, e5]
            generalize Lib.join (textCs ks) [] = jn at *
            have hc1 := run_cat (P := Tryz.prog) [] [40] (by simp; try omega)
            have hc2 := run_cat (P := Tryz.prog) [40] jn (by simp; omega)
            have hc3 := run_cat (P := Tryz.prog) (40 :: jn) [41, 42] (by simp; omega)
            clear HO HH
            go_wp2_with fail
            refine CJ1.out.mono ?_
            rintro e' w2 ⟨rfl, hb2⟩
            have hbz := below_from HBw.out hb2
            go_wp2_with fail
            go_ret
            exact ⟨by rw [HX.out]; simp [ret_lit], hbz⟩
        · have HH : Hid (headC h.b = 58 :: (y :: (r ++ [58]))) := by unfold Hid headC; rw [hb]; simp
          rw [hb] at x1 hbl
          simp only [List.length_cons] at hbl
          have ha1 := run_cat (P := Tryz.prog) [58] (y :: r) (by simp; omega)
          have ha2 := run_cat (P := Tryz.prog) (58 :: y :: r) [58] (by simp; omega)
          clear hb
          rcases hcase with e | e | e | e | e | ⟨e1, e2, e3, e4, e5⟩
          · have g : (h.k.toNat : Int) = 1 := by rw [e]; rfl
            have HX : Hid (textC (.mk h ks) = [91, 93]) := by unfold Hid; rw [HO.out]; simp [textK, e]
            clear HO HH
            go_wp2_with fail
            go_ret
            exact ⟨by rw [HX.out]; simp [ret_lit], HBw.out⟩
          · have g : (h.k.toNat : Int) = 2 := by rw [e]; rfl
            have HX : Hid (textC (.mk h ks) = (58 :: (y :: (r ++ [58]))) ++ [40, 41]) := by unfold Hid; rw [HO.out]; simp [textK, e, HH.out]
            have hc1 := run_cat (P := Tryz.prog) (58 :: (y :: (r ++ [58]))) [40, 41] (by simp; try omega)
            clear HO HH
            go_wp2_with fail
            go_ret
            exact ⟨by rw [HX.out]; simp [ret_lit], HBw.out⟩
          · have g : (h.k.toNat : Int) = 3 := by rw [e]; rfl
            have HX : Hid (textC (.mk h ks) = (58 :: (y :: (r ++ [58]))) ++ textS h.s) := by unfold Hid; rw [HO.out]; simp [textK, e, HH.out]
            have hc1 := run_cat (P := Tryz.prog) (58 :: (y :: (r ++ [58]))) (textS h.s) (by simp; omega)
            clear HO HH
            go_wp2_with fail
            refine CS.out.mono ?_
            rintro e' w2 ⟨rfl, hb2⟩
            have hbz := below_from HBw.out hb2
            go_wp2_with fail
            go_ret
            exact ⟨by rw [HX.out]; simp [ret_lit], hbz⟩
          · have g : (h.k.toNat : Int) = 4 := by rw [e]; rfl
            have HX : Hid (textC (.mk h ks) = (58 :: (y :: (r ++ [58]))) ++ 40 :: (Lib.join (textCs ks) [] ++ [41])) := by unfold Hid; rw [HO.out]; simp [textK, HH.out, e]
            generalize Lib.join (textCs ks) [] = jn at *
            have hc1 := run_cat (P := Tryz.prog) (58 :: (y :: (r ++ [58]))) [40] (by simp; try omega)
            have hc2 := run_cat (P := Tryz.prog) (58 :: (y :: (r ++ [58, 40]))) jn (by simp; omega)
            have hc3 := run_cat (P := Tryz.prog) (58 :: (y :: (r ++ 58 :: 40 :: jn))) [41] (by simp; omega)
            clear HO HH
            go_wp2_with fail
            refine CJ1.out.mono ?_
            rintro e' w2 ⟨rfl, hb2⟩
            have hbz := below_from HBw.out hb2
            go_wp2_with fail
            go_ret
            exact ⟨by rw [HX.out]; simp [ret_lit], hbz⟩
          · have g : (h.k.toNat : Int) = 5 := by rw [e]; rfl
            have HX : Hid (textC (.mk h ks) = (58 :: (y :: (r ++ [58]))) ++ 40 :: (Lib.join (textCs ks) [124] ++ [41])) := by unfold Hid; rw [HO.out]; simp [textK, HH.out, e]
            generalize Lib.join (textCs ks) [124] = jn at *
            have hc1 := run_cat (P := Tryz.prog) (58 :: (y :: (r ++ [58]))) [40] (by simp; try omega)
            have hc2 := run_cat (P := Tryz.prog) (58 :: (y :: (r ++ [58, 40]))) jn (by simp; omega)
            have hc3 := run_cat (P := Tryz.prog) (58 :: (y :: (r ++ 58 :: 40 :: jn))) [41] (by simp; omega)
            clear HO HH
            go_wp2_with fail
            refine CJ2.out.mono ?_
            rintro e' w2 ⟨rfl, hb2⟩
            have hbz := below_from HBw.out hb2
            go_wp2_with fail
            go_ret
            exact ⟨by rw [HX.out]; simp [ret_lit], hbz⟩
          · have g1 : ((h.k.toNat : Int) == 1) = false := k_ne e1 rfl
            have g2 : ((h.k.toNat : Int) == 2) = false := k_ne e2 rfl
            have g3 : ((h.k.toNat : Int) == 3) = false := k_ne e3 rfl
            have g4 : ((h.k.toNat : Int) == 4) = false := k_ne e4 rfl
            have g5 : ((h.k.toNat : Int) == 5) = false := k_ne e5 rfl
            have HX : Hid (textC (.mk h ks) = (58 :: (y :: (r ++ [58]))) ++ 40 :: (Lib.join (textCs ks) [] ++ [41, 42])) := by unfold Hid; rw [HO.out]; simp [textK, HH.out, e1, e2, e3, e4, e5]
            generalize Lib.join (textCs ks) [] = jn at *
            have hc1 := run_cat (P := Tryz.prog) (58 :: (y :: (r ++ [58]))) [40] (by simp; try omega)
            have hc2 := run_cat (P := Tryz.prog) (58 :: (y :: (r ++ [58, 40]))) jn (by simp; omega)
            have hc3 := run_cat (P := Tryz.prog) (58 :: (y :: (r ++ 58 :: 40 :: jn))) [41, 42] (by simp; omega)
            clear HO HH
            go_wp2_with fail
            refine CJ1.out.mono ?_
            rintro e' w2 ⟨rfl, hb2⟩
            have hbz := below_from HBw.out hb2
            go_wp2_with fail
            go_ret
            exact ⟨by rw [HX.out]; simp [ret_lit], hbz⟩
end Go.Proofs.YtfbnlpoinieijaaGreatDoor
