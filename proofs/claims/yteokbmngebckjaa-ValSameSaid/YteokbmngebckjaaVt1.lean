/- Values' texts: val.Text. -/
import Derived.Test.YteokbmngebckjaaVtP
import Derived.Test.YteokbmngebckjaaCb
import Derived.Test.YteokbmngebckjaaBc
import Derived.Deep.CutRange
namespace Go.Proofs.Yteokbmngebckjaa
open Go.RowKit
set_option linter.unusedVariables false
set_option linter.unusedSimpArgs false

def kidsN (k : UInt8) : Int := if k = 1 ∨ k = 2 then 0 else if k = 4 ∨ k = 5 then 1 else if k = 3 then 2 else -1
set_option maxHeartbeats 2000000 in
theorem vkids_any (k : UInt8) (w : World) :
    Calls Try.prog 54 #[.int .u8 (k.toNat : Int)] w fun e w' => e = .returned (.int .i64 (kidsN k)) ∧ w' = w := by
  by_cases h1 : k = 1
  · have HX : Hid (kidsN k = 0) := by unfold Hid kidsN; rw [h1]; rfl
    have t1 : ((k.toNat : Int) == 1) = true := u8_eq (n := 1) (by decide) h1
    clear h1
    go_enter Try.func54, Try.ntmps54
    go_wp2_with fail
    go_ret
    exact ⟨by rw [HX.out]; rfl, rfl⟩
  by_cases h2 : k = 2
  · have HX : Hid (kidsN k = 0) := by unfold Hid kidsN; rw [h2]; rfl
    have t1 : ((k.toNat : Int) == 1) = false := u8_ne (n := 1) (by decide) h1
    have t2 : ((k.toNat : Int) == 2) = true := u8_eq (n := 2) (by decide) h2
    clear h1 h2
    go_enter Try.func54, Try.ntmps54
    go_wp2_with fail
    go_ret
    exact ⟨by rw [HX.out]; rfl, rfl⟩
  by_cases h4 : k = 4
  · have HX : Hid (kidsN k = 1) := by unfold Hid kidsN; rw [h4]; rfl
    have t1 : ((k.toNat : Int) == 1) = false := u8_ne (n := 1) (by decide) h1
    have t2 : ((k.toNat : Int) == 2) = false := u8_ne (n := 2) (by decide) h2
    have t4 : ((k.toNat : Int) == 4) = true := u8_eq (n := 4) (by decide) h4
    clear h1 h2 h4
    go_enter Try.func54, Try.ntmps54
    go_wp2_with fail
    go_ret
    exact ⟨by rw [HX.out]; rfl, rfl⟩
  by_cases h5 : k = 5
  · have HX : Hid (kidsN k = 1) := by unfold Hid kidsN; rw [h5]; rfl
    have t1 : ((k.toNat : Int) == 1) = false := u8_ne (n := 1) (by decide) h1
    have t2 : ((k.toNat : Int) == 2) = false := u8_ne (n := 2) (by decide) h2
    have t4 : ((k.toNat : Int) == 4) = false := u8_ne (n := 4) (by decide) h4
    have t5 : ((k.toNat : Int) == 5) = true := u8_eq (n := 5) (by decide) h5
    clear h1 h2 h4 h5
    go_enter Try.func54, Try.ntmps54
    go_wp2_with fail
    go_ret
    exact ⟨by rw [HX.out]; rfl, rfl⟩
  by_cases h3 : k = 3
  · have HX : Hid (kidsN k = 2) := by unfold Hid kidsN; rw [h3]; rfl
    have t1 : ((k.toNat : Int) == 1) = false := u8_ne (n := 1) (by decide) h1
    have t2 : ((k.toNat : Int) == 2) = false := u8_ne (n := 2) (by decide) h2
    have t4 : ((k.toNat : Int) == 4) = false := u8_ne (n := 4) (by decide) h4
    have t5 : ((k.toNat : Int) == 5) = false := u8_ne (n := 5) (by decide) h5
    have t3 : ((k.toNat : Int) == 3) = true := u8_eq (n := 3) (by decide) h3
    clear h1 h2 h4 h5 h3
    go_enter Try.func54, Try.ntmps54
    go_wp2_with fail
    go_ret
    exact ⟨by rw [HX.out]; rfl, rfl⟩
  have HX : Hid (kidsN k = -1) := by unfold Hid kidsN; simp [h1, h2, h3, h4, h5]
  have t1 : ((k.toNat : Int) == 1) = false := u8_ne (n := 1) (by decide) h1
  have t2 : ((k.toNat : Int) == 2) = false := u8_ne (n := 2) (by decide) h2
  have t4 : ((k.toNat : Int) == 4) = false := u8_ne (n := 4) (by decide) h4
  have t5 : ((k.toNat : Int) == 5) = false := u8_ne (n := 5) (by decide) h5
  have t3 : ((k.toNat : Int) == 3) = false := u8_ne (n := 3) (by decide) h3
  clear h1 h2 h3 h4 h5
  go_enter Try.func54, Try.ntmps54
  go_wp2_with fail
  go_ret
  exact ⟨by rw [HX.out]; rfl, rfl⟩
theorem kidsN_not {k : UInt8} {n : Nat} (h : kidsB k n = false) : kidsN k ≥ 0 ∧ kidsN k ≠ (n : Int) ∨ kidsN k = -1 ∧ k ≠ 6 := by
  unfold kidsB at h
  unfold kidsN
  by_cases h1 : k = 1
  · subst h1; simp at h ⊢; omega
  by_cases h2 : k = 2
  · subst h2; simp at h ⊢; omega
  by_cases h3 : k = 3
  · subst h3; simp at h ⊢; omega
  by_cases h4 : k = 4
  · subst h4; simp at h ⊢; omega
  by_cases h5 : k = 5
  · subst h5; simp at h ⊢; omega
  simp [h1, h2, h3, h4, h5] at h ⊢
  exact h
theorem kidsB_cases {k : UInt8} {n : Nat} (h : kidsB k n = true) : (k = 1 ∧ n = 0) ∨ (k = 2 ∧ n = 0) ∨ (k = 3 ∧ n = 2) ∨ (k = 4 ∧ n = 1) ∨ (k = 5 ∧ n = 1) ∨ k = 6 := by
  unfold kidsB at h
  by_cases h1 : k = 1
  · subst h1; simp at h; simp [h]
  by_cases h2 : k = 2
  · subst h2; simp at h; simp [h]
  by_cases h3 : k = 3
  · subst h3; simp at h; simp [h]
  by_cases h4 : k = 4
  · subst h4; simp at h; simp [h]
  by_cases h5 : k = 5
  · subst h5; simp at h; simp [h]
  simp [h1, h2, h3, h4, h5] at h ⊢
  exact h
set_option maxRecDepth 100000 in
set_option maxHeartbeats 8000000 in
theorem vtext_upto (n : Nat) : ∀ (ok : Nat → Prop) (h : VH) (ks : List Va) (A : Option Addr) (c : Nat) (w : World), 1 + T.sizes ks ≤ n → n ≤ 1000000 → ks.length ≤ c → InRow VE ok w ks A 0 →
    Calls Try.prog 30 #[vaV h A ks.length c] w fun e w' => e = .returned (.string (str (textV (.mk h ks)))) ∧ Below w.heap.size w w' := by
  induction n with
  | zero => intro ok h ks A c w h0; omega
  | succ n ih =>
    intro ok h ks A c w hn hm hc hr
    have hl := T.length_le_sizes ks
    have IH := Lib.hid ih
    have HS : Hid (∀ t ∈ ks, t.size ≤ n) := fun t ht => by have := T.sizes_mem ht; omega
    have hbW := below_new (Below.refl w.heap.size w) (.cells (vaA h A ks.length c) 24)
    have HR := Lib.hid (hr.below hbW)
    have HB0 := Lib.hid hbW
    have HE0 := Lib.hid (new_at1 (w := w) (.cells (vaA h A ks.length c) 24))
    have HO : Hid (textV (.mk h ks) = textVK h (textVs ks)) := by simp only [Hid, textV]
    have HL : Hid ((Lib.join (textVs ks) [44]).length ≤ 40000000) := by have := joinVs_le ks; unfold Hid; omega
    have T0 : Hid (textVs (ks.take 0) = []) := rfl
    clear ih hr
    go_enter Try.func30, Try.ntmps30
    go_wp2_with fail
    generalize hW : w.alloc (.cells (vaA h A ks.length c) 24) = W at *
    have hsW : W.heap.size = w.heap.size + 1 := by rw [← hW]; simp
    clear hW hbW
    go_loopw [3, 11] (fun o i wr => ∃ (k : Nat) (v : Value), v = o ∧ k ≤ ks.length ∧ i = .int .i64 (k : Nat) ∧ Hid (wr.ownsRow (w.heap.size + 1) 9 1 v (textVs (ks.take k)).length ((textVs (ks.take k)).map fun x => .string (str x))) ∧ Hid (Below W.heap.size W wr)) (fun _ i _ => ks.length - (intOf i).toNat)
    case atStart => exact ⟨0, _, rfl, Nat.zero_le _, rfl, by rw [T0.out]; exact World.ownsRow_nil _ _ _ _, Lib.hid (Below.refl _ _)⟩
    case round =>
      obtain ⟨k, o, rfl, hk, rfl, HW, HB⟩ := hrel
      have HEr := Lib.hid ((HB.out.block _ (lt_of_block HE0.out)).trans HE0.out)
      by_cases hlt : k < ks.length
      · obtain ⟨t, ad, h1, ls, A1, c1, hA, hx, rfl, hc1, hr1, q0, q1, q2⟩ := va_at (HR.out.below HB.out) hlt
        subst hA
        have hmem := List.mem_of_getElem? hx
        have hs1 := HS.out _ hmem
        simp only [T.size] at hs1
        have HTk := Lib.hid (textVs_take hx)
        have HLk : Hid ((textVs (ks.take k)).length = k) := by unfold Hid; rw [textVs_length, List.length_take]; omega
        have hb1 := below_new (Below.refl wr.heap.size wr) (.cells (vaA h1 A1 ls.length c1) 24)
        have HC := Lib.hid (IH.out ok h1 ls A1 c1 _ hs1 (by omega) hc1 (hr1.below hb1))
        generalize textV (.mk h1 ls) = tx at *
        clear hx hr1 hmem hs1
        go_wp2_with fail
        refine HC.out.mono ?_
        rintro e w2 ⟨rfl, hb2⟩
        have hb3 := below_new (below_from hb1 hb2) (.cells #[.string (str tx)] 9)
        have HB3 := Lib.hid (below_from HB.out hb3)
        have hown := HW.out.kept (w' := w2.alloc (.cells #[.string (str tx)] 9)) (row := none) ⟨hb3.os, hb3.tape, hb3.output, hb3.size, fun k hk _ => hb3.block k hk⟩ (by cases hv : o.ownBlock <;> simp)
        have hsrc := new_src w2 1 1 #[.string (str tx)] 9 rfl
        have hsz3 := HB3.out.size
        clear hb1 hb2 hb3 HC HW q0 q1 q2
        go_wp2_with (at_builtin; refine wpList_app _ rfl (.tmp 15) (.tmp 18) 74 rfl (w.heap.size + 1) 9 _ 1 16 Try.underlying74 Try.info_str rfl (by decide) _ _ _ rfl hown (some ⟨w2.heap.size, 0, none⟩) 1 1 _ rfl hsrc ?h1 ?h2 ?h3 ?h4 ?_)
        case h1 => first | (intro u hu; simp at hu; subst hu; rfl) | trivial
        case h2 => rw [HLk.out]; unfold maxLen; omega
        case h3 => rw [HLk.out]; omega
        case h4 => omega
        intro v5 w5 ho5 hg5 hat5
        have hb5 := HB3.out.grown hg5 HB3.out.size (fun j hj => by have := own_base hown j hj; omega)
        have HB5 := Lib.hid hb5
        have HO5 : Hid (w5.ownsRow (w.heap.size + 1) 9 1 v5 (textVs (ks.take (k + 1))).length ((textVs (ks.take (k + 1))).map fun x => .string (str x))) := by
          unfold Hid
          rw [HTk.out, List.map_append, List.length_append]
          exact ho5
        clear ho5 hg5 hat5 hown hsrc hb5
        go_wp2_with fail
        go_roundw
        case rel => exact ⟨k + 1, v5, rfl, by omega, by go_num, HO5, HB5⟩
        case measure => simp [intOf]; omega
      · have hkk : k = ks.length := by omega
        subst hkk
        have hown : wr.ownsRow (w.heap.size + 1) 9 1 o (textVs ks).length ((textVs ks).map fun x => .string (str x)) := by
          have := HW.out
          rw [List.take_length] at this
          exact this
        have CJ := Lib.hid (join_any (textVs ks) [44] hown (by have := HL.out; omega) (by rw [textVs_length]; omega))
        have HLS := Lib.hid (textVs_length ks)
        have HOWN := Lib.hid (own_slice hown)
        have HBw := Lib.hid (below_from HB0.out HB.out)
        have HNL := hl
        clear hown HW HB0 HB hlt hk HE0 HR HS T0
        obtain ⟨A9, c9, rfl, _, _⟩ := HOWN.out
        rw [HLS.out] at CJ ⊢
        clear HOWN
        go_wp2_with fail
        refine CJ.out.mono ?_
        rintro e' w2 ⟨rfl, hb2⟩
        have HB2 := Lib.hid (below_from HBw.out hb2)
        have HE2 := Lib.hid ((hb2.block _ (lt_of_block HEr.out)).trans HEr.out)
        clear hb2 CJ HEr HBw
        obtain ⟨x0, x1, x2⟩ := va_at_box HE2.out
        have CK := Lib.hid (vkids_any h.k w2)
        have hjl := HL.out
        rcases hkb : kidsB h.k ks.length with _ | _
        · have HX : Hid (textV (.mk h ks) = [63]) := by unfold Hid; rw [HO.out]; unfold textVK; rw [if_neg (by rw [HLS.out, hkb]; decide)]
          rcases kidsN_not hkb with ⟨k1, k2⟩ | ⟨k1, k2⟩
          · obtain ⟨kn, hkn⟩ : ∃ kn, kidsN h.k = kn := ⟨_, rfl⟩
            rw [hkn] at CK k1 k2
            have g1 : decide (kn ≥ 0) = true := by simpa using k1
            have g2 : (kn != (ks.length : Int)) = true := by simpa using k2
            clear HO hkb k1 k2 hkn HL hjl
            go_wp2_with fail
            refine CK.out.mono ?_
            rintro e' w3 ⟨rfl, rfl⟩
            go_wp2_with fail
            go_ret
            exact ⟨by rw [HX.out]; rfl, HB2.out⟩
          · rw [k1] at CK
            have e1 : h.k ≠ 1 := fun e => by rw [e] at k1; simp [kidsN] at k1
            have e2 : h.k ≠ 2 := fun e => by rw [e] at k1; simp [kidsN] at k1
            have e3 : h.k ≠ 3 := fun e => by rw [e] at k1; simp [kidsN] at k1
            have e4 : h.k ≠ 4 := fun e => by rw [e] at k1; simp [kidsN] at k1
            have e5 : h.k ≠ 5 := fun e => by rw [e] at k1; simp [kidsN] at k1
            have t1 : ((h.k.toNat : Int) == 1) = false := u8_ne (n := 1) (by decide) e1
            have t2 : ((h.k.toNat : Int) == 2) = false := u8_ne (n := 2) (by decide) e2
            have t3 : ((h.k.toNat : Int) == 3) = false := u8_ne (n := 3) (by decide) e3
            have t4 : ((h.k.toNat : Int) == 4) = false := u8_ne (n := 4) (by decide) e4
            have t5 : ((h.k.toNat : Int) == 5) = false := u8_ne (n := 5) (by decide) e5
            have t6 : ((h.k.toNat : Int) == 6) = false := u8_ne (n := 6) (by decide) k2
            clear HO hkb k1 k2 e1 e2 e3 e4 e5 HL hjl
            go_wp2_with fail
            refine CK.out.mono ?_
            rintro e' w3 ⟨rfl, rfl⟩
            go_wp2_with fail
            go_ret
            exact ⟨by rw [HX.out]; rfl, HB2.out⟩
        · have hcs := kidsB_cases hkb
          have HK2 : Hid (textV (.mk h ks) = if h.k = 1 then [40, 41] else if h.k = 2 then signB h.b else if h.k = 3 then 40 :: (Lib.join (textVs ks) [44] ++ [41]) else if h.k = 4 then 76 :: Lib.join (textVs ks) [44] else if h.k = 5 then 82 :: Lib.join (textVs ks) [44] else 91 :: (Lib.join (textVs ks) [44] ++ [93])) := by
            unfold Hid; rw [HO.out]; unfold textVK; rw [if_pos (by rw [HLS.out]; exact hkb)]
          clear HO hkb HL
          generalize Lib.join (textVs ks) [44] = jn at *
          rcases hcs with ⟨e, hn1⟩ | ⟨e, hn2⟩ | ⟨e, hn3⟩ | ⟨e, hn4⟩ | ⟨e, hn5⟩ | e
          · have HX : Hid (textV (.mk h ks) = [40, 41]) := by unfold Hid; rw [HK2.out]; simp [e]
            have hkn : kidsN h.k = 0 := by rw [e]; rfl
            rw [hkn] at CK
            rw [hn1] at x2 ⊢
            have t1 : ((h.k.toNat : Int) == 1) = true := u8_eq (n := 1) (by decide) e
            clear HK2 hkn e
            go_wp2_with fail
            refine CK.out.mono ?_
            rintro e' w3 ⟨rfl, rfl⟩
            go_wp2_with fail
            go_ret
            exact ⟨by rw [HX.out]; simp, HB2.out⟩
          · have HX : Hid (textV (.mk h ks) = signB h.b) := by unfold Hid; rw [HK2.out]; simp [e]
            have hkn : kidsN h.k = 0 := by rw [e]; rfl
            rw [hkn] at CK
            rw [hn2] at x2 ⊢
            have t1 : ((h.k.toNat : Int) == 1) = false := u8_ne (n := 1) (by decide) (by rw [e]; decide)
            have t2 : ((h.k.toNat : Int) == 2) = true := u8_eq (n := 2) (by decide) e
            have CS := Lib.hid (setSign_any h.b w2)
            clear HK2 hkn e
            go_wp2_with fail
            refine CK.out.mono ?_
            rintro e' w3 ⟨rfl, rfl⟩
            go_wp2_with fail
            refine CS.out.mono ?_
            rintro e' w4 ⟨rfl, hb4⟩
            have hbz := below_from HB2.out hb4
            clear hb4
            go_wp2_with fail
            go_ret
            exact ⟨by rw [HX.out]; simp, hbz⟩
          · have HX : Hid (textV (.mk h ks) = 40 :: (jn ++ [41])) := by unfold Hid; rw [HK2.out]; simp [e]
            have hkn : kidsN h.k = 2 := by rw [e]; rfl
            rw [hkn] at CK
            rw [hn3] at x2 ⊢
            have t1 : ((h.k.toNat : Int) == 1) = false := u8_ne (n := 1) (by decide) (by rw [e]; decide)
            have t2 : ((h.k.toNat : Int) == 2) = false := u8_ne (n := 2) (by decide) (by rw [e]; decide)
            have t3 : ((h.k.toNat : Int) == 3) = true := u8_eq (n := 3) (by decide) e
            have hc1 := run_cat (P := Try.prog) [40] jn (by simp; omega)
            have hc2 := run_cat (P := Try.prog) (40 :: jn) [41] (by simp; omega)
            clear HK2 hkn e
            go_wp2_with fail
            refine CK.out.mono ?_
            rintro e' w3 ⟨rfl, rfl⟩
            go_wp2_with fail
            go_ret
            exact ⟨by rw [HX.out]; simp, HB2.out⟩
          · have HX : Hid (textV (.mk h ks) = 76 :: jn) := by unfold Hid; rw [HK2.out]; simp [e]
            have hkn : kidsN h.k = 1 := by rw [e]; rfl
            rw [hkn] at CK
            rw [hn4] at x2 ⊢
            have t1 : ((h.k.toNat : Int) == 1) = false := u8_ne (n := 1) (by decide) (by rw [e]; decide)
            have t2 : ((h.k.toNat : Int) == 2) = false := u8_ne (n := 2) (by decide) (by rw [e]; decide)
            have t3 : ((h.k.toNat : Int) == 3) = false := u8_ne (n := 3) (by decide) (by rw [e]; decide)
            have t4 : ((h.k.toNat : Int) == 4) = true := u8_eq (n := 4) (by decide) e
            have hc1 := run_cat (P := Try.prog) [76] jn (by simp; omega)
            clear HK2 hkn e
            go_wp2_with fail
            refine CK.out.mono ?_
            rintro e' w3 ⟨rfl, rfl⟩
            go_wp2_with fail
            go_ret
            exact ⟨by rw [HX.out]; simp, HB2.out⟩
          · have HX : Hid (textV (.mk h ks) = 82 :: jn) := by unfold Hid; rw [HK2.out]; simp [e]
            have hkn : kidsN h.k = 1 := by rw [e]; rfl
            rw [hkn] at CK
            rw [hn5] at x2 ⊢
            have t1 : ((h.k.toNat : Int) == 1) = false := u8_ne (n := 1) (by decide) (by rw [e]; decide)
            have t2 : ((h.k.toNat : Int) == 2) = false := u8_ne (n := 2) (by decide) (by rw [e]; decide)
            have t3 : ((h.k.toNat : Int) == 3) = false := u8_ne (n := 3) (by decide) (by rw [e]; decide)
            have t4 : ((h.k.toNat : Int) == 4) = false := u8_ne (n := 4) (by decide) (by rw [e]; decide)
            have t5 : ((h.k.toNat : Int) == 5) = true := u8_eq (n := 5) (by decide) e
            have hc1 := run_cat (P := Try.prog) [82] jn (by simp; omega)
            clear HK2 hkn e
            go_wp2_with fail
            refine CK.out.mono ?_
            rintro e' w3 ⟨rfl, rfl⟩
            go_wp2_with fail
            go_ret
            exact ⟨by rw [HX.out]; simp, HB2.out⟩
          · have HX : Hid (textV (.mk h ks) = 91 :: (jn ++ [93])) := by unfold Hid; rw [HK2.out]; simp [e]
            have hkn : kidsN h.k = -1 := by rw [e]; rfl
            rw [hkn] at CK
            have t1 : ((h.k.toNat : Int) == 1) = false := u8_ne (n := 1) (by decide) (by rw [e]; decide)
            have t2 : ((h.k.toNat : Int) == 2) = false := u8_ne (n := 2) (by decide) (by rw [e]; decide)
            have t3 : ((h.k.toNat : Int) == 3) = false := u8_ne (n := 3) (by decide) (by rw [e]; decide)
            have t4 : ((h.k.toNat : Int) == 4) = false := u8_ne (n := 4) (by decide) (by rw [e]; decide)
            have t5 : ((h.k.toNat : Int) == 5) = false := u8_ne (n := 5) (by decide) (by rw [e]; decide)
            have t6 : ((h.k.toNat : Int) == 6) = true := u8_eq (n := 6) (by decide) e
            have hc1 := run_cat (P := Try.prog) [91] jn (by simp; omega)
            have hc2 := run_cat (P := Try.prog) (91 :: jn) [93] (by simp; omega)
            clear HK2 hkn e
            go_wp2_with fail
            refine CK.out.mono ?_
            rintro e' w3 ⟨rfl, rfl⟩
            go_wp2_with fail
            go_ret
            exact ⟨by rw [HX.out]; simp, HB2.out⟩
theorem vtext_any {ok : Nat → Prop} (h : VH) (ks : List Va) (A : Option Addr) (c : Nat) (w : World) (hm : T.sizes ks ≤ 900000) (hc : ks.length ≤ c) (hr : InRow VE ok w ks A 0) :
    Calls Try.prog 30 #[vaV h A ks.length c] w fun e w' => e = .returned (.string (str (textV (.mk h ks)))) ∧ Below w.heap.size w w' := vtext_upto 1000000 ok h ks A c w (by omega) (Nat.le_refl _) hc hr
end Go.Proofs.Yteokbmngebckjaa
