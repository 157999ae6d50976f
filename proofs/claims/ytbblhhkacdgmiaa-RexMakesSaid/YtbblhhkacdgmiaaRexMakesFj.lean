/- What is made of any expressions, sets and texts is the document's: for every input, of any size. -/
import Derived.Test.YtbblhhkacdgmiaaAwake3
import Derived.Test.YtbblhhkacdgmiaaSr1
import Derived.Test.YtbblhhkacdgmiaaRefWord
import Derived.Test.YtbblhhkacdgmiaaBg
import Derived.WalkKit
import Derived.OpenShut
import Derived.JoinedCond
namespace Go.Proofs.Ytbblhhkacdgmiaa
open Go.RowKit
set_option linter.unusedVariables false
set_option linter.unusedSimpArgs false

theorem foldT_short (kd nn : UInt8) : ∀ (ts : List Re), T.shorts ts → T.short (foldT kd nn ts)
  | [], _ => .mk (by simp) (by simp [T.shorts])
  | [t], h => by simp only [T.shorts] at h; exact h.1
  | t :: u :: ts, h => by
    have h2 := h
    simp only [T.shorts] at h
    refine .mk (by simp) ?_
    simp only [T.shorts]
    exact ⟨h.1, foldT_short kd nn (u :: ts) (by simp only [T.shorts]; exact h.2), trivial⟩
theorem leaves_short (l : List UInt8) : T.shorts (wordL l) := by
  induction l with
  | nil => trivial
  | cons b l ih =>
    simp only [wordL, List.map_cons, T.shorts] at ih ⊢
    exact ⟨.mk (by simp) (by simp [T.shorts]), ih⟩
/-- Same, of two that are one -/
theorem same_one {P : Nat → Prop} (t : Re) (h h2 : RH) (ks ks2 : List Re) (A A2 : Option Addr) (c c2 : Nat) (X : World) (e1 : t = .mk h ks) (e2 : t = .mk h2 ks2) (hm : T.short t) (hr : InRow RE (fun _ => True) X ks A 0) (hr2 : InRow RE (fun _ => True) X ks2 A2 0) :
    Calls Try.prog 8 #[reV h A ks.length c, reV h2 A2 ks2.length c2] X fun e w' => e = .returned (.bool true) ∧ Below X.heap.size X w' := by
  have := refSame_s _ (fun _ => True) h h2 ks ks2 A A2 c c2 X (Nat.le_refl _) (by rw [← e1]; exact hm) (by rw [← e2]; exact hm) hr hr2
  rw [← e1, ← e2, sameT_refl] at this
  exact this

/-- what a call makes -/
def Made (t : Re) (w : World) (e : Ending) (w' : World) : Prop := ∃ h ks A c, e = .returned (reV h A ks.length c) ∧ t = .mk h ks ∧ ks.length ≤ c ∧ InRow RE (fun _ => True) w' ks A 0 ∧ Below w.heap.size w w'
theorem RePost.made {ok : Nat → Prop} {t : Re} {w : World} {e : Ending} {w' : World} (h : RePost ok t w e w') : Made t w e w' := by
  obtain ⟨v, rfl, ⟨h, ks, A, c, ht, hc, rfl, hr⟩, hb1⟩ := h
  exact ⟨h, ks, A, c, rfl, ht, hc, hr.weak fun b hb' => trivial, hb1⟩

set_option maxHeartbeats 1000000 in
theorem rexMakesF_walk (ts : List Re) (A : Option Addr) (c : Nat) (s : S4) (word : ByteArray) (w : World) (hl : ts.length ≤ 9223372036854775807) (hm : T.shorts ts) (hc : ts.length ≤ c) (hr : InRow RE (fun _ => True) w ts A 0) :
    Calls Try.prog 3 #[.slice A ts.length c, setV s, .string word] w fun e w' => e = .returned (.bool true) ∧ Below w.heap.size w w' := by
  have HM := Lib.hid hm
  have hb0 := below_new (Below.refl _ w) (.cells (setA s) 25)
  go_enter Try.func3, Try.ntmps3
  go_wp2_with fail
  refine (GreatAll_s ts A c 200 _ hl hm (hr.below hb0)).mono ?_
  rintro e w1 ⟨⟨b0, rfl, h20⟩, hb1⟩
  clear hm
  have E1 := Lib.hid (one_block hb1)
  obtain ⟨⟨x0, x1, x2, x3⟩, f0, f1, f2, f3⟩ := cells4_of E1.out
  have hb2 := below_from hb0 hb1
  clear hb0 hb1 f0 f1 f2 f3
  have hr1 := hr.below hb2
  clear hr
  cases b0 with
  | true =>
    go_wp2_with fail
    refine (awake3_any w1).mono ?_
    rintro e w2 ⟨rfl, hb3⟩
    have hb4 := below_from hb2 hb3
    clear hb3 hb2
    go_wp2_with fail
    go_ret
    exact ⟨rfl, hb4⟩
  | false =>
    replace h20 := h20 rfl
    clear hl
    by_cases hlen : word.size ≤ 100
    · have g : decide ((word.size : Int) > 100) = false := by simp; omega
      go_wp2_with fail
      have C26 : Hid (∀ X, InRow RE (fun _ => True) X ts A 0 → Calls Try.prog 9 #[.slice A ts.length c] X (Made (foldT 4 2 ts) X)) := fun X h => (then_any ts A c X (by omega) hc h).mono fun _ _ h => h.made
      have C28 : Hid (∀ X, InRow RE (fun _ => True) X ts A 0 → Calls Try.prog 11 #[.slice A ts.length c] X (Made (foldT 5 1 ts) X)) := fun X h => (or_any ts A c X (by omega) hc h).mono fun _ _ h => h.made
      have C4 : Hid (∀ X, InRow RE (fun _ => True) X ts A 0 → Calls Try.prog 10 #[.int .u8 4, .slice A ts.length c] X (Made (foldT 4 2 ts) X)) := fun X h => (refFold_upto 4 4 2 rfl (.inl ⟨rfl, rfl⟩) ts _ A c X (by omega) hc h).mono fun _ _ h => h.made
      have C5 : Hid (∀ X, InRow RE (fun _ => True) X ts A 0 → Calls Try.prog 10 #[.int .u8 5, .slice A ts.length c] X (Made (foldT 5 1 ts) X)) := fun X h => (refFold_upto 5 5 1 rfl (.inr ⟨rfl, rfl⟩) ts _ A c X (by omega) hc h).mono fun _ _ h => h.made
      have CO : Hid (∀ X, Calls Try.prog 8 #[reV (ofH s) none 0 0, reV (ofH s) none 0 0] X fun e w' => e = .returned (.bool true) ∧ Below X.heap.size X w') := fun X => same_one (P := fun _ => True) (.mk (ofH s) []) (ofH s) (ofH s) [] [] none none 0 0 X rfl rfl (.mk (by simp) (by simp [T.shorts])) (by simp [InRow]) (by simp [InRow])
      have Z4 : Hid (T.short (foldT 4 2 ts)) := foldT_short 4 2 ts HM.out
      have Z5 : Hid (T.short (foldT 5 1 ts)) := foldT_short 5 1 ts HM.out
      have hrd := Lib.hid (hr1.below (Below.refl _ w1).drew)
      have HR1 := Lib.hid hr1
      have HB2 := Lib.hid hb2
      clear hr1 hb2
      go_region_held3 (fun w' => w'.cell? ⟨w.heap.size, 0, none⟩ = some (.int .u64 (s.a.toNat : Int)) ∧ w'.cell? ⟨w.heap.size, 1, none⟩ = some (.int .u64 (s.b.toNat : Int)) ∧ w'.cell? ⟨w.heap.size, 2, none⟩ = some (.int .u64 (s.c.toNat : Int)) ∧ w'.cell? ⟨w.heap.size, 3, none⟩ = some (.int .u64 (s.d.toNat : Int)))
        (go_keep)
        (first
          | (go_at_call 9; refine (C26.out w1.drew hrd.out).mono ?_; rintro e w2 ⟨ha, ka, Aa, ca, rfl, ea, hca, hra, hba⟩; have EA := Lib.hid ea; clear ea; have hr2 := Lib.hid (hrd.out.below hba); have x0a := keep_cell hba x0; have x1a := keep_cell hba x1; have x2a := keep_cell hba x2; have x3a := keep_cell hba x3)
          | (go_at_call 10; refine (C5.out w5 hr5.out).mono ?_; rintro e w6 ⟨hd, kd, Ad, cd, rfl, ed, hcd, hrd6, hbd⟩; have ED := Lib.hid ed; clear ed; have hr6 := Lib.hid (hr5.out.below hbd); have hrc6 := Lib.hid (hrc5.below hbd); have x0f := keep_cell hbd x0e; have x1f := keep_cell hbd x1e; have x2f := keep_cell hbd x2e; have x3f := keep_cell hbd x3e)
          | (go_at_call 10; refine (C4.out w2 hr2.out).mono ?_; rintro e w3 ⟨hb, kb, Ab, cb, rfl, eb, hcb, hrb, hbb⟩; have EB := Lib.hid eb; clear eb; have hr3 := Lib.hid (hr2.out.below hbb); have hra3 := Lib.hid (hra.below hbb); have x0b := keep_cell hbb x0a; have x1b := keep_cell hbb x1a; have x2b := keep_cell hbb x2a; have x3b := keep_cell hbb x3a)
          | (go_at_call 8; refine (CO.out w9).mono ?_; rintro e w10 ⟨rfl, hbj⟩; have x0j := keep_cell hbj x0i; have x1j := keep_cell hbj x1i; have x2j := keep_cell hbj x2i; have x3j := keep_cell hbj x3i)
          | (go_at_call 8; refine (same_one (P := fun _ => True) _ hc_ hd kc kd Ac Ad cc cd w6 EC.out ED.out Z5.out hrc6.out hrd6).mono ?_; rintro e w7 ⟨rfl, hbg⟩; have hr7 := Lib.hid (hr6.out.below hbg); have x0g := keep_cell hbg x0f; have x1g := keep_cell hbg x1f; have x2g := keep_cell hbg x2f; have x3g := keep_cell hbg x3f)
          | (go_at_call 8; refine (same_one (P := fun _ => True) _ ha hb ka kb Aa Ab ca cb w3 EA.out EB.out Z4.out hra3.out hrb).mono ?_; rintro e w4 ⟨rfl, hbc⟩; have hr4 := Lib.hid (hr3.out.below hbc); have x0c := keep_cell hbc x0b; have x1c := keep_cell hbc x1b; have x2c := keep_cell hbc x2b; have x3c := keep_cell hbc x3b)
          | (go_at_call 11; refine (C28.out w4 hr4.out).mono ?_; rintro e w5 ⟨hc_, kc, Ac, cc, rfl, ec, hcc, hrc5, hbe⟩; have EC := Lib.hid ec; clear ec; have hr5 := Lib.hid (hr4.out.below hbe); have x0e := keep_cell hbe x0c; have x1e := keep_cell hbe x1c; have x2e := keep_cell hbe x2c; have x3e := keep_cell hbe x3c)
          | (go_at_call 12; refine (rexOf_any s w7).mono ?_; rintro e w8 ⟨rfl, hbh⟩; have hr8 := Lib.hid (hr7.out.below hbh); have x0h := keep_cell hbh x0g; have x1h := keep_cell hbh x1g; have x2h := keep_cell hbh x2g; have x3h := keep_cell hbh x3g)
          | (go_at_call 13; refine (refOfRe_any s w8).mono ?_; rintro e w9 ⟨rfl, hbi⟩; have hr9 := Lib.hid (hr8.out.below hbi); have x0i := keep_cell hbi x0h; have x1i := keep_cell hbi x1h; have x2i := keep_cell hbi x2h; have x3i := keep_cell hbi x3h)
          | fail)
      have hb10 := below_from (below_from (below_from (below_from (below_from (below_from (below_from (below_from (below_from HB2.out.drew hba) hbb) hbc) hbe) hbd) hbg) hbh) hbi) hbj
      have hr10 := Lib.hid (hr9.out.below hbj)
      have ZW : Hid (T.short (foldT 4 2 (wordL word.data.toList))) := foldT_short 4 2 _ (leaves_short _)
      clear hba hbb hbc hbd hbe hbg hbh hbi hbj hr2 hr3 hr4 hr5 hr6 hr7 hr8 hr9 hra hra3 hrb hrc5 hrc6 hrd6 hrd HR1 HB2 EA EB EC ED hca hcb hcc hcd C28 C5 CO Z5
      clear x0 x1 x2 x3 x0a x1a x2a x3a x0b x1b x2b x3b x0c x1c x2c x3c x0e x1e x2e x3e x0f x1f x2f x3f x0g x1g x2g x3g x0h x1h x2h x3h x0i x1i x2i x3i x0j x1j x2j x3j E1
      go_wp2_with fail
      refine (rexWord_any word w10 (by omega)).mono ?_
      rintro e w11 h
      obtain ⟨ha1, ka1, Aa1, ca1, rfl, ea1, hca1, hra1, hba1⟩ := h.made
      have EA := Lib.hid ea1
      clear ea1 h
      go_wp2_with fail
      refine (refWord_any word w11 (by omega)).mono ?_
      rintro e w12 h
      obtain ⟨hb1', kb1, Ab1, cb1, rfl, eb1, hcb1, hrb1, hbb1⟩ := h.made
      have EB := Lib.hid eb1
      clear eb1 h
      go_wp2_with fail
      refine (same_one (P := fun _ => True) _ ha1 hb1' ka1 kb1 Aa1 Ab1 ca1 cb1 w12 EA.out EB.out ZW.out (hra1.below hbb1) hrb1).mono ?_
      rintro e w13 ⟨rfl, hbc1⟩
      have hb13 := below_from (below_from (below_from hb10 hba1) hbb1) hbc1
      have hr13 := Lib.hid (((hr10.out.below hba1).below hbb1).below hbc1)
      clear hb10 hba1 hbb1 hbc1 hra1 hrb1 hca1 hcb1 EA EB hr10 ZW
      go_wp2_with fail
      refine (C26.out w13 hr13.out).mono ?_
      rintro e w14 ⟨ha2, ka2, Aa2, ca2, rfl, ea2, hca2, hra2, hba2⟩
      have EA := Lib.hid ea2
      have HC2 := Lib.hid hca2
      clear ea2 hca2
      go_wp2_with fail
      refine (rexMany_any ha2 ka2 Aa2 ca2 w14 HC2.out hra2).mono ?_
      rintro e w15 h
      obtain ⟨ha3, ka3, Aa3, ca3, rfl, ea3, hca3, hra3, hba3⟩ := h.made
      have EA3 : Hid (T.mk ⟨6, S4.zero⟩ [foldT 4 2 ts] = T.mk ha3 ka3) := by unfold Hid; rw [EA.out]; exact ea3
      have hr15 := Lib.hid ((hr13.out.below hba2).below hba3)
      have hb15 := below_from (below_from hb13 hba2) hba3
      clear ea3 h EA HC2 hra2 hba2 hba3 hb13 hr13
      go_wp2_with fail
      refine (C4.out w15 hr15.out).mono ?_
      rintro e w16 ⟨hb2', kb2, Ab2, cb2, rfl, eb2, hcb2, hrb2, hbb2⟩
      have EB := Lib.hid eb2
      have HC2 := Lib.hid hcb2
      clear eb2 hcb2
      go_wp2_with fail
      refine (refMany_any hb2' kb2 Ab2 cb2 w16 HC2.out hrb2).mono ?_
      rintro e w17 h
      obtain ⟨hb3', kb3, Ab3, cb3, rfl, eb3, hcb3, hrb3, hbb3⟩ := h.made
      have EB3 : Hid (T.mk ⟨6, S4.zero⟩ [foldT 4 2 ts] = T.mk hb3' kb3) := by unfold Hid; rw [EB.out]; exact eb3
      have hb17 := below_from (below_from hb15 hbb2) hbb3
      have hra17 := Lib.hid ((hra3.below hbb2).below hbb3)
      clear eb3 h EB HC2 hrb2 hbb2 hbb3 hb15 hr15 hra3 C26 C4
      go_wp2_with fail
      refine (same_one (P := fun _ => True) _ ha3 hb3' ka3 kb3 Aa3 Ab3 ca3 cb3 w17 EA3.out EB3.out (.mk (by simp) (by simp only [T.shorts]; exact ⟨Z4.out, trivial⟩)) hra17.out hrb3).mono ?_
      rintro e w18 ⟨rfl, hbc3⟩
      have hb18 := below_from hb17 hbc3
      clear hb17 hbc3 hra17 hrb3 EA3 EB3 hca3 hcb3 Z4
      go_wp2_with fail
      refine (awake3_any w18).mono ?_
      rintro e w19 ⟨rfl, hbd3⟩
      have hb19 := below_from hb18 hbd3
      clear hb18 hbd3
      go_wp2_with fail
      go_ret
      exact ⟨rfl, hb19⟩
    · have g : decide ((word.size : Int) > 100) = true := by simp; omega
      go_wp2_with fail
      refine (awake3_any w1).mono ?_
      rintro e w2 ⟨rfl, hb3⟩
      have hb4 := below_from hb2 hb3
      clear hb3 hb2
      go_wp2_with fail
      go_ret
      exact ⟨rfl, hb4⟩
namespace lawRexMakesF
open Go.ChangeShapes Go.WideShapes Go.ChangeAt
open Go.ChangeMaps (open_string)
set_option maxRecDepth 100000 in
theorem lifted (os : Os) (started : os.Started) (H : Type) (enc : TypeId × Value → H) :
    ReturnsInHanded {} Try.checked os 3 .any (Rows.rexMakesSpec.pre6 enc Try.prog Try.f3 Rows.rexMakesRow.domain false) (Rows.rexMakesSpec.post enc Try.prog Try.f3 false true false false) := by
  refine returnsInHanded_of_change (C := Try.checked) Try.own started (by kernel_rfl) Try.func3
    (ChangeSpec.witness6 (enc := enc) (C := Try.checked) false ⟨#[], #[.slice none 0 0, .agg #[.int .u64 0, .int .u64 0, .int .u64 0, .int .u64 0], .string ByteArray.empty], []⟩ 8 (by kernel_rfl) (by kernel_rfl) (by kernel_rfl) (by kernel_rfl)) ?_
  intro W base args ds gs before hval0 hW hcnd _
  have hval : ∀ (j : Nat) t v, Try.f3.params[j]? = some t → args[j]? = some v → Value.okWide Try.prog W .any base t v := hval0
  have hW' := hW
  obtain ⟨p, q, hA0, hV, rfl, hfz, hnd⟩ := hW
  have hA : DataW.TrodAll enc Try.prog W 0 (fun _ => true) true Try.f3.params.toList args.toList ds p := hA0
  rw [Try.params3] at hA hval
  obtain ⟨v0, vs0, d0, ds0, p0, q0, hargs, rfl, rfl, h0, r0⟩ := trodAll_cons hA
  obtain ⟨v1, vs1, d1, ds1, p1, q1, rfl, rfl, rfl, h1, r1⟩ := trodAll_cons r0
  obtain ⟨v2, vs2, d2, ds2, p2, q2, rfl, rfl, rfl, h2, r2⟩ := trodAll_cons r1
  obtain ⟨rfl, rfl, rfl⟩ := trodAll_nil r2
  obtain rfl : args = #[v0, v1, v2] := by cases args; simp_all
  obtain ⟨rfl, rfl⟩ := trodVars_none hV
  obtain ⟨word, rfl, rfl, rfl, hs2⟩ := open_string Try.underlying9 (hval 2 9 v2 rfl rfl) h2
  obtain ⟨ts, A0, c0, rfl, hc0, hr0, hl0, hz0⟩ := open_res_s (hval 0 22 v0 rfl rfl) h0
  obtain ⟨s, rfl⟩ := open_set1 (hval 1 25 v1 rfl rfl) h1
  refine (rexMakesF_walk ts A0 c0 s word W hl0 hz0 hc0 hr0).mono fun e W' ⟨he, hb⟩ => ?_
  subst he
  exact ⟨_, rfl, post_true Try.laidOut (by rw [Try.params3]; intro t ht; simp at ht; rcases ht with rfl | rfl | rfl <;> exact ⟨by kernel_rfl, of_decide_eq_true (by kernel_rfl)⟩) hW' rfl rfl rfl Try.underlying4 hb⟩
theorem proved : Rows.RexMakesSaid :=
  OpenClaim.holds_of_wide 3 Try.f3 rfl rfl rfl rfl rfl rfl rfl ⟨rfl, rfl, rfl, rfl, rfl⟩ rfl rfl rfl rfl rfl (by kernel_rfl) Try.func3 (by kernel_rfl)
    (of_decide_eq_true (by kernel_rfl)) (by unfold Func.isWrapper; first | (rw [if_pos (by decide +kernel)]; kernel_rfl) | (rw [if_neg (by decide +kernel)]; exact ⟨rfl, rfl⟩))
    (fun os started H enc _ => lifted os started H enc)
end lawRexMakesF
end Go.Proofs.Ytbblhhkacdgmiaa
