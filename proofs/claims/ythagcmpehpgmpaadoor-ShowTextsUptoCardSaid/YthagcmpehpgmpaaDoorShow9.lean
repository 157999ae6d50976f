/- The texts of some expressions, a line each; whether they have some. -/
import Derived.Test.YthagcmpehpgmpaaDoorShowQm
import Derived.Test.YthagcmpehpgmpaaDoorBuild
namespace Go.Proofs.YthagcmpehpgmpaaDoor
open Go.RowKit
set_option linter.unusedVariables false
set_option linter.unusedSimpArgs false

set_option maxHeartbeats 1000000 in
theorem idx_fits {ok : Nat → Prop} (p : Re → Bool) (ts : List Re) (A : Option Addr) (c : Nat) (w : World)  (hr : InRow RE ok w ts A 0) (hm : ts.length ≤ 1000000000)
    (hcall : ∀ (h : RH) (ks : List Re) (A1 : Option Addr) (c1 : Nat) (w1 : World), T.mk h ks ∈ ts → ks.length ≤ c1 → InRow RE ok w1 ks A1 0 → Below w.heap.size w w1 →
      Calls Tryd.prog 76 #[reV h A1 ks.length c1] w1 fun e w' => e = .returned (.bool (p (.mk h ks))) ∧ Below w1.heap.size w1 w') :
    Calls Tryd.prog 92 #[.slice A ts.length c, .func (.func 76) #[] #[]] w fun e w' => e = .returned (.int .i64 (idx p ts)) ∧ Below w.heap.size w w' := by
  have HC := Lib.hid hcall
  clear hcall
  go_enter Tryd.func92, Tryd.ntmps92
  go_wp2_with fail
  go_loopw [5, 8] (fun _ i wr => ∃ k : Nat, k ≤ ts.length ∧ i = .int .i64 k ∧ (∀ (j : Nat) (y : Re), j < k → ts[j]? = some y → p y = false) ∧ Below w.heap.size w wr) (fun _ i _ => ts.length - (intOf i).toNat)
  case atStart => exact ⟨0, Nat.zero_le _, rfl, fun j y h => absurd h (by omega), Below.refl _ _⟩
  case round =>
    obtain ⟨k, hk, rfl, hn, hb⟩ := hrel
    have HN := Lib.hid hn
    clear hn
    by_cases hlt : k < ts.length
    · obtain ⟨t, ad, h, ks, A1, c1, hA, hx, rfl, hc1, hr1, q0, q1, q2, q3, q4, q5⟩ := re_at (hr.below hb) hlt
      subst hA
      have HX := Lib.hid hx
      have hmem := List.mem_of_getElem? hx
      clear hx hr
      go_wp2_with fail
      refine (HC.out h ks A1 c1 _ hmem hc1 hr1 hb).mono ?_
      rintro e w1 ⟨rfl, hb1⟩
      have hb2 := below_from hb hb1
      clear hb1 hr1 q0 q1 q2 q3 q4 q5
      rcases hp : p (.mk h ks) with _ | _
      · have HP := Lib.hid hp
        clear hp
        go_wp2_with fail
        go_roundw
        case rel => exact ⟨k + 1, by omega, by go_num, fun j y hj hy => by
          by_cases e : j = k
          · subst e; rw [HX.out] at hy; cases hy; exact HP.out
          · exact HN.out j y (by omega) hy, hb2⟩
        case measure => simp [intOf]; omega
      · have HP := Lib.hid hp
        clear hp
        go_wp2_with fail
        go_ret
        exact ⟨by rw [idx_at _ ts k _ HX.out (fun j y hj hy => HN.out j y hj hy) HP.out]; rfl, hb2⟩
    · have hfin := Lib.hid (idx_none p ts fun j y hy => HN.out j y (by
        have := (List.getElem?_eq_some_iff.1 hy).1; omega) hy)
      go_wp2_with fail
      go_ret
      exact ⟨by rw [hfin.out]; rfl, hb⟩

theorem has_fits {ok : Nat → Prop} (p : Re → Bool) (ts : List Re) (A : Option Addr) (c : Nat) (w : World)  (hr : InRow RE ok w ts A 0) (hm : ts.length ≤ 1000000000)
    (hcall : ∀ (h : RH) (ks : List Re) (A1 : Option Addr) (c1 : Nat) (w1 : World), T.mk h ks ∈ ts → ks.length ≤ c1 → InRow RE ok w1 ks A1 0 → Below w.heap.size w w1 →
      Calls Tryd.prog 76 #[reV h A1 ks.length c1] w1 fun e w' => e = .returned (.bool (p (.mk h ks))) ∧ Below w1.heap.size w1 w') :
    Calls Tryd.prog 75 #[.slice A ts.length c, .func (.func 76) #[] #[]] w fun e w' => e = .returned (.bool (ts.any p)) ∧ Below w.heap.size w w' := by
  have HC := Lib.hid hcall
  clear hcall
  have HA := Lib.hid (idx_any p ts)
  go_enter Tryd.func75, Tryd.ntmps75
  go_wp2_with fail
  refine (idx_fits p ts A c _ hr hm HC.out).mono ?_
  rintro e w1 ⟨rfl, hb⟩
  go_wp2_with fail
  go_ret
  exact ⟨by rw [← HA.out]; rfl, hb⟩


/-- a line each -/
def linesL (ts : List Re) : List UInt8 := ts.flatMap fun t => textT t ++ [10]
theorem lines_take {ts : List Re} {k : Nat} {t : Re} (h : ts[k]? = some t) : linesL (ts.take (k + 1)) = linesL (ts.take k) ++ (textT t ++ [10]) := by
  simp [linesL, List.take_add_one, h]
theorem textT_length (t : Re) : (textT t).length ≤ 2000 * t.size := by
  unfold textT
  split
  · rename_i h
    unfold mayB at h
    simp only [Bool.and_eq_true] at h
    exact show_length _ t (Nat.le_refl _) h.1
  · simp
theorem lines_length (ts : List Re) : (linesL ts).length ≤ 2001 * T.sizes ts := by
  induction ts with
  | nil => simp [linesL]
  | cons t ts ih =>
    have := textT_length t
    have := t.size_pos
    simp only [linesL, List.flatMap_cons, List.length_append, T.sizes, List.length_cons, List.length_nil] at ih ⊢
    omega
theorem sizes_take (ts : List Re) (k : Nat) : T.sizes (ts.take k) ≤ T.sizes ts := by
  have := T.sizes_append (ts.take k) (ts.drop k)
  rw [List.take_append_drop] at this
  omega

set_option maxRecDepth 100000 in
set_option maxHeartbeats 8000000 in
theorem lines_any (ts : List Re) (A : Option Addr) (c : Nat) (w : World) (hm : T.sizes ts ≤ 900000) (hr : InRow RE (fun _ => True) w ts A 0) (ht : TzOk w) :
    Calls Tryd.prog 47 #[.slice A ts.length c] w fun e w' => e = .returned (.string (str (linesL ts))) ∧ Below w.heap.size w w' := by
  have HT := Lib.hid ht
  have HR := Lib.hid hr
  have hl := T.length_le_sizes ts
  have HBd : Hid (Bd 75 w.heap.size (linesL (ts.take 0)) (w.alloc (.cells #[.pointer none, .slice none 0 0] 75))) := Bd.new _ w
  have HB0 := Lib.hid (below_new (Below.refl w.heap.size w) (.cells #[.pointer none, .slice none 0 0] 75))
  clear ht hr
  go_enter Tryd.func47, Tryd.ntmps47
  go_wp2_with fail
  go_loopw [5, 8] (fun _ i wr => ∃ (k : Nat), k ≤ ts.length ∧ i = .int .i64 (k : Nat) ∧ Hid (Bd 75 w.heap.size (linesL (ts.take k)) wr) ∧ Hid (Below w.heap.size w wr)) (fun _ i _ => ts.length - (intOf i).toNat)
  case atStart => exact ⟨0, Nat.zero_le _, rfl, HBd, HB0⟩
  case round =>
    clear HBd HB0
    obtain ⟨k, hk, rfl, HBd, HB⟩ := hrel
    by_cases hlt : k < ts.length
    · obtain ⟨t, ad, h1, ls, A1, c1, hA, hx, rfl, hc1, hr1, q0, q1, q2, q3, q4, q5⟩ := re_at (HR.out.below HB.out) hlt
      subst hA
      have HL := Lib.hid (lines_take hx)
      have hs1 := T.sizes_mem (List.mem_of_getElem? hx)
      simp only [T.size] at hs1
      have ql := Nat.le_trans (lines_length (ts.take k)) (Nat.mul_le_mul_left 2001 (sizes_take ts k))
      have qt := textT_length (.mk h1 ls)
      simp only [T.size] at qt
      have HR1 := Lib.hid (hr1.below (below_new (Below.refl _ wr) (.cells (reA h1 A1 ls.length c1) 47)))
      have HT1 := Lib.hid (HT.out.below (below_new HB.out (.cells (reA h1 A1 ls.length c1) 47)))
      have HX := Lib.hid (showText_any h1 ls A1 c1 _ (by omega) hc1 HR1.out HT1.out)
      have HBd1 := Lib.hid (HBd.out.alloc (.cells (reA h1 A1 ls.length c1) 47))
      have HB1 := Lib.hid (below_new HB.out (.cells (reA h1 A1 ls.length c1) 47))
      generalize linesL (ts.take k) = ln at *
      generalize textT (.mk h1 ls) = tx at *
      have hc1' := run_cat (P := Tryd.prog) tx [10] (by simp; omega)
      have hW := Lib.hid (fun X (hb : Bd 75 w.heap.size ln X) => writeString_any isBld_self (tx ++ [10]) hb (by simp; omega))
      clear hx hr1 HR1 HT1 HBd HB
      go_wp2_with fail
      refine HX.out.mono ?_
      rintro e w1 ⟨rfl, hb1⟩
      have HBd2 := Lib.hid (HBd1.out.keep hb1)
      have HB2 := Lib.hid (below_from HB1.out hb1)
      clear hb1 HBd1 HB1 HX q0 q1 q2 q3 q4 q5
      go_wp2_with fail
      refine (hW.out _ HBd2.out).mono ?_
      rintro e w2 ⟨rfl, hbd, hk2⟩
      have HB3 := Lib.hid (HB2.out.trans hk2.1)
      have HBd3 := Lib.hid hbd
      clear hbd hk2 HB2 HBd2
      go_wp2_with fail
      go_roundw
      case rel => exact ⟨k + 1, by omega, by go_num, by rw [HL.out]; exact HBd3, HB3⟩
      case measure => simp [intOf]; omega
    · have hkn : k = ts.length := by omega
      subst hkn
      have HBd2 : Hid (Bd 75 w.heap.size (linesL ts) wr) := by
        have := HBd.out
        rw [List.take_length] at this
        exact this
      clear HBd
      go_wp2_with fail
      refine (string_any HBd2.out).mono ?_
      rintro e w1 ⟨rfl, hb1⟩
      have hb := HB.out.trans hb1
      go_wp2_with fail
      go_ret
      exact ⟨rfl, hb⟩

/-- has an expression's text more bytes than may be? -/
def longT (t : Re) : Bool := decide (65536 < (textT t).length)
set_option maxHeartbeats 4000000 in
theorem fitsLit_any (h : RH) (ks : List Re) (A : Option Addr) (c : Nat) (w : World) (hm : T.sizes ks ≤ 900000) (hc : ks.length ≤ c) (hr : InRow RE (fun _ => True) w ks A 0) (ht : TzOk w) :
    Calls Tryd.prog 76 #[reV h A ks.length c] w fun e w' => e = .returned (.bool (longT (.mk h ks))) ∧ Below w.heap.size w w' := by
  have hb0 := below_new (Below.refl w.heap.size w) (.cells (reA h A ks.length c) 47)
  have HX := Lib.hid (showText_any h ks A c _ hm hc (hr.below hb0) (ht.below hb0))
  have HG : Hid (longT (.mk h ks) = decide (65536 < (textT (.mk h ks)).length)) := rfl
  have HB0 := Lib.hid hb0
  generalize longT (.mk h ks) = b at *
  generalize textT (.mk h ks) = tx at *
  clear hb0 hr ht
  go_enter Tryd.func76, Tryd.ntmps76
  go_wp2_with fail
  refine HX.out.mono ?_
  rintro e w1 ⟨rfl, hb1⟩
  have hb := below_from HB0.out hb1
  go_wp2_with fail
  go_ret
  exact ⟨by rw [HG.out]; simp [str_size]; omega, hb⟩
/-- have they all a text? -/
def fitsB (ts : List Re) : Bool := ts.all mayB && !ts.any longT
set_option maxHeartbeats 4000000 in
theorem fits_any (ts : List Re) (A : Option Addr) (c : Nat) (w : World) (hm : T.sizes ts ≤ 900000) (hr : InRow RE (fun _ => True) w ts A 0) (ht : TzOk w) :
    Calls Tryd.prog 48 #[.slice A ts.length c] w fun e w' => e = .returned (.bool (fitsB ts)) ∧ Below w.heap.size w w' := by
  have hl := T.length_le_sizes ts
  have HM := Lib.hid (May_any ts A c w (by omega) hr)
  have hF : ∀ X, Below w.heap.size w X → Calls Tryd.prog 75 #[.slice A ts.length c, .func (.func 76) #[] #[]] X fun e w' => e = .returned (.bool (ts.any longT)) ∧ Below X.heap.size X w' := by
    intro X hX
    refine has_fits longT ts A c X (hr.below hX) (by omega) ?_
    intro h1 ls A1 c1 w1 hmem hc1 hr1 hb1
    have hs := T.sizes_mem hmem
    simp only [T.size] at hs
    exact fitsLit_any h1 ls A1 c1 w1 (by omega) hc1 hr1 (ht.below (below_from hX hb1))
  have HF := Lib.hid hF
  have HG : Hid (fitsB ts = (ts.all mayB && !ts.any longT)) := rfl
  clear hF hr ht
  generalize fitsB ts = b at *
  generalize ts.all mayB = m at *
  generalize ts.any longT = l at *
  go_enter Tryd.func48, Tryd.ntmps48
  go_wp2_with fail
  refine HM.out.mono ?_
  rintro e w1 ⟨rfl, hb1⟩
  cases m with
  | false =>
    go_wp2_with fail
    go_ret
    exact ⟨by rw [HG.out]; rfl, hb1⟩
  | true =>
    have HB1 := Lib.hid hb1
    clear hb1
    go_wp2_with fail
    refine (HF.out _ HB1.out).mono ?_
    rintro e w2 ⟨rfl, hb2⟩
    have hb := below_from HB1.out hb2
    go_wp2_with fail
    go_ret
    exact ⟨by rw [HG.out]; simp, hb⟩
end Go.Proofs.YthagcmpehpgmpaaDoor
