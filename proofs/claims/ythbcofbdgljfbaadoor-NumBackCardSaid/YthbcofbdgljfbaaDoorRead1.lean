/- Numbers of texts: the code's. -/
import Derived.Test.YthbcofbdgljfbaaDoorReadP
import Derived.Test.YthbcofbdgljfbaaDoorNum1
import Derived.Test.YthbcofbdgljfbaaDoorNumA
namespace Go.Proofs.YthbcofbdgljfbaaDoor
open Go.RowKit
set_option linter.unusedVariables false
set_option linter.unusedSimpArgs false

/-- the error for what is too great lies where the program has it -/
def ErrOk (w : World) : Prop := ∃ tp p, w.var? Tryd.prog "strconv.ErrRange" = some #[.iface tp p]
theorem Tryd.gErr : Tryd.prog.globalNamed "strconv.ErrRange" = some 1 := by kernel_rfl
theorem ErrOk.below {w w' : World} (h : ErrOk w) (hb : Below w.heap.size w w') : ErrOk w' := by
  obtain ⟨tp, p, h⟩ := h
  exact ⟨tp, p, var_below hb Tryd.gErr h⟩
theorem below_bytes (w : World) (e : TypeId) (s : ByteArray) : Below w.heap.size w (Lib.bytesWorld w e s) := by
  unfold Lib.bytesWorld
  exact Lib.below_freeze (below_new (Below.refl _ _).drew _) (p := ⟨w.heap.size, _, none⟩) (Nat.le_refl _) _
/-- what the library answers at digits -/
def AtoiPost (l : List UInt8) (w : World) (e : Ending) (w' : World) : Prop :=
  ∃ (v : Int) (x : Value), e = .returned (.tuple #[.int .i64 v, x]) ∧ Below w.heap.size w w' ∧ ((x = .nilIface ∧ v = (valF 0 l : Nat) ∧ valF 0 l < 9223372036854775808) ∨ ((∃ N, x = .iface 58 (.pointer (some ⟨N, 0, none⟩))) ∧ 9223372036854775808 ≤ valF 0 l))
theorem atoi_any (s : ByteArray) (w : World) (hs : s.size ≤ 1000000) (hl : s.data.toList ≠ []) (h : s.data.toList.all isDig = true) (he : ErrOk w) :
    Calls Tryd.prog 16 #[.string s] w (AtoiPost s.data.toList w) := by
  rcases atoi_digs _ hl h with ⟨h1, h2⟩ | ⟨h1, h2⟩
  · refine (Tryd.strconv_Atoi_ok s (by omega) _ h1 w).mono ?_
    rintro e w' ⟨rfl, hw⟩
    refine ⟨_, _, rfl, ?_, .inl ⟨rfl, rfl, h2⟩⟩
    rcases hw with rfl | ⟨t, rfl⟩
    · exact Below.refl _ _
    · exact below_bytes _ _ _
  · obtain ⟨tp, p, hv⟩ := he
    refine (Tryd.strconv_Atoi_range_var s (by omega) h1 tp p w hv).mono ?_
    rintro e w' ⟨N, rfl, _, _, hb⟩
    exact ⟨_, _, rfl, hb, .inr ⟨⟨N, rfl⟩, h2⟩⟩
theorem text_at_ (s : ByteArray) (k : Nat) (h : k < s.size) : s.data.toList[k]? = some (s[k]'h) := by
  have h' : k < s.data.toList.length := by rw [Array.length_toList]; exact h
  rw [List.getElem?_eq_getElem h']
  rfl
theorem text_len_ (s : ByteArray) : s.data.toList.length = s.size := by rw [Array.length_toList]; rfl

set_option maxHeartbeats 8000000 in
theorem Read_any (s : ByteArray) (w : World) (hs : s.size ≤ 1000000) (he : ErrOk w) :
    Calls Tryd.prog 9 #[.string s] w fun e w' => e = .returned (.tuple #[.int .i64 (readN s.data.toList).1, .int .i64 (readN s.data.toList).2]) ∧ Below w.heap.size w w' := by
  have HE := Lib.hid he
  clear he
  go_enter Tryd.func9, Tryd.ntmps9
  go_wp2_with fail
  go_loopw [] (fun w' => ∃ pos : Nat, w' = w.iter s pos ∧ pos ≤ s.size ∧ Hid (∀ (k : Nat) (c : UInt8), k < pos → s.data.toList[k]? = some c → isDig c = true)) (fun w' => s.size - w'.iterPos w.heap.size)
  case atStart => exact ⟨0, rfl, Nat.zero_le _, fun k c h => absurd h (by omega)⟩
  case round =>
    obtain ⟨pos, rfl, hle, HD⟩ := hrel
    by_cases hp : pos < s.size
    · have hat := text_at_ s pos hp
      by_cases ha : (s[pos]'hp).toNat < 128
      · have hnx : ∀ ty, (Instr.next (.pointer (some ⟨w.heap.size, 0, none⟩)) true ty).run Tryd.prog (w.iter s pos) = _ := fun ty => run_next_ascii w s pos ty hp ha
        obtain ⟨c, hc⟩ : ∃ c : UInt8, c = s[pos]'hp := ⟨_, rfl⟩
        rw [← hc] at hnx ha hat
        clear hc
        by_cases hd : 48 ≤ c.toNat ∧ c.toNat ≤ 57
        · have HD2 : Hid (∀ (k : Nat) (x : UInt8), k < pos + 1 → s.data.toList[k]? = some x → isDig x = true) := fun k x hk hx => by
            by_cases e : k = pos
            · subst e
              rw [hat] at hx
              cases hx
              simp [isDig, hd]
            · exact HD.out k x (by omega) hx
          obtain ⟨d1, d2⟩ := hd
          have g1 : decide ((c.toNat : Int) < 48) = false := by simp; omega
          have g2 : decide ((c.toNat : Int) > 57) = false := by simp; omega
          clear hat
          go_wp2_with fail
          go_roundw
          case rel => exact ⟨pos + 1, rfl, by omega, HD2⟩
          case measure => simp; omega
        · have HN := Lib.hid (readN_odd (all_false_at hat (by simp [isDig]; omega)))
          clear hat
          by_cases h1 : c.toNat < 48
          · have g1 : decide ((c.toNat : Int) < 48) = true := by simp; omega
            go_wp2_with fail
            go_ret2
            exact ⟨by rw [HN.out]; rfl, iter_below _ _ _⟩
          · have g1 : decide ((c.toNat : Int) < 48) = false := by simp; omega
            have g2 : decide ((c.toNat : Int) > 57) = true := by simp; omega
            go_wp2_with fail
            go_ret2
            exact ⟨by rw [HN.out]; rfl, iter_below _ _ _⟩
      · have hnx : ∀ ty, (Instr.next (.pointer (some ⟨w.heap.size, 0, none⟩)) true ty).run Tryd.prog (w.iter s pos) = _ := fun ty => run_next_any w s pos ty hp
        have hhi := (decode_high s pos hp (by omega)).1
        have HN := Lib.hid (readN_odd (all_false_at hat (by simp [isDig]; omega)))
        clear hat
        generalize Utf8.decode s pos = dc at *
        obtain ⟨d1, d2⟩ := dc
        simp only at hhi hnx
        have g1 : decide ((d1 : Int) < 48) = false := by simp; omega
        have g2 : decide ((d1 : Int) > 57) = true := by simp; omega
        go_wp2_with fail
        go_ret2
        exact ⟨by rw [HN.out]; rfl, iter_below _ _ _⟩
    · have hnx : ∀ ty, (Instr.next (.pointer (some ⟨w.heap.size, 0, none⟩)) true ty).run Tryd.prog (w.iter s pos) = _ := fun ty => run_next_end w s pos ty hp
      have hps : pos = s.size := by omega
      subst hps
      clear hp
      have HAll : Hid (s.data.toList.all isDig = true) := all_true_at fun k c hk => HD.out k c (by rw [← text_len_]; exact (List.getElem?_eq_some_iff.1 hk).1) hk
      by_cases h0 : s.size = 0
      · have hl0 : s.data.toList = [] := List.eq_nil_of_length_eq_zero (by rw [text_len_]; exact h0)
        have HN := Lib.hid (readN_form (.inl hl0))
        have ht0 : s.toList = [] := by rw [ByteArray.toList_eq]; exact hl0
        have ht1 : s.toList.isEmpty = true := by rw [ht0]; rfl
        clear h0 hl0
        go_wp2_with fail
        go_ret2
        exact ⟨by rw [HN.out]; rfl, iter_below _ _ _⟩
      · have hl0 : s.data.toList ≠ [] := fun h => h0 (by rw [← text_len_, h]; rfl)
        have ht0 : ¬ s.toList = [] := by rw [ByteArray.toList_eq]; exact hl0
        have ht1 : s.toList.isEmpty = false := by rw [ByteArray.toList_eq]; simpa using hl0
        have h0' : 0 < s.size := by omega
        have hat := text_at_ s 0 h0'
        obtain ⟨c, hc⟩ : ∃ c : UInt8, s[0]'h0' = c := ⟨_, rfl⟩
        rw [hc] at hat
        have hidx : s.data.toList.head? = some c := by rw [List.head?_eq_getElem?]; exact hat
        by_cases hz : 1 < s.size ∧ c.toNat = 48
        · have hc48 : c = 48 := UInt8.toNat_inj.1 hz.2
          have HN := Lib.hid (readN_form (l := s.data.toList) (.inr ⟨by rw [text_len_]; exact hz.1, by rw [hidx, hc48]⟩))
          have g1 : decide ((s.size : Int) > 1) = true := by simp; omega
          have g2 : ((c.toNat : Int) == 48) = true := by simp; omega
          clear hat hidx
          go_wp2_with fail
          go_ret2
          exact ⟨by rw [HN.out]; rfl, iter_below _ _ _⟩
        · have HF : Hid (¬ (s.data.toList = [] ∨ (1 < s.data.toList.length ∧ s.data.toList.head? = some 48))) := by
            rintro (h | ⟨h, h2⟩)
            · exact hl0 h
            · rw [hidx] at h2
              rw [text_len_] at h
              exact hz ⟨h, by rw [Option.some.inj h2]; rfl⟩
          have hA := Lib.hid (atoi_any s (w.iter s s.size) hs hl0 HAll.out (HE.out.below (iter_below _ _ _)))
          have hcase : (¬ 1 < s.size) ∨ (1 < s.size ∧ ¬ c.toNat = 48) := by omega
          clear hat hidx hz
          rcases hcase with hz | ⟨hz, hz2⟩
          all_goals
            first | have g1 : decide ((s.size : Int) > 1) = true := (by simp; omega) | have g1 : decide ((s.size : Int) > 1) = false := (by simp; omega)
            first | have g2 : ((c.toNat : Int) == 48) = false := (by simp; omega) | skip
            go_wp2_with fail
            refine hA.out.mono ?_
            rintro e w1 ⟨v, x, rfl, hb1, hx⟩
            have hb2 := Lib.hid (below_from (iter_below w s s.size) hb1)
            clear hb1
            rcases hx with ⟨rfl, rfl, hlt⟩ | ⟨⟨N, rfl⟩, hge⟩
            · by_cases hgr : 1000000 < valF 0 s.data.toList
              · have HN := Lib.hid (readN_great HAll.out HF.out hgr)
                have g3 : decide (((valF 0 s.data.toList : Nat) : Int) > 1000000) = true := by simp; omega
                generalize valF 0 s.data.toList = vv at *
                go_wp2_with fail
                go_ret2
                exact ⟨by rw [HN.out]; rfl, hb2.out⟩
              · have HN := Lib.hid (readN_ok HAll.out HF.out hgr)
                have g3 : decide (((valF 0 s.data.toList : Nat) : Int) > 1000000) = false := by simp; omega
                generalize valF 0 s.data.toList = vv at *
                go_wp2_with fail
                go_ret2
                exact ⟨by rw [HN.out]; rfl, hb2.out⟩
            · have HN := Lib.hid (readN_great HAll.out HF.out (Nat.lt_of_lt_of_le (by decide) hge))
              go_wp2_with fail
              go_ret2
              exact ⟨by rw [HN.out]; rfl, hb2.out⟩
end Go.Proofs.YthbcofbdgljfbaaDoor
