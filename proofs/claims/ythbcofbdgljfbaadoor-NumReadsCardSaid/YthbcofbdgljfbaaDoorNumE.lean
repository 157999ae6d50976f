/- Numbers' digits, several. -/
import Derived.Test.YthbcofbdgljfbaaDoorNumD
import Derived.Test.YthbcofbdgljfbaaDoorSet3
import Derived.Lib.Join
namespace Go.Proofs.YthbcofbdgljfbaaDoor
open Go.RowKit
set_option linter.unusedVariables false
set_option linter.unusedSimpArgs false

abbrev encI (n : Int) : Value := .int .i64 n
theorem Tryd.info_str : (Tryd.prog.info? 9).map (fun i => (i.zero, i.size, i.bytes)) = some (some (.string ByteArray.empty), 1, 16) := by kernel_rfl
/-- the digits of some, as the code joins them -/
def digsL (l : List Int) : List ByteArray := l.map fun n => str (digN n)
def digsJ (l : List Int) : List UInt8 := Lib.join (l.map digN) [32]
theorem digsL_data (l : List Int) : (digsL l).map (·.data.toList) = l.map digN := by
  unfold digsL
  rw [List.map_map]
  apply List.map_congr_left
  intro n _
  simp
theorem digsL_take {l : List Int} {k : Nat} {n : Int} (h : l[k]? = some n) : digsL (l.take (k + 1)) = digsL (l.take k) ++ [str (digN n)] := by
  unfold digsL
  rw [List.take_add_one, h, List.map_append]
  rfl
theorem join_snoc (xs : List (List UInt8)) (x sep : List UInt8) : Lib.join (xs ++ [x]) sep = if xs = [] then x else Lib.join xs sep ++ sep ++ x := by
  cases xs with
  | nil => simp [Lib.join_one]
  | cons y r =>
    rw [List.cons_append, Lib.join_cons, Lib.join_cons, if_neg (by simp)]
    unfold Lib.joinTail
    simp
theorem digsJ_take {l : List Int} {k : Nat} {n : Int} (h : l[k]? = some n) : digsJ (l.take (k + 1)) = if k = 0 then digN n else digsJ (l.take k) ++ [32] ++ digN n := by
  have hk := (List.getElem?_eq_some_iff.1 h).1
  unfold digsJ
  rw [List.take_add_one, h, List.map_append]
  show Lib.join (_ ++ [digN n]) _ = _
  rw [join_snoc]
  by_cases h0 : k = 0
  · subst h0; simp
  · have hne : l ≠ [] := fun h1 => by subst h1; simp at hk
    rw [if_neg h0, if_neg (by simp; exact ⟨h0, hne⟩)]
theorem digsJ_length (l : List Int) : ∀ k, (digsJ (l.take k)).length ≤ 10 * k
  | 0 => by simp [digsJ, Lib.join_nil]
  | k + 1 => by
    have ih := digsJ_length l k
    rcases Nat.lt_or_ge k l.length with h | h
    · rw [digsJ_take (n := l[k]) (by simp [h])]
      have := digN_length l[k]
      split
      · omega
      · simp; omega
    · rw [List.take_of_length_le (by omega)]
      rw [List.take_of_length_le (by omega)] at ih
      omega

set_option maxRecDepth 100000 in
set_option maxHeartbeats 8000000 in
theorem Digits_any (l : List Int) (A : Option Addr) (c : Nat) (w : World) (hm : l.length ≤ 1000000) (hc : l.length ≤ c) (hr : Row1 encI w A l) (hw : ∀ n ∈ l, -9223372036854775808 ≤ n ∧ n ≤ 9223372036854775807) (hp : PowOk w) :
    Calls Tryd.prog 7 #[.slice A l.length c] w fun e w' => e = .returned (.string (str (digsJ l))) ∧ Below w.heap.size w w' := by
  have HR := Lib.hid hr
  have HW := Lib.hid hw
  have HP := Lib.hid hp
  clear hr hw hp
  have hown := World.ownsRow_nil w w.heap.size 9 1
  go_enter Tryd.func7, Tryd.ntmps7
  go_wp2_with fail
  go_loopw [3, 8] (fun o i wr => ∃ k : Nat, k ≤ l.length ∧ i = .int .i64 (k : Nat) ∧ wr.ownsRow w.heap.size 9 1 o k ((digsL (l.take k)).map Value.string) ∧ Below w.heap.size w wr) (fun _ i _ => l.length - (intOf i).toNat)
  case atStart => exact ⟨0, Nat.zero_le _, rfl, hown, Below.refl _ _⟩
  case round =>
    clear hown
    obtain ⟨k, hk, rfl, ho, hb⟩ := hrel
    obtain ⟨A2, c2, rfl, hc2, hs2⟩ := own_slice ho
    by_cases hlt : k < l.length
    · obtain ⟨n, hn⟩ : ∃ n, l[k]? = some n := ⟨l[k], by simp [hlt]⟩
      obtain ⟨ad, hA, hcell⟩ := (HR.out.below hb) k n hn
      subst hA
      have HT := Lib.hid (digsL_take hn)
      have hwn := HW.out n (List.mem_of_getElem? hn)
      have hc1 := digits_any n wr hwn.1 hwn.2 (HP.out.below hb)
      have gk : decide ((k : Int) < (l.length : Int)) = true := by simp; omega
      clear hn hwn
      go_wp2_with fail
      refine hc1.mono ?_
      rintro e w1 ⟨rfl, hb1⟩
      have hb2 := below_from hb hb1
      have ho1 := ho.kept (w' := w1) (row := none) ⟨hb1.os, hb1.tape, hb1.output, hb1.size, fun k hk _ => hb1.block k hk⟩ (by cases hv : (Value.slice A2 k c2).ownBlock <;> simp)
      have HSZ := Lib.hid hb2.size
      have hsrc := new_src w1 1 1 #[.string (str (digN n))] 9 rfl
      clear hb1 ho hs2 hcell hc1
      go_wp2_with (at_builtin; refine wpList_app _ rfl (.tmp 12) (.tmp 15) 36 rfl w.heap.size 9 (.string ByteArray.empty) 1 16 Tryd.underlying36 Tryd.info_str rfl (by decide) (.slice A2 k c2) k _ rfl (ho1.alloc _) (some ⟨w1.heap.size, 0, none⟩) 1 1 _ rfl hsrc ?h1 ?h2 ?h3 ?h4 ?_)
      case h1 => intro u hu; rw [List.mem_singleton] at hu; subst hu; rfl
      case h2 => unfold maxLen; omega
      case h3 => omega
      case h4 => have := HSZ.out; simp; omega
      intro v3 w3 ho3 hg3 _
      have hb3 : Below w.heap.size w w3 := (below_new hb2 _).grown hg3 (by have := HSZ.out; simp; omega) (fun j hj => own_base ho1 j hj)
      clear hg3 ho1 hsrc
      go_wp2_with fail
      go_roundw
      case rel => exact ⟨k + 1, by omega, by go_num, by rw [HT.out, List.map_append]; exact ho3, hb3⟩
      case measure => simp [intOf]; omega
    · have he : k = l.length := by omega
      subst he
      rw [List.take_length] at ho hs2
      have gk : decide ((l.length : Int) < (l.length : Int)) = false := by simp
      have hjl := digsJ_length l l.length
      rw [List.take_length] at hjl
      have HJ : Hid (Lib.join ((digsL l).map (·.data.toList)) (⟨#[32]⟩ : ByteArray).data.toList = digsJ l) := by unfold Hid; rw [digsL_data]; rfl
      have hdl : (digsL l).length = l.length := by unfold digsL; simp
      rcases A2 with _ | ad2
      · have hl0 : l.length = 0 := by
          rcases ho.2 with ⟨_, h0⟩ | ⟨g, cap, cur, hv, _⟩
          · exact h0
          · cases hv
        have hln : l = [] := List.eq_nil_of_length_eq_zero hl0
        subst hln
        have hj := Tryd.strings_Join_none none c2 ⟨#[32]⟩ wr
        have HJN := Lib.hid hj
        clear hj
        go_wp2_with fail
        refine HJN.out.mono ?_
        rintro e w5 ⟨rfl, rfl⟩
        go_wp2_with fail
        go_ret
        exact ⟨rfl, hb⟩
      · obtain ⟨g, hg⟩ : ∃ g, ad2 = ⟨g, 0, none⟩ := by
          rcases ho.2 with ⟨hv, _⟩ | ⟨g, cap, cur, hv, _⟩
          · cases hv
          · exact ⟨g, by injection hv with h1 h2 h3; exact Option.some.inj h1⟩
        subst hg
        have hlg : g < wr.heap.size := (ho.lt g rfl).2
        have hcl : ∀ (j : Nat) (x : ByteArray), (digsL l)[j]? = some x → wr.cell? ⟨g, 0 + j, none⟩ = some (.string x) := fun j x hx => by
          obtain ⟨ad, e, h1⟩ := hs2.2 j (.string x) (by rw [List.getElem?_map, hx]; rfl)
          cases e
          rw [Nat.zero_add, ← plain_add]
          exact h1
        have hj := Tryd.strings_Join g 0 c2 (digsL l) ⟨#[32]⟩ wr hcl hlg (by rw [hdl]; omega) (by rw [hdl]; exact hc2) (by rw [HJ.out]; omega)
        rw [HJ.out, hdl] at hj
        have HJJ := Lib.hid hj
        clear hj hcl
        go_wp2_with fail
        refine HJJ.out.mono ?_
        rintro e w5 ⟨rfl, hb5⟩
        have hb6 := below_from hb hb5
        clear hb5
        go_wp2_with fail
        go_ret
        exact ⟨rfl, hb6⟩

set_option maxHeartbeats 4000000 in
theorem refDigsJoin_any (l : List Int) (A : Option Addr) (c : Nat) (w : World) (hm : l.length ≤ 1000000) (hc : l.length ≤ c) (hr : Row1 encI w A l) :
    Calls Tryd.prog 8 #[.slice A l.length c] w fun e w' => e = .returned (.string (str (digsJ l))) ∧ w = w' := by
  have HR := Lib.hid hr
  clear hr
  go_enter Tryd.func8, Tryd.ntmps8
  go_wp2_with fail
  go_loopw [3, 7] (fun o i wr => ∃ k : Nat, k ≤ l.length ∧ i = .int .i64 (k : Nat) ∧ o = .string (str (digsJ (l.take k))) ∧ wr = w) (fun _ i _ => l.length - (intOf i).toNat)
  case atStart => exact ⟨0, Nat.zero_le _, rfl, rfl, rfl⟩
  case round =>
    obtain ⟨k, hk, rfl, rfl, rfl⟩ := hrel
    by_cases hlt : k < l.length
    · obtain ⟨n, hn⟩ : ∃ n, l[k]? = some n := ⟨l[k], by simp [hlt]⟩
      obtain ⟨ad, hA, hcell⟩ := HR.out k n hn
      subst hA
      have HT := Lib.hid (digsJ_take hn)
      have hjl := digsJ_length l k
      have hdl := digN_length n
      have gk : decide ((k : Int) < (l.length : Int)) = true := by simp; omega
      generalize digsJ (l.take k) = acc at *
      clear hn
      by_cases h0 : k = 0
      · subst h0
        have hacc : acc = [] := List.eq_nil_of_length_eq_zero (by omega)
        have HA := Lib.hid hacc
        have hcat := run_cat (P := Tryd.prog) acc (digN n) (by omega)
        rw [show acc ++ digN n = digN n by rw [hacc]; rfl] at hcat
        have HT2 : Hid (digsJ (l.take (0 + 1)) = digN n) := by unfold Hid; rw [HT.out]; rfl
        have hcell0 : wr.cell? ad = some (encI n) := hcell
        clear hacc HT
        go_wp2_with fail
        refine (refDigits_any n wr).mono ?_
        rintro e w1 ⟨rfl, rfl⟩
        go_wp2_with fail
        go_roundw
        case rel => exact ⟨0 + 1, by omega, rfl, by rw [HT2.out], trivial⟩
        case measure => simp [intOf]; omega
      · have g0 : decide ((k : Int) > 0) = true := by simp; omega
        have g1 : decide (0 < k) = true := by simp; omega
        have hcat := run_cat (P := Tryd.prog) acc [32] (by simp; omega)
        have hcat2 := run_cat (P := Tryd.prog) (acc ++ [32]) (digN n) (by simp; omega)
        have HT2 : Hid (digsJ (l.take (k + 1)) = acc ++ [32] ++ digN n) := by unfold Hid; rw [HT.out, if_neg h0]
        clear h0 HT
        go_wp2_with fail
        refine (refDigits_any n wr).mono ?_
        rintro e w1 ⟨rfl, rfl⟩
        go_wp2_with fail
        go_roundw
        case rel => exact ⟨k + 1, by omega, by go_num, by rw [HT2.out, List.append_assoc]; rfl, trivial⟩
        case measure => simp [intOf]; omega
    · have he : k = l.length := by omega
      subst he
      have gk : decide ((l.length : Int) < (l.length : Int)) = false := by simp
      have hE : Hid (l.take l.length = l) := List.take_length
      go_wp2_with fail
      go_ret
      exact ⟨by rw [hE.out]; rfl, rfl⟩
end Go.Proofs.YthbcofbdgljfbaaDoor
