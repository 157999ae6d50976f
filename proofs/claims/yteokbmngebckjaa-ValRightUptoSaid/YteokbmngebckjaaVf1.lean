/- Values' texts, of their bytes: val.Flat. -/
import Derived.Test.YteokbmngebckjaaBv
import Derived.Test.YteokbmngebckjaaBx
import Derived.Test.YteokbmngebckjaaCb
import Derived.Test.YteokbmngebckjaaBb
namespace Go.Proofs.Yteokbmngebckjaa
open Go.RowKit
set_option linter.unusedVariables false
set_option linter.unusedSimpArgs false

set_option maxRecDepth 100000 in
set_option maxHeartbeats 2000000 in
theorem vflat_upto (n : Nat) : ∀ (ok : Nat → Prop) (ts : List Va) (A : Option Addr) (c : Nat) (w : World), T.sizes ts < n → n ≤ 1000000000 → InRow VE ok w ts A 0 →
    Calls Try.prog 25 #[.slice A ts.length c] w fun e w' => e = .returned (.string (str (flatVs ts))) ∧ Below w.heap.size w w' := by
  induction n with
  | zero => intro ok ts A c w h0; omega
  | succ n ih =>
    intro ok ts A c w hn hm hr
    have hl := T.length_le_sizes ts
    have IH := Lib.hid ih
    have HR := Lib.hid hr
    have HBD0 := Lib.hid (Bd.new 61 w)
    have HB0 := Lib.hid (below_new (Below.refl w.heap.size w) (.cells #[.pointer none, .slice none 0 0] 61))
    have hlen := flatVs_len ts
    clear ih hr
    go_enter Try.func25, Try.ntmps25
    go_wp2_with fail
    go_loopw [8] (fun i wr => ∃ (k : Nat), k ≤ ts.length ∧ i = .int .i64 k ∧ Hid (Bd 61 w.heap.size (flatVs (ts.take k)) wr) ∧ Hid (Below w.heap.size w wr)) (fun i _ => ts.length - (intOf i).toNat)
    case atStart => exact ⟨0, Nat.zero_le _, rfl, HBD0, HB0⟩
    case round =>
      clear HBD0 HB0
      obtain ⟨k, hk, rfl, HBD, HB⟩ := hrel
      by_cases hlt : k < ts.length
      · obtain ⟨t, ad, h1, ls, A1, c1, hA, hx, rfl, hc1, hr1, q0, q1, q2⟩ := va_at HR.out hlt
        subst hA
        replace q0 := keep_cell HB.out q0
        replace q1 := keep_cell HB.out q1
        replace q2 := keep_cell HB.out q2
        have HRK : Hid (∀ X, Below w.heap.size w X → InRow VE ok X ls A1 0) := fun X hX => hr1.below hX
        have hmem := List.mem_of_getElem? hx
        have hs1 := T.sizes_mem hmem
        simp only [T.size] at hs1
        have hks : T.sizes ls < n := by omega
        have HX := Lib.hid hx
        have HTK : Hid (flatVs (ts.take (k + 1)) = flatVs (ts.take k) ++ flatV (T.mk h1 ls)) := flat_take hx
        have hl1 := flatVs_len (ts.take k)
        have hl2 := sizesV_take ts k
        have hl3 := flatVs_len ls
        clear hx hmem
        by_cases hk2 : h1.k = 2
        · have t2 : ((h1.k.toNat : Int) == 2) = true := u8_eq (n := 2) (by decide) hk2
          have HFV : Hid (flatV (T.mk h1 ls) = [h1.b] ++ flatVs ls) := by unfold Hid; simp [flatV, hk2]
          clear hk2
          have HW1 := Lib.hid (writeByte_any isBld_self h1.b (HBD.out.alloc (.cells (vaA h1 A1 ls.length c1) 24)) (by omega))
          go_wp2_with fail
          refine HW1.out.mono ?_
          rintro e w2 ⟨rfl, hbd2, hbk2⟩
          have e2 := hbk2.block (new_at1 (w := wr) (.cells (vaA h1 A1 ls.length c1) 24)) (by have := HBD.out.lt; omega) (by decide)
          have hbA := (below_new (Below.refl wr.heap.size wr) (.cells (vaA h1 A1 ls.length c1) 24))
          have HB2 : Hid (Below w.heap.size w w2) := by unfold Hid; exact (below_from HB.out hbA).trans hbk2.1
          have := HR.out.there.below HB2.out
          have hr2 : InRow VE ok w2 ls A1 0 := HRK.out w2 HB2.out
          have HC := Lib.hid (IH.out ok ls A1 c1 w2 hks (by omega) hr2)
          have HBDa := Lib.hid hbd2
          obtain ⟨y0, y1, y2⟩ := va_at_box e2
          clear hr2 hbd2 e2 hbk2 hbA
          go_wp2_with fail
          refine HC.out.mono ?_
          rintro e w3 ⟨rfl, hb3⟩
          have HW3 := Lib.hid (writeString_any isBld_self (flatVs ls) (HBDa.out.keep hb3) (by (try simp only [List.length_append, List.length_cons, List.length_nil]); omega))
          have HB3 := Lib.hid (below_from HB2.out hb3)
          clear hb3 y0 y1 y2
          go_wp2_with fail
          refine HW3.out.mono ?_
          rintro e w4 ⟨rfl, hbd4, hbk4⟩
          have HB4 : Hid (Below w.heap.size w w4) := HB3.out.trans hbk4.1
          have HBD4 : Hid (Bd 61 w.heap.size (flatVs (ts.take (k + 1))) w4) := by
            unfold Hid
            rw [HTK.out, HFV.out, ← List.append_assoc]
            exact hbd4
          clear hbd4 hbk4
          go_wp2_with fail
          go_roundw
          case rel => exact ⟨k + 1, by omega, by go_num, HBD4, HB4⟩
          case measure => simp [intOf]; omega
        · have t2 : ((h1.k.toNat : Int) == 2) = false := u8_ne (n := 2) (by decide) hk2
          have HFV : Hid (flatV (T.mk h1 ls) = [] ++ flatVs ls) := by unfold Hid; simp [flatV, hk2]
          clear hk2
          obtain ⟨w2, hw2⟩ : ∃ w2, wr.alloc (.cells (vaA h1 A1 ls.length c1) 24) = w2 := ⟨_, rfl⟩
          have hbd2 : Bd 61 w.heap.size (flatVs (ts.take k)) w2 := by rw [← hw2]; exact HBD.out.alloc _
          have HB2 : Hid (Below w.heap.size w w2) := by unfold Hid; rw [← hw2]; exact below_from HB.out (below_new (Below.refl wr.heap.size wr) _)
          have e2 : w2.heap[wr.heap.size]? = some (.cells (vaA h1 A1 ls.length c1) 24 (0, 0)) := by rw [← hw2]; exact new_at1 _
          have HWW := Lib.hid hw2
          clear hw2
          have hr2 : InRow VE ok w2 ls A1 0 := HRK.out w2 HB2.out
          have HC := Lib.hid (IH.out ok ls A1 c1 w2 hks (by omega) hr2)
          have HBDa := Lib.hid hbd2
          obtain ⟨y0, y1, y2⟩ := va_at_box e2
          clear hr2 hbd2 e2
          go_upto_region 5 with fail
          rw [show wr.alloc _ = w2 from HWW.out]
          go_wp2_with fail
          refine HC.out.mono ?_
          rintro e w3 ⟨rfl, hb3⟩
          have HW3 := Lib.hid (writeString_any isBld_self (flatVs ls) (HBDa.out.keep hb3) (by (try simp only [List.length_append, List.length_cons, List.length_nil]); omega))
          have HB3 := Lib.hid (below_from HB2.out hb3)
          clear hb3 y0 y1 y2
          go_wp2_with fail
          refine HW3.out.mono ?_
          rintro e w4 ⟨rfl, hbd4, hbk4⟩
          have HB4 : Hid (Below w.heap.size w w4) := HB3.out.trans hbk4.1
          have HBD4 : Hid (Bd 61 w.heap.size (flatVs (ts.take (k + 1))) w4) := by
            unfold Hid
            rw [HTK.out, HFV.out, ← List.append_assoc]
            rw [List.append_nil]
            exact hbd4
          clear hbd4 hbk4
          go_wp2_with fail
          go_roundw
          case rel => exact ⟨k + 1, by omega, by go_num, HBD4, HB4⟩
          case measure => simp [intOf]; omega
      · have hkk : k = ts.length := by omega
        subst hkk
        have hbd := HBD.out
        rw [List.take_length] at hbd
        have HST := Lib.hid (string_any hbd)
        clear hlt hbd HBD
        go_wp2_with fail
        refine HST.out.mono ?_
        rintro e w4 ⟨rfl, hb4⟩
        have HB4 : Hid (Below w.heap.size w w4) := HB.out.trans hb4
        clear HST hb4
        go_wp2_with fail
        go_ret
        exact ⟨rfl, HB4.out⟩
end Go.Proofs.Yteokbmngebckjaa
