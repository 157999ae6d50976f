/- How many values; too many. -/
import Derived.Test.YteokbmngebckjaaBa
import Derived.Test.YteokbmngebckjaaBv
namespace Go.Proofs.Yteokbmngebckjaa
open Go.RowKit
set_option linter.unusedVariables false
set_option linter.unusedSimpArgs false

set_option maxHeartbeats 400000 in
theorem vSize_upto (n : Nat) : ∀ (ok : Nat → Prop) (ts : List Va) (A : Option Addr) (c : Nat) (w : World), T.sizes ts ≤ n → n ≤ 1000000000 → InRow VE ok w ts A 0 →
    Calls Try.prog 33 #[.slice A ts.length c] w fun e w' => e = .returned (.int .i64 (T.sizes ts)) ∧ Below w.heap.size w w' := by
  induction n with
  | zero =>
    intro ok ts A c w hn hm hr
    have hl := T.length_le_sizes ts
    have h0 : ts = [] := List.eq_nil_of_length_eq_zero (by omega)
    subst h0
    show Calls Try.prog 33 #[.slice A 0 c] w _
    go_enter Try.func33, Try.ntmps33
    go_wp2_with fail
    go_loopw [3, 10] (fun s i wr => i = .int .i64 0 ∧ s = .int .i64 0 ∧ wr = w) (fun _ i _ => 0)
    case atStart => exact ⟨rfl, rfl, rfl⟩
    case round =>
      obtain ⟨rfl, rfl, rfl⟩ := hrel
      go_wp2_with fail
      go_ret
      exact ⟨rfl, Below.refl _ _⟩
  | succ n ih =>
    intro ok ts A c w hn hm hr
    have hl := T.length_le_sizes ts
    have hse := Lib.hid (sizes_eq ts)
    have IH := Lib.hid ih
    clear ih
    go_enter Try.func33, Try.ntmps33
    go_wp2_with fail
    go_loopw [3, 10] (fun s i wr => ∃ k : Nat, k ≤ ts.length ∧ i = .int .i64 k ∧ s = .int .i64 ((ts.length + subs (ts.take k) : Nat) : Int) ∧ Below w.heap.size w wr) (fun _ i _ => ts.length - (intOf i).toNat)
    case atStart => exact ⟨0, Nat.zero_le _, rfl, by simp [subs], Below.refl _ _⟩
    case round =>
      obtain ⟨k, hk, rfl, rfl, hb⟩ := hrel
      have hsub := subs_le ts k
      have hsz' : ts.length + subs ts ≤ n + 1 := by have := hse.out; omega
      by_cases hlt : k < ts.length
      · obtain ⟨t, ad, h, ks, A1, c1, hA, hx, rfl, hc1, hr1, q0, q1, q2⟩ := va_at (hr.below hb) hlt
        subst hA
        have hst := Lib.hid (subs_take hx)
        have hle2 := subs_le ts (k+1)
        have hks : T.sizes ks ≤ n := by have := hst.out; simp only [T.kids] at this; omega
        clear hx hr
        have hr2 : ∀ o, InRow VE ok (wr.alloc o) ks A1 0 := fun o => hr1.below (below_new (Below.refl _ _) o)
        go_wp2_with fail
        refine (IH.out ok ks A1 c1 _ hks (by omega) (hr2 _)).mono ?_
        rintro e w1 ⟨rfl, hb1⟩
        have hb2 := below_from (below_new hb _) hb1
        clear hb1 hr2 hr1 q0 q1 q2
        go_wp2_with fail
        go_roundw
        case rel => exact ⟨k + 1, by omega, by go_num, by have := hst.out; simp only [T.kids] at this; rw [this]; go_num, hb2⟩
        case measure => simp [intOf]; omega
      · have hkk : k = ts.length := by omega
        subst hkk
        clear hlt
        go_wp2_with fail
        go_ret
        refine ⟨?_, hb⟩
        rw [hse.out]; simp

theorem sizesV_snoc {ks : List Va} {k : Nat} {t : Va} (h : ks[k]? = some t) : T.sizes (ks.take (k + 1)) = T.sizes (ks.take k) + t.size := by
  rw [List.take_add_one, h, T.sizes_append]
  simp [T.sizes]
set_option maxRecDepth 100000 in
set_option maxHeartbeats 2000000 in
theorem rSize_upto (n : Nat) : ∀ (ok : Nat → Prop) (h : VH) (ks : List Va) (A : Option Addr) (c : Nat) (w : World), 1 + T.sizes ks ≤ n → n ≤ 1000000000 → ks.length ≤ c → InRow VE ok w ks A 0 →
    Calls Try.prog 29 #[vaV h A ks.length c] w fun e w' => e = .returned (.int .i64 ((T.mk h ks).size : Int)) ∧ Below w.heap.size w w' := by
  induction n with
  | zero => intro ok h ks A c w h0; omega
  | succ n ih =>
    intro ok h ks A c w hn hm hc hr
    have hl := T.length_le_sizes ks
    have IH := Lib.hid ih
    have HS : Hid (∀ t ∈ ks, t.size ≤ n) := fun t ht => by have := T.sizes_mem ht; omega
    obtain ⟨W, hW⟩ : ∃ W, w.alloc (.cells (vaA h A ks.length c) 24) = W := ⟨_, rfl⟩
    have hbW : Below w.heap.size w W := by rw [← hW]; exact below_new (Below.refl _ _) _
    have e1 : W.heap[w.heap.size]? = some (.cells (vaA h A ks.length c) 24 (0, 0)) := by rw [← hW]; exact new_at1 _
    have HE := Lib.hid hW
    have HB := Lib.hid hbW
    have E1 := Lib.hid e1
    have HR := Lib.hid (hr.below hbW)
    clear ih hr hW hbW e1
    obtain ⟨x0, x1, x2⟩ := va_at_box E1.out
    go_enter Try.func29, Try.ntmps29
    go_wp2_with fail
    rw [HE.out]
    go_wp2_with fail
    go_loopw [3, 4, 8] (fun s _ i wr => ∃ (k : Nat), k ≤ ks.length ∧ i = .int .i64 k ∧ s = .int .i64 ((1 + T.sizes (ks.take k) : Nat) : Int) ∧ Below W.heap.size W wr) (fun _ _ i _ => ks.length - (intOf i).toNat)
    case atStart => exact ⟨0, Nat.zero_le _, rfl, by simp [T.sizes], Below.refl _ _⟩
    case round =>
      clear x0 x1 x2
      obtain ⟨k, hk, rfl, rfl, hb⟩ := hrel
      obtain ⟨x0, x1, x2⟩ := va_at_box ((hb.block _ (lt_of_block E1.out)).trans E1.out)
      have hl4 := sizesV_take ks k
      by_cases hlt : k < ks.length
      · obtain ⟨t, ad, h1, ls, A1, c1, hA, hx, rfl, hc1, hr1, q0, q1, q2⟩ := va_at (HR.out.below hb) hlt
        subst hA
        have hs1 := HS.out _ (List.mem_of_getElem? hx)
        simp only [T.size] at hs1
        have HTK := Lib.hid (sizesV_snoc hx)
        have hl5 := sizesV_take ks (k + 1)
        have hl6 := HTK.out
        have HC := Lib.hid (IH.out ok h1 ls A1 c1 wr hs1 (by omega) hc1 hr1)
        obtain ⟨z, hz⟩ : ∃ z, (T.mk h1 ls).size = z := ⟨_, rfl⟩
        rw [hz] at HC HTK hl6
        obtain ⟨y, hy⟩ : ∃ y, T.sizes (ks.take k) = y := ⟨_, rfl⟩
        rw [hy] at HTK hl6 hl4 ⊢
        have hbnd : 1 + y + z ≤ 1000000000 := by omega
        clear hx hr1 hz hy hl4 hl5 hl6
        go_wp2_with fail
        refine HC.out.mono ?_
        rintro e w1 ⟨rfl, hb1⟩
        have hb2 := below_from hb hb1
        clear hb1 q0 q1 q2 x0 x1 x2
        go_wp2_with fail
        go_roundw
        case rel => exact ⟨k + 1, by omega, by go_num, by rw [HTK.out]; go_num, hb2⟩
        case measure => simp [intOf]; omega
      · have hkk : k = ks.length := by omega
        subst hkk
        clear hlt
        go_wp2_with fail
        go_ret
        refine ⟨?_, below_from HB.out hb⟩
        rw [List.take_length]
        simp [T.size]
def greatAllV (m : Int) (ts : List Va) : Bool := decide (20 < ts.length) || ts.any fun t => greatB m t
set_option maxHeartbeats 2000000 in
theorem vGreatAll_any {ok : Nat → Prop} (ts : List Va) (A : Option Addr) (c : Nat) (m : Int) (w : World) (hm : T.sizes ts ≤ 900000000) (hr : InRow VE ok w ts A 0) :
    Calls Try.prog 27 #[.slice A ts.length c, .int .i64 m] w fun e w' => e = .returned (.bool (greatAllV m ts)) ∧ Below w.heap.size w w' := by
  have hl := T.length_le_sizes ts
  by_cases h20 : 20 < ts.length
  · have HX : Hid (greatAllV m ts = true) := by unfold Hid greatAllV; simp [h20]
    have g : decide ((ts.length : Int) > 20) = true := by simp; omega
    go_enter Try.func27, Try.ntmps27
    go_wp2_with fail
    go_ret
    exact ⟨by rw [HX.out]; rfl, Below.refl _ _⟩
  · have HX : Hid (greatAllV m ts = ts.any fun t => greatB m t) := by unfold Hid greatAllV; simp [h20]
    have g : decide ((ts.length : Int) > 20) = false := by simp; omega
    clear h20
    go_enter Try.func27, Try.ntmps27
    go_wp2_with fail
    go_loopw [5, 11] (fun _ i wr => ∃ (k : Nat), k ≤ ts.length ∧ i = .int .i64 k ∧ Hid (∀ (j : Nat) (t : Va), j < k → ts[j]? = some t → greatB m t = false) ∧ Below w.heap.size w wr) (fun _ i _ => ts.length - (intOf i).toNat)
    case atStart => exact ⟨0, Nat.zero_le _, rfl, fun j t hj => absurd hj (by omega), Below.refl _ _⟩
    case round =>
      obtain ⟨k, hk, rfl, HN, hb⟩ := hrel
      by_cases hlt : k < ts.length
      · obtain ⟨t, ad, h1, ls, A1, c1, hA, hx, rfl, hc1, hr1, q0, q1, q2⟩ := va_at (hr.below hb) hlt
        subst hA
        have hmem := List.mem_of_getElem? hx
        have hs1 := T.sizes_mem hmem
        simp only [T.size] at hs1
        have HC := Lib.hid (vGreat_any h1 ls A1 c1 m wr (by omega) hc1 hr1)
        have HNo : Hid (greatB m (.mk h1 ls) = true → (ts.any fun t => greatB m t) = true) := fun hh => List.any_eq_true.2 ⟨_, hmem, hh⟩
        have HYes : Hid (greatB m (.mk h1 ls) = false → ∀ (j : Nat) (t : Va), j < k + 1 → ts[j]? = some t → greatB m t = false) := by
          intro hh j t hj ej
          rcases Nat.lt_or_ge j k with hjk | hjk
          · exact HN.out j t hjk ej
          · have : j = k := by omega
            subst this
            rw [hx] at ej
            cases ej
            exact hh
        clear hx hr1 hmem
        generalize greatB m (.mk h1 ls) = gb at *
        go_wp2_with fail
        refine HC.out.mono ?_
        rintro e w1 ⟨rfl, hb1⟩
        have hb2 := below_from hb hb1
        clear hb1 q0 q1 q2
        cases gb with
        | true =>
          go_wp2_with fail
          go_ret
          exact ⟨by rw [HX.out, HNo.out (by trivial)]; rfl, hb2⟩
        | false =>
          go_wp2_with fail
          go_roundw
          case rel => exact ⟨k + 1, by omega, by go_num, HYes.out (by trivial), hb2⟩
          case measure => simp [intOf]; omega
      · have hkk : k = ts.length := by omega
        subst hkk
        have HF : Hid ((ts.any fun t => greatB m t) = false) := by
          unfold Hid
          rw [List.any_eq_false]
          intro v hv
          obtain ⟨j, hj, ej⟩ := List.getElem_of_mem hv
          rw [HN.out j v hj (by rw [List.getElem?_eq_getElem hj, ej])]
          decide
        clear hlt hk
        go_wp2_with fail
        go_ret
        exact ⟨by rw [HX.out, HF.out]; rfl, hb⟩
end Go.Proofs.Yteokbmngebckjaa
