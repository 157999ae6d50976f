/- How many nodes expressions of any size have, as an int counts. -/
import Derived.Test.YtbblhhkacdgmiaaSr1
import Derived.Test.YtbblhhkacdgmiaaBa
namespace Go.Proofs.Ytbblhhkacdgmiaa
open Go.RowKit
set_option linter.unusedVariables false
set_option linter.unusedSimpArgs false

theorem wrap_add2 (a b : Int) : IntKind.i64.wrap (IntKind.i64.wrap a + IntKind.i64.wrap b) = IntKind.i64.wrap (a + b) := by
  rw [IntKind.wrap_i64, IntKind.wrap_i64, IntKind.wrap_i64, IntKind.wrap_i64]; omega
theorem wrap_sub1 (a b : Int) : IntKind.i64.wrap (IntKind.i64.wrap (IntKind.i64.wrap a + b) - 1) = IntKind.i64.wrap (a + b - 1) := by
  rw [IntKind.wrap_i64, IntKind.wrap_i64, IntKind.wrap_i64, IntKind.wrap_i64]; omega
set_option maxHeartbeats 1000000 in
theorem Size_s (n : Nat) : ∀ (ok : Nat → Prop) (ts : List Re) (A : Option Addr) (c : Nat) (w : World), T.sizes ts ≤ n → ts.length ≤ 9223372036854775807 → T.shorts ts → InRow RE ok w ts A 0 →
    Calls Try.prog 20 #[.slice A ts.length c] w fun e w' => e = .returned (.int .i64 (IntKind.i64.wrap (T.sizes ts : Nat))) ∧ Below w.heap.size w w' := by
  induction n with
  | zero =>
    intro ok ts A c w hn hm hs hr
    have hl := T.length_le_sizes ts
    have h0 : ts = [] := List.eq_nil_of_length_eq_zero (by omega)
    subst h0
    have HZ : Hid (IntKind.i64.wrap (T.sizes ([] : List Re) : Nat) = 0) := by unfold Hid; simp only [T.sizes]; exact IntWalk.i64_in _ (by omega)
    show Calls Try.prog 20 #[.slice A 0 c] w _
    go_enter Try.func20, Try.ntmps20
    go_wp2_with fail
    go_loopw [3, 10] (fun s i wr => i = .int .i64 0 ∧ s = .int .i64 0 ∧ wr = w) (fun _ i _ => 0)
    case atStart => exact ⟨rfl, rfl, rfl⟩
    case round =>
      obtain ⟨rfl, rfl, rfl⟩ := hrel
      go_wp2_with fail
      go_ret
      exact ⟨by rw [HZ.out]; rfl, Below.refl _ _⟩
  | succ n ih =>
    intro ok ts A c w hn hm hs hr
    have hse := Lib.hid (sizes_eq ts)
    have HN := Lib.hid hn
    have HS : Hid (∀ t ∈ ts, T.short t) := fun t ht => T.shorts_mem ht hs
    have IH := Lib.hid ih
    clear ih hn hs
    go_enter Try.func20, Try.ntmps20
    go_wp2_with fail
    go_loopw [3, 10] (fun s i wr => ∃ (k : Nat) (z : Int), k ≤ ts.length ∧ i = .int .i64 k ∧ s = .int .i64 z ∧ Hid (z = IntKind.i64.wrap ((ts.length + subs (ts.take k) : Nat) : Int)) ∧ Below w.heap.size w wr) (fun _ i _ => ts.length - (intOf i).toNat)
    case atStart => exact ⟨0, _, Nat.zero_le _, rfl, rfl, Lib.hid (by rw [IntWalk.i64_in _ (by simp [subs]; omega)]; simp [subs]), Below.refl _ _⟩
    case round =>
      obtain ⟨k, z, hk, rfl, rfl, HZ, hb⟩ := hrel
      by_cases hlt : k < ts.length
      · obtain ⟨t, ad, h, ks, A1, c1, hA, hx, rfl, hc1, hr1, q0, q1, q2, q3, q4, q5⟩ := re_at (hr.below hb) hlt
        subst hA
        have hst := Lib.hid (subs_take hx)
        have HM1 := Lib.hid (HS.out _ (List.mem_of_getElem? hx))
        have HK : Hid (T.sizes ks ≤ n) := by
          have h1 := hst.out
          have h2 := subs_le ts (k+1)
          have h3 := hse.out
          have h4 := HN.out
          simp only [T.kids] at h1
          unfold Hid; omega
        clear hx hr
        have hr2 : ∀ o, InRow RE ok (wr.alloc o) ks A1 0 := fun o => hr1.below (below_new (Below.refl _ _) o)
        go_wp2_with fail
        refine (IH.out ok ks A1 c1 _ HK.out HM1.out.len HM1.out.kids (hr2 _)).mono ?_
        rintro e w1 ⟨rfl, hb1⟩
        have hb2 := below_from (below_new hb _) hb1
        clear hb1 hr2 hr1 q0 q1 q2 q3 q4 q5
        obtain ⟨zz, hzz⟩ : ∃ zz, IntKind.i64.wrap (T.sizes ks : Nat) = zz := ⟨_, rfl⟩
        rw [hzz]
        have HZZ := Lib.hid hzz
        clear hzz
        have HZ2 : Hid (IntKind.i64.wrap (z + zz) = IntKind.i64.wrap ((ts.length + subs (ts.take (k + 1)) : Nat) : Int)) := by
          unfold Hid
          rw [HZ.out, ← HZZ.out, wrap_add2, hst.out]
          congr 1
          simp only [T.kids]; omega
        go_wp2_with fail
        go_roundw
        case rel => exact ⟨k + 1, _, by omega, by go_num, rfl, Lib.hid ((IntWalk.i64_left _).symm.trans HZ2.out), hb2⟩
        case measure => simp [intOf]; omega
      · have hkk : k = ts.length := by omega
        subst hkk
        clear hlt
        go_wp2_with fail
        go_ret
        refine ⟨?_, hb⟩
        rw [HZ.out, hse.out, List.take_length]; rfl
end Go.Proofs.Ytbblhhkacdgmiaa
