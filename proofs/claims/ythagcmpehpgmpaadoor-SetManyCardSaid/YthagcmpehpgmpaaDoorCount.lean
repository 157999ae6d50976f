/- How many bytes are in some sets. -/
import Derived.Test.YthagcmpehpgmpaaDoorPop2
import Derived.Test.YthagcmpehpgmpaaDoorBytes2
import Derived.Test.YthagcmpehpgmpaaDoorSet10
namespace Go.Proofs.YthagcmpehpgmpaaDoor
open Go.RowKit
set_option linter.unusedVariables false
set_option linter.unusedSimpArgs false

theorem bytesTo_word (s : S4) (i : Nat) : ∀ n, n ≤ 64 → (bytesTo s (64 * i + n)).length = (bytesTo s (64 * i)).length + popTo (s.get i).toNat n
  | 0, _ => rfl
  | n + 1, h => by
    have ih := bytesTo_word s i n (by omega)
    show (bytesTo s (64 * i + n + 1)).length = _ + (popTo _ n + ((s.get i).toNat.testBit n).toNat)
    simp only [bytesTo]
    rw [has_test s i n (by omega)]
    cases (s.get i).toNat.testBit n with
    | true => simp [ih]; omega
    | false => simp [ih]
/-- how many bytes some have together -/
def countL (l : List S4) : Nat := (l.map fun s => (bytesOf s).length).sum
theorem countL_take {l : List S4} {k : Nat} {s : S4} (h : l[k]? = some s) : countL (l.take (k + 1)) = countL (l.take k) + (bytesOf s).length := by
  unfold countL
  rw [List.take_add_one, h, List.map_append, List.sum_append]
  simp
theorem countL_le (l : List S4) : ∀ k, countL (l.take k) ≤ 256 * k
  | 0 => by simp [countL]
  | k + 1 => by
    cases h : l[k]? with
    | none =>
      rw [List.take_add_one, h]
      have := countL_le l k
      simp
      omega
    | some s =>
      rw [countL_take h]
      have := countL_le l k
      have := bytesTo_length s 256
      unfold bytesOf
      omega

set_option maxRecDepth 100000 in
set_option maxHeartbeats 8000000 in
theorem setCount_any (l : List S4) (A : Option Addr) (c : Nat) (w : World) (hm : l.length ≤ 1000000000) (hr : RowS w A l) :
    Calls Tryd.prog 33 #[.slice A l.length c] w fun e w' => e = .returned (.int .i64 (countL l : Nat)) ∧ Below w.heap.size w w' := by
  have HRW := Lib.hid hr
  clear hr
  go_enter Tryd.func33, Tryd.ntmps33
  go_wp2_with fail
  go_loopw [3, 10] (fun n i wr => ∃ (k : Nat), k ≤ l.length ∧ n = .int .i64 (countL (l.take k) : Nat) ∧ i = .int .i64 (k : Nat) ∧ Hid (Below w.heap.size w wr)) (fun _ i _ => l.length - (intOf i).toNat)
  case atStart => exact ⟨0, Nat.zero_le _, rfl, rfl, Below.refl _ _⟩
  case round =>
    obtain ⟨k, hk, rfl, rfl, hb⟩ := hrel
    by_cases hlt : k < l.length
    · obtain ⟨s, hs⟩ : ∃ s, l[k]? = some s := ⟨l[k], by simp [hlt]⟩
      have HT := Lib.hid (countL_take hs)
      obtain ⟨ad, hA, p0, p1, p2, p3⟩ := rowS_cells (HRW.out.below hb.out) hs
      subst hA
      have hn := countL_le l k
      generalize countL (l.take k) = n at *
      have gk : decide ((k : Int) < (l.length : Int)) = true := by simp; omega
      clear hs
      go_wp2_with fail
      have hb1 := Lib.hid (below_new hb.out (.cells (setA s) 24))
      clear p0 p1 p2 p3 hb
      have hbs := bytesTo_length s 256
      obtain ⟨wo, rfl⟩ : ∃ wo : World, wo = wr := ⟨_, rfl⟩
      go_loopw [3, 15] (fun t i wi => ∃ (j : Nat), j ≤ 4 ∧ i = .int .i64 (j : Nat) ∧ t = .int .i64 ((n + (bytesTo s (64 * j)).length : Nat) : Int) ∧ Hid (Below w.heap.size w wi)) (fun _ i _ => 4 - (intOf i).toNat)
      case atStart => exact ⟨0, by omega, rfl, rfl, hb1⟩
      case round =>
        clear hb1
        obtain ⟨j, hj, rfl, rfl, hb1⟩ := hrel
        by_cases hj4 : j < 4
        · have hi := index_word s j hj4
          have gj : decide ((j : Int) < 4) = true := by simp; omega
          have HO := Lib.hid (ones64_any (s.get j).toNat wr (s.get j).toNat_lt)
          have HW := bytesTo_word s j 64 (by omega)
          have hl1 := bytesTo_length s (64 * j)
          have hl2 := bytesTo_length s (64 * j + 64)
          have HN : Hid (64 * (j + 1) = 64 * j + 64) := by unfold Hid; omega
          generalize (s.get j).toNat = y at *
          generalize hq : (bytesTo s (64 * j)).length = q at *
          generalize popTo y 64 = p at *
          have hsum : ((n + q : Nat) : Int) + (p : Int) = ((n + q + p : Nat) : Int) := by omega
          obtain ⟨nq, hnq⟩ : ∃ nq, n + q = nq := ⟨_, rfl⟩
          obtain ⟨nn, hnn⟩ : ∃ nn, nq + p = nn := ⟨_, rfl⟩
          rw [hnq] at hsum ⊢
          rw [hnn] at hsum
          have hnn2 : nn ≤ 256000001000 := by omega
          have HQ : Hid (nn = n + (bytesTo s (64 * j + 64)).length) := by unfold Hid; rw [HW]; omega
          clear HW hq hnq hnn hl1 hl2
          go_wp2_with fail
          refine HO.out.mono ?_
          rintro e w1 ⟨rfl, rfl⟩
          go_wp2_with fail
          go_roundw
          case rel => exact ⟨j + 1, by omega, by go_num, by rw [HN.out, ← HQ.out], hb1⟩
          case measure => simp [intOf]; omega
        · have hj5 : j = 4 := by omega
          subst hj5
          go_wp2_with fail
          go_roundw
          case rel => exact ⟨k + 1, by omega, by rw [HT.out]; rfl, by go_num, hb1⟩
          case measure => simp [intOf]; omega
    · have he : k = l.length := by omega
      subst he
      have g : decide ((l.length : Int) < (l.length : Int)) = false := by simp
      rw [List.take_length]
      go_wp2_with fail
      go_ret
      exact ⟨rfl, hb.out⟩
end Go.Proofs.YthagcmpehpgmpaaDoor
