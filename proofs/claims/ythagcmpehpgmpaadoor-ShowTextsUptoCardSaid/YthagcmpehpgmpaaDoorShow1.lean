/- Expressions' texts: plain; and whether a byte is in some. -/
import Derived.Test.YthagcmpehpgmpaaDoorRexA
import Derived.Test.YthagcmpehpgmpaaDoorText1
namespace Go.Proofs.YthagcmpehpgmpaaDoor
open Go.RowKit
set_option linter.unusedVariables false
set_option linter.unusedSimpArgs false

/-- in brackets, if it is to be -/
def brk (b : Bool) (s : List UInt8) : List UInt8 := if b then 40 :: (s ++ [41]) else s
/-- a node's text, of its kids' kinds and texts -/
def showK (h : RH) (l : List (UInt8 × List UInt8)) : List UInt8 :=
  if h.k = 1 then [91, 93]
  else if h.k = 2 then [40, 41]
  else if h.k = 3 then textS h.s
  else match l with
    | [] => []
    | (ka, fa) :: r =>
      if h.k = 6 then brk (ka == 4 || ka == 5) fa ++ [42]
      else match r with
        | [] => []
        | (kb, fb) :: _ => if h.k = 4 then brk (ka == 4 || ka == 5) fa ++ brk (kb == 5) fb else brk (ka == 5) fa ++ (124 :: fb)
mutual
/-- an expression's text -/
def showT : Re → List UInt8
  | .mk h ks => showK h (showL ks)
def showL : List Re → List (UInt8 × List UInt8)
  | [] => []
  | t :: ts => (t.head.k, showT t) :: showL ts
end
theorem show_1 {h : RH} {ks : List Re} (e : h.k = 1) : showT (.mk h ks) = [91, 93] := by simp [showT, showK, e]
theorem show_2 {h : RH} {ks : List Re} (e : h.k = 2) : showT (.mk h ks) = [40, 41] := by simp [showT, showK, e]
theorem show_3 {h : RH} {ks : List Re} (e : h.k = 3) : showT (.mk h ks) = textS h.s := by simp [showT, showK, e]
theorem show_4 {h : RH} {a b : Re} (e : h.k = 4) : showT (.mk h [a, b]) = brk (a.head.k == 4 || a.head.k == 5) (showT a) ++ brk (b.head.k == 5) (showT b) := by simp [showT, showL, showK, e]
theorem show_5 {h : RH} {a b : Re} (e : h.k = 5) : showT (.mk h [a, b]) = brk (a.head.k == 5) (showT a) ++ (124 :: showT b) := by simp [showT, showL, showK, e]
theorem show_6 {h : RH} {a : Re} (e : h.k = 6) : showT (.mk h [a]) = brk (a.head.k == 4 || a.head.k == 5) (showT a) ++ [42] := by simp [showT, showL, showK, e]
theorem brk_length (b : Bool) (s : List UInt8) : (brk b s).length ≤ s.length + 2 := by unfold brk; split <;> simp

/-- what a node that may be is -/
theorem ok_shape {h : RH} {ks : List Re} (H : okT (.mk h ks) = true) :
    (h.k = 1 ∧ ks = []) ∨ (h.k = 2 ∧ ks = []) ∨ (h.k = 3 ∧ ks = [] ∧ h.s ≠ S4.zero) ∨ (∃ a b, h.k = 4 ∧ ks = [a, b] ∧ okT a = true ∧ okT b = true) ∨ (∃ a b, h.k = 5 ∧ ks = [a, b] ∧ okT a = true ∧ okT b = true) ∨ (∃ a, h.k = 6 ∧ ks = [a] ∧ okT a = true) := by
  simp only [okT, Bool.and_eq_true] at H
  obtain ⟨H1, H2⟩ := H
  unfold okNode at H1
  have k_of : ∀ n : Nat, n < 256 → h.k.toNat = n → h.k = UInt8.ofNat n := fun n hn e => UInt8.toNat_inj.1 (by rw [e]; simp [UInt8.toNat_ofNat]; omega)
  have two : ks.length = 2 → ∃ a b, ks = [a, b] ∧ okT a = true ∧ okT b = true := fun hl => by
    match ks, hl, H2 with
    | [a, b], _, H2 => simp [okL] at H2; exact ⟨a, b, rfl, H2.1, H2.2⟩
  have one : ks.length = 1 → ∃ a, ks = [a] ∧ okT a = true := fun hl => by
    match ks, hl, H2 with
    | [a], _, H2 => simp [okL] at H2; exact ⟨a, rfl, H2⟩
  split at H1
  · rename_i e
    have hl : ks = [] := by simp at H1; exact H1.1
    rcases e with e | e
    · exact .inl ⟨k_of 1 (by decide) e, hl⟩
    · exact .inr (.inl ⟨k_of 2 (by decide) e, hl⟩)
  · split at H1
    · rename_i e
      simp at H1
      exact .inr (.inr (.inl ⟨k_of 3 (by decide) e, H1.1, H1.2⟩))
    · split at H1
      · rename_i e
        simp at H1
        obtain ⟨a, b, h1, h2, h3⟩ := two H1.1
        rcases e with e | e
        · exact .inr (.inr (.inr (.inl ⟨a, b, k_of 4 (by decide) e, h1, h2, h3⟩)))
        · exact .inr (.inr (.inr (.inr (.inl ⟨a, b, k_of 5 (by decide) e, h1, h2, h3⟩))))
      · split at H1
        · rename_i e
          simp at H1
          obtain ⟨a, h1, h2⟩ := one H1.1
          exact .inr (.inr (.inr (.inr (.inr ⟨a, k_of 6 (by decide) e, h1, h2⟩))))
        · cases H1
theorem show_length (n : Nat) : ∀ t : Re, t.size ≤ n → okT t = true → (showT t).length ≤ 2000 * t.size := by
  induction n with
  | zero => intro t hn; have := t.size_pos; omega
  | succ n ih =>
    intro t hn ho
    obtain ⟨h, ks⟩ := t
    rcases ok_shape ho with ⟨e, rfl⟩ | ⟨e, rfl⟩ | ⟨e, rfl, _⟩ | ⟨a, b, e, rfl, h1, h2⟩ | ⟨a, b, e, rfl, h1, h2⟩ | ⟨a, e, rfl, h1⟩
    · rw [show_1 e]; simp [T.size, T.sizes]
    · rw [show_2 e]; simp [T.size, T.sizes]
    · rw [show_3 e]; have := textS_length h.s; simp [T.size, T.sizes]; omega
    all_goals simp only [T.size, T.sizes] at hn ⊢
    · have i1 := ih a (by omega) h1
      have i2 := ih b (by omega) h2
      have l1 := brk_length (a.head.k == 4 || a.head.k == 5) (showT a)
      have l2 := brk_length (b.head.k == 5) (showT b)
      rw [show_4 e, List.length_append]
      omega
    · have i1 := ih a (by omega) h1
      have i2 := ih b (by omega) h2
      have l1 := brk_length (a.head.k == 5) (showT a)
      rw [show_5 e, List.length_append, List.length_cons]
      omega
    · have i1 := ih a (by omega) h1
      have l1 := brk_length (a.head.k == 4 || a.head.k == 5) (showT a)
      rw [show_6 e, List.length_append]
      simp
      omega

set_option maxHeartbeats 1000000 in
theorem index8_any (l : List UInt8) (A : Option Addr) (c : Nat) (x : UInt8) (w : World) (hm : l.length ≤ 1000) (hr : Row1 encB w A l) :
    Calls Tryd.prog 105 #[.slice A l.length c, .int .u8 (x.toNat : Int)] w fun e w' => (∃ r : Int, e = .returned (.int .i64 r) ∧ -1 ≤ r ∧ r ≤ 1000 ∧ (0 ≤ r ↔ x ∈ l)) ∧ w' = w := by
  go_enter Tryd.func105, Tryd.ntmps105
  go_wp2_with fail
  go_loop [5, 8] (fun _ i => ∃ k : Nat, k ≤ l.length ∧ i = .int .i64 k ∧ Hid (∀ (j : Nat) (y : UInt8), j < k → l[j]? = some y → y ≠ x)) (fun _ i => l.length - (intOf i).toNat)
  case atStart => exact ⟨0, Nat.zero_le _, rfl, fun j y h => absurd h (by omega)⟩
  case round =>
    obtain ⟨k, hk, rfl, HN⟩ := hrel
    by_cases hlt : k < l.length
    · have hx : l[k]? = some l[k] := by simp [hlt]
      obtain ⟨ad, hA, hcell⟩ := hr k l[k] hx
      subst hA
      obtain ⟨y, hy⟩ : ∃ y, l[k] = y := ⟨_, rfl⟩
      rw [hy] at hx hcell
      have HX := Lib.hid hx
      clear hx hy
      by_cases e : y = x
      · subst e
        have HC : Hid (0 ≤ ((k : Nat) : Int) ↔ y ∈ l) := ⟨fun _ => List.mem_of_getElem? HX.out, fun _ => by omega⟩
        go_wp2_with fail
        go_ret
        exact ⟨⟨_, rfl, by omega, by omega, HC.out⟩, rfl⟩
      · have g : ((x.toNat : Int) == (y.toNat : Int)) = false := by
          rw [beq_eq_false_iff_ne]
          intro h
          exact e (UInt8.toNat_inj.1 (by omega))
        have HN2 : Hid (∀ (j : Nat) (z : UInt8), j < k + 1 → l[j]? = some z → z ≠ x) := fun j z hj hz => by
          by_cases ej : j = k
          · subst ej; rw [HX.out] at hz; cases hz; exact e
          · exact HN.out j z (by omega) hz
        clear e
        go_wp2_with fail
        go_round
        case rel => exact ⟨k + 1, by omega, by go_num, HN2⟩
        case measure => simp [intOf]; omega
    · have HC : Hid (0 ≤ (-1 : Int) ↔ x ∈ l) := ⟨fun h => absurd h (by omega), fun h => by
        obtain ⟨j, hj, e⟩ := List.mem_iff_getElem.1 h
        exact absurd rfl (HN.out j _ (by omega) (by simp [hj, e] : l[j]? = some x))⟩
      go_wp2_with fail
      go_ret
      exact ⟨⟨_, rfl, by omega, by omega, HC.out⟩, rfl⟩
theorem contains8_any (l : List UInt8) (A : Option Addr) (c : Nat) (x : UInt8) (w : World) (hm : l.length ≤ 1000) (hr : Row1 encB w A l) :
    Calls Tryd.prog 91 #[.slice A l.length c, .int .u8 (x.toNat : Int)] w fun e w' => e = .returned (.bool (l.contains x)) ∧ w' = w := by
  go_enter Tryd.func91, Tryd.ntmps91
  go_wp2_with fail
  refine (index8_any l A c x w hm hr).mono ?_
  rintro e w1 ⟨⟨r, rfl, h1, h2, h3⟩, rfl⟩
  have H3 : Hid (decide (0 ≤ r) = l.contains x) := by
    unfold Hid
    rw [Bool.eq_iff_iff, decide_eq_true_eq, List.contains_iff_mem]
    exact h3
  clear h3
  go_wp2_with fail
  go_ret
  exact ⟨by rw [← H3.out]; rfl, rfl⟩
end Go.Proofs.YthagcmpehpgmpaaDoor
