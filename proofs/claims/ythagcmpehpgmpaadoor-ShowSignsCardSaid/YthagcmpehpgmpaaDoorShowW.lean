/- A word's text: its bytes' signs. Plain. -/
import Derived.Test.YthagcmpehpgmpaaDoorShowP3
import Derived.Test.YthagcmpehpgmpaaDoorWord
import Derived.Test.YthagcmpehpgmpaaDoorShow3
namespace Go.Proofs.YthagcmpehpgmpaaDoor
open Go.RowKit
set_option linter.unusedVariables false

theorem leaf_all : ∀ n : Fin 256, textS (setOf [UInt8.ofNat n.val]) = signB (UInt8.ofNat n.val) ∧ setOf [UInt8.ofNat n.val] ≠ S4.zero := by decide +kernel
theorem leaf_text (b : UInt8) : textS (setOf [b]) = signB b ∧ setOf [b] ≠ S4.zero := by
  have := leaf_all ⟨b.toNat, b.toNat_lt⟩
  simpa only [UInt8.ofNat_toNat] using this
theorem leaf_eq (b : UInt8) : leaf b = .mk ⟨3, setOf [b]⟩ [] := by
  unfold leaf ofH
  rw [if_neg (leaf_text b).2]
theorem leaf_show (b : UInt8) : showT (leaf b) = signB b := by
  rw [leaf_eq, show_3 rfl]
  exact (leaf_text b).1
theorem leaf_ok (b : UInt8) : okT (leaf b) = true := by
  rw [leaf_eq]
  simp [okT, okL, okNode, (leaf_text b).2]
theorem leaf_kind (b : UInt8) : (leaf b).head.k = 3 := by rw [leaf_eq]; rfl
/-- the signs of some bytes -/
def signsL (l : List UInt8) : List UInt8 := l.flatMap signB
theorem word_row : ∀ (l : List UInt8) (b : UInt8), rowT (foldT 4 2 (wordL (b :: l))) = signsL (b :: l) ∧ okT (foldT 4 2 (wordL (b :: l))) = true ∧ (foldT 4 2 (wordL (b :: l))).size = 2 * l.length + 1
  | [], b => by
    have e : foldT 4 2 (wordL [b]) = leaf b := rfl
    rw [e]
    refine ⟨?_, leaf_ok b, by rw [leaf_eq]; rfl⟩
    rw [← all_row (by rw [leaf_kind]; decide), leaf_show]
    simp [signsL]
  | c :: l, b => by
    obtain ⟨i1, i2, i3⟩ := word_row l c
    have e : foldT 4 2 (wordL (b :: c :: l)) = .mk ⟨4, S4.zero⟩ [leaf b, foldT 4 2 (wordL (c :: l))] := rfl
    rw [e]
    refine ⟨?_, ?_, ?_⟩
    · rw [row_4 rfl, i1, itemT, leaf_kind, leaf_show]
      simp [signsL, brk]
    · simp [okT, okL, okNode, leaf_ok, i2]
    · simp only [T.size, T.sizes, i3, List.length_cons, leaf_eq]
      omega
/-- the text of a word of two bytes or more -/
theorem word_text {l : List UInt8} (h : 2 ≤ l.length) (h2 : l.length ≤ 1000) : textT (foldT 4 2 (wordL l)) = signsL l ∧ textT (.mk ⟨6, S4.zero⟩ [foldT 4 2 (wordL l)]) = 40 :: (signsL l ++ [41, 42]) := by
  match l, h with
  | b :: c :: l, _ =>
    obtain ⟨i1, i2, i3⟩ := word_row (c :: l) b
    have e : foldT 4 2 (wordL (b :: c :: l)) = .mk ⟨4, S4.zero⟩ [leaf b, foldT 4 2 (wordL (c :: l))] := rfl
    rw [← all_row (by rw [e]; exact (by decide : (4 : UInt8) ≠ 5))] at i1
    simp only [List.length_cons] at h2 i3
    constructor
    · rw [textT_yes, i1]
      simp [mayB, i2, i3]
      omega
    · rw [textT_yes, show_star rfl, itemT, i1, e]
      · simp [T.head, brk]
      · simp [mayB, okT, okL, okNode, i2, T.size, T.sizes, i3]
        omega
theorem signs_length (l : List UInt8) : (signsL l).length ≤ 3 * l.length := by
  induction l with
  | nil => simp [signsL]
  | cons b l ih =>
    have := signB_length b
    simp only [signsL, List.flatMap_cons, List.length_append, List.length_cons] at ih ⊢
    omega
theorem signs_take {l : List UInt8} {k : Nat} {b : UInt8} (h : l[k]? = some b) : signsL (l.take (k + 1)) = signsL (l.take k) ++ signB b := by
  simp [signsL, List.take_add_one, h]
end Go.Proofs.YthagcmpehpgmpaaDoor
