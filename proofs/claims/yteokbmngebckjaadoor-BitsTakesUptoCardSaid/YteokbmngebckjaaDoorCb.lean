/- The document's bits of a value. -/
import Derived.Test.YteokbmngebckjaaDoorBx
import Derived.Test.YteokbmngebckjaaDoorBv
namespace Go.Proofs.YteokbmngebckjaaDoor
open Go.RowKit
set_option linter.unusedVariables false
set_option linter.unusedSimpArgs false

theorem codeVs_append (st : Bool) : ∀ xs ys : List Va, codeVs st (xs ++ ys) = codeVs st xs ++ codeVs st ys
  | [], ys => rfl
  | x :: xs, ys => by simp only [List.cons_append, codeVs, codeVs_append st xs ys, List.append_assoc]
theorem codeVs_take (st : Bool) {ks : List Va} {k : Nat} {t : Va} (h : ks[k]? = some t) : codeVs st (ks.take (k + 1)) = codeVs st (ks.take k) ++ ((if st then [48] else []) ++ codeV t) := by
  rw [List.take_add_one, h, codeVs_append]
  simp [codeVs]
theorem codeV_bad {h : VH} {ks : List Va} (hk : h.k < 1 ∨ 6 < h.k) : codeV (.mk h ks) = [] := by simp only [codeV]; rw [if_pos hk]
theorem codeV_of {h : VH} {ks : List Va} {f0 : List UInt8} {st : Bool} (hk : ¬ (h.k < 1 ∨ 6 < h.k)) (h0 : f0 = if h.k = 4 then [48] else if h.k = 5 then [49] else []) (hst : st = decide (h.k = 6)) : codeV (.mk h ks) = f0 ++ (codeVs st ks ++ (if st then [49] else [])) := by
  simp only [codeV]
  rw [if_neg hk, h0, hst]
  by_cases h6 : h.k = 6 <;> simp [h6]
theorem u8_lt {k : UInt8} {n : Nat} (hn : n < 256) : (k < UInt8.ofNat n) ↔ ((k.toNat : Int) < (n : Int)) := by
  rw [UInt8.lt_iff_toNat_lt, UInt8.toNat_ofNat_of_lt' (by simpa using hn)]
  omega
theorem u8_gt {k : UInt8} {n : Nat} (hn : n < 256) : (UInt8.ofNat n < k) ↔ ((k.toNat : Int) > (n : Int)) := by
  rw [UInt8.lt_iff_toNat_lt, UInt8.toNat_ofNat_of_lt' (by simpa using hn)]
  omega
theorem u8_ne {k : UInt8} {n : Nat} (hn : n < 256) (h : k ≠ UInt8.ofNat n) : ((k.toNat : Int) == (n : Int)) = false := by
  refine beq_eq_false_iff_ne.2 fun e => h ?_
  rw [← UInt8.toNat_inj, UInt8.toNat_ofNat_of_lt' (by simpa using hn)]
  omega
theorem u8_eq {k : UInt8} {n : Nat} (hn : n < 256) (h : k = UInt8.ofNat n) : ((k.toNat : Int) == (n : Int)) = true := by
  subst h
  rw [UInt8.toNat_ofNat_of_lt' (by simpa using hn)]
  simp
end Go.Proofs.YteokbmngebckjaaDoor
