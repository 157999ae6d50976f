/- Bytes and texts. -/
import Derived.Test.YthbcofbdgljfbaaDoorRow1
import Derived.Laws.BytesArg
namespace Go.Proofs.YthbcofbdgljfbaaDoor
open Go.RowKit
set_option linter.unusedVariables false
set_option linter.unusedSimpArgs false

abbrev encB (b : UInt8) : Value := .int .u8 (b.toNat : Int)
abbrev str (l : List UInt8) : ByteArray := ⟨l.toArray⟩
theorem str_size (l : List UInt8) : (str l).size = l.length := by simp [str, ByteArray.size]
theorem str_inj {l m : List UInt8} (h : str l = str m) : l = m := by
  have : l.toArray = m.toArray := congrArg ByteArray.data h
  simpa using this
theorem str_data (s : ByteArray) : str s.data.toList = s := by cases s; rfl
/-- two texts, one behind the other -/
theorem run_cat {P : Program} (x y : List UInt8) (h : x.length + y.length ≤ 9223372036854775807) : ∀ w : World, (Op.stringOp .add (str x) (str y)).run P w = .ok (.string (str (x ++ y))) w := by
  intro w
  rw [run_string_add_sum w _ _ (by rw [str_size, str_size]; exact h), ByteArray.mk_append_mk]
theorem bytes_one (l : List UInt8) : ∀ u ∈ l.map encB, u.oneCell' = true := by
  intro u hu
  obtain ⟨b, _, rfl⟩ := List.mem_map.1 hu
  rfl
theorem fold_bytes (l : List UInt8) : ∀ s : ByteArray, (l.map fun b : UInt8 => (b.toNat : Int)).foldl (fun r n => r.push (UInt8.ofNat n.toNat)) s = ⟨s.data ++ l.toArray⟩ := by
  induction l with
  | nil => intro s; cases s; simp
  | cons b l ih =>
    intro s
    simp only [List.map_cons, List.foldl_cons, ih]
    cases s
    simp [ByteArray.push]
theorem conv_bytes {P : Program} {w : World} {src dst e : TypeId} (hs : P.underlying src = some (.slice e)) (he : P.underlying e = some (.int .u8)) (hd : P.underlying dst = some .string)
    {A : Option Addr} (n c : Nat) {l : List UInt8} (hn : l.length = n) (h : Row1 encB w A l) : (convert src dst (.slice A n c)).run P w = .ok (.string (str l)) w := by
  subst hn
  rcases A with _ | ad
  · have hl : l = [] := by
      cases l with
      | nil => rfl
      | cons b r => obtain ⟨ad, h, _⟩ := h 0 b rfl; cases h
    subst hl
    exact run_convert_bytes_nil w src e hs he _ _ dst hd
  · have hl : (loadCells ad l.length).run P w = .ok ((l.map fun b : UInt8 => (b.toNat : Int)).map (Value.int .u8)).toArray w := by
      have := run_loadCells_list (P := P) w ad (l.map encB) (fun j v hj => by
        simp only [List.getElem?_map, Option.map_eq_some_iff] at hj
        obtain ⟨x, hx, rfl⟩ := hj
        obtain ⟨ad', e, hc⟩ := h j x hx
        cases e
        exact hc)
      simpa [List.map_map, Function.comp_def] using this
    rw [run_convert_bytes_string w src dst e _ _ c hs he hd, run_bytesToString w ad _ c _ hl, fold_bytes]
    simp
end Go.Proofs.YthbcofbdgljfbaaDoor
