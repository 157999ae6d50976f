/- The last step of a law's row: true is answered, and the arguments read as they did. -/
import Derived.Test.YthbcofbdgljfbaaDoorRows
import Derived.Test.YthbcofbdgljfbaaDoorBytes
import Derived.ProofKit
import Derived.ChangeSame
import Derived.SliceStrings
import Derived.Deep.Slices
namespace Go.Proofs.YthbcofbdgljfbaaDoor
open Go.RowKit Go.ChangeShapes Go.WideShapes Go.ChangeAt
set_option linter.unusedVariables false
set_option linter.unusedSimpArgs false

theorem Tryd.own : ownKnob Tryd.prog.godebug = none := by kernel_rfl
theorem Tryd.laidOut : laidOutB Tryd.prog = true := by kernel_rfl

section
variable {H : Type} {enc : TypeId × Value → H} {P : Program}
/-- what the arguments read as, they read as behind the call -/
theorem trodAll_below (hl : laidOutB P = true) {W W' : World} (hb : Below W.heap.size W W') {sp : Nat → Bool} : ∀ {ts : List TypeId} {vs : List Value} {ds : List (DataW H)} {ps : List MemPlace},
    (∀ t ∈ ts, P.readableRec t = true ∧ t < P.types.size) → (∀ p ∈ ps, p.block < W.heap.size) → (∀ p ∈ ps, sp p.block = true) →
    DataW.TrodAll enc P W 0 (fun _ => true) true ts vs ds ps → DataW.TrodAll enc P W' 0 sp true ts vs ds ps
  | [], [], [], ps, _, _, _, h => h
  | [], [], _ :: _, _, _, _, _, h => h.elim
  | [], _ :: _, _, _, _, _, _, h => h.elim
  | _ :: _, [], _, _, _, _, _, h => h.elim
  | _ :: _, _ :: _, [], _, _, _, _, h => h.elim
  | t :: ts, v :: vs, d :: ds, ps, ht, hlt, hs, h => by
    obtain ⟨p, q, h1, h2, rfl⟩ := h
    have h1' := WideElems.Trod_stays (sp' := sp) hl (ht t (by simp)).1 (ht t (by simp)).2 h1 (fun x hx => hb.same (hlt x (by simp [hx]))) (fun x hx => hs x (by simp [hx]))
    exact ⟨p, q, h1', trodAll_below hl hb (fun t h => ht t (by simp [h])) (fun x hx => hlt x (by simp [hx])) (fun x hx => hs x (by simp [hx])) h2, rfl⟩

theorem post_true {f : Func} {s : ChangeSpec} {W W' : World} {args : Array Value} {ds gs : List (DataW H)} {before : List MemPlace} {tb : TypeId}
    (hl : laidOutB P = true) (hread : ∀ t ∈ f.params.toList, P.readableRec t = true ∧ t < P.types.size)
    (hW : DataW.Whole enc P f.params.toList s.vars false W args.toList ds gs before) (hvars : s.vars = [])
    (hfn : s.fn H (ds ++ gs) = { results := [.lit (.bool true)], args := ds }) (hr : f.resultTypes = #[tb]) (hbool : P.underlying tb = some .bool) (hb : Below W.heap.size W W') :
    s.post enc P f false true false false W args (.bool true) W' := by
  have hW0 := hW
  obtain ⟨p, q, hA, hV, hpq, hfz, hnd⟩ := hW
  have hV' : gs = [] ∧ q = [] := by
    rw [hvars] at hV
    exact trodVars_none hV
  obtain ⟨rfl, rfl⟩ := hV'
  rw [List.append_nil] at hpq
  subst hpq
  have hlt : ∀ x ∈ before, x.block < W.heap.size := fun x hx => hW0.lt x hx
  have hold : ∀ x ∈ before, (fun b => decide (b < W.heap.size)) x.block = true := fun x hx => by simpa using hlt x hx
  have hres : ∀ (b : Nat) (sp : Nat → Bool) (hd : Bool), DataW.TrodAll enc P W' b sp hd f.resultTypes.toList ((Value.bool true).resultList f.resultTypes.size) (s.fn H (ds ++ [])).results [] := by
    intro b sp hd
    rw [hfn, hr]
    exact trodAll_mk1 (shut_bool hbool true)
  have hargs : ∀ sp : Nat → Bool, (∀ x ∈ before, sp x.block = true) → DataW.TrodAll enc P W' 0 sp true f.params.toList args.toList (s.fn H (ds ++ [])).args before := by
    intro sp hs
    rw [hfn]
    exact trodAll_below hl hb hread hlt hs hA
  have hvs : (s.fn H (ds ++ [])).vars = [] := by rw [hfn]
  refine ⟨ds, [], before, [], before, [], hW0, hres _ _ _, hargs _ hold, ?_, World.keptBut_mono (fun x hx => ⟨hx, .inr (by simpa using hx)⟩) (hb.frame (· ∈ before)), fun h => by cases h⟩
  rw [hvs, hvars]
  rfl
end

/-- a slice of texts -/
theorem open_texts {H : Type} {enc : TypeId × Value → H} {P : Program} {w : World} {base : Nat} {spare : Nat → Bool} {held : Bool} {t e : TypeId} {v : Value} {d : DataW H} {p : List MemPlace}
    (ht : P.underlying t = some (.slice e)) (he : P.underlying e = some .string) (hc : P.cellsOf e = 1) {r : Reach} {b0 : Nat} (hv : Value.okWide P w r b0 t v) (h : DataW.Trod enc P w base spare held t v d p) :
    ∃ (xs : List ByteArray) (A : Option Addr) (c : Nat), v = .slice A xs.length c ∧ xs.length ≤ c ∧ c ≤ maxLen ∧ Row1 .string w A xs ∧ ∀ s ∈ xs, s.size ≤ maxLen := by
  obtain ⟨a0, len, cap, rfl⟩ := okWide_slice ht hv
  obtain ⟨fuel, hf⟩ := h
  rcases open_strings ht he hc hf with ⟨hcs, hx⟩ | ⟨a, len', cap', ss, hcs, _, hl, hm, hz, hx, hcell, hws⟩
  · simp [Value.cells] at hcs
    obtain ⟨rfl, rfl, rfl⟩ := hcs
    exact ⟨[], none, 0, rfl, Nat.le_refl _, by unfold maxLen; omega, fun k x h => by simp at h, fun s h => by simp at h⟩
  · simp [Value.cells] at hcs
    obtain ⟨rfl, rfl, rfl⟩ := hcs
    have hle : len ≤ ss.length := by rw [hz]; split <;> omega
    refine ⟨ss.take len, some a, cap, by rw [List.length_take, Nat.min_eq_left hle], by rw [List.length_take, Nat.min_eq_left hle]; exact hl, hm, fun k x hk => ⟨a, rfl, ?_⟩, fun s hs => hws s (List.mem_of_mem_take hs)⟩
    rw [List.getElem?_take] at hk
    split at hk
    · rename_i hkl
      rw [hcell k (by omega), List.getD_eq_getElem?_getD, hk]
      rfl
    · cases hk

/-- a slice of bytes -/
theorem open_bytes {H : Type} {enc : TypeId × Value → H} {P : Program} {w : World} {base : Nat} {spare : Nat → Bool} {held : Bool} {t e : TypeId} {v : Value} {d : DataW H} {p : List MemPlace}
    (ht : P.underlying t = some (.slice e)) (he : P.underlying e = some (.int .u8)) (hc : P.cellsOf e = 1) {r : Reach} {b0 : Nat} (hv : Value.okWide P w r b0 t v) (h : DataW.Trod enc P w base spare held t v d p) :
    ∃ (xs : List UInt8) (A : Option Addr) (c : Nat), v = .slice A xs.length c ∧ xs.length ≤ c ∧ c ≤ maxLen ∧ Row1 encB w A xs := by
  obtain ⟨a0, len, cap, rfl⟩ := okWide_slice ht hv
  obtain ⟨fuel, hf⟩ := h
  rcases open_ints ht he hc hf with ⟨hcs, hx⟩ | ⟨a, len', cap', zs, hcs, _, hl, hm, hz, hx, hcell, hws⟩
  · simp [Value.cells] at hcs
    obtain ⟨rfl, rfl, rfl⟩ := hcs
    exact ⟨[], none, 0, rfl, Nat.le_refl _, by unfold maxLen; omega, fun k x h => by simp at h⟩
  · simp [Value.cells] at hcs
    obtain ⟨rfl, rfl, rfl⟩ := hcs
    have hle : len ≤ zs.length := by rw [hz]; split <;> omega
    have hlen : ((zs.take len).map fun z => UInt8.ofNat z.toNat).length = len := by rw [List.length_map, List.length_take, Nat.min_eq_left hle]
    refine ⟨(zs.take len).map fun z => UInt8.ofNat z.toNat, some a, cap, by rw [hlen], by rw [hlen]; exact hl, hm, fun k x hk => ⟨a, rfl, ?_⟩⟩
    rw [List.getElem?_map, Option.map_eq_some_iff] at hk
    obtain ⟨z, hk, rfl⟩ := hk
    rw [List.getElem?_take] at hk
    split at hk
    · rename_i hkl
      have hw := hws z (List.mem_of_getElem? hk)
      have hzr : 0 ≤ z ∧ z ≤ 255 := by simpa [Lit.wf, IntKind.min, IntKind.max, IntKind.signed, IntKind.bits] using hw
      rw [hcell k (by omega), List.getD_eq_getElem?_getD, hk]
      simp only [Option.getD_some, encB, UInt8.toNat_ofNat']
      congr 2
      omega
    · cases hk
end Go.Proofs.YthbcofbdgljfbaaDoor
