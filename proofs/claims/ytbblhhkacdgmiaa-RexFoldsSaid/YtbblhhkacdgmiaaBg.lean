/- The last step of a law's row: true is answered, and the arguments read as they did. A row of trees, opened: what is handed in. Expressions, opened. -/
import Derived.Test.YtbblhhkacdgmiaaRows
import Derived.Test.YtbblhhkacdgmiaaBa
import Derived.ProofKit
import Derived.ChangeSame
import Derived.SliceStrings
import Derived.Deep.Slices
import Derived.Laws.IdiomArrays
import Derived.Deep.Strs
import Derived.Test.YtbblhhkacdgmiaaBb
namespace Go.Proofs.Ytbblhhkacdgmiaa
open Go.RowKit Go.ChangeShapes Go.WideShapes Go.ChangeAt
set_option linter.unusedVariables false
set_option linter.unusedSimpArgs false

theorem Try.own : ownKnob Try.prog.godebug = none := by kernel_rfl
theorem Try.laidOut : laidOutB Try.prog = true := by kernel_rfl

section
variable {H : Type} {enc : TypeId × Value → H} {P : Program}
/-- what the arguments read as, they read as behind the call -/
theorem trodAll_below (hl : laidOutB P = true) {W W' : World} (hb : Below W.heap.size W W') {sp : Nat → Bool} : ∀ {ts : List TypeId} {vs : List Value} {ds : List (DataW H)} {ps : List MemPlace},
    (∀ t ∈ ts, P.readableRec t = true ∧ t < P.types.size) → (∀ p ∈ ps, p.block < W.heap.size) → (∀ p ∈ ps, sp p.block = true) →
    DataW.TrodAll enc P W 0 (fun _ => true) true ts vs ds ps → DataW.TrodAll enc P W' 0 sp true ts vs ds ps
  | [], [], [], ps, _, _, _, h => h
  | [], [], _ :: _, _, _, _, _, h => h.elim
  | [], _ :: _, _, _, _, _, _, h => h.elim
  | _ :: _, [], _, _, _, _, _, h => h.elim
  | _ :: _, _ :: _, [], _, _, _, _, h => h.elim
  | t :: ts, v :: vs, d :: ds, ps, ht, hlt, hs, h => by
    obtain ⟨p, q, h1, h2, rfl⟩ := h
    have h1' := WideElems.Trod_stays (sp' := sp) hl (ht t (by simp)).1 (ht t (by simp)).2 h1 (fun x hx => hb.same (hlt x (by simp [hx]))) (fun x hx => hs x (by simp [hx]))
    exact ⟨p, q, h1', trodAll_below hl hb (fun t h => ht t (by simp [h])) (fun x hx => hlt x (by simp [hx])) (fun x hx => hs x (by simp [hx])) h2, rfl⟩

theorem post_true {f : Func} {s : ChangeSpec} {W W' : World} {args : Array Value} {ds gs : List (DataW H)} {before : List MemPlace} {tb : TypeId}
    (hl : laidOutB P = true) (hread : ∀ t ∈ f.params.toList, P.readableRec t = true ∧ t < P.types.size)
    (hW : DataW.Whole enc P f.params.toList s.vars false W args.toList ds gs before) (hvars : s.vars = [])
    (hfn : s.fn H (ds ++ gs) = { results := [.lit (.bool true)], args := ds }) (hr : f.resultTypes = #[tb]) (hbool : P.underlying tb = some .bool) (hb : Below W.heap.size W W') :
    s.post enc P f false true false false W args (.bool true) W' := by
  have hW0 := hW
  obtain ⟨p, q, hA, hV, hpq, hfz, hnd⟩ := hW
  have hV' : gs = [] ∧ q = [] := by
    rw [hvars] at hV
    exact trodVars_none hV
  obtain ⟨rfl, rfl⟩ := hV'
  rw [List.append_nil] at hpq
  subst hpq
  have hlt : ∀ x ∈ before, x.block < W.heap.size := fun x hx => hW0.lt x hx
  have hold : ∀ x ∈ before, (fun b => decide (b < W.heap.size)) x.block = true := fun x hx => by simpa using hlt x hx
  have hres : ∀ (b : Nat) (sp : Nat → Bool) (hd : Bool), DataW.TrodAll enc P W' b sp hd f.resultTypes.toList ((Value.bool true).resultList f.resultTypes.size) (s.fn H (ds ++ [])).results [] := by
    intro b sp hd
    rw [hfn, hr]
    exact trodAll_mk1 (shut_bool hbool true)
  have hargs : ∀ sp : Nat → Bool, (∀ x ∈ before, sp x.block = true) → DataW.TrodAll enc P W' 0 sp true f.params.toList args.toList (s.fn H (ds ++ [])).args before := by
    intro sp hs
    rw [hfn]
    exact trodAll_below hl hb hread hlt hs hA
  have hvs : (s.fn H (ds ++ [])).vars = [] := by rw [hfn]
  refine ⟨ds, [], before, [], before, [], hW0, hres _ _ _, hargs _ hold, ?_, World.keptBut_mono (fun x hx => ⟨hx, .inr (by simpa using hx)⟩) (hb.frame (· ∈ before)), fun h => by cases h⟩
  rw [hvs, hvars]
  rfl
end

/-- a slice of texts -/
theorem open_texts {H : Type} {enc : TypeId × Value → H} {P : Program} {w : World} {base : Nat} {spare : Nat → Bool} {held : Bool} {t e : TypeId} {v : Value} {d : DataW H} {p : List MemPlace}
    (ht : P.underlying t = some (.slice e)) (he : P.underlying e = some .string) (hc : P.cellsOf e = 1) {r : Reach} {b0 : Nat} (hv : Value.okWide P w r b0 t v) (h : DataW.Trod enc P w base spare held t v d p) :
    ∃ (xs : List ByteArray) (A : Option Addr) (c : Nat), v = .slice A xs.length c ∧ xs.length ≤ c ∧ c ≤ maxLen ∧ Row1 .string w A xs ∧ ∀ s ∈ xs, s.size ≤ maxLen := by
  obtain ⟨a0, len, cap, rfl⟩ := okWide_slice ht hv
  obtain ⟨fuel, hf⟩ := h
  rcases open_strings ht he hc hf with ⟨hcs, hx⟩ | ⟨a, len', cap', ss, hcs, _, hl, hm, hz, hx, hcell, hws⟩
  · simp [Value.cells] at hcs
    obtain ⟨rfl, rfl, rfl⟩ := hcs
    exact ⟨[], none, 0, rfl, Nat.le_refl _, by unfold maxLen; omega, fun k x h => by simp at h, fun s h => by simp at h⟩
  · simp [Value.cells] at hcs
    obtain ⟨rfl, rfl, rfl⟩ := hcs
    have hle : len ≤ ss.length := by rw [hz]; split <;> omega
    refine ⟨ss.take len, some a, cap, by rw [List.length_take, Nat.min_eq_left hle], by rw [List.length_take, Nat.min_eq_left hle]; exact hl, hm, fun k x hk => ⟨a, rfl, ?_⟩, fun s hs => hws s (List.mem_of_mem_take hs)⟩
    rw [List.getElem?_take] at hk
    split at hk
    · rename_i hkl
      rw [hcell k (by omega), List.getD_eq_getElem?_getD, hk]
      rfl
    · cases hk

/-- a slice of bytes -/
theorem open_bytes {H : Type} {enc : TypeId × Value → H} {P : Program} {w : World} {base : Nat} {spare : Nat → Bool} {held : Bool} {t e : TypeId} {v : Value} {d : DataW H} {p : List MemPlace}
    (ht : P.underlying t = some (.slice e)) (he : P.underlying e = some (.int .u8)) (hc : P.cellsOf e = 1) {r : Reach} {b0 : Nat} (hv : Value.okWide P w r b0 t v) (h : DataW.Trod enc P w base spare held t v d p) :
    ∃ (xs : List UInt8) (A : Option Addr) (c : Nat), v = .slice A xs.length c ∧ xs.length ≤ c ∧ c ≤ maxLen ∧ Row1 encB w A xs := by
  obtain ⟨a0, len, cap, rfl⟩ := okWide_slice ht hv
  obtain ⟨fuel, hf⟩ := h
  rcases open_ints ht he hc hf with ⟨hcs, hx⟩ | ⟨a, len', cap', zs, hcs, _, hl, hm, hz, hx, hcell, hws⟩
  · simp [Value.cells] at hcs
    obtain ⟨rfl, rfl, rfl⟩ := hcs
    exact ⟨[], none, 0, rfl, Nat.le_refl _, by unfold maxLen; omega, fun k x h => by simp at h⟩
  · simp [Value.cells] at hcs
    obtain ⟨rfl, rfl, rfl⟩ := hcs
    have hle : len ≤ zs.length := by rw [hz]; split <;> omega
    have hlen : ((zs.take len).map fun z => UInt8.ofNat z.toNat).length = len := by rw [List.length_map, List.length_take, Nat.min_eq_left hle]
    refine ⟨(zs.take len).map fun z => UInt8.ofNat z.toNat, some a, cap, by rw [hlen], by rw [hlen]; exact hl, hm, fun k x hk => ⟨a, rfl, ?_⟩⟩
    rw [List.getElem?_map, Option.map_eq_some_iff] at hk
    obtain ⟨z, hk, rfl⟩ := hk
    rw [List.getElem?_take] at hk
    split at hk
    · rename_i hkl
      have hw := hws z (List.mem_of_getElem? hk)
      have hzr : 0 ≤ z ∧ z ≤ 255 := by simpa [Lit.wf, IntKind.min, IntKind.max, IntKind.signed, IntKind.bits] using hw
      rw [hcell k (by omega), List.getD_eq_getElem?_getD, hk]
      simp only [Option.getD_some, encB, UInt8.toNat_ofNat']
      congr 2
      omega
    · cases hk
end Go.Proofs.Ytbblhhkacdgmiaa
namespace Go.Proofs.Ytbblhhkacdgmiaa
open Go.RowKit Go.ChangeShapes Go.WideShapes Go.ChangeAt
set_option linter.unusedVariables false
set_option linter.unusedSimpArgs false

theorem bulk_one {H : Type} (d : DataW H) : 1 ≤ Rows.uptoBulk d := by
  cases d with
  | lit l => cases l <;> simp [Rows.uptoBulk]
  | nil => simp [Rows.uptoBulk]
  | ptr d => simp [Rows.uptoBulk]
  | slice elems spare => simp [Rows.uptoBulk]
  | agg parts => simp [Rows.uptoBulk]
  | iface t d => simp [Rows.uptoBulk]
  | map entries => simp [Rows.uptoBulk]
  | held h => simp [Rows.uptoBulk]
theorem bulk_append {H : Type} (l r : List (DataW H)) : Rows.uptoBulkAll (l ++ r) = Rows.uptoBulkAll l + Rows.uptoBulkAll r := by
  induction l with
  | nil => simp [Rows.uptoBulkAll]
  | cons x l ih => simp only [List.cons_append, Rows.uptoBulkAll, ih]; omega
theorem bulk_part {H : Type} {d : DataW H} {l : List (DataW H)} (h : d ∈ l) : Rows.uptoBulk d ≤ Rows.uptoBulkAll l := by
  induction l with
  | nil => cases h
  | cons x r ih =>
    simp only [Rows.uptoBulkAll]
    cases List.mem_cons.1 h with
    | inl e => subst e; omega
    | inr e => have := ih e; omega
theorem bulk_length {H : Type} (l : List (DataW H)) : l.length ≤ Rows.uptoBulkAll l := by
  induction l with
  | nil => simp [Rows.uptoBulkAll]
  | cons x r ih => have := bulk_one x; simp only [Rows.uptoBulkAll, List.length_cons]; omega

section
variable {H : Type} {enc : TypeId × Value → H} {P : Program} {w : World} {base : Nat} {spare : Nat → Bool} {held : Bool}
variable {α : Type} {E : Enc α}

theorem open_trees {e t : TypeId} (ht : P.underlying t = some (.slice e)) (hc : P.cellsOf e = E.sz + 1)
    (hopen : ∀ n cs x, DataW.trod enc P w base spare held n e cs = some x → ∃ a v n' y, cs = E.cells a ++ [v] ∧ DataW.trod enc P w base spare held n' t [v] = some y ∧ Rows.uptoBulk y.1 < Rows.uptoBulk x.1) :
    ∀ N n cs x, DataW.trod enc P w base spare held n t cs = some x → Rows.uptoBulk x.1 ≤ N →
      ∃ (ts : List (T α)) (A : Option Addr) (c : Nat), cs = [.slice A ts.length c] ∧ ts.length ≤ c ∧ InRow E (fun _ => True) w ts A 0 ∧ T.sizes ts + 1 ≤ Rows.uptoBulk x.1
  | 0, n, cs, x, h, hN => by have := bulk_one x.1; omega
  | N + 1, n, cs, x, h, hN => by
    rcases Deep.open_slice ht h with ⟨rfl, rfl⟩ | ⟨a, len, cap, m, n', D, Pl, rfl, hb, hl, hm, hmm, rfl, hel⟩
    · exact ⟨[], none, 0, rfl, Nat.le_refl _, by simp [InRow], by simp [T.sizes, Rows.uptoBulk]⟩
    · have hlm : len ≤ m := by rw [hmm]; split <;> omega
      have hB : Rows.uptoBulkAll ((List.range len).map D) + 1 ≤ N + 1 := by
        simp only [Rows.uptoBulk] at hN; omega
      have key : ∀ k i, i + k = len → ∃ ts : List (T α), ts.length = k ∧ InRow E (fun _ => True) w ts (some a) i ∧ T.sizes ts ≤ Rows.uptoBulkAll ((List.range' i k).map D) := by
        intro k
        induction k with
        | zero => intro i hi; exact ⟨[], rfl, by simp [InRow], by simp [T.sizes]⟩
        | succ k ih =>
          intro i hi
          obtain ⟨ts, h1, h2, h3⟩ := ih (i + 1) (by omega)
          obtain ⟨cs', hcs, hd⟩ := hel i (by omega)
          obtain ⟨a', v, n2, y, rfl, hy, hlt⟩ := hopen _ _ _ hd
          have hDi : Rows.uptoBulk (D i) ≤ Rows.uptoBulkAll ((List.range len).map D) := bulk_part (List.mem_map.2 ⟨i, by simp; omega, rfl⟩)
          obtain ⟨ks, A, c, hv, hkc, hr, hs⟩ := open_trees ht hc hopen N n2 [v] y hy (by simp only at hlt; omega)
          simp only [List.cons.injEq, and_true] at hv
          subst hv
          obtain ⟨_, hlen, hcell⟩ := World.cells?_some hcs
          refine ⟨.mk a' ks :: ts, by simp [h1], ?_, ?_⟩
          · simp only [InRow, InT]
            refine ⟨⟨a, _, rfl, trivial, fun j u hu => ?_, A, c, rfl, hkc, hr⟩, h2⟩
            have hj : j < P.cellsOf e := by
              rw [← hlen]
              rcases Nat.lt_or_ge j (E.cells a' ++ [Value.slice A ks.length c]).length with h | h
              · exact h
              · rw [List.getElem?_eq_none h] at hu; simp at hu
            have := hcell j hj
            rw [hu] at this
            rw [← this, hc, add_add_]
          · simp only [List.range'_succ, List.map_cons, Rows.uptoBulkAll, T.sizes, T.size]
            simp only at hlt
            omega
      obtain ⟨ts, h1, h2, h3⟩ := key len 0 (by omega)
      subst h1
      refine ⟨ts, some a, cap, rfl, hl, h2, ?_⟩
      simp only [Rows.uptoBulk]
      rw [← List.range_eq_range'] at h3
      omega
end
end Go.Proofs.Ytbblhhkacdgmiaa
namespace Go.Proofs.Ytbblhhkacdgmiaa
open Go.RowKit Go.ChangeShapes Go.WideShapes Go.ChangeAt
set_option linter.unusedVariables false
set_option linter.unusedSimpArgs false

theorem u8_of {n : Int} (h : (Lit.int .u8 n).wf = true) : ∃ x : UInt8, n = (x.toNat : Int) := by
  have hx : 0 ≤ n ∧ n ≤ 255 := by simpa [Lit.wf, IntKind.min, IntKind.max, IntKind.signed, IntKind.bits] using h
  exact ⟨UInt8.ofNat n.toNat, by simp [UInt8.toNat_ofNat]; omega⟩
theorem u64_of {n : Int} (h : (Lit.int .u64 n).wf = true) : ∃ x : UInt64, n = (x.toNat : Int) := by
  have hx : 0 ≤ n ∧ n ≤ 18446744073709551615 := by simpa [Lit.wf, IntKind.min, IntKind.max, IntKind.signed, IntKind.bits] using h
  exact ⟨UInt64.ofNat n.toNat, by simp [UInt64.toNat_ofNat]; omega⟩

section
variable {H : Type} {enc : TypeId × Value → H} {w : World} {base : Nat} {spare : Nat → Bool} {held : Bool}
theorem open_set {n : Nat} {cs : List Value} {x : DataW H × List MemPlace} (hl : cs.length = 4) (h : DataW.trod enc Try.prog w base spare held n 25 cs = some x) :
    ∃ s : S4, cs = [.int .u64 (s.a.toNat : Int), .int .u64 (s.b.toNat : Int), .int .u64 (s.c.toNat : Int), .int .u64 (s.d.toNat : Int)] := by
  match cs, hl with
  | [c0, c1, c2, c3], _ =>
  obtain ⟨y0, y1, y2, y3, n', _, h0, h1, h2, h3⟩ := trod_array4 Try.underlying25 (by kernel_rfl) h
  obtain ⟨n0, e0, _, w0⟩ := DataW.trod_int Try.underlying23 h0
  obtain ⟨n1, e1, _, w1⟩ := DataW.trod_int Try.underlying23 h1
  obtain ⟨n2, e2, _, w2⟩ := DataW.trod_int Try.underlying23 h2
  obtain ⟨n3, e3, _, w3⟩ := DataW.trod_int Try.underlying23 h3
  obtain ⟨x0, rfl⟩ := u64_of w0
  obtain ⟨x1, rfl⟩ := u64_of w1
  obtain ⟨x2, rfl⟩ := u64_of w2
  obtain ⟨x3, rfl⟩ := u64_of w3
  simp only [List.cons.injEq, and_true] at e0 e1 e2 e3
  subst e0 e1 e2 e3
  exact ⟨⟨x0, x1, x2, x3⟩, rfl⟩

set_option maxRecDepth 100000 in
theorem open_re1 (n : Nat) (cs : List Value) (x : DataW H × List MemPlace) (h : DataW.trod enc Try.prog w base spare held n 30 cs = some x) :
    ∃ (a : RH) (v : Value) (n' : Nat) (y : DataW H × List MemPlace), cs = RE.cells a ++ [v] ∧ DataW.trod enc Try.prog w base spare held n' 22 [v] = some y ∧ Rows.uptoBulk y.1 < Rows.uptoBulk x.1 := by
  obtain ⟨y0, y1, y2, n', rfl, hl, h0, h1, h2⟩ := Deep.trod_struct3 Try.underlying30 h
  have hz : Try.prog.cellsOf 30 = 6 := by kernel_rfl
  have hz0 : Try.prog.cellsOf 5 = 1 := by kernel_rfl
  have hz1 : Try.prog.cellsOf 25 = 4 := by kernel_rfl
  have hz2 : Try.prog.cellsOf 22 = 1 := by kernel_rfl
  rw [hz] at hl
  match cs, hl with
  | [c0, c1, c2, c3, c4, c5], _ =>
  simp [hz0, hz1, hz2] at h0 h1 h2
  obtain ⟨n0, e0, _, w0⟩ := DataW.trod_int Try.underlying5 h0
  obtain ⟨s, hs⟩ := open_set rfl h1
  obtain ⟨x0, rfl⟩ := u8_of w0
  simp only [List.cons.injEq, and_true] at e0 hs
  obtain ⟨rfl, rfl, rfl, rfl⟩ := hs
  subst e0
  refine ⟨⟨x0, s⟩, c5, n', y2, rfl, h2, ?_⟩
  simp only [Rows.uptoBulk, Rows.uptoBulkAll]
  omega

set_option maxRecDepth 100000 in
/-- a row of expressions -/
theorem open_res {v : Value} {d : DataW H} {p : List MemPlace} {r : Reach} {b0 : Nat} (hv : Value.okWide Try.prog w r b0 22 v) (h : DataW.Trod enc Try.prog w base spare held 22 v d p) :
    ∃ (ts : List Re) (A : Option Addr) (c : Nat), v = .slice A ts.length c ∧ ts.length ≤ c ∧ InRow RE (fun _ => True) w ts A 0 ∧ T.sizes ts + 1 ≤ Rows.uptoBulk d := by
  obtain ⟨a0, len, cap, rfl⟩ := okWide_slice Try.underlying22 hv
  obtain ⟨fuel, hf⟩ := h
  obtain ⟨ts, A, c, e, hc, hr, hs⟩ := open_trees (E := RE) Try.underlying22 (by kernel_rfl) open_re1 _ _ _ _ hf (Nat.le_refl _)
  simp only [Value.cells, List.cons.injEq, and_true] at e
  exact ⟨ts, A, c, e, hc, hr, hs⟩
set_option maxRecDepth 100000 in
/-- an expression -/
theorem open_re {v : Value} {d : DataW H} {p : List MemPlace} {r : Reach} {b0 : Nat} (hv : Value.okWide Try.prog w r b0 30 v) (h : DataW.Trod enc Try.prog w base spare held 30 v d p) :
    ∃ (h : RH) (ks : List Re) (A : Option Addr) (c : Nat), v = reV h A ks.length c ∧ ks.length ≤ c ∧ InRow RE (fun _ => True) w ks A 0 ∧ T.sizes ks + 2 ≤ Rows.uptoBulk d := by
  obtain ⟨cs, rfl, hcs⟩ := okWide_struct Try.underlying30 hv
  obtain ⟨fuel, hf⟩ := h
  obtain ⟨a, v, n', y, e, hy, hlt⟩ := open_re1 _ _ _ hf
  obtain ⟨ks, A, c, e2, hc, hr, hs⟩ := open_trees (E := RE) Try.underlying22 (by kernel_rfl) open_re1 _ _ _ _ hy (Nat.le_refl _)
  simp only [List.cons.injEq, and_true] at e2
  subst e2
  refine ⟨a, ks, A, c, ?_, hc, hr, ?_⟩
  · have : cs.toList = [.int .u8 (a.k.toNat : Int), .int .u64 (a.s.a.toNat : Int), .int .u64 (a.s.b.toNat : Int), .int .u64 (a.s.c.toNat : Int), .int .u64 (a.s.d.toNat : Int), .slice A ks.length c] := e
    have h2 : cs = #[.int .u8 (a.k.toNat : Int), .int .u64 (a.s.a.toNat : Int), .int .u64 (a.s.b.toNat : Int), .int .u64 (a.s.c.toNat : Int), .int .u64 (a.s.d.toNat : Int), .slice A ks.length c] := by
      rw [← Array.toList_inj]; exact this
    rw [h2]
  · simp only at hlt; omega
set_option maxRecDepth 100000 in
/-- a set -/
theorem open_set1 {v : Value} {d : DataW H} {p : List MemPlace} {r : Reach} {b0 : Nat} (hv : Value.okWide Try.prog w r b0 25 v) (h : DataW.Trod enc Try.prog w base spare held 25 v d p) :
    ∃ s : S4, v = setV s := by
  obtain ⟨cs, rfl, hcs⟩ : ∃ cs, v = .agg cs ∧ cs.size = Try.prog.cellsOf 25 := by
    simp only [Value.okWide, Try.underlying25] at hv
    obtain ⟨cs, h1, h2, _⟩ := hv
    exact ⟨cs, h1, h2⟩
  obtain ⟨fuel, hf⟩ := h
  have hz : Try.prog.cellsOf 25 = 4 := by kernel_rfl
  rw [hz] at hcs
  obtain ⟨s, hs⟩ := open_set (by simpa [Value.cells] using hcs) hf
  refine ⟨s, ?_⟩
  have h2 : cs = #[.int .u64 (s.a.toNat : Int), .int .u64 (s.b.toNat : Int), .int .u64 (s.c.toNat : Int), .int .u64 (s.d.toNat : Int)] := by
    rw [← Array.toList_inj]; exact hs
  rw [h2]
end
end Go.Proofs.Ytbblhhkacdgmiaa
