/- A text that grows: strings.Builder, in a struct of two cells. -/
import Derived.Test.YteoghoaggpbkpaaDoorBytes
import Derived.Lib.Builder
import Derived.Lib.AppendStr
import Derived.Lib.UnsafeStr
import Derived.Lib.OthersKept
import Derived.Laws.Externs
import Derived.RegionTactic
namespace Go.Proofs.YteoghoaggpbkpaaDoor
open Go.RowKit
set_option linter.unusedVariables false
set_option linter.unusedSimpArgs false

theorem Tryd.info_u8b : (Tryd.prog.info? 5).map (fun i => (i.zero, i.size, i.bytes)) = some (some (.int .u8 0), 1, 1) := by kernel_rfl
theorem Tryd.info_bld : (Tryd.prog.info? 92).map (·.size) = some 2 := by kernel_rfl
theorem Tryd.cells_u8b : Tryd.prog.cellsOf 5 = 1 := by kernel_rfl

/-- What a struct is that bears a builder at its head: two cells. -/
structure IsBld (T : TypeId) : Prop where
  lies : liesAt Tryd.prog Tryd.prog.depth T (2 / Tryd.prog.cellsOf T) 0 92 1 = true
  ne : T ≠ 5
theorem isBld_self : IsBld 92 := ⟨by kernel_rfl, by decide⟩
/-- A builder in block b that holds these bytes. -/
def Bd (T : TypeId) (b : Nat) (bs : List UInt8) (w : World) : Prop :=
  ∃ p v, (p = .pointer none ∨ p = .pointer (some ⟨b, 0, none⟩)) ∧ w.heap[b]? = some (.cells #[p, v] T (0, 0)) ∧ w.ownsRow b 5 1 v bs.length (bs.map encB)
/-- What a write keeps: all below b, and all else that is no row of bytes. -/
def BdK (b : Nat) (w w' : World) : Prop := Below b w w' ∧ Lib.OthersKept 5 (some b) w w'
theorem BdK.refl (b : Nat) (w : World) : BdK b w w := ⟨Below.refl _ _, Lib.OthersKept.refl _ _ _⟩
theorem BdK.trans {b : Nat} {a c d : World} (h : BdK b a c) (k : BdK b c d) : BdK b a d := ⟨h.1.trans k.1, h.2.trans k.2⟩
theorem BdK.alloc {b : Nat} {a w : World} (h : BdK b a w) (hb : b ≤ w.heap.size) (o : Obj) : BdK b a (w.alloc o) := ⟨h.1.alloc hb o, h.2.alloc o⟩
theorem BdK.drew {b : Nat} {a w : World} (h : BdK b a w) : BdK b a w.drew := ⟨h.1.drew, h.2.drew⟩
/-- what lies above, and is no row of bytes, stays -/
theorem BdK.block {b k : Nat} {w w' : World} {cs : Array Value} {t : TypeId} {fz : Nat × Nat} (h : BdK b w w') (hk : w.heap[k]? = some (.cells cs t fz)) (hkb : k ≠ b) (ht : t ≠ 5) : w'.heap[k]? = some (.cells cs t fz) :=
  h.2 k _ hk (fun e => hkb (Option.some.inj e)) (fun c fz' e => ht (Obj.cells.inj e).2.1)
/-- a call that keeps all that was there keeps this too -/
theorem Below.bdk {b : Nat} {w w' : World} (h : Below w.heap.size w w') (hb : b ≤ w.heap.size) : BdK b w w' :=
  ⟨h.mono hb, fun k o hk _ _ => (h.block k (Array.getElem?_eq_some_iff.1 hk).1).trans hk⟩
theorem Bd.lt {T : TypeId} {b : Nat} {bs : List UInt8} {w : World} (h : Bd T b bs w) : b < w.heap.size := by
  obtain ⟨p, v, _, hb, _⟩ := h
  exact (Array.getElem?_eq_some_iff.1 hb).1
theorem Bd.keep {T : TypeId} {b : Nat} {bs : List UInt8} {w w' : World} (h : Bd T b bs w) (hb : Below w.heap.size w w') : Bd T b bs w' := by
  have hlt := h.lt
  obtain ⟨p, v, hp, hbk, hown⟩ := h
  exact ⟨p, v, hp, (hb.block _ hlt).trans hbk, hown.kept (row := none) ⟨hb.os, hb.tape, hb.output, hb.size, fun k hk _ => hb.block k hk⟩ (by cases hv : v.ownBlock <;> simp)⟩
theorem Bd.alloc {T : TypeId} {b : Nat} {bs : List UInt8} {w : World} (h : Bd T b bs w) (o : Obj) : Bd T b bs (w.alloc o) := h.keep ((Below.refl _ _).alloc (Nat.le_refl _) o)
theorem Bd.drew {T : TypeId} {b : Nat} {bs : List UInt8} {w : World} (h : Bd T b bs w) : Bd T b bs w.drew := h
/-- a new one -/
theorem Bd.new (T : TypeId) (w : World) : Bd T w.heap.size [] (w.alloc (.cells #[.pointer none, .slice none 0 0] T)) :=
  ⟨_, _, .inl rfl, heap_alloc_new w _, World.ownsRow_nil _ _ _ _⟩

set_option maxHeartbeats 1000000 in
set_option maxRecDepth 100000 in
theorem copyCheck_any {T : TypeId} (hT : IsBld T) {b : Nat} {bs : List UInt8} {w : World} (h : Bd T b bs w) :
    Calls Tryd.prog 86 #[.pointer (some ⟨b, 0, none⟩)] w fun e w' => e = .returned (.tuple #[]) ∧ BdK b w w' ∧
      ∃ v, w'.heap[b]? = some (.cells #[.pointer (some ⟨b, 0, none⟩), v] T (0, 0)) ∧ w'.ownsRow b 5 1 v bs.length (bs.map encB) := by
  obtain ⟨j, hj, hjs⟩ := Option.map_eq_some_iff.1 Tryd.info_bld
  obtain ⟨p, v, hp, hbk, hown⟩ := h
  rcases hp with rfl | rfl
  · have h0 : w.cell? ⟨b, 0, none⟩ = some (.pointer none) := by simp [World.cell?, hbk]
    have hsh : w.shape? b = some (T, 2) := by simp [World.shape?, hbk]
    have hfz : w.frozen? ⟨b, 0, none⟩ = false := by simp [World.frozen?, hbk]
    have HB := Lib.hid hbk
    have HO := Lib.hid hown
    clear hbk hown
    go_enter Tryd.func86, Tryd.ntmps86
    go_wp2_with fail
    rw [Lib.run_to_unsafe w ⟨b, 0, none⟩ Tryd.underlying90 Tryd.underlying121 hj (by rw [hjs]; decide) hsh (Nat.zero_lt_succ 1)]
    simp only [Result.andThen]
    rw [Oper.upon_value]
    go_wp2_with fail
    rw [run_callFunc_extern Tryd.func101 (by kernel_rfl) (by kernel_rfl) (by kernel_rfl) (e := Extern.AbiNoEscape.same) (by kernel_rfl)]
    rw [Lib.run_noEscape]
    simp only [Result.andThen]
    rw [Oper.upon_value]
    go_wp2_with fail
    rw [Lib.run_from_unsafe w ⟨b, 0, none⟩ Tryd.underlying121 Tryd.underlying90 hj hsh hT.lies]
    simp only [Result.andThen]
    rw [Oper.upon_value]
    go_wp2_with fail
    go_end0
    have hne := Lib.ownBlock_ne HO.out HB.out hT.ne
    refine ⟨rfl, ⟨(Below.refl _ _).setCell (p := ⟨b, 0, none⟩) (Nat.le_refl _) _, Lib.OthersKept.setCell (b := b) (Lib.OthersKept.refl _ _ _) ⟨b, 0, none⟩ rfl _⟩, v, ?_, ?_⟩
    · have := HB.out
      simp [World.setCell, Array.getElem?_modify, this]
    · exact HO.out.kept (row := some b) ⟨rfl, rfl, rfl, by simp [World.setCell], fun k _ hk => Below.heap_setCell _ _ _ _ (fun e => hk (by simp [e]))⟩ (Or.inr hne)
  · have h0 : w.cell? ⟨b, 0, none⟩ = some (.pointer (some ⟨b, 0, none⟩)) := by simp [World.cell?, hbk]
    have HB := Lib.hid hbk
    have HO := Lib.hid hown
    clear hbk hown
    go_enter Tryd.func86, Tryd.ntmps86
    go_wp2_with fail
    rw [Lib.run_neq_ptr_same w _ Tryd.underlying90 hj]
    go_wp2_with fail
    go_end0
    exact ⟨rfl, BdK.refl _ _, v, HB.out, HO.out⟩

/-- a new buffer, laid into its field -/
theorem bd_put {T : TypeId} (hT : IsBld T) {b : Nat} {v v' : Value} {bs : List UInt8} {w : World} (hb : w.heap[b]? = some (.cells #[.pointer (some ⟨b, 0, none⟩), v] T (0, 0))) (hown : w.ownsRow b 5 1 v' bs.length (bs.map encB)) :
    Bd T b bs (w.setCell ⟨b, 1, none⟩ v') := by
  have hne := Lib.ownBlock_ne hown hb hT.ne
  refine ⟨_, v', .inr rfl, ?_, ?_⟩
  · simp [World.setCell, Array.getElem?_modify, hb]
  · exact hown.kept (row := some b) ⟨rfl, rfl, rfl, by simp [World.setCell], fun k _ hk => Below.heap_setCell _ _ _ _ (fun e => hk (by simp [e]))⟩ (Or.inr hne)
theorem own_kind {w : World} {B : Nat} {e : TypeId} {v : Value} {n : Nat} {xs : List Value} (h : w.ownsRow B e 1 v n xs) : ∀ g, v.ownBlock = some g → ∃ c fz, w.heap[g]? = some (.cells c e fz) := by
  intro g hg
  rcases h.2 with ⟨rfl, _⟩ | ⟨g', cap, cur, rfl, _, hgg, _⟩
  · simp [Value.ownBlock] at hg
  · simp [Value.ownBlock] at hg
    subst hg
    exact ⟨cur, _, hgg⟩

set_option maxHeartbeats 2000000 in
set_option maxRecDepth 100000 in
theorem writeByte_any {T : TypeId} (hT : IsBld T) {b : Nat} {bs : List UInt8} (c : UInt8) {w : World} (h : Bd T b bs w) (hlen : bs.length ≤ 100000000000) :
    Calls Tryd.prog 71 #[.pointer (some ⟨b, 0, none⟩), .int .u8 (c.toNat : Int)] w fun e w' => e = .returned .nilIface ∧ Bd T b (bs ++ [c]) w' ∧ BdK b w w' := by
  have hlt := h.lt
  have hcc := Lib.hid (copyCheck_any hT h)
  clear h
  go_enter Tryd.func71, Tryd.ntmps71
  go_wp2_with fail
  refine hcc.out.mono ?_
  rintro e w1 ⟨rfl, hk1, v, hbk, hown⟩
  have c0 : w1.cell? ⟨b, 0, none⟩ = some (.pointer (some ⟨b, 0, none⟩)) := by rw [Lib.cell_of_heap hbk]; rfl
  have c1 : w1.cell? ⟨b, 1, none⟩ = some v := by rw [Lib.cell_of_heap hbk]; rfl
  have HB := Lib.hid hbk
  have HT := Lib.hid hT
  have hsz := hk1.1.size
  have hsrc := new_src w1 1 1 #[.int .u8 (c.toNat : Int)] 5 rfl
  clear hbk hT hcc
  go_wp2_with (at_builtin; refine wpList_app _ rfl _ _ 71 rfl b 5 (.int .u8 0) 1 1 Tryd.underlying71 Tryd.info_u8b rfl (by decide) v bs.length _ rfl (hown.alloc _) (some ⟨w1.heap.size, 0, none⟩) 1 1 _ rfl hsrc ?h1 ?h2 ?h3 ?h4 ?_)
  case h1 => intro u hu; rw [List.mem_singleton] at hu; subst hu; rfl
  case h2 => unfold maxLen; omega
  case h3 => omega
  case h4 => simp; omega
  intro v' w2 hown' hgrow _
  have hne := Lib.ownBlock_ne hown HB.out HT.out.ne
  have hb2 : w2.heap[b]? = some (.cells #[.pointer (some ⟨b, 0, none⟩), v] T (0, 0)) := by
    rw [hgrow.block b (by simp; omega) (fun e => hne e.symm), Below.heap_alloc w1 _ b (by omega)]
    exact HB.out
  have d0 : w2.cell? ⟨b, 0, none⟩ = some (.pointer (some ⟨b, 0, none⟩)) := by rw [Lib.cell_of_heap hb2]; rfl
  have d1 : w2.cell? ⟨b, 1, none⟩ = some v := by rw [Lib.cell_of_heap hb2]; rfl
  have f1 : w2.frozen? ⟨b, 1, none⟩ = false := Lib.frozen_of_heap hb2 1
  have H2 := Lib.hid hb2
  have hk2 : BdK b w w2 := hk1.trans ⟨((Below.refl _ _).alloc (by omega) _).grown hgrow (by simp; omega) (fun k hk => (hown.lt k hk).1),
    ((Lib.OthersKept.refl _ _ _).alloc _).grown hgrow (own_kind (hown.alloc _))⟩
  obtain ⟨A3, c3, rfl, _, _⟩ := own_slice hown'
  have HW := Lib.hid hown'
  clear hb2 hgrow hown hown' hsrc
  go_wp2_with fail
  go_ret
  exact ⟨rfl, bd_put HT.out H2.out (by rw [List.map_append, List.length_append]; exact HW.out), hk2.1.setCell (p := ⟨b, 1, none⟩) (Nat.le_refl _) _, Lib.OthersKept.setCell (b := b) hk2.2 ⟨b, 1, none⟩ rfl _⟩

theorem strCells_enc (s : ByteArray) : Lib.strCells s = s.data.toList.map encB := by
  unfold Lib.strCells
  simp [encB]

set_option maxHeartbeats 2000000 in
set_option maxRecDepth 100000 in
theorem writeString_any {T : TypeId} (hT : IsBld T) {b : Nat} {bs : List UInt8} (s : List UInt8) {w : World} (h : Bd T b bs w) (hlen : bs.length + s.length ≤ 100000000000) :
    Calls Tryd.prog 72 #[.pointer (some ⟨b, 0, none⟩), .string (str s)] w fun e w' => e = .returned (.tuple #[.int .i64 s.length, .nilIface]) ∧ Bd T b (bs ++ s) w' ∧ BdK b w w' := by
  have hlt := h.lt
  have hcc := Lib.hid (copyCheck_any hT h)
  obtain ⟨i0, hi, hz0, hz1, hz2⟩ := info_parts Tryd.info_u8b
  have hss : (str s).size = s.length := str_size s
  clear h
  go_enter Tryd.func72, Tryd.ntmps72
  go_wp2_with fail
  refine hcc.out.mono ?_
  rintro e w1 ⟨rfl, hk1, v, hbk, hown⟩
  have c0 : w1.cell? ⟨b, 0, none⟩ = some (.pointer (some ⟨b, 0, none⟩)) := by rw [Lib.cell_of_heap hbk]; rfl
  have c1 : w1.cell? ⟨b, 1, none⟩ = some v := by rw [Lib.cell_of_heap hbk]; rfl
  have HB := Lib.hid hbk
  have HT := Lib.hid hT
  have hsz := hk1.1.size
  have hsc := strCells_enc (str s)
  rw [show (str s).data.toList = s by simp] at hsc
  have HSC := Lib.hid hsc
  have HSS := Lib.hid hss
  clear hbk hT hcc hsc hss
  go_wp2_with (at_builtin; refine Lib.wpList_append_own_string _ rfl _ _ 71 9 rfl b 5 i0 Tryd.underlying71 Tryd.underlying9 hi hz0 hz1 hz2 _ _ _ rfl hown (str s) rfl ?h2 ?h3 ?h4 ?_)
  case h2 => unfold maxLen; have := HSS.out; omega
  case h3 => have := HSS.out; omega
  case h4 => omega
  intro v' w2 hown' hgrow _
  have hne := Lib.ownBlock_ne hown HB.out HT.out.ne
  have hb2 : w2.heap[b]? = some (.cells #[.pointer (some ⟨b, 0, none⟩), v] T (0, 0)) := by
    rw [hgrow.block b (by omega) (fun e => hne e.symm)]
    exact HB.out
  have d0 : w2.cell? ⟨b, 0, none⟩ = some (.pointer (some ⟨b, 0, none⟩)) := by rw [Lib.cell_of_heap hb2]; rfl
  have d1 : w2.cell? ⟨b, 1, none⟩ = some v := by rw [Lib.cell_of_heap hb2]; rfl
  have f1 : w2.frozen? ⟨b, 1, none⟩ = false := Lib.frozen_of_heap hb2 1
  have H2 := Lib.hid hb2
  have hk2 : BdK b w w2 := hk1.trans ⟨(Below.refl _ _).grown hgrow (by omega) (fun k hk => (hown.lt k hk).1), (Lib.OthersKept.refl _ _ _).grown hgrow (own_kind hown)⟩
  obtain ⟨A3, c3, rfl, _, _⟩ := own_slice hown'
  have HW : Hid (w2.ownsRow b 5 1 (.slice A3 (bs.length + s.length) c3) (bs.length + s.length) (bs.map encB ++ s.map encB)) := hown'
  clear hb2 hgrow hown hown'
  have hss := HSS.out
  go_wp2_with fail
  go_ret2
  exact ⟨rfl, bd_put HT.out H2.out (by rw [List.map_append, List.length_append]; exact HW.out), hk2.1.setCell (p := ⟨b, 1, none⟩) (Nat.le_refl _) _, Lib.OthersKept.setCell (b := b) hk2.2 ⟨b, 1, none⟩ rfl _⟩

set_option maxHeartbeats 1000000 in
set_option maxRecDepth 100000 in
theorem string_any {T : TypeId} {b : Nat} {l : List UInt8} {w : World} (h : Bd T b l w) :
    Calls Tryd.prog 73 #[.pointer (some ⟨b, 0, none⟩)] w fun e w' => e = .returned (.string (str l)) ∧ Below b w w' := by
  have hlt := h.lt
  obtain ⟨p, v, _, hbk, hown⟩ := h
  rcases hown.2 with ⟨rfl, hl0⟩ | ⟨g, cap, cur, rfl, hbg, hg, hnc, hcm, hcs, htake⟩
  · have hl : l = [] := List.eq_nil_of_length_eq_zero hl0
    subst hl
    have hUS : ∀ (W : World) (q : Option Addr), (Builtin.unsafeString_ #[107, 3] 9 #[.pointer q, .int .i64 0]).run Tryd.prog W = .ok (.string .empty) W := fun W q => Lib.run_unsafeString_none W _ _ _ q
    have c1 : w.drew.cell? ⟨b, 1, none⟩ = some (.slice none 0 0) := by
      have : w.drew.heap[b]? = some (.cells #[p, .slice none 0 0] T (0, 0)) := hbk
      rw [Lib.cell_of_heap this]; rfl
    have hSD : (Builtin.unsafeSliceData_ #[71] 107 #[.slice none 0 0]).run Tryd.prog w.drew = .ok (.pointer none) w.drew := rfl
    clear hbk hown
    go_enter Tryd.func73, Tryd.ntmps73
    go_wp2_with fail
    go_region
    all_goals (go_wp2_with fail; go_ret; exact ⟨rfl, Below.drew (Below.refl b w)⟩)
  · cases l with
    | nil =>
      have hUS : ∀ (W : World) (q : Option Addr), (Builtin.unsafeString_ #[107, 3] 9 #[.pointer q, .int .i64 0]).run Tryd.prog W = .ok (.string .empty) W := fun W q => Lib.run_unsafeString_none W _ _ _ q
      have c1 : w.drew.cell? ⟨b, 1, none⟩ = some (.slice (some ⟨g, 0, none⟩) 0 cap) := by
        have : w.drew.heap[b]? = some (.cells #[p, .slice (some ⟨g, 0, none⟩) 0 cap] T (0, 0)) := hbk
        rw [Lib.cell_of_heap this]; rfl
      by_cases hc0 : cap = 0
      · subst hc0
        have hSD : (Builtin.unsafeSliceData_ #[71] 107 #[.slice (some ⟨g, 0, none⟩) 0 0]).run Tryd.prog w.drew = .ok (.pointer (some ⟨w.drew.heap.size, 0, none⟩)) (w.drew.alloc (.view ⟨g, 0, none⟩ 5)) :=
          Lib.run_unsafeSliceData_zero w.drew _ _ 5 Tryd.underlying107 ⟨g, 0, none⟩ 0 (5, cur.size) (by have hg' : w.drew.heap[g]? = some (.cells cur 5 (0, 0)) := hg; simp [World.shape?, hg'])
        have c2 : (w.drew.alloc (.view ⟨g, 0, none⟩ 5)).cell? ⟨b, 1, none⟩ = some (.slice (some ⟨g, 0, none⟩) 0 0) := by
          have : (w.drew.alloc (.view ⟨g, 0, none⟩ 5)).heap[b]? = _ := (Lib.alloc_old w.drew _ b hlt).trans hbk
          rw [Lib.cell_of_heap this]; rfl
        have c3 : (w.alloc (.view ⟨g, 0, none⟩ 5)).drew.cell? ⟨b, 1, none⟩ = some (.slice (some ⟨g, 0, none⟩) 0 0) := c2
        have c0 : w.cell? ⟨b, 1, none⟩ = some (.slice (some ⟨g, 0, none⟩) 0 0) := c1
        clear hbk hown hg hcs htake hcm hnc
        go_enter Tryd.func73, Tryd.ntmps73
        go_wp2_with fail
        go_region
        all_goals (go_wp2_with fail; go_ret; exact ⟨rfl, (Below.drew (Below.refl b w)).alloc (Nat.le_of_lt hlt) _⟩)
      · have hSD : (Builtin.unsafeSliceData_ #[71] 107 #[.slice (some ⟨g, 0, none⟩) 0 cap]).run Tryd.prog w.drew = .ok (.pointer (some ⟨g, 0, none⟩)) w.drew :=
          Lib.run_unsafeSliceData_row _ _ _ _ _ _ hc0
        clear hc0 hbk hown hg hcs htake hcm hnc
        go_enter Tryd.func73, Tryd.ntmps73
        go_wp2_with fail
        go_region
        all_goals (go_wp2_with fail; go_ret; exact ⟨rfl, Below.drew (Below.refl b w)⟩)
    | cons x r =>
      have h0 : x :: r ≠ [] := by simp
      generalize x :: r = l at *
      have hl0 : l.length ≠ 0 := by simpa using h0
      have c1 : w.drew.cell? ⟨b, 1, none⟩ = some (.slice (some ⟨g, 0, none⟩) l.length cap) := by
        have : w.drew.heap[b]? = some (.cells #[p, .slice (some ⟨g, 0, none⟩) l.length cap] T (0, 0)) := hbk
        rw [Lib.cell_of_heap this]; rfl
      have hSD : (Builtin.unsafeSliceData_ #[71] 107 #[.slice (some ⟨g, 0, none⟩) l.length cap]).run Tryd.prog w.drew = .ok (.pointer (some ⟨g, 0, none⟩)) w.drew :=
        Lib.run_unsafeSliceData_row _ _ _ _ _ _ (by omega)
      have hUS : (Builtin.unsafeString_ #[107, 3] 9 #[.pointer (some ⟨g, 0, none⟩), .int .i64 l.length]).run Tryd.prog w.drew = .ok (.string ⟨l.toArray⟩) (w.drew.freeze ⟨g, 0, none⟩ l.length) := by
        refine Lib.run_unsafeString_row w.drew 107 3 9 5 Tryd.underlying107 Tryd.cells_u8b g cur.size (by have hg' : w.drew.heap[g]? = some (.cells cur 5 (0, 0)) := hg; simp [World.shape?, hg']) l h0 (by omega) (by unfold maxLen at hcm; omega) ?_
        intro j x hx
        have := hown.cells (g := g) rfl j (.int .u8 x.toNat) (by simp [encB, hx])
        exact this
      clear hbk hown hg hcs htake hcm hnc hl0 h0
      go_enter Tryd.func73, Tryd.ntmps73
      go_wp2_with fail
      go_region
      all_goals (go_wp2_with fail; go_ret; exact ⟨rfl, Lib.below_freeze (Below.drew (Below.refl b w)) (p := ⟨g, 0, none⟩) hbg _⟩)
end Go.Proofs.YteoghoaggpbkpaaDoor
