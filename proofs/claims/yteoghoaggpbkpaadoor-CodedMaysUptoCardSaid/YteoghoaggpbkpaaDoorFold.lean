/- Some expressions, two by two. -/
import Derived.Test.YteoghoaggpbkpaaDoorBack
import Derived.Test.YteoghoaggpbkpaaDoorSet1
import Derived.Test.YteoghoaggpbkpaaDoorRexE
namespace Go.Proofs.YteoghoaggpbkpaaDoor
open Go.RowKit Go.Shelf
set_option linter.unusedVariables false
set_option linter.unusedSimpArgs false
attribute [local go_sem] Oper.semAt_some

/-- a value that is an expression -/
def IsRe (ok : Nat → Prop) (w : World) (t : Re) (v : Value) : Prop := ∃ h ks A c, t = .mk h ks ∧ ks.length ≤ c ∧ v = reV h A ks.length c ∧ InRow RE ok w ks A 0
def RePost (ok : Nat → Prop) (t : Re) (w : World) (e : Ending) (w' : World) : Prop := ∃ v, e = .returned v ∧ IsRe (fun b => ok b ∨ w.heap.size ≤ b) w' t v ∧ Below w.heap.size w w'

/-- some, two by two -/
def foldT (kd nn : UInt8) : List Re → Re
  | [] => .mk ⟨nn, S4.zero⟩ []
  | [t] => t
  | t :: u :: ts => .mk ⟨kd, S4.zero⟩ [t, foldT kd nn (u :: ts)]
def foldAcc (kd : UInt8) (z : Re) (ts : List Re) : Re := ts.foldl (fun o t => .mk ⟨kd, S4.zero⟩ [t, o]) z
theorem foldT_acc (kd nn : UInt8) (z : Re) : ∀ ts : List Re, foldT kd nn (ts ++ [z]) = foldAcc kd z ts.reverse
  | [] => rfl
  | [t] => rfl
  | t :: u :: ts => by
    have := foldT_acc kd nn z (u :: ts)
    simp only [List.cons_append] at this ⊢
    rw [foldT, this]
    simp [foldAcc]

abbrev reA (h : RH) (A : Option Addr) (n c : Nat) : Array Value := #[.int .u8 (h.k.toNat : Int), .int .u64 (h.s.a.toNat : Int), .int .u64 (h.s.b.toNat : Int), .int .u64 (h.s.c.toNat : Int), .int .u64 (h.s.d.toNat : Int), .slice A n c]
/-- a variable that holds an expression, which leads to neither its block nor the result's -/
def OutAt (P : Nat → Prop) (W : World) (b b' : Nat) (t : Re) : Prop := ∃ h ks A c, t = .mk h ks ∧ ks.length ≤ c ∧ W.heap[b]? = some (.cells (reA h A ks.length c) 42 (0, 0)) ∧ InRow RE (fun x => P x ∧ x ≠ b ∧ x ≠ b') W ks A 0
theorem re_cells {w : World} {b : Nat} {v0 v1 v2 v3 v4 v5 : Value} {t : TypeId} (h : w.heap[b]? = some (.cells #[v0, v1, v2, v3, v4, v5] t (0, 0))) :
    (w.cell? ⟨b, 0, none⟩ = some v0 ∧ w.cell? ⟨b, 1, none⟩ = some v1 ∧ w.cell? ⟨b, 2, none⟩ = some v2 ∧ w.cell? ⟨b, 3, none⟩ = some v3 ∧ w.cell? ⟨b, 4, none⟩ = some v4 ∧ w.cell? ⟨b, 5, none⟩ = some v5) ∧
    w.frozen? ⟨b, 0, none⟩ = false ∧ w.frozen? ⟨b, 1, none⟩ = false ∧ w.frozen? ⟨b, 2, none⟩ = false ∧ w.frozen? ⟨b, 3, none⟩ = false ∧ w.frozen? ⟨b, 4, none⟩ = false ∧ w.frozen? ⟨b, 5, none⟩ = false := by
  refine ⟨⟨?_, ?_, ?_, ?_, ?_, ?_⟩, ?_, ?_, ?_, ?_, ?_, ?_⟩ <;> simp [World.cell?, World.frozen?, h]
theorem six_setCells {w : World} {b : Nat} {v0 v1 v2 v3 v4 v5 u0 u1 u2 u3 u4 u5 : Value} {t : TypeId} (h : w.heap[b]? = some (.cells #[v0, v1, v2, v3, v4, v5] t (0, 0))) :
    ((((((w.setCell ⟨b, 0, none⟩ u0).setCell ⟨b, 1, none⟩ u1).setCell ⟨b, 2, none⟩ u2).setCell ⟨b, 3, none⟩ u3).setCell ⟨b, 4, none⟩ u4).setCell ⟨b, 5, none⟩ u5).heap[b]? = some (.cells #[u0, u1, u2, u3, u4, u5] t (0, 0)) := by
  simp [World.setCell, Array.getElem?_modify, h]
theorem six_other {w : World} {b k : Nat} {u0 u1 u2 u3 u4 u5 : Value} (hk : k ≠ b) :
    ((((((w.setCell ⟨b, 0, none⟩ u0).setCell ⟨b, 1, none⟩ u1).setCell ⟨b, 2, none⟩ u2).setCell ⟨b, 3, none⟩ u3).setCell ⟨b, 4, none⟩ u4).setCell ⟨b, 5, none⟩ u5).heap[k]? = w.heap[k]? := by
  rw [Below.heap_setCell _ _ _ _ hk, Below.heap_setCell _ _ _ _ hk, Below.heap_setCell _ _ _ _ hk, Below.heap_setCell _ _ _ _ hk, Below.heap_setCell _ _ _ _ hk, Below.heap_setCell _ _ _ _ hk]
theorem six_below {w x : World} {b B : Nat} {u0 u1 u2 u3 u4 u5 : Value} (hb : Below B w x) (hB : B ≤ b) :
    Below B w ((((((x.setCell ⟨b, 0, none⟩ u0).setCell ⟨b, 1, none⟩ u1).setCell ⟨b, 2, none⟩ u2).setCell ⟨b, 3, none⟩ u3).setCell ⟨b, 4, none⟩ u4).setCell ⟨b, 5, none⟩ u5) :=
  (((((hb.setCell hB _).setCell hB _).setCell hB _).setCell hB _).setCell hB _).setCell hB _
theorem cell_heap {w : World} {b : Nat} {cs : Array Value} {t : TypeId} (h : w.heap[b]? = some (.cells cs t (0, 0))) (j : Nat) : w.cell? (Addr.add ⟨b, 0, none⟩ j) = cs[j]? := by
  unfold Addr.add
  split
  · rename_i h0; subst h0; simp [World.cell?, h]
  · simp [World.cell?, h]

theorem outAt_own {P : Nat → Prop} {b b' : Nat} {β : Type} (f : β → Re) : Own (fun s W => OutAt P W b b' (f s)) := by
  rintro s X Y row ⟨h, ks, A, c, e, hc, hh, hr⟩ hg hrow
  refine ⟨h, ks, A, c, e, hc, (grownBy_keeps_cells hg hrow hh rfl).trans hh, hr.keep (fun _ h => h) fun a v _ hv => cell_kept hv hg hrow⟩
theorem OutAt.alloc {P : Nat → Prop} {W : World} {b b' : Nat} {t : Re} (h : OutAt P W b b' t) (o : Obj) : OutAt P (W.alloc o) b b' t :=
  (Own.from (outAt_own (fun (_ : Unit) => t)) 0).alloc (s := ()) o h
theorem heap_keep {W : World} {b : Nat} {x : Obj} (h : W.heap[b]? = some x) (o : Obj) : (W.alloc o).heap[b]? = some x :=
  (Below.heap_alloc W o b (lt_of_block h)).trans h
/-- a round: two by two -/
theorem out_step {P : Nat → Prop} {W : World} {b b' : Nat} {kd : UInt8} {h' h2 : RH} {ks' ks2 : List Re} {A' A2 : Option Addr} {c' c2 : Nat} {x : Array Value}
    (hb : W.heap[b]? = some (.cells (reA h2 A2 ks2.length c2) 42 (0, 0))) (hb' : b' < W.heap.size) (hP : P W.heap.size) (hc' : ks'.length ≤ c') (hc2 : ks2.length ≤ c2)
    (hr' : InRow RE (fun x => P x ∧ x ≠ b ∧ x ≠ b') W ks' A' 0) (hr2 : InRow RE (fun x => P x ∧ x ≠ b ∧ x ≠ b') W ks2 A2 0) (hx : x = reA h' A' ks'.length c' ++ reA h2 A2 ks2.length c2) :
    OutAt P (((((((W.alloc (.cells x 42)).setCell ⟨b, 0, none⟩ (.int .u8 (kd.toNat : Int))).setCell ⟨b, 1, none⟩ (.int .u64 0)).setCell ⟨b, 2, none⟩ (.int .u64 0)).setCell ⟨b, 3, none⟩ (.int .u64 0)).setCell ⟨b, 4, none⟩ (.int .u64 0)).setCell ⟨b, 5, none⟩ (.slice (some ⟨W.heap.size, 0, none⟩) 2 2))
      b b' (.mk ⟨kd, S4.zero⟩ [.mk h' ks', .mk h2 ks2]) := by
  have hblt := lt_of_block hb
  have h1 := six_setCells (u0 := .int .u8 (kd.toNat : Int)) (u1 := .int .u64 0) (u2 := .int .u64 0) (u3 := .int .u64 0) (u4 := .int .u64 0) (u5 := .slice (some ⟨W.heap.size, 0, none⟩) 2 2) (heap_keep hb (.cells x 42))
  have h2' := (six_other (w := W.alloc (.cells x 42)) (b := b) (k := W.heap.size) (u0 := .int .u8 (kd.toNat : Int)) (u1 := .int .u64 0) (u2 := .int .u64 0) (u3 := .int .u64 0) (u4 := .int .u64 0) (u5 := .slice (some ⟨W.heap.size, 0, none⟩) 2 2) (by omega)).trans (World.alloc_heap_new W _)
  have hk : ∀ (a : Addr) (v : Value), (P a.block ∧ a.block ≠ b ∧ a.block ≠ b') → W.cell? a = some v → (((((((W.alloc (.cells x 42)).setCell ⟨b, 0, none⟩ (.int .u8 (kd.toNat : Int))).setCell ⟨b, 1, none⟩ (.int .u64 0)).setCell ⟨b, 2, none⟩ (.int .u64 0)).setCell ⟨b, 3, none⟩ (.int .u64 0)).setCell ⟨b, 4, none⟩ (.int .u64 0)).setCell ⟨b, 5, none⟩ (.slice (some ⟨W.heap.size, 0, none⟩) 2 2)).cell? a = some v := by
    intro a v ha hv
    exact (World.cell?_of_block ((six_other ha.2.1).trans (Below.heap_alloc W _ _ (World.block_lt_of_cell? _ _ hv)))).trans hv
  generalize ((((((W.alloc (.cells x 42)).setCell ⟨b, 0, none⟩ (.int .u8 (kd.toNat : Int))).setCell ⟨b, 1, none⟩ (.int .u64 0)).setCell ⟨b, 2, none⟩ (.int .u64 0)).setCell ⟨b, 3, none⟩ (.int .u64 0)).setCell ⟨b, 4, none⟩ (.int .u64 0)).setCell ⟨b, 5, none⟩ (.slice (some ⟨W.heap.size, 0, none⟩) 2 2) = Y at *
  refine ⟨⟨kd, S4.zero⟩, [.mk h' ks', .mk h2 ks2], some ⟨W.heap.size, 0, none⟩, 2, rfl, Nat.le_refl _, h1, ?_⟩
  have hn1 : W.heap.size ≠ b := by omega
  have hn2 : W.heap.size ≠ b' := by omega
  simp only [InRow, InT]
  refine ⟨⟨_, RH.cells h' ++ [.slice A' ks'.length c'], rfl, ⟨hP, hn1, hn2⟩, fun j u hu => ?_, A', c', rfl, hc', hr'.keep (fun _ h => h) hk⟩, ⟨_, RH.cells h2 ++ [.slice A2 ks2.length c2], rfl, ⟨hP, hn1, hn2⟩, fun j u hu => ?_, A2, c2, rfl, hc2, hr2.keep (fun _ h => h) hk⟩, trivial⟩
  · rw [cell_heap h2', hx, Array.getElem?_append]
    have hj : j < 6 := by
      rcases Nat.lt_or_ge j 6 with h | h
      · exact h
      · rw [List.getElem?_eq_none (by simpa [RH.cells] using h)] at hu; cases hu
    rw [if_pos (by simpa using hj), ← hu]
    simp [RH.cells]
  · rw [cell_heap h2', hx, Array.getElem?_append, if_neg (by simp [RE]), ← hu]
    simp [RH.cells, RE]
end Go.Proofs.YteoghoaggpbkpaaDoor
