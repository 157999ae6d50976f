/- Whether two expressions are the same, as the document has it. Whether two expressions are the same. Some, two by two; a text's bytes: as the document has it. What a coded expression stands for, as the document has it. What a coded expression stands for. Whether two stand for the same. -/
import Derived.Test.YteokbmngebckjaaBa
import Derived.StillTailTactics
import Derived.Test.YteokbmngebckjaaBd
import Derived.Deep.RegionHeld3
import Derived.Test.YteokbmngebckjaaBb
import Derived.Test.YteokbmngebckjaaBc
import Derived.Deep.RegionLaw
import Derived.Deep.CutRange
import Derived.Deep.RegionWith
namespace Go.Proofs.Yteokbmngebckjaa
open Go.RowKit
set_option linter.unusedVariables false
set_option linter.unusedSimpArgs false

mutual
def sameT : Re → Re → Bool
  | .mk h ks, .mk h2 ks2 => decide (h.k = h2.k) && decide (h.s = h2.s) && sames ks ks2
def sames : List Re → List Re → Bool
  | [], [] => true
  | x :: xs, y :: ys => sameT x y && sames xs ys
  | _, _ => false
end
mutual
theorem sameT_eq : ∀ a b : Re, sameT a b = true ↔ a = b
  | .mk h ks, .mk h2 ks2 => by
    simp only [sameT, Bool.and_eq_true, decide_eq_true_eq, sames_eq ks ks2]
    constructor
    · rintro ⟨⟨e1, e2⟩, rfl⟩
      cases h; cases h2
      simp only at e1 e2
      subst e1 e2
      rfl
    · intro e
      cases e
      exact ⟨⟨rfl, rfl⟩, rfl⟩
theorem sames_eq : ∀ xs ys : List Re, sames xs ys = true ↔ xs = ys
  | [], [] => by simp [sames]
  | [], y :: ys => by simp [sames]
  | x :: xs, [] => by simp [sames]
  | x :: xs, y :: ys => by simp only [sames, Bool.and_eq_true, sameT_eq x y, sames_eq xs ys, List.cons.injEq]
end
theorem sameT_refl (a : Re) : sameT a a = true := (sameT_eq a a).2 rfl
theorem sameT_comm (a b : Re) : sameT a b = sameT b a := by
  rw [Bool.eq_iff_iff, sameT_eq, sameT_eq]
  exact eq_comm
theorem sames_len {xs ys : List Re} (h : xs.length ≠ ys.length) : sames xs ys = false := by
  cases hs : sames xs ys with
  | false => rfl
  | true => rw [sames_eq] at hs; subst hs; exact absurd rfl h
theorem sames_no {xs ys : List Re} {k : Nat} {x y : Re} (hx : xs[k]? = some x) (hy : ys[k]? = some y) (h : sameT x y = false) : sames xs ys = false := by
  cases hs : sames xs ys with
  | false => rfl
  | true =>
    rw [sames_eq] at hs
    subst hs
    rw [hx] at hy
    cases hy
    rw [sameT_refl] at h
    cases h
theorem sames_yes {xs ys : List Re} (hl : xs.length = ys.length) (h : ∀ (k : Nat) (x y : Re), k < xs.length → xs[k]? = some x → ys[k]? = some y → sameT x y = true) : sames xs ys = true := by
  rw [sames_eq]
  apply List.ext_getElem hl
  intro i h1 h2
  exact (sameT_eq _ _).1 (h i xs[i] ys[i] h1 (by simp [h1]) (by simp [h2]))

theorem re_at_box {w1 : World} {b : Nat} {v0 v1 v2 v3 v4 v5 : Value} {t : TypeId} (h : w1.heap[b]? = some (.cells #[v0, v1, v2, v3, v4, v5] t (0, 0))) :
    w1.cell? ⟨b, 0, none⟩ = some v0 ∧ w1.cell? ⟨b, 1, none⟩ = some v1 ∧ w1.cell? ⟨b, 2, none⟩ = some v2 ∧ w1.cell? ⟨b, 3, none⟩ = some v3 ∧ w1.cell? ⟨b, 4, none⟩ = some v4 ∧ w1.cell? ⟨b, 5, none⟩ = some v5 := by
  refine ⟨?_, ?_, ?_, ?_, ?_, ?_⟩ <;> simp [World.cell?, h]
theorem two_new {w : World} (o1 o2 : Obj) : ((w.alloc o1).alloc o2).heap[w.heap.size]? = some o1 ∧ ((w.alloc o1).alloc o2).heap[w.heap.size + 1]? = some o2 := by
  refine ⟨(Below.heap_alloc _ _ _ (by simp)).trans (heap_alloc_new w o1), ?_⟩
  have := heap_alloc_new (w.alloc o1) o2
  simpa using this

end Go.Proofs.Yteokbmngebckjaa
namespace Go.Proofs.Yteokbmngebckjaa
open Go.RowKit
set_option linter.unusedVariables false
set_option linter.unusedSimpArgs false

end Go.Proofs.Yteokbmngebckjaa
namespace Go.Proofs.Yteokbmngebckjaa
open Go.RowKit
set_option linter.unusedVariables false
set_option linter.unusedSimpArgs false

theorem InRow.shift {α : Type} {E : Enc α} {ok : Nat → Prop} {w : World} {ad : Addr} : ∀ {ts : List (T α)} (n i : Nat), InRow E ok w ts (some ad) (n + i) → InRow E ok w ts (some (ad.add (n * (E.sz + 1)))) i
  | [], n, i, _ => by simp [InRow]
  | t :: ts, n, i, h => by
    simp only [InRow] at h ⊢
    obtain ⟨⟨ad', cs, e, ho, hc, ht⟩, hr⟩ := h
    cases e
    refine ⟨⟨_, cs, rfl, ?_, fun j u hu => ?_, ht⟩, InRow.shift n (i + 1) (by rwa [show n + (i + 1) = n + i + 1 by omega])⟩
    · have : (ad.add (n * (E.sz + 1))).block = ad.block := by unfold Addr.add; split <;> rfl
      rw [this]; exact ho
    · rw [add_add_, ← hc j u hu]
      congr 2
      rw [Nat.add_mul]; omega
theorem InRow.tail {α : Type} {E : Enc α} {ok : Nat → Prop} {w : World} {ad : Addr} {t : T α} {ts : List (T α)} (h : InRow E ok w (t :: ts) (some ad) 0) : InRow E ok w ts (some (ad.add (E.sz + 1))) 0 := by
  simp only [InRow] at h
  have := InRow.shift 1 0 h.2
  rwa [Nat.one_mul] at this

/-- the result is laid into its variable, which nothing leads to -/
theorem res_post {ok P : Nat → Prop} {w w1 : World} {t : Re} {h : RH} {ks : List Re} {A : Option Addr} {c : Nat} (ht : t = .mk h ks) (hc : ks.length ≤ c) (hr1 : InRow RE P w1 ks A 0) (hP : ∀ x, P x → (ok x ∨ w.heap.size ≤ x) ∧ x ≠ w.heap.size) (hb2 : Below w.heap.size w w1) :
    RePost ok t w (.returned (reV h A ks.length c)) ((((((w1.setCell ⟨w.heap.size, 0, none⟩ (.int .u8 (h.k.toNat : Int))).setCell ⟨w.heap.size, 1, none⟩ (.int .u64 (h.s.a.toNat : Int))).setCell ⟨w.heap.size, 2, none⟩ (.int .u64 (h.s.b.toNat : Int))).setCell ⟨w.heap.size, 3, none⟩ (.int .u64 (h.s.c.toNat : Int))).setCell ⟨w.heap.size, 4, none⟩ (.int .u64 (h.s.d.toNat : Int))).setCell ⟨w.heap.size, 5, none⟩ (.slice A ks.length c)) :=
  ⟨_, rfl, ⟨h, ks, A, c, ht, hc, rfl, hr1.keep (fun b hb => (hP b hb).1) fun a v ha hv => (World.cell?_of_block (six_other (hP _ ha).2)).trans hv⟩, six_below hb2 (Nat.le_refl _)⟩

/-- what a call leaves, said of an elder world -/
def RePostAt (P : Nat → Prop) (t : Re) (W : World) (e : Ending) (w' : World) : Prop := ∃ h ks A c, e = .returned (reV h A ks.length c) ∧ t = .mk h ks ∧ ks.length ≤ c ∧ InRow RE P w' ks A 0 ∧ Below W.heap.size W w'
theorem RePost.at_ {ok : Nat → Prop} {t : Re} {W w : World} {e : Ending} {w' : World} (hb : Below W.heap.size W w) (h : RePost ok t w e w') : RePostAt (fun b => ok b ∨ W.heap.size ≤ b) t W e w' := by
  obtain ⟨v, rfl, ⟨h, ks, A, c, ht, hc, rfl, hr⟩, hb1⟩ := h
  refine ⟨h, ks, A, c, rfl, ht, hc, hr.weak fun b hb' => ?_, below_from hb hb1⟩
  rcases hb' with hb' | hb'
  · exact .inl hb'
  · exact .inr (Nat.le_trans hb.size hb')

end Go.Proofs.Yteokbmngebckjaa
namespace Go.Proofs.Yteokbmngebckjaa
open Go.RowKit
set_option linter.unusedVariables false
set_option linter.unusedSimpArgs false

mutual
/-- what a coded expression stands for -/
def bareT : Co → Re
  | .mk h ks => if h.k = 5 then foldT 5 1 (bareTs ks) else .mk ⟨h.k, h.s⟩ (bareTs ks)
def bareTs : List Co → List Re
  | [] => []
  | t :: ts => bareT t :: bareTs ts
end
theorem bareTs_map : ∀ ts : List Co, bareTs ts = ts.map bareT
  | [] => rfl
  | t :: ts => by simp only [bareTs, List.map_cons, bareTs_map ts]
theorem bareTs_take {ks : List Co} {k : Nat} {t : Co} (h : ks[k]? = some t) : bareTs (ks.take (k + 1)) = bareTs (ks.take k) ++ [bareT t] := by
  rw [bareTs_map, bareTs_map, List.take_add_one, h]
  simp
theorem bareTs_length (ks : List Co) : (bareTs ks).length = ks.length := by rw [bareTs_map, List.length_map]
/-- a value that is an expression, in new blocks -/
def ReNew (t : Re) (w : World) (e : Ending) (w' : World) : Prop := ∃ h ks A c, e = .returned (reV h A ks.length c) ∧ t = .mk h ks ∧ ks.length ≤ c ∧ InRow RE (fun x => w.heap.size ≤ x) w' ks A 0 ∧ Below w.heap.size w w'
theorem re_srcJ {P : Nat → Prop} {w : World} {h : RH} {ks : List Re} {A : Option Addr} {c : Nat} (hc : ks.length ≤ c) (hr : InRow RE P w ks A 0) : ∀ (k : Nat) (t : Re), [T.mk h ks][k]? = some t → ∃ d, (∀ j u, d[j]? = some u → (reA h A ks.length c).toList[k * 6 + j]? = some u) ∧ InT RE P w t d := by
  intro k t ht
  cases k with
  | succ k => simp at ht
  | zero =>
    simp at ht
    subst ht
    refine ⟨RH.cells h ++ [.slice A ks.length c], fun j u hu => by simpa [RH.cells] using hu, ?_⟩
    simp only [InT]
    exact ⟨A, c, rfl, hc, hr⟩
theorem own_inR {ok : Nat → Prop} {w : World} {base : Nat} {e : TypeId} {v : Value} {ts : List Re} (h : OwnT RE ok w base e v ts) {g : Nat} (hv : v.ownBlock = some g) : base ≤ g ∧ g < w.heap.size := by
  obtain ⟨cs, ho⟩ := h.own
  exact ho.lt g hv
abbrev reZJ : Array Value := #[.int .u8 0, .int .u64 0, .int .u64 0, .int .u64 0, .int .u64 0, .slice none 0 0]
theorem row_sixJ {w : World} {ok : Nat → Prop} {ks : List Re} {A : Option Addr} {i : Nat} {b : Nat} {u0 u1 u2 u3 u4 u5 : Value} (h : InRow RE ok w ks A i) (hp : ∀ x, ok x → x ≠ b) :
    InRow RE ok ((((((w.setCell ⟨b, 0, none⟩ u0).setCell ⟨b, 1, none⟩ u1).setCell ⟨b, 2, none⟩ u2).setCell ⟨b, 3, none⟩ u3).setCell ⟨b, 4, none⟩ u4).setCell ⟨b, 5, none⟩ u5) ks A i :=
  h.keep (fun _ h => h) fun a u ha hu => (World.cell?_of_block (six_other (hp _ ha))).trans hu
end Go.Proofs.Yteokbmngebckjaa
namespace Go.Proofs.Yteokbmngebckjaa
open Go.RowKit
set_option linter.unusedVariables false
set_option linter.unusedSimpArgs false

/-- append to a row of the call's own, at a step of a region that draws its order -/
theorem step_app {P : Program} (w : World) {ops : Array Oper} {o : Oper} {a : Act} {K : Act → World → Prop} {Q : Exit → Act → World → Prop} {E : Prop} (hgd : o.guard = none) (s x : Operand) (t : TypeId)
    (ho : o.op = .call { callee := .builtin .append, args := #[s, x], argTypes := #[t, t] })
    (base : Nat) (e : TypeId) (z : Value) (size bytes : Nat) (ht : P.underlying t = some (.slice e))
    (hinfo : (P.info? e).map (fun i => (i.zero, i.size, i.bytes)) = some (some z, size, bytes)) (hzs : z.cells.size = size) (hsz : 0 < size)
    (v : Value) (n : Nat) (xs : List Value) (hs : a.eval s = v) (hown : w.ownsRow base e size v n xs)
    (A : Option Addr) (m c : Nat) (news : List Value) (hx : a.eval x = .slice A m c) (hr : Src w A m size news) (h1 : ∀ u ∈ news, u.oneCell' = true)
    (h63 : n + m ≤ maxLen) (hbytes : (n + m) * bytes ≤ 140737488355328) (hbase : base ≤ w.heap.size)
    (h : ∀ v' w', w'.ownsRow base e size v' (n + m) (xs ++ news) → w.grownBy w' v.ownBlock → (v'.ownBlock = v.ownBlock ∨ v'.ownBlock = some w.heap.size) → K (a.put o.dst v') w') :
    if Region.wanted o (yielded ops a.tmps) = true then Oper.wp P o a w K Q else E := by
  have hw : Region.wanted o (yielded ops a.tmps) = true := by simp [Region.wanted, hgd]
  rw [if_pos hw]
  obtain ⟨v', w', hr, h2, h3, h5⟩ := run_app (P := P) base t o.type e z size bytes ht hinfo hzs hsz v n xs hown A m c news hr h1 h63 hbytes hbase
  unfold Oper.wp execOp
  simp only [ho, resolve, invoke, builtin, Sem.run_bind, Sem.run_pure, Result.andThen_ok, List.map_toArray, List.map_cons, List.map_nil, hs, hx, hr]
  exact h v' w' h2 h3 h5
theorem set_five {w : World} {b : Nat} {v0 v1 v2 v3 v4 v5 u : Value} {t : TypeId} (h : w.heap[b]? = some (.cells #[v0, v1, v2, v3, v4, v5] t (0, 0))) : (w.setCell ⟨b, 5, none⟩ u).heap[b]? = some (.cells #[v0, v1, v2, v3, v4, u] t (0, 0)) := by
  simp [World.setCell, Array.getElem?_modify, h]
theorem set_grownK (w : World) (b : Nat) (o : Nat) (v : Value) : w.grownBy (w.setCell ⟨b, o, none⟩ v) (some b) :=
  ⟨rfl, rfl, rfl, by simp, fun k _ hr => Below.heap_setCell _ _ _ _ (by show k ≠ b; rintro rfl; exact hr rfl)⟩
theorem OwnT.grown_bK {ok : Nat → Prop} {w w' : World} {base b : Nat} {e : TypeId} {v : Value} {ts : List Re} (h : OwnT RE ok w base e v ts) (hg : w.grownBy w' (some b)) (hbb : b < base) (hok : ∀ x, ok x → x ≠ b) : OwnT RE ok w' base e v ts := by
  obtain ⟨h0, cs, ho, hk⟩ := h
  refine ⟨h0, cs, ho.kept hg ?_, fun k t ht => ?_⟩
  · cases hv : v.ownBlock with
    | none => exact .inl rfl
    | some g => exact .inr (by intro e; cases e; have := own_base ho _ hv; omega)
  · obtain ⟨c, h1, h2⟩ := hk k t ht
    exact ⟨c, h1, h2.grown hg fun x hx e => hok x hx (Option.some.inj e)⟩
theorem reA_one (h : RH) (A : Option Addr) (n c : Nat) : ∀ u ∈ (reA h A n c).toList, u.oneCell' = true := by
  intro u hu
  simp at hu
  rcases hu with rfl | rfl | rfl | rfl | rfl | rfl <;> rfl
/-- one more behind a row of the call's own -/
theorem bare_app {okk : Nat → Prop} {w1 w2 : World} {base : Nat} {o : Value} {ts : List Re} {tb : Re} {h2 : RH} {k2 : List Re} {A2 : Option Addr} {c2 : Nat} {e : TypeId}
    (HO : OwnT RE okk w1 base e o ts) (hok : ∀ x, okk x → x < w1.heap.size) (hz : Below w1.heap.size w1 w2) (e2 : tb = .mk h2 k2) (hc2 : k2.length ≤ c2) (hr2 : InRow RE (fun x => w1.heap.size ≤ x) w2 k2 A2 0) :
    ∃ cs0, (w2.alloc (.cells (reA h2 A2 k2.length c2) e)).ownsRow base e 6 o ts.length cs0 ∧ Src (w2.alloc (.cells (reA h2 A2 k2.length c2) e)) (some ⟨w2.heap.size, 0, none⟩) 1 6 (reA h2 A2 k2.length c2).toList ∧
      ∀ v5 w5, w5.ownsRow base e 6 v5 (ts.length + 1) (cs0 ++ (reA h2 A2 k2.length c2).toList) → (w2.alloc (.cells (reA h2 A2 k2.length c2) e)).grownBy w5 o.ownBlock → (v5.ownBlock = o.ownBlock ∨ v5.ownBlock = some (w2.alloc (.cells (reA h2 A2 k2.length c2) e)).heap.size) →
        OwnT RE (fun x => okk x ∨ (w1.heap.size ≤ x ∧ x < w2.heap.size)) w5 base e v5 (ts ++ [tb]) := by
  have hXb : Below w2.heap.size w2 (w2.alloc (.cells (reA h2 A2 k2.length c2) e)) := below_new (Below.refl _ _) _
  have ho5 : OwnT RE (fun x => okk x ∨ (w1.heap.size ≤ x ∧ x < w2.heap.size)) (w2.alloc (.cells (reA h2 A2 k2.length c2) e)) base e o ts := (HO.keep (below_from hz hXb)).narrow (fun x hx => .inl hx) fun x hx e => by
    rcases hx with hx | hx
    · exact HO.1 x hx e
    · have := own_inR HO e.symm; omega
  obtain ⟨h0, cs0, hown0, hk0⟩ := ho5
  refine ⟨cs0, hown0, new_src w2 1 6 (reA h2 A2 k2.length c2) e rfl, fun v5 w5 a b d => ?_⟩
  refine OwnT.app (ys := [tb]) h0 hown0 hk0 ?_ a b d (fun x hx => ?_)
  · rw [e2]
    exact re_srcJ hc2 ((hr2.there.below hXb).weak fun x hx => .inr hx)
  · rw [World.size_alloc]
    have := hz.size
    rcases hx with hx | hx
    · have := hok x hx; omega
    · omega
end Go.Proofs.Yteokbmngebckjaa
namespace Go.Proofs.Yteokbmngebckjaa
open Go.RowKit
set_option linter.unusedVariables false
set_option linter.unusedSimpArgs false

theorem co_two {P : Nat → Prop} {Y : World} {N : Nat} {t : TypeId} {h h2 : CH} {ks ks2 : List Co} {A A2 : Option Addr} {c c2 : Nat} {x : Array Value} (hN : Y.heap[N]? = some (.cells x t (0, 0))) (hx : x = coA h A ks.length c ++ coA h2 A2 ks2.length c2) (hP : P N)
    (hc : ks.length ≤ c) (hr : InRow CE P Y ks A 0) (hc2 : ks2.length ≤ c2) (hr2 : InRow CE P Y ks2 A2 0) : InRow CE P Y [.mk h ks, .mk h2 ks2] (some ⟨N, 0, none⟩) 0 := by
  simp only [InRow, InT]
  refine ⟨⟨_, CH.cells h ++ [.slice A ks.length c], rfl, hP, fun j u hu => ?_, A, c, rfl, hc, hr⟩, ⟨_, CH.cells h2 ++ [.slice A2 ks2.length c2], rfl, hP, fun j u hu => ?_, A2, c2, rfl, hc2, hr2⟩, trivial⟩
  · rw [cell_heap hN, hx, Array.getElem?_append]
    have hj : j < 7 := by
      rcases Nat.lt_or_ge j 7 with h | h
      · exact h
      · rw [List.getElem?_eq_none (by simpa [CH.cells] using h)] at hu; cases hu
    rw [if_pos (by simpa using hj), ← hu]
    simp [CH.cells]
  · rw [cell_heap hN, hx, Array.getElem?_append, if_neg (by simp [CE]), ← hu]
    simp [CH.cells, CE]
theorem fold_size : ∀ ts : List Re, (foldT 5 1 ts).size ≤ T.sizes ts + ts.length - 1 + (if ts = [] then 1 else 0)
  | [] => by simp [foldT, T.size, T.sizes]
  | [t] => by simp [foldT, T.sizes]
  | t :: u :: ts => by
    have ih := fold_size (u :: ts)
    simp only [foldT, T.size, T.sizes, List.length_cons] at ih ⊢
    simp at ih ⊢
    omega
mutual
theorem bare_size : ∀ t : Co, (bareT t).size + 1 ≤ 2 * t.size
  | .mk h ks => by
    have hk := bare_sizes ks
    simp only [bareT, T.size]
    split
    · have h1 := fold_size (bareTs ks)
      rw [bareTs_length] at h1
      split at h1
      · have : T.sizes (bareTs ks) = 0 := by rename_i e; rw [e]; rfl
        have hl : ks.length = 0 := by rename_i e; have := congrArg List.length e; rw [bareTs_length] at this; simpa using this
        omega
      · have hl : 0 < ks.length := by
          rcases ks with _ | ⟨a, l⟩
          · rename_i e; exact absurd rfl e
          · simp
        omega
    · simp only [T.size]; omega
theorem bare_sizes : ∀ ts : List Co, T.sizes (bareTs ts) + ts.length ≤ 2 * T.sizes ts
  | [] => by simp [bareTs, T.sizes]
  | t :: ts => by
    have h1 := bare_size t
    have h2 := bare_sizes ts
    simp only [bareTs, T.sizes, List.length_cons]; omega
end
def alikeB (a b : Co) : Bool := (mayC a && mayC b) && sameT (bareT a) (bareT b)
end Go.Proofs.Yteokbmngebckjaa
