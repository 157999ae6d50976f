/- Whether two expressions are the same, as the document has it. Whether two expressions are the same. Some, two by two; a text's bytes: as the document has it. What a coded expression stands for, as the document has it. What a coded expression stands for. Whether two stand for the same. Whether two coded expressions are the same, as the document has it. Whether two coded expressions are the same. -/
import Derived.Test.YtgdigbbfgpenpaaDoorBa
import Derived.StillTailTactics
import Derived.Test.YtgdigbbfgpenpaaDoorBd
import Derived.Deep.RegionHeld3
import Derived.Test.YtgdigbbfgpenpaaDoorBb
import Derived.Test.YtgdigbbfgpenpaaDoorBc
import Derived.Deep.RegionLaw
import Derived.Deep.CutRange
import Derived.Deep.RegionWith
namespace Go.Proofs.YtgdigbbfgpenpaaDoor
open Go.RowKit
set_option linter.unusedVariables false
set_option linter.unusedSimpArgs false

mutual
def sameT : Re → Re → Bool
  | .mk h ks, .mk h2 ks2 => decide (h.k = h2.k) && decide (h.s = h2.s) && sames ks ks2
def sames : List Re → List Re → Bool
  | [], [] => true
  | x :: xs, y :: ys => sameT x y && sames xs ys
  | _, _ => false
end
mutual
theorem sameT_eq : ∀ a b : Re, sameT a b = true ↔ a = b
  | .mk h ks, .mk h2 ks2 => by
    simp only [sameT, Bool.and_eq_true, decide_eq_true_eq, sames_eq ks ks2]
    constructor
    · rintro ⟨⟨e1, e2⟩, rfl⟩
      cases h; cases h2
      simp only at e1 e2
      subst e1 e2
      rfl
    · intro e
      cases e
      exact ⟨⟨rfl, rfl⟩, rfl⟩
theorem sames_eq : ∀ xs ys : List Re, sames xs ys = true ↔ xs = ys
  | [], [] => by simp [sames]
  | [], y :: ys => by simp [sames]
  | x :: xs, [] => by simp [sames]
  | x :: xs, y :: ys => by simp only [sames, Bool.and_eq_true, sameT_eq x y, sames_eq xs ys, List.cons.injEq]
end
theorem sameT_refl (a : Re) : sameT a a = true := (sameT_eq a a).2 rfl
theorem sameT_comm (a b : Re) : sameT a b = sameT b a := by
  rw [Bool.eq_iff_iff, sameT_eq, sameT_eq]
  exact eq_comm
theorem sames_len {xs ys : List Re} (h : xs.length ≠ ys.length) : sames xs ys = false := by
  cases hs : sames xs ys with
  | false => rfl
  | true => rw [sames_eq] at hs; subst hs; exact absurd rfl h
theorem sames_no {xs ys : List Re} {k : Nat} {x y : Re} (hx : xs[k]? = some x) (hy : ys[k]? = some y) (h : sameT x y = false) : sames xs ys = false := by
  cases hs : sames xs ys with
  | false => rfl
  | true =>
    rw [sames_eq] at hs
    subst hs
    rw [hx] at hy
    cases hy
    rw [sameT_refl] at h
    cases h
theorem sames_yes {xs ys : List Re} (hl : xs.length = ys.length) (h : ∀ (k : Nat) (x y : Re), k < xs.length → xs[k]? = some x → ys[k]? = some y → sameT x y = true) : sames xs ys = true := by
  rw [sames_eq]
  apply List.ext_getElem hl
  intro i h1 h2
  exact (sameT_eq _ _).1 (h i xs[i] ys[i] h1 (by simp [h1]) (by simp [h2]))

theorem re_at_box {w1 : World} {b : Nat} {v0 v1 v2 v3 v4 v5 : Value} {t : TypeId} (h : w1.heap[b]? = some (.cells #[v0, v1, v2, v3, v4, v5] t (0, 0))) :
    w1.cell? ⟨b, 0, none⟩ = some v0 ∧ w1.cell? ⟨b, 1, none⟩ = some v1 ∧ w1.cell? ⟨b, 2, none⟩ = some v2 ∧ w1.cell? ⟨b, 3, none⟩ = some v3 ∧ w1.cell? ⟨b, 4, none⟩ = some v4 ∧ w1.cell? ⟨b, 5, none⟩ = some v5 := by
  refine ⟨?_, ?_, ?_, ?_, ?_, ?_⟩ <;> simp [World.cell?, h]
theorem two_new {w : World} (o1 o2 : Obj) : ((w.alloc o1).alloc o2).heap[w.heap.size]? = some o1 ∧ ((w.alloc o1).alloc o2).heap[w.heap.size + 1]? = some o2 := by
  refine ⟨(Below.heap_alloc _ _ _ (by simp)).trans (heap_alloc_new w o1), ?_⟩
  have := heap_alloc_new (w.alloc o1) o2
  simpa using this

end Go.Proofs.YtgdigbbfgpenpaaDoor
namespace Go.Proofs.YtgdigbbfgpenpaaDoor
open Go.RowKit
set_option linter.unusedVariables false
set_option linter.unusedSimpArgs false

set_option maxHeartbeats 16000000 in
theorem equalFunc_any {ok : Nat → Prop} (ks ks2 : List Re) (A A2 : Option Addr) (c c2 : Nat) (w : World) (hl : ks.length ≤ 1000000000) (hl2 : ks2.length ≤ 1000000000) (hr : InRow RE ok w ks A 0) (hr2 : InRow RE ok w ks2 A2 0)
    (hcall : ∀ (h h2 : RH) (ls ls2 : List Re) (A A2 : Option Addr) (c c2 : Nat) (w1 : World), T.mk h ls ∈ ks → T.mk h2 ls2 ∈ ks2 → InRow RE ok w1 ls A 0 → InRow RE ok w1 ls2 A2 0 →
      Calls Tryd.prog 112 #[reV h A ls.length c, reV h2 A2 ls2.length c2] w1 fun e w' => e = .returned (.bool (sameT (.mk h ls) (.mk h2 ls2))) ∧ Below w1.heap.size w1 w') :
    Calls Tryd.prog 131 #[.slice A ks.length c, .slice A2 ks2.length c2, .func (.func 112) #[] #[]] w fun e w' => e = .returned (.bool (sames ks ks2)) ∧ Below w.heap.size w w' := by
  have HC := Lib.hid hcall
  clear hcall
  by_cases hlen : ks.length = ks2.length
  · have t2 : ((ks.length : Int) != (ks2.length : Int)) = false := by simp; omega
    have HL := Lib.hid hlen
    clear hlen
    go_enter Tryd.func131, Tryd.ntmps131
    go_wp2_with fail
    go_loopw [7, 17] (fun _ i wr => ∃ (k : Nat), k ≤ ks.length ∧ i = .int .i64 k ∧ Hid (∀ (j : Nat) (x y : Re), j < k → ks[j]? = some x → ks2[j]? = some y → sameT x y = true) ∧ Below w.heap.size w wr) (fun _ i _ => ks.length - (intOf i).toNat)
    case atStart => exact ⟨0, Nat.zero_le _, rfl, fun j x y hj => absurd hj (by omega), Below.refl _ _⟩
    case round =>
      obtain ⟨k, hk, rfl, HN, hb⟩ := hrel
      by_cases hlt : k < ks.length
      · have hlt2 : k < ks2.length := by have := HL.out; omega
        obtain ⟨t, ad, h3, ls, A3, c3, hA, hx, rfl, hc3, hr3, q0, q1, q2, q3, q4, q5⟩ := re_at (hr.below hb) hlt
        obtain ⟨t', ad', h4, ls4, A4, c4, hA', hx', rfl, hc4, hr4, p0, p1, p2, p3, p4, p5⟩ := re_at (hr2.below hb) hlt2
        subst hA hA'
        have hm1 := Lib.hid (List.mem_of_getElem? hx)
        have hm2 := Lib.hid (List.mem_of_getElem? hx')
        have HNo : Hid (sameT (.mk h3 ls) (.mk h4 ls4) = false → sames ks ks2 = false) := fun e => sames_no hx hx' e
        have HYes : Hid (sameT (.mk h3 ls) (.mk h4 ls4) = true → ∀ (j : Nat) (x y : Re), j < k + 1 → ks[j]? = some x → ks2[j]? = some y → sameT x y = true) := by
          intro e j x y hj ex ey
          rcases Nat.lt_or_ge j k with hjk | hjk
          · exact HN.out j x y hjk ex ey
          · have : j = k := by omega
            subst this
            rw [hx] at ex
            rw [hx'] at ey
            cases ex; cases ey
            exact e
        clear hx hx'
        have z0 := fun o => keep_cell (below_new (Below.refl _ wr) o) p0
        have z1 := fun o => keep_cell (below_new (Below.refl _ wr) o) p1
        have z2 := fun o => keep_cell (below_new (Below.refl _ wr) o) p2
        have z3 := fun o => keep_cell (below_new (Below.refl _ wr) o) p3
        have z4 := fun o => keep_cell (below_new (Below.refl _ wr) o) p4
        have z5 := fun o => keep_cell (below_new (Below.refl _ wr) o) p5
        have hb' := fun o1 o2 => below_new (below_new (Below.refl _ wr) o1) o2
        go_wp2_with fail
        refine (HC.out h3 h4 ls ls4 A3 A4 c3 c4 _ hm1.out hm2.out (hr3.below (hb' _ _)) (hr4.below (hb' _ _))).mono ?_
        rintro e w1 ⟨rfl, hb1⟩
        have hb2 : Below w.heap.size w w1 := below_from (below_from hb (hb' _ _)) hb1
        clear hb1 hr3 hr4 q0 q1 q2 q3 q4 q5 p0 p1 p2 p3 p4 p5 hb z0 z1 z2 z3 z4 z5 hb'
        generalize sameT (.mk h3 ls) (.mk h4 ls4) = b at *
        cases b with
        | false =>
          go_wp2_with fail
          go_ret
          exact ⟨by rw [HNo.out trivial]; rfl, hb2⟩
        | true =>
          go_wp2_with fail
          go_roundw
          case rel => exact ⟨k + 1, by omega, by go_num, HYes.out trivial, hb2⟩
          case measure => simp [intOf]; omega
      · have hkk : k = ks.length := by omega
        have HY : Hid (sames ks ks2 = true) := sames_yes HL.out (fun j x y hj => HN.out j x y (by omega))
        subst hkk
        have g : decide ((ks.length : Int) < (ks.length : Int)) = false := by simp
        clear hlt hk
        go_wp2_with fail
        go_ret
        exact ⟨by rw [HY.out]; rfl, hb⟩
  · have t2 : ((ks.length : Int) != (ks2.length : Int)) = true := by simp; omega
    have HF := Lib.hid (sames_len hlen)
    go_enter Tryd.func131, Tryd.ntmps131
    go_wp2_with fail
    go_ret
    exact ⟨by rw [HF.out]; rfl, Below.refl _ _⟩

set_option maxHeartbeats 16000000 in
theorem rexSame_upto (n : Nat) : ∀ (ok : Nat → Prop) (h h2 : RH) (ks ks2 : List Re) (A A2 : Option Addr) (c c2 : Nat) (w : World), 1 + T.sizes ks ≤ n → n ≤ 1000000000 → T.sizes ks2 ≤ 1000000000 → InRow RE ok w ks A 0 → InRow RE ok w ks2 A2 0 →
    Calls Tryd.prog 112 #[reV h A ks.length c, reV h2 A2 ks2.length c2] w fun e w' => e = .returned (.bool (sameT (.mk h ks) (.mk h2 ks2))) ∧ Below w.heap.size w w' := by
  induction n with
  | zero => intro ok h h2 ks ks2 A A2 c c2 w h0; omega
  | succ n ih =>
    intro ok h h2 ks ks2 A A2 c c2 w hn hm hm2 hr hr2
    have hl := T.length_le_sizes ks
    have hl2 := T.length_le_sizes ks2
    have hcall : ∀ (h h2 : RH) (ls ls2 : List Re) (A A2 : Option Addr) (c c2 : Nat) (w1 : World), T.mk h ls ∈ ks → T.mk h2 ls2 ∈ ks2 → InRow RE ok w1 ls A 0 → InRow RE ok w1 ls2 A2 0 →
      Calls Tryd.prog 112 #[reV h A ls.length c, reV h2 A2 ls2.length c2] w1 fun e w' => e = .returned (.bool (sameT (.mk h ls) (.mk h2 ls2))) ∧ Below w1.heap.size w1 w' := by
      intro h h2 ls ls2 A A2 c c2 w1 hx hy hr hr2
      have h1 := T.sizes_mem hx
      have h3 := T.sizes_mem hy
      simp only [T.size] at h1 h3
      exact ih ok h h2 ls ls2 A A2 c c2 w1 (by omega) (by omega) (by omega) hr hr2
    have HC := Lib.hid hcall
    clear hcall ih
    have HE : Hid (sameT (.mk h ks) (.mk h2 ks2) = (decide (h.k = h2.k) && decide (h.s = h2.s) && sames ks ks2)) := by unfold Hid; simp only [sameT]
    have hq := run_eql_set h.s h2.s
    have hkn : decide (h.k = h2.k) = decide (h.k.toNat = h2.k.toNat) := by
      rw [Bool.eq_iff_iff]; simp [UInt8.toNat_inj]
    rw [hkn] at HE
    clear hkn
    generalize decide (h.s = h2.s) = bs at *
    have hbW := fun o1 o2 => below_new (below_new (Below.refl _ w) o1) o2
    by_cases hk : h.k.toNat = h2.k.toNat
    · have t1 : ((h.k.toNat : Int) == (h2.k.toNat : Int)) = true := by simp; omega
      have HK : Hid (decide (h.k.toNat = h2.k.toNat) = true) := by unfold Hid; simp [hk]
      clear hk
      cases bs with
      | false =>
        go_enter Tryd.func112, Tryd.ntmps112
        go_wp2_with fail
        go_ret
        exact ⟨by rw [HE.out]; simp, hbW _ _⟩
      | true =>
        go_enter Tryd.func112, Tryd.ntmps112
        go_wp2_with fail
        refine (equalFunc_any ks ks2 A A2 c c2 _ (by omega) (by omega) (hr.below (hbW _ _)) (hr2.below (hbW _ _)) HC.out).mono ?_
        rintro e w1 ⟨rfl, hb1⟩
        have hb2 := below_from (hbW _ _) hb1
        clear hb1
        go_wp2_with fail
        go_ret
        exact ⟨by rw [HE.out, HK.out]; simp, hb2⟩
    · have t1 : ((h.k.toNat : Int) == (h2.k.toNat : Int)) = false := by simp; omega
      go_enter Tryd.func112, Tryd.ntmps112
      go_wp2_with fail
      go_ret
      exact ⟨by rw [HE.out]; simp [hk], hbW _ _⟩
end Go.Proofs.YtgdigbbfgpenpaaDoor
namespace Go.Proofs.YtgdigbbfgpenpaaDoor
open Go.RowKit
set_option linter.unusedVariables false
set_option linter.unusedSimpArgs false

theorem InRow.shift {α : Type} {E : Enc α} {ok : Nat → Prop} {w : World} {ad : Addr} : ∀ {ts : List (T α)} (n i : Nat), InRow E ok w ts (some ad) (n + i) → InRow E ok w ts (some (ad.add (n * (E.sz + 1)))) i
  | [], n, i, _ => by simp [InRow]
  | t :: ts, n, i, h => by
    simp only [InRow] at h ⊢
    obtain ⟨⟨ad', cs, e, ho, hc, ht⟩, hr⟩ := h
    cases e
    refine ⟨⟨_, cs, rfl, ?_, fun j u hu => ?_, ht⟩, InRow.shift n (i + 1) (by rwa [show n + (i + 1) = n + i + 1 by omega])⟩
    · have : (ad.add (n * (E.sz + 1))).block = ad.block := by unfold Addr.add; split <;> rfl
      rw [this]; exact ho
    · rw [add_add_, ← hc j u hu]
      congr 2
      rw [Nat.add_mul]; omega
theorem InRow.tail {α : Type} {E : Enc α} {ok : Nat → Prop} {w : World} {ad : Addr} {t : T α} {ts : List (T α)} (h : InRow E ok w (t :: ts) (some ad) 0) : InRow E ok w ts (some (ad.add (E.sz + 1))) 0 := by
  simp only [InRow] at h
  have := InRow.shift 1 0 h.2
  rwa [Nat.one_mul] at this

/-- the result is laid into its variable, which nothing leads to -/
theorem res_post {ok P : Nat → Prop} {w w1 : World} {t : Re} {h : RH} {ks : List Re} {A : Option Addr} {c : Nat} (ht : t = .mk h ks) (hc : ks.length ≤ c) (hr1 : InRow RE P w1 ks A 0) (hP : ∀ x, P x → (ok x ∨ w.heap.size ≤ x) ∧ x ≠ w.heap.size) (hb2 : Below w.heap.size w w1) :
    RePost ok t w (.returned (reV h A ks.length c)) ((((((w1.setCell ⟨w.heap.size, 0, none⟩ (.int .u8 (h.k.toNat : Int))).setCell ⟨w.heap.size, 1, none⟩ (.int .u64 (h.s.a.toNat : Int))).setCell ⟨w.heap.size, 2, none⟩ (.int .u64 (h.s.b.toNat : Int))).setCell ⟨w.heap.size, 3, none⟩ (.int .u64 (h.s.c.toNat : Int))).setCell ⟨w.heap.size, 4, none⟩ (.int .u64 (h.s.d.toNat : Int))).setCell ⟨w.heap.size, 5, none⟩ (.slice A ks.length c)) :=
  ⟨_, rfl, ⟨h, ks, A, c, ht, hc, rfl, hr1.keep (fun b hb => (hP b hb).1) fun a v ha hv => (World.cell?_of_block (six_other (hP _ ha).2)).trans hv⟩, six_below hb2 (Nat.le_refl _)⟩

/-- what a call leaves, said of an elder world -/
def RePostAt (P : Nat → Prop) (t : Re) (W : World) (e : Ending) (w' : World) : Prop := ∃ h ks A c, e = .returned (reV h A ks.length c) ∧ t = .mk h ks ∧ ks.length ≤ c ∧ InRow RE P w' ks A 0 ∧ Below W.heap.size W w'
theorem RePost.at_ {ok : Nat → Prop} {t : Re} {W w : World} {e : Ending} {w' : World} (hb : Below W.heap.size W w) (h : RePost ok t w e w') : RePostAt (fun b => ok b ∨ W.heap.size ≤ b) t W e w' := by
  obtain ⟨v, rfl, ⟨h, ks, A, c, ht, hc, rfl, hr⟩, hb1⟩ := h
  refine ⟨h, ks, A, c, rfl, ht, hc, hr.weak fun b hb' => ?_, below_from hb hb1⟩
  rcases hb' with hb' | hb'
  · exact .inl hb'
  · exact .inr (Nat.le_trans hb.size hb')

end Go.Proofs.YtgdigbbfgpenpaaDoor
namespace Go.Proofs.YtgdigbbfgpenpaaDoor
open Go.RowKit
set_option linter.unusedVariables false
set_option linter.unusedSimpArgs false

mutual
/-- what a coded expression stands for -/
def bareT : Co → Re
  | .mk h ks => if h.k = 5 then foldT 5 1 (bareTs ks) else .mk ⟨h.k, h.s⟩ (bareTs ks)
def bareTs : List Co → List Re
  | [] => []
  | t :: ts => bareT t :: bareTs ts
end
theorem bareTs_map : ∀ ts : List Co, bareTs ts = ts.map bareT
  | [] => rfl
  | t :: ts => by simp only [bareTs, List.map_cons, bareTs_map ts]
theorem bareTs_take {ks : List Co} {k : Nat} {t : Co} (h : ks[k]? = some t) : bareTs (ks.take (k + 1)) = bareTs (ks.take k) ++ [bareT t] := by
  rw [bareTs_map, bareTs_map, List.take_add_one, h]
  simp
theorem bareTs_length (ks : List Co) : (bareTs ks).length = ks.length := by rw [bareTs_map, List.length_map]
/-- a value that is an expression, in new blocks -/
def ReNew (t : Re) (w : World) (e : Ending) (w' : World) : Prop := ∃ h ks A c, e = .returned (reV h A ks.length c) ∧ t = .mk h ks ∧ ks.length ≤ c ∧ InRow RE (fun x => w.heap.size ≤ x) w' ks A 0 ∧ Below w.heap.size w w'
theorem re_srcJ {P : Nat → Prop} {w : World} {h : RH} {ks : List Re} {A : Option Addr} {c : Nat} (hc : ks.length ≤ c) (hr : InRow RE P w ks A 0) : ∀ (k : Nat) (t : Re), [T.mk h ks][k]? = some t → ∃ d, (∀ j u, d[j]? = some u → (reA h A ks.length c).toList[k * 6 + j]? = some u) ∧ InT RE P w t d := by
  intro k t ht
  cases k with
  | succ k => simp at ht
  | zero =>
    simp at ht
    subst ht
    refine ⟨RH.cells h ++ [.slice A ks.length c], fun j u hu => by simpa [RH.cells] using hu, ?_⟩
    simp only [InT]
    exact ⟨A, c, rfl, hc, hr⟩
theorem own_inR {ok : Nat → Prop} {w : World} {base : Nat} {e : TypeId} {v : Value} {ts : List Re} (h : OwnT RE ok w base e v ts) {g : Nat} (hv : v.ownBlock = some g) : base ≤ g ∧ g < w.heap.size := by
  obtain ⟨cs, ho⟩ := h.own
  exact ho.lt g hv
abbrev reZJ : Array Value := #[.int .u8 0, .int .u64 0, .int .u64 0, .int .u64 0, .int .u64 0, .slice none 0 0]
theorem row_sixJ {w : World} {ok : Nat → Prop} {ks : List Re} {A : Option Addr} {i : Nat} {b : Nat} {u0 u1 u2 u3 u4 u5 : Value} (h : InRow RE ok w ks A i) (hp : ∀ x, ok x → x ≠ b) :
    InRow RE ok ((((((w.setCell ⟨b, 0, none⟩ u0).setCell ⟨b, 1, none⟩ u1).setCell ⟨b, 2, none⟩ u2).setCell ⟨b, 3, none⟩ u3).setCell ⟨b, 4, none⟩ u4).setCell ⟨b, 5, none⟩ u5) ks A i :=
  h.keep (fun _ h => h) fun a u ha hu => (World.cell?_of_block (six_other (hp _ ha))).trans hu
end Go.Proofs.YtgdigbbfgpenpaaDoor
namespace Go.Proofs.YtgdigbbfgpenpaaDoor
open Go.RowKit
set_option linter.unusedVariables false
set_option linter.unusedSimpArgs false

/-- append to a row of the call's own, at a step of a region that draws its order -/
theorem step_app {P : Program} (w : World) {ops : Array Oper} {o : Oper} {a : Act} {K : Act → World → Prop} {Q : Exit → Act → World → Prop} {E : Prop} (hgd : o.guard = none) (s x : Operand) (t : TypeId)
    (ho : o.op = .call { callee := .builtin .append, args := #[s, x], argTypes := #[t, t] })
    (base : Nat) (e : TypeId) (z : Value) (size bytes : Nat) (ht : P.underlying t = some (.slice e))
    (hinfo : (P.info? e).map (fun i => (i.zero, i.size, i.bytes)) = some (some z, size, bytes)) (hzs : z.cells.size = size) (hsz : 0 < size)
    (v : Value) (n : Nat) (xs : List Value) (hs : a.eval s = v) (hown : w.ownsRow base e size v n xs)
    (A : Option Addr) (m c : Nat) (news : List Value) (hx : a.eval x = .slice A m c) (hr : Src w A m size news) (h1 : ∀ u ∈ news, u.oneCell' = true)
    (h63 : n + m ≤ maxLen) (hbytes : (n + m) * bytes ≤ 140737488355328) (hbase : base ≤ w.heap.size)
    (h : ∀ v' w', w'.ownsRow base e size v' (n + m) (xs ++ news) → w.grownBy w' v.ownBlock → (v'.ownBlock = v.ownBlock ∨ v'.ownBlock = some w.heap.size) → K (a.put o.dst v') w') :
    if Region.wanted o (yielded ops a.tmps) = true then Oper.wp P o a w K Q else E := by
  have hw : Region.wanted o (yielded ops a.tmps) = true := by simp [Region.wanted, hgd]
  rw [if_pos hw]
  obtain ⟨v', w', hr, h2, h3, h5⟩ := run_app (P := P) base t o.type e z size bytes ht hinfo hzs hsz v n xs hown A m c news hr h1 h63 hbytes hbase
  unfold Oper.wp execOp
  simp only [ho, resolve, invoke, builtin, Sem.run_bind, Sem.run_pure, Result.andThen_ok, List.map_toArray, List.map_cons, List.map_nil, hs, hx, hr]
  exact h v' w' h2 h3 h5
theorem set_five {w : World} {b : Nat} {v0 v1 v2 v3 v4 v5 u : Value} {t : TypeId} (h : w.heap[b]? = some (.cells #[v0, v1, v2, v3, v4, v5] t (0, 0))) : (w.setCell ⟨b, 5, none⟩ u).heap[b]? = some (.cells #[v0, v1, v2, v3, v4, u] t (0, 0)) := by
  simp [World.setCell, Array.getElem?_modify, h]
theorem set_grownK (w : World) (b : Nat) (o : Nat) (v : Value) : w.grownBy (w.setCell ⟨b, o, none⟩ v) (some b) :=
  ⟨rfl, rfl, rfl, by simp, fun k _ hr => Below.heap_setCell _ _ _ _ (by show k ≠ b; rintro rfl; exact hr rfl)⟩
theorem OwnT.grown_bK {ok : Nat → Prop} {w w' : World} {base b : Nat} {e : TypeId} {v : Value} {ts : List Re} (h : OwnT RE ok w base e v ts) (hg : w.grownBy w' (some b)) (hbb : b < base) (hok : ∀ x, ok x → x ≠ b) : OwnT RE ok w' base e v ts := by
  obtain ⟨h0, cs, ho, hk⟩ := h
  refine ⟨h0, cs, ho.kept hg ?_, fun k t ht => ?_⟩
  · cases hv : v.ownBlock with
    | none => exact .inl rfl
    | some g => exact .inr (by intro e; cases e; have := own_base ho _ hv; omega)
  · obtain ⟨c, h1, h2⟩ := hk k t ht
    exact ⟨c, h1, h2.grown hg fun x hx e => hok x hx (Option.some.inj e)⟩
theorem reA_one (h : RH) (A : Option Addr) (n c : Nat) : ∀ u ∈ (reA h A n c).toList, u.oneCell' = true := by
  intro u hu
  simp at hu
  rcases hu with rfl | rfl | rfl | rfl | rfl | rfl <;> rfl
/-- one more behind a row of the call's own -/
theorem bare_app {okk : Nat → Prop} {w1 w2 : World} {base : Nat} {o : Value} {ts : List Re} {tb : Re} {h2 : RH} {k2 : List Re} {A2 : Option Addr} {c2 : Nat} {e : TypeId}
    (HO : OwnT RE okk w1 base e o ts) (hok : ∀ x, okk x → x < w1.heap.size) (hz : Below w1.heap.size w1 w2) (e2 : tb = .mk h2 k2) (hc2 : k2.length ≤ c2) (hr2 : InRow RE (fun x => w1.heap.size ≤ x) w2 k2 A2 0) :
    ∃ cs0, (w2.alloc (.cells (reA h2 A2 k2.length c2) e)).ownsRow base e 6 o ts.length cs0 ∧ Src (w2.alloc (.cells (reA h2 A2 k2.length c2) e)) (some ⟨w2.heap.size, 0, none⟩) 1 6 (reA h2 A2 k2.length c2).toList ∧
      ∀ v5 w5, w5.ownsRow base e 6 v5 (ts.length + 1) (cs0 ++ (reA h2 A2 k2.length c2).toList) → (w2.alloc (.cells (reA h2 A2 k2.length c2) e)).grownBy w5 o.ownBlock → (v5.ownBlock = o.ownBlock ∨ v5.ownBlock = some (w2.alloc (.cells (reA h2 A2 k2.length c2) e)).heap.size) →
        OwnT RE (fun x => okk x ∨ (w1.heap.size ≤ x ∧ x < w2.heap.size)) w5 base e v5 (ts ++ [tb]) := by
  have hXb : Below w2.heap.size w2 (w2.alloc (.cells (reA h2 A2 k2.length c2) e)) := below_new (Below.refl _ _) _
  have ho5 : OwnT RE (fun x => okk x ∨ (w1.heap.size ≤ x ∧ x < w2.heap.size)) (w2.alloc (.cells (reA h2 A2 k2.length c2) e)) base e o ts := (HO.keep (below_from hz hXb)).narrow (fun x hx => .inl hx) fun x hx e => by
    rcases hx with hx | hx
    · exact HO.1 x hx e
    · have := own_inR HO e.symm; omega
  obtain ⟨h0, cs0, hown0, hk0⟩ := ho5
  refine ⟨cs0, hown0, new_src w2 1 6 (reA h2 A2 k2.length c2) e rfl, fun v5 w5 a b d => ?_⟩
  refine OwnT.app (ys := [tb]) h0 hown0 hk0 ?_ a b d (fun x hx => ?_)
  · rw [e2]
    exact re_srcJ hc2 ((hr2.there.below hXb).weak fun x hx => .inr hx)
  · rw [World.size_alloc]
    have := hz.size
    rcases hx with hx | hx
    · have := hok x hx; omega
    · omega
set_option maxRecDepth 100000 in
set_option maxHeartbeats 8000000 in
theorem bareC_upto (n : Nat) : ∀ (ok : Nat → Prop) (h : CH) (ks : List Co) (A : Option Addr) (c : Nat) (w : World), 1 + T.sizes ks ≤ n → n ≤ 100000000 → ks.length ≤ c → InRow CE ok w ks A 0 →
    Calls Tryd.prog 113 #[coV h A ks.length c] w (ReNew (bareT (.mk h ks)) w) := by
  induction n with
  | zero => intro ok h ks A c w h0; omega
  | succ n ih =>
    intro ok h ks A c w hn hm hc hr
    have hl := T.length_le_sizes ks
    have IH := Lib.hid ih
    have HS : Hid (∀ t ∈ ks, t.size ≤ n) := fun t ht => by have := T.sizes_mem ht; omega
    have HO : Hid (bareT (.mk h ks) = if h.k = 5 then foldT 5 1 (bareTs ks) else .mk ⟨h.k, h.s⟩ (bareTs ks)) := by simp only [Hid, bareT]
    have HT0 : Hid (bareTs (ks.take 0) = []) := rfl
    have hkn := h.k.toNat_lt
    obtain ⟨W, hW⟩ : ∃ W, ((w.alloc (.cells (coA h A ks.length c) 73)).alloc (.cells reZJ 27)).alloc (.cells (reA ⟨h.k, h.s⟩ none 0 0) 27) = W := ⟨_, rfl⟩
    have hbW : Below w.heap.size w W := by rw [← hW]; exact below_new (below_new (below_new (Below.refl _ _) _) _) _
    have hsW : W.heap.size = w.heap.size + 1 + 1 + 1 := by rw [← hW]; simp
    have e1 : W.heap[w.heap.size]? = some (.cells (coA h A ks.length c) 73 (0, 0)) := by
      rw [← hW]
      exact heap_keep1 (heap_keep1 (new_at1 (w := w) _) _) _
    have e2 : W.heap[w.heap.size + 1]? = some (.cells reZJ 27 (0, 0)) := by
      rw [← hW]
      have := heap_keep1 (new_at1 (w := w.alloc (.cells (coA h A ks.length c) 73)) (.cells reZJ 27)) (.cells (reA ⟨h.k, h.s⟩ none 0 0) 27)
      rw [World.size_alloc] at this
      exact this
    have e3 : W.heap[w.heap.size + 1 + 1]? = some (.cells (reA ⟨h.k, h.s⟩ none 0 0) 27 (0, 0)) := by
      rw [← hW]
      have := new_at1 (w := (w.alloc (.cells (coA h A ks.length c) 73)).alloc (.cells reZJ 27)) (.cells (reA ⟨h.k, h.s⟩ none 0 0) 27)
      rw [World.size_alloc, World.size_alloc] at this
      exact this
    have HR := Lib.hid hr
    have HBW := Lib.hid hbW
    have E1 := Lib.hid e1
    have E2 := Lib.hid e2
    have E3 := Lib.hid e3
    have HWW := Lib.hid hW
    clear ih hr hbW e1 e2 e3 hW
    have hO0 : Hid (OwnT RE (fun _ => False) W (w.heap.size + 1 + 1 + 1) 27 (.slice none 0 0) (bareTs (ks.take 0))) := by rw [HT0.out]; exact OwnT.nil_ _ _ _ _ _
    go_enter Tryd.func113, Tryd.ntmps113
    go_wp2_with fail
    rw [show ((w.alloc (.cells (coA h A ks.length c) 73)).alloc (.cells reZJ 27)).alloc (.cells #[.int .u8 (h.k.toNat : Int), .int .u64 (h.s.a.toNat : Int), .int .u64 (h.s.b.toNat : Int), .int .u64 (h.s.c.toNat : Int), .int .u64 (h.s.d.toNat : Int), .slice none 0 0] 27) = W from HWW.out]
    clear HWW
    go_loopw [14] (fun i wr => ∃ (k : Nat) (o : Value) (okk : Nat → Prop), k ≤ ks.length ∧ i = .int .i64 (k : Nat) ∧ Hid (OwnT RE okk wr (w.heap.size + 1 + 1 + 1) 27 o (bareTs (ks.take k))) ∧ Hid (∀ x, okk x → w.heap.size + 1 + 1 < x ∧ x < wr.heap.size) ∧
      Hid (wr.heap[w.heap.size + 1 + 1]? = some (.cells #[.int .u8 (h.k.toNat : Int), .int .u64 (h.s.a.toNat : Int), .int .u64 (h.s.b.toNat : Int), .int .u64 (h.s.c.toNat : Int), .int .u64 (h.s.d.toNat : Int), o] 27 (0, 0))) ∧
      Hid (wr.heap[w.heap.size]? = some (.cells (coA h A ks.length c) 73 (0, 0))) ∧ Hid (wr.heap[w.heap.size + 1]? = some (.cells reZJ 27 (0, 0))) ∧ Hid (Below w.heap.size w wr)) (fun i _ => ks.length - (intOf i).toNat)
    case atStart => exact ⟨0, _, _, Nat.zero_le _, rfl, hO0, Lib.hid (fun x hx => hx.elim), E3, E1, E2, HBW⟩
    case round =>
      clear hO0 E1 E2 E3 HT0 HBW
      obtain ⟨k, o, okk, hk, rfl, HOw, HK, E3, E1, E2, HB⟩ := hrel
      by_cases hlt : k < ks.length
      · obtain ⟨t, ad, h1, ls, A1, c1, hA, hx, rfl, hc1, hr1, q0, q1, q2, q3, q4, q5, q6⟩ := co_at (HR.out.below HB.out) hlt
        subst hA
        have hmem := List.mem_of_getElem? hx
        have hs1 := HS.out _ hmem
        simp only [T.size] at hs1
        have HTk := Lib.hid (bareTs_take hx)
        have HLk : Hid ((bareTs (ks.take k)).length = k) := by unfold Hid; rw [bareTs_length, List.length_take]; omega
        obtain ⟨w1, hw1⟩ : ∃ w1, wr.alloc (.cells (coA h1 A1 ls.length c1) 73) = w1 := ⟨_, rfl⟩
        have hb1 : Below wr.heap.size wr w1 := by rw [← hw1]; exact below_new (Below.refl _ _) _
        have HC : Hid (∀ X, Below w1.heap.size w1 X → Calls Tryd.prog 113 #[coV h1 A1 ls.length c1] X (ReNew (bareT (.mk h1 ls)) X)) := fun X hX => IH.out ok h1 ls A1 c1 X hs1 (by omega) hc1 ((hr1.below hb1).below hX)
        have HB1 := Lib.hid (below_from HB.out hb1)
        have HO1 := Lib.hid (HOw.out.keep hb1)
        have E31 := Lib.hid ((hb1.block _ (lt_of_block E3.out)).trans E3.out)
        have E11 := Lib.hid ((hb1.block _ (lt_of_block E1.out)).trans E1.out)
        have E21 := Lib.hid ((hb1.block _ (lt_of_block E2.out)).trans E2.out)
        have EK1 : Hid (w1.heap[wr.heap.size]? = some (.cells (coA h1 A1 ls.length c1) 73 (0, 0))) := by rw [← hw1]; exact new_at1 _
        have HK1 : Hid (∀ x, okk x → w.heap.size + 1 + 1 < x ∧ x < w1.heap.size) := fun x hx => by have := HK.out x hx; have := hb1.size; omega
        have HW1 := Lib.hid hw1
        generalize bareT (T.mk h1 ls) = tb at *
        clear hx hr1 hmem hs1 hb1 hw1 E1 E2 E3 HB HOw HK
        go_upto_region 5 with fail
        rw [show wr.alloc (.cells #[.int .u8 (h1.k.toNat : Int), .string (str h1.b), .int .u64 (h1.s.a.toNat : Int), .int .u64 (h1.s.b.toNat : Int), .int .u64 (h1.s.c.toNat : Int), .int .u64 (h1.s.d.toNat : Int), .slice A1 ls.length c1] 73) = w1 from HW1.out]
        clear HW1 q0 q1 q2 q3 q4 q5 q6
        have Q : Hid (∀ X, Below w1.heap.size w1 X → X.cell? ⟨w.heap.size + 1 + 1, 5, none⟩ = some o ∧ X.cell? ⟨wr.heap.size, 0, none⟩ = some (.int .u8 (h1.k.toNat : Int)) ∧ X.cell? ⟨wr.heap.size, 1, none⟩ = some (.string (str h1.b)) ∧ X.cell? ⟨wr.heap.size, 2, none⟩ = some (.int .u64 (h1.s.a.toNat : Int)) ∧ X.cell? ⟨wr.heap.size, 3, none⟩ = some (.int .u64 (h1.s.b.toNat : Int)) ∧ X.cell? ⟨wr.heap.size, 4, none⟩ = some (.int .u64 (h1.s.c.toNat : Int)) ∧ X.cell? ⟨wr.heap.size, 5, none⟩ = some (.int .u64 (h1.s.d.toNat : Int)) ∧ X.cell? ⟨wr.heap.size, 6, none⟩ = some (.slice A1 ls.length c1)) := by
          intro X hX
          obtain ⟨⟨_, _, _, _, _, r5⟩, _⟩ := re_cells ((hX.block _ (lt_of_block E31.out)).trans E31.out)
          obtain ⟨x0, x1, x2, x3, x4, x5, x6⟩ := co_at_box ((hX.block _ (lt_of_block EK1.out)).trans EK1.out)
          exact ⟨r5, x0, x1, x2, x3, x4, x5, x6⟩
        have hz := Below.refl w1.heap.size w1
        obtain ⟨r5, x0, x1, x2, x3, x4, x5, x6⟩ := Q.out _ hz
        have hlm : ks.length ≤ 100000000 := by omega
        have hne : Hid (∀ j, j ≤ w.heap.size + 1 + 1 → some j ≠ Value.ownBlock o) := fun j hj e => by have := own_inR HO1.out e.symm; omega
        have hlt3 := lt_of_block E31.out
        have ENTRY := Lib.hid True.intro
        go_region_law
          (first
            | (go_simp; go_at_call 113; (with_reducible refine (HC.out _ (by first | exact hz.drew | exact hz | fail)).mono ?_); rintro e w2 ⟨h2, k2, A2, c2, rfl, e2, hc2, hr2, hb2⟩; have hz := below_from (by first | exact hz.drew | exact hz | fail) hb2; obtain ⟨r5, x0, x1, x2, x3, x4, x5, x6⟩ := Q.out _ hz; have r5a := fun ob => keep_cell (below_new (Below.refl w2.heap.size w2) ob) r5; obtain ⟨cs0, hown0, hsrc, happ⟩ := bare_app HO1.out (fun x hx => (HK1.out x hx).2) hz e2 hc2 (hr2.weak fun x hx => hx))
            | (refine step_app _ (by rfl) (.tmp 19) (.tmp 22) 25 (by rfl) (w.heap.size + 1 + 1 + 1) 27 _ 6 64 Tryd.underlying25 Tryd.info_re rfl (by decide) o (bareTs (ks.take k)).length cs0 (by rfl) hown0 (some ⟨w2.heap.size, 0, none⟩) 1 1 _ (by rfl) hsrc (reA_one h2 A2 k2.length c2) (by rw [HLk.out]; unfold maxLen; omega) (by rw [HLk.out]; omega) (by rw [World.size_alloc]; have := hz.size; omega) ?_; intro v5 w5 ho5 hg5 hat5; have hr5 := happ v5 w5 ho5 hg5 hat5; obtain ⟨A5, c5, hv5, _, _⟩ := own_slice ho5; subst hv5; have hs5 := hg5.size; rw [World.size_alloc] at hs5; have hzx := below_new hz (.cells (reA h2 A2 k2.length c2) 27); have e35 := (hzx.block _ (lt_of_block E31.out)).trans E31.out; have e36 := (hg5.block _ (lt_of_block e35) (hne.out _ (Nat.le_refl _))).trans e35; obtain ⟨⟨a0, a1, a2, a3, a4, a5⟩, b0, b1, b2, b3, b4, b5⟩ := re_cells e36)
            | fail)
        all_goals
          have e15 := (hzx.block _ (lt_of_block E11.out)).trans E11.out
          have e25 := (hzx.block _ (lt_of_block E21.out)).trans E21.out
          have E16 := Lib.hid ((hg5.block _ (lt_of_block e15) (hne.out _ (by omega))).trans e15)
          have E26 := Lib.hid ((hg5.block _ (lt_of_block e25) (hne.out _ (by omega))).trans e25)
          have hbx := below_from HB1.out hzx
          have HB6 := Lib.hid (hbx.grown hg5 hbx.size (fun j hj => by have := (own_inR HO1.out hj).1; omega))
          have hsz2 := hz.size
          have hok5 : ∀ x, (okk x ∨ (w1.heap.size ≤ x ∧ x < w2.heap.size)) → w.heap.size + 1 + 1 < x ∧ x < w5.heap.size := fun x hx => by rcases hx with hx | hx; have := HK1.out x hx; omega; omega
          have HO6 := Lib.hid (hr5.grown_bK (set_grownK w5 (w.heap.size + 1 + 1) 5 (Value.slice A5 ((bareTs (ks.take k)).length + 1) c5)) (by omega) (fun x hx => by have := hok5 x hx; omega))
          have E36 := Lib.hid (set_five (u := (Value.slice A5 ((bareTs (ks.take k)).length + 1) c5)) e36)
          have HK5 : Hid (∀ x, (okk x ∨ (w1.heap.size ≤ x ∧ x < w2.heap.size)) → w.heap.size + 1 + 1 < x ∧ x < (w5.setCell ⟨w.heap.size + 1 + 1, 5, none⟩ (Value.slice A5 ((bareTs (ks.take k)).length + 1) c5)).heap.size) := fun x hx => by have := hok5 x hx; simpa using this
          clear ho5 hg5 hat5 hown0 hsrc happ e15 e25 e35 e36 hr5 hok5 hbx hzx hs5 r5 r5a x0 x1 x2 x3 x4 x5 x6 a0 a1 a2 a3 a4 a5 b0 b1 b2 b3 b4 b5
          go_wp2_with fail
          go_roundw
          case rel => exact ⟨k + 1, _, _, by omega, by go_num, by rw [HTk.out]; exact HO6, HK5, E36, Lib.hid ((Below.heap_setCell _ _ _ _ (by show w.heap.size ≠ w.heap.size + 1 + 1; omega)).trans E16.out), Lib.hid ((Below.heap_setCell _ _ _ _ (by show w.heap.size + 1 ≠ w.heap.size + 1 + 1; omega)).trans E26.out), Lib.hid (HB6.out.setCell (p := ⟨w.heap.size + 1 + 1, 5, none⟩) (by show w.heap.size ≤ w.heap.size + 1 + 1; omega) _)⟩
          case measure => simp [intOf]; omega
      · have hkk : k = ks.length := by omega
        subst hkk
        have HOw2 : Hid (OwnT RE okk wr (w.heap.size + 1 + 1 + 1) 27 o (bareTs ks)) := by have := HOw.out; rw [List.take_length] at this; exact this
        obtain ⟨A3, c3, hv3, hc3, hr3⟩ := HOw2.out.row
        rw [bareTs_length] at hv3
        subst hv3
        have hown3 : ∀ b, (okk b ∨ (Value.slice A3 ks.length c3).ownBlock = some b) → w.heap.size + 1 + 1 < b := fun b hb => by
          rcases hb with hb | hb
          · have := HK.out b hb; omega
          · have := (own_inR HOw2.out hb).1; omega
        rw [bareTs_length] at hc3
        have HR3 := Lib.hid (hr3.weak (ok' := fun b => w.heap.size + 1 + 1 < b) hown3)
        have hlm : ks.length ≤ 100000000 := by omega
        have hlt3 := lt_of_block E3.out
        obtain ⟨x0, x1, x2, x3, x4, x5, x6⟩ := co_at_box E1.out
        obtain ⟨⟨z0, z1, z2, z3, z4, z5⟩, _⟩ := re_cells E3.out
        clear HOw HOw2 hr3 HR hown3 hlt hk
        by_cases hk5 : h.k = 5
        · have g5 : (h.k.toNat : Int) = 5 := by rw [hk5]; rfl
          have HX : Hid (bareT (.mk h ks) = foldT 5 1 (bareTs ks)) := by unfold Hid; rw [HO.out, if_pos hk5]
          have HF := or_any (bareTs ks) A3 c3 wr (by rw [bareTs_length]; omega) (by rw [bareTs_length]; exact hc3) HR3.out
          rw [bareTs_length] at HF
          have HF := Lib.hid HF
          clear hk5
          go_wp2_with fail
          refine HF.out.mono ?_
          rintro e w2 ⟨v2, rfl, ⟨h2, k2, A2, c2, e2, hc2, rfl, hr2⟩, hb2⟩
          have E27 := (hb2.block _ (lt_of_block E2.out)).trans E2.out
          obtain ⟨⟨y0, y1, y2, y3, y4, y5⟩, f0, f1, f2, f3, f4, f5⟩ := re_cells E27
          have HB7 := Lib.hid (below_from HB.out hb2)
          have HE2 := Lib.hid e2
          have HR7 := Lib.hid (hr2.weak (ok' := fun b => w.heap.size + 1 < b) fun b hb => by rcases hb with hb | hb <;> omega)
          have hc2' := hc2
          clear hb2 e2 hr2 hc2 HF HB
          go_wp2_with fail
          refine bodyPost_ret (v := reV h2 A2 k2.length c2) (by simp [results, Tryd.results113, go_sem, y0, y1, y2, y3, y4, y5]) rfl ⟨h2, k2, A2, c2, rfl, HX.out.trans HE2.out, hc2', (row_sixJ HR7.out fun x hx => by omega).weak fun x hx => by omega, six_below HB7.out (by omega)⟩
        · have g5 : ((h.k.toNat : Int) == 5) = false := k_ne hk5 rfl
          have HX : Hid (bareT (.mk h ks) = .mk ⟨h.k, h.s⟩ (bareTs ks)) := by unfold Hid; rw [HO.out, if_neg hk5]
          obtain ⟨⟨y0, y1, y2, y3, y4, y5⟩, f0, f1, f2, f3, f4, f5⟩ := re_cells E2.out
          clear hk5
          go_wp2_with fail
          refine bodyPost_ret (v := reV ⟨h.k, h.s⟩ A3 ks.length c3) (by simp [results, Tryd.results113, go_sem, y0, y1, y2, y3, y4, y5]) rfl ⟨⟨h.k, h.s⟩, bareTs ks, A3, c3, by rw [bareTs_length], HX.out, by rw [bareTs_length]; exact hc3, (row_sixJ HR3.out fun x hx => by omega).weak fun x hx => by omega, six_below HB.out (by omega)⟩
end Go.Proofs.YtgdigbbfgpenpaaDoor
namespace Go.Proofs.YtgdigbbfgpenpaaDoor
open Go.RowKit
set_option linter.unusedVariables false
set_option linter.unusedSimpArgs false

theorem co_two {P : Nat → Prop} {Y : World} {N : Nat} {t : TypeId} {h h2 : CH} {ks ks2 : List Co} {A A2 : Option Addr} {c c2 : Nat} {x : Array Value} (hN : Y.heap[N]? = some (.cells x t (0, 0))) (hx : x = coA h A ks.length c ++ coA h2 A2 ks2.length c2) (hP : P N)
    (hc : ks.length ≤ c) (hr : InRow CE P Y ks A 0) (hc2 : ks2.length ≤ c2) (hr2 : InRow CE P Y ks2 A2 0) : InRow CE P Y [.mk h ks, .mk h2 ks2] (some ⟨N, 0, none⟩) 0 := by
  simp only [InRow, InT]
  refine ⟨⟨_, CH.cells h ++ [.slice A ks.length c], rfl, hP, fun j u hu => ?_, A, c, rfl, hc, hr⟩, ⟨_, CH.cells h2 ++ [.slice A2 ks2.length c2], rfl, hP, fun j u hu => ?_, A2, c2, rfl, hc2, hr2⟩, trivial⟩
  · rw [cell_heap hN, hx, Array.getElem?_append]
    have hj : j < 7 := by
      rcases Nat.lt_or_ge j 7 with h | h
      · exact h
      · rw [List.getElem?_eq_none (by simpa [CH.cells] using h)] at hu; cases hu
    rw [if_pos (by simpa using hj), ← hu]
    simp [CH.cells]
  · rw [cell_heap hN, hx, Array.getElem?_append, if_neg (by simp [CE]), ← hu]
    simp [CH.cells, CE]
theorem fold_size : ∀ ts : List Re, (foldT 5 1 ts).size ≤ T.sizes ts + ts.length - 1 + (if ts = [] then 1 else 0)
  | [] => by simp [foldT, T.size, T.sizes]
  | [t] => by simp [foldT, T.sizes]
  | t :: u :: ts => by
    have ih := fold_size (u :: ts)
    simp only [foldT, T.size, T.sizes, List.length_cons] at ih ⊢
    simp at ih ⊢
    omega
mutual
theorem bare_size : ∀ t : Co, (bareT t).size + 1 ≤ 2 * t.size
  | .mk h ks => by
    have hk := bare_sizes ks
    simp only [bareT, T.size]
    split
    · have h1 := fold_size (bareTs ks)
      rw [bareTs_length] at h1
      split at h1
      · have : T.sizes (bareTs ks) = 0 := by rename_i e; rw [e]; rfl
        have hl : ks.length = 0 := by rename_i e; have := congrArg List.length e; rw [bareTs_length] at this; simpa using this
        omega
      · have hl : 0 < ks.length := by
          rcases ks with _ | ⟨a, l⟩
          · rename_i e; exact absurd rfl e
          · simp
        omega
    · simp only [T.size]; omega
theorem bare_sizes : ∀ ts : List Co, T.sizes (bareTs ts) + ts.length ≤ 2 * T.sizes ts
  | [] => by simp [bareTs, T.sizes]
  | t :: ts => by
    have h1 := bare_size t
    have h2 := bare_sizes ts
    simp only [bareTs, T.sizes, List.length_cons]; omega
end
def alikeB (a b : Co) : Bool := (mayC a && mayC b) && sameT (bareT a) (bareT b)
set_option maxRecDepth 100000 in
set_option maxHeartbeats 8000000 in
theorem alike_any (ok : Nat → Prop) (h1 h2 : CH) (k1 k2 : List Co) (A1 A2 : Option Addr) (c1 c2 : Nat) (w : World) (hm : T.sizes k1 ≤ 1048576) (hm2 : T.sizes k2 ≤ 1048576) (hc : k1.length ≤ c1) (hc2 : k2.length ≤ c2) (hr : InRow CE ok w k1 A1 0) (hr2 : InRow CE ok w k2 A2 0) (hs1 : shortC (.mk h1 k1)) (hs2 : shortC (.mk h2 k2)) :
    Calls Tryd.prog 100 #[coV h1 A1 k1.length c1, coV h2 A2 k2.length c2] w fun e w' => e = .returned (.bool (alikeB (.mk h1 k1) (.mk h2 k2))) ∧ Below w.heap.size w w' := by
  obtain ⟨W, hW⟩ : ∃ W, (w.alloc (.cells (coA h1 A1 k1.length c1) 73)).alloc (.cells (coA h2 A2 k2.length c2) 73) = W := ⟨_, rfl⟩
  have hbW : Below w.heap.size w W := by rw [← hW]; exact below_new (below_new (Below.refl _ _) _) _
  obtain ⟨n1, n2⟩ := two_new (w := w) (.cells (coA h1 A1 k1.length c1) 73) (.cells (coA h2 A2 k2.length c2) 73)
  rw [hW] at n1 n2
  have Q : Hid (∀ X, Below W.heap.size W X → X.cell? ⟨w.heap.size, 0, none⟩ = some (.int .u8 (h1.k.toNat : Int)) ∧ X.cell? ⟨w.heap.size, 1, none⟩ = some (.string (str h1.b)) ∧ X.cell? ⟨w.heap.size, 2, none⟩ = some (.int .u64 (h1.s.a.toNat : Int)) ∧ X.cell? ⟨w.heap.size, 3, none⟩ = some (.int .u64 (h1.s.b.toNat : Int)) ∧ X.cell? ⟨w.heap.size, 4, none⟩ = some (.int .u64 (h1.s.c.toNat : Int)) ∧ X.cell? ⟨w.heap.size, 5, none⟩ = some (.int .u64 (h1.s.d.toNat : Int)) ∧ X.cell? ⟨w.heap.size, 6, none⟩ = some (.slice A1 k1.length c1) ∧ X.cell? ⟨w.heap.size + 1, 0, none⟩ = some (.int .u8 (h2.k.toNat : Int)) ∧ X.cell? ⟨w.heap.size + 1, 1, none⟩ = some (.string (str h2.b)) ∧ X.cell? ⟨w.heap.size + 1, 2, none⟩ = some (.int .u64 (h2.s.a.toNat : Int)) ∧ X.cell? ⟨w.heap.size + 1, 3, none⟩ = some (.int .u64 (h2.s.b.toNat : Int)) ∧ X.cell? ⟨w.heap.size + 1, 4, none⟩ = some (.int .u64 (h2.s.c.toNat : Int)) ∧ X.cell? ⟨w.heap.size + 1, 5, none⟩ = some (.int .u64 (h2.s.d.toNat : Int)) ∧ X.cell? ⟨w.heap.size + 1, 6, none⟩ = some (.slice A2 k2.length c2)) := by
    intro X hX
    obtain ⟨a0, a1, a2, a3, a4, a5, a6⟩ := co_at_box ((hX.block _ (lt_of_block n1)).trans n1)
    obtain ⟨b0, b1, b2, b3, b4, b5, b6⟩ := co_at_box ((hX.block _ (lt_of_block n2)).trans n2)
    exact ⟨a0, a1, a2, a3, a4, a5, a6, b0, b1, b2, b3, b4, b5, b6⟩
  have CM : Hid (∀ (N : Nat) (Y : World), Y.heap[N]? = some (.cells #[.int .u8 (h1.k.toNat : Int), .string (str h1.b), .int .u64 (h1.s.a.toNat : Int), .int .u64 (h1.s.b.toNat : Int), .int .u64 (h1.s.c.toNat : Int), .int .u64 (h1.s.d.toNat : Int), .slice A1 k1.length c1, .int .u8 (h2.k.toNat : Int), .string (str h2.b), .int .u64 (h2.s.a.toNat : Int), .int .u64 (h2.s.b.toNat : Int), .int .u64 (h2.s.c.toNat : Int), .int .u64 (h2.s.d.toNat : Int), .slice A2 k2.length c2] 73 (0, 0)) → Below W.heap.size W Y → Calls Tryd.prog 57 #[.slice (some ⟨N, 0, none⟩) 2 2] Y fun e w' => e = .returned (.bool (mayC (.mk h1 k1) && mayC (.mk h2 k2))) ∧ Below Y.heap.size Y w') := by
    intro N Y hN hY
    have hrow := co_two (P := fun _ => True) (h := h1) (h2 := h2) (ks := k1) (ks2 := k2) (A := A1) (A2 := A2) (c := c1) (c2 := c2) hN rfl trivial hc ((hr.below (below_from hbW hY)).weak fun _ _ => trivial) hc2 ((hr2.below (below_from hbW hY)).weak fun _ _ => trivial)
    refine (cMay_any _ _ 2 _ (by simp only [T.sizes, T.size]; omega) hrow (fun t ht => by simp at ht; rcases ht with rfl | rfl; exact hs1; exact hs2)).mono ?_
    rintro e w' ⟨rfl, hb2⟩
    exact ⟨by simp, hb2⟩
  have CB1 : Hid (∀ X, Below W.heap.size W X → Calls Tryd.prog 113 #[coV h1 A1 k1.length c1] X (ReNew (bareT (.mk h1 k1)) X)) := fun X hX => bareC_upto 1048577 ok h1 k1 A1 c1 X (by omega) (by decide) hc (hr.below (below_from hbW hX))
  have CB2 : Hid (∀ X, Below W.heap.size W X → Calls Tryd.prog 113 #[coV h2 A2 k2.length c2] X (ReNew (bareT (.mk h2 k2)) X)) := fun X hX => bareC_upto 1048577 ok h2 k2 A2 c2 X (by omega) (by decide) hc2 (hr2.below (below_from hbW hX))
  have CS : Hid (∀ (x : RH) (kx : List Re) (Ax : Option Addr) (cx : Nat) (y : RH) (ky : List Re) (Ay : Option Addr) (cy : Nat) (X : World), bareT (.mk h1 k1) = .mk x kx → bareT (.mk h2 k2) = .mk y ky → InRow RE (fun _ => True) X kx Ax 0 → InRow RE (fun _ => True) X ky Ay 0 →
      Calls Tryd.prog 112 #[reV x Ax kx.length cx, reV y Ay ky.length cy] X fun e w' => e = .returned (.bool (sameT (bareT (.mk h1 k1)) (bareT (.mk h2 k2)))) ∧ Below X.heap.size X w') := by
    intro x kx Ax cx y ky Ay cy X ex ey hx hy
    have s1 := bare_size (.mk h1 k1)
    have s2 := bare_size (.mk h2 k2)
    rw [ex] at s1
    rw [ey] at s2
    simp only [T.size] at s1 s2
    rw [ex, ey]
    exact rexSame_upto 100000000 _ x y kx ky Ax Ay cx cy X (by omega) (by decide) (by omega) hx hy
  have HA : Hid (alikeB (.mk h1 k1) (.mk h2 k2) = ((mayC (.mk h1 k1) && mayC (.mk h2 k2)) && sameT (bareT (.mk h1 k1)) (bareT (.mk h2 k2)))) := rfl
  have HW := Lib.hid hbW
  have HE := Lib.hid hW
  clear hW n1 n2 hr hr2 hm hm2 hc hc2 hbW hs1 hs2
  generalize (mayC (.mk h1 k1) && mayC (.mk h2 k2)) = m at *
  generalize sameT (bareT (.mk h1 k1)) (bareT (.mk h2 k2)) = sm at *
  generalize bareT (.mk h1 k1) = b1 at *
  generalize bareT (.mk h2 k2) = b2 at *
  go_enter Tryd.func100, Tryd.ntmps100
  go_wp2_with fail
  rw [HE.out]
  have hz := Below.refl W.heap.size W
  obtain ⟨x0, x1, x2, x3, x4, x5, x6, y0, y1, y2, y3, y4, y5, y6⟩ := Q.out _ hz
  cases m with
  | false =>
    go_region_with (first
        | (go_at_call 57; refine (CM.out _ _ (by exact new_at1 _) (by first | exact (below_new hz _).drew | exact below_new hz.drew _ | exact below_new hz _)).mono ?_; rintro e w1 ⟨rfl, hb1⟩; have hz := below_from (by first | exact (below_new hz _).drew | exact below_new hz.drew _ | exact below_new hz _) hb1; obtain ⟨x0, x1, x2, x3, x4, x5, x6, y0, y1, y2, y3, y4, y5, y6⟩ := Q.out _ hz)
        | fail)
    all_goals
      have hb := below_from HW.out hz
      go_wp2_with fail
      go_ret
      exact ⟨by rw [HA.out]; rfl, hb⟩
  | true =>
    go_region_held3 (fun X => X.cell? ⟨w.heap.size, 0, none⟩ = some (.int .u8 (h1.k.toNat : Int)) ∧ X.cell? ⟨w.heap.size, 1, none⟩ = some (.string (str h1.b)) ∧ X.cell? ⟨w.heap.size, 2, none⟩ = some (.int .u64 (h1.s.a.toNat : Int)) ∧ X.cell? ⟨w.heap.size, 3, none⟩ = some (.int .u64 (h1.s.b.toNat : Int)) ∧ X.cell? ⟨w.heap.size, 4, none⟩ = some (.int .u64 (h1.s.c.toNat : Int)) ∧ X.cell? ⟨w.heap.size, 5, none⟩ = some (.int .u64 (h1.s.d.toNat : Int)) ∧ X.cell? ⟨w.heap.size, 6, none⟩ = some (.slice A1 k1.length c1) ∧ X.cell? ⟨w.heap.size + 1, 0, none⟩ = some (.int .u8 (h2.k.toNat : Int)) ∧ X.cell? ⟨w.heap.size + 1, 1, none⟩ = some (.string (str h2.b)) ∧ X.cell? ⟨w.heap.size + 1, 2, none⟩ = some (.int .u64 (h2.s.a.toNat : Int)) ∧ X.cell? ⟨w.heap.size + 1, 3, none⟩ = some (.int .u64 (h2.s.b.toNat : Int)) ∧ X.cell? ⟨w.heap.size + 1, 4, none⟩ = some (.int .u64 (h2.s.c.toNat : Int)) ∧ X.cell? ⟨w.heap.size + 1, 5, none⟩ = some (.int .u64 (h2.s.d.toNat : Int)) ∧ X.cell? ⟨w.heap.size + 1, 6, none⟩ = some (.slice A2 k2.length c2))
      (first | (with_reducible exact Q.out _ hz) | (with_reducible exact Q.out _ hz.drew) | (with_reducible exact Q.out _ (below_new hz _)) | (with_reducible exact Q.out _ (below_new hz _).drew) | (with_reducible exact Q.out _ (below_new hz.drew _)) | fail)
      (first
        | (go_at_call 57; refine (CM.out _ _ (by exact new_at1 _) (by exact (below_new hz _).drew)).mono ?_; rintro e w1 ⟨rfl, hb1⟩; have hz := below_from (below_new hz _).drew hb1; obtain ⟨x0, x1, x2, x3, x4, x5, x6, y0, y1, y2, y3, y4, y5, y6⟩ := Q.out _ hz)
        | (go_at_call 113; (with_reducible refine (CB1.out _ hz).mono ?_); rintro e w2 ⟨hx, kx, Ax, cx, rfl, ex, hcx, hrx, hb2⟩; have EX := Lib.hid ex; clear ex; have hz := below_from hz hb2; obtain ⟨x0, x1, x2, x3, x4, x5, x6, y0, y1, y2, y3, y4, y5, y6⟩ := Q.out _ hz)
        | (go_at_call 113; (with_reducible refine (CB2.out _ hz).mono ?_); rintro e w3 ⟨hy, ky, Ay, cy, rfl, ey, hcy, hry, hb3⟩; have EY := Lib.hid ey; clear ey; have hz := below_from hz hb3; obtain ⟨x0, x1, x2, x3, x4, x5, x6, y0, y1, y2, y3, y4, y5, y6⟩ := Q.out _ hz)
        | (go_at_call 112; (with_reducible refine (CS.out hx kx Ax cx hy ky Ay cy _ EX.out EY.out ((hrx.there.below hb3).weak fun _ _ => trivial) (hry.weak fun _ _ => trivial)).mono ?_); rintro e w4 ⟨rfl, hb4⟩; have hz := below_from hz hb4; obtain ⟨x0, x1, x2, x3, x4, x5, x6, y0, y1, y2, y3, y4, y5, y6⟩ := Q.out _ hz)
        | fail)
    all_goals
      have hb := below_from HW.out hz
      go_wp2_with fail
      go_ret
      exact ⟨by rw [HA.out]; rfl, hb⟩
end Go.Proofs.YtgdigbbfgpenpaaDoor
namespace Go.Proofs.YtgdigbbfgpenpaaDoor
open Go.RowKit
set_option linter.unusedVariables false
set_option linter.unusedSimpArgs false

mutual
theorem sameC_eq : ∀ a b : Co, sameC a b = true ↔ a = b
  | .mk h ks, .mk h2 ks2 => by
    simp only [sameC, Bool.and_eq_true, decide_eq_true_eq, samesC_eq ks ks2]
    constructor
    · rintro ⟨⟨⟨e1, e3⟩, e2⟩, rfl⟩
      cases h; cases h2
      simp only [beq_iff_eq] at e1 e2 e3
      subst e1 e2 e3
      rfl
    · intro e
      cases e
      exact ⟨⟨⟨rfl, beq_self_eq_true _⟩, rfl⟩, rfl⟩
theorem samesC_eq : ∀ xs ys : List Co, samesC xs ys = true ↔ xs = ys
  | [], [] => by simp [samesC]
  | [], y :: ys => by simp [samesC]
  | x :: xs, [] => by simp [samesC]
  | x :: xs, y :: ys => by simp only [samesC, Bool.and_eq_true, sameC_eq x y, samesC_eq xs ys, List.cons.injEq]
end
theorem sameC_refl (a : Co) : sameC a a = true := (sameC_eq a a).2 rfl
theorem sameC_comm (a b : Co) : sameC a b = sameC b a := by
  rw [Bool.eq_iff_iff, sameC_eq, sameC_eq]
  exact eq_comm
theorem samesC_len {xs ys : List Co} (h : xs.length ≠ ys.length) : samesC xs ys = false := by
  cases hs : samesC xs ys with
  | false => rfl
  | true => rw [samesC_eq] at hs; subst hs; exact absurd rfl h
theorem samesC_no {xs ys : List Co} {k : Nat} {x y : Co} (hx : xs[k]? = some x) (hy : ys[k]? = some y) (h : sameC x y = false) : samesC xs ys = false := by
  cases hs : samesC xs ys with
  | false => rfl
  | true =>
    rw [samesC_eq] at hs
    subst hs
    rw [hx] at hy
    cases hy
    rw [sameC_refl] at h
    cases h
theorem samesC_yes {xs ys : List Co} (hl : xs.length = ys.length) (h : ∀ (k : Nat) (x y : Co), k < xs.length → xs[k]? = some x → ys[k]? = some y → sameC x y = true) : samesC xs ys = true := by
  rw [samesC_eq]
  apply List.ext_getElem hl
  intro i h1 h2
  exact (sameC_eq _ _).1 (h i xs[i] ys[i] h1 (by simp [h1]) (by simp [h2]))

set_option maxRecDepth 100000 in
set_option maxHeartbeats 16000000 in
theorem refSameC_upto (n : Nat) : ∀ (ok : Nat → Prop) (h h2 : CH) (ks ks2 : List Co) (A A2 : Option Addr) (c c2 : Nat) (w : World), 1 + T.sizes ks ≤ n → n ≤ 1000000000 → T.sizes ks2 ≤ 1000000000 → InRow CE ok w ks A 0 → InRow CE ok w ks2 A2 0 →
    Calls Tryd.prog 37 #[coV h A ks.length c, coV h2 A2 ks2.length c2] w fun e w' => e = .returned (.bool (sameC (.mk h ks) (.mk h2 ks2))) ∧ Below w.heap.size w w' := by
  induction n with
  | zero => intro ok h h2 ks ks2 A A2 c c2 w h0; omega
  | succ n ih =>
    intro ok h h2 ks ks2 A A2 c c2 w hn hm hm2 hr hr2
    have hl := T.length_le_sizes ks
    have hl2 := T.length_le_sizes ks2
    have IH := Lib.hid ih
    clear ih
    have hsz : ∀ t ∈ ks, t.size ≤ n := fun t ht => by have := T.sizes_mem ht; omega
    have hsz2 : ∀ t ∈ ks2, t.size ≤ 1000000000 := fun t ht => by have := T.sizes_mem ht; omega
    have HS := Lib.hid hsz
    have HS2 := Lib.hid hsz2
    clear hsz hsz2
    have HE : Hid (sameC (.mk h ks) (.mk h2 ks2) = (decide (h.k = h2.k) && (h.b == h2.b) && decide (h.s = h2.s) && samesC ks ks2)) := by unfold Hid; simp only [sameC]
    have hq := run_neq_set h.s h2.s
    have hkn : decide (h.k = h2.k) = decide (h.k.toNat = h2.k.toNat) := by
      rw [Bool.eq_iff_iff]; simp [UInt8.toNat_inj]
    rw [hkn] at HE
    clear hkn
    generalize decide (h.s = h2.s) = bs at *
    have hbW : Below w.heap.size w ((w.alloc (.cells #[.int .u8 (h.k.toNat : Int), .string (str h.b), .int .u64 (h.s.a.toNat : Int), .int .u64 (h.s.b.toNat : Int), .int .u64 (h.s.c.toNat : Int), .int .u64 (h.s.d.toNat : Int), .slice A ks.length c] 73)).alloc (.cells #[.int .u8 (h2.k.toNat : Int), .string (str h2.b), .int .u64 (h2.s.a.toNat : Int), .int .u64 (h2.s.b.toNat : Int), .int .u64 (h2.s.c.toNat : Int), .int .u64 (h2.s.d.toNat : Int), .slice A2 ks2.length c2] 73)) := below_new (below_new (Below.refl _ _) _) _
    obtain ⟨e1, e2⟩ := two_new (w := w) (.cells #[.int .u8 (h.k.toNat : Int), .string (str h.b), .int .u64 (h.s.a.toNat : Int), .int .u64 (h.s.b.toNat : Int), .int .u64 (h.s.c.toNat : Int), .int .u64 (h.s.d.toNat : Int), .slice A ks.length c] 73) (.cells #[.int .u8 (h2.k.toNat : Int), .string (str h2.b), .int .u64 (h2.s.a.toNat : Int), .int .u64 (h2.s.b.toNat : Int), .int .u64 (h2.s.c.toNat : Int), .int .u64 (h2.s.d.toNat : Int), .slice A2 ks2.length c2] 73)
    obtain ⟨x0, x1, x2, x3, x4, x5, x6⟩ := co_at_box e1
    obtain ⟨y0, y1, y2, y3, y4, y5, y6⟩ := co_at_box e2
    clear x0 x1 x2 x3 x4 x5 y0 y1 y2 y3 y4 y5 e1 e2
    have hrW := hr.below hbW
    have hrW2 := hr2.below hbW
    have X5 := Lib.hid x6
    have Y5 := Lib.hid y6
    clear x6 y6 hr hr2
    by_cases hk : h.k.toNat = h2.k.toNat
    · have t1 : ((h.k.toNat : Int) != (h2.k.toNat : Int)) = false := by simp; omega
      have HK : Hid (decide (h.k.toNat = h2.k.toNat) = true) := by unfold Hid; simp [hk]
      clear hk
      rcases hbb : (h.b == h2.b) with _ | _
      · rw [hbb] at HE
        go_enter Tryd.func37, Tryd.ntmps37
        go_wp2_with fail
        go_ret
        exact ⟨by rw [HE.out]; simp, hbW⟩
      · rw [hbb] at HE
        cases bs with
        | false =>
          go_enter Tryd.func37, Tryd.ntmps37
          go_wp2_with fail
          go_ret
          exact ⟨by rw [HE.out]; simp, hbW⟩
        | true =>
          by_cases hlen : ks.length = ks2.length
          · have t2 : ((ks.length : Int) != (ks2.length : Int)) = false := by simp; omega
            have HL := Lib.hid hlen
            clear hlen
            go_enter Tryd.func37, Tryd.ntmps37
            go_wp2_with fail
            generalize hWW : (w.alloc (.cells #[.int .u8 (h.k.toNat : Int), .string (str h.b), .int .u64 (h.s.a.toNat : Int), .int .u64 (h.s.b.toNat : Int), .int .u64 (h.s.c.toNat : Int), .int .u64 (h.s.d.toNat : Int), .slice A ks.length c] 73)).alloc (.cells #[.int .u8 (h2.k.toNat : Int), .string (str h2.b), .int .u64 (h2.s.a.toNat : Int), .int .u64 (h2.s.b.toNat : Int), .int .u64 (h2.s.c.toNat : Int), .int .u64 (h2.s.d.toNat : Int), .slice A2 ks2.length c2] 73) = W at *
            clear hWW
            go_loopw [5, 37] (fun _ i wr => ∃ (k : Nat), k ≤ ks.length ∧ i = .int .i64 k ∧ Hid (∀ (j : Nat) (x y : Co), j < k → ks[j]? = some x → ks2[j]? = some y → sameC x y = true) ∧ Below W.heap.size W wr) (fun _ i _ => ks.length - (intOf i).toNat)
            case atStart => exact ⟨0, Nat.zero_le _, rfl, fun j x y hj => absurd hj (by omega), Below.refl _ _⟩
            case round =>
              obtain ⟨k, hk, rfl, HN, hb⟩ := hrel
              have z5 := keep_cell hb X5.out
              have u5 := keep_cell hb Y5.out
              by_cases hlt : k < ks.length
              · have hlt2 : k < ks2.length := by have := HL.out; omega
                obtain ⟨t, ad, h3, ls, A3, c3, hA, hx, rfl, hc3, hr3, q0, q1, q2, q3, q4, q5, q6⟩ := co_at (hrW.below hb) hlt
                obtain ⟨t', ad', h4, ls4, A4, c4, hA', hx', rfl, hc4, hr4, p0, p1, p2, p3, p4, p5, p6⟩ := co_at (hrW2.below hb) hlt2
                subst hA hA'
                have hs1 := HS.out _ (List.mem_of_getElem? hx)
                have hs2 := HS2.out _ (List.mem_of_getElem? hx')
                simp only [T.size] at hs1 hs2
                have HNo : Hid (sameC (.mk h3 ls) (.mk h4 ls4) = false → samesC ks ks2 = false) := fun e => samesC_no hx hx' e
                have HYes : Hid (sameC (.mk h3 ls) (.mk h4 ls4) = true → ∀ (j : Nat) (x y : Co), j < k + 1 → ks[j]? = some x → ks2[j]? = some y → sameC x y = true) := by
                  intro e j x y hj ex ey
                  rcases Nat.lt_or_ge j k with hjk | hjk
                  · exact HN.out j x y hjk ex ey
                  · have : j = k := by omega
                    subst this
                    rw [hx] at ex
                    rw [hx'] at ey
                    cases ex; cases ey
                    exact e
                clear hx hx'
                go_wp2_with fail
                go_still_tail 10, (by kernel_rfl)
                go_wp2_with fail
                refine (IH.out ok h3 h4 ls ls4 A3 A4 c3 c4 wr.drew hs1 (by omega) (by omega) (hr3.below (Below.refl _ _).drew) (hr4.below (Below.refl _ _).drew)).mono ?_
                rintro e w1 ⟨rfl, hb1⟩
                have hb2 : Below W.heap.size W w1 := below_from (pw_drewN hb 1) hb1
                clear hb1 hr3 hr4 q0 q1 q2 q3 q4 q5 q6 p0 p1 p2 p3 p4 p5 p6 hb z5 u5
                generalize sameC (.mk h3 ls) (.mk h4 ls4) = b at *
                cases b with
                | false =>
                  go_wp2_with fail
                  go_ret
                  exact ⟨by rw [HE.out, HNo.out trivial]; simp, hbW.trans (hb2.mono hbW.size)⟩
                | true =>
                  go_wp2_with fail
                  go_roundw
                  case rel => exact ⟨k + 1, by omega, by go_num, HYes.out trivial, hb2⟩
                  case measure => simp [intOf]; omega
              · have hkk : k = ks.length := by omega
                have HY : Hid (samesC ks ks2 = true) := samesC_yes HL.out (fun j x y hj => HN.out j x y (by omega))
                subst hkk
                have g : decide ((ks.length : Int) < (ks.length : Int)) = false := by simp
                clear hlt hk
                go_wp2_with fail
                go_ret
                exact ⟨by rw [HE.out, HY.out, HK.out]; rfl, hbW.trans (hb.mono hbW.size)⟩
          · have t2 : ((ks.length : Int) != (ks2.length : Int)) = true := by simp; omega
            have HF := Lib.hid (samesC_len hlen)
            go_enter Tryd.func37, Tryd.ntmps37
            go_wp2_with fail
            go_ret
            exact ⟨by rw [HE.out, HF.out]; simp, hbW⟩
    · have t1 : ((h.k.toNat : Int) != (h2.k.toNat : Int)) = true := by simp; omega
      go_enter Tryd.func37, Tryd.ntmps37
      go_wp2_with fail
      go_ret
      exact ⟨by rw [HE.out]; simp [hk], hbW⟩
end Go.Proofs.YtgdigbbfgpenpaaDoor
namespace Go.Proofs.YtgdigbbfgpenpaaDoor
open Go.RowKit
set_option linter.unusedVariables false
set_option linter.unusedSimpArgs false

end Go.Proofs.YtgdigbbfgpenpaaDoor
