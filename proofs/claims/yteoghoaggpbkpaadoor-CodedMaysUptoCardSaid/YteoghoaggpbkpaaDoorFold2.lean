/- Some expressions, two by two: the walk. -/
import Derived.Test.YteoghoaggpbkpaaDoorFold
namespace Go.Proofs.YteoghoaggpbkpaaDoor
open Go.RowKit Go.Shelf
set_option linter.unusedVariables false
set_option linter.unusedSimpArgs false
attribute [local go_sem] Oper.semAt_some

theorem block_own {b : Nat} {cs : Array Value} {t : TypeId} {f : Nat × Nat} {β : Type} : Own (fun (_ : β) W => W.heap[b]? = some (.cells cs t f)) := fun s X Y row hs hg hrow =>
  (grownBy_keeps_cells hg hrow hs rfl).trans hs
theorem four_blocks (w : World) (o1 o2 o3 o4 : Obj) : (((((w.alloc o1).alloc o2).alloc o3).alloc o4).heap[w.heap.size]? = some o1 ∧ ((((w.alloc o1).alloc o2).alloc o3).alloc o4).heap[w.heap.size + 1]? = some o2 ∧
    ((((w.alloc o1).alloc o2).alloc o3).alloc o4).heap[w.heap.size + 1 + 1]? = some o3 ∧ ((((w.alloc o1).alloc o2).alloc o3).alloc o4).heap[w.heap.size + 1 + 1 + 1]? = some o4) := by
  refine ⟨?_, ?_, ?_, ?_⟩
  · rw [Below.heap_alloc _ _ _ (by simp only [World.size_alloc]; omega), Below.heap_alloc _ _ _ (by simp only [World.size_alloc]; omega), Below.heap_alloc _ _ _ (by simp)]
    exact World.alloc_heap_new w o1
  · rw [Below.heap_alloc _ _ _ (by simp only [World.size_alloc]; omega), Below.heap_alloc _ _ _ (by simp)]
    have := World.alloc_heap_new (w.alloc o1) o2
    simpa using this
  · rw [Below.heap_alloc _ _ _ (by simp)]
    have := World.alloc_heap_new ((w.alloc o1).alloc o2) o3
    simpa using this
  · have := World.alloc_heap_new (((w.alloc o1).alloc o2).alloc o3) o4
    simpa using this

set_option maxRecDepth 100000 in
set_option maxHeartbeats 8000000 in
theorem fold_in (F : Fence) (n : Nat) (h1 : F.fn 76) (h2 : F.fn 95) (h3 : F.fn 107) (hro : F.round = none) (hn : 6 ≤ n)
    {ok : Nat → Prop} (kv nv : Int) (kd nn : UInt8) (hkv : kv = (kd.toNat : Int)) (hnv : nv = (nn.toNat : Int)) (ts : List Re) (A : Option Addr) (c : Nat) (w : World) (hm : ts.length ≤ 1000000000) (hc : ts.length ≤ c) (hr : InRow RE ok w ts A 0) :
    CallsIn F n Tryd.prog 76 #[.int .u8 kv, .int .u8 nv, .slice A ts.length c] w (RePost ok (foldT kd nn ts) w) := by
  subst hkv hnv
  have h1n : 1 ≤ n := by omega
  refine callsIn_of_wp_marks Tryd.func76 rfl h1 ?_ hro
  simp only [Tryd.ntmps76, List.size_toArray, List.length_cons, List.length_nil, Nat.reduceAdd, Nat.reduceSub, Array.replicate_succ, Array.replicate_zero, List.push_toArray, List.append_toArray, List.nil_append, List.cons_append]
  rcases List.eq_nil_or_concat ts with rfl | ⟨xs, z, hcat⟩
  · gi_wp2
    refine ⟨reV ⟨nn, S4.zero⟩ none 0 0, by simp [results, Tryd.results76, go_sem]; exact ⟨rfl, rfl, rfl, rfl⟩, _, rfl, ⟨⟨nn, S4.zero⟩, [], none, 0, rfl, Nat.le_refl _, rfl, by simp [InRow]⟩, below_new (below_new (Below.refl _ _) _) _⟩
  · rw [List.concat_eq_append] at hcat
    subst hcat
    have hT := Lib.hid (foldT_acc kd nn z xs)
    obtain ⟨len, hlen⟩ : ∃ len, xs.length = len := ⟨_, rfl⟩
    have hl1 : (xs ++ [z]).length = len + 1 := by simp [hlen]
    obtain ⟨t, ad, h, ks, A1, c1, hA, hx, hz, hc1, hr1, q0, q1, q2, q3, q4, q5⟩ := re_at hr (show len < (xs ++ [z]).length by omega)
    subst hA
    have hzt : t = z := by
      rw [List.getElem?_append_right (by omega)] at hx
      simp [hlen] at hx
      exact hx.symm
    subst hzt
    obtain ⟨rs, e1, e2, e3⟩ := els_of hr len (by omega)
    have HRS := Lib.hid e2
    have HE := Lib.hid e3
    have HR := Lib.hid hr
    have HZ := Lib.hid hz
    clear hz
    rw [hl1] at hc hm ⊢
    clear e2 e3 hx hr
    have gl : ((len + 1 : Nat) : Int) - 1 = (len : Int) := by omega
    have gw : IntKind.i64.wrap ((len : Int) + 1 - 1) = (len : Int) := by
      rw [show (len : Int) + 1 - 1 = (len : Int) by omega]; exact IntWalk.i64_in _ (by omega)
    have g0 : ((len : Int) + 1 == 0) = false := by simp; omega
    have z0 := fun o1 o2 => keep_cell (below_new (below_new (Below.refl _ w) o1) o2) q0
    have z1 := fun o1 o2 => keep_cell (below_new (below_new (Below.refl _ w) o1) o2) q1
    have z2 := fun o1 o2 => keep_cell (below_new (below_new (Below.refl _ w) o1) o2) q2
    have z3 := fun o1 o2 => keep_cell (below_new (below_new (Below.refl _ w) o1) o2) q3
    have z4 := fun o1 o2 => keep_cell (below_new (below_new (Below.refl _ w) o1) o2) q4
    have z5 := fun o1 o2 => keep_cell (below_new (below_new (Below.refl _ w) o1) o2) q5
    gi_wp2_with (gi_at_call 95; refine (back_in F (n - 1) h2 hro _ _ _ _).mono ?_; rintro e w' ⟨rfl, rfl⟩)
    have hadb := World.block_lt_of_cell? _ _ q0
    rw [add_blk] at hadb
    clear z0 z1 z2 z3 z4 z5 q0 q1 q2 q3 q4 q5 g0 gl gw
    obtain ⟨n0, n1, n2, n3⟩ := four_blocks w (.cells #[.int .u8 (kd.toNat : Int)] 5) (.cells #[.int .u8 0, .int .u64 0, .int .u64 0, .int .u64 0, .int .u64 0, .slice none 0 0] 42) (.cells (reA h A1 ks.length c1) 42) (.cells #[.slice (some ad) len c] 40)
    have hB0 : Below w.heap.size w ((((w.alloc (.cells #[.int .u8 (kd.toNat : Int)] 5)).alloc (.cells #[.int .u8 0, .int .u64 0, .int .u64 0, .int .u64 0, .int .u64 0, .slice none 0 0] 42)).alloc (.cells (reA h A1 ks.length c1) 42)).alloc (.cells #[.slice (some ad) len c] 40)) :=
      below_new (below_new (below_new (below_new (Below.refl _ _) _) _) _) _
    have hsz : ((((w.alloc (.cells #[.int .u8 (kd.toNat : Int)] 5)).alloc (.cells #[.int .u8 0, .int .u64 0, .int .u64 0, .int .u64 0, .int .u64 0, .slice none 0 0] 42)).alloc (.cells (reA h A1 ks.length c1) 42)).alloc (.cells #[.slice (some ad) len c] 40)).heap.size = w.heap.size + 4 := by simp
    obtain ⟨W0, hW0⟩ : ∃ W0, ((((w.alloc (.cells #[.int .u8 (kd.toNat : Int)] 5)).alloc (.cells #[.int .u8 0, .int .u64 0, .int .u64 0, .int .u64 0, .int .u64 0, .slice none 0 0] 42)).alloc (.cells (reA h A1 ks.length c1) 42)).alloc (.cells #[.slice (some ad) len c] 40)) = W0 := ⟨_, rfl⟩
    rw [hW0] at n0 n1 n2 n3 hB0 hsz
    have hO0 : OutAt (fun b => ok b ∨ w.heap.size ≤ b) W0 (w.heap.size + 1 + 1) (w.heap.size + 1) t := ⟨h, ks, A1, c1, HZ.out, hc1, n2, (hr1.there.below hB0).weak fun b hb => ⟨.inl hb.1, by have := hb.2; omega, by have := hb.2; omega⟩⟩
    rw [hW0]
    clear hW0
    refine wpIn_rangeFunc_ownH hro h1n (gf := 107) (lb := #[.pointer (some ⟨w.heap.size + 1 + 1 + 1, 0, none⟩)]) rfl h3 (enters_of Tryd.func107 (by kernel_rfl) rfl)
      (back_stops F (n - 1) h3 hro (by omega) (w.heap.size + 1 + 1 + 1) w.heap.size c ad rs (by omega) W0 (by omega) (by omega) hadb (by rw [e1]; exact cell_of_one n3) (fun k x hx => ⟨by rw [e1]; exact (HE.out k x hx).1, (HE.out k x hx).2.keep hB0 hadb⟩))
      BackK.trans (fun W l o o' hl ho hoc how => ⟨(Below.refl _ _).grown (grownBy_putObj' W l o') (by have := (Array.getElem?_eq_some_iff.1 ho).1; omega) (fun r e => by cases e; omega), (grownBy_putObj' W l o').block _ (by have := (Array.getElem?_eq_some_iff.1 ho).1; omega) (fun e => by cases e; omega)⟩) (Below.refl _ _) (fun _ => rfl)
      (fun pre W => (OutAt (fun b => ok b ∨ w.heap.size ≤ b) W (w.heap.size + 1 + 1) (w.heap.size + 1) (foldAcc kd t (pre.map El.t)) ∧ (W.heap[w.heap.size]? = some (.cells #[.int .u8 (kd.toNat : Int)] 5 (0, 0)) ∧ W.heap[w.heap.size + 1]? = some (.cells #[.int .u8 0, .int .u64 0, .int .u64 0, .int .u64 0, .int .u64 0, .slice none 0 0] 42 (0, 0)) ∧ W.heap[w.heap.size + 1 + 1 + 1]? = some (.cells #[.slice (some ad) len c] 40 (0, 0)))) ∧ Below w.heap.size w W)
      (fun _ _ _ => False)
      (OwnFrom.and (OwnFrom.and (Own.from (outAt_own _) _) (OwnFrom.and (Own.from block_own _) (OwnFrom.and (Own.from block_own _) (Own.from block_own _)))) (ownFrom_below (Nat.le_refl _) (by omega)))
      (fun _ _ _ _ _ hs _ _ => hs)
      ⟨⟨hO0, n0, n1, n3⟩, hB0⟩
      (fun x a' W => ∃ Bx, w.heap.size + 4 ≤ Bx ∧ W.heap[Bx]? = some (.cells (reA x.h x.A x.ks.length x.c) 42 (0, 0)) ∧ a' = { tmps := #[.int .u8 (kd.toNat : Int), .int .u8 (nn.toNat : Int), .slice (some ad) (len + 1) c, .pointer (some ⟨w.heap.size, 0, none⟩), undef, undef, .pointer (some ⟨w.heap.size + 1, 0, none⟩), .pointer (some ⟨w.heap.size + 1 + 1, 0, none⟩), undef, .pointer (some ⟨Bx, 0, none⟩),
        .slice (some ad) (len + 1) c, .int .i64 ((len : Int) + 1), .bool false, undef, undef, .slice (some ad) (len + 1) c, .slice (some ad) (len + 1) c, .int .i64 ((len : Int) + 1), .int .i64 (len : Int), .pointer (some (ad.add (len * 6))), reV h A1 ks.length c1, .slice (some ad) (len + 1) c, .slice (some ad) (len + 1) c, .int .i64 ((len : Int) + 1), .int .i64 (len : Int), .slice (some ad) len c,
        .func (.func 107) #[] #[.pointer (some ⟨w.heap.size + 1 + 1 + 1, 0, none⟩)], .int .i64 (x.i : Int), reV x.h x.A x.ks.length x.c, undef, undef, undef, undef, undef, undef], defers := [] })
      (fun x a' s X Y row hs hg hr => by obtain ⟨Bx, h1, h2, h3⟩ := hs; exact ⟨Bx, h1, (grownBy_keeps_cells hg (fun r e => (hr r e).2) h2 rfl).trans h2, h3⟩)
      ?assign ?body ?done ?stop
    case assign =>
      rintro l pre x W K hi hK
      obtain ⟨i, h', ks', A', c', hc', hr'⟩ := x
      simp only [El.encs]
      gi_wp2
      exact hK _ _ ((KeepsOthers.alloc _ _).from _) ⟨(Below.refl _ W).alloc hi.2.size _, Below.heap_alloc _ _ _ (lt_of_block hi.1.2.2.2)⟩ ⟨⟨hi.1.1.alloc _, heap_keep hi.1.2.1 _, heap_keep hi.1.2.2.1 _, heap_keep hi.1.2.2.2 _⟩, hi.2.alloc hi.2.size _⟩ ⟨W.heap.size, by have := lt_of_block hi.1.2.2.2; omega, World.alloc_heap_new W _, rfl⟩
    case body =>
      rintro l pre x a' W hl ⟨r, hr⟩ ⟨⟨hO, hB3, hB6, hBs⟩, hB1⟩ ⟨Bx, hBx, bX, rfl⟩ hlt
      obtain ⟨i, h', ks', A', c', hc', hr'⟩ := x
      obtain ⟨h2, ks2, A2, c2, eo, hc2, hh2, hr2⟩ := hO
      dsimp only at bX
      obtain ⟨⟨x0, x1, x2, x3, x4, x5⟩, f0, f1, f2, f3, f4, f5⟩ := re_cells bX
      obtain ⟨⟨y0, y1, y2, y3, y4, y5⟩, g0, g1, g2, g3, g4, g5⟩ := re_cells hh2
      have k0 := cell_of_one hB3
      have yy0 := fun o => (re_cells (heap_keep hh2 o)).1.1
      have yy1 := fun o => (re_cells (heap_keep hh2 o)).1.2.1
      have yy2 := fun o => (re_cells (heap_keep hh2 o)).1.2.2.1
      have yy3 := fun o => (re_cells (heap_keep hh2 o)).1.2.2.2.1
      have yy4 := fun o => (re_cells (heap_keep hh2 o)).1.2.2.2.2.1
      have yy5 := fun o => (re_cells (heap_keep hh2 o)).1.2.2.2.2.2
      have gg0 := fun o => (re_cells (heap_keep hh2 o)).2.1
      have gg1 := fun o => (re_cells (heap_keep hh2 o)).2.2.1
      have gg2 := fun o => (re_cells (heap_keep hh2 o)).2.2.2.1
      have gg3 := fun o => (re_cells (heap_keep hh2 o)).2.2.2.2.1
      have gg4 := fun o => (re_cells (heap_keep hh2 o)).2.2.2.2.2.1
      have gg5 := fun o => (re_cells (heap_keep hh2 o)).2.2.2.2.2.2
      gi_wp2
      have hs1 := lt_of_block hBs
      have hst := out_step (P := fun b => ok b ∨ w.heap.size ≤ b) (b' := w.heap.size + 1) (kd := kd) (h' := h') (ks' := ks') (A' := A') (c' := c') hh2 (by omega) (.inr (by omega)) hc' hc2 ((hr'.below hB1).weak fun b hb => ⟨.inl hb.1, by have := hb.2; omega, by have := hb.2; omega⟩) hr2 rfl
      refine ⟨((((((((KeepsOthers.alloc _ _).trans (KeepsOthers.setCell _ _ _)).trans (KeepsOthers.setCell _ _ _)).trans (KeepsOthers.setCell _ _ _)).trans (KeepsOthers.setCell _ _ _)).trans (KeepsOthers.setCell _ _ _)).trans (KeepsOthers.setCell _ _ _)).from _), ⟨six_below ((Below.refl _ W).alloc hB1.size _) (by omega), (six_other (by omega)).trans (Below.heap_alloc _ _ _ hs1)⟩, ⟨?_, (six_other (by omega)).trans (heap_keep hB3 _), (six_other (by omega)).trans (heap_keep hB6 _), (six_other (by omega)).trans (heap_keep hBs _)⟩, six_below (hB1.alloc hB1.size _) (by omega)⟩
      rw [List.map_append, foldAcc, List.foldl_append]
      unfold foldAcc at eo
      rw [eo]
      exact hst
    case done =>
      rintro D ys W hD rfl ⟨⟨hO, hB3, hB6, hBs⟩, hB1⟩ hK
      obtain ⟨h2, ks2, A2, c2, eo, hc2, hh2, hr2⟩ := hO
      obtain ⟨⟨y0, y1, y2, y3, y4, y5⟩, g0, g1, g2, g3, g4, g5⟩ := re_cells hh2
      obtain ⟨⟨x0, x1, x2, x3, x4, x5⟩, f0, f1, f2, f3, f4, f5⟩ := re_cells hB6
      gi_wp2
      have hTT : foldT kd nn (xs ++ [t]) = .mk h2 ks2 := by
        rw [hT.out, ← eo, HRS.out]
        congr 2
        rw [← hlen, List.take_left]
      have hDn : D ≠ w.heap.size + 1 := by omega
      refine ⟨by simp, .inl ⟨_, _, rfl, run_takeDeferred ((six_other hDn).trans hK), ?_⟩⟩
      have h6 := six_setCells (u0 := .int .u8 (h2.k.toNat : Int)) (u1 := .int .u64 (h2.s.a.toNat : Int)) (u2 := .int .u64 (h2.s.b.toNat : Int)) (u3 := .int .u64 (h2.s.c.toNat : Int)) (u4 := .int .u64 (h2.s.d.toNat : Int)) (u5 := .slice A2 ks2.length c2) hB6
      have hbY : Below w.heap.size w ((((((W.setCell ⟨w.heap.size + 1, 0, none⟩ (.int .u8 (h2.k.toNat : Int))).setCell ⟨w.heap.size + 1, 1, none⟩ (.int .u64 (h2.s.a.toNat : Int))).setCell ⟨w.heap.size + 1, 2, none⟩ (.int .u64 (h2.s.b.toNat : Int))).setCell ⟨w.heap.size + 1, 3, none⟩ (.int .u64 (h2.s.c.toNat : Int))).setCell ⟨w.heap.size + 1, 4, none⟩ (.int .u64 (h2.s.d.toNat : Int))).setCell ⟨w.heap.size + 1, 5, none⟩ (.slice A2 ks2.length c2)) := six_below hB1 (by omega)
      have hkY : ∀ (a : Addr) (v : Value), ((ok a.block ∨ w.heap.size ≤ a.block) ∧ a.block ≠ w.heap.size + 1 + 1 ∧ a.block ≠ w.heap.size + 1) → W.cell? a = some v → ((((((W.setCell ⟨w.heap.size + 1, 0, none⟩ (.int .u8 (h2.k.toNat : Int))).setCell ⟨w.heap.size + 1, 1, none⟩ (.int .u64 (h2.s.a.toNat : Int))).setCell ⟨w.heap.size + 1, 2, none⟩ (.int .u64 (h2.s.b.toNat : Int))).setCell ⟨w.heap.size + 1, 3, none⟩ (.int .u64 (h2.s.c.toNat : Int))).setCell ⟨w.heap.size + 1, 4, none⟩ (.int .u64 (h2.s.d.toNat : Int))).setCell ⟨w.heap.size + 1, 5, none⟩ (.slice A2 ks2.length c2)).cell? a = some v :=
        fun a v ha hv => (World.cell?_of_block (six_other ha.2.2)).trans hv
      have hrY := hr2.keep (fun _ h => h) hkY
      have hDY : ((((((W.setCell ⟨w.heap.size + 1, 0, none⟩ (.int .u8 (h2.k.toNat : Int))).setCell ⟨w.heap.size + 1, 1, none⟩ (.int .u64 (h2.s.a.toNat : Int))).setCell ⟨w.heap.size + 1, 2, none⟩ (.int .u64 (h2.s.b.toNat : Int))).setCell ⟨w.heap.size + 1, 3, none⟩ (.int .u64 (h2.s.c.toNat : Int))).setCell ⟨w.heap.size + 1, 4, none⟩ (.int .u64 (h2.s.d.toNat : Int))).setCell ⟨w.heap.size + 1, 5, none⟩ (.slice A2 ks2.length c2)).heap[D]? = some (.deferred (some [])) := (six_other hDn).trans hK
      generalize (((((W.setCell ⟨w.heap.size + 1, 0, none⟩ (.int .u8 (h2.k.toNat : Int))).setCell ⟨w.heap.size + 1, 1, none⟩ (.int .u64 (h2.s.a.toNat : Int))).setCell ⟨w.heap.size + 1, 2, none⟩ (.int .u64 (h2.s.b.toNat : Int))).setCell ⟨w.heap.size + 1, 3, none⟩ (.int .u64 (h2.s.c.toNat : Int))).setCell ⟨w.heap.size + 1, 4, none⟩ (.int .u64 (h2.s.d.toNat : Int))).setCell ⟨w.heap.size + 1, 5, none⟩ (.slice A2 ks2.length c2) = Y at *
      have hg := grownBy_putObj' Y D (.deferred none)
      have h6' := (hg.block _ (lt_of_block h6) (fun e => hDn (by cases e; rfl))).trans h6
      obtain ⟨⟨p0, p1, p2, p3, p4, p5⟩, _⟩ := re_cells h6'
      refine ⟨reV h2 A2 ks2.length c2, by simp [results, Tryd.results76, go_sem, p0, p1, p2, p3, p4, p5], _, rfl, ⟨h2, ks2, A2, c2, hTT, hc2, rfl, ?_⟩, hbY.grown hg hbY.size (fun k e => by cases e; omega)⟩
      exact hrY.keep (fun _ hb => hb.1) (fun a v _ hv => cell_kept hv hg (fun r e => by cases e; exact ⟨_, hDY, rfl⟩))
    case stop =>
      rintro D c pre W _ _ h _
      exact h.elim

theorem fold_any {ok : Nat → Prop} (kv nv : Int) (kd nn : UInt8) (hkv : kv = (kd.toNat : Int)) (hnv : nv = (nn.toNat : Int)) (ts : List Re) (A : Option Addr) (c : Nat) (w : World) (hm : ts.length ≤ 1000000000) (hc : ts.length ≤ c) (hr : InRow RE ok w ts A 0) :
    Calls Tryd.prog 76 #[.int .u8 kv, .int .u8 nv, .slice A ts.length c] w (RePost ok (foldT kd nn ts) w) :=
  callsIn_wide.1 (fold_in Fence.wide 6 trivial trivial trivial rfl (Nat.le_refl _) kv nv kd nn hkv hnv ts A c w hm hc hr)
end Go.Proofs.YteoghoaggpbkpaaDoor
