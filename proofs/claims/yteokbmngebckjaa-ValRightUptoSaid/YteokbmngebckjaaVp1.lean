/- val.Posix, of a value that is the right one of its text. -/
import Derived.Test.YteokbmngebckjaaVf1
import Derived.Test.YteokbmngebckjaaVs1
import Derived.Test.YteokbmngebckjaaVi4
import Derived.Test.YteokbmngebckjaaRc1
import Derived.Test.YteokbmngebckjaaBk
import Derived.Test.YteokbmngebckjaaIsQ
import Derived.Deep.RegionHeld3
namespace Go.Proofs.Yteokbmngebckjaa
open Go.RowKit
set_option linter.unusedVariables false
set_option linter.unusedSimpArgs false

theorem nB {w : World} {z o : Obj} : ((w.alloc z).alloc o).heap[w.heap.size + 1]? = some o := by
  have := new_at1 (w := w.alloc z) o
  rwa [World.size_alloc] at this
theorem nC {w : World} {z o : Obj} : ((w.alloc o).alloc z).heap[w.heap.size]? = some o := heap_keep1 (new_at1 (w := w) o) z
theorem nA1 {w : World} {o : Obj} : ((w.alloc o).drew).heap[w.heap.size]? = some o := new_at1 (w := w) o
theorem nA2 {w : World} {o : Obj} : ((w.drew).alloc o).heap[w.heap.size]? = some o := new_at1 (w := w) o
theorem nB1 {w : World} {z o : Obj} : (((w.alloc z).alloc o).drew).heap[w.heap.size + 1]? = some o := nB (w := w)
theorem nB2 {w : World} {z o : Obj} : (((w.drew).alloc z).alloc o).heap[w.heap.size + 1]? = some o := nB (w := w)
theorem nB3 {w : World} {z o : Obj} : (((w.alloc z).drew).alloc o).heap[w.heap.size + 1]? = some o := nB (w := w)
theorem nC1 {w : World} {z o : Obj} : (((w.alloc o).alloc z).drew).heap[w.heap.size]? = some o := nC (w := w)
theorem nC2 {w : World} {z o : Obj} : (((w.drew).alloc o).alloc z).heap[w.heap.size]? = some o := nC (w := w)
theorem nC3 {w : World} {z o : Obj} : (((w.alloc o).drew).alloc z).heap[w.heap.size]? = some o := nC (w := w)
theorem lt_some {w : World} {k : Nat} {o : Obj} (h : w.heap[k]? = some o) : k < w.heap.size := (Array.getElem?_eq_some_iff.1 h).1
theorem kB1 {w x : World} {z o : Obj} (h : Below (((w.alloc z).alloc o).drew).heap.size (((w.alloc z).alloc o).drew) x) : x.heap[w.heap.size]? = some z := (h.block _ (lt_some (nC1 (w := w) (o := z) (z := o)))).trans (nC1 (w := w))
theorem kB2 {w x : World} {z o : Obj} (h : Below (((w.drew).alloc z).alloc o).heap.size (((w.drew).alloc z).alloc o) x) : x.heap[w.heap.size]? = some z := (h.block _ (lt_some (nC2 (w := w) (o := z) (z := o)))).trans (nC2 (w := w))
theorem kB3 {w x : World} {z o : Obj} (h : Below (((w.alloc z).drew).alloc o).heap.size (((w.alloc z).drew).alloc o) x) : x.heap[w.heap.size]? = some z := (h.block _ (lt_some (nC3 (w := w) (o := z) (z := o)))).trans (nC3 (w := w))
theorem kC1 {w x : World} {z o : Obj} (h : Below (((w.alloc o).alloc z).drew).heap.size (((w.alloc o).alloc z).drew) x) : x.heap[w.heap.size + 1]? = some z := (h.block _ (lt_some (nB1 (w := w) (o := z) (z := o)))).trans (nB1 (w := w))
theorem kC2 {w x : World} {z o : Obj} (h : Below (((w.drew).alloc o).alloc z).heap.size (((w.drew).alloc o).alloc z) x) : x.heap[w.heap.size + 1]? = some z := (h.block _ (lt_some (nB2 (w := w) (o := z) (z := o)))).trans (nB2 (w := w))
theorem kC3 {w x : World} {z o : Obj} (h : Below (((w.alloc o).drew).alloc z).heap.size (((w.alloc o).drew).alloc z) x) : x.heap[w.heap.size + 1]? = some z := (h.block _ (lt_some (nB3 (w := w) (o := z) (z := o)))).trans (nB3 (w := w))
theorem nk3 {w0 wi : World} {o : Obj} (h : Below (w0.alloc o).heap.size (w0.alloc o) wi) : wi.heap[w0.heap.size]? = some o := (h.block _ (by rw [World.size_alloc]; omega)).trans (new_at1 _)
set_option maxRecDepth 100000 in
set_option maxHeartbeats 4000000 in
theorem vPosLit_any (okr okv : Nat → Prop) (b : Nat) (h : RH) (ks : List Re) (A : Option Addr) (c : Nat) (h2 : VH) (ls : List Va) (A2 : Option Addr) (c2 : Nat) (S : ByteArray) (w : World) (hm : T.sizes ks ≤ 900000) (hc : ks.length ≤ c) (hc2 : ls.length ≤ c2) (hr : InRow RE okr w ks A 0) (hr2 : InRow VE okv w ls A2 0) (hb : w.heap[b]? = some (.cells (reA h A ks.length c) 34 (0, 0)))
    (hfl : flatV (.mk h2 ls) = S.data.toList) (hS : S.size ≤ 100) (hm2 : T.sizes ls ≤ 900000) (hrv : RightRel (.mk h ks) S.data.toList (.mk h2 ls) true) :
    Calls Try.prog 52 #[vaV h2 A2 ls.length c2, .pointer (some ⟨b, 0, none⟩)] w fun e w' => e = .returned (.bool false) ∧ Below w.heap.size w w' := by
  obtain ⟨U, hU⟩ : ∃ U, w.alloc (.cells (vaA h2 A2 ls.length c2) 24) = U := ⟨_, rfl⟩
  have hbU : Below w.heap.size w U := by rw [← hU]; exact below_new (Below.refl _ _) _
  have e1 : U.heap[w.heap.size]? = some (.cells (vaA h2 A2 ls.length c2) 24 (0, 0)) := by rw [← hU]; exact new_at1 _
  have e0 := (hbU.block _ (lt_of_block hb)).trans hb
  have Q : Hid (∀ X, Below U.heap.size U X → X.cell? ⟨b, 0, none⟩ = some (.int .u8 (h.k.toNat : Int)) ∧ X.cell? ⟨b, 1, none⟩ = some (.int .u64 (h.s.a.toNat : Int)) ∧ X.cell? ⟨b, 2, none⟩ = some (.int .u64 (h.s.b.toNat : Int)) ∧ X.cell? ⟨b, 3, none⟩ = some (.int .u64 (h.s.c.toNat : Int)) ∧ X.cell? ⟨b, 4, none⟩ = some (.int .u64 (h.s.d.toNat : Int)) ∧ X.cell? ⟨b, 5, none⟩ = some (.slice A ks.length c) ∧ X.cell? ⟨w.heap.size, 0, none⟩ = some (.int .u8 (h2.k.toNat : Int)) ∧ X.cell? ⟨w.heap.size, 1, none⟩ = some (.int .u8 (h2.b.toNat : Int)) ∧ X.cell? ⟨w.heap.size, 2, none⟩ = some (.slice A2 ls.length c2)) := fun X hX => by
    obtain ⟨x0, x1, x2, x3, x4, x5⟩ := re_at_box ((hX.block _ (lt_of_block e0)).trans e0)
    obtain ⟨y0, y1, y2⟩ := va_at_box ((hX.block _ (lt_of_block e1)).trans e1)
    exact ⟨x0, x1, x2, x3, x4, x5, y0, y1, y2⟩
  have CF2 : Hid (∀ X (k : Nat), Below U.heap.size U X → X.heap[k]? = some (.cells (vaA h2 A2 ls.length c2) 24 (0, 0)) → Calls Try.prog 25 #[.slice (some ⟨k, 0, none⟩) 1 1] X fun e w' => e = .returned (.string S) ∧ Below X.heap.size X w') := fun X k hX hk => by
    have hrow := va_one (P := fun _ => True) hk trivial hc2 ((hr2.weak (ok' := fun _ => True) fun _ _ => trivial).below (below_from hbU hX))
    have := vflat_upto 1000000000 (fun _ => True) [.mk h2 ls] (some ⟨k, 0, none⟩) 1 X (by simp only [T.sizes, T.size]; omega) (Nat.le_refl _) hrow
    rw [show flatVs [T.mk h2 ls] = S.data.toList by rw [← hfl]; simp [flatVs], ← ba_str S] at this
    exact this
  have CB2 : Hid (∀ X, Below U.heap.size U X → Calls Try.prog 18 #[reV h A ks.length c, .string S] X (RightPost (.mk h ks) S.data.toList X)) := fun X hX => vRight_any h ks A c S X hm hc (hr.below (below_from hbU hX)) hS
  have HR2 := Lib.hid ((hr2.weak (ok' := fun _ => True) fun _ _ => trivial).below hbU)
  have HRV := Lib.hid hrv
  have HE := Lib.hid hU
  have HB := Lib.hid hbU
  have E1 := Lib.hid e1
  clear hU hbU e1 e0 hr hr2 hb hfl hrv
  go_enter Try.func52, Try.ntmps52
  go_upto_region 1 with fail
  rw [show w.alloc _ = U from HE.out]
  go_cut [4, 5] from 6 to 13 (fun q e wx => e = .bool true ∧ BoxV (fun _ => True) U (.mk h2 ls) q wx)
  case first =>
    have hz := Below.refl U.heap.size U
    obtain ⟨x0, x1, x2, x3, x4, x5, y0, y1, y2⟩ := Q.out _ hz
    go_region_held3 (fun X => X.cell? ⟨b, 0, none⟩ = some (.int .u8 (h.k.toNat : Int)) ∧ X.cell? ⟨b, 1, none⟩ = some (.int .u64 (h.s.a.toNat : Int)) ∧ X.cell? ⟨b, 2, none⟩ = some (.int .u64 (h.s.b.toNat : Int)) ∧ X.cell? ⟨b, 3, none⟩ = some (.int .u64 (h.s.c.toNat : Int)) ∧ X.cell? ⟨b, 4, none⟩ = some (.int .u64 (h.s.d.toNat : Int)) ∧ X.cell? ⟨b, 5, none⟩ = some (.slice A ks.length c) ∧ X.cell? ⟨w.heap.size, 0, none⟩ = some (.int .u8 (h2.k.toNat : Int)) ∧ X.cell? ⟨w.heap.size, 1, none⟩ = some (.int .u8 (h2.b.toNat : Int)) ∧ X.cell? ⟨w.heap.size, 2, none⟩ = some (.slice A2 ls.length c2))
      ((refine Q.out _ ?_; (repeat (first | with_reducible exact hz | with_reducible refine Below.drew ?_ | with_reducible refine below_new ?_ _ | (with_reducible refine Below.setCell ?_ (by first | exact Nat.le_refl _ | (simp; done) | (simp; omega)) _)))))
      (first
        | (go_at_call 25; (with_reducible refine Calls.mono (CF2.out _ _ ?h1 ?h2) ?_); (case h1 => (repeat (first | with_reducible exact hz | with_reducible refine Below.drew ?_ | with_reducible refine below_new ?_ _ | (with_reducible refine Below.setCell ?_ (by first | exact Nat.le_refl _ | (simp; done) | (simp; omega)) _)))); (case h2 => (first | with_reducible exact new_at1 _ | with_reducible exact nA1 | with_reducible exact nA2 | with_reducible exact nB | with_reducible exact nB1 | with_reducible exact nB2 | with_reducible exact nB3 | with_reducible exact nC | with_reducible exact nC1 | with_reducible exact nC2 | with_reducible exact nC3)); rintro e wf ⟨rfl, hbf⟩; (try (first | (have hnk := kB1 (z := (.cells #[.int .u8 0, .int .u8 0, .slice none 0 0] 24)) hbf; obtain ⟨⟨r0, r1, r2⟩, g0, g1, g2⟩ := va_cells hnk; have hzl := lt_of_block hnk; have zr0 := fun o => keep_cell (below_new (Below.refl _ wf) o) r0; have zr1 := fun o => keep_cell (below_new (Below.refl _ wf) o) r1; have zr2 := fun o => keep_cell (below_new (Below.refl _ wf) o) r2; have zg0 := fun o => (va_cells (heap_keep1 hnk o)).2.1; have zg1 := fun o => (va_cells (heap_keep1 hnk o)).2.2.1; have zg2 := fun o => (va_cells (heap_keep1 hnk o)).2.2.2) | (have hnk := kB2 (z := (.cells #[.int .u8 0, .int .u8 0, .slice none 0 0] 24)) hbf; obtain ⟨⟨r0, r1, r2⟩, g0, g1, g2⟩ := va_cells hnk; have hzl := lt_of_block hnk; have zr0 := fun o => keep_cell (below_new (Below.refl _ wf) o) r0; have zr1 := fun o => keep_cell (below_new (Below.refl _ wf) o) r1; have zr2 := fun o => keep_cell (below_new (Below.refl _ wf) o) r2; have zg0 := fun o => (va_cells (heap_keep1 hnk o)).2.1; have zg1 := fun o => (va_cells (heap_keep1 hnk o)).2.2.1; have zg2 := fun o => (va_cells (heap_keep1 hnk o)).2.2.2) | (have hnk := kB3 (z := (.cells #[.int .u8 0, .int .u8 0, .slice none 0 0] 24)) hbf; obtain ⟨⟨r0, r1, r2⟩, g0, g1, g2⟩ := va_cells hnk; have hzl := lt_of_block hnk; have zr0 := fun o => keep_cell (below_new (Below.refl _ wf) o) r0; have zr1 := fun o => keep_cell (below_new (Below.refl _ wf) o) r1; have zr2 := fun o => keep_cell (below_new (Below.refl _ wf) o) r2; have zg0 := fun o => (va_cells (heap_keep1 hnk o)).2.1; have zg1 := fun o => (va_cells (heap_keep1 hnk o)).2.2.1; have zg2 := fun o => (va_cells (heap_keep1 hnk o)).2.2.2) | (have hnk := kC1 (z := (.cells #[.int .u8 0, .int .u8 0, .slice none 0 0] 24)) hbf; obtain ⟨⟨r0, r1, r2⟩, g0, g1, g2⟩ := va_cells hnk; have hzl := lt_of_block hnk; have zr0 := fun o => keep_cell (below_new (Below.refl _ wf) o) r0; have zr1 := fun o => keep_cell (below_new (Below.refl _ wf) o) r1; have zr2 := fun o => keep_cell (below_new (Below.refl _ wf) o) r2; have zg0 := fun o => (va_cells (heap_keep1 hnk o)).2.1; have zg1 := fun o => (va_cells (heap_keep1 hnk o)).2.2.1; have zg2 := fun o => (va_cells (heap_keep1 hnk o)).2.2.2) | (have hnk := kC2 (z := (.cells #[.int .u8 0, .int .u8 0, .slice none 0 0] 24)) hbf; obtain ⟨⟨r0, r1, r2⟩, g0, g1, g2⟩ := va_cells hnk; have hzl := lt_of_block hnk; have zr0 := fun o => keep_cell (below_new (Below.refl _ wf) o) r0; have zr1 := fun o => keep_cell (below_new (Below.refl _ wf) o) r1; have zr2 := fun o => keep_cell (below_new (Below.refl _ wf) o) r2; have zg0 := fun o => (va_cells (heap_keep1 hnk o)).2.1; have zg1 := fun o => (va_cells (heap_keep1 hnk o)).2.2.1; have zg2 := fun o => (va_cells (heap_keep1 hnk o)).2.2.2) | (have hnk := kC3 (z := (.cells #[.int .u8 0, .int .u8 0, .slice none 0 0] 24)) hbf; obtain ⟨⟨r0, r1, r2⟩, g0, g1, g2⟩ := va_cells hnk; have hzl := lt_of_block hnk; have zr0 := fun o => keep_cell (below_new (Below.refl _ wf) o) r0; have zr1 := fun o => keep_cell (below_new (Below.refl _ wf) o) r1; have zr2 := fun o => keep_cell (below_new (Below.refl _ wf) o) r2; have zg0 := fun o => (va_cells (heap_keep1 hnk o)).2.1; have zg1 := fun o => (va_cells (heap_keep1 hnk o)).2.2.1; have zg2 := fun o => (va_cells (heap_keep1 hnk o)).2.2.2))); have hz : Below U.heap.size U wf := (by refine below_from ?_ hbf; (repeat (first | with_reducible exact hz | with_reducible refine Below.drew ?_ | with_reducible refine below_new ?_ _ | (with_reducible refine Below.setCell ?_ (by first | exact Nat.le_refl _ | (simp; done) | (simp; omega)) _)))); have hzf := hz.size; obtain ⟨x0, x1, x2, x3, x4, x5, y0, y1, y2⟩ := Q.out _ hz)
        | (have hmk := hbf; go_at_call 18; (with_reducible refine (CB2.out _ ?_).mono ?_); (repeat (first | with_reducible exact hz | with_reducible refine Below.drew ?_ | with_reducible refine below_new ?_ _ | (with_reducible refine Below.setCell ?_ (by first | exact Nat.le_refl _ | (simp; done) | (simp; omega)) _))); rintro e wi ⟨h3, k3, A3, c3, b3, rfl, hrl, hc3, hr3, hbi⟩; obtain ⟨e3, rfl⟩ := rightRel_one HRV.out hrl; have EN := Lib.hid e3; clear e3 hrl; (try (have hnk := (hbi.block _ (lt_of_block hnk)).trans hnk; obtain ⟨⟨r0, r1, r2⟩, g0, g1, g2⟩ := va_cells hnk; have zr0 := fun o => keep_cell (below_new (Below.refl _ wi) o) r0; have zr1 := fun o => keep_cell (below_new (Below.refl _ wi) o) r1; have zr2 := fun o => keep_cell (below_new (Below.refl _ wi) o) r2; have zg0 := fun o => (va_cells (heap_keep1 hnk o)).2.1; have zg1 := fun o => (va_cells (heap_keep1 hnk o)).2.2.1; have zg2 := fun o => (va_cells (heap_keep1 hnk o)).2.2.2)); (try (have hq : Below (World.alloc wf (.cells #[.int .u8 0, .int .u8 0, .slice none 0 0] 24)).heap.size (World.alloc wf (.cells #[.int .u8 0, .int .u8 0, .slice none 0 0] 24)) wi := (by with_reducible exact hbi); have hnk := nk3 hq; obtain ⟨⟨r0, r1, r2⟩, g0, g1, g2⟩ := va_cells hnk; have zr0 := fun o => keep_cell (below_new (Below.refl _ wi) o) r0; have zr1 := fun o => keep_cell (below_new (Below.refl _ wi) o) r1; have zr2 := fun o => keep_cell (below_new (Below.refl _ wi) o) r2; have zg0 := fun o => (va_cells (heap_keep1 hnk o)).2.1; have zg1 := fun o => (va_cells (heap_keep1 hnk o)).2.2.1; have zg2 := fun o => (va_cells (heap_keep1 hnk o)).2.2.2)); have hz : Below U.heap.size U wi := (by refine below_from ?_ hbi; (repeat (first | with_reducible exact hz | with_reducible refine Below.drew ?_ | with_reducible refine below_new ?_ _ | (with_reducible refine Below.setCell ?_ (by first | exact Nat.le_refl _ | (simp; done) | (simp; omega)) _)))); obtain ⟨x0, x1, x2, x3, x4, x5, y0, y1, y2⟩ := Q.out _ hz)
        | fail)
    all_goals go_wp2_with fail
    all_goals go_meet
    all_goals have hzs := hz.size
    all_goals have hbs := hbf.size
    all_goals first
      | (have hlk := lt_of_block hnk
         refine ⟨rfl, _, h3, k3, A3, c3, rfl, EN.out, hc3, three_setCells hnk, ?_, three_below hz (by omega), by omega⟩
         refine (row_three (hr3.weak (ok' := fun x => wf.heap.size + 1 ≤ x) fun x hx => ?_) fun x hx => by omega).weak fun x hx => ⟨trivial, by omega⟩
         have e : (World.alloc wf (.cells #[.int .u8 0, .int .u8 0, .slice none 0 0] 24)).heap.size = wf.heap.size + 1 := World.size_alloc _ _
         have h2 : (World.alloc wf (.cells #[.int .u8 0, .int .u8 0, .slice none 0 0] 24)).heap.size ≤ x := hx
         omega)
      | (have hbs2 := hbs
         simp at hbs2
         refine ⟨rfl, _, h3, k3, A3, c3, rfl, EN.out, hc3, three_setCells hnk, ?_, three_below hz (by omega), by omega⟩
         exact (row_three (hr3.weak (ok' := fun x => wf.heap.size ≤ x) fun x hx => hx) fun x hx => by omega).weak fun x hx => ⟨trivial, by omega⟩)
      | (refine ⟨rfl, _, h3, k3, A3, c3, rfl, EN.out, hc3, new_at1 (w := wi) _, (hr3.there.below (below_new (Below.refl _ _) _)).weak (fun x hx => ⟨trivial, by have := hx.2; omega⟩), below_new hz _, by omega⟩; done)
      | fail
  case rest =>
    obtain ⟨rfl, b9, h3, k3, A3, c3, rfl, e3, hc3, n9, hr3, hz3, hb9⟩ := hcut
    obtain ⟨X3, rfl⟩ : ∃ x, x = wc := ⟨_, rfl⟩
    have hk3 : T.sizes k3 ≤ 900000 := by have hh := congrArg T.size e3; simp only [T.size] at hh; omega
    have CS : Hid (Calls Try.prog 21 #[vaV h3 A3 k3.length c3, vaV h2 A2 ls.length c2] X3 fun e w' => e = .returned (.bool true) ∧ Below X3.heap.size X3 w') := by
      have := valSame_upto 1000000000 (fun _ => True) h3 h2 k3 ls A3 A2 c3 c2 X3 (by omega) (Nat.le_refl _) (by omega) (hr3.weak fun _ _ => trivial) (HR2.out.below hz3)
      rw [← e3, sameV_refl] at this
      exact this
    obtain ⟨p0, p1, p2⟩ := va_at_box n9
    obtain ⟨q0, q1, q2⟩ := va_at_box ((hz3.block _ (lt_of_block E1.out)).trans E1.out)
    have HB3 := Lib.hid (below_from HB.out hz3)
    clear e3 hc3 n9 hr3 hz3 hb9 Q CF2 CB2
    go_wp2_with fail
    refine CS.out.mono ?_
    rintro e w8 ⟨rfl, hb8⟩
    have hq2 := below_from HB3.out hb8
    clear hb8 p0 p1 p2 q0 q1 q2
    go_wp2_with fail
    go_ret
    exact ⟨by simp, hq2⟩
set_option maxHeartbeats 4000000 in
theorem idx_vPo {ok : Nat → Prop} {cb : Nat} (p : Va → Bool) (ts : List Va) (A : Option Addr) (c : Nat) (w : World)  (hr : InRow VE ok w ts A 0) (hm : ts.length ≤ 1000000000)
    (hcall : ∀ (h : VH) (ks : List Va) (A1 : Option Addr) (c1 : Nat) (w1 : World), T.mk h ks ∈ ts → ks.length ≤ c1 → InRow VE ok w1 ks A1 0 → Below w.heap.size w w1 →
      Calls Try.prog 52 #[vaV h A1 ks.length c1, .pointer (some ⟨cb, 0, none⟩)] w1 fun e w' => e = .returned (.bool (p (.mk h ks))) ∧ Below w1.heap.size w1 w') :
    Calls Try.prog 74 #[.slice A ts.length c, .func (.func 52) #[] #[.pointer (some ⟨cb, 0, none⟩)]] w fun e w' => e = .returned (.int .i64 (idx p ts)) ∧ Below w.heap.size w w' := by
  have HC := Lib.hid hcall
  clear hcall
  go_enter Try.func74, Try.ntmps74
  go_wp2_with fail
  go_loopw [5, 8] (fun _ i wr => ∃ k : Nat, k ≤ ts.length ∧ i = .int .i64 k ∧ (∀ (j : Nat) (y : Va), j < k → ts[j]? = some y → p y = false) ∧ Below w.heap.size w wr) (fun _ i _ => ts.length - (intOf i).toNat)
  case atStart => exact ⟨0, Nat.zero_le _, rfl, fun j y h => absurd h (by omega), Below.refl _ _⟩
  case round =>
    obtain ⟨k, hk, rfl, hn, hb⟩ := hrel
    have HN := Lib.hid hn
    clear hn
    by_cases hlt : k < ts.length
    · obtain ⟨t, ad, h, ks, A1, c1, hA, hx, rfl, hc1, hr1, q0, q1, q2⟩ := va_at (hr.below hb) hlt
      subst hA
      have HX := Lib.hid hx
      have hmem := List.mem_of_getElem? hx
      clear hx hr
      go_wp2_with fail
      refine (HC.out h ks A1 c1 _ hmem hc1 hr1 hb).mono ?_
      rintro e w1 ⟨rfl, hb1⟩
      have hb2 := below_from hb hb1
      clear hb1 hr1 q0 q1 q2
      rcases hp : p (.mk h ks) with _ | _
      · have HP := Lib.hid hp
        clear hp
        go_wp2_with fail
        go_roundw
        case rel => exact ⟨k + 1, by omega, by go_num, fun j y hj hy => by
          by_cases e : j = k
          · subst e; rw [HX.out] at hy; cases hy; exact HP.out
          · exact HN.out j y (by omega) hy, hb2⟩
        case measure => simp [intOf]; omega
      · have HP := Lib.hid hp
        clear hp
        go_wp2_with fail
        go_ret
        exact ⟨by rw [idx_at _ ts k _ HX.out (fun j y hj hy => HN.out j y hj hy) HP.out]; rfl, hb2⟩
    · have hfin := Lib.hid (idx_none p ts fun j y hy => HN.out j y (by
        have := (List.getElem?_eq_some_iff.1 hy).1; omega) hy)
      go_wp2_with fail
      go_ret
      exact ⟨by rw [hfin.out]; rfl, hb⟩

theorem has_vPo {ok : Nat → Prop} {cb : Nat} (p : Va → Bool) (ts : List Va) (A : Option Addr) (c : Nat) (w : World)  (hr : InRow VE ok w ts A 0) (hm : ts.length ≤ 1000000000)
    (hcall : ∀ (h : VH) (ks : List Va) (A1 : Option Addr) (c1 : Nat) (w1 : World), T.mk h ks ∈ ts → ks.length ≤ c1 → InRow VE ok w1 ks A1 0 → Below w.heap.size w w1 →
      Calls Try.prog 52 #[vaV h A1 ks.length c1, .pointer (some ⟨cb, 0, none⟩)] w1 fun e w' => e = .returned (.bool (p (.mk h ks))) ∧ Below w1.heap.size w1 w') :
    Calls Try.prog 51 #[.slice A ts.length c, .func (.func 52) #[] #[.pointer (some ⟨cb, 0, none⟩)]] w fun e w' => e = .returned (.bool (ts.any p)) ∧ Below w.heap.size w w' := by
  have HC := Lib.hid hcall
  clear hcall
  have HA := Lib.hid (idx_any p ts)
  go_enter Try.func51, Try.ntmps51
  go_wp2_with fail
  refine (idx_vPo p ts A c _ hr hm HC.out).mono ?_
  rintro e w1 ⟨rfl, hb⟩
  go_wp2_with fail
  go_ret
  exact ⟨by rw [← HA.out]; rfl, hb⟩
set_option maxRecDepth 100000 in
set_option maxHeartbeats 4000000 in
/-- is a value, that is, the right one -/
theorem vPosix_any (okr okv : Nat → Prop) (h : RH) (ks : List Re) (A : Option Addr) (c : Nat) (h2 : VH) (ls : List Va) (A2 : Option Addr) (c2 k : Nat) (S : ByteArray) (w : World) (hm : T.sizes ks ≤ 900000) (hmy : mayB (.mk h ks) = true) (hc : ks.length ≤ c) (hc2 : ls.length ≤ c2) (hr : InRow RE okr w ks A 0) (hr2 : InRow VE okv w ls A2 0) (hk : w.heap[k]? = some (.cells (vaA h2 A2 ls.length c2) 24 (0, 0)))
    (hfl : flatV (.mk h2 ls) = S.data.toList) (hS : S.size ≤ 100) (hm2 : T.sizes ls ≤ 900000) (hrv : RightRel (.mk h ks) S.data.toList (.mk h2 ls) true) :
    Calls Try.prog 26 #[reV h A ks.length c, .slice (some ⟨k, 0, none⟩) 1 1] w fun e w' => e = .returned (.bool true) ∧ Below w.heap.size w w' := by
  obtain ⟨W, hW⟩ : ∃ W, w.alloc (.cells (reA h A ks.length c) 34) = W := ⟨_, rfl⟩
  have hbW : Below w.heap.size w W := by rw [← hW]; exact below_new (Below.refl _ _) _
  have e1W : W.heap[w.heap.size]? = some (.cells (reA h A ks.length c) 34 (0, 0)) := by rw [← hW]; exact new_at1 _
  obtain ⟨V, hV⟩ : ∃ V, W.alloc (.cells (reA h A ks.length c) 34) = V := ⟨_, rfl⟩
  have hbV : Below W.heap.size W V := by rw [← hV]; exact below_new (Below.refl _ _) _
  have e5V : V.heap[W.heap.size]? = some (.cells (reA h A ks.length c) 34 (0, 0)) := by rw [← hV]; exact new_at1 _
  have hbwV := below_from hbW hbV
  have HM : Hid (Calls Try.prog 44 #[.slice (some ⟨W.heap.size, 0, none⟩) 1 1] V fun e w' => e = .returned (.bool true) ∧ Below V.heap.size V w') := by
    have := May_any (ok := fun _ => True) [T.mk h ks] (some ⟨W.heap.size, 0, none⟩) 1 V (by simp only [T.sizes, T.size]; omega) (row_one e5V trivial hc ((hr.weak fun _ _ => trivial).below hbwV))
    unfold Hid
    simpa [hmy] using this
  have E1V := (hbV.block _ (lt_of_block e1W)).trans e1W
  have CF : Hid (∀ X, Below V.heap.size V X → Calls Try.prog 51 #[.slice (some ⟨k, 0, none⟩) 1 1, .func (.func 52) #[] #[.pointer (some ⟨w.heap.size, 0, none⟩)]] X fun e w' => e = .returned (.bool false) ∧ Below X.heap.size X w') := fun X hX => by
    have hkX := ((below_from hbwV hX).block _ (lt_of_block hk)).trans hk
    have hrow := va_one (P := fun _ => True) hkX trivial hc2 ((hr2.weak (ok' := fun _ => True) fun _ _ => trivial).below (below_from hbwV hX))
    have := has_vPo (ok := fun _ => True) (cb := w.heap.size) (fun _ => false) [T.mk h2 ls] (some ⟨k, 0, none⟩) 1 X hrow (by simp) fun h1 l1 A1 c1 w1 hm1 hc1 hr1 hbw => by
      have hb2 := below_from hX hbw
      obtain ⟨rfl, rfl⟩ := T.mk.inj (List.mem_singleton.1 hm1)
      exact vPosLit_any okr (fun _ => True) w.heap.size h ks A c _ _ A1 c1 S w1 hm hc hc1 (hr.below (below_from hbwV hb2)) hr1 ((hb2.block _ (lt_of_block E1V)).trans E1V) hfl hS hm2 hrv
    simpa using this
  have HE := Lib.hid hW
  have HV := Lib.hid hV
  have HB := Lib.hid hbwV
  have E1 := Lib.hid e1W
  clear hW hbW e1W hV hbV e5V hbwV hr hr2 E1V hk hfl hrv
  go_enter Try.func26, Try.ntmps26
  go_upto_region 1 with fail
  rw [show w.alloc _ = W from HE.out]
  obtain ⟨x0, x1, x2, x3, x4, x5⟩ := re_at_box E1.out
  go_wp2_with fail
  rw [show W.alloc _ = V from HV.out]
  refine HM.out.mono ?_
  rintro e w1 ⟨rfl, hb1⟩
  clear x0 x1 x2 x3 x4 x5 HM
  have HC := Lib.hid (CF.out w1 hb1)
  have HB1 := Lib.hid (below_from HB.out hb1)
  clear hb1 CF
  go_wp2_with fail
  refine HC.out.mono ?_
  rintro e w2 ⟨rfl, hb2⟩
  have hq2 := below_from HB1.out hb2
  clear hb2
  go_wp2_with fail
  go_ret
  exact ⟨by simp, hq2⟩
end Go.Proofs.Yteokbmngebckjaa
