/- Any value with the bytes of any text is the document's; a value with its own text is itself. For every input that is not too large. -/
import Derived.Test.YtkhgbeflhjjkdaaDoorBr
import Derived.Test.YtkhgbeflhjjkdaaDoorBw
import Derived.Test.YtkhgbeflhjjkdaaDoorBv
import Derived.Test.YtkhgbeflhjjkdaaDoorBg
namespace Go.Proofs.YtkhgbeflhjjkdaaDoor
open Go.RowKit
set_option linter.unusedVariables false
set_option linter.unusedSimpArgs false

theorem nk3 {w0 wi : World} {o : Obj} (h : Below (w0.alloc o).heap.size (w0.alloc o) wi) : wi.heap[w0.heap.size]? = some o :=
  (h.block _ (by simp)).trans (new_at1 (w := w0) o)
theorem full_same {t : Va} {s : List UInt8} {v v2 : Va} {b b2 : Bool} (h : FullRel t s v b) (h2 : FullRel t s v2 b2) : v2 = v ∧ b2 = b := by
  rcases h with ⟨a1, a2, a3⟩ | ⟨a1, a2⟩ <;> rcases h2 with ⟨c1, c2, c3⟩ | ⟨c1, c2⟩
  · exact ⟨c3.trans a3.symm, c2.trans a2.symm⟩
  · rw [a1] at c1; cases c1
  · rw [a1] at c1; cases c1
  · rw [a1] at c1; exact ⟨(Option.some.inj c1).symm, c2.trans a2.symm⟩
mutual
theorem fillV_size : ∀ (t : Va) (s : List UInt8) (v : Va) (s1 : List UInt8), fillV t s = some (v, s1) → v.size = t.size
  | .mk h ks, s, v, s1, e => by
    simp only [fillV] at e
    by_cases hk : h.k = 2
    · rw [if_pos hk] at e
      cases s with
      | nil => cases e
      | cons b s =>
        simp only at e
        obtain ⟨r, h1, h2⟩ := Option.map_eq_some_iff.1 e
        have h3 := fillVs_size ks s r.1 r.2 h1
        have h4 : T.mk ⟨h.k, b⟩ r.1 = v := congrArg Prod.fst h2
        rw [← h4]
        simp only [T.size, h3]
    · rw [if_neg hk] at e
      obtain ⟨r, h1, h2⟩ := Option.map_eq_some_iff.1 e
      have h3 := fillVs_size ks s r.1 r.2 h1
      have h4 : T.mk h r.1 = v := congrArg Prod.fst h2
      rw [← h4]
      simp only [T.size, h3]
theorem fillVs_size : ∀ (ts : List Va) (s : List UInt8) (l : List Va) (s1 : List UInt8), fillVs ts s = some (l, s1) → T.sizes l = T.sizes ts
  | [], s, l, s1, e => by
    simp only [fillVs] at e
    cases e
    rfl
  | v :: vs, s, l, s1, e => by
    simp only [fillVs] at e
    cases h1 : fillV v s with
    | none => rw [h1] at e; cases e
    | some r =>
      rw [h1] at e
      obtain ⟨x, s2⟩ := r
      simp only at e
      obtain ⟨q, h3, h4⟩ := Option.map_eq_some_iff.1 e
      have h5 := fillV_size v s x s2 h1
      have h6 := fillVs_size vs s2 q.1 q.2 h3
      have h7 : x :: q.1 = l := congrArg Prod.fst h4
      rw [← h7]
      simp only [T.sizes, h5, h6]
end
theorem full_size {t : Va} {s : List UInt8} {v : Va} {b : Bool} (h : FullRel t s v b) : v.size ≤ t.size := by
  rcases h with ⟨_, _, rfl⟩ | ⟨a1, _⟩
  · obtain ⟨h, ks⟩ := t
    simp only [T.size, T.sizes]
    omega
  · unfold fullV at a1
    cases hf : fillV t s with
    | none => rw [hf] at a1; cases a1
    | some r =>
      obtain ⟨x, s2⟩ := r
      rw [hf] at a1
      cases s2 with
      | nil => cases a1; exact Nat.le_of_eq (fillV_size t s _ _ hf)
      | cons y s2 => cases a1
theorem full_flat {t v : Va} {b : Bool} (h : FullRel t (flatV t) v b) : v = t ∧ b = true := by
  rcases h with ⟨a1, _⟩ | ⟨a1, a2⟩
  · rw [full_own] at a1; cases a1
  · rw [full_own] at a1; exact ⟨(Option.some.inj a1).symm, a2⟩
set_option maxRecDepth 100000 in
set_option maxHeartbeats 16000000 in
theorem posixFills_walk (h : VH) (ks : List Va) (A : Option Addr) (c : Nat) (S : ByteArray) (w : World) (hm : T.sizes ks ≤ 1048576) (hc : ks.length ≤ c) (hr : InRow VE (fun _ => True) w ks A 0) :
    Calls Tryd.prog 7 #[vaV h A ks.length c, .string S] w fun e w' => e = .returned (.bool true) ∧ Below w.heap.size w w' := by
  obtain ⟨W, hW⟩ : ∃ W, w.alloc (.cells (vaA h A ks.length c) 62) = W := ⟨_, rfl⟩
  have hbW : Below w.heap.size w W := by rw [← hW]; exact below_new (Below.refl _ _) _
  have e1 : W.heap[w.heap.size]? = some (.cells (vaA h A ks.length c) 62 (0, 0)) := by rw [← hW]; exact new_at1 _
  have CG : Hid (∀ X, Below W.heap.size W X → Calls Tryd.prog 31 #[vaV h A ks.length c, .int .i64 60] X fun e w' => e = .returned (.bool (greatB 60 (.mk h ks))) ∧ Below X.heap.size X w') := fun X hX => vGreat_any h ks A c 60 X (by omega) hc (hr.below (below_from hbW hX))
  have CA : Hid (∀ X, Below W.heap.size W X → Calls Tryd.prog 26 #[] X fun e w' => e = .returned (.bool true) ∧ Below X.heap.size X w') := fun X hX => awake17_any X
  have Q1 : Hid (∀ X, Below W.heap.size W X → X.cell? ⟨w.heap.size, 0, none⟩ = some (.int .u8 (h.k.toNat : Int)) ∧ X.cell? ⟨w.heap.size, 1, none⟩ = some (.int .u8 (h.b.toNat : Int)) ∧ X.cell? ⟨w.heap.size, 2, none⟩ = some (.slice A ks.length c)) := by
    intro X hX
    obtain ⟨x0, x1, x2⟩ := va_at_box ((hX.block _ (lt_of_block e1)).trans e1)
    exact ⟨x0, x1, x2⟩
  have HR := Lib.hid hr
  have HCC := Lib.hid hc
  have HW := Lib.hid hbW
  have HE := Lib.hid hW
  have E1 := Lib.hid e1
  clear hW hr hbW e1
  rcases hg : greatB 60 (.mk h ks) with _ | _
  case true =>
    rw [hg] at CG
    clear hg
    go_enter Tryd.func7, Tryd.ntmps7
    go_wp2_with fail
    rw [HE.out]
    refine (CG.out _ (Below.refl _ _)).mono ?_
    rintro e w0 ⟨rfl, hb0⟩
    have HB0 := Lib.hid hb0
    clear hb0
    go_wp2_with fail
    refine (CA.out _ HB0.out).mono ?_
    rintro e w9 ⟨rfl, hb9⟩
    have hb := below_from HW.out (below_from HB0.out hb9)
    clear hb9
    go_wp2_with fail
    go_ret
    exact ⟨rfl, hb⟩
  have hsz : 1 + T.sizes ks ≤ 60 := by
    have := of_decide_eq_false hg
    simp only [T.size] at this
    omega
  rw [hg] at CG
  clear hg
  by_cases ls : 60 < S.size
  · have gls : decide (((S.size : Nat) : Int) > 60) = true := by simp; omega
    go_enter Tryd.func7, Tryd.ntmps7
    go_wp2_with fail
    rw [HE.out]
    refine (CG.out _ (Below.refl _ _)).mono ?_
    rintro e w0 ⟨rfl, hb0⟩
    have HB0 := Lib.hid hb0
    clear hb0
    go_wp2_with fail
    refine (CA.out _ HB0.out).mono ?_
    rintro e w9 ⟨rfl, hb9⟩
    have hb := below_from HW.out (below_from HB0.out hb9)
    clear hb9
    go_wp2_with fail
    go_ret
    exact ⟨rfl, hb⟩
  · have gls : decide (((S.size : Nat) : Int) > 60) = false := by simp; omega
    have hS : S.size ≤ 60 := by omega
    have CP : Hid (∀ X, Below W.heap.size W X → Calls Tryd.prog 32 #[vaV h A ks.length c, .string S] X (FullPost (.mk h ks) S.data.toList X)) := fun X hX => pFill_any h ks A c S X (by omega) (by omega) hc (HR.out.below (below_from HW.out hX))
    have CD : Hid (∀ X, Below W.heap.size W X → Calls Tryd.prog 33 #[vaV h A ks.length c, .string S] X (FullPost (.mk h ks) S.data.toList X)) := fun X hX => dFill_any h ks A c S X (by omega) (by omega) hc (HR.out.below (below_from HW.out hX))
    have CF : Hid (∀ X, Below W.heap.size W X → Calls Tryd.prog 34 #[vaV h A ks.length c] X fun e w' => e = .returned (.string (str (flatV (.mk h ks)))) ∧ Below X.heap.size X w') := fun X hX => refFlat_upto 1000000000 _ h ks A c X (by omega) (Nat.le_refl _) hc (HR.out.below (below_from HW.out hX))
    have CB : Hid (∀ X, Below W.heap.size W X → Calls Tryd.prog 32 #[vaV h A ks.length c, .string (str (flatV (.mk h ks)))] X fun e w' => ∃ h3 k3 A3 c3, e = .returned (.tuple #[vaV h3 A3 k3.length c3, .bool true]) ∧ T.mk h ks = .mk h3 k3 ∧ k3.length ≤ c3 ∧ InRow VE (fun x => X.heap.size ≤ x) w' k3 A3 0 ∧ Below X.heap.size X w') := fun X hX => by
      have hfl := flatV_len (.mk h ks)
      simp only [T.size] at hfl
      refine (pFill_any h ks A c (str (flatV (.mk h ks))) X (by omega) (by rw [str_size]; omega) hc (HR.out.below (below_from HW.out hX))).mono ?_
      rintro e w' ⟨h3, k3, A3, c3, b, rfl, hrl, hc3, hr3, hb3⟩
      obtain ⟨e1, rfl⟩ := full_flat hrl
      exact ⟨h3, k3, A3, c3, rfl, e1.symm, hc3, hr3, hb3⟩
    clear ls
    go_enter Tryd.func7, Tryd.ntmps7
    go_wp2_with fail
    rw [HE.out]
    refine (CG.out _ (Below.refl _ _)).mono ?_
    rintro e w0 ⟨rfl, hb0⟩
    have HB0 := Lib.hid hb0
    obtain ⟨x0, x1, x2⟩ := Q1.out _ hb0
    clear hb0
    go_wp2_with fail
    clear x0 x1 x2
    refine (CP.out _ HB0.out).mono ?_
    rintro e w1 ⟨h1, k1, A1, c1, b1, rfl, hrl1, hc1, hr1, hb1⟩
    obtain ⟨X1, hX1⟩ : ∃ X, w1.alloc (.cells (vaA h1 A1 k1.length c1) 62) = X := ⟨_, rfl⟩
    have hbX1 : Below w1.heap.size w1 X1 := by rw [← hX1]; exact below_new (Below.refl _ _) _
    have n5 : X1.heap[w1.heap.size]? = some (.cells (vaA h1 A1 k1.length c1) 62 (0, 0)) := by rw [← hX1]; exact new_at1 _
    have HB1 := Lib.hid (below_from (below_from HB0.out hb1) hbX1)
    have HR1 := Lib.hid ((hr1.below hbX1).weak (ok' := fun _ => True) fun _ _ => trivial)
    have HC1 := Lib.hid hc1
    have N5 := Lib.hid n5
    have HX1 := Lib.hid hX1
    have HL1 := Lib.hid hrl1
    clear hX1 hbX1 n5 hr1 hb1 hc1 hrl1 HB0
    go_upto_region 4 with fail
    rw [show w1.alloc _ = X1 from HX1.out]
    obtain ⟨b5, hb5⟩ : ∃ b5, w1.heap.size = b5 := ⟨_, rfl⟩
    rw [hb5] at N5 ⊢
    clear hb5 HX1
    obtain ⟨x0, x1, x2⟩ := Q1.out _ HB1.out
    go_wp2_with fail
    clear x0 x1 x2
    refine (CD.out _ HB1.out).mono ?_
    rintro e w2 ⟨h2, k2, A2, c2, b2, rfl, hrl2, hc2, hr2, hb2⟩
    obtain ⟨ee, rfl⟩ := full_same HL1.out hrl2
    obtain ⟨X2, hX2⟩ : ∃ X, w2.alloc (.cells (vaA h2 A2 k2.length c2) 62) = X := ⟨_, rfl⟩
    have hbX2 : Below w2.heap.size w2 X2 := by rw [← hX2]; exact below_new (Below.refl _ _) _
    have n7 : X2.heap[w2.heap.size]? = some (.cells (vaA h2 A2 k2.length c2) 62 (0, 0)) := by rw [← hX2]; exact new_at1 _
    have hz2 := below_from hb2 hbX2
    have HB2 := Lib.hid (below_from HB1.out hz2)
    have HR2 := Lib.hid ((hr2.below hbX2).weak (ok' := fun _ => True) fun _ _ => trivial)
    have HR12 := Lib.hid (HR1.out.below hz2)
    have N52 := Lib.hid ((hz2.block _ (lt_of_block N5.out)).trans N5.out)
    have HC2 := Lib.hid hc2
    have N7 := Lib.hid n7
    have HX2 := Lib.hid hX2
    have EE := Lib.hid ee
    have SZ1 : Hid ((T.mk h1 k1).size ≤ (T.mk h ks).size) := full_size HL1.out
    have SZ2 : Hid ((T.mk h2 k2).size ≤ (T.mk h ks).size) := full_size hrl2
    clear hX2 hbX2 n7 hr2 hb2 hc2 hrl2 HB1 HR1 N5 hz2 ee HL1
    go_upto_region 5 with fail
    rw [show w2.alloc _ = X2 from HX2.out]
    obtain ⟨b7, hb7⟩ : ∃ b7, w2.heap.size = b7 := ⟨_, rfl⟩
    rw [hb7] at N7 ⊢
    clear hb7 HX2
    go_cut [9, 10] from 31 to 37 (fun q e wx => e = .bool true ∧ BoxV (fun _ => True) X2 (.mk h ks) q wx)
    case first =>
      have Q2 : Hid (∀ X, Below X2.heap.size X2 X → X.cell? ⟨w.heap.size, 0, none⟩ = some (.int .u8 (h.k.toNat : Int)) ∧ X.cell? ⟨w.heap.size, 1, none⟩ = some (.int .u8 (h.b.toNat : Int)) ∧ X.cell? ⟨w.heap.size, 2, none⟩ = some (.slice A ks.length c)) := fun X hX => Q1.out X (below_from HB2.out hX)
      have CF2 : Hid (∀ X, Below X2.heap.size X2 X → Calls Tryd.prog 34 #[vaV h A ks.length c] X fun e w' => e = .returned (.string (str (flatV (.mk h ks)))) ∧ Below X.heap.size X w') := fun X hX => CF.out X (below_from HB2.out hX)
      have CB2 := Lib.hid (fun X (hX : Below X2.heap.size X2 X) => CB.out X (below_from HB2.out hX))
      have hz := Below.refl X2.heap.size X2
      obtain ⟨x0, x1, x2⟩ := Q2.out _ hz
      clear CF CB CP CD
      generalize flatV (T.mk h ks) = fl at *
      go_region_held3 (fun X => X.cell? ⟨w.heap.size, 0, none⟩ = some (.int .u8 (h.k.toNat : Int)) ∧ X.cell? ⟨w.heap.size, 1, none⟩ = some (.int .u8 (h.b.toNat : Int)) ∧ X.cell? ⟨w.heap.size, 2, none⟩ = some (.slice A ks.length c))
        ((refine Q2.out _ ?_; (repeat (first | with_reducible exact hz | with_reducible refine Below.drew ?_ | with_reducible refine below_new ?_ _ | (with_reducible refine Below.setCell ?_ (by first | exact Nat.le_refl _ | (simp; done) | (simp; omega)) _)))))
        (first
          | (go_at_call 34; (with_reducible refine (CF2.out _ ?_).mono ?_); (repeat (first | with_reducible exact hz | with_reducible refine Below.drew ?_ | with_reducible refine below_new ?_ _ | (with_reducible refine Below.setCell ?_ (by first | exact Nat.le_refl _ | (simp; done) | (simp; omega)) _))); rintro e wf ⟨rfl, hbf⟩; (try (first | (have hq : Below (World.alloc X2 (.cells #[.int .u8 0, .int .u8 0, .slice none 0 0] 62)).drew.heap.size (World.alloc X2 (.cells #[.int .u8 0, .int .u8 0, .slice none 0 0] 62)).drew wf := (by with_reducible exact hbf); have hnk := new_kept hq; obtain ⟨⟨r0, r1, r2⟩, g0, g1, g2⟩ := va_cells hnk; have zr0 := fun o => keep_cell (below_new (Below.refl _ wf) o) r0; have zr1 := fun o => keep_cell (below_new (Below.refl _ wf) o) r1; have zr2 := fun o => keep_cell (below_new (Below.refl _ wf) o) r2; have zg0 := fun o => (va_cells (heap_keep1 hnk o)).2.1; have zg1 := fun o => (va_cells (heap_keep1 hnk o)).2.2.1; have zg2 := fun o => (va_cells (heap_keep1 hnk o)).2.2.2) | (have hq : Below (World.alloc (World.drew X2) (.cells #[.int .u8 0, .int .u8 0, .slice none 0 0] 62)).heap.size (World.alloc (World.drew X2) (.cells #[.int .u8 0, .int .u8 0, .slice none 0 0] 62)) wf := (by with_reducible exact hbf); have hnk := new_kept2 hq; obtain ⟨⟨r0, r1, r2⟩, g0, g1, g2⟩ := va_cells hnk; have zr0 := fun o => keep_cell (below_new (Below.refl _ wf) o) r0; have zr1 := fun o => keep_cell (below_new (Below.refl _ wf) o) r1; have zr2 := fun o => keep_cell (below_new (Below.refl _ wf) o) r2; have zg0 := fun o => (va_cells (heap_keep1 hnk o)).2.1; have zg1 := fun o => (va_cells (heap_keep1 hnk o)).2.2.1; have zg2 := fun o => (va_cells (heap_keep1 hnk o)).2.2.2))); have hz : Below X2.heap.size X2 wf := (by refine below_from ?_ hbf; (repeat (first | with_reducible exact hz | with_reducible refine Below.drew ?_ | with_reducible refine below_new ?_ _ | (with_reducible refine Below.setCell ?_ (by first | exact Nat.le_refl _ | (simp; done) | (simp; omega)) _)))); have hzf := hz.size; obtain ⟨x0, x1, x2⟩ := Q2.out _ hz)
          | (have hmk := hbf; go_at_call 32; (with_reducible refine (CB2.out _ ?_).mono ?_); (repeat (first | with_reducible exact hz | with_reducible refine Below.drew ?_ | with_reducible refine below_new ?_ _ | (with_reducible refine Below.setCell ?_ (by first | exact Nat.le_refl _ | (simp; done) | (simp; omega)) _))); rintro e wi ⟨h3, k3, A3, c3, rfl, e3, hc3, hr3, hbi⟩; have EN := Lib.hid e3; clear e3; (try (have hnk := (hbi.block _ (lt_of_block hnk)).trans hnk; obtain ⟨⟨r0, r1, r2⟩, g0, g1, g2⟩ := va_cells hnk; have zr0 := fun o => keep_cell (below_new (Below.refl _ wi) o) r0; have zr1 := fun o => keep_cell (below_new (Below.refl _ wi) o) r1; have zr2 := fun o => keep_cell (below_new (Below.refl _ wi) o) r2; have zg0 := fun o => (va_cells (heap_keep1 hnk o)).2.1; have zg1 := fun o => (va_cells (heap_keep1 hnk o)).2.2.1; have zg2 := fun o => (va_cells (heap_keep1 hnk o)).2.2.2)); (try (have hq : Below (World.alloc wf (.cells #[.int .u8 0, .int .u8 0, .slice none 0 0] 62)).heap.size (World.alloc wf (.cells #[.int .u8 0, .int .u8 0, .slice none 0 0] 62)) wi := (by with_reducible exact hbi); have hnk := nk3 hq; obtain ⟨⟨r0, r1, r2⟩, g0, g1, g2⟩ := va_cells hnk; have zr0 := fun o => keep_cell (below_new (Below.refl _ wi) o) r0; have zr1 := fun o => keep_cell (below_new (Below.refl _ wi) o) r1; have zr2 := fun o => keep_cell (below_new (Below.refl _ wi) o) r2; have zg0 := fun o => (va_cells (heap_keep1 hnk o)).2.1; have zg1 := fun o => (va_cells (heap_keep1 hnk o)).2.2.1; have zg2 := fun o => (va_cells (heap_keep1 hnk o)).2.2.2)); have hz : Below X2.heap.size X2 wi := (by refine below_from ?_ hbi; (repeat (first | with_reducible exact hz | with_reducible refine Below.drew ?_ | with_reducible refine below_new ?_ _ | (with_reducible refine Below.setCell ?_ (by first | exact Nat.le_refl _ | (simp; done) | (simp; omega)) _)))); obtain ⟨x0, x1, x2⟩ := Q2.out _ hz)
          | fail)
      all_goals go_wp2_with fail
      all_goals go_meet
      all_goals have hzs := hz.size
      all_goals have hbs := hbf.size
      all_goals first
        | (have hlk := lt_of_block hnk
           refine ⟨rfl, _, h3, k3, A3, c3, rfl, EN.out, hc3, three_setCells hnk, ?_, three_below hz (by omega), by omega⟩
           refine (row_three (hr3.weak (ok' := fun x => wf.heap.size + 1 ≤ x) fun x hx => ?_) fun x hx => by omega).weak fun x hx => ⟨trivial, by omega⟩
           have e : (World.alloc wf (.cells #[.int .u8 0, .int .u8 0, .slice none 0 0] 62)).heap.size = wf.heap.size + 1 := World.size_alloc _ _
           have h2 : (World.alloc wf (.cells #[.int .u8 0, .int .u8 0, .slice none 0 0] 62)).heap.size ≤ x := hx
           omega)
        | (have hbs' : X2.heap.size + 1 ≤ wf.heap.size := (by simpa using hbs)
           refine ⟨rfl, _, h3, k3, A3, c3, rfl, EN.out, hc3, three_setCells hnk, ?_, three_below hz (by omega), by omega⟩
           exact (row_three (hr3.weak (ok' := fun x => wf.heap.size ≤ x) fun x hx => hx) fun x hx => by omega).weak fun x hx => ⟨trivial, by omega⟩)
        | (refine ⟨rfl, _, h3, k3, A3, c3, rfl, EN.out, hc3, new_at1 (w := wi) _, (hr3.there.below (below_new (Below.refl _ _) _)).weak (fun x hx => ⟨trivial, by have := hx.2; omega⟩), below_new hz _, by omega⟩; done)
        | fail
    case rest =>
      obtain ⟨rfl, b9, h3, k3, A3, c3, rfl, e3, hc3, n9, hr3, hz3, hb9⟩ := hcut
      obtain ⟨X3, rfl⟩ : ∃ x, x = wc := ⟨_, rfl⟩
      have HB3 := Lib.hid (below_from HB2.out hz3)
      have n5 := (hz3.block _ (lt_of_block N52.out)).trans N52.out
      have n7 := (hz3.block _ (lt_of_block N7.out)).trans N7.out
      have hr1 := HR12.out.below hz3
      have hr2 := HR2.out.below hz3
      have s1 := SZ1.out
      have s2 := SZ2.out
      simp only [T.size] at s1 s2
      have s3 : T.sizes k3 = T.sizes ks := by have := congrArg T.size e3; simp only [T.size] at this; omega
      have hv := HR.out.below (below_from HW.out HB3.out)
      have CS1 : Hid (∀ X, Below X3.heap.size X3 X → Calls Tryd.prog 35 #[vaV h1 A1 k1.length c1, vaV h2 A2 k2.length c2] X fun e w' => e = .returned (.bool true) ∧ Below X.heap.size X w') := fun X hX => by
        have := refSameV_upto 1000000000 (fun _ => True) h1 h2 k1 k2 A1 A2 c1 c2 X (by omega) (Nat.le_refl _) (by omega) (hr1.below hX) (hr2.below hX)
        rw [EE.out, sameV_refl] at this
        exact this
      have CS2 : Hid (∀ X, Below X3.heap.size X3 X → Calls Tryd.prog 35 #[vaV h3 A3 k3.length c3, vaV h A ks.length c] X fun e w' => e = .returned (.bool true) ∧ Below X.heap.size X w') := fun X hX => by
        have := refSameV_upto 1000000000 (fun _ => True) h3 h k3 ks A3 A c3 c X (by omega) (Nat.le_refl _) (by omega) ((hr3.weak fun _ _ => trivial).below hX) (hv.below hX)
        rw [e3, sameV_refl] at this
        exact this
      have N9 := Lib.hid n9
      obtain ⟨p0, p1, p2⟩ := va_at_box n5
      obtain ⟨q0, q1, q2⟩ := va_at_box n7
      have gb : (b2 == b2) = true := by cases b2 <;> rfl
      clear e3 hc3 n9 hr3 hz3 n5 n7 hr1 hr2 s1 s2 s3 hv EE
      go_wp2_with fail
      refine (CS1.out _ (Below.refl _ _)).mono ?_
      rintro e w4 ⟨rfl, hb4⟩
      clear p0 p1 p2 q0 q1 q2
      obtain ⟨p0, p1, p2⟩ := va_at_box ((hb4.block _ (lt_of_block N9.out)).trans N9.out)
      have HB4 := Lib.hid (below_from HB3.out hb4)
      obtain ⟨x0, x1, x2⟩ := Q1.out _ HB4.out
      go_wp2_with fail
      refine (CS2.out _ hb4).mono ?_
      rintro e w5 ⟨rfl, hb5⟩
      have HB5 := Lib.hid (below_from HB4.out hb5)
      clear p0 p1 p2 x0 x1 x2 hb4 hb5
      go_wp2_with fail
      refine (CA.out _ HB5.out).mono ?_
      rintro e w9 ⟨rfl, hb9⟩
      have hb := below_from HW.out (below_from HB5.out hb9)
      clear hb9
      go_wp2_with fail
      go_ret
      exact ⟨rfl, hb⟩
namespace lawPosixFills
open Go.ChangeShapes Go.WideShapes Go.ChangeAt
open Go.ChangeMaps (open_string)
set_option maxRecDepth 100000 in
theorem contract (H : Type) (enc : TypeId × Value → H) (W : World) (base : Nat) (args : Array Value) (ds gs : List (DataW H)) (before : List MemPlace)
    (hval : ∀ (j : Nat) t v, Tryd.f7.params[j]? = some t → args[j]? = some v → Value.okWide Tryd.prog W .any base t v)
    (hW : DataW.Whole enc Tryd.prog Tryd.f7.params.toList Rows.posixFillsSpec.vars false W args.toList ds gs before) (hL : laidMetH Tryd.prog Rows.posixFillsUptoRow.laid W) (hk : Rows.uptoSmall H (ds ++ gs) = true) :
    Calls Tryd.prog 7 args W fun e W' => ∃ v, e = .returned v ∧ Rows.posixFillsSpec.post enc Tryd.prog Tryd.f7 false true false false W args v W' := by
  have hW' := hW
  obtain ⟨p, q, hA0, hV, rfl, hfz, hnd⟩ := hW
  have hA : DataW.TrodAll enc Tryd.prog W 0 (fun _ => true) true Tryd.f7.params.toList args.toList ds p := hA0
  rw [Tryd.params7] at hA hval
  obtain ⟨v0, vs0, d0, ds0, p0, q0, hargs, rfl, rfl, h0, r0⟩ := trodAll_cons hA
  obtain ⟨v1, vs1, d1, ds1, p1, q1, rfl, rfl, rfl, h1, r1⟩ := trodAll_cons r0
  obtain ⟨rfl, rfl, rfl⟩ := trodAll_nil r1
  obtain rfl : args = #[v0, v1] := by cases args; simp_all
  obtain ⟨rfl, rfl⟩ := trodVars_none hV
  have hkk : Rows.uptoBulk d0 + Rows.uptoBulk d1 ≤ 1048576 := by simp [Rows.uptoSmall, Rows.uptoBulkAll] at hk; omega
  obtain ⟨x, kx, A0, c0, rfl, hc0, hr0, hz0⟩ := open_val (hval 0 62 v0 rfl rfl) h0
  obtain ⟨s, rfl, rfl, rfl, hs1⟩ := open_string Tryd.underlying9 (hval 1 9 v1 rfl rfl) h1
  refine (posixFills_walk x kx A0 c0 s W (by omega) hc0 hr0).mono fun e W' ⟨he, hb⟩ => ?_
  subst he
  exact ⟨_, rfl, post_true Tryd.laidOut (by rw [Tryd.params7]; intro t ht; simp at ht; rcases ht with rfl | rfl <;> exact ⟨by kernel_rfl, of_decide_eq_true (by kernel_rfl)⟩) hW' rfl rfl rfl Tryd.underlying4 hb⟩
theorem laid_met (os : Os) : laidMet Tryd.prog Rows.posixFillsUptoRow.laid ((utfWorld os).forCall (fun _ _ => 0) ⟨#[], #[.agg #[.int .u8 0, .int .u8 0, .slice none 0 0], .string ByteArray.empty], []⟩).memory :=
  laidMet_of_run' 600 (by kernel_rfl) (by kernel_rfl)
theorem reads (os : Os) {H : Type} (enc : TypeId × Value → H) : ∃ places, DataW.whole enc Tryd.prog ((utfWorld os).forCall (fun _ _ => 0) ⟨#[], #[.agg #[.int .u8 0, .int .u8 0, .slice none 0 0], .string ByteArray.empty], []⟩).memory Tryd.f7.params.toList Rows.posixFillsSpec.vars false (#[.agg #[.int .u8 0, .int .u8 0, .slice none 0 0], .string ByteArray.empty] : Array Value).toList 8 = some ([.agg [.lit (.int .u8 0), .lit (.int .u8 0), .nil], .lit (.string [])], [], places) :=
  ⟨[], by kernel_rfl⟩
set_option maxRecDepth 100000 in
theorem lifted (os : Os) (started : os.Started) (H : Type) (enc : TypeId × Value → H) (F : Stop.Interp) :
    ReturnsInHanded {} Tryd.checked os 7 .any ((Rows.OpenSpec.upto Rows.posixFillsSpec).preRow enc Tryd.prog Tryd.f7 Rows.posixFillsUptoRow.domain false Rows.posixFillsUptoRow.laid) (((Rows.OpenSpec.upto Rows.posixFillsSpec).at F).post enc Tryd.prog Tryd.f7 false true false false) := by
  obtain ⟨places, hx⟩ := reads os enc
  refine returnsInHanded_of_row (C := Tryd.checked) (s := Rows.OpenSpec.upto Rows.posixFillsSpec) Tryd.own started (by kernel_rfl) Tryd.func7
    (witness_row_at (enc := enc) (C := Tryd.checked) false (utfWorld os) #[.agg #[.int .u8 0, .int .u8 0, .slice none 0 0], .string ByteArray.empty] rfl (by kernel_rfl) (by kernel_rfl) (by kernel_rfl)
      (OpenSpec.preRow_of_cond 8 hx (by kernel_rfl) (fun k hk => by cases hk; kernel_rfl) (by kernel_rfl) (laid_met os))) ?_
  intro W base args ds gs before hval hW _ hcond _ hL _ _
  exact contract H enc W base args ds gs before hval hW hL (hcond _ rfl)
theorem said : Rows.PosixFillsUptoSaid :=
  OpenClaim.holds_of_cond 7 Tryd.f7 rfl rfl rfl rfl rfl rfl rfl ⟨rfl, rfl, rfl, rfl, rfl⟩ rfl rfl rfl rfl rfl (by kernel_rfl) Tryd.func7 (by kernel_rfl)
    (of_decide_eq_true (by kernel_rfl)) (by unfold Func.isWrapper; first | (rw [if_pos (by decide +kernel)]; kernel_rfl) | (rw [if_neg (by decide +kernel)]; exact ⟨rfl, rfl⟩))
    (fun os started H enc _ F => by rw [OpenClaim.pre_eq_preRow]; exact lifted os started H enc F)
theorem plain (f : FuncId) (fn : Func) (hf : Tryd.pinned.checked.prog.funcNamed "quill/quilllaw17.PosixFills" = some f) (hfn : Tryd.pinned.checked.prog.funcs[f]? = some fn) :
    true = Tryd.pinned.checked.prog.looks [] ∧ ∀ (j : Nat) t, fn.params[j]? = some t → Tryd.pinned.checked.prog.wantsStandIn t = false := by
  obtain rfl : f = 7 := Option.some.inj ((show Tryd.prog.funcNamed "quill/quilllaw17.PosixFills" = some 7 by kernel_rfl).symm.trans hf) |>.symm
  obtain rfl : fn = Tryd.f7 := (Option.some.inj (Tryd.func7.symm.trans hfn)).symm
  refine ⟨by kernel_rfl, fun j t ht => ?_⟩
  rw [Tryd.params7] at ht
  have hm := Array.mem_of_getElem? ht
  simp at hm
  rcases hm with rfl | rfl
  · exact (show Tryd.prog.wantsStandIn 62 = false by kernel_rfl)
  · exact (show Tryd.prog.wantsStandIn 9 = false by kernel_rfl)
theorem proved : Rows.PosixFillsUptoCardSaid :=
  Claim7.holds_tied_plain_at .later [] _ _ _ _ said (fun _ h => by cases h) (by kernel_rfl) (fun _ h => by cases h) posixFillsUpto_row_tie rfl ⟨rfl, rfl⟩ (by kernel_rfl) rfl plain (by kernel_rfl)
end lawPosixFills
end Go.Proofs.YtkhgbeflhjjkdaaDoor
