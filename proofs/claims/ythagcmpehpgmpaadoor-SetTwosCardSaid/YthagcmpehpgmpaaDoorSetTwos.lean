/- What is in one of two sets, in both, in one alone, and their order, are the document's. For every input. -/
import Derived.Test.YthagcmpehpgmpaaDoorAwake2
import Derived.Test.YthagcmpehpgmpaaDoorDoor
import Derived.Test.YthagcmpehpgmpaaDoorSet12
import Derived.Deep.RegionHeld3
namespace Go.Proofs.YthagcmpehpgmpaaDoor
open Go.RowKit
set_option linter.unusedVariables false
set_option linter.unusedSimpArgs false

/-- a new row of two sets -/
theorem rowS_new (Y : World) (N : Nat) (x y : S4) (ty : TypeId) (hN : N = Y.heap.size) :
    RowS (Y.alloc (.cells #[.int .u64 (x.a.toNat : Int), .int .u64 (x.b.toNat : Int), .int .u64 (x.c.toNat : Int), .int .u64 (x.d.toNat : Int), .int .u64 (y.a.toNat : Int), .int .u64 (y.b.toNat : Int), .int .u64 (y.c.toNat : Int), .int .u64 (y.d.toNat : Int)] ty)) (some ⟨N, 0, none⟩) [x, y] := by
  subst hN
  intro k s hk
  refine ⟨_, rfl, fun j u hu => ?_⟩
  rw [plain_add, cell_of_row _ _ _ _ _ _ (heap_alloc_new Y _)]
  have hj : j < 4 := by
    rcases Nat.lt_or_ge j 4 with h | h
    · exact h
    · rw [List.getElem?_eq_none (by simpa using h)] at hu; cases hu
  match k, hk with
  | 0, hk =>
    simp only [List.getElem?_cons_zero, Option.some.injEq] at hk
    subst hk
    obtain rfl | rfl | rfl | rfl : j = 0 ∨ j = 1 ∨ j = 2 ∨ j = 3 := by omega
    all_goals exact hu
  | 1, hk =>
    simp only [List.getElem?_cons_succ, List.getElem?_cons_zero, Option.some.injEq] at hk
    subst hk
    obtain rfl | rfl | rfl | rfl : j = 0 ∨ j = 1 ∨ j = 2 ∨ j = 3 := by omega
    all_goals exact hu
  | k + 2, hk => simp at hk
theorem rowS_drew {Y : World} {A : Option Addr} {l : List S4} (h : RowS Y A l) : RowS Y.drew A l := h
theorem zero_or (s : S4) : S4.zero.or s = s := S4.ext_has fun b hb => by rw [has_or _ _ b hb, has_zero b hb, Bool.false_or]
theorem all_has (b : Nat) (hb : b < 256) : S4.all.has b = true := full_has S4.all 256 all_full b hb
theorem all_and (s : S4) : S4.all.and s = s := S4.ext_has fun b hb => by rw [has_and _ _ b hb, all_has b hb, Bool.true_and]
theorem joinL_two (s t : S4) : joinL [s, t] = s.or t := by
  show (S4.zero.or s).or t = _
  rw [zero_or]
theorem meetL_two (s t : S4) : meetL [s, t] = s.and t := by
  show (S4.all.and s).and t = _
  rw [all_and]
theorem ordF_bd (s t : S4) : ∀ f i, -1 ≤ ordF s t f i ∧ ordF s t f i ≤ 1
  | 0, _ => by simp [ordF]
  | f + 1, i => by
    simp only [ordF]
    split
    · exact ordF_bd s t f (i + 1)
    · unfold cmpW
      split
      · decide
      · split <;> decide
/-- what is held in the law's regions: the two boxes, and all below -/
theorem held_keep {W X X' : World} {b d : Nat} {s t : S4} (hb : Below X.heap.size X X')
    (h : X.cell? ⟨b, 0, none⟩ = some (.int .u64 (s.a.toNat : Int)) ∧ X.cell? ⟨b, 1, none⟩ = some (.int .u64 (s.b.toNat : Int)) ∧ X.cell? ⟨b, 2, none⟩ = some (.int .u64 (s.c.toNat : Int)) ∧ X.cell? ⟨b, 3, none⟩ = some (.int .u64 (s.d.toNat : Int)) ∧
      X.cell? ⟨d, 0, none⟩ = some (.int .u64 (t.a.toNat : Int)) ∧ X.cell? ⟨d, 1, none⟩ = some (.int .u64 (t.b.toNat : Int)) ∧ X.cell? ⟨d, 2, none⟩ = some (.int .u64 (t.c.toNat : Int)) ∧ X.cell? ⟨d, 3, none⟩ = some (.int .u64 (t.d.toNat : Int)) ∧ Hid (Below W.heap.size W X)) :
    X'.cell? ⟨b, 0, none⟩ = some (.int .u64 (s.a.toNat : Int)) ∧ X'.cell? ⟨b, 1, none⟩ = some (.int .u64 (s.b.toNat : Int)) ∧ X'.cell? ⟨b, 2, none⟩ = some (.int .u64 (s.c.toNat : Int)) ∧ X'.cell? ⟨b, 3, none⟩ = some (.int .u64 (s.d.toNat : Int)) ∧
      X'.cell? ⟨d, 0, none⟩ = some (.int .u64 (t.a.toNat : Int)) ∧ X'.cell? ⟨d, 1, none⟩ = some (.int .u64 (t.b.toNat : Int)) ∧ X'.cell? ⟨d, 2, none⟩ = some (.int .u64 (t.c.toNat : Int)) ∧ X'.cell? ⟨d, 3, none⟩ = some (.int .u64 (t.d.toNat : Int)) ∧ Hid (Below W.heap.size W X') :=
  ⟨keep_cell hb h.1, keep_cell hb h.2.1, keep_cell hb h.2.2.1, keep_cell hb h.2.2.2.1, keep_cell hb h.2.2.2.2.1, keep_cell hb h.2.2.2.2.2.1, keep_cell hb h.2.2.2.2.2.2.1, keep_cell hb h.2.2.2.2.2.2.2.1, below_from h.2.2.2.2.2.2.2.2.out hb⟩

theorem held_below {W X : World} {b d : Nat} {s t : S4}
    (h : X.cell? ⟨b, 0, none⟩ = some (.int .u64 (s.a.toNat : Int)) ∧ X.cell? ⟨b, 1, none⟩ = some (.int .u64 (s.b.toNat : Int)) ∧ X.cell? ⟨b, 2, none⟩ = some (.int .u64 (s.c.toNat : Int)) ∧ X.cell? ⟨b, 3, none⟩ = some (.int .u64 (s.d.toNat : Int)) ∧
      X.cell? ⟨d, 0, none⟩ = some (.int .u64 (t.a.toNat : Int)) ∧ X.cell? ⟨d, 1, none⟩ = some (.int .u64 (t.b.toNat : Int)) ∧ X.cell? ⟨d, 2, none⟩ = some (.int .u64 (t.c.toNat : Int)) ∧ X.cell? ⟨d, 3, none⟩ = some (.int .u64 (t.d.toNat : Int)) ∧ Hid (Below W.heap.size W X)) :
    Below W.heap.size W X := h.2.2.2.2.2.2.2.2.out
set_option maxRecDepth 100000 in
set_option maxHeartbeats 400000000 in
theorem setTwos_walk (s t : S4) (w : World) (ht : TzOk w) :
    Calls Tryd.prog 7 #[setV s, setV t] w fun e w' => e = .returned (.bool true) ∧ Below w.heap.size w w' := by
  have HT := Lib.hid ht
  clear ht
  have HJ1 : Hid (∀ X A, RowS X A [s, t] → Calls Tryd.prog 31 #[.slice A 2 2] X fun e w' => e = .returned (setV (s.or t)) ∧ Below X.heap.size X w') := fun X A h => by
    have := setJoin_any [s, t] A 2 X (by simp) h
    rwa [joinL_two] at this
  have HJ2 : Hid (∀ X A, RowS X A [t, s] → Calls Tryd.prog 31 #[.slice A 2 2] X fun e w' => e = .returned (setV (s.or t)) ∧ Below X.heap.size X w') := fun X A h => by
    have := setJoin_any [t, s] A 2 X (by simp) h
    rwa [joinL_two, or_comm_] at this
  have HM1 : Hid (∀ X A, RowS X A [s, t] → Calls Tryd.prog 32 #[.slice A 2 2] X fun e w' => e = .returned (setV (s.and t)) ∧ Below X.heap.size X w') := fun X A h => by
    have := setMeet_any [s, t] A 2 X (by simp) h
    rwa [meetL_two] at this
  have HM2 : Hid (∀ X A, RowS X A [t, s] → Calls Tryd.prog 32 #[.slice A 2 2] X fun e w' => e = .returned (setV (s.and t)) ∧ Below X.heap.size X w') := fun X A h => by
    have := setMeet_any [t, s] A 2 X (by simp) h
    rwa [meetL_two, and_comm_] at this
  have HRJ : Hid (∀ X, Calls Tryd.prog 29 #[setV s, setV t] X fun e w' => e = .returned (setV (s.or t)) ∧ Below X.heap.size X w') := fun X => refJoin_any s t X
  have HRM : Hid (∀ X, Calls Tryd.prog 30 #[setV s, setV t, .bool true] X fun e w' => e = .returned (setV (s.and t)) ∧ Below X.heap.size X w') := fun X => by
    have := refMeet_any s t true X
    rwa [meetTo_and] at this
  have HRL : Hid (∀ X, Calls Tryd.prog 30 #[setV s, setV t, .bool false] X fun e w' => e = .returned (setV (s.less t)) ∧ Below X.heap.size X w') := fun X => by
    have := refMeet_any s t false X
    rwa [meetTo_less] at this
  have HL : Hid (∀ X, Calls Tryd.prog 34 #[setV s, setV t] X fun e w' => e = .returned (setV (s.less t)) ∧ Below X.heap.size X w') := fun X => setLess_any s t X
  have HO1 : Hid (∀ X, Calls Tryd.prog 28 #[setV s, setV t] X fun e w' => e = .returned (.int .i64 (ordS s t)) ∧ Below X.heap.size X w') := fun X => setOrder_any s t X
  have HO2 : Hid (∀ X, Calls Tryd.prog 28 #[setV t, setV s] X fun e w' => e = .returned (.int .i64 (-ordS s t)) ∧ Below X.heap.size X w') := fun X => by
    have := setOrder_any t s X
    rwa [ordS_swap] at this
  have HRO : Hid (∀ X, Calls Tryd.prog 35 #[setV s, setV t] X fun e w' => e = .returned (.int .i64 (ordS s t)) ∧ Below X.heap.size X w') := fun X => refOrder_any s t X
  have hob : -1 ≤ ordS s t ∧ ordS s t ≤ 1 := ordF_bd s t 4 0
  generalize s.or t = jj at *
  generalize s.and t = mm at *
  generalize s.less t = dd at *
  generalize ordS s t = oo at *
  have wn : IntKind.i64.wrap (-oo) = -oo := IntWalk.i64_in _ (by omega)
  have qj := run_neq_set jj jj
  have qm := run_neq_set mm mm
  have qd := run_neq_set dd dd
  have ej := run_eql_set jj jj
  have em := run_eql_set mm mm
  simp only [decide_true, Bool.not_true] at qj qm qd ej em
  obtain ⟨ho1, ho2⟩ := hob
  have eo1 : ((oo : Int) == oo) = true := by simp
  have eo2 : ((-oo : Int) == -oo) = true := by simp
  go_enter Tryd.func7, Tryd.ntmps7
  go_wp2_with fail
  have e0 := heap_keep1 (new_at1 (w := w) (.cells (setA s) 24)) (.cells (setA t) 24)
  have e1 := new_at1 (w := w.alloc (.cells (setA s) 24)) (.cells (setA t) 24)
  rw [World.size_alloc] at e1
  have hb0 := Lib.hid (below_new (below_new (Below.refl w.heap.size w) (.cells (setA s) 24)) (.cells (setA t) 24)).drew
  obtain ⟨⟨x0, x1, x2, x3⟩, _⟩ := cells4_of e0
  obtain ⟨⟨y0, y1, y2, y3⟩, _⟩ := cells4_of e1
  clear e0 e1
  go_region_held3 (fun X => X.cell? ⟨w.heap.size, 0, none⟩ = some (.int .u64 (s.a.toNat : Int)) ∧ X.cell? ⟨w.heap.size, 1, none⟩ = some (.int .u64 (s.b.toNat : Int)) ∧ X.cell? ⟨w.heap.size, 2, none⟩ = some (.int .u64 (s.c.toNat : Int)) ∧ X.cell? ⟨w.heap.size, 3, none⟩ = some (.int .u64 (s.d.toNat : Int)) ∧
      X.cell? ⟨w.heap.size + 1, 0, none⟩ = some (.int .u64 (t.a.toNat : Int)) ∧ X.cell? ⟨w.heap.size + 1, 1, none⟩ = some (.int .u64 (t.b.toNat : Int)) ∧ X.cell? ⟨w.heap.size + 1, 2, none⟩ = some (.int .u64 (t.c.toNat : Int)) ∧ X.cell? ⟨w.heap.size + 1, 3, none⟩ = some (.int .u64 (t.d.toNat : Int)) ∧ Hid (Below w.heap.size w X))
    (first | exact ⟨x0, x1, x2, x3, y0, y1, y2, y3, hb0⟩ | exact held_keep (by assumption) (by assumption) | exact held_keep (below_new (Below.refl _ _) _) (by assumption) | exact held_keep (below_new (Below.refl _ _) _).drew (by assumption) | exact held_keep (below_new (Below.refl _ _) _) ⟨x0, x1, x2, x3, y0, y1, y2, y3, hb0⟩ | exact held_keep (below_new (Below.refl _ _) _).drew ⟨x0, x1, x2, x3, y0, y1, y2, y3, hb0⟩)
    (first
      | (go_at_call 31; refine (HJ1.out _ _ ?_).mono ?_; (first | (refine rowS_drew (rowS_new _ _ _ _ _ ?_); simp) | (refine rowS_new _ _ _ _ _ ?_; simp) | exact rowS_new _ _ _ _ _ rfl); rintro e Xa ⟨rfl, hba⟩)
      | (go_at_call 29; (with_reducible refine (HRJ.out _).mono ?_); rintro e Xb ⟨rfl, hbb⟩)
      | (go_at_call 32; refine (HM1.out _ _ ?_).mono ?_; (first | (refine rowS_drew (rowS_new _ _ _ _ _ ?_); simp) | (refine rowS_new _ _ _ _ _ ?_; simp) | exact rowS_new _ _ _ _ _ rfl); rintro e Xc ⟨rfl, hbc⟩)
      | (go_at_call 30; (with_reducible refine (HRM.out _).mono ?_); rintro e Xd ⟨rfl, hbd⟩)
      | (go_at_call 34; (with_reducible refine (HL.out _).mono ?_); rintro e Xe ⟨rfl, hbe⟩)
      | (go_at_call 30; (with_reducible refine (HRL.out _).mono ?_); rintro e Xf ⟨rfl, hbf⟩)
      | fail)
  go_wp2_with fail
  have HF := Lib.hid (held_below (by assumption))
  clear qj qm qd HRJ HRM HRL HL x0 x1 x2 x3 y0 y1 y2 y3 hb0
  go_region_held3 (fun X => X.cell? ⟨w.heap.size, 0, none⟩ = some (.int .u64 (s.a.toNat : Int)) ∧ X.cell? ⟨w.heap.size, 1, none⟩ = some (.int .u64 (s.b.toNat : Int)) ∧ X.cell? ⟨w.heap.size, 2, none⟩ = some (.int .u64 (s.c.toNat : Int)) ∧ X.cell? ⟨w.heap.size, 3, none⟩ = some (.int .u64 (s.d.toNat : Int)) ∧
      X.cell? ⟨w.heap.size + 1, 0, none⟩ = some (.int .u64 (t.a.toNat : Int)) ∧ X.cell? ⟨w.heap.size + 1, 1, none⟩ = some (.int .u64 (t.b.toNat : Int)) ∧ X.cell? ⟨w.heap.size + 1, 2, none⟩ = some (.int .u64 (t.c.toNat : Int)) ∧ X.cell? ⟨w.heap.size + 1, 3, none⟩ = some (.int .u64 (t.d.toNat : Int)) ∧ Hid (Below w.heap.size w X))
    (first | exact held_keep ((Below.refl _ _).drew) (by assumption) | exact held_keep hbg (by assumption) | exact held_keep hbf (by assumption) | exact held_keep hbe (by assumption) | exact held_keep hbd (by assumption) | exact held_keep hbc (by assumption) | exact held_keep hba (by assumption) | exact held_keep (below_new (Below.refl _ _) _) (by assumption) | exact held_keep (below_new (Below.refl _ _) _).drew (by assumption))
    (first
      | (go_at_call 31; refine (HJ2.out _ _ ?_).mono ?_; (first | (with_reducible refine rowS_drew (rowS_new _ _ _ _ _ ?_); (first | with_reducible rfl | (with_reducible exact (World.size_alloc _ _).symm))) | (with_reducible refine rowS_new _ _ _ _ _ ?_; (first | with_reducible rfl | (with_reducible exact (World.size_alloc _ _).symm))) | (with_reducible refine rowS_drew ((rowS_new _ _ _ _ _ ?_).below (below_new (Below.refl _ _) _)); (first | with_reducible rfl | (with_reducible exact (World.size_alloc _ _).symm))) | (with_reducible refine (rowS_new _ _ _ _ _ ?_).below (below_new (Below.refl _ _) _); (first | with_reducible rfl | (with_reducible exact (World.size_alloc _ _).symm))) | (refine RowS.below hba ?_; first | (with_reducible refine rowS_drew (rowS_new _ _ _ _ _ ?_); (first | with_reducible rfl | (with_reducible exact (World.size_alloc _ _).symm))) | (with_reducible refine rowS_new _ _ _ _ _ ?_; (first | with_reducible rfl | (with_reducible exact (World.size_alloc _ _).symm))) | (with_reducible refine rowS_drew ((rowS_new _ _ _ _ _ ?_).below (below_new (Below.refl _ _) _)); (first | with_reducible rfl | (with_reducible exact (World.size_alloc _ _).symm))) | (with_reducible refine (rowS_new _ _ _ _ _ ?_).below (below_new (Below.refl _ _) _); (first | with_reducible rfl | (with_reducible exact (World.size_alloc _ _).symm))))); rintro e Xa ⟨rfl, hba⟩)
      | (go_at_call 31; refine (HJ1.out _ _ ?_).mono ?_; (first | (with_reducible refine rowS_drew (rowS_new _ _ _ _ _ ?_); (first | with_reducible rfl | (with_reducible exact (World.size_alloc _ _).symm))) | (with_reducible refine rowS_new _ _ _ _ _ ?_; (first | with_reducible rfl | (with_reducible exact (World.size_alloc _ _).symm))) | (with_reducible refine rowS_drew ((rowS_new _ _ _ _ _ ?_).below (below_new (Below.refl _ _) _)); (first | with_reducible rfl | (with_reducible exact (World.size_alloc _ _).symm))) | (with_reducible refine (rowS_new _ _ _ _ _ ?_).below (below_new (Below.refl _ _) _); (first | with_reducible rfl | (with_reducible exact (World.size_alloc _ _).symm))) | (refine RowS.below hba ?_; first | (with_reducible refine rowS_drew (rowS_new _ _ _ _ _ ?_); (first | with_reducible rfl | (with_reducible exact (World.size_alloc _ _).symm))) | (with_reducible refine rowS_new _ _ _ _ _ ?_; (first | with_reducible rfl | (with_reducible exact (World.size_alloc _ _).symm))) | (with_reducible refine rowS_drew ((rowS_new _ _ _ _ _ ?_).below (below_new (Below.refl _ _) _)); (first | with_reducible rfl | (with_reducible exact (World.size_alloc _ _).symm))) | (with_reducible refine (rowS_new _ _ _ _ _ ?_).below (below_new (Below.refl _ _) _); (first | with_reducible rfl | (with_reducible exact (World.size_alloc _ _).symm))))); rintro e Xa ⟨rfl, hba⟩)
      | (go_at_call 32; refine (HM2.out _ _ ?_).mono ?_; (first | (with_reducible refine rowS_drew (rowS_new _ _ _ _ _ ?_); (first | with_reducible rfl | (with_reducible exact (World.size_alloc _ _).symm))) | (with_reducible refine rowS_new _ _ _ _ _ ?_; (first | with_reducible rfl | (with_reducible exact (World.size_alloc _ _).symm))) | (with_reducible refine rowS_drew ((rowS_new _ _ _ _ _ ?_).below (below_new (Below.refl _ _) _)); (first | with_reducible rfl | (with_reducible exact (World.size_alloc _ _).symm))) | (with_reducible refine (rowS_new _ _ _ _ _ ?_).below (below_new (Below.refl _ _) _); (first | with_reducible rfl | (with_reducible exact (World.size_alloc _ _).symm))) | (refine RowS.below hbc ?_; first | (with_reducible refine rowS_drew (rowS_new _ _ _ _ _ ?_); (first | with_reducible rfl | (with_reducible exact (World.size_alloc _ _).symm))) | (with_reducible refine rowS_new _ _ _ _ _ ?_; (first | with_reducible rfl | (with_reducible exact (World.size_alloc _ _).symm))) | (with_reducible refine rowS_drew ((rowS_new _ _ _ _ _ ?_).below (below_new (Below.refl _ _) _)); (first | with_reducible rfl | (with_reducible exact (World.size_alloc _ _).symm))) | (with_reducible refine (rowS_new _ _ _ _ _ ?_).below (below_new (Below.refl _ _) _); (first | with_reducible rfl | (with_reducible exact (World.size_alloc _ _).symm))))); rintro e Xc ⟨rfl, hbc⟩)
      | (go_at_call 32; refine (HM1.out _ _ ?_).mono ?_; (first | (with_reducible refine rowS_drew (rowS_new _ _ _ _ _ ?_); (first | with_reducible rfl | (with_reducible exact (World.size_alloc _ _).symm))) | (with_reducible refine rowS_new _ _ _ _ _ ?_; (first | with_reducible rfl | (with_reducible exact (World.size_alloc _ _).symm))) | (with_reducible refine rowS_drew ((rowS_new _ _ _ _ _ ?_).below (below_new (Below.refl _ _) _)); (first | with_reducible rfl | (with_reducible exact (World.size_alloc _ _).symm))) | (with_reducible refine (rowS_new _ _ _ _ _ ?_).below (below_new (Below.refl _ _) _); (first | with_reducible rfl | (with_reducible exact (World.size_alloc _ _).symm))) | (refine RowS.below hbc ?_; first | (with_reducible refine rowS_drew (rowS_new _ _ _ _ _ ?_); (first | with_reducible rfl | (with_reducible exact (World.size_alloc _ _).symm))) | (with_reducible refine rowS_new _ _ _ _ _ ?_; (first | with_reducible rfl | (with_reducible exact (World.size_alloc _ _).symm))) | (with_reducible refine rowS_drew ((rowS_new _ _ _ _ _ ?_).below (below_new (Below.refl _ _) _)); (first | with_reducible rfl | (with_reducible exact (World.size_alloc _ _).symm))) | (with_reducible refine (rowS_new _ _ _ _ _ ?_).below (below_new (Below.refl _ _) _); (first | with_reducible rfl | (with_reducible exact (World.size_alloc _ _).symm))))); rintro e Xc ⟨rfl, hbc⟩)
      | (go_at_call 28; (with_reducible refine (HO1.out _).mono ?_); rintro e Xd ⟨rfl, hbd⟩)
      | (go_at_call 28; (with_reducible refine (HO2.out _).mono ?_); rintro e Xe ⟨rfl, hbe⟩)
      | (go_at_call 35; (with_reducible refine (HRO.out _).mono ?_); rintro e Xf ⟨rfl, hbf⟩)
      | (go_at_call 21; refine (awake2_any _ (HT.out.below (held_below (by assumption)))).mono ?_; rintro e Xg ⟨rfl, hbg⟩)
      | fail)
  all_goals
    go_wp2_with fail
    go_ret
    exact ⟨rfl, held_below (by assumption)⟩
namespace lawSetTwos
open Go.ChangeShapes Go.WideShapes Go.ChangeAt
open Go.ChangeMaps (open_string)
set_option maxRecDepth 100000 in
theorem contract (H : Type) (enc : TypeId × Value → H) (W : World) (base : Nat) (args : Array Value) (ds gs : List (DataW H)) (before : List MemPlace)
    (hval : ∀ (j : Nat) t v, Tryd.f7.params[j]? = some t → args[j]? = some v → Value.okWide Tryd.prog W .any base t v)
    (hW : DataW.Whole enc Tryd.prog Tryd.f7.params.toList Rows.setTwosSpec.vars false W args.toList ds gs before) (hL : laidMetH Tryd.prog Rows.setTwosRow.laid W) :
    Calls Tryd.prog 7 args W fun e W' => ∃ v, e = .returned v ∧ Rows.setTwosSpec.post enc Tryd.prog Tryd.f7 false true false false W args v W' := by
  have hW' := hW
  obtain ⟨p, q, hA0, hV, rfl, hfz, hnd⟩ := hW
  have hA : DataW.TrodAll enc Tryd.prog W 0 (fun _ => true) true Tryd.f7.params.toList args.toList ds p := hA0
  rw [Tryd.params7] at hA hval
  obtain ⟨v0, vs0, d0, ds0, p0, q0, hargs, rfl, rfl, h0, r0⟩ := trodAll_cons hA
  obtain ⟨v1, vs1, d1, ds1, p1, q1, rfl, rfl, rfl, h1, r1⟩ := trodAll_cons r0
  obtain ⟨rfl, rfl, rfl⟩ := trodAll_nil r1
  obtain rfl : args = #[v0, v1] := by cases args; simp_all
  obtain ⟨rfl, rfl⟩ := trodVars_none hV
  obtain ⟨s, rfl⟩ := open_set1 (hval 0 24 v0 rfl rfl) h0
  obtain ⟨t, rfl⟩ := open_set1 (hval 1 24 v1 rfl rfl) h1
  have HT : TzOk W := tz_of_laid hL
  refine (setTwos_walk s t W HT).mono fun e W' ⟨he, hb⟩ => ?_
  subst he
  exact ⟨_, rfl, post_true Tryd.laidOut (by rw [Tryd.params7]; intro t ht; simp at ht; rcases ht with rfl <;> exact ⟨by kernel_rfl, of_decide_eq_true (by kernel_rfl)⟩) hW' rfl rfl rfl Tryd.underlying4 hb⟩
theorem laid_met (os : Os) : laidMet Tryd.prog Rows.setTwosRow.laid ((tzWorld os).forCall (fun _ _ => 0) ⟨#[], #[.agg #[.int .u64 0, .int .u64 0, .int .u64 0, .int .u64 0], .agg #[.int .u64 0, .int .u64 0, .int .u64 0, .int .u64 0]], []⟩).memory :=
  laidMet_of_run' 70 (by kernel_rfl) (by kernel_rfl)
theorem reads (os : Os) {H : Type} (enc : TypeId × Value → H) : ∃ places, DataW.whole enc Tryd.prog ((tzWorld os).forCall (fun _ _ => 0) ⟨#[], #[.agg #[.int .u64 0, .int .u64 0, .int .u64 0, .int .u64 0], .agg #[.int .u64 0, .int .u64 0, .int .u64 0, .int .u64 0]], []⟩).memory Tryd.f7.params.toList Rows.setTwosSpec.vars false (#[.agg #[.int .u64 0, .int .u64 0, .int .u64 0, .int .u64 0], .agg #[.int .u64 0, .int .u64 0, .int .u64 0, .int .u64 0]] : Array Value).toList 8 = some ([.agg [.lit (.int .u64 0), .lit (.int .u64 0), .lit (.int .u64 0), .lit (.int .u64 0)], .agg [.lit (.int .u64 0), .lit (.int .u64 0), .lit (.int .u64 0), .lit (.int .u64 0)]], [], places) :=
  ⟨[], by kernel_rfl⟩
set_option maxRecDepth 100000 in
theorem lifted (os : Os) (started : os.Started) (H : Type) (enc : TypeId × Value → H) (F : Stop.Interp) :
    ReturnsInHanded {} Tryd.checked os 7 .any ((OpenSpec.ofChange Rows.setTwosSpec).preRow enc Tryd.prog Tryd.f7 Rows.setTwosRow.domain false Rows.setTwosRow.laid) (((OpenSpec.ofChange Rows.setTwosSpec).at F).post enc Tryd.prog Tryd.f7 false true false false) := by
  obtain ⟨places, hx⟩ := reads os enc
  refine returnsInHanded_of_row (C := Tryd.checked) (s := OpenSpec.ofChange Rows.setTwosSpec) Tryd.own started (by kernel_rfl) Tryd.func7
    (witness_row_at (enc := enc) (C := Tryd.checked) false (tzWorld os) #[.agg #[.int .u64 0, .int .u64 0, .int .u64 0, .int .u64 0], .agg #[.int .u64 0, .int .u64 0, .int .u64 0, .int .u64 0]] rfl (by kernel_rfl) (by kernel_rfl) (by kernel_rfl)
      (OpenSpec.preRow_of_cond 8 hx (by kernel_rfl) (fun k hk => by cases hk) (by kernel_rfl) (laid_met os))) ?_
  intro W base args ds gs before hval hW _ _ _ hL _ _
  exact contract H enc W base args ds gs before hval hW hL
theorem said : Rows.SetTwosSaid :=
  OpenClaim.holds_of_cond 7 Tryd.f7 rfl rfl rfl rfl rfl rfl rfl ⟨rfl, rfl, rfl, rfl, rfl⟩ rfl rfl rfl rfl rfl (by kernel_rfl) Tryd.func7 (by kernel_rfl)
    (of_decide_eq_true (by kernel_rfl)) (by unfold Func.isWrapper; first | (rw [if_pos (by decide +kernel)]; kernel_rfl) | (rw [if_neg (by decide +kernel)]; exact ⟨rfl, rfl⟩))
    (fun os started H enc _ F => by rw [OpenClaim.pre_eq_preRow]; exact lifted os started H enc F)
theorem plain (f : FuncId) (fn : Func) (hf : Tryd.pinned.checked.prog.funcNamed "quill/quilllaw02.SetTwos" = some f) (hfn : Tryd.pinned.checked.prog.funcs[f]? = some fn) :
    true = Tryd.pinned.checked.prog.looks [] ∧ ∀ (j : Nat) t, fn.params[j]? = some t → Tryd.pinned.checked.prog.wantsStandIn t = false := by
  obtain rfl : f = 7 := Option.some.inj ((show Tryd.prog.funcNamed "quill/quilllaw02.SetTwos" = some 7 by kernel_rfl).symm.trans hf) |>.symm
  obtain rfl : fn = Tryd.f7 := (Option.some.inj (Tryd.func7.symm.trans hfn)).symm
  refine ⟨by kernel_rfl, fun j t ht => ?_⟩
  rw [Tryd.params7] at ht
  have hm := Array.mem_of_getElem? ht
  simp at hm
  rcases hm with rfl
  · exact (show Tryd.prog.wantsStandIn 24 = false by kernel_rfl)
theorem proved : Rows.SetTwosCardSaid :=
  Claim7.holds_tied_plain_at .later [] _ _ _ _ said (fun _ h => by cases h) (by kernel_rfl) (fun _ h => by cases h) setTwos_row_tie rfl ⟨rfl, rfl⟩ (by kernel_rfl) rfl plain (by kernel_rfl)
end lawSetTwos
end Go.Proofs.YthagcmpehpgmpaaDoor
