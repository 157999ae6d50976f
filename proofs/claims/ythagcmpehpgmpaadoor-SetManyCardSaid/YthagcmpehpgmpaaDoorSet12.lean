/- Sets: what is in one alone; their order. -/
import Derived.Test.YthagcmpehpgmpaaDoorSet11
import Derived.Deep.QuietTactic
import Derived.BigQuiet
namespace Go.Proofs.YthagcmpehpgmpaaDoor
open Go.RowKit
set_option linter.unusedVariables false
set_option linter.unusedSimpArgs false

theorem quiet_left {P : Program} {f : FuncId} {args : Array Value} {w : World} {n : Nat} {v : Value}
    (h : Calls P f args (w.drewN n) fun e w' => e = .returned v ∧ w.drewN n = w') : Calls P f args (w.drewN n) fun e w'' => e = .returned v ∧ ∃ m, w'' = w.drewN m :=
  h.mono fun _ _ ⟨he, hm⟩ => ⟨he, n, hm.symm⟩
theorem three_blocks (w : World) (o0 o1 o2 : Obj) :
    (((w.alloc o0).alloc o1).alloc o2).heap[w.heap.size]? = some o0 ∧ (((w.alloc o0).alloc o1).alloc o2).heap[w.heap.size + 1]? = some o1 ∧ (((w.alloc o0).alloc o1).alloc o2).heap[w.heap.size + 1 + 1]? = some o2 := by
  have h0 := new_at1 (w := w) o0
  have h1 := new_at1 (w := w.alloc o0) o1
  have h2 := new_at1 (w := (w.alloc o0).alloc o1) o2
  rw [World.size_alloc] at h1
  rw [World.size_alloc, World.size_alloc] at h2
  exact ⟨heap_keep1 (heap_keep1 h0 _) _, heap_keep1 h1 _, h2⟩
set_option maxRecDepth 100000 in
set_option maxHeartbeats 16000000 in
theorem setLess_any (s t : S4) (w : World) :
    Calls Tryd.prog 34 #[setV s, setV t] w fun e w' => e = .returned (setV (s.less t)) ∧ Below w.heap.size w w' := by
  go_enter Tryd.func34, Tryd.ntmps34
  go_wp2_with fail
  obtain ⟨e0, e1, e2⟩ := three_blocks w (.cells (setA s) 24) (.cells (setA t) 24) (.cells (setA S4.zero) 24)
  have F1 := Lib.hid e0
  have F2 := Lib.hid e1
  have F0 := Lib.hid e2
  have hb1 := Lib.hid (four_three w (.cells (setA s) 24) (.cells (setA t) 24) (.cells (setA S4.zero) 24))
  clear e0 e1 e2
  go_loopw [6] (fun i wi => ∃ (j : Nat), j ≤ 4 ∧ i = .int .i64 (j : Nat) ∧ Hid (wi.heap[w.heap.size + 1 + 1]? = some (.cells (setA S4.zero) 24 (0, 0))) ∧ Hid (wi.heap[w.heap.size]? = some (.cells (setA (s.lessTo t j)) 24 (0, 0))) ∧ Hid (wi.heap[w.heap.size + 1]? = some (.cells (setA t) 24 (0, 0))) ∧ Hid (Below w.heap.size w wi)) (fun i _ => 4 - (intOf i).toNat)
  case atStart => exact ⟨0, by omega, rfl, F0, F1, F2, hb1⟩
  case round =>
    clear F0 F1 F2 hb1
    obtain ⟨j, hj, rfl, F0, F1, F2, hb1⟩ := hrel
    obtain ⟨⟨z0, z1, z2, z3⟩, v0, v1, v2, v3⟩ := cells4_of F2.out
    obtain ⟨⟨y0, y1, y2, y3⟩, u0, u1, u2, u3⟩ := cells4_of F1.out
    obtain rfl | rfl | rfl | rfl | rfl : j = 0 ∨ j = 1 ∨ j = 2 ∨ j = 3 ∨ j = 4 := by omega
    · have hw := bits_less_u s.a t.a
      obtain ⟨v, hv⟩ : ∃ v, s.a &&& ~~~t.a = v := ⟨_, rfl⟩
      rw [hv] at hw
      have HV := Lib.hid hv
      clear hv
      simp only [S4.lessTo] at y0 y1 y2 y3
      go_wp2_with fail
      go_region
      go_wp2_with fail
      go_roundw
      case rel => exact ⟨1, by omega, rfl, (Below.heap_setCell _ _ _ _ (by first | (simp; done) | (simp; omega) | omega)).trans F0.out, by refine ((four_set (u := .int .u64 (v.toNat : Int)) F1.out).1).trans ?_; rw [← HV.out]; rfl, (Below.heap_setCell _ _ _ _ (by first | (simp; done) | (simp; omega) | omega)).trans F2.out, (hb1.out.setCell (by first | (simp; done) | (simp; omega) | omega) _).drew⟩
      case measure => simp [intOf]
    · have hw := bits_less_u s.b t.b
      obtain ⟨v, hv⟩ : ∃ v, s.b &&& ~~~t.b = v := ⟨_, rfl⟩
      rw [hv] at hw
      have HV := Lib.hid hv
      clear hv
      simp only [S4.lessTo] at y0 y1 y2 y3
      go_wp2_with fail
      go_region
      go_wp2_with fail
      go_roundw
      case rel => exact ⟨2, by omega, rfl, (Below.heap_setCell _ _ _ _ (by first | (simp; done) | (simp; omega) | omega)).trans F0.out, by refine ((four_set (u := .int .u64 (v.toNat : Int)) F1.out).2.1).trans ?_; rw [← HV.out]; rfl, (Below.heap_setCell _ _ _ _ (by first | (simp; done) | (simp; omega) | omega)).trans F2.out, (hb1.out.setCell (by first | (simp; done) | (simp; omega) | omega) _).drew⟩
      case measure => simp [intOf]
    · have hw := bits_less_u s.c t.c
      obtain ⟨v, hv⟩ : ∃ v, s.c &&& ~~~t.c = v := ⟨_, rfl⟩
      rw [hv] at hw
      have HV := Lib.hid hv
      clear hv
      simp only [S4.lessTo] at y0 y1 y2 y3
      go_wp2_with fail
      go_region
      go_wp2_with fail
      go_roundw
      case rel => exact ⟨3, by omega, rfl, (Below.heap_setCell _ _ _ _ (by first | (simp; done) | (simp; omega) | omega)).trans F0.out, by refine ((four_set (u := .int .u64 (v.toNat : Int)) F1.out).2.2.1).trans ?_; rw [← HV.out]; rfl, (Below.heap_setCell _ _ _ _ (by first | (simp; done) | (simp; omega) | omega)).trans F2.out, (hb1.out.setCell (by first | (simp; done) | (simp; omega) | omega) _).drew⟩
      case measure => simp [intOf]
    · have hw := bits_less_u s.d t.d
      obtain ⟨v, hv⟩ : ∃ v, s.d &&& ~~~t.d = v := ⟨_, rfl⟩
      rw [hv] at hw
      have HV := Lib.hid hv
      clear hv
      simp only [S4.lessTo] at y0 y1 y2 y3
      go_wp2_with fail
      go_region
      go_wp2_with fail
      go_roundw
      case rel => exact ⟨4, by omega, rfl, (Below.heap_setCell _ _ _ _ (by first | (simp; done) | (simp; omega) | omega)).trans F0.out, by refine ((four_set (u := .int .u64 (v.toNat : Int)) F1.out).2.2.2).trans ?_; rw [← HV.out]; rfl, (Below.heap_setCell _ _ _ _ (by first | (simp; done) | (simp; omega) | omega)).trans F2.out, (hb1.out.setCell (by first | (simp; done) | (simp; omega) | omega) _).drew⟩
      case measure => simp [intOf]
    · obtain ⟨⟨q0, q1, q2, q3⟩, p0, p1, p2, p3⟩ := cells4_of F0.out
      simp only [S4.lessTo] at y0 y1 y2 y3
      go_wp2_with fail
      refine bodyPost_ret (v := setV (s.less t)) (by simp [results, Tryd.results34, go_sem, q0, q1, q2, q3]) rfl ⟨rfl, ?_⟩
      exact four_below hb1.out (by omega)

/-- the order of two words -/
def cmpW (x y : UInt64) : Int := if x.toNat < y.toNat then -1 else if y.toNat < x.toNat then 1 else 0
def ordF (s t : S4) : Nat → Nat → Int
  | 0, _ => 0
  | f + 1, i => if s.get i = t.get i then ordF s t f (i + 1) else cmpW (s.get i) (t.get i)
/-- the order of two sets -/
def ordS (s t : S4) : Int := ordF s t 4 0
theorem cmpW_swap (x y : UInt64) : cmpW y x = -cmpW x y := by
  unfold cmpW
  rcases Nat.lt_trichotomy x.toNat y.toNat with h | h | h
  · rw [if_neg (by omega), if_pos h, if_pos h]; rfl
  · rw [if_neg (by omega), if_neg (by omega), if_neg (by omega), if_neg (by omega)]; rfl
  · rw [if_pos h, if_neg (by omega), if_pos h]
theorem cmpW_zero {x y : UInt64} (h : x ≠ y) : cmpW x y ≠ 0 := by
  have hne : x.toNat ≠ y.toNat := fun e => h (UInt64.toNat_inj.1 e)
  unfold cmpW
  split
  · decide
  · split
    · decide
    · omega
theorem ordF_swap (s t : S4) : ∀ f i, ordF t s f i = -ordF s t f i
  | 0, _ => rfl
  | f + 1, i => by
    simp only [ordF]
    by_cases h : s.get i = t.get i
    · rw [if_pos h, if_pos h.symm, ordF_swap s t f (i + 1)]
    · rw [if_neg h, if_neg (fun e => h e.symm), cmpW_swap]
theorem ordS_swap (s t : S4) : ordS t s = -ordS s t := ordF_swap s t 4 0
theorem ordS_zero (s t : S4) : (ordS s t == 0) = decide (s = t) := by
  rw [Bool.eq_iff_iff, beq_iff_eq, decide_eq_true_eq, S4.ext_iff_]
  have key : ∀ x y : UInt64, x ≠ y → cmpW x y ≠ 0 := fun x y h => cmpW_zero h
  unfold ordS
  simp only [ordF, S4.get]
  by_cases h0 : s.a = t.a
  · rw [if_pos h0]
    by_cases h1 : s.b = t.b
    · rw [if_pos h1]
      by_cases h2 : s.c = t.c
      · rw [if_pos h2]
        by_cases h3 : s.d = t.d
        · rw [if_pos h3]; simp [h0, h1, h2, h3]
        · rw [if_neg h3]; simp [h3, key _ _ h3]
      · rw [if_neg h2]; simp [h2, key _ _ h2]
    · rw [if_neg h1]; simp [h1, key _ _ h1]
  · rw [if_neg h0]; simp [h0, key _ _ h0]

set_option maxHeartbeats 2000000 in
theorem isNaN_any (x : UInt64) (w : World) :
    Calls Tryd.prog 86 #[.int .u64 (x.toNat : Int)] w fun e w' => e = .returned (.bool false) ∧ w = w' := by
  have g : ((x.toNat : Int) != (x.toNat : Int)) = false := by simp
  go_enter Tryd.func86, Tryd.ntmps86
  go_wp2_with fail
  go_ret
  exact ⟨rfl, rfl⟩
set_option maxHeartbeats 2000000 in
theorem cmpCompare_any (x y : UInt64) (w : World) :
    Calls Tryd.prog 65 #[.int .u64 (x.toNat : Int), .int .u64 (y.toNat : Int)] w fun e w' => e = .returned (.int .i64 (cmpW x y)) ∧ w = w' := by
  have hx := x.toNat_lt
  have hy := y.toNat_lt
  have HC : Hid (cmpW x y = if x.toNat < y.toNat then -1 else if y.toNat < x.toNat then 1 else 0) := rfl
  rcases Nat.lt_trichotomy x.toNat y.toNat with h | h | h
  · have HE : Hid (cmpW x y = -1) := by unfold Hid; rw [HC.out, if_pos h]
    have g : decide ((x.toNat : Int) < (y.toNat : Int)) = true := by simp; omega
    go_enter Tryd.func65, Tryd.ntmps65
    go_wp2_with (go_at_call 86; refine (isNaN_any _ _).mono ?_; rintro e w' ⟨rfl, rfl⟩)
    go_ret
    exact ⟨by rw [HE.out]; rfl, rfl⟩
  · have HE : Hid (cmpW x y = 0) := by unfold Hid; rw [HC.out, if_neg (by omega), if_neg (by omega)]
    have g : decide ((x.toNat : Int) < (y.toNat : Int)) = false := by simp; omega
    have g1 : decide (x.toNat < y.toNat) = false := by simp; omega
    have g2 : decide ((x.toNat : Int) > (y.toNat : Int)) = false := by simp; omega
    have g3 : decide (y.toNat < x.toNat) = false := by simp; omega
    clear h
    go_enter Tryd.func65, Tryd.ntmps65
    go_wp2_with (go_at_call 86; refine (isNaN_any _ _).mono ?_; rintro e w' ⟨rfl, rfl⟩)
    go_ret
    exact ⟨by rw [HE.out]; rfl, rfl⟩
  · have HE : Hid (cmpW x y = 1) := by unfold Hid; rw [HC.out, if_neg (by omega), if_pos h]
    have g : decide ((x.toNat : Int) < (y.toNat : Int)) = false := by simp; omega
    have g1 : decide (x.toNat < y.toNat) = false := by simp; omega
    have g2 : decide ((x.toNat : Int) > (y.toNat : Int)) = true := by simp; omega
    go_enter Tryd.func65, Tryd.ntmps65
    go_wp2_with (go_at_call 86; refine (isNaN_any _ _).mono ?_; rintro e w' ⟨rfl, rfl⟩)
    go_ret
    exact ⟨by rw [HE.out]; rfl, rfl⟩

theorem get_cell {w : World} {b : Nat} {s : S4} {t : TypeId} (h : w.heap[b]? = some (.cells (setA s) t (0, 0))) (k : Nat) (hk : k < 4) : w.cell? ((⟨b, 0, none⟩ : Addr).add k) = some (.int .u64 ((s.get k).toNat : Int)) := by
  obtain ⟨⟨x0, x1, x2, x3⟩, _⟩ := cells4_of h
  obtain rfl | rfl | rfl | rfl : k = 0 ∨ k = 1 ∨ k = 2 ∨ k = 3 := by omega
  · exact x0
  · exact x1
  · exact x2
  · exact x3
theorem ordF_step (s t : S4) (k : Nat) (hk : k < 4) : ordF s t (4 - k) k = if s.get k = t.get k then ordF s t (4 - (k + 1)) (k + 1) else cmpW (s.get k) (t.get k) := by
  rw [show 4 - k = (4 - (k + 1)) + 1 by omega]
  rfl

set_option maxRecDepth 100000 in
set_option maxHeartbeats 4000000 in
theorem compareFunc_any (s t : S4) (b d : Nat) (ty : TypeId) (w : World) (hs : w.heap[b]? = some (.cells (setA s) ty (0, 0))) (ht : w.heap[d]? = some (.cells (setA t) ty (0, 0))) :
    Calls Tryd.prog 64 #[.slice (some ⟨b, 0, none⟩) 4 4, .slice (some ⟨d, 0, none⟩) 4 4, .func (.func 65) #[] #[]] w fun e w' => e = .returned (.int .i64 (ordS s t)) ∧ w = w' := by
  have HS := Lib.hid hs
  have HT := Lib.hid ht
  have HO : Hid (ordS s t = ordF s t (4 - 0) 0) := rfl
  clear hs ht
  go_enter Tryd.func64, Tryd.ntmps64
  go_wp2_with fail
  go_loopw [13] (fun i wr => ∃ k : Nat, k ≤ 4 ∧ i = .int .i64 (k : Nat) ∧ Hid (ordS s t = ordF s t (4 - k) k) ∧ wr = w) (fun i _ => 4 - (intOf i).toNat)
  case atStart => exact ⟨0, by omega, rfl, HO, rfl⟩
  case round =>
    clear HO
    obtain ⟨k, hk, rfl, HO, rfl⟩ := hrel
    by_cases hlt : k < 4
    · have c1 := get_cell HS.out k hlt
      have c2 := get_cell HT.out k hlt
      rw [plain_add] at c1 c2
      have HF := Lib.hid (ordF_step s t k hlt)
      have gk : decide ((k : Int) < 4) = true := by simp; omega
      have gk2 : decide ((k : Int) ≥ 4) = false := by simp; omega
      have gk3 : decide (4 ≤ (k : Int)) = false := by simp; omega
      generalize s.get k = x at *
      generalize t.get k = y at *
      by_cases hxy : x = y
      · have HZ : Hid (cmpW x y = 0) := by unfold Hid cmpW; rw [hxy]; simp
        have HO2 : Hid (ordS s t = ordF s t (4 - (k + 1)) (k + 1)) := by unfold Hid; rw [HO.out, HF.out, if_pos hxy]
        clear hxy
        go_wp2_with fail
        refine (cmpCompare_any x y _).mono ?_
        rintro e w' ⟨rfl, rfl⟩
        rw [HZ.out]
        go_wp2_with fail
        go_roundw
        case rel => exact ⟨k + 1, by omega, by go_num, HO2, trivial⟩
        case measure => simp [intOf]; omega
      · have hz := cmpW_zero hxy
        have HO2 : Hid (ordS s t = cmpW x y) := by unfold Hid; rw [HO.out, HF.out, if_neg hxy]
        clear hxy
        have gz : ((cmpW x y) != 0) = true := by simpa using hz
        go_wp2_with fail
        refine (cmpCompare_any x y _).mono ?_
        rintro e w' ⟨rfl, rfl⟩
        go_wp2_with fail
        go_ret
        exact ⟨by rw [HO2.out]; rfl, rfl⟩
    · have he : k = 4 := by omega
      subst he
      have HO2 : Hid (ordS s t = 0) := HO.out
      go_wp2_with fail
      go_ret
      exact ⟨by rw [HO2.out]; rfl, rfl⟩

set_option maxRecDepth 100000 in
set_option maxHeartbeats 4000000 in
theorem setOrder_any (s t : S4) (w : World) :
    Calls Tryd.prog 28 #[setV s, setV t] w fun e w' => e = .returned (.int .i64 (ordS s t)) ∧ Below w.heap.size w w' := by
  go_enter Tryd.func28, Tryd.ntmps28
  go_wp2_with fail
  have e0 := heap_keep1 (new_at1 (w := w) (.cells (setA s) 24)) (.cells (setA t) 24)
  have e1 := new_at1 (w := w.alloc (.cells (setA s) 24)) (.cells (setA t) 24)
  rw [World.size_alloc] at e1
  have E0 := Lib.hid e0
  have E1 := Lib.hid e1
  have hb0 := Lib.hid (below_new (below_new (Below.refl w.heap.size w) (.cells (setA s) 24)) (.cells (setA t) 24))
  clear e0 e1
  go_quiet ((go_at_call 64; exact quiet_left (compareFunc_any s t _ _ 24 _ E0.out E1.out)))
  go_wp2_with fail
  go_ret
  exact ⟨rfl, pw_drewN hb0.out nq⟩

set_option maxRecDepth 100000 in
set_option maxHeartbeats 4000000 in
theorem refOrder_any (s t : S4) (w : World) :
    Calls Tryd.prog 35 #[setV s, setV t] w fun e w' => e = .returned (.int .i64 (ordS s t)) ∧ Below w.heap.size w w' := by
  have HO : Hid (ordS s t = ordF s t (4 - 0) 0) := rfl
  go_enter Tryd.func35, Tryd.ntmps35
  go_wp2_with fail
  have e0 := heap_keep1 (new_at1 (w := w) (.cells (setA s) 24)) (.cells (setA t) 24)
  have e1 := new_at1 (w := w.alloc (.cells (setA s) 24)) (.cells (setA t) 24)
  rw [World.size_alloc] at e1
  have E0 := Lib.hid e0
  have E1 := Lib.hid e1
  have hb0 := Lib.hid (below_new (below_new (Below.refl w.heap.size w) (.cells (setA s) 24)) (.cells (setA t) 24))
  clear e0 e1
  go_loopw [5] (fun i wr => ∃ k : Nat, k ≤ 4 ∧ i = .int .i64 (k : Nat) ∧ Hid (ordS s t = ordF s t (4 - k) k) ∧ Hid (wr.heap[w.heap.size]? = some (.cells (setA s) 24 (0, 0))) ∧ Hid (wr.heap[w.heap.size + 1]? = some (.cells (setA t) 24 (0, 0))) ∧ Hid (Below w.heap.size w wr)) (fun i _ => 4 - (intOf i).toNat)
  case atStart => exact ⟨0, by omega, rfl, HO, E0, E1, hb0⟩
  case round =>
    clear HO E0 E1 hb0
    obtain ⟨k, hk, rfl, HO, E0, E1, hb0⟩ := hrel
    by_cases hlt : k < 4
    · have HF := Lib.hid (ordF_step s t k hlt)
      obtain ⟨⟨z0, z1, z2, z3⟩, _⟩ := cells4_of E0.out
      obtain ⟨⟨y0, y1, y2, y3⟩, _⟩ := cells4_of E1.out
      obtain rfl | rfl | rfl | rfl : k = 0 ∨ k = 1 ∨ k = 2 ∨ k = 3 := by omega
      · have HF2 : Hid (ordF s t (4 - 0) 0 = if s.a = t.a then ordF s t (4 - 1) 1 else cmpW s.a t.a) := HF.out
        rcases Nat.lt_trichotomy s.a.toNat t.a.toNat with h | h | h
        · have hne : ¬ s.a = t.a := fun e => by rw [e] at h; omega
          have HO2 : Hid (ordS s t = -1) := by unfold Hid; rw [HO.out, HF2.out, if_neg hne, cmpW, if_pos h]
          have g : decide ((s.a.toNat : Int) < (t.a.toNat : Int)) = true := by simp; omega
          have g1 : decide (s.a.toNat < t.a.toNat) = true := by simp; omega
          clear hne
          go_wp2_with fail
          go_quiet (fail)
          go_wp2_with fail
          go_ret
          exact ⟨by rw [HO2.out]; rfl, pw_drewN hb0.out nq⟩
        · have he : s.a = t.a := UInt64.toNat_inj.1 h
          have HO2 : Hid (ordS s t = ordF s t (4 - 1) 1) := by unfold Hid; rw [HO.out, HF2.out, if_pos he]
          have g : decide ((s.a.toNat : Int) < (t.a.toNat : Int)) = false := by simp; omega
          have g1 : decide (s.a.toNat < t.a.toNat) = false := by simp; omega
          have g2 : decide ((s.a.toNat : Int) > (t.a.toNat : Int)) = false := by simp; omega
          have g3 : decide (t.a.toNat < s.a.toNat) = false := by simp; omega
          clear h he HF2 HF
          go_wp2_with fail
          go_quiet (fail)
          go_wp2_with fail
          go_quiet (fail)
          go_wp2_with fail
          go_roundw
          case rel => exact ⟨1, by omega, rfl, HO2, E0, E1, pw_drewN hb0.out _⟩
          case measure => simp [intOf]
        · have hne : ¬ s.a = t.a := fun e => by rw [e] at h; omega
          have HO2 : Hid (ordS s t = 1) := by unfold Hid; rw [HO.out, HF2.out, if_neg hne, cmpW, if_neg (by omega), if_pos h]
          have g : decide ((s.a.toNat : Int) < (t.a.toNat : Int)) = false := by simp; omega
          have g1 : decide (s.a.toNat < t.a.toNat) = false := by simp; omega
          have g2 : decide ((s.a.toNat : Int) > (t.a.toNat : Int)) = true := by simp; omega
          have g3 : decide (t.a.toNat < s.a.toNat) = true := by simp; omega
          clear hne HF2 HF
          go_wp2_with fail
          go_quiet (fail)
          go_wp2_with fail
          go_quiet (fail)
          go_wp2_with fail
          go_ret
          exact ⟨by rw [HO2.out]; rfl, pw_drewN (pw_drewN hb0.out _) _⟩
      · have HF2 : Hid (ordF s t (4 - 1) 1 = if s.b = t.b then ordF s t (4 - 2) 2 else cmpW s.b t.b) := HF.out
        rcases Nat.lt_trichotomy s.b.toNat t.b.toNat with h | h | h
        · have hne : ¬ s.b = t.b := fun e => by rw [e] at h; omega
          have HO2 : Hid (ordS s t = -1) := by unfold Hid; rw [HO.out, HF2.out, if_neg hne, cmpW, if_pos h]
          have g : decide ((s.b.toNat : Int) < (t.b.toNat : Int)) = true := by simp; omega
          have g1 : decide (s.b.toNat < t.b.toNat) = true := by simp; omega
          clear hne
          go_wp2_with fail
          go_quiet (fail)
          go_wp2_with fail
          go_ret
          exact ⟨by rw [HO2.out]; rfl, pw_drewN hb0.out nq⟩
        · have he : s.b = t.b := UInt64.toNat_inj.1 h
          have HO2 : Hid (ordS s t = ordF s t (4 - 2) 2) := by unfold Hid; rw [HO.out, HF2.out, if_pos he]
          have g : decide ((s.b.toNat : Int) < (t.b.toNat : Int)) = false := by simp; omega
          have g1 : decide (s.b.toNat < t.b.toNat) = false := by simp; omega
          have g2 : decide ((s.b.toNat : Int) > (t.b.toNat : Int)) = false := by simp; omega
          have g3 : decide (t.b.toNat < s.b.toNat) = false := by simp; omega
          clear h he HF2 HF
          go_wp2_with fail
          go_quiet (fail)
          go_wp2_with fail
          go_quiet (fail)
          go_wp2_with fail
          go_roundw
          case rel => exact ⟨2, by omega, rfl, HO2, E0, E1, pw_drewN hb0.out _⟩
          case measure => simp [intOf]
        · have hne : ¬ s.b = t.b := fun e => by rw [e] at h; omega
          have HO2 : Hid (ordS s t = 1) := by unfold Hid; rw [HO.out, HF2.out, if_neg hne, cmpW, if_neg (by omega), if_pos h]
          have g : decide ((s.b.toNat : Int) < (t.b.toNat : Int)) = false := by simp; omega
          have g1 : decide (s.b.toNat < t.b.toNat) = false := by simp; omega
          have g2 : decide ((s.b.toNat : Int) > (t.b.toNat : Int)) = true := by simp; omega
          have g3 : decide (t.b.toNat < s.b.toNat) = true := by simp; omega
          clear hne HF2 HF
          go_wp2_with fail
          go_quiet (fail)
          go_wp2_with fail
          go_quiet (fail)
          go_wp2_with fail
          go_ret
          exact ⟨by rw [HO2.out]; rfl, pw_drewN (pw_drewN hb0.out _) _⟩
      · have HF2 : Hid (ordF s t (4 - 2) 2 = if s.c = t.c then ordF s t (4 - 3) 3 else cmpW s.c t.c) := HF.out
        rcases Nat.lt_trichotomy s.c.toNat t.c.toNat with h | h | h
        · have hne : ¬ s.c = t.c := fun e => by rw [e] at h; omega
          have HO2 : Hid (ordS s t = -1) := by unfold Hid; rw [HO.out, HF2.out, if_neg hne, cmpW, if_pos h]
          have g : decide ((s.c.toNat : Int) < (t.c.toNat : Int)) = true := by simp; omega
          have g1 : decide (s.c.toNat < t.c.toNat) = true := by simp; omega
          clear hne
          go_wp2_with fail
          go_quiet (fail)
          go_wp2_with fail
          go_ret
          exact ⟨by rw [HO2.out]; rfl, pw_drewN hb0.out nq⟩
        · have he : s.c = t.c := UInt64.toNat_inj.1 h
          have HO2 : Hid (ordS s t = ordF s t (4 - 3) 3) := by unfold Hid; rw [HO.out, HF2.out, if_pos he]
          have g : decide ((s.c.toNat : Int) < (t.c.toNat : Int)) = false := by simp; omega
          have g1 : decide (s.c.toNat < t.c.toNat) = false := by simp; omega
          have g2 : decide ((s.c.toNat : Int) > (t.c.toNat : Int)) = false := by simp; omega
          have g3 : decide (t.c.toNat < s.c.toNat) = false := by simp; omega
          clear h he HF2 HF
          go_wp2_with fail
          go_quiet (fail)
          go_wp2_with fail
          go_quiet (fail)
          go_wp2_with fail
          go_roundw
          case rel => exact ⟨3, by omega, rfl, HO2, E0, E1, pw_drewN hb0.out _⟩
          case measure => simp [intOf]
        · have hne : ¬ s.c = t.c := fun e => by rw [e] at h; omega
          have HO2 : Hid (ordS s t = 1) := by unfold Hid; rw [HO.out, HF2.out, if_neg hne, cmpW, if_neg (by omega), if_pos h]
          have g : decide ((s.c.toNat : Int) < (t.c.toNat : Int)) = false := by simp; omega
          have g1 : decide (s.c.toNat < t.c.toNat) = false := by simp; omega
          have g2 : decide ((s.c.toNat : Int) > (t.c.toNat : Int)) = true := by simp; omega
          have g3 : decide (t.c.toNat < s.c.toNat) = true := by simp; omega
          clear hne HF2 HF
          go_wp2_with fail
          go_quiet (fail)
          go_wp2_with fail
          go_quiet (fail)
          go_wp2_with fail
          go_ret
          exact ⟨by rw [HO2.out]; rfl, pw_drewN (pw_drewN hb0.out _) _⟩
      · have HF2 : Hid (ordF s t (4 - 3) 3 = if s.d = t.d then ordF s t (4 - 4) 4 else cmpW s.d t.d) := HF.out
        rcases Nat.lt_trichotomy s.d.toNat t.d.toNat with h | h | h
        · have hne : ¬ s.d = t.d := fun e => by rw [e] at h; omega
          have HO2 : Hid (ordS s t = -1) := by unfold Hid; rw [HO.out, HF2.out, if_neg hne, cmpW, if_pos h]
          have g : decide ((s.d.toNat : Int) < (t.d.toNat : Int)) = true := by simp; omega
          have g1 : decide (s.d.toNat < t.d.toNat) = true := by simp; omega
          clear hne
          go_wp2_with fail
          go_quiet (fail)
          go_wp2_with fail
          go_ret
          exact ⟨by rw [HO2.out]; rfl, pw_drewN hb0.out nq⟩
        · have he : s.d = t.d := UInt64.toNat_inj.1 h
          have HO2 : Hid (ordS s t = ordF s t (4 - 4) 4) := by unfold Hid; rw [HO.out, HF2.out, if_pos he]
          have g : decide ((s.d.toNat : Int) < (t.d.toNat : Int)) = false := by simp; omega
          have g1 : decide (s.d.toNat < t.d.toNat) = false := by simp; omega
          have g2 : decide ((s.d.toNat : Int) > (t.d.toNat : Int)) = false := by simp; omega
          have g3 : decide (t.d.toNat < s.d.toNat) = false := by simp; omega
          clear h he HF2 HF
          go_wp2_with fail
          go_quiet (fail)
          go_wp2_with fail
          go_quiet (fail)
          go_wp2_with fail
          go_roundw
          case rel => exact ⟨4, by omega, rfl, HO2, E0, E1, pw_drewN hb0.out _⟩
          case measure => simp [intOf]
        · have hne : ¬ s.d = t.d := fun e => by rw [e] at h; omega
          have HO2 : Hid (ordS s t = 1) := by unfold Hid; rw [HO.out, HF2.out, if_neg hne, cmpW, if_neg (by omega), if_pos h]
          have g : decide ((s.d.toNat : Int) < (t.d.toNat : Int)) = false := by simp; omega
          have g1 : decide (s.d.toNat < t.d.toNat) = false := by simp; omega
          have g2 : decide ((s.d.toNat : Int) > (t.d.toNat : Int)) = true := by simp; omega
          have g3 : decide (t.d.toNat < s.d.toNat) = true := by simp; omega
          clear hne HF2 HF
          go_wp2_with fail
          go_quiet (fail)
          go_wp2_with fail
          go_quiet (fail)
          go_wp2_with fail
          go_ret
          exact ⟨by rw [HO2.out]; rfl, pw_drewN (pw_drewN hb0.out _) _⟩
    · have he : k = 4 := by omega
      subst he
      have HO2 : Hid (ordS s t = 0) := HO.out
      go_wp2_with fail
      go_ret
      exact ⟨by rw [HO2.out]; rfl, hb0.out⟩
end Go.Proofs.YthagcmpehpgmpaaDoor
