/- Three behind one another, or one of three, have brackets just where the first two stand together. For every input that is not too large. -/
import Derived.Test.YthagcmpehpgmpaaDoorShowQm
import Derived.Test.YthagcmpehpgmpaaDoorShowPm
import Derived.Test.YthagcmpehpgmpaaDoorSame1
import Derived.Test.YthagcmpehpgmpaaDoorOpenRe
import Derived.Test.YthagcmpehpgmpaaDoorDoor
import Derived.Test.YthagcmpehpgmpaaDoorQuietB
import Derived.Deep.RegionHeld3
import Derived.Deep.CutRange
namespace Go.Proofs.YthagcmpehpgmpaaDoor
open Go.RowKit
set_option linter.unusedVariables false
set_option linter.unusedSimpArgs false

theorem great_no3 {m : Nat} {h : RH} {ks : List Re} (hg : greatB m (.mk h ks) = false) : T.sizes ks < m := by
  have h1 : ¬ ((m : Int) < ((T.mk h ks).size : Int)) := of_decide_eq_false hg
  have h2 : (T.mk h ks).size = 1 + T.sizes ks := rfl
  omega
theorem may_ok3 {t : Re} (h : mayB t = true) : okT t = true := by
  unfold mayB at h
  simp only [Bool.and_eq_true] at h
  exact h.1
/-- what a call makes, and where -/
def Made4 (P : Nat → Prop) (t : Re) (X : World) (e : Ending) (w' : World) : Prop := ∃ h ks A c, e = .returned (reV h A ks.length c) ∧ t = .mk h ks ∧ ks.length ≤ c ∧ InRow RE (fun x => (P x ∨ X.heap.size ≤ x) ∧ x < w'.heap.size) w' ks A 0 ∧ Below X.heap.size X w'
theorem RePost.made4 {P : Nat → Prop} {t : Re} {X : World} {e : Ending} {w' : World} (h : RePost P t X e w') : Made4 P t X e w' := by
  obtain ⟨v, rfl, ⟨h, ks, A, c, ht, hc, rfl, hr⟩, hb1⟩ := h
  exact ⟨h, ks, A, c, rfl, ht, hc, hr.there, hb1⟩
/-- a variable that holds a tree -/
def Box (W : World) (t : Re) (v : Value) (X : World) : Prop := ∃ b h ks A c, v = .pointer (some ⟨b, 0, none⟩) ∧ t = .mk h ks ∧ ks.length ≤ c ∧ X.heap[b]? = some (.cells (reA h A ks.length c) 47 (0, 0)) ∧ InRow RE (fun _ => True) X ks A 0 ∧ Below W.heap.size W X
theorem box_new {W X : World} {P : Nat → Prop} {t : Re} {h : RH} {ks : List Re} {A : Option Addr} {c : Nat} (e : t = .mk h ks) (hc : ks.length ≤ c) (hr : InRow RE P X ks A 0) (hb : Below W.heap.size W X) :
    Box W t (.pointer (some ⟨X.heap.size, 0, none⟩)) (X.alloc (.cells (reA h A ks.length c) 47)) :=
  ⟨_, h, ks, A, c, rfl, e, hc, new_at1 _, (hr.weak fun _ _ => trivial).below (below_new (Below.refl _ _) _), below_new hb _⟩
theorem box_store {W X : World} {P : Nat → Prop} {t : Re} {b : Nat} {h : RH} {ks : List Re} {A : Option Addr} {c : Nat} {v0 v1 v2 v3 v4 v5 : Value} (e : t = .mk h ks) (hc : ks.length ≤ c) (hr : InRow RE P X ks A 0) (hP : ∀ x, P x → x ≠ b) (hb : Below W.heap.size W X)
    (hx : X.heap[b]? = some (.cells #[v0, v1, v2, v3, v4, v5] 47 (0, 0))) (hW : W.heap.size ≤ b) :
    Box W t (.pointer (some ⟨b, 0, none⟩)) ((((((X.setCell ⟨b, 0, none⟩ (.int .u8 (h.k.toNat : Int))).setCell ⟨b, 1, none⟩ (.int .u64 (h.s.a.toNat : Int))).setCell ⟨b, 2, none⟩ (.int .u64 (h.s.b.toNat : Int))).setCell ⟨b, 3, none⟩ (.int .u64 (h.s.c.toNat : Int))).setCell ⟨b, 4, none⟩ (.int .u64 (h.s.d.toNat : Int))).setCell ⟨b, 5, none⟩ (.slice A ks.length c)) :=
  ⟨b, h, ks, A, c, rfl, e, hc, six_setCells hx, hr.keep (fun _ _ => trivial) fun a v ha hv => (World.cell?_of_block (six_other (hP _ ha))).trans hv, six_below hb hW⟩
/-- left has brackets about the first two -/
theorem turns_left {k : UInt8} (hk : k = 4 ∨ k = 5) (a b c : Re) : ∃ r, showT (.mk ⟨k, S4.zero⟩ [.mk ⟨k, S4.zero⟩ [a, b], c]) = 40 :: r := by
  rcases hk with rfl | rfl
  · rw [show_seq rfl, item_brk (.inl rfl)]
    exact ⟨_, rfl⟩
  · rw [show_alt rfl, row_5 rfl, item_brk (.inr rfl)]
    exact ⟨_, rfl⟩
theorem turns_ok {k : UInt8} (hk : k = 4 ∨ k = 5) {a b : Re} (ha : okT a = true) (hb : okT b = true) : okT (.mk ⟨k, S4.zero⟩ [a, b]) = true := by
  rcases hk with rfl | rfl <;> simp [okT, okL, okNode, ha, hb]
theorem turns_ne {k : UInt8} (hk : k = 4 ∨ k = 5) {a b c : Re} (ha : okT a = true) (hb : okT b = true) (hc : okT c = true) : showT (.mk ⟨k, S4.zero⟩ [.mk ⟨k, S4.zero⟩ [a, b], c]) ≠ showT (.mk ⟨k, S4.zero⟩ [a, .mk ⟨k, S4.zero⟩ [b, c]]) := by
  intro h
  have := show_inj (turns_ok hk (turns_ok hk ha hb) hc) (turns_ok hk ha (turns_ok hk hb hc)) h
  simp only [T.mk.injEq, List.cons.injEq, true_and] at this
  have hs : (T.mk (α := RH) ⟨k, S4.zero⟩ [a, b]).size = a.size := by rw [this.1]
  simp only [T.size, T.sizes] at hs
  omega
theorem turns_may {k : UInt8} (hk : k = 4 ∨ k = 5) {a b c : Re} (ha : okT a = true) (hb : okT b = true) (hc : okT c = true) (sa : a.size ≤ 60) (sb : b.size ≤ 60) (sc : c.size ≤ 60) :
    textT (.mk ⟨k, S4.zero⟩ [.mk ⟨k, S4.zero⟩ [a, b], c]) = showT (.mk ⟨k, S4.zero⟩ [.mk ⟨k, S4.zero⟩ [a, b], c]) ∧ textT (.mk ⟨k, S4.zero⟩ [a, .mk ⟨k, S4.zero⟩ [b, c]]) = showT (.mk ⟨k, S4.zero⟩ [a, .mk ⟨k, S4.zero⟩ [b, c]]) := by
  constructor
  · refine textT_yes ?_
    unfold mayB
    rw [turns_ok hk (turns_ok hk ha hb) hc, Bool.true_and, decide_eq_true_eq]
    simp only [T.size, T.sizes]
    omega
  · refine textT_yes ?_
    unfold mayB
    rw [turns_ok hk ha (turns_ok hk hb hc), Bool.true_and, decide_eq_true_eq]
    simp only [T.size, T.sizes]
    omega

set_option maxRecDepth 100000 in
set_option maxHeartbeats 4000000 in
theorem showTurns_walk (h1 h2 h3 : RH) (k1 k2 k3 : List Re) (A1 A2 A3 : Option Addr) (c1 c2 c3 : Nat) (kind : Bool) (w : World) (hm : T.sizes k1 ≤ 1048576) (hm2 : T.sizes k2 ≤ 1048576) (hm3 : T.sizes k3 ≤ 1048576) (hc : k1.length ≤ c1) (hc2 : k2.length ≤ c2) (hc3 : k3.length ≤ c3) (hr : InRow RE (fun _ => True) w k1 A1 0) (hr2 : InRow RE (fun _ => True) w k2 A2 0) (hr3 : InRow RE (fun _ => True) w k3 A3 0) (ht : TzOk w) :
    Calls Tryd.prog 9 #[reV h1 A1 k1.length c1, reV h2 A2 k2.length c2, reV h3 A3 k3.length c3, .bool kind] w fun e w' => e = .returned (.bool true) ∧ Below w.heap.size w w' := by
  obtain ⟨W, hW⟩ : ∃ W, (((w.alloc (.cells (reA h1 A1 k1.length c1) 47)).alloc (.cells (reA h2 A2 k2.length c2) 47)).alloc (.cells (reA h3 A3 k3.length c3) 47)) = W := ⟨_, rfl⟩
  have hbW : Below w.heap.size w W := by rw [← hW]; exact below_new (below_new (below_new (Below.refl _ _) _) _) _
  have n1 : W.heap[w.heap.size]? = some (.cells (reA h1 A1 k1.length c1) 47 (0, 0)) := by
    rw [← hW]
    have := heap_keep1 (heap_keep1 (new_at1 (w := w) (.cells (reA h1 A1 k1.length c1) 47)) (.cells (reA h2 A2 k2.length c2) 47)) (.cells (reA h3 A3 k3.length c3) 47)
    exact this
  have n2 : W.heap[w.heap.size + 1]? = some (.cells (reA h2 A2 k2.length c2) 47 (0, 0)) := by
    rw [← hW]
    have := heap_keep1 (new_at1 (w := (w.alloc (.cells (reA h1 A1 k1.length c1) 47))) (.cells (reA h2 A2 k2.length c2) 47)) (.cells (reA h3 A3 k3.length c3) 47)
    rw [World.size_alloc] at this
    exact this
  have n3 : W.heap[w.heap.size + 1 + 1]? = some (.cells (reA h3 A3 k3.length c3) 47 (0, 0)) := by
    rw [← hW]
    have := new_at1 (w := ((w.alloc (.cells (reA h1 A1 k1.length c1) 47)).alloc (.cells (reA h2 A2 k2.length c2) 47))) (.cells (reA h3 A3 k3.length c3) 47)
    rw [World.size_alloc, World.size_alloc] at this
    exact this
  have Q : Hid (∀ X, Below W.heap.size W X → X.cell? ⟨w.heap.size, 0, none⟩ = some (.int .u8 (h1.k.toNat : Int)) ∧ X.cell? ⟨w.heap.size, 1, none⟩ = some (.int .u64 (h1.s.a.toNat : Int)) ∧ X.cell? ⟨w.heap.size, 2, none⟩ = some (.int .u64 (h1.s.b.toNat : Int)) ∧ X.cell? ⟨w.heap.size, 3, none⟩ = some (.int .u64 (h1.s.c.toNat : Int)) ∧ X.cell? ⟨w.heap.size, 4, none⟩ = some (.int .u64 (h1.s.d.toNat : Int)) ∧ X.cell? ⟨w.heap.size, 5, none⟩ = some (.slice A1 k1.length c1) ∧ X.cell? ⟨w.heap.size + 1, 0, none⟩ = some (.int .u8 (h2.k.toNat : Int)) ∧ X.cell? ⟨w.heap.size + 1, 1, none⟩ = some (.int .u64 (h2.s.a.toNat : Int)) ∧ X.cell? ⟨w.heap.size + 1, 2, none⟩ = some (.int .u64 (h2.s.b.toNat : Int)) ∧ X.cell? ⟨w.heap.size + 1, 3, none⟩ = some (.int .u64 (h2.s.c.toNat : Int)) ∧ X.cell? ⟨w.heap.size + 1, 4, none⟩ = some (.int .u64 (h2.s.d.toNat : Int)) ∧ X.cell? ⟨w.heap.size + 1, 5, none⟩ = some (.slice A2 k2.length c2) ∧ X.cell? ⟨w.heap.size + 1 + 1, 0, none⟩ = some (.int .u8 (h3.k.toNat : Int)) ∧ X.cell? ⟨w.heap.size + 1 + 1, 1, none⟩ = some (.int .u64 (h3.s.a.toNat : Int)) ∧ X.cell? ⟨w.heap.size + 1 + 1, 2, none⟩ = some (.int .u64 (h3.s.b.toNat : Int)) ∧ X.cell? ⟨w.heap.size + 1 + 1, 3, none⟩ = some (.int .u64 (h3.s.c.toNat : Int)) ∧ X.cell? ⟨w.heap.size + 1 + 1, 4, none⟩ = some (.int .u64 (h3.s.d.toNat : Int)) ∧ X.cell? ⟨w.heap.size + 1 + 1, 5, none⟩ = some (.slice A3 k3.length c3)) := by
    intro X hX
    obtain ⟨a0, a1, a2, a3, a4, a5⟩ := re_at_box ((hX.block _ (lt_of_block n1)).trans n1)
    obtain ⟨b0, b1, b2, b3, b4, b5⟩ := re_at_box ((hX.block _ (lt_of_block n2)).trans n2)
    obtain ⟨d0, d1, d2, d3, d4, d5⟩ := re_at_box ((hX.block _ (lt_of_block n3)).trans n3)
    exact ⟨a0, a1, a2, a3, a4, a5, b0, b1, b2, b3, b4, b5, d0, d1, d2, d3, d4, d5⟩
  have CG1 : Hid (∀ X, Below W.heap.size W X → Calls Tryd.prog 36 #[reV h1 A1 k1.length c1, .int .i64 60] X fun e w' => e = .returned (.bool (greatB 60 (.mk h1 k1))) ∧ Below X.heap.size X w') := fun X hX => Great_any h1 k1 A1 c1 60 X (by omega) hc (hr.below (below_from hbW hX))
  have CM1 : Hid (∀ X, Below W.heap.size W X → Calls Tryd.prog 37 #[reV h1 A1 k1.length c1] X fun e w' => e = .returned (.bool (mayB (.mk h1 k1))) ∧ Below X.heap.size X w') := fun X hX => refMay_any h1 k1 A1 c1 X (by omega) hc (hr.below (below_from hbW hX))
  have CG2 : Hid (∀ X, Below W.heap.size W X → Calls Tryd.prog 36 #[reV h2 A2 k2.length c2, .int .i64 60] X fun e w' => e = .returned (.bool (greatB 60 (.mk h2 k2))) ∧ Below X.heap.size X w') := fun X hX => Great_any h2 k2 A2 c2 60 X (by omega) hc2 (hr2.below (below_from hbW hX))
  have CM2 : Hid (∀ X, Below W.heap.size W X → Calls Tryd.prog 37 #[reV h2 A2 k2.length c2] X fun e w' => e = .returned (.bool (mayB (.mk h2 k2))) ∧ Below X.heap.size X w') := fun X hX => refMay_any h2 k2 A2 c2 X (by omega) hc2 (hr2.below (below_from hbW hX))
  have CG3 : Hid (∀ X, Below W.heap.size W X → Calls Tryd.prog 36 #[reV h3 A3 k3.length c3, .int .i64 60] X fun e w' => e = .returned (.bool (greatB 60 (.mk h3 k3))) ∧ Below X.heap.size X w') := fun X hX => Great_any h3 k3 A3 c3 60 X (by omega) hc3 (hr3.below (below_from hbW hX))
  have CM3 : Hid (∀ X, Below W.heap.size W X → Calls Tryd.prog 37 #[reV h3 A3 k3.length c3] X fun e w' => e = .returned (.bool (mayB (.mk h3 k3))) ∧ Below X.heap.size X w') := fun X hX => refMay_any h3 k3 A3 c3 X (by omega) hc3 (hr3.below (below_from hbW hX))
  have CA : Hid (∀ X, Below W.heap.size W X → Calls Tryd.prog 38 #[] X fun e w' => e = .returned (.bool true) ∧ Below X.heap.size X w') := fun X hX => awake5_any X (ht.below (below_from hbW hX))
  have hw1 := (hr.below hbW).there
  have IR1 : Hid (∀ X, Below W.heap.size W X → InRow RE (fun x => x < W.heap.size) X k1 A1 0) := fun X hX => (hw1.weak fun _ h => h.2).below hX
  have hw2 := (hr2.below hbW).there
  have IR2 : Hid (∀ X, Below W.heap.size W X → InRow RE (fun x => x < W.heap.size) X k2 A2 0) := fun X hX => (hw2.weak fun _ h => h.2).below hX
  have hw3 := (hr3.below hbW).there
  have IR3 : Hid (∀ X, Below W.heap.size W X → InRow RE (fun x => x < W.heap.size) X k3 A3 0) := fun X hX => (hw3.weak fun _ h => h.2).below hX
  have CI1 : Hid (∀ (kn : Int) (kv : UInt8) X, kn = (kv.toNat : Int) → Below W.heap.size W X → Calls Tryd.prog 41 #[.int .u8 kn, reV h1 A1 k1.length c1, reV h2 A2 k2.length c2] X (Made4 (fun x => x < W.heap.size) (.mk ⟨kv, S4.zero⟩ [.mk h1 k1, .mk h2 k2]) X)) := fun kn kv X hk hX => (two_any kn kv hk h1 h2 k1 k2 A1 A2 c1 c2 X hc hc2 (IR1.out X hX) (IR2.out X hX)).mono fun _ _ h => h.made4
  have CI2 : Hid (∀ (kn : Int) (kv : UInt8) X, kn = (kv.toNat : Int) → Below W.heap.size W X → Calls Tryd.prog 41 #[.int .u8 kn, reV h2 A2 k2.length c2, reV h3 A3 k3.length c3] X (Made4 (fun x => x < W.heap.size) (.mk ⟨kv, S4.zero⟩ [.mk h2 k2, .mk h3 k3]) X)) := fun kn kv X hk hX => (two_any kn kv hk h2 h3 k2 k3 A2 A3 c2 c3 X hc2 hc3 (IR2.out X hX) (IR3.out X hX)).mono fun _ _ h => h.made4
  have CO1 : Hid (∀ (P : Nat → Prop) (kn : Int) (kv : UInt8) (hi : RH) (ki : List Re) (Ai : Option Addr) (ci : Nat) X, kn = (kv.toNat : Int) → ki.length ≤ ci → InRow RE P X ki Ai 0 → Below W.heap.size W X → Calls Tryd.prog 41 #[.int .u8 kn, reV hi Ai ki.length ci, reV h3 A3 k3.length c3] X (Made4 (fun x => P x ∨ x < W.heap.size) (.mk ⟨kv, S4.zero⟩ [.mk hi ki, .mk h3 k3]) X)) := fun P kn kv hi ki Ai ci X hk hci hri hX => (two_any kn kv hk hi h3 ki k3 Ai A3 ci c3 X hci hc3 (hri.weak fun _ h => .inl h) ((IR3.out X hX).weak fun _ h => .inr h)).mono fun _ _ h => h.made4
  have CO2 : Hid (∀ (P : Nat → Prop) (kn : Int) (kv : UInt8) (hi : RH) (ki : List Re) (Ai : Option Addr) (ci : Nat) X, kn = (kv.toNat : Int) → ki.length ≤ ci → InRow RE P X ki Ai 0 → Below W.heap.size W X → Calls Tryd.prog 41 #[.int .u8 kn, reV h1 A1 k1.length c1, reV hi Ai ki.length ci] X (Made4 (fun x => P x ∨ x < W.heap.size) (.mk ⟨kv, S4.zero⟩ [.mk h1 k1, .mk hi ki]) X)) := fun P kn kv hi ki Ai ci X hk hci hri hX => (two_any kn kv hk h1 hi k1 ki A1 Ai c1 ci X hc hci ((IR1.out X hX).weak fun _ h => .inr h) (hri.weak fun _ h => .inl h)).mono fun _ _ h => h.made4
  have HTz : Hid (∀ X, Below W.heap.size W X → TzOk X) := fun X hX => ht.below (below_from hbW hX)
  have TS1 := Lib.hid (fun (hg : greatB 60 (.mk h1 k1) = false) => (show (T.mk h1 k1).size ≤ 60 from by have := great_no3 (m := 60) hg; simp only [T.size]; omega))
  have TO1 := Lib.hid (fun (hg : mayB (.mk h1 k1) = true) => may_ok3 hg)
  have TS2 := Lib.hid (fun (hg : greatB 60 (.mk h2 k2) = false) => (show (T.mk h2 k2).size ≤ 60 from by have := great_no3 (m := 60) hg; simp only [T.size]; omega))
  have TO2 := Lib.hid (fun (hg : mayB (.mk h2 k2) = true) => may_ok3 hg)
  have TS3 := Lib.hid (fun (hg : greatB 60 (.mk h3 k3) = false) => (show (T.mk h3 k3).size ≤ 60 from by have := great_no3 (m := 60) hg; simp only [T.size]; omega))
  have TO3 := Lib.hid (fun (hg : mayB (.mk h3 k3) = true) => may_ok3 hg)
  have HW := Lib.hid hbW
  have HE := Lib.hid hW
  clear hW n1 n2 n3 hr hr2 hr3 hm hm2 hm3 hc hc2 hc3 ht hbW hw1 hw2 hw3
  generalize greatB 60 (.mk h1 k1) = g1 at *
  generalize mayB (.mk h1 k1) = m1 at *
  generalize greatB 60 (.mk h2 k2) = g2 at *
  generalize mayB (.mk h2 k2) = m2 at *
  generalize greatB 60 (.mk h3 k3) = g3 at *
  generalize mayB (.mk h3 k3) = m3 at *
  go_enter Tryd.func9, Tryd.ntmps9
  go_wp2_with fail
  refine (CG1.out _ (by rw [← HE.out]; exact Below.refl _ _)).mono ?_
  rintro e w1 ⟨rfl, hb⟩
  rw [HE.out] at hb
  have HB1 := Lib.hid hb
  clear hb
  obtain ⟨x0, x1, x2, x3, x4, x5, y0, y1, y2, y3, y4, y5, z0, z1, z2, z3, z4, z5⟩ := Q.out _ HB1.out
  cases g1 with
  | true =>
    go_wp2_with fail
    refine (CA.out _ HB1.out).mono ?_
    rintro e w2 ⟨rfl, hb⟩
    have HB2 := Lib.hid (below_from HB1.out hb)
    clear hb HB1 x0 x1 x2 x3 x4 x5 y0 y1 y2 y3 y4 y5 z0 z1 z2 z3 z4 z5
    obtain ⟨x0, x1, x2, x3, x4, x5, y0, y1, y2, y3, y4, y5, z0, z1, z2, z3, z4, z5⟩ := Q.out _ HB2.out
    have hb := below_from HW.out HB2.out
    go_wp2_with fail
    go_ret
    exact ⟨rfl, hb⟩
  | false =>
    go_wp2_with fail
    refine (CG2.out _ HB1.out).mono ?_
    rintro e w2 ⟨rfl, hb⟩
    have HB2 := Lib.hid (below_from HB1.out hb)
    clear hb HB1 x0 x1 x2 x3 x4 x5 y0 y1 y2 y3 y4 y5 z0 z1 z2 z3 z4 z5
    obtain ⟨x0, x1, x2, x3, x4, x5, y0, y1, y2, y3, y4, y5, z0, z1, z2, z3, z4, z5⟩ := Q.out _ HB2.out
    cases g2 with
    | true =>
      go_wp2_with fail
      refine (CA.out _ HB2.out).mono ?_
      rintro e w3 ⟨rfl, hb⟩
      have HB3 := Lib.hid (below_from HB2.out hb)
      clear hb HB2 x0 x1 x2 x3 x4 x5 y0 y1 y2 y3 y4 y5 z0 z1 z2 z3 z4 z5
      obtain ⟨x0, x1, x2, x3, x4, x5, y0, y1, y2, y3, y4, y5, z0, z1, z2, z3, z4, z5⟩ := Q.out _ HB3.out
      have hb := below_from HW.out HB3.out
      go_wp2_with fail
      go_ret
      exact ⟨rfl, hb⟩
    | false =>
      go_wp2_with fail
      refine (CG3.out _ HB2.out).mono ?_
      rintro e w3 ⟨rfl, hb⟩
      have HB3 := Lib.hid (below_from HB2.out hb)
      clear hb HB2 x0 x1 x2 x3 x4 x5 y0 y1 y2 y3 y4 y5 z0 z1 z2 z3 z4 z5
      obtain ⟨x0, x1, x2, x3, x4, x5, y0, y1, y2, y3, y4, y5, z0, z1, z2, z3, z4, z5⟩ := Q.out _ HB3.out
      cases g3 with
      | true =>
        go_wp2_with fail
        refine (CA.out _ HB3.out).mono ?_
        rintro e w4 ⟨rfl, hb⟩
        have HB4 := Lib.hid (below_from HB3.out hb)
        clear hb HB3 x0 x1 x2 x3 x4 x5 y0 y1 y2 y3 y4 y5 z0 z1 z2 z3 z4 z5
        obtain ⟨x0, x1, x2, x3, x4, x5, y0, y1, y2, y3, y4, y5, z0, z1, z2, z3, z4, z5⟩ := Q.out _ HB4.out
        have hb := below_from HW.out HB4.out
        go_wp2_with fail
        go_ret
        exact ⟨rfl, hb⟩
      | false =>
        go_wp2_with fail
        refine (CM1.out _ HB3.out).mono ?_
        rintro e w4 ⟨rfl, hb⟩
        have HB4 := Lib.hid (below_from HB3.out hb)
        clear hb HB3 x0 x1 x2 x3 x4 x5 y0 y1 y2 y3 y4 y5 z0 z1 z2 z3 z4 z5
        obtain ⟨x0, x1, x2, x3, x4, x5, y0, y1, y2, y3, y4, y5, z0, z1, z2, z3, z4, z5⟩ := Q.out _ HB4.out
        cases m1 with
        | false =>
          go_wp2_with fail
          refine (CA.out _ HB4.out).mono ?_
          rintro e w5 ⟨rfl, hb⟩
          have HB5 := Lib.hid (below_from HB4.out hb)
          clear hb HB4 x0 x1 x2 x3 x4 x5 y0 y1 y2 y3 y4 y5 z0 z1 z2 z3 z4 z5
          obtain ⟨x0, x1, x2, x3, x4, x5, y0, y1, y2, y3, y4, y5, z0, z1, z2, z3, z4, z5⟩ := Q.out _ HB5.out
          have hb := below_from HW.out HB5.out
          go_wp2_with fail
          go_ret
          exact ⟨rfl, hb⟩
        | true =>
          go_wp2_with fail
          refine (CM2.out _ HB4.out).mono ?_
          rintro e w5 ⟨rfl, hb⟩
          have HB5 := Lib.hid (below_from HB4.out hb)
          clear hb HB4 x0 x1 x2 x3 x4 x5 y0 y1 y2 y3 y4 y5 z0 z1 z2 z3 z4 z5
          obtain ⟨x0, x1, x2, x3, x4, x5, y0, y1, y2, y3, y4, y5, z0, z1, z2, z3, z4, z5⟩ := Q.out _ HB5.out
          cases m2 with
          | false =>
            go_wp2_with fail
            refine (CA.out _ HB5.out).mono ?_
            rintro e w6 ⟨rfl, hb⟩
            have HB6 := Lib.hid (below_from HB5.out hb)
            clear hb HB5 x0 x1 x2 x3 x4 x5 y0 y1 y2 y3 y4 y5 z0 z1 z2 z3 z4 z5
            obtain ⟨x0, x1, x2, x3, x4, x5, y0, y1, y2, y3, y4, y5, z0, z1, z2, z3, z4, z5⟩ := Q.out _ HB6.out
            have hb := below_from HW.out HB6.out
            go_wp2_with fail
            go_ret
            exact ⟨rfl, hb⟩
          | true =>
            go_wp2_with fail
            refine (CM3.out _ HB5.out).mono ?_
            rintro e w6 ⟨rfl, hb⟩
            have HB6 := Lib.hid (below_from HB5.out hb)
            clear hb HB5 x0 x1 x2 x3 x4 x5 y0 y1 y2 y3 y4 y5 z0 z1 z2 z3 z4 z5
            obtain ⟨x0, x1, x2, x3, x4, x5, y0, y1, y2, y3, y4, y5, z0, z1, z2, z3, z4, z5⟩ := Q.out _ HB6.out
            cases m3 with
            | false =>
              go_wp2_with fail
              refine (CA.out _ HB6.out).mono ?_
              rintro e w7 ⟨rfl, hb⟩
              have HB7 := Lib.hid (below_from HB6.out hb)
              clear hb HB6 x0 x1 x2 x3 x4 x5 y0 y1 y2 y3 y4 y5 z0 z1 z2 z3 z4 z5
              obtain ⟨x0, x1, x2, x3, x4, x5, y0, y1, y2, y3, y4, y5, z0, z1, z2, z3, z4, z5⟩ := Q.out _ HB7.out
              have hb := below_from HW.out HB7.out
              go_wp2_with fail
              go_ret
              exact ⟨rfl, hb⟩
            | true =>
              have os1 := Lib.hid (TS1.out (by trivial))
              have oo1 := Lib.hid (TO1.out (by trivial))
              have os2 := Lib.hid (TS2.out (by trivial))
              have oo2 := Lib.hid (TO2.out (by trivial))
              have os3 := Lib.hid (TS3.out (by trivial))
              have oo3 := Lib.hid (TO3.out (by trivial))
              clear TS1 TS2 TS3 TO1 TO2 TO3 CG1 CG2 CG3 CM1 CM2 CM3
              cases kind with
              | false =>
                have CI1k := Lib.hid (fun X hX => CI1.out 4 4 X rfl hX)
                have CI2k := Lib.hid (fun X hX => CI2.out 4 4 X rfl hX)
                have CO1k := Lib.hid (fun P hi ki Ai ci X h1 h2 hX => CO1.out P 4 4 hi ki Ai ci X rfl h1 h2 hX)
                have CO2k := Lib.hid (fun P hi ki Ai ci X h1 h2 hX => CO2.out P 4 4 hi ki Ai ci X rfl h1 h2 hX)
                have NE := Lib.hid (turns_ne (k := 4) (.inl rfl) oo1.out oo2.out oo3.out)
                have TM := Lib.hid (turns_may (k := 4) (.inl rfl) oo1.out oo2.out oo3.out os1.out os2.out os3.out)
                have TL := Lib.hid (turns_left (k := 4) (.inl rfl) (.mk h1 k1) (.mk h2 k2) (.mk h3 k3))
                have OL := Lib.hid (turns_ok (k := 4) (.inl rfl) (turns_ok (k := 4) (.inl rfl) oo1.out oo2.out) oo3.out)
                have OR := Lib.hid (turns_ok (k := 4) (.inl rfl) oo1.out (turns_ok (k := 4) (.inl rfl) oo2.out oo3.out))
                have ZL : Hid ((T.mk (α := RH) ⟨4, S4.zero⟩ [.mk ⟨4, S4.zero⟩ [.mk h1 k1, .mk h2 k2], .mk h3 k3]).size ≤ 190) := by have a := os1.out; have b := os2.out; have c := os3.out; unfold Hid; simp only [T.size, T.sizes] at a b c ⊢; omega
                have ZR : Hid ((T.mk (α := RH) ⟨4, S4.zero⟩ [.mk h1 k1, .mk ⟨4, S4.zero⟩ [.mk h2 k2, .mk h3 k3]]).size ≤ 190) := by have a := os1.out; have b := os2.out; have c := os3.out; unfold Hid; simp only [T.size, T.sizes] at a b c ⊢; omega
                clear CI1 CI2 CO1 CO2 oo1 oo2 oo3 os1 os2 os3
                have hz := HB6.out
                have hs0 := hz.size
                have hsW : W.heap.size ≤ w6.heap.size := hs0
                go_upto_region 6 with fail
                go_cut [10] from 41 to 47 (fun q wx => Box W (.mk ⟨4, S4.zero⟩ [.mk ⟨4, S4.zero⟩ [.mk h1 k1, .mk h2 k2], .mk h3 k3]) q wx)
                case first =>
                  go_region_held3 (fun X => X.cell? ⟨w.heap.size, 0, none⟩ = some (.int .u8 (h1.k.toNat : Int)) ∧ X.cell? ⟨w.heap.size, 1, none⟩ = some (.int .u64 (h1.s.a.toNat : Int)) ∧ X.cell? ⟨w.heap.size, 2, none⟩ = some (.int .u64 (h1.s.b.toNat : Int)) ∧ X.cell? ⟨w.heap.size, 3, none⟩ = some (.int .u64 (h1.s.c.toNat : Int)) ∧ X.cell? ⟨w.heap.size, 4, none⟩ = some (.int .u64 (h1.s.d.toNat : Int)) ∧ X.cell? ⟨w.heap.size, 5, none⟩ = some (.slice A1 k1.length c1) ∧ X.cell? ⟨w.heap.size + 1, 0, none⟩ = some (.int .u8 (h2.k.toNat : Int)) ∧ X.cell? ⟨w.heap.size + 1, 1, none⟩ = some (.int .u64 (h2.s.a.toNat : Int)) ∧ X.cell? ⟨w.heap.size + 1, 2, none⟩ = some (.int .u64 (h2.s.b.toNat : Int)) ∧ X.cell? ⟨w.heap.size + 1, 3, none⟩ = some (.int .u64 (h2.s.c.toNat : Int)) ∧ X.cell? ⟨w.heap.size + 1, 4, none⟩ = some (.int .u64 (h2.s.d.toNat : Int)) ∧ X.cell? ⟨w.heap.size + 1, 5, none⟩ = some (.slice A2 k2.length c2) ∧ X.cell? ⟨w.heap.size + 1 + 1, 0, none⟩ = some (.int .u8 (h3.k.toNat : Int)) ∧ X.cell? ⟨w.heap.size + 1 + 1, 1, none⟩ = some (.int .u64 (h3.s.a.toNat : Int)) ∧ X.cell? ⟨w.heap.size + 1 + 1, 2, none⟩ = some (.int .u64 (h3.s.b.toNat : Int)) ∧ X.cell? ⟨w.heap.size + 1 + 1, 3, none⟩ = some (.int .u64 (h3.s.c.toNat : Int)) ∧ X.cell? ⟨w.heap.size + 1 + 1, 4, none⟩ = some (.int .u64 (h3.s.d.toNat : Int)) ∧ X.cell? ⟨w.heap.size + 1 + 1, 5, none⟩ = some (.slice A3 k3.length c3))
                    (first | (with_reducible exact Q.out _ hz) | (with_reducible exact Q.out _ hz.drew) | (with_reducible exact Q.out _ (below_new hz _)) | (with_reducible exact Q.out _ (below_new hz _).drew) | (with_reducible exact Q.out _ (six_below hz hs0)) | (with_reducible exact Q.out _ (six_below hz hs1)) | fail)
                    (first
                      | (go_at_call 41; (with_reducible refine (CI1k.out _ (by first | exact hz | exact hz.drew | exact below_new hz _ | exact below_new hz.drew _ | exact (below_new hz _).drew | fail)).mono ?_); rintro e wi ⟨hi, ki, Ai, ci, rfl, ei, hci, hri, hbi⟩; have EI := Lib.hid ei; clear ei; have hz := below_from (by first | exact hz | exact hz.drew | exact below_new hz _ | exact below_new hz.drew _ | exact (below_new hz _).drew | fail) hbi; have hs1 := hz.size; try (have hq : Below (World.alloc w6 (.cells #[.int .u8 0, .int .u64 0, .int .u64 0, .int .u64 0, .int .u64 0, .slice none 0 0] 47)).drew.heap.size (World.alloc w6 (.cells #[.int .u8 0, .int .u64 0, .int .u64 0, .int .u64 0, .int .u64 0, .slice none 0 0] 47)).drew wi := (by with_reducible exact hbi); have hx := (hq.block w6.heap.size (show _ < (World.alloc w6 (.cells #[.int .u8 0, .int .u64 0, .int .u64 0, .int .u64 0, .int .u64 0, .slice none 0 0] 47)).heap.size from by rw [World.size_alloc]; exact Nat.lt_succ_self _)).trans (new_at1 (w := w6) _)); obtain ⟨x0, x1, x2, x3, x4, x5, y0, y1, y2, y3, y4, y5, z0, z1, z2, z3, z4, z5⟩ := Q.out _ hz)
                      | (go_at_call 41; (with_reducible refine (CO1k.out _ hi ki Ai ci _ hci (by first | exact hri | exact hri.below (below_new (Below.refl _ _) _)) (by first | exact hz | exact hz.drew | exact below_new hz _ | exact below_new hz.drew _ | exact (below_new hz _).drew | fail)).mono ?_); rintro e wo ⟨ho, ko, Ao, co, rfl, eo, hco, hro, hbo⟩; rw [← EI.out] at eo; have EO := Lib.hid eo; clear eo; have hz := below_from (by first | exact hz | exact hz.drew | exact below_new hz _ | exact below_new hz.drew _ | exact (below_new hz _).drew | fail) hbo; obtain ⟨x0, x1, x2, x3, x4, x5, y0, y1, y2, y3, y4, y5, z0, z1, z2, z3, z4, z5⟩ := Q.out _ hz; (first | (have hx := (hbo.block _ (lt_of_block hx)).trans hx; obtain ⟨⟨r0, r1, r2, r3, r4, r5⟩, f0, f1, f2, f3, f4, f5⟩ := re_cells hx) | (have hq : Below (World.alloc wi (.cells #[.int .u8 0, .int .u64 0, .int .u64 0, .int .u64 0, .int .u64 0, .slice none 0 0] 47)).heap.size (World.alloc wi (.cells #[.int .u8 0, .int .u64 0, .int .u64 0, .int .u64 0, .int .u64 0, .slice none 0 0] 47)) wo := (by with_reducible exact hbo); have hx := (hq.block wi.heap.size (by rw [World.size_alloc]; exact Nat.lt_succ_self _)).trans (new_at1 (w := wi) _); obtain ⟨⟨r0, r1, r2, r3, r4, r5⟩, f0, f1, f2, f3, f4, f5⟩ := re_cells hx) | skip))
                      | fail)
                  all_goals go_wp2_with fail
                  all_goals go_meet
                  · exact box_new EO.out hco hro hz
                  · exact box_store EO.out hco hro (fun x hx' => by obtain ⟨hx1, hx2⟩ := hx'; have e := World.size_alloc wi (.cells #[.int .u8 0, .int .u64 0, .int .u64 0, .int .u64 0, .int .u64 0, .slice none 0 0] 47); omega) hz hx hs1
                  · exact box_store EO.out hco hro (fun x hx' => by obtain ⟨hx1, hx2⟩ := hx'; have e : (World.alloc w6 (.cells #[.int .u8 0, .int .u64 0, .int .u64 0, .int .u64 0, .int .u64 0, .slice none 0 0] 47)).drew.heap.size = w6.heap.size + 1 := World.size_alloc _ _; have e2 := hbi.size; omega) hz hx hs0
                case rest =>
                  obtain ⟨bL, hL, kL, AL, cL, rfl, eL, hcL, hNL, hrL, hbL⟩ := hcut
                  obtain ⟨wL, rfl⟩ : ∃ x, x = wc := ⟨_, rfl⟩
                  clear x0 x1 x2 x3 x4 x5 y0 y1 y2 y3 y4 y5 z0 z1 z2 z3 z4 z5 HB6
                  have Q2 : Hid (∀ X, Below wL.heap.size wL X → X.cell? ⟨w.heap.size, 0, none⟩ = some (.int .u8 (h1.k.toNat : Int)) ∧ X.cell? ⟨w.heap.size, 1, none⟩ = some (.int .u64 (h1.s.a.toNat : Int)) ∧ X.cell? ⟨w.heap.size, 2, none⟩ = some (.int .u64 (h1.s.b.toNat : Int)) ∧ X.cell? ⟨w.heap.size, 3, none⟩ = some (.int .u64 (h1.s.c.toNat : Int)) ∧ X.cell? ⟨w.heap.size, 4, none⟩ = some (.int .u64 (h1.s.d.toNat : Int)) ∧ X.cell? ⟨w.heap.size, 5, none⟩ = some (.slice A1 k1.length c1) ∧ X.cell? ⟨w.heap.size + 1, 0, none⟩ = some (.int .u8 (h2.k.toNat : Int)) ∧ X.cell? ⟨w.heap.size + 1, 1, none⟩ = some (.int .u64 (h2.s.a.toNat : Int)) ∧ X.cell? ⟨w.heap.size + 1, 2, none⟩ = some (.int .u64 (h2.s.b.toNat : Int)) ∧ X.cell? ⟨w.heap.size + 1, 3, none⟩ = some (.int .u64 (h2.s.c.toNat : Int)) ∧ X.cell? ⟨w.heap.size + 1, 4, none⟩ = some (.int .u64 (h2.s.d.toNat : Int)) ∧ X.cell? ⟨w.heap.size + 1, 5, none⟩ = some (.slice A2 k2.length c2) ∧ X.cell? ⟨w.heap.size + 1 + 1, 0, none⟩ = some (.int .u8 (h3.k.toNat : Int)) ∧ X.cell? ⟨w.heap.size + 1 + 1, 1, none⟩ = some (.int .u64 (h3.s.a.toNat : Int)) ∧ X.cell? ⟨w.heap.size + 1 + 1, 2, none⟩ = some (.int .u64 (h3.s.b.toNat : Int)) ∧ X.cell? ⟨w.heap.size + 1 + 1, 3, none⟩ = some (.int .u64 (h3.s.c.toNat : Int)) ∧ X.cell? ⟨w.heap.size + 1 + 1, 4, none⟩ = some (.int .u64 (h3.s.d.toNat : Int)) ∧ X.cell? ⟨w.heap.size + 1 + 1, 5, none⟩ = some (.slice A3 k3.length c3)) := fun X h => Q.out X (below_from hbL h)
                  have CI2w := Lib.hid (fun X hX => CI2k.out X (below_from hbL hX))
                  have CO2w := Lib.hid (fun P hi ki Ai ci X h1 h2 hX => CO2k.out P hi ki Ai ci X h1 h2 (below_from hbL hX))
                  obtain ⟨x0, x1, x2, x3, x4, x5, y0, y1, y2, y3, y4, y5, z0, z1, z2, z3, z4, z5⟩ := Q2.out _ (Below.refl _ _)
                  have HNL := Lib.hid hNL
                  have HCL := Lib.hid hcL
                  have EL := Lib.hid eL
                  have HRL := Lib.hid hrL
                  clear hNL hcL eL hrL CI1k CO1k CI2k CO2k hz hs0 hsW
                  have hz := Below.refl wL.heap.size wL
                  have hs0 := hz.size
                  have hsW : W.heap.size ≤ wL.heap.size := hbL.size
                  go_upto_region 7 with fail
                  go_cut [11] from 48 to 54 (fun q wx => Box wL (.mk ⟨4, S4.zero⟩ [.mk h1 k1, .mk ⟨4, S4.zero⟩ [.mk h2 k2, .mk h3 k3]]) q wx)
                  case first =>
                    go_region_held3 (fun X => X.cell? ⟨w.heap.size, 0, none⟩ = some (.int .u8 (h1.k.toNat : Int)) ∧ X.cell? ⟨w.heap.size, 1, none⟩ = some (.int .u64 (h1.s.a.toNat : Int)) ∧ X.cell? ⟨w.heap.size, 2, none⟩ = some (.int .u64 (h1.s.b.toNat : Int)) ∧ X.cell? ⟨w.heap.size, 3, none⟩ = some (.int .u64 (h1.s.c.toNat : Int)) ∧ X.cell? ⟨w.heap.size, 4, none⟩ = some (.int .u64 (h1.s.d.toNat : Int)) ∧ X.cell? ⟨w.heap.size, 5, none⟩ = some (.slice A1 k1.length c1) ∧ X.cell? ⟨w.heap.size + 1, 0, none⟩ = some (.int .u8 (h2.k.toNat : Int)) ∧ X.cell? ⟨w.heap.size + 1, 1, none⟩ = some (.int .u64 (h2.s.a.toNat : Int)) ∧ X.cell? ⟨w.heap.size + 1, 2, none⟩ = some (.int .u64 (h2.s.b.toNat : Int)) ∧ X.cell? ⟨w.heap.size + 1, 3, none⟩ = some (.int .u64 (h2.s.c.toNat : Int)) ∧ X.cell? ⟨w.heap.size + 1, 4, none⟩ = some (.int .u64 (h2.s.d.toNat : Int)) ∧ X.cell? ⟨w.heap.size + 1, 5, none⟩ = some (.slice A2 k2.length c2) ∧ X.cell? ⟨w.heap.size + 1 + 1, 0, none⟩ = some (.int .u8 (h3.k.toNat : Int)) ∧ X.cell? ⟨w.heap.size + 1 + 1, 1, none⟩ = some (.int .u64 (h3.s.a.toNat : Int)) ∧ X.cell? ⟨w.heap.size + 1 + 1, 2, none⟩ = some (.int .u64 (h3.s.b.toNat : Int)) ∧ X.cell? ⟨w.heap.size + 1 + 1, 3, none⟩ = some (.int .u64 (h3.s.c.toNat : Int)) ∧ X.cell? ⟨w.heap.size + 1 + 1, 4, none⟩ = some (.int .u64 (h3.s.d.toNat : Int)) ∧ X.cell? ⟨w.heap.size + 1 + 1, 5, none⟩ = some (.slice A3 k3.length c3))
                      (first | (with_reducible exact Q2.out _ hz) | (with_reducible exact Q2.out _ hz.drew) | (with_reducible exact Q2.out _ (below_new hz _)) | (with_reducible exact Q2.out _ (below_new hz _).drew) | (with_reducible exact Q2.out _ (six_below hz hs0)) | (with_reducible exact Q2.out _ (six_below hz hs1)) | fail)
                      (first
                        | (go_at_call 41; (with_reducible refine (CI2w.out _ (by first | exact hz | exact hz.drew | exact below_new hz _ | exact below_new hz.drew _ | exact (below_new hz _).drew | fail)).mono ?_); rintro e wi ⟨hi, ki, Ai, ci, rfl, ei, hci, hri, hbi⟩; have EI := Lib.hid ei; clear ei; have hz := below_from (by first | exact hz | exact hz.drew | exact below_new hz _ | exact below_new hz.drew _ | exact (below_new hz _).drew | fail) hbi; have hs1 := hz.size; try (have hq : Below (World.alloc wL (.cells #[.int .u8 0, .int .u64 0, .int .u64 0, .int .u64 0, .int .u64 0, .slice none 0 0] 47)).drew.heap.size (World.alloc wL (.cells #[.int .u8 0, .int .u64 0, .int .u64 0, .int .u64 0, .int .u64 0, .slice none 0 0] 47)).drew wi := (by with_reducible exact hbi); have hx := (hq.block wL.heap.size (show _ < (World.alloc wL (.cells #[.int .u8 0, .int .u64 0, .int .u64 0, .int .u64 0, .int .u64 0, .slice none 0 0] 47)).heap.size from by rw [World.size_alloc]; exact Nat.lt_succ_self _)).trans (new_at1 (w := wL) _)); obtain ⟨x0, x1, x2, x3, x4, x5, y0, y1, y2, y3, y4, y5, z0, z1, z2, z3, z4, z5⟩ := Q2.out _ hz)
                        | (go_at_call 41; (with_reducible refine (CO2w.out _ hi ki Ai ci _ hci (by first | exact hri | exact hri.below (below_new (Below.refl _ _) _)) (by first | exact hz | exact hz.drew | exact below_new hz _ | exact below_new hz.drew _ | exact (below_new hz _).drew | fail)).mono ?_); rintro e wo ⟨ho, ko, Ao, co, rfl, eo, hco, hro, hbo⟩; rw [← EI.out] at eo; have EO := Lib.hid eo; clear eo; have hz := below_from (by first | exact hz | exact hz.drew | exact below_new hz _ | exact below_new hz.drew _ | exact (below_new hz _).drew | fail) hbo; obtain ⟨x0, x1, x2, x3, x4, x5, y0, y1, y2, y3, y4, y5, z0, z1, z2, z3, z4, z5⟩ := Q2.out _ hz; (first | (have hx := (hbo.block _ (lt_of_block hx)).trans hx; obtain ⟨⟨r0, r1, r2, r3, r4, r5⟩, f0, f1, f2, f3, f4, f5⟩ := re_cells hx) | (have hq : Below (World.alloc wi (.cells #[.int .u8 0, .int .u64 0, .int .u64 0, .int .u64 0, .int .u64 0, .slice none 0 0] 47)).heap.size (World.alloc wi (.cells #[.int .u8 0, .int .u64 0, .int .u64 0, .int .u64 0, .int .u64 0, .slice none 0 0] 47)) wo := (by with_reducible exact hbo); have hx := (hq.block wi.heap.size (by rw [World.size_alloc]; exact Nat.lt_succ_self _)).trans (new_at1 (w := wi) _); obtain ⟨⟨r0, r1, r2, r3, r4, r5⟩, f0, f1, f2, f3, f4, f5⟩ := re_cells hx) | skip))
                        | fail)
                    all_goals go_wp2_with fail
                    all_goals go_meet
                    · exact box_new EO.out hco hro hz
                    · exact box_store EO.out hco hro (fun x hx' => by obtain ⟨hx1, hx2⟩ := hx'; have e := World.size_alloc wi (.cells #[.int .u8 0, .int .u64 0, .int .u64 0, .int .u64 0, .int .u64 0, .slice none 0 0] 47); omega) hz hx hs1
                    · exact box_store EO.out hco hro (fun x hx' => by obtain ⟨hx1, hx2⟩ := hx'; have e : (World.alloc wL (.cells #[.int .u8 0, .int .u64 0, .int .u64 0, .int .u64 0, .int .u64 0, .slice none 0 0] 47)).drew.heap.size = wL.heap.size + 1 := World.size_alloc _ _; have e2 := hbi.size; omega) hz hx hs0
                  case rest =>
                    obtain ⟨bR, hR, kR, AR, cR, rfl, eR, hcR, hNR, hrR, hbR⟩ := hcut
                    obtain ⟨wR, rfl⟩ : ∃ x, x = wc := ⟨_, rfl⟩
                    clear x0 x1 x2 x3 x4 x5 y0 y1 y2 y3 y4 y5 z0 z1 z2 z3 z4 z5
                    have hNL := (hbR.block _ (lt_of_block HNL.out)).trans HNL.out
                    have HNL2 := Lib.hid hNL
                    have HNR2 := Lib.hid hNR
                    have zL : T.sizes kL ≤ 189 := by have := ZL.out; rw [EL.out] at this; simp only [T.size] at this; omega
                    have zR : T.sizes kR ≤ 189 := by have := ZR.out; rw [eR] at this; simp only [T.size] at this; omega
                    obtain ⟨rst, hrst⟩ := TL.out
                    have HRS := Lib.hid hrst
                    have ER := Lib.hid eR
                    have hbWR := below_from hbL hbR
                    have qL : Hid (textT (.mk hL kL) = 40 :: rst ∧ showT (.mk hL kL) = 40 :: rst) := by unfold Hid; rw [← EL.out, TM.out.1]; exact ⟨HRS.out, HRS.out⟩
                    obtain ⟨sR, hsR⟩ : ∃ sR, showT (.mk ⟨4, S4.zero⟩ [.mk h1 k1, .mk ⟨4, S4.zero⟩ [.mk h2 k2, .mk h3 k3]]) = sR := ⟨_, rfl⟩
                    have qR : Hid (textT (.mk hR kR) = sR ∧ showT (.mk hR kR) = sR) := by unfold Hid; rw [← ER.out, TM.out.2]; exact ⟨hsR, hsR⟩
                    have gne : ((40 :: rst) == sR) = false := by rw [beq_eq_false_iff_ne, ← HRS.out, ← hsR]; exact NE.out
                    have okL : okT (.mk hL kL) = true := by rw [← EL.out]; exact OL.out
                    have okR : okT (.mk hR kR) = true := by rw [← ER.out]; exact OR.out
                    have HRR := Lib.hid hrR
                    have HCR := Lib.hid hcR
                    have CTL : Hid (∀ X, Below wR.heap.size wR X → Calls Tryd.prog 39 #[reV hL AL kL.length cL] X fun e w' => e = .returned (.string (str (40 :: rst))) ∧ Below X.heap.size X w') := fun X hX => by
                      have := showText_any hL kL AL cL X (by omega) HCL.out ((HRL.out.below hbR).below hX) (HTz.out X (below_from hbWR hX))
                      rw [qL.out.1] at this
                      exact this
                    have CTR : Hid (∀ X, Below wR.heap.size wR X → Calls Tryd.prog 39 #[reV hR AR kR.length cR] X fun e w' => e = .returned (.string (str sR)) ∧ Below X.heap.size X w') := fun X hX => by
                      have := showText_any hR kR AR cR X (by omega) HCR.out (HRR.out.below hX) (HTz.out X (below_from hbWR hX))
                      rw [qR.out.1] at this
                      exact this
                    have COL : Hid (∀ X, Below wR.heap.size wR X → Calls Tryd.prog 42 #[reV hL AL kL.length cL] X fun e w' => e = .returned (.string (str (40 :: rst))) ∧ Below X.heap.size X w') := fun X hX => by
                      have := of_ok okL _ AL cL X HCL.out ((HRL.out.below hbR).below hX) (by omega)
                      rw [qL.out.2] at this
                      exact this
                    have COR : Hid (∀ X, Below wR.heap.size wR X → Calls Tryd.prog 42 #[reV hR AR kR.length cR] X fun e w' => e = .returned (.string (str sR)) ∧ Below X.heap.size X w') := fun X hX => by
                      have := of_ok okR _ AR cR X HCR.out (HRR.out.below hX) (by omega)
                      rw [qR.out.2] at this
                      exact this
                    obtain ⟨x0, x1, x2, x3, x4, x5⟩ := re_at_box hNL
                    obtain ⟨y0, y1, y2, y3, y4, y5⟩ := re_at_box hNR
                    have fx0 := fun q : BelowBy wR => BelowBy.cell x0 q
                    have fx1 := fun q : BelowBy wR => BelowBy.cell x1 q
                    have fx2 := fun q : BelowBy wR => BelowBy.cell x2 q
                    have fx3 := fun q : BelowBy wR => BelowBy.cell x3 q
                    have fx4 := fun q : BelowBy wR => BelowBy.cell x4 q
                    have fx5 := fun q : BelowBy wR => BelowBy.cell x5 q
                    have fy0 := fun q : BelowBy wR => BelowBy.cell y0 q
                    have fy1 := fun q : BelowBy wR => BelowBy.cell y1 q
                    have fy2 := fun q : BelowBy wR => BelowBy.cell y2 q
                    have fy3 := fun q : BelowBy wR => BelowBy.cell y3 q
                    have fy4 := fun q : BelowBy wR => BelowBy.cell y4 q
                    have fy5 := fun q : BelowBy wR => BelowBy.cell y5 q
                    have HBR := Lib.hid (below_from HW.out hbWR)
                    have HBW := Lib.hid hbWR
                    clear eR hcR hNR hrR hNL hrst hsR okL okR NE TM TL OL OR ZL ZR zL zR hbR hbL hbWR CI2w CO2w Q Q2 IR1 IR2 IR3
                    go_wp2_with fail
                    refine wp_region_below (by kernel_rfl) (by kernel_rfl) (Below.refl _ _) ?_
                    repeat (go_big_quiet_step (first | (go_at_call 39; with_reducible exact Calls.below_of (CTL.out _ (BelowBy.h _))) | (go_at_call 39; with_reducible exact Calls.below_of (CTR.out _ (BelowBy.h _)))))
                    refine wpQuiet_nil ?_
                    intro _ hw1
                    obtain ⟨⟨wq, hq⟩, hw2⟩ := hw1
                    subst hw2
                    have hNLq := (hq.block _ (lt_of_block HNL2.out)).trans HNL2.out
                    have hNRq := (hq.block _ (lt_of_block HNR2.out)).trans HNR2.out
                    have HNLq := Lib.hid hNLq
                    have HNRq := Lib.hid hNRq
                    clear fx0 fx1 fx2 fx3 fx4 fx5 fy0 fy1 fy2 fy3 fy4 fy5 x0 x1 x2 x3 x4 x5 y0 y1 y2 y3 y4 y5
                    obtain ⟨x0, x1, x2, x3, x4, x5⟩ := re_at_box hNLq
                    have HQ := Lib.hid hq
                    clear hNLq hNRq hq
                    go_wp2_with fail
                    refine (COL.out _ HQ.out).mono ?_
                    rintro e wa ⟨rfl, hba⟩
                    obtain ⟨y0, y1, y2, y3, y4, y5⟩ := re_at_box ((hba.block _ (lt_of_block HNRq.out)).trans HNRq.out)
                    have HA := Lib.hid (below_from HQ.out hba)
                    clear hba
                    go_wp2_with fail
                    refine (COR.out _ HA.out).mono ?_
                    rintro e wb ⟨rfl, hbb⟩
                    have HB' := Lib.hid (below_from HA.out hbb)
                    clear hbb
                    go_wp2_with fail
                    refine (CA.out _ (below_from HBW.out HB'.out)).mono ?_
                    rintro e wz ⟨rfl, hbz⟩
                    have hb := below_from (below_from HBR.out HB'.out) hbz
                    clear hbz
                    go_wp2_with fail
                    go_ret
                    exact ⟨rfl, hb⟩
              | true =>
                have CI1k := Lib.hid (fun X hX => CI1.out 5 5 X rfl hX)
                have CI2k := Lib.hid (fun X hX => CI2.out 5 5 X rfl hX)
                have CO1k := Lib.hid (fun P hi ki Ai ci X h1 h2 hX => CO1.out P 5 5 hi ki Ai ci X rfl h1 h2 hX)
                have CO2k := Lib.hid (fun P hi ki Ai ci X h1 h2 hX => CO2.out P 5 5 hi ki Ai ci X rfl h1 h2 hX)
                have NE := Lib.hid (turns_ne (k := 5) (.inr rfl) oo1.out oo2.out oo3.out)
                have TM := Lib.hid (turns_may (k := 5) (.inr rfl) oo1.out oo2.out oo3.out os1.out os2.out os3.out)
                have TL := Lib.hid (turns_left (k := 5) (.inr rfl) (.mk h1 k1) (.mk h2 k2) (.mk h3 k3))
                have OL := Lib.hid (turns_ok (k := 5) (.inr rfl) (turns_ok (k := 5) (.inr rfl) oo1.out oo2.out) oo3.out)
                have OR := Lib.hid (turns_ok (k := 5) (.inr rfl) oo1.out (turns_ok (k := 5) (.inr rfl) oo2.out oo3.out))
                have ZL : Hid ((T.mk (α := RH) ⟨5, S4.zero⟩ [.mk ⟨5, S4.zero⟩ [.mk h1 k1, .mk h2 k2], .mk h3 k3]).size ≤ 190) := by have a := os1.out; have b := os2.out; have c := os3.out; unfold Hid; simp only [T.size, T.sizes] at a b c ⊢; omega
                have ZR : Hid ((T.mk (α := RH) ⟨5, S4.zero⟩ [.mk h1 k1, .mk ⟨5, S4.zero⟩ [.mk h2 k2, .mk h3 k3]]).size ≤ 190) := by have a := os1.out; have b := os2.out; have c := os3.out; unfold Hid; simp only [T.size, T.sizes] at a b c ⊢; omega
                clear CI1 CI2 CO1 CO2 oo1 oo2 oo3 os1 os2 os3
                have hz := HB6.out
                have hs0 := hz.size
                have hsW : W.heap.size ≤ w6.heap.size := hs0
                go_upto_region 6 with fail
                go_cut [10] from 41 to 47 (fun q wx => Box W (.mk ⟨5, S4.zero⟩ [.mk ⟨5, S4.zero⟩ [.mk h1 k1, .mk h2 k2], .mk h3 k3]) q wx)
                case first =>
                  go_region_held3 (fun X => X.cell? ⟨w.heap.size, 0, none⟩ = some (.int .u8 (h1.k.toNat : Int)) ∧ X.cell? ⟨w.heap.size, 1, none⟩ = some (.int .u64 (h1.s.a.toNat : Int)) ∧ X.cell? ⟨w.heap.size, 2, none⟩ = some (.int .u64 (h1.s.b.toNat : Int)) ∧ X.cell? ⟨w.heap.size, 3, none⟩ = some (.int .u64 (h1.s.c.toNat : Int)) ∧ X.cell? ⟨w.heap.size, 4, none⟩ = some (.int .u64 (h1.s.d.toNat : Int)) ∧ X.cell? ⟨w.heap.size, 5, none⟩ = some (.slice A1 k1.length c1) ∧ X.cell? ⟨w.heap.size + 1, 0, none⟩ = some (.int .u8 (h2.k.toNat : Int)) ∧ X.cell? ⟨w.heap.size + 1, 1, none⟩ = some (.int .u64 (h2.s.a.toNat : Int)) ∧ X.cell? ⟨w.heap.size + 1, 2, none⟩ = some (.int .u64 (h2.s.b.toNat : Int)) ∧ X.cell? ⟨w.heap.size + 1, 3, none⟩ = some (.int .u64 (h2.s.c.toNat : Int)) ∧ X.cell? ⟨w.heap.size + 1, 4, none⟩ = some (.int .u64 (h2.s.d.toNat : Int)) ∧ X.cell? ⟨w.heap.size + 1, 5, none⟩ = some (.slice A2 k2.length c2) ∧ X.cell? ⟨w.heap.size + 1 + 1, 0, none⟩ = some (.int .u8 (h3.k.toNat : Int)) ∧ X.cell? ⟨w.heap.size + 1 + 1, 1, none⟩ = some (.int .u64 (h3.s.a.toNat : Int)) ∧ X.cell? ⟨w.heap.size + 1 + 1, 2, none⟩ = some (.int .u64 (h3.s.b.toNat : Int)) ∧ X.cell? ⟨w.heap.size + 1 + 1, 3, none⟩ = some (.int .u64 (h3.s.c.toNat : Int)) ∧ X.cell? ⟨w.heap.size + 1 + 1, 4, none⟩ = some (.int .u64 (h3.s.d.toNat : Int)) ∧ X.cell? ⟨w.heap.size + 1 + 1, 5, none⟩ = some (.slice A3 k3.length c3))
                    (first | (with_reducible exact Q.out _ hz) | (with_reducible exact Q.out _ hz.drew) | (with_reducible exact Q.out _ (below_new hz _)) | (with_reducible exact Q.out _ (below_new hz _).drew) | (with_reducible exact Q.out _ (six_below hz hs0)) | (with_reducible exact Q.out _ (six_below hz hs1)) | fail)
                    (first
                      | (go_at_call 41; (with_reducible refine (CI1k.out _ (by first | exact hz | exact hz.drew | exact below_new hz _ | exact below_new hz.drew _ | exact (below_new hz _).drew | fail)).mono ?_); rintro e wi ⟨hi, ki, Ai, ci, rfl, ei, hci, hri, hbi⟩; have EI := Lib.hid ei; clear ei; have hz := below_from (by first | exact hz | exact hz.drew | exact below_new hz _ | exact below_new hz.drew _ | exact (below_new hz _).drew | fail) hbi; have hs1 := hz.size; try (have hq : Below (World.alloc w6 (.cells #[.int .u8 0, .int .u64 0, .int .u64 0, .int .u64 0, .int .u64 0, .slice none 0 0] 47)).drew.heap.size (World.alloc w6 (.cells #[.int .u8 0, .int .u64 0, .int .u64 0, .int .u64 0, .int .u64 0, .slice none 0 0] 47)).drew wi := (by with_reducible exact hbi); have hx := (hq.block w6.heap.size (show _ < (World.alloc w6 (.cells #[.int .u8 0, .int .u64 0, .int .u64 0, .int .u64 0, .int .u64 0, .slice none 0 0] 47)).heap.size from by rw [World.size_alloc]; exact Nat.lt_succ_self _)).trans (new_at1 (w := w6) _)); obtain ⟨x0, x1, x2, x3, x4, x5, y0, y1, y2, y3, y4, y5, z0, z1, z2, z3, z4, z5⟩ := Q.out _ hz)
                      | (go_at_call 41; (with_reducible refine (CO1k.out _ hi ki Ai ci _ hci (by first | exact hri | exact hri.below (below_new (Below.refl _ _) _)) (by first | exact hz | exact hz.drew | exact below_new hz _ | exact below_new hz.drew _ | exact (below_new hz _).drew | fail)).mono ?_); rintro e wo ⟨ho, ko, Ao, co, rfl, eo, hco, hro, hbo⟩; rw [← EI.out] at eo; have EO := Lib.hid eo; clear eo; have hz := below_from (by first | exact hz | exact hz.drew | exact below_new hz _ | exact below_new hz.drew _ | exact (below_new hz _).drew | fail) hbo; obtain ⟨x0, x1, x2, x3, x4, x5, y0, y1, y2, y3, y4, y5, z0, z1, z2, z3, z4, z5⟩ := Q.out _ hz; (first | (have hx := (hbo.block _ (lt_of_block hx)).trans hx; obtain ⟨⟨r0, r1, r2, r3, r4, r5⟩, f0, f1, f2, f3, f4, f5⟩ := re_cells hx) | (have hq : Below (World.alloc wi (.cells #[.int .u8 0, .int .u64 0, .int .u64 0, .int .u64 0, .int .u64 0, .slice none 0 0] 47)).heap.size (World.alloc wi (.cells #[.int .u8 0, .int .u64 0, .int .u64 0, .int .u64 0, .int .u64 0, .slice none 0 0] 47)) wo := (by with_reducible exact hbo); have hx := (hq.block wi.heap.size (by rw [World.size_alloc]; exact Nat.lt_succ_self _)).trans (new_at1 (w := wi) _); obtain ⟨⟨r0, r1, r2, r3, r4, r5⟩, f0, f1, f2, f3, f4, f5⟩ := re_cells hx) | skip))
                      | fail)
                  all_goals go_wp2_with fail
                  all_goals go_meet
                  · exact box_new EO.out hco hro hz
                  · exact box_store EO.out hco hro (fun x hx' => by obtain ⟨hx1, hx2⟩ := hx'; have e := World.size_alloc wi (.cells #[.int .u8 0, .int .u64 0, .int .u64 0, .int .u64 0, .int .u64 0, .slice none 0 0] 47); omega) hz hx hs1
                  · exact box_store EO.out hco hro (fun x hx' => by obtain ⟨hx1, hx2⟩ := hx'; have e : (World.alloc w6 (.cells #[.int .u8 0, .int .u64 0, .int .u64 0, .int .u64 0, .int .u64 0, .slice none 0 0] 47)).drew.heap.size = w6.heap.size + 1 := World.size_alloc _ _; have e2 := hbi.size; omega) hz hx hs0
                case rest =>
                  obtain ⟨bL, hL, kL, AL, cL, rfl, eL, hcL, hNL, hrL, hbL⟩ := hcut
                  obtain ⟨wL, rfl⟩ : ∃ x, x = wc := ⟨_, rfl⟩
                  clear x0 x1 x2 x3 x4 x5 y0 y1 y2 y3 y4 y5 z0 z1 z2 z3 z4 z5 HB6
                  have Q2 : Hid (∀ X, Below wL.heap.size wL X → X.cell? ⟨w.heap.size, 0, none⟩ = some (.int .u8 (h1.k.toNat : Int)) ∧ X.cell? ⟨w.heap.size, 1, none⟩ = some (.int .u64 (h1.s.a.toNat : Int)) ∧ X.cell? ⟨w.heap.size, 2, none⟩ = some (.int .u64 (h1.s.b.toNat : Int)) ∧ X.cell? ⟨w.heap.size, 3, none⟩ = some (.int .u64 (h1.s.c.toNat : Int)) ∧ X.cell? ⟨w.heap.size, 4, none⟩ = some (.int .u64 (h1.s.d.toNat : Int)) ∧ X.cell? ⟨w.heap.size, 5, none⟩ = some (.slice A1 k1.length c1) ∧ X.cell? ⟨w.heap.size + 1, 0, none⟩ = some (.int .u8 (h2.k.toNat : Int)) ∧ X.cell? ⟨w.heap.size + 1, 1, none⟩ = some (.int .u64 (h2.s.a.toNat : Int)) ∧ X.cell? ⟨w.heap.size + 1, 2, none⟩ = some (.int .u64 (h2.s.b.toNat : Int)) ∧ X.cell? ⟨w.heap.size + 1, 3, none⟩ = some (.int .u64 (h2.s.c.toNat : Int)) ∧ X.cell? ⟨w.heap.size + 1, 4, none⟩ = some (.int .u64 (h2.s.d.toNat : Int)) ∧ X.cell? ⟨w.heap.size + 1, 5, none⟩ = some (.slice A2 k2.length c2) ∧ X.cell? ⟨w.heap.size + 1 + 1, 0, none⟩ = some (.int .u8 (h3.k.toNat : Int)) ∧ X.cell? ⟨w.heap.size + 1 + 1, 1, none⟩ = some (.int .u64 (h3.s.a.toNat : Int)) ∧ X.cell? ⟨w.heap.size + 1 + 1, 2, none⟩ = some (.int .u64 (h3.s.b.toNat : Int)) ∧ X.cell? ⟨w.heap.size + 1 + 1, 3, none⟩ = some (.int .u64 (h3.s.c.toNat : Int)) ∧ X.cell? ⟨w.heap.size + 1 + 1, 4, none⟩ = some (.int .u64 (h3.s.d.toNat : Int)) ∧ X.cell? ⟨w.heap.size + 1 + 1, 5, none⟩ = some (.slice A3 k3.length c3)) := fun X h => Q.out X (below_from hbL h)
                  have CI2w := Lib.hid (fun X hX => CI2k.out X (below_from hbL hX))
                  have CO2w := Lib.hid (fun P hi ki Ai ci X h1 h2 hX => CO2k.out P hi ki Ai ci X h1 h2 (below_from hbL hX))
                  obtain ⟨x0, x1, x2, x3, x4, x5, y0, y1, y2, y3, y4, y5, z0, z1, z2, z3, z4, z5⟩ := Q2.out _ (Below.refl _ _)
                  have HNL := Lib.hid hNL
                  have HCL := Lib.hid hcL
                  have EL := Lib.hid eL
                  have HRL := Lib.hid hrL
                  clear hNL hcL eL hrL CI1k CO1k CI2k CO2k hz hs0 hsW
                  have hz := Below.refl wL.heap.size wL
                  have hs0 := hz.size
                  have hsW : W.heap.size ≤ wL.heap.size := hbL.size
                  go_upto_region 7 with fail
                  go_cut [11] from 48 to 54 (fun q wx => Box wL (.mk ⟨5, S4.zero⟩ [.mk h1 k1, .mk ⟨5, S4.zero⟩ [.mk h2 k2, .mk h3 k3]]) q wx)
                  case first =>
                    go_region_held3 (fun X => X.cell? ⟨w.heap.size, 0, none⟩ = some (.int .u8 (h1.k.toNat : Int)) ∧ X.cell? ⟨w.heap.size, 1, none⟩ = some (.int .u64 (h1.s.a.toNat : Int)) ∧ X.cell? ⟨w.heap.size, 2, none⟩ = some (.int .u64 (h1.s.b.toNat : Int)) ∧ X.cell? ⟨w.heap.size, 3, none⟩ = some (.int .u64 (h1.s.c.toNat : Int)) ∧ X.cell? ⟨w.heap.size, 4, none⟩ = some (.int .u64 (h1.s.d.toNat : Int)) ∧ X.cell? ⟨w.heap.size, 5, none⟩ = some (.slice A1 k1.length c1) ∧ X.cell? ⟨w.heap.size + 1, 0, none⟩ = some (.int .u8 (h2.k.toNat : Int)) ∧ X.cell? ⟨w.heap.size + 1, 1, none⟩ = some (.int .u64 (h2.s.a.toNat : Int)) ∧ X.cell? ⟨w.heap.size + 1, 2, none⟩ = some (.int .u64 (h2.s.b.toNat : Int)) ∧ X.cell? ⟨w.heap.size + 1, 3, none⟩ = some (.int .u64 (h2.s.c.toNat : Int)) ∧ X.cell? ⟨w.heap.size + 1, 4, none⟩ = some (.int .u64 (h2.s.d.toNat : Int)) ∧ X.cell? ⟨w.heap.size + 1, 5, none⟩ = some (.slice A2 k2.length c2) ∧ X.cell? ⟨w.heap.size + 1 + 1, 0, none⟩ = some (.int .u8 (h3.k.toNat : Int)) ∧ X.cell? ⟨w.heap.size + 1 + 1, 1, none⟩ = some (.int .u64 (h3.s.a.toNat : Int)) ∧ X.cell? ⟨w.heap.size + 1 + 1, 2, none⟩ = some (.int .u64 (h3.s.b.toNat : Int)) ∧ X.cell? ⟨w.heap.size + 1 + 1, 3, none⟩ = some (.int .u64 (h3.s.c.toNat : Int)) ∧ X.cell? ⟨w.heap.size + 1 + 1, 4, none⟩ = some (.int .u64 (h3.s.d.toNat : Int)) ∧ X.cell? ⟨w.heap.size + 1 + 1, 5, none⟩ = some (.slice A3 k3.length c3))
                      (first | (with_reducible exact Q2.out _ hz) | (with_reducible exact Q2.out _ hz.drew) | (with_reducible exact Q2.out _ (below_new hz _)) | (with_reducible exact Q2.out _ (below_new hz _).drew) | (with_reducible exact Q2.out _ (six_below hz hs0)) | (with_reducible exact Q2.out _ (six_below hz hs1)) | fail)
                      (first
                        | (go_at_call 41; (with_reducible refine (CI2w.out _ (by first | exact hz | exact hz.drew | exact below_new hz _ | exact below_new hz.drew _ | exact (below_new hz _).drew | fail)).mono ?_); rintro e wi ⟨hi, ki, Ai, ci, rfl, ei, hci, hri, hbi⟩; have EI := Lib.hid ei; clear ei; have hz := below_from (by first | exact hz | exact hz.drew | exact below_new hz _ | exact below_new hz.drew _ | exact (below_new hz _).drew | fail) hbi; have hs1 := hz.size; try (have hq : Below (World.alloc wL (.cells #[.int .u8 0, .int .u64 0, .int .u64 0, .int .u64 0, .int .u64 0, .slice none 0 0] 47)).drew.heap.size (World.alloc wL (.cells #[.int .u8 0, .int .u64 0, .int .u64 0, .int .u64 0, .int .u64 0, .slice none 0 0] 47)).drew wi := (by with_reducible exact hbi); have hx := (hq.block wL.heap.size (show _ < (World.alloc wL (.cells #[.int .u8 0, .int .u64 0, .int .u64 0, .int .u64 0, .int .u64 0, .slice none 0 0] 47)).heap.size from by rw [World.size_alloc]; exact Nat.lt_succ_self _)).trans (new_at1 (w := wL) _)); obtain ⟨x0, x1, x2, x3, x4, x5, y0, y1, y2, y3, y4, y5, z0, z1, z2, z3, z4, z5⟩ := Q2.out _ hz)
                        | (go_at_call 41; (with_reducible refine (CO2w.out _ hi ki Ai ci _ hci (by first | exact hri | exact hri.below (below_new (Below.refl _ _) _)) (by first | exact hz | exact hz.drew | exact below_new hz _ | exact below_new hz.drew _ | exact (below_new hz _).drew | fail)).mono ?_); rintro e wo ⟨ho, ko, Ao, co, rfl, eo, hco, hro, hbo⟩; rw [← EI.out] at eo; have EO := Lib.hid eo; clear eo; have hz := below_from (by first | exact hz | exact hz.drew | exact below_new hz _ | exact below_new hz.drew _ | exact (below_new hz _).drew | fail) hbo; obtain ⟨x0, x1, x2, x3, x4, x5, y0, y1, y2, y3, y4, y5, z0, z1, z2, z3, z4, z5⟩ := Q2.out _ hz; (first | (have hx := (hbo.block _ (lt_of_block hx)).trans hx; obtain ⟨⟨r0, r1, r2, r3, r4, r5⟩, f0, f1, f2, f3, f4, f5⟩ := re_cells hx) | (have hq : Below (World.alloc wi (.cells #[.int .u8 0, .int .u64 0, .int .u64 0, .int .u64 0, .int .u64 0, .slice none 0 0] 47)).heap.size (World.alloc wi (.cells #[.int .u8 0, .int .u64 0, .int .u64 0, .int .u64 0, .int .u64 0, .slice none 0 0] 47)) wo := (by with_reducible exact hbo); have hx := (hq.block wi.heap.size (by rw [World.size_alloc]; exact Nat.lt_succ_self _)).trans (new_at1 (w := wi) _); obtain ⟨⟨r0, r1, r2, r3, r4, r5⟩, f0, f1, f2, f3, f4, f5⟩ := re_cells hx) | skip))
                        | fail)
                    all_goals go_wp2_with fail
                    all_goals go_meet
                    · exact box_new EO.out hco hro hz
                    · exact box_store EO.out hco hro (fun x hx' => by obtain ⟨hx1, hx2⟩ := hx'; have e := World.size_alloc wi (.cells #[.int .u8 0, .int .u64 0, .int .u64 0, .int .u64 0, .int .u64 0, .slice none 0 0] 47); omega) hz hx hs1
                    · exact box_store EO.out hco hro (fun x hx' => by obtain ⟨hx1, hx2⟩ := hx'; have e : (World.alloc wL (.cells #[.int .u8 0, .int .u64 0, .int .u64 0, .int .u64 0, .int .u64 0, .slice none 0 0] 47)).drew.heap.size = wL.heap.size + 1 := World.size_alloc _ _; have e2 := hbi.size; omega) hz hx hs0
                  case rest =>
                    obtain ⟨bR, hR, kR, AR, cR, rfl, eR, hcR, hNR, hrR, hbR⟩ := hcut
                    obtain ⟨wR, rfl⟩ : ∃ x, x = wc := ⟨_, rfl⟩
                    clear x0 x1 x2 x3 x4 x5 y0 y1 y2 y3 y4 y5 z0 z1 z2 z3 z4 z5
                    have hNL := (hbR.block _ (lt_of_block HNL.out)).trans HNL.out
                    have HNL2 := Lib.hid hNL
                    have HNR2 := Lib.hid hNR
                    have zL : T.sizes kL ≤ 189 := by have := ZL.out; rw [EL.out] at this; simp only [T.size] at this; omega
                    have zR : T.sizes kR ≤ 189 := by have := ZR.out; rw [eR] at this; simp only [T.size] at this; omega
                    obtain ⟨rst, hrst⟩ := TL.out
                    have HRS := Lib.hid hrst
                    have ER := Lib.hid eR
                    have hbWR := below_from hbL hbR
                    have qL : Hid (textT (.mk hL kL) = 40 :: rst ∧ showT (.mk hL kL) = 40 :: rst) := by unfold Hid; rw [← EL.out, TM.out.1]; exact ⟨HRS.out, HRS.out⟩
                    obtain ⟨sR, hsR⟩ : ∃ sR, showT (.mk ⟨5, S4.zero⟩ [.mk h1 k1, .mk ⟨5, S4.zero⟩ [.mk h2 k2, .mk h3 k3]]) = sR := ⟨_, rfl⟩
                    have qR : Hid (textT (.mk hR kR) = sR ∧ showT (.mk hR kR) = sR) := by unfold Hid; rw [← ER.out, TM.out.2]; exact ⟨hsR, hsR⟩
                    have gne : ((40 :: rst) == sR) = false := by rw [beq_eq_false_iff_ne, ← HRS.out, ← hsR]; exact NE.out
                    have okL : okT (.mk hL kL) = true := by rw [← EL.out]; exact OL.out
                    have okR : okT (.mk hR kR) = true := by rw [← ER.out]; exact OR.out
                    have HRR := Lib.hid hrR
                    have HCR := Lib.hid hcR
                    have CTL : Hid (∀ X, Below wR.heap.size wR X → Calls Tryd.prog 39 #[reV hL AL kL.length cL] X fun e w' => e = .returned (.string (str (40 :: rst))) ∧ Below X.heap.size X w') := fun X hX => by
                      have := showText_any hL kL AL cL X (by omega) HCL.out ((HRL.out.below hbR).below hX) (HTz.out X (below_from hbWR hX))
                      rw [qL.out.1] at this
                      exact this
                    have CTR : Hid (∀ X, Below wR.heap.size wR X → Calls Tryd.prog 39 #[reV hR AR kR.length cR] X fun e w' => e = .returned (.string (str sR)) ∧ Below X.heap.size X w') := fun X hX => by
                      have := showText_any hR kR AR cR X (by omega) HCR.out (HRR.out.below hX) (HTz.out X (below_from hbWR hX))
                      rw [qR.out.1] at this
                      exact this
                    have COL : Hid (∀ X, Below wR.heap.size wR X → Calls Tryd.prog 42 #[reV hL AL kL.length cL] X fun e w' => e = .returned (.string (str (40 :: rst))) ∧ Below X.heap.size X w') := fun X hX => by
                      have := of_ok okL _ AL cL X HCL.out ((HRL.out.below hbR).below hX) (by omega)
                      rw [qL.out.2] at this
                      exact this
                    have COR : Hid (∀ X, Below wR.heap.size wR X → Calls Tryd.prog 42 #[reV hR AR kR.length cR] X fun e w' => e = .returned (.string (str sR)) ∧ Below X.heap.size X w') := fun X hX => by
                      have := of_ok okR _ AR cR X HCR.out (HRR.out.below hX) (by omega)
                      rw [qR.out.2] at this
                      exact this
                    obtain ⟨x0, x1, x2, x3, x4, x5⟩ := re_at_box hNL
                    obtain ⟨y0, y1, y2, y3, y4, y5⟩ := re_at_box hNR
                    have fx0 := fun q : BelowBy wR => BelowBy.cell x0 q
                    have fx1 := fun q : BelowBy wR => BelowBy.cell x1 q
                    have fx2 := fun q : BelowBy wR => BelowBy.cell x2 q
                    have fx3 := fun q : BelowBy wR => BelowBy.cell x3 q
                    have fx4 := fun q : BelowBy wR => BelowBy.cell x4 q
                    have fx5 := fun q : BelowBy wR => BelowBy.cell x5 q
                    have fy0 := fun q : BelowBy wR => BelowBy.cell y0 q
                    have fy1 := fun q : BelowBy wR => BelowBy.cell y1 q
                    have fy2 := fun q : BelowBy wR => BelowBy.cell y2 q
                    have fy3 := fun q : BelowBy wR => BelowBy.cell y3 q
                    have fy4 := fun q : BelowBy wR => BelowBy.cell y4 q
                    have fy5 := fun q : BelowBy wR => BelowBy.cell y5 q
                    have HBR := Lib.hid (below_from HW.out hbWR)
                    have HBW := Lib.hid hbWR
                    clear eR hcR hNR hrR hNL hrst hsR okL okR NE TM TL OL OR ZL ZR zL zR hbR hbL hbWR CI2w CO2w Q Q2 IR1 IR2 IR3
                    go_wp2_with fail
                    refine wp_region_below (by kernel_rfl) (by kernel_rfl) (Below.refl _ _) ?_
                    repeat (go_big_quiet_step (first | (go_at_call 39; with_reducible exact Calls.below_of (CTL.out _ (BelowBy.h _))) | (go_at_call 39; with_reducible exact Calls.below_of (CTR.out _ (BelowBy.h _)))))
                    refine wpQuiet_nil ?_
                    intro _ hw1
                    obtain ⟨⟨wq, hq⟩, hw2⟩ := hw1
                    subst hw2
                    have hNLq := (hq.block _ (lt_of_block HNL2.out)).trans HNL2.out
                    have hNRq := (hq.block _ (lt_of_block HNR2.out)).trans HNR2.out
                    have HNLq := Lib.hid hNLq
                    have HNRq := Lib.hid hNRq
                    clear fx0 fx1 fx2 fx3 fx4 fx5 fy0 fy1 fy2 fy3 fy4 fy5 x0 x1 x2 x3 x4 x5 y0 y1 y2 y3 y4 y5
                    obtain ⟨x0, x1, x2, x3, x4, x5⟩ := re_at_box hNLq
                    have HQ := Lib.hid hq
                    clear hNLq hNRq hq
                    go_wp2_with fail
                    refine (COL.out _ HQ.out).mono ?_
                    rintro e wa ⟨rfl, hba⟩
                    obtain ⟨y0, y1, y2, y3, y4, y5⟩ := re_at_box ((hba.block _ (lt_of_block HNRq.out)).trans HNRq.out)
                    have HA := Lib.hid (below_from HQ.out hba)
                    clear hba
                    go_wp2_with fail
                    refine (COR.out _ HA.out).mono ?_
                    rintro e wb ⟨rfl, hbb⟩
                    have HB' := Lib.hid (below_from HA.out hbb)
                    clear hbb
                    go_wp2_with fail
                    refine (CA.out _ (below_from HBW.out HB'.out)).mono ?_
                    rintro e wz ⟨rfl, hbz⟩
                    have hb := below_from (below_from HBR.out HB'.out) hbz
                    clear hbz
                    go_wp2_with fail
                    go_ret
                    exact ⟨rfl, hb⟩
namespace lawShowTurns
open Go.ChangeShapes Go.WideShapes Go.ChangeAt
open Go.ChangeMaps (open_string)
set_option maxRecDepth 100000 in
theorem contract (H : Type) (enc : TypeId × Value → H) (W : World) (base : Nat) (args : Array Value) (ds gs : List (DataW H)) (before : List MemPlace)
    (hval : ∀ (j : Nat) t v, Tryd.f9.params[j]? = some t → args[j]? = some v → Value.okWide Tryd.prog W .any base t v)
    (hW : DataW.Whole enc Tryd.prog Tryd.f9.params.toList Rows.showTurnsSpec.vars false W args.toList ds gs before) (hL : laidMetH Tryd.prog Rows.showTurnsUptoRow.laid W) (hk : Rows.uptoSmall H (ds ++ gs) = true) :
    Calls Tryd.prog 9 args W fun e W' => ∃ v, e = .returned v ∧ Rows.showTurnsSpec.post enc Tryd.prog Tryd.f9 false true false false W args v W' := by
  have hW' := hW
  obtain ⟨p, q, hA0, hV, rfl, hfz, hnd⟩ := hW
  have hA : DataW.TrodAll enc Tryd.prog W 0 (fun _ => true) true Tryd.f9.params.toList args.toList ds p := hA0
  rw [Tryd.params9] at hA hval
  obtain ⟨v0, vs0, d0, ds0, p0, q0, hargs, rfl, rfl, h0, r0⟩ := trodAll_cons hA
  obtain ⟨v1, vs1, d1, ds1, p1, q1, rfl, rfl, rfl, h1, r1⟩ := trodAll_cons r0
  obtain ⟨v2, vs2, d2, ds2, p2, q2, rfl, rfl, rfl, h2, r2⟩ := trodAll_cons r1
  obtain ⟨v3, vs3, d3, ds3, p3, q3, rfl, rfl, rfl, h3, r3⟩ := trodAll_cons r2
  obtain ⟨rfl, rfl, rfl⟩ := trodAll_nil r3
  obtain rfl : args = #[v0, v1, v2, v3] := by cases args; simp_all
  obtain ⟨rfl, rfl⟩ := trodVars_none hV
  have hkk : Rows.uptoBulk d0 + Rows.uptoBulk d1 + Rows.uptoBulk d2 + Rows.uptoBulk d3 ≤ 1048576 := by simp [Rows.uptoSmall, Rows.uptoBulkAll] at hk; omega
  obtain ⟨x, kx, A0, c0, rfl, hc0, hr0, hz0⟩ := open_re (hval 0 47 v0 rfl rfl) h0
  obtain ⟨y, ky, A1, c1, rfl, hc1, hr1, hz1⟩ := open_re (hval 1 47 v1 rfl rfl) h1
  obtain ⟨z, kz, A2, c2, rfl, hc2, hr2, hz2⟩ := open_re (hval 2 47 v2 rfl rfl) h2
  obtain ⟨kd, rfl, rfl, rfl⟩ := open_bool Tryd.underlying4 (hval 3 4 v3 rfl rfl) h3
  have HT : TzOk W := tz_of_laid hL
  refine (showTurns_walk x y z kx ky kz A0 A1 A2 c0 c1 c2 kd W (by omega) (by omega) (by omega) hc0 hc1 hc2 hr0 hr1 hr2 HT).mono fun e W' ⟨he, hb⟩ => ?_
  subst he
  exact ⟨_, rfl, post_true Tryd.laidOut (by rw [Tryd.params9]; intro t ht; simp at ht; rcases ht with rfl | rfl <;> exact ⟨by kernel_rfl, of_decide_eq_true (by kernel_rfl)⟩) hW' rfl rfl rfl Tryd.underlying4 hb⟩
theorem laid_met (os : Os) : laidMet Tryd.prog Rows.showTurnsUptoRow.laid ((tzWorld os).forCall (fun _ _ => 0) ⟨#[], #[.agg #[.int .u8 0, .int .u64 0, .int .u64 0, .int .u64 0, .int .u64 0, .slice none 0 0], .agg #[.int .u8 0, .int .u64 0, .int .u64 0, .int .u64 0, .int .u64 0, .slice none 0 0], .agg #[.int .u8 0, .int .u64 0, .int .u64 0, .int .u64 0, .int .u64 0, .slice none 0 0], .bool false], []⟩).memory :=
  laidMet_of_run' 70 (by kernel_rfl) (by kernel_rfl)
theorem reads (os : Os) {H : Type} (enc : TypeId × Value → H) : ∃ places, DataW.whole enc Tryd.prog ((tzWorld os).forCall (fun _ _ => 0) ⟨#[], #[.agg #[.int .u8 0, .int .u64 0, .int .u64 0, .int .u64 0, .int .u64 0, .slice none 0 0], .agg #[.int .u8 0, .int .u64 0, .int .u64 0, .int .u64 0, .int .u64 0, .slice none 0 0], .agg #[.int .u8 0, .int .u64 0, .int .u64 0, .int .u64 0, .int .u64 0, .slice none 0 0], .bool false], []⟩).memory Tryd.f9.params.toList Rows.showTurnsSpec.vars false (#[.agg #[.int .u8 0, .int .u64 0, .int .u64 0, .int .u64 0, .int .u64 0, .slice none 0 0], .agg #[.int .u8 0, .int .u64 0, .int .u64 0, .int .u64 0, .int .u64 0, .slice none 0 0], .agg #[.int .u8 0, .int .u64 0, .int .u64 0, .int .u64 0, .int .u64 0, .slice none 0 0], .bool false] : Array Value).toList 8 = some ([.agg [.lit (.int .u8 0), .agg [.lit (.int .u64 0), .lit (.int .u64 0), .lit (.int .u64 0), .lit (.int .u64 0)], .nil], .agg [.lit (.int .u8 0), .agg [.lit (.int .u64 0), .lit (.int .u64 0), .lit (.int .u64 0), .lit (.int .u64 0)], .nil], .agg [.lit (.int .u8 0), .agg [.lit (.int .u64 0), .lit (.int .u64 0), .lit (.int .u64 0), .lit (.int .u64 0)], .nil], .lit (.bool false)], [], places) :=
  ⟨[], by kernel_rfl⟩
set_option maxRecDepth 100000 in
theorem lifted (os : Os) (started : os.Started) (H : Type) (enc : TypeId × Value → H) (F : Stop.Interp) :
    ReturnsInHanded {} Tryd.checked os 9 .any ((Rows.OpenSpec.upto Rows.showTurnsSpec).preRow enc Tryd.prog Tryd.f9 Rows.showTurnsUptoRow.domain false Rows.showTurnsUptoRow.laid) (((Rows.OpenSpec.upto Rows.showTurnsSpec).at F).post enc Tryd.prog Tryd.f9 false true false false) := by
  obtain ⟨places, hx⟩ := reads os enc
  refine returnsInHanded_of_row (C := Tryd.checked) (s := Rows.OpenSpec.upto Rows.showTurnsSpec) Tryd.own started (by kernel_rfl) Tryd.func9
    (witness_row_at (enc := enc) (C := Tryd.checked) false (tzWorld os) #[.agg #[.int .u8 0, .int .u64 0, .int .u64 0, .int .u64 0, .int .u64 0, .slice none 0 0], .agg #[.int .u8 0, .int .u64 0, .int .u64 0, .int .u64 0, .int .u64 0, .slice none 0 0], .agg #[.int .u8 0, .int .u64 0, .int .u64 0, .int .u64 0, .int .u64 0, .slice none 0 0], .bool false] rfl (by kernel_rfl) (by kernel_rfl) (by kernel_rfl)
      (OpenSpec.preRow_of_cond 8 hx (by kernel_rfl) (fun k hk => by cases hk; kernel_rfl) (by kernel_rfl) (laid_met os))) ?_
  intro W base args ds gs before hval hW _ hcond _ hL _ _
  exact contract H enc W base args ds gs before hval hW hL (hcond _ rfl)
theorem said : Rows.ShowTurnsUptoSaid :=
  OpenClaim.holds_of_cond 9 Tryd.f9 rfl rfl rfl rfl rfl rfl rfl ⟨rfl, rfl, rfl, rfl, rfl⟩ rfl rfl rfl rfl rfl (by kernel_rfl) Tryd.func9 (by kernel_rfl)
    (of_decide_eq_true (by kernel_rfl)) (by unfold Func.isWrapper; first | (rw [if_pos (by decide +kernel)]; kernel_rfl) | (rw [if_neg (by decide +kernel)]; exact ⟨rfl, rfl⟩))
    (fun os started H enc _ F => by rw [OpenClaim.pre_eq_preRow]; exact lifted os started H enc F)
theorem plain (f : FuncId) (fn : Func) (hf : Tryd.pinned.checked.prog.funcNamed "quill/quilllaw05.ShowTurns" = some f) (hfn : Tryd.pinned.checked.prog.funcs[f]? = some fn) :
    true = Tryd.pinned.checked.prog.looks [] ∧ ∀ (j : Nat) t, fn.params[j]? = some t → Tryd.pinned.checked.prog.wantsStandIn t = false := by
  obtain rfl : f = 9 := Option.some.inj ((show Tryd.prog.funcNamed "quill/quilllaw05.ShowTurns" = some 9 by kernel_rfl).symm.trans hf) |>.symm
  obtain rfl : fn = Tryd.f9 := (Option.some.inj (Tryd.func9.symm.trans hfn)).symm
  refine ⟨by kernel_rfl, fun j t ht => ?_⟩
  rw [Tryd.params9] at ht
  have hm := Array.mem_of_getElem? ht
  simp at hm
  rcases hm with rfl | rfl
  · exact (show Tryd.prog.wantsStandIn 47 = false by kernel_rfl)
  · exact (show Tryd.prog.wantsStandIn 4 = false by kernel_rfl)
theorem proved : Rows.ShowTurnsUptoCardSaid :=
  Claim7.holds_tied_plain_at .later [] _ _ _ _ said (fun _ h => by cases h) (by kernel_rfl) (fun _ h => by cases h) showTurnsUpto_row_tie rfl ⟨rfl, rfl⟩ (by kernel_rfl) rfl plain (by kernel_rfl)
end lawShowTurns
end Go.Proofs.YthagcmpehpgmpaaDoor
