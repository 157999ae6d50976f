/- The coded derivative, as the program has it. The coded derivative, as the document has it. -/
import Derived.Test.YtgdigbbfgpenpaaGreatDoorBi
import Derived.Test.YtgdigbbfgpenpaaGreatDoorBf
import Derived.Test.YtgdigbbfgpenpaaGreatDoorBb
import Derived.Deep.RegionHeld3
import Derived.Deep.RegionWith
import Derived.Deep.CutRange
namespace Go.Proofs.YtgdigbbfgpenpaaGreatDoor
open Go.RowKit
set_option linter.unusedVariables false
set_option linter.unusedSimpArgs false

/-- a value that is a coded expression, in blocks that were ok, or new -/
def CoPostX (P : Nat → Prop) (t : Co) (w : World) (e : Ending) (w' : World) : Prop := ∃ h ks A c, e = .returned (coV h A ks.length c) ∧ t = .mk h ks ∧ ks.length ≤ c ∧ InRow CE (fun x => P x ∨ w.heap.size ≤ x) w' ks A 0 ∧ Below w.heap.size w w'
theorem setHasU_any (s : S4) (d : UInt8) (w : World) : Calls Tryz.prog 57 #[setV s, .int .u8 (d.toNat : Int)] w fun e w' => e = .returned (.bool (s.has d.toNat)) ∧ Below w.heap.size w w' := by
  have := setHas_any s (d.toNat : Int) w (by omega) (by have := d.toNat_lt; omega)
  rw [Int.toNat_natCast] at this
  exact this
def StepOk (f : FuncId) (d : UInt8) (h : CH) (ks : List Co) : Prop := ∀ (P : Nat → Prop) (A : Option Addr) (c : Nat) (w : World), ks.length ≤ c → InRow CE P w ks A 0 →
  Calls Tryz.prog f #[coV h A ks.length c, .int .u8 (d.toNat : Int)] w (CoPostX P (stepC d (.mk h ks)) w)
def StepOkT (f : FuncId) (d : UInt8) (t : Co) : Prop := ∀ h ks, t = .mk h ks → StepOk f d h ks
/-- two boxes -/
def TwoBox (B : World) (h1 : CH) (A1 : Option Addr) (n1 c1 : Nat) (h2 : CH) (A2 : Option Addr) (n2 c2 : Nat) (q1 q2 : Value) (wx : World) : Prop :=
  ∃ b1 b2, q1 = .pointer (some ⟨b1, 0, none⟩) ∧ q2 = .pointer (some ⟨b2, 0, none⟩) ∧ wx.heap[b1]? = some (.cells (coA h1 A1 n1 c1) 60 (0, 0)) ∧ wx.heap[b2]? = some (.cells (coA h2 A2 n2 c2) 60 (0, 0)) ∧ B.heap.size ≤ b1 ∧ B.heap.size ≤ b2 ∧ Below B.heap.size B wx
/-- a box with a coded expression, that leads to ok blocks -/
def BoxC (P : Nat → Prop) (B : World) (t : Co) (q : Value) (wx : World) : Prop :=
  ∃ b h ks A c, q = .pointer (some ⟨b, 0, none⟩) ∧ t = .mk h ks ∧ ks.length ≤ c ∧ wx.heap[b]? = some (.cells (coA h A ks.length c) 60 (0, 0)) ∧ InRow CE (fun x => P x ∧ x ≠ b) wx ks A 0 ∧ Below B.heap.size B wx ∧ B.heap.size ≤ b
theorem head_potA (x : Co) : x.head.b.length ≤ potV x := by
  obtain ⟨h, ks⟩ := x
  simp only [T.head, potV]; omega
theorem boxC_of {P0 P1 : Nat → Prop} {B wx : World} {b N : Nat} {h1 h2 : CH} {k1 k2 : List Co} {A1 A2 : Option Addr} {c1 c2 : Nat} {t1 : Co} {x : Array Value} {bs : List UInt8} {kd : UInt8} (e1 : t1 = .mk h1 k1)
    (hb : wx.heap[b]? = some (.cells (coA ⟨kd, bs, S4.zero⟩ (some ⟨N, 0, none⟩) 2 2) 60 (0, 0))) (hN : wx.heap[N]? = some (.cells x 60 (0, 0))) (hx : x = coA h1 A1 k1.length c1 ++ coA h2 A2 k2.length c2) (hNb : N ≠ b) (hPN : P0 N)
    (hP : ∀ x, P1 x → P0 x ∧ x ≠ b) (hc1 : k1.length ≤ c1) (hr1 : InRow CE P1 wx k1 A1 0) (hc2 : k2.length ≤ c2) (hr2 : InRow CE P1 wx k2 A2 0) (hz : Below B.heap.size B wx) (hBb : B.heap.size ≤ b) :
    BoxC P0 B (.mk ⟨kd, bs, S4.zero⟩ [t1, .mk h2 k2]) (.pointer (some ⟨b, 0, none⟩)) wx := by
  subst e1
  exact ⟨b, ⟨kd, bs, S4.zero⟩, [.mk h1 k1, .mk h2 k2], some ⟨N, 0, none⟩, 2, rfl, rfl, Nat.le_refl _, hb, co_two (P := fun x => P0 x ∧ x ≠ b) hN hx ⟨hPN, hNb⟩ hc1 (hr1.weak hP) hc2 (hr2.weak hP), hz, hBb⟩
theorem twoBox_mk {W : World} {h1 h2 : CH} {A1 A2 : Option Addr} {n1 c1 n2 c2 : Nat} :
    TwoBox W h1 A1 n1 c1 h2 A2 n2 c2 (.pointer (some ⟨W.heap.size, 0, none⟩)) (.pointer (some ⟨W.heap.size + 1, 0, none⟩)) (((W.alloc (.cells (coA h1 A1 n1 c1) 60)).alloc (.cells (coA h2 A2 n2 c2) 60)).drew) := by
  obtain ⟨e1, e2⟩ := two_new (w := W) (.cells (coA h1 A1 n1 c1) 60) (.cells (coA h2 A2 n2 c2) 60)
  exact ⟨_, _, rfl, rfl, e1, e2, Nat.le_refl _, Nat.le_succ _, (below_new (below_new (Below.refl _ _) _) _).drew⟩
theorem twoBox_swap {W : World} {h1 h2 : CH} {A1 A2 : Option Addr} {n1 c1 n2 c2 : Nat} :
    TwoBox W h1 A1 n1 c1 h2 A2 n2 c2 (.pointer (some ⟨W.heap.size + 1, 0, none⟩)) (.pointer (some ⟨W.heap.size, 0, none⟩)) (((W.alloc (.cells (coA h2 A2 n2 c2) 60)).alloc (.cells (coA h1 A1 n1 c1) 60)).drew) := by
  obtain ⟨e1, e2⟩ := two_new (w := W) (.cells (coA h2 A2 n2 c2) 60) (.cells (coA h1 A1 n1 c1) 60)
  exact ⟨_, _, rfl, rfl, e2, e1, Nat.le_succ _, Nat.le_refl _, (below_new (below_new (Below.refl _ _) _) _).drew⟩
theorem new_kept {w0 wi : World} {o : Obj} (h : Below (w0.alloc o).drew.heap.size (w0.alloc o).drew wi) : wi.heap[w0.heap.size]? = some o :=
  (h.block _ (by show w0.heap.size < (w0.alloc o).heap.size; simp)).trans (new_at1 (w := w0) o)
theorem new_kept2 {w0 wi : World} {o : Obj} (h : Below (w0.drew.alloc o).heap.size (w0.drew.alloc o) wi) : wi.heap[w0.heap.size]? = some o :=
  (h.block _ (by show w0.drew.heap.size < (w0.drew.alloc o).heap.size; simp)).trans (new_at1 (w := w0.drew) o)
set_option maxRecDepth 100000 in
set_option maxHeartbeats 4000000 in
theorem step_1 (d : UInt8) {h : CH} (e : h.k = 1) : StepOk 46 d h [] := by
  intro P A c w hc hr
  have hkn : (h.k.toNat : Int) = 1 := by rw [e]; rfl
  have HSQ : Hid (stepC d (.mk h []) = cEmp) := by unfold Hid; simp [stepC, e]
  obtain ⟨V, hV⟩ : ∃ V, w.alloc (.cells #[.int .u8 1, .string (str h.b), .int .u64 (h.s.a.toNat : Int), .int .u64 (h.s.b.toNat : Int), .int .u64 (h.s.c.toNat : Int), .int .u64 (h.s.d.toNat : Int), .slice A 0 c] 60) = V := ⟨_, rfl⟩
  have hbV : Below w.heap.size w V := by rw [← hV]; exact below_new (Below.refl _ _) _
  have hsV : V.heap.size = w.heap.size + 1 := by rw [← hV]; simp
  obtain ⟨W, hW⟩ : ∃ W, V.alloc (.cells coZ 60) = W := ⟨_, rfl⟩
  have e2 : W.heap[w.heap.size + 1]? = some (.cells coZ 60 (0, 0)) := by rw [← hW, ← hsV]; exact new_at1 _
  obtain ⟨⟨y0, y1, y2, y3, y4, y5, y6⟩, f0, f1, f2, f3, f4, f5, f6⟩ := co_cells e2
  have HB := Lib.hid (below_from hbV (by rw [← hW]; exact below_new (Below.refl _ _) _ : Below V.heap.size V W))
  rw [← hV] at hW
  have HE := Lib.hid hW
  clear hr hc e hV hbV hsV hW e2
  go_enter Tryz.func46, Tryz.ntmps46
  go_upto_region 24 with fail
  rw [show (w.alloc (.cells #[.int .u8 1, .string (str h.b), .int .u64 (h.s.a.toNat : Int), .int .u64 (h.s.b.toNat : Int), .int .u64 (h.s.c.toNat : Int), .int .u64 (h.s.d.toNat : Int), .slice A 0 c] 60)).alloc (.cells #[.int .u8 0, .string ⟨#[]⟩, .int .u64 0, .int .u64 0, .int .u64 0, .int .u64 0, .slice none 0 0] 60) = W from HE.out]
  go_wp2_with fail
  refine bodyPost_ret (v := coV ⟨1, [], S4.zero⟩ none 0 0) (by simp [results, Tryz.results46, go_sem, y0, y1, y2, y3, y4, y5, y6]; exact ⟨rfl, rfl, rfl, rfl⟩) rfl ⟨⟨1, [], S4.zero⟩, [], none, 0, rfl, HSQ.out, Nat.le_refl _, by simp [InRow], seven_below HB.out (by omega)⟩
set_option maxRecDepth 100000 in
set_option maxHeartbeats 4000000 in
theorem step_2 (d : UInt8) {h : CH} (e : h.k = 2) : StepOk 46 d h [] := by
  intro P A c w hc hr
  have hkn : (h.k.toNat : Int) = 2 := by rw [e]; rfl
  have HSQ : Hid (stepC d (.mk h []) = cEmp) := by unfold Hid; simp [stepC, e]
  obtain ⟨V, hV⟩ : ∃ V, w.alloc (.cells #[.int .u8 2, .string (str h.b), .int .u64 (h.s.a.toNat : Int), .int .u64 (h.s.b.toNat : Int), .int .u64 (h.s.c.toNat : Int), .int .u64 (h.s.d.toNat : Int), .slice A 0 c] 60) = V := ⟨_, rfl⟩
  have hbV : Below w.heap.size w V := by rw [← hV]; exact below_new (Below.refl _ _) _
  have hsV : V.heap.size = w.heap.size + 1 := by rw [← hV]; simp
  obtain ⟨W, hW⟩ : ∃ W, V.alloc (.cells coZ 60) = W := ⟨_, rfl⟩
  have e2 : W.heap[w.heap.size + 1]? = some (.cells coZ 60 (0, 0)) := by rw [← hW, ← hsV]; exact new_at1 _
  obtain ⟨⟨y0, y1, y2, y3, y4, y5, y6⟩, f0, f1, f2, f3, f4, f5, f6⟩ := co_cells e2
  have HB := Lib.hid (below_from hbV (by rw [← hW]; exact below_new (Below.refl _ _) _ : Below V.heap.size V W))
  rw [← hV] at hW
  have HE := Lib.hid hW
  clear hr hc e hV hbV hsV hW e2
  go_enter Tryz.func46, Tryz.ntmps46
  go_upto_region 24 with fail
  rw [show (w.alloc (.cells #[.int .u8 2, .string (str h.b), .int .u64 (h.s.a.toNat : Int), .int .u64 (h.s.b.toNat : Int), .int .u64 (h.s.c.toNat : Int), .int .u64 (h.s.d.toNat : Int), .slice A 0 c] 60)).alloc (.cells #[.int .u8 0, .string ⟨#[]⟩, .int .u64 0, .int .u64 0, .int .u64 0, .int .u64 0, .slice none 0 0] 60) = W from HE.out]
  go_wp2_with fail
  refine bodyPost_ret (v := coV ⟨1, [], S4.zero⟩ none 0 0) (by simp [results, Tryz.results46, go_sem, y0, y1, y2, y3, y4, y5, y6]; exact ⟨rfl, rfl, rfl, rfl⟩) rfl ⟨⟨1, [], S4.zero⟩, [], none, 0, rfl, HSQ.out, Nat.le_refl _, by simp [InRow], seven_below HB.out (by omega)⟩
set_option maxRecDepth 100000 in
set_option maxHeartbeats 4000000 in
theorem step_3 (d : UInt8) {h : CH} (e : h.k = 3) : StepOk 46 d h [] := by
  intro P A c w hc hr
  have hkn : (h.k.toNat : Int) = 3 := by rw [e]; rfl
  have HSQ : Hid (stepC d (.mk h []) = if h.s.has d.toNat then cEps h.b else cEmp) := by unfold Hid; simp [stepC, e]
  have CH0 := Lib.hid (fun X => setHasU_any h.s d X)
  have hbW := fun o1 o2 => below_new (below_new (Below.refl w.heap.size w) o1) o2
  have HBW := Lib.hid hbW
  have e1 := fun o1 o2 => heap_keep1 (new_at1 (w := w) o1) o2
  have e2 := fun o1 o2 => new_at1 (w := w.alloc o1) o2
  have HE1 := Lib.hid e1
  have HE2 := Lib.hid e2
  clear hr hc e hbW e1 e2
  generalize h.s.has d.toNat = hs at *
  go_enter Tryz.func46, Tryz.ntmps46
  go_wp2_with fail
  refine (CH0.out _).mono ?_
  rintro e w1 ⟨rfl, hb1⟩
  have hb := below_from (HBW.out _ _) hb1
  have n1 := (hb1.block _ (lt_of_block (HE1.out _ _))).trans (HE1.out _ _)
  have n2 := (hb1.block _ (lt_of_block (HE2.out _ _))).trans (HE2.out _ _)
  rw [World.size_alloc] at n2
  obtain ⟨x0, x1, x2, x3, x4, x5, x6⟩ := co_at_box n1
  obtain ⟨⟨y0, y1, y2, y3, y4, y5, y6⟩, f0, f1, f2, f3, f4, f5, f6⟩ := co_cells n2
  have HB := Lib.hid hb
  clear hb1 hb n1 n2
  cases hs with
  | true =>
    go_wp2_with fail
    refine bodyPost_ret (v := coV ⟨2, h.b, S4.zero⟩ none 0 0) (by simp [results, Tryz.results46, go_sem, y0, y1, y2, y3, y4, y5, y6]; exact ⟨rfl, rfl, rfl, rfl⟩) rfl ⟨⟨2, h.b, S4.zero⟩, [], none, 0, rfl, HSQ.out, Nat.le_refl _, by simp [InRow], seven_below HB.out (by omega)⟩
  | false =>
    go_wp2_with fail
    refine bodyPost_ret (v := coV ⟨1, [], S4.zero⟩ none 0 0) (by simp [results, Tryz.results46, go_sem, y0, y1, y2, y3, y4, y5, y6]; exact ⟨rfl, rfl, rfl, rfl⟩) rfl ⟨⟨1, [], S4.zero⟩, [], none, 0, rfl, HSQ.out, Nat.le_refl _, by simp [InRow], seven_below HB.out (by omega)⟩
set_option maxRecDepth 100000 in
set_option maxHeartbeats 16000000 in
theorem step_4 (d : UInt8) {h : CH} (e : h.k = 4) (hs : h.s = S4.zero) {hx : CH} {kx : List Co} (px : StepOk 46 d hx kx) {hy : CH} {ky : List Co} (py : StepOk 46 d hy ky)
    (ox : okC (.mk hx kx) = true) (oy : okC (.mk hy ky) = true) (zx : (T.mk hx kx).size ≤ 20000) (bx : potV (.mk hx kx) + potS (.mk hx kx) ≤ 1000000000) (by_ : potV (.mk hx kx) + (potV (.mk hy ky) + potS (.mk hy ky)) ≤ 1000000000) : StepOk 46 d h [.mk hx kx, .mk hy ky] := by
  intro P A c w hc hr
  have hkn : (h.k.toNat : Int) = 4 := by rw [e]; rfl
  have HSQ : Hid (stepC d (.mk h [.mk hx kx, .mk hy ky]) = match endsC (.mk hx kx) with | none => cSeq h.b (stepC d (.mk hx kx)) (.mk hy ky) | some s => cAlt h.b [cSeq [] (stepC d (.mk hx kx)) (.mk hy ky), fuseC s (stepC d (.mk hy ky))]) := by
    obtain ⟨k, b, s⟩ := h
    simp only at e hs
    subst e hs
    exact step_seq d b _ _
  clear hs
  have HSP : Hid (potV (stepC d (.mk hy ky)) ≤ potV (.mk hy ky) + potS (.mk hy ky)) := (step_pot d _ oy).1
  have HMX : Hid (endsM (.mk hx kx) = endsC (.mk hx kx)) := by unfold Hid endsM mayC; rw [ox]; simp only [Bool.true_and]; rw [if_pos (by simpa using zx)]
  have HEP := Lib.hid (ends_pot _ ox)
  obtain ⟨ad, A1, c1, hA, hc1, hr1, u0, u1, u2, u3, u4, u5, u6⟩ := kidC0 hr
  subst hA
  obtain ⟨ad', A2, c2, hA2, hc2, hr2, v0, v1, v2, v3, v4, v5, v6⟩ := kidC1 hr
  obtain rfl := Option.some.inj hA2
  obtain ⟨W, hW⟩ : ∃ W, (w.alloc (.cells #[.int .u8 4, .string (str h.b), .int .u64 (h.s.a.toNat : Int), .int .u64 (h.s.b.toNat : Int), .int .u64 (h.s.c.toNat : Int), .int .u64 (h.s.d.toNat : Int), .slice (some ad) 2 c] 60)).alloc (.cells coZ 60) = W := ⟨_, rfl⟩
  have hbW : Below w.heap.size w W := by rw [← hW]; exact below_new (below_new (Below.refl _ _) _) _
  have hsW : W.heap.size = w.heap.size + 1 + 1 := by rw [← hW]; simp
  have e1 : W.heap[w.heap.size]? = some (.cells #[.int .u8 4, .string (str h.b), .int .u64 (h.s.a.toNat : Int), .int .u64 (h.s.b.toNat : Int), .int .u64 (h.s.c.toNat : Int), .int .u64 (h.s.d.toNat : Int), .slice (some ad) 2 c] 60 (0, 0)) := by rw [← hW]; exact heap_keep1 (new_at1 _) _
  have e2 : W.heap[w.heap.size + 1]? = some (.cells coZ 60 (0, 0)) := by
    rw [← hW]
    have := new_at1 (w := w.alloc (.cells #[.int .u8 4, .string (str h.b), .int .u64 (h.s.a.toNat : Int), .int .u64 (h.s.b.toNat : Int), .int .u64 (h.s.c.toNat : Int), .int .u64 (h.s.d.toNat : Int), .slice (some ad) 2 c] 60)) (.cells coZ 60)
    rw [World.size_alloc] at this
    exact this
  have Q0 : Hid (∀ X, Below W.heap.size W X → X.cell? ⟨w.heap.size, 1, none⟩ = some (.string (str h.b)) ∧ X.cell? ⟨w.heap.size, 6, none⟩ = some (.slice (some ad) 2 c) ∧ X.cell? ad = some (.int .u8 (hx.k.toNat : Int)) ∧ X.cell? ⟨ad.block, ad.off + 1, none⟩ = some (.string (str hx.b)) ∧ X.cell? ⟨ad.block, ad.off + 2, none⟩ = some (.int .u64 (hx.s.a.toNat : Int)) ∧ X.cell? ⟨ad.block, ad.off + 3, none⟩ = some (.int .u64 (hx.s.b.toNat : Int)) ∧ X.cell? ⟨ad.block, ad.off + 4, none⟩ = some (.int .u64 (hx.s.c.toNat : Int)) ∧ X.cell? ⟨ad.block, ad.off + 5, none⟩ = some (.int .u64 (hx.s.d.toNat : Int)) ∧ X.cell? ⟨ad.block, ad.off + 6, none⟩ = some (.slice A1 kx.length c1) ∧ X.cell? ⟨ad.block, ad.off + 7, none⟩ = some (.int .u8 (hy.k.toNat : Int)) ∧ X.cell? ⟨ad.block, ad.off + 7 + 1, none⟩ = some (.string (str hy.b)) ∧ X.cell? ⟨ad.block, ad.off + 7 + 2, none⟩ = some (.int .u64 (hy.s.a.toNat : Int)) ∧ X.cell? ⟨ad.block, ad.off + 7 + 3, none⟩ = some (.int .u64 (hy.s.b.toNat : Int)) ∧ X.cell? ⟨ad.block, ad.off + 7 + 4, none⟩ = some (.int .u64 (hy.s.c.toNat : Int)) ∧ X.cell? ⟨ad.block, ad.off + 7 + 5, none⟩ = some (.int .u64 (hy.s.d.toNat : Int)) ∧ X.cell? ⟨ad.block, ad.off + 7 + 6, none⟩ = some (.slice A2 ky.length c2)) := by
    intro X hX
    obtain ⟨a0, a1, a2, a3, a4, a5, a6⟩ := co_at_box ((hX.block _ (lt_of_block e1)).trans e1)
    have hX2 := below_from hbW hX
    exact ⟨a1, a6, keep_cell hX2 u0, keep_cell hX2 u1, keep_cell hX2 u2, keep_cell hX2 u3, keep_cell hX2 u4, keep_cell hX2 u5, keep_cell hX2 u6, keep_cell hX2 v0, keep_cell hX2 v1, keep_cell hX2 v2, keep_cell hX2 v3, keep_cell hX2 v4, keep_cell hX2 v5, keep_cell hX2 v6⟩
  have E2 := Lib.hid e2
  have E1 := Lib.hid e1
  have PX : Hid (∀ X, Below W.heap.size W X → Calls Tryz.prog 46 #[coV hx A1 kx.length c1, .int .u8 (d.toNat : Int)] X (CoPostX (fun b => P b ∧ b < w.heap.size) (stepC d (.mk hx kx)) X)) := fun X hX => px _ A1 c1 X hc1 (hr1.there.below (below_from hbW hX))
  have PY : Hid (∀ X, Below W.heap.size W X → Calls Tryz.prog 46 #[coV hy A2 ky.length c2, .int .u8 (d.toNat : Int)] X (CoPostX (fun b => P b ∧ b < w.heap.size) (stepC d (.mk hy ky)) X)) := fun X hX => py _ A2 c2 X hc2 (hr2.there.below (below_from hbW hX))
  have PE : Hid (∀ X, Below W.heap.size W X → Calls Tryz.prog 22 #[coV hx A1 kx.length c1] X fun e w' => e = .returned (endsV (endsC (.mk hx kx))) ∧ Below X.heap.size X w') := fun X hX => by
    have := cEnds_any hx kx A1 c1 X (by simp only [T.size] at zx; omega) hc1 (hr1.below (below_from hbW hX)) (pot_short ox bx) (by omega)
    rw [HMX.out] at this
    exact this
  have HRY := Lib.hid (hr2.there)
  have HCY := Lib.hid hc2
  have HW := Lib.hid hbW
  have HE := Lib.hid hW
  have HBY := Lib.hid by_
  have HSW := Lib.hid hsW
  clear hW hr hr1 hr2 px py u0 u1 u2 u3 u4 u5 u6 v0 v1 v2 v3 v4 v5 v6 hbW e1 e2 ox oy zx bx by_ hc1 hc2 HMX hsW e
  go_enter Tryz.func46, Tryz.ntmps46
  go_upto_region 14 with fail
  rw [show (w.alloc (.cells #[.int .u8 4, .string (str h.b), .int .u64 (h.s.a.toNat : Int), .int .u64 (h.s.b.toNat : Int), .int .u64 (h.s.c.toNat : Int), .int .u64 (h.s.d.toNat : Int), .slice (some ad) 2 c] 60)).alloc (.cells #[.int .u8 0, .string ⟨#[]⟩, .int .u64 0, .int .u64 0, .int .u64 0, .int .u64 0, .slice none 0 0] 60) = W from HE.out]
  go_cut [8, 9] from 49 to 56 (fun q1 q2 wx => TwoBox W hx A1 kx.length c1 hy A2 ky.length c2 q1 q2 wx)
  case first =>
    have hz := Below.refl W.heap.size W
    have hs0 : W.heap.size ≤ W.heap.size := Nat.le_refl _
    obtain ⟨p1, p6, u0, u1, u2, u3, u4, u5, u6, v0, v1, v2, v3, v4, v5, v6⟩ := Q0.out _ hz
    go_region_held3 (fun X => X.cell? ⟨w.heap.size, 1, none⟩ = some (.string (str h.b)) ∧ X.cell? ⟨w.heap.size, 6, none⟩ = some (.slice (some ad) 2 c) ∧ X.cell? ad = some (.int .u8 (hx.k.toNat : Int)) ∧ X.cell? ⟨ad.block, ad.off + 1, none⟩ = some (.string (str hx.b)) ∧ X.cell? ⟨ad.block, ad.off + 2, none⟩ = some (.int .u64 (hx.s.a.toNat : Int)) ∧ X.cell? ⟨ad.block, ad.off + 3, none⟩ = some (.int .u64 (hx.s.b.toNat : Int)) ∧ X.cell? ⟨ad.block, ad.off + 4, none⟩ = some (.int .u64 (hx.s.c.toNat : Int)) ∧ X.cell? ⟨ad.block, ad.off + 5, none⟩ = some (.int .u64 (hx.s.d.toNat : Int)) ∧ X.cell? ⟨ad.block, ad.off + 6, none⟩ = some (.slice A1 kx.length c1) ∧ X.cell? ⟨ad.block, ad.off + 7, none⟩ = some (.int .u8 (hy.k.toNat : Int)) ∧ X.cell? ⟨ad.block, ad.off + 7 + 1, none⟩ = some (.string (str hy.b)) ∧ X.cell? ⟨ad.block, ad.off + 7 + 2, none⟩ = some (.int .u64 (hy.s.a.toNat : Int)) ∧ X.cell? ⟨ad.block, ad.off + 7 + 3, none⟩ = some (.int .u64 (hy.s.b.toNat : Int)) ∧ X.cell? ⟨ad.block, ad.off + 7 + 4, none⟩ = some (.int .u64 (hy.s.c.toNat : Int)) ∧ X.cell? ⟨ad.block, ad.off + 7 + 5, none⟩ = some (.int .u64 (hy.s.d.toNat : Int)) ∧ X.cell? ⟨ad.block, ad.off + 7 + 6, none⟩ = some (.slice A2 ky.length c2))
      ((refine Q0.out _ ?_; (repeat (first | with_reducible exact hz | with_reducible refine Below.drew ?_ | with_reducible refine below_new ?_ _ | (with_reducible refine Below.setCell ?_ (by first | exact Nat.le_refl _ | (simp; done) | (simp; omega)) _)))))
      (fail)
    all_goals go_wp2_with fail
    all_goals go_meet
    · exact twoBox_mk
    · exact twoBox_swap
  case rest =>
    obtain ⟨b8, b9, rfl, rfl, n8, n9, hb8, hb9, hbC⟩ := hcut
    obtain ⟨wC, rfl⟩ : ∃ x, x = wc := ⟨_, rfl⟩
    have Q1 : Hid (∀ X, Below wC.heap.size wC X → X.cell? ⟨b8, 0, none⟩ = some (.int .u8 (hx.k.toNat : Int)) ∧ X.cell? ⟨b8, 1, none⟩ = some (.string (str hx.b)) ∧ X.cell? ⟨b8, 2, none⟩ = some (.int .u64 (hx.s.a.toNat : Int)) ∧ X.cell? ⟨b8, 3, none⟩ = some (.int .u64 (hx.s.b.toNat : Int)) ∧ X.cell? ⟨b8, 4, none⟩ = some (.int .u64 (hx.s.c.toNat : Int)) ∧ X.cell? ⟨b8, 5, none⟩ = some (.int .u64 (hx.s.d.toNat : Int)) ∧ X.cell? ⟨b8, 6, none⟩ = some (.slice A1 kx.length c1) ∧ X.cell? ⟨b9, 0, none⟩ = some (.int .u8 (hy.k.toNat : Int)) ∧ X.cell? ⟨b9, 1, none⟩ = some (.string (str hy.b)) ∧ X.cell? ⟨b9, 2, none⟩ = some (.int .u64 (hy.s.a.toNat : Int)) ∧ X.cell? ⟨b9, 3, none⟩ = some (.int .u64 (hy.s.b.toNat : Int)) ∧ X.cell? ⟨b9, 4, none⟩ = some (.int .u64 (hy.s.c.toNat : Int)) ∧ X.cell? ⟨b9, 5, none⟩ = some (.int .u64 (hy.s.d.toNat : Int)) ∧ X.cell? ⟨b9, 6, none⟩ = some (.slice A2 ky.length c2)) := by
      intro X hX
      obtain ⟨x0, x1, x2, x3, x4, x5, x6⟩ := co_at_box ((hX.block _ (lt_of_block n8)).trans n8)
      obtain ⟨v0, v1, v2, v3, v4, v5, v6⟩ := co_at_box ((hX.block _ (lt_of_block n9)).trans n9)
      exact ⟨x0, x1, x2, x3, x4, x5, x6, v0, v1, v2, v3, v4, v5, v6⟩
    have HC := Lib.hid hbC
    have HSC : Hid (w.heap.size + 1 + 1 ≤ wC.heap.size) := by have := HSW.out; have := hbC.size; unfold Hid; omega
    have N8 := Lib.hid n8
    have N9 := Lib.hid n9
    have HB8 := Lib.hid hb8
    have HB9 := Lib.hid hb9
    clear n8 n9 hb8 hb9 hbC
    go_upto_region 15 with fail
    go_cut [10] from 57 to 62 (fun q wx => BoxC (fun x => (P x ∧ x < w.heap.size) ∨ w.heap.size + 1 + 1 ≤ x) wC (cSeq [] (stepC d (.mk hx kx)) (.mk hy ky)) q wx)
    case first =>
      have hz := Below.refl wC.heap.size wC
      obtain ⟨x0, x1, x2, x3, x4, x5, x6, v0, v1, v2, v3, v4, v5, v6⟩ := Q1.out _ hz
      go_region_held3 (fun X => X.cell? ⟨b8, 0, none⟩ = some (.int .u8 (hx.k.toNat : Int)) ∧ X.cell? ⟨b8, 1, none⟩ = some (.string (str hx.b)) ∧ X.cell? ⟨b8, 2, none⟩ = some (.int .u64 (hx.s.a.toNat : Int)) ∧ X.cell? ⟨b8, 3, none⟩ = some (.int .u64 (hx.s.b.toNat : Int)) ∧ X.cell? ⟨b8, 4, none⟩ = some (.int .u64 (hx.s.c.toNat : Int)) ∧ X.cell? ⟨b8, 5, none⟩ = some (.int .u64 (hx.s.d.toNat : Int)) ∧ X.cell? ⟨b8, 6, none⟩ = some (.slice A1 kx.length c1) ∧ X.cell? ⟨b9, 0, none⟩ = some (.int .u8 (hy.k.toNat : Int)) ∧ X.cell? ⟨b9, 1, none⟩ = some (.string (str hy.b)) ∧ X.cell? ⟨b9, 2, none⟩ = some (.int .u64 (hy.s.a.toNat : Int)) ∧ X.cell? ⟨b9, 3, none⟩ = some (.int .u64 (hy.s.b.toNat : Int)) ∧ X.cell? ⟨b9, 4, none⟩ = some (.int .u64 (hy.s.c.toNat : Int)) ∧ X.cell? ⟨b9, 5, none⟩ = some (.int .u64 (hy.s.d.toNat : Int)) ∧ X.cell? ⟨b9, 6, none⟩ = some (.slice A2 ky.length c2))
        ((refine Q1.out _ ?_; (repeat (first | with_reducible exact hz | with_reducible refine Below.drew ?_ | with_reducible refine below_new ?_ _ | (with_reducible refine Below.setCell ?_ (by first | exact Nat.le_refl _ | (simp; done) | (simp; omega)) _)))))
        (first | (go_at_call 46; (with_reducible refine (PX.out _ (below_from HC.out ?_)).mono ?_); (repeat (first | with_reducible exact hz | with_reducible refine Below.drew ?_ | with_reducible refine below_new ?_ _ | (with_reducible refine Below.setCell ?_ (by first | exact Nat.le_refl _ | (simp; done) | (simp; omega)) _))); rintro e wi ⟨hl, kl, Al, cl, rfl, el, hcl, hrl, hbi⟩; have EL := Lib.hid el; clear el; (try (first | (have hq : Below (World.alloc wC (.cells #[.int .u8 0, .string ⟨#[]⟩, .int .u64 0, .int .u64 0, .int .u64 0, .int .u64 0, .slice none 0 0] 60)).drew.heap.size (World.alloc wC (.cells #[.int .u8 0, .string ⟨#[]⟩, .int .u64 0, .int .u64 0, .int .u64 0, .int .u64 0, .slice none 0 0] 60)).drew wi := (by with_reducible exact hbi); have hnk := new_kept hq; obtain ⟨⟨r0, r1, r2, r3, r4, r5, r6⟩, g0, g1, g2, g3, g4, g5, g6⟩ := co_cells hnk; have zr0 := fun o => keep_cell (below_new (Below.refl _ wi) o) r0; have zr1 := fun o => keep_cell (below_new (Below.refl _ wi) o) r1; have zr2 := fun o => keep_cell (below_new (Below.refl _ wi) o) r2; have zr3 := fun o => keep_cell (below_new (Below.refl _ wi) o) r3; have zr4 := fun o => keep_cell (below_new (Below.refl _ wi) o) r4; have zr5 := fun o => keep_cell (below_new (Below.refl _ wi) o) r5; have zr6 := fun o => keep_cell (below_new (Below.refl _ wi) o) r6; have zg0 := fun o => (co_cells (heap_keep1 hnk o)).2.1; have zg1 := fun o => (co_cells (heap_keep1 hnk o)).2.2.1; have zg2 := fun o => (co_cells (heap_keep1 hnk o)).2.2.2.1; have zg3 := fun o => (co_cells (heap_keep1 hnk o)).2.2.2.2.1; have zg4 := fun o => (co_cells (heap_keep1 hnk o)).2.2.2.2.2.1; have zg5 := fun o => (co_cells (heap_keep1 hnk o)).2.2.2.2.2.2.1; have zg6 := fun o => (co_cells (heap_keep1 hnk o)).2.2.2.2.2.2.2) | (have hq : Below (World.alloc (World.drew wC) (.cells #[.int .u8 0, .string ⟨#[]⟩, .int .u64 0, .int .u64 0, .int .u64 0, .int .u64 0, .slice none 0 0] 60)).heap.size (World.alloc (World.drew wC) (.cells #[.int .u8 0, .string ⟨#[]⟩, .int .u64 0, .int .u64 0, .int .u64 0, .int .u64 0, .slice none 0 0] 60)) wi := (by with_reducible exact hbi); have hnk := new_kept2 hq; obtain ⟨⟨r0, r1, r2, r3, r4, r5, r6⟩, g0, g1, g2, g3, g4, g5, g6⟩ := co_cells hnk; have zr0 := fun o => keep_cell (below_new (Below.refl _ wi) o) r0; have zr1 := fun o => keep_cell (below_new (Below.refl _ wi) o) r1; have zr2 := fun o => keep_cell (below_new (Below.refl _ wi) o) r2; have zr3 := fun o => keep_cell (below_new (Below.refl _ wi) o) r3; have zr4 := fun o => keep_cell (below_new (Below.refl _ wi) o) r4; have zr5 := fun o => keep_cell (below_new (Below.refl _ wi) o) r5; have zr6 := fun o => keep_cell (below_new (Below.refl _ wi) o) r6; have zg0 := fun o => (co_cells (heap_keep1 hnk o)).2.1; have zg1 := fun o => (co_cells (heap_keep1 hnk o)).2.2.1; have zg2 := fun o => (co_cells (heap_keep1 hnk o)).2.2.2.1; have zg3 := fun o => (co_cells (heap_keep1 hnk o)).2.2.2.2.1; have zg4 := fun o => (co_cells (heap_keep1 hnk o)).2.2.2.2.2.1; have zg5 := fun o => (co_cells (heap_keep1 hnk o)).2.2.2.2.2.2.1; have zg6 := fun o => (co_cells (heap_keep1 hnk o)).2.2.2.2.2.2.2))); have hz : Below wC.heap.size wC wi := (by refine below_from ?_ hbi; (repeat (first | with_reducible exact hz | with_reducible refine Below.drew ?_ | with_reducible refine below_new ?_ _ | (with_reducible refine Below.setCell ?_ (by first | exact Nat.le_refl _ | (simp; done) | (simp; omega)) _)))); obtain ⟨x0, x1, x2, x3, x4, x5, x6, v0, v1, v2, v3, v4, v5, v6⟩ := Q1.out _ hz) | fail)
      all_goals go_wp2_with fail
      all_goals go_meet
      all_goals
        have hry := HRY.out.below (below_from HW.out (below_from HC.out hz))
        have hzs := hz.size
        have hsc := HSC.out
      · obtain ⟨m1, m2⟩ := two_new (w := wi) (.cells (coA hl Al kl.length cl ++ coA hy A2 ky.length c2) 60) (.cells (coA ⟨4, [], S4.zero⟩ (some ⟨wi.heap.size, 0, none⟩) 2 2) 60)
        have hbb := fun o1 o2 => below_new (below_new (Below.refl wi.heap.size wi) o1) o2
        exact boxC_of (P1 := fun x => ((P x ∧ x < w.heap.size) ∨ wC.heap.size ≤ x) ∧ x < wi.heap.size) EL.out m2 m1 rfl (by omega) (.inr (by omega)) (fun x hx => by constructor; rcases hx.1 with h | h; exact .inl h; exact .inr (by omega); omega) hcl (hrl.there.below (hbb _ _)) HCY.out ((hry.there.below (hbb _ _)).weak fun x hx => ⟨.inl hx.1, hx.2⟩) (below_from hz (hbb _ _)) (by omega)
      · obtain ⟨m1, m2⟩ := two_new (w := wi) (.cells (coA ⟨4, [], S4.zero⟩ (some ⟨wi.heap.size + 1, 0, none⟩) 2 2) 60) (.cells (coA hl Al kl.length cl ++ coA hy A2 ky.length c2) 60)
        have hbb := fun o1 o2 => below_new (below_new (Below.refl wi.heap.size wi) o1) o2
        exact boxC_of (P1 := fun x => ((P x ∧ x < w.heap.size) ∨ wC.heap.size ≤ x) ∧ x < wi.heap.size) EL.out m1 m2 rfl (by omega) (.inr (by omega)) (fun x hx => by constructor; rcases hx.1 with h | h; exact .inl h; exact .inr (by omega); omega) hcl (hrl.there.below (hbb _ _)) HCY.out ((hry.there.below (hbb _ _)).weak fun x hx => ⟨.inl hx.1, hx.2⟩) (below_from hz (hbb _ _)) (by omega)
      · have m2 := new_at1 (w := wi) (.cells (coA hl Al kl.length cl ++ coA hy A2 ky.length c2) 60)
        have hbb := fun o1 => below_new (Below.refl wi.heap.size wi) o1
        have hlk := lt_of_block hnk
        exact boxC_of (N := wi.heap.size) (P1 := fun x => ((P x ∧ x < w.heap.size) ∨ wC.heap.size + 1 ≤ x) ∧ x < wi.heap.size) EL.out (seven_setCells (heap_keep1 hnk _)) ((seven_other (by omega)).trans m2) rfl (by omega) (.inr (by omega)) (fun x hx => by constructor; rcases hx.1 with h | h; exact .inl h; exact .inr (by omega); omega) hcl (row_seven ((hrl.weak fun x hx => by rcases hx with h | h; exact Or.inl h; exact Or.inr (by have e : (World.alloc wC (.cells #[.int .u8 0, .string ⟨#[]⟩, .int .u64 0, .int .u64 0, .int .u64 0, .int .u64 0, .slice none 0 0] 60)).heap.size = wC.heap.size + 1 := World.size_alloc _ _; have h2 : (World.alloc wC (.cells #[.int .u8 0, .string ⟨#[]⟩, .int .u64 0, .int .u64 0, .int .u64 0, .int .u64 0, .slice none 0 0] 60)).heap.size ≤ x := h; omega)).there.below (hbb _)) fun x hx => by rcases hx.1 with h | h; omega; omega) HCY.out (row_seven ((hry.there.below (hbb _)).weak fun x hx => ⟨.inl hx.1, hx.2⟩) fun x hx => by rcases hx.1 with h | h; omega; omega) (seven_below (below_from hz (hbb _)) (by omega)) (by omega)
    case rest =>
      obtain ⟨b10, hl, kl, Al, cl, rfl, el, hcl, n10, hrl, hbD, hb10⟩ := hcut
      obtain ⟨wD, rfl⟩ : ∃ x, x = wc := ⟨_, rfl⟩
      have HD := Lib.hid hbD
      have HWD : Hid (Below W.heap.size W wD) := below_from HC.out hbD
      have e1D := (HWD.out.block _ (lt_of_block E1.out)).trans E1.out
      have E2D := Lib.hid ((HWD.out.block _ (lt_of_block E2.out)).trans E2.out)
      have hsz2 := lt_of_block E2.out
      have Q2 : Hid (∀ X, Below wD.heap.size wD X → X.cell? ⟨w.heap.size, 1, none⟩ = some (.string (str h.b)) ∧ X.cell? ⟨b8, 0, none⟩ = some (.int .u8 (hx.k.toNat : Int)) ∧ X.cell? ⟨b8, 1, none⟩ = some (.string (str hx.b)) ∧ X.cell? ⟨b8, 2, none⟩ = some (.int .u64 (hx.s.a.toNat : Int)) ∧ X.cell? ⟨b8, 3, none⟩ = some (.int .u64 (hx.s.b.toNat : Int)) ∧ X.cell? ⟨b8, 4, none⟩ = some (.int .u64 (hx.s.c.toNat : Int)) ∧ X.cell? ⟨b8, 5, none⟩ = some (.int .u64 (hx.s.d.toNat : Int)) ∧ X.cell? ⟨b8, 6, none⟩ = some (.slice A1 kx.length c1) ∧ X.cell? ⟨b9, 0, none⟩ = some (.int .u8 (hy.k.toNat : Int)) ∧ X.cell? ⟨b9, 1, none⟩ = some (.string (str hy.b)) ∧ X.cell? ⟨b9, 2, none⟩ = some (.int .u64 (hy.s.a.toNat : Int)) ∧ X.cell? ⟨b9, 3, none⟩ = some (.int .u64 (hy.s.b.toNat : Int)) ∧ X.cell? ⟨b9, 4, none⟩ = some (.int .u64 (hy.s.c.toNat : Int)) ∧ X.cell? ⟨b9, 5, none⟩ = some (.int .u64 (hy.s.d.toNat : Int)) ∧ X.cell? ⟨b9, 6, none⟩ = some (.slice A2 ky.length c2) ∧ X.cell? ⟨b10, 0, none⟩ = some (.int .u8 (hl.k.toNat : Int)) ∧ X.cell? ⟨b10, 1, none⟩ = some (.string (str hl.b)) ∧ X.cell? ⟨b10, 2, none⟩ = some (.int .u64 (hl.s.a.toNat : Int)) ∧ X.cell? ⟨b10, 3, none⟩ = some (.int .u64 (hl.s.b.toNat : Int)) ∧ X.cell? ⟨b10, 4, none⟩ = some (.int .u64 (hl.s.c.toNat : Int)) ∧ X.cell? ⟨b10, 5, none⟩ = some (.int .u64 (hl.s.d.toNat : Int)) ∧ X.cell? ⟨b10, 6, none⟩ = some (.slice Al kl.length cl)) := by
        intro X hX
        obtain ⟨p0, p1, p2, p3, p4, p5, p6⟩ := co_at_box ((hX.block _ (lt_of_block e1D)).trans e1D)
        obtain ⟨x0, x1, x2, x3, x4, x5, x6, v0, v1, v2, v3, v4, v5, v6⟩ := Q1.out _ (below_from HD.out hX)
        obtain ⟨u0, u1, u2, u3, u4, u5, u6⟩ := co_at_box ((hX.block _ (lt_of_block n10)).trans n10)
        exact ⟨p1, x0, x1, x2, x3, x4, x5, x6, v0, v1, v2, v3, v4, v5, v6, u0, u1, u2, u3, u4, u5, u6⟩
      have hn2 : w.heap.size ≠ w.heap.size + 1 := by omega
      have hn8 : b8 ≠ w.heap.size + 1 := by have := HB8.out; have := HSW.out; omega
      have hn9 : b9 ≠ w.heap.size + 1 := by have := HB9.out; have := HSW.out; omega
      have hn10 : b10 ≠ w.heap.size + 1 := by have := HSC.out; omega
      have Q2s : Hid (∀ X, Below wD.heap.size wD X → ∀ u0 u1 u2 u3 u4 u5 u6, (((((((X.setCell ⟨w.heap.size + 1, 0, none⟩ u0).setCell ⟨w.heap.size + 1, 1, none⟩ u1).setCell ⟨w.heap.size + 1, 2, none⟩ u2).setCell ⟨w.heap.size + 1, 3, none⟩ u3).setCell ⟨w.heap.size + 1, 4, none⟩ u4).setCell ⟨w.heap.size + 1, 5, none⟩ u5).setCell ⟨w.heap.size + 1, 6, none⟩ u6).cell? ⟨w.heap.size, 1, none⟩ = some (.string (str h.b)) ∧ (((((((X.setCell ⟨w.heap.size + 1, 0, none⟩ u0).setCell ⟨w.heap.size + 1, 1, none⟩ u1).setCell ⟨w.heap.size + 1, 2, none⟩ u2).setCell ⟨w.heap.size + 1, 3, none⟩ u3).setCell ⟨w.heap.size + 1, 4, none⟩ u4).setCell ⟨w.heap.size + 1, 5, none⟩ u5).setCell ⟨w.heap.size + 1, 6, none⟩ u6).cell? ⟨b8, 0, none⟩ = some (.int .u8 (hx.k.toNat : Int)) ∧ (((((((X.setCell ⟨w.heap.size + 1, 0, none⟩ u0).setCell ⟨w.heap.size + 1, 1, none⟩ u1).setCell ⟨w.heap.size + 1, 2, none⟩ u2).setCell ⟨w.heap.size + 1, 3, none⟩ u3).setCell ⟨w.heap.size + 1, 4, none⟩ u4).setCell ⟨w.heap.size + 1, 5, none⟩ u5).setCell ⟨w.heap.size + 1, 6, none⟩ u6).cell? ⟨b8, 1, none⟩ = some (.string (str hx.b)) ∧ (((((((X.setCell ⟨w.heap.size + 1, 0, none⟩ u0).setCell ⟨w.heap.size + 1, 1, none⟩ u1).setCell ⟨w.heap.size + 1, 2, none⟩ u2).setCell ⟨w.heap.size + 1, 3, none⟩ u3).setCell ⟨w.heap.size + 1, 4, none⟩ u4).setCell ⟨w.heap.size + 1, 5, none⟩ u5).setCell ⟨w.heap.size + 1, 6, none⟩ u6).cell? ⟨b8, 2, none⟩ = some (.int .u64 (hx.s.a.toNat : Int)) ∧ (((((((X.setCell ⟨w.heap.size + 1, 0, none⟩ u0).setCell ⟨w.heap.size + 1, 1, none⟩ u1).setCell ⟨w.heap.size + 1, 2, none⟩ u2).setCell ⟨w.heap.size + 1, 3, none⟩ u3).setCell ⟨w.heap.size + 1, 4, none⟩ u4).setCell ⟨w.heap.size + 1, 5, none⟩ u5).setCell ⟨w.heap.size + 1, 6, none⟩ u6).cell? ⟨b8, 3, none⟩ = some (.int .u64 (hx.s.b.toNat : Int)) ∧ (((((((X.setCell ⟨w.heap.size + 1, 0, none⟩ u0).setCell ⟨w.heap.size + 1, 1, none⟩ u1).setCell ⟨w.heap.size + 1, 2, none⟩ u2).setCell ⟨w.heap.size + 1, 3, none⟩ u3).setCell ⟨w.heap.size + 1, 4, none⟩ u4).setCell ⟨w.heap.size + 1, 5, none⟩ u5).setCell ⟨w.heap.size + 1, 6, none⟩ u6).cell? ⟨b8, 4, none⟩ = some (.int .u64 (hx.s.c.toNat : Int)) ∧ (((((((X.setCell ⟨w.heap.size + 1, 0, none⟩ u0).setCell ⟨w.heap.size + 1, 1, none⟩ u1).setCell ⟨w.heap.size + 1, 2, none⟩ u2).setCell ⟨w.heap.size + 1, 3, none⟩ u3).setCell ⟨w.heap.size + 1, 4, none⟩ u4).setCell ⟨w.heap.size + 1, 5, none⟩ u5).setCell ⟨w.heap.size + 1, 6, none⟩ u6).cell? ⟨b8, 5, none⟩ = some (.int .u64 (hx.s.d.toNat : Int)) ∧ (((((((X.setCell ⟨w.heap.size + 1, 0, none⟩ u0).setCell ⟨w.heap.size + 1, 1, none⟩ u1).setCell ⟨w.heap.size + 1, 2, none⟩ u2).setCell ⟨w.heap.size + 1, 3, none⟩ u3).setCell ⟨w.heap.size + 1, 4, none⟩ u4).setCell ⟨w.heap.size + 1, 5, none⟩ u5).setCell ⟨w.heap.size + 1, 6, none⟩ u6).cell? ⟨b8, 6, none⟩ = some (.slice A1 kx.length c1) ∧ (((((((X.setCell ⟨w.heap.size + 1, 0, none⟩ u0).setCell ⟨w.heap.size + 1, 1, none⟩ u1).setCell ⟨w.heap.size + 1, 2, none⟩ u2).setCell ⟨w.heap.size + 1, 3, none⟩ u3).setCell ⟨w.heap.size + 1, 4, none⟩ u4).setCell ⟨w.heap.size + 1, 5, none⟩ u5).setCell ⟨w.heap.size + 1, 6, none⟩ u6).cell? ⟨b9, 0, none⟩ = some (.int .u8 (hy.k.toNat : Int)) ∧ (((((((X.setCell ⟨w.heap.size + 1, 0, none⟩ u0).setCell ⟨w.heap.size + 1, 1, none⟩ u1).setCell ⟨w.heap.size + 1, 2, none⟩ u2).setCell ⟨w.heap.size + 1, 3, none⟩ u3).setCell ⟨w.heap.size + 1, 4, none⟩ u4).setCell ⟨w.heap.size + 1, 5, none⟩ u5).setCell ⟨w.heap.size + 1, 6, none⟩ u6).cell? ⟨b9, 1, none⟩ = some (.string (str hy.b)) ∧ (((((((X.setCell ⟨w.heap.size + 1, 0, none⟩ u0).setCell ⟨w.heap.size + 1, 1, none⟩ u1).setCell ⟨w.heap.size + 1, 2, none⟩ u2).setCell ⟨w.heap.size + 1, 3, none⟩ u3).setCell ⟨w.heap.size + 1, 4, none⟩ u4).setCell ⟨w.heap.size + 1, 5, none⟩ u5).setCell ⟨w.heap.size + 1, 6, none⟩ u6).cell? ⟨b9, 2, none⟩ = some (.int .u64 (hy.s.a.toNat : Int)) ∧ (((((((X.setCell ⟨w.heap.size + 1, 0, none⟩ u0).setCell ⟨w.heap.size + 1, 1, none⟩ u1).setCell ⟨w.heap.size + 1, 2, none⟩ u2).setCell ⟨w.heap.size + 1, 3, none⟩ u3).setCell ⟨w.heap.size + 1, 4, none⟩ u4).setCell ⟨w.heap.size + 1, 5, none⟩ u5).setCell ⟨w.heap.size + 1, 6, none⟩ u6).cell? ⟨b9, 3, none⟩ = some (.int .u64 (hy.s.b.toNat : Int)) ∧ (((((((X.setCell ⟨w.heap.size + 1, 0, none⟩ u0).setCell ⟨w.heap.size + 1, 1, none⟩ u1).setCell ⟨w.heap.size + 1, 2, none⟩ u2).setCell ⟨w.heap.size + 1, 3, none⟩ u3).setCell ⟨w.heap.size + 1, 4, none⟩ u4).setCell ⟨w.heap.size + 1, 5, none⟩ u5).setCell ⟨w.heap.size + 1, 6, none⟩ u6).cell? ⟨b9, 4, none⟩ = some (.int .u64 (hy.s.c.toNat : Int)) ∧ (((((((X.setCell ⟨w.heap.size + 1, 0, none⟩ u0).setCell ⟨w.heap.size + 1, 1, none⟩ u1).setCell ⟨w.heap.size + 1, 2, none⟩ u2).setCell ⟨w.heap.size + 1, 3, none⟩ u3).setCell ⟨w.heap.size + 1, 4, none⟩ u4).setCell ⟨w.heap.size + 1, 5, none⟩ u5).setCell ⟨w.heap.size + 1, 6, none⟩ u6).cell? ⟨b9, 5, none⟩ = some (.int .u64 (hy.s.d.toNat : Int)) ∧ (((((((X.setCell ⟨w.heap.size + 1, 0, none⟩ u0).setCell ⟨w.heap.size + 1, 1, none⟩ u1).setCell ⟨w.heap.size + 1, 2, none⟩ u2).setCell ⟨w.heap.size + 1, 3, none⟩ u3).setCell ⟨w.heap.size + 1, 4, none⟩ u4).setCell ⟨w.heap.size + 1, 5, none⟩ u5).setCell ⟨w.heap.size + 1, 6, none⟩ u6).cell? ⟨b9, 6, none⟩ = some (.slice A2 ky.length c2) ∧ (((((((X.setCell ⟨w.heap.size + 1, 0, none⟩ u0).setCell ⟨w.heap.size + 1, 1, none⟩ u1).setCell ⟨w.heap.size + 1, 2, none⟩ u2).setCell ⟨w.heap.size + 1, 3, none⟩ u3).setCell ⟨w.heap.size + 1, 4, none⟩ u4).setCell ⟨w.heap.size + 1, 5, none⟩ u5).setCell ⟨w.heap.size + 1, 6, none⟩ u6).cell? ⟨b10, 0, none⟩ = some (.int .u8 (hl.k.toNat : Int)) ∧ (((((((X.setCell ⟨w.heap.size + 1, 0, none⟩ u0).setCell ⟨w.heap.size + 1, 1, none⟩ u1).setCell ⟨w.heap.size + 1, 2, none⟩ u2).setCell ⟨w.heap.size + 1, 3, none⟩ u3).setCell ⟨w.heap.size + 1, 4, none⟩ u4).setCell ⟨w.heap.size + 1, 5, none⟩ u5).setCell ⟨w.heap.size + 1, 6, none⟩ u6).cell? ⟨b10, 1, none⟩ = some (.string (str hl.b)) ∧ (((((((X.setCell ⟨w.heap.size + 1, 0, none⟩ u0).setCell ⟨w.heap.size + 1, 1, none⟩ u1).setCell ⟨w.heap.size + 1, 2, none⟩ u2).setCell ⟨w.heap.size + 1, 3, none⟩ u3).setCell ⟨w.heap.size + 1, 4, none⟩ u4).setCell ⟨w.heap.size + 1, 5, none⟩ u5).setCell ⟨w.heap.size + 1, 6, none⟩ u6).cell? ⟨b10, 2, none⟩ = some (.int .u64 (hl.s.a.toNat : Int)) ∧ (((((((X.setCell ⟨w.heap.size + 1, 0, none⟩ u0).setCell ⟨w.heap.size + 1, 1, none⟩ u1).setCell ⟨w.heap.size + 1, 2, none⟩ u2).setCell ⟨w.heap.size + 1, 3, none⟩ u3).setCell ⟨w.heap.size + 1, 4, none⟩ u4).setCell ⟨w.heap.size + 1, 5, none⟩ u5).setCell ⟨w.heap.size + 1, 6, none⟩ u6).cell? ⟨b10, 3, none⟩ = some (.int .u64 (hl.s.b.toNat : Int)) ∧ (((((((X.setCell ⟨w.heap.size + 1, 0, none⟩ u0).setCell ⟨w.heap.size + 1, 1, none⟩ u1).setCell ⟨w.heap.size + 1, 2, none⟩ u2).setCell ⟨w.heap.size + 1, 3, none⟩ u3).setCell ⟨w.heap.size + 1, 4, none⟩ u4).setCell ⟨w.heap.size + 1, 5, none⟩ u5).setCell ⟨w.heap.size + 1, 6, none⟩ u6).cell? ⟨b10, 4, none⟩ = some (.int .u64 (hl.s.c.toNat : Int)) ∧ (((((((X.setCell ⟨w.heap.size + 1, 0, none⟩ u0).setCell ⟨w.heap.size + 1, 1, none⟩ u1).setCell ⟨w.heap.size + 1, 2, none⟩ u2).setCell ⟨w.heap.size + 1, 3, none⟩ u3).setCell ⟨w.heap.size + 1, 4, none⟩ u4).setCell ⟨w.heap.size + 1, 5, none⟩ u5).setCell ⟨w.heap.size + 1, 6, none⟩ u6).cell? ⟨b10, 5, none⟩ = some (.int .u64 (hl.s.d.toNat : Int)) ∧ (((((((X.setCell ⟨w.heap.size + 1, 0, none⟩ u0).setCell ⟨w.heap.size + 1, 1, none⟩ u1).setCell ⟨w.heap.size + 1, 2, none⟩ u2).setCell ⟨w.heap.size + 1, 3, none⟩ u3).setCell ⟨w.heap.size + 1, 4, none⟩ u4).setCell ⟨w.heap.size + 1, 5, none⟩ u5).setCell ⟨w.heap.size + 1, 6, none⟩ u6).cell? ⟨b10, 6, none⟩ = some (.slice Al kl.length cl)) := by
        intro X hX u0 u1 u2 u3 u4 u5 u6
        obtain ⟨p1, x0, x1, x2, x3, x4, x5, x6, v0, v1, v2, v3, v4, v5, v6, q0, q1, q2, q3, q4, q5, q6⟩ := Q2.out _ hX
        exact ⟨(World.cell?_of_block (seven_other hn2)).trans p1, (World.cell?_of_block (seven_other hn8)).trans x0, (World.cell?_of_block (seven_other hn8)).trans x1, (World.cell?_of_block (seven_other hn8)).trans x2, (World.cell?_of_block (seven_other hn8)).trans x3, (World.cell?_of_block (seven_other hn8)).trans x4, (World.cell?_of_block (seven_other hn8)).trans x5, (World.cell?_of_block (seven_other hn8)).trans x6, (World.cell?_of_block (seven_other hn9)).trans v0, (World.cell?_of_block (seven_other hn9)).trans v1, (World.cell?_of_block (seven_other hn9)).trans v2, (World.cell?_of_block (seven_other hn9)).trans v3, (World.cell?_of_block (seven_other hn9)).trans v4, (World.cell?_of_block (seven_other hn9)).trans v5, (World.cell?_of_block (seven_other hn9)).trans v6, (World.cell?_of_block (seven_other hn10)).trans q0, (World.cell?_of_block (seven_other hn10)).trans q1, (World.cell?_of_block (seven_other hn10)).trans q2, (World.cell?_of_block (seven_other hn10)).trans q3, (World.cell?_of_block (seven_other hn10)).trans q4, (World.cell?_of_block (seven_other hn10)).trans q5, (World.cell?_of_block (seven_other hn10)).trans q6⟩
      have hb10' : w.heap.size + 1 + 1 ≤ b10 := by have := HSC.out; omega
      have N10 := Lib.hid n10
      have HRL := Lib.hid hrl
      have HCL := Lib.hid hcl
      have EL := Lib.hid el
      have HRYD := Lib.hid (HRY.out.below (below_from HW.out HWD.out))
      clear hbD n10 hrl hcl el e1D hb10 E1 E2 Q1 Q0 PX
      obtain ⟨p1, x0, x1, x2, x3, x4, x5, x6, v0, v1, v2, v3, v4, v5, v6, u0, u1, u2, u3, u4, u5, u6⟩ := Q2.out _ (Below.refl _ _)
      rcases ex : endsC (.mk hx kx) with _ | s
      · rw [ex] at PE HSQ
        simp only at HSQ
        simp only [endsV] at PE
        clear ex HEP HSP PY HBY
        go_wp2_with fail
        refine (PE.out _ HWD.out).mono ?_
        rintro e w5 ⟨rfl, hb5⟩
        have n10' := (hb5.block _ (lt_of_block N10.out)).trans N10.out
        have hrl5 := HRL.out.below hb5
        have hB5 := below_from (below_from HW.out HWD.out) hb5
        have e25 := (hb5.block _ (lt_of_block E2D.out)).trans E2D.out
        clear p1 x0 x1 x2 x3 x4 x5 x6 v0 v1 v2 v3 v4 v5 v6 u0 u1 u2 u3 u4 u5 u6
        obtain ⟨p1, _⟩ := Q2.out _ hb5
        obtain ⟨⟨u0, u1, u2, u3, u4, u5, u6⟩, g0, g1, g2, g3, g4, g5, g6⟩ := co_cells n10'
        have HB5 := Lib.hid hB5
        have N5 := Lib.hid n10'
        have E25 := Lib.hid e25
        have HR5 := Lib.hid hrl5
        clear hb5 n10' hrl5 hB5 e25
        go_upto_region 20 with fail
        obtain ⟨wE, hwE⟩ : ∃ wE, w5.setCell ⟨b10, 1, none⟩ (.string (str h.b)) = wE := ⟨_, rfl⟩
        have NE : Hid (wE.heap[b10]? = some (.cells (coA ⟨hl.k, h.b, hl.s⟩ Al kl.length cl) 60 (0, 0))) := by
          have := N5.out
          rw [← hwE]
          simp [Hid, World.setCell, Array.getElem?_modify, this]
        have E2E : Hid (wE.heap[w.heap.size + 1]? = some (.cells coZ 60 (0, 0))) := by rw [← hwE]; exact (Below.heap_setCell _ _ _ _ (by show w.heap.size + 1 ≠ b10; omega)).trans E25.out
        have HBE : Hid (Below w.heap.size w wE) := by rw [← hwE]; exact HB5.out.setCell (p := ⟨b10, 1, none⟩) (by show w.heap.size ≤ b10; omega) _
        have HRE : Hid (InRow CE (fun x => ((P x ∧ x < w.heap.size) ∨ w.heap.size + 1 + 1 ≤ x) ∧ x ≠ b10) wE kl Al 0) := by
          rw [← hwE]
          exact HR5.out.keep (fun _ h => h) fun a u ha hu => (World.cell?_of_block (Below.heap_setCell _ _ _ _ (by show a.block ≠ b10; exact ha.2))).trans hu
        clear p1 u0 u1 u2 u3 u4 u5 u6 g0 g1 g2 g3 g4 g5 g6 N5 E25 HB5 HR5
        rw [hwE]
        clear hwE
        obtain ⟨⟨u0, u1, u2, u3, u4, u5, u6⟩, _⟩ := co_cells NE.out
        obtain ⟨⟨y0, y1, y2, y3, y4, y5, y6⟩, f0, f1, f2, f3, f4, f5, f6⟩ := co_cells E2E.out
        go_wp2_with fail
        refine bodyPost_ret (v := coV ⟨hl.k, h.b, hl.s⟩ Al kl.length cl) (by simp [results, Tryz.results46, go_sem, y0, y1, y2, y3, y4, y5, y6]) rfl ⟨_, _, Al, cl, rfl, ?_, HCL.out, (row_seven HRE.out fun x hx => by rcases hx.1 with h | h; omega; omega).weak fun x hx => by rcases hx.1 with h | h; exact .inl h.1; exact .inr (by omega), seven_below HBE.out (by omega)⟩
        rw [HSQ.out]
        have := EL.out
        injection this with a1 a2
        rw [← a1, ← a2]
      · rw [ex] at PE HSQ
        simp only at HSQ
        simp only [endsV] at PE
        have hsl := HEP.out s ex
        clear ex HEP
        go_wp2_with fail
        refine (PE.out _ HWD.out).mono ?_
        rintro e w5 ⟨rfl, hb5⟩
        have hz := hb5
        clear p1 x0 x1 x2 x3 x4 x5 x6 v0 v1 v2 v3 v4 v5 v6 u0 u1 u2 u3 u4 u5 u6
        obtain ⟨p1, x0, x1, x2, x3, x4, x5, x6, v0, v1, v2, v3, v4, v5, v6, u0, u1, u2, u3, u4, u5, u6⟩ := Q2.out _ hz
        go_upto_region 18 with fail
        go_region_held3 (fun X => X.cell? ⟨w.heap.size, 1, none⟩ = some (.string (str h.b)) ∧ X.cell? ⟨b8, 0, none⟩ = some (.int .u8 (hx.k.toNat : Int)) ∧ X.cell? ⟨b8, 1, none⟩ = some (.string (str hx.b)) ∧ X.cell? ⟨b8, 2, none⟩ = some (.int .u64 (hx.s.a.toNat : Int)) ∧ X.cell? ⟨b8, 3, none⟩ = some (.int .u64 (hx.s.b.toNat : Int)) ∧ X.cell? ⟨b8, 4, none⟩ = some (.int .u64 (hx.s.c.toNat : Int)) ∧ X.cell? ⟨b8, 5, none⟩ = some (.int .u64 (hx.s.d.toNat : Int)) ∧ X.cell? ⟨b8, 6, none⟩ = some (.slice A1 kx.length c1) ∧ X.cell? ⟨b9, 0, none⟩ = some (.int .u8 (hy.k.toNat : Int)) ∧ X.cell? ⟨b9, 1, none⟩ = some (.string (str hy.b)) ∧ X.cell? ⟨b9, 2, none⟩ = some (.int .u64 (hy.s.a.toNat : Int)) ∧ X.cell? ⟨b9, 3, none⟩ = some (.int .u64 (hy.s.b.toNat : Int)) ∧ X.cell? ⟨b9, 4, none⟩ = some (.int .u64 (hy.s.c.toNat : Int)) ∧ X.cell? ⟨b9, 5, none⟩ = some (.int .u64 (hy.s.d.toNat : Int)) ∧ X.cell? ⟨b9, 6, none⟩ = some (.slice A2 ky.length c2) ∧ X.cell? ⟨b10, 0, none⟩ = some (.int .u8 (hl.k.toNat : Int)) ∧ X.cell? ⟨b10, 1, none⟩ = some (.string (str hl.b)) ∧ X.cell? ⟨b10, 2, none⟩ = some (.int .u64 (hl.s.a.toNat : Int)) ∧ X.cell? ⟨b10, 3, none⟩ = some (.int .u64 (hl.s.b.toNat : Int)) ∧ X.cell? ⟨b10, 4, none⟩ = some (.int .u64 (hl.s.c.toNat : Int)) ∧ X.cell? ⟨b10, 5, none⟩ = some (.int .u64 (hl.s.d.toNat : Int)) ∧ X.cell? ⟨b10, 6, none⟩ = some (.slice Al kl.length cl))
          (first | (with_reducible refine Q2s.out _ ?_ _ _ _ _ _ _ _; (repeat (first | with_reducible exact hz | with_reducible refine Below.drew ?_ | with_reducible refine below_new ?_ _ | (with_reducible refine Below.setCell ?_ (by first | exact Nat.le_refl _ | (simp; done) | (simp; omega)) _))); done) | (refine Q2.out _ ?_; (repeat (first | with_reducible exact hz | with_reducible refine Below.drew ?_ | with_reducible refine below_new ?_ _ | (with_reducible refine Below.setCell ?_ (by first | exact Nat.le_refl _ | (simp; done) | (simp; omega)) _)))))
          (first
            | (go_at_call 46; (with_reducible refine (PY.out _ (below_from HWD.out ?_)).mono ?_); (repeat (first | with_reducible exact hz | with_reducible refine Below.drew ?_ | with_reducible refine below_new ?_ _ | (with_reducible refine Below.setCell ?_ (by first | exact Nat.le_refl _ | (simp; done) | (simp; omega)) _))); rintro e wi ⟨hr', kr, Ar, cr, rfl, er, hcr, hrr, hbi⟩; have ER := Lib.hid er; have hfl : s.length + hr'.b.length ≤ 9223372036854775807 := (by have h1 := head_potA (stepC d (.mk hy ky)); rw [er] at h1; have h2 := HSP.out; rw [er] at h2; have h3 := HBY.out; simp only [T.head] at h1; omega); clear er; have hz : Below wD.heap.size wD wi := (by refine below_from ?_ hbi; (repeat (first | with_reducible exact hz | with_reducible refine Below.drew ?_ | with_reducible refine below_new ?_ _ | (with_reducible refine Below.setCell ?_ (by first | exact Nat.le_refl _ | (simp; done) | (simp; omega)) _)))); obtain ⟨p1, x0, x1, x2, x3, x4, x5, x6, v0, v1, v2, v3, v4, v5, v6, u0, u1, u2, u3, u4, u5, u6⟩ := Q2.out _ hz; obtain ⟨⟨y0, y1, y2, y3, y4, y5, y6⟩, f0, f1, f2, f3, f4, f5, f6⟩ := co_cells ((hz.block _ (lt_of_block E2D.out)).trans E2D.out))
            | (go_at_call 56; (with_reducible refine (fuse_any s hr' Ar kr.length cr _ hfl).mono ?_); rintro e wj ⟨rfl, hbj⟩; have hz := below_from hz hbj; obtain ⟨p1, x0, x1, x2, x3, x4, x5, x6, v0, v1, v2, v3, v4, v5, v6, u0, u1, u2, u3, u4, u5, u6⟩ := Q2.out _ hz; have hnk := (hz.block _ (lt_of_block E2D.out)).trans E2D.out; obtain ⟨⟨r0, r1, r2, r3, r4, r5, r6⟩, g0, g1, g2, g3, g4, g5, g6⟩ := co_cells hnk; have zr0 := fun o => keep_cell (below_new (Below.refl _ wj) o) r0; have zr1 := fun o => keep_cell (below_new (Below.refl _ wj) o) r1; have zr2 := fun o => keep_cell (below_new (Below.refl _ wj) o) r2; have zr3 := fun o => keep_cell (below_new (Below.refl _ wj) o) r3; have zr4 := fun o => keep_cell (below_new (Below.refl _ wj) o) r4; have zr5 := fun o => keep_cell (below_new (Below.refl _ wj) o) r5; have zr6 := fun o => keep_cell (below_new (Below.refl _ wj) o) r6; have zg0 := fun o => (co_cells (heap_keep1 hnk o)).2.1; have zg1 := fun o => (co_cells (heap_keep1 hnk o)).2.2.1; have zg2 := fun o => (co_cells (heap_keep1 hnk o)).2.2.2.1; have zg3 := fun o => (co_cells (heap_keep1 hnk o)).2.2.2.2.1; have zg4 := fun o => (co_cells (heap_keep1 hnk o)).2.2.2.2.2.1; have zg5 := fun o => (co_cells (heap_keep1 hnk o)).2.2.2.2.2.2.1; have zg6 := fun o => (co_cells (heap_keep1 hnk o)).2.2.2.2.2.2.2)
            | fail)
        all_goals
          have hzz := below_new hz (.cells (coA hl Al kl.length cl ++ coA (fuseH s hr') Ar kr.length cr) 60)
          have m2 := new_at1 (w := wj) (.cells (coA hl Al kl.length cl ++ coA (fuseH s hr') Ar kr.length cr) 60)
          have hrow := co_two (P := fun x => (P x ∧ x < w.heap.size) ∨ w.heap.size + 1 + 1 ≤ x) m2 rfl (.inr (by have := hz.size; have := HSC.out; have := HD.out.size; omega)) HCL.out ((HRL.out.below hzz).weak fun x hx => hx.1) hcr
            (((hrr.below hbj).below (below_new (Below.refl _ _) _)).weak fun x hx => by rcases hx with h | h; exact .inl h; exact .inr (by have h : w5.heap.size ≤ x := h; have := hb5.size; have := HSC.out; have := HD.out.size; omega))
          have HROW := Lib.hid hrow
          have HBF := Lib.hid (below_from (below_from HW.out HWD.out) hzz)
          have hsj := hz.size
          clear hrow hzz m2 hz hbi hbj hrr p1 x0 x1 x2 x3 x4 x5 x6 v0 v1 v2 v3 v4 v5 v6 u0 u1 u2 u3 u4 u5 u6 r0 r1 r2 r3 r4 r5 r6 g0 g1 g2 g3 g4 g5 g6
          go_wp2_with fail
          refine bodyPost_ret (v := coV ⟨5, h.b, S4.zero⟩ (some ⟨wj.heap.size, 0, none⟩) 2 2) (by simp [results, Tryz.results46, go_sem, zr0, zr1, zr2, zr3, zr4, zr5, zr6]; exact ⟨rfl, rfl, rfl, rfl⟩) rfl ⟨⟨5, h.b, S4.zero⟩, [.mk hl kl, .mk (fuseH s hr') kr], some ⟨wj.heap.size, 0, none⟩, 2, rfl, ?_, Nat.le_refl _, (row_seven HROW.out fun x hx => by rcases hx with h | h; omega; omega).weak fun x hx => by rcases hx with h | h; exact .inl h.1; exact .inr (by omega), seven_below HBF.out (by omega)⟩
          rw [HSQ.out, EL.out, ER.out, fuse_head]
set_option maxRecDepth 100000 in
set_option maxHeartbeats 16000000 in
theorem step_6 (d : UInt8) {h : CH} (e : h.k = 6) (hs : h.s = S4.zero) {hx : CH} {kx : List Co} (px : StepOk 46 d hx kx)
    (ox : okC (.mk hx kx) = true) (bx : potV (.mk hx kx) + potS (.mk hx kx) ≤ 1000000000) : StepOk 46 d h [.mk hx kx] := by
  intro P A c w hc hr
  have hkn : (h.k.toNat : Int) = 6 := by rw [e]; rfl
  have HSQ : Hid (stepC d (.mk h [.mk hx kx]) = cSeq h.b (fuseC [48] (stepC d (.mk hx kx))) (cStar [] (.mk hx kx))) := by
    obtain ⟨k, b, s⟩ := h
    simp only at e hs
    subst e hs
    exact step_star d b _
  clear hs
  have HSP : Hid (potV (stepC d (.mk hx kx)) ≤ potV (.mk hx kx) + potS (.mk hx kx)) := (step_pot d _ ox).1
  obtain ⟨ad, A1, c1, hA, hc1, hr1, u0, u1, u2, u3, u4, u5, u6⟩ := kidC0 hr
  subst hA
  obtain ⟨W0, hW0⟩ : ∃ W0, (w.alloc (.cells #[.int .u8 6, .string (str h.b), .int .u64 (h.s.a.toNat : Int), .int .u64 (h.s.b.toNat : Int), .int .u64 (h.s.c.toNat : Int), .int .u64 (h.s.d.toNat : Int), .slice (some ad) 1 c] 60)).alloc (.cells coZ 60) = W0 := ⟨_, rfl⟩
  have hbW0 : Below w.heap.size w W0 := by rw [← hW0]; exact below_new (below_new (Below.refl _ _) _) _
  have hsW0 : W0.heap.size = w.heap.size + 1 + 1 := by rw [← hW0]; simp
  have e1 : W0.heap[w.heap.size]? = some (.cells #[.int .u8 6, .string (str h.b), .int .u64 (h.s.a.toNat : Int), .int .u64 (h.s.b.toNat : Int), .int .u64 (h.s.c.toNat : Int), .int .u64 (h.s.d.toNat : Int), .slice (some ad) 1 c] 60 (0, 0)) := by rw [← hW0]; exact heap_keep1 (new_at1 _) _
  have e2 : W0.heap[w.heap.size + 1]? = some (.cells coZ 60 (0, 0)) := by
    rw [← hW0]
    have := new_at1 (w := w.alloc (.cells #[.int .u8 6, .string (str h.b), .int .u64 (h.s.a.toNat : Int), .int .u64 (h.s.b.toNat : Int), .int .u64 (h.s.c.toNat : Int), .int .u64 (h.s.d.toNat : Int), .slice (some ad) 1 c] 60)) (.cells coZ 60)
    rw [World.size_alloc] at this
    exact this
  obtain ⟨W, hW⟩ : ∃ W, W0.alloc (.cells #[.int .u8 6, .string ⟨#[]⟩, .int .u64 0, .int .u64 0, .int .u64 0, .int .u64 0, .slice (some ad) 1 c] 60) = W := ⟨_, rfl⟩
  have hbW1 : Below W0.heap.size W0 W := by rw [← hW]; exact below_new (Below.refl _ _) _
  have e3 : W.heap[w.heap.size + 1 + 1]? = some (.cells #[.int .u8 6, .string ⟨#[]⟩, .int .u64 0, .int .u64 0, .int .u64 0, .int .u64 0, .slice (some ad) 1 c] 60 (0, 0)) := by rw [← hW, ← hsW0]; exact new_at1 _
  have hbW := below_from hbW0 hbW1
  have hsW : W.heap.size = w.heap.size + 1 + 1 + 1 := by rw [← hW, World.size_alloc, hsW0]
  have e1 := (hbW1.block _ (lt_of_block e1)).trans e1
  have e2 := (hbW1.block _ (lt_of_block e2)).trans e2
  have Q2 : Hid (∀ X, Below W.heap.size W X → X.cell? ⟨w.heap.size, 1, none⟩ = some (.string (str h.b)) ∧ X.cell? ⟨w.heap.size, 6, none⟩ = some (.slice (some ad) 1 c) ∧ X.cell? ad = some (.int .u8 (hx.k.toNat : Int)) ∧ X.cell? ⟨ad.block, ad.off + 1, none⟩ = some (.string (str hx.b)) ∧ X.cell? ⟨ad.block, ad.off + 2, none⟩ = some (.int .u64 (hx.s.a.toNat : Int)) ∧ X.cell? ⟨ad.block, ad.off + 3, none⟩ = some (.int .u64 (hx.s.b.toNat : Int)) ∧ X.cell? ⟨ad.block, ad.off + 4, none⟩ = some (.int .u64 (hx.s.c.toNat : Int)) ∧ X.cell? ⟨ad.block, ad.off + 5, none⟩ = some (.int .u64 (hx.s.d.toNat : Int)) ∧ X.cell? ⟨ad.block, ad.off + 6, none⟩ = some (.slice A1 kx.length c1) ∧ X.cell? ⟨w.heap.size + 1 + 1, 0, none⟩ = some (.int .u8 6) ∧ X.cell? ⟨w.heap.size + 1 + 1, 1, none⟩ = some (.string ⟨#[]⟩) ∧ X.cell? ⟨w.heap.size + 1 + 1, 2, none⟩ = some (.int .u64 0) ∧ X.cell? ⟨w.heap.size + 1 + 1, 3, none⟩ = some (.int .u64 0) ∧ X.cell? ⟨w.heap.size + 1 + 1, 4, none⟩ = some (.int .u64 0) ∧ X.cell? ⟨w.heap.size + 1 + 1, 5, none⟩ = some (.int .u64 0) ∧ X.cell? ⟨w.heap.size + 1 + 1, 6, none⟩ = some (.slice (some ad) 1 c)) := by
    intro X hX
    obtain ⟨p0, p1, p2, p3, p4, p5, p6⟩ := co_at_box ((hX.block _ (lt_of_block e1)).trans e1)
    obtain ⟨n0, n1, n2, n3, n4, n5, n6⟩ := co_at_box ((hX.block _ (lt_of_block e3)).trans e3)
    have hX2 := below_from hbW hX
    exact ⟨p1, p6, keep_cell hX2 u0, keep_cell hX2 u1, keep_cell hX2 u2, keep_cell hX2 u3, keep_cell hX2 u4, keep_cell hX2 u5, keep_cell hX2 u6, n0, n1, n2, n3, n4, n5, n6⟩
  have hn2 : w.heap.size ≠ w.heap.size + 1 := by omega
  have hn3 : w.heap.size + 1 + 1 ≠ w.heap.size + 1 := by omega
  have hna : ad.block ≠ w.heap.size + 1 := by have := World.block_lt_of_cell? w _ u0; omega
  have Q2s : Hid (∀ X, Below W.heap.size W X → ∀ u0 u1 u2 u3 u4 u5 u6, (((((((X.setCell ⟨w.heap.size + 1, 0, none⟩ u0).setCell ⟨w.heap.size + 1, 1, none⟩ u1).setCell ⟨w.heap.size + 1, 2, none⟩ u2).setCell ⟨w.heap.size + 1, 3, none⟩ u3).setCell ⟨w.heap.size + 1, 4, none⟩ u4).setCell ⟨w.heap.size + 1, 5, none⟩ u5).setCell ⟨w.heap.size + 1, 6, none⟩ u6).cell? ⟨w.heap.size, 1, none⟩ = some (.string (str h.b)) ∧ (((((((X.setCell ⟨w.heap.size + 1, 0, none⟩ u0).setCell ⟨w.heap.size + 1, 1, none⟩ u1).setCell ⟨w.heap.size + 1, 2, none⟩ u2).setCell ⟨w.heap.size + 1, 3, none⟩ u3).setCell ⟨w.heap.size + 1, 4, none⟩ u4).setCell ⟨w.heap.size + 1, 5, none⟩ u5).setCell ⟨w.heap.size + 1, 6, none⟩ u6).cell? ⟨w.heap.size, 6, none⟩ = some (.slice (some ad) 1 c) ∧ (((((((X.setCell ⟨w.heap.size + 1, 0, none⟩ u0).setCell ⟨w.heap.size + 1, 1, none⟩ u1).setCell ⟨w.heap.size + 1, 2, none⟩ u2).setCell ⟨w.heap.size + 1, 3, none⟩ u3).setCell ⟨w.heap.size + 1, 4, none⟩ u4).setCell ⟨w.heap.size + 1, 5, none⟩ u5).setCell ⟨w.heap.size + 1, 6, none⟩ u6).cell? ad = some (.int .u8 (hx.k.toNat : Int)) ∧ (((((((X.setCell ⟨w.heap.size + 1, 0, none⟩ u0).setCell ⟨w.heap.size + 1, 1, none⟩ u1).setCell ⟨w.heap.size + 1, 2, none⟩ u2).setCell ⟨w.heap.size + 1, 3, none⟩ u3).setCell ⟨w.heap.size + 1, 4, none⟩ u4).setCell ⟨w.heap.size + 1, 5, none⟩ u5).setCell ⟨w.heap.size + 1, 6, none⟩ u6).cell? ⟨ad.block, ad.off + 1, none⟩ = some (.string (str hx.b)) ∧ (((((((X.setCell ⟨w.heap.size + 1, 0, none⟩ u0).setCell ⟨w.heap.size + 1, 1, none⟩ u1).setCell ⟨w.heap.size + 1, 2, none⟩ u2).setCell ⟨w.heap.size + 1, 3, none⟩ u3).setCell ⟨w.heap.size + 1, 4, none⟩ u4).setCell ⟨w.heap.size + 1, 5, none⟩ u5).setCell ⟨w.heap.size + 1, 6, none⟩ u6).cell? ⟨ad.block, ad.off + 2, none⟩ = some (.int .u64 (hx.s.a.toNat : Int)) ∧ (((((((X.setCell ⟨w.heap.size + 1, 0, none⟩ u0).setCell ⟨w.heap.size + 1, 1, none⟩ u1).setCell ⟨w.heap.size + 1, 2, none⟩ u2).setCell ⟨w.heap.size + 1, 3, none⟩ u3).setCell ⟨w.heap.size + 1, 4, none⟩ u4).setCell ⟨w.heap.size + 1, 5, none⟩ u5).setCell ⟨w.heap.size + 1, 6, none⟩ u6).cell? ⟨ad.block, ad.off + 3, none⟩ = some (.int .u64 (hx.s.b.toNat : Int)) ∧ (((((((X.setCell ⟨w.heap.size + 1, 0, none⟩ u0).setCell ⟨w.heap.size + 1, 1, none⟩ u1).setCell ⟨w.heap.size + 1, 2, none⟩ u2).setCell ⟨w.heap.size + 1, 3, none⟩ u3).setCell ⟨w.heap.size + 1, 4, none⟩ u4).setCell ⟨w.heap.size + 1, 5, none⟩ u5).setCell ⟨w.heap.size + 1, 6, none⟩ u6).cell? ⟨ad.block, ad.off + 4, none⟩ = some (.int .u64 (hx.s.c.toNat : Int)) ∧ (((((((X.setCell ⟨w.heap.size + 1, 0, none⟩ u0).setCell ⟨w.heap.size + 1, 1, none⟩ u1).setCell ⟨w.heap.size + 1, 2, none⟩ u2).setCell ⟨w.heap.size + 1, 3, none⟩ u3).setCell ⟨w.heap.size + 1, 4, none⟩ u4).setCell ⟨w.heap.size + 1, 5, none⟩ u5).setCell ⟨w.heap.size + 1, 6, none⟩ u6).cell? ⟨ad.block, ad.off + 5, none⟩ = some (.int .u64 (hx.s.d.toNat : Int)) ∧ (((((((X.setCell ⟨w.heap.size + 1, 0, none⟩ u0).setCell ⟨w.heap.size + 1, 1, none⟩ u1).setCell ⟨w.heap.size + 1, 2, none⟩ u2).setCell ⟨w.heap.size + 1, 3, none⟩ u3).setCell ⟨w.heap.size + 1, 4, none⟩ u4).setCell ⟨w.heap.size + 1, 5, none⟩ u5).setCell ⟨w.heap.size + 1, 6, none⟩ u6).cell? ⟨ad.block, ad.off + 6, none⟩ = some (.slice A1 kx.length c1) ∧ (((((((X.setCell ⟨w.heap.size + 1, 0, none⟩ u0).setCell ⟨w.heap.size + 1, 1, none⟩ u1).setCell ⟨w.heap.size + 1, 2, none⟩ u2).setCell ⟨w.heap.size + 1, 3, none⟩ u3).setCell ⟨w.heap.size + 1, 4, none⟩ u4).setCell ⟨w.heap.size + 1, 5, none⟩ u5).setCell ⟨w.heap.size + 1, 6, none⟩ u6).cell? ⟨w.heap.size + 1 + 1, 0, none⟩ = some (.int .u8 6) ∧ (((((((X.setCell ⟨w.heap.size + 1, 0, none⟩ u0).setCell ⟨w.heap.size + 1, 1, none⟩ u1).setCell ⟨w.heap.size + 1, 2, none⟩ u2).setCell ⟨w.heap.size + 1, 3, none⟩ u3).setCell ⟨w.heap.size + 1, 4, none⟩ u4).setCell ⟨w.heap.size + 1, 5, none⟩ u5).setCell ⟨w.heap.size + 1, 6, none⟩ u6).cell? ⟨w.heap.size + 1 + 1, 1, none⟩ = some (.string ⟨#[]⟩) ∧ (((((((X.setCell ⟨w.heap.size + 1, 0, none⟩ u0).setCell ⟨w.heap.size + 1, 1, none⟩ u1).setCell ⟨w.heap.size + 1, 2, none⟩ u2).setCell ⟨w.heap.size + 1, 3, none⟩ u3).setCell ⟨w.heap.size + 1, 4, none⟩ u4).setCell ⟨w.heap.size + 1, 5, none⟩ u5).setCell ⟨w.heap.size + 1, 6, none⟩ u6).cell? ⟨w.heap.size + 1 + 1, 2, none⟩ = some (.int .u64 0) ∧ (((((((X.setCell ⟨w.heap.size + 1, 0, none⟩ u0).setCell ⟨w.heap.size + 1, 1, none⟩ u1).setCell ⟨w.heap.size + 1, 2, none⟩ u2).setCell ⟨w.heap.size + 1, 3, none⟩ u3).setCell ⟨w.heap.size + 1, 4, none⟩ u4).setCell ⟨w.heap.size + 1, 5, none⟩ u5).setCell ⟨w.heap.size + 1, 6, none⟩ u6).cell? ⟨w.heap.size + 1 + 1, 3, none⟩ = some (.int .u64 0) ∧ (((((((X.setCell ⟨w.heap.size + 1, 0, none⟩ u0).setCell ⟨w.heap.size + 1, 1, none⟩ u1).setCell ⟨w.heap.size + 1, 2, none⟩ u2).setCell ⟨w.heap.size + 1, 3, none⟩ u3).setCell ⟨w.heap.size + 1, 4, none⟩ u4).setCell ⟨w.heap.size + 1, 5, none⟩ u5).setCell ⟨w.heap.size + 1, 6, none⟩ u6).cell? ⟨w.heap.size + 1 + 1, 4, none⟩ = some (.int .u64 0) ∧ (((((((X.setCell ⟨w.heap.size + 1, 0, none⟩ u0).setCell ⟨w.heap.size + 1, 1, none⟩ u1).setCell ⟨w.heap.size + 1, 2, none⟩ u2).setCell ⟨w.heap.size + 1, 3, none⟩ u3).setCell ⟨w.heap.size + 1, 4, none⟩ u4).setCell ⟨w.heap.size + 1, 5, none⟩ u5).setCell ⟨w.heap.size + 1, 6, none⟩ u6).cell? ⟨w.heap.size + 1 + 1, 5, none⟩ = some (.int .u64 0) ∧ (((((((X.setCell ⟨w.heap.size + 1, 0, none⟩ u0).setCell ⟨w.heap.size + 1, 1, none⟩ u1).setCell ⟨w.heap.size + 1, 2, none⟩ u2).setCell ⟨w.heap.size + 1, 3, none⟩ u3).setCell ⟨w.heap.size + 1, 4, none⟩ u4).setCell ⟨w.heap.size + 1, 5, none⟩ u5).setCell ⟨w.heap.size + 1, 6, none⟩ u6).cell? ⟨w.heap.size + 1 + 1, 6, none⟩ = some (.slice (some ad) 1 c)) := by
    intro X hX u0 u1 u2 u3 u4 u5 u6
    obtain ⟨p1, p6, q0, q1, q2, q3, q4, q5, q6, n0, n1, n2, n3, n4, n5, n6⟩ := Q2.out _ hX
    exact ⟨(World.cell?_of_block (seven_other hn2)).trans p1, (World.cell?_of_block (seven_other hn2)).trans p6, (World.cell?_of_block (a := ad) (seven_other hna)).trans q0, (World.cell?_of_block (a := ⟨ad.block, ad.off + 1, none⟩) (seven_other hna)).trans q1, (World.cell?_of_block (a := ⟨ad.block, ad.off + 2, none⟩) (seven_other hna)).trans q2, (World.cell?_of_block (a := ⟨ad.block, ad.off + 3, none⟩) (seven_other hna)).trans q3, (World.cell?_of_block (a := ⟨ad.block, ad.off + 4, none⟩) (seven_other hna)).trans q4, (World.cell?_of_block (a := ⟨ad.block, ad.off + 5, none⟩) (seven_other hna)).trans q5, (World.cell?_of_block (a := ⟨ad.block, ad.off + 6, none⟩) (seven_other hna)).trans q6, (World.cell?_of_block (seven_other hn3)).trans n0, (World.cell?_of_block (seven_other hn3)).trans n1, (World.cell?_of_block (seven_other hn3)).trans n2, (World.cell?_of_block (seven_other hn3)).trans n3, (World.cell?_of_block (seven_other hn3)).trans n4, (World.cell?_of_block (seven_other hn3)).trans n5, (World.cell?_of_block (seven_other hn3)).trans n6⟩
  have E2 := Lib.hid e2
  have PX : Hid (∀ X, Below W.heap.size W X → Calls Tryz.prog 46 #[coV hx A1 kx.length c1, .int .u8 (d.toNat : Int)] X (CoPostX (fun b => P b ∧ b < w.heap.size) (stepC d (.mk hx kx)) X)) := fun X hX => px _ A1 c1 X hc1 (hr1.there.below (below_from hbW hX))
  have HW := Lib.hid hbW
  have HSW := Lib.hid hsW
  have HBX := Lib.hid bx
  have HR := Lib.hid hr
  have HC1 : Hid ([T.mk hx kx].length ≤ c) := hc
  rw [← hW0] at hW
  have HE := Lib.hid hW
  clear hW hW0 hr hr1 px u0 u1 u2 u3 u4 u5 u6 hbW hbW0 hbW1 e1 e2 e3 ox bx hc1 hc hsW hsW0 e
  go_enter Tryz.func46, Tryz.ntmps46
  go_upto_region 23 with fail
  rw [show ((w.alloc (.cells #[.int .u8 6, .string (str h.b), .int .u64 (h.s.a.toNat : Int), .int .u64 (h.s.b.toNat : Int), .int .u64 (h.s.c.toNat : Int), .int .u64 (h.s.d.toNat : Int), .slice (some ad) 1 c] 60)).alloc (.cells #[.int .u8 0, .string ⟨#[]⟩, .int .u64 0, .int .u64 0, .int .u64 0, .int .u64 0, .slice none 0 0] 60)).alloc (.cells #[.int .u8 6, .string ⟨#[]⟩, .int .u64 0, .int .u64 0, .int .u64 0, .int .u64 0, .slice (some ad) 1 c] 60) = W from HE.out]
  have hz := Below.refl W.heap.size W
  obtain ⟨p1, p6, u0, u1, u2, u3, u4, u5, u6, n0, n1, n2, n3, n4, n5, n6⟩ := Q2.out _ hz
  go_region_held3 (fun X => X.cell? ⟨w.heap.size, 1, none⟩ = some (.string (str h.b)) ∧ X.cell? ⟨w.heap.size, 6, none⟩ = some (.slice (some ad) 1 c) ∧ X.cell? ad = some (.int .u8 (hx.k.toNat : Int)) ∧ X.cell? ⟨ad.block, ad.off + 1, none⟩ = some (.string (str hx.b)) ∧ X.cell? ⟨ad.block, ad.off + 2, none⟩ = some (.int .u64 (hx.s.a.toNat : Int)) ∧ X.cell? ⟨ad.block, ad.off + 3, none⟩ = some (.int .u64 (hx.s.b.toNat : Int)) ∧ X.cell? ⟨ad.block, ad.off + 4, none⟩ = some (.int .u64 (hx.s.c.toNat : Int)) ∧ X.cell? ⟨ad.block, ad.off + 5, none⟩ = some (.int .u64 (hx.s.d.toNat : Int)) ∧ X.cell? ⟨ad.block, ad.off + 6, none⟩ = some (.slice A1 kx.length c1) ∧ X.cell? ⟨w.heap.size + 1 + 1, 0, none⟩ = some (.int .u8 6) ∧ X.cell? ⟨w.heap.size + 1 + 1, 1, none⟩ = some (.string ⟨#[]⟩) ∧ X.cell? ⟨w.heap.size + 1 + 1, 2, none⟩ = some (.int .u64 0) ∧ X.cell? ⟨w.heap.size + 1 + 1, 3, none⟩ = some (.int .u64 0) ∧ X.cell? ⟨w.heap.size + 1 + 1, 4, none⟩ = some (.int .u64 0) ∧ X.cell? ⟨w.heap.size + 1 + 1, 5, none⟩ = some (.int .u64 0) ∧ X.cell? ⟨w.heap.size + 1 + 1, 6, none⟩ = some (.slice (some ad) 1 c))
    (first | (with_reducible refine Q2s.out _ ?_ _ _ _ _ _ _ _; (repeat (first | with_reducible exact hz | with_reducible refine Below.drew ?_ | with_reducible refine below_new ?_ _ | (with_reducible refine Below.setCell ?_ (by first | exact Nat.le_refl _ | (simp; done) | (simp; omega)) _))); done) | (refine Q2.out _ ?_; (repeat (first | with_reducible exact hz | with_reducible refine Below.drew ?_ | with_reducible refine below_new ?_ _ | (with_reducible refine Below.setCell ?_ (by first | exact Nat.le_refl _ | (simp; done) | (simp; omega)) _)))))
    (first
      | (go_at_call 46; (with_reducible refine (PX.out _ ?_).mono ?_); (repeat (first | with_reducible exact hz | with_reducible refine Below.drew ?_ | with_reducible refine below_new ?_ _ | (with_reducible refine Below.setCell ?_ (by first | exact Nat.le_refl _ | (simp; done) | (simp; omega)) _))); rintro e wi ⟨hr', kr, Ar, cr, rfl, er, hcr, hrr, hbi⟩; have ER := Lib.hid er; have hfl : [(48 : UInt8)].length + hr'.b.length ≤ 9223372036854775807 := (by have h1 := head_potA (stepC d (.mk hx kx)); rw [er] at h1; have h2 := HSP.out; rw [er] at h2; have h3 := HBX.out; simp only [T.head] at h1; simp only [List.length_cons, List.length_nil]; omega); clear er; have hz : Below W.heap.size W wi := (by refine below_from ?_ hbi; (repeat (first | with_reducible exact hz | with_reducible refine Below.drew ?_ | with_reducible refine below_new ?_ _ | (with_reducible refine Below.setCell ?_ (by first | exact Nat.le_refl _ | (simp; done) | (simp; omega)) _)))); obtain ⟨p1, p6, u0, u1, u2, u3, u4, u5, u6, n0, n1, n2, n3, n4, n5, n6⟩ := Q2.out _ hz; obtain ⟨⟨y0, y1, y2, y3, y4, y5, y6⟩, f0, f1, f2, f3, f4, f5, f6⟩ := co_cells ((hz.block _ (lt_of_block E2.out)).trans E2.out))
      | (go_at_call 56; (with_reducible refine (fuse_any [48] hr' Ar kr.length cr _ hfl).mono ?_); rintro e wj ⟨rfl, hbj⟩; have hz := below_from hz hbj; obtain ⟨p1, p6, u0, u1, u2, u3, u4, u5, u6, n0, n1, n2, n3, n4, n5, n6⟩ := Q2.out _ hz; have hnk := (hz.block _ (lt_of_block E2.out)).trans E2.out; obtain ⟨⟨r0, r1, r2, r3, r4, r5, r6⟩, g0, g1, g2, g3, g4, g5, g6⟩ := co_cells hnk; have zr0 := fun o => keep_cell (below_new (Below.refl _ wj) o) r0; have zr1 := fun o => keep_cell (below_new (Below.refl _ wj) o) r1; have zr2 := fun o => keep_cell (below_new (Below.refl _ wj) o) r2; have zr3 := fun o => keep_cell (below_new (Below.refl _ wj) o) r3; have zr4 := fun o => keep_cell (below_new (Below.refl _ wj) o) r4; have zr5 := fun o => keep_cell (below_new (Below.refl _ wj) o) r5; have zr6 := fun o => keep_cell (below_new (Below.refl _ wj) o) r6; have zg0 := fun o => (co_cells (heap_keep1 hnk o)).2.1; have zg1 := fun o => (co_cells (heap_keep1 hnk o)).2.2.1; have zg2 := fun o => (co_cells (heap_keep1 hnk o)).2.2.2.1; have zg3 := fun o => (co_cells (heap_keep1 hnk o)).2.2.2.2.1; have zg4 := fun o => (co_cells (heap_keep1 hnk o)).2.2.2.2.2.1; have zg5 := fun o => (co_cells (heap_keep1 hnk o)).2.2.2.2.2.2.1; have zg6 := fun o => (co_cells (heap_keep1 hnk o)).2.2.2.2.2.2.2)
      | fail)
  all_goals
    have hzz := below_new hz (.cells (coA (fuseH [48] hr') Ar kr.length cr ++ coA ⟨6, [], S4.zero⟩ (some ad) 1 c) 60)
    have m2 := new_at1 (w := wj) (.cells (coA (fuseH [48] hr') Ar kr.length cr ++ coA ⟨6, [], S4.zero⟩ (some ad) 1 c) 60)
    have hrow := co_two (P := fun x => (P x ∧ x < w.heap.size) ∨ w.heap.size + 1 + 1 ≤ x) (h2 := ⟨6, [], S4.zero⟩) (ks2 := [.mk hx kx]) m2 rfl (.inr (by have := hz.size; have := HSW.out; omega)) hcr
      (((hrr.below hbj).below (below_new (Below.refl _ _) _)).weak fun x hx => by rcases hx with h | h; exact .inl h; exact .inr (by have h : W.heap.size ≤ x := h; have := HSW.out; omega)) HC1.out ((HR.out.there.below (below_from HW.out hzz)).weak fun x hx => .inl hx)
    have HROW := Lib.hid hrow
    have HBF := Lib.hid (below_from HW.out hzz)
    have hsj := hz.size
    have hsw := HSW.out
    clear hrow hzz m2 hz hbi hbj hrr p1 p6 u0 u1 u2 u3 u4 u5 u6 n0 n1 n2 n3 n4 n5 n6 r0 r1 r2 r3 r4 r5 r6 g0 g1 g2 g3 g4 g5 g6
    go_wp2_with fail
    refine bodyPost_ret (v := coV ⟨4, h.b, S4.zero⟩ (some ⟨wj.heap.size, 0, none⟩) 2 2) (by simp [results, Tryz.results46, go_sem, zr0, zr1, zr2, zr3, zr4, zr5, zr6]; exact ⟨rfl, rfl, rfl, rfl⟩) rfl ⟨⟨4, h.b, S4.zero⟩, [.mk (fuseH [48] hr') kr, .mk ⟨6, [], S4.zero⟩ [.mk hx kx]], some ⟨wj.heap.size, 0, none⟩, 2, rfl, ?_, Nat.le_refl _, (row_seven HROW.out fun x hx => by rcases hx with h | h; omega; omega).weak fun x hx => by rcases hx with h | h; exact .inl h.1; exact .inr (by omega), seven_below HBF.out (by omega)⟩
    rw [HSQ.out, ER.out, fuse_head]
theorem coA_one (h : CH) (A : Option Addr) (n c : Nat) : ∀ u ∈ (coA h A n c).toList, u.oneCell' = true := by
  intro u hu
  simp at hu
  rcases hu with rfl | rfl | rfl | rfl | rfl | rfl | rfl <;> rfl
/-- one more behind a row of the call's own -/
theorem co_app {okk P : Nat → Prop} {w1 w2 : World} {base : Nat} {o : Value} {ts : List Co} {tb : Co} {h2 : CH} {k2 : List Co} {A2 : Option Addr} {c2 : Nat} {e : TypeId}
    (HO : OwnT CE okk w1 base e o ts) (hok : ∀ x, okk x → x < w1.heap.size) (hP : ∀ x, P x → x < w1.heap.size ∧ some x ≠ o.ownBlock) (hz : Below w1.heap.size w1 w2) (e2 : tb = .mk h2 k2) (hc2 : k2.length ≤ c2) (hr2 : InRow CE (fun x => P x ∨ w1.heap.size ≤ x) w2 k2 A2 0) :
    ∃ cs0, (w2.alloc (.cells (coA h2 A2 k2.length c2) e)).ownsRow base e 7 o ts.length cs0 ∧ Src (w2.alloc (.cells (coA h2 A2 k2.length c2) e)) (some ⟨w2.heap.size, 0, none⟩) 1 7 (coA h2 A2 k2.length c2).toList ∧
      ∀ v5 w5, w5.ownsRow base e 7 v5 (ts.length + 1) (cs0 ++ (coA h2 A2 k2.length c2).toList) → (w2.alloc (.cells (coA h2 A2 k2.length c2) e)).grownBy w5 o.ownBlock → (v5.ownBlock = o.ownBlock ∨ v5.ownBlock = some (w2.alloc (.cells (coA h2 A2 k2.length c2) e)).heap.size) →
        OwnT CE (fun x => okk x ∨ P x ∨ (w1.heap.size ≤ x ∧ x < w2.heap.size)) w5 base e v5 (ts ++ [tb]) := by
  have hXb : Below w2.heap.size w2 (w2.alloc (.cells (coA h2 A2 k2.length c2) e)) := below_new (Below.refl _ _) _
  have ho5 : OwnT CE (fun x => okk x ∨ P x ∨ (w1.heap.size ≤ x ∧ x < w2.heap.size)) (w2.alloc (.cells (coA h2 A2 k2.length c2) e)) base e o ts := (HO.keep (below_from hz hXb)).narrow (fun x hx => .inl hx) fun x hx e => by
    rcases hx with hx | hx | hx
    · exact HO.1 x hx e
    · exact (hP x hx).2 e
    · have := own_inE HO e.symm; omega
  obtain ⟨h0, cs0, hown0, hk0⟩ := ho5
  refine ⟨cs0, hown0, new_src w2 1 7 (coA h2 A2 k2.length c2) e rfl, fun v5 w5 a b d => ?_⟩
  refine OwnT.app (ys := [tb]) h0 hown0 hk0 ?_ a b d (fun x hx => ?_)
  · rw [e2]
    exact co_src hc2 ((hr2.there.below hXb).weak fun x hx => by rcases hx.1 with h | h; exact .inr (.inl h); exact .inr (.inr ⟨h, hx.2⟩))
  · rw [World.size_alloc]
    have := hz.size
    rcases hx with hx | hx | hx
    · have := hok x hx; omega
    · have := (hP x hx).1; omega
    · omega
set_option maxRecDepth 100000 in
set_option maxHeartbeats 16000000 in
theorem step_5 (d : UInt8) {h : CH} (e : h.k = 5) {ks : List Co} (hk : ∀ t ∈ ks, StepOkT 46 d t) (hlen : ks.length ≤ 1000000000) : StepOk 46 d h ks := by
  intro P A c w hc hr
  have hkn : (h.k.toNat : Int) = 5 := by rw [e]; rfl
  have HSQ : Hid (stepC d (.mk h ks) = cAlt h.b (stepCs d ks)) := by
    unfold Hid
    unfold stepC
    simp [e]
  have HK0 := Lib.hid hk
  have HT0 : Hid (stepCs d (ks.take 0) = []) := rfl
  obtain ⟨W, hW⟩ : ∃ W, ((w.alloc (.cells #[.int .u8 5, .string (str h.b), .int .u64 (h.s.a.toNat : Int), .int .u64 (h.s.b.toNat : Int), .int .u64 (h.s.c.toNat : Int), .int .u64 (h.s.d.toNat : Int), .slice A ks.length c] 60)).alloc (.cells coZ 60)).alloc (.cells #[.int .u8 5, .string (str h.b), .int .u64 0, .int .u64 0, .int .u64 0, .int .u64 0, .slice none 0 0] 60) = W := ⟨_, rfl⟩
  have hbW : Below w.heap.size w W := by rw [← hW]; exact below_new (below_new (below_new (Below.refl _ _) _) _) _
  have e1 : W.heap[w.heap.size]? = some (.cells #[.int .u8 5, .string (str h.b), .int .u64 (h.s.a.toNat : Int), .int .u64 (h.s.b.toNat : Int), .int .u64 (h.s.c.toNat : Int), .int .u64 (h.s.d.toNat : Int), .slice A ks.length c] 60 (0, 0)) := by rw [← hW]; exact heap_keep1 (heap_keep1 (new_at1 _) _) _
  have e2 : W.heap[w.heap.size + 1]? = some (.cells coZ 60 (0, 0)) := by
    rw [← hW]
    have := heap_keep1 (new_at1 (w := w.alloc (.cells #[.int .u8 5, .string (str h.b), .int .u64 (h.s.a.toNat : Int), .int .u64 (h.s.b.toNat : Int), .int .u64 (h.s.c.toNat : Int), .int .u64 (h.s.d.toNat : Int), .slice A ks.length c] 60)) (.cells coZ 60)) (.cells #[.int .u8 5, .string (str h.b), .int .u64 0, .int .u64 0, .int .u64 0, .int .u64 0, .slice none 0 0] 60)
    rw [World.size_alloc] at this
    exact this
  have e3 : W.heap[w.heap.size + 1 + 1]? = some (.cells #[.int .u8 5, .string (str h.b), .int .u64 0, .int .u64 0, .int .u64 0, .int .u64 0, .slice none 0 0] 60 (0, 0)) := by
    rw [← hW]
    have := new_at1 (w := (w.alloc (.cells #[.int .u8 5, .string (str h.b), .int .u64 (h.s.a.toNat : Int), .int .u64 (h.s.b.toNat : Int), .int .u64 (h.s.c.toNat : Int), .int .u64 (h.s.d.toNat : Int), .slice A ks.length c] 60)).alloc (.cells coZ 60)) (.cells #[.int .u8 5, .string (str h.b), .int .u64 0, .int .u64 0, .int .u64 0, .int .u64 0, .slice none 0 0] 60)
    rw [World.size_alloc, World.size_alloc] at this
    exact this
  have HR := Lib.hid hr.there
  have HBW := Lib.hid hbW
  have E1 := Lib.hid e1
  have E2 := Lib.hid e2
  have E3 := Lib.hid e3
  have HWW := Lib.hid hW
  clear hr hbW e1 e2 e3 hW hk e
  have hO0 : Hid (OwnT CE (fun _ => False) W (w.heap.size + 1 + 1 + 1) 60 (.slice none 0 0) (stepCs d (ks.take 0))) := by rw [HT0.out]; exact OwnT.nil_ _ _ _ _ _
  go_enter Tryz.func46, Tryz.ntmps46
  go_wp2_with fail
  rw [show ((w.alloc (.cells #[.int .u8 5, .string (str h.b), .int .u64 (h.s.a.toNat : Int), .int .u64 (h.s.b.toNat : Int), .int .u64 (h.s.c.toNat : Int), .int .u64 (h.s.d.toNat : Int), .slice A ks.length c] 60)).alloc (.cells #[.int .u8 0, .string ⟨#[]⟩, .int .u64 0, .int .u64 0, .int .u64 0, .int .u64 0, .slice none 0 0] 60)).alloc (.cells #[.int .u8 5, .string (str h.b), .int .u64 0, .int .u64 0, .int .u64 0, .int .u64 0, .slice none 0 0] 60) = W from HWW.out]
  clear HWW
  go_loopw [33] (fun i wr => ∃ (k : Nat) (o : Value) (okk : Nat → Prop), k ≤ ks.length ∧ i = .int .i64 (k : Nat) ∧ Hid (OwnT CE okk wr (w.heap.size + 1 + 1 + 1) 60 o (stepCs d (ks.take k))) ∧ Hid (∀ x, okk x → ((P x ∧ x < w.heap.size) ∨ w.heap.size + 1 + 1 < x) ∧ x < wr.heap.size) ∧
    Hid (wr.heap[w.heap.size + 1 + 1]? = some (.cells #[.int .u8 5, .string (str h.b), .int .u64 0, .int .u64 0, .int .u64 0, .int .u64 0, o] 60 (0, 0))) ∧
    Hid (wr.heap[w.heap.size]? = some (.cells #[.int .u8 5, .string (str h.b), .int .u64 (h.s.a.toNat : Int), .int .u64 (h.s.b.toNat : Int), .int .u64 (h.s.c.toNat : Int), .int .u64 (h.s.d.toNat : Int), .slice A ks.length c] 60 (0, 0))) ∧ Hid (wr.heap[w.heap.size + 1]? = some (.cells coZ 60 (0, 0))) ∧ Hid (Below w.heap.size w wr)) (fun i _ => ks.length - (intOf i).toNat)
  case atStart => exact ⟨0, _, _, Nat.zero_le _, rfl, hO0, Lib.hid (fun x hx => hx.elim), E3, E1, E2, HBW⟩
  case round =>
    clear hO0 E1 E2 E3 HT0 HBW
    obtain ⟨k, o, okk, hk, rfl, HOw, HK, E3, E1, E2, HB⟩ := hrel
    by_cases hlt : k < ks.length
    · obtain ⟨t, ad, h1, ls, A1, c1, hA, hx, rfl, hc1, hr1, q0, q1, q2, q3, q4, q5, q6⟩ := co_at (HR.out.below HB.out) hlt
      subst hA
      have HTk : Hid (stepCs d (ks.take (k + 1)) = stepCs d (ks.take k) ++ [stepC d (.mk h1 ls)]) := by
        unfold Hid
        rw [stepCs_map, stepCs_map, List.take_add_one, hx]
        simp
      have HLk : Hid ((stepCs d (ks.take k)).length = k) := by unfold Hid; rw [stepCs_map, List.length_map, List.length_take]; omega
      obtain ⟨w1, hw1⟩ : ∃ w1, wr.alloc (.cells (coA h1 A1 ls.length c1) 60) = w1 := ⟨_, rfl⟩
      have hb1 : Below wr.heap.size wr w1 := by rw [← hw1]; exact below_new (Below.refl _ _) _
      have hsk := HK0.out _ (List.mem_of_getElem? hx) h1 ls rfl
      have HC : Hid (∀ X, Below w1.heap.size w1 X → Calls Tryz.prog 46 #[coV h1 A1 ls.length c1, .int .u8 (d.toNat : Int)] X (CoPostX (fun b => P b ∧ b < w.heap.size) (stepC d (.mk h1 ls)) X)) := fun X hX => hsk _ A1 c1 X hc1 ((hr1.below hb1).below hX)
      have HB1 := Lib.hid (below_from HB.out hb1)
      have HO1 := Lib.hid (HOw.out.keep hb1)
      have E31 := Lib.hid ((hb1.block _ (lt_of_block E3.out)).trans E3.out)
      have E11 := Lib.hid ((hb1.block _ (lt_of_block E1.out)).trans E1.out)
      have E21 := Lib.hid ((hb1.block _ (lt_of_block E2.out)).trans E2.out)
      have EK1 : Hid (w1.heap[wr.heap.size]? = some (.cells (coA h1 A1 ls.length c1) 60 (0, 0))) := by rw [← hw1]; exact new_at1 _
      have HK1 : Hid (∀ x, okk x → ((P x ∧ x < w.heap.size) ∨ w.heap.size + 1 + 1 < x) ∧ x < w1.heap.size) := fun x hx => by have := HK.out x hx; have := hb1.size; exact ⟨(HK.out x hx).1, by omega⟩
      have HW1 := Lib.hid hw1
      have hsw1 := HB1.out.size
      generalize stepC d (T.mk h1 ls) = tb at *
      clear hx hr1 hsk hb1 hw1 E1 E2 E3 HB HOw HK
      go_upto_region 10 with fail
      rw [show wr.alloc (.cells #[.int .u8 (h1.k.toNat : Int), .string (str h1.b), .int .u64 (h1.s.a.toNat : Int), .int .u64 (h1.s.b.toNat : Int), .int .u64 (h1.s.c.toNat : Int), .int .u64 (h1.s.d.toNat : Int), .slice A1 ls.length c1] 60) = w1 from HW1.out]
      clear HW1 q0 q1 q2 q3 q4 q5 q6
      have Q : Hid (∀ X, Below w1.heap.size w1 X → X.cell? ⟨w.heap.size + 1 + 1, 6, none⟩ = some o ∧ X.cell? ⟨wr.heap.size, 0, none⟩ = some (.int .u8 (h1.k.toNat : Int)) ∧ X.cell? ⟨wr.heap.size, 1, none⟩ = some (.string (str h1.b)) ∧ X.cell? ⟨wr.heap.size, 2, none⟩ = some (.int .u64 (h1.s.a.toNat : Int)) ∧ X.cell? ⟨wr.heap.size, 3, none⟩ = some (.int .u64 (h1.s.b.toNat : Int)) ∧ X.cell? ⟨wr.heap.size, 4, none⟩ = some (.int .u64 (h1.s.c.toNat : Int)) ∧ X.cell? ⟨wr.heap.size, 5, none⟩ = some (.int .u64 (h1.s.d.toNat : Int)) ∧ X.cell? ⟨wr.heap.size, 6, none⟩ = some (.slice A1 ls.length c1)) := by
        intro X hX
        obtain ⟨_, _, _, _, _, _, r5⟩ := co_at_box ((hX.block _ (lt_of_block E31.out)).trans E31.out)
        obtain ⟨x0, x1, x2, x3, x4, x5, x6⟩ := co_at_box ((hX.block _ (lt_of_block EK1.out)).trans EK1.out)
        exact ⟨r5, x0, x1, x2, x3, x4, x5, x6⟩
      have hz := Below.refl w1.heap.size w1
      obtain ⟨r5, x0, x1, x2, x3, x4, x5, x6⟩ := Q.out _ hz
      have hne : Hid (∀ j, j ≤ w.heap.size + 1 + 1 → some j ≠ Value.ownBlock o) := fun j hj e => by have := own_inE HO1.out e.symm; omega
      have hlt3 := lt_of_block E31.out
      have ENTRY := Lib.hid True.intro
      go_region_law
        (first
          | (go_simp; go_at_call 46; (with_reducible refine (HC.out _ (by first | exact hz.drew | exact hz | fail)).mono ?_); rintro e w2 ⟨h2, k2, A2, c2, rfl, e2, hc2, hr2, hb2⟩; have hz := below_from (by first | exact hz.drew | exact hz | fail) hb2; obtain ⟨r5, x0, x1, x2, x3, x4, x5, x6⟩ := Q.out _ hz; have r5a := fun ob => keep_cell (below_new (Below.refl w2.heap.size w2) ob) r5; obtain ⟨cs0, hown0, hsrc, happ⟩ := co_app (P := fun b => P b ∧ b < w.heap.size) HO1.out (fun x hx => (HK1.out x hx).2) (fun x hx => ⟨by have := hx.2; omega, hne.out x (by have := hx.2; omega)⟩) hz e2 hc2 (hr2.weak fun x hx => hx))
          | (refine step_app _ (by rfl) (.tmp 38) (.tmp 42) 54 (by rfl) (w.heap.size + 1 + 1 + 1) 60 _ 7 80 Tryz.underlying54 Tryz.info_co rfl (by decide) o (stepCs d (ks.take k)).length cs0 (by rfl) hown0 (some ⟨w2.heap.size, 0, none⟩) 1 1 _ (by rfl) hsrc (coA_one h2 A2 k2.length c2) (by rw [HLk.out]; unfold maxLen; omega) (by rw [HLk.out]; omega) (by rw [World.size_alloc]; have := hz.size; omega) ?_; intro v5 w5 ho5 hg5 hat5; have hr5 := happ v5 w5 ho5 hg5 hat5; obtain ⟨A5, c5, hv5, _, _⟩ := own_slice ho5; subst hv5; have hs5 := hg5.size; rw [World.size_alloc] at hs5; have hzx := below_new hz (.cells (coA h2 A2 k2.length c2) 60); have e35 := (hzx.block _ (lt_of_block E31.out)).trans E31.out; have e36 := (hg5.block _ (lt_of_block e35) (hne.out _ (Nat.le_refl _))).trans e35; obtain ⟨⟨a0, a1, a2, a3, a4, a5, a6⟩, b0, b1, b2, b3, b4, b5, b6⟩ := co_cells e36)
          | fail)
      all_goals
        have e15 := (hzx.block _ (lt_of_block E11.out)).trans E11.out
        have e25 := (hzx.block _ (lt_of_block E21.out)).trans E21.out
        have E16 := Lib.hid ((hg5.block _ (lt_of_block e15) (hne.out _ (by omega))).trans e15)
        have E26 := Lib.hid ((hg5.block _ (lt_of_block e25) (hne.out _ (by omega))).trans e25)
        have hbx := below_from HB1.out hzx
        have HB6 := Lib.hid (hbx.grown hg5 hbx.size (fun j hj => by have := (own_inE HO1.out hj).1; omega))
        have hsz2 := hz.size
        have hok5 : ∀ x, (okk x ∨ (P x ∧ x < w.heap.size) ∨ (w1.heap.size ≤ x ∧ x < w2.heap.size)) → ((P x ∧ x < w.heap.size) ∨ w.heap.size + 1 + 1 < x) ∧ x < w5.heap.size := fun x hx => by rcases hx with hx | hx | hx; have := HK1.out x hx; exact ⟨this.1, by omega⟩; exact ⟨.inl hx, by omega⟩; exact ⟨.inr (by omega), by omega⟩
        have HO6 := Lib.hid (hr5.grown_bE (set_grown w5 (w.heap.size + 1 + 1) 6 (Value.slice A5 ((stepCs d (ks.take k)).length + 1) c5)) (by omega) (fun x hx => by have := (hok5 x hx).1; rcases this with h | h; omega; omega))
        have E36 := Lib.hid (set_six (u := (Value.slice A5 ((stepCs d (ks.take k)).length + 1) c5)) e36)
        have HK5 : Hid (∀ x, (okk x ∨ (P x ∧ x < w.heap.size) ∨ (w1.heap.size ≤ x ∧ x < w2.heap.size)) → ((P x ∧ x < w.heap.size) ∨ w.heap.size + 1 + 1 < x) ∧ x < (w5.setCell ⟨w.heap.size + 1 + 1, 6, none⟩ (Value.slice A5 ((stepCs d (ks.take k)).length + 1) c5)).heap.size) := fun x hx => by have := hok5 x hx; simpa using this
        clear ho5 hg5 hat5 hown0 hsrc happ e15 e25 e35 e36 hr5 hok5 hbx hzx hs5 r5 r5a x0 x1 x2 x3 x4 x5 x6 a0 a1 a2 a3 a4 a5 a6 b0 b1 b2 b3 b4 b5 b6
        go_wp2_with fail
        go_roundw
        case rel => exact ⟨k + 1, _, _, by omega, by go_num, by rw [HTk.out]; exact HO6, HK5, E36, Lib.hid ((Below.heap_setCell _ _ _ _ (by show w.heap.size ≠ w.heap.size + 1 + 1; omega)).trans E16.out), Lib.hid ((Below.heap_setCell _ _ _ _ (by show w.heap.size + 1 ≠ w.heap.size + 1 + 1; omega)).trans E26.out), Lib.hid (HB6.out.setCell (p := ⟨w.heap.size + 1 + 1, 6, none⟩) (by show w.heap.size ≤ w.heap.size + 1 + 1; omega) _)⟩
        case measure => simp [intOf]; omega
    · have hkk : k = ks.length := by omega
      subst hkk
      have HOw2 : Hid (OwnT CE okk wr (w.heap.size + 1 + 1 + 1) 60 o (stepCs d ks)) := by have := HOw.out; rw [List.take_length] at this; exact this
      obtain ⟨A3, c3, hv3, hc3, hr3⟩ := HOw2.out.row
      subst hv3
      have hP3 : ∀ b, (okk b ∨ (Value.slice A3 (stepCs d ks).length c3).ownBlock = some b) → (P b ∧ b < w.heap.size) ∨ w.heap.size + 1 + 1 < b := fun b hb => by
        rcases hb with hb | hb
        · exact (HK.out b hb).1
        · have := (own_inE HOw2.out hb).1; exact .inr (by omega)
      have HR3 := Lib.hid (hr3.weak (ok' := fun b => (P b ∧ b < w.heap.size) ∨ w.heap.size + 1 + 1 < b) hP3)
      have HC3 := Lib.hid hc3
      obtain ⟨⟨z0, z1, z2, z3, z4, z5, z6⟩, _⟩ := co_cells E3.out
      obtain ⟨⟨y0, y1, y2, y3, y4, y5, y6⟩, f0, f1, f2, f3, f4, f5, f6⟩ := co_cells E2.out
      clear HOw HOw2 hr3 HR hlt hk hc3 HK
      go_wp2_with fail
      refine bodyPost_ret (v := coV ⟨5, h.b, S4.zero⟩ A3 (stepCs d ks).length c3) (by simp [results, Tryz.results46, go_sem, y0, y1, y2, y3, y4, y5, y6]; exact ⟨rfl, rfl, rfl, rfl⟩) rfl ⟨⟨5, h.b, S4.zero⟩, stepCs d ks, A3, c3, rfl, HSQ.out, HC3.out, (row_seven HR3.out fun x hx => by rcases hx with h | h; omega; omega).weak fun x hx => by rcases hx with h | h; exact .inl h.1; exact .inr (by omega), seven_below HB.out (by omega)⟩
theorem step_all (d : UInt8) : ∀ t : Co, okC t = true → t.size ≤ 20000 → potV t + potS t ≤ 1000000000 → StepOkT 46 d t := by
  refine okC_ind ?_ ?_ ?_ ?_ ?_ ?_
  · intro hz hp h ks e; cases e; exact step_1 d rfl
  · intro b hb hz hp h ks e; cases e; exact step_2 d rfl
  · intro b s hb hs hz hp h ks e; cases e; exact step_3 d rfl
  · intro b x y hb hx hy ihx ihy hz hp h ks e
    cases e
    rw [potV_seq, potS_seq] at hp
    simp only [T.size, T.sizes] at hz
    obtain ⟨h1, k1⟩ := x
    obtain ⟨h2, k2⟩ := y
    exact step_4 d rfl rfl (ihx (by omega) (by omega) _ _ rfl) (ihy (by omega) (by omega) _ _ rfl) hx hy (by omega) (by omega) (by omega)
  · intro b ks hb hk ih hz hp h ks' e
    cases e
    rw [potV_alt, potS_alt] at hp
    simp only [T.size] at hz
    have hl := T.length_le_sizes ks
    exact step_5 d rfl (fun t ht => ih t ht (by have := T.sizes_mem ht; omega) (by have := le_potMax ht; have := le_potSs ht; omega)) (by omega)
  · intro b x hb hx ih hz hp h ks e
    cases e
    rw [potV_star, potS_star] at hp
    simp only [T.size, T.sizes] at hz
    obtain ⟨h1, k1⟩ := x
    exact step_6 d rfl rfl (ih (by omega) (by omega) _ _ rfl) hx (by omega)
end Go.Proofs.YtgdigbbfgpenpaaGreatDoor
namespace Go.Proofs.YtgdigbbfgpenpaaGreatDoor
open Go.RowKit
set_option linter.unusedVariables false
set_option linter.unusedSimpArgs false

theorem cell_drewU (W : World) (a : Addr) : W.drew.cell? a = W.cell? a := rfl
end Go.Proofs.YtgdigbbfgpenpaaGreatDoor
