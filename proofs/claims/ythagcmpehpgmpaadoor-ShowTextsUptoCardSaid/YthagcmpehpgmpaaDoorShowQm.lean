/- The document's text of an expression; the empty one, if it may not be. The document's example of layer 5. -/
import Derived.Test.YthagcmpehpgmpaaDoorShow7
import Derived.Test.YthagcmpehpgmpaaDoorShow3
import Derived.Test.YthagcmpehpgmpaaDoorRexE
import Derived.Test.YthagcmpehpgmpaaDoorWord
import Derived.Deep.RegionHeld3
namespace Go.Proofs.YthagcmpehpgmpaaDoor
open Go.RowKit
set_option linter.unusedVariables false
set_option linter.unusedSimpArgs false

set_option maxRecDepth 100000 in
set_option maxHeartbeats 4000000 in
theorem refTextT_any {ok : Nat → Prop} (h : RH) (ks : List Re) (A : Option Addr) (c : Nat) (w : World) (hm : T.sizes ks ≤ 900000) (hc : ks.length ≤ c) (hr : InRow RE ok w ks A 0) :
    Calls Tryd.prog 46 #[reV h A ks.length c] w fun e w' => e = .returned (.string (str (textT (.mk h ks)))) ∧ Below w.heap.size w w' := by
  have HR := Lib.hid hr
  have e0 := new_at1 (w := w) (.cells (reA h A ks.length c) 47)
  have hb0 := below_new (Below.refl w.heap.size w) (.cells (reA h A ks.length c) 47)
  have HM := Lib.hid (refMay_any h ks A c (w.alloc (.cells (reA h A ks.length c) 47)) (by omega) hc (hr.below hb0))
  have E0 := Lib.hid e0
  have HB0 := Lib.hid hb0
  clear e0 hb0 hr
  go_enter Tryd.func46, Tryd.ntmps46
  go_wp2_with fail
  refine HM.out.mono ?_
  rintro e w1 ⟨rfl, hb1⟩
  have E1 := Lib.hid ((hb1.block _ (lt_of_block E0.out)).trans E0.out)
  have HB1 := Lib.hid (below_from HB0.out hb1)
  clear hb1 E0 HB0 HM
  rcases hmb : mayB (.mk h ks) with _ | _
  · have HX := Lib.hid (textT_no hmb)
    clear hmb
    go_wp2_with fail
    go_ret
    exact ⟨by rw [HX.out]; rfl, HB1.out⟩
  · have HX := Lib.hid (textT_yes hmb)
    have ho : okT (.mk h ks) = true := by
      unfold mayB at hmb
      simp only [Bool.and_eq_true] at hmb
      exact hmb.1
    have HP := Lib.hid (of_ok ho _ A c w1 hc (HR.out.below HB1.out) (by omega))
    obtain ⟨x0, x1, x2, x3, x4, x5⟩ := cells6_of E1.out
    clear hmb ho E1 HR
    go_wp2_with fail
    refine HP.out.mono ?_
    rintro e w2 ⟨rfl, hb2⟩
    have hb3 := below_from HB1.out hb2
    clear hb2
    go_wp2_with fail
    go_ret
    exact ⟨by rw [HX.out]; rfl, hb3⟩
end Go.Proofs.YthagcmpehpgmpaaDoor
namespace Go.Proofs.YthagcmpehpgmpaaDoor
open Go.RowKit
set_option linter.unusedVariables false
set_option linter.unusedSimpArgs false

def exT (ha hb hc : RH) : Re := foldT 4 2 [.mk ha [], foldT 5 1 [.mk hb [], .mk hc []], .mk ⟨6, S4.zero⟩ [.mk ha []]]
theorem ex_text : textT (exT (ofH (setOf [97])) (ofH (setOf [98])) (ofH (setOf [99]))) = [97, 40, 98, 124, 99, 41, 97, 42] := by decide +kernel
theorem ex_size (ha hb hc : RH) : (exT ha hb hc).size = 8 := rfl

/-- what a call makes -/
def Made3 (t : Re) (w : World) (e : Ending) (w' : World) : Prop := ∃ h ks A c, e = .returned (reV h A ks.length c) ∧ t = .mk h ks ∧ ks.length ≤ c ∧ InRow RE (fun _ => True) w' ks A 0 ∧ Below w.heap.size w w'
theorem RePost.made3 {ok : Nat → Prop} {t : Re} {w : World} {e : Ending} {w' : World} (h : RePost ok t w e w') : Made3 t w e w' := by
  obtain ⟨v, rfl, ⟨h, ks, A, c, ht, hc, rfl, hr⟩, hb1⟩ := h
  exact ⟨h, ks, A, c, rfl, ht, hc, hr.weak fun b hb' => trivial, hb1⟩
theorem row_three {P : Nat → Prop} {Y : World} {N : Nat} {t : TypeId} {h h2 h3 : RH} {ks ks2 ks3 : List Re} {A A2 A3 : Option Addr} {c c2 c3 : Nat} {x : Array Value} (hN : Y.heap[N]? = some (.cells x t (0, 0))) (hx : x = reA h A ks.length c ++ reA h2 A2 ks2.length c2 ++ reA h3 A3 ks3.length c3) (hP : P N)
    (hc : ks.length ≤ c) (hr : InRow RE P Y ks A 0) (hc2 : ks2.length ≤ c2) (hr2 : InRow RE P Y ks2 A2 0) (hc3 : ks3.length ≤ c3) (hr3 : InRow RE P Y ks3 A3 0) : InRow RE P Y [.mk h ks, .mk h2 ks2, .mk h3 ks3] (some ⟨N, 0, none⟩) 0 := by
  simp only [InRow, InT]
  have six : ∀ (g : RH) (B : Option Addr) (n d j : Nat) (u : Value), (RH.cells g ++ [Value.slice B n d])[j]? = some u → j < 6 ∧ (reA g B n d)[j]? = some u := by
    intro g B n d j u hu
    refine ⟨?_, by rw [← hu]; simp [RH.cells]⟩
    rcases Nat.lt_or_ge j 6 with h | h
    · exact h
    · rw [List.getElem?_eq_none (by simpa [RH.cells] using h)] at hu; cases hu
  refine ⟨⟨_, RH.cells h ++ [.slice A ks.length c], rfl, hP, fun j u hu => ?_, A, c, rfl, hc, hr⟩, ⟨_, RH.cells h2 ++ [.slice A2 ks2.length c2], rfl, hP, fun j u hu => ?_, A2, c2, rfl, hc2, hr2⟩, ⟨_, RH.cells h3 ++ [.slice A3 ks3.length c3], rfl, hP, fun j u hu => ?_, A3, c3, rfl, hc3, hr3⟩, trivial⟩
  · obtain ⟨hj, hv⟩ := six _ _ _ _ _ _ hu
    rw [cell_heap hN, hx, Array.getElem?_append, if_pos (by simp [RE]; omega), Array.getElem?_append, if_pos (by simp [RE]; omega)]
    simpa [RE] using hv
  · obtain ⟨hj, hv⟩ := six _ _ _ _ _ _ hu
    rw [cell_heap hN, hx, Array.getElem?_append, if_pos (by simp [RE]; omega), Array.getElem?_append, if_neg (by simp [RE])]
    simpa [RE] using hv
  · obtain ⟨hj, hv⟩ := six _ _ _ _ _ _ hu
    rw [cell_heap hN, hx, Array.getElem?_append, if_neg (by simp [RE])]
    simpa [RE] using hv

set_option maxRecDepth 100000 in
set_option maxHeartbeats 40000000 in
theorem awake5_any (w : World) (ht : TzOk w) : Calls Tryd.prog 38 #[] w fun e w' => e = .returned (.bool true) ∧ Below w.heap.size w w' := by
  have HT := Lib.hid ht
  have HX := Lib.hid ex_text
  have S1 : Hid (∀ X, Calls Tryd.prog 22 #[.slice (some ⟨X.heap.size, 0, none⟩) 1 1] (X.alloc (.cells #[.int .u8 97] 5)) fun e w' => e = .returned (setV (setOf [97])) ∧ Below X.heap.size X w') := fun X => (setOf_any [97] _ 1 _ (by decide) (Nat.le_refl _) (new_row encB X [97] _ _ rfl)).mono fun e w' h => ⟨h.1, below_from (below_new (Below.refl _ _) _) h.2⟩
  have S2 : Hid (∀ X, Calls Tryd.prog 22 #[.slice (some ⟨X.heap.size, 0, none⟩) 1 1] (X.alloc (.cells #[.int .u8 98] 5)) fun e w' => e = .returned (setV (setOf [98])) ∧ Below X.heap.size X w') := fun X => (setOf_any [98] _ 1 _ (by decide) (Nat.le_refl _) (new_row encB X [98] _ _ rfl)).mono fun e w' h => ⟨h.1, below_from (below_new (Below.refl _ _) _) h.2⟩
  have S3 : Hid (∀ X, Calls Tryd.prog 22 #[.slice (some ⟨X.heap.size, 0, none⟩) 1 1] (X.alloc (.cells #[.int .u8 99] 5)) fun e w' => e = .returned (setV (setOf [99])) ∧ Below X.heap.size X w') := fun X => (setOf_any [99] _ 1 _ (by decide) (Nat.le_refl _) (new_row encB X [99] _ _ rfl)).mono fun e w' h => ⟨h.1, below_from (below_new (Below.refl _ _) _) h.2⟩
  have R1 := Lib.hid (rexOf_any (setOf [97]))
  have R2 := Lib.hid (rexOf_any (setOf [98]))
  have R3 := Lib.hid (rexOf_any (setOf [99]))
  generalize setOf [97] = s1 at *
  generalize setOf [98] = s2 at *
  generalize setOf [99] = s3 at *
  generalize ofH s1 = h1 at *
  generalize ofH s2 = h2 at *
  generalize ofH s3 = h3 at *
  clear ht
  go_enter Tryd.func38, Tryd.ntmps38
  go_wp2_with fail
  refine (S1.out _).mono ?_
  rintro e w1 ⟨rfl, hb1⟩
  go_wp2_with fail
  refine (R1.out _).mono ?_
  rintro e w2 ⟨rfl, hb2⟩
  have HB2 := Lib.hid (below_from hb1 hb2)
  clear hb1 hb2
  go_wp2_with fail
  refine (S2.out _).mono ?_
  rintro e w3 ⟨rfl, hb1⟩
  go_wp2_with fail
  refine (R2.out _).mono ?_
  rintro e w4 ⟨rfl, hb2⟩
  have HB4 := Lib.hid (below_from HB2.out (below_from hb1 hb2))
  clear hb1 hb2 HB2
  go_wp2_with fail
  refine (S3.out _).mono ?_
  rintro e w5 ⟨rfl, hb1⟩
  go_wp2_with fail
  refine (R3.out _).mono ?_
  rintro e w6 ⟨rfl, hb2⟩
  have HB6 := Lib.hid (below_from HB4.out (below_from hb1 hb2))
  clear hb1 hb2 HB4 S1 S2 S3 R1 R2 R3
  go_wp2_with fail
  obtain ⟨W, hW⟩ : ∃ W, ((w6.alloc (.cells (reA h1 none 0 0) 47)).alloc (.cells (reA h2 none 0 0) 47)).alloc (.cells (reA h3 none 0 0) 47) = W := ⟨_, rfl⟩
  have hbW : Below w6.heap.size w6 W := by rw [← hW]; exact below_new (below_new (below_new (Below.refl _ _) _) _) _
  obtain ⟨N, hN⟩ : ∃ N, w6.heap.size = N := ⟨_, rfl⟩
  have n1 : W.heap[N]? = some (.cells (reA h1 none 0 0) 47 (0, 0)) := by
    rw [← hW, ← hN]
    exact heap_keep1 (heap_keep1 (new_at1 (w := w6) _) _) _
  have n2 : W.heap[N + 1]? = some (.cells (reA h2 none 0 0) 47 (0, 0)) := by
    rw [← hW, ← hN]
    have := heap_keep1 (new_at1 (w := w6.alloc (.cells (reA h1 none 0 0) 47)) (.cells (reA h2 none 0 0) 47)) (.cells (reA h3 none 0 0) 47)
    rw [World.size_alloc] at this
    exact this
  have n3 : W.heap[N + 1 + 1]? = some (.cells (reA h3 none 0 0) 47 (0, 0)) := by
    rw [← hW, ← hN]
    have := new_at1 (w := (w6.alloc (.cells (reA h1 none 0 0) 47)).alloc (.cells (reA h2 none 0 0) 47)) (.cells (reA h3 none 0 0) 47)
    rw [World.size_alloc, World.size_alloc] at this
    exact this
  have HQ : Hid (∀ X, Below W.heap.size W X → X.cell? ⟨N, 0, none⟩ = some (.int .u8 (h1.k.toNat : Int)) ∧ X.cell? ⟨N, 1, none⟩ = some (.int .u64 (h1.s.a.toNat : Int)) ∧ X.cell? ⟨N, 2, none⟩ = some (.int .u64 (h1.s.b.toNat : Int)) ∧ X.cell? ⟨N, 3, none⟩ = some (.int .u64 (h1.s.c.toNat : Int)) ∧ X.cell? ⟨N, 4, none⟩ = some (.int .u64 (h1.s.d.toNat : Int)) ∧ X.cell? ⟨N, 5, none⟩ = some (.slice none 0 0) ∧ X.cell? ⟨N + 1, 0, none⟩ = some (.int .u8 (h2.k.toNat : Int)) ∧ X.cell? ⟨N + 1, 1, none⟩ = some (.int .u64 (h2.s.a.toNat : Int)) ∧ X.cell? ⟨N + 1, 2, none⟩ = some (.int .u64 (h2.s.b.toNat : Int)) ∧ X.cell? ⟨N + 1, 3, none⟩ = some (.int .u64 (h2.s.c.toNat : Int)) ∧ X.cell? ⟨N + 1, 4, none⟩ = some (.int .u64 (h2.s.d.toNat : Int)) ∧ X.cell? ⟨N + 1, 5, none⟩ = some (.slice none 0 0) ∧ X.cell? ⟨N + 1 + 1, 0, none⟩ = some (.int .u8 (h3.k.toNat : Int)) ∧ X.cell? ⟨N + 1 + 1, 1, none⟩ = some (.int .u64 (h3.s.a.toNat : Int)) ∧ X.cell? ⟨N + 1 + 1, 2, none⟩ = some (.int .u64 (h3.s.b.toNat : Int)) ∧ X.cell? ⟨N + 1 + 1, 3, none⟩ = some (.int .u64 (h3.s.c.toNat : Int)) ∧ X.cell? ⟨N + 1 + 1, 4, none⟩ = some (.int .u64 (h3.s.d.toNat : Int)) ∧ X.cell? ⟨N + 1 + 1, 5, none⟩ = some (.slice none 0 0)) := by
    intro X hX
    obtain ⟨a0, a1, a2, a3, a4, a5⟩ := cells6_of ((hX.block _ (lt_of_block n1)).trans n1)
    obtain ⟨b0, b1, b2, b3, b4, b5⟩ := cells6_of ((hX.block _ (lt_of_block n2)).trans n2)
    obtain ⟨d0, d1, d2, d3, d4, d5⟩ := cells6_of ((hX.block _ (lt_of_block n3)).trans n3)
    exact ⟨a0, a1, a2, a3, a4, a5, b0, b1, b2, b3, b4, b5, d0, d1, d2, d3, d4, d5⟩
  have CO : Hid (∀ b X, X.heap[b]? = some (.cells (reA h2 none 0 0 ++ reA h3 none 0 0) 47 (0, 0)) → Calls Tryd.prog 71 #[.slice (some ⟨b, 0, none⟩) 2 2] X (Made3 (foldT 5 1 [.mk h2 [], .mk h3 []]) X)) := fun b X hb =>
    (or_any [.mk h2 [], .mk h3 []] (some ⟨b, 0, none⟩) 2 X (by simp) (Nat.le_refl _) (row_two (P := fun _ => True) hb rfl trivial (Nat.le_refl _) (by simp [InRow]) (Nat.le_refl _) (by simp [InRow]))).mono fun _ _ h => h.made3
  have CM : Hid (∀ X, Calls Tryd.prog 44 #[reV h1 none 0 0] X (Made3 (.mk ⟨6, S4.zero⟩ [.mk h1 []]) X)) := fun X =>
    (rexMany_any (ok := fun _ => True) h1 [] none 0 X (Nat.le_refl _) (by simp [InRow])).mono fun _ _ h => h.made3
  have CT : Hid (∀ b X (ho hm : RH) (ko km : List Re) (Ao Am : Option Addr) (co cm : Nat), ko.length ≤ co → km.length ≤ cm → foldT 5 1 [.mk h2 [], .mk h3 []] = .mk ho ko → T.mk (α := RH) ⟨6, S4.zero⟩ [.mk h1 []] = .mk hm km → InRow RE (fun _ => True) X ko Ao 0 → InRow RE (fun _ => True) X km Am 0 →
      X.heap[b]? = some (.cells (reA h1 none 0 0 ++ reA ho Ao ko.length co ++ reA hm Am km.length cm) 47 (0, 0)) → Calls Tryd.prog 70 #[.slice (some ⟨b, 0, none⟩) 3 3] X (Made3 (exT h1 h2 h3) X)) := by
    intro b X ho hm ko km Ao Am co cm hco hcm eo em hro hrm hb
    have := then_any [.mk h1 [], .mk ho ko, .mk hm km] (some ⟨b, 0, none⟩) 3 X (by simp) (Nat.le_refl _) (row_three (P := fun _ => True) (ks := []) hb rfl trivial (Nat.le_refl _) (by simp [InRow]) hco hro hcm hrm)
    rw [← eo, ← em] at this
    exact this.mono fun _ _ h => h.made3
  have CX : Hid (∀ (h : RH) (ks : List Re) (A : Option Addr) (c : Nat) X, exT h1 h2 h3 = .mk h ks → ks.length ≤ c → InRow RE (fun _ => True) X ks A 0 → TzOk X → Calls Tryd.prog 39 #[reV h A ks.length c] X fun e w' => e = .returned (.string ⟨#[97, 40, 98, 124, 99, 41, 97, 42]⟩) ∧ Below X.heap.size X w') := by
    intro h ks A c X e hc hr ht
    have hz : 1 + T.sizes ks = 8 := by
      have := ex_size h1 h2 h3
      rw [e] at this
      exact this
    have := showText_any h ks A c X (by omega) hc hr ht
    rw [← e, HX.out] at this
    exact this
  have HB := Lib.hid (below_from HB6.out hbW)
  rw [hW, hN]
  have hz := Below.refl W.heap.size W
  clear n1 n2 n3 hbW HB6 HX
  obtain ⟨p0, p1, p2, p3, p4, p5, q0, q1, q2, q3, q4, q5, s0, s1, s2, s3, s4, s5⟩ := HQ.out _ hz
  go_region_held3 (fun X => X.cell? ⟨N, 0, none⟩ = some (.int .u8 (h1.k.toNat : Int)) ∧ X.cell? ⟨N, 1, none⟩ = some (.int .u64 (h1.s.a.toNat : Int)) ∧ X.cell? ⟨N, 2, none⟩ = some (.int .u64 (h1.s.b.toNat : Int)) ∧ X.cell? ⟨N, 3, none⟩ = some (.int .u64 (h1.s.c.toNat : Int)) ∧ X.cell? ⟨N, 4, none⟩ = some (.int .u64 (h1.s.d.toNat : Int)) ∧ X.cell? ⟨N, 5, none⟩ = some (.slice none 0 0) ∧ X.cell? ⟨N + 1, 0, none⟩ = some (.int .u8 (h2.k.toNat : Int)) ∧ X.cell? ⟨N + 1, 1, none⟩ = some (.int .u64 (h2.s.a.toNat : Int)) ∧ X.cell? ⟨N + 1, 2, none⟩ = some (.int .u64 (h2.s.b.toNat : Int)) ∧ X.cell? ⟨N + 1, 3, none⟩ = some (.int .u64 (h2.s.c.toNat : Int)) ∧ X.cell? ⟨N + 1, 4, none⟩ = some (.int .u64 (h2.s.d.toNat : Int)) ∧ X.cell? ⟨N + 1, 5, none⟩ = some (.slice none 0 0) ∧ X.cell? ⟨N + 1 + 1, 0, none⟩ = some (.int .u8 (h3.k.toNat : Int)) ∧ X.cell? ⟨N + 1 + 1, 1, none⟩ = some (.int .u64 (h3.s.a.toNat : Int)) ∧ X.cell? ⟨N + 1 + 1, 2, none⟩ = some (.int .u64 (h3.s.b.toNat : Int)) ∧ X.cell? ⟨N + 1 + 1, 3, none⟩ = some (.int .u64 (h3.s.c.toNat : Int)) ∧ X.cell? ⟨N + 1 + 1, 4, none⟩ = some (.int .u64 (h3.s.d.toNat : Int)) ∧ X.cell? ⟨N + 1 + 1, 5, none⟩ = some (.slice none 0 0))
    (first | exact HQ.out _ hz | exact HQ.out _ hz.drew | exact HQ.out _ (below_new hz _) | exact HQ.out _ (below_new hz _).drew | exact HQ.out _ (below_new hz.drew _) | exact HQ.out _ (below_new (below_new hz _) _) | fail)
    (first
      | (go_at_call 71; refine (CO.out _ _ (by first | exact new_at _ (by simp) | exact (hbm.block _ (by simp)).trans (new_at _ (by simp)))).mono ?_; rintro e wo ⟨ho, ko, Ao, co, rfl, eo, hco, hro, hbo⟩; have EO := Lib.hid eo; clear eo; have hz := below_from (by first | exact hz | exact hz.drew | exact below_new hz _ | exact below_new hz.drew _) hbo; obtain ⟨p0, p1, p2, p3, p4, p5, q0, q1, q2, q3, q4, q5, s0, s1, s2, s3, s4, s5⟩ := HQ.out _ hz)
      | (go_at_call 44; refine (CM.out _).mono ?_; rintro e wm ⟨hm, km, Am, cm, rfl, em, hcm, hrm, hbm⟩; have EM := Lib.hid em; clear em; have hz := below_from (by first | exact hz | exact hz.drew | exact below_new hz _ | exact below_new hz.drew _) hbm; obtain ⟨p0, p1, p2, p3, p4, p5, q0, q1, q2, q3, q4, q5, s0, s1, s2, s3, s4, s5⟩ := HQ.out _ hz)
      | (go_at_call 70; refine (CT.out _ _ ho hm ko km Ao Am co cm hco hcm EO.out EM.out (by first | exact hro.below (below_new (Below.refl _ _) _) | exact (hro.below hbm).below (below_new (Below.refl _ _) _)) (by first | exact hrm.below (below_new (Below.refl _ _) _) | exact (hrm.below hbo).below (below_new (Below.refl _ _) _) | exact (hrm.below (below_from (below_new (Below.refl _ _) _) hbo)).below (below_new (Below.refl _ _) _)) (new_at _ (by simp))).mono ?_; rintro e wt ⟨ht, kt, At, ct, rfl, et, hct, hrt, hbt⟩; have ET := Lib.hid et; clear et; have hz := below_from (below_new hz _) hbt; obtain ⟨p0, p1, p2, p3, p4, p5, q0, q1, q2, q3, q4, q5, s0, s1, s2, s3, s4, s5⟩ := HQ.out _ hz)
      | (go_at_call 39; refine (CX.out ht kt At ct _ ET.out hct hrt (HT.out.below (below_from HB.out hz))).mono ?_; rintro e wx ⟨rfl, hbx⟩; have hz := below_from hz hbx; obtain ⟨p0, p1, p2, p3, p4, p5, q0, q1, q2, q3, q4, q5, s0, s1, s2, s3, s4, s5⟩ := HQ.out _ hz)
      | fail)
  all_goals (go_wp2_with fail; go_ret; exact ⟨rfl, below_from HB.out hz⟩)
end Go.Proofs.YthagcmpehpgmpaaDoor
