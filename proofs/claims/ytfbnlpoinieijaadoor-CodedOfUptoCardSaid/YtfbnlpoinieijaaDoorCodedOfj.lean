/- Any expression, coded, is the document's; what it stands for is the expression. For every input that is not too large. -/
import Derived.Test.YtfbnlpoinieijaaDoorBj
import Derived.Test.YtfbnlpoinieijaaDoorBi
import Derived.Test.YtfbnlpoinieijaaDoorBf
import Derived.Test.YtfbnlpoinieijaaDoorBg
import Derived.Deep.RegionHeld3
namespace Go.Proofs.YtfbnlpoinieijaaDoor
open Go.RowKit
set_option linter.unusedVariables false
set_option linter.unusedSimpArgs false

theorem of_pot {t : Re} (h : okT t = true) : ∀ x ∈ (ofC t).all, x.head.b.length ≤ 1 := of_few t h
theorem of_potV {t : Re} (h : okT t = true) : potV (ofC t) ≤ t.size * 2 := by
  have := (potV_le (m := 1) (ofC t) (of_ok t h) (of_few t h)).1
  rwa [of_size t h] at this
set_option maxRecDepth 100000 in
set_option maxHeartbeats 40000000 in
theorem codedOf_walk (h : RH) (ks : List Re) (A : Option Addr) (c : Nat) (w : World) (hm : T.sizes ks ≤ 1048576) (hc : ks.length ≤ c) (hr : InRow RE (fun _ => True) w ks A 0) (ht : TzOk w) :
    Calls Tryd.prog 18 #[reV h A ks.length c] w fun e w' => e = .returned (.bool true) ∧ Below w.heap.size w w' := by
  obtain ⟨W, hW⟩ : ∃ W, w.alloc (.cells (reA h A ks.length c) 39) = W := ⟨_, rfl⟩
  have hbW : Below w.heap.size w W := by rw [← hW]; exact below_new (Below.refl _ _) _
  have e1 : W.heap[w.heap.size]? = some (.cells (reA h A ks.length c) 39 (0, 0)) := by rw [← hW]; exact new_at1 _
  have CG : Hid (∀ X, Below W.heap.size W X → Calls Tryd.prog 27 #[reV h A ks.length c, .int .i64 200] X fun e w' => e = .returned (.bool (greatB 200 (.mk h ks))) ∧ Below X.heap.size X w') := fun X hX => Great_any h ks A c 200 X (by omega) hc (hr.below (below_from hbW hX))
  have CA : Hid (∀ X, Below W.heap.size W X → Calls Tryd.prog 60 #[] X fun e w' => e = .returned (.bool true) ∧ Below X.heap.size X w') := fun X hX => awake16_any X (ht.below (below_from hbW hX))
  have CM : Hid (∀ X, Below W.heap.size W X → Calls Tryd.prog 53 #[reV h A ks.length c] X fun e w' => e = .returned (.bool (mayB (.mk h ks))) ∧ Below X.heap.size X w') := fun X hX => refMay_any h ks A c X (by omega) hc (hr.below (below_from hbW hX))
  have Q1 : Hid (∀ X, Below W.heap.size W X → X.cell? ⟨w.heap.size, 0, none⟩ = some (.int .u8 (h.k.toNat : Int)) ∧ X.cell? ⟨w.heap.size, 1, none⟩ = some (.int .u64 (h.s.a.toNat : Int)) ∧ X.cell? ⟨w.heap.size, 2, none⟩ = some (.int .u64 (h.s.b.toNat : Int)) ∧ X.cell? ⟨w.heap.size, 3, none⟩ = some (.int .u64 (h.s.c.toNat : Int)) ∧ X.cell? ⟨w.heap.size, 4, none⟩ = some (.int .u64 (h.s.d.toNat : Int)) ∧ X.cell? ⟨w.heap.size, 5, none⟩ = some (.slice A ks.length c)) := by
    intro X hX
    obtain ⟨x0, x1, x2, x3, x4, x5⟩ := re_at_box ((hX.block _ (lt_of_block e1)).trans e1)
    exact ⟨x0, x1, x2, x3, x4, x5⟩
  have HR := Lib.hid hr
  have HW := Lib.hid hbW
  have HE := Lib.hid hW
  have HGS : Hid (greatB 200 (.mk h ks) = false → 1 + T.sizes ks ≤ 200) := fun hg => by
    have := of_decide_eq_false hg
    simp only [T.size] at this
    omega
  clear hW hr ht hbW e1
  rcases hg : greatB 200 (.mk h ks) with _ | _
  · have hsz := HGS.out hg
    rw [hg] at CG
    have COf : Hid (∀ X, Below W.heap.size W X → Calls Tryd.prog 52 #[reV h A ks.length c] X fun e w' => Below X.heap.size X w' ∧ ((mayB (.mk h ks) = false ∧ e = .returned (.tuple #[coV ⟨0, [], S4.zero⟩ none 0 0, .bool false])) ∨
      (mayB (.mk h ks) = true ∧ ∃ h2 k2 A2 c2, e = .returned (.tuple #[coV h2 A2 k2.length c2, .bool true]) ∧ ofC (.mk h ks) = .mk h2 k2 ∧ k2.length ≤ c2 ∧ InRow CE (fun x => X.heap.size ≤ x) w' k2 A2 0))) := fun X hX => cOf_any h ks A c X (by omega) hc (HR.out.below (below_from HW.out hX))
    clear HGS hg
    go_enter Tryd.func18, Tryd.ntmps18
    go_wp2_with fail
    rw [HE.out]
    refine (CG.out _ (Below.refl _ _)).mono ?_
    rintro e w0 ⟨rfl, hb0⟩
    have HB0 := Lib.hid hb0
    obtain ⟨x0, x1, x2, x3, x4, x5⟩ := Q1.out _ hb0
    clear hb0 CG
    go_wp2_with fail
    refine (COf.out _ HB0.out).mono ?_
    rintro e w1 ⟨hb1, (⟨hmf, rfl⟩ | ⟨hmt, h2, k2, A2, c2, rfl, e2, hc2, hr2⟩)⟩
    · have HB1 := Lib.hid (below_from HB0.out hb1)
      clear hb1 COf x0 x1 x2 x3 x4 x5
      have CSm := Lib.hid (fun X => refSameC_upto 10 (fun _ => True) ⟨0, [], S4.zero⟩ ⟨0, [], S4.zero⟩ [] [] none none 0 0 X (by decide) (by decide) (by decide) (by simp [InRow]) (by simp [InRow]))
      rw [show sameC (T.mk ⟨0, [], S4.zero⟩ []) (T.mk ⟨0, [], S4.zero⟩ []) = true from sameC_refl _] at CSm
      rw [hmf] at CM
      obtain ⟨U, hU⟩ : ∃ U, w1.alloc (.cells #[.int .u8 0, .string (str []), .int .u64 (S4.zero.a.toNat : Int), .int .u64 (S4.zero.b.toNat : Int), .int .u64 (S4.zero.c.toNat : Int), .int .u64 (S4.zero.d.toNat : Int), .slice none 0 0] 27) = U := ⟨_, rfl⟩
      have hbU : Below w1.heap.size w1 U := by rw [← hU]; exact below_new (Below.refl _ _) _
      have HBU := Lib.hid (below_from HB1.out hbU)
      have n1 : U.heap[w1.heap.size]? = some (.cells #[.int .u8 0, .string (str []), .int .u64 (S4.zero.a.toNat : Int), .int .u64 (S4.zero.b.toNat : Int), .int .u64 (S4.zero.c.toNat : Int), .int .u64 (S4.zero.d.toNat : Int), .slice none 0 0] 27 (0, 0)) := by rw [← hU]; exact new_at1 _
      have N1 := Lib.hid n1
      have HU := Lib.hid hU
      obtain ⟨x0, x1, x2, x3, x4, x5⟩ := Q1.out _ HBU.out
      rw [← HU.out] at x0 x1 x2 x3 x4 x5
      clear hU hbU n1 hmf
      go_wp2_with fail
      rw [show w1.alloc (.cells #[.int .u8 0, .string (str []), .int .u64 (S4.zero.a.toNat : Int), .int .u64 (S4.zero.b.toNat : Int), .int .u64 (S4.zero.c.toNat : Int), .int .u64 (S4.zero.d.toNat : Int), .slice none 0 0] 27) = U from HU.out]
      refine (CM.out _ HBU.out).mono ?_
      rintro e w2 ⟨rfl, hb2⟩
      have HB2 := Lib.hid (below_from HBU.out hb2)
      obtain ⟨y0, y1, y2, y3, y4, y5, y6⟩ := co_at_box ((hb2.block _ (lt_of_block N1.out)).trans N1.out)
      clear hb2 x0 x1 x2 x3 x4 x5
      go_wp2_with fail
      refine (CSm.out _).mono ?_
      rintro e w3 ⟨rfl, hb3⟩
      have HB3 := Lib.hid (below_from HB2.out hb3)
      clear hb3
      go_wp2_with fail
      refine (CA.out _ HB3.out).mono ?_
      rintro e w4 ⟨rfl, hb4⟩
      have hb := below_from HW.out (below_from HB3.out hb4)
      clear hb4
      go_wp2_with fail
      go_ret
      exact ⟨rfl, hb⟩
    · have HB1 := Lib.hid (below_from HB0.out hb1)
      have hok := may_okT hmt
      have hofs := of_size _ hok
      have hofo := of_ok _ hok
      have hofsh := of_short hok
      have hofp := of_potV hok
      have hofb := bare_of _ hok
      have hofm := of_may hmt
      have hnull := null_ends _ hofo
      have hsame := sameC_refl (ofC (.mk h ks))
      have hs1 : 1 + T.sizes k2 ≤ 200 := by rw [e2] at hofs; simp only [T.size] at hofs; omega
      simp only [T.size] at hofp
      rw [hofb] at hnull
      rw [e2] at hofsh hofb hofm hofp hnull hofo
      have CNu := Lib.hid (null_all_ok _ hok h ks rfl)
      have COr := Lib.hid (fun X (hX : Below W.heap.size W X) => refOfC_upto (1 + T.sizes ks) _ h ks A c X (Nat.le_refl _) hok hc (HR.out.below (below_from HW.out hX)))
      clear hb1 COf x0 x1 x2 x3 x4 x5
      rw [hmt] at CM
      obtain ⟨U, hU⟩ : ∃ U, w1.alloc (.cells (coA h2 A2 k2.length c2) 27) = U := ⟨_, rfl⟩
      have hbU : Below w1.heap.size w1 U := by rw [← hU]; exact below_new (Below.refl _ _) _
      have HBU := Lib.hid (below_from HB1.out hbU)
      have n1 : U.heap[w1.heap.size]? = some (.cells (coA h2 A2 k2.length c2) 27 (0, 0)) := by rw [← hU]; exact new_at1 _
      have N1 := Lib.hid n1
      have HU := Lib.hid hU
      have HRU := Lib.hid (hr2.below hbU)
      obtain ⟨x0, x1, x2, x3, x4, x5⟩ := Q1.out _ HBU.out
      rw [← HU.out] at x0 x1 x2 x3 x4 x5
      have HMT := Lib.hid hmt
      have HEC := Lib.hid e2
      have CBa : Hid (∀ X, Below U.heap.size U X → Calls Tryd.prog 54 #[coV h2 A2 k2.length c2] X fun e w' => Below X.heap.size X w' ∧ ∃ h3 k3 A3 c3, e = .returned (.tuple #[reV h3 A3 k3.length c3, .bool true]) ∧ T.mk h ks = .mk h3 k3 ∧ k3.length ≤ c3 ∧ InRow RE (fun x => X.heap.size ≤ x) w' k3 A3 0) := fun X hX => by
        refine (cBare_any h2 k2 A2 c2 X (by omega) hc2 (HRU.out.below hX) hofsh).mono ?_
        rintro e w' ⟨hb, (⟨hf, _⟩ | ⟨_, h3, k3, A3, c3, he, e3, hc3, hr3⟩)⟩
        · rw [hofm, hofb, HMT.out] at hf; cases hf
        · exact ⟨hb, h3, k3, A3, c3, he, by rw [← hofb, e3], hc3, hr3⟩
      have CNl : Hid (∀ X, Below U.heap.size U X → Calls Tryd.prog 72 #[coV h2 A2 k2.length c2] X fun e w' => e = .returned (.bool (nullT (.mk h ks))) ∧ Below X.heap.size X w') := fun X hX => by
        have := cNull_any h2 k2 A2 c2 X (by omega) hc2 (HRU.out.below hX) hofsh (by omega)
        rw [show (endsM (.mk h2 k2)).isSome = nullT (.mk h ks) by unfold endsM; rw [hofm, hnull]; rfl] at this
        exact this
      have CSc : Hid (∀ (hx : CH) (kx : List Co) (Ax : Option Addr) (cx : Nat) (X : World), Below U.heap.size U X → ofC (.mk h ks) = .mk hx kx → InRow CE (fun _ => True) X kx Ax 0 → Calls Tryd.prog 40 #[coV h2 A2 k2.length c2, coV hx Ax kx.length cx] X fun e w' => e = .returned (.bool true) ∧ Below X.heap.size X w') := by
        intro hx kx Ax cx X hX ex hrx
        have e3 : T.mk h2 k2 = T.mk hx kx := by rw [← HEC.out, ex]
        have hsz : T.sizes kx = T.sizes k2 := by have := congrArg T.size e3; simp only [T.size] at this; omega
        have := refSameC_upto (1 + T.sizes k2) (fun _ => True) h2 hx k2 kx A2 Ax c2 cx X (Nat.le_refl _) (by omega) (by omega) ((HRU.out.below hX).weak fun _ _ => trivial) hrx
        rw [e3, sameC_refl] at this
        exact this
      have CSr : Hid (∀ (h3 : RH) (k3 : List Re) (A3 : Option Addr) (c3 : Nat) (X : World), Below W.heap.size W X → T.mk h ks = .mk h3 k3 → InRow RE (fun _ => True) X k3 A3 0 → Calls Tryd.prog 69 #[reV h3 A3 k3.length c3, reV h A ks.length c] X fun e w' => e = .returned (.bool true) ∧ Below X.heap.size X w') := by
        intro h3 k3 A3 c3 X hX ex hrx
        have hsz : T.sizes k3 = T.sizes ks := by have := congrArg T.size ex; simp only [T.size] at this; omega
        have := refSame_upto (1 + T.sizes k3) (fun _ => True) h3 h k3 ks A3 A c3 c X (Nat.le_refl _) (by omega) (by omega) hrx (HR.out.below (below_from HW.out hX))
        rw [← ex, sameT_refl] at this
        exact this
      have CN7 : Hid (∀ X, Below W.heap.size W X → Calls Tryd.prog 73 #[reV h A ks.length c] X fun e w' => e = .returned (.bool (nullT (.mk h ks))) ∧ Below X.heap.size X w') := fun X hX => CNu.out _ A c X hc (HR.out.below (below_from HW.out hX))
      clear hU hbU hmt e2 hok hofs hofo hofsh hofp hofb hofm hnull hsame hs1 hr2 CNu
      generalize nullT (.mk h ks) = nl at *
      go_wp2_with fail
      rw [HU.out]
      refine (CM.out _ HBU.out).mono ?_
      rintro e w2 ⟨rfl, hb2⟩
      have HV2 := Lib.hid hb2
      obtain ⟨y0, y1, y2, y3, y4, y5, y6⟩ := co_at_box ((hb2.block _ (lt_of_block N1.out)).trans N1.out)
      clear hb2 x0 x1 x2 x3 x4 x5
      go_wp2_with fail
      refine (CBa.out _ HV2.out).mono ?_
      rintro e w3 ⟨hb3, h3, k3, A3, c3, rfl, e3, hc3, hr3⟩
      have n3 := (below_from HV2.out hb3).block _ (lt_of_block N1.out) |>.trans N1.out
      obtain ⟨V, hV⟩ : ∃ V, w3.alloc (.cells (reA h3 A3 k3.length c3) 39) = V := ⟨_, rfl⟩
      have hbV : Below w3.heap.size w3 V := by rw [← hV]; exact below_new (Below.refl _ _) _
      have v3 : V.heap[w3.heap.size]? = some (.cells (reA h3 A3 k3.length c3) 39 (0, 0)) := by rw [← hV]; exact new_at1 _
      have HUV : Hid (Below U.heap.size U V) := below_from (below_from HV2.out hb3) hbV
      have v1 := (HUV.out.block _ (lt_of_block N1.out)).trans N1.out
      have HWV : Hid (Below W.heap.size W V) := below_from HBU.out HUV.out
      have HRV := Lib.hid (hr3.below hbV)
      have E3 := Lib.hid e3
      have HVV := Lib.hid hV
      have Q : Hid (∀ X, Below V.heap.size V X → X.cell? ⟨w.heap.size, 0, none⟩ = some (.int .u8 (h.k.toNat : Int)) ∧ X.cell? ⟨w.heap.size, 1, none⟩ = some (.int .u64 (h.s.a.toNat : Int)) ∧ X.cell? ⟨w.heap.size, 2, none⟩ = some (.int .u64 (h.s.b.toNat : Int)) ∧ X.cell? ⟨w.heap.size, 3, none⟩ = some (.int .u64 (h.s.c.toNat : Int)) ∧ X.cell? ⟨w.heap.size, 4, none⟩ = some (.int .u64 (h.s.d.toNat : Int)) ∧ X.cell? ⟨w.heap.size, 5, none⟩ = some (.slice A ks.length c) ∧ X.cell? ⟨w1.heap.size, 0, none⟩ = some (.int .u8 (h2.k.toNat : Int)) ∧ X.cell? ⟨w1.heap.size, 1, none⟩ = some (.string (str h2.b)) ∧ X.cell? ⟨w1.heap.size, 2, none⟩ = some (.int .u64 (h2.s.a.toNat : Int)) ∧ X.cell? ⟨w1.heap.size, 3, none⟩ = some (.int .u64 (h2.s.b.toNat : Int)) ∧ X.cell? ⟨w1.heap.size, 4, none⟩ = some (.int .u64 (h2.s.c.toNat : Int)) ∧ X.cell? ⟨w1.heap.size, 5, none⟩ = some (.int .u64 (h2.s.d.toNat : Int)) ∧ X.cell? ⟨w1.heap.size, 6, none⟩ = some (.slice A2 k2.length c2) ∧ X.cell? ⟨w3.heap.size, 0, none⟩ = some (.int .u8 (h3.k.toNat : Int)) ∧ X.cell? ⟨w3.heap.size, 1, none⟩ = some (.int .u64 (h3.s.a.toNat : Int)) ∧ X.cell? ⟨w3.heap.size, 2, none⟩ = some (.int .u64 (h3.s.b.toNat : Int)) ∧ X.cell? ⟨w3.heap.size, 3, none⟩ = some (.int .u64 (h3.s.c.toNat : Int)) ∧ X.cell? ⟨w3.heap.size, 4, none⟩ = some (.int .u64 (h3.s.d.toNat : Int)) ∧ X.cell? ⟨w3.heap.size, 5, none⟩ = some (.slice A3 k3.length c3)) := by
        intro X hX
        obtain ⟨x0, x1, x2, x3, x4, x5⟩ := Q1.out _ (below_from HWV.out hX)
        obtain ⟨y0, y1, y2, y3, y4, y5, y6⟩ := co_at_box ((hX.block _ (lt_of_block v1)).trans v1)
        obtain ⟨z0, z1, z2, z3, z4, z5⟩ := re_at_box ((hX.block _ (lt_of_block v3)).trans v3)
        exact ⟨x0, x1, x2, x3, x4, x5, y0, y1, y2, y3, y4, y5, y6, z0, z1, z2, z3, z4, z5⟩
      clear hb3 hr3 e3 n3 hV hbV v3 v1 y0 y1 y2 y3 y4 y5 y6 HV2
      go_upto_region 7 with fail
      rw [HVV.out]
      have hz := Below.refl V.heap.size V
      obtain ⟨x0, x1, x2, x3, x4, x5, y0, y1, y2, y3, y4, y5, y6, z0, z1, z2, z3, z4, z5⟩ := Q.out _ hz
      cases nl
      all_goals
        go_region_held3 (fun X => X.cell? ⟨w.heap.size, 0, none⟩ = some (.int .u8 (h.k.toNat : Int)) ∧ X.cell? ⟨w.heap.size, 1, none⟩ = some (.int .u64 (h.s.a.toNat : Int)) ∧ X.cell? ⟨w.heap.size, 2, none⟩ = some (.int .u64 (h.s.b.toNat : Int)) ∧ X.cell? ⟨w.heap.size, 3, none⟩ = some (.int .u64 (h.s.c.toNat : Int)) ∧ X.cell? ⟨w.heap.size, 4, none⟩ = some (.int .u64 (h.s.d.toNat : Int)) ∧ X.cell? ⟨w.heap.size, 5, none⟩ = some (.slice A ks.length c) ∧ X.cell? ⟨w1.heap.size, 0, none⟩ = some (.int .u8 (h2.k.toNat : Int)) ∧ X.cell? ⟨w1.heap.size, 1, none⟩ = some (.string (str h2.b)) ∧ X.cell? ⟨w1.heap.size, 2, none⟩ = some (.int .u64 (h2.s.a.toNat : Int)) ∧ X.cell? ⟨w1.heap.size, 3, none⟩ = some (.int .u64 (h2.s.b.toNat : Int)) ∧ X.cell? ⟨w1.heap.size, 4, none⟩ = some (.int .u64 (h2.s.c.toNat : Int)) ∧ X.cell? ⟨w1.heap.size, 5, none⟩ = some (.int .u64 (h2.s.d.toNat : Int)) ∧ X.cell? ⟨w1.heap.size, 6, none⟩ = some (.slice A2 k2.length c2) ∧ X.cell? ⟨w3.heap.size, 0, none⟩ = some (.int .u8 (h3.k.toNat : Int)) ∧ X.cell? ⟨w3.heap.size, 1, none⟩ = some (.int .u64 (h3.s.a.toNat : Int)) ∧ X.cell? ⟨w3.heap.size, 2, none⟩ = some (.int .u64 (h3.s.b.toNat : Int)) ∧ X.cell? ⟨w3.heap.size, 3, none⟩ = some (.int .u64 (h3.s.c.toNat : Int)) ∧ X.cell? ⟨w3.heap.size, 4, none⟩ = some (.int .u64 (h3.s.d.toNat : Int)) ∧ X.cell? ⟨w3.heap.size, 5, none⟩ = some (.slice A3 k3.length c3))
          (first | (with_reducible exact Q.out _ hz) | (with_reducible exact Q.out _ hz.drew) | fail)
          (first
            | (go_at_call 71; (with_reducible refine (COr.out _ (below_from HWV.out (by first | exact hz.drew | exact hz | fail))).mono ?_); rintro e w5 ⟨hx, kx, Ax, cx, rfl, ex, hcx, hrx, hb5⟩; have EX := Lib.hid ex; clear ex; have hz := below_from (by first | exact hz.drew | exact hz | fail) hb5; obtain ⟨x0, x1, x2, x3, x4, x5, y0, y1, y2, y3, y4, y5, y6, z0, z1, z2, z3, z4, z5⟩ := Q.out _ hz)
            | (go_at_call 40; (with_reducible refine (CSc.out hx kx Ax cx _ (below_from HUV.out hz) EX.out (hrx.weak fun _ _ => trivial)).mono ?_); rintro e w6 ⟨rfl, hb6⟩; have hz := below_from hz hb6; obtain ⟨x0, x1, x2, x3, x4, x5, y0, y1, y2, y3, y4, y5, y6, z0, z1, z2, z3, z4, z5⟩ := Q.out _ hz)
            | (go_at_call 69; (with_reducible refine (CSr.out h3 k3 A3 c3 _ (below_from HWV.out hz) E3.out ((HRV.out.below hz).weak fun _ _ => trivial)).mono ?_); rintro e w7 ⟨rfl, hb7⟩; have hz := below_from hz hb7; obtain ⟨x0, x1, x2, x3, x4, x5, y0, y1, y2, y3, y4, y5, y6, z0, z1, z2, z3, z4, z5⟩ := Q.out _ hz)
            | (go_at_call 72; (with_reducible refine (CNl.out _ (below_from HUV.out hz)).mono ?_); rintro e w8 ⟨rfl, hb8⟩; have hz := below_from hz hb8; obtain ⟨x0, x1, x2, x3, x4, x5, y0, y1, y2, y3, y4, y5, y6, z0, z1, z2, z3, z4, z5⟩ := Q.out _ hz)
            | (go_at_call 73; (with_reducible refine (CN7.out _ (below_from HWV.out hz)).mono ?_); rintro e w9 ⟨rfl, hb9⟩; have hz := below_from hz hb9; obtain ⟨x0, x1, x2, x3, x4, x5, y0, y1, y2, y3, y4, y5, y6, z0, z1, z2, z3, z4, z5⟩ := Q.out _ hz)
            | (go_at_call 60; (with_reducible refine (CA.out _ (below_from HWV.out hz)).mono ?_); rintro e w10 ⟨rfl, hb10⟩; have hz := below_from hz hb10; obtain ⟨x0, x1, x2, x3, x4, x5, y0, y1, y2, y3, y4, y5, y6, z0, z1, z2, z3, z4, z5⟩ := Q.out _ hz)
            | fail)
        all_goals
          have hb := below_from HW.out (below_from HWV.out hz)
          go_wp2_with fail
          go_ret
          exact ⟨rfl, hb⟩
  · rw [hg] at CG
    clear hg HGS
    go_enter Tryd.func18, Tryd.ntmps18
    go_wp2_with fail
    rw [HE.out]
    refine (CG.out _ (Below.refl _ _)).mono ?_
    rintro e w0 ⟨rfl, hb0⟩
    have HB0 := Lib.hid hb0
    clear hb0
    go_wp2_with fail
    refine (CA.out _ HB0.out).mono ?_
    rintro e w4 ⟨rfl, hb4⟩
    have hb := below_from HW.out (below_from HB0.out hb4)
    clear hb4
    go_wp2_with fail
    go_ret
    exact ⟨rfl, hb⟩
namespace lawCodedOf
open Go.ChangeShapes Go.WideShapes Go.ChangeAt
open Go.ChangeMaps (open_string)
set_option maxRecDepth 100000 in
theorem contract (H : Type) (enc : TypeId × Value → H) (W : World) (base : Nat) (args : Array Value) (ds gs : List (DataW H)) (before : List MemPlace)
    (hval : ∀ (j : Nat) t v, Tryd.f18.params[j]? = some t → args[j]? = some v → Value.okWide Tryd.prog W .any base t v)
    (hW : DataW.Whole enc Tryd.prog Tryd.f18.params.toList Rows.codedOfSpec.vars false W args.toList ds gs before) (hL : laidMetH Tryd.prog Rows.codedOfUptoRow.laid W) (hk : Rows.uptoSmall H (ds ++ gs) = true) :
    Calls Tryd.prog 18 args W fun e W' => ∃ v, e = .returned v ∧ Rows.codedOfSpec.post enc Tryd.prog Tryd.f18 false true false false W args v W' := by
  have hW' := hW
  obtain ⟨p, q, hA0, hV, rfl, hfz, hnd⟩ := hW
  have hA : DataW.TrodAll enc Tryd.prog W 0 (fun _ => true) true Tryd.f18.params.toList args.toList ds p := hA0
  rw [Tryd.params18] at hA hval
  obtain ⟨v0, vs0, d0, ds0, p0, q0, hargs, rfl, rfl, h0, r0⟩ := trodAll_cons hA
  obtain ⟨rfl, rfl, rfl⟩ := trodAll_nil r0
  obtain rfl : args = #[v0] := by cases args; simp_all
  obtain ⟨rfl, rfl⟩ := trodVars_none hV
  have hkk : Rows.uptoBulk d0 ≤ 1048576 := by simp [Rows.uptoSmall, Rows.uptoBulkAll] at hk; omega
  obtain ⟨x, kx, A0, c0, rfl, hc0, hr0, hz0⟩ := open_re (hval 0 39 v0 rfl rfl) h0
  have HT : TzOk W := tz_of_laid hL
  refine (codedOf_walk x kx A0 c0 W (by omega) hc0 hr0 HT).mono fun e W' ⟨he, hb⟩ => ?_
  subst he
  exact ⟨_, rfl, post_true Tryd.laidOut (by rw [Tryd.params18]; intro t ht; simp at ht; rcases ht with rfl <;> exact ⟨by kernel_rfl, of_decide_eq_true (by kernel_rfl)⟩) hW' rfl rfl rfl Tryd.underlying4 hb⟩
theorem laid_met (os : Os) : laidMet Tryd.prog Rows.codedOfUptoRow.laid ((utfWorld os).forCall (fun _ _ => 0) ⟨#[], #[.agg #[.int .u8 0, .int .u64 0, .int .u64 0, .int .u64 0, .int .u64 0, .slice none 0 0]], []⟩).memory :=
  laidMet_of_run' 600 (by kernel_rfl) (by kernel_rfl)
theorem reads (os : Os) {H : Type} (enc : TypeId × Value → H) : ∃ places, DataW.whole enc Tryd.prog ((utfWorld os).forCall (fun _ _ => 0) ⟨#[], #[.agg #[.int .u8 0, .int .u64 0, .int .u64 0, .int .u64 0, .int .u64 0, .slice none 0 0]], []⟩).memory Tryd.f18.params.toList Rows.codedOfSpec.vars false (#[.agg #[.int .u8 0, .int .u64 0, .int .u64 0, .int .u64 0, .int .u64 0, .slice none 0 0]] : Array Value).toList 8 = some ([.agg [.lit (.int .u8 0), .agg [.lit (.int .u64 0), .lit (.int .u64 0), .lit (.int .u64 0), .lit (.int .u64 0)], .nil]], [], places) :=
  ⟨[], by kernel_rfl⟩
set_option maxRecDepth 100000 in
theorem lifted (os : Os) (started : os.Started) (H : Type) (enc : TypeId × Value → H) (F : Stop.Interp) :
    ReturnsInHanded {} Tryd.checked os 18 .any ((Rows.OpenSpec.upto Rows.codedOfSpec).preRow enc Tryd.prog Tryd.f18 Rows.codedOfUptoRow.domain false Rows.codedOfUptoRow.laid) (((Rows.OpenSpec.upto Rows.codedOfSpec).at F).post enc Tryd.prog Tryd.f18 false true false false) := by
  obtain ⟨places, hx⟩ := reads os enc
  refine returnsInHanded_of_row (C := Tryd.checked) (s := Rows.OpenSpec.upto Rows.codedOfSpec) Tryd.own started (by kernel_rfl) Tryd.func18
    (witness_row_at (enc := enc) (C := Tryd.checked) false (utfWorld os) #[.agg #[.int .u8 0, .int .u64 0, .int .u64 0, .int .u64 0, .int .u64 0, .slice none 0 0]] rfl (by kernel_rfl) (by kernel_rfl) (by kernel_rfl)
      (OpenSpec.preRow_of_cond 8 hx (by kernel_rfl) (fun k hk => by cases hk; kernel_rfl) (by kernel_rfl) (laid_met os))) ?_
  intro W base args ds gs before hval hW _ hcond _ hL _ _
  exact contract H enc W base args ds gs before hval hW hL (hcond _ rfl)
theorem said : Rows.CodedOfUptoSaid :=
  OpenClaim.holds_of_cond 18 Tryd.f18 rfl rfl rfl rfl rfl rfl rfl ⟨rfl, rfl, rfl, rfl, rfl⟩ rfl rfl rfl rfl rfl (by kernel_rfl) Tryd.func18 (by kernel_rfl)
    (of_decide_eq_true (by kernel_rfl)) (by unfold Func.isWrapper; first | (rw [if_pos (by decide +kernel)]; kernel_rfl) | (rw [if_neg (by decide +kernel)]; exact ⟨rfl, rfl⟩))
    (fun os started H enc _ F => by rw [OpenClaim.pre_eq_preRow]; exact lifted os started H enc F)
theorem plain (f : FuncId) (fn : Func) (hf : Tryd.pinned.checked.prog.funcNamed "quill/quilllaw16.CodedOf" = some f) (hfn : Tryd.pinned.checked.prog.funcs[f]? = some fn) :
    true = Tryd.pinned.checked.prog.looks [] ∧ ∀ (j : Nat) t, fn.params[j]? = some t → Tryd.pinned.checked.prog.wantsStandIn t = false := by
  obtain rfl : f = 18 := Option.some.inj ((show Tryd.prog.funcNamed "quill/quilllaw16.CodedOf" = some 18 by kernel_rfl).symm.trans hf) |>.symm
  obtain rfl : fn = Tryd.f18 := (Option.some.inj (Tryd.func18.symm.trans hfn)).symm
  refine ⟨by kernel_rfl, fun j t ht => ?_⟩
  rw [Tryd.params18] at ht
  have hm := Array.mem_of_getElem? ht
  simp at hm
  rcases hm with rfl
  · exact (show Tryd.prog.wantsStandIn 39 = false by kernel_rfl)
theorem proved : Rows.CodedOfUptoCardSaid :=
  Claim7.holds_tied_plain_at .later [] _ _ _ _ said (fun _ h => by cases h) (by kernel_rfl) (fun _ h => by cases h) codedOfUpto_row_tie rfl ⟨rfl, rfl⟩ (by kernel_rfl) rfl plain (by kernel_rfl)
end lawCodedOf
end Go.Proofs.YtfbnlpoinieijaaDoor
