/- The steps of a text. The bits of the value of a text. The document's: are two rows the same? -/
import Derived.Test.YtgdigbbfgpenpaaGreatDoorBl
import Derived.Test.YtgdigbbfgpenpaaGreatDoorBi
import Derived.Test.YtgdigbbfgpenpaaGreatDoorBf
namespace Go.Proofs.YtgdigbbfgpenpaaGreatDoor
open Go.RowKit
set_option linter.unusedVariables false
set_option linter.unusedSimpArgs false

theorem grown_transW {w x y : World} {r : Option Nat} (h : w.grownBy x r) (k : x.grownBy y r) : w.grownBy y r :=
  ⟨k.os.trans h.os, k.tape.trans h.tape, k.output.trans h.output, Nat.le_trans h.size k.size, fun j hj hr => (k.block j (Nat.lt_of_lt_of_le hj h.size) hr).trans (h.block j hj hr)⟩
theorem seven_grown (w : World) (b : Nat) (u0 u1 u2 u3 u4 u5 u6 : Value) : w.grownBy (((((((w.setCell ⟨b, 0, none⟩ u0).setCell ⟨b, 1, none⟩ u1).setCell ⟨b, 2, none⟩ u2).setCell ⟨b, 3, none⟩ u3).setCell ⟨b, 4, none⟩ u4).setCell ⟨b, 5, none⟩ u5).setCell ⟨b, 6, none⟩ u6) (some b) :=
  grown_transW (grown_transW (grown_transW (grown_transW (grown_transW (grown_transW (set_grown w b 0 u0) (set_grown _ b 1 u1)) (set_grown _ b 2 u2)) (set_grown _ b 3 u3)) (set_grown _ b 4 u4)) (set_grown _ b 5 u5)) (set_grown _ b 6 u6)
def walkE (sE : UInt8 → Co → Int) (sT : UInt8 → Co → Co) : Co → List UInt8 → Int
  | _, [] => 0
  | c, b :: s => if sE b c = 0 then walkE sE sT (sT b c) s else sE b c
def walkL (sT : UInt8 → Co → Co) : Co → List UInt8 → List Co
  | c, [] => [c]
  | c, b :: s => c :: walkL sT (sT b c) s
/-- the steps of a text, and the error's number -/
def walkR (sE : UInt8 → Co → Int) (sT : UInt8 → Co → Co) (t : Re) (s : List UInt8) : List Co × Int :=
  if mayB t = true then (if walkE sE sT (ofC t) s = 0 then (walkL sT (ofC t) s, 0) else ([], walkE sE sT (ofC t) s)) else ([], 1)
def Good (n : Nat) (t : Co) : Prop := okC t = true ∧ t.size ≤ 20000 ∧ potV t + (n + 2) * potS t ≤ 1000000000
theorem good_step {n : Nat} {t : Co} {b : UInt8} (h : Good (n + 1) t) (he : stepE b t = 0) : Good n (stepT b t) := by
  unfold stepE at he
  by_cases h1 : mayC t = true
  · rw [if_pos h1] at he
    by_cases h2 : mayC (stepC b t) = true
    · have hp := step_pot b t h.1
      have h3 := h.2.2
      unfold stepT
      rw [if_pos h1, if_pos h2]
      refine ⟨(may_okC h2).1, (may_okC h2).2, ?_⟩
      have a1 : (n + 2) * potS (stepC b t) ≤ (n + 2) * potS t := Nat.mul_le_mul_left _ hp.2
      have a2 : (n + 1 + 2) * potS t = (n + 2) * potS t + potS t := by rw [show n + 1 + 2 = (n + 2) + 1 by omega, Nat.add_mul, Nat.one_mul]
      omega
    · rw [if_neg h2] at he; cases he
  · rw [if_neg h1] at he; cases he
theorem good_of {n : Nat} {t : Re} (h : mayB t = true) (hn : n ≤ 100) : Good n (ofC t) := by
  have ho := of_ok t (may_okT h)
  have hm := of_may h
  have hz := (may_okC hm).2
  have h2 := potV_le (m := 1) (ofC t) ho (of_few t (may_okT h))
  have hz2 : (ofC t).size ≤ 2000 := by
    rw [of_size t (may_okT h)]
    unfold mayB at h
    simp only [Bool.and_eq_true, decide_eq_true_eq] at h
    exact h.2
  have a1 : (ofC t).size * (1 + 1) ≤ 2000 * 2 := Nat.mul_le_mul hz2 (by omega)
  have a2 : (ofC t).size * ((ofC t).size * (1 + 1)) ≤ 2000 * (2000 * 2) := Nat.mul_le_mul hz2 a1
  have a3 : (n + 2) * potS (ofC t) ≤ 102 * (2000 * (2000 * 2)) := Nat.mul_le_mul (by omega) (by omega)
  exact ⟨ho, hz, by omega⟩
theorem good_short {n : Nat} {t : Co} (h : Good n t) : shortC t := pot_short h.1 (by have := h.2.2; have a : 1 * potS t ≤ (n + 2) * potS t := Nat.mul_le_mul_right _ (by omega); omega)
theorem good_two {n : Nat} {t : Co} (h : Good n t) : potV t + 2 * potS t ≤ 1000000000 := by have := h.2.2; have a : 2 * potS t ≤ (n + 2) * potS t := Nat.mul_le_mul_right _ (by omega); omega
def WalkPost (R : List Co × Int) (w : World) (e : Ending) (w' : World) : Prop := ∃ A c, e = .returned (.tuple #[.slice A R.1.length c, .int .i64 R.2]) ∧ R.1.length ≤ c ∧ InRow CE (fun x => w.heap.size ≤ x) w' R.1 A 0 ∧ Below w.heap.size w w'
set_option maxRecDepth 100000 in
set_option maxHeartbeats 16000000 in
theorem pWalk_any {ok : Nat → Prop} (h : RH) (ks : List Re) (A : Option Addr) (c : Nat) (S : ByteArray) (w : World) (hm : T.sizes ks ≤ 900000) (hc : ks.length ≤ c) (hr : InRow RE ok w ks A 0) (hs : S.size ≤ 100) :
    Calls Tryz.prog 21 #[reV h A ks.length c, .string S] w (WalkPost (walkR stepE stepT (.mk h ks) S.data.toList) w) := by
  obtain ⟨W0, hW0⟩ : ∃ W, w.alloc (.cells (reA h A ks.length c) 27) = W := ⟨_, rfl⟩
  have hbW0 : Below w.heap.size w W0 := by rw [← hW0]; exact below_new (Below.refl _ _) _
  have e1 : W0.heap[w.heap.size]? = some (.cells (reA h A ks.length c) 27 (0, 0)) := by rw [← hW0]; exact new_at1 _
  have hsW0 : W0.heap.size = w.heap.size + 1 := by rw [← hW0]; simp
  have HRR : Hid (walkR stepE stepT (.mk h ks) S.data.toList = if mayB (.mk h ks) = true then (if walkE stepE stepT (ofC (.mk h ks)) S.data.toList = 0 then (walkL stepT (ofC (.mk h ks)) S.data.toList, 0) else ([], walkE stepE stepT (ofC (.mk h ks)) S.data.toList)) else ([], 1)) := rfl
  have HLEN := Lib.hid (text_len S)
  go_enter Tryz.func21, Tryz.ntmps21
  have HO := Lib.hid (cOf_any h ks A c W0 hm hc (hr.below hbW0))
  have HE := Lib.hid hW0
  clear hr hW0 e1
  go_wp2_with fail
  rw [HE.out]
  refine HO.out.mono ?_
  clear HO
  rintro e w1 ⟨hb1, (⟨hmf, rfl⟩ | ⟨hmt, h2, k2, A2, c2, rfl, e2, hc2, hr2⟩)⟩
  · have hb := fun o => below_new (below_from hbW0 hb1) o
    have HX : Hid (walkR stepE stepT (.mk h ks) S.data.toList = ([], 1)) := by unfold Hid; rw [HRR.out, hmf]; rfl
    clear hmf hb1
    go_wp2_with fail
    go_ret2
    rw [HX.out]
    exact ⟨none, 0, rfl, Nat.le_refl _, by simp [InRow], hb _⟩
  have HB1 := Lib.hid (below_from hbW0 hb1)
  clear hb1
  have HGD : Hid (Good S.size (ofC (.mk h ks))) := good_of hmt hs
  have HMT := Lib.hid hmt
  obtain ⟨V, hV⟩ : ∃ V, w1.alloc (.cells (coA h2 A2 k2.length c2) 60) = V := ⟨_, rfl⟩
  have hbV : Below w1.heap.size w1 V := by rw [← hV]; exact below_new (Below.refl _ _) _
  have v6 : V.heap[w1.heap.size]? = some (.cells (coA h2 A2 k2.length c2) 60 (0, 0)) := by rw [← hV]; exact new_at1 _
  have hsV : V.heap.size = w1.heap.size + 1 := by rw [← hV]; simp
  obtain ⟨U, hU⟩ : ∃ U, V.alloc (.cells (coA h2 A2 k2.length c2) 60) = U := ⟨_, rfl⟩
  have hbU : Below V.heap.size V U := by rw [← hU]; exact below_new (Below.refl _ _) _
  have hbVU := below_from hbV hbU
  have N6 := Lib.hid ((hbU.block _ (lt_of_block v6)).trans v6)
  have HBU := Lib.hid (below_from HB1.out hbVU)
  have hb1s := HB1.out.size
  have hr2' := hr2.there
  have hownU : OwnT CE (fun x => W0.heap.size ≤ x ∧ x < w1.heap.size) U (w1.heap.size + 1) 60 (.slice (some ⟨w1.heap.size + 1, 0, none⟩) 1 1) [.mk h2 k2] := by
    have := co_new (h := h2) (t := 60) hc2 (hr2'.below hbV) (fun b hb => by have := hb.2; omega) (w1.heap.size + 1) (by omega)
    rw [hsV, hU] at this
    exact this.narrow (fun x hx => hx) (fun x hx e => by simp [Value.ownBlock] at e; have := hx.2; omega)
  have HO0 := Lib.hid hownU
  have HR0 : Hid (InRow CE (fun x => W0.heap.size ≤ x ∧ x < w1.heap.size) U k2 A2 0) := (hr2'.below hbVU).weak fun x hx => hx
  have HC2 := Lib.hid hc2
  have ET := Lib.hid e2
  have hsU : U.heap.size = w1.heap.size + 1 + 1 := by rw [← hU, World.size_alloc, hsV]
  obtain ⟨x0, x1, x2, x3, x4, x5, x6⟩ := co_at_box v6
  rw [← hV] at x0 x1 x2 x3 x4 x5 x6 hU
  have HUU := Lib.hid hU
  clear hV hbV v6 hU hbU hbVU hr2 hr2' hownU hc2 e2 hmt
  go_wp2_with fail
  rw [HUU.out]
  obtain ⟨b6, hb6⟩ : ∃ b6, w1.heap.size = b6 := ⟨_, rfl⟩
  rw [hb6] at N6 HO0 HR0 hsU hb1s ⊢
  clear x0 x1 x2 x3 x4 x5 x6 HUU hsV HB1
  go_loopw [8, 23] (fun oo i wr => ∃ (k : Nat) (o : Value) (okk : Nat → Prop) (front : List Co) (hc : CH) (kc : List Co) (Ac : Option Addr) (cc : Nat), o = oo ∧ k ≤ S.size ∧ i = .int .i64 (k : Nat) ∧ Hid (OwnT CE okk wr (b6 + 1) 60 o (front ++ [.mk hc kc])) ∧ Hid (∀ x, okk x → W0.heap.size ≤ x ∧ x ≠ b6 ∧ x < wr.heap.size) ∧
    Hid (front ++ walkL stepT (.mk hc kc) (S.data.toList.drop k) = walkL stepT (ofC (.mk h ks)) S.data.toList) ∧ Hid (walkE stepE stepT (.mk hc kc) (S.data.toList.drop k) = walkE stepE stepT (ofC (.mk h ks)) S.data.toList) ∧ Hid (Good (S.size - k) (.mk hc kc)) ∧ Hid (front.length = k) ∧
    Hid (wr.heap[b6]? = some (.cells (coA hc Ac kc.length cc) 60 (0, 0))) ∧ Hid (kc.length ≤ cc) ∧ Hid (InRow CE okk wr kc Ac 0) ∧ Hid (b6 + 1 < wr.heap.size) ∧ Hid (Below w.heap.size w wr)) (fun oo i _ => S.size - (intOf i).toNat)
  case atStart => exact ⟨0, _, _, [], h2, k2, A2, c2, rfl, Nat.zero_le _, rfl, HO0, Lib.hid (fun x hx => ⟨hx.1, by have := hx.2; omega, by have := hx.2; omega⟩), by unfold Hid; rw [← ET.out, List.drop_zero, List.nil_append], by unfold Hid; rw [← ET.out, List.drop_zero], by unfold Hid; rw [← ET.out]; exact HGD.out, rfl, N6, HC2, HR0, Lib.hid (by omega), HBU⟩
  case round =>
    clear HO0 N6 HC2 HR0 HBU ET HGD hsU
    obtain ⟨k, o, okk, front, hc, kc, Ac, cc, rfl, hk, rfl, HOw, HK, HWL, HWE, HG, HFL, N6, HCC, HRc, HSZ, HB⟩ := hrel
    obtain ⟨u0, u1, u2, u3, u4, u5, u6⟩ := co_at_box N6.out
    by_cases hlt : k < S.size
    · have hdr : S.data.toList.drop k = (S[k]'hlt) :: S.data.toList.drop (k + 1) := by
        have h' : k < S.data.toList.length := by rw [HLEN.out]; exact hlt
        rw [List.drop_eq_getElem_cons h']
        rfl
      obtain ⟨b, hbb⟩ : ∃ b : UInt8, b = S[k]'hlt := ⟨_, rfl⟩
      rw [← hbb] at hdr
      have ea : ((S[k]'hlt).toNat : Int) = (b.toNat : Int) := by rw [hbb]
      have HDR := Lib.hid hdr
      have hgz := HG.out.2.1
      simp only [T.size] at hgz
      have HCs : Hid (∀ X, Below wr.heap.size wr X → Calls Tryz.prog 34 #[coV hc Ac kc.length cc, .int .u8 (b.toNat : Int)] X (StepPost okk b (.mk hc kc) X)) := fun X hX => pStep_any b hc kc Ac cc X (by omega) HCC.out (HRc.out.below hX) (good_short HG.out) (fun _ => good_two HG.out)
      have Q6 : Hid (∀ X, Below wr.heap.size wr X → X.cell? ⟨b6, 0, none⟩ = some (.int .u8 (hc.k.toNat : Int)) ∧ X.cell? ⟨b6, 1, none⟩ = some (.string (str hc.b)) ∧ X.cell? ⟨b6, 2, none⟩ = some (.int .u64 (hc.s.a.toNat : Int)) ∧ X.cell? ⟨b6, 3, none⟩ = some (.int .u64 (hc.s.b.toNat : Int)) ∧ X.cell? ⟨b6, 4, none⟩ = some (.int .u64 (hc.s.c.toNat : Int)) ∧ X.cell? ⟨b6, 5, none⟩ = some (.int .u64 (hc.s.d.toNat : Int)) ∧ X.cell? ⟨b6, 6, none⟩ = some (.slice Ac kc.length cc)) := by
        intro X hX
        exact co_at_box ((hX.block _ (lt_of_block N6.out)).trans N6.out)
      have hsz6 := lt_of_block N6.out
      have HKS : Hid (∀ x, okk x → x < wr.heap.size) := fun x hx => (HK.out x hx).2.2
      clear hbb hdr
      go_upto_region 8 with fail
      go_cut [10, 11] from 26 to 33 (fun q e wx => e = .int .i64 (stepE b (.mk hc kc)) ∧ BoxC (fun x => okk x ∨ wr.heap.size ≤ x) wr (stepT b (.mk hc kc)) q wx)
      case first =>
        have hz := Below.refl wr.heap.size wr
        go_region_held3 (fun X => X.cell? ⟨b6, 0, none⟩ = some (.int .u8 (hc.k.toNat : Int)) ∧ X.cell? ⟨b6, 1, none⟩ = some (.string (str hc.b)) ∧ X.cell? ⟨b6, 2, none⟩ = some (.int .u64 (hc.s.a.toNat : Int)) ∧ X.cell? ⟨b6, 3, none⟩ = some (.int .u64 (hc.s.b.toNat : Int)) ∧ X.cell? ⟨b6, 4, none⟩ = some (.int .u64 (hc.s.c.toNat : Int)) ∧ X.cell? ⟨b6, 5, none⟩ = some (.int .u64 (hc.s.d.toNat : Int)) ∧ X.cell? ⟨b6, 6, none⟩ = some (.slice Ac kc.length cc))
          ((refine Q6.out _ ?_; (repeat (first | with_reducible exact hz | with_reducible refine Below.drew ?_ | with_reducible refine below_new ?_ _ | (with_reducible refine Below.setCell ?_ (by first | exact Nat.le_refl _ | (simp; done) | (simp; omega)) _)))))
          (first | (go_at_call 34; (with_reducible refine (HCs.out _ ?_).mono ?_); (repeat (first | with_reducible exact hz | with_reducible refine Below.drew ?_ | with_reducible refine below_new ?_ _ | (with_reducible refine Below.setCell ?_ (by first | exact Nat.le_refl _ | (simp; done) | (simp; omega)) _))); rintro e wi ⟨hn, kn, An, cn, rfl, en, hcn, hrn, hbi⟩; have EN := Lib.hid en; clear en; (try (first | (have hq : Below (World.alloc wr (.cells #[.int .u8 0, .string ⟨#[]⟩, .int .u64 0, .int .u64 0, .int .u64 0, .int .u64 0, .slice none 0 0] 60)).drew.heap.size (World.alloc wr (.cells #[.int .u8 0, .string ⟨#[]⟩, .int .u64 0, .int .u64 0, .int .u64 0, .int .u64 0, .slice none 0 0] 60)).drew wi := (by with_reducible exact hbi); have hnk := new_kept hq; obtain ⟨⟨r0, r1, r2, r3, r4, r5, r6⟩, g0, g1, g2, g3, g4, g5, g6⟩ := co_cells hnk; have zr0 := fun o => keep_cell (below_new (Below.refl _ wi) o) r0; have zr1 := fun o => keep_cell (below_new (Below.refl _ wi) o) r1; have zr2 := fun o => keep_cell (below_new (Below.refl _ wi) o) r2; have zr3 := fun o => keep_cell (below_new (Below.refl _ wi) o) r3; have zr4 := fun o => keep_cell (below_new (Below.refl _ wi) o) r4; have zr5 := fun o => keep_cell (below_new (Below.refl _ wi) o) r5; have zr6 := fun o => keep_cell (below_new (Below.refl _ wi) o) r6; have zg0 := fun o => (co_cells (heap_keep1 hnk o)).2.1; have zg1 := fun o => (co_cells (heap_keep1 hnk o)).2.2.1; have zg2 := fun o => (co_cells (heap_keep1 hnk o)).2.2.2.1; have zg3 := fun o => (co_cells (heap_keep1 hnk o)).2.2.2.2.1; have zg4 := fun o => (co_cells (heap_keep1 hnk o)).2.2.2.2.2.1; have zg5 := fun o => (co_cells (heap_keep1 hnk o)).2.2.2.2.2.2.1; have zg6 := fun o => (co_cells (heap_keep1 hnk o)).2.2.2.2.2.2.2) | (have hq : Below (World.alloc (World.drew wr) (.cells #[.int .u8 0, .string ⟨#[]⟩, .int .u64 0, .int .u64 0, .int .u64 0, .int .u64 0, .slice none 0 0] 60)).heap.size (World.alloc (World.drew wr) (.cells #[.int .u8 0, .string ⟨#[]⟩, .int .u64 0, .int .u64 0, .int .u64 0, .int .u64 0, .slice none 0 0] 60)) wi := (by with_reducible exact hbi); have hnk := new_kept2 hq; obtain ⟨⟨r0, r1, r2, r3, r4, r5, r6⟩, g0, g1, g2, g3, g4, g5, g6⟩ := co_cells hnk; have zr0 := fun o => keep_cell (below_new (Below.refl _ wi) o) r0; have zr1 := fun o => keep_cell (below_new (Below.refl _ wi) o) r1; have zr2 := fun o => keep_cell (below_new (Below.refl _ wi) o) r2; have zr3 := fun o => keep_cell (below_new (Below.refl _ wi) o) r3; have zr4 := fun o => keep_cell (below_new (Below.refl _ wi) o) r4; have zr5 := fun o => keep_cell (below_new (Below.refl _ wi) o) r5; have zr6 := fun o => keep_cell (below_new (Below.refl _ wi) o) r6; have zg0 := fun o => (co_cells (heap_keep1 hnk o)).2.1; have zg1 := fun o => (co_cells (heap_keep1 hnk o)).2.2.1; have zg2 := fun o => (co_cells (heap_keep1 hnk o)).2.2.2.1; have zg3 := fun o => (co_cells (heap_keep1 hnk o)).2.2.2.2.1; have zg4 := fun o => (co_cells (heap_keep1 hnk o)).2.2.2.2.2.1; have zg5 := fun o => (co_cells (heap_keep1 hnk o)).2.2.2.2.2.2.1; have zg6 := fun o => (co_cells (heap_keep1 hnk o)).2.2.2.2.2.2.2))); have hz : Below wr.heap.size wr wi := (by refine below_from ?_ hbi; (repeat (first | with_reducible exact hz | with_reducible refine Below.drew ?_ | with_reducible refine below_new ?_ _ | (with_reducible refine Below.setCell ?_ (by first | exact Nat.le_refl _ | (simp; done) | (simp; omega)) _)))); obtain ⟨u0, u1, u2, u3, u4, u5, u6⟩ := Q6.out _ hz) | fail)
        all_goals go_wp2_with fail
        all_goals go_meet
        all_goals have hzs := hz.size
        all_goals first
          | (have hlk := lt_of_block hnk
             refine ⟨rfl, _, hn, kn, An, cn, rfl, EN.out, hcn, seven_setCells hnk, ?_, seven_below hz (by omega), by omega⟩
             refine (row_seven (hrn.weak (ok' := fun x => (okk x ∨ wr.heap.size + 1 ≤ x)) fun x hx => ?_) fun x hx => ?_).weak fun x hx => ⟨?_, ?_⟩
             · rcases hx with h | h
               · exact .inl h
               · exact .inr (by have e : (World.alloc wr (.cells #[.int .u8 0, .string ⟨#[]⟩, .int .u64 0, .int .u64 0, .int .u64 0, .int .u64 0, .slice none 0 0] 60)).heap.size = wr.heap.size + 1 := World.size_alloc _ _; have h2 : (World.alloc wr (.cells #[.int .u8 0, .string ⟨#[]⟩, .int .u64 0, .int .u64 0, .int .u64 0, .int .u64 0, .slice none 0 0] 60)).heap.size ≤ x := h; omega)
             · rcases hx with h | h
               · have := HKS.out x h; omega
               · omega
             · rcases hx with h | h
               · exact .inl h
               · exact .inr (by omega)
             · rcases hx with h | h
               · have := HKS.out x h; omega
               · omega)
          | (refine ⟨rfl, _, hn, kn, An, cn, rfl, EN.out, hcn, new_at1 (w := wi) _, (hrn.there.below (below_new (Below.refl _ _) _)).weak (fun x hx => ⟨by rcases hx.1 with h | h; exact .inl h; exact .inr h, by have := hx.2; omega⟩), below_new hz _, by omega⟩; done)
          | fail
      case rest =>
        obtain ⟨rfl, b10, hn, kn, An, cn, rfl, en, hcn, n10, hrn, hbD, hb10⟩ := hcut
        obtain ⟨wD, rfl⟩ : ∃ x, x = wc := ⟨_, rfl⟩
        have EN := Lib.hid en
        have HCN := Lib.hid hcn
        have N10 := Lib.hid n10
        have HRN := Lib.hid hrn
        have HBD := Lib.hid hbD
        have n6D := (hbD.block _ (lt_of_block N6.out)).trans N6.out
        have N6D := Lib.hid n6D
        have hbDs := hbD.size
        clear u0 u1 u2 u3 u4 u5 u6 en hcn n10 hrn hbD Q6 HCs
        by_cases he : stepE b (.mk hc kc) = 0
        · have g0 : (stepE b (.mk hc kc) != 0) = false := by rw [he]; rfl
          have HEE := Lib.hid he
          have HG2 : Hid (Good (S.size - (k + 1)) (.mk hn kn)) := by
            have hg1 : Good (S.size - (k + 1) + 1) (.mk hc kc) := by rw [show S.size - (k + 1) + 1 = S.size - k by omega]; exact HG.out
            have := good_step hg1 he
            rw [EN.out] at this
            exact this
          have HWE2 : Hid (walkE stepE stepT (.mk hn kn) (S.data.toList.drop (k + 1)) = walkE stepE stepT (ofC (.mk h ks)) S.data.toList) := by
            have := HWE.out
            rw [HDR.out, walkE, if_pos he, EN.out] at this
            exact this
          have HWL2 : Hid ((front ++ [T.mk hc kc]) ++ walkL stepT (.mk hn kn) (S.data.toList.drop (k + 1)) = walkL stepT (ofC (.mk h ks)) S.data.toList) := by
            have := HWL.out
            rw [HDR.out, walkL, EN.out] at this
            unfold Hid
            rw [List.append_assoc]
            exact this
          have HFL2 : Hid ((front ++ [T.mk hc kc]).length = k + 1) := by unfold Hid; rw [List.length_append, HFL.out]; rfl
          clear he HG HWE HWL HFL
          generalize stepE b (.mk hc kc) = ee at *
          obtain ⟨⟨y0, y1, y2, y3, y4, y5, y6⟩, f0, f1, f2, f3, f4, f5, f6⟩ := co_cells N6D.out
          obtain ⟨z0, z1, z2, z3, z4, z5, z6⟩ := co_at_box N10.out
          have hne10 : b10 ≠ b6 := by omega
          have XB := Lib.hid (seven_setCells (u0 := .int .u8 (hn.k.toNat : Int)) (u1 := .string (str hn.b)) (u2 := .int .u64 (hn.s.a.toNat : Int)) (u3 := .int .u64 (hn.s.b.toNat : Int)) (u4 := .int .u64 (hn.s.c.toNat : Int)) (u5 := .int .u64 (hn.s.d.toNat : Int)) (u6 := .slice An kn.length cn) N6D.out)
          have hoD := HOw.out.keep HBD.out
          obtain ⟨hO1, cs9, hO2, hO3⟩ := hoD
          have hob : ∀ g, Value.ownBlock o = some g → b6 + 1 ≤ g ∧ g < wr.heap.size := fun g hg => own_inE HOw.out hg
          have hgs : wD.grownBy (((((((wD.setCell ⟨b6, 0, none⟩ (.int .u8 (hn.k.toNat : Int))).setCell ⟨b6, 1, none⟩ (.string (str hn.b))).setCell ⟨b6, 2, none⟩ (.int .u64 (hn.s.a.toNat : Int))).setCell ⟨b6, 3, none⟩ (.int .u64 (hn.s.b.toNat : Int))).setCell ⟨b6, 4, none⟩ (.int .u64 (hn.s.c.toNat : Int))).setCell ⟨b6, 5, none⟩ (.int .u64 (hn.s.d.toNat : Int))).setCell ⟨b6, 6, none⟩ (.slice An kn.length cn)) (some b6) := seven_grown _ _ _ _ _ _ _ _ _
          have HOX := Lib.hid ((HOw.out.keep HBD.out).grown_bE hgs (by omega) (fun x hx => (HK.out x hx).2.1))
          have hrt := HRN.out.there
          have hpt : ∀ x, ((okk x ∨ wr.heap.size ≤ x) ∧ x ≠ b10) ∧ x < wD.heap.size → x ≠ b6 := fun x hx => by
            rcases hx.1.1 with h | h
            · exact (HK.out x h).2.1
            · omega
          have HRX := Lib.hid (row_seven (u0 := .int .u8 (hn.k.toNat : Int)) (u1 := .string (str hn.b)) (u2 := .int .u64 (hn.s.a.toNat : Int)) (u3 := .int .u64 (hn.s.b.toNat : Int)) (u4 := .int .u64 (hn.s.c.toNat : Int)) (u5 := .int .u64 (hn.s.d.toNat : Int)) (u6 := .slice An kn.length cn) (b := b6) hrt hpt)
          have HBX := Lib.hid (seven_below (u0 := .int .u8 (hn.k.toNat : Int)) (u1 := .string (str hn.b)) (u2 := .int .u64 (hn.s.a.toNat : Int)) (u3 := .int .u64 (hn.s.b.toNat : Int)) (u4 := .int .u64 (hn.s.c.toNat : Int)) (u5 := .int .u64 (hn.s.d.toNat : Int)) (u6 := .slice An kn.length cn) (b := b6) (below_from HB.out HBD.out) (by omega))
          have hsX : ((((((((wD.setCell ⟨b6, 0, none⟩ (.int .u8 (hn.k.toNat : Int))).setCell ⟨b6, 1, none⟩ (.string (str hn.b))).setCell ⟨b6, 2, none⟩ (.int .u64 (hn.s.a.toNat : Int))).setCell ⟨b6, 3, none⟩ (.int .u64 (hn.s.b.toNat : Int))).setCell ⟨b6, 4, none⟩ (.int .u64 (hn.s.c.toNat : Int))).setCell ⟨b6, 5, none⟩ (.int .u64 (hn.s.d.toNat : Int))).setCell ⟨b6, 6, none⟩ (.slice An kn.length cn))).heap.size = wD.heap.size := by simp
          clear hO1 hO2 hO3 cs9 hgs hrt hpt HOw HRc N6 HRN N6D HB HBD
          go_upto_region 12 with fail
          clear y0 y1 y2 y3 y4 y5 y6 f0 f1 f2 f3 f4 f5 f6 z0 z1 z2 z3 z4 z5 z6
          generalize (((((((wD.setCell ⟨b6, 0, none⟩ (.int .u8 (hn.k.toNat : Int))).setCell ⟨b6, 1, none⟩ (.string (str hn.b))).setCell ⟨b6, 2, none⟩ (.int .u64 (hn.s.a.toNat : Int))).setCell ⟨b6, 3, none⟩ (.int .u64 (hn.s.b.toNat : Int))).setCell ⟨b6, 4, none⟩ (.int .u64 (hn.s.c.toNat : Int))).setCell ⟨b6, 5, none⟩ (.int .u64 (hn.s.d.toNat : Int))).setCell ⟨b6, 6, none⟩ (.slice An kn.length cn)) = wX at *
          obtain ⟨y0, y1, y2, y3, y4, y5, y6⟩ := co_at_box XB.out
          have hne : Hid (∀ x, (okk x ∨ (wr.heap.size ≤ x ∧ x < wD.heap.size)) → x < wX.heap.size ∧ some x ≠ o.ownBlock) := fun x hx => by
            rcases hx with hx | hx
            · exact ⟨by have := (HK.out x hx).2.2; omega, fun e => HOX.out.1 x hx e⟩
            · exact ⟨by omega, fun e => by have := hob x e.symm; omega⟩
          obtain ⟨cs0, hown0, hsrc, happ⟩ := co_app (P := fun x => okk x ∨ (wr.heap.size ≤ x ∧ x < wD.heap.size)) (tb := .mk hn kn) HOX.out (fun x hx => by have := (HK.out x hx).2.2; omega) hne.out (Below.refl _ _) rfl HCN.out (HRX.out.weak fun x hx => .inl (by rcases hx.1.1 with h | h; exact .inl h; exact .inr ⟨h, hx.2⟩))
          have E65 := Lib.hid (heap_keep1 XB.out (.cells (coA hn An kn.length cn) 60))
          have HB5 := Lib.hid (below_new HBX.out (.cells (coA hn An kn.length cn) 60))
          have HRX5 := Lib.hid (HRX.out.below (below_new (Below.refl _ _) (.cells (coA hn An kn.length cn) 60)))
          have HAPP := Lib.hid happ
          have HSX := Lib.hid hsX
          clear happ HBX HRX hsX
          go_wp2_with (at_builtin; refine wpList_app _ rfl (.tmp 38) (.tmp 40) 54 rfl (b6 + 1) 60 _ 7 80 Tryz.underlying54 Tryz.info_co rfl (by decide) _ _ _ rfl hown0 (some ⟨wX.heap.size, 0, none⟩) 1 1 _ rfl hsrc ?h1 ?h2 ?h3 ?h4 ?_)
          case h1 => first | exact coA_one hn An kn.length cn | trivial | (intro u hu; simp at hu; rcases hu with rfl | rfl | rfl | rfl | rfl | rfl | rfl <;> rfl)
          case h2 => first | (rw [HFL2.out]; unfold maxLen; omega) | (have := HFL2.out; rw [List.length_append] at this; simp at this ⊢; unfold maxLen; omega)
          case h3 => first | (rw [HFL2.out]; omega) | (have := HFL2.out; rw [List.length_append] at this; simp at this ⊢; omega)
          case h4 => have := HSZ.out; have := HSX.out; simp; omega
          intro v5 w5 ho5 hg5 hat5
          have hs5 := hg5.size
          rw [World.size_alloc] at hs5
          have hsX := HSX.out
          have HO6 := Lib.hid (HAPP.out v5 w5 (by first | exact ho5 | (have e := @List.length_append _ front [T.mk hc kc]; simp only [List.length_cons, List.length_nil] at e; rw [e]; exact ho5)) hg5 (by rw [World.size_alloc]; exact hat5))
          have E66 := Lib.hid ((hg5.block _ (lt_of_block E65.out) (fun e => by have := hob _ e.symm; omega)).trans E65.out)
          have HB6 := Lib.hid (HB5.out.grown hg5 HB5.out.size (fun j hj => by have := (hob j hj).1; omega))
          have HR6 := Lib.hid ((HRX5.out.grown hg5 (fun x hx e => by rcases hx.1.1 with h | h; exact HOX.out.1 x h e; have := hob x e.symm; omega)).weak (ok' := fun x => okk x ∨ (okk x ∨ (wr.heap.size ≤ x ∧ x < wD.heap.size)) ∨ (wX.heap.size ≤ x ∧ x < wX.heap.size)) fun x hx => by rcases hx.1.1 with h | h; exact .inl h; exact .inr (.inl (.inr ⟨h, hx.2⟩)))
          have HK6 : Hid (∀ x, (okk x ∨ (okk x ∨ (wr.heap.size ≤ x ∧ x < wD.heap.size)) ∨ (wX.heap.size ≤ x ∧ x < wX.heap.size)) → W0.heap.size ≤ x ∧ x ≠ b6 ∧ x < w5.heap.size) := fun x hx => by
            rcases hx with hx | (hx | hx) | hx
            · have := HK.out x hx; exact ⟨this.1, this.2.1, by omega⟩
            · have := HK.out x hx; exact ⟨this.1, this.2.1, by omega⟩
            · exact ⟨by omega, by omega, by omega⟩
            · omega
          have HSZ6 : Hid (b6 + 1 < w5.heap.size) := by have := HSZ.out; unfold Hid; omega
          clear ho5 hg5 hat5 hown0 hsrc HAPP E65 HB5 HRX5 HOX hob hne y0 y1 y2 y3 y4 y5 y6 XB HK hsX
          go_wp2_with fail
          go_roundw
          case rel => exact ⟨k + 1, _, _, front ++ [.mk hc kc], hn, kn, An, cn, rfl, by omega, by go_num, HO6, HK6, HWL2, HWE2, HG2, HFL2, E66, HCN, HR6, HSZ6, HB6⟩
          case measure => simp [intOf]; omega
        · have g0 : (stepE b (.mk hc kc) != 0) = true := by simpa using he
          have HX : Hid (walkR stepE stepT (.mk h ks) S.data.toList = ([], stepE b (.mk hc kc))) := by
            have := HWE.out
            rw [HDR.out, walkE, if_neg he] at this
            unfold Hid
            rw [HRR.out, if_pos HMT.out, ← this, if_neg he]
          have hb := below_from HB.out HBD.out
          clear he HWE HWL
          generalize stepE b (.mk hc kc) = ee at *
          go_wp2_with fail
          go_ret2
          rw [HX.out]
          exact ⟨none, 0, rfl, Nat.le_refl _, by simp [InRow], hb⟩
    · have hkk : k = S.size := by omega
      subst hkk
      have hdr : S.data.toList.drop S.size = [] := by rw [← HLEN.out]; exact List.drop_length
      have HX : Hid (walkR stepE stepT (.mk h ks) S.data.toList = (front ++ [.mk hc kc], 0)) := by
        have a := HWE.out
        have b := HWL.out
        rw [hdr] at a b
        simp only [walkE] at a
        simp only [walkL] at b
        unfold Hid
        rw [HRR.out, if_pos HMT.out, ← a, ← b, if_pos rfl]
      obtain ⟨A3, c3, hv3, hc3, hr3⟩ := HOw.out.row
      subst hv3
      have hP3 : ∀ x, (okk x ∨ (Value.slice A3 (front ++ [T.mk hc kc]).length c3).ownBlock = some x) → w.heap.size ≤ x := fun x hx => by
        rcases hx with hx | hx
        · have := (HK.out x hx).1; omega
        · have := (own_inE HOw.out hx).1; omega
      have HR3 := Lib.hid (hr3.weak (ok' := fun x => w.heap.size ≤ x) hP3)
      have HC3 := Lib.hid hc3
      have hb := HB.out
      clear HWE HWL hr3 hc3 HOw hlt hdr
      obtain ⟨L, hL⟩ : ∃ L, front ++ [T.mk hc kc] = L := ⟨_, rfl⟩
      rw [hL] at HX HR3 HC3 ⊢
      clear hL
      go_wp2_with fail
      go_ret2
      rw [HX.out]
      exact ⟨A3, c3, rfl, HC3.out, HR3.out, hb⟩
end Go.Proofs.YtgdigbbfgpenpaaGreatDoor
namespace Go.Proofs.YtgdigbbfgpenpaaGreatDoor
open Go.RowKit
set_option linter.unusedVariables false
set_option linter.unusedSimpArgs false

theorem good_mono {n m : Nat} {t : Co} (h : Good n t) (hm : m ≤ n) : Good m t := ⟨h.1, h.2.1, by
  have := h.2.2
  have a : (m + 2) * potS t ≤ (n + 2) * potS t := Nat.mul_le_mul_right _ (by omega)
  omega⟩
/-- all steps are as good -/
theorem walk_good {sE : UInt8 → Co → Int} {sT : UInt8 → Co → Co} (hs : ∀ {n t b}, Good (n + 1) t → sE b t = 0 → Good n (sT b t)) : ∀ (s : List UInt8) (c : Co), Good s.length c → walkE sE sT c s = 0 → ∀ x ∈ walkL sT c s, Good 0 x
  | [], c, hg, _, x, hx => by simp [walkL] at hx; subst hx; exact good_mono hg (Nat.zero_le _)
  | b :: s, c, hg, he, x, hx => by
    simp only [walkE] at he
    by_cases h0 : sE b c = 0
    · rw [if_pos h0] at he
      simp only [walkL, List.mem_cons] at hx
      rcases hx with rfl | hx
      · exact good_mono hg (Nat.zero_le _)
      · exact walk_good hs s (sT b c) (hs hg h0) he x hx
    · rw [if_neg h0] at he
      exact absurd he h0
theorem walkL_len (sT : UInt8 → Co → Co) : ∀ (s : List UInt8) (c : Co), (walkL sT c s).length = s.length + 1
  | [], _ => rfl
  | b :: s, c => by simp only [walkL, List.length_cons, walkL_len sT s]
theorem walkL_ne (sT : UInt8 → Co → Co) (c : Co) (s : List UInt8) : ∃ n, (walkL sT c s).length = n + 1 := by
  cases s with
  | nil => exact ⟨0, rfl⟩
  | cons b s => exact ⟨(walkL sT (sT b c) s).length, rfl⟩
theorem good_may {t : Co} {n : Nat} (h : Good n t) : mayC t = true := by
  unfold mayC
  rw [h.1]
  simp [h.2.1]
/-- the bits of the last step's ends, or the error -/
def lastBits (R : List Co × Int) : List UInt8 × Int := if R.2 = 0 then (match endsC (R.1.getLastD zeroC) with | some u => (u, 0) | none => ([], 5)) else ([], R.2)
set_option maxRecDepth 100000 in
set_option maxHeartbeats 8000000 in
theorem pBits_any {ok : Nat → Prop} (h : RH) (ks : List Re) (A : Option Addr) (c : Nat) (S : ByteArray) (w : World) (hm : T.sizes ks ≤ 900000) (hc : ks.length ≤ c) (hr : InRow RE ok w ks A 0) (hs : S.size ≤ 100) :
    Calls Tryz.prog 11 #[reV h A ks.length c, .string S] w fun e w' => e = .returned (.tuple #[.string (str (lastBits (walkR stepE stepT (.mk h ks) S.data.toList)).1), .int .i64 (lastBits (walkR stepE stepT (.mk h ks) S.data.toList)).2]) ∧ Below w.heap.size w w' := by
  have HW := Lib.hid (fun o => pWalk_any h ks A c S (w.alloc o) hm hc (hr.below (below_new (Below.refl _ _) o)) hs)
  have HB0 := Lib.hid (fun o => below_new (Below.refl w.heap.size w) o)
  have HGG : Hid ((walkR stepE stepT (.mk h ks) S.data.toList).2 = 0 → (∃ n, (walkR stepE stepT (.mk h ks) S.data.toList).1.length = n + 1 ∧ n ≤ 100) ∧ ∀ x ∈ (walkR stepE stepT (.mk h ks) S.data.toList).1, Good 0 x) := by
    unfold Hid walkR
    by_cases h1 : mayB (.mk h ks) = true
    · rw [if_pos h1]
      by_cases h2 : walkE stepE stepT (ofC (.mk h ks)) S.data.toList = 0
      · rw [if_pos h2]
        intro _
        exact ⟨⟨S.data.toList.length, walkL_len _ _ _, by rw [text_len]; exact hs⟩, walk_good good_step _ _ (good_of h1 (by rw [text_len]; exact hs)) h2⟩
      · rw [if_neg h2]
        intro e
        exact absurd e h2
    · rw [if_neg h1]
      intro e
      exact absurd e (by decide)
  clear hr
  generalize walkR stepE stepT (.mk h ks) S.data.toList = R at *
  obtain ⟨L, kd⟩ := R
  have HLB : Hid (lastBits (L, kd) = if kd = 0 then (match endsC (L.getLastD zeroC) with | some u => (u, 0) | none => ([], 5)) else ([], kd)) := rfl
  simp only at HGG
  go_enter Tryz.func11, Tryz.ntmps11
  go_wp2_with fail
  refine (HW.out _).mono ?_
  rintro e w1 ⟨A1, c1, rfl, hc1, hr1, hb1⟩
  have HB1 := Lib.hid (below_from (HB0.out _) hb1)
  simp only at hc1 hr1
  simp only
  clear HW hb1
  by_cases h0 : kd = 0
  · subst h0
    obtain ⟨⟨n, hn, hn100⟩, hg⟩ := HGG.out rfl
    obtain ⟨t, ad, h1, ls, A3, c3, hA, hx, rfl, hc3, hr3, q0, q1, q2, q3, q4, q5, q6⟩ := co_at hr1 (show n < L.length by omega)
    subst hA
    have hgt := hg _ (List.mem_of_getElem? hx)
    have hlast : L.getLastD zeroC = .mk h1 ls := by
      rw [List.getLastD_eq_getLast?, List.getLast?_eq_getElem?, hn, Nat.add_sub_cancel, hx]
      rfl
    have hz := hgt.2.1
    simp only [T.size] at hz
    have HE : Hid (∀ X, Below w1.heap.size w1 X → Calls Tryz.prog 22 #[coV h1 A3 ls.length c3] X fun e w' => e = .returned (endsV (endsC (.mk h1 ls))) ∧ Below X.heap.size X w') := fun X hX => by
      have := cEnds_any h1 ls A3 c3 X (by omega) hc3 (hr3.below hX) (good_short hgt) (by have := good_two hgt; omega)
      rw [show endsM (.mk h1 ls) = endsC (.mk h1 ls) by unfold endsM; rw [if_pos (good_may hgt)]] at this
      exact this
    have HL2 : Hid (lastBits (L, 0) = match endsC (.mk h1 ls) with | some u => (u, 0) | none => ([], 5)) := by unfold Hid; rw [HLB.out, if_pos rfl, hlast]
    rw [hn] at hc1 ⊢
    clear hx hr3 hr1 hg hgt hlast hz HGG HLB hn
    generalize endsC (.mk h1 ls) = ee at *
    rcases ee with _ | u
    all_goals
      simp only [endsV] at HE
      have hq := Below.refl w1.heap.size w1
      go_wp2_with fail
      refine (HE.out _ (by first | exact hq | exact hq.drew)).mono ?_
      rintro e w2 ⟨rfl, hb2⟩
      have hb := below_from HB1.out (by first | exact hb2 | exact below_from hq.drew hb2)
      clear hb2
      go_wp2_with fail
      go_ret2
      exact ⟨by rw [HL2.out]; rfl, hb⟩
  · have g0 : (kd != 0) = true := by simpa using h0
    have HX : Hid (lastBits (L, kd) = ([], kd)) := by unfold Hid; rw [HLB.out, if_neg h0]
    have hb := HB1.out
    clear h0 hr1 hc1
    go_wp2_with fail
    go_ret2
    exact ⟨by rw [HX.out]; rfl, hb⟩
end Go.Proofs.YtgdigbbfgpenpaaGreatDoor
namespace Go.Proofs.YtgdigbbfgpenpaaGreatDoor
open Go.RowKit
set_option linter.unusedVariables false
set_option linter.unusedSimpArgs false

theorem walkR_factsG {sT : UInt8 → Co → Co} (good : ∀ {n : Nat} {t : Co} {b : UInt8}, Good (n + 1) t → stepE b t = 0 → Good n (sT b t)) {t : Re} {s : List UInt8} (hs : s.length ≤ 100) : (walkR stepE sT t s).1.length ≤ 101 ∧ ∀ x ∈ (walkR stepE sT t s).1, x.size ≤ 20000 := by
  unfold walkR
  by_cases h1 : mayB t = true
  · rw [if_pos h1]
    by_cases h2 : walkE stepE sT (ofC t) s = 0
    · rw [if_pos h2]
      exact ⟨by simp only; rw [walkL_len]; omega, fun x hx => (walk_good good _ _ (good_of h1 hs) h2 x hx).2.1⟩
    · rw [if_neg h2]
      exact ⟨Nat.zero_le _, fun x hx => by cases hx⟩
  · rw [if_neg h1]
    exact ⟨Nat.zero_le _, fun x hx => by cases hx⟩
end Go.Proofs.YtgdigbbfgpenpaaGreatDoor
