/- What any coded expression stands for, whether it is nullable, and the bits of how it fits the empty text. For every input that is not too large. -/
import Derived.Test.YtfbnlpoinieijaaGreatDoorBj
import Derived.Test.YtfbnlpoinieijaaGreatDoorBi
import Derived.Test.YtfbnlpoinieijaaGreatDoorBh
import Derived.Test.YtfbnlpoinieijaaGreatDoorBf
import Derived.Test.YtfbnlpoinieijaaGreatDoorBg
namespace Go.Proofs.YtfbnlpoinieijaaGreatDoor
open Go.RowKit
set_option linter.unusedVariables false
set_option linter.unusedSimpArgs false

mutual
theorem potV_any {m : Nat} : ∀ t : Co, (∀ x ∈ t.all, x.head.b.length ≤ m) → potV t ≤ t.size * (m + 1)
  | .mk h ks, H => by
    have h0 : h.b.length ≤ m := H (.mk h ks) (by simp [T.all])
    obtain ⟨a, b⟩ := potL_any (m := m) ks (fun x hx => H x (by simp only [T.all, List.mem_cons]; exact .inr hx))
    have e : (1 + T.sizes ks) * (m + 1) = (m + 1) + T.sizes ks * (m + 1) := by rw [Nat.add_mul, Nat.one_mul]
    simp only [potV, T.size]
    split
    · omega
    · split <;> omega
theorem potL_any {m : Nat} : ∀ ts : List Co, (∀ x ∈ T.alls ts, x.head.b.length ≤ m) → potSum ts ≤ T.sizes ts * (m + 1) ∧ potMax ts ≤ T.sizes ts * (m + 1)
  | [], _ => ⟨Nat.zero_le _, Nat.zero_le _⟩
  | t :: ts, H => by
    have h1 := potV_any (m := m) t (fun x hx => H x (by simp only [T.alls, List.mem_append]; exact .inl hx))
    obtain ⟨a, b⟩ := potL_any (m := m) ts (fun x hx => H x (by simp only [T.alls, List.mem_append]; exact .inr hx))
    have e : (t.size + T.sizes ts) * (m + 1) = t.size * (m + 1) + T.sizes ts * (m + 1) := Nat.add_mul _ _ _
    simp only [potSum, potMax, T.sizes]
    omega
end
set_option maxRecDepth 100000 in
set_option maxHeartbeats 40000000 in
theorem codedEnds_walk (h : CH) (ks : List Co) (A : Option Addr) (c : Nat) (w : World) (hm : T.sizes ks ≤ 1048576) (hc : ks.length ≤ c) (hr : InRow CE (fun _ => True) w ks A 0) (ht : TzOk w) :
    Calls Tryz.prog 3 #[coV h A ks.length c] w fun e w' => e = .returned (.bool true) ∧ Below w.heap.size w w' := by
  obtain ⟨W, hW⟩ : ∃ W, w.alloc (.cells (coA h A ks.length c) 27) = W := ⟨_, rfl⟩
  have hbW : Below w.heap.size w W := by rw [← hW]; exact below_new (Below.refl _ _) _
  have e1 : W.heap[w.heap.size]? = some (.cells (coA h A ks.length c) 27 (0, 0)) := by rw [← hW]; exact new_at1 _
  have CG : Hid (∀ X, Below W.heap.size W X → Calls Tryz.prog 5 #[coV h A ks.length c, .int .i64 60] X fun e w' => e = .returned (.bool (greatC 60 (.mk h ks))) ∧ Below X.heap.size X w') := fun X hX => cGreat_any h ks A c 60 X (by omega) hc (hr.below (below_from hbW hX))
  have CA : Hid (∀ X, Below W.heap.size W X → Calls Tryz.prog 6 #[] X fun e w' => e = .returned (.bool true) ∧ Below X.heap.size X w') := fun X hX => awake16_any X (ht.below (below_from hbW hX))
  have Q1 : Hid (∀ X, Below W.heap.size W X → X.cell? ⟨w.heap.size, 0, none⟩ = some (.int .u8 (h.k.toNat : Int)) ∧ X.cell? ⟨w.heap.size, 1, none⟩ = some (.string (str h.b)) ∧ X.cell? ⟨w.heap.size, 2, none⟩ = some (.int .u64 (h.s.a.toNat : Int)) ∧ X.cell? ⟨w.heap.size, 3, none⟩ = some (.int .u64 (h.s.b.toNat : Int)) ∧ X.cell? ⟨w.heap.size, 4, none⟩ = some (.int .u64 (h.s.c.toNat : Int)) ∧ X.cell? ⟨w.heap.size, 5, none⟩ = some (.int .u64 (h.s.d.toNat : Int)) ∧ X.cell? ⟨w.heap.size, 6, none⟩ = some (.slice A ks.length c)) := by
    intro X hX
    obtain ⟨x0, x1, x2, x3, x4, x5, x6⟩ := co_at_box ((hX.block _ (lt_of_block e1)).trans e1)
    exact ⟨x0, x1, x2, x3, x4, x5, x6⟩
  have HR := Lib.hid hr
  have HW := Lib.hid hbW
  have HE := Lib.hid hW
  clear hW hr ht hbW e1
  rcases hg : greatC 60 (.mk h ks) with _ | _
  · obtain ⟨hz, hfew⟩ := great_few (m := 60) hg
    have hsh : shortC (.mk h ks) := fun x hx => Nat.le_trans (hfew x hx) (by decide)
    have hpv : potV (.mk h ks) ≤ 1000000000 := by
      have := potV_any (m := 100) _ hfew
      have : (T.mk h ks).size * (100 + 1) ≤ 60 * 101 := Nat.mul_le_mul hz (by omega)
      omega
    have hbz := bare_size (.mk h ks)
    have hs1 : 1 + T.sizes ks ≤ 60 := by simp only [T.size] at hz; omega
    have CE0 : Hid (∀ X, Below W.heap.size W X → Calls Tryz.prog 8 #[coV h A ks.length c] X fun e w' => e = .returned (endsV (endsM (.mk h ks))) ∧ Below X.heap.size X w') := fun X hX => cEnds_any h ks A c X (by omega) hc (HR.out.below (below_from HW.out hX)) hsh hpv
    have CN0 : Hid (∀ X, Below W.heap.size W X → Calls Tryz.prog 11 #[coV h A ks.length c] X fun e w' => e = .returned (.bool (endsM (.mk h ks)).isSome) ∧ Below X.heap.size X w') := fun X hX => cNull_any h ks A c X (by omega) hc (HR.out.below (below_from HW.out hX)) hsh hpv
    rw [hg] at CG
    rcases hm1 : mayC (.mk h ks) with _ | _
    · have hen : endsM (.mk h ks) = none := by unfold endsM; rw [hm1]; rfl
      have CE : Hid (∀ X, Below W.heap.size W X → Calls Tryz.prog 8 #[coV h A ks.length c] X fun e w' => e = .returned (.tuple #[.string ⟨#[]⟩, .bool false]) ∧ Below X.heap.size X w') := fun X hX => by have := CE0.out X hX; rwa [hen] at this
      have CNl : Hid (∀ X, Below W.heap.size W X → Calls Tryz.prog 11 #[coV h A ks.length c] X fun e w' => e = .returned (.bool false) ∧ Below X.heap.size X w') := fun X hX => by have := CN0.out X hX; rwa [hen] at this
      have CM : Hid (∀ X, Below W.heap.size W X → Calls Tryz.prog 9 #[coV h A ks.length c] X fun e w' => e = .returned (.bool false) ∧ Below X.heap.size X w') := fun X hX => by
        have := refMayC_any h ks A c X (by omega) hc (HR.out.below (below_from HW.out hX)) hsh
        rwa [hm1] at this
      have CBa : Hid (∀ X, Below W.heap.size W X → Calls Tryz.prog 7 #[coV h A ks.length c] X fun e w' => Below X.heap.size X w' ∧ ∃ h3 k3 A3 c3, e = .returned (.tuple #[reV h3 A3 k3.length c3, .bool false]) ∧ (T.mk (⟨0, S4.zero⟩ : RH) []) = T.mk h3 k3 ∧ k3.length ≤ c3 ∧ InRow RE (fun x => X.heap.size ≤ x) w' k3 A3 0) := fun X hX => by
        refine (cBare_any h ks A c X (by omega) hc (HR.out.below (below_from HW.out hX)) hsh).mono ?_
        rintro e w' ⟨hb, (⟨hf, he⟩ | ⟨hf, h3, k3, A3, c3, he, e3, hc3, hr3⟩)⟩
        · exact ⟨hb, ⟨0, S4.zero⟩, [], none, 0, he, rfl, Nat.le_refl _, by simp [InRow]⟩
        · rw [hm1] at hf; cases hf
      have CSr : Hid (∀ (h3 h4 : RH) (k3 k4 : List Re) (A3 A4 : Option Addr) (c3 c4 : Nat) (X : World), (T.mk (⟨0, S4.zero⟩ : RH) []) = T.mk h3 k3 → (T.mk (⟨0, S4.zero⟩ : RH) []) = T.mk h4 k4 → InRow RE (fun _ => True) X k3 A3 0 → InRow RE (fun _ => True) X k4 A4 0 → Calls Tryz.prog 10 #[reV h3 A3 k3.length c3, reV h4 A4 k4.length c4] X fun e w' => e = .returned (.bool true) ∧ Below X.heap.size X w') := by
        intro h3 h4 k3 k4 A3 A4 c3 c4 X e3 e4 hr3 hr4
        have hsz : ((T.mk (⟨0, S4.zero⟩ : RH) [])).size ≤ 200 := by decide
        have z3 : T.sizes k3 ≤ 200 := by have := congrArg T.size e3; simp only [T.size] at this hsz; omega
        have z4 : T.sizes k4 ≤ 200 := by have := congrArg T.size e4; simp only [T.size] at this hsz; omega
        have := refSame_upto (1 + T.sizes k3) (fun _ => True) h3 h4 k3 k4 A3 A4 c3 c4 X (Nat.le_refl _) (by omega) (by omega) hr3 hr4
        rw [← e3, ← e4, sameT_refl] at this
        exact this
      clear hg hz hfew hsh hpv hbz hen hm1 CE0 CN0
      go_enter Tryz.func3, Tryz.ntmps3
      go_wp2_with fail
      rw [HE.out]
      refine (CG.out _ (Below.refl _ _)).mono ?_
      rintro e w0 ⟨rfl, hb0⟩
      have HB0 := Lib.hid hb0
      obtain ⟨x0, x1, x2, x3, x4, x5, x6⟩ := Q1.out _ hb0
      clear hb0 CG
      go_wp2_with fail
      refine (CBa.out _ HB0.out).mono ?_
      rintro e w1 ⟨hb1, h3, k3, A3, c3, rfl, e3, hc3, hr3⟩
      have HB1 := Lib.hid (below_from HB0.out hb1)
      obtain ⟨U, hU⟩ : ∃ U, w1.alloc (.cells (reA h3 A3 k3.length c3) 32) = U := ⟨_, rfl⟩
      have hbU : Below w1.heap.size w1 U := by rw [← hU]; exact below_new (Below.refl _ _) _
      have HBU := Lib.hid (below_from HB1.out hbU)
      have n1 : U.heap[w1.heap.size]? = some (.cells (reA h3 A3 k3.length c3) 32 (0, 0)) := by rw [← hU]; exact new_at1 _
      have HRU := Lib.hid (hr3.below hbU)
      have E3 := Lib.hid e3
      have HU := Lib.hid hU
      have Q2 : Hid (∀ X, Below U.heap.size U X → X.cell? ⟨w1.heap.size, 0, none⟩ = some (.int .u8 (h3.k.toNat : Int)) ∧ X.cell? ⟨w1.heap.size, 1, none⟩ = some (.int .u64 (h3.s.a.toNat : Int)) ∧ X.cell? ⟨w1.heap.size, 2, none⟩ = some (.int .u64 (h3.s.b.toNat : Int)) ∧ X.cell? ⟨w1.heap.size, 3, none⟩ = some (.int .u64 (h3.s.c.toNat : Int)) ∧ X.cell? ⟨w1.heap.size, 4, none⟩ = some (.int .u64 (h3.s.d.toNat : Int)) ∧ X.cell? ⟨w1.heap.size, 5, none⟩ = some (.slice A3 k3.length c3)) := by
        intro X hX
        obtain ⟨y0, y1, y2, y3, y4, y5⟩ := re_at_box ((hX.block _ (lt_of_block n1)).trans n1)
        exact ⟨y0, y1, y2, y3, y4, y5⟩
      obtain ⟨x0, x1, x2, x3, x4, x5, x6⟩ := Q1.out _ HBU.out
      rw [← HU.out] at x0 x1 x2 x3 x4 x5 x6
      clear hU hbU n1 hr3 e3 hb1 CBa
      go_wp2_with fail
      rw [HU.out]
      -- the ends
      refine (CE.out _ HBU.out).mono ?_
      rintro e w2 ⟨rfl, hb2⟩
      have HV2 : Hid (Below U.heap.size U w2) := hb2
      obtain ⟨x0, x1, x2, x3, x4, x5, x6⟩ := Q1.out _ (below_from HBU.out HV2.out)
      clear hb2
      go_wp2_with fail
      refine (CM.out _ (below_from HBU.out HV2.out)).mono ?_
      rintro e w3 ⟨rfl, hb3⟩
      have HV3 : Hid (Below U.heap.size U w3) := below_from HV2.out hb3
      obtain ⟨x0, x1, x2, x3, x4, x5, x6⟩ := Q1.out _ (below_from HBU.out HV3.out)
      obtain ⟨y0, y1, y2, y3, y4, y5⟩ := Q2.out _ HV3.out
      clear hb3
      go_wp2_with fail
      refine (CSr.out h3 ⟨0, S4.zero⟩ k3 [] A3 none c3 0 _ E3.out rfl ((HRU.out.below HV3.out).weak fun _ _ => trivial) (by simp [InRow])).mono ?_
      rintro e w5 ⟨rfl, hb5⟩
      have HV5 : Hid (Below U.heap.size U w5) := below_from HV3.out hb5
      obtain ⟨x0, x1, x2, x3, x4, x5, x6⟩ := Q1.out _ (below_from HBU.out HV5.out)
      obtain ⟨y0, y1, y2, y3, y4, y5⟩ := Q2.out _ HV5.out
      clear hb5
      go_wp2_with fail
      refine (CNl.out _ (below_from HBU.out HV5.out)).mono ?_
      rintro e w6 ⟨rfl, hb6⟩
      have HV6 : Hid (Below U.heap.size U w6) := below_from HV5.out hb6
      obtain ⟨x0, x1, x2, x3, x4, x5, x6⟩ := Q1.out _ (below_from HBU.out HV6.out)
      obtain ⟨y0, y1, y2, y3, y4, y5⟩ := Q2.out _ HV6.out
      clear hb6
      go_wp2_with fail
      refine (CA.out _ (below_from HBU.out HV6.out)).mono ?_
      rintro e w7 ⟨rfl, hb7⟩
      have HV7 : Hid (Below U.heap.size U w7) := below_from HV6.out hb7
      have hb := below_from HW.out (below_from HBU.out HV7.out)
      clear hb7
      go_wp2_with fail
      go_ret
      exact ⟨rfl, hb⟩
    · have hok := (may_okC hm1).1
      have hok2 := bare_ok _ hok
      have hmb : mayB (bareT (.mk h ks)) = true := by
        unfold mayB
        rw [hok2]
        simp only [Bool.true_and, decide_eq_true_eq]
        omega
      have hen : endsM (.mk h ks) = endsC (.mk h ks) := by unfold endsM; rw [hm1]; rfl
      have hnu := null_ends _ hok
      have CM' := Lib.hid (refEnds_all _ hok hpv (by omega))
      have COe0 : Hid (∀ X, Below W.heap.size W X → Calls Tryz.prog 13 #[coV h A ks.length c] X fun e w' => e = .returned (endsV (endsC (.mk h ks))) ∧ Below X.heap.size X w') := fun X hX => CM'.out h ks rfl (fun _ => True) A c X hc (HR.out.below (below_from HW.out hX))
      have CN70 := Lib.hid (null_all_ok _ hok2)
      have CN71 : Hid (∀ (h4 : RH) (k4 : List Re) (A4 : Option Addr) (c4 : Nat) (X : World), bareT (.mk h ks) = T.mk h4 k4 → k4.length ≤ c4 → InRow RE (fun _ => True) X k4 A4 0 → Calls Tryz.prog 14 #[reV h4 A4 k4.length c4] X fun e w' => e = .returned (.bool (endsC (.mk h ks)).isSome) ∧ Below X.heap.size X w') := fun h4 k4 A4 c4 X e4 hc4 hr4 => by
        have := CN70.out h4 k4 e4 (fun _ => True) A4 c4 X hc4 hr4
        rw [← e4, hnu] at this
        exact this
      have COb : Hid (∀ X, Below W.heap.size W X → Calls Tryz.prog 12 #[coV h A ks.length c] X (ReNew (bareT (.mk h ks)) X)) := fun X hX => refBareC_upto (1 + T.sizes ks) (fun _ => True) h ks A c X (Nat.le_refl _) (by omega) hc (HR.out.below (below_from HW.out hX))
      have CM : Hid (∀ X, Below W.heap.size W X → Calls Tryz.prog 9 #[coV h A ks.length c] X fun e w' => e = .returned (.bool true) ∧ Below X.heap.size X w') := fun X hX => by
        have := refMayC_any h ks A c X (by omega) hc (HR.out.below (below_from HW.out hX)) hsh
        rwa [hm1] at this
      have CBa : Hid (∀ X, Below W.heap.size W X → Calls Tryz.prog 7 #[coV h A ks.length c] X fun e w' => Below X.heap.size X w' ∧ ∃ h3 k3 A3 c3, e = .returned (.tuple #[reV h3 A3 k3.length c3, .bool true]) ∧ (bareT (.mk h ks)) = T.mk h3 k3 ∧ k3.length ≤ c3 ∧ InRow RE (fun x => X.heap.size ≤ x) w' k3 A3 0) := fun X hX => by
        refine (cBare_any h ks A c X (by omega) hc (HR.out.below (below_from HW.out hX)) hsh).mono ?_
        rintro e w' ⟨hb, (⟨hf, he⟩ | ⟨hf, h3, k3, A3, c3, he, e3, hc3, hr3⟩)⟩
        · rw [hm1, hmb] at hf; cases hf
        · exact ⟨hb, h3, k3, A3, c3, he, e3, hc3, hr3⟩
      have CSr : Hid (∀ (h3 h4 : RH) (k3 k4 : List Re) (A3 A4 : Option Addr) (c3 c4 : Nat) (X : World), (bareT (.mk h ks)) = T.mk h3 k3 → (bareT (.mk h ks)) = T.mk h4 k4 → InRow RE (fun _ => True) X k3 A3 0 → InRow RE (fun _ => True) X k4 A4 0 → Calls Tryz.prog 10 #[reV h3 A3 k3.length c3, reV h4 A4 k4.length c4] X fun e w' => e = .returned (.bool true) ∧ Below X.heap.size X w') := by
        intro h3 h4 k3 k4 A3 A4 c3 c4 X e3 e4 hr3 hr4
        have hsz : ((bareT (.mk h ks))).size ≤ 200 := by omega
        have z3 : T.sizes k3 ≤ 200 := by have := congrArg T.size e3; simp only [T.size] at this hsz; omega
        have z4 : T.sizes k4 ≤ 200 := by have := congrArg T.size e4; simp only [T.size] at this hsz; omega
        have := refSame_upto (1 + T.sizes k3) (fun _ => True) h3 h4 k3 k4 A3 A4 c3 c4 X (Nat.le_refl _) (by omega) (by omega) hr3 hr4
        rw [← e3, ← e4, sameT_refl] at this
        exact this
      rw [hen] at CE0 CN0
      clear hg hz hfew hsh hpv hbz hen hm1 hok hok2 hmb hnu CM' CN70
      generalize endsC (.mk h ks) = en at *
      rcases en with _ | u
      · have CE : Hid (∀ X, Below W.heap.size W X → Calls Tryz.prog 8 #[coV h A ks.length c] X fun e w' => e = .returned (.tuple #[.string ⟨#[]⟩, .bool false]) ∧ Below X.heap.size X w') := CE0.out
        have COe : Hid (∀ X, Below W.heap.size W X → Calls Tryz.prog 13 #[coV h A ks.length c] X fun e w' => e = .returned (.tuple #[.string ⟨#[]⟩, .bool false]) ∧ Below X.heap.size X w') := COe0.out
        have CNl : Hid (∀ X, Below W.heap.size W X → Calls Tryz.prog 11 #[coV h A ks.length c] X fun e w' => e = .returned (.bool false) ∧ Below X.heap.size X w') := CN0.out
        have CN7 : Hid (∀ (h4 : RH) (k4 : List Re) (A4 : Option Addr) (c4 : Nat) (X : World), bareT (.mk h ks) = T.mk h4 k4 → k4.length ≤ c4 → InRow RE (fun _ => True) X k4 A4 0 → Calls Tryz.prog 14 #[reV h4 A4 k4.length c4] X fun e w' => e = .returned (.bool false) ∧ Below X.heap.size X w') := CN71.out
        clear CE0 COe0 CN0 CN71
        go_enter Tryz.func3, Tryz.ntmps3
        go_wp2_with fail
        rw [HE.out]
        refine (CG.out _ (Below.refl _ _)).mono ?_
        rintro e w0 ⟨rfl, hb0⟩
        have HB0 := Lib.hid hb0
        obtain ⟨x0, x1, x2, x3, x4, x5, x6⟩ := Q1.out _ hb0
        clear hb0 CG
        go_wp2_with fail
        refine (CBa.out _ HB0.out).mono ?_
        rintro e w1 ⟨hb1, h3, k3, A3, c3, rfl, e3, hc3, hr3⟩
        have HB1 := Lib.hid (below_from HB0.out hb1)
        obtain ⟨U, hU⟩ : ∃ U, w1.alloc (.cells (reA h3 A3 k3.length c3) 32) = U := ⟨_, rfl⟩
        have hbU : Below w1.heap.size w1 U := by rw [← hU]; exact below_new (Below.refl _ _) _
        have HBU := Lib.hid (below_from HB1.out hbU)
        have n1 : U.heap[w1.heap.size]? = some (.cells (reA h3 A3 k3.length c3) 32 (0, 0)) := by rw [← hU]; exact new_at1 _
        have HRU := Lib.hid (hr3.below hbU)
        have E3 := Lib.hid e3
        have HU := Lib.hid hU
        have Q2 : Hid (∀ X, Below U.heap.size U X → X.cell? ⟨w1.heap.size, 0, none⟩ = some (.int .u8 (h3.k.toNat : Int)) ∧ X.cell? ⟨w1.heap.size, 1, none⟩ = some (.int .u64 (h3.s.a.toNat : Int)) ∧ X.cell? ⟨w1.heap.size, 2, none⟩ = some (.int .u64 (h3.s.b.toNat : Int)) ∧ X.cell? ⟨w1.heap.size, 3, none⟩ = some (.int .u64 (h3.s.c.toNat : Int)) ∧ X.cell? ⟨w1.heap.size, 4, none⟩ = some (.int .u64 (h3.s.d.toNat : Int)) ∧ X.cell? ⟨w1.heap.size, 5, none⟩ = some (.slice A3 k3.length c3)) := by
          intro X hX
          obtain ⟨y0, y1, y2, y3, y4, y5⟩ := re_at_box ((hX.block _ (lt_of_block n1)).trans n1)
          exact ⟨y0, y1, y2, y3, y4, y5⟩
        obtain ⟨x0, x1, x2, x3, x4, x5, x6⟩ := Q1.out _ HBU.out
        rw [← HU.out] at x0 x1 x2 x3 x4 x5 x6
        clear hU hbU n1 hr3 e3 hb1 CBa
        go_wp2_with fail
        rw [HU.out]
        refine (CE.out _ HBU.out).mono ?_
        rintro e w2 ⟨rfl, hb2⟩
        have HV2 : Hid (Below U.heap.size U w2) := hb2
        obtain ⟨x0, x1, x2, x3, x4, x5, x6⟩ := Q1.out _ (below_from HBU.out HV2.out)
        clear hb2
        go_wp2_with fail
        refine (CM.out _ (below_from HBU.out HV2.out)).mono ?_
        rintro e w3 ⟨rfl, hb3⟩
        have HV3 : Hid (Below U.heap.size U w3) := below_from HV2.out hb3
        obtain ⟨x0, x1, x2, x3, x4, x5, x6⟩ := Q1.out _ (below_from HBU.out HV3.out)
        clear hb3
        go_wp2_with fail
        refine (COb.out _ (below_from HBU.out HV3.out)).mono ?_
        rintro e w4 ⟨h4, k4, A4, c4, rfl, e4, hc4, hr4, hb4⟩
        have HV4 : Hid (Below U.heap.size U w4) := below_from HV3.out hb4
        obtain ⟨V, hV⟩ : ∃ V, w4.alloc (.cells (reA h4 A4 k4.length c4) 32) = V := ⟨_, rfl⟩
        have hbV : Below w4.heap.size w4 V := by rw [← hV]; exact below_new (Below.refl _ _) _
        have n4 : V.heap[w4.heap.size]? = some (.cells (reA h4 A4 k4.length c4) 32 (0, 0)) := by rw [← hV]; exact new_at1 _
        have HVV : Hid (Below U.heap.size U V) := below_from HV4.out hbV
        have HRV := Lib.hid (hr4.below hbV)
        have E4 := Lib.hid e4
        have Q3 : Hid (∀ X, Below V.heap.size V X → X.cell? ⟨w4.heap.size, 0, none⟩ = some (.int .u8 (h4.k.toNat : Int)) ∧ X.cell? ⟨w4.heap.size, 1, none⟩ = some (.int .u64 (h4.s.a.toNat : Int)) ∧ X.cell? ⟨w4.heap.size, 2, none⟩ = some (.int .u64 (h4.s.b.toNat : Int)) ∧ X.cell? ⟨w4.heap.size, 3, none⟩ = some (.int .u64 (h4.s.c.toNat : Int)) ∧ X.cell? ⟨w4.heap.size, 4, none⟩ = some (.int .u64 (h4.s.d.toNat : Int)) ∧ X.cell? ⟨w4.heap.size, 5, none⟩ = some (.slice A4 k4.length c4)) := by
          intro X hX
          obtain ⟨z0, z1, z2, z3, z4, z5⟩ := re_at_box ((hX.block _ (lt_of_block n4)).trans n4)
          exact ⟨z0, z1, z2, z3, z4, z5⟩
        have HV := Lib.hid hV
        obtain ⟨x0, x1, x2, x3, x4, x5, x6⟩ := Q1.out _ (below_from HBU.out HVV.out)
        rw [← HV.out] at x0 x1 x2 x3 x4 x5 x6
        clear hV hbV n4 hr4 e4 hb4
        go_wp2_with fail
        rw [HV.out]
        refine (COe.out _ (below_from HBU.out HVV.out)).mono ?_
        rintro e w5 ⟨rfl, hb5⟩
        have HX5 : Hid (Below V.heap.size V w5) := hb5
        clear hb5
        obtain ⟨x0, x1, x2, x3, x4, x5, x6⟩ := Q1.out _ (below_from HBU.out (below_from HVV.out HX5.out))
        obtain ⟨y0, y1, y2, y3, y4, y5⟩ := Q2.out _ (below_from HVV.out HX5.out)
        obtain ⟨z0, z1, z2, z3, z4, z5⟩ := Q3.out _ HX5.out
        go_wp2_with fail
        refine (CSr.out h3 h4 k3 k4 A3 A4 c3 c4 _ E3.out E4.out ((HRU.out.below (below_from HVV.out HX5.out)).weak fun _ _ => trivial) ((HRV.out.below HX5.out).weak fun _ _ => trivial)).mono ?_
        rintro e w6 ⟨rfl, hb6⟩
        have HX6 : Hid (Below V.heap.size V w6) := below_from HX5.out hb6
        clear hb6
        obtain ⟨x0, x1, x2, x3, x4, x5, x6⟩ := Q1.out _ (below_from HBU.out (below_from HVV.out HX6.out))
        obtain ⟨y0, y1, y2, y3, y4, y5⟩ := Q2.out _ (below_from HVV.out HX6.out)
        obtain ⟨z0, z1, z2, z3, z4, z5⟩ := Q3.out _ HX6.out
        go_wp2_with fail
        refine (CNl.out _ (below_from HBU.out (below_from HVV.out HX6.out))).mono ?_
        rintro e w7 ⟨rfl, hb7⟩
        have HX7 : Hid (Below V.heap.size V w7) := below_from HX6.out hb7
        clear hb7
        obtain ⟨x0, x1, x2, x3, x4, x5, x6⟩ := Q1.out _ (below_from HBU.out (below_from HVV.out HX7.out))
        obtain ⟨y0, y1, y2, y3, y4, y5⟩ := Q2.out _ (below_from HVV.out HX7.out)
        obtain ⟨z0, z1, z2, z3, z4, z5⟩ := Q3.out _ HX7.out
        go_wp2_with fail
        refine (CN7.out h4 k4 A4 c4 _ E4.out hc4 ((HRV.out.below HX7.out).weak fun _ _ => trivial)).mono ?_
        rintro e w8 ⟨rfl, hb8⟩
        have HX8 : Hid (Below V.heap.size V w8) := below_from HX7.out hb8
        clear hb8
        obtain ⟨x0, x1, x2, x3, x4, x5, x6⟩ := Q1.out _ (below_from HBU.out (below_from HVV.out HX8.out))
        obtain ⟨y0, y1, y2, y3, y4, y5⟩ := Q2.out _ (below_from HVV.out HX8.out)
        obtain ⟨z0, z1, z2, z3, z4, z5⟩ := Q3.out _ HX8.out
        go_wp2_with fail
        refine (CA.out _ (below_from HBU.out (below_from HVV.out HX8.out))).mono ?_
        rintro e w9 ⟨rfl, hb9⟩
        have hb := below_from HW.out (below_from HBU.out (below_from HVV.out (below_from HX8.out hb9)))
        clear hb9
        go_wp2_with fail
        go_ret
        exact ⟨rfl, hb⟩
      · have CE : Hid (∀ X, Below W.heap.size W X → Calls Tryz.prog 8 #[coV h A ks.length c] X fun e w' => e = .returned (.tuple #[.string (str u), .bool true]) ∧ Below X.heap.size X w') := CE0.out
        have COe : Hid (∀ X, Below W.heap.size W X → Calls Tryz.prog 13 #[coV h A ks.length c] X fun e w' => e = .returned (.tuple #[.string (str u), .bool true]) ∧ Below X.heap.size X w') := COe0.out
        have CNl : Hid (∀ X, Below W.heap.size W X → Calls Tryz.prog 11 #[coV h A ks.length c] X fun e w' => e = .returned (.bool true) ∧ Below X.heap.size X w') := CN0.out
        have CN7 : Hid (∀ (h4 : RH) (k4 : List Re) (A4 : Option Addr) (c4 : Nat) (X : World), bareT (.mk h ks) = T.mk h4 k4 → k4.length ≤ c4 → InRow RE (fun _ => True) X k4 A4 0 → Calls Tryz.prog 14 #[reV h4 A4 k4.length c4] X fun e w' => e = .returned (.bool true) ∧ Below X.heap.size X w') := CN71.out
        clear CE0 COe0 CN0 CN71
        go_enter Tryz.func3, Tryz.ntmps3
        go_wp2_with fail
        rw [HE.out]
        refine (CG.out _ (Below.refl _ _)).mono ?_
        rintro e w0 ⟨rfl, hb0⟩
        have HB0 := Lib.hid hb0
        obtain ⟨x0, x1, x2, x3, x4, x5, x6⟩ := Q1.out _ hb0
        clear hb0 CG
        go_wp2_with fail
        refine (CBa.out _ HB0.out).mono ?_
        rintro e w1 ⟨hb1, h3, k3, A3, c3, rfl, e3, hc3, hr3⟩
        have HB1 := Lib.hid (below_from HB0.out hb1)
        obtain ⟨U, hU⟩ : ∃ U, w1.alloc (.cells (reA h3 A3 k3.length c3) 32) = U := ⟨_, rfl⟩
        have hbU : Below w1.heap.size w1 U := by rw [← hU]; exact below_new (Below.refl _ _) _
        have HBU := Lib.hid (below_from HB1.out hbU)
        have n1 : U.heap[w1.heap.size]? = some (.cells (reA h3 A3 k3.length c3) 32 (0, 0)) := by rw [← hU]; exact new_at1 _
        have HRU := Lib.hid (hr3.below hbU)
        have E3 := Lib.hid e3
        have HU := Lib.hid hU
        have Q2 : Hid (∀ X, Below U.heap.size U X → X.cell? ⟨w1.heap.size, 0, none⟩ = some (.int .u8 (h3.k.toNat : Int)) ∧ X.cell? ⟨w1.heap.size, 1, none⟩ = some (.int .u64 (h3.s.a.toNat : Int)) ∧ X.cell? ⟨w1.heap.size, 2, none⟩ = some (.int .u64 (h3.s.b.toNat : Int)) ∧ X.cell? ⟨w1.heap.size, 3, none⟩ = some (.int .u64 (h3.s.c.toNat : Int)) ∧ X.cell? ⟨w1.heap.size, 4, none⟩ = some (.int .u64 (h3.s.d.toNat : Int)) ∧ X.cell? ⟨w1.heap.size, 5, none⟩ = some (.slice A3 k3.length c3)) := by
          intro X hX
          obtain ⟨y0, y1, y2, y3, y4, y5⟩ := re_at_box ((hX.block _ (lt_of_block n1)).trans n1)
          exact ⟨y0, y1, y2, y3, y4, y5⟩
        obtain ⟨x0, x1, x2, x3, x4, x5, x6⟩ := Q1.out _ HBU.out
        rw [← HU.out] at x0 x1 x2 x3 x4 x5 x6
        clear hU hbU n1 hr3 e3 hb1 CBa
        go_wp2_with fail
        rw [HU.out]
        refine (CE.out _ HBU.out).mono ?_
        rintro e w2 ⟨rfl, hb2⟩
        have HV2 : Hid (Below U.heap.size U w2) := hb2
        obtain ⟨x0, x1, x2, x3, x4, x5, x6⟩ := Q1.out _ (below_from HBU.out HV2.out)
        clear hb2
        go_wp2_with fail
        refine (CM.out _ (below_from HBU.out HV2.out)).mono ?_
        rintro e w3 ⟨rfl, hb3⟩
        have HV3 : Hid (Below U.heap.size U w3) := below_from HV2.out hb3
        obtain ⟨x0, x1, x2, x3, x4, x5, x6⟩ := Q1.out _ (below_from HBU.out HV3.out)
        clear hb3
        go_wp2_with fail
        refine (COb.out _ (below_from HBU.out HV3.out)).mono ?_
        rintro e w4 ⟨h4, k4, A4, c4, rfl, e4, hc4, hr4, hb4⟩
        have HV4 : Hid (Below U.heap.size U w4) := below_from HV3.out hb4
        obtain ⟨V, hV⟩ : ∃ V, w4.alloc (.cells (reA h4 A4 k4.length c4) 32) = V := ⟨_, rfl⟩
        have hbV : Below w4.heap.size w4 V := by rw [← hV]; exact below_new (Below.refl _ _) _
        have n4 : V.heap[w4.heap.size]? = some (.cells (reA h4 A4 k4.length c4) 32 (0, 0)) := by rw [← hV]; exact new_at1 _
        have HVV : Hid (Below U.heap.size U V) := below_from HV4.out hbV
        have HRV := Lib.hid (hr4.below hbV)
        have E4 := Lib.hid e4
        have Q3 : Hid (∀ X, Below V.heap.size V X → X.cell? ⟨w4.heap.size, 0, none⟩ = some (.int .u8 (h4.k.toNat : Int)) ∧ X.cell? ⟨w4.heap.size, 1, none⟩ = some (.int .u64 (h4.s.a.toNat : Int)) ∧ X.cell? ⟨w4.heap.size, 2, none⟩ = some (.int .u64 (h4.s.b.toNat : Int)) ∧ X.cell? ⟨w4.heap.size, 3, none⟩ = some (.int .u64 (h4.s.c.toNat : Int)) ∧ X.cell? ⟨w4.heap.size, 4, none⟩ = some (.int .u64 (h4.s.d.toNat : Int)) ∧ X.cell? ⟨w4.heap.size, 5, none⟩ = some (.slice A4 k4.length c4)) := by
          intro X hX
          obtain ⟨z0, z1, z2, z3, z4, z5⟩ := re_at_box ((hX.block _ (lt_of_block n4)).trans n4)
          exact ⟨z0, z1, z2, z3, z4, z5⟩
        have HV := Lib.hid hV
        obtain ⟨x0, x1, x2, x3, x4, x5, x6⟩ := Q1.out _ (below_from HBU.out HVV.out)
        rw [← HV.out] at x0 x1 x2 x3 x4 x5 x6
        clear hV hbV n4 hr4 e4 hb4
        go_wp2_with fail
        rw [HV.out]
        refine (COe.out _ (below_from HBU.out HVV.out)).mono ?_
        rintro e w5 ⟨rfl, hb5⟩
        have HX5 : Hid (Below V.heap.size V w5) := hb5
        clear hb5
        obtain ⟨x0, x1, x2, x3, x4, x5, x6⟩ := Q1.out _ (below_from HBU.out (below_from HVV.out HX5.out))
        obtain ⟨y0, y1, y2, y3, y4, y5⟩ := Q2.out _ (below_from HVV.out HX5.out)
        obtain ⟨z0, z1, z2, z3, z4, z5⟩ := Q3.out _ HX5.out
        go_wp2_with fail
        refine (CSr.out h3 h4 k3 k4 A3 A4 c3 c4 _ E3.out E4.out ((HRU.out.below (below_from HVV.out HX5.out)).weak fun _ _ => trivial) ((HRV.out.below HX5.out).weak fun _ _ => trivial)).mono ?_
        rintro e w6 ⟨rfl, hb6⟩
        have HX6 : Hid (Below V.heap.size V w6) := below_from HX5.out hb6
        clear hb6
        obtain ⟨x0, x1, x2, x3, x4, x5, x6⟩ := Q1.out _ (below_from HBU.out (below_from HVV.out HX6.out))
        obtain ⟨y0, y1, y2, y3, y4, y5⟩ := Q2.out _ (below_from HVV.out HX6.out)
        obtain ⟨z0, z1, z2, z3, z4, z5⟩ := Q3.out _ HX6.out
        go_wp2_with fail
        refine (CNl.out _ (below_from HBU.out (below_from HVV.out HX6.out))).mono ?_
        rintro e w7 ⟨rfl, hb7⟩
        have HX7 : Hid (Below V.heap.size V w7) := below_from HX6.out hb7
        clear hb7
        obtain ⟨x0, x1, x2, x3, x4, x5, x6⟩ := Q1.out _ (below_from HBU.out (below_from HVV.out HX7.out))
        obtain ⟨y0, y1, y2, y3, y4, y5⟩ := Q2.out _ (below_from HVV.out HX7.out)
        obtain ⟨z0, z1, z2, z3, z4, z5⟩ := Q3.out _ HX7.out
        go_wp2_with fail
        refine (CN7.out h4 k4 A4 c4 _ E4.out hc4 ((HRV.out.below HX7.out).weak fun _ _ => trivial)).mono ?_
        rintro e w8 ⟨rfl, hb8⟩
        have HX8 : Hid (Below V.heap.size V w8) := below_from HX7.out hb8
        clear hb8
        obtain ⟨x0, x1, x2, x3, x4, x5, x6⟩ := Q1.out _ (below_from HBU.out (below_from HVV.out HX8.out))
        obtain ⟨y0, y1, y2, y3, y4, y5⟩ := Q2.out _ (below_from HVV.out HX8.out)
        obtain ⟨z0, z1, z2, z3, z4, z5⟩ := Q3.out _ HX8.out
        go_wp2_with fail
        refine (CA.out _ (below_from HBU.out (below_from HVV.out HX8.out))).mono ?_
        rintro e w9 ⟨rfl, hb9⟩
        have hb := below_from HW.out (below_from HBU.out (below_from HVV.out (below_from HX8.out hb9)))
        clear hb9
        go_wp2_with fail
        go_ret
        exact ⟨rfl, hb⟩
  · rw [hg] at CG
    clear hg
    go_enter Tryz.func3, Tryz.ntmps3
    go_wp2_with fail
    rw [HE.out]
    refine (CG.out _ (Below.refl _ _)).mono ?_
    rintro e w0 ⟨rfl, hb0⟩
    have HB0 := Lib.hid hb0
    clear hb0
    go_wp2_with fail
    refine (CA.out _ HB0.out).mono ?_
    rintro e w4 ⟨rfl, hb4⟩
    have hb := below_from HW.out (below_from HB0.out hb4)
    clear hb4
    go_wp2_with fail
    go_ret
    exact ⟨rfl, hb⟩
namespace lawCodedEnds
open Go.ChangeShapes Go.WideShapes Go.ChangeAt
open Go.ChangeMaps (open_string)
set_option maxRecDepth 100000 in
theorem contract (H : Type) (enc : TypeId × Value → H) (W : World) (base : Nat) (args : Array Value) (ds gs : List (DataW H)) (before : List MemPlace)
    (hval : ∀ (j : Nat) t v, Tryz.f3.params[j]? = some t → args[j]? = some v → Value.okWide Tryz.prog W .any base t v)
    (hW : DataW.Whole enc Tryz.prog Tryz.f3.params.toList Rows.codedEndsSpec.vars false W args.toList ds gs before) (hL : laidMetH Tryz.prog Rows.codedEndsUptoRow.laid W) (hk : Rows.uptoSmall H (ds ++ gs) = true) :
    Calls Tryz.prog 3 args W fun e W' => ∃ v, e = .returned v ∧ Rows.codedEndsSpec.post enc Tryz.prog Tryz.f3 false true false false W args v W' := by
  have hW' := hW
  obtain ⟨p, q, hA0, hV, rfl, hfz, hnd⟩ := hW
  have hA : DataW.TrodAll enc Tryz.prog W 0 (fun _ => true) true Tryz.f3.params.toList args.toList ds p := hA0
  rw [Tryz.params3] at hA hval
  obtain ⟨v0, vs0, d0, ds0, p0, q0, hargs, rfl, rfl, h0, r0⟩ := trodAll_cons hA
  obtain ⟨rfl, rfl, rfl⟩ := trodAll_nil r0
  obtain rfl : args = #[v0] := by cases args; simp_all
  obtain ⟨rfl, rfl⟩ := trodVars_none hV
  have hkk : Rows.uptoBulk d0 ≤ 1048576 := by simp [Rows.uptoSmall, Rows.uptoBulkAll] at hk; omega
  obtain ⟨x, kx, A0, c0, rfl, hc0, hr0, hz0⟩ := open_coded (hval 0 27 v0 rfl rfl) h0
  have HT : TzOk W := tz_of_laid hL
  refine (codedEnds_walk x kx A0 c0 W (by omega) hc0 hr0 HT).mono fun e W' ⟨he, hb⟩ => ?_
  subst he
  exact ⟨_, rfl, post_true Tryz.laidOut (by rw [Tryz.params3]; intro t ht; simp at ht; rcases ht with rfl <;> exact ⟨by kernel_rfl, of_decide_eq_true (by kernel_rfl)⟩) hW' rfl rfl rfl Tryz.underlying4 hb⟩
theorem laid_met (os : Os) : laidMet Tryz.prog Rows.codedEndsUptoRow.laid ((utfWorld os).forCall (fun _ _ => 0) ⟨#[], #[.agg #[.int .u8 0, .string ByteArray.empty, .int .u64 0, .int .u64 0, .int .u64 0, .int .u64 0, .slice none 0 0]], []⟩).memory :=
  laidMet_of_run' 600 (by kernel_rfl) (by kernel_rfl)
theorem reads (os : Os) {H : Type} (enc : TypeId × Value → H) : ∃ places, DataW.whole enc Tryz.prog ((utfWorld os).forCall (fun _ _ => 0) ⟨#[], #[.agg #[.int .u8 0, .string ByteArray.empty, .int .u64 0, .int .u64 0, .int .u64 0, .int .u64 0, .slice none 0 0]], []⟩).memory Tryz.f3.params.toList Rows.codedEndsSpec.vars false (#[.agg #[.int .u8 0, .string ByteArray.empty, .int .u64 0, .int .u64 0, .int .u64 0, .int .u64 0, .slice none 0 0]] : Array Value).toList 8 = some ([.agg [.lit (.int .u8 0), .lit (.string []), .agg [.lit (.int .u64 0), .lit (.int .u64 0), .lit (.int .u64 0), .lit (.int .u64 0)], .nil]], [], places) :=
  ⟨[], by kernel_rfl⟩
set_option maxRecDepth 100000 in
theorem lifted (os : Os) (started : os.Started) (H : Type) (enc : TypeId × Value → H) (F : Stop.Interp) :
    ReturnsInHanded {} Tryz.checked os 3 .any ((Rows.OpenSpec.upto Rows.codedEndsSpec).preRow enc Tryz.prog Tryz.f3 Rows.codedEndsUptoRow.domain false Rows.codedEndsUptoRow.laid) (((Rows.OpenSpec.upto Rows.codedEndsSpec).at F).post enc Tryz.prog Tryz.f3 false true false false) := by
  obtain ⟨places, hx⟩ := reads os enc
  refine returnsInHanded_of_row (C := Tryz.checked) (s := Rows.OpenSpec.upto Rows.codedEndsSpec) Tryz.own started (by kernel_rfl) Tryz.func3
    (witness_row_at (enc := enc) (C := Tryz.checked) false (utfWorld os) #[.agg #[.int .u8 0, .string ByteArray.empty, .int .u64 0, .int .u64 0, .int .u64 0, .int .u64 0, .slice none 0 0]] rfl (by kernel_rfl) (by kernel_rfl) (by kernel_rfl)
      (OpenSpec.preRow_of_cond 8 hx (by kernel_rfl) (fun k hk => by cases hk; kernel_rfl) (by kernel_rfl) (laid_met os))) ?_
  intro W base args ds gs before hval hW _ hcond _ hL _ _
  exact contract H enc W base args ds gs before hval hW hL (hcond _ rfl)
theorem said : Rows.CodedEndsUptoSaid :=
  OpenClaim.holds_of_cond 3 Tryz.f3 rfl rfl rfl rfl rfl rfl rfl ⟨rfl, rfl, rfl, rfl, rfl⟩ rfl rfl rfl rfl rfl (by kernel_rfl) Tryz.func3 (by kernel_rfl)
    (of_decide_eq_true (by kernel_rfl)) (by unfold Func.isWrapper; first | (rw [if_pos (by decide +kernel)]; kernel_rfl) | (rw [if_neg (by decide +kernel)]; exact ⟨rfl, rfl⟩))
    (fun os started H enc _ F => by rw [OpenClaim.pre_eq_preRow]; exact lifted os started H enc F)
theorem plain (f : FuncId) (fn : Func) (hf : Tryz.pinned.checked.prog.funcNamed "quill/quilllaw16.CodedEnds" = some f) (hfn : Tryz.pinned.checked.prog.funcs[f]? = some fn) :
    true = Tryz.pinned.checked.prog.looks [] ∧ ∀ (j : Nat) t, fn.params[j]? = some t → Tryz.pinned.checked.prog.wantsStandIn t = false := by
  obtain rfl : f = 3 := Option.some.inj ((show Tryz.prog.funcNamed "quill/quilllaw16.CodedEnds" = some 3 by kernel_rfl).symm.trans hf) |>.symm
  obtain rfl : fn = Tryz.f3 := (Option.some.inj (Tryz.func3.symm.trans hfn)).symm
  refine ⟨by kernel_rfl, fun j t ht => ?_⟩
  rw [Tryz.params3] at ht
  have hm := Array.mem_of_getElem? ht
  simp at hm
  rcases hm with rfl
  · exact (show Tryz.prog.wantsStandIn 27 = false by kernel_rfl)
theorem proved : Rows.CodedEndsUptoCardSaid :=
  Claim7.holds_tied_plain_at .later [] _ _ _ _ said (fun _ h => by cases h) (by kernel_rfl) (fun _ h => by cases h) codedEndsUpto_row_tie rfl ⟨rfl, rfl⟩ (by kernel_rfl) rfl plain (by kernel_rfl)
end lawCodedEnds
end Go.Proofs.YtfbnlpoinieijaaGreatDoor
