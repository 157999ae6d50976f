/- What the document takes of bits: Take; how many values that are (plain). -/
import Derived.Test.YteokbmngebckjaaDoorRk4
import Derived.Test.YteokbmngebckjaaDoorTn6
import Derived.Test.YteokbmngebckjaaDoorBd
namespace Go.Proofs.YteokbmngebckjaaDoor
open Go.RowKit
set_option linter.unusedVariables false
set_option linter.unusedSimpArgs false

theorem starB_size {f : List UInt8 → Option (Va × List UInt8)} {X : Nat} (hf : ∀ s v r, f s = some (v, r) → r.length ≤ s.length ∧ v.size ≤ X * (s.length - r.length + 1)) : ∀ (n : Nat) (s : List UInt8) (l : List Va) (r : List UInt8), starB f n s = some (l, r) → r.length < s.length ∧ T.sizes l ≤ X * (s.length - r.length - 1)
  | 0, s, l, r, h => by simp [starB] at h
  | n + 1, [], l, r, h => by simp [starB] at h
  | n + 1, c :: s, l, r, h => by
    simp only [starB] at h
    split at h
    · rcases e : f s with _ | ⟨v, s1⟩
      · rw [e] at h; cases h
      · rw [e] at h
        simp only at h
        rcases e2 : starB f n s1 with _ | ⟨l2, s2⟩
        · rw [e2] at h; cases h
        · rw [e2] at h
          simp only [Option.map_some, Option.some.injEq, Prod.mk.injEq] at h
          obtain ⟨rfl, rfl⟩ := h
          obtain ⟨h1, h2⟩ := hf _ _ _ e
          obtain ⟨h3, h4⟩ := starB_size hf n _ _ _ e2
          refine ⟨by simp only [List.length_cons]; omega, ?_⟩
          simp only [T.sizes, List.length_cons]
          have h5 : X * (s.length - s1.length + 1) + X * (s1.length - s2.length - 1) = X * (s.length + 1 - s2.length - 1) := by
            rw [← Nat.mul_add]; congr 1; omega
          omega
    · split at h
      · simp only [Option.some.injEq, Prod.mk.injEq] at h
        obtain ⟨rfl, rfl⟩ := h
        exact ⟨by simp, by simp [T.sizes]⟩
      · cases h
def SizeT (t : Re) : Prop := ∀ s v r, takeT t s = some (v, r) → r.length ≤ s.length ∧ v.size ≤ t.size * (s.length - r.length + 1)
theorem take_size : ∀ t : Re, okT t = true → SizeT t := by
  refine okT_ind ?_ ?_ ?_ ?_ ?_ ?_
  · intro s v r h; rw [take_emp] at h; cases h
  · intro s v r h; rw [take_eps] at h; cases h; exact ⟨Nat.le_refl _, by simp [T.size, T.sizes]⟩
  · intro S0 hz s v r h; rw [take_cls] at h; cases h; exact ⟨Nat.le_refl _, by simp [T.size, T.sizes]⟩
  · intro x y hx hy ihx ihy s v r h
    rw [take_seq] at h
    rcases e : takeT x s with _ | ⟨va, s1⟩
    · rw [e] at h; cases h
    · rw [e] at h
      simp only at h
      rcases e2 : takeT y s1 with _ | ⟨vb, s2⟩
      · rw [e2] at h; simp at h
      · rw [e2] at h
        simp at h
        obtain ⟨rfl, rfl⟩ := h
        obtain ⟨h1, h2⟩ := ihx _ _ _ e
        obtain ⟨h3, h4⟩ := ihy _ _ _ e2
        refine ⟨by omega, ?_⟩
        simp only [T.size, T.sizes]
        have h5 := Nat.mul_le_mul_left x.size (show s.length - s1.length + 1 ≤ s.length - s2.length + 1 by omega)
        have h6 := Nat.mul_le_mul_left y.size (show s1.length - s2.length + 1 ≤ s.length - s2.length + 1 by omega)
        have h7 : (1 + (x.size + (y.size + 0))) * (s.length - s2.length + 1) = (s.length - s2.length + 1) + (x.size * (s.length - s2.length + 1) + y.size * (s.length - s2.length + 1)) := by
          rw [Nat.add_zero, Nat.add_mul, Nat.add_mul, Nat.one_mul]
        omega
  · intro x y hx hy ihx ihy s v r h
    rw [take_alt] at h
    rcases s with _ | ⟨c, s⟩
    · cases h
    · simp only at h
      have hk : ∀ (z : Re) (u : Va) (s1 : List UInt8), z.size ≤ x.size + y.size → SizeT z → takeT z s = some (u, s1) → s1.length ≤ (c :: s).length ∧ 1 + u.size ≤ (1 + (x.size + (y.size + 0))) * ((c :: s).length - s1.length + 1) := fun z u s1 hz hzz e => by
        obtain ⟨h1, h2⟩ := hzz _ _ _ e
        refine ⟨by simp only [List.length_cons]; omega, ?_⟩
        simp only [List.length_cons]
        have h5 := Nat.mul_le_mul hz (show s.length - s1.length + 1 ≤ s.length + 1 - s1.length + 1 by omega)
        have h7 : (1 + (x.size + (y.size + 0))) * (s.length + 1 - s1.length + 1) = (s.length + 1 - s1.length + 1) + (x.size + y.size) * (s.length + 1 - s1.length + 1) := by
          rw [Nat.add_zero, Nat.add_mul, Nat.one_mul]
        omega
      split at h
      · rcases e : takeT x s with _ | ⟨u, s1⟩
        · rw [e] at h; cases h
        · rw [e] at h
          simp at h
          obtain ⟨rfl, rfl⟩ := h
          simp only [T.size, T.sizes, Nat.add_zero]
          have := hk x u s1 (by omega) ihx e
          simpa [Nat.add_zero] using this
      · split at h
        · rcases e : takeT y s with _ | ⟨u, s1⟩
          · rw [e] at h; cases h
          · rw [e] at h
            simp at h
            obtain ⟨rfl, rfl⟩ := h
            simp only [T.size, T.sizes, Nat.add_zero]
            have := hk y u s1 (by omega) ihy e
            simpa [Nat.add_zero] using this
        · cases h
  · intro x hx ih s v r h
    rw [take_star] at h
    rcases e : starB (takeT x) (s.length + 1) s with _ | ⟨l, s1⟩
    · rw [e] at h; cases h
    · rw [e] at h
      simp at h
      obtain ⟨rfl, rfl⟩ := h
      obtain ⟨h1, h2⟩ := starB_size ih _ _ _ _ e
      refine ⟨by omega, ?_⟩
      simp only [T.size, T.sizes, Nat.add_zero]
      have h5 := Nat.mul_le_mul_left x.size (show s.length - s1.length - 1 ≤ s.length - s1.length + 1 by omega)
      rw [Nat.add_mul, Nat.one_mul]
      omega
theorem takeR_size (t : Re) (s : List UInt8) : (takeR t s).1.size ≤ t.size * (s.length + 1) := by
  have hp := T.size_pos t
  have h1 : 1 ≤ t.size * (s.length + 1) := Nat.mul_le_mul hp (Nat.succ_le_succ (Nat.zero_le _))
  unfold takeR
  split
  · rename_i hm
    rcases e : takeT t s with _ | ⟨v, r⟩
    · simpa [T.size, T.sizes] using h1
    · obtain ⟨h2, h3⟩ := take_size t (may_okT hm) _ _ _ e
      exact Nat.le_trans h3 (Nat.mul_le_mul_left _ (by omega))
  · simpa [T.size, T.sizes] using h1
set_option maxRecDepth 100000 in
set_option maxHeartbeats 4000000 in
theorem rTake_any {P : Nat → Prop} (h : RH) (ks : List Re) (A : Option Addr) (c : Nat) (S : ByteArray) (w : World) (hm : T.sizes ks ≤ 900000) (hc : ks.length ≤ c) (hr : InRow RE P w ks A 0) (hS : S.size ≤ 1000000000) :
    Calls Tryd.prog 9 #[reV h A ks.length c, .string S] w (TakeRPost (takeR (.mk h ks) S.data.toList) w) := by
  obtain ⟨W, hW, hbW, hsW, e1W, e2W⟩ := reva_pre w h A ks.length c
  have CM := Lib.hid (refMay_any h ks A c W (by omega) hc (hr.below hbW))
  have CT : Hid (mayB (.mk h ks) = true → ∀ X, Below W.heap.size W X → Calls Tryd.prog 24 #[reV h A ks.length c, .string S] X (RkPost (.mk h ks) S.data.toList X)) := fun hh X hX => rk_all _ (may_okT hh) h ks rfl _ A c S X hc (hr.below (below_from hbW hX)) hS
  have HE := Lib.hid hW
  have HBW := Lib.hid hbW
  have HSW := Lib.hid hsW
  have E1 := Lib.hid e1W
  have E2 := Lib.hid e2W
  clear hW hbW hsW e1W e2W hr
  obtain ⟨x0, x1, x2, x3, x4, x5⟩ := re_at_box E1.out
  go_enter Tryd.func9, Tryd.ntmps9
  go_upto_region 1 with fail
  rw [show (w.alloc _).alloc _ = W from HE.out]
  go_wp2_with fail
  refine CM.out.mono ?_
  rintro e w1 ⟨rfl, hb1⟩
  clear x0 x1 x2 x3 x4 x5 CM
  have HB1 := Lib.hid (below_from HBW.out hb1)
  have E21 := Lib.hid ((hb1.block _ (lt_of_block E2.out)).trans E2.out)
  obtain ⟨x0, x1, x2, x3, x4, x5⟩ := re_at_box ((hb1.block _ (lt_of_block E1.out)).trans E1.out)
  have hs1 := hb1.size
  cases hmy : mayB (.mk h ks) with
  | false =>
    have HT : Hid (takeR (.mk h ks) S.data.toList = (.mk vaH0 [], [], false)) := by unfold Hid takeR; rw [hmy]; simp
    obtain ⟨⟨y0, y1, y2⟩, f0, f1, f2⟩ := va_cells E21.out
    clear hmy hb1 CT
    go_wp2_with fail
    refine bodyPost_ret (v := .tuple #[vaV vaH0 none 0 0, .string ⟨#[]⟩, .bool false]) (by simp [results, Tryd.results9, go_sem, y0, y1, y2]; try exact ⟨rfl, rfl, rfl⟩) rfl ⟨vaH0, [], none, 0, by rw [HT.out]; rfl, by rw [HT.out], Nat.le_refl _, by simp [InRow], three_below HB1.out (by omega)⟩
  | true =>
    have HC := Lib.hid (CT.out hmy w1 hb1)
    have HMY := Lib.hid hmy
    clear hmy hb1 CT
    go_wp2_with fail
    refine HC.out.mono ?_
    rintro e w2 ⟨h3, k3, A3, c3, S3, b3, rfl, hrl, hc3, hr3, hb2⟩
    clear x0 x1 x2 x3 x4 x5 HC
    obtain ⟨X, hX⟩ : ∃ X, w2.alloc (.cells (vaA h3 A3 k3.length c3) 32) = X := ⟨_, rfl⟩
    have hbX : Below w2.heap.size w2 X := by rw [← hX]; exact below_new (Below.refl _ _) _
    have e3X : X.heap[w2.heap.size]? = some (.cells (vaA h3 A3 k3.length c3) 32 (0, 0)) := by rw [← hX]; exact new_at1 _
    have hz := below_from hb2 hbX
    have HBX := Lib.hid (below_from HB1.out hz)
    have E2X := Lib.hid ((hz.block _ (lt_of_block E21.out)).trans E21.out)
    have HRX := Lib.hid ((hr3.weak (ok' := fun x => w.heap.size + 1 + 1 ≤ x) fun x hx => by have := HSW.out; omega).below hbX)
    have HXX := Lib.hid hX
    have E3 := Lib.hid e3X
    have HC3 := Lib.hid hc3
    clear hX hbX e3X hz hr3 hb2 hc3
    go_upto_region 4 with fail
    rw [show w2.alloc _ = X from HXX.out]
    obtain ⟨⟨y0, y1, y2⟩, f0, f1, f2⟩ := va_cells E2X.out
    obtain ⟨z0, z1, z2⟩ := va_at_box E3.out
    cases b3 with
    | false =>
      have HT : Hid (takeR (.mk h ks) S.data.toList = (.mk vaH0 [], [], false)) := by
        rcases hrl with ⟨e, _⟩ | ⟨_, e⟩
        · cases e
        · unfold Hid takeR; rw [HMY.out, if_pos rfl, e]
      clear hrl
      go_wp2_with fail
      refine bodyPost_ret (v := .tuple #[vaV vaH0 none 0 0, .string ⟨#[]⟩, .bool false]) (by simp [results, Tryd.results9, go_sem, y0, y1, y2]; try exact ⟨rfl, rfl, rfl⟩) rfl ⟨vaH0, [], none, 0, by rw [HT.out]; rfl, by rw [HT.out], Nat.le_refl _, by simp [InRow], three_below HBX.out (by omega)⟩
    | true =>
      have HT : Hid (takeR (.mk h ks) S.data.toList = (.mk h3 k3, S3.data.toList, true)) := by
        rcases hrl with ⟨_, e⟩ | ⟨e, _⟩
        · unfold Hid takeR; rw [HMY.out, if_pos rfl, e]
        · cases e
      clear hrl
      go_wp2_with fail
      refine bodyPost_ret (v := .tuple #[vaV h3 A3 k3.length c3, .string S3, .bool true]) (by simp [results, Tryd.results9, go_sem, y0, y1, y2]; try exact ⟨rfl, rfl, rfl⟩) rfl ⟨h3, k3, A3, c3, ?_, by rw [HT.out], HC3.out, (row_three HRX.out fun x hx => by omega).weak fun x hx => by omega, three_below HBX.out (by omega)⟩
      rw [HT.out]
end Go.Proofs.YteokbmngebckjaaDoor
