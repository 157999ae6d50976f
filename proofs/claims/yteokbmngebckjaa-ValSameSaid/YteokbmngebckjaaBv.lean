/- Values: how they lie. Values: how many, as far as some more. Whether two values are the same, as the document has it. Values, plain: their texts, their bits; values with bytes; values of bits; the right value. The text of a value, as the document has it. Values with bytes, plain: how many bytes; one more; a value with its own text is itself. Values in memory: boxes of three cells, rows of the call's own. -/
import Derived.Test.YteokbmngebckjaaBa
import Derived.Test.YteokbmngebckjaaBf
import Derived.StillTailTactics
import Derived.Test.YteokbmngebckjaaBi
import Derived.Test.YteokbmngebckjaaBb
import Derived.Test.YteokbmngebckjaaBd
namespace Go.Proofs.Yteokbmngebckjaa
open Go.RowKit
set_option linter.unusedVariables false
set_option linter.unusedSimpArgs false

/-- A value's head: its kind and its byte. -/
structure VH where
  k : UInt8
  b : UInt8
  deriving DecidableEq
abbrev Va := T VH
def VH.cells (h : VH) : List Value := [.int .u8 (h.k.toNat : Int), .int .u8 (h.b.toNat : Int)]
def VE : Enc VH := ⟨2, VH.cells, fun _ => rfl, fun a u hu => by simp [VH.cells] at hu; rcases hu with rfl | rfl <;> rfl⟩
/-- a value of the program's, as a value -/
abbrev vaV (h : VH) (A : Option Addr) (n c : Nat) : Value := .agg #[.int .u8 (h.k.toNat : Int), .int .u8 (h.b.toNat : Int), .slice A n c]
abbrev vaA (h : VH) (A : Option Addr) (n c : Nat) : Array Value := #[.int .u8 (h.k.toNat : Int), .int .u8 (h.b.toNat : Int), .slice A n c]
theorem va_at {ok : Nat → Prop} {w : World} {ts : List Va} {A : Option Addr} (hr : InRow VE ok w ts A 0) {k : Nat} (hk : k < ts.length) :
    ∃ (t : Va) (ad : Addr) (h : VH) (ks : List Va) (A1 : Option Addr) (c1 : Nat), A = some ad ∧ ts[k]? = some t ∧ t = .mk h ks ∧ ks.length ≤ c1 ∧ InRow VE ok w ks A1 0 ∧
      w.cell? (ad.add (k * 3)) = some (.int .u8 (h.k.toNat : Int)) ∧
      w.cell? ⟨(ad.add (k * 3)).block, (ad.add (k * 3)).off + 1, none⟩ = some (.int .u8 (h.b.toNat : Int)) ∧
      w.cell? ⟨(ad.add (k * 3)).block, (ad.add (k * 3)).off + 2, none⟩ = some (.slice A1 ks.length c1) := by
  have hk' : ts[k]? = some ts[k] := by simp [hk]
  obtain ⟨ad, cs, hA, _, hc, ht⟩ := hr.at_ k _ hk'
  rw [Nat.zero_add] at hc
  generalize ts[k] = t at *
  obtain ⟨h, ks⟩ := t
  simp only [InT] at ht
  obtain ⟨A1, c1, rfl, hc1, hr1⟩ := ht
  exact ⟨_, ad, h, ks, A1, c1, hA, hk', rfl, hc1, hr1, cell_0 hc rfl, cell_j hc 1 (by decide) rfl, cell_j hc 2 (by decide) rfl⟩
theorem va_at_box {w1 : World} {b : Nat} {v0 v1 v2 : Value} {t : TypeId} (h : w1.heap[b]? = some (.cells #[v0, v1, v2] t (0, 0))) :
    w1.cell? ⟨b, 0, none⟩ = some v0 ∧ w1.cell? ⟨b, 1, none⟩ = some v1 ∧ w1.cell? ⟨b, 2, none⟩ = some v2 := by
  refine ⟨?_, ?_, ?_⟩ <;> simp [World.cell?, h]
theorem va_box {w w1 : World} {t : TypeId} {h : VH} {A : Option Addr} {n c : Nat} (hb : Below (w.alloc (.cells (vaA h A n c) t)).heap.size (w.alloc (.cells (vaA h A n c) t)) w1) :
    w1.cell? ⟨w.heap.size, 0, none⟩ = some (.int .u8 (h.k.toNat : Int)) ∧ w1.cell? ⟨w.heap.size, 1, none⟩ = some (.int .u8 (h.b.toNat : Int)) ∧ w1.cell? ⟨w.heap.size, 2, none⟩ = some (.slice A n c) :=
  va_at_box ((hb.block _ (by rw [World.size_alloc]; exact Nat.lt_succ_self _)).trans (heap_alloc_new w _))
mutual
def sameV : Va → Va → Bool
  | .mk h ks, .mk h2 ks2 => decide (h.k = h2.k) && decide (h.b = h2.b) && samesV ks ks2
def samesV : List Va → List Va → Bool
  | [], [] => true
  | x :: xs, y :: ys => sameV x y && samesV xs ys
  | _, _ => false
end
end Go.Proofs.Yteokbmngebckjaa
namespace Go.Proofs.Yteokbmngebckjaa
open Go.RowKit
set_option linter.unusedVariables false
set_option linter.unusedSimpArgs false

set_option maxHeartbeats 1000000 in
theorem vcount_upto (n : Nat) : ∀ (ok : Nat → Prop) (h : VH) (ks : List Va) (A : Option Addr) (c : Nat) (m : Int) (w : World), 1 + T.sizes ks ≤ n → n ≤ 1000000000 → ks.length ≤ c → InRow VE ok w ks A 0 →
    Calls Try.prog 34 #[vaV h A ks.length c, .int .i64 m] w fun e w' => e = .returned (.int .i64 (cnt m (.mk h ks))) ∧ Below w.heap.size w w' := by
  induction n with
  | zero => intro ok h ks A c m w h0; omega
  | succ n ih =>
    intro ok h ks A c m w hn hm hc hr
    have hl := T.length_le_sizes ks
    have IH := Lib.hid ih
    clear ih
    have HO : Hid (cnt m (.mk h ks) = cnts m 1 ks) := by simp only [Hid, cnt]
    have hsz : ∀ t ∈ ks, t.size ≤ n := fun t ht => by have := T.sizes_mem ht; omega
    have HS := Lib.hid hsz
    clear hsz
    have hlm : ks.length ≤ 1000000000 := by omega
    go_enter Try.func34, Try.ntmps34
    go_wp2_with fail
    generalize hW : w.alloc _ = W
    have hbW : Below w.heap.size w W := by rw [← hW]; exact below_new (Below.refl _ _) _
    go_loopw [4, 5, 6, 10] (fun r s _ i wr => ∃ (k : Nat) (z : Int), k ≤ ks.length ∧ i = .int .i64 k ∧ s = .int .i64 z ∧ r = .int .i64 0 ∧ 0 ≤ z ∧ z ≤ 1 + T.sizes (ks.take k) ∧ cnts m z (ks.drop k) = cnts m 1 ks ∧ Below W.heap.size W wr) (fun _ _ _ i _ => ks.length - (intOf i).toNat)
    case atStart => exact ⟨0, 1, Nat.zero_le _, rfl, rfl, rfl, by omega, by simp [T.sizes], by simp, Below.refl _ _⟩
    case round =>
      obtain ⟨k, z, hk, rfl, rfl, rfl, hz0, hz1, hcn, hb⟩ := hrel
      have HN := Lib.hid hcn
      clear hcn
      have hbx := hb
      rw [← hW] at hbx
      obtain ⟨x0, x1, x2⟩ := va_box hbx
      clear hbx x0 x1
      by_cases hlt : k < ks.length
      · obtain ⟨t, ad, h1, ls, A1, c1, hA, hx, rfl, hc1, hr1, q0, q1, q2⟩ := va_at ((hr.below hbW).below hb) hlt
        subst hA
        have hmem := List.mem_of_getElem? hx
        have hs1 := HS.out _ hmem
        simp only [T.size] at hs1
        have hcs := cnt_spec m (T.mk h1 ls)
        simp only [T.size] at hcs
        have htk : Hid (T.sizes (ks.take (k + 1)) = T.sizes (ks.take k) + (1 + T.sizes ls)) := by
          unfold Hid
          rw [List.take_add_one, hx, T.sizes_append]
          simp [T.sizes, T.size]
        have hle : T.sizes (ks.take (k + 1)) ≤ T.sizes ks := by
          conv => rhs; rw [← List.take_append_drop (k + 1) ks, T.sizes_append]
          omega
        have hz2 : z + (1 + T.sizes ls) ≤ 1000000001 := by have := htk.out; omega
        by_cases hgt : m < z
        · have HF := Lib.hid (cnts_stop m z ks k hlt hgt)
          clear hx hr hcs
          go_wp2_with fail
          go_ret
          exact ⟨by rw [HO.out, ← HN.out, HF.out]; rfl, hbW.trans (hb.mono hbW.size)⟩
        · have HF := Lib.hid (cnts_skip m z ks k _ hx hgt)
          have hcs2 := hcs.2
          clear hx hr hcs
          go_wp2_with fail
          refine (IH.out ok h1 ls A1 c1 m _ hs1 (by omega) hc1 hr1).mono ?_
          rintro e w1 ⟨rfl, hb1⟩
          have hb2 := below_from hb hb1
          clear hb1 hr1 q0 q1 q2 x2
          generalize cnt m (T.mk h1 ls) = cc at *
          go_wp2_with fail
          go_roundw
          case rel => exact ⟨k + 1, z + cc, by omega, by go_num, rfl, rfl, by omega, by rw [htk.out]; omega, by rw [← HF.out, HN.out], hb2⟩
          case measure => simp [intOf]; omega
      · have hkk : k = ks.length := by omega
        subst hkk
        have HE : Hid (z = cnts m 1 ks) := by
          have := HN.out
          rwa [List.drop_length] at this
        clear hlt
        go_wp2_with fail
        go_ret
        exact ⟨by rw [HO.out, ← HE.out]; rfl, hbW.trans (hb.mono hbW.size)⟩

set_option maxHeartbeats 1000000 in
theorem vGreat_any {ok : Nat → Prop} (h : VH) (ks : List Va) (A : Option Addr) (c : Nat) (m : Int) (w : World) (hm : T.sizes ks ≤ 900000000) (hc : ks.length ≤ c) (hr : InRow VE ok w ks A 0) :
    Calls Try.prog 9 #[vaV h A ks.length c, .int .i64 m] w fun e w' => e = .returned (.bool (greatB m (.mk h ks))) ∧ Below w.heap.size w w' := by
  have HG := Lib.hid (great_cnt m (T.mk h ks))
  go_enter Try.func9, Try.ntmps9
  go_wp2_with fail
  refine (vcount_upto 1000000000 ok h ks A c m _ (by omega) (Nat.le_refl _) hc (hr.below (below_new (Below.refl _ _) _))).mono ?_
  rintro e w1 ⟨rfl, hb⟩
  have hb2 := below_from (below_new (Below.refl _ _) _) hb
  clear hb hr
  go_wp2_with fail
  go_ret
  exact ⟨by rw [← HG.out]; rfl, hb2⟩
end Go.Proofs.Yteokbmngebckjaa
namespace Go.Proofs.Yteokbmngebckjaa
open Go.RowKit
set_option linter.unusedVariables false
set_option linter.unusedSimpArgs false

mutual
theorem sameV_eq : ∀ a b : Va, sameV a b = true ↔ a = b
  | .mk h ks, .mk h2 ks2 => by
    simp only [sameV, Bool.and_eq_true, decide_eq_true_eq, samesV_eq ks ks2]
    constructor
    · rintro ⟨⟨e1, e2⟩, rfl⟩
      cases h; cases h2
      simp only at e1 e2
      subst e1 e2
      rfl
    · intro e
      cases e
      exact ⟨⟨rfl, rfl⟩, rfl⟩
theorem samesV_eq : ∀ xs ys : List Va, samesV xs ys = true ↔ xs = ys
  | [], [] => by simp [samesV]
  | [], y :: ys => by simp [samesV]
  | x :: xs, [] => by simp [samesV]
  | x :: xs, y :: ys => by simp only [samesV, Bool.and_eq_true, sameV_eq x y, samesV_eq xs ys, List.cons.injEq]
end
theorem sameV_refl (a : Va) : sameV a a = true := (sameV_eq a a).2 rfl
theorem sameV_comm (a b : Va) : sameV a b = sameV b a := by
  rw [Bool.eq_iff_iff, sameV_eq, sameV_eq]
  exact eq_comm
theorem samesV_len {xs ys : List Va} (h : xs.length ≠ ys.length) : samesV xs ys = false := by
  cases hs : samesV xs ys with
  | false => rfl
  | true => rw [samesV_eq] at hs; subst hs; exact absurd rfl h
theorem samesV_no {xs ys : List Va} {k : Nat} {x y : Va} (hx : xs[k]? = some x) (hy : ys[k]? = some y) (h : sameV x y = false) : samesV xs ys = false := by
  cases hs : samesV xs ys with
  | false => rfl
  | true =>
    rw [samesV_eq] at hs
    subst hs
    rw [hx] at hy
    cases hy
    rw [sameV_refl] at h
    cases h
theorem samesV_yes {xs ys : List Va} (hl : xs.length = ys.length) (h : ∀ (k : Nat) (x y : Va), k < xs.length → xs[k]? = some x → ys[k]? = some y → sameV x y = true) : samesV xs ys = true := by
  rw [samesV_eq]
  apply List.ext_getElem hl
  intro i h1 h2
  exact (sameV_eq _ _).1 (h i xs[i] ys[i] h1 (by simp [h1]) (by simp [h2]))

set_option maxRecDepth 100000 in
set_option maxHeartbeats 16000000 in
theorem refSameV_upto (n : Nat) : ∀ (ok : Nat → Prop) (h h2 : VH) (ks ks2 : List Va) (A A2 : Option Addr) (c c2 : Nat) (w : World), 1 + T.sizes ks ≤ n → n ≤ 1000000000 → T.sizes ks2 ≤ 1000000000 → InRow VE ok w ks A 0 → InRow VE ok w ks2 A2 0 →
    Calls Try.prog 20 #[vaV h A ks.length c, vaV h2 A2 ks2.length c2] w fun e w' => e = .returned (.bool (sameV (.mk h ks) (.mk h2 ks2))) ∧ Below w.heap.size w w' := by
  induction n with
  | zero => intro ok h h2 ks ks2 A A2 c c2 w h0; omega
  | succ n ih =>
    intro ok h h2 ks ks2 A A2 c c2 w hn hm hm2 hr hr2
    have hl := T.length_le_sizes ks
    have hl2 := T.length_le_sizes ks2
    have IH := Lib.hid ih
    clear ih
    have hsz : ∀ t ∈ ks, t.size ≤ n := fun t ht => by have := T.sizes_mem ht; omega
    have hsz2 : ∀ t ∈ ks2, t.size ≤ 1000000000 := fun t ht => by have := T.sizes_mem ht; omega
    have HS := Lib.hid hsz
    have HS2 := Lib.hid hsz2
    clear hsz hsz2
    have HE : Hid (sameV (.mk h ks) (.mk h2 ks2) = (decide (h.k = h2.k) && decide (h.b = h2.b) && samesV ks ks2)) := by unfold Hid; simp only [sameV]
    have hkn : decide (h.k = h2.k) = decide (h.k.toNat = h2.k.toNat) := by
      rw [Bool.eq_iff_iff]; simp [UInt8.toNat_inj]
    have hbn : decide (h.b = h2.b) = decide (h.b.toNat = h2.b.toNat) := by
      rw [Bool.eq_iff_iff]; simp [UInt8.toNat_inj]
    rw [hkn, hbn] at HE
    clear hkn hbn
    have hbW : Below w.heap.size w ((w.alloc (.cells #[.int .u8 (h.k.toNat : Int), .int .u8 (h.b.toNat : Int), .slice A ks.length c] 24)).alloc (.cells #[.int .u8 (h2.k.toNat : Int), .int .u8 (h2.b.toNat : Int), .slice A2 ks2.length c2] 24)) := below_new (below_new (Below.refl _ _) _) _
    obtain ⟨e1, e2⟩ := two_new (w := w) (.cells #[.int .u8 (h.k.toNat : Int), .int .u8 (h.b.toNat : Int), .slice A ks.length c] 24) (.cells #[.int .u8 (h2.k.toNat : Int), .int .u8 (h2.b.toNat : Int), .slice A2 ks2.length c2] 24)
    obtain ⟨x0, x1, x2⟩ := va_at_box e1
    obtain ⟨y0, y1, y2⟩ := va_at_box e2
    clear x0 x1 y0 y1 e1 e2
    have hrW := hr.below hbW
    have hrW2 := hr2.below hbW
    have X5 := Lib.hid x2
    have Y5 := Lib.hid y2
    clear x2 y2 hr hr2
    by_cases hk : h.k.toNat = h2.k.toNat
    · have t1 : ((h.k.toNat : Int) != (h2.k.toNat : Int)) = false := by simp; omega
      have HK : Hid (decide (h.k.toNat = h2.k.toNat) = true) := by unfold Hid; simp [hk]
      clear hk
      by_cases hbb : h.b.toNat = h2.b.toNat
      case neg =>
        have t3 : ((h.b.toNat : Int) != (h2.b.toNat : Int)) = true := by simp; omega
        have HBB : Hid (decide (h.b.toNat = h2.b.toNat) = false) := by unfold Hid; simp [hbb]
        clear hbb
        go_enter Try.func20, Try.ntmps20
        go_wp2_with fail
        go_ret
        exact ⟨by rw [HE.out, HBB.out]; simp, hbW⟩
      case pos =>
          have t3 : ((h.b.toNat : Int) != (h2.b.toNat : Int)) = false := by simp; omega
          have HBB : Hid (decide (h.b.toNat = h2.b.toNat) = true) := by unfold Hid; simp [hbb]
          clear hbb
          by_cases hlen : ks.length = ks2.length
          · have t2 : ((ks.length : Int) != (ks2.length : Int)) = false := by simp; omega
            have HL := Lib.hid hlen
            clear hlen
            go_enter Try.func20, Try.ntmps20
            go_wp2_with fail
            generalize hWW : (w.alloc (.cells #[.int .u8 (h.k.toNat : Int), .int .u8 (h.b.toNat : Int), .slice A ks.length c] 24)).alloc (.cells #[.int .u8 (h2.k.toNat : Int), .int .u8 (h2.b.toNat : Int), .slice A2 ks2.length c2] 24) = W at *
            clear hWW
            go_loopw [5, 30] (fun _ i wr => ∃ (k : Nat), k ≤ ks.length ∧ i = .int .i64 k ∧ Hid (∀ (j : Nat) (x y : Va), j < k → ks[j]? = some x → ks2[j]? = some y → sameV x y = true) ∧ Below W.heap.size W wr) (fun _ i _ => ks.length - (intOf i).toNat)
            case atStart => exact ⟨0, Nat.zero_le _, rfl, fun j x y hj => absurd hj (by omega), Below.refl _ _⟩
            case round =>
              obtain ⟨k, hk, rfl, HN, hb⟩ := hrel
              have z5 := keep_cell hb X5.out
              have u5 := keep_cell hb Y5.out
              by_cases hlt : k < ks.length
              · have hlt2 : k < ks2.length := by have := HL.out; omega
                obtain ⟨t, ad, h3, ls, A3, c3, hA, hx, rfl, hc3, hr3, q0, q1, q2⟩ := va_at (hrW.below hb) hlt
                obtain ⟨t', ad', h4, ls4, A4, c4, hA', hx', rfl, hc4, hr4, p0, p1, p2⟩ := va_at (hrW2.below hb) hlt2
                subst hA hA'
                have hs1 := HS.out _ (List.mem_of_getElem? hx)
                have hs2 := HS2.out _ (List.mem_of_getElem? hx')
                simp only [T.size] at hs1 hs2
                have HNo : Hid (sameV (.mk h3 ls) (.mk h4 ls4) = false → samesV ks ks2 = false) := fun e => samesV_no hx hx' e
                have HYes : Hid (sameV (.mk h3 ls) (.mk h4 ls4) = true → ∀ (j : Nat) (x y : Va), j < k + 1 → ks[j]? = some x → ks2[j]? = some y → sameV x y = true) := by
                  intro e j x y hj ex ey
                  rcases Nat.lt_or_ge j k with hjk | hjk
                  · exact HN.out j x y hjk ex ey
                  · have : j = k := by omega
                    subst this
                    rw [hx] at ex
                    rw [hx'] at ey
                    cases ex; cases ey
                    exact e
                clear hx hx'
                go_wp2_with fail
                go_still_tail 10, (by kernel_rfl)
                go_wp2_with fail
                refine (IH.out ok h3 h4 ls ls4 A3 A4 c3 c4 wr.drew hs1 (by omega) (by omega) (hr3.below (Below.refl _ _).drew) (hr4.below (Below.refl _ _).drew)).mono ?_
                rintro e w1 ⟨rfl, hb1⟩
                have hb2 : Below W.heap.size W w1 := below_from (pw_drewN hb 1) hb1
                clear hb1 hr3 hr4 q0 q1 q2 p0 p1 p2 hb z5 u5
                generalize sameV (.mk h3 ls) (.mk h4 ls4) = b at *
                cases b with
                | false =>
                  go_wp2_with fail
                  go_ret
                  exact ⟨by rw [HE.out, HNo.out trivial]; simp, hbW.trans (hb2.mono hbW.size)⟩
                | true =>
                  go_wp2_with fail
                  go_roundw
                  case rel => exact ⟨k + 1, by omega, by go_num, HYes.out trivial, hb2⟩
                  case measure => simp [intOf]; omega
              · have hkk : k = ks.length := by omega
                have HY : Hid (samesV ks ks2 = true) := samesV_yes HL.out (fun j x y hj => HN.out j x y (by omega))
                subst hkk
                have g : decide ((ks.length : Int) < (ks.length : Int)) = false := by simp
                clear hlt hk
                go_wp2_with fail
                go_ret
                exact ⟨by rw [HE.out, HY.out, HK.out, HBB.out]; rfl, hbW.trans (hb.mono hbW.size)⟩
          · have t2 : ((ks.length : Int) != (ks2.length : Int)) = true := by simp; omega
            have HF := Lib.hid (samesV_len hlen)
            go_enter Try.func20, Try.ntmps20
            go_wp2_with fail
            go_ret
            exact ⟨by rw [HE.out, HF.out]; simp, hbW⟩
    · have t1 : ((h.k.toNat : Int) != (h2.k.toNat : Int)) = true := by simp; omega
      go_enter Try.func20, Try.ntmps20
      go_wp2_with fail
      go_ret
      exact ⟨by rw [HE.out]; simp [hk], hbW⟩
end Go.Proofs.Yteokbmngebckjaa
namespace Go.Proofs.Yteokbmngebckjaa
open Go.RowKit
set_option linter.unusedVariables false
set_option linter.unusedSimpArgs false

abbrev vVoid : Va := .mk ⟨1, 0⟩ []
abbrev vByte (b : UInt8) : Va := .mk ⟨2, b⟩ []
abbrev vPair (x y : Va) : Va := .mk ⟨3, 0⟩ [x, y]
abbrev vLeft (x : Va) : Va := .mk ⟨4, 0⟩ [x]
abbrev vRight (x : Va) : Va := .mk ⟨5, 0⟩ [x]
abbrev vStars (l : List Va) : Va := .mk ⟨6, 0⟩ l
mutual
/-- a value's text -/
def flatV : Va → List UInt8
  | .mk h ks => (if h.k = 2 then [h.b] else []) ++ flatVs ks
def flatVs : List Va → List UInt8
  | [] => []
  | v :: vs => flatV v ++ flatVs vs
end
mutual
/-- a value's bits -/
def codeV : Va → List UInt8
  | .mk h ks => if h.k < 1 ∨ 6 < h.k then [] else (if h.k = 4 then [48] else if h.k = 5 then [49] else []) ++ (codeVs (h.k = 6) ks ++ (if h.k = 6 then [49] else []))
def codeVs (st : Bool) : List Va → List UInt8
  | [] => []
  | v :: vs => (if st then [48] else []) ++ (codeV v ++ codeVs st vs)
end
mutual
/-- a value with the next bytes, and what is left -/
def fillV : Va → List UInt8 → Option (Va × List UInt8)
  | .mk h ks, s => if h.k = 2 then (match s with
      | [] => none
      | b :: s' => (fillVs ks s').map fun r => (.mk ⟨h.k, b⟩ r.1, r.2)) else (fillVs ks s).map fun r => (.mk h r.1, r.2)
def fillVs : List Va → List UInt8 → Option (List Va × List UInt8)
  | [], s => some ([], s)
  | v :: vs, s => match fillV v s with
    | none => none
    | some (x, s1) => (fillVs vs s1).map fun r => (x :: r.1, r.2)
end
/-- values behind one another, each with a bit ahead -/
def starB (f : List UInt8 → Option (Va × List UInt8)) : Nat → List UInt8 → Option (List Va × List UInt8)
  | 0, _ => none
  | n + 1, s => match s with
    | [] => none
    | c :: s' => if c = 48 then (match f s' with
        | none => none
        | some (v, s1) => (starB f n s1).map fun r => (v :: r.1, r.2))
      else if c = 49 then some ([], s') else none
/-- the first byte of a set -/
def firstB (s : S4) : UInt8 := UInt8.ofNat (((List.range 256).find? fun n => s.has n).getD 0)
def takeK (h : RH) (fs : List (List UInt8 → Option (Va × List UInt8))) (s : List UInt8) : Option (Va × List UInt8) :=
  if h.k = 2 then some (vVoid, s)
  else if h.k = 3 then some (vByte (firstB h.s), s)
  else if h.k = 4 then (match fs with
    | [f, g] => (match f s with
      | none => none
      | some (a, s1) => (g s1).map fun r => (vPair a r.1, r.2))
    | _ => none)
  else if h.k = 5 then (match fs with
    | [f, g] => (match s with
      | [] => none
      | c :: s' => if c = 48 then (f s').map fun r => (vLeft r.1, r.2) else if c = 49 then (g s').map fun r => (vRight r.1, r.2) else none)
    | _ => none)
  else if h.k = 6 then (match fs with
    | [f] => (starB f (s.length + 1) s).map fun r => (vStars r.1, r.2)
    | _ => none)
  else none
mutual
/-- the value with whose bits a text begins, and what stands behind -/
def takeT : Re → List UInt8 → Option (Va × List UInt8)
  | .mk h ks, s => takeK h (takeTs ks) s
def takeTs : List Re → List (List UInt8 → Option (Va × List UInt8))
  | [] => []
  | t :: ts => takeT t :: takeTs ts
end
theorem take_emp (s : List UInt8) : takeT rEmp s = none := rfl
theorem take_eps (s : List UInt8) : takeT rEps s = some (vVoid, s) := rfl
theorem take_cls (S : S4) (s : List UInt8) : takeT (rCls S) s = some (vByte (firstB S), s) := rfl
theorem take_seq (x y : Re) (s : List UInt8) : takeT (rSeq x y) s = match takeT x s with
    | none => none
    | some (a, s1) => (takeT y s1).map fun r => (vPair a r.1, r.2) := by simp [takeT, takeTs, takeK]
theorem take_alt (x y : Re) (s : List UInt8) : takeT (rAlt x y) s = match s with
    | [] => none
    | c :: s' => if c = 48 then (takeT x s').map fun r => (vLeft r.1, r.2) else if c = 49 then (takeT y s').map fun r => (vRight r.1, r.2) else none := by simp [takeT, takeTs, takeK]
theorem take_star (x : Re) (s : List UInt8) : takeT (rStar x) s = (starB (takeT x) (s.length + 1) s).map fun r => (vStars r.1, r.2) := by simp [takeT, takeTs, takeK]
theorem starB_len {f : List UInt8 → Option (Va × List UInt8)} (hf : ∀ s v s', f s = some (v, s') → s'.length ≤ s.length) : ∀ (n : Nat) (s : List UInt8) (l : List Va) (s' : List UInt8), starB f n s = some (l, s') → s'.length < s.length
  | 0, _, _, _, h => by simp [starB] at h
  | n + 1, [], _, _, h => by simp [starB] at h
  | n + 1, c :: s, l, s', h => by
    simp only [starB] at h
    split at h
    · rcases e : f s with _ | ⟨v, s1⟩
      · rw [e] at h; cases h
      · rw [e] at h
        simp only at h
        rcases e2 : starB f n s1 with _ | ⟨l2, s2⟩
        · rw [e2] at h; cases h
        · rw [e2] at h
          simp only [Option.map_some, Option.some.injEq, Prod.mk.injEq] at h
          have h1 := hf _ _ _ e
          have h2 := starB_len hf n s1 l2 s2 e2
          rw [← h.2, List.length_cons]
          omega
    · split at h
      · simp only [Option.some.injEq, Prod.mk.injEq] at h
        rw [← h.2, List.length_cons]
        omega
      · cases h
/-- more fuel: the same -/
theorem starB_fuel {f : List UInt8 → Option (Va × List UInt8)} (hf : ∀ s v s', f s = some (v, s') → s'.length ≤ s.length) : ∀ (n m : Nat) (s : List UInt8), s.length < n → s.length < m → starB f n s = starB f m s
  | 0, _, _, h, _ => by omega
  | _, 0, _, _, h => by omega
  | n + 1, m + 1, [], _, _ => rfl
  | n + 1, m + 1, c :: s, hn, hm => by
    simp only [starB]
    split
    · rcases e : f s with _ | ⟨v, s1⟩
      · rfl
      · have h1 := hf _ _ _ e
        simp only [List.length_cons] at hn hm
        simp only
        rw [starB_fuel hf n m s1 (by omega) (by omega)]
    · rfl
theorem take_len : ∀ t : Re, okT t = true → ∀ s v s', takeT t s = some (v, s') → s'.length ≤ s.length := by
  refine okT_ind ?_ ?_ ?_ ?_ ?_ ?_
  · intro s v s' h; cases h
  · intro s v s' h; rw [take_eps] at h; cases h; exact Nat.le_refl _
  · intro S hS s v s' h; rw [take_cls] at h; cases h; exact Nat.le_refl _
  · intro x y hx hy ihx ihy s v s' h
    rw [take_seq] at h
    rcases e : takeT x s with _ | ⟨a, s1⟩
    · rw [e] at h; cases h
    rw [e] at h
    simp only at h
    rcases e2 : takeT y s1 with _ | ⟨b, s2⟩
    · rw [e2] at h; cases h
    rw [e2] at h
    cases h
    exact Nat.le_trans (ihy _ _ _ e2) (ihx _ _ _ e)
  · intro x y hx hy ihx ihy s v s' h
    rw [take_alt] at h
    rcases s with _ | ⟨c, s⟩
    · cases h
    simp only at h
    split at h
    · rcases e : takeT x s with _ | ⟨a, s1⟩
      · rw [e] at h; cases h
      rw [e] at h; cases h
      exact Nat.le_succ_of_le (ihx _ _ _ e)
    · split at h
      · rcases e : takeT y s with _ | ⟨a, s1⟩
        · rw [e] at h; cases h
        rw [e] at h; cases h
        exact Nat.le_succ_of_le (ihy _ _ _ e)
      · cases h
  · intro x hx ih s v s' h
    rw [take_star] at h
    rcases e : starB (takeT x) (s.length + 1) s with _ | ⟨l, s1⟩
    · rw [e] at h; cases h
    rw [e] at h; cases h
    exact Nat.le_of_lt (starB_len ih _ _ _ _ e)
/-- a star's values, one by one -/
def starT (x : Re) (s : List UInt8) : Option (List Va × List UInt8) := starB (takeT x) (s.length + 1) s
theorem starT_nil (x : Re) : starT x [] = none := rfl
theorem starT_end (x : Re) (s : List UInt8) : starT x (49 :: s) = some ([], s) := by simp [starT, starB]
theorem starT_bad (x : Re) (c : UInt8) (s : List UInt8) (h0 : c ≠ 48) (h1 : c ≠ 49) : starT x (c :: s) = none := by simp [starT, starB, h0, h1]
theorem starT_more {x : Re} (hx : okT x = true) (s : List UInt8) : starT x (48 :: s) = match takeT x s with
    | none => none
    | some (v, s1) => (starT x s1).map fun r => (v :: r.1, r.2) := by
  unfold starT
  rw [List.length_cons, starB]
  simp only [if_true]
  rcases e : takeT x s with _ | ⟨v, s1⟩
  · rfl
  · have := take_len x hx _ _ _ e
    simp only
    rw [starB_fuel (take_len x hx) (s.length + 1) (s1.length + 1) s1 (by omega) (by omega)]
theorem take_starT (x : Re) (s : List UInt8) : takeT (rStar x) s = (starT x s).map fun r => (vStars r.1, r.2) := take_star x s

/-- the right value of a text -/
inductive RV : Re → List UInt8 → Va → Prop
  | eps : RV rEps [] vVoid
  | cls (S : S4) (b : UInt8) : S.has b.toNat = true → RV (rCls S) [b] (vByte b)
  | left (x y : Re) (s : List UInt8) (v : Va) : RV x s v → RV (rAlt x y) s (vLeft v)
  | right (x y : Re) (s : List UInt8) (v : Va) : ¬ LT x s → RV y s v → RV (rAlt x y) s (vRight v)
  | pair (x y : Re) (s t : List UInt8) (v w : Va) : RV x s v → RV y t w → NoMore (LT x) (LT y) s t → RV (rSeq x y) (s ++ t) (vPair v w)
  | nil (x : Re) : RV (rStar x) [] (vStars [])
  | cons (x : Re) (s t : List UInt8) (v : Va) (l : List Va) : RV x s v → s ≠ [] → RV (rStar x) t (vStars l) → NoMore (LT x) (StarP (LT x)) s t → RV (rStar x) (s ++ t) (vStars (v :: l))
theorem LC_of (x : Re) (hx : okT x = true) (s : List UInt8) : LC (ofC x) s ↔ LT x s := by
  rw [LC_bare _ (of_ok x hx), bare_of x hx]
theorem LT_of_okT {x y : Re} (h : okT (rSeq x y) = true) : okT x = true ∧ okT y = true := by
  simp only [okT, okL, Bool.and_eq_true] at h
  exact ⟨h.2.1, h.2.2.1⟩
theorem RV_flat {r : Re} {s : List UInt8} {v : Va} (h : RV r s v) : flatV v = s := by
  induction h with
  | eps => rfl
  | cls S b h => rfl
  | left x y s v h ih => simp [flatV, flatVs, ih]
  | right x y s v hn h ih => simp [flatV, flatVs, ih]
  | pair x y s t v w h1 h2 hn ih1 ih2 => simp [flatV, flatVs, ih1, ih2]
  | nil x => rfl
  | cons x s t v l h1 hs h2 hn ih1 ih2 =>
    simp [flatV] at ih2
    simp [flatV, flatVs, ih1, ih2]
theorem RV_LT {r : Re} {s : List UInt8} {v : Va} (h : RV r s v) : LT r s := by
  induction h with
  | eps => rw [LT_eps]
  | cls S b h => rw [LT_cls]; exact ⟨b, rfl, h⟩
  | left x y s v h ih => rw [LT_alt]; exact .inl ih
  | right x y s v hn h ih => rw [LT_alt]; exact .inr ih
  | pair x y s t v w h1 h2 hn ih1 ih2 => rw [LT_seq]; exact ⟨s, t, rfl, ih1, ih2⟩
  | nil x => rw [LT_star]; exact .nil
  | cons x s t v l h1 hs h2 hn ih1 ih2 =>
    rw [LT_star] at ih2 ⊢
    exact .cons ih1 hs ih2
/-- each value is right of one kind of expression: the parts may be -/
theorem okT_two {k : UInt8} {x y : Re} (h : okT (.mk ⟨k, S4.zero⟩ [x, y]) = true) : okT x = true ∧ okT y = true := by
  simp only [okT, okL, Bool.and_eq_true] at h
  exact ⟨h.2.1, h.2.2.1⟩
theorem okT_one {k : UInt8} {x : Re} (h : okT (.mk ⟨k, S4.zero⟩ [x]) = true) : okT x = true := by
  simp only [okT, okL, Bool.and_eq_true] at h
  exact h.2.1
/-- the right value's bits are those of the right way -/
theorem RV_PB {r : Re} {s : List UInt8} {v : Va} (h : RV r s v) : okT r = true → PB (ofC r) s (codeV v) := by
  induction h with
  | eps => intro _; exact (PB_eps [] [] []).2 ⟨rfl, rfl⟩
  | cls S b h => intro _; exact (PB_cls [] S [b] []).2 ⟨⟨b, rfl, h⟩, rfl⟩
  | left x y s v h ih =>
    intro ho
    obtain ⟨hx, hy⟩ := okT_two ho
    rw [of_alt, PB_alt]
    refine ⟨48 :: codeV v, by simp [codeV, codeVs], ?_⟩
    rw [PAny]
    exact .inl ((PB_fuse _ _ _ _ (of_ok x hx)).2 ⟨_, rfl, ih hx⟩)
  | right x y s v hn h ih =>
    intro ho
    obtain ⟨hx, hy⟩ := okT_two ho
    rw [of_alt, PB_alt]
    refine ⟨49 :: codeV v, by simp [codeV, codeVs], ?_⟩
    rw [PAny]
    refine .inr ⟨fun hl => hn ((LC_of x hx s).1 ((LC_fuse _ _ _).1 hl)), ?_⟩
    rw [PAny_one]
    exact (PB_fuse _ _ _ _ (of_ok y hy)).2 ⟨_, rfl, ih hy⟩
  | pair x y s t v w h1 h2 hn ih1 ih2 =>
    intro ho
    obtain ⟨hx, hy⟩ := okT_two ho
    rw [of_seq, PB_seq]
    exact ⟨s, t, codeV v, codeV w, rfl, by simp [codeV, codeVs], ih1 hx, ih2 hy, hn.congr (fun u => (LC_of x hx u).symm) (fun u => (LC_of y hy u).symm)⟩
  | nil x =>
    intro ho
    rw [of_star, PB_star]
    exact ⟨[49], by simp [codeV, codeVs], .nil⟩
  | cons x s t v l h1 hs h2 hn ih1 ih2 =>
    intro ho
    have hx := okT_one ho
    have h3 := ih2 ho
    rw [of_star, PB_star] at h3 ⊢
    obtain ⟨u, e, hp⟩ := h3
    refine ⟨48 :: (codeV v ++ u), ?_, .cons (ih1 hx) hs hp (hn.congr (fun u => (LC_of x hx u).symm) (StarP.iff fun u => (LC_of x hx u).symm))⟩
    have e2 : codeV (vStars l) = u := by simpa using e
    rw [← e2]
    simp [codeV, codeVs]
/-- what is taken of the right value's bits, with the text's bytes, is that value -/
theorem RV_take {r : Re} {s : List UInt8} {v : Va} (h : RV r s v) : okT r = true → ∃ v0, (∀ z, takeT r (codeV v ++ z) = some (v0, z)) ∧ ∀ z, fillV v0 (s ++ z) = some (v, z) := by
  induction h with
  | eps => intro _; exact ⟨vVoid, fun z => rfl, fun z => by simp [fillV, fillVs]⟩
  | cls S b h => intro _; exact ⟨vByte (firstB S), fun z => rfl, fun z => by simp [fillV, fillVs]⟩
  | left x y s v h ih =>
    intro ho
    obtain ⟨hx, hy⟩ := okT_two ho
    obtain ⟨v0, h1, h2⟩ := ih hx
    refine ⟨vLeft v0, fun z => ?_, fun z => by simp [fillV, fillVs, h2]⟩
    rw [take_alt, show codeV (vLeft v) = 48 :: codeV v by simp [codeV, codeVs]]
    simp [h1]
  | right x y s v hn h ih =>
    intro ho
    obtain ⟨hx, hy⟩ := okT_two ho
    obtain ⟨v0, h1, h2⟩ := ih hy
    refine ⟨vRight v0, fun z => ?_, fun z => by simp [fillV, fillVs, h2]⟩
    rw [take_alt, show codeV (vRight v) = 49 :: codeV v by simp [codeV, codeVs]]
    simp [h1]
  | pair x y s t v w h1 h2 hn ih1 ih2 =>
    intro ho
    obtain ⟨hx, hy⟩ := okT_two ho
    obtain ⟨v0, a1, a2⟩ := ih1 hx
    obtain ⟨w0, b1, b2⟩ := ih2 hy
    refine ⟨vPair v0 w0, fun z => ?_, fun z => by simp [fillV, fillVs, a2, b2]⟩
    rw [take_seq, show codeV (vPair v w) = codeV v ++ codeV w by simp [codeV, codeVs], List.append_assoc]
    simp [a1, b1]
  | nil x =>
    intro ho
    refine ⟨vStars [], fun z => ?_, fun z => by simp [fillV, fillVs]⟩
    rw [take_starT, show codeV (vStars []) = [49] by simp [codeV, codeVs]]
    simp [starT_end]
  | cons x s t v l h1 hs h2 hn ih1 ih2 =>
    intro ho
    have hx := okT_one ho
    obtain ⟨v0, a1, a2⟩ := ih1 hx
    obtain ⟨w0, b1, b2⟩ := ih2 ho
    have b1' : ∀ z, ∃ l0, starT x (codeV (vStars l) ++ z) = some (l0, z) ∧ w0 = vStars l0 := fun z => by
      have := b1 z
      rw [take_starT] at this
      rcases e : starT x (codeV (vStars l) ++ z) with _ | ⟨l0, z0⟩
      · rw [e] at this; cases this
      · rw [e] at this
        simp only [Option.map_some, Option.some.injEq, Prod.mk.injEq] at this
        exact ⟨l0, by rw [this.2], this.1.symm⟩
    obtain ⟨l0, _, rfl⟩ := b1' []
    refine ⟨vStars (v0 :: l0), fun z => ?_, fun z => ?_⟩
    · rw [take_starT, show codeV (vStars (v :: l)) = 48 :: (codeV v ++ codeV (vStars l)) by simp [codeV, codeVs], List.cons_append, starT_more hx, List.append_assoc, a1]
      obtain ⟨l1, c1, c2⟩ := b1' z
      simp only [c1, Option.map_some]
      injection c2 with _ c3
      rw [c3]
    · have := b2 z
      simp only [fillV] at this
      simp only [fillV, List.append_assoc, fillVs, a2]
      rcases e : fillVs l0 (t ++ z) with _ | ⟨r1, r2⟩
      · rw [e] at this; simp at this
      · rw [e] at this
        simp at this
        simp [this]
end Go.Proofs.Yteokbmngebckjaa
namespace Go.Proofs.Yteokbmngebckjaa
open Go.RowKit
set_option linter.unusedVariables false
set_option linter.unusedSimpArgs false

mutual
theorem flatV_len : ∀ t : Va, (flatV t).length ≤ t.size
  | .mk h ks => by
    have := flatVs_len ks
    simp only [flatV, T.size, List.length_append]
    by_cases hk : h.k = 2
    · rw [if_pos hk]; simp; omega
    · rw [if_neg hk]; simp; omega
theorem flatVs_len : ∀ ts : List Va, (flatVs ts).length ≤ T.sizes ts
  | [] => by simp [flatVs]
  | v :: vs => by
    have h1 := flatV_len v
    have h2 := flatVs_len vs
    simp only [flatVs, T.sizes, List.length_append]
    omega
end
theorem flatVs_append (xs ys : List Va) : flatVs (xs ++ ys) = flatVs xs ++ flatVs ys := by
  induction xs with
  | nil => rfl
  | cons x xs ih => simp only [List.cons_append, flatVs, ih, List.append_assoc]
theorem flat_take {ks : List Va} {k : Nat} {t : Va} (h : ks[k]? = some t) : flatVs (ks.take (k + 1)) = flatVs (ks.take k) ++ flatV t := by
  rw [List.take_add_one, h, flatVs_append]
  simp [flatVs]
theorem sizesV_take (ks : List Va) (k : Nat) : T.sizes (ks.take k) ≤ T.sizes ks := by
  conv => rhs; rw [← List.take_append_drop k ks, T.sizes_append]
  omega
set_option maxRecDepth 100000 in
set_option maxHeartbeats 4000000 in
theorem refFlat_upto (n : Nat) : ∀ (ok : Nat → Prop) (h : VH) (ks : List Va) (A : Option Addr) (c : Nat) (w : World), 1 + T.sizes ks ≤ n → n ≤ 1000000000 → ks.length ≤ c → InRow VE ok w ks A 0 →
    Calls Try.prog 28 #[vaV h A ks.length c] w fun e w' => e = .returned (.string (str (flatV (.mk h ks)))) ∧ Below w.heap.size w w' := by
  induction n with
  | zero => intro ok h ks A c w h0; omega
  | succ n ih =>
    intro ok h ks A c w hn hm hc hr
    have hl := T.length_le_sizes ks
    have IH := Lib.hid ih
    clear ih
    have hsz : ∀ t ∈ ks, t.size ≤ n := fun t ht => by have := T.sizes_mem ht; omega
    have HS := Lib.hid hsz
    clear hsz
    have hlm : ks.length ≤ 1000000000 := by omega
    obtain ⟨f0, hf0⟩ : ∃ f0 : List UInt8, f0 = if h.k = 2 then [h.b] else [] := ⟨_, rfl⟩
    have HO : Hid (flatV (.mk h ks) = f0 ++ flatVs ks) := by unfold Hid; rw [hf0]; simp only [flatV]
    have HF : Hid (f0.length ≤ 1) := by unfold Hid; rw [hf0]; by_cases hk : h.k = 2 <;> simp [hk]
    obtain ⟨W1, hW1⟩ : ∃ W1, w.alloc (.cells (vaA h A ks.length c) 24) = W1 := ⟨_, rfl⟩
    have hbW1 : Below w.heap.size w W1 := by rw [← hW1]; exact below_new (Below.refl _ _) _
    have e1 : W1.heap[w.heap.size]? = some (.cells (vaA h A ks.length c) 24 (0, 0)) := by rw [← hW1]; exact new_at1 _
    obtain ⟨x0, x1, x2⟩ := va_at_box e1
    have HW1 := Lib.hid hW1
    have HB1 := Lib.hid hbW1
    have E1 := Lib.hid e1
    clear hW1 hbW1 e1
    by_cases hk : h.k = 2
    · have t1 : ((h.k.toNat : Int) == 2) = true := by rw [hk]; rfl
      have hf1 : f0 = [h.b] := by rw [hf0, if_pos hk]
      clear hf0 hk
      obtain ⟨b0, hb0⟩ : ∃ b0, h.b = b0 := ⟨_, rfl⟩
      rw [hb0] at hf1
      obtain ⟨U1, hU1⟩ : ∃ U1, (w.alloc (.cells (vaA h A ks.length c) 24)).alloc (.cells #[.int .u8 (h.b.toNat : Int)] 5) = U1 := ⟨_, rfl⟩
      have hU1b : Below W1.heap.size W1 U1 := by rw [← hU1, HW1.out]; exact below_new (Below.refl _ _) _
      have hcv : (convert 59 9 (.slice (some ⟨w.heap.size + 1, 0, none⟩) 1 1)).run Try.prog ((w.alloc (.cells (vaA h A ks.length c) 24)).alloc (.cells #[.int .u8 (h.b.toNat : Int)] 5)) = .ok (.string (str [b0])) ((w.alloc (.cells (vaA h A ks.length c) 24)).alloc (.cells #[.int .u8 (h.b.toNat : Int)] 5)) := by
        have hz1 : (w.alloc (.cells (vaA h A ks.length c) 24)).heap.size = w.heap.size + 1 := World.size_alloc _ _
        have := conv_bytes (P := Try.prog) (w := (w.alloc (.cells (vaA h A ks.length c) 24)).alloc (.cells #[encB b0] 5)) (dst := 9) (A := some ⟨(w.alloc (.cells (vaA h A ks.length c) 24)).heap.size, 0, none⟩) Try.underlying59 Try.underlying5 Try.underlying9 1 1 (l := [b0]) rfl (new_row encB (w.alloc (.cells (vaA h A ks.length c) 24)) [b0] _ 5 rfl)
        rw [hz1] at this
        rw [hb0]
        exact this
      have HU1 := Lib.hid hU1
      have HUB := Lib.hid hU1b
      have X0 := Lib.hid x0
      have X1 := Lib.hid x1
      have X2W := Lib.hid x2
      clear hU1 hU1b x0 x1 x2 hb0
      go_enter Try.func28, Try.ntmps28
      go_wp2_with fail
      rw [show (w.alloc _).alloc _ = U1 from HU1.out]
      obtain ⟨W, hWU⟩ : ∃ W, W = U1 := ⟨_, rfl⟩
      rw [← hWU] at HUB ⊢
      clear hWU hcv
      have x2 := X2W.out
      have X2 := Lib.hid (keep_cell HUB.out x2)
      have HW := Lib.hid (below_from HB1.out HUB.out)
      have HR := Lib.hid ((hr.below HB1.out).below HUB.out)
      have HS0 : Hid (Value.string (str [b0]) = .string (str f0)) := by unfold Hid; rw [hf1]
      clear x2 hf1 hr
      go_loopw [3, 4, 15] (fun s _ i wr => ∃ (k : Nat), k ≤ ks.length ∧ i = .int .i64 k ∧ s = .string (str (f0 ++ flatVs (ks.take k))) ∧ Below W.heap.size W wr) (fun _ _ i _ => ks.length - (intOf i).toNat)
      case atStart => exact ⟨0, Nat.zero_le _, rfl, by simp only [List.take_zero, flatVs, List.append_nil]; exact HS0.out, Below.refl _ _⟩
      case round =>
        obtain ⟨k, hk, rfl, rfl, hb⟩ := hrel
        have x2 := keep_cell hb X2.out
        by_cases hlt : k < ks.length
        · obtain ⟨t, ad, h1, ls, A1, c1, hA, hx, rfl, hc1, hr1, q0, q1, q2⟩ := va_at (HR.out.below hb) hlt
          subst hA
          have hmem := List.mem_of_getElem? hx
          have hs1 := HS.out _ hmem
          simp only [T.size] at hs1
          have HTK : Hid (flatVs (ks.take (k + 1)) = flatVs (ks.take k) ++ flatV (T.mk h1 ls)) := flat_take hx
          have hl1 := flatVs_len (ks.take k)
          have hl2 := sizesV_take ks k
          have hl3 := flatV_len (T.mk h1 ls)
          simp only [T.size] at hl3
          have hcat := run_cat (P := Try.prog) (f0 ++ flatVs (ks.take k)) (flatV (T.mk h1 ls)) (by rw [List.length_append]; have := HF.out; omega)
          clear hx hl1 hl2 hl3
          go_wp2_with fail
          refine (IH.out ok h1 ls A1 c1 _ hs1 (by omega) hc1 hr1).mono ?_
          rintro e w1 ⟨rfl, hb1⟩
          have hb2 := below_from hb hb1
          clear hb1 hr1 q0 q1 q2 x2
          generalize flatV (T.mk h1 ls) = fx at *
          generalize flatVs (ks.take k) = fs at *
          go_wp2_with fail
          go_roundw
          case rel => exact ⟨k + 1, by omega, by go_num, by rw [HTK.out], hb2⟩
          case measure => simp [intOf]; omega
        · have hkk : k = ks.length := by omega
          subst hkk
          rw [List.take_length]
          clear hlt
          go_wp2_with fail
          go_ret
          exact ⟨by rw [HO.out]; rfl, HW.out.trans (hb.mono HW.out.size)⟩
    · have t1 : ((h.k.toNat : Int) == 2) = false := by
        rw [beq_eq_false_iff_ne]
        intro e
        exact hk (by rw [← UInt8.toNat_inj]; have e2 : (h.k.toNat : Int) = ((2 : Nat) : Int) := e; exact Int.ofNat.inj e2)
      have hf1 : f0 = [] := by rw [hf0, if_neg hk]
      clear hf0 hk
      have X2W := Lib.hid x2
      clear x0 x1 x2
      go_enter Try.func28, Try.ntmps28
      go_wp2_with fail
      rw [HW1.out]
      obtain ⟨W, hWU⟩ : ∃ W, W = W1 := ⟨_, rfl⟩
      rw [← hWU] at HB1 E1 X2W ⊢
      clear hWU
      have X2 := X2W
      have HW := HB1
      have HR := Lib.hid (hr.below HB1.out)
      have HS0 : Hid (Value.string ⟨#[]⟩ = .string (str f0)) := by unfold Hid; rw [hf1]
      clear hf1 hr
      go_loopw [3, 4, 15] (fun s _ i wr => ∃ (k : Nat), k ≤ ks.length ∧ i = .int .i64 k ∧ s = .string (str (f0 ++ flatVs (ks.take k))) ∧ Below W.heap.size W wr) (fun _ _ i _ => ks.length - (intOf i).toNat)
      case atStart => exact ⟨0, Nat.zero_le _, rfl, by simp only [List.take_zero, flatVs, List.append_nil]; exact HS0.out, Below.refl _ _⟩
      case round =>
        obtain ⟨k, hk, rfl, rfl, hb⟩ := hrel
        have x2 := keep_cell hb X2.out
        by_cases hlt : k < ks.length
        · obtain ⟨t, ad, h1, ls, A1, c1, hA, hx, rfl, hc1, hr1, q0, q1, q2⟩ := va_at (HR.out.below hb) hlt
          subst hA
          have hmem := List.mem_of_getElem? hx
          have hs1 := HS.out _ hmem
          simp only [T.size] at hs1
          have HTK : Hid (flatVs (ks.take (k + 1)) = flatVs (ks.take k) ++ flatV (T.mk h1 ls)) := flat_take hx
          have hl1 := flatVs_len (ks.take k)
          have hl2 := sizesV_take ks k
          have hl3 := flatV_len (T.mk h1 ls)
          simp only [T.size] at hl3
          have hcat := run_cat (P := Try.prog) (f0 ++ flatVs (ks.take k)) (flatV (T.mk h1 ls)) (by rw [List.length_append]; have := HF.out; omega)
          clear hx hl1 hl2 hl3
          go_wp2_with fail
          refine (IH.out ok h1 ls A1 c1 _ hs1 (by omega) hc1 hr1).mono ?_
          rintro e w1 ⟨rfl, hb1⟩
          have hb2 := below_from hb hb1
          clear hb1 hr1 q0 q1 q2 x2
          generalize flatV (T.mk h1 ls) = fx at *
          generalize flatVs (ks.take k) = fs at *
          go_wp2_with fail
          go_roundw
          case rel => exact ⟨k + 1, by omega, by go_num, by rw [HTK.out], hb2⟩
          case measure => simp [intOf]; omega
        · have hkk : k = ks.length := by omega
          subst hkk
          rw [List.take_length]
          clear hlt
          go_wp2_with fail
          go_ret
          exact ⟨by rw [HO.out]; rfl, HW.out.trans (hb.mono HW.out.size)⟩
end Go.Proofs.Yteokbmngebckjaa
namespace Go.Proofs.Yteokbmngebckjaa
open Go.RowKit
set_option linter.unusedVariables false
set_option linter.unusedSimpArgs false

theorem fillVs_append (xs ys : List Va) (s : List UInt8) : fillVs (xs ++ ys) s = match fillVs xs s with
    | none => none
    | some (l, s1) => (fillVs ys s1).map fun r => (l ++ r.1, r.2) := by
  induction xs generalizing s with
  | nil => simp only [List.nil_append, fillVs]; cases fillVs ys s <;> rfl
  | cons x xs ih =>
    simp only [List.cons_append, fillVs]
    cases fillV x s with
    | none => rfl
    | some r =>
      obtain ⟨v, s1⟩ := r
      simp only [ih]
      cases fillVs xs s1 with
      | none => rfl
      | some q =>
        obtain ⟨l, s2⟩ := q
        simp only [Option.map_some]
        cases fillVs ys s2 <;> rfl
mutual
/-- a value takes as many bytes as its text has -/
theorem fillV_drop : ∀ (t : Va) (s : List UInt8) (v : Va) (s1 : List UInt8), fillV t s = some (v, s1) → (flatV t).length ≤ s.length ∧ s1 = s.drop (flatV t).length
  | .mk h ks, s, v, s1, e => by
    simp only [fillV] at e
    simp only [flatV, List.length_append]
    by_cases hk : h.k = 2
    · rw [if_pos hk] at e ⊢
      cases s with
      | nil => cases e
      | cons b s =>
        simp only at e
        obtain ⟨r, h1, h2⟩ := Option.map_eq_some_iff.1 e
        have h3 := fillVs_drop ks s r.1 r.2 h1
        have h4 : r.2 = s1 := congrArg Prod.snd h2
        simp only [List.length_cons, List.length_nil]
        refine ⟨by omega, ?_⟩
        rw [← h4, h3.2, show 0 + 1 + (flatVs ks).length = (flatVs ks).length + 1 by omega]
        rfl
    · rw [if_neg hk] at e ⊢
      obtain ⟨r, h1, h2⟩ := Option.map_eq_some_iff.1 e
      have h3 := fillVs_drop ks s r.1 r.2 h1
      have h4 : r.2 = s1 := congrArg Prod.snd h2
      simp only [List.length_nil, Nat.zero_add]
      exact ⟨h3.1, by rw [← h4]; exact h3.2⟩
theorem fillVs_drop : ∀ (ts : List Va) (s : List UInt8) (l : List Va) (s1 : List UInt8), fillVs ts s = some (l, s1) → (flatVs ts).length ≤ s.length ∧ s1 = s.drop (flatVs ts).length
  | [], s, l, s1, e => by
    simp only [fillVs] at e
    cases e
    simp [flatVs]
  | v :: vs, s, l, s1, e => by
    simp only [fillVs] at e
    cases h1 : fillV v s with
    | none => rw [h1] at e; cases e
    | some r =>
      rw [h1] at e
      obtain ⟨x, s2⟩ := r
      simp only at e
      obtain ⟨q, h3, h4⟩ := Option.map_eq_some_iff.1 e
      have h5 := fillV_drop v s x s2 h1
      have h6 := fillVs_drop vs s2 q.1 q.2 h3
      have h7 : q.2 = s1 := congrArg Prod.snd h4
      have h8 := congrArg List.length h5.2
      rw [List.length_drop] at h8
      simp only [flatVs, List.length_append]
      refine ⟨by omega, ?_⟩
      rw [← h7, h6.2, h5.2, List.drop_drop]
end
theorem fill_take {ks : List Va} {k : Nat} {t : Va} (hx : ks[k]? = some t) {s : List UInt8} {l : List Va} {s1 : List UInt8} (h : fillVs (ks.take k) s = some (l, s1)) :
    (fillV t s1 = none → fillVs ks s = none) ∧ ∀ x s2, fillV t s1 = some (x, s2) → fillVs (ks.take (k + 1)) s = some (l ++ [x], s2) := by
  constructor
  · intro hn
    have hk : k < ks.length := (List.getElem?_eq_some_iff.1 hx).1
    have e : ks = ks.take k ++ t :: ks.drop (k + 1) := by
      have h2 : t = ks[k] := by rw [List.getElem?_eq_getElem hk] at hx; exact (Option.some.inj hx).symm
      rw [h2, ← List.drop_eq_getElem_cons hk, List.take_append_drop]
    rw [e, fillVs_append, h]
    simp only [fillVs, hn, Option.map_none]
  · intro x s2 hs
    rw [List.take_add_one, hx, fillVs_append, h]
    simp only [Option.toList_some, fillVs, hs, Option.map_some]
mutual
theorem fillV_own : ∀ (t : Va) (z : List UInt8), fillV t (flatV t ++ z) = some (t, z)
  | .mk h ks, z => by
    have h1 := fillVs_own ks z
    simp only [fillV, flatV]
    by_cases hk : h.k = 2
    · rw [if_pos hk, if_pos hk]
      simp only [List.cons_append, List.nil_append, h1, Option.map_some]
    · rw [if_neg hk, if_neg hk]
      simp only [List.nil_append, h1, Option.map_some]
theorem fillVs_own : ∀ (ts : List Va) (z : List UInt8), fillVs ts (flatVs ts ++ z) = some (ts, z)
  | [], z => by simp [fillVs, flatVs]
  | v :: vs, z => by
    simp only [fillVs, flatVs, List.append_assoc, fillV_own v (flatVs vs ++ z), fillVs_own vs z, Option.map_some]
end
/-- a value with all bytes of a text -/
def fullV (t : Va) (s : List UInt8) : Option Va := match fillV t s with
  | some (v, []) => some v
  | _ => none
theorem full_own (t : Va) : fullV t (flatV t) = some t := by
  have := fillV_own t []
  rw [List.append_nil] at this
  unfold fullV
  rw [this]
end Go.Proofs.Yteokbmngebckjaa
namespace Go.Proofs.Yteokbmngebckjaa
open Go.RowKit
set_option linter.unusedVariables false
set_option linter.unusedSimpArgs false

theorem Try.info_va : (Try.prog.info? 24).map (fun i => (i.zero, i.size, i.bytes)) = some (some (.agg #[.int .u8 0, .int .u8 0, .slice none 0 0]), 3, 32) := by kernel_rfl
abbrev vaZ : Array Value := #[.int .u8 0, .int .u8 0, .slice none 0 0]
abbrev vaH0 : VH := ⟨0, 0⟩
theorem va_new {ok : Nat → Prop} {w : World} {h : VH} {ks : List Va} {A : Option Addr} {c : Nat} {t : TypeId} (hc : ks.length ≤ c) (hr : InRow VE ok w ks A 0) (hlt : ∀ b, ok b → b < w.heap.size) (base : Nat) (hbase : base ≤ w.heap.size) :
    OwnT VE ok (w.alloc (.cells (vaA h A ks.length c) t)) base t (.slice (some ⟨w.heap.size, 0, none⟩) 1 1) [.mk h ks] := by
  refine ⟨fun b hb e => ?_, _, World.ownsRow_lit w _ 1 hbase (by unfold maxLen; omega) rfl, fun k x hx => ?_⟩
  · cases e; exact Nat.lt_irrefl _ (hlt _ hb)
  · cases k with
    | succ k => simp at hx
    | zero =>
      simp at hx
      subst hx
      refine ⟨VH.cells h ++ [.slice A ks.length c], fun j u hu => by simpa [VE, VH.cells] using hu, ?_⟩
      simp only [InT]
      exact ⟨A, c, rfl, hc, hr.below (below_new (Below.refl _ _) _)⟩
theorem va_src {P : Nat → Prop} {w : World} {h : VH} {ks : List Va} {A : Option Addr} {c : Nat} (hc : ks.length ≤ c) (hr : InRow VE P w ks A 0) : ∀ (k : Nat) (t : Va), [T.mk h ks][k]? = some t → ∃ d, (∀ j u, d[j]? = some u → (vaA h A ks.length c).toList[k * 3 + j]? = some u) ∧ InT VE P w t d := by
  intro k t ht
  cases k with
  | succ k => simp at ht
  | zero =>
    simp at ht
    subst ht
    refine ⟨VH.cells h ++ [.slice A ks.length c], fun j u hu => by simpa [VH.cells] using hu, ?_⟩
    simp only [InT]
    exact ⟨A, c, rfl, hc, hr⟩
theorem vaA_one (h : VH) (A : Option Addr) (n c : Nat) : ∀ u ∈ (vaA h A n c).toList, u.oneCell' = true := by
  intro u hu
  simp at hu
  rcases hu with rfl | rfl | rfl <;> rfl
/-- one more behind a row of the call's own -/
theorem va_app {okk P : Nat → Prop} {w1 w2 : World} {base : Nat} {o : Value} {ts : List Va} {tb : Va} {h2 : VH} {k2 : List Va} {A2 : Option Addr} {c2 : Nat} {e : TypeId}
    (HO : OwnT VE okk w1 base e o ts) (hok : ∀ x, okk x → x < w1.heap.size) (hP : ∀ x, P x → x < w1.heap.size ∧ some x ≠ o.ownBlock) (hz : Below w1.heap.size w1 w2) (e2 : tb = .mk h2 k2) (hc2 : k2.length ≤ c2) (hr2 : InRow VE (fun x => P x ∨ w1.heap.size ≤ x) w2 k2 A2 0) :
    ∃ cs0, (w2.alloc (.cells (vaA h2 A2 k2.length c2) e)).ownsRow base e 3 o ts.length cs0 ∧ Src (w2.alloc (.cells (vaA h2 A2 k2.length c2) e)) (some ⟨w2.heap.size, 0, none⟩) 1 3 (vaA h2 A2 k2.length c2).toList ∧
      ∀ v5 w5, w5.ownsRow base e 3 v5 (ts.length + 1) (cs0 ++ (vaA h2 A2 k2.length c2).toList) → (w2.alloc (.cells (vaA h2 A2 k2.length c2) e)).grownBy w5 o.ownBlock → (v5.ownBlock = o.ownBlock ∨ v5.ownBlock = some (w2.alloc (.cells (vaA h2 A2 k2.length c2) e)).heap.size) →
        OwnT VE (fun x => okk x ∨ P x ∨ (w1.heap.size ≤ x ∧ x < w2.heap.size)) w5 base e v5 (ts ++ [tb]) := by
  have hXb : Below w2.heap.size w2 (w2.alloc (.cells (vaA h2 A2 k2.length c2) e)) := below_new (Below.refl _ _) _
  have ho5 : OwnT VE (fun x => okk x ∨ P x ∨ (w1.heap.size ≤ x ∧ x < w2.heap.size)) (w2.alloc (.cells (vaA h2 A2 k2.length c2) e)) base e o ts := (HO.keep (below_from hz hXb)).narrow (fun x hx => .inl hx) fun x hx e => by
    rcases hx with hx | hx | hx
    · exact HO.1 x hx e
    · exact (hP x hx).2 e
    · have := own_inE HO e.symm; omega
  obtain ⟨h0, cs0, hown0, hk0⟩ := ho5
  refine ⟨cs0, hown0, new_src w2 1 3 (vaA h2 A2 k2.length c2) e rfl, fun v5 w5 a b d => ?_⟩
  refine OwnT.app (ys := [tb]) h0 hown0 hk0 ?_ a b d (fun x hx => ?_)
  · rw [e2]
    exact va_src hc2 ((hr2.there.below hXb).weak fun x hx => by rcases hx.1 with h | h; exact .inr (.inl h); exact .inr (.inr ⟨h, hx.2⟩))
  · rw [World.size_alloc]
    have := hz.size
    rcases hx with hx | hx | hx
    · have := hok x hx; omega
    · have := (hP x hx).1; omega
    · omega
theorem va_cells {w : World} {b : Nat} {v0 v1 v2 : Value} {t : TypeId} (h : w.heap[b]? = some (.cells #[v0, v1, v2] t (0, 0))) :
    (w.cell? ⟨b, 0, none⟩ = some v0 ∧ w.cell? ⟨b, 1, none⟩ = some v1 ∧ w.cell? ⟨b, 2, none⟩ = some v2) ∧ w.frozen? ⟨b, 0, none⟩ = false ∧ w.frozen? ⟨b, 1, none⟩ = false ∧ w.frozen? ⟨b, 2, none⟩ = false := by
  refine ⟨⟨?_, ?_, ?_⟩, ?_, ?_, ?_⟩ <;> simp [World.cell?, World.frozen?, h]
theorem three_setCells {w : World} {b : Nat} {v0 v1 v2 u0 u1 u2 : Value} {t : TypeId} (h : w.heap[b]? = some (.cells #[v0, v1, v2] t (0, 0))) :
    (((w.setCell ⟨b, 0, none⟩ u0).setCell ⟨b, 1, none⟩ u1).setCell ⟨b, 2, none⟩ u2).heap[b]? = some (.cells #[u0, u1, u2] t (0, 0)) := by
  simp [World.setCell, Array.getElem?_modify, h]
theorem one_setCell {w : World} {b : Nat} {v0 v1 v2 u1 : Value} {t : TypeId} (h : w.heap[b]? = some (.cells #[v0, v1, v2] t (0, 0))) :
    (w.setCell ⟨b, 1, none⟩ u1).heap[b]? = some (.cells #[v0, u1, v2] t (0, 0)) := by
  simp [World.setCell, Array.getElem?_modify, h]
theorem two_setCell {w : World} {b : Nat} {v0 v1 v2 u2 : Value} {t : TypeId} (h : w.heap[b]? = some (.cells #[v0, v1, v2] t (0, 0))) :
    (w.setCell ⟨b, 2, none⟩ u2).heap[b]? = some (.cells #[v0, v1, u2] t (0, 0)) := by
  simp [World.setCell, Array.getElem?_modify, h]
theorem three_other {w : World} {b k : Nat} {u0 u1 u2 : Value} (hk : k ≠ b) :
    (((w.setCell ⟨b, 0, none⟩ u0).setCell ⟨b, 1, none⟩ u1).setCell ⟨b, 2, none⟩ u2).heap[k]? = w.heap[k]? := by
  rw [Below.heap_setCell _ _ _ _ hk, Below.heap_setCell _ _ _ _ hk, Below.heap_setCell _ _ _ _ hk]
theorem three_below {w x : World} {b B : Nat} {u0 u1 u2 : Value} (hb : Below B w x) (hB : B ≤ b) : Below B w (((x.setCell ⟨b, 0, none⟩ u0).setCell ⟨b, 1, none⟩ u1).setCell ⟨b, 2, none⟩ u2) :=
  ((hb.setCell hB _).setCell hB _).setCell hB _
theorem row_three {w : World} {ok : Nat → Prop} {ks : List Va} {A : Option Addr} {i : Nat} {b : Nat} {u0 u1 u2 : Value} (h : InRow VE ok w ks A i) (hp : ∀ x, ok x → x ≠ b) :
    InRow VE ok (((w.setCell ⟨b, 0, none⟩ u0).setCell ⟨b, 1, none⟩ u1).setCell ⟨b, 2, none⟩ u2) ks A i :=
  h.keep (fun _ h => h) fun a u ha hu => (World.cell?_of_block (three_other (hp _ ha))).trans hu
theorem row_setV {w : World} {ok : Nat → Prop} {ks : List Va} {A : Option Addr} {i : Nat} {b o : Nat} {u : Value} (h : InRow VE ok w ks A i) (hp : ∀ x, ok x → x ≠ b) : InRow VE ok (w.setCell ⟨b, o, none⟩ u) ks A i :=
  h.keep (fun _ h => h) fun a u ha hu => (World.cell?_of_block (Below.heap_setCell _ _ _ _ (hp _ ha))).trans hu
/-- a box with a value, that leads to ok blocks -/
def BoxV (P : Nat → Prop) (B : World) (t : Va) (q : Value) (wx : World) : Prop :=
  ∃ b h ks A c, q = .pointer (some ⟨b, 0, none⟩) ∧ t = .mk h ks ∧ ks.length ≤ c ∧ wx.heap[b]? = some (.cells (vaA h A ks.length c) 24 (0, 0)) ∧ InRow VE (fun x => P x ∧ x ≠ b) wx ks A 0 ∧ Below B.heap.size B wx ∧ B.heap.size ≤ b
end Go.Proofs.Yteokbmngebckjaa
