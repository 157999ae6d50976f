/- Some, two by two; a text's bytes: as the document has it. -/
import Derived.Test.YthagcmpehpgmpaaMake2
import Derived.Test.YthagcmpehpgmpaaRexC
import Derived.Deep.RegionHeld3
namespace Go.Proofs.Ythagcmpehpgmpaa
open Go.RowKit
set_option linter.unusedVariables false
set_option linter.unusedSimpArgs false

theorem InRow.shift {α : Type} {E : Enc α} {ok : Nat → Prop} {w : World} {ad : Addr} : ∀ {ts : List (T α)} (n i : Nat), InRow E ok w ts (some ad) (n + i) → InRow E ok w ts (some (ad.add (n * (E.sz + 1)))) i
  | [], n, i, _ => by simp [InRow]
  | t :: ts, n, i, h => by
    simp only [InRow] at h ⊢
    obtain ⟨⟨ad', cs, e, ho, hc, ht⟩, hr⟩ := h
    cases e
    refine ⟨⟨_, cs, rfl, ?_, fun j u hu => ?_, ht⟩, InRow.shift n (i + 1) (by rwa [show n + (i + 1) = n + i + 1 by omega])⟩
    · have : (ad.add (n * (E.sz + 1))).block = ad.block := by unfold Addr.add; split <;> rfl
      rw [this]; exact ho
    · rw [add_add_, ← hc j u hu]
      congr 2
      rw [Nat.add_mul]; omega
theorem InRow.tail {α : Type} {E : Enc α} {ok : Nat → Prop} {w : World} {ad : Addr} {t : T α} {ts : List (T α)} (h : InRow E ok w (t :: ts) (some ad) 0) : InRow E ok w ts (some (ad.add (E.sz + 1))) 0 := by
  simp only [InRow] at h
  have := InRow.shift 1 0 h.2
  rwa [Nat.one_mul] at this

/-- the result is laid into its variable, which nothing leads to -/
theorem res_post {ok P : Nat → Prop} {w w1 : World} {t : Re} {h : RH} {ks : List Re} {A : Option Addr} {c : Nat} (ht : t = .mk h ks) (hc : ks.length ≤ c) (hr1 : InRow RE P w1 ks A 0) (hP : ∀ x, P x → (ok x ∨ w.heap.size ≤ x) ∧ x ≠ w.heap.size) (hb2 : Below w.heap.size w w1) :
    RePost ok t w (.returned (reV h A ks.length c)) ((((((w1.setCell ⟨w.heap.size, 0, none⟩ (.int .u8 (h.k.toNat : Int))).setCell ⟨w.heap.size, 1, none⟩ (.int .u64 (h.s.a.toNat : Int))).setCell ⟨w.heap.size, 2, none⟩ (.int .u64 (h.s.b.toNat : Int))).setCell ⟨w.heap.size, 3, none⟩ (.int .u64 (h.s.c.toNat : Int))).setCell ⟨w.heap.size, 4, none⟩ (.int .u64 (h.s.d.toNat : Int))).setCell ⟨w.heap.size, 5, none⟩ (.slice A ks.length c)) :=
  ⟨_, rfl, ⟨h, ks, A, c, ht, hc, rfl, hr1.keep (fun b hb => (hP b hb).1) fun a v ha hv => (World.cell?_of_block (six_other (hP _ ha).2)).trans hv⟩, six_below hb2 (Nat.le_refl _)⟩

/-- what a call leaves, said of an elder world -/
def RePostAt (P : Nat → Prop) (t : Re) (W : World) (e : Ending) (w' : World) : Prop := ∃ h ks A c, e = .returned (reV h A ks.length c) ∧ t = .mk h ks ∧ ks.length ≤ c ∧ InRow RE P w' ks A 0 ∧ Below W.heap.size W w'
theorem RePost.at_ {ok : Nat → Prop} {t : Re} {W w : World} {e : Ending} {w' : World} (hb : Below W.heap.size W w) (h : RePost ok t w e w') : RePostAt (fun b => ok b ∨ W.heap.size ≤ b) t W e w' := by
  obtain ⟨v, rfl, ⟨h, ks, A, c, ht, hc, rfl, hr⟩, hb1⟩ := h
  refine ⟨h, ks, A, c, rfl, ht, hc, hr.weak fun b hb' => ?_, below_from hb hb1⟩
  rcases hb' with hb' | hb'
  · exact .inl hb'
  · exact .inr (Nat.le_trans hb.size hb')

set_option maxHeartbeats 8000000 in
theorem refFold_upto (kv : Int) (kd nn : UInt8) (hkv : kv = (kd.toNat : Int)) (hkn : (kd = 4 ∧ nn = 2) ∨ (kd = 5 ∧ nn = 1)) : ∀ (ts : List Re) (ok : Nat → Prop) (A : Option Addr) (c : Nat) (w : World), ts.length ≤ 1000000000 → ts.length ≤ c → InRow RE ok w ts A 0 →
    Calls Try.prog 27 #[.int .u8 kv, .slice A ts.length c] w (RePost ok (foldT kd nn ts) w) := by
  subst hkv
  intro ts
  induction ts with
  | nil =>
    intro ok A c w hm hc hr
    rcases hkn with ⟨rfl, rfl⟩ | ⟨rfl, rfl⟩
    · go_enter Try.func27, Try.ntmps27
      go_wp2_with fail
      refine (bare_any _ 2 rfl _).mono ?_
      rintro e w1 ⟨rfl, hb1⟩
      have hb2 := below_from (below_new (Below.refl _ _) _) hb1
      have E1 := Lib.hid (one_block hb1)
      obtain ⟨⟨x0, x1, x2, x3, x4, x5⟩, f0, f1, f2, f3, f4, f5⟩ := re_cells E1.out
      clear hb1
      go_wp2_with fail
      refine bodyPost_ret (v := reV ⟨2, S4.zero⟩ none 0 0) (by simp [results, Try.results27, go_sem, x0, x1, x2, x3, x4, x5]) rfl (res_post (ks := []) (P := fun _ => False) rfl (Nat.le_refl _) (by simp [InRow]) (fun _ h => h.elim) hb2)
    · go_enter Try.func27, Try.ntmps27
      go_wp2_with fail
      refine (bare_any _ 1 rfl _).mono ?_
      rintro e w1 ⟨rfl, hb1⟩
      have hb2 := below_from (below_new (Below.refl _ _) _) hb1
      have E1 := Lib.hid (one_block hb1)
      obtain ⟨⟨x0, x1, x2, x3, x4, x5⟩, f0, f1, f2, f3, f4, f5⟩ := re_cells E1.out
      clear hb1
      go_wp2_with fail
      refine bodyPost_ret (v := reV ⟨1, S4.zero⟩ none 0 0) (by simp [results, Try.results27, go_sem, x0, x1, x2, x3, x4, x5]) rfl (res_post (ks := []) (P := fun _ => False) rfl (Nat.le_refl _) (by simp [InRow]) (fun _ h => h.elim) hb2)
  | cons t ts ih =>
    intro ok A c w hm hc hr
    clear hkn
    have IH := Lib.hid ih
    clear ih
    obtain ⟨t', ad, hh, ks, A1, c1, hA, hx, ht, hc1, hr1, q0, q1, q2, q3, q4, q5⟩ := re_at hr (show 0 < (t :: ts).length by simp)
    subst hA
    have hr1' := hr1.there
    have HX : Hid (t = .mk hh ks) := by
      simp only [List.getElem?_cons_zero, Option.some.injEq] at hx
      exact hx.trans ht
    have HTl := Lib.hid (InRow.tail hr.there)
    clear hx ht hr hr1
    simp only [Nat.zero_mul] at q0 q1 q2 q3 q4 q5
    have e0 : ad.add 0 = ad := rfl
    rw [e0] at q0 q1 q2 q3 q4 q5
    have z0 := fun o => keep_cell (below_new (Below.refl _ w) o) q0
    have z1 := fun o => keep_cell (below_new (Below.refl _ w) o) q1
    have z2 := fun o => keep_cell (below_new (Below.refl _ w) o) q2
    have z3 := fun o => keep_cell (below_new (Below.refl _ w) o) q3
    have z4 := fun o => keep_cell (below_new (Below.refl _ w) o) q4
    have z5 := fun o => keep_cell (below_new (Below.refl _ w) o) q5
    cases ts with
    | nil =>
      go_enter Try.func27, Try.ntmps27
      go_wp2_with fail
      refine bodyPost_ret (v := reV hh A1 ks.length c1) (by simp [results, Try.results27, go_sem]) rfl ⟨_, rfl, ⟨hh, ks, A1, c1, HX.out, hc1, rfl, (hr1'.below (below_new (Below.refl _ _) _)).weak fun b hb => .inl hb.1⟩, below_new (Below.refl _ _) _⟩
    | cons u ts =>
      have HT : Hid (foldT kd nn (t :: u :: ts) = .mk ⟨kd, S4.zero⟩ [t, foldT kd nn (u :: ts)]) := rfl
      have hl : (t :: u :: ts).length = (u :: ts).length + 1 := rfl
      obtain ⟨n, hn⟩ : ∃ n, (u :: ts).length = n := ⟨_, rfl⟩
      have hn1 : 1 ≤ n := by rw [← hn]; simp
      have gb1 : (1 : Int) ≤ (n : Int) + 1 := by omega
      have g0 : ((n : Int) + 1 == 0) = false := by simp; omega
      have g1 : ((n : Int) + 1 == 1) = false := by simp; omega
      rw [hl, hn] at hm hc ⊢
      have gb2 : (n : Int) + 1 ≤ (c : Int) := by omega
      have gc : ¬ (c = 1) := by omega
      have gne : ¬ (ad.block = w.heap.size) := by have := World.block_lt_of_cell? _ _ q0; omega
      have gne' : ¬ (w.heap.size = ad.block) := fun e => gne e.symm
      have E0 := Lib.hid (new_at (w := w) (.cells #[.int .u8 0, .int .u64 0, .int .u64 0, .int .u64 0, .int .u64 0, .slice none 0 0] 43) rfl)
      obtain ⟨W, hW⟩ : ∃ W, w.alloc (.cells #[.int .u8 0, .int .u64 0, .int .u64 0, .int .u64 0, .int .u64 0, .slice none 0 0] 43) = W := ⟨_, rfl⟩
      have hbW : Below w.heap.size w W := by rw [← hW]; exact below_new (Below.refl _ _) _
      have hsW : W.heap.size = w.heap.size + 1 := by rw [← hW]; simp
      have hC : ∀ X, Below W.heap.size W X → Calls Try.prog 27 #[.int .u8 (kd.toNat : Int), .slice (some ⟨ad.block, ad.off + 6, none⟩) n (c - 1)] X (RePostAt (fun b => (ok b ∧ b < w.heap.size) ∨ W.heap.size ≤ b) (foldT kd nn (u :: ts)) W) := by
        intro X hX
        have := IH.out (fun b => ok b ∧ b < w.heap.size) (some ⟨ad.block, ad.off + 6, none⟩) (c - 1) X (by rw [hn]; omega) (by rw [hn]; omega) ((HTl.out.below hbW).below hX)
        rw [hn] at this
        exact this.mono fun e w' h => h.at_ hX
      have HC := Lib.hid hC
      clear hC
      have hC2 : ∀ (h5 : RH) (ks5 : List Re) (A5 : Option Addr) (c5 : Nat) (X : World), ks5.length ≤ c5 → InRow RE (fun b => (ok b ∧ b < w.heap.size) ∨ W.heap.size ≤ b) X ks5 A5 0 → Below W.heap.size W X →
          Calls Try.prog 48 #[.int .u8 (kd.toNat : Int), reV hh A1 ks.length c1, reV h5 A5 ks5.length c5] X (RePostAt (fun b => ((ok b ∧ b < w.heap.size) ∨ W.heap.size ≤ b) ∨ W.heap.size ≤ b) (.mk ⟨kd, S4.zero⟩ [.mk hh ks, .mk h5 ks5]) W) := by
        intro h5 ks5 A5 c5 X hc5 hr5 hX
        exact (two_any _ kd rfl hh h5 ks ks5 A1 A5 c1 c5 X hc1 hc5 (((hr1'.below hbW).below hX).weak fun b hb => .inl hb) hr5).mono fun e w' h => h.at_ hX
      have HC2 := Lib.hid hC2
      clear hC2
      have w0 := keep_cell hbW q0
      have w1' := keep_cell hbW q1
      have w2' := keep_cell hbW q2
      have w3' := keep_cell hbW q3
      have w4' := keep_cell hbW q4
      have w5' := keep_cell hbW q5
      go_enter Try.func27, Try.ntmps27
      go_wp2_with fail
      rw [hW] at E0
      go_region_held3 (fun w' => w'.cell? ad = some (.int .u8 (hh.k.toNat : Int)) ∧ w'.cell? ⟨ad.block, ad.off + 1, none⟩ = some (.int .u64 (hh.s.a.toNat : Int)) ∧ w'.cell? ⟨ad.block, ad.off + 2, none⟩ = some (.int .u64 (hh.s.b.toNat : Int)) ∧ w'.cell? ⟨ad.block, ad.off + 3, none⟩ = some (.int .u64 (hh.s.c.toNat : Int)) ∧ w'.cell? ⟨ad.block, ad.off + 4, none⟩ = some (.int .u64 (hh.s.d.toNat : Int)) ∧ w'.cell? ⟨ad.block, ad.off + 5, none⟩ = some (.slice A1 ks.length c1))
        (go_keep)
        (first
          | (go_at_call 27; refine (HC.out _ (by first | exact Below.refl _ _ | exact (Below.refl _ _).drew | exact (Below.refl _ _).drew.drew)).mono ?_; rintro e w1 ⟨h5, ks5, A5, c5, rfl, e5, hc5, hr5, hb1⟩; have k0 := keep_cell hb1 w0; have k1 := keep_cell hb1 w1'; have k2 := keep_cell hb1 w2'; have k3 := keep_cell hb1 w3'; have k4 := keep_cell hb1 w4'; have k5 := keep_cell hb1 w5'; have E5 := Lib.hid e5; clear e5)
          | (go_at_call 48; refine (HC2.out h5 ks5 A5 c5 _ hc5 hr5 hb1).mono ?_; rintro e w2 ⟨h6, ks6, A6, c6, rfl, e6, hc6, hr6, hb2⟩; have l0 := keep_cell hb2 w0; have l1 := keep_cell hb2 w1'; have l2 := keep_cell hb2 w2'; have l3 := keep_cell hb2 w3'; have l4 := keep_cell hb2 w4'; have l5 := keep_cell hb2 w5'; have E6 := Lib.hid e6; clear e6; obtain ⟨⟨y0, y1, y2, y3, y4, y5⟩, f0, f1, f2, f3, f4, f5⟩ := re_cells ((hb2.block _ (lt_of_block E0.out)).trans E0.out))
          | fail)
      have HSW := Lib.hid hsW
      clear hsW
      go_wp2_with fail
      refine bodyPost_ret (v := reV h6 A6 ks6.length c6) (by simp [results, Try.results27, go_sem, y0, y1, y2, y3, y4, y5]) rfl (res_post (by rw [HT.out, HX.out, E5.out]; exact E6.out) hc6 hr6 (fun b hb => ?_) (below_from hbW hb2))
      have := HSW.out
      rcases hb with (hb | hb) | hb
      · exact ⟨.inl hb.1, by omega⟩
      · exact ⟨.inr (by omega), by omega⟩
      · exact ⟨.inr (by omega), by omega⟩
end Go.Proofs.Ythagcmpehpgmpaa
