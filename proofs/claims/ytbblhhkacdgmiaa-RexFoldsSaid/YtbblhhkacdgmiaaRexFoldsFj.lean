/- Some behind one another are the first one, and the others behind it; and have one node more between one and the next: for every input, of any size. -/
import Derived.Test.YtbblhhkacdgmiaaAwake3
import Derived.Test.YtbblhhkacdgmiaaSr2
import Derived.Test.YtbblhhkacdgmiaaRefWord
import Derived.Test.YtbblhhkacdgmiaaBg
import Derived.WalkKit
import Derived.OpenShut
import Derived.JoinedCond
namespace Go.Proofs.Ytbblhhkacdgmiaa
open Go.RowKit
set_option linter.unusedVariables false
set_option linter.unusedSimpArgs false

theorem fsize (kd nn : UInt8) : ∀ (t : Re) (ts : List Re), (foldT kd nn (t :: ts)).size = T.sizes (t :: ts) + ts.length
  | t, [] => by simp [foldT, T.sizes]
  | t, u :: ts => by
    have := fsize kd nn u ts
    simp only [foldT, T.size, T.sizes, List.length_cons] at this ⊢
    omega
theorem foldT_short (kd nn : UInt8) : ∀ (ts : List Re), T.shorts ts → T.short (foldT kd nn ts)
  | [], _ => .mk (by simp) (by simp [T.shorts])
  | [t], h => by simp only [T.shorts] at h; exact h.1
  | t :: u :: ts, h => by
    have h2 := h
    simp only [T.shorts] at h
    refine .mk (by simp) ?_
    simp only [T.shorts]
    exact ⟨h.1, foldT_short kd nn (u :: ts) (by simp only [T.shorts]; exact h.2), trivial⟩
/-- what a call makes -/
def Made2 (t : Re) (w : World) (e : Ending) (w' : World) : Prop := ∃ h ks A c, e = .returned (reV h A ks.length c) ∧ t = .mk h ks ∧ ks.length ≤ c ∧ InRow RE (fun _ => True) w' ks A 0 ∧ Below w.heap.size w w'
theorem RePost.made2 {ok : Nat → Prop} {t : Re} {w : World} {e : Ending} {w' : World} (h : RePost ok t w e w') : Made2 t w e w' := by
  obtain ⟨v, rfl, ⟨h, ks, A, c, ht, hc, rfl, hr⟩, hb1⟩ := h
  exact ⟨h, ks, A, c, rfl, ht, hc, hr.weak fun b hb' => trivial, hb1⟩
theorem rsame_one (t : Re) (h h2 : RH) (ks ks2 : List Re) (A A2 : Option Addr) (c c2 : Nat) (X : World) (e1 : t = .mk h ks) (e2 : t = .mk h2 ks2) (hm : T.short t) (hr : InRow RE (fun _ => True) X ks A 0) (hr2 : InRow RE (fun _ => True) X ks2 A2 0) :
    Calls Try.prog 19 #[reV h A ks.length c, reV h2 A2 ks2.length c2] X fun e w' => e = .returned (.bool true) ∧ Below X.heap.size X w' := by
  have := rexSame_s _ (fun _ => True) h h2 ks ks2 A A2 c c2 X (Nat.le_refl _) (by rw [← e1]; exact hm) (by rw [← e2]; exact hm) hr hr2
  rw [← e1, ← e2, sameT_refl] at this
  exact this

set_option maxHeartbeats 1000000 in
theorem rexFoldsF_walk (ts : List Re) (A : Option Addr) (c : Nat) (w : World) (hlm : ts.length ≤ 9223372036854775807) (hm : T.shorts ts) (hc : ts.length ≤ c) (hr : InRow RE (fun _ => True) w ts A 0) :
    Calls Try.prog 5 #[.slice A ts.length c] w fun e w' => e = .returned (.bool true) ∧ Below w.heap.size w w' := by
  go_enter Try.func5, Try.ntmps5
  go_wp2_with fail
  refine (GreatAll_s ts A c 200 _ hlm hm hr).mono ?_
  rintro e w1 ⟨⟨b0, rfl, h20⟩, hb1⟩
  have hr1 := hr.below hb1
  clear hr
  cases b0 with
  | true =>
    go_wp2_with fail
    refine (awake3_any w1).mono ?_
    rintro e w2 ⟨rfl, hb3⟩
    have hb4 := below_from hb1 hb3
    clear hb3 hb1
    go_wp2_with fail
    go_ret
    exact ⟨rfl, hb4⟩
  | false =>
    have hl := h20 rfl
    clear h20 hlm
    match ts, hl with
    | [], hl =>
      go_wp2_with fail
      refine (awake3_any w1).mono ?_
      rintro e w2 ⟨rfl, hb3⟩
      have hb4 := below_from hb1 hb3
      clear hb3 hb1
      go_wp2_with fail
      go_ret
      exact ⟨rfl, hb4⟩
    | [t], hl =>
      go_wp2_with fail
      refine (awake3_any w1).mono ?_
      rintro e w2 ⟨rfl, hb3⟩
      have hb4 := below_from hb1 hb3
      clear hb3 hb1
      go_wp2_with fail
      go_ret
      exact ⟨rfl, hb4⟩
    | t :: u :: rest, hl =>
      obtain ⟨n, hn⟩ : ∃ n, (u :: rest).length = n := ⟨_, rfl⟩
      have hl2 : (t :: u :: rest).length = n + 1 := by rw [← hn]; rfl
      have hn1 : 1 ≤ n := by rw [← hn]; simp
      obtain ⟨t', ad, h0, k0, A0, c0, hA, hx, ht, hc0, hr0, q0, q1, q2, q3, q4, q5⟩ := re_at hr1 (show 0 < (t :: u :: rest).length by simp)
      subst hA
      have HT0 : Hid (t = .mk h0 k0) := by
        simp only [List.getElem?_cons_zero, Option.some.injEq] at hx
        exact hx.trans ht
      have HTl := Lib.hid (InRow.tail hr1)
      have HTo : Hid (T.shorts (t :: u :: rest)) := hm
      have F4 : Hid (foldT 4 2 (t :: u :: rest) = .mk ⟨4, S4.zero⟩ [t, foldT 4 2 (u :: rest)]) := rfl
      have F5 : Hid (foldT 5 1 (t :: u :: rest) = .mk ⟨5, S4.zero⟩ [t, foldT 5 1 (u :: rest)]) := rfl
      have Z4 : Hid ((foldT 4 2 (t :: u :: rest)).size = T.sizes (t :: u :: rest) + n) := by unfold Hid; rw [fsize, hn]
      have Z5 : Hid ((foldT 5 1 (t :: u :: rest)).size = T.sizes (t :: u :: rest) + n) := by unfold Hid; rw [fsize, hn]
      clear hx ht
      simp only [Nat.zero_mul] at q0 q1 q2 q3 q4 q5
      have e0 : ad.add 0 = ad := rfl
      rw [e0] at q0 q1 q2 q3 q4 q5
      rw [hl2] at hl hc ⊢
      have HR1 := Lib.hid hr1
      clear hr1 e0 hm
      have gc : ¬ (c = 1) := by omega
      have g2 : decide ((n : Int) + 1 < 2) = false := by simp; omega
      go_wp2_with fail
      have hlt : n + 1 ≤ 1000000000 := by omega
      have C26 := then_any (t :: u :: rest) (some ad) c w1 (by rw [hl2]; exact hlt) (by rw [hl2]; exact hc) HR1.out
      rw [hl2] at C26
      refine C26.mono ?_
      rintro e w2 h
      obtain ⟨hx, kx, Ax, cx, rfl, ex, hcx, hrx, hbx⟩ := h.made2
      have EX := Lib.hid ex
      have HCX := Lib.hid hcx
      clear ex hcx h C26
      go_wp2_with fail
      have C28 := or_any (t :: u :: rest) (some ad) c w2 (by rw [hl2]; exact hlt) (by rw [hl2]; exact hc) (HR1.out.below hbx)
      rw [hl2] at C28
      refine C28.mono ?_
      rintro e w3 h
      obtain ⟨hy, ky, Ay, cy, rfl, ey, hcy, hry, hby⟩ := h.made2
      have EY := Lib.hid ey
      have HCY := Lib.hid hcy
      clear ey hcy h C28
      have hb3 := Lib.hid (below_from (below_from hb1 hbx) hby)
      -- the world of the region
      obtain ⟨W, hW⟩ : ∃ W, (w3.alloc (.cells (reA hx Ax kx.length cx) 30)).alloc (.cells (reA hy Ay ky.length cy) 30) = W := ⟨_, rfl⟩
      obtain ⟨n1, n2⟩ := two_new (w := w3) (.cells (reA hx Ax kx.length cx) 30) (.cells (reA hy Ay ky.length cy) 30)
      have hbW : Below w3.heap.size w3 W := by rw [← hW]; exact below_new (below_new (Below.refl _ _) _) _
      rw [hW] at n1 n2
      have hb1W := (below_from (below_from hbx hby) hbW)
      have HQ : Hid (∀ X, Below W.heap.size W X → X.cell? ⟨w3.heap.size, 0, none⟩ = some (.int .u8 (hx.k.toNat : Int)) ∧ X.cell? ⟨w3.heap.size, 1, none⟩ = some (.int .u64 (hx.s.a.toNat : Int)) ∧ X.cell? ⟨w3.heap.size, 2, none⟩ = some (.int .u64 (hx.s.b.toNat : Int)) ∧ X.cell? ⟨w3.heap.size, 3, none⟩ = some (.int .u64 (hx.s.c.toNat : Int)) ∧ X.cell? ⟨w3.heap.size, 4, none⟩ = some (.int .u64 (hx.s.d.toNat : Int)) ∧ X.cell? ⟨w3.heap.size, 5, none⟩ = some (.slice Ax kx.length cx) ∧ X.cell? ⟨w3.heap.size + 1, 0, none⟩ = some (.int .u8 (hy.k.toNat : Int)) ∧ X.cell? ⟨w3.heap.size + 1, 1, none⟩ = some (.int .u64 (hy.s.a.toNat : Int)) ∧ X.cell? ⟨w3.heap.size + 1, 2, none⟩ = some (.int .u64 (hy.s.b.toNat : Int)) ∧ X.cell? ⟨w3.heap.size + 1, 3, none⟩ = some (.int .u64 (hy.s.c.toNat : Int)) ∧ X.cell? ⟨w3.heap.size + 1, 4, none⟩ = some (.int .u64 (hy.s.d.toNat : Int)) ∧ X.cell? ⟨w3.heap.size + 1, 5, none⟩ = some (.slice Ay ky.length cy) ∧ X.cell? ad = some (.int .u8 (h0.k.toNat : Int)) ∧ X.cell? ⟨ad.block, ad.off + 1, none⟩ = some (.int .u64 (h0.s.a.toNat : Int)) ∧ X.cell? ⟨ad.block, ad.off + 2, none⟩ = some (.int .u64 (h0.s.b.toNat : Int)) ∧ X.cell? ⟨ad.block, ad.off + 3, none⟩ = some (.int .u64 (h0.s.c.toNat : Int)) ∧ X.cell? ⟨ad.block, ad.off + 4, none⟩ = some (.int .u64 (h0.s.d.toNat : Int)) ∧ X.cell? ⟨ad.block, ad.off + 5, none⟩ = some (.slice A0 k0.length c0)) := by
        intro X hX
        obtain ⟨a0, a1, a2, a3, a4, a5⟩ := re_at_box ((hX.block _ (lt_of_block n1)).trans n1)
        obtain ⟨b0, b1, b2, b3, b4, b5⟩ := re_at_box ((hX.block _ (lt_of_block n2)).trans n2)
        have hk := below_from hb1W hX
        exact ⟨a0, a1, a2, a3, a4, a5, b0, b1, b2, b3, b4, b5, keep_cell hk q0, keep_cell hk q1, keep_cell hk q2, keep_cell hk q3, keep_cell hk q4, keep_cell hk q5⟩
      have RX : Hid (∀ X, Below W.heap.size W X → InRow RE (fun _ => True) X kx Ax 0) := fun X hX => ((hrx.below hby).below hbW).below hX
      have RY : Hid (∀ X, Below W.heap.size W X → InRow RE (fun _ => True) X ky Ay 0) := fun X hX => (hry.below hbW).below hX
      have R0 : Hid (∀ X, Below W.heap.size W X → InRow RE (fun _ => True) X k0 A0 0) := fun X hX => (hr0.below hb1W).below hX
      have RL : Hid (∀ X, Below W.heap.size W X → InRow RE (fun _ => True) X (t :: u :: rest) (some ad) 0) := fun X hX => (HR1.out.below hb1W).below hX
      have RT : Hid (∀ X, Below W.heap.size W X → InRow RE (fun _ => True) X (u :: rest) (some ⟨ad.block, ad.off + 6, none⟩) 0) := fun X hX => (HTl.out.below hb1W).below hX
      have hBW := Lib.hid (below_from hb3.out hbW)
      clear hrx hry hr0 HR1 HTl hbx hby hb1 hb1W n1 n2 q0 q1 q2 q3 q4 q5 hbW
      have hz := Below.refl W.heap.size W
      obtain ⟨p0, p1, p2, p3, p4, p5, s0, s1, s2, s3, s4, s5, q0, q1, q2, q3, q4, q5⟩ := HQ.out _ hz
      go_wp2_with fail
      have CT4 : Hid (∀ X, Below W.heap.size W X → Calls Try.prog 9 #[.slice (some ⟨ad.block, ad.off + 6, none⟩) n (c - 1)] X (Made2 (foldT 4 2 (u :: rest)) X)) := by
        intro X hX
        have := then_any (u :: rest) (some ⟨ad.block, ad.off + 6, none⟩) (c - 1) X (by rw [hn]; omega) (by rw [hn]; omega) (RT.out X hX)
        rw [hn] at this
        exact this.mono fun _ _ h => h.made2
      have CT5 : Hid (∀ X, Below W.heap.size W X → Calls Try.prog 11 #[.slice (some ⟨ad.block, ad.off + 6, none⟩) n (c - 1)] X (Made2 (foldT 5 1 (u :: rest)) X)) := by
        intro X hX
        have := or_any (u :: rest) (some ⟨ad.block, ad.off + 6, none⟩) (c - 1) X (by rw [hn]; omega) (by rw [hn]; omega) (RT.out X hX)
        rw [hn] at this
        exact this.mono fun _ _ h => h.made2
      have CP4 : Hid (∀ (h1 : RH) (k1 : List Re) (A1 : Option Addr) (c1 : Nat) X, k1.length ≤ c1 → foldT 4 2 (u :: rest) = .mk h1 k1 → InRow RE (fun _ => True) X k1 A1 0 → Below W.heap.size W X →
          Calls Try.prog 9 #[.slice (some ⟨X.heap.size, 0, none⟩) 2 2] (X.alloc (.cells #[.int .u8 (h0.k.toNat : Int), .int .u64 (h0.s.a.toNat : Int), .int .u64 (h0.s.b.toNat : Int), .int .u64 (h0.s.c.toNat : Int), .int .u64 (h0.s.d.toNat : Int), .slice A0 k0.length c0, .int .u8 (h1.k.toNat : Int), .int .u64 (h1.s.a.toNat : Int), .int .u64 (h1.s.b.toNat : Int), .int .u64 (h1.s.c.toNat : Int), .int .u64 (h1.s.d.toNat : Int), .slice A1 k1.length c1] 30)) (Made2 (foldT 4 2 (t :: u :: rest)) (X.alloc (.cells #[.int .u8 (h0.k.toNat : Int), .int .u64 (h0.s.a.toNat : Int), .int .u64 (h0.s.b.toNat : Int), .int .u64 (h0.s.c.toNat : Int), .int .u64 (h0.s.d.toNat : Int), .slice A0 k0.length c0, .int .u8 (h1.k.toNat : Int), .int .u64 (h1.s.a.toNat : Int), .int .u64 (h1.s.b.toNat : Int), .int .u64 (h1.s.c.toNat : Int), .int .u64 (h1.s.d.toNat : Int), .slice A1 k1.length c1] 30)))) := by
        intro h1 k1 A1 c1 X hc1 e1 hr1 hX
        have hb := below_new (Below.refl _ X) (.cells #[.int .u8 (h0.k.toNat : Int), .int .u64 (h0.s.a.toNat : Int), .int .u64 (h0.s.b.toNat : Int), .int .u64 (h0.s.c.toNat : Int), .int .u64 (h0.s.d.toNat : Int), .slice A0 k0.length c0, .int .u8 (h1.k.toNat : Int), .int .u64 (h1.s.a.toNat : Int), .int .u64 (h1.s.b.toNat : Int), .int .u64 (h1.s.c.toNat : Int), .int .u64 (h1.s.d.toNat : Int), .slice A1 k1.length c1] 30)
        have := then_any [.mk h0 k0, .mk h1 k1] (some ⟨X.heap.size, 0, none⟩) 2 _ (by simp) (Nat.le_refl _) (row_two (P := fun _ => True) (new_at _ rfl) rfl trivial hc0 ((R0.out X hX).below hb) hc1 (hr1.below hb))
        rw [F4.out, HT0.out, e1]
        exact this.mono fun _ _ h => h.made2
      have CP5 : Hid (∀ (h1 : RH) (k1 : List Re) (A1 : Option Addr) (c1 : Nat) X, k1.length ≤ c1 → foldT 5 1 (u :: rest) = .mk h1 k1 → InRow RE (fun _ => True) X k1 A1 0 → Below W.heap.size W X →
          Calls Try.prog 11 #[.slice (some ⟨X.heap.size, 0, none⟩) 2 2] (X.alloc (.cells #[.int .u8 (h0.k.toNat : Int), .int .u64 (h0.s.a.toNat : Int), .int .u64 (h0.s.b.toNat : Int), .int .u64 (h0.s.c.toNat : Int), .int .u64 (h0.s.d.toNat : Int), .slice A0 k0.length c0, .int .u8 (h1.k.toNat : Int), .int .u64 (h1.s.a.toNat : Int), .int .u64 (h1.s.b.toNat : Int), .int .u64 (h1.s.c.toNat : Int), .int .u64 (h1.s.d.toNat : Int), .slice A1 k1.length c1] 30)) (Made2 (foldT 5 1 (t :: u :: rest)) (X.alloc (.cells #[.int .u8 (h0.k.toNat : Int), .int .u64 (h0.s.a.toNat : Int), .int .u64 (h0.s.b.toNat : Int), .int .u64 (h0.s.c.toNat : Int), .int .u64 (h0.s.d.toNat : Int), .slice A0 k0.length c0, .int .u8 (h1.k.toNat : Int), .int .u64 (h1.s.a.toNat : Int), .int .u64 (h1.s.b.toNat : Int), .int .u64 (h1.s.c.toNat : Int), .int .u64 (h1.s.d.toNat : Int), .slice A1 k1.length c1] 30)))) := by
        intro h1 k1 A1 c1 X hc1 e1 hr1 hX
        have hb := below_new (Below.refl _ X) (.cells #[.int .u8 (h0.k.toNat : Int), .int .u64 (h0.s.a.toNat : Int), .int .u64 (h0.s.b.toNat : Int), .int .u64 (h0.s.c.toNat : Int), .int .u64 (h0.s.d.toNat : Int), .slice A0 k0.length c0, .int .u8 (h1.k.toNat : Int), .int .u64 (h1.s.a.toNat : Int), .int .u64 (h1.s.b.toNat : Int), .int .u64 (h1.s.c.toNat : Int), .int .u64 (h1.s.d.toNat : Int), .slice A1 k1.length c1] 30)
        have := or_any [.mk h0 k0, .mk h1 k1] (some ⟨X.heap.size, 0, none⟩) 2 _ (by simp) (Nat.le_refl _) (row_two (P := fun _ => True) (new_at _ rfl) rfl trivial hc0 ((R0.out X hX).below hb) hc1 (hr1.below hb))
        rw [F5.out, HT0.out, e1]
        exact this.mono fun _ _ h => h.made2
      have B4 : Hid (T.short (foldT 4 2 (t :: u :: rest))) := foldT_short 4 2 _ HTo.out
      have B5 : Hid (T.short (foldT 5 1 (t :: u :: rest))) := foldT_short 5 1 _ HTo.out
      have CS4 : Hid (∀ (h2 : RH) (k2 : List Re) (A2 : Option Addr) (c2 : Nat) X, foldT 4 2 (t :: u :: rest) = .mk h2 k2 → InRow RE (fun _ => True) X k2 A2 0 → Below W.heap.size W X →
          Calls Try.prog 19 #[reV hx Ax kx.length cx, reV h2 A2 k2.length c2] X fun e w' => e = .returned (.bool true) ∧ Below X.heap.size X w') := fun h2 k2 A2 c2 X e2 hr2 hX => rsame_one _ hx h2 kx k2 Ax A2 cx c2 X EX.out e2 B4.out (RX.out X hX) hr2
      have CS5 : Hid (∀ (h2 : RH) (k2 : List Re) (A2 : Option Addr) (c2 : Nat) X, foldT 5 1 (t :: u :: rest) = .mk h2 k2 → InRow RE (fun _ => True) X k2 A2 0 → Below W.heap.size W X →
          Calls Try.prog 19 #[reV hy Ay ky.length cy, reV h2 A2 k2.length c2] X fun e w' => e = .returned (.bool true) ∧ Below X.heap.size X w') := fun h2 k2 A2 c2 X e2 hr2 hX => rsame_one _ hy h2 ky k2 Ay A2 cy c2 X EY.out e2 B5.out (RY.out X hX) hr2
      have CSN : Hid (∀ X, Below W.heap.size W X → Calls Try.prog 19 #[reV hx Ax kx.length cx, reV hy Ay ky.length cy] X fun e w' => e = .returned (.bool false) ∧ Below X.heap.size X w') := by
        intro X hX
        have := rexSame_s _ (fun _ => True) hx hy kx ky Ax Ay cx cy X (Nat.le_refl _) (by rw [← EX.out]; exact B4.out) (by rw [← EY.out]; exact B5.out) (RX.out X hX) (RY.out X hX)
        rw [← EX.out, ← EY.out] at this
        rw [show sameT (foldT 4 2 (t :: u :: rest)) (foldT 5 1 (t :: u :: rest)) = false by rw [F4.out, F5.out]; simp [sameT]] at this
        exact this
      obtain ⟨N, hN⟩ : ∃ N, T.sizes (t :: u :: rest) = N := ⟨_, rfl⟩
      have ZX : Hid (T.sizes [T.mk hx kx] = N + n) := by unfold Hid; rw [← EX.out]; simp only [T.sizes]; rw [Z4.out, hN, Nat.add_zero]
      have ZY : Hid (T.sizes [T.mk hy ky] = N + n) := by unfold Hid; rw [← EY.out]; simp only [T.sizes]; rw [Z5.out, hN, Nat.add_zero]
      have SX : Hid (T.shorts [T.mk hx kx]) := by unfold Hid; rw [← EX.out]; simp only [T.shorts]; exact ⟨B4.out, trivial⟩
      have SY : Hid (T.shorts [T.mk hy ky]) := by unfold Hid; rw [← EY.out]; simp only [T.shorts]; exact ⟨B5.out, trivial⟩
      obtain ⟨z1, hz1⟩ : ∃ z : Int, IntKind.i64.wrap (N : Int) = z := ⟨_, rfl⟩
      obtain ⟨z2, hz2⟩ : ∃ z : Int, IntKind.i64.wrap ((N : Int) + (n : Int)) = z := ⟨_, rfl⟩
      obtain ⟨z3, hz3⟩ : ∃ z : Int, IntKind.i64.wrap (z1 + ((n : Int) + 1)) = z := ⟨_, rfl⟩
      have i2 : IntKind.i64.wrap (z3 - 1) = z2 := by rw [← hz3, ← hz1, wrap_sub1, ← hz2]; congr 1; omega
      have i1 := hz3
      have H1 := Lib.hid hz1
      have H2 := Lib.hid hz2
      have i4 : RowKit.wrap64 (z1 + ((n : Int) + 1)) = z3 := (IntWalk.i64_left _).symm.trans i1
      have i5 : RowKit.wrap64 (z3 - 1) = z2 := (IntWalk.i64_left _).symm.trans i2
      have i3 : (z2 == z2) = true := by simp
      clear hz1 hz2 hz3
      have CZL : Hid (∀ X, Below W.heap.size W X → Calls Try.prog 20 #[.slice (some ad) (n + 1) c] X fun e w' => e = .returned (.int .i64 z1) ∧ Below X.heap.size X w') := by
        intro X hX
        have := Size_s _ (fun _ => True) (t :: u :: rest) (some ad) c X (Nat.le_refl _) (by rw [hl2]; omega) HTo.out (RL.out X hX)
        rw [hl2, hN, H1.out] at this
        exact this
      have CZX : Hid (∀ (b : Nat) X, X.heap[b]? = some (.cells (reA hx Ax kx.length cx) 30 (0, 0)) → Below W.heap.size W X → Calls Try.prog 20 #[.slice (some ⟨b, 0, none⟩) 1 1] X fun e w' => e = .returned (.int .i64 z2) ∧ Below X.heap.size X w') := by
        intro b X hb hX
        have := Size_s _ (fun _ => True) [T.mk hx kx] (some ⟨b, 0, none⟩) 1 X (Nat.le_refl _) (by simp) SX.out (row_one hb trivial HCX.out (RX.out X hX))
        rw [ZX.out, Int.natCast_add, H2.out] at this
        exact this
      have CZY : Hid (∀ (b : Nat) X, X.heap[b]? = some (.cells (reA hy Ay ky.length cy) 30 (0, 0)) → Below W.heap.size W X → Calls Try.prog 20 #[.slice (some ⟨b, 0, none⟩) 1 1] X fun e w' => e = .returned (.int .i64 z2) ∧ Below X.heap.size X w') := by
        intro b X hb hX
        have := Size_s _ (fun _ => True) [T.mk hy ky] (some ⟨b, 0, none⟩) 1 X (Nat.le_refl _) (by simp) SY.out (row_one hb trivial HCY.out (RY.out X hX))
        rw [ZY.out, Int.natCast_add, H2.out] at this
        exact this
      have gb1 : (1 : Int) ≤ (n : Int) + 1 := by omega
      have gb2 : (n : Int) + 1 ≤ (c : Int) := by omega
      clear RX RY R0 RL RT EX EY Z4 Z5 B4 B5 F4 F5 HT0 HTo ZX ZY HCX HCY hN H1 H2 SX SY
      clear p0 p1 p2 p3 p4 p5 s0 s1 s2 s3 s4 s5 q0 q1 q2 q3 q4 q5
      go_region_held3 (fun X => X.cell? ⟨w3.heap.size, 0, none⟩ = some (.int .u8 (hx.k.toNat : Int)) ∧ X.cell? ⟨w3.heap.size, 1, none⟩ = some (.int .u64 (hx.s.a.toNat : Int)) ∧ X.cell? ⟨w3.heap.size, 2, none⟩ = some (.int .u64 (hx.s.b.toNat : Int)) ∧ X.cell? ⟨w3.heap.size, 3, none⟩ = some (.int .u64 (hx.s.c.toNat : Int)) ∧ X.cell? ⟨w3.heap.size, 4, none⟩ = some (.int .u64 (hx.s.d.toNat : Int)) ∧ X.cell? ⟨w3.heap.size, 5, none⟩ = some (.slice Ax kx.length cx) ∧ X.cell? ⟨w3.heap.size + 1, 0, none⟩ = some (.int .u8 (hy.k.toNat : Int)) ∧ X.cell? ⟨w3.heap.size + 1, 1, none⟩ = some (.int .u64 (hy.s.a.toNat : Int)) ∧ X.cell? ⟨w3.heap.size + 1, 2, none⟩ = some (.int .u64 (hy.s.b.toNat : Int)) ∧ X.cell? ⟨w3.heap.size + 1, 3, none⟩ = some (.int .u64 (hy.s.c.toNat : Int)) ∧ X.cell? ⟨w3.heap.size + 1, 4, none⟩ = some (.int .u64 (hy.s.d.toNat : Int)) ∧ X.cell? ⟨w3.heap.size + 1, 5, none⟩ = some (.slice Ay ky.length cy) ∧ X.cell? ad = some (.int .u8 (h0.k.toNat : Int)) ∧ X.cell? ⟨ad.block, ad.off + 1, none⟩ = some (.int .u64 (h0.s.a.toNat : Int)) ∧ X.cell? ⟨ad.block, ad.off + 2, none⟩ = some (.int .u64 (h0.s.b.toNat : Int)) ∧ X.cell? ⟨ad.block, ad.off + 3, none⟩ = some (.int .u64 (h0.s.c.toNat : Int)) ∧ X.cell? ⟨ad.block, ad.off + 4, none⟩ = some (.int .u64 (h0.s.d.toNat : Int)) ∧ X.cell? ⟨ad.block, ad.off + 5, none⟩ = some (.slice A0 k0.length c0))
        (first | exact HQ.out _ hz | exact HQ.out _ hz.drew | exact HQ.out _ (below_new hz _) | exact HQ.out _ (below_new (below_new hz _) _) | fail)
        (first
          | (go_at_call 9; refine (CP4.out h1 k1 A1 c1 _ hc1 E1.out hr1 hz).mono ?_; rintro e w5 ⟨h2, k2, A2, c2, rfl, e2, hc2, hr2, hbk2⟩; have E2 := Lib.hid e2; clear e2; have hz := below_from (by first | exact hz | exact hz.drew | exact below_new hz _ | exact below_new (below_new hz _) _) hbk2; obtain ⟨p0, p1, p2, p3, p4, p5, s0, s1, s2, s3, s4, s5, q0, q1, q2, q3, q4, q5⟩ := HQ.out _ hz)
          | (go_at_call 9; refine (CT4.out _ (by first | exact hz | exact hz.drew | exact below_new hz _ | exact below_new (below_new hz _) _)).mono ?_; rintro e w4 ⟨h1, k1, A1, c1, rfl, e1, hc1, hr1, hbk1⟩; have E1 := Lib.hid e1; clear e1; have hz := below_from (by first | exact hz | exact hz.drew | exact below_new hz _ | exact below_new (below_new hz _) _) hbk1; obtain ⟨p0, p1, p2, p3, p4, p5, s0, s1, s2, s3, s4, s5, q0, q1, q2, q3, q4, q5⟩ := HQ.out _ hz)
          | (go_at_call 11; refine (CP5.out h3 k3 A3 c3 _ hc3 E3.out hr3 hz).mono ?_; rintro e w8 ⟨h4, k4, A4, c4, rfl, e4, hc4, hr4, hbk4⟩; have E4 := Lib.hid e4; clear e4; have hz := below_from (by first | exact hz | exact hz.drew | exact below_new hz _ | exact below_new (below_new hz _) _) hbk4; obtain ⟨p0, p1, p2, p3, p4, p5, s0, s1, s2, s3, s4, s5, q0, q1, q2, q3, q4, q5⟩ := HQ.out _ hz)
          | (go_at_call 11; refine (CT5.out _ (by first | exact hz | exact hz.drew | exact below_new hz _ | exact below_new (below_new hz _) _)).mono ?_; rintro e w7 ⟨h3, k3, A3, c3, rfl, e3, hc3, hr3, hbk3⟩; have E3 := Lib.hid e3; clear e3; have hz := below_from (by first | exact hz | exact hz.drew | exact below_new hz _ | exact below_new (below_new hz _) _) hbk3; obtain ⟨p0, p1, p2, p3, p4, p5, s0, s1, s2, s3, s4, s5, q0, q1, q2, q3, q4, q5⟩ := HQ.out _ hz)
          | (go_at_call 19; have := hbk8; refine (CSN.out _ (by first | exact hz | exact hz.drew | exact below_new hz _ | exact below_new (below_new hz _) _)).mono ?_; rintro e w14 ⟨rfl, hbk9⟩; have hz := below_from (by first | exact hz | exact hz.drew | exact below_new hz _ | exact below_new (below_new hz _) _) hbk9; obtain ⟨p0, p1, p2, p3, p4, p5, s0, s1, s2, s3, s4, s5, q0, q1, q2, q3, q4, q5⟩ := HQ.out _ hz)
          | (go_at_call 19; refine (CS5.out h4 k4 A4 c4 _ E4.out hr4 hz).mono ?_; rintro e w9 ⟨rfl, hbk5'⟩; have hz := below_from (by first | exact hz | exact hz.drew | exact below_new hz _ | exact below_new (below_new hz _) _) hbk5'; obtain ⟨p0, p1, p2, p3, p4, p5, s0, s1, s2, s3, s4, s5, q0, q1, q2, q3, q4, q5⟩ := HQ.out _ hz)
          | (go_at_call 19; refine (CS4.out h2 k2 A2 c2 _ E2.out hr2 hz).mono ?_; rintro e w6 ⟨rfl, hbk2'⟩; have hz := below_from (by first | exact hz | exact hz.drew | exact below_new hz _ | exact below_new (below_new hz _) _) hbk2'; obtain ⟨p0, p1, p2, p3, p4, p5, s0, s1, s2, s3, s4, s5, q0, q1, q2, q3, q4, q5⟩ := HQ.out _ hz)
          | (go_at_call 20; have := hbk7; refine (CZX.out _ _ (by first | exact new_at _ (by simp) | exact (hbk7.block _ (by simp)).trans (new_at _ (by simp)) | exact (hbk7.block _ (by simp; omega)).trans (heap_keep (new_at _ (by simp)) _)) (by first | exact hz | exact hz.drew | exact below_new hz _ | exact below_new (below_new hz _) _)).mono ?_; rintro e w13 ⟨rfl, hbk8⟩; have hz := below_from (by first | exact hz | exact hz.drew | exact below_new hz _ | exact below_new (below_new hz _) _) hbk8; obtain ⟨p0, p1, p2, p3, p4, p5, s0, s1, s2, s3, s4, s5, q0, q1, q2, q3, q4, q5⟩ := HQ.out _ hz)
          | (go_at_call 20; have := hbk6; refine (CZY.out _ _ (by first | exact new_at _ (by simp) | exact heap_keep (new_at _ (by simp)) _) (by first | exact hz | exact hz.drew | exact below_new hz _ | exact below_new (below_new hz _) _)).mono ?_; rintro e w12 ⟨rfl, hbk7⟩; have hz := below_from (by first | exact hz | exact hz.drew | exact below_new hz _ | exact below_new (below_new hz _) _) hbk7; obtain ⟨p0, p1, p2, p3, p4, p5, s0, s1, s2, s3, s4, s5, q0, q1, q2, q3, q4, q5⟩ := HQ.out _ hz)
          | (go_at_call 20; have := hbk5; refine (CZL.out _ (by first | exact hz | exact hz.drew | exact below_new hz _ | exact below_new (below_new hz _) _)).mono ?_; rintro e w11 ⟨rfl, hbk6⟩; have hz := below_from (by first | exact hz | exact hz.drew | exact below_new hz _ | exact below_new (below_new hz _) _) hbk6; obtain ⟨p0, p1, p2, p3, p4, p5, s0, s1, s2, s3, s4, s5, q0, q1, q2, q3, q4, q5⟩ := HQ.out _ hz)
          | (go_at_call 20; refine (CZX.out _ _ (by first | exact new_at _ (by simp)) (by first | exact hz | exact hz.drew | exact below_new hz _ | exact below_new (below_new hz _) _)).mono ?_; rintro e w10 ⟨rfl, hbk5⟩; have hz := below_from (by first | exact hz | exact hz.drew | exact below_new hz _ | exact below_new (below_new hz _) _) hbk5; obtain ⟨p0, p1, p2, p3, p4, p5, s0, s1, s2, s3, s4, s5, q0, q1, q2, q3, q4, q5⟩ := HQ.out _ hz)
          | (go_at_call 7; refine (awake3_any _).mono ?_; rintro e w15 ⟨rfl, hbk10⟩; have hz := below_from (by first | exact hz | exact hz.drew | exact below_new hz _ | exact below_new (below_new hz _) _) hbk10; obtain ⟨p0, p1, p2, p3, p4, p5, s0, s1, s2, s3, s4, s5, q0, q1, q2, q3, q4, q5⟩ := HQ.out _ hz)
          | fail)
      all_goals (go_wp2_with fail; go_ret; exact ⟨rfl, below_from hBW.out hz⟩)
namespace lawRexFoldsF
open Go.ChangeShapes Go.WideShapes Go.ChangeAt
open Go.ChangeMaps (open_string)
set_option maxRecDepth 100000 in
theorem lifted (os : Os) (started : os.Started) (H : Type) (enc : TypeId × Value → H) :
    ReturnsInHanded {} Try.checked os 5 .any (Rows.rexFoldsSpec.pre6 enc Try.prog Try.f5 Rows.rexFoldsRow.domain false) (Rows.rexFoldsSpec.post enc Try.prog Try.f5 false true false false) := by
  refine returnsInHanded_of_change (C := Try.checked) Try.own started (by kernel_rfl) Try.func5
    (ChangeSpec.witness6 (enc := enc) (C := Try.checked) false ⟨#[], #[.slice none 0 0], []⟩ 8 (by kernel_rfl) (by kernel_rfl) (by kernel_rfl) (by kernel_rfl)) ?_
  intro W base args ds gs before hval0 hW hcnd _
  have hval : ∀ (j : Nat) t v, Try.f5.params[j]? = some t → args[j]? = some v → Value.okWide Try.prog W .any base t v := hval0
  have hW' := hW
  obtain ⟨p, q, hA0, hV, rfl, hfz, hnd⟩ := hW
  have hA : DataW.TrodAll enc Try.prog W 0 (fun _ => true) true Try.f5.params.toList args.toList ds p := hA0
  rw [Try.params5] at hA hval
  obtain ⟨v0, vs0, d0, ds0, p0, q0, hargs, rfl, rfl, h0, r0⟩ := trodAll_cons hA
  obtain ⟨rfl, rfl, rfl⟩ := trodAll_nil r0
  obtain rfl : args = #[v0] := by cases args; simp_all
  obtain ⟨rfl, rfl⟩ := trodVars_none hV
  obtain ⟨ts, A0, c0, rfl, hc0, hr0, hl0, hz0⟩ := open_res_s (hval 0 22 v0 rfl rfl) h0
  refine (rexFoldsF_walk ts A0 c0 W hl0 hz0 hc0 hr0).mono fun e W' ⟨he, hb⟩ => ?_
  subst he
  exact ⟨_, rfl, post_true Try.laidOut (by rw [Try.params5]; intro t ht; simp at ht; rcases ht with rfl <;> exact ⟨by kernel_rfl, of_decide_eq_true (by kernel_rfl)⟩) hW' rfl rfl rfl Try.underlying4 hb⟩
theorem proved : Rows.RexFoldsSaid :=
  OpenClaim.holds_of_wide 5 Try.f5 rfl rfl rfl rfl rfl rfl rfl ⟨rfl, rfl, rfl, rfl, rfl⟩ rfl rfl rfl rfl rfl (by kernel_rfl) Try.func5 (by kernel_rfl)
    (of_decide_eq_true (by kernel_rfl)) (by unfold Func.isWrapper; first | (rw [if_pos (by decide +kernel)]; kernel_rfl) | (rw [if_neg (by decide +kernel)]; exact ⟨rfl, rfl⟩))
    (fun os started H enc _ => lifted os started H enc)
end lawRexFoldsF
end Go.Proofs.Ytbblhhkacdgmiaa
