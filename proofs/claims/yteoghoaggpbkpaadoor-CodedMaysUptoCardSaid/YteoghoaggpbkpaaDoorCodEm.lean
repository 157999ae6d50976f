/- Whether a coded expression may be, as the document has it. The document's text of a coded expression. -/
import Derived.Test.YteoghoaggpbkpaaDoorCodAm
import Derived.Test.YteoghoaggpbkpaaDoorCodCm
import Derived.Test.YteoghoaggpbkpaaDoorRexE
import Derived.Test.YteoghoaggpbkpaaDoorWord
import Derived.Test.YteoghoaggpbkpaaDoorQuietB
import Derived.Deep.CutRange
import Derived.Test.YteoghoaggpbkpaaDoorCodTm
import Derived.Test.YteoghoaggpbkpaaDoorText3
namespace Go.Proofs.YteoghoaggpbkpaaDoor
open Go.RowKit
set_option linter.unusedVariables false
set_option linter.unusedSimpArgs false

mutual
theorem okC_all : ∀ t : Co, okC t = t.all.all fun x => okNodeC x.head x.kids.length
  | .mk h ks => by
    simp only [okC, T.all, List.all_cons, T.head, T.kids, okCL_alls ks]
theorem okCL_alls : ∀ ts : List Co, okCL ts = (T.alls ts).all fun x => okNodeC x.head x.kids.length
  | [] => rfl
  | t :: ts => by
    simp only [okCL, T.alls, List.all_append, okC_all t, okCL_alls ts]
end
def bitOk (c : UInt8) : Bool := c == 48 || c == 49
theorem bits_all (l : List UInt8) : bitsB l = l.all bitOk := rfl
theorem bits_no {s : ByteArray} {k : Nat} (hlt : k < s.size) (h : bitOk (s[k]'hlt) = false) : bitsB s.data.toList = false := by
  rw [bits_all]
  exact all_no (text_at s k hlt) h
theorem bits_yes {s : ByteArray} (h : ∀ (j : Nat) (hj : j < s.size), bitOk (s[j]'hj) = true) : bitsB s.data.toList = true := by
  rw [bits_all]
  refine all_yes fun j t hj ht => ?_
  rw [text_len] at hj
  rw [text_at s j hj] at ht
  cases ht
  exact h j hj
theorem bits_step {s : ByteArray} {k : Nat} {c : UInt8} (hlt : k < s.size) (hc : c = s[k]'hlt) (h : ∀ j, ∀ h : j < s.size, j < k → bitOk (s[j]'h) = true) (hl : bitOk c = true) : Hid (∀ j, ∀ h : j < s.size, j < k + 1 → bitOk (s[j]'h) = true) := fun j hj hjk => by
  rcases Nat.lt_or_ge j k with h1 | h1
  · exact h j hj h1
  · obtain rfl : j = k := by omega
    rw [← hc]; exact hl
set_option maxHeartbeats 1000000 in
theorem refBits_s (s : ByteArray) (w : World) (hs : s.size ≤ 1000000000) :
    Calls Tryd.prog 31 #[.string s] w fun e w' => e = .returned (.bool (bitsB s.data.toList)) ∧ w' = w := by
  go_enter Tryd.func31, Tryd.ntmps31
  go_wp2_with fail
  go_loop [3] (fun i => ∃ k : Nat, k ≤ s.size ∧ i = .int .i64 k ∧ Hid (∀ j, ∀ h : j < s.size, j < k → bitOk (s[j]'h) = true)) (fun i => s.size - (intOf i).toNat)
  case atStart => exact ⟨0, Nat.zero_le _, rfl, fun j h h' => absurd h' (by omega)⟩
  case round =>
    obtain ⟨k, hk, rfl, HT⟩ := hrel
    by_cases hlt : k < s.size
    · obtain ⟨c, hc⟩ : ∃ c : UInt8, c = s[k]'hlt := ⟨_, rfl⟩
      have HC := Lib.hid hc
      have hci : ((s[k]'hlt).toNat : Int) = c.toNat := by rw [hc]
      clear hc
      have hcase : c.toNat = 48 ∨ c.toNat = 49 ∨ (c.toNat ≠ 48 ∧ c.toNat ≠ 49) := by omega
      rcases hcase with h1 | h1 | ⟨h1, h2⟩
      · have c1 : ((c.toNat : Int) == 48) = true := by rw [beq_iff_eq]; omega
        have c2 : ((c.toNat : Int) == 49) = false := by rw [beq_eq_false_iff_ne]; omega
        have c3 : ((c.toNat : Int) != 48) = false := by rw [bne, c1]; rfl
        have c4 : ((c.toNat : Int) != 49) = true := by rw [bne, c2]; rfl
        have hl : Hid (bitOk c = true) := by have : c = 48 := UInt8.toNat_inj.1 h1; subst this; exact Lib.hid rfl
        clear h1
        go_wp2_with fail
        go_round
        case rel => exact ⟨k + 1, by omega, by go_num, bits_step hlt HC.out HT.out hl.out⟩
        case measure => simp [intOf]; omega
      · have c1 : ((c.toNat : Int) == 48) = false := by rw [beq_eq_false_iff_ne]; omega
        have c2 : ((c.toNat : Int) == 49) = true := by rw [beq_iff_eq]; omega
        have c3 : ((c.toNat : Int) != 48) = true := by rw [bne, c1]; rfl
        have c4 : ((c.toNat : Int) != 49) = false := by rw [bne, c2]; rfl
        have hl : Hid (bitOk c = true) := by have : c = 49 := UInt8.toNat_inj.1 h1; subst this; exact Lib.hid rfl
        clear h1
        go_wp2_with fail
        go_round
        case rel => exact ⟨k + 1, by omega, by go_num, bits_step hlt HC.out HT.out hl.out⟩
        case measure => simp [intOf]; omega
      · have c1 : ((c.toNat : Int) == 48) = false := by rw [beq_eq_false_iff_ne]; omega
        have c2 : ((c.toNat : Int) == 49) = false := by rw [beq_eq_false_iff_ne]; omega
        have c3 : ((c.toNat : Int) != 48) = true := by rw [bne, c1]; rfl
        have c4 : ((c.toNat : Int) != 49) = true := by rw [bne, c2]; rfl
        have hl : bitOk c = false := by
          unfold bitOk
          rw [Bool.or_eq_false_iff, beq_eq_false_iff_ne, beq_eq_false_iff_ne]
          exact ⟨fun e => h1 (by rw [e]; rfl), fun e => h2 (by rw [e]; rfl)⟩
        have HN : Hid (bitsB s.data.toList = false) := bits_no hlt (by rw [← HC.out]; exact hl)
        clear h1 h2 hl
        go_wp2_with fail
        go_ret
        exact ⟨by rw [HN.out]; rfl, rfl⟩
    · have HY : Hid (bitsB s.data.toList = true) := bits_yes fun j hj => HT.out j hj (by omega)
      go_wp2_with fail
      go_ret
      exact ⟨by rw [HY.out]; rfl, rfl⟩
theorem refBits_any (l : List UInt8) (w : World) (hs : l.length ≤ 1000000000) :
    Calls Tryd.prog 31 #[.string (str l)] w fun e w' => e = .returned (.bool (bitsB l)) ∧ w' = w := by
  have := refBits_s (str l) w (by rw [str_size]; exact hs)
  simpa using this

set_option maxHeartbeats 16000000 in
theorem refMayC_any {ok : Nat → Prop} (h : CH) (ks : List Co) (A : Option Addr) (c : Nat) (w : World) (hm : T.sizes ks ≤ 900000000) (hc : ks.length ≤ c) (hr : InRow CE ok w ks A 0) (hsh : shortC (.mk h ks)) :
    Calls Tryd.prog 9 #[coV h A ks.length c] w fun e w' => e = .returned (.bool (mayC (.mk h ks))) ∧ Below w.heap.size w w' := by
  have HM : Hid (mayC (.mk h ks) = (((T.mk h ks).all.all fun x => okNodeC x.head x.kids.length) && decide ((T.mk h ks).all.length ≤ 20000))) := by
    unfold Hid mayC
    rw [okC_all, T.all_length]
  have hrn : ∀ o, InRow CE (fun b => ok b ∧ b < w.heap.size) (w.alloc o) ks A 0 := fun o => hr.there.below (below_new (Below.refl _ _) o)
  have hlen : (T.mk h ks).all.length ≤ 1000000000 := by rw [T.all_length]; simp only [T.size]; omega
  have HS : Hid (∀ t ∈ (T.mk h ks).all, t.size ≤ 1000000000) := fun t ht => by
    have := T.all_le _ ht
    simp only [T.size] at this; omega
  have HSh := Lib.hid hsh
  clear hsh
  unfold shortC at HSh
  go_enter Tryd.func9, Tryd.ntmps9
  go_wp2_with fail
  refine (cAll_upto 1000000000 _ h ks A c _ (by omega) (Nat.le_refl _) hc (hrn _) (fun b hb => by have := hb.2; simp; omega)).mono ?_
  rintro e w1 ⟨v1, rfl, ho1, hb1⟩
  have hb2 := below_from (below_new (Below.refl _ _) _) hb1
  clear hb1 hrn hr
  generalize (T.mk h ks).all = l at *
  obtain ⟨A1, c1, rfl, hc1, hr1⟩ := ho1.row
  clear ho1
  generalize (fun b => (ok b ∧ b < w.heap.size) ∨ (Value.slice A1 l.length c1).ownBlock = some b) = ok1 at hr1
  go_wp2_with fail
  go_loopw [4, 5, 10] (fun _ _ i wr => ∃ (k : Nat), k ≤ l.length ∧ i = .int .i64 k ∧ Hid (∀ (j : Nat) (t : Co), j < k → l[j]? = some t → okNodeC t.head t.kids.length = true) ∧ Hid (Below w1.heap.size w1 wr)) (fun _ _ i _ => l.length - (intOf i).toNat)
  case atStart => exact ⟨0, Nat.zero_le _, rfl, fun j t hj => absurd hj (by omega), Lib.hid (Below.refl _ _)⟩
  case round =>
    obtain ⟨k, hk, rfl, HN, HB⟩ := hrel
    by_cases hlt : k < l.length
    · obtain ⟨t, ad, h1, ls, A2, c2, hA, hx, rfl, hc2, hr2, q0, q1, q2, q3, q4, q5, q6⟩ := co_at (hr1.below HB.out) hlt
      subst hA
      have HX := Lib.hid hx
      have hls : ls.length ≤ 1000000000 := by
        have h1 := HS.out _ (List.mem_of_getElem? hx)
        have h2 := T.length_le_sizes ls
        simp only [T.size] at h1; omega
      have CB := Lib.hid (fun X => refBits_any h1.b X (HSh.out _ (List.mem_of_getElem? hx)))
      clear hx hr1 hr2
      have hq := run_eql_zero h1.s
      have HO : Hid (okNodeC h1 ls.length = (bitsB h1.b && if h1.k.toNat = 1 then decide (ls.length = 0) && (decide (h1.s = S4.zero) && (h1.b == []))
          else if h1.k.toNat = 2 then decide (ls.length = 0) && decide (h1.s = S4.zero)
          else if h1.k.toNat = 3 then decide (ls.length = 0) && !decide (h1.s = S4.zero)
          else if h1.k.toNat = 4 then decide (ls.length = 2) && decide (h1.s = S4.zero)
          else if h1.k.toNat = 5 then decide (h1.s = S4.zero)
          else if h1.k.toNat = 6 then decide (ls.length = 1) && decide (h1.s = S4.zero) else false)) := rfl
      have hkb := h1.k.toNat_lt
      generalize hz1 : decide (h1.s = S4.zero) = bz at *
      have HY : Hid (okNodeC h1 ls.length = true → ∀ (j : Nat) (t : Co), j < k + 1 → l[j]? = some t → okNodeC t.head t.kids.length = true) := by
        intro hy j t hj ht
        rcases Nat.lt_or_ge j k with h | h
        · exact HN.out j t h ht
        · have : j = k := by omega
          subst this
          have := HX.out.symm.trans ht
          simp only [Option.some.injEq] at this
          subst this
          exact hy
      have HNo : Hid (okNodeC h1 ls.length = false → mayC (T.mk h ks) = false) := by
        intro hy
        rw [HM.out, all_no HX.out hy, Bool.false_and]
      have hcase : h1.k.toNat = 1 ∨ h1.k.toNat = 2 ∨ h1.k.toNat = 3 ∨ h1.k.toNat = 4 ∨ h1.k.toNat = 5 ∨ h1.k.toNat = 6 ∨ h1.k.toNat = 0 ∨ 6 < h1.k.toNat := by omega
      go_upto_region 6 with fail
      obtain ⟨W, hW⟩ : ∃ W, wr.alloc (.cells (coA h1 A2 ls.length c2) 29) = W := ⟨_, rfl⟩
      rw [show wr.alloc (.cells #[.int .u8 (h1.k.toNat : Int), .string (str h1.b), .int .u64 (h1.s.a.toNat : Int), .int .u64 (h1.s.b.toNat : Int), .int .u64 (h1.s.c.toNat : Int), .int .u64 (h1.s.d.toNat : Int), .slice A2 ls.length c2] 29) = W from hW]
      have E := Lib.hid (show W.heap[wr.heap.size]? = some (.cells (coA h1 A2 ls.length c2) 29 (0, 0)) by rw [← hW]; exact new_at1 _)
      have HBW : Hid (Below w1.heap.size w1 W) := by rw [← hW]; exact below_new HB.out _
      clear hW q0 q1 q2 q3 q4 q5 q6 HX HS HN HSh
      obtain ⟨kk, hkk⟩ : ∃ kk, h1.k.toNat = kk := ⟨_, rfl⟩
      obtain ⟨x0, x1, x2, x3, x4, x5, x6⟩ := co_at_box E.out
      have fx0 := fun q : BelowBy W => BelowBy.cell x0 q
      have fx1 := fun q : BelowBy W => BelowBy.cell x1 q
      have fx2 := fun q : BelowBy W => BelowBy.cell x2 q
      have fx3 := fun q : BelowBy W => BelowBy.cell x3 q
      have fx4 := fun q : BelowBy W => BelowBy.cell x4 q
      have fx5 := fun q : BelowBy W => BelowBy.cell x5 q
      have fx6 := fun q : BelowBy W => BelowBy.cell x6 q
      rw [hkk] at hcase hkb HO fx0
      generalize hm : ls.length = m at *
      rcases hcase with rfl | rfl | rfl | rfl | rfl | rfl | rfl | h6
      · cases bz with
        | false =>
          refine wp_region_below (by kernel_rfl) (by kernel_rfl) (Below.refl _ _) ?_
          repeat (go_big_quiet_step (first
            | (go_at_call 31; (with_reducible exact Calls.below_same (CB.out _)))))
          refine wpQuiet_nil ?_
          intro wq hw1
          have hq1 : Below W.heap.size W wq := by obtain ⟨p, hp⟩ := hw1; rw [hp]; exact p.h
          clear hw1
          have HB2 := Lib.hid (below_from hb2 (below_from HBW.out hq1))
          have HBq := Lib.hid (below_from HBW.out hq1)
          go_wp2_with fail
          go_ret
          exact ⟨by rw [HNo.out (by rw [HO.out]; simp)]; rfl, HB2.out⟩
        | true =>
          obtain ⟨bb, hbb⟩ : ∃ bb, bitsB h1.b = bb := ⟨_, rfl⟩
          rw [hbb] at HO CB
          cases bb with
          | false =>
            refine wp_region_below (by kernel_rfl) (by kernel_rfl) (Below.refl _ _) ?_
            repeat (go_big_quiet_step (first
              | (go_at_call 31; (with_reducible exact Calls.below_same (CB.out _)))))
            refine wpQuiet_nil ?_
            intro wq hw1
            have hq1 : Below W.heap.size W wq := by obtain ⟨p, hp⟩ := hw1; rw [hp]; exact p.h
            clear hw1
            have HB2 := Lib.hid (below_from hb2 (below_from HBW.out hq1))
            have HBq := Lib.hid (below_from HBW.out hq1)
            go_wp2_with fail
            go_ret
            exact ⟨by rw [HNo.out (by rw [HO.out]; simp)]; rfl, HB2.out⟩
          | true =>
            rcases hb1 : h1.b with _ | ⟨y, r⟩
            · rw [hb1] at fx1 HO CB
              refine wp_region_below (by kernel_rfl) (by kernel_rfl) (Below.refl _ _) ?_
              repeat (go_big_quiet_step (first
                | (go_at_call 31; (with_reducible exact Calls.below_same (CB.out _)))))
              refine wpQuiet_nil ?_
              intro wq hw1
              have hq1 : Below W.heap.size W wq := by obtain ⟨p, hp⟩ := hw1; rw [hp]; exact p.h
              clear hw1
              have HB2 := Lib.hid (below_from hb2 (below_from HBW.out hq1))
              have HBq := Lib.hid (below_from HBW.out hq1)
              have e7 := Lib.hid ((hq1.block _ (lt_of_block E.out)).trans E.out)
              clear fx0 fx1 fx2 fx3 fx4 fx5 fx6 x0 x1 x2 x3 x4 x5 x6 hq1
              obtain ⟨x0, x1, x2, x3, x4, x5, x6⟩ := co_at_box e7.out
              rw [hkk] at x0
              have z0 : ∀ o, (wq.alloc o).cell? ⟨wr.heap.size, 0, none⟩ = _ := fun o => (World.cell?_alloc_lt wq o _ (World.block_lt_of_cell? _ _ x0)).trans x0
              have z6 : ∀ o, (wq.alloc o).cell? ⟨wr.heap.size, 6, none⟩ = _ := fun o => (World.cell?_alloc_lt wq o _ (World.block_lt_of_cell? _ _ x6)).trans x6
              by_cases hm0 : m = 0
              · subst hm0
                go_wp2_with fail
                go_region
                go_wp2_with fail
                go_roundw
                case rel => exact ⟨k + 1, by omega, by go_num, HY.out (by rw [HO.out]; simp), Lib.hid (pw_drew (below_new HBq.out _))⟩
                case measure => simp [intOf]; omega
              · have hdot := hm0
                have t1 : ((m : Int) == 0) = false := by simp; omega
                have t2 : ((m : Int) != 0) = true := by simp; omega
                have t3 : decide ((m : Int) = 0) = false := by simp; omega
                go_wp2_with fail
                go_region
                go_wp2_with fail
                go_ret
                exact ⟨by rw [HNo.out (by rw [HO.out]; simp [hm0])]; rfl, below_from hb2 (pw_drew (below_new HBq.out _))⟩
            · rw [hb1] at fx1 HO CB
              refine wp_region_below (by kernel_rfl) (by kernel_rfl) (Below.refl _ _) ?_
              repeat (go_big_quiet_step (first
                | (go_at_call 31; (with_reducible exact Calls.below_same (CB.out _)))))
              refine wpQuiet_nil ?_
              intro wq hw1
              have hq1 : Below W.heap.size W wq := by obtain ⟨p, hp⟩ := hw1; rw [hp]; exact p.h
              clear hw1
              have HB2 := Lib.hid (below_from hb2 (below_from HBW.out hq1))
              have HBq := Lib.hid (below_from HBW.out hq1)
              go_wp2_with fail
              go_ret
              exact ⟨by rw [HNo.out (by rw [HO.out]; simp)]; rfl, HB2.out⟩
      · cases bz with
        | false =>
          refine wp_region_below (by kernel_rfl) (by kernel_rfl) (Below.refl _ _) ?_
          repeat (go_big_quiet_step (first
            | (go_at_call 31; (with_reducible exact Calls.below_same (CB.out _)))))
          refine wpQuiet_nil ?_
          intro wq hw1
          have hq1 : Below W.heap.size W wq := by obtain ⟨p, hp⟩ := hw1; rw [hp]; exact p.h
          clear hw1
          have HB2 := Lib.hid (below_from hb2 (below_from HBW.out hq1))
          have HBq := Lib.hid (below_from HBW.out hq1)
          go_wp2_with fail
          go_ret
          exact ⟨by rw [HNo.out (by rw [HO.out]; simp)]; rfl, HB2.out⟩
        | true =>
          obtain ⟨bb, hbb⟩ : ∃ bb, bitsB h1.b = bb := ⟨_, rfl⟩
          rw [hbb] at HO CB
          cases bb with
          | false =>
            refine wp_region_below (by kernel_rfl) (by kernel_rfl) (Below.refl _ _) ?_
            repeat (go_big_quiet_step (first
              | (go_at_call 31; (with_reducible exact Calls.below_same (CB.out _)))))
            refine wpQuiet_nil ?_
            intro wq hw1
            have hq1 : Below W.heap.size W wq := by obtain ⟨p, hp⟩ := hw1; rw [hp]; exact p.h
            clear hw1
            have HB2 := Lib.hid (below_from hb2 (below_from HBW.out hq1))
            have HBq := Lib.hid (below_from HBW.out hq1)
            go_wp2_with fail
            go_ret
            exact ⟨by rw [HNo.out (by rw [HO.out]; simp)]; rfl, HB2.out⟩
          | true =>
            refine wp_region_below (by kernel_rfl) (by kernel_rfl) (Below.refl _ _) ?_
            repeat (go_big_quiet_step (first
              | (go_at_call 31; (with_reducible exact Calls.below_same (CB.out _)))))
            refine wpQuiet_nil ?_
            intro wq hw1
            have hq1 : Below W.heap.size W wq := by obtain ⟨p, hp⟩ := hw1; rw [hp]; exact p.h
            clear hw1
            have HB2 := Lib.hid (below_from hb2 (below_from HBW.out hq1))
            have HBq := Lib.hid (below_from HBW.out hq1)
            have e7 := Lib.hid ((hq1.block _ (lt_of_block E.out)).trans E.out)
            clear fx0 fx1 fx2 fx3 fx4 fx5 fx6 x0 x1 x2 x3 x4 x5 x6 hq1
            obtain ⟨x0, x1, x2, x3, x4, x5, x6⟩ := co_at_box e7.out
            rw [hkk] at x0
            have z0 : ∀ o, (wq.alloc o).cell? ⟨wr.heap.size, 0, none⟩ = _ := fun o => (World.cell?_alloc_lt wq o _ (World.block_lt_of_cell? _ _ x0)).trans x0
            have z6 : ∀ o, (wq.alloc o).cell? ⟨wr.heap.size, 6, none⟩ = _ := fun o => (World.cell?_alloc_lt wq o _ (World.block_lt_of_cell? _ _ x6)).trans x6
            by_cases hm0 : m = 0
            · subst hm0
              go_wp2_with fail
              go_region
              go_wp2_with fail
              go_roundw
              case rel => exact ⟨k + 1, by omega, by go_num, HY.out (by rw [HO.out]; simp), Lib.hid (pw_drew (below_new HBq.out _))⟩
              case measure => simp [intOf]; omega
            · have hdot := hm0
              have t1 : ((m : Int) == 0) = false := by simp; omega
              have t2 : ((m : Int) != 0) = true := by simp; omega
              have t3 : decide ((m : Int) = 0) = false := by simp; omega
              go_wp2_with fail
              go_region
              go_wp2_with fail
              go_ret
              exact ⟨by rw [HNo.out (by rw [HO.out]; simp [hm0])]; rfl, below_from hb2 (pw_drew (below_new HBq.out _))⟩
      · cases bz with
        | true =>
          refine wp_region_below (by kernel_rfl) (by kernel_rfl) (Below.refl _ _) ?_
          repeat (go_big_quiet_step (first
            | (go_at_call 31; (with_reducible exact Calls.below_same (CB.out _)))))
          refine wpQuiet_nil ?_
          intro wq hw1
          have hq1 : Below W.heap.size W wq := by obtain ⟨p, hp⟩ := hw1; rw [hp]; exact p.h
          clear hw1
          have HB2 := Lib.hid (below_from hb2 (below_from HBW.out hq1))
          have HBq := Lib.hid (below_from HBW.out hq1)
          go_wp2_with fail
          go_ret
          exact ⟨by rw [HNo.out (by rw [HO.out]; simp)]; rfl, HB2.out⟩
        | false =>
          obtain ⟨bb, hbb⟩ : ∃ bb, bitsB h1.b = bb := ⟨_, rfl⟩
          rw [hbb] at HO CB
          cases bb with
          | false =>
            refine wp_region_below (by kernel_rfl) (by kernel_rfl) (Below.refl _ _) ?_
            repeat (go_big_quiet_step (first
              | (go_at_call 31; (with_reducible exact Calls.below_same (CB.out _)))))
            refine wpQuiet_nil ?_
            intro wq hw1
            have hq1 : Below W.heap.size W wq := by obtain ⟨p, hp⟩ := hw1; rw [hp]; exact p.h
            clear hw1
            have HB2 := Lib.hid (below_from hb2 (below_from HBW.out hq1))
            have HBq := Lib.hid (below_from HBW.out hq1)
            go_wp2_with fail
            go_ret
            exact ⟨by rw [HNo.out (by rw [HO.out]; simp)]; rfl, HB2.out⟩
          | true =>
            refine wp_region_below (by kernel_rfl) (by kernel_rfl) (Below.refl _ _) ?_
            repeat (go_big_quiet_step (first
              | (go_at_call 31; (with_reducible exact Calls.below_same (CB.out _)))))
            refine wpQuiet_nil ?_
            intro wq hw1
            have hq1 : Below W.heap.size W wq := by obtain ⟨p, hp⟩ := hw1; rw [hp]; exact p.h
            clear hw1
            have HB2 := Lib.hid (below_from hb2 (below_from HBW.out hq1))
            have HBq := Lib.hid (below_from HBW.out hq1)
            have e7 := Lib.hid ((hq1.block _ (lt_of_block E.out)).trans E.out)
            clear fx0 fx1 fx2 fx3 fx4 fx5 fx6 x0 x1 x2 x3 x4 x5 x6 hq1
            obtain ⟨x0, x1, x2, x3, x4, x5, x6⟩ := co_at_box e7.out
            rw [hkk] at x0
            have z0 : ∀ o, (wq.alloc o).cell? ⟨wr.heap.size, 0, none⟩ = _ := fun o => (World.cell?_alloc_lt wq o _ (World.block_lt_of_cell? _ _ x0)).trans x0
            have z6 : ∀ o, (wq.alloc o).cell? ⟨wr.heap.size, 6, none⟩ = _ := fun o => (World.cell?_alloc_lt wq o _ (World.block_lt_of_cell? _ _ x6)).trans x6
            by_cases hm0 : m = 0
            · subst hm0
              go_wp2_with fail
              go_region
              go_wp2_with fail
              go_roundw
              case rel => exact ⟨k + 1, by omega, by go_num, HY.out (by rw [HO.out]; simp), Lib.hid (pw_drew (below_new HBq.out _))⟩
              case measure => simp [intOf]; omega
            · have hdot := hm0
              have t1 : ((m : Int) == 0) = false := by simp; omega
              have t2 : ((m : Int) != 0) = true := by simp; omega
              have t3 : decide ((m : Int) = 0) = false := by simp; omega
              go_wp2_with fail
              go_region
              go_wp2_with fail
              go_ret
              exact ⟨by rw [HNo.out (by rw [HO.out]; simp [hm0])]; rfl, below_from hb2 (pw_drew (below_new HBq.out _))⟩
      · cases bz with
        | false =>
          refine wp_region_below (by kernel_rfl) (by kernel_rfl) (Below.refl _ _) ?_
          repeat (go_big_quiet_step (first
            | (go_at_call 31; (with_reducible exact Calls.below_same (CB.out _)))))
          refine wpQuiet_nil ?_
          intro wq hw1
          have hq1 : Below W.heap.size W wq := by obtain ⟨p, hp⟩ := hw1; rw [hp]; exact p.h
          clear hw1
          have HB2 := Lib.hid (below_from hb2 (below_from HBW.out hq1))
          have HBq := Lib.hid (below_from HBW.out hq1)
          go_wp2_with fail
          go_ret
          exact ⟨by rw [HNo.out (by rw [HO.out]; simp)]; rfl, HB2.out⟩
        | true =>
          obtain ⟨bb, hbb⟩ : ∃ bb, bitsB h1.b = bb := ⟨_, rfl⟩
          rw [hbb] at HO CB
          cases bb with
          | false =>
            refine wp_region_below (by kernel_rfl) (by kernel_rfl) (Below.refl _ _) ?_
            repeat (go_big_quiet_step (first
              | (go_at_call 31; (with_reducible exact Calls.below_same (CB.out _)))))
            refine wpQuiet_nil ?_
            intro wq hw1
            have hq1 : Below W.heap.size W wq := by obtain ⟨p, hp⟩ := hw1; rw [hp]; exact p.h
            clear hw1
            have HB2 := Lib.hid (below_from hb2 (below_from HBW.out hq1))
            have HBq := Lib.hid (below_from HBW.out hq1)
            go_wp2_with fail
            go_ret
            exact ⟨by rw [HNo.out (by rw [HO.out]; simp)]; rfl, HB2.out⟩
          | true =>
            refine wp_region_below (by kernel_rfl) (by kernel_rfl) (Below.refl _ _) ?_
            repeat (go_big_quiet_step (first
              | (go_at_call 31; (with_reducible exact Calls.below_same (CB.out _)))))
            refine wpQuiet_nil ?_
            intro wq hw1
            have hq1 : Below W.heap.size W wq := by obtain ⟨p, hp⟩ := hw1; rw [hp]; exact p.h
            clear hw1
            have HB2 := Lib.hid (below_from hb2 (below_from HBW.out hq1))
            have HBq := Lib.hid (below_from HBW.out hq1)
            have e7 := Lib.hid ((hq1.block _ (lt_of_block E.out)).trans E.out)
            clear fx0 fx1 fx2 fx3 fx4 fx5 fx6 x0 x1 x2 x3 x4 x5 x6 hq1
            obtain ⟨x0, x1, x2, x3, x4, x5, x6⟩ := co_at_box e7.out
            rw [hkk] at x0
            have z0 : ∀ o, (wq.alloc o).cell? ⟨wr.heap.size, 0, none⟩ = _ := fun o => (World.cell?_alloc_lt wq o _ (World.block_lt_of_cell? _ _ x0)).trans x0
            have z6 : ∀ o, (wq.alloc o).cell? ⟨wr.heap.size, 6, none⟩ = _ := fun o => (World.cell?_alloc_lt wq o _ (World.block_lt_of_cell? _ _ x6)).trans x6
            by_cases hm0 : m = 2
            · subst hm0
              go_wp2_with fail
              go_region
              go_wp2_with fail
              go_roundw
              case rel => exact ⟨k + 1, by omega, by go_num, HY.out (by rw [HO.out]; simp), Lib.hid (pw_drew (below_new HBq.out _))⟩
              case measure => simp [intOf]; omega
            · have hdot := hm0
              have t1 : ((m : Int) == 2) = false := by simp; omega
              have t2 : ((m : Int) != 2) = true := by simp; omega
              have t3 : decide ((m : Int) = 2) = false := by simp; omega
              go_wp2_with fail
              go_region
              go_wp2_with fail
              go_ret
              exact ⟨by rw [HNo.out (by rw [HO.out]; simp [hm0])]; rfl, below_from hb2 (pw_drew (below_new HBq.out _))⟩
      · cases bz with
        | false =>
          refine wp_region_below (by kernel_rfl) (by kernel_rfl) (Below.refl _ _) ?_
          repeat (go_big_quiet_step (first
            | (go_at_call 31; (with_reducible exact Calls.below_same (CB.out _)))))
          refine wpQuiet_nil ?_
          intro wq hw1
          have hq1 : Below W.heap.size W wq := by obtain ⟨p, hp⟩ := hw1; rw [hp]; exact p.h
          clear hw1
          have HB2 := Lib.hid (below_from hb2 (below_from HBW.out hq1))
          have HBq := Lib.hid (below_from HBW.out hq1)
          go_wp2_with fail
          go_ret
          exact ⟨by rw [HNo.out (by rw [HO.out]; simp)]; rfl, HB2.out⟩
        | true =>
          obtain ⟨bb, hbb⟩ : ∃ bb, bitsB h1.b = bb := ⟨_, rfl⟩
          rw [hbb] at HO CB
          cases bb with
          | false =>
            refine wp_region_below (by kernel_rfl) (by kernel_rfl) (Below.refl _ _) ?_
            repeat (go_big_quiet_step (first
              | (go_at_call 31; (with_reducible exact Calls.below_same (CB.out _)))))
            refine wpQuiet_nil ?_
            intro wq hw1
            have hq1 : Below W.heap.size W wq := by obtain ⟨p, hp⟩ := hw1; rw [hp]; exact p.h
            clear hw1
            have HB2 := Lib.hid (below_from hb2 (below_from HBW.out hq1))
            have HBq := Lib.hid (below_from HBW.out hq1)
            go_wp2_with fail
            go_ret
            exact ⟨by rw [HNo.out (by rw [HO.out]; simp)]; rfl, HB2.out⟩
          | true =>
            refine wp_region_below (by kernel_rfl) (by kernel_rfl) (Below.refl _ _) ?_
            repeat (go_big_quiet_step (first
              | (go_at_call 31; (with_reducible exact Calls.below_same (CB.out _)))))
            refine wpQuiet_nil ?_
            intro wq hw1
            have hq1 : Below W.heap.size W wq := by obtain ⟨p, hp⟩ := hw1; rw [hp]; exact p.h
            clear hw1
            have HB2 := Lib.hid (below_from hb2 (below_from HBW.out hq1))
            have HBq := Lib.hid (below_from HBW.out hq1)
            have e7 := Lib.hid ((hq1.block _ (lt_of_block E.out)).trans E.out)
            clear fx0 fx1 fx2 fx3 fx4 fx5 fx6 x0 x1 x2 x3 x4 x5 x6 hq1
            obtain ⟨x0, x1, x2, x3, x4, x5, x6⟩ := co_at_box e7.out
            rw [hkk] at x0
            go_wp2_with fail
            go_region
            go_wp2_with fail
            go_roundw
            case rel => exact ⟨k + 1, by omega, by go_num, HY.out (by rw [HO.out]; simp), Lib.hid (pw_drew HBq.out)⟩
            case measure => simp [intOf]; omega
      · cases bz with
        | false =>
          refine wp_region_below (by kernel_rfl) (by kernel_rfl) (Below.refl _ _) ?_
          repeat (go_big_quiet_step (first
            | (go_at_call 31; (with_reducible exact Calls.below_same (CB.out _)))))
          refine wpQuiet_nil ?_
          intro wq hw1
          have hq1 : Below W.heap.size W wq := by obtain ⟨p, hp⟩ := hw1; rw [hp]; exact p.h
          clear hw1
          have HB2 := Lib.hid (below_from hb2 (below_from HBW.out hq1))
          have HBq := Lib.hid (below_from HBW.out hq1)
          go_wp2_with fail
          go_ret
          exact ⟨by rw [HNo.out (by rw [HO.out]; simp)]; rfl, HB2.out⟩
        | true =>
          obtain ⟨bb, hbb⟩ : ∃ bb, bitsB h1.b = bb := ⟨_, rfl⟩
          rw [hbb] at HO CB
          cases bb with
          | false =>
            refine wp_region_below (by kernel_rfl) (by kernel_rfl) (Below.refl _ _) ?_
            repeat (go_big_quiet_step (first
              | (go_at_call 31; (with_reducible exact Calls.below_same (CB.out _)))))
            refine wpQuiet_nil ?_
            intro wq hw1
            have hq1 : Below W.heap.size W wq := by obtain ⟨p, hp⟩ := hw1; rw [hp]; exact p.h
            clear hw1
            have HB2 := Lib.hid (below_from hb2 (below_from HBW.out hq1))
            have HBq := Lib.hid (below_from HBW.out hq1)
            go_wp2_with fail
            go_ret
            exact ⟨by rw [HNo.out (by rw [HO.out]; simp)]; rfl, HB2.out⟩
          | true =>
            refine wp_region_below (by kernel_rfl) (by kernel_rfl) (Below.refl _ _) ?_
            repeat (go_big_quiet_step (first
              | (go_at_call 31; (with_reducible exact Calls.below_same (CB.out _)))))
            refine wpQuiet_nil ?_
            intro wq hw1
            have hq1 : Below W.heap.size W wq := by obtain ⟨p, hp⟩ := hw1; rw [hp]; exact p.h
            clear hw1
            have HB2 := Lib.hid (below_from hb2 (below_from HBW.out hq1))
            have HBq := Lib.hid (below_from HBW.out hq1)
            have e7 := Lib.hid ((hq1.block _ (lt_of_block E.out)).trans E.out)
            clear fx0 fx1 fx2 fx3 fx4 fx5 fx6 x0 x1 x2 x3 x4 x5 x6 hq1
            obtain ⟨x0, x1, x2, x3, x4, x5, x6⟩ := co_at_box e7.out
            rw [hkk] at x0
            have z0 : ∀ o, (wq.alloc o).cell? ⟨wr.heap.size, 0, none⟩ = _ := fun o => (World.cell?_alloc_lt wq o _ (World.block_lt_of_cell? _ _ x0)).trans x0
            have z6 : ∀ o, (wq.alloc o).cell? ⟨wr.heap.size, 6, none⟩ = _ := fun o => (World.cell?_alloc_lt wq o _ (World.block_lt_of_cell? _ _ x6)).trans x6
            by_cases hm0 : m = 1
            · subst hm0
              go_wp2_with fail
              go_region
              go_wp2_with fail
              go_roundw
              case rel => exact ⟨k + 1, by omega, by go_num, HY.out (by rw [HO.out]; simp), Lib.hid (pw_drew (below_new HBq.out _))⟩
              case measure => simp [intOf]; omega
            · have hdot := hm0
              have t1 : ((m : Int) == 1) = false := by simp; omega
              have t2 : ((m : Int) != 1) = true := by simp; omega
              have t3 : decide ((m : Int) = 1) = false := by simp; omega
              go_wp2_with fail
              go_region
              go_wp2_with fail
              go_ret
              exact ⟨by rw [HNo.out (by rw [HO.out]; simp [hm0])]; rfl, below_from hb2 (pw_drew (below_new HBq.out _))⟩
      · have hdot := hkb
        refine wp_region_below (by kernel_rfl) (by kernel_rfl) (Below.refl _ _) ?_
        repeat (go_big_quiet_step (first
          | (go_at_call 31; (with_reducible exact Calls.below_same (CB.out _)))))
        refine wpQuiet_nil ?_
        intro wq hw1
        have hq1 : Below W.heap.size W wq := by obtain ⟨p, hp⟩ := hw1; rw [hp]; exact p.h
        clear hw1
        have HB2 := Lib.hid (below_from hb2 (below_from HBW.out hq1))
        have HBq := Lib.hid (below_from HBW.out hq1)
        go_wp2_with fail
        go_ret
        exact ⟨by rw [HNo.out (by rw [HO.out]; simp)]; rfl, HB2.out⟩
      · have hdot := hkb
        have g1 : decide ((kk : Int) < 1) = false := by simp; omega
        have g2 : decide ((kk : Int) > 6) = true := by simp; omega
        have g3 : decide (6 < (kk : Int)) = true := by simp; omega
        refine wp_region_below (by kernel_rfl) (by kernel_rfl) (Below.refl _ _) ?_
        repeat (go_big_quiet_step (first
          | (go_at_call 31; (with_reducible exact Calls.below_same (CB.out _)))))
        refine wpQuiet_nil ?_
        intro wq hw1
        have hq1 : Below W.heap.size W wq := by obtain ⟨p, hp⟩ := hw1; rw [hp]; exact p.h
        clear hw1
        have HB2 := Lib.hid (below_from hb2 (below_from HBW.out hq1))
        have HBq := Lib.hid (below_from HBW.out hq1)
        go_wp2_with fail
        go_ret
        exact ⟨by rw [HNo.out (by rw [HO.out]; rw [if_neg (by omega), if_neg (by omega), if_neg (by omega), if_neg (by omega), if_neg (by omega), if_neg (by omega), Bool.and_false])]; rfl, HB2.out⟩
    · have he : k = l.length := by omega
      subst he
      have HA : Hid (l.all (fun x => okNodeC x.head x.kids.length) = true) := all_yes HN.out
      have g1 : decide ((l.length : Int) < (l.length : Int)) = false := by simp
      go_wp2_with fail
      go_ret
      exact ⟨by rw [HM.out, HA.out, Bool.true_and]; simp; omega, below_from hb2 HB.out⟩
end Go.Proofs.YteoghoaggpbkpaaDoor
namespace Go.Proofs.YteoghoaggpbkpaaDoor
open Go.RowKit
set_option linter.unusedVariables false
set_option linter.unusedSimpArgs false

theorem join_snocX (xs : List (List UInt8)) (x sep : List UInt8) : Lib.join (xs ++ [x]) sep = if xs = [] then x else Lib.join xs sep ++ sep ++ x := by
  induction xs with
  | nil => simp [Lib.join, List.intercalate, List.intersperse]
  | cons y ys ih =>
    rw [if_neg (by simp)]
    cases ys with
    | nil => simp [Lib.join, List.intercalate, List.intersperse]
    | cons z zs =>
      have e : ∀ a b (l : List (List UInt8)), Lib.join (a :: b :: l) sep = a ++ (sep ++ Lib.join (b :: l) sep) := by
        intro a b l; simp [Lib.join, List.intercalate, List.intersperse]
      rw [List.cons_append, List.cons_append, e, e, ← List.cons_append, ih, if_neg (by simp)]
      simp [List.append_assoc]
/-- the kids' texts, as they stand in their node's -/
def jn (k : UInt8) (l : List (List UInt8)) : List UInt8 := if k = 5 then Lib.join l [124] else Lib.join l []
theorem jn_nil (k : UInt8) : jn k [] = [] := by unfold jn; split <;> simp [Lib.join, List.intercalate, List.intersperse]
theorem jn_one (k : UInt8) (x : List UInt8) : jn k [x] = x := by unfold jn; split <;> simp [Lib.join, List.intercalate, List.intersperse]
theorem jn_bar {k : UInt8} {l : List (List UInt8)} (x : List UInt8) (h : k = 5) (hl : l ≠ []) : jn k (l ++ [x]) = (jn k l ++ [124]) ++ x := by
  unfold jn
  rw [if_pos h, if_pos h, join_snocX, if_neg hl]
theorem jn_no {k : UInt8} {l : List (List UInt8)} (x : List UInt8) (h : k ≠ 5) : jn k (l ++ [x]) = jn k l ++ x := by
  unfold jn
  rw [if_neg h, if_neg h, join_snocX]
  split
  · subst_vars; simp [Lib.join, List.intercalate, List.intersperse]
  · simp
theorem jn_le (k : UInt8) (l : List (List UInt8)) : (jn k l).length ≤ lensC l + l.length := by
  unfold jn
  split
  · exact join_le l [124] (by simp)
  · exact join_le l [] (by simp)
theorem ok_kinds {h : CH} {n : Nat} (H : okNodeC h n = true) : h.k.toNat = 1 ∨ h.k.toNat = 2 ∨ h.k.toNat = 3 ∨ h.k.toNat = 4 ∨ h.k.toNat = 5 ∨ h.k.toNat = 6 := by
  unfold okNodeC at H
  rw [Bool.and_eq_true] at H
  have H2 := H.2
  split at H2
  · omega
  · split at H2
    · omega
    · split at H2
      · omega
      · split at H2
        · omega
        · split at H2
          · omega
          · split at H2
            · omega
            · cases H2
set_option maxRecDepth 100000 in
set_option maxHeartbeats 8000000 in
theorem refTextC_upto (n : Nat) : ∀ (ok : Nat → Prop) (h : CH) (ks : List Co) (A : Option Addr) (c : Nat) (w : World), 1 + T.sizes ks ≤ n → n ≤ 100000 → ks.length ≤ c → InRow CE ok w ks A 0 → fewC (.mk h ks) → okC (.mk h ks) = true →
    Calls Tryd.prog 11 #[coV h A ks.length c] w fun e w' => e = .returned (.string (str (textC (.mk h ks)))) ∧ Below w.heap.size w w' := by
  induction n with
  | zero => intro ok h ks A c w h0; omega
  | succ n ih =>
    intro ok h ks A c w hn hm hc hr hf ho
    have hl := T.length_le_sizes ks
    have IH := Lib.hid ih
    have HS : Hid (∀ t ∈ ks, t.size ≤ n) := fun t ht => by have := T.sizes_mem ht; omega
    have HF := Lib.hid hf
    have hbW := below_new (Below.refl w.heap.size w) (.cells (coA h A ks.length c) 29)
    have HR := Lib.hid (hr.below hbW)
    have HB0 := Lib.hid hbW
    have HE0 := Lib.hid (new_at1 (w := w) (.cells (coA h A ks.length c) 29))
    have HO : Hid (textC (.mk h ks) = textK h (textCs ks)) := by simp only [Hid, textC]
    have HOK : Hid (∀ t ∈ ks, okC t = true) := fun t ht => by
      simp only [okC, Bool.and_eq_true] at ho
      have := ho.2
      rw [okCL_all] at this
      exact List.all_eq_true.1 this t ht
    have hkinds := ok_kinds (h := h) (n := ks.length) (by simp only [okC, Bool.and_eq_true] at ho; exact ho.1)
    have HL : Hid (∀ i, (jn h.k (textCs (ks.take i))).length ≤ 400000000) := by
      intro i
      have hk : ∀ l : List Co, (∀ t ∈ l, t ∈ ks) → lensC (textCs l) + (textCs l).length ≤ 4000 * T.sizes l := by
        intro l
        induction l with
        | nil => intro _; simp [textCs, lensC, T.sizes]
        | cons t l il =>
          intro hl
          have i1 := il fun x hx => hl x (List.mem_cons_of_mem _ hx)
          have i2 := text_le t.size t (Nat.le_refl _) (hf.kid (hl t (List.mem_cons_self ..)))
          simp only [textCs, lensC, List.map_cons, List.sum_cons, List.length_cons, T.sizes] at i1 ⊢
          omega
      have hk0 := hk (ks.take i) fun t ht => List.mem_of_mem_take ht
      have j1 := jn_le h.k (textCs (ks.take i))
      have : T.sizes (ks.take i) ≤ T.sizes ks := by
        conv => rhs; rw [← List.take_append_drop i ks, T.sizes_append]
        omega
      omega
    have HX : Hid (∀ t ∈ ks, (textC t).length ≤ 400000000) := by
      intro t ht
      have i2 := text_le t.size t (Nat.le_refl _) (hf.kid ht)
      have := T.sizes_mem ht
      omega
    have T0 : Hid (jn h.k (textCs (ks.take 0)) = []) := jn_nil _
    have hbl := hf.head
    have hkn := h.k.toNat_lt
    clear ih hr hf ho
    go_enter Tryd.func11, Tryd.ntmps11
    go_wp2_with fail
    generalize hW : w.alloc (.cells (coA h A ks.length c) 29) = W at *
    have hsW : W.heap.size = w.heap.size + 1 := by rw [← hW]; simp
    obtain ⟨x0, x1, x2, x3, x4, x5, x6⟩ := co_at_box HE0.out
    clear hW hbW
    go_loopw [3, 4, 9] (fun s _ i wr => ∃ (k : Nat) (J : List UInt8), k ≤ ks.length ∧ i = .int .i64 (k : Nat) ∧ s = .string (str J) ∧ Hid (J = jn h.k (textCs (ks.take k))) ∧ J.length ≤ 400000000 ∧ Hid (Below W.heap.size W wr)) (fun _ _ i _ => ks.length - (intOf i).toNat)
    case atStart => exact ⟨0, [], Nat.zero_le _, rfl, rfl, T0.out.symm, by simp, Lib.hid (Below.refl _ _)⟩
    case round =>
      obtain ⟨k, J, hk, rfl, rfl, HJ, hJ, HB⟩ := hrel
      have HEr := Lib.hid ((HB.out.block _ (lt_of_block HE0.out)).trans HE0.out)
      clear x0 x1 x2 x3 x4 x5 x6
      obtain ⟨x0, x1, x2, x3, x4, x5, x6⟩ := co_at_box HEr.out
      by_cases hlt : k < ks.length
      · obtain ⟨t, ad, h1, ls, A1, c1, hA, hx, rfl, hc1, hr1, q0, q1, q2, q3, q4, q5, q6⟩ := co_at (HR.out.below HB.out) hlt
        subst hA
        have hmem := List.mem_of_getElem? hx
        have hs1 := HS.out _ hmem
        have hf1 := HF.out.kid hmem
        simp only [T.size] at hs1
        have HTk := Lib.hid (textCs_take hx)
        have HLk : Hid ((textCs (ks.take k)).length = k) := by unfold Hid; rw [textCs_length, List.length_take]; omega
        have htx := HX.out _ hmem
        have hJ2 := HL.out (k + 1)
        have HC := Lib.hid (IH.out ok h1 ls A1 c1 wr hs1 (by omega) hc1 hr1 hf1 (HOK.out _ hmem))
        generalize textC (.mk h1 ls) = tx at *
        rw [HTk.out] at hJ2
        clear hx hr1 hmem hs1 hf1
        by_cases hk5 : h.k = 5
        · have g5 : ((h.k.toNat : Int) == 5) = true := by rw [hk5]; rfl
          rcases Nat.eq_zero_or_pos k with h0 | hp
          · have hJe : J = [] := by rw [HJ.out, h0]; exact T0.out
            have gk : decide ((k : Int) > 0) = false := decide_eq_false (by omega)
            have gk2 : decide (0 < k) = false := decide_eq_false (by omega)
            subst hJe
            have HJ1 : Hid (([] : List UInt8) ++ tx = jn h.k (textCs (ks.take (k + 1)))) := by
              unfold Hid
              rw [HTk.out, List.eq_nil_of_length_eq_zero (HLk.out.trans h0), List.nil_append, List.nil_append, jn_one]
            have hJ2' : (([] : List UInt8) ++ tx).length ≤ 400000000 := by rw [HJ1.out, HTk.out]; exact hJ2
            have hcat := run_cat (P := Tryd.prog) [] tx (by simp; omega)
            clear hk5 hJ2
            try clear h0
            go_wp2_with fail
            refine HC.out.mono ?_
            rintro e w2 ⟨rfl, hb2⟩
            have HB2 := Lib.hid (below_from HB.out hb2)
            clear hb2
            go_wp2_with fail
            go_roundw
            case rel => exact ⟨k + 1, [] ++ tx, by omega, by go_num, rfl, HJ1, hJ2', HB2⟩
            case measure => simp [intOf]; omega
          · have gk : decide ((k : Int) > 0) = true := by simp; omega
            have HJ1 : Hid ((J ++ [124]) ++ tx = jn h.k (textCs (ks.take (k + 1)))) := by
              unfold Hid
              rw [HTk.out, jn_bar _ hk5 (by intro e; have := HLk.out; rw [e] at this; simp at this; omega), ← HJ.out]
            have hJ2' : ((J ++ [124]) ++ tx).length ≤ 400000000 := by rw [HJ1.out, HTk.out]; exact hJ2
            have hcat0 := run_cat (P := Tryd.prog) J [124] (by simp; omega)
            have hcat := run_cat (P := Tryd.prog) (J ++ [124]) tx (by simp; omega)
            clear hk5 hJ2
            try clear h0
            go_wp2_with fail
            refine HC.out.mono ?_
            rintro e w2 ⟨rfl, hb2⟩
            have HB2 := Lib.hid (below_from HB.out hb2)
            clear hb2
            go_wp2_with fail
            go_roundw
            case rel => exact ⟨k + 1, (J ++ [124]) ++ tx, by omega, by go_num, by simp, HJ1, hJ2', HB2⟩
            case measure => simp [intOf]; omega
        · have g5 : ((h.k.toNat : Int) == 5) = false := k_ne hk5 rfl
          have HJ1 : Hid (J ++ tx = jn h.k (textCs (ks.take (k + 1)))) := by
            unfold Hid
            rw [HTk.out, jn_no _ hk5, ← HJ.out]
          have hJ2' : (J ++ tx).length ≤ 400000000 := by rw [HJ1.out, HTk.out]; exact hJ2
          have hcat := run_cat (P := Tryd.prog) J tx (by omega)
          clear hk5 hJ2
          rcases Nat.eq_zero_or_pos k with h0 | hp
          · have gk : decide ((k : Int) > 0) = false := decide_eq_false (by omega)
            have gk2 : decide (0 < k) = false := decide_eq_false (by omega)
            clear h0
            go_wp2_with fail
            refine HC.out.mono ?_
            rintro e w2 ⟨rfl, hb2⟩
            have HB2 := Lib.hid (below_from HB.out hb2)
            clear hb2
            go_wp2_with fail
            go_roundw
            case rel => exact ⟨k + 1, J ++ tx, by omega, by go_num, rfl, HJ1, hJ2', HB2⟩
            case measure => simp [intOf]; omega
          · have gk : decide ((k : Int) > 0) = true := by simp; omega
            go_wp2_with fail
            refine HC.out.mono ?_
            rintro e w2 ⟨rfl, hb2⟩
            have HB2 := Lib.hid (below_from HB.out hb2)
            clear hb2
            go_wp2_with fail
            go_roundw
            case rel => exact ⟨k + 1, J ++ tx, by omega, by go_num, rfl, HJ1, hJ2', HB2⟩
            case measure => simp [intOf]; omega
      · have hkk : k = ks.length := by omega
        subst hkk
        have HJn : Hid (J = jn h.k (textCs ks)) := by have := HJ.out; rw [List.take_length] at this; exact this
        have HBw := Lib.hid (below_from HB0.out HB.out)
        have CS := Lib.hid (refText_any h.s wr)
        have hsl := textS_length h.s
        clear HJ HX HL hlt hk HB0 HB
        rcases hb : h.b with _ | ⟨y, r⟩
        · have HH : Hid (headC h.b = []) := by unfold Hid headC; rw [hb]; simp
          rw [hb] at x1
          have hbe : (([] : List UInt8) == []) = true := rfl
          clear hb
          rcases hkinds with e | e | e | e | e | e
          · have ek : h.k = 1 := UInt8.toNat_inj.1 (by rw [e]; rfl)
            have g : (h.k.toNat : Int) = 1 := by rw [e]; rfl
            have HX : Hid (textC (.mk h ks) = [91, 93]) := by unfold Hid; rw [HO.out]; simp [textK, ek]
            clear HO HH HJn ek e
            go_wp2_with fail
            go_ret
            exact ⟨by rw [HX.out]; simp [ret_lit], HBw.out⟩
          · have ek : h.k = 2 := UInt8.toNat_inj.1 (by rw [e]; rfl)
            have g : (h.k.toNat : Int) = 2 := by rw [e]; rfl
            have HX : Hid (textC (.mk h ks) = [] ++ [40, 41]) := by unfold Hid; rw [HO.out]; simp [textK, ek, HH.out]
            have hc1 := run_cat (P := Tryd.prog) [] [40, 41] (by simp; try omega)
            clear HO HH HJn ek e
            go_wp2_with fail
            go_ret
            exact ⟨by rw [HX.out]; simp [ret_lit], HBw.out⟩
          · have ek : h.k = 3 := UInt8.toNat_inj.1 (by rw [e]; rfl)
            have g : (h.k.toNat : Int) = 3 := by rw [e]; rfl
            have HX : Hid (textC (.mk h ks) = [] ++ textS h.s) := by unfold Hid; rw [HO.out]; simp [textK, ek, HH.out]
            have hc1 := run_cat (P := Tryd.prog) [] (textS h.s) (by simp; omega)
            clear HO HH HJn ek e
            go_wp2_with fail
            refine CS.out.mono ?_
            rintro e' w2 ⟨rfl, hb2⟩
            have hbz := below_from HBw.out hb2
            go_wp2_with fail
            go_ret
            exact ⟨by rw [HX.out]; simp [ret_lit], hbz⟩
          · have ek : h.k = 4 := UInt8.toNat_inj.1 (by rw [e]; rfl)
            have g : (h.k.toNat : Int) = 4 := by rw [e]; rfl
            have HX : Hid (textC (.mk h ks) = [] ++ 40 :: (J ++ [41])) := by unfold Hid; rw [HO.out, HJn.out]; simp [textK, HH.out, ek, jn]
            have hc1 := run_cat (P := Tryd.prog) [] [40] (by simp; try omega)
            have hc2 := run_cat (P := Tryd.prog) [40] J (by simp; omega)
            have hc3 := run_cat (P := Tryd.prog) (40 :: J) [41] (by simp; omega)
            clear HO HH HJn ek e
            go_wp2_with fail
            go_ret
            exact ⟨by rw [HX.out]; simp [ret_lit], HBw.out⟩
          · have ek : h.k = 5 := UInt8.toNat_inj.1 (by rw [e]; rfl)
            have g : (h.k.toNat : Int) = 5 := by rw [e]; rfl
            have HX : Hid (textC (.mk h ks) = [] ++ 40 :: (J ++ [41])) := by unfold Hid; rw [HO.out, HJn.out]; simp [textK, HH.out, ek, jn]
            have hc1 := run_cat (P := Tryd.prog) [] [40] (by simp; try omega)
            have hc2 := run_cat (P := Tryd.prog) [40] J (by simp; omega)
            have hc3 := run_cat (P := Tryd.prog) (40 :: J) [41] (by simp; omega)
            clear HO HH HJn ek e
            go_wp2_with fail
            go_ret
            exact ⟨by rw [HX.out]; simp [ret_lit], HBw.out⟩
          · have ek : h.k = 6 := UInt8.toNat_inj.1 (by rw [e]; rfl)
            have g : (h.k.toNat : Int) = 6 := by rw [e]; rfl
            have HX : Hid (textC (.mk h ks) = [] ++ 40 :: (J ++ [41, 42])) := by unfold Hid; rw [HO.out, HJn.out]; simp [textK, HH.out, ek, jn]
            have hc1 := run_cat (P := Tryd.prog) [] [40] (by simp; try omega)
            have hc2 := run_cat (P := Tryd.prog) [40] J (by simp; omega)
            have hc3 := run_cat (P := Tryd.prog) (40 :: J) [41, 42] (by simp; omega)
            clear HO HH HJn ek e
            go_wp2_with fail
            go_ret
            exact ⟨by rw [HX.out]; simp [ret_lit], HBw.out⟩
        · have HH : Hid (headC h.b = 58 :: (y :: (r ++ [58]))) := by unfold Hid headC; rw [hb]; simp
          rw [hb] at x1 hbl
          simp only [List.length_cons] at hbl
          have ha1 := run_cat (P := Tryd.prog) [58] (y :: r) (by simp; omega)
          have ha2 := run_cat (P := Tryd.prog) (58 :: y :: r) [58] (by simp; omega)
          clear hb
          rcases hkinds with e | e | e | e | e | e
          · have ek : h.k = 1 := UInt8.toNat_inj.1 (by rw [e]; rfl)
            have g : (h.k.toNat : Int) = 1 := by rw [e]; rfl
            have HX : Hid (textC (.mk h ks) = [91, 93]) := by unfold Hid; rw [HO.out]; simp [textK, ek]
            clear HO HH HJn ek e
            go_wp2_with fail
            go_ret
            exact ⟨by rw [HX.out]; simp [ret_lit], HBw.out⟩
          · have ek : h.k = 2 := UInt8.toNat_inj.1 (by rw [e]; rfl)
            have g : (h.k.toNat : Int) = 2 := by rw [e]; rfl
            have HX : Hid (textC (.mk h ks) = (58 :: (y :: (r ++ [58]))) ++ [40, 41]) := by unfold Hid; rw [HO.out]; simp [textK, ek, HH.out]
            have hc1 := run_cat (P := Tryd.prog) (58 :: (y :: (r ++ [58]))) [40, 41] (by simp; try omega)
            clear HO HH HJn ek e
            go_wp2_with fail
            go_ret
            exact ⟨by rw [HX.out]; simp [ret_lit], HBw.out⟩
          · have ek : h.k = 3 := UInt8.toNat_inj.1 (by rw [e]; rfl)
            have g : (h.k.toNat : Int) = 3 := by rw [e]; rfl
            have HX : Hid (textC (.mk h ks) = (58 :: (y :: (r ++ [58]))) ++ textS h.s) := by unfold Hid; rw [HO.out]; simp [textK, ek, HH.out]
            have hc1 := run_cat (P := Tryd.prog) (58 :: (y :: (r ++ [58]))) (textS h.s) (by simp; omega)
            clear HO HH HJn ek e
            go_wp2_with fail
            refine CS.out.mono ?_
            rintro e' w2 ⟨rfl, hb2⟩
            have hbz := below_from HBw.out hb2
            go_wp2_with fail
            go_ret
            exact ⟨by rw [HX.out]; simp [ret_lit], hbz⟩
          · have ek : h.k = 4 := UInt8.toNat_inj.1 (by rw [e]; rfl)
            have g : (h.k.toNat : Int) = 4 := by rw [e]; rfl
            have HX : Hid (textC (.mk h ks) = (58 :: (y :: (r ++ [58]))) ++ 40 :: (J ++ [41])) := by unfold Hid; rw [HO.out, HJn.out]; simp [textK, HH.out, ek, jn]
            have hc1 := run_cat (P := Tryd.prog) (58 :: (y :: (r ++ [58]))) [40] (by simp; try omega)
            have hc2 := run_cat (P := Tryd.prog) (58 :: (y :: (r ++ [58, 40]))) J (by simp; omega)
            have hc3 := run_cat (P := Tryd.prog) (58 :: (y :: (r ++ 58 :: 40 :: J))) [41] (by simp; omega)
            clear HO HH HJn ek e
            go_wp2_with fail
            go_ret
            exact ⟨by rw [HX.out]; simp [ret_lit], HBw.out⟩
          · have ek : h.k = 5 := UInt8.toNat_inj.1 (by rw [e]; rfl)
            have g : (h.k.toNat : Int) = 5 := by rw [e]; rfl
            have HX : Hid (textC (.mk h ks) = (58 :: (y :: (r ++ [58]))) ++ 40 :: (J ++ [41])) := by unfold Hid; rw [HO.out, HJn.out]; simp [textK, HH.out, ek, jn]
            have hc1 := run_cat (P := Tryd.prog) (58 :: (y :: (r ++ [58]))) [40] (by simp; try omega)
            have hc2 := run_cat (P := Tryd.prog) (58 :: (y :: (r ++ [58, 40]))) J (by simp; omega)
            have hc3 := run_cat (P := Tryd.prog) (58 :: (y :: (r ++ 58 :: 40 :: J))) [41] (by simp; omega)
            clear HO HH HJn ek e
            go_wp2_with fail
            go_ret
            exact ⟨by rw [HX.out]; simp [ret_lit], HBw.out⟩
          · have ek : h.k = 6 := UInt8.toNat_inj.1 (by rw [e]; rfl)
            have g : (h.k.toNat : Int) = 6 := by rw [e]; rfl
            have HX : Hid (textC (.mk h ks) = (58 :: (y :: (r ++ [58]))) ++ 40 :: (J ++ [41, 42])) := by unfold Hid; rw [HO.out, HJn.out]; simp [textK, HH.out, ek, jn]
            have hc1 := run_cat (P := Tryd.prog) (58 :: (y :: (r ++ [58]))) [40] (by simp; try omega)
            have hc2 := run_cat (P := Tryd.prog) (58 :: (y :: (r ++ [58, 40]))) J (by simp; omega)
            have hc3 := run_cat (P := Tryd.prog) (58 :: (y :: (r ++ 58 :: 40 :: J))) [41, 42] (by simp; omega)
            clear HO HH HJn ek e
            go_wp2_with fail
            go_ret
            exact ⟨by rw [HX.out]; simp [ret_lit], HBw.out⟩
end Go.Proofs.YteoghoaggpbkpaaDoor
