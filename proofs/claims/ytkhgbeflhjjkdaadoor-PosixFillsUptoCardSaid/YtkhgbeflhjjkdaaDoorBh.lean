/- The document's bound on coded expressions. Whether a coded expression may be, as the document has it. -/
import Derived.Test.YtkhgbeflhjjkdaaDoorBa
import Derived.Test.YtkhgbeflhjjkdaaDoorBb
import Derived.Test.YtkhgbeflhjjkdaaDoorBc
import Derived.Test.YtkhgbeflhjjkdaaDoorBd
import Derived.Test.YtkhgbeflhjjkdaaDoorBe
import Derived.Deep.CutRange
namespace Go.Proofs.YtkhgbeflhjjkdaaDoor
open Go.RowKit
set_option linter.unusedVariables false
set_option linter.unusedSimpArgs false

/-- more than m nodes, or bits of 100 in one -/
def greatC (m : Int) (t : Co) : Bool := greatB m t || t.all.any fun x => decide (100 < x.head.b.length)
theorem great_few {m : Nat} {t : Co} (h : greatC m t = false) : t.size ≤ m ∧ ∀ x ∈ t.all, x.head.b.length ≤ 100 := by
  unfold greatC at h
  rw [Bool.or_eq_false_iff] at h
  obtain ⟨h1, h2⟩ := h
  refine ⟨?_, fun x hx => ?_⟩
  · unfold greatB at h1
    have := of_decide_eq_false h1
    omega
  · have := List.any_eq_false.1 h2 x hx
    simpa using this
set_option maxRecDepth 100000 in
set_option maxHeartbeats 4000000 in
theorem cGreat_any {ok : Nat → Prop} (h : CH) (ks : List Co) (A : Option Addr) (c : Nat) (m : Int) (w : World) (hm : T.sizes ks ≤ 900000000) (hc : ks.length ≤ c) (hr : InRow CE ok w ks A 0) :
    Calls Tryd.prog 10 #[coV h A ks.length c, .int .i64 m] w fun e w' => e = .returned (.bool (greatC m (.mk h ks))) ∧ Below w.heap.size w w' := by
  have HG : Hid (greatC m (.mk h ks) = (decide (m < cnt m (T.mk h ks)) || (T.mk h ks).all.any fun x => decide (100 < x.head.b.length))) := by unfold Hid greatC; rw [great_cnt]
  have hbW := below_new (Below.refl w.heap.size w) (.cells (coA h A ks.length c) 27)
  have e1 := new_at1 (w := w) (.cells (coA h A ks.length c) 27)
  have HC := Lib.hid (ccount_upto 1000000000 ok h ks A c m _ (by omega) (Nat.le_refl _) hc (hr.below hbW))
  have HE := Lib.hid e1
  have HB := Lib.hid hbW
  have hall : (T.mk h ks).all.length ≤ 900000001 := by rw [T.all_length]; simp only [T.size]; omega
  have HA := Lib.hid (fun (X : World) (hX : Below w.heap.size w X) => cAll_upto 1000000000 (fun b => ok b ∧ b < w.heap.size) h ks A c X (by omega) (Nat.le_refl _) hc (hr.there.below hX) (fun b hb => Nat.lt_of_lt_of_le hb.2 hX.size))
  clear hbW e1 hr
  generalize cnt m (T.mk h ks) = cn at *
  obtain ⟨L, hL⟩ : ∃ L, (T.mk h ks).all = L := ⟨_, rfl⟩
  rw [hL] at HG hall
  have HLL := Lib.hid hL
  clear hL
  go_enter Tryd.func10, Tryd.ntmps10
  go_wp2_with fail
  refine HC.out.mono ?_
  rintro e w1 ⟨rfl, hb1⟩
  have HE1 := Lib.hid ((hb1.block _ (lt_of_block HE.out)).trans HE.out)
  obtain ⟨x0, x1, x2, x3, x4, x5, x6⟩ := co_at_box HE1.out
  have HB1 := Lib.hid (below_from HB.out hb1)
  clear hb1 HC HE HB
  by_cases hgt : m < cn
  · have HX : Hid (greatC m (.mk h ks) = true) := by unfold Hid; rw [HG.out]; simp [hgt]
    have g : decide (cn > m) = true := by simpa using hgt
    clear hgt HG
    go_wp2_with fail
    go_ret
    exact ⟨by rw [HX.out]; rfl, HB1.out⟩
  · have HX : Hid (greatC m (.mk h ks) = L.any fun x => decide (100 < x.head.b.length)) := by unfold Hid; rw [HG.out]; simp [hgt]
    have g : decide (cn > m) = false := by simpa using hgt
    clear hgt HG
    go_wp2_with fail
    refine (HA.out _ HB1.out).mono ?_
    rintro e w2 ⟨v, rfl, ho, hb2⟩
    rw [HLL.out] at ho
    obtain ⟨A2, c2, rfl, hc2, hr2⟩ := ho.row
    have HB2 := Lib.hid (below_from HB1.out hb2)
    have HR2 := Lib.hid hr2
    clear ho hc2 hr2 hb2 x0 x1 x2 x3 x4 x5 x6 HE1 HA
    go_wp2_with fail
    go_loopw [16] (fun i wr => ∃ (k : Nat), k ≤ L.length ∧ i = .int .i64 (k : Nat) ∧ Hid (∀ (j : Nat) (x : Co), j < k → L[j]? = some x → ¬ 100 < x.head.b.length) ∧ wr = w2) (fun i _ => L.length - (intOf i).toNat)
    case atStart => exact ⟨0, Nat.zero_le _, rfl, fun j x hj => absurd hj (by omega), rfl⟩
    case round =>
      obtain ⟨k, hk, rfl, HN, rfl⟩ := hrel
      by_cases hlt : k < L.length
      · obtain ⟨t, ad, h1, ls, A1, c1, hA, hx, rfl, hc1, hr1, q0, q1, q2, q3, q4, q5, q6⟩ := co_at HR2.out hlt
        subst hA
        by_cases hlong : 100 < h1.b.length
        · have HY : Hid ((L.any fun x => decide (100 < x.head.b.length)) = true) := by
            unfold Hid
            rw [List.any_eq_true]
            exact ⟨_, List.mem_of_getElem? hx, decide_eq_true hlong⟩
          have g2 : decide (((h1.b.length : Nat) : Int) > 100) = true := by simp; omega
          clear hx hr1 q0 q2 q3 q4 q5 q6
          go_wp2_with fail
          go_ret
          exact ⟨by rw [HX.out, HY.out]; rfl, HB2.out⟩
        · have g2 : decide (((h1.b.length : Nat) : Int) > 100) = false := by simp; omega
          have HN2 : Hid (∀ (j : Nat) (x : Co), j < k + 1 → L[j]? = some x → ¬ 100 < x.head.b.length) := fun j x hj hx' => by
            rcases Nat.lt_or_ge j k with hjk | hjk
            · exact HN.out j x hjk hx'
            · obtain rfl : j = k := by omega
              rw [hx] at hx'
              cases hx'
              exact hlong
          clear hx hr1 q0 q2 q3 q4 q5 q6 hlong
          go_wp2_with fail
          go_roundw
          case rel => exact ⟨k + 1, by omega, by go_num, HN2, by trivial⟩
          case measure => simp [intOf]; omega
      · have HY : Hid ((L.any fun x => decide (100 < x.head.b.length)) = false) := by
          unfold Hid
          rw [List.any_eq_false]
          intro x hx
          obtain ⟨j, hj⟩ := List.getElem?_of_mem hx
          have := HN.out j x (by have := (List.getElem?_eq_some_iff.1 hj).1; omega) hj
          simpa using this
        go_wp2_with fail
        go_ret
        exact ⟨by rw [HX.out, HY.out]; rfl, HB2.out⟩
end Go.Proofs.YtkhgbeflhjjkdaaDoor
namespace Go.Proofs.YtkhgbeflhjjkdaaDoor
open Go.RowKit
set_option linter.unusedVariables false
set_option linter.unusedSimpArgs false

mutual
theorem okC_all : ∀ t : Co, okC t = t.all.all fun x => okNodeC x.head x.kids.length
  | .mk h ks => by
    simp only [okC, T.all, List.all_cons, T.head, T.kids, okCL_alls ks]
theorem okCL_alls : ∀ ts : List Co, okCL ts = (T.alls ts).all fun x => okNodeC x.head x.kids.length
  | [] => rfl
  | t :: ts => by
    simp only [okCL, T.alls, List.all_append, okC_all t, okCL_alls ts]
end
def bitOk (c : UInt8) : Bool := c == 48 || c == 49
theorem bits_all (l : List UInt8) : bitsB l = l.all bitOk := rfl
theorem bits_no {s : ByteArray} {k : Nat} (hlt : k < s.size) (h : bitOk (s[k]'hlt) = false) : bitsB s.data.toList = false := by
  rw [bits_all]
  exact all_no (text_at s k hlt) h
theorem bits_yes {s : ByteArray} (h : ∀ (j : Nat) (hj : j < s.size), bitOk (s[j]'hj) = true) : bitsB s.data.toList = true := by
  rw [bits_all]
  refine all_yes fun j t hj ht => ?_
  rw [text_len] at hj
  rw [text_at s j hj] at ht
  cases ht
  exact h j hj
theorem bits_step {s : ByteArray} {k : Nat} {c : UInt8} (hlt : k < s.size) (hc : c = s[k]'hlt) (h : ∀ j, ∀ h : j < s.size, j < k → bitOk (s[j]'h) = true) (hl : bitOk c = true) : Hid (∀ j, ∀ h : j < s.size, j < k + 1 → bitOk (s[j]'h) = true) := fun j hj hjk => by
  rcases Nat.lt_or_ge j k with h1 | h1
  · exact h j hj h1
  · obtain rfl : j = k := by omega
    rw [← hc]; exact hl
set_option maxHeartbeats 1000000 in
theorem refBits_s (s : ByteArray) (w : World) (hs : s.size ≤ 1000000000) :
    Calls Tryd.prog 41 #[.string s] w fun e w' => e = .returned (.bool (bitsB s.data.toList)) ∧ w' = w := by
  go_enter Tryd.func41, Tryd.ntmps41
  go_wp2_with fail
  go_loop [3] (fun i => ∃ k : Nat, k ≤ s.size ∧ i = .int .i64 k ∧ Hid (∀ j, ∀ h : j < s.size, j < k → bitOk (s[j]'h) = true)) (fun i => s.size - (intOf i).toNat)
  case atStart => exact ⟨0, Nat.zero_le _, rfl, fun j h h' => absurd h' (by omega)⟩
  case round =>
    obtain ⟨k, hk, rfl, HT⟩ := hrel
    by_cases hlt : k < s.size
    · obtain ⟨c, hc⟩ : ∃ c : UInt8, c = s[k]'hlt := ⟨_, rfl⟩
      have HC := Lib.hid hc
      have hci : ((s[k]'hlt).toNat : Int) = c.toNat := by rw [hc]
      clear hc
      have hcase : c.toNat = 48 ∨ c.toNat = 49 ∨ (c.toNat ≠ 48 ∧ c.toNat ≠ 49) := by omega
      rcases hcase with h1 | h1 | ⟨h1, h2⟩
      · have c1 : ((c.toNat : Int) == 48) = true := by rw [beq_iff_eq]; omega
        have c2 : ((c.toNat : Int) == 49) = false := by rw [beq_eq_false_iff_ne]; omega
        have c3 : ((c.toNat : Int) != 48) = false := by rw [bne, c1]; rfl
        have c4 : ((c.toNat : Int) != 49) = true := by rw [bne, c2]; rfl
        have hl : Hid (bitOk c = true) := by have : c = 48 := UInt8.toNat_inj.1 h1; subst this; exact Lib.hid rfl
        clear h1
        go_wp2_with fail
        go_round
        case rel => exact ⟨k + 1, by omega, by go_num, bits_step hlt HC.out HT.out hl.out⟩
        case measure => simp [intOf]; omega
      · have c1 : ((c.toNat : Int) == 48) = false := by rw [beq_eq_false_iff_ne]; omega
        have c2 : ((c.toNat : Int) == 49) = true := by rw [beq_iff_eq]; omega
        have c3 : ((c.toNat : Int) != 48) = true := by rw [bne, c1]; rfl
        have c4 : ((c.toNat : Int) != 49) = false := by rw [bne, c2]; rfl
        have hl : Hid (bitOk c = true) := by have : c = 49 := UInt8.toNat_inj.1 h1; subst this; exact Lib.hid rfl
        clear h1
        go_wp2_with fail
        go_round
        case rel => exact ⟨k + 1, by omega, by go_num, bits_step hlt HC.out HT.out hl.out⟩
        case measure => simp [intOf]; omega
      · have c1 : ((c.toNat : Int) == 48) = false := by rw [beq_eq_false_iff_ne]; omega
        have c2 : ((c.toNat : Int) == 49) = false := by rw [beq_eq_false_iff_ne]; omega
        have c3 : ((c.toNat : Int) != 48) = true := by rw [bne, c1]; rfl
        have c4 : ((c.toNat : Int) != 49) = true := by rw [bne, c2]; rfl
        have hl : bitOk c = false := by
          unfold bitOk
          rw [Bool.or_eq_false_iff, beq_eq_false_iff_ne, beq_eq_false_iff_ne]
          exact ⟨fun e => h1 (by rw [e]; rfl), fun e => h2 (by rw [e]; rfl)⟩
        have HN : Hid (bitsB s.data.toList = false) := bits_no hlt (by rw [← HC.out]; exact hl)
        clear h1 h2 hl
        go_wp2_with fail
        go_ret
        exact ⟨by rw [HN.out]; rfl, rfl⟩
    · have HY : Hid (bitsB s.data.toList = true) := bits_yes fun j hj => HT.out j hj (by omega)
      go_wp2_with fail
      go_ret
      exact ⟨by rw [HY.out]; rfl, rfl⟩
theorem refBits_any (l : List UInt8) (w : World) (hs : l.length ≤ 1000000000) :
    Calls Tryd.prog 41 #[.string (str l)] w fun e w' => e = .returned (.bool (bitsB l)) ∧ w' = w := by
  have := refBits_s (str l) w (by rw [str_size]; exact hs)
  simpa using this

set_option maxHeartbeats 16000000 in
theorem refMayC_any {ok : Nat → Prop} (h : CH) (ks : List Co) (A : Option Addr) (c : Nat) (w : World) (hm : T.sizes ks ≤ 900000000) (hc : ks.length ≤ c) (hr : InRow CE ok w ks A 0) (hsh : shortC (.mk h ks)) :
    Calls Tryd.prog 11 #[coV h A ks.length c] w fun e w' => e = .returned (.bool (mayC (.mk h ks))) ∧ Below w.heap.size w w' := by
  have HM : Hid (mayC (.mk h ks) = (((T.mk h ks).all.all fun x => okNodeC x.head x.kids.length) && decide ((T.mk h ks).all.length ≤ 20000))) := by
    unfold Hid mayC
    rw [okC_all, T.all_length]
  have hrn : ∀ o, InRow CE (fun b => ok b ∧ b < w.heap.size) (w.alloc o) ks A 0 := fun o => hr.there.below (below_new (Below.refl _ _) o)
  have hlen : (T.mk h ks).all.length ≤ 1000000000 := by rw [T.all_length]; simp only [T.size]; omega
  have HS : Hid (∀ t ∈ (T.mk h ks).all, t.size ≤ 1000000000) := fun t ht => by
    have := T.all_le _ ht
    simp only [T.size] at this; omega
  have HSh := Lib.hid hsh
  clear hsh
  unfold shortC at HSh
  go_enter Tryd.func11, Tryd.ntmps11
  go_wp2_with fail
  refine (cAll_upto 1000000000 _ h ks A c _ (by omega) (Nat.le_refl _) hc (hrn _) (fun b hb => by have := hb.2; simp; omega)).mono ?_
  rintro e w1 ⟨v1, rfl, ho1, hb1⟩
  have hb2 := below_from (below_new (Below.refl _ _) _) hb1
  clear hb1 hrn hr
  generalize (T.mk h ks).all = l at *
  obtain ⟨A1, c1, rfl, hc1, hr1⟩ := ho1.row
  clear ho1
  generalize (fun b => (ok b ∧ b < w.heap.size) ∨ (Value.slice A1 l.length c1).ownBlock = some b) = ok1 at hr1
  go_wp2_with fail
  go_loopw [4, 5, 10] (fun _ _ i wr => ∃ (k : Nat), k ≤ l.length ∧ i = .int .i64 k ∧ Hid (∀ (j : Nat) (t : Co), j < k → l[j]? = some t → okNodeC t.head t.kids.length = true) ∧ Hid (Below w1.heap.size w1 wr)) (fun _ _ i _ => l.length - (intOf i).toNat)
  case atStart => exact ⟨0, Nat.zero_le _, rfl, fun j t hj => absurd hj (by omega), Lib.hid (Below.refl _ _)⟩
  case round =>
    obtain ⟨k, hk, rfl, HN, HB⟩ := hrel
    by_cases hlt : k < l.length
    · obtain ⟨t, ad, h1, ls, A2, c2, hA, hx, rfl, hc2, hr2, q0, q1, q2, q3, q4, q5, q6⟩ := co_at (hr1.below HB.out) hlt
      subst hA
      have HX := Lib.hid hx
      have hls : ls.length ≤ 1000000000 := by
        have h1 := HS.out _ (List.mem_of_getElem? hx)
        have h2 := T.length_le_sizes ls
        simp only [T.size] at h1; omega
      have CB := Lib.hid (fun X => refBits_any h1.b X (HSh.out _ (List.mem_of_getElem? hx)))
      clear hx hr1 hr2
      have hq := run_eql_zero h1.s
      have HO : Hid (okNodeC h1 ls.length = (bitsB h1.b && if h1.k.toNat = 1 then decide (ls.length = 0) && (decide (h1.s = S4.zero) && (h1.b == []))
          else if h1.k.toNat = 2 then decide (ls.length = 0) && decide (h1.s = S4.zero)
          else if h1.k.toNat = 3 then decide (ls.length = 0) && !decide (h1.s = S4.zero)
          else if h1.k.toNat = 4 then decide (ls.length = 2) && decide (h1.s = S4.zero)
          else if h1.k.toNat = 5 then decide (h1.s = S4.zero)
          else if h1.k.toNat = 6 then decide (ls.length = 1) && decide (h1.s = S4.zero) else false)) := rfl
      have hkb := h1.k.toNat_lt
      generalize hz1 : decide (h1.s = S4.zero) = bz at *
      have HY : Hid (okNodeC h1 ls.length = true → ∀ (j : Nat) (t : Co), j < k + 1 → l[j]? = some t → okNodeC t.head t.kids.length = true) := by
        intro hy j t hj ht
        rcases Nat.lt_or_ge j k with h | h
        · exact HN.out j t h ht
        · have : j = k := by omega
          subst this
          have := HX.out.symm.trans ht
          simp only [Option.some.injEq] at this
          subst this
          exact hy
      have HNo : Hid (okNodeC h1 ls.length = false → mayC (T.mk h ks) = false) := by
        intro hy
        rw [HM.out, all_no HX.out hy, Bool.false_and]
      have hcase : h1.k.toNat = 1 ∨ h1.k.toNat = 2 ∨ h1.k.toNat = 3 ∨ h1.k.toNat = 4 ∨ h1.k.toNat = 5 ∨ h1.k.toNat = 6 ∨ h1.k.toNat = 0 ∨ 6 < h1.k.toNat := by omega
      go_upto_region 6 with fail
      obtain ⟨W, hW⟩ : ∃ W, wr.alloc (.cells (coA h1 A2 ls.length c2) 27) = W := ⟨_, rfl⟩
      rw [show wr.alloc (.cells #[.int .u8 (h1.k.toNat : Int), .string (str h1.b), .int .u64 (h1.s.a.toNat : Int), .int .u64 (h1.s.b.toNat : Int), .int .u64 (h1.s.c.toNat : Int), .int .u64 (h1.s.d.toNat : Int), .slice A2 ls.length c2] 27) = W from hW]
      have E := Lib.hid (show W.heap[wr.heap.size]? = some (.cells (coA h1 A2 ls.length c2) 27 (0, 0)) by rw [← hW]; exact new_at1 _)
      have HBW : Hid (Below w1.heap.size w1 W) := by rw [← hW]; exact below_new HB.out _
      clear hW q0 q1 q2 q3 q4 q5 q6 HX HS HN HSh
      obtain ⟨kk, hkk⟩ : ∃ kk, h1.k.toNat = kk := ⟨_, rfl⟩
      obtain ⟨x0, x1, x2, x3, x4, x5, x6⟩ := co_at_box E.out
      have fx0 := fun q : BelowBy W => BelowBy.cell x0 q
      have fx1 := fun q : BelowBy W => BelowBy.cell x1 q
      have fx2 := fun q : BelowBy W => BelowBy.cell x2 q
      have fx3 := fun q : BelowBy W => BelowBy.cell x3 q
      have fx4 := fun q : BelowBy W => BelowBy.cell x4 q
      have fx5 := fun q : BelowBy W => BelowBy.cell x5 q
      have fx6 := fun q : BelowBy W => BelowBy.cell x6 q
      rw [hkk] at hcase hkb HO fx0
      generalize hm : ls.length = m at *
      rcases hcase with rfl | rfl | rfl | rfl | rfl | rfl | rfl | h6
      · cases bz with
        | false =>
          refine wp_region_below (by kernel_rfl) (by kernel_rfl) (Below.refl _ _) ?_
          repeat (go_big_quiet_step (first
            | (go_at_call 41; (with_reducible exact Calls.below_same (CB.out _)))))
          refine wpQuiet_nil ?_
          intro wq hw1
          have hq1 : Below W.heap.size W wq := by obtain ⟨p, hp⟩ := hw1; rw [hp]; exact p.h
          clear hw1
          have HB2 := Lib.hid (below_from hb2 (below_from HBW.out hq1))
          have HBq := Lib.hid (below_from HBW.out hq1)
          go_wp2_with fail
          go_ret
          exact ⟨by rw [HNo.out (by rw [HO.out]; simp)]; rfl, HB2.out⟩
        | true =>
          obtain ⟨bb, hbb⟩ : ∃ bb, bitsB h1.b = bb := ⟨_, rfl⟩
          rw [hbb] at HO CB
          cases bb with
          | false =>
            refine wp_region_below (by kernel_rfl) (by kernel_rfl) (Below.refl _ _) ?_
            repeat (go_big_quiet_step (first
              | (go_at_call 41; (with_reducible exact Calls.below_same (CB.out _)))))
            refine wpQuiet_nil ?_
            intro wq hw1
            have hq1 : Below W.heap.size W wq := by obtain ⟨p, hp⟩ := hw1; rw [hp]; exact p.h
            clear hw1
            have HB2 := Lib.hid (below_from hb2 (below_from HBW.out hq1))
            have HBq := Lib.hid (below_from HBW.out hq1)
            go_wp2_with fail
            go_ret
            exact ⟨by rw [HNo.out (by rw [HO.out]; simp)]; rfl, HB2.out⟩
          | true =>
            rcases hb1 : h1.b with _ | ⟨y, r⟩
            · rw [hb1] at fx1 HO CB
              refine wp_region_below (by kernel_rfl) (by kernel_rfl) (Below.refl _ _) ?_
              repeat (go_big_quiet_step (first
                | (go_at_call 41; (with_reducible exact Calls.below_same (CB.out _)))))
              refine wpQuiet_nil ?_
              intro wq hw1
              have hq1 : Below W.heap.size W wq := by obtain ⟨p, hp⟩ := hw1; rw [hp]; exact p.h
              clear hw1
              have HB2 := Lib.hid (below_from hb2 (below_from HBW.out hq1))
              have HBq := Lib.hid (below_from HBW.out hq1)
              have e7 := Lib.hid ((hq1.block _ (lt_of_block E.out)).trans E.out)
              clear fx0 fx1 fx2 fx3 fx4 fx5 fx6 x0 x1 x2 x3 x4 x5 x6 hq1
              obtain ⟨x0, x1, x2, x3, x4, x5, x6⟩ := co_at_box e7.out
              rw [hkk] at x0
              have z0 : ∀ o, (wq.alloc o).cell? ⟨wr.heap.size, 0, none⟩ = _ := fun o => (World.cell?_alloc_lt wq o _ (World.block_lt_of_cell? _ _ x0)).trans x0
              have z6 : ∀ o, (wq.alloc o).cell? ⟨wr.heap.size, 6, none⟩ = _ := fun o => (World.cell?_alloc_lt wq o _ (World.block_lt_of_cell? _ _ x6)).trans x6
              by_cases hm0 : m = 0
              · subst hm0
                go_wp2_with fail
                go_region
                go_wp2_with fail
                go_roundw
                case rel => exact ⟨k + 1, by omega, by go_num, HY.out (by rw [HO.out]; simp), Lib.hid (pw_drew (below_new HBq.out _))⟩
                case measure => simp [intOf]; omega
              · have hdot := hm0
                have t1 : ((m : Int) == 0) = false := by simp; omega
                have t2 : ((m : Int) != 0) = true := by simp; omega
                have t3 : decide ((m : Int) = 0) = false := by simp; omega
                go_wp2_with fail
                go_region
                go_wp2_with fail
                go_ret
                exact ⟨by rw [HNo.out (by rw [HO.out]; simp [hm0])]; rfl, below_from hb2 (pw_drew (below_new HBq.out _))⟩
            · rw [hb1] at fx1 HO CB
              refine wp_region_below (by kernel_rfl) (by kernel_rfl) (Below.refl _ _) ?_
              repeat (go_big_quiet_step (first
                | (go_at_call 41; (with_reducible exact Calls.below_same (CB.out _)))))
              refine wpQuiet_nil ?_
              intro wq hw1
              have hq1 : Below W.heap.size W wq := by obtain ⟨p, hp⟩ := hw1; rw [hp]; exact p.h
              clear hw1
              have HB2 := Lib.hid (below_from hb2 (below_from HBW.out hq1))
              have HBq := Lib.hid (below_from HBW.out hq1)
              go_wp2_with fail
              go_ret
              exact ⟨by rw [HNo.out (by rw [HO.out]; simp)]; rfl, HB2.out⟩
      · cases bz with
        | false =>
          refine wp_region_below (by kernel_rfl) (by kernel_rfl) (Below.refl _ _) ?_
          repeat (go_big_quiet_step (first
            | (go_at_call 41; (with_reducible exact Calls.below_same (CB.out _)))))
          refine wpQuiet_nil ?_
          intro wq hw1
          have hq1 : Below W.heap.size W wq := by obtain ⟨p, hp⟩ := hw1; rw [hp]; exact p.h
          clear hw1
          have HB2 := Lib.hid (below_from hb2 (below_from HBW.out hq1))
          have HBq := Lib.hid (below_from HBW.out hq1)
          go_wp2_with fail
          go_ret
          exact ⟨by rw [HNo.out (by rw [HO.out]; simp)]; rfl, HB2.out⟩
        | true =>
          obtain ⟨bb, hbb⟩ : ∃ bb, bitsB h1.b = bb := ⟨_, rfl⟩
          rw [hbb] at HO CB
          cases bb with
          | false =>
            refine wp_region_below (by kernel_rfl) (by kernel_rfl) (Below.refl _ _) ?_
            repeat (go_big_quiet_step (first
              | (go_at_call 41; (with_reducible exact Calls.below_same (CB.out _)))))
            refine wpQuiet_nil ?_
            intro wq hw1
            have hq1 : Below W.heap.size W wq := by obtain ⟨p, hp⟩ := hw1; rw [hp]; exact p.h
            clear hw1
            have HB2 := Lib.hid (below_from hb2 (below_from HBW.out hq1))
            have HBq := Lib.hid (below_from HBW.out hq1)
            go_wp2_with fail
            go_ret
            exact ⟨by rw [HNo.out (by rw [HO.out]; simp)]; rfl, HB2.out⟩
          | true =>
            refine wp_region_below (by kernel_rfl) (by kernel_rfl) (Below.refl _ _) ?_
            repeat (go_big_quiet_step (first
              | (go_at_call 41; (with_reducible exact Calls.below_same (CB.out _)))))
            refine wpQuiet_nil ?_
            intro wq hw1
            have hq1 : Below W.heap.size W wq := by obtain ⟨p, hp⟩ := hw1; rw [hp]; exact p.h
            clear hw1
            have HB2 := Lib.hid (below_from hb2 (below_from HBW.out hq1))
            have HBq := Lib.hid (below_from HBW.out hq1)
            have e7 := Lib.hid ((hq1.block _ (lt_of_block E.out)).trans E.out)
            clear fx0 fx1 fx2 fx3 fx4 fx5 fx6 x0 x1 x2 x3 x4 x5 x6 hq1
            obtain ⟨x0, x1, x2, x3, x4, x5, x6⟩ := co_at_box e7.out
            rw [hkk] at x0
            have z0 : ∀ o, (wq.alloc o).cell? ⟨wr.heap.size, 0, none⟩ = _ := fun o => (World.cell?_alloc_lt wq o _ (World.block_lt_of_cell? _ _ x0)).trans x0
            have z6 : ∀ o, (wq.alloc o).cell? ⟨wr.heap.size, 6, none⟩ = _ := fun o => (World.cell?_alloc_lt wq o _ (World.block_lt_of_cell? _ _ x6)).trans x6
            by_cases hm0 : m = 0
            · subst hm0
              go_wp2_with fail
              go_region
              go_wp2_with fail
              go_roundw
              case rel => exact ⟨k + 1, by omega, by go_num, HY.out (by rw [HO.out]; simp), Lib.hid (pw_drew (below_new HBq.out _))⟩
              case measure => simp [intOf]; omega
            · have hdot := hm0
              have t1 : ((m : Int) == 0) = false := by simp; omega
              have t2 : ((m : Int) != 0) = true := by simp; omega
              have t3 : decide ((m : Int) = 0) = false := by simp; omega
              go_wp2_with fail
              go_region
              go_wp2_with fail
              go_ret
              exact ⟨by rw [HNo.out (by rw [HO.out]; simp [hm0])]; rfl, below_from hb2 (pw_drew (below_new HBq.out _))⟩
      · cases bz with
        | true =>
          refine wp_region_below (by kernel_rfl) (by kernel_rfl) (Below.refl _ _) ?_
          repeat (go_big_quiet_step (first
            | (go_at_call 41; (with_reducible exact Calls.below_same (CB.out _)))))
          refine wpQuiet_nil ?_
          intro wq hw1
          have hq1 : Below W.heap.size W wq := by obtain ⟨p, hp⟩ := hw1; rw [hp]; exact p.h
          clear hw1
          have HB2 := Lib.hid (below_from hb2 (below_from HBW.out hq1))
          have HBq := Lib.hid (below_from HBW.out hq1)
          go_wp2_with fail
          go_ret
          exact ⟨by rw [HNo.out (by rw [HO.out]; simp)]; rfl, HB2.out⟩
        | false =>
          obtain ⟨bb, hbb⟩ : ∃ bb, bitsB h1.b = bb := ⟨_, rfl⟩
          rw [hbb] at HO CB
          cases bb with
          | false =>
            refine wp_region_below (by kernel_rfl) (by kernel_rfl) (Below.refl _ _) ?_
            repeat (go_big_quiet_step (first
              | (go_at_call 41; (with_reducible exact Calls.below_same (CB.out _)))))
            refine wpQuiet_nil ?_
            intro wq hw1
            have hq1 : Below W.heap.size W wq := by obtain ⟨p, hp⟩ := hw1; rw [hp]; exact p.h
            clear hw1
            have HB2 := Lib.hid (below_from hb2 (below_from HBW.out hq1))
            have HBq := Lib.hid (below_from HBW.out hq1)
            go_wp2_with fail
            go_ret
            exact ⟨by rw [HNo.out (by rw [HO.out]; simp)]; rfl, HB2.out⟩
          | true =>
            refine wp_region_below (by kernel_rfl) (by kernel_rfl) (Below.refl _ _) ?_
            repeat (go_big_quiet_step (first
              | (go_at_call 41; (with_reducible exact Calls.below_same (CB.out _)))))
            refine wpQuiet_nil ?_
            intro wq hw1
            have hq1 : Below W.heap.size W wq := by obtain ⟨p, hp⟩ := hw1; rw [hp]; exact p.h
            clear hw1
            have HB2 := Lib.hid (below_from hb2 (below_from HBW.out hq1))
            have HBq := Lib.hid (below_from HBW.out hq1)
            have e7 := Lib.hid ((hq1.block _ (lt_of_block E.out)).trans E.out)
            clear fx0 fx1 fx2 fx3 fx4 fx5 fx6 x0 x1 x2 x3 x4 x5 x6 hq1
            obtain ⟨x0, x1, x2, x3, x4, x5, x6⟩ := co_at_box e7.out
            rw [hkk] at x0
            have z0 : ∀ o, (wq.alloc o).cell? ⟨wr.heap.size, 0, none⟩ = _ := fun o => (World.cell?_alloc_lt wq o _ (World.block_lt_of_cell? _ _ x0)).trans x0
            have z6 : ∀ o, (wq.alloc o).cell? ⟨wr.heap.size, 6, none⟩ = _ := fun o => (World.cell?_alloc_lt wq o _ (World.block_lt_of_cell? _ _ x6)).trans x6
            by_cases hm0 : m = 0
            · subst hm0
              go_wp2_with fail
              go_region
              go_wp2_with fail
              go_roundw
              case rel => exact ⟨k + 1, by omega, by go_num, HY.out (by rw [HO.out]; simp), Lib.hid (pw_drew (below_new HBq.out _))⟩
              case measure => simp [intOf]; omega
            · have hdot := hm0
              have t1 : ((m : Int) == 0) = false := by simp; omega
              have t2 : ((m : Int) != 0) = true := by simp; omega
              have t3 : decide ((m : Int) = 0) = false := by simp; omega
              go_wp2_with fail
              go_region
              go_wp2_with fail
              go_ret
              exact ⟨by rw [HNo.out (by rw [HO.out]; simp [hm0])]; rfl, below_from hb2 (pw_drew (below_new HBq.out _))⟩
      · cases bz with
        | false =>
          refine wp_region_below (by kernel_rfl) (by kernel_rfl) (Below.refl _ _) ?_
          repeat (go_big_quiet_step (first
            | (go_at_call 41; (with_reducible exact Calls.below_same (CB.out _)))))
          refine wpQuiet_nil ?_
          intro wq hw1
          have hq1 : Below W.heap.size W wq := by obtain ⟨p, hp⟩ := hw1; rw [hp]; exact p.h
          clear hw1
          have HB2 := Lib.hid (below_from hb2 (below_from HBW.out hq1))
          have HBq := Lib.hid (below_from HBW.out hq1)
          go_wp2_with fail
          go_ret
          exact ⟨by rw [HNo.out (by rw [HO.out]; simp)]; rfl, HB2.out⟩
        | true =>
          obtain ⟨bb, hbb⟩ : ∃ bb, bitsB h1.b = bb := ⟨_, rfl⟩
          rw [hbb] at HO CB
          cases bb with
          | false =>
            refine wp_region_below (by kernel_rfl) (by kernel_rfl) (Below.refl _ _) ?_
            repeat (go_big_quiet_step (first
              | (go_at_call 41; (with_reducible exact Calls.below_same (CB.out _)))))
            refine wpQuiet_nil ?_
            intro wq hw1
            have hq1 : Below W.heap.size W wq := by obtain ⟨p, hp⟩ := hw1; rw [hp]; exact p.h
            clear hw1
            have HB2 := Lib.hid (below_from hb2 (below_from HBW.out hq1))
            have HBq := Lib.hid (below_from HBW.out hq1)
            go_wp2_with fail
            go_ret
            exact ⟨by rw [HNo.out (by rw [HO.out]; simp)]; rfl, HB2.out⟩
          | true =>
            refine wp_region_below (by kernel_rfl) (by kernel_rfl) (Below.refl _ _) ?_
            repeat (go_big_quiet_step (first
              | (go_at_call 41; (with_reducible exact Calls.below_same (CB.out _)))))
            refine wpQuiet_nil ?_
            intro wq hw1
            have hq1 : Below W.heap.size W wq := by obtain ⟨p, hp⟩ := hw1; rw [hp]; exact p.h
            clear hw1
            have HB2 := Lib.hid (below_from hb2 (below_from HBW.out hq1))
            have HBq := Lib.hid (below_from HBW.out hq1)
            have e7 := Lib.hid ((hq1.block _ (lt_of_block E.out)).trans E.out)
            clear fx0 fx1 fx2 fx3 fx4 fx5 fx6 x0 x1 x2 x3 x4 x5 x6 hq1
            obtain ⟨x0, x1, x2, x3, x4, x5, x6⟩ := co_at_box e7.out
            rw [hkk] at x0
            have z0 : ∀ o, (wq.alloc o).cell? ⟨wr.heap.size, 0, none⟩ = _ := fun o => (World.cell?_alloc_lt wq o _ (World.block_lt_of_cell? _ _ x0)).trans x0
            have z6 : ∀ o, (wq.alloc o).cell? ⟨wr.heap.size, 6, none⟩ = _ := fun o => (World.cell?_alloc_lt wq o _ (World.block_lt_of_cell? _ _ x6)).trans x6
            by_cases hm0 : m = 2
            · subst hm0
              go_wp2_with fail
              go_region
              go_wp2_with fail
              go_roundw
              case rel => exact ⟨k + 1, by omega, by go_num, HY.out (by rw [HO.out]; simp), Lib.hid (pw_drew (below_new HBq.out _))⟩
              case measure => simp [intOf]; omega
            · have hdot := hm0
              have t1 : ((m : Int) == 2) = false := by simp; omega
              have t2 : ((m : Int) != 2) = true := by simp; omega
              have t3 : decide ((m : Int) = 2) = false := by simp; omega
              go_wp2_with fail
              go_region
              go_wp2_with fail
              go_ret
              exact ⟨by rw [HNo.out (by rw [HO.out]; simp [hm0])]; rfl, below_from hb2 (pw_drew (below_new HBq.out _))⟩
      · cases bz with
        | false =>
          refine wp_region_below (by kernel_rfl) (by kernel_rfl) (Below.refl _ _) ?_
          repeat (go_big_quiet_step (first
            | (go_at_call 41; (with_reducible exact Calls.below_same (CB.out _)))))
          refine wpQuiet_nil ?_
          intro wq hw1
          have hq1 : Below W.heap.size W wq := by obtain ⟨p, hp⟩ := hw1; rw [hp]; exact p.h
          clear hw1
          have HB2 := Lib.hid (below_from hb2 (below_from HBW.out hq1))
          have HBq := Lib.hid (below_from HBW.out hq1)
          go_wp2_with fail
          go_ret
          exact ⟨by rw [HNo.out (by rw [HO.out]; simp)]; rfl, HB2.out⟩
        | true =>
          obtain ⟨bb, hbb⟩ : ∃ bb, bitsB h1.b = bb := ⟨_, rfl⟩
          rw [hbb] at HO CB
          cases bb with
          | false =>
            refine wp_region_below (by kernel_rfl) (by kernel_rfl) (Below.refl _ _) ?_
            repeat (go_big_quiet_step (first
              | (go_at_call 41; (with_reducible exact Calls.below_same (CB.out _)))))
            refine wpQuiet_nil ?_
            intro wq hw1
            have hq1 : Below W.heap.size W wq := by obtain ⟨p, hp⟩ := hw1; rw [hp]; exact p.h
            clear hw1
            have HB2 := Lib.hid (below_from hb2 (below_from HBW.out hq1))
            have HBq := Lib.hid (below_from HBW.out hq1)
            go_wp2_with fail
            go_ret
            exact ⟨by rw [HNo.out (by rw [HO.out]; simp)]; rfl, HB2.out⟩
          | true =>
            refine wp_region_below (by kernel_rfl) (by kernel_rfl) (Below.refl _ _) ?_
            repeat (go_big_quiet_step (first
              | (go_at_call 41; (with_reducible exact Calls.below_same (CB.out _)))))
            refine wpQuiet_nil ?_
            intro wq hw1
            have hq1 : Below W.heap.size W wq := by obtain ⟨p, hp⟩ := hw1; rw [hp]; exact p.h
            clear hw1
            have HB2 := Lib.hid (below_from hb2 (below_from HBW.out hq1))
            have HBq := Lib.hid (below_from HBW.out hq1)
            have e7 := Lib.hid ((hq1.block _ (lt_of_block E.out)).trans E.out)
            clear fx0 fx1 fx2 fx3 fx4 fx5 fx6 x0 x1 x2 x3 x4 x5 x6 hq1
            obtain ⟨x0, x1, x2, x3, x4, x5, x6⟩ := co_at_box e7.out
            rw [hkk] at x0
            go_wp2_with fail
            go_region
            go_wp2_with fail
            go_roundw
            case rel => exact ⟨k + 1, by omega, by go_num, HY.out (by rw [HO.out]; simp), Lib.hid (pw_drew HBq.out)⟩
            case measure => simp [intOf]; omega
      · cases bz with
        | false =>
          refine wp_region_below (by kernel_rfl) (by kernel_rfl) (Below.refl _ _) ?_
          repeat (go_big_quiet_step (first
            | (go_at_call 41; (with_reducible exact Calls.below_same (CB.out _)))))
          refine wpQuiet_nil ?_
          intro wq hw1
          have hq1 : Below W.heap.size W wq := by obtain ⟨p, hp⟩ := hw1; rw [hp]; exact p.h
          clear hw1
          have HB2 := Lib.hid (below_from hb2 (below_from HBW.out hq1))
          have HBq := Lib.hid (below_from HBW.out hq1)
          go_wp2_with fail
          go_ret
          exact ⟨by rw [HNo.out (by rw [HO.out]; simp)]; rfl, HB2.out⟩
        | true =>
          obtain ⟨bb, hbb⟩ : ∃ bb, bitsB h1.b = bb := ⟨_, rfl⟩
          rw [hbb] at HO CB
          cases bb with
          | false =>
            refine wp_region_below (by kernel_rfl) (by kernel_rfl) (Below.refl _ _) ?_
            repeat (go_big_quiet_step (first
              | (go_at_call 41; (with_reducible exact Calls.below_same (CB.out _)))))
            refine wpQuiet_nil ?_
            intro wq hw1
            have hq1 : Below W.heap.size W wq := by obtain ⟨p, hp⟩ := hw1; rw [hp]; exact p.h
            clear hw1
            have HB2 := Lib.hid (below_from hb2 (below_from HBW.out hq1))
            have HBq := Lib.hid (below_from HBW.out hq1)
            go_wp2_with fail
            go_ret
            exact ⟨by rw [HNo.out (by rw [HO.out]; simp)]; rfl, HB2.out⟩
          | true =>
            refine wp_region_below (by kernel_rfl) (by kernel_rfl) (Below.refl _ _) ?_
            repeat (go_big_quiet_step (first
              | (go_at_call 41; (with_reducible exact Calls.below_same (CB.out _)))))
            refine wpQuiet_nil ?_
            intro wq hw1
            have hq1 : Below W.heap.size W wq := by obtain ⟨p, hp⟩ := hw1; rw [hp]; exact p.h
            clear hw1
            have HB2 := Lib.hid (below_from hb2 (below_from HBW.out hq1))
            have HBq := Lib.hid (below_from HBW.out hq1)
            have e7 := Lib.hid ((hq1.block _ (lt_of_block E.out)).trans E.out)
            clear fx0 fx1 fx2 fx3 fx4 fx5 fx6 x0 x1 x2 x3 x4 x5 x6 hq1
            obtain ⟨x0, x1, x2, x3, x4, x5, x6⟩ := co_at_box e7.out
            rw [hkk] at x0
            have z0 : ∀ o, (wq.alloc o).cell? ⟨wr.heap.size, 0, none⟩ = _ := fun o => (World.cell?_alloc_lt wq o _ (World.block_lt_of_cell? _ _ x0)).trans x0
            have z6 : ∀ o, (wq.alloc o).cell? ⟨wr.heap.size, 6, none⟩ = _ := fun o => (World.cell?_alloc_lt wq o _ (World.block_lt_of_cell? _ _ x6)).trans x6
            by_cases hm0 : m = 1
            · subst hm0
              go_wp2_with fail
              go_region
              go_wp2_with fail
              go_roundw
              case rel => exact ⟨k + 1, by omega, by go_num, HY.out (by rw [HO.out]; simp), Lib.hid (pw_drew (below_new HBq.out _))⟩
              case measure => simp [intOf]; omega
            · have hdot := hm0
              have t1 : ((m : Int) == 1) = false := by simp; omega
              have t2 : ((m : Int) != 1) = true := by simp; omega
              have t3 : decide ((m : Int) = 1) = false := by simp; omega
              go_wp2_with fail
              go_region
              go_wp2_with fail
              go_ret
              exact ⟨by rw [HNo.out (by rw [HO.out]; simp [hm0])]; rfl, below_from hb2 (pw_drew (below_new HBq.out _))⟩
      · have hdot := hkb
        refine wp_region_below (by kernel_rfl) (by kernel_rfl) (Below.refl _ _) ?_
        repeat (go_big_quiet_step (first
          | (go_at_call 41; (with_reducible exact Calls.below_same (CB.out _)))))
        refine wpQuiet_nil ?_
        intro wq hw1
        have hq1 : Below W.heap.size W wq := by obtain ⟨p, hp⟩ := hw1; rw [hp]; exact p.h
        clear hw1
        have HB2 := Lib.hid (below_from hb2 (below_from HBW.out hq1))
        have HBq := Lib.hid (below_from HBW.out hq1)
        go_wp2_with fail
        go_ret
        exact ⟨by rw [HNo.out (by rw [HO.out]; simp)]; rfl, HB2.out⟩
      · have hdot := hkb
        have g1 : decide ((kk : Int) < 1) = false := by simp; omega
        have g2 : decide ((kk : Int) > 6) = true := by simp; omega
        have g3 : decide (6 < (kk : Int)) = true := by simp; omega
        refine wp_region_below (by kernel_rfl) (by kernel_rfl) (Below.refl _ _) ?_
        repeat (go_big_quiet_step (first
          | (go_at_call 41; (with_reducible exact Calls.below_same (CB.out _)))))
        refine wpQuiet_nil ?_
        intro wq hw1
        have hq1 : Below W.heap.size W wq := by obtain ⟨p, hp⟩ := hw1; rw [hp]; exact p.h
        clear hw1
        have HB2 := Lib.hid (below_from hb2 (below_from HBW.out hq1))
        have HBq := Lib.hid (below_from HBW.out hq1)
        go_wp2_with fail
        go_ret
        exact ⟨by rw [HNo.out (by rw [HO.out]; rw [if_neg (by omega), if_neg (by omega), if_neg (by omega), if_neg (by omega), if_neg (by omega), if_neg (by omega), Bool.and_false])]; rfl, HB2.out⟩
    · have he : k = l.length := by omega
      subst he
      have HA : Hid (l.all (fun x => okNodeC x.head x.kids.length) = true) := all_yes HN.out
      have g1 : decide ((l.length : Int) < (l.length : Int)) = false := by simp
      go_wp2_with fail
      go_ret
      exact ⟨by rw [HM.out, HA.out, Bool.true_and]; simp; omega, below_from hb2 HB.out⟩
end Go.Proofs.YtkhgbeflhjjkdaaDoor
