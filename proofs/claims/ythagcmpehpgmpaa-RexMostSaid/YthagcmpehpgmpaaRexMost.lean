/- MaxNodes nodes may be, and not one more. For every input. -/
import Derived.Test.YthagcmpehpgmpaaAwake3
import Derived.Test.YthagcmpehpgmpaaBytes
import Derived.Test.YthagcmpehpgmpaaClose
import Derived.WalkKit
import Derived.OpenShut
namespace Go.Proofs.Ythagcmpehpgmpaa
open Go.RowKit
set_option linter.unusedVariables false
set_option linter.unusedSimpArgs false

theorem Try.info_byte : (Try.prog.info? 5).map (fun i => (i.zero, i.size, i.bytes)) = some (some (.int .u8 0), 1, 1) := by kernel_rfl
/-- that many 'a's -/
def manyA (n : Nat) : List UInt8 := List.replicate n 97
theorem manyA_succ (n : Nat) : manyA (n + 1) = manyA n ++ [97] := by unfold manyA; rw [List.replicate_succ']
theorem manyA_length (n : Nat) : (manyA n).length = n := by simp [manyA]
theorem foldT_size (kd nn : UInt8) : ∀ (t : Re) (ts : List Re), (foldT kd nn (t :: ts)).size = T.sizes (t :: ts) + ts.length
  | t, [] => by simp [foldT, T.sizes]
  | t, u :: ts => by
    have := foldT_size kd nn u ts
    simp only [foldT, T.size, T.sizes, List.length_cons] at this ⊢
    omega
theorem leaves_sizes (l : List UInt8) : T.sizes (wordL l) = l.length := by
  induction l with
  | nil => rfl
  | cons b l ih =>
    simp only [wordL, List.map_cons, T.sizes, leaf, T.size, List.length_cons] at ih ⊢
    omega
theorem leafA_ok : okT (leaf 97) = true := by kernel_rfl
theorem okT_two (a b : Re) : okT (.mk ⟨4, S4.zero⟩ [a, b]) = (okT a && okT b) := by
  simp only [okT, okL, Bool.and_true]
  rw [show okNode ⟨4, S4.zero⟩ [a, b].length = true by simp [okNode]]
  simp
theorem okT_many (a : Re) : okT (.mk ⟨6, S4.zero⟩ [a]) = okT a := by
  simp only [okT, okL, Bool.and_true]
  rw [show okNode ⟨6, S4.zero⟩ [a].length = true by simp [okNode]]
  simp
theorem fold_ok : ∀ n : Nat, okT (foldT 4 2 (wordL (manyA (n + 1)))) = true
  | 0 => leafA_ok
  | n + 1 => by
    have := fold_ok n
    simp only [manyA, wordL, List.replicate_succ, List.map_cons, foldT] at this ⊢
    rw [okT_two, leafA_ok, this]
    rfl
theorem most_size (n : Nat) (h : 1 ≤ n) : (foldT 4 2 (wordL (manyA n))).size = 2 * n - 1 := by
  obtain ⟨m, rfl⟩ : ∃ m, n = m + 1 := ⟨n - 1, by omega⟩
  have e : wordL (manyA (m + 1)) = leaf 97 :: wordL (manyA m) := by simp [manyA, wordL, List.replicate_succ]
  rw [e, foldT_size, ← e, leaves_sizes, manyA_length, wordL_length, manyA_length]
  omega

set_option maxHeartbeats 4000000 in
theorem rexMost_walk (a : Int) (h0 : 0 ≤ a ∧ a ≤ 255) (w : World) :
    Calls Try.prog 6 #[.int .u8 a] w fun e w' => e = .returned (.bool true) ∧ Below w.heap.size w w' := by
  obtain ⟨r, hr⟩ : ∃ r : Nat, a.tmod 8 = (r : Int) ∧ r < 8 := ⟨(a.tmod 8).toNat, by rw [Int.tmod_eq_emod_of_nonneg h0.1]; omega, by rw [Int.tmod_eq_emod_of_nonneg h0.1]; omega⟩
  obtain ⟨hr, hr8⟩ := hr
  go_enter Try.func6, Try.ntmps6
  go_wp2_with fail
  have hown : (w.alloc (.cells #[] 5)).ownsRow w.heap.size 5 1 (.slice (some ⟨w.heap.size, 0, none⟩) 0 0) 0 ((manyA 0).map encB) := World.ownsRow_lit w #[] 0 (Nat.le_refl _) (by decide) rfl
  have hb0 : Below w.heap.size w (w.alloc (.cells #[] 5)) := below_new (Below.refl _ _) _
  go_loopw [4, 5] (fun o i wr => ∃ k : Nat, k ≤ 995 + r ∧ i = .int .i64 k ∧ wr.ownsRow w.heap.size 5 1 o k ((manyA k).map encB) ∧ Below w.heap.size w wr) (fun _ i _ => 995 + r - (intOf i).toNat)
  case atStart => exact ⟨0, Nat.zero_le _, rfl, hown, hb0⟩
  case round =>
    clear hown hb0
    obtain ⟨k, hk, rfl, ho, hb⟩ := hrel
    obtain ⟨A2, c2, rfl, _, hs2⟩ := own_slice ho
    by_cases hlt : k < 995 + r
    · have g : decide ((k : Int) < 995 + (r : Int)) = true := by simp; omega
      have HS := Lib.hid (manyA_succ k)
      have hsrc := new_src wr 1 1 #[.int .u8 97] 5 rfl
      go_wp2_with (at_builtin; refine wpList_app _ rfl (.tmp 17) (.tmp 18) 27 rfl w.heap.size 5 (.int .u8 0) 1 1 Try.underlying27 Try.info_byte rfl (by decide) (.slice A2 k c2) k _ rfl (ho.alloc _) (some ⟨wr.heap.size, 0, none⟩) 1 1 _ rfl hsrc ?h1 ?h2 ?h3 ?h4 ?_)
      case h1 => rfl
      case h2 => unfold maxLen; omega
      case h3 => omega
      case h4 => have := hb.size; simp; omega
      intro v3 w3 ho3 hg3 _
      have hb3 : Below w.heap.size w w3 := (below_new hb _).grown hg3 (by have := hb.size; simp; omega) (fun j hj => own_base ho j hj)
      clear hg3 ho hb
      go_wp2_with fail
      go_roundw
      case rel => exact ⟨k + 1, by omega, by go_num, by rw [HS.out, List.map_append]; exact ho3, hb3⟩
      case measure => simp [intOf]; omega
    · have hkk : k = 995 + r := by omega
      have g : decide ((k : Int) < 995 + (r : Int)) = false := by simp; omega
      have hcv := conv_bytes (P := Try.prog) (w := wr) (dst := 9) Try.underlying27 Try.underlying5 Try.underlying9 k c2 (manyA_length k) hs2.row1
      have hsz : (str (manyA k)).size = k := by rw [str_size, manyA_length]
      have hW := rexWord_any (str (manyA k)) wr (by rw [hsz]; omega)
      rw [show (str (manyA k)).data.toList = manyA k by simp] at hW
      have hks := most_size k (by omega)
      have hok : okT (foldT 4 2 (wordL (manyA k))) = true := by
        obtain ⟨m, rfl⟩ : ∃ m, k = m + 1 := ⟨k - 1, by omega⟩
        exact fold_ok m
      generalize foldT 4 2 (wordL (manyA k)) = t at *
      generalize str (manyA k) = s at *
      have HN : Hid (k = 995 + r) := hkk
      clear hlt hk hs2 ho hsz hkk
      go_wp2_with fail
      refine hW.mono ?_
      rintro e w1 ⟨v, rfl, ⟨h, ks, A, c, rfl, hc, rfl, hr1⟩, hb1⟩
      have hb2 := below_from hb hb1
      have HR : Hid (∀ W, Below w1.heap.size w1 W → InRow RE (fun _ => True) W ks A 0) := fun W hb => (hr1.weak fun _ _ => trivial).below hb
      have HC := Lib.hid hc
      have hk := HN.out
      -- what the expressions are
      have hz1 : T.sizes [T.mk h ks] = 2 * (995 + r) - 1 := by simp only [T.sizes, hks]; omega
      obtain ⟨m, hmz⟩ : ∃ m, T.sizes [T.mk h ks] = m := ⟨_, rfl⟩
      have gs : ((m : Int) == 2 * (995 + (r : Int)) - 1) = true := by simp; omega
      have hm1 : m ≤ 3000 := by omega
      obtain ⟨b1, hb1'⟩ : ∃ b1, decide (995 + r ≤ 1000) = b1 := ⟨_, rfl⟩
      obtain ⟨b3, hb3'⟩ : ∃ b3, decide (995 + r < 1000) = b3 := ⟨_, rfl⟩
      have g1 : decide (995 + (r : Int) ≤ 1000) = b1 := by rw [← hb1', Bool.eq_iff_iff]; simp; omega
      have g3 : decide (995 + (r : Int) < 1000) = b3 := by rw [← hb3', Bool.eq_iff_iff]; simp; omega
      have M1 : Hid ([T.mk h ks].all mayB = b1) := by
        unfold Hid
        rw [← hb1', List.all_cons, List.all_nil, Bool.and_true, mayB, hok, hks, Bool.true_and, Bool.eq_iff_iff]; simp; omega
      have M2 : Hid (([T.mk ⟨6, S4.zero⟩ [T.mk h ks]].all mayB) = b1) := by
        unfold Hid
        rw [← hb1', List.all_cons, List.all_nil, Bool.and_true, mayB, okT_many, hok, T.size, T.sizes, T.sizes, hks, Bool.true_and, Bool.eq_iff_iff]; simp; omega
      have M3 : Hid (([T.mk ⟨6, S4.zero⟩ [T.mk ⟨6, S4.zero⟩ [T.mk h ks]]].all mayB) = b3) := by
        unfold Hid
        rw [← hb3', List.all_cons, List.all_nil, Bool.and_true, mayB, okT_many, okT_many, hok, T.size, T.sizes, T.sizes, T.size, T.sizes, T.sizes, hks, Bool.true_and, Bool.eq_iff_iff]; simp; omega
      have Z2 : Hid (T.sizes [T.mk ⟨6, S4.zero⟩ [T.mk h ks]] ≤ 900000000) := by
        unfold Hid
        simp only [T.sizes, T.size] at hmz ⊢; omega
      have Z3 : Hid (T.sizes [T.mk ⟨6, S4.zero⟩ [T.mk ⟨6, S4.zero⟩ [T.mk h ks]]] ≤ 900000000) := by
        unfold Hid
        simp only [T.sizes, T.size] at hmz ⊢; omega
      have HMZ := Lib.hid hmz
      have hbb1 : (b1 == b1) = true := by simp
      have hbb3 : (b3 == b3) = true := by simp
      clear hb hb1 hr1 hc hks hok hW hcv hz1 hmz hb1' hb3' hk
      have e1 := new_at (w := w1) (.cells (reA h A ks.length c) 43) rfl
      have E1 := Lib.hid e1
      have F1 : Hid (∀ W, Below (w1.alloc (.cells (reA h A ks.length c) 43)).heap.size (w1.alloc (.cells (reA h A ks.length c) 43)) W → Below w1.heap.size w1 W ∧ W.heap[w1.heap.size]? = some (.cells (reA h A ks.length c) 43 (0, 0))) :=
        fun W hW => ⟨below_from (below_new (Below.refl _ _) _) hW, (hW.block _ (lt_of_block e1)).trans e1⟩
      clear e1
      go_wp2_with fail
      have hrow := row_one (P := fun b => True) (new_at (w := w1.alloc (.cells (reA h A ks.length c) 43)) (.cells (reA h A ks.length c) 43) (n := w1.heap.size + 1) (by simp)) trivial HC.out (HR.out _ (F1.out _ (below_new (Below.refl _ _) _)).1)
      have hS := Size_upto 3000 (fun _ => True) [T.mk h ks] (some ⟨w1.heap.size + 1, 0, none⟩) 1 _ (by rw [HMZ.out]; exact hm1) (by decide) hrow
      rw [HMZ.out] at hS
      refine hS.mono ?_
      rintro e w3 ⟨rfl, hb3⟩
      have hb4 := below_from (below_new (Below.refl _ _) _) hb3
      obtain ⟨hb5, E3'⟩ := F1.out _ hb4
      have E3 := Lib.hid E3'
      obtain ⟨⟨x0, x1, x2, x3, x4, x5⟩, f0, f1, f2, f3, f4, f5⟩ := re_cells E3.out
      clear hS hrow hb3 E3' f0 f1 f2 f3 f4 f5 E1
      -- May
      go_wp2_with fail
      have hrow := row_one (P := fun b => True) (new_at (w := w3) (.cells (reA h A ks.length c) 43) rfl) trivial HC.out (HR.out _ (below_new hb5 _))
      have hM := May_any [T.mk h ks] (some ⟨w3.heap.size, 0, none⟩) 1 _ (by rw [HMZ.out]; omega) hrow
      rw [M1.out] at hM
      refine hM.mono ?_
      rintro e w4 ⟨rfl, hb6⟩
      have hb7 := below_from hb4 (below_from (below_new (Below.refl _ _) _) hb6)
      obtain ⟨hb8, E4'⟩ := F1.out _ hb7
      have E4 := Lib.hid E4'
      clear x0 x1 x2 x3 x4 x5 hM hrow hb6 hb4 hb5 E3 E4'
      obtain ⟨⟨x0, x1, x2, x3, x4, x5⟩, f0, f1, f2, f3, f4, f5⟩ := re_cells E4.out
      clear f0 f1 f2 f3 f4 f5
      -- Many
      go_wp2_with fail
      refine (rexMany_any h ks A c w4 HC.out (HR.out _ hb8)).mono ?_
      rintro e w5 ⟨v, rfl, ⟨h5, ks5, A5, c5, e5, hc5, rfl, hr5⟩, hb9⟩
      have M2' : Hid ([T.mk h5 ks5].all mayB = b1) := by rw [← e5]; exact M2.out
      have Z2' : Hid (T.sizes [T.mk h5 ks5] ≤ 900000000) := by rw [← e5]; exact Z2.out
      have hb10 := below_from hb7 hb9
      clear e5 x0 x1 x2 x3 x4 x5
      go_wp2_with fail
      have hrow := row_one (P := fun b => True) (new_at (w := w5) (.cells (reA h5 A5 ks5.length c5) 43) rfl) trivial hc5 ((hr5.weak fun _ _ => trivial).below (below_new (Below.refl _ _) _))
      have hM := May_any [T.mk h5 ks5] (some ⟨w5.heap.size, 0, none⟩) 1 _ Z2'.out hrow
      rw [M2'.out] at hM
      refine hM.mono ?_
      rintro e w6 ⟨rfl, hb6⟩
      have hb11 := below_from hb10 (below_from (below_new (Below.refl _ _) _) hb6)
      obtain ⟨hb12, E6'⟩ := F1.out _ hb11
      have E6 := Lib.hid E6'
      clear hM hrow hb6 hb7 hb8 hb9 hb10 hc5 hr5 M2' Z2' E4 E6'
      obtain ⟨⟨x0, x1, x2, x3, x4, x5⟩, f0, f1, f2, f3, f4, f5⟩ := re_cells E6.out
      clear f0 f1 f2 f3 f4 f5
      -- Many, Many
      go_wp2_with fail
      refine (rexMany_any h ks A c w6 HC.out (HR.out _ hb12)).mono ?_
      rintro e w7 ⟨v, rfl, ⟨h7, ks7, A7, c7, e7, hc7, rfl, hr7⟩, hb9⟩
      have E7 := Lib.hid e7
      have HC7 := Lib.hid hc7
      clear e7 hc7 x0 x1 x2 x3 x4 x5
      go_wp2_with fail
      refine (rexMany_any h7 ks7 A7 c7 w7 HC7.out (hr7.weak (ok' := fun _ => True) fun _ _ => trivial)).mono ?_
      rintro e w8 ⟨v, rfl, ⟨h8, ks8, A8, c8, e8, hc8, rfl, hr8'⟩, hb13⟩
      have M3' : Hid ([T.mk h8 ks8].all mayB = b3) := by rw [← e8, ← E7.out]; exact M3.out
      have Z3' : Hid (T.sizes [T.mk h8 ks8] ≤ 900000000) := by rw [← e8, ← E7.out]; exact Z3.out
      have hb10 := below_from (below_from hb11 hb9) hb13
      clear e8
      go_wp2_with fail
      have hrow := row_one (P := fun b => True) (new_at (w := w8) (.cells (reA h8 A8 ks8.length c8) 43) rfl) trivial hc8 ((hr8'.weak fun _ _ => trivial).below (below_new (Below.refl _ _) _))
      have hM := May_any [T.mk h8 ks8] (some ⟨w8.heap.size, 0, none⟩) 1 _ Z3'.out hrow
      rw [M3'.out] at hM
      refine hM.mono ?_
      rintro e w9 ⟨rfl, hb6⟩
      have hb14 := below_from hb10 (below_from (below_new (Below.refl _ _) _) hb6)
      have hb15 := below_from hb2 (F1.out _ hb14).1
      clear hM hrow hb6 hb9 hb10 hb11 hb12 hb13 hb14 hr7 hr8' hc8 M3' Z3' E6 E7
      go_wp2_with fail
      refine (awake3_any w9).mono ?_
      rintro e w10 ⟨rfl, hb6⟩
      have hb16 := below_from hb15 hb6
      clear hb15 hb6
      go_wp2_with fail
      go_ret
      exact ⟨rfl, hb16⟩
namespace lawRexMost
open Go.ChangeShapes Go.WideShapes Go.ChangeAt
open Go.ChangeMaps (open_string)
set_option maxRecDepth 100000 in
theorem lifted (os : Os) (started : os.Started) (H : Type) (enc : TypeId × Value → H) :
    ReturnsInHanded {} Try.checked os 6 .any (Rows.rexMostSpec.pre6 enc Try.prog Try.f6 Rows.rexMostRow.domain false) (Rows.rexMostSpec.post enc Try.prog Try.f6 false true false false) := by
  refine returnsInHanded_of_change (C := Try.checked) Try.own started (by kernel_rfl) Try.func6
    (ChangeSpec.witness6 (enc := enc) (C := Try.checked) false ⟨#[], #[.int .u8 0], []⟩ 8 (by kernel_rfl) (by kernel_rfl) (by kernel_rfl) (by kernel_rfl)) ?_
  intro W base args ds gs before hval0 hW hcnd _
  have hval : ∀ (j : Nat) t v, Try.f6.params[j]? = some t → args[j]? = some v → Value.okWide Try.prog W .any base t v := hval0
  have hW' := hW
  obtain ⟨p, q, hA0, hV, rfl, hfz, hnd⟩ := hW
  have hA : DataW.TrodAll enc Try.prog W 0 (fun _ => true) true Try.f6.params.toList args.toList ds p := hA0
  rw [Try.params6] at hA hval
  obtain ⟨v0, vs0, d0, ds0, p0, q0, hargs, rfl, rfl, h0, r0⟩ := trodAll_cons hA
  obtain ⟨rfl, rfl, rfl⟩ := trodAll_nil r0
  obtain rfl : args = #[v0] := by cases args; simp_all
  obtain ⟨rfl, rfl⟩ := trodVars_none hV
  obtain ⟨a, rfl, rfl, rfl, hw0⟩ := open_int Try.underlying5 (hval 0 5 v0 rfl rfl) h0
  refine (rexMost_walk a (by simpa [Lit.wf, IntKind.min, IntKind.max, IntKind.signed, IntKind.bits] using hw0) W).mono fun e W' ⟨he, hb⟩ => ?_
  subst he
  exact ⟨_, rfl, post_true Try.laidOut (by rw [Try.params6]; intro t ht; simp at ht; rcases ht with rfl <;> exact ⟨by kernel_rfl, of_decide_eq_true (by kernel_rfl)⟩) hW' rfl rfl rfl Try.underlying4 hb⟩
theorem proved : Rows.RexMostSaid :=
  OpenClaim.holds_of_wide 6 Try.f6 rfl rfl rfl rfl rfl rfl rfl ⟨rfl, rfl, rfl, rfl, rfl⟩ rfl rfl rfl rfl rfl (by kernel_rfl) Try.func6 (by kernel_rfl)
    (of_decide_eq_true (by kernel_rfl)) (by unfold Func.isWrapper; first | (rw [if_pos (by decide +kernel)]; kernel_rfl) | (rw [if_neg (by decide +kernel)]; exact ⟨rfl, rfl⟩))
    (fun os started H enc _ => lifted os started H enc)
end lawRexMost
end Go.Proofs.Ythagcmpehpgmpaa
