/- A text's bytes, one behind the other: as the document has it. -/
import Derived.Test.YtbblhhkacdgmiaaBd
import Derived.Test.YtbblhhkacdgmiaaBf
import Derived.Test.YtbblhhkacdgmiaaBb
namespace Go.Proofs.Ytbblhhkacdgmiaa
open Go.RowKit
set_option linter.unusedVariables false
set_option linter.unusedSimpArgs false

theorem own_empty {ok : Nat → Prop} {w : World} {t : TypeId} (hok : ∀ b, ok b → b ≠ w.heap.size) (base : Nat) (hb : base ≤ w.heap.size) : OwnT RE ok (w.alloc (.cells #[] t)) base t (.slice (some ⟨w.heap.size, 0, none⟩) 0 0) [] :=
  ⟨fun b h e => hok b h (by cases e; rfl), [], World.ownsRow_lit w #[] 0 hb (by decide) rfl, fun k t h => by simp at h⟩

set_option maxHeartbeats 8000000 in
theorem refWord_any (s : ByteArray) (w : World) (hm : s.size ≤ 1000000000) :
    Calls Try.prog 15 #[.string s] w (RePost (fun _ => False) (foldT 4 2 (wordL s.data.toList)) w) := by
  have HL := Lib.hid (text_len s)
  go_enter Try.func15, Try.ntmps15
  go_wp2_with fail
  have e1 := heap_keep (new_at (w := w) (.cells #[.int .u8 0, .int .u64 0, .int .u64 0, .int .u64 0, .int .u64 0, .slice none 0 0] 30) rfl) (.cells #[] 30)
  have hb0 : Below w.heap.size w ((w.alloc (.cells #[.int .u8 0, .int .u64 0, .int .u64 0, .int .u64 0, .int .u64 0, .slice none 0 0] 30)).alloc (.cells #[] 30)) := below_new (below_new (Below.refl _ _) _) _
  have how := own_empty (ok := fun _ => False) (w := w.alloc (.cells #[.int .u8 0, .int .u64 0, .int .u64 0, .int .u64 0, .int .u64 0, .slice none 0 0] 30)) (t := 30) (fun _ h => h.elim) (w.heap.size + 1) (by simp)
  rw [World.size_alloc] at how
  go_loopw [3, 4] (fun o i wr => ∃ (k : Nat), k ≤ s.size ∧ i = .int .i64 k ∧ OwnT RE (fun _ => False) wr (w.heap.size + 1) 30 o (wordL (s.data.toList.take k)) ∧ Hid (wr.heap[w.heap.size]? = some (.cells #[.int .u8 0, .int .u64 0, .int .u64 0, .int .u64 0, .int .u64 0, .slice none 0 0] 30 (0, 0))) ∧ Below w.heap.size w wr) (fun _ i _ => s.size - (intOf i).toNat)
  case atStart => exact ⟨0, Nat.zero_le _, rfl, how, e1, hb0⟩
  case round =>
    clear e1 hb0 how
    obtain ⟨k, hk, rfl, ho, E1, hb⟩ := hrel
    by_cases hlt : k < s.size
    · have HT : Hid (wordL (s.data.toList.take (k + 1)) = wordL (s.data.toList.take k) ++ [leaf (s[k]'hlt)]) := by
        unfold Hid wordL
        rw [List.take_add_one, text_at s k hlt]
        simp
      obtain ⟨b, hbb⟩ : ∃ b : UInt8, b = s[k]'hlt := ⟨_, rfl⟩
      rw [← hbb] at HT
      have ea : ((s[k]'hlt).toNat : Int) = (b.toNat : Int) := by rw [hbb]
      clear hbb
      go_wp2_with fail
      refine (refOf_any [b] (some ⟨wr.heap.size, 0, none⟩) 1 _ (show 1 ≤ 1000000000 by decide) (Nat.le_refl _) (new_row encB wr [b] _ _ rfl)).mono ?_
      rintro e w1 ⟨rfl, hb1⟩
      have hb2 := below_from (below_new (Below.refl _ _) _) hb1
      go_wp2_with fail
      refine (refOfRe_any (setOf [b]) w1).mono ?_
      rintro e w2 ⟨rfl, hb3⟩
      have hb4 := below_from hb2 hb3
      have hH : Hid (leaf b = .mk (ofH (setOf [b])) []) := rfl
      generalize ofH (setOf [b]) = H at *
      have ho' := ho.keep (below_new hb4 (.cells (reA H none 0 0) 30))
      obtain ⟨h0, cs0, hown0, hk0⟩ := ho'
      have hbw := below_new (below_from hb hb4) (.cells (reA H none 0 0) 30)
      have hsrc := new_src w2 1 6 (reA H none 0 0) 30 rfl
      have hlen : Hid ((wordL (s.data.toList.take k)).length = k) := by unfold Hid; rw [wordL_length, List.length_take, text_len]; omega
      have HBW := Lib.hid hbw
      have HSZ := Lib.hid hbw.size
      have E2 : Hid ((w2.alloc (.cells (reA H none 0 0) 30)).heap[w.heap.size]? = some (.cells #[.int .u8 0, .int .u64 0, .int .u64 0, .int .u64 0, .int .u64 0, .slice none 0 0] 30 (0, 0))) := heap_keep ((hb4.block _ (lt_of_block E1.out)).trans E1.out) _
      clear ho hb hb1 hb2 hb3 hb4 hbw
      go_wp2_with (at_builtin; refine wpList_app _ rfl (.tmp 12) (.tmp 19) 22 rfl (w.heap.size + 1) 30 _ 6 64 Try.underlying22 Try.info_re rfl (by decide) _ _ _ rfl hown0 (some ⟨w2.heap.size, 0, none⟩) 1 1 _ rfl hsrc ?h1 ?h2 ?h3 ?h4 ?_)
      case h1 => intro u hu; simp at hu; rcases hu with rfl | rfl | rfl | rfl | rfl | rfl <;> rfl
      case h2 => rw [hlen.out]; unfold maxLen; omega
      case h3 => rw [hlen.out]; omega
      case h4 => have := lt_of_block E2.out; simp at this ⊢; omega
      intro v4 w4 ho4 hg4 hat4
      have hr4 := OwnT.app h0 hown0 hk0 (leaf_src H) ho4 hg4 (by simpa using hat4) (fun b hb => hb.elim)
      have hb4 : Below w.heap.size w w4 := HBW.out.grown hg4 HSZ.out (fun j hj => by have := own_base hown0 j hj; omega)
      have E4 : Hid (w4.heap[w.heap.size]? = some (.cells #[.int .u8 0, .int .u64 0, .int .u64 0, .int .u64 0, .int .u64 0, .slice none 0 0] 30 (0, 0))) := (hg4.block _ (lt_of_block E2.out) (fun e => by have := own_base hown0 _ e.symm; omega)).trans E2.out
      clear ho4 hg4 hat4 hown0 hk0 h0 hsrc
      go_wp2_with fail
      go_roundw
      case rel => exact ⟨k + 1, by omega, by go_num, by rw [HT.out, hH.out]; exact hr4, E4, hb4⟩
      case measure => simp [intOf]; omega
    · have hkk : k = s.size := by omega
      subst hkk
      have hT : s.data.toList.take s.size = s.data.toList := by rw [← text_len]; exact List.take_length
      rw [hT] at ho
      clear hT hlt
      obtain ⟨A1, c1, rfl, hc1, hr1⟩ := ho.row
      have hlt : Hid (∀ b, (False ∨ (Value.slice A1 (wordL s.data.toList).length c1).ownBlock = some b) → w.heap.size + 1 ≤ b) := by
        rintro b (hb' | hb')
        · exact hb'.elim
        · obtain ⟨cs, hcs⟩ := ho.own
          exact own_base hcs b hb'
      have hlw : (wordL s.data.toList).length ≤ 1000000000 := by rw [wordL_length, text_len]; exact hm
      clear ho
      go_wp2_with fail
      refine (refFold_upto _ 4 2 rfl (.inl ⟨rfl, rfl⟩) (wordL s.data.toList) _ A1 c1 wr hlw hc1 hr1).mono ?_
      rintro e w1 ⟨v, rfl, ⟨h, ks, A2, c2, ht, hc2, rfl, hr2⟩, hb1⟩
      have hb2 := below_from hb hb1
      have E2 := Lib.hid ((hb1.block _ (lt_of_block E1.out)).trans E1.out)
      obtain ⟨⟨x0, x1, x2, x3, x4, x5⟩, f0, f1, f2, f3, f4, f5⟩ := re_cells E2.out
      have HT := Lib.hid ht
      have HS := Lib.hid (lt_of_block E1.out)
      clear ht hb1 hr1 hb
      go_wp2_with fail
      refine bodyPost_ret (v := reV h A2 ks.length c2) (by simp [results, Try.results15, go_sem, x0, x1, x2, x3, x4, x5]) rfl ⟨_, rfl, ⟨h, ks, A2, c2, HT.out, hc2, rfl, hr2.keep ?_ ?_⟩, six_below hb2 (Nat.le_refl _)⟩
      · rintro b (hb | hb)
        · have := hlt.out b hb; exact .inr (by omega)
        · have := HS.out; exact .inr (by omega)
      · intro a v ha hv
        refine (World.cell?_of_block (six_other ?_)).trans hv
        rcases ha with ha | ha
        · have := hlt.out _ ha; omega
        · have := HS.out; omega
end Go.Proofs.Ytbblhhkacdgmiaa
