/- Signs of bytes. A set's text. Coded expressions: whether a node may be. Coded expressions: how many nodes; whether they may be. Coded expressions' texts. Coded expressions' texts: coded.text. -/
import Derived.Test.YteokbmngebckjaaBb
import Derived.Test.YteokbmngebckjaaShelf
import Derived.Deep.RegionHeld3
import Derived.Deep.QuietTactic
import Derived.BigQuiet
import Derived.IntWalk
import Derived.Test.YteokbmngebckjaaBa
import Derived.Test.YteokbmngebckjaaShelfT
import Derived.Lib.Join
import Derived.Deep.CutRange
namespace Go.Proofs.Yteokbmngebckjaa
open Go.RowKit
set_option linter.unusedVariables false
set_option linter.unusedSimpArgs false

theorem index_odd : ∀ n : Fin 256, decide (0 ≤ Lib.indexByte oddText.data.toList (UInt8.ofNat n.val)) = odd (UInt8.ofNat n.val) := by decide +kernel

theorem index_odd' (b : UInt8) : decide (0 ≤ Lib.indexByte oddText.data.toList ((b.toNat : Int)).toNat.toUInt8) = odd b := by
  have h := index_odd ⟨b.toNat, b.toNat_lt⟩
  simpa using h

set_option maxHeartbeats 4000000 in
theorem setSign_any (b : UInt8) (w : World) :
    Calls Try.prog 55 #[.int .u8 (b.toNat : Int)] w fun e w' => e = .returned (.string (str (signB b))) ∧ Below w.heap.size w w' := by
  have HSB : Hid (signB b = if special b then 92 :: hexOf [b] else [b]) := rfl
  have hi := Lib.hid (Try.strings_IndexByte oddText (b.toNat : Int) w)
  have ho := index_odd' b
  have hl := b.toNat_lt
  by_cases h1 : b.toNat < 33
  · have HT : Hid (signB b = 92 :: hexOf [b]) := by unfold Hid; rw [HSB.out, if_pos (by unfold special; simp [h1])]
    have g : decide ((b.toNat : Int) < 33) = true := by simp; omega
    clear h1
    go_enter Try.func55, Try.ntmps55
    go_wp2_with fail
    refine (Hex_any [b] (some ⟨w.heap.size, 0, none⟩) 1 _ (new_row encB w [b] _ _ rfl) (show 1 ≤ 1000000000 by decide)).mono ?_
    rintro e w2 ⟨rfl, hb⟩
    have hb2 := below_from (below_new (Below.refl _ _) _) hb
    have hc := run_cat (P := Try.prog) [92] (hexOf [b]) (by rw [hexOf_length]; simp)
    clear hb
    go_wp2_with fail
    go_ret
    exact ⟨by rw [HT.out]; rfl, hb2⟩
  by_cases h2 : 126 < b.toNat
  · have HT : Hid (signB b = 92 :: hexOf [b]) := by unfold Hid; rw [HSB.out, if_pos (by unfold special; simp [h2])]
    have g : decide ((b.toNat : Int) < 33) = false := by simp; omega
    have g2 : decide ((b.toNat : Int) > 126) = true := by simp; omega
    clear h1 h2
    go_enter Try.func55, Try.ntmps55
    go_wp2_with fail
    refine (Hex_any [b] (some ⟨w.heap.size, 0, none⟩) 1 _ (new_row encB w [b] _ _ rfl) (show 1 ≤ 1000000000 by decide)).mono ?_
    rintro e w2 ⟨rfl, hb⟩
    have hb2 := below_from (below_new (Below.refl _ _) _) hb
    have hc := run_cat (P := Try.prog) [92] (hexOf [b]) (by rw [hexOf_length]; simp)
    clear hb
    go_wp2_with fail
    go_ret
    exact ⟨by rw [HT.out]; rfl, hb2⟩
  have g : decide ((b.toNat : Int) < 33) = false := by simp; omega
  have g2 : decide ((b.toNat : Int) > 126) = false := by simp; omega
  have HSP : Hid (special b = odd b) := by unfold Hid special; simp [h1, h2]
  have HI := Lib.hid hi.out
  generalize Lib.indexByte oddText.data.toList ((b.toNat : Int)).toNat.toUInt8 = ix at *
  cases hod : odd b with
  | true =>
    have HT : Hid (signB b = 92 :: hexOf [b]) := by unfold Hid; rw [HSB.out, HSP.out, hod]; rfl
    rw [hod] at ho
    clear hod h1 h2
    go_enter Try.func55, Try.ntmps55
    go_wp2_with fail
    refine HI.out.mono ?_
    rintro e w1 ⟨rfl, rfl⟩
    have g3 : decide (ix ≥ 0) = true := ho
    go_wp2_with fail
    refine (Hex_any [b] (some ⟨w1.heap.size, 0, none⟩) 1 _ (new_row encB w1 [b] _ _ rfl) (show 1 ≤ 1000000000 by decide)).mono ?_
    rintro e w2 ⟨rfl, hb⟩
    have hb2 := below_from (below_new (Below.refl _ _) _) hb
    have hc := run_cat (P := Try.prog) [92] (hexOf [b]) (by rw [hexOf_length]; simp)
    clear hb
    go_wp2_with fail
    go_ret
    exact ⟨by rw [HT.out]; rfl, hb2⟩
  | false =>
    have HT : Hid (signB b = [b]) := by unfold Hid; rw [HSB.out, HSP.out, hod]; rfl
    rw [hod] at ho
    clear hod h1 h2
    go_enter Try.func55, Try.ntmps55
    go_wp2_with fail
    refine HI.out.mono ?_
    rintro e w1 ⟨rfl, rfl⟩
    have g3 : decide (ix ≥ 0) = false := ho
    have hcv := fun t => conv_bytes (P := Try.prog) (w := w1.alloc (.cells #[encB b] t)) (dst := 9) (A := some ⟨w1.heap.size, 0, none⟩) Try.underlying59 Try.underlying5 Try.underlying9 1 1 (l := [b]) rfl (new_row encB w1 [b] _ t rfl)
    go_wp2_with fail
    go_ret
    exact ⟨by rw [HT.out]; rfl, below_new (Below.refl _ _) _⟩
end Go.Proofs.Yteokbmngebckjaa
namespace Go.Proofs.Yteokbmngebckjaa
open Go.RowKit
set_option linter.unusedVariables false
set_option linter.unusedSimpArgs false

theorem writeByteC {T : TypeId} (hT : IsBld T) {b : Nat} {bs : List UInt8} (n : Int) (c : UInt8) (hn : n = (c.toNat : Int)) {w : World} (h : Bd T b bs w) (hlen : bs.length ≤ 100000000000) :
    Calls Try.prog 49 #[.pointer (some ⟨b, 0, none⟩), .int .u8 n] w fun e w' => e = .returned .nilIface ∧ Bd T b (bs ++ [c]) w' ∧ BdK b w w' := by
  subst hn
  exact writeByte_any hT c h hlen
theorem setSignC (n : Int) (b : UInt8) (hn : n = (b.toNat : Int)) (w : World) :
    Calls Try.prog 55 #[.int .u8 n] w fun e w' => e = .returned (.string (str (signB b))) ∧ Below w.heap.size w w' := by
  subst hn
  exact setSign_any b w
/-- the round's way, plain -/
theorem run_index (s : S4) {c t : Nat} (hct : c ≤ t) (ht : t < 256) (hh : s.has t = true) (hi : (bytesTo s t).length = (bytesTo s c).length + (t - c)) :
    (bytesTo s (t + 1)).length = (bytesTo s c).length + (t - c) + 1 := by
  rw [bytesTo_has s hh, List.length_append, List.length_singleton, hi]
theorem run_more (s : S4) {c t : Nat} (hct : c ≤ t) (ht : t < 256) (hh : s.has t = true) (hi : (bytesTo s t).length = (bytesTo s c).length + (t - c)) (hm : t < 255 ∧ s.has (t + 1) = true) :
    (bytesOf s)[(bytesTo s c).length + (t - c) + 1]? = some (UInt8.ofNat (t + 1)) ∧ (bytesTo s c).length + (t - c) + 1 < (bytesOf s).length := by
  have := bytes_at s (b := t + 1) (by omega) hm.2
  rwa [run_index s hct ht hh hi] at this
theorem run_done (s : S4) {c t : Nat} (hct : c ≤ t) (ht : t < 256) (hh : s.has t = true) (hi : (bytesTo s t).length = (bytesTo s c).length + (t - c)) (hm : ¬ (t < 255 ∧ s.has (t + 1) = true)) :
    (bytesOf s).length ≤ (bytesTo s c).length + (t - c) + 1 ∨
    ((bytesTo s c).length + (t - c) + 1 < (bytesOf s).length ∧ t < 255 ∧ ∃ u : UInt8, (bytesOf s)[(bytesTo s c).length + (t - c) + 1]? = some u ∧ u.toNat ≠ t + 1) := by
  have h1 := run_index s hct ht hh hi
  rcases Nat.lt_or_ge ((bytesTo s c).length + (t - c) + 1) (bytesOf s).length with hl | hl
  · right
    have h255 : t < 255 := by
      rcases Nat.lt_or_ge t 255 with h | h
      · exact h
      · have : t = 255 := by omega
        subst this
        unfold bytesOf at hl
        rw [show 256 = 255 + 1 from rfl, h1] at hl
        omega
    refine ⟨hl, h255, (bytesOf s)[(bytesTo s c).length + (t - c) + 1], List.getElem?_eq_getElem hl, fun e => hm ⟨h255, ?_⟩⟩
    have := bytesTo_mem s 256 (Nat.le_refl _) _ (List.getElem_mem hl)
    rwa [e] at this
  · exact .inl hl
theorem run_end (s : S4) {t : Nat} (ht : t < 256) (hm : ¬ (t < 255 ∧ s.has (t + 1) = true)) : runEnd s t = t := by
  by_cases h : t < 255
  · refine runEnd_stop s ?_
    cases hh : s.has (t + 1) with
    | true => exact absurd ⟨h, hh⟩ hm
    | false => rfl
  · exact runEnd_last s (by omega)
theorem step_text (s : S4) {acc tot : List UInt8} {c t : Nat} (hc : c < 256) (hh : s.has c = true) (he : runEnd s c = t) (h : acc ++ txt s c = tot) : (acc ++ runText c t) ++ txt s (t + 1) = tot := by
  rw [← h, txt_take s hc hh, he, List.append_assoc]

theorem add_next (a : Addr) (k : Nat) : a.add (k + 1) = ⟨a.block, a.off + (k + 1), none⟩ := by
  unfold Addr.add
  rw [if_neg (by omega)]
end Go.Proofs.Yteokbmngebckjaa
namespace Go.Proofs.Yteokbmngebckjaa
open Go.RowKit
set_option linter.unusedVariables false
set_option linter.unusedSimpArgs false

theorem dropWhile_nil {p : UInt8 → Bool} (l : List UInt8) : (l.dropWhile p = []) ↔ l.all p = true := by
  induction l with
  | nil => simp
  | cons x l ih =>
    simp only [List.dropWhile, List.all_cons]
    cases h : p x with
    | true => simp [ih]
    | false => simp
theorem trim_bits (l : List UInt8) : (Lib.trimS l [48, 49] == []) = bitsB l := by
  have hp : ∀ x : UInt8, [(48 : UInt8), 49].contains x = (x == 48 || x == 49) := fun x => by
    simp only [List.contains, List.elem]
    cases x == 48 <;> cases x == 49 <;> rfl
  rw [Bool.eq_iff_iff, beq_iff_eq]
  unfold Lib.trimS Lib.trimLeftS Lib.trimRightS bitsB
  rw [dropWhile_nil]
  simp only [hp]
  constructor
  · intro h
    have h2 : l.reverse.dropWhile (fun x => x == 48 || x == 49) = [] := by
      generalize hq : l.reverse.dropWhile (fun x => x == 48 || x == 49) = q at *
      cases q with
      | nil => rfl
      | cons y q =>
        exfalso
        have h3 : (y == 48 || y == 49) = true := List.all_eq_true.1 h y (by simp)
        have h4 : ∀ m : List UInt8, m.dropWhile (fun x => x == 48 || x == 49) = y :: q → (y == 48 || y == 49) = false := by
          intro m
          induction m with
          | nil => intro e; simp at e
          | cons z m ih =>
            intro e
            simp only [List.dropWhile] at e
            cases hz : (z == 48 || z == 49) with
            | true => rw [hz] at e; exact ih e
            | false => rw [hz] at e; cases e; exact hz
        rw [h4 _ hq] at h3
        cases h3
    rw [dropWhile_nil] at h2
    simpa using h2
  · intro h
    have h2 : l.reverse.dropWhile (fun x => x == 48 || x == 49) = [] := by
      rw [dropWhile_nil]
      simpa using h
    rw [h2]
    rfl
end Go.Proofs.Yteokbmngebckjaa
namespace Go.Proofs.Yteokbmngebckjaa
open Go.RowKit
set_option linter.unusedVariables false
set_option linter.unusedSimpArgs false

/-- no node has bits beyond measure -/
def shortC (t : Co) : Prop := ∀ x ∈ t.all, x.head.b.length ≤ 1000000000
theorem shortC.head {h : CH} {ks : List Co} (H : shortC (.mk h ks)) : h.b.length ≤ 1000000000 := H (.mk h ks) (by simp [T.all])
theorem alls_mem {x t : Co} : ∀ {ks : List Co}, t ∈ ks → x ∈ t.all → x ∈ T.alls ks
  | [], h, _ => by cases h
  | y :: ks, h, hx => by
    simp only [T.alls, List.mem_append]
    rcases List.mem_cons.1 h with rfl | h
    · exact .inl hx
    · exact .inr (alls_mem h hx)
theorem shortC.kid {h : CH} {ks : List Co} (H : shortC (.mk h ks)) {t : Co} (ht : t ∈ ks) : shortC t := fun x hx => H x (by simp only [T.all, List.mem_cons]; exact .inr (alls_mem ht hx))

theorem any_not_okC (ts : List Co) : (!ts.any fun t => !okC t) = okCL ts := by rw [okCL_all, List.all_eq_not_any_not]
end Go.Proofs.Yteokbmngebckjaa
namespace Go.Proofs.Yteokbmngebckjaa
open Go.RowKit
set_option linter.unusedVariables false
set_option linter.unusedSimpArgs false

def headC (b : List UInt8) : List UInt8 := if b = [] then [] else 58 :: (b ++ [58])
/-- a node's text, of its kids' texts -/
def textK (h : CH) (l : List (List UInt8)) : List UInt8 :=
  if h.k = 1 then [91, 93] else if h.k = 2 then headC h.b ++ [40, 41] else if h.k = 3 then headC h.b ++ textS h.s
  else if h.k = 4 then headC h.b ++ [40] ++ Lib.join l [] ++ [41] else if h.k = 5 then headC h.b ++ [40] ++ Lib.join l [124] ++ [41] else headC h.b ++ [40] ++ Lib.join l [] ++ [41, 42]
mutual
def textC : Co → List UInt8
  | .mk h ks => textK h (textCs ks)
def textCs : List Co → List (List UInt8)
  | [] => []
  | t :: ts => textC t :: textCs ts
end
theorem textCs_map : ∀ ts : List Co, textCs ts = ts.map textC
  | [] => rfl
  | t :: ts => by simp only [textCs, List.map_cons, textCs_map ts]
/-- no node has many bits -/
def fewC (t : Co) : Prop := ∀ x ∈ t.all, x.head.b.length ≤ 1000
theorem fewC.short {t : Co} (h : fewC t) : shortC t := fun x hx => Nat.le_trans (h x hx) (by decide)
theorem fewC.head {h : CH} {ks : List Co} (H : fewC (.mk h ks)) : h.b.length ≤ 1000 := H (.mk h ks) (by simp [T.all])
theorem fewC.kid {h : CH} {ks : List Co} (H : fewC (.mk h ks)) {t : Co} (ht : t ∈ ks) : fewC t := fun x hx => H x (by simp only [T.all, List.mem_cons]; exact .inr (alls_mem ht hx))
theorem head_length (b : List UInt8) : (headC b).length ≤ b.length + 2 := by
  unfold headC
  split <;> simp
def lensC (l : List (List UInt8)) : Nat := (l.map List.length).sum
theorem join_le : ∀ (l : List (List UInt8)) (sep : List UInt8), sep.length ≤ 1 → (Lib.join l sep).length ≤ lensC l + l.length
  | [], sep, _ => by simp [Lib.join, List.intercalate]
  | [x], sep, _ => by simp [Lib.join, List.intercalate, lensC]
  | x :: y :: l, sep, h => by
    have ih := join_le (y :: l) sep h
    have e : Lib.join (x :: y :: l) sep = x ++ (sep ++ Lib.join (y :: l) sep) := by simp [Lib.join, List.intercalate, List.intersperse]
    rw [e]
    simp only [List.length_append, lensC, List.map_cons, List.sum_cons, List.length_cons] at ih ⊢
    omega
theorem text_le (n : Nat) : ∀ t : Co, t.size ≤ n → fewC t → (textC t).length + 1 ≤ 4000 * t.size := by
  induction n with
  | zero => intro t hn; have := t.size_pos; omega
  | succ n ih =>
    intro t hn hf
    obtain ⟨h, ks⟩ := t
    have hk : ∀ l : List Co, (∀ t ∈ l, t ∈ ks) → lensC (textCs l) + (textCs l).length ≤ 4000 * T.sizes l := by
      intro l
      induction l with
      | nil => intro _; simp [textCs, lensC, T.sizes]
      | cons t l il =>
        intro hl
        have i1 := il fun x hx => hl x (List.mem_cons_of_mem _ hx)
        have i2 := ih t (by have := T.sizes_mem (hl t (List.mem_cons_self ..)); simp only [T.size] at hn; omega) (hf.kid (hl t (List.mem_cons_self ..)))
        simp only [textCs, lensC, List.map_cons, List.sum_cons, List.length_cons, T.sizes] at i1 ⊢
        omega
    have hk0 := hk ks fun _ h => h
    have j1 := join_le (textCs ks) [] (by simp)
    have j2 := join_le (textCs ks) [124] (by simp)
    have hh := head_length h.b
    have hb := hf.head
    have hs := textS_length h.s
    simp only [textC, T.size]
    unfold textK
    split
    · simp; omega
    · split
      · simp; omega
      · split
        · simp; omega
        · split
          · simp; omega
          · split
            · simp; omega
            · simp; omega
/-- strings.Join, of a row of the call's own -/
theorem join_any {w : World} {base : Nat} {v : Value} (l : List (List UInt8)) (sep : List UInt8) (hown : w.ownsRow base 9 1 v l.length (l.map fun x => .string (str x))) (hlen : (Lib.join l sep).length ≤ 140737488355328) (hl : l.length ≤ 1000000) :
    Calls Try.prog 53 #[v, .string (str sep)] w fun e w' => e = .returned (.string (str (Lib.join l sep))) ∧ Below w.heap.size w w' := by
  have hs := own_slice hown
  rcases hown.2 with ⟨rfl, hl0⟩ | ⟨g, cap, cur, rfl, hb, hbg, hrest⟩
  · obtain rfl : l = [] := List.eq_nil_of_length_eq_zero hl0
    refine (Try.strings_Join_none none 0 (str sep) w).mono ?_
    rintro e w' ⟨rfl, rfl⟩
    exact ⟨rfl, Below.refl _ _⟩
  · obtain ⟨A, c, hv, hc, hsrc⟩ := hs
    cases hv
    have hcells : ∀ (j : Nat) x, (l.map str)[j]? = some x → w.cell? ⟨g, 0 + j, none⟩ = some (.string x) := by
      intro j x hx
      rw [List.getElem?_map] at hx
      obtain ⟨y, hy, rfl⟩ := Option.map_eq_some_iff.1 hx
      obtain ⟨ad, e1, e2⟩ := hsrc.2 j (.string (str y)) (by rw [List.getElem?_map, hy]; rfl)
      cases e1
      rw [plain_add] at e2
      rw [Nat.zero_add]
      exact e2
    have hm : (l.map str).map (fun x => x.data.toList) = l := by
      rw [List.map_map]
      conv => rhs; rw [← List.map_id l]
      congr 1
    have := Try.strings_Join g 0 cap (l.map str) (str sep) w hcells (lt_of_block hbg) (by rw [List.length_map]; omega) (by rw [List.length_map]; exact hc) (by rw [hm]; simpa using hlen)
    rw [hm, List.length_map] at this
    simpa using this
end Go.Proofs.Yteokbmngebckjaa
namespace Go.Proofs.Yteokbmngebckjaa
open Go.RowKit
set_option linter.unusedVariables false
set_option linter.unusedSimpArgs false

theorem Try.info_str : (Try.prog.info? 9).map (fun i => (i.zero, i.size, i.bytes)) = some (some (.string .empty), 1, 16) := by kernel_rfl
theorem textCs_take {ks : List Co} {k : Nat} {t : Co} (h : ks[k]? = some t) : textCs (ks.take (k + 1)) = textCs (ks.take k) ++ [textC t] := by
  rw [textCs_map, textCs_map, List.take_add_one, h]
  simp
theorem textCs_length (ks : List Co) : (textCs ks).length = ks.length := by rw [textCs_map, List.length_map]
theorem ret_lit : True := trivial
theorem k_ne {x y : UInt8} {n : Int} (h : x ≠ y) (hn : n = (y.toNat : Int)) : ((x.toNat : Int) == n) = false := by
  rw [beq_eq_false_iff_ne]
  intro e
  exact h (UInt8.toNat_inj.1 (by omega))
end Go.Proofs.Yteokbmngebckjaa
