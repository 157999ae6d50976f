/- Coded expressions' texts. Coded expressions' texts: coded.text. -/
import Derived.Test.YteoghoaggpbkpaaDoorCodCm
import Derived.Test.YteoghoaggpbkpaaDoorText2
import Derived.Test.YteoghoaggpbkpaaDoorShelf
import Derived.Deep.CutRange
namespace Go.Proofs.YteoghoaggpbkpaaDoor
open Go.RowKit
set_option linter.unusedVariables false
set_option linter.unusedSimpArgs false

def headC (b : List UInt8) : List UInt8 := if b = [] then [] else 58 :: (b ++ [58])
/-- a node's text, of its kids' texts -/
def textK (h : CH) (l : List (List UInt8)) : List UInt8 :=
  if h.k = 1 then [91, 93] else if h.k = 2 then headC h.b ++ [40, 41] else if h.k = 3 then headC h.b ++ textS h.s
  else if h.k = 4 then headC h.b ++ [40] ++ Lib.join l [] ++ [41] else if h.k = 5 then headC h.b ++ [40] ++ Lib.join l [124] ++ [41] else headC h.b ++ [40] ++ Lib.join l [] ++ [41, 42]
mutual
def textC : Co → List UInt8
  | .mk h ks => textK h (textCs ks)
def textCs : List Co → List (List UInt8)
  | [] => []
  | t :: ts => textC t :: textCs ts
end
theorem textCs_map : ∀ ts : List Co, textCs ts = ts.map textC
  | [] => rfl
  | t :: ts => by simp only [textCs, List.map_cons, textCs_map ts]
/-- no node has many bits -/
def fewC (t : Co) : Prop := ∀ x ∈ t.all, x.head.b.length ≤ 1000
theorem fewC.short {t : Co} (h : fewC t) : shortC t := fun x hx => Nat.le_trans (h x hx) (by decide)
theorem fewC.head {h : CH} {ks : List Co} (H : fewC (.mk h ks)) : h.b.length ≤ 1000 := H (.mk h ks) (by simp [T.all])
theorem fewC.kid {h : CH} {ks : List Co} (H : fewC (.mk h ks)) {t : Co} (ht : t ∈ ks) : fewC t := fun x hx => H x (by simp only [T.all, List.mem_cons]; exact .inr (alls_mem ht hx))
theorem head_length (b : List UInt8) : (headC b).length ≤ b.length + 2 := by
  unfold headC
  split <;> simp
def lensC (l : List (List UInt8)) : Nat := (l.map List.length).sum
theorem join_le : ∀ (l : List (List UInt8)) (sep : List UInt8), sep.length ≤ 1 → (Lib.join l sep).length ≤ lensC l + l.length
  | [], sep, _ => by simp [Lib.join, List.intercalate]
  | [x], sep, _ => by simp [Lib.join, List.intercalate, lensC]
  | x :: y :: l, sep, h => by
    have ih := join_le (y :: l) sep h
    have e : Lib.join (x :: y :: l) sep = x ++ (sep ++ Lib.join (y :: l) sep) := by simp [Lib.join, List.intercalate, List.intersperse]
    rw [e]
    simp only [List.length_append, lensC, List.map_cons, List.sum_cons, List.length_cons] at ih ⊢
    omega
theorem text_le (n : Nat) : ∀ t : Co, t.size ≤ n → fewC t → (textC t).length + 1 ≤ 4000 * t.size := by
  induction n with
  | zero => intro t hn; have := t.size_pos; omega
  | succ n ih =>
    intro t hn hf
    obtain ⟨h, ks⟩ := t
    have hk : ∀ l : List Co, (∀ t ∈ l, t ∈ ks) → lensC (textCs l) + (textCs l).length ≤ 4000 * T.sizes l := by
      intro l
      induction l with
      | nil => intro _; simp [textCs, lensC, T.sizes]
      | cons t l il =>
        intro hl
        have i1 := il fun x hx => hl x (List.mem_cons_of_mem _ hx)
        have i2 := ih t (by have := T.sizes_mem (hl t (List.mem_cons_self ..)); simp only [T.size] at hn; omega) (hf.kid (hl t (List.mem_cons_self ..)))
        simp only [textCs, lensC, List.map_cons, List.sum_cons, List.length_cons, T.sizes] at i1 ⊢
        omega
    have hk0 := hk ks fun _ h => h
    have j1 := join_le (textCs ks) [] (by simp)
    have j2 := join_le (textCs ks) [124] (by simp)
    have hh := head_length h.b
    have hb := hf.head
    have hs := textS_length h.s
    simp only [textC, T.size]
    unfold textK
    split
    · simp; omega
    · split
      · simp; omega
      · split
        · simp; omega
        · split
          · simp; omega
          · split
            · simp; omega
            · simp; omega
/-- strings.Join, of a row of the call's own -/
theorem join_any {w : World} {base : Nat} {v : Value} (l : List (List UInt8)) (sep : List UInt8) (hown : w.ownsRow base 9 1 v l.length (l.map fun x => .string (str x))) (hlen : (Lib.join l sep).length ≤ 140737488355328) (hl : l.length ≤ 1000000) :
    Calls Tryd.prog 51 #[v, .string (str sep)] w fun e w' => e = .returned (.string (str (Lib.join l sep))) ∧ Below w.heap.size w w' := by
  have hs := own_slice hown
  rcases hown.2 with ⟨rfl, hl0⟩ | ⟨g, cap, cur, rfl, hb, hbg, hrest⟩
  · obtain rfl : l = [] := List.eq_nil_of_length_eq_zero hl0
    refine (Tryd.strings_Join_none none 0 (str sep) w).mono ?_
    rintro e w' ⟨rfl, rfl⟩
    exact ⟨rfl, Below.refl _ _⟩
  · obtain ⟨A, c, hv, hc, hsrc⟩ := hs
    cases hv
    have hcells : ∀ (j : Nat) x, (l.map str)[j]? = some x → w.cell? ⟨g, 0 + j, none⟩ = some (.string x) := by
      intro j x hx
      rw [List.getElem?_map] at hx
      obtain ⟨y, hy, rfl⟩ := Option.map_eq_some_iff.1 hx
      obtain ⟨ad, e1, e2⟩ := hsrc.2 j (.string (str y)) (by rw [List.getElem?_map, hy]; rfl)
      cases e1
      rw [plain_add] at e2
      rw [Nat.zero_add]
      exact e2
    have hm : (l.map str).map (fun x => x.data.toList) = l := by
      rw [List.map_map]
      conv => rhs; rw [← List.map_id l]
      congr 1
    have := Tryd.strings_Join g 0 cap (l.map str) (str sep) w hcells (lt_of_block hbg) (by rw [List.length_map]; omega) (by rw [List.length_map]; exact hc) (by rw [hm]; simpa using hlen)
    rw [hm, List.length_map] at this
    simpa using this
end Go.Proofs.YteoghoaggpbkpaaDoor
namespace Go.Proofs.YteoghoaggpbkpaaDoor
open Go.RowKit
set_option linter.unusedVariables false
set_option linter.unusedSimpArgs false

theorem Tryd.info_str : (Tryd.prog.info? 9).map (fun i => (i.zero, i.size, i.bytes)) = some (some (.string .empty), 1, 16) := by kernel_rfl
theorem textCs_take {ks : List Co} {k : Nat} {t : Co} (h : ks[k]? = some t) : textCs (ks.take (k + 1)) = textCs (ks.take k) ++ [textC t] := by
  rw [textCs_map, textCs_map, List.take_add_one, h]
  simp
theorem textCs_length (ks : List Co) : (textCs ks).length = ks.length := by rw [textCs_map, List.length_map]
theorem ret_lit : True := trivial
theorem k_ne {x y : UInt8} {n : Int} (h : x ≠ y) (hn : n = (y.toNat : Int)) : ((x.toNat : Int) == n) = false := by
  rw [beq_eq_false_iff_ne]
  intro e
  exact h (UInt8.toNat_inj.1 (by omega))
set_option maxRecDepth 100000 in
set_option maxHeartbeats 8000000 in
theorem ctext_upto (n : Nat) : ∀ (ok : Nat → Prop) (h : CH) (ks : List Co) (A : Option Addr) (c : Nat) (w : World), 1 + T.sizes ks ≤ n → n ≤ 100000 → ks.length ≤ c → InRow CE ok w ks A 0 → fewC (.mk h ks) → TzOk w →
    Calls Tryd.prog 33 #[coV h A ks.length c] w fun e w' => e = .returned (.string (str (textC (.mk h ks)))) ∧ Below w.heap.size w w' := by
  induction n with
  | zero => intro ok h ks A c w h0; omega
  | succ n ih =>
    intro ok h ks A c w hn hm hc hr hf ht
    have hl := T.length_le_sizes ks
    have IH := Lib.hid ih
    have HS : Hid (∀ t ∈ ks, t.size ≤ n) := fun t ht => by have := T.sizes_mem ht; omega
    have HF := Lib.hid hf
    have HT := Lib.hid ht
    have hbW := below_new (Below.refl w.heap.size w) (.cells (coA h A ks.length c) 29)
    have HR := Lib.hid (hr.below hbW)
    have HB0 := Lib.hid hbW
    have HE0 := Lib.hid (new_at1 (w := w) (.cells (coA h A ks.length c) 29))
    have HO : Hid (textC (.mk h ks) = textK h (textCs ks)) := by simp only [Hid, textC]
    have HL : Hid ((Lib.join (textCs ks) []).length ≤ 500000000 ∧ (Lib.join (textCs ks) [124]).length ≤ 500000000) := by
      have hk : ∀ l : List Co, (∀ t ∈ l, t ∈ ks) → lensC (textCs l) + (textCs l).length ≤ 4000 * T.sizes l := by
        intro l
        induction l with
        | nil => intro _; simp [textCs, lensC, T.sizes]
        | cons t l il =>
          intro hl
          have i1 := il fun x hx => hl x (List.mem_cons_of_mem _ hx)
          have i2 := text_le t.size t (Nat.le_refl _) (hf.kid (hl t (List.mem_cons_self ..)))
          simp only [textCs, lensC, List.map_cons, List.sum_cons, List.length_cons, T.sizes] at i1 ⊢
          omega
      have hk0 := hk ks fun _ h => h
      have j1 := join_le (textCs ks) [] (by simp)
      have j2 := join_le (textCs ks) [124] (by simp)
      constructor <;> omega
    have T0 : Hid (textCs (ks.take 0) = []) := rfl
    have hbl := hf.head
    clear ih hr hf ht
    go_enter Tryd.func33, Tryd.ntmps33
    go_wp2_with fail
    generalize hW : w.alloc (.cells (coA h A ks.length c) 29) = W at *
    have hsW : W.heap.size = w.heap.size + 1 := by rw [← hW]; simp
    clear hW hbW
    go_loopw [3, 10] (fun o i wr => ∃ (k : Nat) (v : Value), v = o ∧ k ≤ ks.length ∧ i = .int .i64 (k : Nat) ∧ Hid (wr.ownsRow (w.heap.size + 1) 9 1 v (textCs (ks.take k)).length ((textCs (ks.take k)).map fun x => .string (str x))) ∧ Hid (Below W.heap.size W wr)) (fun _ i _ => ks.length - (intOf i).toNat)
    case atStart => exact ⟨0, _, rfl, Nat.zero_le _, rfl, by rw [T0.out]; exact World.ownsRow_nil _ _ _ _, Lib.hid (Below.refl _ _)⟩
    case round =>
      obtain ⟨k, o, rfl, hk, rfl, HW, HB⟩ := hrel
      have HEr := Lib.hid ((HB.out.block _ (lt_of_block HE0.out)).trans HE0.out)
      by_cases hlt : k < ks.length
      · obtain ⟨t, ad, h1, ls, A1, c1, hA, hx, rfl, hc1, hr1, q0, q1, q2, q3, q4, q5, q6⟩ := co_at (HR.out.below HB.out) hlt
        subst hA
        have hmem := List.mem_of_getElem? hx
        have hs1 := HS.out _ hmem
        have hf1 := HF.out.kid hmem
        simp only [T.size] at hs1
        have HTk := Lib.hid (textCs_take hx)
        have HLk : Hid ((textCs (ks.take k)).length = k) := by unfold Hid; rw [textCs_length, List.length_take]; omega
        have hb1 := below_new (Below.refl wr.heap.size wr) (.cells (coA h1 A1 ls.length c1) 29)
        have HC := Lib.hid (IH.out ok h1 ls A1 c1 _ hs1 (by omega) hc1 (hr1.below hb1) hf1 (HT.out.below (below_from (below_from HB0.out HB.out) hb1)))
        generalize textC (.mk h1 ls) = tx at *
        clear hx hr1 hmem hs1 hf1
        go_wp2_with fail
        refine HC.out.mono ?_
        rintro e w2 ⟨rfl, hb2⟩
        have hb3 := below_new (below_from hb1 hb2) (.cells #[.string (str tx)] 9)
        have HB3 := Lib.hid (below_from HB.out hb3)
        have hown := HW.out.kept (w' := w2.alloc (.cells #[.string (str tx)] 9)) (row := none) ⟨hb3.os, hb3.tape, hb3.output, hb3.size, fun k hk _ => hb3.block k hk⟩ (by cases hv : o.ownBlock <;> simp)
        have hsrc := new_src w2 1 1 #[.string (str tx)] 9 rfl
        have hsz3 := HB3.out.size
        clear hb1 hb2 hb3 HC HW q0 q1 q2 q3 q4 q5 q6
        go_wp2_with (at_builtin; refine wpList_app _ rfl (.tmp 14) (.tmp 17) 75 rfl (w.heap.size + 1) 9 _ 1 16 Tryd.underlying75 Tryd.info_str rfl (by decide) _ _ _ rfl hown (some ⟨w2.heap.size, 0, none⟩) 1 1 _ rfl hsrc ?h1 ?h2 ?h3 ?h4 ?_)
        case h1 => first | (intro u hu; simp at hu; subst hu; rfl) | trivial
        case h2 => rw [HLk.out]; unfold maxLen; omega
        case h3 => rw [HLk.out]; omega
        case h4 => omega
        intro v5 w5 ho5 hg5 hat5
        have hb5 := HB3.out.grown hg5 HB3.out.size (fun j hj => by have := own_base hown j hj; omega)
        have HB5 := Lib.hid hb5
        have HO5 : Hid (w5.ownsRow (w.heap.size + 1) 9 1 v5 (textCs (ks.take (k + 1))).length ((textCs (ks.take (k + 1))).map fun x => .string (str x))) := by
          unfold Hid
          rw [HTk.out, List.map_append, List.length_append]
          exact ho5
        clear ho5 hg5 hat5 hown hsrc hb5
        go_wp2_with fail
        go_roundw
        case rel => exact ⟨k + 1, v5, rfl, by omega, by go_num, HO5, HB5⟩
        case measure => simp [intOf]; omega
      · have hkk : k = ks.length := by omega
        subst hkk
        have hown : wr.ownsRow (w.heap.size + 1) 9 1 o (textCs ks).length ((textCs ks).map fun x => .string (str x)) := by
          have := HW.out
          rw [List.take_length] at this
          exact this
        have CJ1 := Lib.hid (join_any (textCs ks) [] hown (by have := HL.out.1; omega) (by rw [textCs_length]; omega))
        have CJ2 := Lib.hid (join_any (textCs ks) [124] hown (by have := HL.out.2; omega) (by rw [textCs_length]; omega))
        have HBw := Lib.hid (below_from HB0.out HB.out)
        have CS := Lib.hid (setText_any h.s wr (HT.out.below HBw.out))
        have hsl := textS_length h.s
        obtain ⟨hj1, hj2⟩ := HL.out
        obtain ⟨x0, x1, x2, x3, x4, x5, x6⟩ := co_at_box HEr.out
        have hkn := h.k.toNat_lt
        have hcase : h.k = 1 ∨ h.k = 2 ∨ h.k = 3 ∨ h.k = 4 ∨ h.k = 5 ∨ (h.k ≠ 1 ∧ h.k ≠ 2 ∧ h.k ≠ 3 ∧ h.k ≠ 4 ∧ h.k ≠ 5) := by
          by_cases e1 : h.k = 1; exact .inl e1
          by_cases e2 : h.k = 2; exact .inr (.inl e2)
          by_cases e3 : h.k = 3; exact .inr (.inr (.inl e3))
          by_cases e4 : h.k = 4; exact .inr (.inr (.inr (.inl e4)))
          by_cases e5 : h.k = 5; exact .inr (.inr (.inr (.inr (.inl e5))))
          exact .inr (.inr (.inr (.inr (.inr ⟨e1, e2, e3, e4, e5⟩))))
        clear hown HW HL HEr HB0 HB hlt hk
        rcases hb : h.b with _ | ⟨y, r⟩
        · have HH : Hid (headC h.b = []) := by unfold Hid headC; rw [hb]; simp
          rw [hb] at x1
          have hbe : (([] : List UInt8) == []) = true := rfl
          clear hb
          rcases hcase with e | e | e | e | e | ⟨e1, e2, e3, e4, e5⟩
          · have g : (h.k.toNat : Int) = 1 := by rw [e]; rfl
            have HX : Hid (textC (.mk h ks) = [91, 93]) := by unfold Hid; rw [HO.out]; simp [textK, e]
            clear HO HH
            go_wp2_with fail
            go_ret
            exact ⟨by rw [HX.out]; simp [ret_lit], HBw.out⟩
          · have g : (h.k.toNat : Int) = 2 := by rw [e]; rfl
            have HX : Hid (textC (.mk h ks) = [] ++ [40, 41]) := by unfold Hid; rw [HO.out]; simp [textK, e, HH.out]
            have hc1 := run_cat (P := Tryd.prog) [] [40, 41] (by simp; try omega)
            clear HO HH
            go_wp2_with fail
            go_ret
            exact ⟨by rw [HX.out]; simp [ret_lit], HBw.out⟩
          · have g : (h.k.toNat : Int) = 3 := by rw [e]; rfl
            have HX : Hid (textC (.mk h ks) = [] ++ textS h.s) := by unfold Hid; rw [HO.out]; simp [textK, e, HH.out]
            have hc1 := run_cat (P := Tryd.prog) [] (textS h.s) (by simp; omega)
            clear HO HH
            go_wp2_with fail
            refine CS.out.mono ?_
            rintro e' w2 ⟨rfl, hb2⟩
            have hbz := below_from HBw.out hb2
            go_wp2_with fail
            go_ret
            exact ⟨by rw [HX.out]; simp [ret_lit], hbz⟩
          · have g : (h.k.toNat : Int) = 4 := by rw [e]; rfl
            have HX : Hid (textC (.mk h ks) = [] ++ 40 :: (Lib.join (textCs ks) [] ++ [41])) := by unfold Hid; rw [HO.out]; simp [textK, HH.out, e]
            generalize Lib.join (textCs ks) [] = jn at *
            have hc1 := run_cat (P := Tryd.prog) [] [40] (by simp; try omega)
            have hc2 := run_cat (P := Tryd.prog) [40] jn (by simp; omega)
            have hc3 := run_cat (P := Tryd.prog) (40 :: jn) [41] (by simp; omega)
            clear HO HH
            go_wp2_with fail
            refine CJ1.out.mono ?_
            rintro e' w2 ⟨rfl, hb2⟩
            have hbz := below_from HBw.out hb2
            go_wp2_with fail
            go_ret
            exact ⟨by rw [HX.out]; simp [ret_lit], hbz⟩
          · have g : (h.k.toNat : Int) = 5 := by rw [e]; rfl
            have HX : Hid (textC (.mk h ks) = [] ++ 40 :: (Lib.join (textCs ks) [124] ++ [41])) := by unfold Hid; rw [HO.out]; simp [textK, HH.out, e]
            generalize Lib.join (textCs ks) [124] = jn at *
            have hc1 := run_cat (P := Tryd.prog) [] [40] (by simp; try omega)
            have hc2 := run_cat (P := Tryd.prog) [40] jn (by simp; omega)
            have hc3 := run_cat (P := Tryd.prog) (40 :: jn) [41] (by simp; omega)
            clear HO HH
            go_wp2_with fail
            refine CJ2.out.mono ?_
            rintro e' w2 ⟨rfl, hb2⟩
            have hbz := below_from HBw.out hb2
            go_wp2_with fail
            go_ret
            exact ⟨by rw [HX.out]; simp [ret_lit], hbz⟩
          · have g1 : ((h.k.toNat : Int) == 1) = false := k_ne e1 rfl
            have g2 : ((h.k.toNat : Int) == 2) = false := k_ne e2 rfl
            have g3 : ((h.k.toNat : Int) == 3) = false := k_ne e3 rfl
            have g4 : ((h.k.toNat : Int) == 4) = false := k_ne e4 rfl
            have g5 : ((h.k.toNat : Int) == 5) = false := k_ne e5 rfl
            have HX : Hid (textC (.mk h ks) = [] ++ 40 :: (Lib.join (textCs ks) [] ++ [41, 42])) := by unfold Hid; rw [HO.out]; simp [textK, HH.out, e1, e2, e3, e4, e5]
            generalize Lib.join (textCs ks) [] = jn at *
            have hc1 := run_cat (P := Tryd.prog) [] [40] (by simp; try omega)
            have hc2 := run_cat (P := Tryd.prog) [40] jn (by simp; omega)
            have hc3 := run_cat (P := Tryd.prog) (40 :: jn) [41, 42] (by simp; omega)
            clear HO HH
            go_wp2_with fail
            refine CJ1.out.mono ?_
            rintro e' w2 ⟨rfl, hb2⟩
            have hbz := below_from HBw.out hb2
            go_wp2_with fail
            go_ret
            exact ⟨by rw [HX.out]; simp [ret_lit], hbz⟩
        · have HH : Hid (headC h.b = 58 :: (y :: (r ++ [58]))) := by unfold Hid headC; rw [hb]; simp
          rw [hb] at x1 hbl
          simp only [List.length_cons] at hbl
          have ha1 := run_cat (P := Tryd.prog) [58] (y :: r) (by simp; omega)
          have ha2 := run_cat (P := Tryd.prog) (58 :: y :: r) [58] (by simp; omega)
          clear hb
          rcases hcase with e | e | e | e | e | ⟨e1, e2, e3, e4, e5⟩
          · have g : (h.k.toNat : Int) = 1 := by rw [e]; rfl
            have HX : Hid (textC (.mk h ks) = [91, 93]) := by unfold Hid; rw [HO.out]; simp [textK, e]
            clear HO HH
            go_wp2_with fail
            go_ret
            exact ⟨by rw [HX.out]; simp [ret_lit], HBw.out⟩
          · have g : (h.k.toNat : Int) = 2 := by rw [e]; rfl
            have HX : Hid (textC (.mk h ks) = (58 :: (y :: (r ++ [58]))) ++ [40, 41]) := by unfold Hid; rw [HO.out]; simp [textK, e, HH.out]
            have hc1 := run_cat (P := Tryd.prog) (58 :: (y :: (r ++ [58]))) [40, 41] (by simp; try omega)
            clear HO HH
            go_wp2_with fail
            go_ret
            exact ⟨by rw [HX.out]; simp [ret_lit], HBw.out⟩
          · have g : (h.k.toNat : Int) = 3 := by rw [e]; rfl
            have HX : Hid (textC (.mk h ks) = (58 :: (y :: (r ++ [58]))) ++ textS h.s) := by unfold Hid; rw [HO.out]; simp [textK, e, HH.out]
            have hc1 := run_cat (P := Tryd.prog) (58 :: (y :: (r ++ [58]))) (textS h.s) (by simp; omega)
            clear HO HH
            go_wp2_with fail
            refine CS.out.mono ?_
            rintro e' w2 ⟨rfl, hb2⟩
            have hbz := below_from HBw.out hb2
            go_wp2_with fail
            go_ret
            exact ⟨by rw [HX.out]; simp [ret_lit], hbz⟩
          · have g : (h.k.toNat : Int) = 4 := by rw [e]; rfl
            have HX : Hid (textC (.mk h ks) = (58 :: (y :: (r ++ [58]))) ++ 40 :: (Lib.join (textCs ks) [] ++ [41])) := by unfold Hid; rw [HO.out]; simp [textK, HH.out, e]
            generalize Lib.join (textCs ks) [] = jn at *
            have hc1 := run_cat (P := Tryd.prog) (58 :: (y :: (r ++ [58]))) [40] (by simp; try omega)
            have hc2 := run_cat (P := Tryd.prog) (58 :: (y :: (r ++ [58, 40]))) jn (by simp; omega)
            have hc3 := run_cat (P := Tryd.prog) (58 :: (y :: (r ++ 58 :: 40 :: jn))) [41] (by simp; omega)
            clear HO HH
            go_wp2_with fail
            refine CJ1.out.mono ?_
            rintro e' w2 ⟨rfl, hb2⟩
            have hbz := below_from HBw.out hb2
            go_wp2_with fail
            go_ret
            exact ⟨by rw [HX.out]; simp [ret_lit], hbz⟩
          · have g : (h.k.toNat : Int) = 5 := by rw [e]; rfl
            have HX : Hid (textC (.mk h ks) = (58 :: (y :: (r ++ [58]))) ++ 40 :: (Lib.join (textCs ks) [124] ++ [41])) := by unfold Hid; rw [HO.out]; simp [textK, HH.out, e]
            generalize Lib.join (textCs ks) [124] = jn at *
            have hc1 := run_cat (P := Tryd.prog) (58 :: (y :: (r ++ [58]))) [40] (by simp; try omega)
            have hc2 := run_cat (P := Tryd.prog) (58 :: (y :: (r ++ [58, 40]))) jn (by simp; omega)
            have hc3 := run_cat (P := Tryd.prog) (58 :: (y :: (r ++ 58 :: 40 :: jn))) [41] (by simp; omega)
            clear HO HH
            go_wp2_with fail
            refine CJ2.out.mono ?_
            rintro e' w2 ⟨rfl, hb2⟩
            have hbz := below_from HBw.out hb2
            go_wp2_with fail
            go_ret
            exact ⟨by rw [HX.out]; simp [ret_lit], hbz⟩
          · have g1 : ((h.k.toNat : Int) == 1) = false := k_ne e1 rfl
            have g2 : ((h.k.toNat : Int) == 2) = false := k_ne e2 rfl
            have g3 : ((h.k.toNat : Int) == 3) = false := k_ne e3 rfl
            have g4 : ((h.k.toNat : Int) == 4) = false := k_ne e4 rfl
            have g5 : ((h.k.toNat : Int) == 5) = false := k_ne e5 rfl
            have HX : Hid (textC (.mk h ks) = (58 :: (y :: (r ++ [58]))) ++ 40 :: (Lib.join (textCs ks) [] ++ [41, 42])) := by unfold Hid; rw [HO.out]; simp [textK, HH.out, e1, e2, e3, e4, e5]
            generalize Lib.join (textCs ks) [] = jn at *
            have hc1 := run_cat (P := Tryd.prog) (58 :: (y :: (r ++ [58]))) [40] (by simp; try omega)
            have hc2 := run_cat (P := Tryd.prog) (58 :: (y :: (r ++ [58, 40]))) jn (by simp; omega)
            have hc3 := run_cat (P := Tryd.prog) (58 :: (y :: (r ++ 58 :: 40 :: jn))) [41, 42] (by simp; omega)
            clear HO HH
            go_wp2_with fail
            refine CJ1.out.mono ?_
            rintro e' w2 ⟨rfl, hb2⟩
            have hbz := below_from HBw.out hb2
            go_wp2_with fail
            go_ret
            exact ⟨by rw [HX.out]; simp [ret_lit], hbz⟩
end Go.Proofs.YteoghoaggpbkpaaDoor
