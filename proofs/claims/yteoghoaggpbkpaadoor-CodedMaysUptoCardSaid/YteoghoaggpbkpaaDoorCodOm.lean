/- Coded expressions with bits ahead. Expressions, coded. -/
import Derived.Test.YteoghoaggpbkpaaDoorCodAm
import Derived.Test.YteoghoaggpbkpaaDoorBytesRef
import Derived.Deep.RegionHeld3
import Derived.Deep.CutRange
import Derived.Test.YteoghoaggpbkpaaDoorFold
namespace Go.Proofs.YteoghoaggpbkpaaDoor
open Go.RowKit
set_option linter.unusedVariables false
set_option linter.unusedSimpArgs false

/-- a head with bits ahead -/
def fuseH (l : List UInt8) (h : CH) : CH := if h.k = 1 then h else ⟨h.k, l ++ h.b, h.s⟩
theorem fuse_head (l : List UInt8) (h : CH) (ks : List Co) : fuseC l (.mk h ks) = .mk (fuseH l h) ks := by
  simp only [fuseC, fuseH]
  split <;> rfl
set_option maxRecDepth 100000 in
set_option maxHeartbeats 1000000 in
theorem fuse_any (l : List UInt8) (h : CH) (A : Option Addr) (n c : Nat) (w : World) (hl : l.length + h.b.length ≤ 9223372036854775807) :
    Calls Tryd.prog 15 #[.string (str l), coV h A n c] w fun e w' => e = .returned (coV (fuseH l h) A n c) ∧ Below w.heap.size w w' := by
  have hc := run_cat (P := Tryd.prog) l h.b hl
  by_cases hk : h.k = 1
  · have HF : Hid (fuseH l h = h) := by unfold Hid fuseH; rw [if_pos hk]
    have g : ((h.k.toNat : Int) != 1) = false := by rw [hk]; rfl
    clear hk
    go_enter Tryd.func15, Tryd.ntmps15
    go_wp2_with fail
    refine bodyPost_ret (v := coV h A n c) (by simp [results, Tryd.results15, go_sem]) rfl ⟨by rw [HF.out], below_new (below_new (Below.refl _ _) _) _⟩
  · have HF : Hid (fuseH l h = ⟨h.k, l ++ h.b, h.s⟩) := by unfold Hid fuseH; rw [if_neg hk]
    have g : ((h.k.toNat : Int) != 1) = true := by
      rw [bne_iff_ne]
      intro e
      exact hk (UInt8.toNat_inj.1 (by rw [show (1 : UInt8).toNat = 1 from rfl]; omega))
    clear hk
    go_enter Tryd.func15, Tryd.ntmps15
    go_wp2_with fail
    refine bodyPost_ret (v := coV ⟨h.k, l ++ h.b, h.s⟩ A n c) (by simp [results, Tryd.results15, go_sem]) rfl ⟨by rw [HF.out], ?_⟩
    exact below_new (below_new (Below.refl _ _) _) _
set_option maxRecDepth 100000 in
set_option maxHeartbeats 1000000 in
theorem refFuse_any (l : List UInt8) (h : CH) (A : Option Addr) (n c : Nat) (w : World) (hl : l.length + h.b.length ≤ 9223372036854775807) :
    Calls Tryd.prog 17 #[.string (str l), coV h A n c] w fun e w' => e = .returned (coV (fuseH l h) A n c) ∧ Below w.heap.size w w' := by
  have hc := run_cat (P := Tryd.prog) l h.b hl
  by_cases hk : h.k = 1
  · have HF : Hid (fuseH l h = h) := by unfold Hid fuseH; rw [if_pos hk]
    have g : ((h.k.toNat : Int) == 1) = true := by rw [hk]; rfl
    clear hk
    go_enter Tryd.func17, Tryd.ntmps17
    go_wp2_with fail
    refine bodyPost_ret (v := coV h A n c) (by simp [results, Tryd.results17, go_sem]) rfl ⟨by rw [HF.out], below_new (below_new (Below.refl _ _) _) _⟩
  · have HF : Hid (fuseH l h = ⟨h.k, l ++ h.b, h.s⟩) := by unfold Hid fuseH; rw [if_neg hk]
    have g : ((h.k.toNat : Int) == 1) = false := by
      rw [beq_eq_false_iff_ne]
      intro e
      exact hk (UInt8.toNat_inj.1 (by rw [show (1 : UInt8).toNat = 1 from rfl]; omega))
    clear hk
    go_enter Tryd.func17, Tryd.ntmps17
    go_wp2_with fail
    refine bodyPost_ret (v := coV ⟨h.k, l ++ h.b, h.s⟩ A n c) (by simp [results, Tryd.results17, go_sem]) rfl ⟨by rw [HF.out], ?_⟩
    exact below_new (below_new (Below.refl _ _) _) _
end Go.Proofs.YteoghoaggpbkpaaDoor
namespace Go.Proofs.YteoghoaggpbkpaaDoor
open Go.RowKit
set_option linter.unusedVariables false
set_option linter.unusedSimpArgs false

/-- a kid, coded: in one of two with a bit ahead -/
def ofK (k : UInt8) (i : Nat) (x : Co) : Co := if k = 5 then fuseC [UInt8.ofNat (48 + i)] x else x
mutual
/-- an expression, coded -/
def ofC : Re → Co
  | .mk h ks => .mk ⟨h.k, [], h.s⟩ (ofCs h.k 0 ks)
def ofCs (k : UInt8) : Nat → List Re → List Co
  | _, [] => []
  | i, t :: ts => ofK k i (ofC t) :: ofCs k (i + 1) ts
end
theorem ofCs_length (k : UInt8) : ∀ (i : Nat) (ts : List Re), (ofCs k i ts).length = ts.length
  | _, [] => rfl
  | i, t :: ts => by simp only [ofCs, List.length_cons, ofCs_length k (i + 1) ts]
theorem ofCs_app (k : UInt8) : ∀ (i : Nat) (ts us : List Re), ofCs k i (ts ++ us) = ofCs k i ts ++ ofCs k (i + ts.length) us
  | i, [], us => by simp [ofCs]
  | i, t :: ts, us => by
    simp only [List.cons_append, ofCs, ofCs_app k (i + 1) ts us, List.length_cons]
    rw [show i + 1 + ts.length = i + (ts.length + 1) by omega]
theorem ofCs_take (k : UInt8) {ts : List Re} {i : Nat} {t : Re} (h : ts[i]? = some t) : ofCs k 0 (ts.take (i + 1)) = ofCs k 0 (ts.take i) ++ [ofK k i (ofC t)] := by
  have hi : i < ts.length := (List.getElem?_eq_some_iff.1 h).1
  rw [List.take_add_one, h, ofCs_app, List.length_take, Nat.zero_add, Nat.min_eq_left (Nat.le_of_lt hi)]
  rfl
theorem ok_two {h : RH} {ks : List Re} (H : okT (.mk h ks) = true) : ks.length ≤ 2 ∧ okL ks = true := by
  simp only [okT, Bool.and_eq_true] at H
  refine ⟨?_, H.2⟩
  have H1 := H.1
  unfold okNode at H1
  split at H1
  · simp at H1; simp [H1.1]
  · split at H1
    · simp at H1; simp [H1.1]
    · split at H1
      · simp at H1; omega
      · split at H1
        · simp at H1; omega
        · cases H1
theorem seven_setCells {w : World} {b : Nat} {v0 v1 v2 v3 v4 v5 v6 u0 u1 u2 u3 u4 u5 u6 : Value} {t : TypeId} (h : w.heap[b]? = some (.cells #[v0, v1, v2, v3, v4, v5, v6] t (0, 0))) :
    (((((((w.setCell ⟨b, 0, none⟩ u0).setCell ⟨b, 1, none⟩ u1).setCell ⟨b, 2, none⟩ u2).setCell ⟨b, 3, none⟩ u3).setCell ⟨b, 4, none⟩ u4).setCell ⟨b, 5, none⟩ u5).setCell ⟨b, 6, none⟩ u6).heap[b]? = some (.cells #[u0, u1, u2, u3, u4, u5, u6] t (0, 0)) := by
  simp [World.setCell, Array.getElem?_modify, h]
theorem seven_other {w : World} {b k : Nat} {u0 u1 u2 u3 u4 u5 u6 : Value} (hk : k ≠ b) :
    (((((((w.setCell ⟨b, 0, none⟩ u0).setCell ⟨b, 1, none⟩ u1).setCell ⟨b, 2, none⟩ u2).setCell ⟨b, 3, none⟩ u3).setCell ⟨b, 4, none⟩ u4).setCell ⟨b, 5, none⟩ u5).setCell ⟨b, 6, none⟩ u6).heap[k]? = w.heap[k]? := by
  rw [Below.heap_setCell _ _ _ _ hk, Below.heap_setCell _ _ _ _ hk, Below.heap_setCell _ _ _ _ hk, Below.heap_setCell _ _ _ _ hk, Below.heap_setCell _ _ _ _ hk, Below.heap_setCell _ _ _ _ hk, Below.heap_setCell _ _ _ _ hk]
theorem seven_below {w x : World} {b B : Nat} {u0 u1 u2 u3 u4 u5 u6 : Value} (hb : Below B w x) (hB : B ≤ b) :
    Below B w (((((((x.setCell ⟨b, 0, none⟩ u0).setCell ⟨b, 1, none⟩ u1).setCell ⟨b, 2, none⟩ u2).setCell ⟨b, 3, none⟩ u3).setCell ⟨b, 4, none⟩ u4).setCell ⟨b, 5, none⟩ u5).setCell ⟨b, 6, none⟩ u6) :=
  ((((((hb.setCell hB _).setCell hB _).setCell hB _).setCell hB _).setCell hB _).setCell hB _).setCell hB _
theorem co_cells {w : World} {b : Nat} {v0 v1 v2 v3 v4 v5 v6 : Value} {t : TypeId} (h : w.heap[b]? = some (.cells #[v0, v1, v2, v3, v4, v5, v6] t (0, 0))) :
    (w.cell? ⟨b, 0, none⟩ = some v0 ∧ w.cell? ⟨b, 1, none⟩ = some v1 ∧ w.cell? ⟨b, 2, none⟩ = some v2 ∧ w.cell? ⟨b, 3, none⟩ = some v3 ∧ w.cell? ⟨b, 4, none⟩ = some v4 ∧ w.cell? ⟨b, 5, none⟩ = some v5 ∧ w.cell? ⟨b, 6, none⟩ = some v6) ∧
    w.frozen? ⟨b, 0, none⟩ = false ∧ w.frozen? ⟨b, 1, none⟩ = false ∧ w.frozen? ⟨b, 2, none⟩ = false ∧ w.frozen? ⟨b, 3, none⟩ = false ∧ w.frozen? ⟨b, 4, none⟩ = false ∧ w.frozen? ⟨b, 5, none⟩ = false ∧ w.frozen? ⟨b, 6, none⟩ = false := by
  refine ⟨⟨?_, ?_, ?_, ?_, ?_, ?_, ?_⟩, ?_, ?_, ?_, ?_, ?_, ?_, ?_⟩ <;> simp [World.cell?, World.frozen?, h]
abbrev coZ : Array Value := #[.int .u8 0, .string ⟨#[]⟩, .int .u64 0, .int .u64 0, .int .u64 0, .int .u64 0, .slice none 0 0]
/-- a value that is a coded expression, in new blocks -/
def CoPost (B : Nat) (t : Co) (w : World) (e : Ending) (w' : World) : Prop := ∃ h ks A c, e = .returned (coV h A ks.length c) ∧ t = .mk h ks ∧ ks.length ≤ c ∧ InRow CE (fun x => B ≤ x) w' ks A 0 ∧ Below w.heap.size w w'
theorem co_src {P : Nat → Prop} {w : World} {h : CH} {ks : List Co} {A : Option Addr} {c : Nat} (hc : ks.length ≤ c) (hr : InRow CE P w ks A 0) : ∀ (k : Nat) (t : Co), [T.mk h ks][k]? = some t → ∃ d, (∀ j u, d[j]? = some u → (coA h A ks.length c).toList[k * 7 + j]? = some u) ∧ InT CE P w t d := by
  intro k t ht
  cases k with
  | succ k => simp at ht
  | zero =>
    simp at ht
    subst ht
    refine ⟨CH.cells h ++ [.slice A ks.length c], fun j u hu => by simpa [CH.cells] using hu, ?_⟩
    simp only [InT]
    exact ⟨A, c, rfl, hc, hr⟩

theorem row_seven {w : World} {ok : Nat → Prop} {ks : List Co} {A : Option Addr} {i : Nat} {b : Nat} {u0 u1 u2 u3 u4 u5 u6 : Value} (h : InRow CE ok w ks A i) (hp : ∀ x, ok x → x ≠ b) :
    InRow CE ok (((((((w.setCell ⟨b, 0, none⟩ u0).setCell ⟨b, 1, none⟩ u1).setCell ⟨b, 2, none⟩ u2).setCell ⟨b, 3, none⟩ u3).setCell ⟨b, 4, none⟩ u4).setCell ⟨b, 5, none⟩ u5).setCell ⟨b, 6, none⟩ u6) ks A i :=
  h.keep (fun _ h => h) fun a u ha hu => (World.cell?_of_block (seven_other (hp _ ha))).trans hu
theorem own_inE {α : Type} {E : Enc α} {ok : Nat → Prop} {w : World} {base : Nat} {e : TypeId} {v : Value} {ts : List (T α)} (h : OwnT E ok w base e v ts) {g : Nat} (hv : v.ownBlock = some g) : base ≤ g ∧ g < w.heap.size := by
  obtain ⟨cs, ho⟩ := h.own
  exact ho.lt g hv
theorem OwnT.grown_bE {α : Type} {E : Enc α} {ok : Nat → Prop} {w w' : World} {base b : Nat} {e : TypeId} {v : Value} {ts : List (T α)} (h : OwnT E ok w base e v ts) (hg : w.grownBy w' (some b)) (hbb : b < base) (hok : ∀ x, ok x → x ≠ b) : OwnT E ok w' base e v ts := by
  obtain ⟨h0, cs, ho, hk⟩ := h
  refine ⟨h0, cs, ho.kept hg ?_, fun k t ht => ?_⟩
  · cases hv : v.ownBlock with
    | none => exact .inl rfl
    | some g => exact .inr (by intro e; cases e; have := own_base ho _ hv; omega)
  · obtain ⟨c, h1, h2⟩ := hk k t ht
    exact ⟨c, h1, h2.grown hg fun x hx e => hok x hx (Option.some.inj e)⟩
theorem set_grown (w : World) (b : Nat) (o : Nat) (v : Value) : w.grownBy (w.setCell ⟨b, o, none⟩ v) (some b) :=
  ⟨rfl, rfl, rfl, by simp, fun k _ hr => Below.heap_setCell _ _ _ _ (by show k ≠ b; rintro rfl; exact hr rfl)⟩
theorem set_six {w : World} {b : Nat} {v0 v1 v2 v3 v4 v5 v6 u : Value} {t : TypeId} (h : w.heap[b]? = some (.cells #[v0, v1, v2, v3, v4, v5, v6] t (0, 0))) : (w.setCell ⟨b, 6, none⟩ u).heap[b]? = some (.cells #[v0, v1, v2, v3, v4, v5, u] t (0, 0)) := by
  simp [World.setCell, Array.getElem?_modify, h]
set_option maxRecDepth 100000 in
set_option maxHeartbeats 4000000 in
theorem of_upto (n : Nat) : ∀ (ok : Nat → Prop) (h : RH) (ks : List Re) (A : Option Addr) (c : Nat) (w : World), 1 + T.sizes ks ≤ n → okT (.mk h ks) = true → ks.length ≤ c → InRow RE ok w ks A 0 →
    Calls Tryd.prog 43 #[reV h A ks.length c] w (CoPost w.heap.size (ofC (.mk h ks)) w) := by
  induction n with
  | zero => intro ok h ks A c w h0; omega
  | succ n ih =>
    intro ok h ks A c w hn ho hc hr
    obtain ⟨h2, hks⟩ := ok_two ho
    have IH := Lib.hid ih
    clear ih
    have HOK : Hid (∀ t ∈ ks, okT t = true) := fun t ht => by rw [okL_all] at hks; exact List.all_eq_true.1 hks t ht
    have HS : Hid (∀ t ∈ ks, t.size ≤ n) := fun t ht => by have := T.sizes_mem ht; omega
    have HO : Hid (ofC (.mk h ks) = .mk ⟨h.k, [], h.s⟩ (ofCs h.k 0 ks)) := by simp only [Hid, ofC]
    have HT0 : Hid (ofCs h.k 0 (ks.take 0) = []) := rfl
    have hkn := h.k.toNat_lt
    obtain ⟨W, hW⟩ : ∃ W, ((w.alloc (.cells (reA h A ks.length c) 42)).alloc (.cells coZ 29)).alloc (.cells (coA ⟨h.k, [], h.s⟩ none 0 0) 29) = W := ⟨_, rfl⟩
    have hbW : Below w.heap.size w W := by rw [← hW]; exact below_new (below_new (below_new (Below.refl _ _) _) _) _
    have e1 : W.heap[w.heap.size]? = some (.cells (reA h A ks.length c) 42 (0, 0)) := by
      rw [← hW]
      exact heap_keep1 (heap_keep1 (new_at1 (w := w) _) _) _
    have e2 : W.heap[w.heap.size + 1]? = some (.cells coZ 29 (0, 0)) := by
      rw [← hW]
      have := heap_keep1 (new_at1 (w := w.alloc (.cells (reA h A ks.length c) 42)) (.cells coZ 29)) (.cells (coA ⟨h.k, [], h.s⟩ none 0 0) 29)
      rw [World.size_alloc] at this
      exact this
    have e3 : W.heap[w.heap.size + 1 + 1]? = some (.cells (coA ⟨h.k, [], h.s⟩ none 0 0) 29 (0, 0)) := by
      rw [← hW]
      have := new_at1 (w := (w.alloc (.cells (reA h A ks.length c) 42)).alloc (.cells coZ 29)) (.cells (coA ⟨h.k, [], h.s⟩ none 0 0) 29)
      rw [World.size_alloc, World.size_alloc] at this
      exact this
    have HR := Lib.hid hr
    have HB0 := Lib.hid hbW
    have E1 := Lib.hid e1
    have E2 := Lib.hid e2
    have E3 := Lib.hid e3
    have HWW := Lib.hid hW
    have hsW := lt_of_block e3
    have hO0 : Hid (OwnT CE (fun _ => False) W (w.heap.size + 1 + 1 + 1) 29 (.slice none 0 0) (ofCs h.k 0 (ks.take 0))) := by rw [HT0.out]; exact OwnT.nil_ _ _ _ _ _
    clear ho hks hr hbW e1 e2 e3 hW
    go_enter Tryd.func43, Tryd.ntmps43
    go_wp2_with fail
    rw [show ((w.alloc (.cells (reA h A ks.length c) 42)).alloc (.cells coZ 29)).alloc (.cells #[.int .u8 (h.k.toNat : Int), .string ⟨#[]⟩, .int .u64 (h.s.a.toNat : Int), .int .u64 (h.s.b.toNat : Int), .int .u64 (h.s.c.toNat : Int), .int .u64 (h.s.d.toNat : Int), .slice none 0 0] 29) = W from HWW.out]
    clear HWW
    go_loopw [15] (fun i wr => ∃ (k : Nat) (o : Value) (okk : Nat → Prop), k ≤ ks.length ∧ i = .int .i64 (k : Nat) ∧ Hid (OwnT CE okk wr (w.heap.size + 1 + 1 + 1) 29 o (ofCs h.k 0 (ks.take k))) ∧ Hid (∀ x, okk x → w.heap.size + 1 + 1 < x ∧ x < wr.heap.size) ∧
      Hid (wr.heap[w.heap.size + 1 + 1]? = some (.cells #[.int .u8 (h.k.toNat : Int), .string ⟨#[]⟩, .int .u64 (h.s.a.toNat : Int), .int .u64 (h.s.b.toNat : Int), .int .u64 (h.s.c.toNat : Int), .int .u64 (h.s.d.toNat : Int), o] 29 (0, 0))) ∧
      Hid (wr.heap[w.heap.size]? = some (.cells (reA h A ks.length c) 42 (0, 0))) ∧ Hid (wr.heap[w.heap.size + 1]? = some (.cells coZ 29 (0, 0))) ∧ Hid (Below w.heap.size w wr)) (fun i _ => ks.length - (intOf i).toNat)
    case atStart => exact ⟨0, _, _, Nat.zero_le _, rfl, hO0, Lib.hid (fun x hx => hx.elim), E3, E1, E2, HB0⟩
    case round =>
      clear hO0 E1 E2 E3 HB0 HT0
      obtain ⟨k, o, okk, hk, rfl, HOw, HK, E3, E1, E2, HB⟩ := hrel
      have hsw := lt_of_block E3.out
      by_cases hlt : k < ks.length
      · obtain ⟨t, ad, h1, ls, A1, c1, hA, hx, rfl, hc1, hr1, q0, q1, q2, q3, q4, q5⟩ := re_at (HR.out.below HB.out) hlt
        subst hA
        have hmem := List.mem_of_getElem? hx
        have hs1 := HS.out _ hmem
        have ho1 := HOK.out _ hmem
        simp only [T.size] at hs1
        have HTk := Lib.hid (ofCs_take h.k hx)
        obtain ⟨w1, hw1⟩ : ∃ w1, wr.alloc (.cells (reA h1 A1 ls.length c1) 42) = w1 := ⟨_, rfl⟩
        have hb1 : Below wr.heap.size wr w1 := by rw [← hw1]; exact below_new (Below.refl _ _) _
        have HC := Lib.hid (IH.out ok h1 ls A1 c1 w1 hs1 ho1 hc1 (hr1.below hb1))
        have HB1 := Lib.hid (below_from HB.out hb1)
        have HO1 := Lib.hid (HOw.out.keep hb1)
        have E31 := Lib.hid ((hb1.block _ (lt_of_block E3.out)).trans E3.out)
        have E11 := Lib.hid ((hb1.block _ (lt_of_block E1.out)).trans E1.out)
        have E21 := Lib.hid ((hb1.block _ (lt_of_block E2.out)).trans E2.out)
        have HK1 : Hid (∀ x, okk x → w.heap.size + 1 + 1 < x ∧ x < w1.heap.size) := fun x hx => by have := HK.out x hx; have := hb1.size; omega
        have hoi0 : ∀ g, Value.ownBlock o = some g → w.heap.size + 1 + 1 + 1 ≤ g ∧ g < w1.heap.size := fun g hg => own_inE HO1.out hg
        rw [← hw1] at HC
        have HW1 := Lib.hid hw1
        clear hx hr1 hb1 hw1 E1 E2 E3 HB HOw HK hmem hs1 ho1
        go_wp2_with fail
        refine HC.out.mono ?_
        rw [HW1.out]
        rintro e w2 ⟨h2', k2, A2, c2, rfl, e2, hc2, hr2, hb2⟩
        have hw1s := lt_of_block E31.out
        obtain ⟨w3, hw3⟩ : ∃ w3, w2.alloc (.cells (coA h2' A2 k2.length c2) 29) = w3 := ⟨_, rfl⟩
        have hb3 : Below w2.heap.size w2 w3 := by rw [← hw3]; exact below_new (Below.refl _ _) _
        have hb23 := below_from hb2 hb3
        have x3 : w3.heap[w2.heap.size]? = some (.cells (coA h2' A2 k2.length c2) 29 (0, 0)) := by rw [← hw3]; exact new_at1 _
        have HB2 := Lib.hid (below_from HB1.out hb2)
        have HO2 := Lib.hid (HO1.out.keep hb2)
        have E32 := Lib.hid ((hb2.block _ (lt_of_block E31.out)).trans E31.out)
        have E12 := Lib.hid ((hb2.block _ (lt_of_block E11.out)).trans E11.out)
        have E22 := Lib.hid ((hb2.block _ (lt_of_block E21.out)).trans E21.out)
        have HR2 := Lib.hid hr2.there
        have e13 := (hb23.block _ (lt_of_block E11.out)).trans E11.out
        have hsz2 := hb2.size
        have X3 := Lib.hid x3
        have ET := Lib.hid e2
        have HC2 := Lib.hid hc2
        obtain ⟨⟨y0, y1, y2, y3, y4, y5⟩, _⟩ := re_cells e13
        have HW3 := Lib.hid hw3
        clear e2 hc2 hr2 hb2 hb3 hb23 x3 e13 hw3 HC HW1 HB1 HO1 E31 E11 E21 q0 q1 q2 q3 q4 q5
        -- ROUND
        have hbn : Hid (h2'.b = []) := by
          unfold Hid
          have := ET.out
          simp only [ofC, T.mk.injEq] at this
          rw [← this.1]
        by_cases h5 : h.k = 5
        · have g5 : ((h.k.toNat : Int) == 5) = true := by rw [h5]; rfl
          obtain ⟨⟨x0, x1, x2, x3, x4, x5, x6⟩, f0, f1, f2, f3, f4, f5, f6⟩ := co_cells X3.out
          have hk2 : k = 0 ∨ k = 1 := by omega
          rcases hk2 with rfl | rfl
          · have EK : Hid (ofK h.k 0 (ofC (.mk h1 ls)) = .mk (fuseH [48] h2') k2) := by
              unfold Hid ofK
              rw [if_pos h5, ET.out, fuse_head]
              rfl
            have CF := Lib.hid (fun X => fuse_any [48] h2' A2 k2.length c2 X (by rw [hbn.out]; decide))
            clear h5
            obtain ⟨hx, hhx⟩ : ∃ hx, fuseH [48] h2' = hx := ⟨_, rfl⟩
            rw [hhx] at EK CF
            have HHX := Lib.hid hhx
            clear hhx
            have hoi : ∀ g, Value.ownBlock o = some g → w.heap.size + 1 + 1 + 1 ≤ g ∧ g < w1.heap.size := hoi0
            have hw3 := HW3.out
            subst hw3
            go_wp2_with fail
            have hz3 : Below w2.heap.size w2 (w2.alloc (.cells (coA h2' A2 k2.length c2) 29)) := below_new (Below.refl _ _) _
            generalize hw3 : w2.alloc (.cells (coA h2' A2 k2.length c2) 29) = w3 at *
            clear hw3
            have hz := Below.refl w3.heap.size w3
            have za0 := fun o => keep_cell (below_new (Below.refl _ w3) o) x0
            have za1 := fun o => keep_cell (below_new (Below.refl _ w3) o) x1
            have za2 := fun o => keep_cell (below_new (Below.refl _ w3) o) x2
            have za3 := fun o => keep_cell (below_new (Below.refl _ w3) o) x3
            have za4 := fun o => keep_cell (below_new (Below.refl _ w3) o) x4
            have za5 := fun o => keep_cell (below_new (Below.refl _ w3) o) x5
            have za6 := fun o => keep_cell (below_new (Below.refl _ w3) o) x6
            have zd0 := fun o => keep_cell (below_new (Below.refl _ w3) o).drew x0
            have zd1 := fun o => keep_cell (below_new (Below.refl _ w3) o).drew x1
            have zd2 := fun o => keep_cell (below_new (Below.refl _ w3) o).drew x2
            have zd3 := fun o => keep_cell (below_new (Below.refl _ w3) o).drew x3
            have zd4 := fun o => keep_cell (below_new (Below.refl _ w3) o).drew x4
            have zd5 := fun o => keep_cell (below_new (Below.refl _ w3) o).drew x5
            have zd6 := fun o => keep_cell (below_new (Below.refl _ w3) o).drew x6
            go_region_with (first | (go_at_call 15; refine (CF.out _).mono ?_; rintro e wf ⟨rfl, hbf⟩; have hz := below_from (by first | exact hz.drew | exact (below_new hz _).drew | exact below_new hz.drew _ | exact hz | exact below_new hz _) hbf; have hxf := (hz.block _ (lt_of_block X3.out)).trans X3.out; obtain ⟨⟨x0, x1, x2, x3, x4, x5, x6⟩, f0, f1, f2, f3, f4, f5, f6⟩ := co_cells hxf) | fail)
            all_goals
              have hbX0 := hz3.trans (hz.mono hz3.size)
              have XB := Lib.hid (seven_setCells (u0 := .int .u8 (hx.k.toNat : Int)) (u1 := .string (str hx.b)) (u2 := .int .u64 (hx.s.a.toNat : Int)) (u3 := .int .u64 (hx.s.b.toNat : Int)) (u4 := .int .u64 (hx.s.c.toNat : Int)) (u5 := .int .u64 (hx.s.d.toNat : Int)) (u6 := .slice A2 k2.length c2) hxf)
              have hbX := seven_below (u0 := .int .u8 (hx.k.toNat : Int)) (u1 := .string (str hx.b)) (u2 := .int .u64 (hx.s.a.toNat : Int)) (u3 := .int .u64 (hx.s.b.toNat : Int)) (u4 := .int .u64 (hx.s.c.toNat : Int)) (u5 := .int .u64 (hx.s.d.toNat : Int)) (u6 := .slice A2 k2.length c2) hbX0 (Nat.le_refl w2.heap.size)
              clear hz hbf hxf za0 za1 za2 za3 za4 za5 za6 zd0 zd1 zd2 zd3 zd4 zd5 zd6 x0 x1 x2 x3 x4 x5 x6 f0 f1 f2 f3 f4 f5 f6 hbX0
              go_upto_region 8 with fail
              generalize ((((((wf.setCell ⟨w2.heap.size, 0, none⟩ (.int .u8 (hx.k.toNat : Int))).setCell ⟨w2.heap.size, 1, none⟩ (.string (str hx.b))).setCell ⟨w2.heap.size, 2, none⟩ (.int .u64 (hx.s.a.toNat : Int))).setCell ⟨w2.heap.size, 3, none⟩ (.int .u64 (hx.s.b.toNat : Int))).setCell ⟨w2.heap.size, 4, none⟩ (.int .u64 (hx.s.c.toNat : Int))).setCell ⟨w2.heap.size, 5, none⟩ (.int .u64 (hx.s.d.toNat : Int))).setCell ⟨w2.heap.size, 6, none⟩ (.slice A2 k2.length c2) = wX at *
              have E3 := Lib.hid ((hbX.block _ (lt_of_block E32.out)).trans E32.out)
              have E1 := Lib.hid ((hbX.block _ (lt_of_block E12.out)).trans E12.out)
              have E2 := Lib.hid ((hbX.block _ (lt_of_block E22.out)).trans E22.out)
              have HO := Lib.hid (HO2.out.keep hbX)
              have HR := Lib.hid (HR2.out.below hbX)
              have HB := Lib.hid (below_from HB2.out hbX)
              obtain ⟨⟨x0, x1, x2, x3, x4, x5, x6⟩, _⟩ := co_cells XB.out
              obtain ⟨⟨z0, z1, z2, z3, z4, z5, z6⟩, _⟩ := co_cells E3.out
              have hX2 := lt_of_block XB.out
              have hXb : Below wX.heap.size wX (wX.alloc (.cells (coA hx A2 k2.length c2) 29)) := below_new (Below.refl _ _) _
              have ho5 : OwnT CE (fun x => okk x ∨ (w1.heap.size ≤ x ∧ x < w2.heap.size)) (wX.alloc (.cells (coA hx A2 k2.length c2) 29)) (w.heap.size + 1 + 1 + 1) 29 o (ofCs h.k 0 (ks.take 0)) := (HO.out.keep hXb).narrow (fun x hx => .inl hx) fun x hx e => by
                rcases hx with hx | hx
                · exact HO.out.1 x hx e
                · have := hoi x e.symm; omega
              obtain ⟨h0, cs0, hown0, hk0⟩ := ho5
              have hsrc := new_src wX 1 7 (coA hx A2 k2.length c2) 29 rfl
              have HN : Hid (∀ (j : Nat) (t' : Co), [ofK h.k 0 (ofC (.mk h1 ls))][j]? = some t' → ∃ d, (∀ i u, d[i]? = some u → (coA hx A2 k2.length c2).toList[j * 7 + i]? = some u) ∧ InT CE (fun x => okk x ∨ (w1.heap.size ≤ x ∧ x < w2.heap.size)) (wX.alloc (.cells (coA hx A2 k2.length c2) 29)) t' d) := by
                unfold Hid
                rw [EK.out]
                exact co_src HC2.out ((HR.out.below hXb).weak fun x hx => .inr hx)
              have E35 := Lib.hid ((hXb.block _ (lt_of_block E3.out)).trans E3.out)
              have E15 := Lib.hid ((hXb.block _ (lt_of_block E1.out)).trans E1.out)
              have E25 := Lib.hid ((hXb.block _ (lt_of_block E2.out)).trans E2.out)
              have HB5 := Lib.hid (below_from HB.out hXb)
              have HLL : Hid ((ofCs h.k 0 (ks.take 0)).length ≤ 2) := by unfold Hid; rw [ofCs_length, List.length_take]; omega
              clear hXb HO HR E3 E1 E2 HB XB hbX
              go_wp2_with (at_builtin; refine wpList_app _ rfl (.tmp 32) (.tmp 34) 22 rfl (w.heap.size + 1 + 1 + 1) 29 _ 7 80 Tryd.underlying22 Tryd.info_co rfl (by decide) _ _ _ rfl hown0 (some ⟨wX.heap.size, 0, none⟩) 1 1 _ rfl hsrc ?h1 ?h2 ?h3 ?h4 ?_)
              case h1 => first | (intro u hu; simp at hu; rcases hu with rfl | rfl | rfl | rfl | rfl | rfl | rfl <;> rfl) | (simp [Value.oneCell']; done) | trivial
              case h2 => have := HLL.out; first | (unfold maxLen; omega) | (unfold maxLen; simp [ofCs]; done) | (unfold maxLen; simp [ofCs]; omega)
              case h3 => have := HLL.out; first | omega | (simp [ofCs]; done) | (simp [ofCs]; omega)
              case h4 => have := lt_of_block E35.out; omega
              intro v5 w5 ho5 hg5 hat5
              obtain ⟨A5, c5, hv5, _, _⟩ := own_slice ho5
              subst hv5
              have hs5 := hg5.size
              rw [World.size_alloc] at hs5
              have hr5 := OwnT.app (ys := [ofK h.k 0 (ofC (.mk h1 ls))]) h0 hown0 hk0 HN.out ho5 hg5 (by rw [World.size_alloc]; exact hat5) (fun x hx => by rw [World.size_alloc]; rcases hx with hx | hx; have := HK1.out x hx; omega; omega)
              have hne : ∀ j, j ≤ w.heap.size + 1 + 1 → some j ≠ Value.ownBlock o := fun j hj e => by have := own_base hown0 j e.symm; omega
              have e36 := (hg5.block _ (lt_of_block E35.out) (hne _ (Nat.le_refl _))).trans E35.out
              have E16 := Lib.hid ((hg5.block _ (lt_of_block E15.out) (hne _ (by omega))).trans E15.out)
              have E26 := Lib.hid ((hg5.block _ (lt_of_block E25.out) (hne _ (by omega))).trans E25.out)
              have HB6 := Lib.hid (HB5.out.grown hg5 HB5.out.size (fun j hj => by have := own_base hown0 j hj; omega))
              obtain ⟨⟨a0, a1, a2, a3, a4, a5, a6⟩, b0, b1, b2, b3, b4, b5, b6⟩ := co_cells e36
              have hok5 : ∀ x, (okk x ∨ (w1.heap.size ≤ x ∧ x < w2.heap.size)) → w.heap.size + 1 + 1 < x ∧ x < w5.heap.size := fun x hx => by rcases hx with hx | hx; have := HK1.out x hx; omega; omega
              have HO6 := Lib.hid (hr5.grown_bE (set_grown w5 (w.heap.size + 1 + 1) 6 (Value.slice A5 ((ofCs h.k 0 (ks.take 0)).length + 1) c5)) (by omega) (fun x hx => by have := hok5 x hx; omega))
              have E36 := Lib.hid (set_six (u := (Value.slice A5 ((ofCs h.k 0 (ks.take 0)).length + 1) c5)) e36)
              have HK5 : Hid (∀ x, (okk x ∨ (w1.heap.size ≤ x ∧ x < w2.heap.size)) → w.heap.size + 1 + 1 < x ∧ x < (w5.setCell ⟨w.heap.size + 1 + 1, 6, none⟩ (Value.slice A5 ((ofCs h.k 0 (ks.take 0)).length + 1) c5)).heap.size) := fun x hx => by have := hok5 x hx; simpa using this
              clear ho5 hg5 hat5 hown0 hk0 h0 hsrc HN hne E35 E15 E25 HB5 e36 hr5 hok5 x0 x1 x2 x3 x4 x5 x6 z0 z1 z2 z3 z4 z5 z6
              go_wp2_with fail
              go_roundw
              case rel => exact ⟨0 + 1, _, _, by omega, by go_num, by rw [HTk.out]; exact HO6, HK5, E36, Lib.hid ((Below.heap_setCell _ _ _ _ (by show w.heap.size ≠ w.heap.size + 1 + 1; omega)).trans E16.out), Lib.hid ((Below.heap_setCell _ _ _ _ (by show w.heap.size + 1 ≠ w.heap.size + 1 + 1; omega)).trans E26.out), Lib.hid (HB6.out.setCell (p := ⟨w.heap.size + 1 + 1, 6, none⟩) (by show w.heap.size ≤ w.heap.size + 1 + 1; omega) _)⟩
              case measure => simp [intOf]; omega
          · have EK : Hid (ofK h.k 1 (ofC (.mk h1 ls)) = .mk (fuseH [49] h2') k2) := by
              unfold Hid ofK
              rw [if_pos h5, ET.out, fuse_head]
              rfl
            have CF := Lib.hid (fun X => fuse_any [49] h2' A2 k2.length c2 X (by rw [hbn.out]; decide))
            clear h5
            obtain ⟨hx, hhx⟩ : ∃ hx, fuseH [49] h2' = hx := ⟨_, rfl⟩
            rw [hhx] at EK CF
            have HHX := Lib.hid hhx
            clear hhx
            have hoi : ∀ g, Value.ownBlock o = some g → w.heap.size + 1 + 1 + 1 ≤ g ∧ g < w1.heap.size := hoi0
            have hw3 := HW3.out
            subst hw3
            go_wp2_with fail
            have hz3 : Below w2.heap.size w2 (w2.alloc (.cells (coA h2' A2 k2.length c2) 29)) := below_new (Below.refl _ _) _
            generalize hw3 : w2.alloc (.cells (coA h2' A2 k2.length c2) 29) = w3 at *
            clear hw3
            have hz := Below.refl w3.heap.size w3
            have za0 := fun o => keep_cell (below_new (Below.refl _ w3) o) x0
            have za1 := fun o => keep_cell (below_new (Below.refl _ w3) o) x1
            have za2 := fun o => keep_cell (below_new (Below.refl _ w3) o) x2
            have za3 := fun o => keep_cell (below_new (Below.refl _ w3) o) x3
            have za4 := fun o => keep_cell (below_new (Below.refl _ w3) o) x4
            have za5 := fun o => keep_cell (below_new (Below.refl _ w3) o) x5
            have za6 := fun o => keep_cell (below_new (Below.refl _ w3) o) x6
            have zd0 := fun o => keep_cell (below_new (Below.refl _ w3) o).drew x0
            have zd1 := fun o => keep_cell (below_new (Below.refl _ w3) o).drew x1
            have zd2 := fun o => keep_cell (below_new (Below.refl _ w3) o).drew x2
            have zd3 := fun o => keep_cell (below_new (Below.refl _ w3) o).drew x3
            have zd4 := fun o => keep_cell (below_new (Below.refl _ w3) o).drew x4
            have zd5 := fun o => keep_cell (below_new (Below.refl _ w3) o).drew x5
            have zd6 := fun o => keep_cell (below_new (Below.refl _ w3) o).drew x6
            go_region_with (first | (go_at_call 15; refine (CF.out _).mono ?_; rintro e wf ⟨rfl, hbf⟩; have hz := below_from (by first | exact hz.drew | exact (below_new hz _).drew | exact below_new hz.drew _ | exact hz | exact below_new hz _) hbf; have hxf := (hz.block _ (lt_of_block X3.out)).trans X3.out; obtain ⟨⟨x0, x1, x2, x3, x4, x5, x6⟩, f0, f1, f2, f3, f4, f5, f6⟩ := co_cells hxf) | fail)
            all_goals
              have hbX0 := hz3.trans (hz.mono hz3.size)
              have XB := Lib.hid (seven_setCells (u0 := .int .u8 (hx.k.toNat : Int)) (u1 := .string (str hx.b)) (u2 := .int .u64 (hx.s.a.toNat : Int)) (u3 := .int .u64 (hx.s.b.toNat : Int)) (u4 := .int .u64 (hx.s.c.toNat : Int)) (u5 := .int .u64 (hx.s.d.toNat : Int)) (u6 := .slice A2 k2.length c2) hxf)
              have hbX := seven_below (u0 := .int .u8 (hx.k.toNat : Int)) (u1 := .string (str hx.b)) (u2 := .int .u64 (hx.s.a.toNat : Int)) (u3 := .int .u64 (hx.s.b.toNat : Int)) (u4 := .int .u64 (hx.s.c.toNat : Int)) (u5 := .int .u64 (hx.s.d.toNat : Int)) (u6 := .slice A2 k2.length c2) hbX0 (Nat.le_refl w2.heap.size)
              clear hz hbf hxf za0 za1 za2 za3 za4 za5 za6 zd0 zd1 zd2 zd3 zd4 zd5 zd6 x0 x1 x2 x3 x4 x5 x6 f0 f1 f2 f3 f4 f5 f6 hbX0
              go_upto_region 8 with fail
              generalize ((((((wf.setCell ⟨w2.heap.size, 0, none⟩ (.int .u8 (hx.k.toNat : Int))).setCell ⟨w2.heap.size, 1, none⟩ (.string (str hx.b))).setCell ⟨w2.heap.size, 2, none⟩ (.int .u64 (hx.s.a.toNat : Int))).setCell ⟨w2.heap.size, 3, none⟩ (.int .u64 (hx.s.b.toNat : Int))).setCell ⟨w2.heap.size, 4, none⟩ (.int .u64 (hx.s.c.toNat : Int))).setCell ⟨w2.heap.size, 5, none⟩ (.int .u64 (hx.s.d.toNat : Int))).setCell ⟨w2.heap.size, 6, none⟩ (.slice A2 k2.length c2) = wX at *
              have E3 := Lib.hid ((hbX.block _ (lt_of_block E32.out)).trans E32.out)
              have E1 := Lib.hid ((hbX.block _ (lt_of_block E12.out)).trans E12.out)
              have E2 := Lib.hid ((hbX.block _ (lt_of_block E22.out)).trans E22.out)
              have HO := Lib.hid (HO2.out.keep hbX)
              have HR := Lib.hid (HR2.out.below hbX)
              have HB := Lib.hid (below_from HB2.out hbX)
              obtain ⟨⟨x0, x1, x2, x3, x4, x5, x6⟩, _⟩ := co_cells XB.out
              obtain ⟨⟨z0, z1, z2, z3, z4, z5, z6⟩, _⟩ := co_cells E3.out
              have hX2 := lt_of_block XB.out
              have hXb : Below wX.heap.size wX (wX.alloc (.cells (coA hx A2 k2.length c2) 29)) := below_new (Below.refl _ _) _
              have ho5 : OwnT CE (fun x => okk x ∨ (w1.heap.size ≤ x ∧ x < w2.heap.size)) (wX.alloc (.cells (coA hx A2 k2.length c2) 29)) (w.heap.size + 1 + 1 + 1) 29 o (ofCs h.k 0 (ks.take 1)) := (HO.out.keep hXb).narrow (fun x hx => .inl hx) fun x hx e => by
                rcases hx with hx | hx
                · exact HO.out.1 x hx e
                · have := hoi x e.symm; omega
              obtain ⟨h0, cs0, hown0, hk0⟩ := ho5
              have hsrc := new_src wX 1 7 (coA hx A2 k2.length c2) 29 rfl
              have HN : Hid (∀ (j : Nat) (t' : Co), [ofK h.k 1 (ofC (.mk h1 ls))][j]? = some t' → ∃ d, (∀ i u, d[i]? = some u → (coA hx A2 k2.length c2).toList[j * 7 + i]? = some u) ∧ InT CE (fun x => okk x ∨ (w1.heap.size ≤ x ∧ x < w2.heap.size)) (wX.alloc (.cells (coA hx A2 k2.length c2) 29)) t' d) := by
                unfold Hid
                rw [EK.out]
                exact co_src HC2.out ((HR.out.below hXb).weak fun x hx => .inr hx)
              have E35 := Lib.hid ((hXb.block _ (lt_of_block E3.out)).trans E3.out)
              have E15 := Lib.hid ((hXb.block _ (lt_of_block E1.out)).trans E1.out)
              have E25 := Lib.hid ((hXb.block _ (lt_of_block E2.out)).trans E2.out)
              have HB5 := Lib.hid (below_from HB.out hXb)
              have HLL : Hid ((ofCs h.k 0 (ks.take 1)).length ≤ 2) := by unfold Hid; rw [ofCs_length, List.length_take]; omega
              clear hXb HO HR E3 E1 E2 HB XB hbX
              go_wp2_with (at_builtin; refine wpList_app _ rfl (.tmp 32) (.tmp 34) 22 rfl (w.heap.size + 1 + 1 + 1) 29 _ 7 80 Tryd.underlying22 Tryd.info_co rfl (by decide) _ _ _ rfl hown0 (some ⟨wX.heap.size, 0, none⟩) 1 1 _ rfl hsrc ?h1 ?h2 ?h3 ?h4 ?_)
              case h1 => first | (intro u hu; simp at hu; rcases hu with rfl | rfl | rfl | rfl | rfl | rfl | rfl <;> rfl) | (simp [Value.oneCell']; done) | trivial
              case h2 => have := HLL.out; first | (unfold maxLen; omega) | (unfold maxLen; simp [ofCs]; done) | (unfold maxLen; simp [ofCs]; omega)
              case h3 => have := HLL.out; first | omega | (simp [ofCs]; done) | (simp [ofCs]; omega)
              case h4 => have := lt_of_block E35.out; omega
              intro v5 w5 ho5 hg5 hat5
              obtain ⟨A5, c5, hv5, _, _⟩ := own_slice ho5
              subst hv5
              have hs5 := hg5.size
              rw [World.size_alloc] at hs5
              have hr5 := OwnT.app (ys := [ofK h.k 1 (ofC (.mk h1 ls))]) h0 hown0 hk0 HN.out ho5 hg5 (by rw [World.size_alloc]; exact hat5) (fun x hx => by rw [World.size_alloc]; rcases hx with hx | hx; have := HK1.out x hx; omega; omega)
              have hne : ∀ j, j ≤ w.heap.size + 1 + 1 → some j ≠ Value.ownBlock o := fun j hj e => by have := own_base hown0 j e.symm; omega
              have e36 := (hg5.block _ (lt_of_block E35.out) (hne _ (Nat.le_refl _))).trans E35.out
              have E16 := Lib.hid ((hg5.block _ (lt_of_block E15.out) (hne _ (by omega))).trans E15.out)
              have E26 := Lib.hid ((hg5.block _ (lt_of_block E25.out) (hne _ (by omega))).trans E25.out)
              have HB6 := Lib.hid (HB5.out.grown hg5 HB5.out.size (fun j hj => by have := own_base hown0 j hj; omega))
              obtain ⟨⟨a0, a1, a2, a3, a4, a5, a6⟩, b0, b1, b2, b3, b4, b5, b6⟩ := co_cells e36
              have hok5 : ∀ x, (okk x ∨ (w1.heap.size ≤ x ∧ x < w2.heap.size)) → w.heap.size + 1 + 1 < x ∧ x < w5.heap.size := fun x hx => by rcases hx with hx | hx; have := HK1.out x hx; omega; omega
              have HO6 := Lib.hid (hr5.grown_bE (set_grown w5 (w.heap.size + 1 + 1) 6 (Value.slice A5 ((ofCs h.k 0 (ks.take 1)).length + 1) c5)) (by omega) (fun x hx => by have := hok5 x hx; omega))
              have E36 := Lib.hid (set_six (u := (Value.slice A5 ((ofCs h.k 0 (ks.take 1)).length + 1) c5)) e36)
              have HK5 : Hid (∀ x, (okk x ∨ (w1.heap.size ≤ x ∧ x < w2.heap.size)) → w.heap.size + 1 + 1 < x ∧ x < (w5.setCell ⟨w.heap.size + 1 + 1, 6, none⟩ (Value.slice A5 ((ofCs h.k 0 (ks.take 1)).length + 1) c5)).heap.size) := fun x hx => by have := hok5 x hx; simpa using this
              clear ho5 hg5 hat5 hown0 hk0 h0 hsrc HN hne E35 E15 E25 HB5 e36 hr5 hok5 x0 x1 x2 x3 x4 x5 x6 z0 z1 z2 z3 z4 z5 z6
              go_wp2_with fail
              go_roundw
              case rel => exact ⟨1 + 1, _, _, by omega, by go_num, by rw [HTk.out]; exact HO6, HK5, E36, Lib.hid ((Below.heap_setCell _ _ _ _ (by show w.heap.size ≠ w.heap.size + 1 + 1; omega)).trans E16.out), Lib.hid ((Below.heap_setCell _ _ _ _ (by show w.heap.size + 1 ≠ w.heap.size + 1 + 1; omega)).trans E26.out), Lib.hid (HB6.out.setCell (p := ⟨w.heap.size + 1 + 1, 6, none⟩) (by show w.heap.size ≤ w.heap.size + 1 + 1; omega) _)⟩
              case measure => simp [intOf]; omega
        · have g5 : ((h.k.toNat : Int) == 5) = false := by
            rw [beq_eq_false_iff_ne]
            intro e
            exact h5 (UInt8.toNat_inj.1 (by rw [show (5 : UInt8).toNat = 5 from rfl]; omega))
          have EK : Hid (ofK h.k k (ofC (.mk h1 ls)) = .mk h2' k2) := by
            unfold Hid ofK
            rw [if_neg h5, ET.out]
          have hoi : ∀ g, Value.ownBlock o = some g → w.heap.size + 1 + 1 + 1 ≤ g ∧ g < w1.heap.size := hoi0
          clear h5
          have hw3 := HW3.out
          subst hw3
          have hbX : Below w2.heap.size w2 (w2.alloc (.cells (coA h2' A2 k2.length c2) 29)) := below_new (Below.refl _ _) _
          go_upto_region 8 with fail
          generalize hw3 : w2.alloc (.cells (coA h2' A2 k2.length c2) 29) = w3 at *
          clear hw3
          have XB := X3
          have E3 := Lib.hid ((hbX.block _ (lt_of_block E32.out)).trans E32.out)
          have E1 := Lib.hid ((hbX.block _ (lt_of_block E12.out)).trans E12.out)
          have E2 := Lib.hid ((hbX.block _ (lt_of_block E22.out)).trans E22.out)
          have HO := Lib.hid (HO2.out.keep hbX)
          have HR := Lib.hid (HR2.out.below hbX)
          have HB := Lib.hid (below_from HB2.out hbX)
          obtain ⟨⟨x0, x1, x2, x3, x4, x5, x6⟩, _⟩ := co_cells XB.out
          obtain ⟨⟨z0, z1, z2, z3, z4, z5, z6⟩, _⟩ := co_cells E3.out
          have hX2 := lt_of_block XB.out
          have hXb : Below w3.heap.size w3 (w3.alloc (.cells (coA h2' A2 k2.length c2) 29)) := below_new (Below.refl _ _) _
          have ho5 : OwnT CE (fun x => okk x ∨ (w1.heap.size ≤ x ∧ x < w2.heap.size)) (w3.alloc (.cells (coA h2' A2 k2.length c2) 29)) (w.heap.size + 1 + 1 + 1) 29 o (ofCs h.k 0 (ks.take k)) := (HO.out.keep hXb).narrow (fun x hx => .inl hx) fun x hx e => by
            rcases hx with hx | hx
            · exact HO.out.1 x hx e
            · have := hoi x e.symm; omega
          obtain ⟨h0, cs0, hown0, hk0⟩ := ho5
          have hsrc := new_src w3 1 7 (coA h2' A2 k2.length c2) 29 rfl
          have HN : Hid (∀ (j : Nat) (t' : Co), [ofK h.k k (ofC (.mk h1 ls))][j]? = some t' → ∃ d, (∀ i u, d[i]? = some u → (coA h2' A2 k2.length c2).toList[j * 7 + i]? = some u) ∧ InT CE (fun x => okk x ∨ (w1.heap.size ≤ x ∧ x < w2.heap.size)) (w3.alloc (.cells (coA h2' A2 k2.length c2) 29)) t' d) := by
            unfold Hid
            rw [EK.out]
            exact co_src HC2.out ((HR.out.below hXb).weak fun x hx => .inr hx)
          have E35 := Lib.hid ((hXb.block _ (lt_of_block E3.out)).trans E3.out)
          have E15 := Lib.hid ((hXb.block _ (lt_of_block E1.out)).trans E1.out)
          have E25 := Lib.hid ((hXb.block _ (lt_of_block E2.out)).trans E2.out)
          have HB5 := Lib.hid (below_from HB.out hXb)
          have HLL : Hid ((ofCs h.k 0 (ks.take k)).length ≤ 2) := by unfold Hid; rw [ofCs_length, List.length_take]; omega
          clear hXb HO HR E3 E1 E2 HB XB hbX
          go_wp2_with (at_builtin; refine wpList_app _ rfl (.tmp 32) (.tmp 34) 22 rfl (w.heap.size + 1 + 1 + 1) 29 _ 7 80 Tryd.underlying22 Tryd.info_co rfl (by decide) _ _ _ rfl hown0 (some ⟨w3.heap.size, 0, none⟩) 1 1 _ rfl hsrc ?h1 ?h2 ?h3 ?h4 ?_)
          case h1 => first | (intro u hu; simp at hu; rcases hu with rfl | rfl | rfl | rfl | rfl | rfl | rfl <;> rfl) | (simp [Value.oneCell']; done) | trivial
          case h2 => have := HLL.out; first | (unfold maxLen; omega) | (unfold maxLen; simp [ofCs]; done) | (unfold maxLen; simp [ofCs]; omega)
          case h3 => have := HLL.out; first | omega | (simp [ofCs]; done) | (simp [ofCs]; omega)
          case h4 => have := lt_of_block E35.out; omega
          intro v5 w5 ho5 hg5 hat5
          obtain ⟨A5, c5, hv5, _, _⟩ := own_slice ho5
          subst hv5
          have hs5 := hg5.size
          rw [World.size_alloc] at hs5
          have hr5 := OwnT.app (ys := [ofK h.k k (ofC (.mk h1 ls))]) h0 hown0 hk0 HN.out ho5 hg5 (by rw [World.size_alloc]; exact hat5) (fun x hx => by rw [World.size_alloc]; rcases hx with hx | hx; have := HK1.out x hx; omega; omega)
          have hne : ∀ j, j ≤ w.heap.size + 1 + 1 → some j ≠ Value.ownBlock o := fun j hj e => by have := own_base hown0 j e.symm; omega
          have e36 := (hg5.block _ (lt_of_block E35.out) (hne _ (Nat.le_refl _))).trans E35.out
          have E16 := Lib.hid ((hg5.block _ (lt_of_block E15.out) (hne _ (by omega))).trans E15.out)
          have E26 := Lib.hid ((hg5.block _ (lt_of_block E25.out) (hne _ (by omega))).trans E25.out)
          have HB6 := Lib.hid (HB5.out.grown hg5 HB5.out.size (fun j hj => by have := own_base hown0 j hj; omega))
          obtain ⟨⟨a0, a1, a2, a3, a4, a5, a6⟩, b0, b1, b2, b3, b4, b5, b6⟩ := co_cells e36
          have hok5 : ∀ x, (okk x ∨ (w1.heap.size ≤ x ∧ x < w2.heap.size)) → w.heap.size + 1 + 1 < x ∧ x < w5.heap.size := fun x hx => by rcases hx with hx | hx; have := HK1.out x hx; omega; omega
          have HO6 := Lib.hid (hr5.grown_bE (set_grown w5 (w.heap.size + 1 + 1) 6 (Value.slice A5 ((ofCs h.k 0 (ks.take k)).length + 1) c5)) (by omega) (fun x hx => by have := hok5 x hx; omega))
          have E36 := Lib.hid (set_six (u := (Value.slice A5 ((ofCs h.k 0 (ks.take k)).length + 1) c5)) e36)
          have HK5 : Hid (∀ x, (okk x ∨ (w1.heap.size ≤ x ∧ x < w2.heap.size)) → w.heap.size + 1 + 1 < x ∧ x < (w5.setCell ⟨w.heap.size + 1 + 1, 6, none⟩ (Value.slice A5 ((ofCs h.k 0 (ks.take k)).length + 1) c5)).heap.size) := fun x hx => by have := hok5 x hx; simpa using this
          clear ho5 hg5 hat5 hown0 hk0 h0 hsrc HN hne E35 E15 E25 HB5 e36 hr5 hok5 x0 x1 x2 x3 x4 x5 x6 z0 z1 z2 z3 z4 z5 z6
          go_wp2_with fail
          go_roundw
          case rel => exact ⟨k + 1, _, _, by omega, by go_num, by rw [HTk.out]; exact HO6, HK5, E36, Lib.hid ((Below.heap_setCell _ _ _ _ (by show w.heap.size ≠ w.heap.size + 1 + 1; omega)).trans E16.out), Lib.hid ((Below.heap_setCell _ _ _ _ (by show w.heap.size + 1 ≠ w.heap.size + 1 + 1; omega)).trans E26.out), Lib.hid (HB6.out.setCell (p := ⟨w.heap.size + 1 + 1, 6, none⟩) (by show w.heap.size ≤ w.heap.size + 1 + 1; omega) _)⟩
          case measure => simp [intOf]; omega
      · have hkk : k = ks.length := by omega
        subst hkk
        have hot : OwnT CE okk wr (w.heap.size + 1 + 1 + 1) 29 o (ofCs h.k 0 ks) := by
          have := HOw.out
          rw [List.take_length] at this
          exact this
        obtain ⟨A2, c2, ho2, hc2, hr2⟩ := hot.row
        subst ho2
        have hrw : InRow CE (fun x => w.heap.size + 1 + 1 < x) wr (ofCs h.k 0 ks) A2 0 := hr2.weak fun x hx => by
          rcases hx with hx | hx
          · exact (HK.out x hx).1
          · have := own_inE hot hx; omega
        have HRW := Lib.hid hrw
        have HC2 := Lib.hid hc2
        obtain ⟨⟨z0, z1, z2, z3, z4, z5, z6⟩, _⟩ := co_cells E3.out
        obtain ⟨⟨y0, y1, y2, y3, y4, y5, y6⟩, f0, f1, f2, f3, f4, f5, f6⟩ := co_cells E2.out
        clear hot hc2 hr2 hrw HOw HK E1 E2 E3
        go_wp2_with fail
        refine bodyPost_ret (v := coV ⟨h.k, [], h.s⟩ A2 (ofCs h.k 0 ks).length c2) (by simp [results, Tryd.results43, go_sem, y0, y1, y2, y3, y4, y5, y6]) rfl ⟨_, _, A2, c2, rfl, HO.out, HC2.out, (row_seven HRW.out fun x hx => by omega).weak fun x hx => by omega, seven_below HB.out (by omega)⟩
end Go.Proofs.YteoghoaggpbkpaaDoor
