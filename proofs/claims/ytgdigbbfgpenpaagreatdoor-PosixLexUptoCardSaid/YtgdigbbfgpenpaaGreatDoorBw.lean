/- A value with bytes, as the document has it. A value with all bytes of a text, as the document has it. A value with bytes: the program's filler. A value with all bytes of a text: posix.Fill. Values, opened. -/
import Derived.Test.YtgdigbbfgpenpaaGreatDoorBv
import Derived.Test.YtgdigbbfgpenpaaGreatDoorBk
import Derived.Test.YtgdigbbfgpenpaaGreatDoorBm
import Derived.Test.YtgdigbbfgpenpaaGreatDoorBg
namespace Go.Proofs.YtgdigbbfgpenpaaGreatDoor
open Go.RowKit
set_option linter.unusedVariables false
set_option linter.unusedSimpArgs false

/-- what a fill answers: a value, and how many bytes, or none and -1 -/
def FillRel (t : Va) (s : List UInt8) (v : Va) (z : Int) : Prop := (fillV t s = none ∧ z = -1 ∧ v = .mk vaH0 []) ∨ (∃ s2, fillV t s = some (v, s2) ∧ z = ((flatV t).length : Nat))
def VFPost (t : Va) (s : List UInt8) (w : World) (e : Ending) (w' : World) : Prop := ∃ h' k' A' c' z, e = .returned (.tuple #[vaV h' A' k'.length c', .int .i64 z]) ∧ FillRel t s (.mk h' k') z ∧ k'.length ≤ c' ∧ InRow VE (fun x => w.heap.size ≤ x) w' k' A' 0 ∧ Below w.heap.size w w'
theorem ext_drop (S : ByteArray) (n : Nat) : (S.extract n S.size).data.toList = S.data.toList.drop n := by
  simp
  exact List.take_of_length_le (by rw [List.length_drop]; exact Nat.le_refl _)
theorem ext_size (S : ByteArray) (n : Nat) (h : n ≤ S.size) : (S.extract n S.size).size = S.size - n := by simp
theorem sl_ (S : ByteArray) : S.data.toList.length = S.size := by simp
theorem sl_nil {S : ByteArray} (h : S.size = 0) : S = ⟨#[]⟩ := by
  have h0 : S.data.toList = [] := List.eq_nil_of_length_eq_zero (by rw [sl_]; exact h)
  rw [← str_data S, h0]
theorem sl_empty {S : ByteArray} (h : S.size = 0) : S.toList.isEmpty = true := by
  have h0 : S.data.toList = [] := List.eq_nil_of_length_eq_zero (by rw [sl_]; exact h)
  rw [ByteArray.toList_eq, h0]; rfl
theorem sl_full {S : ByteArray} (h : S.size ≠ 0) : S.toList.isEmpty = false := by
  have h0 : S.data.toList ≠ [] := fun e => h (by rw [← sl_, e]; rfl)
  rw [ByteArray.toList_eq]; simpa using h0
theorem fill_2 {h : VH} (e : h.k = 2) (ks : List Va) (b : UInt8) (s : List UInt8) : fillV (.mk h ks) (b :: s) = (fillVs ks s).map fun r => (.mk ⟨h.k, b⟩ r.1, r.2) := by simp [fillV, e]
theorem fill_2n {h : VH} (e : h.k = 2) (ks : List Va) : fillV (.mk h ks) [] = none := by simp [fillV, e]
theorem fill_n {h : VH} (e : h.k ≠ 2) (ks : List Va) (s : List UInt8) : fillV (.mk h ks) s = (fillVs ks s).map fun r => (.mk h r.1, r.2) := by simp [fillV, e]
end Go.Proofs.YtgdigbbfgpenpaaGreatDoor
namespace Go.Proofs.YtgdigbbfgpenpaaGreatDoor
open Go.RowKit
set_option linter.unusedVariables false
set_option linter.unusedSimpArgs false

def FullRel (t : Va) (s : List UInt8) (v : Va) (b : Bool) : Prop := (fullV t s = none ∧ b = false ∧ v = .mk vaH0 []) ∨ (fullV t s = some v ∧ b = true)
def FullPost (t : Va) (s : List UInt8) (w : World) (e : Ending) (w' : World) : Prop := ∃ h' k' A' c' b, e = .returned (.tuple #[vaV h' A' k'.length c', .bool b]) ∧ FullRel t s (.mk h' k') b ∧ k'.length ≤ c' ∧ InRow VE (fun x => w.heap.size ≤ x) w' k' A' 0 ∧ Below w.heap.size w w'
theorem full_some {t : Va} {s : List UInt8} {v : Va} {s2 : List UInt8} (h : fillV t s = some (v, s2)) : fullV t s = if s2 = [] then some v else none := by
  unfold fullV
  rw [h]
  cases s2 <;> simp
theorem full_none {t : Va} {s : List UInt8} (h : fillV t s = none) : fullV t s = none := by unfold fullV; rw [h]
end Go.Proofs.YtgdigbbfgpenpaaGreatDoor
namespace Go.Proofs.YtgdigbbfgpenpaaGreatDoor
open Go.RowKit
set_option linter.unusedVariables false
set_option linter.unusedSimpArgs false

/-- all but block b of what lay in w is as it was -/
abbrev Kept (w : World) (b : Nat) (w' : World) : Prop := w.grownBy w' (some b)
theorem kept_below {w x : World} {b : Nat} (h : Below w.heap.size w x) : Kept w b x := ⟨h.os, h.tape, h.output, h.size, fun j hj _ => h.block j hj⟩
theorem kept_grown {w x y : World} {b : Nat} {r : Option Nat} (h : Kept w b x) (g : x.grownBy y r) (hr : ∀ j, r = some j → w.heap.size ≤ j ∨ j = b) : Kept w b y :=
  ⟨g.os.trans h.os, g.tape.trans h.tape, g.output.trans h.output, Nat.le_trans h.size g.size, fun j hj hn => (g.block j (Nat.lt_of_lt_of_le hj h.size) fun e => by rcases hr j e.symm with h1 | h1; omega; exact hn (by rw [h1])).trans (h.block j hj hn)⟩
theorem kept_set {w x : World} {b g o : Nat} {u : Value} (h : Kept w b x) (hg : w.heap.size ≤ g ∨ g = b) : Kept w b (x.setCell ⟨g, o, none⟩ u) :=
  kept_grown h (set_grown x g o u) fun j e => by cases e; exact hg
theorem kept_new {w x : World} {b : Nat} (h : Kept w b x) (ob : Obj) : Kept w b (x.alloc ob) :=
  kept_grown h (kept_below (b := w.heap.size) (below_new (Below.refl _ _) ob)) fun j e => by cases e; exact .inl (Nat.le_refl _)
theorem kept_drew {w x : World} {b : Nat} (h : Kept w b x) : Kept w b x.drew := ⟨h.os, h.tape, h.output, h.size, h.block⟩
theorem kept_trans {w x y : World} {b : Nat} (h : Kept w b x) (k : Kept x b y) : Kept w b y := kept_grown h k fun j e => by cases e; exact .inr rfl
def PRel (t : Va) (s : List UInt8) (v : Va) (b : Bool) (S2 : ByteArray) : Prop := (fillV t s = none ∧ b = false ∧ v = .mk vaH0 []) ∨ (fillV t s = some (v, S2.data.toList) ∧ b = true)
def PFPost (t : Va) (s : List UInt8) (bF : Nat) (w : World) (e : Ending) (w' : World) : Prop := ∃ h' k' A' c' b S2, e = .returned (.tuple #[vaV h' A' k'.length c', .bool b]) ∧ PRel t s (.mk h' k') b S2 ∧ k'.length ≤ c' ∧ InRow VE (fun x => w.heap.size ≤ x) w' k' A' 0 ∧ Kept w bF w' ∧ w'.heap[bF]? = some (.cells #[.string S2] 71 (0, 0))
theorem fil_cells {w : World} {b : Nat} {v0 : Value} {t : TypeId} (h : w.heap[b]? = some (.cells #[v0] t (0, 0))) : w.cell? ⟨b, 0, none⟩ = some v0 ∧ w.frozen? ⟨b, 0, none⟩ = false := by
  refine ⟨?_, ?_⟩ <;> simp [World.cell?, World.frozen?, h]
theorem fil_set {w : World} {b : Nat} {v0 u : Value} {t : TypeId} (h : w.heap[b]? = some (.cells #[v0] t (0, 0))) : (w.setCell ⟨b, 0, none⟩ u).heap[b]? = some (.cells #[u] t (0, 0)) := by
  simp [World.setCell, Array.getElem?_modify, h]
set_option maxRecDepth 100000 in
set_option maxHeartbeats 16000000 in
theorem pfill_upto (n : Nat) : ∀ (ok : Nat → Prop) (h : VH) (ks : List Va) (A : Option Addr) (c : Nat) (S : ByteArray) (bF : Nat) (w : World), 1 + T.sizes ks ≤ n → n ≤ 1000000000 → S.size ≤ 1000000000 → ks.length ≤ c → InRow VE ok w ks A 0 → (∀ x, ok x → x ≠ bF) → w.heap[bF]? = some (.cells #[.string S] 71 (0, 0)) →
    Calls Tryz.prog 29 #[.pointer (some ⟨bF, 0, none⟩), vaV h A ks.length c] w (PFPost (.mk h ks) S.data.toList bF w) := by
  induction n with
  | zero => intro ok h ks A c S bF w h0; omega
  | succ n ih =>
    intro ok h ks A c S bF w hn hm hS hc hr hok hbF
    have hl := T.length_le_sizes ks
    have IH := Lib.hid ih
    clear ih
    have hsz : ∀ t ∈ ks, t.size ≤ n := fun t ht => by have := T.sizes_mem ht; omega
    have HS := Lib.hid hsz
    clear hsz
    have hlm : ks.length ≤ 1000000000 := by omega
    have hbl := lt_of_block hbF
    obtain ⟨W, hW⟩ : ∃ W, (w.alloc (.cells (vaA h A ks.length c) 32)).alloc (.cells vaZ 32) = W := ⟨_, rfl⟩
    have hbW : Below w.heap.size w W := by rw [← hW]; exact below_new (below_new (Below.refl _ _) _) _
    have hsW : W.heap.size = w.heap.size + 1 + 1 := by rw [← hW]; simp
    have e1W : W.heap[w.heap.size]? = some (.cells (vaA h A ks.length c) 32 (0, 0)) := by rw [← hW]; exact heap_keep1 (new_at1 _) _
    have e2W : W.heap[w.heap.size + 1]? = some (.cells vaZ 32 (0, 0)) := by
      rw [← hW]
      have := new_at1 (w := w.alloc (.cells (vaA h A ks.length c) 32)) (.cells vaZ 32)
      rw [World.size_alloc] at this
      exact this
    have HE := Lib.hid hW
    have HBW := Lib.hid hbW
    have HSW := Lib.hid hsW
    have E1W := Lib.hid e1W
    have E2W := Lib.hid e2W
    have EFW := Lib.hid ((hbW.block _ hbl).trans hbF)
    have HRW : Hid (InRow VE (fun x => ok x ∧ x < w.heap.size) w ks A 0) := hr.there
    have HOK := Lib.hid hok
    have HBL := Lib.hid hbl
    clear hW hbW hsW e1W e2W hr hok hbF hbl
    by_cases hk : h.k = 2
    · have t1 : ((h.k.toNat : Int) == 2) = true := by rw [hk]; rfl
      by_cases l0 : S.size = 0
      · have hS0 := sl_nil l0
        have t2 := sl_empty l0
        have HX : Hid (fillV (.mk h ks) S.data.toList = none) := by unfold Hid; rw [hS0]; exact fill_2n hk ks
        clear hS0 l0 hk
        go_enter Tryz.func29, Tryz.ntmps29
        go_upto_region 2 with fail
        rw [show (w.alloc _).alloc _ = W from HE.out]
        obtain ⟨⟨y0, y1, y2⟩, f0, f1, f2⟩ := va_cells E2W.out
        obtain ⟨p0, pf0⟩ := fil_cells EFW.out
        go_wp2_with fail
        have hne : bF ≠ w.heap.size + 1 := by have := HBL.out; omega
        refine bodyPost_ret (v := .tuple #[vaV vaH0 none 0 0, .bool false]) (by simp [results, Tryz.results29, go_sem, y0, y1, y2]; try exact ⟨rfl, rfl, rfl⟩) rfl ⟨vaH0, [], none, 0, false, S, rfl, .inl ⟨HX.out, rfl, rfl⟩, Nat.le_refl _, by simp [InRow], kept_set (kept_set (kept_set (kept_below HBW.out) (.inl (by omega))) (.inl (by omega))) (.inl (by omega)), (three_other hne).trans EFW.out⟩
      have hlt : 0 < S.size := by omega
      have t2 := sl_full l0
      obtain ⟨b, hbb⟩ : ∃ b : UInt8, b = S[0]'hlt := ⟨_, rfl⟩
      have ea : ((S[0]'hlt).toNat : Int) = (b.toNat : Int) := by rw [hbb]
      have hcons : S.data.toList = b :: S.data.toList.drop 1 := by
        have h' : 0 < S.data.toList.length := by simp; exact hlt
        rw [hbb]
        have := List.drop_eq_getElem_cons h'
        rw [List.drop_zero] at this
        exact this
      obtain ⟨hh, hhh⟩ : ∃ hh : VH, hh = ⟨h.k, b⟩ := ⟨_, rfl⟩
      obtain ⟨S1, hs1⟩ : ∃ s1, s1 = S.extract 1 S.size := ⟨_, rfl⟩
      have HSS : Hid (S1.size ≤ 1000000000) := by unfold Hid; rw [hs1, ext_size S 1 hlt]; omega
      have HF : Hid (fillV (.mk h ks) S.data.toList = (fillVs ks S1.data.toList).map fun r => (.mk hh r.1, r.2)) := by unfold Hid; rw [hs1, ext_drop, hhh, ← fill_2 hk, ← hcons]
      have hne0 : bF ≠ w.heap.size := by have := HBL.out; omega
      have hne1 : bF ≠ w.heap.size + 1 := by have := HBL.out; omega
      obtain ⟨W1, hW1⟩ : ∃ W1, W.setCell ⟨w.heap.size, 1, none⟩ (.int .u8 (b.toNat : Int)) = W1 := ⟨_, rfl⟩
      have c1 := one_setCell (u1 := .int .u8 (b.toNat : Int)) E1W.out
      have c2 : (W.setCell ⟨w.heap.size, 1, none⟩ (.int .u8 (b.toNat : Int))).heap[w.heap.size + 1]? = _ := (Below.heap_setCell _ _ _ _ (by show w.heap.size + 1 ≠ w.heap.size; omega)).trans E2W.out
      have c3 : (W.setCell ⟨w.heap.size, 1, none⟩ (.int .u8 (b.toNat : Int))).heap[bF]? = _ := (Below.heap_setCell _ _ _ _ hne0).trans EFW.out
      obtain ⟨W2, hW2⟩ : ∃ W2, (W.setCell ⟨w.heap.size, 1, none⟩ (.int .u8 (b.toNat : Int))).setCell ⟨bF, 0, none⟩ (.string S1) = W2 := ⟨_, rfl⟩
      have a1 : W2.heap[w.heap.size]? = some (.cells (vaA hh A ks.length c) 32 (0, 0)) := by rw [← hW2, hhh]; exact (Below.heap_setCell _ _ _ _ (fun e => hne0 e.symm)).trans c1
      have a2 : W2.heap[w.heap.size + 1]? = some (.cells vaZ 32 (0, 0)) := by rw [← hW2]; exact (Below.heap_setCell _ _ _ _ (fun e => hne1 e.symm)).trans c2
      have a3 : W2.heap[bF]? = some (.cells #[.string S1] 71 (0, 0)) := by rw [← hW2]; exact fil_set c3
      have hz2 : W2.heap.size = w.heap.size + 1 + 1 := by rw [← hW2]; simp; exact HSW.out
      have hk2 : Kept w bF W2 := by rw [← hW2]; exact kept_set (kept_set (kept_below HBW.out) (.inl (Nat.le_refl _))) (.inr rfl)
      have C1 := Lib.hid c1
      have C3 := Lib.hid c3
      have HW2 := Lib.hid hW2
      have HS1 := Lib.hid hs1
      obtain ⟨U, hU⟩ : ∃ U, W2.setCell ⟨w.heap.size, 2, none⟩ (.slice none 0 0) = U := ⟨_, rfl⟩
      have hbl := HBL.out
      have E1 : Hid (U.heap[w.heap.size]? = some (.cells #[.int .u8 (hh.k.toNat : Int), .int .u8 (hh.b.toNat : Int), .slice none 0 0] 32 (0, 0))) := by unfold Hid; rw [← hU]; exact two_setCell a1
      have E2 : Hid (U.heap[w.heap.size + 1]? = some (.cells vaZ 32 (0, 0))) := by unfold Hid; rw [← hU]; exact (Below.heap_setCell _ _ _ _ (by show w.heap.size + 1 ≠ w.heap.size; omega)).trans a2
      have EF : Hid (U.heap[bF]? = some (.cells #[.string S1] 71 (0, 0))) := by unfold Hid; rw [← hU]; exact (Below.heap_setCell _ _ _ _ (by show bF ≠ w.heap.size; omega)).trans a3
      have HSZ : Hid (w.heap.size + 1 + 1 ≤ U.heap.size) := by unfold Hid; rw [← hU]; simp; omega
      have HKP : Hid (Kept w bF U) := by unfold Hid; rw [← hU]; exact kept_set hk2 (.inl (Nat.le_refl _))
      have HR := HRW
      have HU := Lib.hid hU
      have A1' := Lib.hid a1
      clear hU a1 a2 a3 hk2 hz2 hbl
      go_enter Tryz.func29, Tryz.ntmps29
      clear hhh hk hW2 hcons hbb l0 c1 c2 c3 hW1 hs1
      go_upto_region 2 with fail
      rw [show (w.alloc _).alloc _ = W from HE.out]
      obtain ⟨p0, pf0⟩ := fil_cells EFW.out
      obtain ⟨⟨x0, x1, x2⟩, xf0, xf1, xf2⟩ := va_cells E1W.out
      obtain ⟨p1, pf1⟩ := fil_cells C3.out
      go_upto_region 4 with fail
      have hl1 : ¬ ((S.size : Int) < 1) := by omega
      have hw2 := HW2.out
      rw [HS1.out] at hw2
      have HWW := Lib.hid hw2
      clear hw2
      go_region
      rw [show (W.setCell _ _).setCell _ _ = W2 from HWW.out]
      clear t1 t2 ea x0 x1 x2 xf0 xf1 xf2 p0 pf0 p1 pf1 hl1 HWW HW2 HS1 C1 C3 hne0 hne1
      obtain ⟨⟨x0, x1, x2⟩, xf0, xf1, xf2⟩ := va_cells A1'.out
      go_upto_region 7 with fail
      rw [show W2.setCell _ _ = U from HU.out]
      clear x0 x1 x2 xf0 xf1 xf2
      go_wp2_with fail
      go_loopw [39] (fun i wr => ∃ (k : Nat) (lv : Value) (okk : Nat → Prop) (l : List Va) (S2 : ByteArray), i = .int .i64 (k : Nat) ∧ k ≤ ks.length ∧ Hid (fillVs (ks.take k) S1.data.toList = some (l, S2.data.toList)) ∧ Hid (l.length = k) ∧ Hid (S2.size ≤ 1000000000) ∧
        Hid (OwnT VE okk wr (w.heap.size + 1 + 1) 32 lv l) ∧ Hid (∀ x, okk x → w.heap.size + 1 + 1 ≤ x ∧ x < wr.heap.size) ∧ Hid (wr.heap[w.heap.size]? = some (.cells #[.int .u8 (hh.k.toNat : Int), .int .u8 (hh.b.toNat : Int), lv] 32 (0, 0))) ∧ Hid (wr.heap[w.heap.size + 1]? = some (.cells vaZ 32 (0, 0))) ∧ Hid (wr.heap[bF]? = some (.cells #[.string S2] 71 (0, 0))) ∧ Hid (w.heap.size + 1 + 1 ≤ wr.heap.size) ∧ Hid (Kept w bF wr)) (fun i _ => ks.length - (intOf i).toNat)
      case atStart => exact ⟨0, _, fun _ => False, [], S1, rfl, Nat.zero_le _, rfl, rfl, HSS, Lib.hid (OwnT.nil_ _ _ _ _ _), Lib.hid (fun x hx => hx.elim), E1, E2, EF, HSZ, (by first | exact HKP | exact Lib.hid (kept_drew HKP.out))⟩
      case round =>
        clear E1 E2 EF HSZ HKP HSS
        obtain ⟨k, lv, okk, l, S2, rfl, hk, HL, HLL, HSS, HOw, HK, E1, E2, EF, HSZ, HKP⟩ := hrel
        have hszr := HSZ.out
        by_cases hlt : k < ks.length
        · obtain ⟨t, ad, h1, ls, A1, c1, hA, hx, rfl, hc1, hr1, q0, q1, q2⟩ := va_at (HR.out.grown HKP.out (fun x hx e => HOK.out x hx.1 (Option.some.inj e))) hlt
          subst hA
          have hs1 := HS.out _ (List.mem_of_getElem? hx)
          simp only [T.size] at hs1
          have HFT := Lib.hid (fill_take hx HL.out)
          obtain ⟨X1, hX1⟩ : ∃ X1, wr.alloc (.cells (vaA h1 A1 ls.length c1) 32) = X1 := ⟨_, rfl⟩
          have hb1 : Below wr.heap.size wr X1 := by rw [← hX1]; exact below_new (Below.refl _ _) _
          have n8 : X1.heap[wr.heap.size]? = some (.cells (vaA h1 A1 ls.length c1) 32 (0, 0)) := by rw [← hX1]; exact new_at1 _
          have hsX1 : X1.heap.size = wr.heap.size + 1 := by rw [← hX1]; simp
          have HC := Lib.hid (IH.out _ h1 ls A1 c1 S2 bF X1 hs1 (by omega) HSS.out hc1 (hr1.below hb1) (fun x hx => HOK.out x hx.1) ((hb1.block _ (lt_of_block EF.out)).trans EF.out))
          have HK1 : Hid (Kept w bF X1) := by unfold Hid; rw [← hX1]; exact kept_new HKP.out _
          have HO1 := Lib.hid (HOw.out.keep hb1)
          have E11 := Lib.hid ((hb1.block _ (lt_of_block E1.out)).trans E1.out)
          have E21 := Lib.hid ((hb1.block _ (lt_of_block E2.out)).trans E2.out)
          have N8 := Lib.hid n8
          have HSX := Lib.hid hsX1
          have HX1 := Lib.hid hX1
          have hob : Hid (∀ j, lv.ownBlock = some j → w.heap.size + 1 + 1 ≤ j ∧ j < wr.heap.size) := fun j hj => own_inE HOw.out hj
          clear hX1 hb1 n8 hx hr1 HL HOw E1 E2 EF HKP hsX1
          go_upto_region 10 with fail
          rw [show wr.alloc _ = X1 from HX1.out]
          clear q0 q1 q2
          obtain ⟨u0, u1, u2⟩ := va_at_box N8.out
          go_wp2_with fail
          refine HC.out.mono ?_
          rintro e w2 ⟨hn, kn, An, cn, b, S4, rfl, hrl, hcn, hrn, hk2, ef2⟩
          clear u0 u1 u2 HC
          have hs2 := hk2.size
          have hsX1 := HSX.out
          have hbl := HBL.out
          obtain ⟨wD, hwD⟩ : ∃ x, w2.alloc (.cells (vaA hn An kn.length cn) 32) = x := ⟨_, rfl⟩
          have hbD : Below w2.heap.size w2 wD := by rw [← hwD]; exact below_new (Below.refl _ _) _
          have n9 : wD.heap[w2.heap.size]? = some (.cells (vaA hn An kn.length cn) 32 (0, 0)) := by rw [← hwD]; exact new_at1 _
          have hsD : wD.heap.size = w2.heap.size + 1 := by rw [← hwD]; simp
          have HSD := Lib.hid hsD
          have HKD : Hid (Kept w bF wD) := by unfold Hid; rw [← hwD]; exact kept_new (kept_trans HK1.out hk2) _
          have HOD := Lib.hid ((HO1.out.grown_bE hk2 (by omega) (fun x hx => by have := (HK.out x hx).1; omega)).keep hbD)
          have E1D := Lib.hid ((hbD.block _ (by omega)).trans ((hk2.block _ (by omega) (by intro e; have := Option.some.inj e; omega)).trans E11.out))
          have E2D := Lib.hid ((hbD.block _ (by omega)).trans ((hk2.block _ (by omega) (by intro e; have := Option.some.inj e; omega)).trans E21.out))
          have EFD := Lib.hid ((hbD.block _ (lt_of_block ef2)).trans ef2)
          have HRN := Lib.hid (hrn.there.below hbD)
          have N9 := Lib.hid n9
          have HWD := Lib.hid hwD
          have HCN := Lib.hid hcn
          have HKK : Hid (∀ x, okk x → w.heap.size + 1 + 1 ≤ x ∧ x < wr.heap.size) := HK.out
          clear hwD hbD n9 hrn hcn HO1 E11 E21 HK1 hk2 ef2 HK N8 hsD hsX1
          go_upto_region 11 with fail
          rw [show w2.alloc _ = wD from HWD.out]
          rcases hrl with ⟨hno, rfl, _⟩ | ⟨hso, rfl⟩
          · have HX : Hid (fillV (.mk h ks) S.data.toList = none) := by unfold Hid; rw [HF.out, HFT.out.1 hno]; rfl
            obtain ⟨⟨y0, y1, y2⟩, f0, f1, f2⟩ := va_cells E2D.out
            have hne : bF ≠ w.heap.size + 1 := by omega
            clear hno HFT HOD
            go_wp2_with fail
            refine bodyPost_ret (v := .tuple #[vaV vaH0 none 0 0, .bool false]) (by simp [results, Tryz.results29, go_sem, y0, y1, y2]; try exact ⟨rfl, rfl, rfl⟩) rfl ⟨vaH0, [], none, 0, false, S4, rfl, .inl ⟨HX.out, rfl, rfl⟩, Nat.le_refl _, by simp [InRow], kept_set (kept_set (kept_set HKD.out (.inl (by omega))) (.inl (by omega))) (.inl (by omega)), (three_other hne).trans EFD.out⟩
          · obtain ⟨hml, hs2'⟩ := fillV_drop _ _ _ _ hso
            have HS4 : Hid (S4.size ≤ 1000000000) := by unfold Hid; rw [← sl_ S4, hs2', List.length_drop, sl_]; have := HSS.out; omega
            have HL2 := Lib.hid (HFT.out.2 _ _ hso)
            have HLL2 : Hid ((l ++ [T.mk hn kn]).length = k + 1) := by unfold Hid; rw [List.length_append, HLL.out]; rfl
            have hsD := HSD.out
            have hsX1 := HSX.out
            obtain ⟨cs0, hown0, hsrc, happ⟩ := va_app (P := fun x => X1.heap.size ≤ x ∧ x < w2.heap.size) HOD.out (fun x hx => by have := (HKK.out x hx).2; omega) (fun x hx => ⟨by have := hx.2; omega, fun e => by have := (hob.out x e.symm).2; omega⟩) (Below.refl _ _) (show T.mk hn kn = .mk hn kn from rfl) HCN.out (HRN.out.weak fun x hx => .inl hx)
            have HAPP := Lib.hid happ
            have hXb : Below wD.heap.size wD (wD.alloc (.cells (vaA hn An kn.length cn) 32)) := below_new (Below.refl _ _) _
            have E12 := Lib.hid ((hXb.block _ (lt_of_block E1D.out)).trans E1D.out)
            have E22 := Lib.hid ((hXb.block _ (lt_of_block E2D.out)).trans E2D.out)
            have EF2 := Lib.hid ((hXb.block _ (lt_of_block EFD.out)).trans EFD.out)
            have HK2 := Lib.hid (kept_new HKD.out (.cells (vaA hn An kn.length cn) 32))
            obtain ⟨⟨x0, x1, x2⟩, xf0, xf1, xf2⟩ := va_cells E1D.out
            obtain ⟨z0, z1, z2⟩ := va_at_box N9.out
            clear happ hXb hso hs2' hml HFT E1D E2D EFD HKD hsD hsX1
            go_wp2_with (at_builtin; refine wpList_app _ rfl (.tmp 53) (.tmp 55) 30 rfl (w.heap.size + 1 + 1) 32 _ 3 32 Tryz.underlying30 Tryz.info_va rfl (by decide) _ _ _ rfl hown0 (some ⟨wD.heap.size, 0, none⟩) 1 1 _ rfl hsrc ?h1 ?h2 ?h3 ?h4 ?_)
            case h1 => first | exact vaA_one hn An kn.length cn | exact ⟨rfl, rfl, rfl⟩ | trivial
            case h2 => have := HLL.out; unfold maxLen; omega
            case h3 => have := HLL.out; omega
            case h4 => have hsD := HSD.out; have hsX1 := HSX.out; (try rw [World.size_alloc]); omega
            have hsD := HSD.out
            have hsX1 := HSX.out
            intro v5 w6 ho5 hg5 hat5
            obtain ⟨A5, c5, hv5, _, _⟩ := own_slice ho5
            subst hv5
            have hs6 := hg5.size
            rw [World.size_alloc] at hs6
            have HO6 := HAPP.out _ w6 ho5 hg5 (by rw [World.size_alloc]; exact hat5)
            have E17 := (hg5.block _ (lt_of_block E12.out) (fun e => by have := (hob.out _ e.symm).1; omega)).trans E12.out
            have E27 := (hg5.block _ (lt_of_block E22.out) (fun e => by have := (hob.out _ e.symm).1; omega)).trans E22.out
            have EF7 := (hg5.block _ (lt_of_block EF2.out) (fun e => by have := (hob.out _ e.symm).1; omega)).trans EF2.out
            have HK7 := kept_grown HK2.out hg5 (fun j hj => .inl (by have := (hob.out j hj).1; omega))
            obtain ⟨⟨g0, g1, g2⟩, gf0, gf1, gf2⟩ := va_cells E17
            have E18 := Lib.hid (two_setCell (u2 := .slice A5 (l.length + 1) c5) E17)
            have E28 : Hid ((w6.setCell ⟨w.heap.size, 2, none⟩ (.slice A5 (l.length + 1) c5)).heap[w.heap.size + 1]? = some (.cells vaZ 32 (0, 0))) := (Below.heap_setCell _ _ _ _ (by show w.heap.size + 1 ≠ w.heap.size; omega)).trans E27
            have EF8 : Hid ((w6.setCell ⟨w.heap.size, 2, none⟩ (.slice A5 (l.length + 1) c5)).heap[bF]? = some (.cells #[.string S4] 71 (0, 0))) := (Below.heap_setCell _ _ _ _ (by show bF ≠ w.heap.size; omega)).trans EF7
            have HK8 : Hid (Kept w bF (w6.setCell ⟨w.heap.size, 2, none⟩ (.slice A5 (l.length + 1) c5))) := kept_set HK7 (.inl (Nat.le_refl _))
            have HO8 := Lib.hid (HO6.grown_bE (set_grown w6 w.heap.size 2 (.slice A5 (l.length + 1) c5)) (by omega) (fun x hx => by rcases hx with hx | hx | hx; have := (HKK.out x hx).1; omega; omega; omega))
            have HK9 : Hid (∀ x, (okk x ∨ (X1.heap.size ≤ x ∧ x < w2.heap.size) ∨ (wD.heap.size ≤ x ∧ x < wD.heap.size)) → w.heap.size + 1 + 1 ≤ x ∧ x < (w6.setCell ⟨w.heap.size, 2, none⟩ (.slice A5 (l.length + 1) c5)).heap.size) := fun x hx => by
              rw [show (w6.setCell ⟨w.heap.size, 2, none⟩ (.slice A5 (l.length + 1) c5)).heap.size = w6.heap.size by simp]
              rcases hx with hx | hx | hx
              · have := HKK.out x hx; exact ⟨this.1, by omega⟩
              · exact ⟨by omega, by omega⟩
              · omega
            have HSZ6 : Hid (w.heap.size + 1 + 1 ≤ (w6.setCell ⟨w.heap.size, 2, none⟩ (.slice A5 (l.length + 1) c5)).heap.size) := by unfold Hid; simp; omega
            clear ho5 hg5 hat5 hown0 hsrc HAPP HK2 hs6 HOD HKK E12 E22 EF2 hob z0 z1 z2 N9 x0 x1 x2 xf0 xf1 xf2 HO6 E17 E27 EF7 HK7 hsD hsX1
            go_wp2_with fail
            go_roundw
            case rel => exact ⟨k + 1, _, _, l ++ [T.mk hn kn], S4, by go_num, by omega, HL2, HLL2, HS4, HO8, HK9, E18, E28, EF8, HSZ6, HK8⟩
            case measure => simp [intOf]; omega
        · have hkk : k = ks.length := by omega
          subst hkk
          have HFF : Hid (fillV (.mk h ks) S.data.toList = some (.mk hh l, S2.data.toList)) := by
            have := HL.out
            rw [List.take_length] at this
            unfold Hid
            rw [HF.out, this]
            rfl
          obtain ⟨A3, c3, hv3, hc3, hr3⟩ := HOw.out.row
          have HR3 := Lib.hid (hr3.weak (ok' := fun x => w.heap.size + 1 + 1 ≤ x) fun x hx => by
            rcases hx with hx | hx
            · exact (HK.out x hx).1
            · exact (own_inE HOw.out hx).1)
          have HC3 := Lib.hid hc3
          subst hv3
          obtain ⟨⟨x0, x1, x2⟩, xf0, xf1, xf2⟩ := va_cells E1.out
          obtain ⟨⟨y0, y1, y2⟩, f0, f1, f2⟩ := va_cells E2.out
          have hbl := HBL.out
          have hne : bF ≠ w.heap.size + 1 := by omega
          clear hr3 hc3 HL HK HOw hlt
          go_wp2_with fail
          refine bodyPost_ret (v := .tuple #[vaV hh A3 l.length c3, .bool true]) (by simp [results, Tryz.results29, go_sem, y0, y1, y2]; try exact ⟨rfl, rfl, rfl⟩) rfl ⟨hh, l, A3, c3, true, S2, rfl, .inr ⟨HFF.out, rfl⟩, HC3.out, (row_three HR3.out fun x hx => by omega).weak fun x hx => by omega, kept_set (kept_set (kept_set HKP.out (.inl (by omega))) (.inl (by omega))) (.inl (by omega)), (three_other hne).trans EF.out⟩
    · have t1 : ((h.k.toNat : Int) == 2) = false := by
        rw [beq_eq_false_iff_ne]
        intro e
        exact hk (by rw [← UInt8.toNat_inj]; have e2 : (h.k.toNat : Int) = ((2 : Nat) : Int) := e; exact Int.ofNat.inj e2)
      obtain ⟨hh, hhh⟩ : ∃ hh : VH, hh = h := ⟨_, rfl⟩
      obtain ⟨S1, hs1⟩ : ∃ s1, s1 = S := ⟨_, rfl⟩
      have HSS : Hid (S1.size ≤ 1000000000) := by unfold Hid; rw [hs1]; exact hS
      have HF : Hid (fillV (.mk h ks) S.data.toList = (fillVs ks S1.data.toList).map fun r => (.mk hh r.1, r.2)) := by unfold Hid; rw [hhh, hs1, fill_n hk]
      obtain ⟨W2, hW2⟩ : ∃ W2, W = W2 := ⟨_, rfl⟩
      have a1 : W2.heap[w.heap.size]? = some (.cells (vaA hh A ks.length c) 32 (0, 0)) := by rw [← hW2, hhh]; exact E1W.out
      have a2 : W2.heap[w.heap.size + 1]? = some (.cells vaZ 32 (0, 0)) := by rw [← hW2]; exact E2W.out
      have a3 : W2.heap[bF]? = some (.cells #[.string S1] 71 (0, 0)) := by rw [← hW2, hs1]; exact EFW.out
      have hz2 : W2.heap.size = w.heap.size + 1 + 1 := by rw [← hW2]; exact HSW.out
      have hk2 : Kept w bF W2 := by rw [← hW2]; exact kept_below HBW.out
      obtain ⟨U, hU⟩ : ∃ U, W2.setCell ⟨w.heap.size, 2, none⟩ (.slice none 0 0) = U := ⟨_, rfl⟩
      have hbl := HBL.out
      have E1 : Hid (U.heap[w.heap.size]? = some (.cells #[.int .u8 (hh.k.toNat : Int), .int .u8 (hh.b.toNat : Int), .slice none 0 0] 32 (0, 0))) := by unfold Hid; rw [← hU]; exact two_setCell a1
      have E2 : Hid (U.heap[w.heap.size + 1]? = some (.cells vaZ 32 (0, 0))) := by unfold Hid; rw [← hU]; exact (Below.heap_setCell _ _ _ _ (by show w.heap.size + 1 ≠ w.heap.size; omega)).trans a2
      have EF : Hid (U.heap[bF]? = some (.cells #[.string S1] 71 (0, 0))) := by unfold Hid; rw [← hU]; exact (Below.heap_setCell _ _ _ _ (by show bF ≠ w.heap.size; omega)).trans a3
      have HSZ : Hid (w.heap.size + 1 + 1 ≤ U.heap.size) := by unfold Hid; rw [← hU]; simp; omega
      have HKP : Hid (Kept w bF U) := by unfold Hid; rw [← hU]; exact kept_set hk2 (.inl (Nat.le_refl _))
      have HR := HRW
      have HU := Lib.hid hU
      have A1' := Lib.hid a1
      clear hU a1 a2 a3 hk2 hz2 hbl
      go_enter Tryz.func29, Tryz.ntmps29
      clear hs1 hhh hk
      go_upto_region 5 with fail
      rw [show (w.alloc _).alloc _ = W from HE.out, hW2]
      clear hW2 t1
      obtain ⟨⟨x0, x1, x2⟩, xf0, xf1, xf2⟩ := va_cells A1'.out
      go_upto_region 7 with fail
      rw [show W2.setCell _ _ = U from HU.out]
      clear x0 x1 x2 xf0 xf1 xf2
      go_wp2_with fail
      go_loopw [39] (fun i wr => ∃ (k : Nat) (lv : Value) (okk : Nat → Prop) (l : List Va) (S2 : ByteArray), i = .int .i64 (k : Nat) ∧ k ≤ ks.length ∧ Hid (fillVs (ks.take k) S1.data.toList = some (l, S2.data.toList)) ∧ Hid (l.length = k) ∧ Hid (S2.size ≤ 1000000000) ∧
        Hid (OwnT VE okk wr (w.heap.size + 1 + 1) 32 lv l) ∧ Hid (∀ x, okk x → w.heap.size + 1 + 1 ≤ x ∧ x < wr.heap.size) ∧ Hid (wr.heap[w.heap.size]? = some (.cells #[.int .u8 (hh.k.toNat : Int), .int .u8 (hh.b.toNat : Int), lv] 32 (0, 0))) ∧ Hid (wr.heap[w.heap.size + 1]? = some (.cells vaZ 32 (0, 0))) ∧ Hid (wr.heap[bF]? = some (.cells #[.string S2] 71 (0, 0))) ∧ Hid (w.heap.size + 1 + 1 ≤ wr.heap.size) ∧ Hid (Kept w bF wr)) (fun i _ => ks.length - (intOf i).toNat)
      case atStart => exact ⟨0, _, fun _ => False, [], S1, rfl, Nat.zero_le _, rfl, rfl, HSS, Lib.hid (OwnT.nil_ _ _ _ _ _), Lib.hid (fun x hx => hx.elim), E1, E2, EF, HSZ, (by first | exact HKP | exact Lib.hid (kept_drew HKP.out))⟩
      case round =>
        clear E1 E2 EF HSZ HKP HSS
        obtain ⟨k, lv, okk, l, S2, rfl, hk, HL, HLL, HSS, HOw, HK, E1, E2, EF, HSZ, HKP⟩ := hrel
        have hszr := HSZ.out
        by_cases hlt : k < ks.length
        · obtain ⟨t, ad, h1, ls, A1, c1, hA, hx, rfl, hc1, hr1, q0, q1, q2⟩ := va_at (HR.out.grown HKP.out (fun x hx e => HOK.out x hx.1 (Option.some.inj e))) hlt
          subst hA
          have hs1 := HS.out _ (List.mem_of_getElem? hx)
          simp only [T.size] at hs1
          have HFT := Lib.hid (fill_take hx HL.out)
          obtain ⟨X1, hX1⟩ : ∃ X1, wr.alloc (.cells (vaA h1 A1 ls.length c1) 32) = X1 := ⟨_, rfl⟩
          have hb1 : Below wr.heap.size wr X1 := by rw [← hX1]; exact below_new (Below.refl _ _) _
          have n8 : X1.heap[wr.heap.size]? = some (.cells (vaA h1 A1 ls.length c1) 32 (0, 0)) := by rw [← hX1]; exact new_at1 _
          have hsX1 : X1.heap.size = wr.heap.size + 1 := by rw [← hX1]; simp
          have HC := Lib.hid (IH.out _ h1 ls A1 c1 S2 bF X1 hs1 (by omega) HSS.out hc1 (hr1.below hb1) (fun x hx => HOK.out x hx.1) ((hb1.block _ (lt_of_block EF.out)).trans EF.out))
          have HK1 : Hid (Kept w bF X1) := by unfold Hid; rw [← hX1]; exact kept_new HKP.out _
          have HO1 := Lib.hid (HOw.out.keep hb1)
          have E11 := Lib.hid ((hb1.block _ (lt_of_block E1.out)).trans E1.out)
          have E21 := Lib.hid ((hb1.block _ (lt_of_block E2.out)).trans E2.out)
          have N8 := Lib.hid n8
          have HSX := Lib.hid hsX1
          have HX1 := Lib.hid hX1
          have hob : Hid (∀ j, lv.ownBlock = some j → w.heap.size + 1 + 1 ≤ j ∧ j < wr.heap.size) := fun j hj => own_inE HOw.out hj
          clear hX1 hb1 n8 hx hr1 HL HOw E1 E2 EF HKP hsX1
          go_upto_region 10 with fail
          rw [show wr.alloc _ = X1 from HX1.out]
          clear q0 q1 q2
          obtain ⟨u0, u1, u2⟩ := va_at_box N8.out
          go_wp2_with fail
          refine HC.out.mono ?_
          rintro e w2 ⟨hn, kn, An, cn, b, S4, rfl, hrl, hcn, hrn, hk2, ef2⟩
          clear u0 u1 u2 HC
          have hs2 := hk2.size
          have hsX1 := HSX.out
          have hbl := HBL.out
          obtain ⟨wD, hwD⟩ : ∃ x, w2.alloc (.cells (vaA hn An kn.length cn) 32) = x := ⟨_, rfl⟩
          have hbD : Below w2.heap.size w2 wD := by rw [← hwD]; exact below_new (Below.refl _ _) _
          have n9 : wD.heap[w2.heap.size]? = some (.cells (vaA hn An kn.length cn) 32 (0, 0)) := by rw [← hwD]; exact new_at1 _
          have hsD : wD.heap.size = w2.heap.size + 1 := by rw [← hwD]; simp
          have HSD := Lib.hid hsD
          have HKD : Hid (Kept w bF wD) := by unfold Hid; rw [← hwD]; exact kept_new (kept_trans HK1.out hk2) _
          have HOD := Lib.hid ((HO1.out.grown_bE hk2 (by omega) (fun x hx => by have := (HK.out x hx).1; omega)).keep hbD)
          have E1D := Lib.hid ((hbD.block _ (by omega)).trans ((hk2.block _ (by omega) (by intro e; have := Option.some.inj e; omega)).trans E11.out))
          have E2D := Lib.hid ((hbD.block _ (by omega)).trans ((hk2.block _ (by omega) (by intro e; have := Option.some.inj e; omega)).trans E21.out))
          have EFD := Lib.hid ((hbD.block _ (lt_of_block ef2)).trans ef2)
          have HRN := Lib.hid (hrn.there.below hbD)
          have N9 := Lib.hid n9
          have HWD := Lib.hid hwD
          have HCN := Lib.hid hcn
          have HKK : Hid (∀ x, okk x → w.heap.size + 1 + 1 ≤ x ∧ x < wr.heap.size) := HK.out
          clear hwD hbD n9 hrn hcn HO1 E11 E21 HK1 hk2 ef2 HK N8 hsD hsX1
          go_upto_region 11 with fail
          rw [show w2.alloc _ = wD from HWD.out]
          rcases hrl with ⟨hno, rfl, _⟩ | ⟨hso, rfl⟩
          · have HX : Hid (fillV (.mk h ks) S.data.toList = none) := by unfold Hid; rw [HF.out, HFT.out.1 hno]; rfl
            obtain ⟨⟨y0, y1, y2⟩, f0, f1, f2⟩ := va_cells E2D.out
            have hne : bF ≠ w.heap.size + 1 := by omega
            clear hno HFT HOD
            go_wp2_with fail
            refine bodyPost_ret (v := .tuple #[vaV vaH0 none 0 0, .bool false]) (by simp [results, Tryz.results29, go_sem, y0, y1, y2]; try exact ⟨rfl, rfl, rfl⟩) rfl ⟨vaH0, [], none, 0, false, S4, rfl, .inl ⟨HX.out, rfl, rfl⟩, Nat.le_refl _, by simp [InRow], kept_set (kept_set (kept_set HKD.out (.inl (by omega))) (.inl (by omega))) (.inl (by omega)), (three_other hne).trans EFD.out⟩
          · obtain ⟨hml, hs2'⟩ := fillV_drop _ _ _ _ hso
            have HS4 : Hid (S4.size ≤ 1000000000) := by unfold Hid; rw [← sl_ S4, hs2', List.length_drop, sl_]; have := HSS.out; omega
            have HL2 := Lib.hid (HFT.out.2 _ _ hso)
            have HLL2 : Hid ((l ++ [T.mk hn kn]).length = k + 1) := by unfold Hid; rw [List.length_append, HLL.out]; rfl
            have hsD := HSD.out
            have hsX1 := HSX.out
            obtain ⟨cs0, hown0, hsrc, happ⟩ := va_app (P := fun x => X1.heap.size ≤ x ∧ x < w2.heap.size) HOD.out (fun x hx => by have := (HKK.out x hx).2; omega) (fun x hx => ⟨by have := hx.2; omega, fun e => by have := (hob.out x e.symm).2; omega⟩) (Below.refl _ _) (show T.mk hn kn = .mk hn kn from rfl) HCN.out (HRN.out.weak fun x hx => .inl hx)
            have HAPP := Lib.hid happ
            have hXb : Below wD.heap.size wD (wD.alloc (.cells (vaA hn An kn.length cn) 32)) := below_new (Below.refl _ _) _
            have E12 := Lib.hid ((hXb.block _ (lt_of_block E1D.out)).trans E1D.out)
            have E22 := Lib.hid ((hXb.block _ (lt_of_block E2D.out)).trans E2D.out)
            have EF2 := Lib.hid ((hXb.block _ (lt_of_block EFD.out)).trans EFD.out)
            have HK2 := Lib.hid (kept_new HKD.out (.cells (vaA hn An kn.length cn) 32))
            obtain ⟨⟨x0, x1, x2⟩, xf0, xf1, xf2⟩ := va_cells E1D.out
            obtain ⟨z0, z1, z2⟩ := va_at_box N9.out
            clear happ hXb hso hs2' hml HFT E1D E2D EFD HKD hsD hsX1
            go_wp2_with (at_builtin; refine wpList_app _ rfl (.tmp 53) (.tmp 55) 30 rfl (w.heap.size + 1 + 1) 32 _ 3 32 Tryz.underlying30 Tryz.info_va rfl (by decide) _ _ _ rfl hown0 (some ⟨wD.heap.size, 0, none⟩) 1 1 _ rfl hsrc ?h1 ?h2 ?h3 ?h4 ?_)
            case h1 => first | exact vaA_one hn An kn.length cn | exact ⟨rfl, rfl, rfl⟩ | trivial
            case h2 => have := HLL.out; unfold maxLen; omega
            case h3 => have := HLL.out; omega
            case h4 => have hsD := HSD.out; have hsX1 := HSX.out; (try rw [World.size_alloc]); omega
            have hsD := HSD.out
            have hsX1 := HSX.out
            intro v5 w6 ho5 hg5 hat5
            obtain ⟨A5, c5, hv5, _, _⟩ := own_slice ho5
            subst hv5
            have hs6 := hg5.size
            rw [World.size_alloc] at hs6
            have HO6 := HAPP.out _ w6 ho5 hg5 (by rw [World.size_alloc]; exact hat5)
            have E17 := (hg5.block _ (lt_of_block E12.out) (fun e => by have := (hob.out _ e.symm).1; omega)).trans E12.out
            have E27 := (hg5.block _ (lt_of_block E22.out) (fun e => by have := (hob.out _ e.symm).1; omega)).trans E22.out
            have EF7 := (hg5.block _ (lt_of_block EF2.out) (fun e => by have := (hob.out _ e.symm).1; omega)).trans EF2.out
            have HK7 := kept_grown HK2.out hg5 (fun j hj => .inl (by have := (hob.out j hj).1; omega))
            obtain ⟨⟨g0, g1, g2⟩, gf0, gf1, gf2⟩ := va_cells E17
            have E18 := Lib.hid (two_setCell (u2 := .slice A5 (l.length + 1) c5) E17)
            have E28 : Hid ((w6.setCell ⟨w.heap.size, 2, none⟩ (.slice A5 (l.length + 1) c5)).heap[w.heap.size + 1]? = some (.cells vaZ 32 (0, 0))) := (Below.heap_setCell _ _ _ _ (by show w.heap.size + 1 ≠ w.heap.size; omega)).trans E27
            have EF8 : Hid ((w6.setCell ⟨w.heap.size, 2, none⟩ (.slice A5 (l.length + 1) c5)).heap[bF]? = some (.cells #[.string S4] 71 (0, 0))) := (Below.heap_setCell _ _ _ _ (by show bF ≠ w.heap.size; omega)).trans EF7
            have HK8 : Hid (Kept w bF (w6.setCell ⟨w.heap.size, 2, none⟩ (.slice A5 (l.length + 1) c5))) := kept_set HK7 (.inl (Nat.le_refl _))
            have HO8 := Lib.hid (HO6.grown_bE (set_grown w6 w.heap.size 2 (.slice A5 (l.length + 1) c5)) (by omega) (fun x hx => by rcases hx with hx | hx | hx; have := (HKK.out x hx).1; omega; omega; omega))
            have HK9 : Hid (∀ x, (okk x ∨ (X1.heap.size ≤ x ∧ x < w2.heap.size) ∨ (wD.heap.size ≤ x ∧ x < wD.heap.size)) → w.heap.size + 1 + 1 ≤ x ∧ x < (w6.setCell ⟨w.heap.size, 2, none⟩ (.slice A5 (l.length + 1) c5)).heap.size) := fun x hx => by
              rw [show (w6.setCell ⟨w.heap.size, 2, none⟩ (.slice A5 (l.length + 1) c5)).heap.size = w6.heap.size by simp]
              rcases hx with hx | hx | hx
              · have := HKK.out x hx; exact ⟨this.1, by omega⟩
              · exact ⟨by omega, by omega⟩
              · omega
            have HSZ6 : Hid (w.heap.size + 1 + 1 ≤ (w6.setCell ⟨w.heap.size, 2, none⟩ (.slice A5 (l.length + 1) c5)).heap.size) := by unfold Hid; simp; omega
            clear ho5 hg5 hat5 hown0 hsrc HAPP HK2 hs6 HOD HKK E12 E22 EF2 hob z0 z1 z2 N9 x0 x1 x2 xf0 xf1 xf2 HO6 E17 E27 EF7 HK7 hsD hsX1
            go_wp2_with fail
            go_roundw
            case rel => exact ⟨k + 1, _, _, l ++ [T.mk hn kn], S4, by go_num, by omega, HL2, HLL2, HS4, HO8, HK9, E18, E28, EF8, HSZ6, HK8⟩
            case measure => simp [intOf]; omega
        · have hkk : k = ks.length := by omega
          subst hkk
          have HFF : Hid (fillV (.mk h ks) S.data.toList = some (.mk hh l, S2.data.toList)) := by
            have := HL.out
            rw [List.take_length] at this
            unfold Hid
            rw [HF.out, this]
            rfl
          obtain ⟨A3, c3, hv3, hc3, hr3⟩ := HOw.out.row
          have HR3 := Lib.hid (hr3.weak (ok' := fun x => w.heap.size + 1 + 1 ≤ x) fun x hx => by
            rcases hx with hx | hx
            · exact (HK.out x hx).1
            · exact (own_inE HOw.out hx).1)
          have HC3 := Lib.hid hc3
          subst hv3
          obtain ⟨⟨x0, x1, x2⟩, xf0, xf1, xf2⟩ := va_cells E1.out
          obtain ⟨⟨y0, y1, y2⟩, f0, f1, f2⟩ := va_cells E2.out
          have hbl := HBL.out
          have hne : bF ≠ w.heap.size + 1 := by omega
          clear hr3 hc3 HL HK HOw hlt
          go_wp2_with fail
          refine bodyPost_ret (v := .tuple #[vaV hh A3 l.length c3, .bool true]) (by simp [results, Tryz.results29, go_sem, y0, y1, y2]; try exact ⟨rfl, rfl, rfl⟩) rfl ⟨hh, l, A3, c3, true, S2, rfl, .inr ⟨HFF.out, rfl⟩, HC3.out, (row_three HR3.out fun x hx => by omega).weak fun x hx => by omega, kept_set (kept_set (kept_set HKP.out (.inl (by omega))) (.inl (by omega))) (.inl (by omega)), (three_other hne).trans EF.out⟩
end Go.Proofs.YtgdigbbfgpenpaaGreatDoor
namespace Go.Proofs.YtgdigbbfgpenpaaGreatDoor
open Go.RowKit
set_option linter.unusedVariables false
set_option linter.unusedSimpArgs false

set_option maxRecDepth 100000 in
set_option maxHeartbeats 8000000 in
theorem pFill_any {ok : Nat → Prop} (h : VH) (ks : List Va) (A : Option Addr) (c : Nat) (S : ByteArray) (w : World) (hm : T.sizes ks ≤ 900000000) (hS : S.size ≤ 1000000000) (hc : ks.length ≤ c) (hr : InRow VE ok w ks A 0) :
    Calls Tryz.prog 17 #[vaV h A ks.length c, .string S] w (FullPost (.mk h ks) S.data.toList w) := by
  obtain ⟨W0, hW0⟩ : ∃ W, (w.alloc (.cells (vaA h A ks.length c) 32)).alloc (.cells vaZ 32) = W := ⟨_, rfl⟩
  have hbW0 : Below w.heap.size w W0 := by rw [← hW0]; exact below_new (below_new (Below.refl _ _) _) _
  have hsW0 : W0.heap.size = w.heap.size + 1 + 1 := by rw [← hW0]; simp
  have e2W0 : W0.heap[w.heap.size + 1]? = some (.cells vaZ 32 (0, 0)) := by
    rw [← hW0]
    have := new_at1 (w := w.alloc (.cells (vaA h A ks.length c) 32)) (.cells vaZ 32)
    rw [World.size_alloc] at this
    exact this
  obtain ⟨W, hW⟩ : ∃ W, W0.alloc (.cells #[.string S] 71) = W := ⟨_, rfl⟩
  have hb0W : Below W0.heap.size W0 W := by rw [← hW]; exact below_new (Below.refl _ _) _
  have hbW := below_from hbW0 hb0W
  have hsW : W.heap.size = w.heap.size + 1 + 1 + 1 := by rw [← hW, World.size_alloc, hsW0]
  have e2W := (hb0W.block _ (lt_of_block e2W0)).trans e2W0
  have eFW : W.heap[w.heap.size + 1 + 1]? = some (.cells #[.string S] 71 (0, 0)) := by rw [← hW, ← hsW0]; exact new_at1 _
  have HC := Lib.hid (pfill_upto 1000000000 _ h ks A c S (w.heap.size + 1 + 1) W (by omega) (Nat.le_refl _) hS hc (hr.there.below hbW) (fun x hx => by have := hx.2; omega) eFW)
  have HE := Lib.hid hW0
  have HW := Lib.hid hW
  have HBW := Lib.hid hbW
  have HSW := Lib.hid hsW
  have HSW0 := Lib.hid hsW0
  have E2W := Lib.hid e2W
  have e1W0 : W0.heap[w.heap.size]? = some (.cells (vaA h A ks.length c) 32 (0, 0)) := by rw [← hW0]; exact heap_keep1 (new_at1 _) _
  have E1W := Lib.hid ((hb0W.block _ (lt_of_block e1W0)).trans e1W0)
  clear hW0 hbW0 hsW0 e2W0 e1W0 hW hb0W hbW hsW e2W eFW hr
  go_enter Tryz.func17, Tryz.ntmps17
  go_upto_region 1 with fail
  rw [show (w.alloc _).alloc _ = W0 from HE.out]
  have hsw0 := HSW0.out
  go_upto_region 2 with fail
  rw [show W0.alloc _ = W from HW.out]
  clear hsw0 HSW0 HW HE
  obtain ⟨x0, x1, x2⟩ := va_at_box E1W.out
  go_wp2_with fail
  refine HC.out.mono ?_
  clear x0 x1 x2 HC
  rintro e w1 ⟨hn, kn, An, cn, b, S2, rfl, hrl, hcn, hrn, hk1, ef1⟩
  have hsw := HSW.out
  have hb1 : Below w.heap.size w w1 := by
    have hb0 := HBW.out
    exact ⟨hk1.os.trans hb0.os, hk1.tape.trans hb0.tape, hk1.output.trans hb0.output, Nat.le_trans hb0.size hk1.size, fun j hj => (hk1.block j (by omega) (by intro e; have := Option.some.inj e; omega)).trans (hb0.block j hj)⟩
  obtain ⟨X, hX⟩ : ∃ X, w1.alloc (.cells (vaA hn An kn.length cn) 32) = X := ⟨_, rfl⟩
  have hbX : Below w1.heap.size w1 X := by rw [← hX]; exact below_new (Below.refl _ _) _
  have n7 : X.heap[w1.heap.size]? = some (.cells (vaA hn An kn.length cn) 32 (0, 0)) := by rw [← hX]; exact new_at1 _
  have HXX := Lib.hid hX
  have hs1 := hk1.size
  have E2 := Lib.hid ((hbX.block _ (by omega)).trans ((hk1.block _ (by omega) (by intro e; have := Option.some.inj e; omega)).trans E2W.out))
  have EF := Lib.hid ((hbX.block _ (lt_of_block ef1)).trans ef1)
  have HB := Lib.hid (below_from hb1 hbX)
  have HRN := Lib.hid ((hrn.weak (ok' := fun x => w.heap.size + 1 + 1 ≤ x) fun x hx => by omega).below hbX)
  have N7 := Lib.hid n7
  have HCN := Lib.hid hcn
  have hz1 : w.heap.size + 1 < w1.heap.size := by omega
  clear hX hbX n7 hrn hcn hk1 ef1 hb1 hsw hs1 HSW E2W E1W HBW
  rcases hrl with ⟨h1, rfl, _⟩ | ⟨h1, rfl⟩
  · have HRL : Hid (FullRel (.mk h ks) S.data.toList (.mk vaH0 []) false) := .inl ⟨full_none h1, rfl, rfl⟩
    clear h1
    go_upto_region 3 with fail
    rw [show w1.alloc _ = X from HXX.out]
    obtain ⟨⟨y0, y1, y2⟩, f0, f1, f2⟩ := va_cells E2.out
    obtain ⟨p0, pf0⟩ := fil_cells EF.out
    go_wp2_with fail
    refine bodyPost_ret (v := .tuple #[vaV vaH0 none 0 0, .bool false]) (by simp [results, Tryz.results17, go_sem, y0, y1, y2]; try exact ⟨rfl, rfl, rfl⟩) rfl ⟨vaH0, [], none, 0, _, rfl, HRL.out, Nat.le_refl _, by simp [InRow], three_below HB.out (by omega)⟩
  have h5 := full_some h1
  by_cases l0 : S2.size = 0
  · have t2 := sl_empty l0
    have HRL : Hid (FullRel (.mk h ks) S.data.toList (.mk hn kn) true) := by
      have : S2.data.toList = [] := List.eq_nil_of_length_eq_zero (by rw [sl_]; exact l0)
      rw [if_pos this] at h5
      exact .inr ⟨h5, rfl⟩
    clear h1 h5 l0
    go_upto_region 3 with fail
    rw [show w1.alloc _ = X from HXX.out]
    obtain ⟨⟨y0, y1, y2⟩, f0, f1, f2⟩ := va_cells E2.out
    obtain ⟨x0, x1, x2⟩ := va_at_box N7.out
    obtain ⟨p0, pf0⟩ := fil_cells EF.out
    go_wp2_with fail
    refine bodyPost_ret (v := .tuple #[vaV hn An kn.length cn, .bool true]) (by simp [results, Tryz.results17, go_sem, y0, y1, y2]; try exact ⟨rfl, rfl, rfl⟩) rfl ⟨hn, kn, An, cn, _, rfl, HRL.out, HCN.out, (row_three HRN.out fun x hx => by omega).weak fun x hx => by omega, three_below HB.out (by omega)⟩
  · have t2 := sl_full l0
    have HRL : Hid (FullRel (.mk h ks) S.data.toList (.mk vaH0 []) false) := by
      have : S2.data.toList ≠ [] := fun e => l0 (by rw [← sl_, e]; rfl)
      rw [if_neg this] at h5
      exact .inl ⟨h5, rfl, rfl⟩
    clear h1 h5 l0
    go_upto_region 3 with fail
    rw [show w1.alloc _ = X from HXX.out]
    obtain ⟨⟨y0, y1, y2⟩, f0, f1, f2⟩ := va_cells E2.out
    obtain ⟨p0, pf0⟩ := fil_cells EF.out
    go_wp2_with fail
    refine bodyPost_ret (v := .tuple #[vaV vaH0 none 0 0, .bool false]) (by simp [results, Tryz.results17, go_sem, y0, y1, y2]; try exact ⟨rfl, rfl, rfl⟩) rfl ⟨vaH0, [], none, 0, _, rfl, HRL.out, Nat.le_refl _, by simp [InRow], three_below HB.out (by omega)⟩
end Go.Proofs.YtgdigbbfgpenpaaGreatDoor
namespace Go.Proofs.YtgdigbbfgpenpaaGreatDoor
open Go.RowKit Go.ChangeShapes Go.WideShapes Go.ChangeAt
set_option linter.unusedVariables false
set_option linter.unusedSimpArgs false

section
variable {H : Type} {enc : TypeId × Value → H} {w : World} {base : Nat} {spare : Nat → Bool} {held : Bool}
set_option maxRecDepth 100000 in
theorem open_va1 (n : Nat) (cs : List Value) (x : DataW H × List MemPlace) (h : DataW.trod enc Tryz.prog w base spare held n 32 cs = some x) :
    ∃ (a : VH) (v : Value) (n' : Nat) (y : DataW H × List MemPlace), cs = VE.cells a ++ [v] ∧ DataW.trod enc Tryz.prog w base spare held n' 30 [v] = some y ∧ Rows.uptoBulk y.1 < Rows.uptoBulk x.1 := by
  obtain ⟨y0, y1, y2, n', rfl, hl, h0, h1, h2⟩ := Deep.trod_struct3 Tryz.underlying32 h
  have hz : Tryz.prog.cellsOf 32 = 3 := by kernel_rfl
  have hz0 : Tryz.prog.cellsOf 5 = 1 := by kernel_rfl
  have hz2 : Tryz.prog.cellsOf 30 = 1 := by kernel_rfl
  rw [hz] at hl
  match cs, hl with
  | [c0, c1, c2], _ =>
  simp [hz0, hz2] at h0 h1 h2
  obtain ⟨n0, e0, _, w0⟩ := DataW.trod_int Tryz.underlying5 h0
  obtain ⟨n1, e1, _, w1⟩ := DataW.trod_int Tryz.underlying5 h1
  obtain ⟨x0, rfl⟩ := u8_of w0
  obtain ⟨x1, rfl⟩ := u8_of w1
  simp only [List.cons.injEq, and_true] at e0 e1
  subst e0 e1
  refine ⟨⟨x0, x1⟩, c2, n', y2, rfl, h2, ?_⟩
  simp only [Rows.uptoBulk, Rows.uptoBulkAll]
  omega
set_option maxRecDepth 100000 in
/-- a value -/
theorem open_val {v : Value} {d : DataW H} {p : List MemPlace} {r : Reach} {b0 : Nat} (hv : Value.okWide Tryz.prog w r b0 32 v) (h : DataW.Trod enc Tryz.prog w base spare held 32 v d p) :
    ∃ (h : VH) (ks : List Va) (A : Option Addr) (c : Nat), v = vaV h A ks.length c ∧ ks.length ≤ c ∧ InRow VE (fun _ => True) w ks A 0 ∧ T.sizes ks + 2 ≤ Rows.uptoBulk d := by
  obtain ⟨cs, rfl, hcs⟩ := okWide_struct Tryz.underlying32 hv
  obtain ⟨fuel, hf⟩ := h
  obtain ⟨a, v, n', y, e, hy, hlt⟩ := open_va1 _ _ _ hf
  obtain ⟨ks, A, c, e2, hc, hr, hs⟩ := open_trees (E := VE) Tryz.underlying30 (by kernel_rfl) open_va1 _ _ _ _ hy (Nat.le_refl _)
  simp only [List.cons.injEq, and_true] at e2
  subst e2
  refine ⟨a, ks, A, c, ?_, hc, hr, ?_⟩
  · have : cs.toList = [.int .u8 (a.k.toNat : Int), .int .u8 (a.b.toNat : Int), .slice A ks.length c] := e
    have h2 : cs = vaA a A ks.length c := by
      rw [← Array.toList_inj]; exact this
    rw [h2]
  · simp only at hlt; omega
end
end Go.Proofs.YtgdigbbfgpenpaaGreatDoor
