/- Coded expressions: how they lie; whether a node may be (plain). Coded expressions: how many nodes, as far as some more; the nodes, as the document has them. The document's bound on coded expressions. -/
import Derived.Test.YteoghoaggpbkpaaDoorRexC
import Derived.Test.YteoghoaggpbkpaaDoorBytes
import Derived.Test.YteoghoaggpbkpaaDoorRexD
import Derived.Test.YteoghoaggpbkpaaDoorBytesRef
namespace Go.Proofs.YteoghoaggpbkpaaDoor
open Go.RowKit
set_option linter.unusedVariables false
set_option linter.unusedSimpArgs false

/-- A coded expression's head: its kind, its bits and its set. -/
structure CH where
  k : UInt8
  b : List UInt8
  s : S4
  deriving DecidableEq
abbrev Co := T CH
def CH.cells (h : CH) : List Value := [.int .u8 (h.k.toNat : Int), .string (str h.b), .int .u64 (h.s.a.toNat : Int), .int .u64 (h.s.b.toNat : Int), .int .u64 (h.s.c.toNat : Int), .int .u64 (h.s.d.toNat : Int)]
def CE : Enc CH := ⟨6, CH.cells, fun _ => rfl, fun a u hu => by simp [CH.cells] at hu; rcases hu with rfl | rfl | rfl | rfl | rfl | rfl <;> rfl⟩
/-- a coded expression as a value -/
abbrev coV (h : CH) (A : Option Addr) (n c : Nat) : Value :=
  .agg #[.int .u8 (h.k.toNat : Int), .string (str h.b), .int .u64 (h.s.a.toNat : Int), .int .u64 (h.s.b.toNat : Int), .int .u64 (h.s.c.toNat : Int), .int .u64 (h.s.d.toNat : Int), .slice A n c]
abbrev coA (h : CH) (A : Option Addr) (n c : Nat) : Array Value :=
  #[.int .u8 (h.k.toNat : Int), .string (str h.b), .int .u64 (h.s.a.toNat : Int), .int .u64 (h.s.b.toNat : Int), .int .u64 (h.s.c.toNat : Int), .int .u64 (h.s.d.toNat : Int), .slice A n c]
/-- a coded expression in a row: its cells -/
theorem co_at {ok : Nat → Prop} {w : World} {ts : List Co} {A : Option Addr} (hr : InRow CE ok w ts A 0) {k : Nat} (hk : k < ts.length) :
    ∃ (t : Co) (ad : Addr) (h : CH) (ks : List Co) (A1 : Option Addr) (c1 : Nat), A = some ad ∧ ts[k]? = some t ∧ t = .mk h ks ∧ ks.length ≤ c1 ∧ InRow CE ok w ks A1 0 ∧
      w.cell? (ad.add (k * 7)) = some (.int .u8 (h.k.toNat : Int)) ∧
      w.cell? ⟨(ad.add (k * 7)).block, (ad.add (k * 7)).off + 1, none⟩ = some (.string (str h.b)) ∧
      w.cell? ⟨(ad.add (k * 7)).block, (ad.add (k * 7)).off + 2, none⟩ = some (.int .u64 (h.s.a.toNat : Int)) ∧
      w.cell? ⟨(ad.add (k * 7)).block, (ad.add (k * 7)).off + 3, none⟩ = some (.int .u64 (h.s.b.toNat : Int)) ∧
      w.cell? ⟨(ad.add (k * 7)).block, (ad.add (k * 7)).off + 4, none⟩ = some (.int .u64 (h.s.c.toNat : Int)) ∧
      w.cell? ⟨(ad.add (k * 7)).block, (ad.add (k * 7)).off + 5, none⟩ = some (.int .u64 (h.s.d.toNat : Int)) ∧
      w.cell? ⟨(ad.add (k * 7)).block, (ad.add (k * 7)).off + 6, none⟩ = some (.slice A1 ks.length c1) := by
  have hk' : ts[k]? = some ts[k] := by simp [hk]
  obtain ⟨ad, cs, hA, _, hc, ht⟩ := hr.at_ k _ hk'
  rw [Nat.zero_add] at hc
  generalize ts[k] = t at *
  obtain ⟨h, ks⟩ := t
  simp only [InT] at ht
  obtain ⟨A1, c1, rfl, hc1, hr1⟩ := ht
  exact ⟨_, ad, h, ks, A1, c1, hA, hk', rfl, hc1, hr1, cell_0 hc rfl, cell_j hc 1 (by decide) rfl, cell_j hc 2 (by decide) rfl, cell_j hc 3 (by decide) rfl, cell_j hc 4 (by decide) rfl, cell_j hc 5 (by decide) rfl, cell_j hc 6 (by decide) rfl⟩
/-- a box's cells -/
theorem co_at_box {w1 : World} {b : Nat} {v0 v1 v2 v3 v4 v5 v6 : Value} {t : TypeId} (h : w1.heap[b]? = some (.cells #[v0, v1, v2, v3, v4, v5, v6] t (0, 0))) :
    w1.cell? ⟨b, 0, none⟩ = some v0 ∧ w1.cell? ⟨b, 1, none⟩ = some v1 ∧ w1.cell? ⟨b, 2, none⟩ = some v2 ∧ w1.cell? ⟨b, 3, none⟩ = some v3 ∧ w1.cell? ⟨b, 4, none⟩ = some v4 ∧ w1.cell? ⟨b, 5, none⟩ = some v5 ∧ w1.cell? ⟨b, 6, none⟩ = some v6 := by
  refine ⟨?_, ?_, ?_, ?_, ?_, ?_, ?_⟩ <;> simp [World.cell?, h]
/-- a box's cells, behind what has left them alone -/
theorem co_box {w w1 : World} {t : TypeId} {h : CH} {A : Option Addr} {n c : Nat} (hb : Below (w.alloc (.cells (coA h A n c) t)).heap.size (w.alloc (.cells (coA h A n c) t)) w1) :
    w1.cell? ⟨w.heap.size, 0, none⟩ = some (.int .u8 (h.k.toNat : Int)) ∧ w1.cell? ⟨w.heap.size, 1, none⟩ = some (.string (str h.b)) ∧ w1.cell? ⟨w.heap.size, 2, none⟩ = some (.int .u64 (h.s.a.toNat : Int)) ∧ w1.cell? ⟨w.heap.size, 3, none⟩ = some (.int .u64 (h.s.b.toNat : Int)) ∧
    w1.cell? ⟨w.heap.size, 4, none⟩ = some (.int .u64 (h.s.c.toNat : Int)) ∧ w1.cell? ⟨w.heap.size, 5, none⟩ = some (.int .u64 (h.s.d.toNat : Int)) ∧ w1.cell? ⟨w.heap.size, 6, none⟩ = some (.slice A n c) :=
  co_at_box ((hb.block _ (by rw [World.size_alloc]; exact Nat.lt_succ_self _)).trans (heap_alloc_new w _))

/-- is a text of 0 and 1? -/
def bitsB (l : List UInt8) : Bool := l.all fun x => x == 48 || x == 49
/-- a node alone may be -/
def okNodeC (h : CH) (n : Nat) : Bool :=
  bitsB h.b &&
  if h.k.toNat = 1 then decide (n = 0) && (decide (h.s = S4.zero) && (h.b == []))
  else if h.k.toNat = 2 then decide (n = 0) && decide (h.s = S4.zero)
  else if h.k.toNat = 3 then decide (n = 0) && !decide (h.s = S4.zero)
  else if h.k.toNat = 4 then decide (n = 2) && decide (h.s = S4.zero)
  else if h.k.toNat = 5 then decide (h.s = S4.zero)
  else if h.k.toNat = 6 then decide (n = 1) && decide (h.s = S4.zero)
  else false
mutual
def okC : Co → Bool
  | .mk h ks => okNodeC h ks.length && okCL ks
def okCL : List Co → Bool
  | [] => true
  | t :: ts => okC t && okCL ts
end
theorem okCL_all (ts : List Co) : okCL ts = ts.all okC := by
  induction ts with
  | nil => simp [okCL]
  | cons t r ih => simp [okCL, ih]
/-- a coded expression may be -/
def mayC (t : Co) : Bool := okC t && decide (t.size ≤ 20000)
/-- bits ahead -/
def fuseC (l : List UInt8) : Co → Co
  | .mk h ks => if h.k = 1 then .mk h ks else .mk ⟨h.k, l ++ h.b, h.s⟩ ks
mutual
def sameC : Co → Co → Bool
  | .mk h ks, .mk h2 ks2 => decide (h.k = h2.k) && (h.b == h2.b) && decide (h.s = h2.s) && samesC ks ks2
def samesC : List Co → List Co → Bool
  | [], [] => true
  | x :: xs, y :: ys => sameC x y && samesC xs ys
  | _, _ => false
end
end Go.Proofs.YteoghoaggpbkpaaDoor
namespace Go.Proofs.YteoghoaggpbkpaaDoor
open Go.RowKit
set_option linter.unusedVariables false
set_option linter.unusedSimpArgs false

set_option maxHeartbeats 1000000 in
theorem ccount_upto (n : Nat) : ∀ (ok : Nat → Prop) (h : CH) (ks : List Co) (A : Option Addr) (c : Nat) (m : Int) (w : World), 1 + T.sizes ks ≤ n → n ≤ 1000000000 → ks.length ≤ c → InRow CE ok w ks A 0 →
    Calls Tryd.prog 30 #[coV h A ks.length c, .int .i64 m] w fun e w' => e = .returned (.int .i64 (cnt m (.mk h ks))) ∧ Below w.heap.size w w' := by
  induction n with
  | zero => intro ok h ks A c m w h0; omega
  | succ n ih =>
    intro ok h ks A c m w hn hm hc hr
    have hl := T.length_le_sizes ks
    have IH := Lib.hid ih
    clear ih
    have HO : Hid (cnt m (.mk h ks) = cnts m 1 ks) := by simp only [Hid, cnt]
    have hsz : ∀ t ∈ ks, t.size ≤ n := fun t ht => by have := T.sizes_mem ht; omega
    have HS := Lib.hid hsz
    clear hsz
    have hlm : ks.length ≤ 1000000000 := by omega
    go_enter Tryd.func30, Tryd.ntmps30
    go_wp2_with fail
    generalize hW : w.alloc _ = W
    have hbW : Below w.heap.size w W := by rw [← hW]; exact below_new (Below.refl _ _) _
    go_loopw [4, 5, 6, 10] (fun r s _ i wr => ∃ (k : Nat) (z : Int), k ≤ ks.length ∧ i = .int .i64 k ∧ s = .int .i64 z ∧ r = .int .i64 0 ∧ 0 ≤ z ∧ z ≤ 1 + T.sizes (ks.take k) ∧ cnts m z (ks.drop k) = cnts m 1 ks ∧ Below W.heap.size W wr) (fun _ _ _ i _ => ks.length - (intOf i).toNat)
    case atStart => exact ⟨0, 1, Nat.zero_le _, rfl, rfl, rfl, by omega, by simp [T.sizes], by simp, Below.refl _ _⟩
    case round =>
      obtain ⟨k, z, hk, rfl, rfl, rfl, hz0, hz1, hcn, hb⟩ := hrel
      have HN := Lib.hid hcn
      clear hcn
      have hbx := hb
      rw [← hW] at hbx
      obtain ⟨x0, x1, x2, x3, x4, x5, x6⟩ := co_box hbx
      clear hbx x0 x1 x2 x3 x4
      by_cases hlt : k < ks.length
      · obtain ⟨t, ad, h1, ls, A1, c1, hA, hx, rfl, hc1, hr1, q0, q1, q2, q3, q4, q5, q6⟩ := co_at ((hr.below hbW).below hb) hlt
        subst hA
        have hmem := List.mem_of_getElem? hx
        have hs1 := HS.out _ hmem
        simp only [T.size] at hs1
        have hcs := cnt_spec m (T.mk h1 ls)
        simp only [T.size] at hcs
        have htk : Hid (T.sizes (ks.take (k + 1)) = T.sizes (ks.take k) + (1 + T.sizes ls)) := by
          unfold Hid
          rw [List.take_add_one, hx, T.sizes_append]
          simp [T.sizes, T.size]
        have hle : T.sizes (ks.take (k + 1)) ≤ T.sizes ks := by
          conv => rhs; rw [← List.take_append_drop (k + 1) ks, T.sizes_append]
          omega
        have hz2 : z + (1 + T.sizes ls) ≤ 1000000001 := by have := htk.out; omega
        by_cases hgt : m < z
        · have HF := Lib.hid (cnts_stop m z ks k hlt hgt)
          clear hx hr hcs
          go_wp2_with fail
          go_ret
          exact ⟨by rw [HO.out, ← HN.out, HF.out]; rfl, hbW.trans (hb.mono hbW.size)⟩
        · have HF := Lib.hid (cnts_skip m z ks k _ hx hgt)
          have hcs2 := hcs.2
          clear hx hr hcs
          go_wp2_with fail
          refine (IH.out ok h1 ls A1 c1 m _ hs1 (by omega) hc1 hr1).mono ?_
          rintro e w1 ⟨rfl, hb1⟩
          have hb2 := below_from hb hb1
          clear hb1 hr1 q0 q1 q2 q3 q4 q5 q6 x5
          generalize cnt m (T.mk h1 ls) = cc at *
          go_wp2_with fail
          go_roundw
          case rel => exact ⟨k + 1, z + cc, by omega, by go_num, rfl, rfl, by omega, by rw [htk.out]; omega, by rw [← HF.out, HN.out], hb2⟩
          case measure => simp [intOf]; omega
      · have hkk : k = ks.length := by omega
        subst hkk
        have HE : Hid (z = cnts m 1 ks) := by
          have := HN.out
          rwa [List.drop_length] at this
        clear hlt
        go_wp2_with fail
        go_ret
        exact ⟨by rw [HO.out, ← HE.out]; rfl, hbW.trans (hb.mono hbW.size)⟩

theorem Tryd.info_co : (Tryd.prog.info? 29).map (fun i => (i.zero, i.size, i.bytes)) = some (some (.agg #[.int .u8 0, .string .empty, .int .u64 0, .int .u64 0, .int .u64 0, .int .u64 0, .slice none 0 0]), 7, 80) := by kernel_rfl

/-- a new block that holds one expression -/
theorem co_new {ok : Nat → Prop} {w : World} {h : CH} {ks : List Co} {A : Option Addr} {c : Nat} {t : TypeId} (hc : ks.length ≤ c) (hr : InRow CE ok w ks A 0) (hlt : ∀ b, ok b → b < w.heap.size) (base : Nat) (hbase : base ≤ w.heap.size) :
    OwnT CE ok (w.alloc (.cells #[.int .u8 (h.k.toNat : Int), .string (str h.b), .int .u64 (h.s.a.toNat : Int), .int .u64 (h.s.b.toNat : Int), .int .u64 (h.s.c.toNat : Int), .int .u64 (h.s.d.toNat : Int), .slice A ks.length c] t)) base t (.slice (some ⟨w.heap.size, 0, none⟩) 1 1) [.mk h ks] := by
  refine ⟨fun b hb e => ?_, _, World.ownsRow_lit w _ 1 hbase (by unfold maxLen; omega) rfl, fun k x hx => ?_⟩
  · cases e; exact Nat.lt_irrefl _ (hlt _ hb)
  · cases k with
    | succ k => simp at hx
    | zero =>
      simp at hx
      subst hx
      refine ⟨CH.cells h ++ [.slice A ks.length c], fun j u hu => by simpa [CE, CH.cells] using hu, ?_⟩
      simp only [InT]
      exact ⟨A, c, rfl, hc, hr.below (below_new (Below.refl _ _) _)⟩

/-- what All leaves -/
def CAllPost (ok : Nat → Prop) (t : Co) (w : World) (e : Ending) (w' : World) : Prop :=
  ∃ v, e = .returned v ∧ OwnT CE ok w' w.heap.size 29 v t.all ∧ Below w.heap.size w w'
set_option maxHeartbeats 1000000 in
theorem cAll_upto (n : Nat) : ∀ (ok : Nat → Prop) (h : CH) (ks : List Co) (A : Option Addr) (c : Nat) (w : World), 1 + T.sizes ks ≤ n → n ≤ 1000000000 → ks.length ≤ c → InRow CE ok w ks A 0 → (∀ b, ok b → b < w.heap.size) →
    Calls Tryd.prog 10 #[coV h A ks.length c] w (CAllPost ok (.mk h ks) w) := by
  induction n with
  | zero => intro ok h ks A c w h0; omega
  | succ n ih =>
    intro ok h ks A c w hn hm hc hr hok
    have hl := T.length_le_sizes ks
    have IH := Lib.hid ih
    clear ih
    have hsz : ∀ t ∈ ks, t.size ≤ n := fun t ht => by have := T.sizes_mem ht; omega
    have HS := Lib.hid hsz
    clear hsz
    have hlm : ks.length ≤ 1000000000 := by omega
    have HK := Lib.hid hok
    clear hok
    have HO : Hid (T.all (.mk h ks) = .mk h ks :: T.alls ks) := by simp only [Hid, T.all]
    go_enter Tryd.func10, Tryd.ntmps10
    go_wp2_with fail
    have hbx := Below.refl (w.alloc (.cells #[.int .u8 (h.k.toNat : Int), .string (str h.b), .int .u64 (h.s.a.toNat : Int), .int .u64 (h.s.b.toNat : Int), .int .u64 (h.s.c.toNat : Int), .int .u64 (h.s.d.toNat : Int), .slice A ks.length c] 29)).heap.size (w.alloc (.cells #[.int .u8 (h.k.toNat : Int), .string (str h.b), .int .u64 (h.s.a.toNat : Int), .int .u64 (h.s.b.toNat : Int), .int .u64 (h.s.c.toNat : Int), .int .u64 (h.s.d.toNat : Int), .slice A ks.length c] 29))
    obtain ⟨x0, x1, x2, x3, x4, x5, x6⟩ := co_box hbx
    clear hbx x0 x1 x2 x3 x4 x5
    generalize hW : w.alloc (.cells #[.int .u8 (h.k.toNat : Int), .string (str h.b), .int .u64 (h.s.a.toNat : Int), .int .u64 (h.s.b.toNat : Int), .int .u64 (h.s.c.toNat : Int), .int .u64 (h.s.d.toNat : Int), .slice A ks.length c] 29) = W at *
    have hsz1 : W.heap.size = w.heap.size + 1 := by rw [← hW]; simp
    have hbW : Below w.heap.size w W := by rw [← hW]; exact below_new (Below.refl _ _) _
    have hrW := hr.below hbW
    have HKW : Hid (∀ b, ok b → b < W.heap.size) := fun b hb => by have := HK.out b hb; omega
    have hnew := co_new (h := h) (t := 29) hc hrW HKW.out W.heap.size (Nat.le_refl _)
    rw [hsz1] at hnew
    have hbl := below_new (Below.refl W.heap.size W) (.cells #[.int .u8 (h.k.toNat : Int), .string (str h.b), .int .u64 (h.s.a.toNat : Int), .int .u64 (h.s.b.toNat : Int), .int .u64 (h.s.c.toNat : Int), .int .u64 (h.s.d.toNat : Int), .slice A ks.length c] 29)
    clear hW hr
    go_loopw [3, 4, 10] (fun o _ i wr => ∃ (k : Nat), k ≤ ks.length ∧ i = .int .i64 k ∧ OwnT CE ok wr (w.heap.size + 1) 29 o (.mk h ks :: T.alls (ks.take k)) ∧ Below W.heap.size W wr) (fun _ _ i _ => ks.length - (intOf i).toNat)
    case atStart => exact ⟨0, Nat.zero_le _, rfl, hnew, hbl⟩
    case round =>
      clear hnew hbl
      obtain ⟨k, hk, rfl, ho, hb⟩ := hrel
      have y5 := keep_cell hb x6
      by_cases hlt : k < ks.length
      · obtain ⟨t, ad, h1, ls, A1, c1, hA, hx, rfl, hc1, hr1, q0, q1, q2, q3, q4, q5, q6⟩ := co_at (hrW.below hb) hlt
        subst hA
        have hmem := List.mem_of_getElem? hx
        have hs1 := HS.out _ hmem
        simp only [T.size] at hs1
        have htk : Hid (T.alls (ks.take (k + 1)) = T.alls (ks.take k) ++ T.all (.mk h1 ls)) := by
          unfold Hid
          rw [List.take_add_one, hx, T.alls_append]
          simp [T.alls]
        have hle : T.sizes (ks.take k) + (1 + T.sizes ls) ≤ T.sizes ks := by
          have e1 : T.sizes (ks.take (k + 1)) = T.sizes (ks.take k) + (1 + T.sizes ls) := by
            rw [List.take_add_one, hx, T.sizes_append]
            simp [T.sizes, T.size]
          rw [← e1]
          conv => rhs; rw [← List.take_append_drop (k + 1) ks, T.sizes_append]
          omega
        clear hx x6
        go_wp2_with fail
        refine (IH.out ok h1 ls A1 c1 _ hs1 (by omega) hc1 hr1 (fun b hb' => by have := HKW.out b hb'; have := hb.size; omega)).mono ?_
        rintro e w1 ⟨v1, rfl, ho1, hb1⟩
        have ho' := ho.keep hb1
        obtain ⟨cs1, A3, c3, rfl, hs3, hone, hk3⟩ := ho1.src
        obtain ⟨h0, cs0, hown0, hk0⟩ := ho'
        have hb2 := below_from hb hb1
        have hlen1 := T.all_length (T.mk h1 ls)
        have hlen2 := T.alls_length (ks.take k)
        simp only [T.size] at hlen1
        have hoklt : ∀ b, ok b → b < w1.heap.size := fun b hb' => by have := HKW.out b hb'; have := hb2.size; omega
        clear ho ho1 hb1 hr1 q0 q1 q2 q3 q4 q5 q6
        have HB := Lib.hid hlen1
        have HB2 := Lib.hid hlen2
        clear hlen1 hlen2
        have m1 : (T.mk h ks :: T.alls (ks.take k)).length + (T.all (.mk h1 ls)).length ≤ 1000000001 := by rw [List.length_cons, HB.out, HB2.out]; omega
        replace HKW := HKW
        go_wp2_with (at_builtin; refine wpList_app _ rfl (.tmp 13) (.tmp 19) 22 rfl (w.heap.size + 1) 29 _ 7 80 Tryd.underlying22 Tryd.info_co rfl (by decide) _ _ _ rfl hown0 A3 _ c3 cs1 rfl hs3 hone ?h1 ?h2 ?h3 ?_)
        case h1 => unfold maxLen; omega
        case h2 => omega
        case h3 => have := hb2.size; omega
        intro v4 w4 ho4 hg4 hat4
        have hr4 := OwnT.app h0 hown0 hk0 hk3 ho4 hg4 hat4 hoklt
        have hb4 : Below W.heap.size W w4 := hb2.grown hg4 hb2.size (fun j hj => by have := own_base hown0 j hj; omega)
        clear ho4 hg4 hat4 hown0 hk0 hk3 hs3 hone h0 hoklt m1
        go_wp2_with fail
        go_roundw
        case rel => exact ⟨k + 1, by omega, by go_num, by rw [htk.out]; exact hr4, hb4⟩
        case measure => simp [intOf]; omega
      · have hkk : k = ks.length := by omega
        subst hkk
        rw [List.take_length] at ho
        clear hlt
        go_wp2_with fail
        go_ret
        exact ⟨_, rfl, by rw [HO.out]; exact ho.lower (Nat.le_succ _), hbW.trans (hb.mono hbW.size)⟩
end Go.Proofs.YteoghoaggpbkpaaDoor
namespace Go.Proofs.YteoghoaggpbkpaaDoor
open Go.RowKit
set_option linter.unusedVariables false
set_option linter.unusedSimpArgs false

/-- more than m nodes, or bits of 100 in one -/
def greatC (m : Int) (t : Co) : Bool := greatB m t || t.all.any fun x => decide (100 < x.head.b.length)
theorem great_few {m : Nat} {t : Co} (h : greatC m t = false) : t.size ≤ m ∧ ∀ x ∈ t.all, x.head.b.length ≤ 100 := by
  unfold greatC at h
  rw [Bool.or_eq_false_iff] at h
  obtain ⟨h1, h2⟩ := h
  refine ⟨?_, fun x hx => ?_⟩
  · unfold greatB at h1
    have := of_decide_eq_false h1
    omega
  · have := List.any_eq_false.1 h2 x hx
    simpa using this
set_option maxRecDepth 100000 in
set_option maxHeartbeats 4000000 in
theorem cGreat_any {ok : Nat → Prop} (h : CH) (ks : List Co) (A : Option Addr) (c : Nat) (m : Int) (w : World) (hm : T.sizes ks ≤ 900000000) (hc : ks.length ≤ c) (hr : InRow CE ok w ks A 0) :
    Calls Tryd.prog 8 #[coV h A ks.length c, .int .i64 m] w fun e w' => e = .returned (.bool (greatC m (.mk h ks))) ∧ Below w.heap.size w w' := by
  have HG : Hid (greatC m (.mk h ks) = (decide (m < cnt m (T.mk h ks)) || (T.mk h ks).all.any fun x => decide (100 < x.head.b.length))) := by unfold Hid greatC; rw [great_cnt]
  have hbW := below_new (Below.refl w.heap.size w) (.cells (coA h A ks.length c) 29)
  have e1 := new_at1 (w := w) (.cells (coA h A ks.length c) 29)
  have HC := Lib.hid (ccount_upto 1000000000 ok h ks A c m _ (by omega) (Nat.le_refl _) hc (hr.below hbW))
  have HE := Lib.hid e1
  have HB := Lib.hid hbW
  have hall : (T.mk h ks).all.length ≤ 900000001 := by rw [T.all_length]; simp only [T.size]; omega
  have HA := Lib.hid (fun (X : World) (hX : Below w.heap.size w X) => cAll_upto 1000000000 (fun b => ok b ∧ b < w.heap.size) h ks A c X (by omega) (Nat.le_refl _) hc (hr.there.below hX) (fun b hb => Nat.lt_of_lt_of_le hb.2 hX.size))
  clear hbW e1 hr
  generalize cnt m (T.mk h ks) = cn at *
  obtain ⟨L, hL⟩ : ∃ L, (T.mk h ks).all = L := ⟨_, rfl⟩
  rw [hL] at HG hall
  have HLL := Lib.hid hL
  clear hL
  go_enter Tryd.func8, Tryd.ntmps8
  go_wp2_with fail
  refine HC.out.mono ?_
  rintro e w1 ⟨rfl, hb1⟩
  have HE1 := Lib.hid ((hb1.block _ (lt_of_block HE.out)).trans HE.out)
  obtain ⟨x0, x1, x2, x3, x4, x5, x6⟩ := co_at_box HE1.out
  have HB1 := Lib.hid (below_from HB.out hb1)
  clear hb1 HC HE HB
  by_cases hgt : m < cn
  · have HX : Hid (greatC m (.mk h ks) = true) := by unfold Hid; rw [HG.out]; simp [hgt]
    have g : decide (cn > m) = true := by simpa using hgt
    clear hgt HG
    go_wp2_with fail
    go_ret
    exact ⟨by rw [HX.out]; rfl, HB1.out⟩
  · have HX : Hid (greatC m (.mk h ks) = L.any fun x => decide (100 < x.head.b.length)) := by unfold Hid; rw [HG.out]; simp [hgt]
    have g : decide (cn > m) = false := by simpa using hgt
    clear hgt HG
    go_wp2_with fail
    refine (HA.out _ HB1.out).mono ?_
    rintro e w2 ⟨v, rfl, ho, hb2⟩
    rw [HLL.out] at ho
    obtain ⟨A2, c2, rfl, hc2, hr2⟩ := ho.row
    have HB2 := Lib.hid (below_from HB1.out hb2)
    have HR2 := Lib.hid hr2
    clear ho hc2 hr2 hb2 x0 x1 x2 x3 x4 x5 x6 HE1 HA
    go_wp2_with fail
    go_loopw [16] (fun i wr => ∃ (k : Nat), k ≤ L.length ∧ i = .int .i64 (k : Nat) ∧ Hid (∀ (j : Nat) (x : Co), j < k → L[j]? = some x → ¬ 100 < x.head.b.length) ∧ wr = w2) (fun i _ => L.length - (intOf i).toNat)
    case atStart => exact ⟨0, Nat.zero_le _, rfl, fun j x hj => absurd hj (by omega), rfl⟩
    case round =>
      obtain ⟨k, hk, rfl, HN, rfl⟩ := hrel
      by_cases hlt : k < L.length
      · obtain ⟨t, ad, h1, ls, A1, c1, hA, hx, rfl, hc1, hr1, q0, q1, q2, q3, q4, q5, q6⟩ := co_at HR2.out hlt
        subst hA
        by_cases hlong : 100 < h1.b.length
        · have HY : Hid ((L.any fun x => decide (100 < x.head.b.length)) = true) := by
            unfold Hid
            rw [List.any_eq_true]
            exact ⟨_, List.mem_of_getElem? hx, decide_eq_true hlong⟩
          have g2 : decide (((h1.b.length : Nat) : Int) > 100) = true := by simp; omega
          clear hx hr1 q0 q2 q3 q4 q5 q6
          go_wp2_with fail
          go_ret
          exact ⟨by rw [HX.out, HY.out]; rfl, HB2.out⟩
        · have g2 : decide (((h1.b.length : Nat) : Int) > 100) = false := by simp; omega
          have HN2 : Hid (∀ (j : Nat) (x : Co), j < k + 1 → L[j]? = some x → ¬ 100 < x.head.b.length) := fun j x hj hx' => by
            rcases Nat.lt_or_ge j k with hjk | hjk
            · exact HN.out j x hjk hx'
            · obtain rfl : j = k := by omega
              rw [hx] at hx'
              cases hx'
              exact hlong
          clear hx hr1 q0 q2 q3 q4 q5 q6 hlong
          go_wp2_with fail
          go_roundw
          case rel => exact ⟨k + 1, by omega, by go_num, HN2, by trivial⟩
          case measure => simp [intOf]; omega
      · have HY : Hid ((L.any fun x => decide (100 < x.head.b.length)) = false) := by
          unfold Hid
          rw [List.any_eq_false]
          intro x hx
          obtain ⟨j, hj⟩ := List.getElem?_of_mem hx
          have := HN.out j x (by have := (List.getElem?_eq_some_iff.1 hj).1; omega) hj
          simpa using this
        go_wp2_with fail
        go_ret
        exact ⟨by rw [HX.out, HY.out]; rfl, HB2.out⟩
end Go.Proofs.YteoghoaggpbkpaaDoor
