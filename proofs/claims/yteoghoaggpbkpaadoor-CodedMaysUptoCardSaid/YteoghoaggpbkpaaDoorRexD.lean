/- The nodes of an expression, and whether it may be, as the document has it. -/
import Derived.Test.YteoghoaggpbkpaaDoorRexB
import Derived.Test.YteoghoaggpbkpaaDoorRexC
namespace Go.Proofs.YteoghoaggpbkpaaDoor
open Go.RowKit
set_option linter.unusedVariables false
set_option linter.unusedSimpArgs false

mutual
/-- the nodes, each ahead of its kids -/
def T.all {α : Type} : T α → List (T α)
  | .mk a ks => .mk a ks :: T.alls ks
def T.alls {α : Type} : List (T α) → List (T α)
  | [] => []
  | t :: ts => T.all t ++ T.alls ts
end
mutual
theorem T.all_length {α : Type} : ∀ t : T α, t.all.length = t.size
  | .mk a ks => by simp only [T.all, T.size, List.length_cons, T.alls_length ks]; omega
theorem T.alls_length {α : Type} : ∀ ts : List (T α), (T.alls ts).length = T.sizes ts
  | [] => rfl
  | t :: ts => by simp only [T.alls, T.sizes, List.length_append, T.all_length t, T.alls_length ts]
end
theorem T.alls_append {α : Type} (xs ys : List (T α)) : T.alls (xs ++ ys) = T.alls xs ++ T.alls ys := by
  induction xs with
  | nil => rfl
  | cons x r ih => simp only [List.cons_append, T.alls, ih, List.append_assoc]
theorem Tryd.info_re : (Tryd.prog.info? 42).map (fun i => (i.zero, i.size, i.bytes)) = some (some (.agg #[.int .u8 0, .int .u64 0, .int .u64 0, .int .u64 0, .int .u64 0, .slice none 0 0]), 6, 64) := by kernel_rfl

/-- a new block that holds one expression -/
theorem re_new {ok : Nat → Prop} {w : World} {h : RH} {ks : List Re} {A : Option Addr} {c : Nat} {t : TypeId} (hc : ks.length ≤ c) (hr : InRow RE ok w ks A 0) (hlt : ∀ b, ok b → b < w.heap.size) (base : Nat) (hbase : base ≤ w.heap.size) :
    OwnT RE ok (w.alloc (.cells #[.int .u8 (h.k.toNat : Int), .int .u64 (h.s.a.toNat : Int), .int .u64 (h.s.b.toNat : Int), .int .u64 (h.s.c.toNat : Int), .int .u64 (h.s.d.toNat : Int), .slice A ks.length c] t)) base t (.slice (some ⟨w.heap.size, 0, none⟩) 1 1) [.mk h ks] := by
  refine ⟨fun b hb e => ?_, _, World.ownsRow_lit w _ 1 hbase (by unfold maxLen; omega) rfl, fun k x hx => ?_⟩
  · cases e; exact Nat.lt_irrefl _ (hlt _ hb)
  · cases k with
    | succ k => simp at hx
    | zero =>
      simp at hx
      subst hx
      refine ⟨RH.cells h ++ [.slice A ks.length c], fun j u hu => by simpa [RE, RH.cells] using hu, ?_⟩
      simp only [InT]
      exact ⟨A, c, rfl, hc, hr.below (below_new (Below.refl _ _) _)⟩

/-- what All leaves -/
def AllPost (ok : Nat → Prop) (t : Re) (w : World) (e : Ending) (w' : World) : Prop :=
  ∃ v, e = .returned v ∧ OwnT RE ok w' w.heap.size 42 v t.all ∧ Below w.heap.size w w'
set_option maxHeartbeats 1000000 in
theorem All_upto (n : Nat) : ∀ (ok : Nat → Prop) (h : RH) (ks : List Re) (A : Option Addr) (c : Nat) (w : World), 1 + T.sizes ks ≤ n → n ≤ 1000000000 → ks.length ≤ c → InRow RE ok w ks A 0 → (∀ b, ok b → b < w.heap.size) →
    Calls Tryd.prog 44 #[reV h A ks.length c] w (AllPost ok (.mk h ks) w) := by
  induction n with
  | zero => intro ok h ks A c w h0; omega
  | succ n ih =>
    intro ok h ks A c w hn hm hc hr hok
    have hl := T.length_le_sizes ks
    have IH := Lib.hid ih
    clear ih
    have hsz : ∀ t ∈ ks, t.size ≤ n := fun t ht => by have := T.sizes_mem ht; omega
    have HS := Lib.hid hsz
    clear hsz
    have hlm : ks.length ≤ 1000000000 := by omega
    have HK := Lib.hid hok
    clear hok
    have HO : Hid (T.all (.mk h ks) = .mk h ks :: T.alls ks) := by simp only [Hid, T.all]
    go_enter Tryd.func44, Tryd.ntmps44
    go_wp2_with fail
    have hbx := Below.refl (w.alloc (.cells #[.int .u8 (h.k.toNat : Int), .int .u64 (h.s.a.toNat : Int), .int .u64 (h.s.b.toNat : Int), .int .u64 (h.s.c.toNat : Int), .int .u64 (h.s.d.toNat : Int), .slice A ks.length c] 42)).heap.size (w.alloc (.cells #[.int .u8 (h.k.toNat : Int), .int .u64 (h.s.a.toNat : Int), .int .u64 (h.s.b.toNat : Int), .int .u64 (h.s.c.toNat : Int), .int .u64 (h.s.d.toNat : Int), .slice A ks.length c] 42))
    obtain ⟨x0, x1, x2, x3, x4, x5⟩ := re_box hbx
    clear hbx x0 x1 x2 x3 x4
    generalize hW : w.alloc (.cells #[.int .u8 (h.k.toNat : Int), .int .u64 (h.s.a.toNat : Int), .int .u64 (h.s.b.toNat : Int), .int .u64 (h.s.c.toNat : Int), .int .u64 (h.s.d.toNat : Int), .slice A ks.length c] 42) = W at *
    have hsz1 : W.heap.size = w.heap.size + 1 := by rw [← hW]; simp
    have hbW : Below w.heap.size w W := by rw [← hW]; exact below_new (Below.refl _ _) _
    have hrW := hr.below hbW
    have HKW : Hid (∀ b, ok b → b < W.heap.size) := fun b hb => by have := HK.out b hb; omega
    have hnew := re_new (h := h) (t := 42) hc hrW HKW.out W.heap.size (Nat.le_refl _)
    rw [hsz1] at hnew
    have hbl := below_new (Below.refl W.heap.size W) (.cells #[.int .u8 (h.k.toNat : Int), .int .u64 (h.s.a.toNat : Int), .int .u64 (h.s.b.toNat : Int), .int .u64 (h.s.c.toNat : Int), .int .u64 (h.s.d.toNat : Int), .slice A ks.length c] 42)
    clear hW hr
    go_loopw [3, 4, 10] (fun o _ i wr => ∃ (k : Nat), k ≤ ks.length ∧ i = .int .i64 k ∧ OwnT RE ok wr (w.heap.size + 1) 42 o (.mk h ks :: T.alls (ks.take k)) ∧ Below W.heap.size W wr) (fun _ _ i _ => ks.length - (intOf i).toNat)
    case atStart => exact ⟨0, Nat.zero_le _, rfl, hnew, hbl⟩
    case round =>
      clear hnew hbl
      obtain ⟨k, hk, rfl, ho, hb⟩ := hrel
      have y5 := keep_cell hb x5
      by_cases hlt : k < ks.length
      · obtain ⟨t, ad, h1, ls, A1, c1, hA, hx, rfl, hc1, hr1, q0, q1, q2, q3, q4, q5⟩ := re_at (hrW.below hb) hlt
        subst hA
        have hmem := List.mem_of_getElem? hx
        have hs1 := HS.out _ hmem
        simp only [T.size] at hs1
        have htk : Hid (T.alls (ks.take (k + 1)) = T.alls (ks.take k) ++ T.all (.mk h1 ls)) := by
          unfold Hid
          rw [List.take_add_one, hx, T.alls_append]
          simp [T.alls]
        have hle : T.sizes (ks.take k) + (1 + T.sizes ls) ≤ T.sizes ks := by
          have e1 : T.sizes (ks.take (k + 1)) = T.sizes (ks.take k) + (1 + T.sizes ls) := by
            rw [List.take_add_one, hx, T.sizes_append]
            simp [T.sizes, T.size]
          rw [← e1]
          conv => rhs; rw [← List.take_append_drop (k + 1) ks, T.sizes_append]
          omega
        clear hx x5
        go_wp2_with fail
        refine (IH.out ok h1 ls A1 c1 _ hs1 (by omega) hc1 hr1 (fun b hb' => by have := HKW.out b hb'; have := hb.size; omega)).mono ?_
        rintro e w1 ⟨v1, rfl, ho1, hb1⟩
        have ho' := ho.keep hb1
        obtain ⟨cs1, A3, c3, rfl, hs3, hone, hk3⟩ := ho1.src
        obtain ⟨h0, cs0, hown0, hk0⟩ := ho'
        have hb2 := below_from hb hb1
        have hlen1 := T.all_length (T.mk h1 ls)
        have hlen2 := T.alls_length (ks.take k)
        simp only [T.size] at hlen1
        have hoklt : ∀ b, ok b → b < w1.heap.size := fun b hb' => by have := HKW.out b hb'; have := hb2.size; omega
        clear ho ho1 hb1 hr1 q0 q1 q2 q3 q4 q5
        have HB := Lib.hid hlen1
        have HB2 := Lib.hid hlen2
        clear hlen1 hlen2
        have m1 : (T.mk h ks :: T.alls (ks.take k)).length + (T.all (.mk h1 ls)).length ≤ 1000000001 := by rw [List.length_cons, HB.out, HB2.out]; omega
        replace HKW := HKW
        go_wp2_with (at_builtin; refine wpList_app _ rfl (.tmp 13) (.tmp 19) 40 rfl (w.heap.size + 1) 42 _ 6 64 Tryd.underlying40 Tryd.info_re rfl (by decide) _ _ _ rfl hown0 A3 _ c3 cs1 rfl hs3 hone ?h1 ?h2 ?h3 ?_)
        case h1 => unfold maxLen; omega
        case h2 => omega
        case h3 => have := hb2.size; omega
        intro v4 w4 ho4 hg4 hat4
        have hr4 := OwnT.app h0 hown0 hk0 hk3 ho4 hg4 hat4 hoklt
        have hb4 : Below W.heap.size W w4 := hb2.grown hg4 hb2.size (fun j hj => by have := own_base hown0 j hj; omega)
        clear ho4 hg4 hat4 hown0 hk0 hk3 hs3 hone h0 hoklt m1
        go_wp2_with fail
        go_roundw
        case rel => exact ⟨k + 1, by omega, by go_num, by rw [htk.out]; exact hr4, hb4⟩
        case measure => simp [intOf]; omega
      · have hkk : k = ks.length := by omega
        subst hkk
        rw [List.take_length] at ho
        clear hlt
        go_wp2_with fail
        go_ret
        exact ⟨_, rfl, by rw [HO.out]; exact ho.lower (Nat.le_succ _), hbW.trans (hb.mono hbW.size)⟩
end Go.Proofs.YteoghoaggpbkpaaDoor
