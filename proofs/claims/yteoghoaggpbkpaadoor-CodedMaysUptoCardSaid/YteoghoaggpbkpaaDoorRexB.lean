/- Expressions: whether they may be, and how many nodes they have. -/
import Derived.Test.YteoghoaggpbkpaaDoorRexA
namespace Go.Proofs.YteoghoaggpbkpaaDoor
open Go.RowKit
set_option linter.unusedVariables false
set_option linter.unusedSimpArgs false

set_option maxHeartbeats 1000000 in
theorem idx_nodes {ok : Nat → Prop} (p : Re → Bool) (ts : List Re) (A : Option Addr) (c : Nat) (w : World)  (hr : InRow RE ok w ts A 0) (hm : ts.length ≤ 1000000000)
    (hcall : ∀ (h : RH) (ks : List Re) (A1 : Option Addr) (c1 : Nat) (w1 : World), T.mk h ks ∈ ts → ks.length ≤ c1 → InRow RE ok w1 ks A1 0 → Below w.heap.size w w1 →
      Calls Tryd.prog 79 #[reV h A1 ks.length c1] w1 fun e w' => e = .returned (.bool (p (.mk h ks))) ∧ Below w1.heap.size w1 w') :
    Calls Tryd.prog 77 #[.slice A ts.length c, .func (.func 79) #[] #[]] w fun e w' => e = .returned (.int .i64 (idx p ts)) ∧ Below w.heap.size w w' := by
  have HC := Lib.hid hcall
  clear hcall
  go_enter Tryd.func77, Tryd.ntmps77
  go_wp2_with fail
  go_loopw [5, 8] (fun _ i wr => ∃ k : Nat, k ≤ ts.length ∧ i = .int .i64 k ∧ (∀ (j : Nat) (y : Re), j < k → ts[j]? = some y → p y = false) ∧ Below w.heap.size w wr) (fun _ i _ => ts.length - (intOf i).toNat)
  case atStart => exact ⟨0, Nat.zero_le _, rfl, fun j y h => absurd h (by omega), Below.refl _ _⟩
  case round =>
    obtain ⟨k, hk, rfl, hn, hb⟩ := hrel
    have HN := Lib.hid hn
    clear hn
    by_cases hlt : k < ts.length
    · obtain ⟨t, ad, h, ks, A1, c1, hA, hx, rfl, hc1, hr1, q0, q1, q2, q3, q4, q5⟩ := re_at (hr.below hb) hlt
      subst hA
      have HX := Lib.hid hx
      have hmem := List.mem_of_getElem? hx
      clear hx hr
      go_wp2_with fail
      refine (HC.out h ks A1 c1 _ hmem hc1 hr1 hb).mono ?_
      rintro e w1 ⟨rfl, hb1⟩
      have hb2 := below_from hb hb1
      clear hb1 hr1 q0 q1 q2 q3 q4 q5
      rcases hp : p (.mk h ks) with _ | _
      · have HP := Lib.hid hp
        clear hp
        go_wp2_with fail
        go_roundw
        case rel => exact ⟨k + 1, by omega, by go_num, fun j y hj hy => by
          by_cases e : j = k
          · subst e; rw [HX.out] at hy; cases hy; exact HP.out
          · exact HN.out j y (by omega) hy, hb2⟩
        case measure => simp [intOf]; omega
      · have HP := Lib.hid hp
        clear hp
        go_wp2_with fail
        go_ret
        exact ⟨by rw [idx_at _ ts k _ HX.out (fun j y hj hy => HN.out j y hj hy) HP.out]; rfl, hb2⟩
    · have hfin := Lib.hid (idx_none p ts fun j y hy => HN.out j y (by
        have := (List.getElem?_eq_some_iff.1 hy).1; omega) hy)
      go_wp2_with fail
      go_ret
      exact ⟨by rw [hfin.out]; rfl, hb⟩

theorem has_nodes {ok : Nat → Prop} (p : Re → Bool) (ts : List Re) (A : Option Addr) (c : Nat) (w : World)  (hr : InRow RE ok w ts A 0) (hm : ts.length ≤ 1000000000)
    (hcall : ∀ (h : RH) (ks : List Re) (A1 : Option Addr) (c1 : Nat) (w1 : World), T.mk h ks ∈ ts → ks.length ≤ c1 → InRow RE ok w1 ks A1 0 → Below w.heap.size w w1 →
      Calls Tryd.prog 79 #[reV h A1 ks.length c1] w1 fun e w' => e = .returned (.bool (p (.mk h ks))) ∧ Below w1.heap.size w1 w') :
    Calls Tryd.prog 59 #[.slice A ts.length c, .func (.func 79) #[] #[]] w fun e w' => e = .returned (.bool (ts.any p)) ∧ Below w.heap.size w w' := by
  have HC := Lib.hid hcall
  clear hcall
  have HA := Lib.hid (idx_any p ts)
  go_enter Tryd.func59, Tryd.ntmps59
  go_wp2_with fail
  refine (idx_nodes p ts A c _ hr hm HC.out).mono ?_
  rintro e w1 ⟨rfl, hb⟩
  go_wp2_with fail
  go_ret
  exact ⟨by rw [← HA.out]; rfl, hb⟩


set_option maxHeartbeats 1000000 in
theorem idx_may {ok : Nat → Prop} (p : Re → Bool) (ts : List Re) (A : Option Addr) (c : Nat) (w : World)  (hr : InRow RE ok w ts A 0) (hm : ts.length ≤ 1000000000)
    (hcall : ∀ (h : RH) (ks : List Re) (A1 : Option Addr) (c1 : Nat) (w1 : World), T.mk h ks ∈ ts → ks.length ≤ c1 → InRow RE ok w1 ks A1 0 → Below w.heap.size w w1 →
      Calls Tryd.prog 60 #[reV h A1 ks.length c1] w1 fun e w' => e = .returned (.bool (p (.mk h ks))) ∧ Below w1.heap.size w1 w') :
    Calls Tryd.prog 77 #[.slice A ts.length c, .func (.func 60) #[] #[]] w fun e w' => e = .returned (.int .i64 (idx p ts)) ∧ Below w.heap.size w w' := by
  have HC := Lib.hid hcall
  clear hcall
  go_enter Tryd.func77, Tryd.ntmps77
  go_wp2_with fail
  go_loopw [5, 8] (fun _ i wr => ∃ k : Nat, k ≤ ts.length ∧ i = .int .i64 k ∧ (∀ (j : Nat) (y : Re), j < k → ts[j]? = some y → p y = false) ∧ Below w.heap.size w wr) (fun _ i _ => ts.length - (intOf i).toNat)
  case atStart => exact ⟨0, Nat.zero_le _, rfl, fun j y h => absurd h (by omega), Below.refl _ _⟩
  case round =>
    obtain ⟨k, hk, rfl, hn, hb⟩ := hrel
    have HN := Lib.hid hn
    clear hn
    by_cases hlt : k < ts.length
    · obtain ⟨t, ad, h, ks, A1, c1, hA, hx, rfl, hc1, hr1, q0, q1, q2, q3, q4, q5⟩ := re_at (hr.below hb) hlt
      subst hA
      have HX := Lib.hid hx
      have hmem := List.mem_of_getElem? hx
      clear hx hr
      go_wp2_with fail
      refine (HC.out h ks A1 c1 _ hmem hc1 hr1 hb).mono ?_
      rintro e w1 ⟨rfl, hb1⟩
      have hb2 := below_from hb hb1
      clear hb1 hr1 q0 q1 q2 q3 q4 q5
      rcases hp : p (.mk h ks) with _ | _
      · have HP := Lib.hid hp
        clear hp
        go_wp2_with fail
        go_roundw
        case rel => exact ⟨k + 1, by omega, by go_num, fun j y hj hy => by
          by_cases e : j = k
          · subst e; rw [HX.out] at hy; cases hy; exact HP.out
          · exact HN.out j y (by omega) hy, hb2⟩
        case measure => simp [intOf]; omega
      · have HP := Lib.hid hp
        clear hp
        go_wp2_with fail
        go_ret
        exact ⟨by rw [idx_at _ ts k _ HX.out (fun j y hj hy => HN.out j y hj hy) HP.out]; rfl, hb2⟩
    · have hfin := Lib.hid (idx_none p ts fun j y hy => HN.out j y (by
        have := (List.getElem?_eq_some_iff.1 hy).1; omega) hy)
      go_wp2_with fail
      go_ret
      exact ⟨by rw [hfin.out]; rfl, hb⟩

theorem has_may {ok : Nat → Prop} (p : Re → Bool) (ts : List Re) (A : Option Addr) (c : Nat) (w : World)  (hr : InRow RE ok w ts A 0) (hm : ts.length ≤ 1000000000)
    (hcall : ∀ (h : RH) (ks : List Re) (A1 : Option Addr) (c1 : Nat) (w1 : World), T.mk h ks ∈ ts → ks.length ≤ c1 → InRow RE ok w1 ks A1 0 → Below w.heap.size w w1 →
      Calls Tryd.prog 60 #[reV h A1 ks.length c1] w1 fun e w' => e = .returned (.bool (p (.mk h ks))) ∧ Below w1.heap.size w1 w') :
    Calls Tryd.prog 59 #[.slice A ts.length c, .func (.func 60) #[] #[]] w fun e w' => e = .returned (.bool (ts.any p)) ∧ Below w.heap.size w w' := by
  have HC := Lib.hid hcall
  clear hcall
  have HA := Lib.hid (idx_any p ts)
  go_enter Tryd.func59, Tryd.ntmps59
  go_wp2_with fail
  refine (idx_may p ts A c _ hr hm HC.out).mono ?_
  rintro e w1 ⟨rfl, hb⟩
  go_wp2_with fail
  go_ret
  exact ⟨by rw [← HA.out]; rfl, hb⟩

theorem any_not_okT (ts : List Re) : (!ts.any fun t => !okT t) = okL ts := by rw [okL_all, List.all_eq_not_any_not]
set_option maxHeartbeats 1000000 in
theorem nodes_upto (n : Nat) : ∀ (ok : Nat → Prop) (h : RH) (ks : List Re) (A : Option Addr) (c : Nat) (w : World), 1 + T.sizes ks ≤ n → n ≤ 1000000000 → ks.length ≤ c → InRow RE ok w ks A 0 →
    Calls Tryd.prog 61 #[reV h A ks.length c] w fun e w' => e = .returned (.bool (okT (.mk h ks))) ∧ Below w.heap.size w w' := by
  induction n with
  | zero => intro ok h ks A c w h0; omega
  | succ n ih =>
    intro ok h ks A c w hn hm hc hr
    have hl := T.length_le_sizes ks
    have IH := Lib.hid ih
    clear ih
    have HO : Hid (okT (.mk h ks) = (okNode h ks.length && okL ks)) := by simp [Hid, okT]
    have HA := Lib.hid (any_not_okT ks)
    have hsz : ∀ t ∈ ks, t.size ≤ n := fun t ht => by have := T.sizes_mem ht; omega
    have HS := Lib.hid hsz
    clear hsz
    have hlm : ks.length ≤ 1000000000 := by omega
    have hcall : ∀ (h1 : RH) (ls : List Re) (A1 : Option Addr) (c1 : Nat) (w1 : World), T.mk h1 ls ∈ ks → ls.length ≤ c1 → InRow RE ok w1 ls A1 0 →
        Calls Tryd.prog 79 #[reV h1 A1 ls.length c1] w1 fun e w' => e = .returned (.bool (!okT (.mk h1 ls))) ∧ Below w1.heap.size w1 w' := by
      intro h1 ls A1 c1 w1 hmem hc1 hr1
      have hsz1 := HS.out _ hmem
      simp only [T.size] at hsz1
      clear hr HO HA
      go_enter Tryd.func79, Tryd.ntmps79
      go_wp2_with fail
      refine (IH.out ok h1 ls A1 c1 _ hsz1 (by omega) hc1 (hr1.below (below_new (Below.refl _ _) _))).mono ?_
      rintro e w2 ⟨rfl, hb⟩
      have hb2 := below_from (below_new (Below.refl _ _) _) hb
      clear hb
      go_wp2_with fail
      go_ret
      exact ⟨rfl, hb2⟩
    replace hcall := Lib.hid hcall
    have hrn : ∀ o, InRow RE ok (w.alloc o) ks A 0 := fun o => hr.below (below_new (Below.refl _ _) o)
    go_enter Tryd.func61, Tryd.ntmps61
    go_wp2_with fail
    refine (node_any h A ks.length c _ hlm).mono ?_
    rintro e w1 ⟨rfl, hb1⟩
    have hr1 := (hrn _).below hb1
    have hq5 : w1.cell? ⟨w.heap.size, 5, none⟩ = some (.slice A ks.length c) := keep_cell hb1 (by rw [cell_of_row _ _ _ _ _ _ (heap_alloc_new w _)]; rfl)
    have hb2 := below_from (below_new (Below.refl _ _) _) hb1
    clear hb1 hrn hr
    rcases hnode : okNode h ks.length with _ | _
    · rw [hnode] at HO
      clear hnode
      go_wp2_with fail
      go_ret
      exact ⟨by rw [HO.out]; rfl, hb2⟩
    · rw [hnode] at HO
      clear hnode
      go_wp2_with fail
      refine (has_nodes (fun t => !okT t) ks A c _ hr1 hlm (fun h1 ls A1 c1 w2 hmem hc1 hr2 _ => hcall.out h1 ls A1 c1 w2 hmem hc1 hr2)).mono ?_
      rintro e w3 ⟨rfl, hb3⟩
      have hb4 := below_from hb2 hb3
      clear hb3 hb2
      go_wp2_with fail
      go_ret
      exact ⟨by rw [HO.out, ← HA.out]; rfl, hb4⟩

/-- the sizes of the kids of the first k -/
def subs {α : Type} (ts : List (T α)) : Nat := (ts.map fun t => T.sizes t.kids).sum
theorem sizes_eq {α : Type} (ts : List (T α)) : T.sizes ts = ts.length + subs ts := by
  induction ts with
  | nil => simp [T.sizes, subs]
  | cons t r ih =>
    cases t
    simp only [T.sizes, T.size, ih, subs, List.map_cons, List.sum_cons, T.kids, List.length_cons]; omega
theorem subs_take {α : Type} {ts : List (T α)} {k : Nat} {t : T α} (h : ts[k]? = some t) : subs (ts.take (k + 1)) = subs (ts.take k) + T.sizes t.kids := by
  rw [List.take_add_one, h]
  simp [subs]
theorem subs_le {α : Type} (ts : List (T α)) (k : Nat) : subs (ts.take k) ≤ subs ts := by
  induction ts generalizing k with
  | nil => simp
  | cons x r ih =>
    cases k with
    | zero => simp [subs]
    | succ k => have := ih k; simp only [subs, List.take_succ_cons, List.map_cons, List.sum_cons] at this ⊢; omega

set_option maxHeartbeats 400000 in
theorem Size_upto (n : Nat) : ∀ (ok : Nat → Prop) (ts : List Re) (A : Option Addr) (c : Nat) (w : World), T.sizes ts ≤ n → n ≤ 1000000000 → InRow RE ok w ts A 0 →
    Calls Tryd.prog 62 #[.slice A ts.length c] w fun e w' => e = .returned (.int .i64 (T.sizes ts)) ∧ Below w.heap.size w w' := by
  induction n with
  | zero =>
    intro ok ts A c w hn hm hr
    have hl := T.length_le_sizes ts
    have h0 : ts = [] := List.eq_nil_of_length_eq_zero (by omega)
    subst h0
    show Calls Tryd.prog 62 #[.slice A 0 c] w _
    go_enter Tryd.func62, Tryd.ntmps62
    go_wp2_with fail
    go_loopw [3, 10] (fun s i wr => i = .int .i64 0 ∧ s = .int .i64 0 ∧ wr = w) (fun _ i _ => 0)
    case atStart => exact ⟨rfl, rfl, rfl⟩
    case round =>
      obtain ⟨rfl, rfl, rfl⟩ := hrel
      go_wp2_with fail
      go_ret
      exact ⟨rfl, Below.refl _ _⟩
  | succ n ih =>
    intro ok ts A c w hn hm hr
    have hl := T.length_le_sizes ts
    have hse := Lib.hid (sizes_eq ts)
    have IH := Lib.hid ih
    clear ih
    go_enter Tryd.func62, Tryd.ntmps62
    go_wp2_with fail
    go_loopw [3, 10] (fun s i wr => ∃ k : Nat, k ≤ ts.length ∧ i = .int .i64 k ∧ s = .int .i64 ((ts.length + subs (ts.take k) : Nat) : Int) ∧ Below w.heap.size w wr) (fun _ i _ => ts.length - (intOf i).toNat)
    case atStart => exact ⟨0, Nat.zero_le _, rfl, by simp [subs], Below.refl _ _⟩
    case round =>
      obtain ⟨k, hk, rfl, rfl, hb⟩ := hrel
      have hsub := subs_le ts k
      have hsz' : ts.length + subs ts ≤ n + 1 := by have := hse.out; omega
      by_cases hlt : k < ts.length
      · obtain ⟨t, ad, h, ks, A1, c1, hA, hx, rfl, hc1, hr1, q0, q1, q2, q3, q4, q5⟩ := re_at (hr.below hb) hlt
        subst hA
        have hst := Lib.hid (subs_take hx)
        have hle2 := subs_le ts (k+1)
        have hks : T.sizes ks ≤ n := by have := hst.out; simp only [T.kids] at this; omega
        clear hx hr
        have hr2 : ∀ o, InRow RE ok (wr.alloc o) ks A1 0 := fun o => hr1.below (below_new (Below.refl _ _) o)
        go_wp2_with fail
        refine (IH.out ok ks A1 c1 _ hks (by omega) (hr2 _)).mono ?_
        rintro e w1 ⟨rfl, hb1⟩
        have hb2 := below_from (below_new hb _) hb1
        clear hb1 hr2 hr1 q0 q1 q2 q3 q4 q5
        go_wp2_with fail
        go_roundw
        case rel => exact ⟨k + 1, by omega, by go_num, by have := hst.out; simp only [T.kids] at this; rw [this]; go_num, hb2⟩
        case measure => simp [intOf]; omega
      · have hkk : k = ts.length := by omega
        subst hkk
        clear hlt
        go_wp2_with fail
        go_ret
        refine ⟨?_, hb⟩
        rw [hse.out]; simp

set_option maxHeartbeats 400000 in
theorem mayLit_any {ok : Nat → Prop} (h : RH) (ks : List Re) (A : Option Addr) (c : Nat) (w : World) (hm : T.sizes ks ≤ 900000000) (hc : ks.length ≤ c) (hr : InRow RE ok w ks A 0) :
    Calls Tryd.prog 60 #[reV h A ks.length c] w fun e w' => e = .returned (.bool (!mayB (.mk h ks))) ∧ Below w.heap.size w w' := by
  have HM : Hid (mayB (.mk h ks) = (okT (.mk h ks) && decide (1 + T.sizes ks ≤ 2000))) := by unfold Hid mayB; rw [show T.size (T.mk h ks) = 1 + T.sizes ks by simp only [T.size]]
  have hrn : ∀ o, InRow RE ok (w.alloc o) ks A 0 := fun o => hr.below (below_new (Below.refl _ _) o)
  go_enter Tryd.func60, Tryd.ntmps60
  go_wp2_with fail
  refine (nodes_upto 1000000000 ok h ks A c _ (by omega) (Nat.le_refl _) hc (hrn _)).mono ?_
  rintro e w1 ⟨rfl, hb1⟩
  have q : ∀ j u, (#[Value.int .u8 (h.k.toNat : Int), .int .u64 (h.s.a.toNat : Int), .int .u64 (h.s.b.toNat : Int), .int .u64 (h.s.c.toNat : Int), .int .u64 (h.s.d.toNat : Int), .slice A ks.length c] : Array Value)[j]? = some u → w1.cell? ⟨w.heap.size, j, none⟩ = some u :=
    fun j u hu => keep_cell hb1 (by rw [cell_of_row _ _ _ _ _ _ (heap_alloc_new w _)]; exact hu)
  have q0 := q 0 _ rfl
  have q1 := q 1 _ rfl
  have q2 := q 2 _ rfl
  have q3 := q 3 _ rfl
  have q4 := q 4 _ rfl
  have q5 := q 5 _ rfl
  clear q
  have hr1 := (hrn _).below hb1
  have hb2 := below_from (below_new (Below.refl _ _) _) hb1
  clear hb1 hrn hr
  rcases hnode : okT (.mk h ks) with _ | _
  · rw [hnode] at HM
    clear hnode
    go_wp2_with fail
    go_ret
    exact ⟨by rw [HM.out]; rfl, hb2⟩
  · rw [hnode] at HM
    clear hnode
    have hrow : ∀ cs, cs = #[Value.int .u8 (h.k.toNat : Int), .int .u64 (h.s.a.toNat : Int), .int .u64 (h.s.b.toNat : Int), .int .u64 (h.s.c.toNat : Int), .int .u64 (h.s.d.toNat : Int), .slice A ks.length c] →
        InRow RE (fun _ => True) (w1.alloc (.cells cs 42)) [.mk h ks] (some ⟨w1.heap.size, 0, none⟩) 0 := by
      rintro cs rfl
      simp only [InRow, InT]
      refine ⟨⟨_, _, rfl, trivial, fun j u hu => ?_, A, c, rfl, hc, (hr1.weak fun _ _ => trivial).below (below_new (Below.refl _ _) _)⟩, trivial⟩
      rw [plain_add, cell_of_row _ _ _ _ _ _ (heap_alloc_new w1 _)]
      simpa [RE, RH.cells] using hu
    go_wp2_with fail
    refine (Size_upto 1000000000 _ [.mk h ks] _ 1 _ (by simp only [T.sizes, T.size]; omega) (Nat.le_refl _) (hrow _ rfl)).mono ?_
    rintro e w3 ⟨rfl, hb3⟩
    have hb4 := below_from (below_new hb2 _) hb3
    clear hb3 hb2 hrow hr1 q0 q1 q2 q3 q4 q5
    have e1 : T.sizes [T.mk h ks] = 1 + T.sizes ks := by simp [T.sizes, T.size]
    rw [e1]
    clear e1
    go_wp2_with fail
    go_ret
    refine ⟨?_, hb4⟩
    rw [HM.out]
    refine ret_bool ?_
    rw [Bool.eq_iff_iff]; simp; omega

theorem May_any {ok : Nat → Prop} (ts : List Re) (A : Option Addr) (c : Nat) (w : World) (hm : T.sizes ts ≤ 900000000) (hr : InRow RE ok w ts A 0) :
    Calls Tryd.prog 42 #[.slice A ts.length c] w fun e w' => e = .returned (.bool (ts.all mayB)) ∧ Below w.heap.size w w' := by
  have hl := T.length_le_sizes ts
  have hcall : ∀ (h1 : RH) (ls : List Re) (A1 : Option Addr) (c1 : Nat) (w1 : World), T.mk h1 ls ∈ ts → ls.length ≤ c1 → InRow RE ok w1 ls A1 0 → Below w.heap.size w w1 →
      Calls Tryd.prog 60 #[reV h1 A1 ls.length c1] w1 fun e w' => e = .returned (.bool (!mayB (.mk h1 ls))) ∧ Below w1.heap.size w1 w' := by
    intro h1 ls A1 c1 w1 hmem hc1 hr1 _
    have := T.sizes_mem hmem
    simp only [T.size] at this
    exact mayLit_any h1 ls A1 c1 w1 (by omega) hc1 hr1
  replace hcall := Lib.hid hcall
  have HA : Hid ((!ts.any fun t => !mayB t) = ts.all mayB) := by rw [List.all_eq_not_any_not]; rfl
  go_enter Tryd.func42, Tryd.ntmps42
  go_wp2_with fail
  refine (has_may (fun t => !mayB t) ts A c _ hr (by omega) hcall.out).mono ?_
  rintro e w1 ⟨rfl, hb⟩
  go_wp2_with fail
  go_ret
  exact ⟨by rw [← HA.out]; rfl, hb⟩
end Go.Proofs.YteoghoaggpbkpaaDoor
