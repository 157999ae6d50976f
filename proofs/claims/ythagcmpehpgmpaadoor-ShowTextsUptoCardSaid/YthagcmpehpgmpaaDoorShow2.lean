/- An expression's text, put on a page: what stays. -/
import Derived.Test.YthagcmpehpgmpaaDoorShow1
import Derived.Test.YthagcmpehpgmpaaDoorText2
import Derived.Deep.RegionHeld3
namespace Go.Proofs.YthagcmpehpgmpaaDoor
open Go.RowKit
set_option linter.unusedVariables false
set_option linter.unusedSimpArgs false

abbrev PG : TypeId := 96
theorem isBld_page : IsBld PG := ⟨by kernel_rfl, by decide⟩
theorem re_ne_byte : 47 ≠ 5 := by decide
theorem TzOk.bdk {b : Nat} {w w' : World} (h : TzOk w) (hg : 0 < b) (hb : BdK b w w') : TzOk w' := fun n => (hb.1.cell hg).trans (h n)
theorem InRow.bdk {b : Nat} {w w' : World} {ts : List Re} {A : Option Addr} {i : Nat} (h : InRow RE (fun x => x < b) w ts A i) (hb : BdK b w w') : InRow RE (fun x => x < b) w' ts A i :=
  h.keep (fun _ h => h) fun a v ha hv => (hb.1.cell ha).trans hv
theorem cells6_of {w : World} {b : Nat} {v0 v1 v2 v3 v4 v5 : Value} {t : TypeId} (h : w.heap[b]? = some (.cells #[v0, v1, v2, v3, v4, v5] t (0, 0))) :
    w.cell? ⟨b, 0, none⟩ = some v0 ∧ w.cell? ⟨b, 1, none⟩ = some v1 ∧ w.cell? ⟨b, 2, none⟩ = some v2 ∧ w.cell? ⟨b, 3, none⟩ = some v3 ∧ w.cell? ⟨b, 4, none⟩ = some v4 ∧ w.cell? ⟨b, 5, none⟩ = some v5 := by
  refine ⟨?_, ?_, ?_, ?_, ?_, ?_⟩ <;> simp [World.cell?, h]
theorem tz_drew {w : World} (h : TzOk w) : TzOk w.drew := h
theorem tz_drewN {w : World} (h : TzOk w) (n : Nat) : TzOk (w.drewN n) := h
theorem bdk_drewN {b n : Nat} {w w' : World} (h : Below (w.drewN n).heap.size (w.drewN n) w') (hb : b < w.heap.size) : BdK b w w' :=
  have h1 : BdK b (w.drewN n) w' := Below.bdk h (Nat.le_of_lt hb)
  ⟨⟨h1.1.os, h1.1.tape, h1.1.output, h1.1.size, h1.1.block⟩, h1.2⟩
theorem bd_drewN {T : TypeId} {b n : Nat} {bs : List UInt8} {w w' : World} (h : Bd T b bs w) (hb : Below (w.drewN n).heap.size (w.drewN n) w') : Bd T b bs w' :=
  Bd.keep (w := w.drewN n) h hb
theorem contains45 (x : UInt8) : [4, 5].contains x = (x == 4 || x == 5) := by simp [List.contains, List.elem]; cases x == 4 <;> cases x == 5 <;> rfl
theorem contains5 (x : UInt8) : [5].contains x = (x == 5) := by simp [List.contains, List.elem]; cases x == 5 <;> rfl
theorem kid0 {ok : Nat → Prop} {w : World} {h : RH} {ks r : List Re} {A : Option Addr} (hr : InRow RE ok w (.mk h ks :: r) A 0) :
    ∃ (ad : Addr) (A1 : Option Addr) (c1 : Nat), A = some ad ∧ ks.length ≤ c1 ∧ InRow RE ok w ks A1 0 ∧
      w.cell? ad = some (.int .u8 (h.k.toNat : Int)) ∧ w.cell? ⟨ad.block, ad.off + 1, none⟩ = some (.int .u64 (h.s.a.toNat : Int)) ∧ w.cell? ⟨ad.block, ad.off + 2, none⟩ = some (.int .u64 (h.s.b.toNat : Int)) ∧
      w.cell? ⟨ad.block, ad.off + 3, none⟩ = some (.int .u64 (h.s.c.toNat : Int)) ∧ w.cell? ⟨ad.block, ad.off + 4, none⟩ = some (.int .u64 (h.s.d.toNat : Int)) ∧ w.cell? ⟨ad.block, ad.off + 5, none⟩ = some (.slice A1 ks.length c1) := by
  obtain ⟨t, ad, h', ks', A1, c1, hA, hx, e, hc, hr1, q0, q1, q2, q3, q4, q5⟩ := re_at hr (k := 0) (by simp)
  subst e
  obtain ⟨rfl, rfl⟩ := T.mk.inj (Option.some.inj hx)
  exact ⟨ad, A1, c1, hA, hc, hr1, q0, q1, q2, q3, q4, q5⟩
theorem kid1 {ok : Nat → Prop} {w : World} {t0 : Re} {h : RH} {ks r : List Re} {A : Option Addr} (hr : InRow RE ok w (t0 :: .mk h ks :: r) A 0) :
    ∃ (ad : Addr) (A1 : Option Addr) (c1 : Nat), A = some ad ∧ ks.length ≤ c1 ∧ InRow RE ok w ks A1 0 ∧
      w.cell? ⟨ad.block, ad.off + 6, none⟩ = some (.int .u8 (h.k.toNat : Int)) ∧ w.cell? ⟨ad.block, ad.off + 6 + 1, none⟩ = some (.int .u64 (h.s.a.toNat : Int)) ∧ w.cell? ⟨ad.block, ad.off + 6 + 2, none⟩ = some (.int .u64 (h.s.b.toNat : Int)) ∧
      w.cell? ⟨ad.block, ad.off + 6 + 3, none⟩ = some (.int .u64 (h.s.c.toNat : Int)) ∧ w.cell? ⟨ad.block, ad.off + 6 + 4, none⟩ = some (.int .u64 (h.s.d.toNat : Int)) ∧ w.cell? ⟨ad.block, ad.off + 6 + 5, none⟩ = some (.slice A1 ks.length c1) := by
  obtain ⟨t, ad, h', ks', A1, c1, hA, hx, e, hc, hr1, q0, q1, q2, q3, q4, q5⟩ := re_at hr (k := 1) (by simp)
  subst e
  obtain ⟨rfl, rfl⟩ := T.mk.inj (Option.some.inj hx)
  exact ⟨ad, A1, c1, hA, hc, hr1, q0, q1, q2, q3, q4, q5⟩
theorem box_keep2 {b B : Nat} {w X X' : World} {v0 v1 v2 v3 v4 v5 : Value} (hB : b < B) (hk : BdK b X X')
    (h : X.cell? ⟨B, 1, none⟩ = some v1 ∧ X.cell? ⟨B, 2, none⟩ = some v2 ∧ X.cell? ⟨B, 3, none⟩ = some v3 ∧ X.cell? ⟨B, 4, none⟩ = some v4 ∧ Hid (X.heap[B]? = some (.cells #[v0, v1, v2, v3, v4, v5] 47 (0, 0))) ∧ Hid (BdK b w X)) :
    X'.cell? ⟨B, 1, none⟩ = some v1 ∧ X'.cell? ⟨B, 2, none⟩ = some v2 ∧ X'.cell? ⟨B, 3, none⟩ = some v3 ∧ X'.cell? ⟨B, 4, none⟩ = some v4 ∧ Hid (X'.heap[B]? = some (.cells #[v0, v1, v2, v3, v4, v5] 47 (0, 0))) ∧ Hid (BdK b w X') := by
  have hb := hk.block h.2.2.2.2.1.out (by omega) re_ne_byte
  obtain ⟨_, y1, y2, y3, y4, _⟩ := cells6_of hb
  exact ⟨y1, y2, y3, y4, hb, h.2.2.2.2.2.out.trans hk⟩
theorem box_keep {b B : Nat} {w X X' : World} {v0 v1 v2 v3 v4 v5 : Value} (hlt : b < w.heap.size) (hB : b < B) (hk : Below X.heap.size X X')
    (h : X.cell? ⟨B, 1, none⟩ = some v1 ∧ X.cell? ⟨B, 2, none⟩ = some v2 ∧ X.cell? ⟨B, 3, none⟩ = some v3 ∧ X.cell? ⟨B, 4, none⟩ = some v4 ∧ Hid (X.heap[B]? = some (.cells #[v0, v1, v2, v3, v4, v5] 47 (0, 0))) ∧ Hid (BdK b w X)) :
    X'.cell? ⟨B, 1, none⟩ = some v1 ∧ X'.cell? ⟨B, 2, none⟩ = some v2 ∧ X'.cell? ⟨B, 3, none⟩ = some v3 ∧ X'.cell? ⟨B, 4, none⟩ = some v4 ∧ Hid (X'.heap[B]? = some (.cells #[v0, v1, v2, v3, v4, v5] 47 (0, 0))) ∧ Hid (BdK b w X') :=
  box_keep2 hB (Below.bdk hk (by have := h.2.2.2.2.2.out.1.size; omega)) h
/-- what a node's text, put on a page, is -/
def PutOk (h : RH) (ks : List Re) : Prop :=
  ∀ (A : Option Addr) (c : Nat) (w : World) (b : Nat) (bs : List UInt8) (kl : List UInt8) (KA : Option Addr) (kc : Nat), ks.length ≤ c → InRow RE (fun x => x < b) w ks A 0 → Bd PG b bs w → 0 < b → TzOk w →
    kl.length ≤ 1000 → Row1 encB w KA kl → bs.length + 2004 * (1 + T.sizes ks) ≤ 10000000000 →
    Calls Tryd.prog 73 #[.pointer (some ⟨b, 0, none⟩), reV h A ks.length c, .slice KA kl.length kc] w fun e w' =>
      e = .returned (.tuple #[]) ∧ Bd PG b (bs ++ brk (kl.contains h.k) (showT (.mk h ks))) w' ∧ BdK b w w'
def PutT : Re → Prop | .mk h ks => PutOk h ks

set_option maxRecDepth 100000 in
set_option maxHeartbeats 40000000 in
theorem put_1 {h : RH} (e : h.k = 1) : PutOk h [] := by
  intro A c w b bs kl KA kc hc hr hb hg ht hm hk hlen
  have HS := Lib.hid (show_1 (ks := []) e)
  have hlt := hb.lt
  have hkn : (h.k.toNat : Int) = 1 := by rw [e]; rfl
  simp only [T.sizes, T.size] at hlen
  have HC := Lib.hid (contains8_any kl KA kc h.k (w.alloc (.cells #[.int .u8 1, .int .u64 (h.s.a.toNat : Int), .int .u64 (h.s.b.toNat : Int), .int .u64 (h.s.c.toNat : Int), .int .u64 (h.s.d.toNat : Int), .slice A 0 c] 47)) hm (hk.below (below_new (Below.refl _ _) _)))
  rw [hkn] at HC
  have hk0 : BdK b w (w.alloc (.cells #[.int .u8 1, .int .u64 (h.s.a.toNat : Int), .int .u64 (h.s.b.toNat : Int), .int .u64 (h.s.c.toNat : Int), .int .u64 (h.s.d.toNat : Int), .slice A 0 c] 47)) := (BdK.refl b w).alloc (by omega) _
  have FB := Lib.hid (hb.alloc (.cells #[.int .u8 1, .int .u64 (h.s.a.toNat : Int), .int .u64 (h.s.b.toNat : Int), .int .u64 (h.s.c.toNat : Int), .int .u64 (h.s.d.toNat : Int), .slice A 0 c] 47))
  have FK := Lib.hid hk0
  have FE := Lib.hid (new_at1 (w := w) (.cells #[.int .u8 1, .int .u64 (h.s.a.toNat : Int), .int .u64 (h.s.b.toNat : Int), .int .u64 (h.s.c.toNat : Int), .int .u64 (h.s.d.toNat : Int), .slice A 0 c] 47))
  have FR := Lib.hid (hr.bdk hk0)
  have FT := Lib.hid (ht.bdk hg hk0)
  have hBn : b < w.heap.size := hlt
  have hwt := ht
  clear hb hk hr hk0 ht hwt
  go_enter Tryd.func73, Tryd.ntmps73
  go_wp2_with fail
  generalize hw0 : w.alloc (.cells #[.int .u8 1, .int .u64 (h.s.a.toNat : Int), .int .u64 (h.s.b.toNat : Int), .int .u64 (h.s.c.toNat : Int), .int .u64 (h.s.d.toNat : Int), .slice A 0 c] 47) = w0 at *
  generalize w.heap.size = B at *
  clear hw0
  obtain ⟨x0, x1, x2, x3, x4, x5⟩ := cells6_of FE.out
  refine HC.out.mono ?_
  rintro e0 w1 ⟨rfl, rfl⟩
  clear HC
  cases hin : kl.contains h.k with
  | false =>
    have HIN := Lib.hid hin
    clear hin
    go_wp2_with fail
    refine (writeString_any isBld_page [91, 93] FB.out (by first | omega | (simp only [List.length_append, List.length_cons, List.length_nil]; omega))).mono ?_
    rintro e1 w1 ⟨rfl, hb1, hk1⟩
    have FB2 := Lib.hid hb1
    have FK2 := Lib.hid (FK.out.trans hk1)
    have FE2 := Lib.hid (BdK.block hk1 FE.out (by omega) re_ne_byte)
    have FR2 := Lib.hid (InRow.bdk FR.out hk1)
    have FT2 := Lib.hid (FT.out.bdk hg hk1)
    clear FB FK FE FR FT x0 x1 x2 x3 x4 x5 hb1 hk1
    have FB := FB2
    have FK := FK2
    have FE := FE2
    have FR := FR2
    have FT := FT2
    clear FB2 FK2 FE2 FR2 FT2
    obtain ⟨x0, x1, x2, x3, x4, x5⟩ := cells6_of FE.out
    go_wp2_with fail
    go_end0
    exact ⟨rfl, by rw [HS.out, HIN.out]; simpa [brk, T.head, contains45, contains5] using FB.out, FK.out⟩
  | true =>
    have HIN := Lib.hid hin
    clear hin
    go_wp2_with fail
    refine (writeByte_any isBld_page 40 FB.out (by first | omega | (simp only [List.length_append, List.length_cons, List.length_nil]; omega))).mono ?_
    rintro e1 w1 ⟨rfl, hb1, hk1⟩
    have FB2 := Lib.hid hb1
    have FK2 := Lib.hid (FK.out.trans hk1)
    have FE2 := Lib.hid (BdK.block hk1 FE.out (by omega) re_ne_byte)
    have FR2 := Lib.hid (InRow.bdk FR.out hk1)
    have FT2 := Lib.hid (FT.out.bdk hg hk1)
    clear FB FK FE FR FT x0 x1 x2 x3 x4 x5 hb1 hk1
    have FB := FB2
    have FK := FK2
    have FE := FE2
    have FR := FR2
    have FT := FT2
    clear FB2 FK2 FE2 FR2 FT2
    obtain ⟨x0, x1, x2, x3, x4, x5⟩ := cells6_of FE.out
    go_wp2_with fail
    refine (writeString_any isBld_page [91, 93] FB.out (by first | omega | (simp only [List.length_append, List.length_cons, List.length_nil]; omega))).mono ?_
    rintro e1 w1 ⟨rfl, hb1, hk1⟩
    have FB2 := Lib.hid hb1
    have FK2 := Lib.hid (FK.out.trans hk1)
    have FE2 := Lib.hid (BdK.block hk1 FE.out (by omega) re_ne_byte)
    have FR2 := Lib.hid (InRow.bdk FR.out hk1)
    have FT2 := Lib.hid (FT.out.bdk hg hk1)
    clear FB FK FE FR FT x0 x1 x2 x3 x4 x5 hb1 hk1
    have FB := FB2
    have FK := FK2
    have FE := FE2
    have FR := FR2
    have FT := FT2
    clear FB2 FK2 FE2 FR2 FT2
    obtain ⟨x0, x1, x2, x3, x4, x5⟩ := cells6_of FE.out
    go_wp2_with fail
    refine (writeByte_any isBld_page 41 FB.out (by first | omega | (simp only [List.length_append, List.length_cons, List.length_nil]; omega))).mono ?_
    rintro e1 w1 ⟨rfl, hb1, hk1⟩
    have FB2 := Lib.hid hb1
    have FK2 := Lib.hid (FK.out.trans hk1)
    have FE2 := Lib.hid (BdK.block hk1 FE.out (by omega) re_ne_byte)
    have FR2 := Lib.hid (InRow.bdk FR.out hk1)
    have FT2 := Lib.hid (FT.out.bdk hg hk1)
    clear FB FK FE FR FT x0 x1 x2 x3 x4 x5 hb1 hk1
    have FB := FB2
    have FK := FK2
    have FE := FE2
    have FR := FR2
    have FT := FT2
    clear FB2 FK2 FE2 FR2 FT2
    obtain ⟨x0, x1, x2, x3, x4, x5⟩ := cells6_of FE.out
    go_wp2_with fail
    go_end0
    exact ⟨rfl, by rw [HS.out, HIN.out]; simpa [brk, T.head, contains45, contains5] using FB.out, FK.out⟩
set_option maxRecDepth 100000 in
set_option maxHeartbeats 40000000 in
theorem put_2 {h : RH} (e : h.k = 2) : PutOk h [] := by
  intro A c w b bs kl KA kc hc hr hb hg ht hm hk hlen
  have HS := Lib.hid (show_2 (ks := []) e)
  have hlt := hb.lt
  have hkn : (h.k.toNat : Int) = 2 := by rw [e]; rfl
  simp only [T.sizes, T.size] at hlen
  have HC := Lib.hid (contains8_any kl KA kc h.k (w.alloc (.cells #[.int .u8 2, .int .u64 (h.s.a.toNat : Int), .int .u64 (h.s.b.toNat : Int), .int .u64 (h.s.c.toNat : Int), .int .u64 (h.s.d.toNat : Int), .slice A 0 c] 47)) hm (hk.below (below_new (Below.refl _ _) _)))
  rw [hkn] at HC
  have hk0 : BdK b w (w.alloc (.cells #[.int .u8 2, .int .u64 (h.s.a.toNat : Int), .int .u64 (h.s.b.toNat : Int), .int .u64 (h.s.c.toNat : Int), .int .u64 (h.s.d.toNat : Int), .slice A 0 c] 47)) := (BdK.refl b w).alloc (by omega) _
  have FB := Lib.hid (hb.alloc (.cells #[.int .u8 2, .int .u64 (h.s.a.toNat : Int), .int .u64 (h.s.b.toNat : Int), .int .u64 (h.s.c.toNat : Int), .int .u64 (h.s.d.toNat : Int), .slice A 0 c] 47))
  have FK := Lib.hid hk0
  have FE := Lib.hid (new_at1 (w := w) (.cells #[.int .u8 2, .int .u64 (h.s.a.toNat : Int), .int .u64 (h.s.b.toNat : Int), .int .u64 (h.s.c.toNat : Int), .int .u64 (h.s.d.toNat : Int), .slice A 0 c] 47))
  have FR := Lib.hid (hr.bdk hk0)
  have FT := Lib.hid (ht.bdk hg hk0)
  have hBn : b < w.heap.size := hlt
  have hwt := ht
  clear hb hk hr hk0 ht hwt
  go_enter Tryd.func73, Tryd.ntmps73
  go_wp2_with fail
  generalize hw0 : w.alloc (.cells #[.int .u8 2, .int .u64 (h.s.a.toNat : Int), .int .u64 (h.s.b.toNat : Int), .int .u64 (h.s.c.toNat : Int), .int .u64 (h.s.d.toNat : Int), .slice A 0 c] 47) = w0 at *
  generalize w.heap.size = B at *
  clear hw0
  obtain ⟨x0, x1, x2, x3, x4, x5⟩ := cells6_of FE.out
  refine HC.out.mono ?_
  rintro e0 w1 ⟨rfl, rfl⟩
  clear HC
  cases hin : kl.contains h.k with
  | false =>
    have HIN := Lib.hid hin
    clear hin
    go_wp2_with fail
    refine (writeString_any isBld_page [40, 41] FB.out (by first | omega | (simp only [List.length_append, List.length_cons, List.length_nil]; omega))).mono ?_
    rintro e1 w1 ⟨rfl, hb1, hk1⟩
    have FB2 := Lib.hid hb1
    have FK2 := Lib.hid (FK.out.trans hk1)
    have FE2 := Lib.hid (BdK.block hk1 FE.out (by omega) re_ne_byte)
    have FR2 := Lib.hid (InRow.bdk FR.out hk1)
    have FT2 := Lib.hid (FT.out.bdk hg hk1)
    clear FB FK FE FR FT x0 x1 x2 x3 x4 x5 hb1 hk1
    have FB := FB2
    have FK := FK2
    have FE := FE2
    have FR := FR2
    have FT := FT2
    clear FB2 FK2 FE2 FR2 FT2
    obtain ⟨x0, x1, x2, x3, x4, x5⟩ := cells6_of FE.out
    go_wp2_with fail
    go_end0
    exact ⟨rfl, by rw [HS.out, HIN.out]; simpa [brk, T.head, contains45, contains5] using FB.out, FK.out⟩
  | true =>
    have HIN := Lib.hid hin
    clear hin
    go_wp2_with fail
    refine (writeByte_any isBld_page 40 FB.out (by first | omega | (simp only [List.length_append, List.length_cons, List.length_nil]; omega))).mono ?_
    rintro e1 w1 ⟨rfl, hb1, hk1⟩
    have FB2 := Lib.hid hb1
    have FK2 := Lib.hid (FK.out.trans hk1)
    have FE2 := Lib.hid (BdK.block hk1 FE.out (by omega) re_ne_byte)
    have FR2 := Lib.hid (InRow.bdk FR.out hk1)
    have FT2 := Lib.hid (FT.out.bdk hg hk1)
    clear FB FK FE FR FT x0 x1 x2 x3 x4 x5 hb1 hk1
    have FB := FB2
    have FK := FK2
    have FE := FE2
    have FR := FR2
    have FT := FT2
    clear FB2 FK2 FE2 FR2 FT2
    obtain ⟨x0, x1, x2, x3, x4, x5⟩ := cells6_of FE.out
    go_wp2_with fail
    refine (writeString_any isBld_page [40, 41] FB.out (by first | omega | (simp only [List.length_append, List.length_cons, List.length_nil]; omega))).mono ?_
    rintro e1 w1 ⟨rfl, hb1, hk1⟩
    have FB2 := Lib.hid hb1
    have FK2 := Lib.hid (FK.out.trans hk1)
    have FE2 := Lib.hid (BdK.block hk1 FE.out (by omega) re_ne_byte)
    have FR2 := Lib.hid (InRow.bdk FR.out hk1)
    have FT2 := Lib.hid (FT.out.bdk hg hk1)
    clear FB FK FE FR FT x0 x1 x2 x3 x4 x5 hb1 hk1
    have FB := FB2
    have FK := FK2
    have FE := FE2
    have FR := FR2
    have FT := FT2
    clear FB2 FK2 FE2 FR2 FT2
    obtain ⟨x0, x1, x2, x3, x4, x5⟩ := cells6_of FE.out
    go_wp2_with fail
    refine (writeByte_any isBld_page 41 FB.out (by first | omega | (simp only [List.length_append, List.length_cons, List.length_nil]; omega))).mono ?_
    rintro e1 w1 ⟨rfl, hb1, hk1⟩
    have FB2 := Lib.hid hb1
    have FK2 := Lib.hid (FK.out.trans hk1)
    have FE2 := Lib.hid (BdK.block hk1 FE.out (by omega) re_ne_byte)
    have FR2 := Lib.hid (InRow.bdk FR.out hk1)
    have FT2 := Lib.hid (FT.out.bdk hg hk1)
    clear FB FK FE FR FT x0 x1 x2 x3 x4 x5 hb1 hk1
    have FB := FB2
    have FK := FK2
    have FE := FE2
    have FR := FR2
    have FT := FT2
    clear FB2 FK2 FE2 FR2 FT2
    obtain ⟨x0, x1, x2, x3, x4, x5⟩ := cells6_of FE.out
    go_wp2_with fail
    go_end0
    exact ⟨rfl, by rw [HS.out, HIN.out]; simpa [brk, T.head, contains45, contains5] using FB.out, FK.out⟩
set_option maxRecDepth 100000 in
set_option maxHeartbeats 40000000 in
theorem put_3 {h : RH} (e : h.k = 3) : PutOk h [] := by
  intro A c w b bs kl KA kc hc hr hb hg ht hm hk hlen
  have HS := Lib.hid (show_3 (ks := []) e)
  have hlt := hb.lt
  have hkn : (h.k.toNat : Int) = 3 := by rw [e]; rfl
  simp only [T.sizes, T.size] at hlen
  have HC := Lib.hid (contains8_any kl KA kc h.k (w.alloc (.cells #[.int .u8 3, .int .u64 (h.s.a.toNat : Int), .int .u64 (h.s.b.toNat : Int), .int .u64 (h.s.c.toNat : Int), .int .u64 (h.s.d.toNat : Int), .slice A 0 c] 47)) hm (hk.below (below_new (Below.refl _ _) _)))
  rw [hkn] at HC
  have hk0 : BdK b w (w.alloc (.cells #[.int .u8 3, .int .u64 (h.s.a.toNat : Int), .int .u64 (h.s.b.toNat : Int), .int .u64 (h.s.c.toNat : Int), .int .u64 (h.s.d.toNat : Int), .slice A 0 c] 47)) := (BdK.refl b w).alloc (by omega) _
  have FB := Lib.hid (hb.alloc (.cells #[.int .u8 3, .int .u64 (h.s.a.toNat : Int), .int .u64 (h.s.b.toNat : Int), .int .u64 (h.s.c.toNat : Int), .int .u64 (h.s.d.toNat : Int), .slice A 0 c] 47))
  have FK := Lib.hid hk0
  have FE := Lib.hid (new_at1 (w := w) (.cells #[.int .u8 3, .int .u64 (h.s.a.toNat : Int), .int .u64 (h.s.b.toNat : Int), .int .u64 (h.s.c.toNat : Int), .int .u64 (h.s.d.toNat : Int), .slice A 0 c] 47))
  have FR := Lib.hid (hr.bdk hk0)
  have FT := Lib.hid (ht.bdk hg hk0)
  have hBn : b < w.heap.size := hlt
  have hwt := ht
  clear hb hk hr hk0 ht hwt
  go_enter Tryd.func73, Tryd.ntmps73
  go_wp2_with fail
  generalize hw0 : w.alloc (.cells #[.int .u8 3, .int .u64 (h.s.a.toNat : Int), .int .u64 (h.s.b.toNat : Int), .int .u64 (h.s.c.toNat : Int), .int .u64 (h.s.d.toNat : Int), .slice A 0 c] 47) = w0 at *
  generalize w.heap.size = B at *
  clear hw0
  obtain ⟨x0, x1, x2, x3, x4, x5⟩ := cells6_of FE.out
  refine HC.out.mono ?_
  rintro e0 w1 ⟨rfl, rfl⟩
  clear HC
  cases hin : kl.contains h.k with
  | false =>
    have HIN := Lib.hid hin
    clear hin
    have hsl := textS_length h.s
    have HST := Lib.hid (fun X (hX : TzOk X) => setText_any h.s X hX)
    generalize textS h.s = tx at *
    go_wp2_with fail
    go_region_held3 (fun X => X.cell? ⟨B, 1, none⟩ = some (.int .u64 (h.s.a.toNat : Int)) ∧ X.cell? ⟨B, 2, none⟩ = some (.int .u64 (h.s.b.toNat : Int)) ∧ X.cell? ⟨B, 3, none⟩ = some (.int .u64 (h.s.c.toNat : Int)) ∧ X.cell? ⟨B, 4, none⟩ = some (.int .u64 (h.s.d.toNat : Int)) ∧ Hid (X.heap[B]? = some (.cells #[.int .u8 3, .int .u64 (h.s.a.toNat : Int), .int .u64 (h.s.b.toNat : Int), .int .u64 (h.s.c.toNat : Int), .int .u64 (h.s.d.toNat : Int), .slice A 0 c] 47)) ∧ Hid (BdK b w X))
      (first | exact ⟨x1, x2, x3, x4, FE, FK.out.drew⟩ | exact box_keep2 hBn (Below.bdk hba (Nat.le_of_lt FB.out.lt)) (by assumption) | exact box_keep2 hBn hbb.2 (by assumption) | fail)
      (first | (go_at_call 17; refine (HST.out _ (tz_drew FT.out)).mono ?_; rintro e1 w2 ⟨rfl, hba⟩) | (go_at_call 57; refine (writeString_any isBld_page tx (FB.out.drew.keep hba) (by first | omega | (simp only [List.length_append, List.length_cons, List.length_nil]; omega))).mono ?_; rintro e1 w3 ⟨rfl, hbb⟩) | fail)
    have hk1 := ((BdK.refl b _).drew.trans (Below.bdk hba (Nat.le_of_lt FB.out.lt))).trans hbb.2
    have FB2 := Lib.hid hbb.1
    have FK2 := Lib.hid (FK.out.trans hk1)
    have FE2 := Lib.hid (BdK.block hk1 FE.out (by omega) re_ne_byte)
    have FR2 := Lib.hid (InRow.bdk FR.out hk1)
    have FT2 := Lib.hid (FT.out.bdk hg hk1)
    clear FB FK FE FR FT x0 x1 x2 x3 x4 x5 hba hbb hk1
    have FB := FB2
    have FK := FK2
    have FE := FE2
    have FR := FR2
    have FT := FT2
    clear FB2 FK2 FE2 FR2 FT2
    obtain ⟨x0, x1, x2, x3, x4, x5⟩ := cells6_of FE.out
    go_wp2_with fail
    go_end0
    exact ⟨rfl, by rw [HS.out, HIN.out]; simpa [brk, T.head, contains45, contains5] using FB.out, FK.out⟩
  | true =>
    have HIN := Lib.hid hin
    clear hin
    go_wp2_with fail
    refine (writeByte_any isBld_page 40 FB.out (by first | omega | (simp only [List.length_append, List.length_cons, List.length_nil]; omega))).mono ?_
    rintro e1 w1 ⟨rfl, hb1, hk1⟩
    have FB2 := Lib.hid hb1
    have FK2 := Lib.hid (FK.out.trans hk1)
    have FE2 := Lib.hid (BdK.block hk1 FE.out (by omega) re_ne_byte)
    have FR2 := Lib.hid (InRow.bdk FR.out hk1)
    have FT2 := Lib.hid (FT.out.bdk hg hk1)
    clear FB FK FE FR FT x0 x1 x2 x3 x4 x5 hb1 hk1
    have FB := FB2
    have FK := FK2
    have FE := FE2
    have FR := FR2
    have FT := FT2
    clear FB2 FK2 FE2 FR2 FT2
    obtain ⟨x0, x1, x2, x3, x4, x5⟩ := cells6_of FE.out
    have hsl := textS_length h.s
    have HST := Lib.hid (fun X (hX : TzOk X) => setText_any h.s X hX)
    generalize textS h.s = tx at *
    go_wp2_with fail
    go_region_held3 (fun X => X.cell? ⟨B, 1, none⟩ = some (.int .u64 (h.s.a.toNat : Int)) ∧ X.cell? ⟨B, 2, none⟩ = some (.int .u64 (h.s.b.toNat : Int)) ∧ X.cell? ⟨B, 3, none⟩ = some (.int .u64 (h.s.c.toNat : Int)) ∧ X.cell? ⟨B, 4, none⟩ = some (.int .u64 (h.s.d.toNat : Int)) ∧ Hid (X.heap[B]? = some (.cells #[.int .u8 3, .int .u64 (h.s.a.toNat : Int), .int .u64 (h.s.b.toNat : Int), .int .u64 (h.s.c.toNat : Int), .int .u64 (h.s.d.toNat : Int), .slice A 0 c] 47)) ∧ Hid (BdK b w X))
      (first | exact ⟨x1, x2, x3, x4, FE, FK.out.drew⟩ | exact box_keep2 hBn (Below.bdk hba (Nat.le_of_lt FB.out.lt)) (by assumption) | exact box_keep2 hBn hbb.2 (by assumption) | fail)
      (first | (go_at_call 17; refine (HST.out _ (tz_drew FT.out)).mono ?_; rintro e1 w2 ⟨rfl, hba⟩) | (go_at_call 57; refine (writeString_any isBld_page tx (FB.out.drew.keep hba) (by first | omega | (simp only [List.length_append, List.length_cons, List.length_nil]; omega))).mono ?_; rintro e1 w3 ⟨rfl, hbb⟩) | fail)
    have hk1 := ((BdK.refl b _).drew.trans (Below.bdk hba (Nat.le_of_lt FB.out.lt))).trans hbb.2
    have FB2 := Lib.hid hbb.1
    have FK2 := Lib.hid (FK.out.trans hk1)
    have FE2 := Lib.hid (BdK.block hk1 FE.out (by omega) re_ne_byte)
    have FR2 := Lib.hid (InRow.bdk FR.out hk1)
    have FT2 := Lib.hid (FT.out.bdk hg hk1)
    clear FB FK FE FR FT x0 x1 x2 x3 x4 x5 hba hbb hk1
    have FB := FB2
    have FK := FK2
    have FE := FE2
    have FR := FR2
    have FT := FT2
    clear FB2 FK2 FE2 FR2 FT2
    obtain ⟨x0, x1, x2, x3, x4, x5⟩ := cells6_of FE.out
    go_wp2_with fail
    refine (writeByte_any isBld_page 41 FB.out (by first | omega | (simp only [List.length_append, List.length_cons, List.length_nil]; omega))).mono ?_
    rintro e1 w1 ⟨rfl, hb1, hk1⟩
    have FB2 := Lib.hid hb1
    have FK2 := Lib.hid (FK.out.trans hk1)
    have FE2 := Lib.hid (BdK.block hk1 FE.out (by omega) re_ne_byte)
    have FR2 := Lib.hid (InRow.bdk FR.out hk1)
    have FT2 := Lib.hid (FT.out.bdk hg hk1)
    clear FB FK FE FR FT x0 x1 x2 x3 x4 x5 hb1 hk1
    have FB := FB2
    have FK := FK2
    have FE := FE2
    have FR := FR2
    have FT := FT2
    clear FB2 FK2 FE2 FR2 FT2
    obtain ⟨x0, x1, x2, x3, x4, x5⟩ := cells6_of FE.out
    go_wp2_with fail
    go_end0
    exact ⟨rfl, by rw [HS.out, HIN.out]; simpa [brk, T.head, contains45, contains5] using FB.out, FK.out⟩
set_option maxRecDepth 100000 in
set_option maxHeartbeats 40000000 in
theorem put_4 {h : RH} (e : h.k = 4) {ha : RH} {ka : List Re} (pa : PutOk ha ka) (la : (showT (.mk ha ka)).length ≤ 2000 * (1 + T.sizes ka)) {hB : RH} {kb : List Re} (pb : PutOk hB kb) (lb : (showT (.mk hB kb)).length ≤ 2000 * (1 + T.sizes kb)) : PutOk h [.mk ha ka, .mk hB kb] := by
  intro A c w b bs kl KA kc hc hr hb hg ht hm hk hlen
  have HS := Lib.hid (show_4 (a := .mk ha ka) (b := .mk hB kb) e)
  have hlt := hb.lt
  have hkn : (h.k.toNat : Int) = 4 := by rw [e]; rfl
  simp only [T.sizes, T.size] at hlen
  have HC := Lib.hid (contains8_any kl KA kc h.k (w.alloc (.cells #[.int .u8 4, .int .u64 (h.s.a.toNat : Int), .int .u64 (h.s.b.toNat : Int), .int .u64 (h.s.c.toNat : Int), .int .u64 (h.s.d.toNat : Int), .slice A 2 c] 47)) hm (hk.below (below_new (Below.refl _ _) _)))
  rw [hkn] at HC
  have hk0 : BdK b w (w.alloc (.cells #[.int .u8 4, .int .u64 (h.s.a.toNat : Int), .int .u64 (h.s.b.toNat : Int), .int .u64 (h.s.c.toNat : Int), .int .u64 (h.s.d.toNat : Int), .slice A 2 c] 47)) := (BdK.refl b w).alloc (by omega) _
  have FB := Lib.hid (hb.alloc (.cells #[.int .u8 4, .int .u64 (h.s.a.toNat : Int), .int .u64 (h.s.b.toNat : Int), .int .u64 (h.s.c.toNat : Int), .int .u64 (h.s.d.toNat : Int), .slice A 2 c] 47))
  have FK := Lib.hid hk0
  have FE := Lib.hid (new_at1 (w := w) (.cells #[.int .u8 4, .int .u64 (h.s.a.toNat : Int), .int .u64 (h.s.b.toNat : Int), .int .u64 (h.s.c.toNat : Int), .int .u64 (h.s.d.toNat : Int), .slice A 2 c] 47))
  have FR := Lib.hid (hr.bdk hk0)
  have FT := Lib.hid (ht.bdk hg hk0)
  have hBn : b < w.heap.size := hlt
  have hwt := ht
  clear hb hk hr hk0 ht hwt
  go_enter Tryd.func73, Tryd.ntmps73
  go_wp2_with fail
  generalize hw0 : w.alloc (.cells #[.int .u8 4, .int .u64 (h.s.a.toNat : Int), .int .u64 (h.s.b.toNat : Int), .int .u64 (h.s.c.toNat : Int), .int .u64 (h.s.d.toNat : Int), .slice A 2 c] 47) = w0 at *
  generalize w.heap.size = B at *
  clear hw0
  obtain ⟨x0, x1, x2, x3, x4, x5⟩ := cells6_of FE.out
  refine HC.out.mono ?_
  rintro e0 w1 ⟨rfl, rfl⟩
  clear HC
  cases hin : kl.contains h.k with
  | false =>
    have HIN := Lib.hid hin
    clear hin
    obtain ⟨ada, Aa, ca, hAa, hca, hra, q0, q1, q2, q3, q4, q5⟩ := kid0 FR.out
    subst hAa
    have lba := brk_length ([4, 5].contains ha.k) (showT (.mk ha ka))
    go_wp2_with fail
    have hk2 := (BdK.refl b _).alloc (Nat.le_of_lt FB.out.lt) (.cells #[.int .u8 4, .int .u8 5] 5)
    refine (pa Aa ca _ b _ [4, 5] _ 2 hca (hra.bdk hk2) (FB.out.alloc (.cells #[.int .u8 4, .int .u8 5] 5)) hg (FT.out.bdk hg hk2) (by decide) (new_row encB _ [4, 5] _ _ rfl) (by first | omega | (simp only [List.length_append, List.length_cons, List.length_nil]; omega))).mono ?_
    rintro e1 w2 ⟨rfl, hb1, hk1⟩
    have hk3 := hk2.trans hk1
    have FB2 := Lib.hid hb1
    have FK2 := Lib.hid (FK.out.trans hk3)
    have FE2 := Lib.hid (BdK.block hk3 FE.out (by omega) re_ne_byte)
    have FR2 := Lib.hid (InRow.bdk FR.out hk3)
    have FT2 := Lib.hid (FT.out.bdk hg hk3)
    clear FB FK FE FR FT x0 x1 x2 x3 x4 x5 hb1 hk1 hk2 hk3 q0 q1 q2 q3 q4 q5 hra
    have FB := FB2
    have FK := FK2
    have FE := FE2
    have FR := FR2
    have FT := FT2
    clear FB2 FK2 FE2 FR2 FT2
    obtain ⟨x0, x1, x2, x3, x4, x5⟩ := cells6_of FE.out
    obtain ⟨adb, Ab, cb, hAb, hcb, hrb, q0, q1, q2, q3, q4, q5⟩ := kid1 FR.out
    obtain rfl := Option.some.inj hAb
    have lbb := brk_length ([5].contains hB.k) (showT (.mk hB kb))
    go_wp2_with fail
    have hk2 := (BdK.refl b _).alloc (Nat.le_of_lt FB.out.lt) (.cells #[.int .u8 5] 5)
    refine (pb Ab cb _ b _ [5] _ 1 hcb (hrb.bdk hk2) (FB.out.alloc (.cells #[.int .u8 5] 5)) hg (FT.out.bdk hg hk2) (by decide) (new_row encB _ [5] _ _ rfl) (by first | omega | (simp only [List.length_append, List.length_cons, List.length_nil]; omega))).mono ?_
    rintro e1 w2 ⟨rfl, hb1, hk1⟩
    have hk3 := hk2.trans hk1
    have FB2 := Lib.hid hb1
    have FK2 := Lib.hid (FK.out.trans hk3)
    have FE2 := Lib.hid (BdK.block hk3 FE.out (by omega) re_ne_byte)
    have FR2 := Lib.hid (InRow.bdk FR.out hk3)
    have FT2 := Lib.hid (FT.out.bdk hg hk3)
    clear FB FK FE FR FT x0 x1 x2 x3 x4 x5 hb1 hk1 hk2 hk3 q0 q1 q2 q3 q4 q5 hrb
    have FB := FB2
    have FK := FK2
    have FE := FE2
    have FR := FR2
    have FT := FT2
    clear FB2 FK2 FE2 FR2 FT2
    obtain ⟨x0, x1, x2, x3, x4, x5⟩ := cells6_of FE.out
    go_wp2_with fail
    go_end0
    exact ⟨rfl, by rw [HS.out, HIN.out]; simpa [brk, T.head, contains45, contains5] using FB.out, FK.out⟩
  | true =>
    have HIN := Lib.hid hin
    clear hin
    go_wp2_with fail
    refine (writeByte_any isBld_page 40 FB.out (by first | omega | (simp only [List.length_append, List.length_cons, List.length_nil]; omega))).mono ?_
    rintro e1 w1 ⟨rfl, hb1, hk1⟩
    have FB2 := Lib.hid hb1
    have FK2 := Lib.hid (FK.out.trans hk1)
    have FE2 := Lib.hid (BdK.block hk1 FE.out (by omega) re_ne_byte)
    have FR2 := Lib.hid (InRow.bdk FR.out hk1)
    have FT2 := Lib.hid (FT.out.bdk hg hk1)
    clear FB FK FE FR FT x0 x1 x2 x3 x4 x5 hb1 hk1
    have FB := FB2
    have FK := FK2
    have FE := FE2
    have FR := FR2
    have FT := FT2
    clear FB2 FK2 FE2 FR2 FT2
    obtain ⟨x0, x1, x2, x3, x4, x5⟩ := cells6_of FE.out
    obtain ⟨ada, Aa, ca, hAa, hca, hra, q0, q1, q2, q3, q4, q5⟩ := kid0 FR.out
    subst hAa
    have lba := brk_length ([4, 5].contains ha.k) (showT (.mk ha ka))
    go_wp2_with fail
    have hk2 := (BdK.refl b _).alloc (Nat.le_of_lt FB.out.lt) (.cells #[.int .u8 4, .int .u8 5] 5)
    refine (pa Aa ca _ b _ [4, 5] _ 2 hca (hra.bdk hk2) (FB.out.alloc (.cells #[.int .u8 4, .int .u8 5] 5)) hg (FT.out.bdk hg hk2) (by decide) (new_row encB _ [4, 5] _ _ rfl) (by first | omega | (simp only [List.length_append, List.length_cons, List.length_nil]; omega))).mono ?_
    rintro e1 w2 ⟨rfl, hb1, hk1⟩
    have hk3 := hk2.trans hk1
    have FB2 := Lib.hid hb1
    have FK2 := Lib.hid (FK.out.trans hk3)
    have FE2 := Lib.hid (BdK.block hk3 FE.out (by omega) re_ne_byte)
    have FR2 := Lib.hid (InRow.bdk FR.out hk3)
    have FT2 := Lib.hid (FT.out.bdk hg hk3)
    clear FB FK FE FR FT x0 x1 x2 x3 x4 x5 hb1 hk1 hk2 hk3 q0 q1 q2 q3 q4 q5 hra
    have FB := FB2
    have FK := FK2
    have FE := FE2
    have FR := FR2
    have FT := FT2
    clear FB2 FK2 FE2 FR2 FT2
    obtain ⟨x0, x1, x2, x3, x4, x5⟩ := cells6_of FE.out
    obtain ⟨adb, Ab, cb, hAb, hcb, hrb, q0, q1, q2, q3, q4, q5⟩ := kid1 FR.out
    obtain rfl := Option.some.inj hAb
    have lbb := brk_length ([5].contains hB.k) (showT (.mk hB kb))
    go_wp2_with fail
    have hk2 := (BdK.refl b _).alloc (Nat.le_of_lt FB.out.lt) (.cells #[.int .u8 5] 5)
    refine (pb Ab cb _ b _ [5] _ 1 hcb (hrb.bdk hk2) (FB.out.alloc (.cells #[.int .u8 5] 5)) hg (FT.out.bdk hg hk2) (by decide) (new_row encB _ [5] _ _ rfl) (by first | omega | (simp only [List.length_append, List.length_cons, List.length_nil]; omega))).mono ?_
    rintro e1 w2 ⟨rfl, hb1, hk1⟩
    have hk3 := hk2.trans hk1
    have FB2 := Lib.hid hb1
    have FK2 := Lib.hid (FK.out.trans hk3)
    have FE2 := Lib.hid (BdK.block hk3 FE.out (by omega) re_ne_byte)
    have FR2 := Lib.hid (InRow.bdk FR.out hk3)
    have FT2 := Lib.hid (FT.out.bdk hg hk3)
    clear FB FK FE FR FT x0 x1 x2 x3 x4 x5 hb1 hk1 hk2 hk3 q0 q1 q2 q3 q4 q5 hrb
    have FB := FB2
    have FK := FK2
    have FE := FE2
    have FR := FR2
    have FT := FT2
    clear FB2 FK2 FE2 FR2 FT2
    obtain ⟨x0, x1, x2, x3, x4, x5⟩ := cells6_of FE.out
    go_wp2_with fail
    refine (writeByte_any isBld_page 41 FB.out (by first | omega | (simp only [List.length_append, List.length_cons, List.length_nil]; omega))).mono ?_
    rintro e1 w1 ⟨rfl, hb1, hk1⟩
    have FB2 := Lib.hid hb1
    have FK2 := Lib.hid (FK.out.trans hk1)
    have FE2 := Lib.hid (BdK.block hk1 FE.out (by omega) re_ne_byte)
    have FR2 := Lib.hid (InRow.bdk FR.out hk1)
    have FT2 := Lib.hid (FT.out.bdk hg hk1)
    clear FB FK FE FR FT x0 x1 x2 x3 x4 x5 hb1 hk1
    have FB := FB2
    have FK := FK2
    have FE := FE2
    have FR := FR2
    have FT := FT2
    clear FB2 FK2 FE2 FR2 FT2
    obtain ⟨x0, x1, x2, x3, x4, x5⟩ := cells6_of FE.out
    go_wp2_with fail
    go_end0
    exact ⟨rfl, by rw [HS.out, HIN.out]; simpa [brk, T.head, contains45, contains5] using FB.out, FK.out⟩
set_option maxRecDepth 100000 in
set_option maxHeartbeats 40000000 in
theorem put_5 {h : RH} (e : h.k = 5) {ha : RH} {ka : List Re} (pa : PutOk ha ka) (la : (showT (.mk ha ka)).length ≤ 2000 * (1 + T.sizes ka)) {hB : RH} {kb : List Re} (pb : PutOk hB kb) (lb : (showT (.mk hB kb)).length ≤ 2000 * (1 + T.sizes kb)) : PutOk h [.mk ha ka, .mk hB kb] := by
  intro A c w b bs kl KA kc hc hr hb hg ht hm hk hlen
  have HS := Lib.hid (show_5 (a := .mk ha ka) (b := .mk hB kb) e)
  have hlt := hb.lt
  have hkn : (h.k.toNat : Int) = 5 := by rw [e]; rfl
  simp only [T.sizes, T.size] at hlen
  have HC := Lib.hid (contains8_any kl KA kc h.k (w.alloc (.cells #[.int .u8 5, .int .u64 (h.s.a.toNat : Int), .int .u64 (h.s.b.toNat : Int), .int .u64 (h.s.c.toNat : Int), .int .u64 (h.s.d.toNat : Int), .slice A 2 c] 47)) hm (hk.below (below_new (Below.refl _ _) _)))
  rw [hkn] at HC
  have hk0 : BdK b w (w.alloc (.cells #[.int .u8 5, .int .u64 (h.s.a.toNat : Int), .int .u64 (h.s.b.toNat : Int), .int .u64 (h.s.c.toNat : Int), .int .u64 (h.s.d.toNat : Int), .slice A 2 c] 47)) := (BdK.refl b w).alloc (by omega) _
  have FB := Lib.hid (hb.alloc (.cells #[.int .u8 5, .int .u64 (h.s.a.toNat : Int), .int .u64 (h.s.b.toNat : Int), .int .u64 (h.s.c.toNat : Int), .int .u64 (h.s.d.toNat : Int), .slice A 2 c] 47))
  have FK := Lib.hid hk0
  have FE := Lib.hid (new_at1 (w := w) (.cells #[.int .u8 5, .int .u64 (h.s.a.toNat : Int), .int .u64 (h.s.b.toNat : Int), .int .u64 (h.s.c.toNat : Int), .int .u64 (h.s.d.toNat : Int), .slice A 2 c] 47))
  have FR := Lib.hid (hr.bdk hk0)
  have FT := Lib.hid (ht.bdk hg hk0)
  have hBn : b < w.heap.size := hlt
  have hwt := ht
  clear hb hk hr hk0 ht hwt
  go_enter Tryd.func73, Tryd.ntmps73
  go_wp2_with fail
  generalize hw0 : w.alloc (.cells #[.int .u8 5, .int .u64 (h.s.a.toNat : Int), .int .u64 (h.s.b.toNat : Int), .int .u64 (h.s.c.toNat : Int), .int .u64 (h.s.d.toNat : Int), .slice A 2 c] 47) = w0 at *
  generalize w.heap.size = B at *
  clear hw0
  obtain ⟨x0, x1, x2, x3, x4, x5⟩ := cells6_of FE.out
  refine HC.out.mono ?_
  rintro e0 w1 ⟨rfl, rfl⟩
  clear HC
  cases hin : kl.contains h.k with
  | false =>
    have HIN := Lib.hid hin
    clear hin
    obtain ⟨ada, Aa, ca, hAa, hca, hra, q0, q1, q2, q3, q4, q5⟩ := kid0 FR.out
    subst hAa
    have lba := brk_length ([5].contains ha.k) (showT (.mk ha ka))
    go_wp2_with fail
    have hk2 := (BdK.refl b _).alloc (Nat.le_of_lt FB.out.lt) (.cells #[.int .u8 5] 5)
    refine (pa Aa ca _ b _ [5] _ 1 hca (hra.bdk hk2) (FB.out.alloc (.cells #[.int .u8 5] 5)) hg (FT.out.bdk hg hk2) (by decide) (new_row encB _ [5] _ _ rfl) (by first | omega | (simp only [List.length_append, List.length_cons, List.length_nil]; omega))).mono ?_
    rintro e1 w2 ⟨rfl, hb1, hk1⟩
    have hk3 := hk2.trans hk1
    have FB2 := Lib.hid hb1
    have FK2 := Lib.hid (FK.out.trans hk3)
    have FE2 := Lib.hid (BdK.block hk3 FE.out (by omega) re_ne_byte)
    have FR2 := Lib.hid (InRow.bdk FR.out hk3)
    have FT2 := Lib.hid (FT.out.bdk hg hk3)
    clear FB FK FE FR FT x0 x1 x2 x3 x4 x5 hb1 hk1 hk2 hk3 q0 q1 q2 q3 q4 q5 hra
    have FB := FB2
    have FK := FK2
    have FE := FE2
    have FR := FR2
    have FT := FT2
    clear FB2 FK2 FE2 FR2 FT2
    obtain ⟨x0, x1, x2, x3, x4, x5⟩ := cells6_of FE.out
    go_wp2_with fail
    refine (writeByte_any isBld_page 124 FB.out (by first | omega | (simp only [List.length_append, List.length_cons, List.length_nil]; omega))).mono ?_
    rintro e1 w1 ⟨rfl, hb1, hk1⟩
    have FB2 := Lib.hid hb1
    have FK2 := Lib.hid (FK.out.trans hk1)
    have FE2 := Lib.hid (BdK.block hk1 FE.out (by omega) re_ne_byte)
    have FR2 := Lib.hid (InRow.bdk FR.out hk1)
    have FT2 := Lib.hid (FT.out.bdk hg hk1)
    clear FB FK FE FR FT x0 x1 x2 x3 x4 x5 hb1 hk1
    have FB := FB2
    have FK := FK2
    have FE := FE2
    have FR := FR2
    have FT := FT2
    clear FB2 FK2 FE2 FR2 FT2
    obtain ⟨x0, x1, x2, x3, x4, x5⟩ := cells6_of FE.out
    obtain ⟨adb, Ab, cb, hAb, hcb, hrb, q0, q1, q2, q3, q4, q5⟩ := kid1 FR.out
    obtain rfl := Option.some.inj hAb
    have lbb := brk_length (([] : List UInt8).contains hB.k) (showT (.mk hB kb))
    go_wp2_with fail
    have hk2 := BdK.refl b (by assumption : World)
    refine (pb Ab cb _ b _ [] none 0 hcb hrb FB.out hg FT.out (by decide) (fun k x hx => by simp at hx) (by first | omega | (simp only [List.length_append, List.length_cons, List.length_nil]; omega))).mono ?_
    rintro e1 w2 ⟨rfl, hb1, hk1⟩
    have hk3 := hk2.trans hk1
    have FB2 := Lib.hid hb1
    have FK2 := Lib.hid (FK.out.trans hk3)
    have FE2 := Lib.hid (BdK.block hk3 FE.out (by omega) re_ne_byte)
    have FR2 := Lib.hid (InRow.bdk FR.out hk3)
    have FT2 := Lib.hid (FT.out.bdk hg hk3)
    clear FB FK FE FR FT x0 x1 x2 x3 x4 x5 hb1 hk1 hk2 hk3 q0 q1 q2 q3 q4 q5 hrb
    have FB := FB2
    have FK := FK2
    have FE := FE2
    have FR := FR2
    have FT := FT2
    clear FB2 FK2 FE2 FR2 FT2
    obtain ⟨x0, x1, x2, x3, x4, x5⟩ := cells6_of FE.out
    go_wp2_with fail
    go_end0
    exact ⟨rfl, by rw [HS.out, HIN.out]; simpa [brk, T.head, contains45, contains5] using FB.out, FK.out⟩
  | true =>
    have HIN := Lib.hid hin
    clear hin
    go_wp2_with fail
    refine (writeByte_any isBld_page 40 FB.out (by first | omega | (simp only [List.length_append, List.length_cons, List.length_nil]; omega))).mono ?_
    rintro e1 w1 ⟨rfl, hb1, hk1⟩
    have FB2 := Lib.hid hb1
    have FK2 := Lib.hid (FK.out.trans hk1)
    have FE2 := Lib.hid (BdK.block hk1 FE.out (by omega) re_ne_byte)
    have FR2 := Lib.hid (InRow.bdk FR.out hk1)
    have FT2 := Lib.hid (FT.out.bdk hg hk1)
    clear FB FK FE FR FT x0 x1 x2 x3 x4 x5 hb1 hk1
    have FB := FB2
    have FK := FK2
    have FE := FE2
    have FR := FR2
    have FT := FT2
    clear FB2 FK2 FE2 FR2 FT2
    obtain ⟨x0, x1, x2, x3, x4, x5⟩ := cells6_of FE.out
    obtain ⟨ada, Aa, ca, hAa, hca, hra, q0, q1, q2, q3, q4, q5⟩ := kid0 FR.out
    subst hAa
    have lba := brk_length ([5].contains ha.k) (showT (.mk ha ka))
    go_wp2_with fail
    have hk2 := (BdK.refl b _).alloc (Nat.le_of_lt FB.out.lt) (.cells #[.int .u8 5] 5)
    refine (pa Aa ca _ b _ [5] _ 1 hca (hra.bdk hk2) (FB.out.alloc (.cells #[.int .u8 5] 5)) hg (FT.out.bdk hg hk2) (by decide) (new_row encB _ [5] _ _ rfl) (by first | omega | (simp only [List.length_append, List.length_cons, List.length_nil]; omega))).mono ?_
    rintro e1 w2 ⟨rfl, hb1, hk1⟩
    have hk3 := hk2.trans hk1
    have FB2 := Lib.hid hb1
    have FK2 := Lib.hid (FK.out.trans hk3)
    have FE2 := Lib.hid (BdK.block hk3 FE.out (by omega) re_ne_byte)
    have FR2 := Lib.hid (InRow.bdk FR.out hk3)
    have FT2 := Lib.hid (FT.out.bdk hg hk3)
    clear FB FK FE FR FT x0 x1 x2 x3 x4 x5 hb1 hk1 hk2 hk3 q0 q1 q2 q3 q4 q5 hra
    have FB := FB2
    have FK := FK2
    have FE := FE2
    have FR := FR2
    have FT := FT2
    clear FB2 FK2 FE2 FR2 FT2
    obtain ⟨x0, x1, x2, x3, x4, x5⟩ := cells6_of FE.out
    go_wp2_with fail
    refine (writeByte_any isBld_page 124 FB.out (by first | omega | (simp only [List.length_append, List.length_cons, List.length_nil]; omega))).mono ?_
    rintro e1 w1 ⟨rfl, hb1, hk1⟩
    have FB2 := Lib.hid hb1
    have FK2 := Lib.hid (FK.out.trans hk1)
    have FE2 := Lib.hid (BdK.block hk1 FE.out (by omega) re_ne_byte)
    have FR2 := Lib.hid (InRow.bdk FR.out hk1)
    have FT2 := Lib.hid (FT.out.bdk hg hk1)
    clear FB FK FE FR FT x0 x1 x2 x3 x4 x5 hb1 hk1
    have FB := FB2
    have FK := FK2
    have FE := FE2
    have FR := FR2
    have FT := FT2
    clear FB2 FK2 FE2 FR2 FT2
    obtain ⟨x0, x1, x2, x3, x4, x5⟩ := cells6_of FE.out
    obtain ⟨adb, Ab, cb, hAb, hcb, hrb, q0, q1, q2, q3, q4, q5⟩ := kid1 FR.out
    obtain rfl := Option.some.inj hAb
    have lbb := brk_length (([] : List UInt8).contains hB.k) (showT (.mk hB kb))
    go_wp2_with fail
    have hk2 := BdK.refl b (by assumption : World)
    refine (pb Ab cb _ b _ [] none 0 hcb hrb FB.out hg FT.out (by decide) (fun k x hx => by simp at hx) (by first | omega | (simp only [List.length_append, List.length_cons, List.length_nil]; omega))).mono ?_
    rintro e1 w2 ⟨rfl, hb1, hk1⟩
    have hk3 := hk2.trans hk1
    have FB2 := Lib.hid hb1
    have FK2 := Lib.hid (FK.out.trans hk3)
    have FE2 := Lib.hid (BdK.block hk3 FE.out (by omega) re_ne_byte)
    have FR2 := Lib.hid (InRow.bdk FR.out hk3)
    have FT2 := Lib.hid (FT.out.bdk hg hk3)
    clear FB FK FE FR FT x0 x1 x2 x3 x4 x5 hb1 hk1 hk2 hk3 q0 q1 q2 q3 q4 q5 hrb
    have FB := FB2
    have FK := FK2
    have FE := FE2
    have FR := FR2
    have FT := FT2
    clear FB2 FK2 FE2 FR2 FT2
    obtain ⟨x0, x1, x2, x3, x4, x5⟩ := cells6_of FE.out
    go_wp2_with fail
    refine (writeByte_any isBld_page 41 FB.out (by first | omega | (simp only [List.length_append, List.length_cons, List.length_nil]; omega))).mono ?_
    rintro e1 w1 ⟨rfl, hb1, hk1⟩
    have FB2 := Lib.hid hb1
    have FK2 := Lib.hid (FK.out.trans hk1)
    have FE2 := Lib.hid (BdK.block hk1 FE.out (by omega) re_ne_byte)
    have FR2 := Lib.hid (InRow.bdk FR.out hk1)
    have FT2 := Lib.hid (FT.out.bdk hg hk1)
    clear FB FK FE FR FT x0 x1 x2 x3 x4 x5 hb1 hk1
    have FB := FB2
    have FK := FK2
    have FE := FE2
    have FR := FR2
    have FT := FT2
    clear FB2 FK2 FE2 FR2 FT2
    obtain ⟨x0, x1, x2, x3, x4, x5⟩ := cells6_of FE.out
    go_wp2_with fail
    go_end0
    exact ⟨rfl, by rw [HS.out, HIN.out]; simpa [brk, T.head, contains45, contains5] using FB.out, FK.out⟩
set_option maxRecDepth 100000 in
set_option maxHeartbeats 40000000 in
theorem put_6 {h : RH} (e : h.k = 6) {ha : RH} {ka : List Re} (pa : PutOk ha ka) (la : (showT (.mk ha ka)).length ≤ 2000 * (1 + T.sizes ka)) : PutOk h [.mk ha ka] := by
  intro A c w b bs kl KA kc hc hr hb hg ht hm hk hlen
  have HS := Lib.hid (show_6 (a := .mk ha ka) e)
  have hlt := hb.lt
  have hkn : (h.k.toNat : Int) = 6 := by rw [e]; rfl
  simp only [T.sizes, T.size] at hlen
  have HC := Lib.hid (contains8_any kl KA kc h.k (w.alloc (.cells #[.int .u8 6, .int .u64 (h.s.a.toNat : Int), .int .u64 (h.s.b.toNat : Int), .int .u64 (h.s.c.toNat : Int), .int .u64 (h.s.d.toNat : Int), .slice A 1 c] 47)) hm (hk.below (below_new (Below.refl _ _) _)))
  rw [hkn] at HC
  have hk0 : BdK b w (w.alloc (.cells #[.int .u8 6, .int .u64 (h.s.a.toNat : Int), .int .u64 (h.s.b.toNat : Int), .int .u64 (h.s.c.toNat : Int), .int .u64 (h.s.d.toNat : Int), .slice A 1 c] 47)) := (BdK.refl b w).alloc (by omega) _
  have FB := Lib.hid (hb.alloc (.cells #[.int .u8 6, .int .u64 (h.s.a.toNat : Int), .int .u64 (h.s.b.toNat : Int), .int .u64 (h.s.c.toNat : Int), .int .u64 (h.s.d.toNat : Int), .slice A 1 c] 47))
  have FK := Lib.hid hk0
  have FE := Lib.hid (new_at1 (w := w) (.cells #[.int .u8 6, .int .u64 (h.s.a.toNat : Int), .int .u64 (h.s.b.toNat : Int), .int .u64 (h.s.c.toNat : Int), .int .u64 (h.s.d.toNat : Int), .slice A 1 c] 47))
  have FR := Lib.hid (hr.bdk hk0)
  have FT := Lib.hid (ht.bdk hg hk0)
  have hBn : b < w.heap.size := hlt
  have hwt := ht
  clear hb hk hr hk0 ht hwt
  go_enter Tryd.func73, Tryd.ntmps73
  go_wp2_with fail
  generalize hw0 : w.alloc (.cells #[.int .u8 6, .int .u64 (h.s.a.toNat : Int), .int .u64 (h.s.b.toNat : Int), .int .u64 (h.s.c.toNat : Int), .int .u64 (h.s.d.toNat : Int), .slice A 1 c] 47) = w0 at *
  generalize w.heap.size = B at *
  clear hw0
  obtain ⟨x0, x1, x2, x3, x4, x5⟩ := cells6_of FE.out
  refine HC.out.mono ?_
  rintro e0 w1 ⟨rfl, rfl⟩
  clear HC
  cases hin : kl.contains h.k with
  | false =>
    have HIN := Lib.hid hin
    clear hin
    obtain ⟨ada, Aa, ca, hAa, hca, hra, q0, q1, q2, q3, q4, q5⟩ := kid0 FR.out
    subst hAa
    have lba := brk_length ([4, 5].contains ha.k) (showT (.mk ha ka))
    go_wp2_with fail
    have hk2 := (BdK.refl b _).alloc (Nat.le_of_lt FB.out.lt) (.cells #[.int .u8 4, .int .u8 5] 5)
    refine (pa Aa ca _ b _ [4, 5] _ 2 hca (hra.bdk hk2) (FB.out.alloc (.cells #[.int .u8 4, .int .u8 5] 5)) hg (FT.out.bdk hg hk2) (by decide) (new_row encB _ [4, 5] _ _ rfl) (by first | omega | (simp only [List.length_append, List.length_cons, List.length_nil]; omega))).mono ?_
    rintro e1 w2 ⟨rfl, hb1, hk1⟩
    have hk3 := hk2.trans hk1
    have FB2 := Lib.hid hb1
    have FK2 := Lib.hid (FK.out.trans hk3)
    have FE2 := Lib.hid (BdK.block hk3 FE.out (by omega) re_ne_byte)
    have FR2 := Lib.hid (InRow.bdk FR.out hk3)
    have FT2 := Lib.hid (FT.out.bdk hg hk3)
    clear FB FK FE FR FT x0 x1 x2 x3 x4 x5 hb1 hk1 hk2 hk3 q0 q1 q2 q3 q4 q5 hra
    have FB := FB2
    have FK := FK2
    have FE := FE2
    have FR := FR2
    have FT := FT2
    clear FB2 FK2 FE2 FR2 FT2
    obtain ⟨x0, x1, x2, x3, x4, x5⟩ := cells6_of FE.out
    go_wp2_with fail
    refine (writeByte_any isBld_page 42 FB.out (by first | omega | (simp only [List.length_append, List.length_cons, List.length_nil]; omega))).mono ?_
    rintro e1 w1 ⟨rfl, hb1, hk1⟩
    have FB2 := Lib.hid hb1
    have FK2 := Lib.hid (FK.out.trans hk1)
    have FE2 := Lib.hid (BdK.block hk1 FE.out (by omega) re_ne_byte)
    have FR2 := Lib.hid (InRow.bdk FR.out hk1)
    have FT2 := Lib.hid (FT.out.bdk hg hk1)
    clear FB FK FE FR FT x0 x1 x2 x3 x4 x5 hb1 hk1
    have FB := FB2
    have FK := FK2
    have FE := FE2
    have FR := FR2
    have FT := FT2
    clear FB2 FK2 FE2 FR2 FT2
    obtain ⟨x0, x1, x2, x3, x4, x5⟩ := cells6_of FE.out
    go_wp2_with fail
    go_end0
    exact ⟨rfl, by rw [HS.out, HIN.out]; simpa [brk, T.head, contains45, contains5] using FB.out, FK.out⟩
  | true =>
    have HIN := Lib.hid hin
    clear hin
    go_wp2_with fail
    refine (writeByte_any isBld_page 40 FB.out (by first | omega | (simp only [List.length_append, List.length_cons, List.length_nil]; omega))).mono ?_
    rintro e1 w1 ⟨rfl, hb1, hk1⟩
    have FB2 := Lib.hid hb1
    have FK2 := Lib.hid (FK.out.trans hk1)
    have FE2 := Lib.hid (BdK.block hk1 FE.out (by omega) re_ne_byte)
    have FR2 := Lib.hid (InRow.bdk FR.out hk1)
    have FT2 := Lib.hid (FT.out.bdk hg hk1)
    clear FB FK FE FR FT x0 x1 x2 x3 x4 x5 hb1 hk1
    have FB := FB2
    have FK := FK2
    have FE := FE2
    have FR := FR2
    have FT := FT2
    clear FB2 FK2 FE2 FR2 FT2
    obtain ⟨x0, x1, x2, x3, x4, x5⟩ := cells6_of FE.out
    obtain ⟨ada, Aa, ca, hAa, hca, hra, q0, q1, q2, q3, q4, q5⟩ := kid0 FR.out
    subst hAa
    have lba := brk_length ([4, 5].contains ha.k) (showT (.mk ha ka))
    go_wp2_with fail
    have hk2 := (BdK.refl b _).alloc (Nat.le_of_lt FB.out.lt) (.cells #[.int .u8 4, .int .u8 5] 5)
    refine (pa Aa ca _ b _ [4, 5] _ 2 hca (hra.bdk hk2) (FB.out.alloc (.cells #[.int .u8 4, .int .u8 5] 5)) hg (FT.out.bdk hg hk2) (by decide) (new_row encB _ [4, 5] _ _ rfl) (by first | omega | (simp only [List.length_append, List.length_cons, List.length_nil]; omega))).mono ?_
    rintro e1 w2 ⟨rfl, hb1, hk1⟩
    have hk3 := hk2.trans hk1
    have FB2 := Lib.hid hb1
    have FK2 := Lib.hid (FK.out.trans hk3)
    have FE2 := Lib.hid (BdK.block hk3 FE.out (by omega) re_ne_byte)
    have FR2 := Lib.hid (InRow.bdk FR.out hk3)
    have FT2 := Lib.hid (FT.out.bdk hg hk3)
    clear FB FK FE FR FT x0 x1 x2 x3 x4 x5 hb1 hk1 hk2 hk3 q0 q1 q2 q3 q4 q5 hra
    have FB := FB2
    have FK := FK2
    have FE := FE2
    have FR := FR2
    have FT := FT2
    clear FB2 FK2 FE2 FR2 FT2
    obtain ⟨x0, x1, x2, x3, x4, x5⟩ := cells6_of FE.out
    go_wp2_with fail
    refine (writeByte_any isBld_page 42 FB.out (by first | omega | (simp only [List.length_append, List.length_cons, List.length_nil]; omega))).mono ?_
    rintro e1 w1 ⟨rfl, hb1, hk1⟩
    have FB2 := Lib.hid hb1
    have FK2 := Lib.hid (FK.out.trans hk1)
    have FE2 := Lib.hid (BdK.block hk1 FE.out (by omega) re_ne_byte)
    have FR2 := Lib.hid (InRow.bdk FR.out hk1)
    have FT2 := Lib.hid (FT.out.bdk hg hk1)
    clear FB FK FE FR FT x0 x1 x2 x3 x4 x5 hb1 hk1
    have FB := FB2
    have FK := FK2
    have FE := FE2
    have FR := FR2
    have FT := FT2
    clear FB2 FK2 FE2 FR2 FT2
    obtain ⟨x0, x1, x2, x3, x4, x5⟩ := cells6_of FE.out
    go_wp2_with fail
    refine (writeByte_any isBld_page 41 FB.out (by first | omega | (simp only [List.length_append, List.length_cons, List.length_nil]; omega))).mono ?_
    rintro e1 w1 ⟨rfl, hb1, hk1⟩
    have FB2 := Lib.hid hb1
    have FK2 := Lib.hid (FK.out.trans hk1)
    have FE2 := Lib.hid (BdK.block hk1 FE.out (by omega) re_ne_byte)
    have FR2 := Lib.hid (InRow.bdk FR.out hk1)
    have FT2 := Lib.hid (FT.out.bdk hg hk1)
    clear FB FK FE FR FT x0 x1 x2 x3 x4 x5 hb1 hk1
    have FB := FB2
    have FK := FK2
    have FE := FE2
    have FR := FR2
    have FT := FT2
    clear FB2 FK2 FE2 FR2 FT2
    obtain ⟨x0, x1, x2, x3, x4, x5⟩ := cells6_of FE.out
    go_wp2_with fail
    go_end0
    exact ⟨rfl, by rw [HS.out, HIN.out]; simpa [brk, T.head, contains45, contains5] using FB.out, FK.out⟩
theorem put_all (n : Nat) : ∀ t : Re, t.size ≤ n → okT t = true → PutT t := by
  induction n with
  | zero => intro t hn; have := t.size_pos; omega
  | succ n ih =>
    intro t hn ho
    obtain ⟨h, ks⟩ := t
    rcases ok_shape ho with ⟨e, rfl⟩ | ⟨e, rfl⟩ | ⟨e, rfl, _⟩ | ⟨a, b, e, rfl, h1, h2⟩ | ⟨a, b, e, rfl, h1, h2⟩ | ⟨a, e, rfl, h1⟩
    · exact put_1 e
    · exact put_2 e
    · exact put_3 e
    all_goals simp only [T.size, T.sizes] at hn
    · obtain ⟨ha, ka⟩ := a
      obtain ⟨hB, kb⟩ := b
      exact put_4 e (ih _ (by omega) h1) (show_length _ _ (Nat.le_refl _) h1) (ih _ (by omega) h2) (show_length _ _ (Nat.le_refl _) h2)
    · obtain ⟨ha, ka⟩ := a
      obtain ⟨hB, kb⟩ := b
      exact put_5 e (ih _ (by omega) h1) (show_length _ _ (Nat.le_refl _) h1) (ih _ (by omega) h2) (show_length _ _ (Nat.le_refl _) h2)
    · obtain ⟨ha, ka⟩ := a
      exact put_6 e (ih _ (by omega) h1) (show_length _ _ (Nat.le_refl _) h1)
theorem put_ok {h : RH} {ks : List Re} (ho : okT (.mk h ks) = true) : PutOk h ks := put_all _ (.mk h ks) (Nat.le_refl _) ho
end Go.Proofs.YthagcmpehpgmpaaDoor
