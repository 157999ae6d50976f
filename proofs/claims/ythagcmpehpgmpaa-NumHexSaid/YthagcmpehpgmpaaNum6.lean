/- The bytes of digits. -/
import Derived.Test.YthagcmpehpgmpaaNum5
import Derived.Deep.Draws
namespace Go.Proofs.Ythagcmpehpgmpaa
open Go.RowKit
set_option linter.unusedVariables false
set_option linter.unusedSimpArgs false

/-- the bytes of digits, two by two -/
def unhex : List UInt8 → Option (List UInt8)
  | [] => some []
  | [_] => none
  | a :: b :: r => if hexv a < 0 ∨ hexv b < 0 then none else (unhex r).map (UInt8.ofNat (16 * (hexv a).toNat + (hexv b).toNat) :: ·)
theorem unhex_more : ∀ (k : Nat) (p : List UInt8) (l : List UInt8) (q : List UInt8), p.length = 2 * k → unhex p = some l → unhex (p ++ q) = (unhex q).map (l ++ ·)
  | 0, p, l, q, hp, h => by
    obtain rfl : p = [] := List.eq_nil_of_length_eq_zero (by omega)
    cases h
    simp
  | k + 1, [], l, q, hp, h => by simp at hp
  | k + 1, [a], l, q, hp, h => by simp at hp; omega
  | k + 1, a :: b :: r, l, q, hp, h => by
    simp only [unhex] at h
    split at h
    · cases h
    · rename_i hn
      obtain ⟨m, hm, rfl⟩ := Option.map_eq_some_iff.1 h
      have := unhex_more k r m q (by simp at hp; omega) hm
      simp only [List.cons_append, unhex, hn, if_false, this]
      cases unhex q <;> simp
/-- a pair of digits further -/
theorem unhex_step {s : List UInt8} {k : Nat} {l : List UInt8} {a b : UInt8} (h : unhex (s.take (2 * k)) = some l) (ha : s[2 * k]? = some a) (hb : s[2 * k + 1]? = some b) (h1 : 0 ≤ hexv a) (h2 : 0 ≤ hexv b) :
    unhex (s.take (2 * (k + 1))) = some (l ++ [UInt8.ofNat (16 * (hexv a).toNat + (hexv b).toNat)]) := by
  have hlen : 2 * k + 1 < s.length := (List.getElem?_eq_some_iff.1 hb).1
  have e : s.take (2 * (k + 1)) = s.take (2 * k) ++ [a, b] := by
    rw [show 2 * (k + 1) = 2 * k + 1 + 1 by omega, List.take_add_one, List.take_add_one, ha, hb]
    simp
  rw [e, unhex_more k _ l [a, b] (by rw [List.length_take]; omega) h]
  simp only [unhex]
  rw [if_neg (by omega)]
  rfl
theorem unhex_bad {s : List UInt8} {k : Nat} {l : List UInt8} {a b : UInt8} (h : unhex (s.take (2 * k)) = some l) (ha : s[2 * k]? = some a) (hb : s[2 * k + 1]? = some b) (h1 : hexv a < 0 ∨ hexv b < 0) : unhex s = none := by
  have hlen : 2 * k + 1 < s.length := (List.getElem?_eq_some_iff.1 hb).1
  have e : s = s.take (2 * k) ++ (a :: b :: s.drop (2 * k + 2)) := by
    conv => lhs; rw [← List.take_append_drop (2 * k) s]
    congr 1
    rw [List.drop_eq_getElem_cons (by omega), List.drop_eq_getElem_cons (by omega)]
    have e1 := (List.getElem?_eq_some_iff.1 ha).2
    have e2 := (List.getElem?_eq_some_iff.1 hb).2
    rw [e1, e2]
  rw [e, unhex_more k _ l _ (by rw [List.length_take]; omega) h]
  simp only [unhex]
  rw [if_pos h1]
  rfl
theorem unhex_odd : ∀ (n : Nat) (s : List UInt8), s.length = 2 * n + 1 → unhex s = none
  | 0, [a], _ => rfl
  | 0, [], h => by simp at h
  | 0, _ :: _ :: _, h => by simp at h
  | n + 1, [], h => by simp at h
  | n + 1, [a], h => by simp at h
  | n + 1, a :: b :: r, h => by
    simp only [unhex]
    split
    · rfl
    · rw [unhex_odd n r (by simp at h; omega)]
      rfl
theorem unhex_length : ∀ (s : List UInt8) (l : List UInt8), unhex s = some l → 2 * l.length = s.length
  | [], l, h => by cases h; rfl
  | [_], l, h => by cases h
  | a :: b :: r, l, h => by
    simp only [unhex] at h
    split at h
    · cases h
    · obtain ⟨m, hm, rfl⟩ := Option.map_eq_some_iff.1 h
      have := unhex_length r m hm
      simp; omega
theorem hexv_hexd : ∀ n : Fin 16, hexv (hexd n.val) = n.val := by decide +kernel
theorem unhex_hexOf (l : List UInt8) : unhex (hexOf l) = some l := by
  induction l with
  | nil => rfl
  | cons b r ih =>
    have h1 := hexv_hexd ⟨b.toNat / 16, by have := b.toNat_lt; omega⟩
    have h2 := hexv_hexd ⟨b.toNat % 16, by omega⟩
    simp only at h1 h2
    show unhex (hexd (b.toNat / 16) :: hexd (b.toNat % 16) :: hexOf r) = _
    simp only [unhex, h1, h2, ih]
    rw [if_neg (by omega)]
    simp only [Int.toNat_natCast, Option.map_some]
    congr 2
    rw [show 16 * (b.toNat / 16) + b.toNat % 16 = b.toNat by omega]
    simp

theorem data_at (s : ByteArray) (k : Nat) (h : k < s.size) : s.data.toList[k]? = some (s[k]'h) := by
  have h' : k < s.data.toList.length := by rw [Array.length_toList]; exact h
  rw [List.getElem?_eq_getElem h']
  rfl
theorem data_len (s : ByteArray) : s.data.toList.length = s.size := by rw [Array.length_toList]; rfl

/-- what ReadHex answers -/
def ReadHexPost (r : Option (List UInt8)) (w : World) (e : Ending) (w' : World) : Prop :=
  (match r with
    | some l => ∃ A c, e = .returned (.tuple #[.slice A l.length c, .int .i64 0]) ∧ Row1 encB w' A l
    | none => e = .returned (.tuple #[.slice none 0 0, .int .i64 2])) ∧ Below w.heap.size w w'
def RefReadHexPost (r : Option (List UInt8)) (w : World) (e : Ending) (w' : World) : Prop :=
  (match r with
    | some l => ∃ A c, e = .returned (.tuple #[.slice A l.length c, .bool true]) ∧ Row1 encB w' A l
    | none => ∃ A c, e = .returned (.tuple #[.slice A 0 c, .bool false])) ∧ Below w.heap.size w w'

theorem index_digit (b : UInt8) (w : World) :
    Calls Try.prog 38 #[.string digitsText, .int .u8 b.toNat] w fun e w' => e = .returned (.int .i64 (hexv b)) ∧ w' = w := by
  have := Try.strings_IndexByte digitsText (b.toNat : Int) w
  simpa [hexv] using this
theorem or_hex : ∀ (x y : Fin 16), Go.bits .or .i64 ((x.val : Int) * 16) (y.val : Int) = (16 * x.val + y.val : Nat) := by
  intro x y
  have := bits_join .i64 63 (by decide) (fun n h0 h1 => IntWalk.i64_in n (by omega)) 4 ((x.val : Int) * 16) (y.val : Int) (by omega) (by omega) (by have := x.isLt; omega) (by omega) (by have := y.isLt; omega) (by have := y.isLt; omega)
  rw [this]
  omega

theorem one_src (w : World) (v : Value) (t : TypeId) : Src (w.alloc (.cells #[v] t)) (some ⟨w.heap.size, 0, none⟩) 1 1 [v] := new_src w 1 1 #[v] t rfl

set_option maxHeartbeats 2000000 in
theorem ReadHex_any (s : ByteArray) (w : World) (hs : s.size ≤ 1000000000) :
    Calls Try.prog 13 #[.string s] w (ReadHexPost (unhex s.data.toList) w) := by
  go_enter Try.func13, Try.ntmps13
  go_wp2_with fail
  go_loopw [2, 3, 4, 5, 6, 7] (fun r e o i _ _ wr => ∃ (k : Nat) (l : List UInt8), 2 * k ≤ s.size ∧ i = .int .i64 (2 * k : Nat) ∧ r = .slice none 0 0 ∧ e = .int .i64 0 ∧ unhex (s.data.toList.take (2 * k)) = some l ∧ l.length = k ∧
      wr.ownsRow w.heap.size 5 1 o k (l.map encB) ∧ Below w.heap.size w wr) (fun _ _ _ i _ _ _ => s.size - (intOf i).toNat)
  case atStart => exact ⟨0, [], Nat.zero_le _, rfl, rfl, rfl, rfl, rfl, World.ownsRow_nil _ _ _ _, Below.refl _ _⟩
  case round =>
    obtain ⟨k, l, hk, rfl, rfl, rfl, hu, hll, ho, hb⟩ := hrel
    obtain ⟨A2, c2, rfl, _, _⟩ := own_slice ho
    have HU := Lib.hid hu
    have HL := Lib.hid hll
    clear hu hll
    by_cases hlt : 2 * k + 1 < s.size
    · have h0 : 2 * k < s.size := by omega
      have HA := Lib.hid (data_at s (2 * k) h0)
      have HB := Lib.hid (data_at s (2 * k + 1) hlt)
      have ha : ∃ a : UInt8, a = s[2 * k]'h0 := ⟨_, rfl⟩
      have hb' : ∃ b : UInt8, b = s[2 * k + 1]'hlt := ⟨_, rfl⟩
      obtain ⟨a, ha⟩ := ha
      obtain ⟨b, hb'⟩ := hb'
      rw [← ha] at HA
      rw [← hb'] at HB
      have ea : ((s[2 * k]'h0).toNat : Int) = a.toNat := by rw [ha]
      have eb : ((s[2 * k + 1]'hlt).toNat : Int) = b.toNat := by rw [hb']
      clear ha hb'
      have r1 := hexv_range a
      have r2 := hexv_range b
      go_wp2_with fail
      refine (index_digit a _).mono ?_
      rintro e w1 ⟨rfl, rfl⟩
      go_wp2_with fail
      refine (index_digit b _).mono ?_
      rintro e w1 ⟨rfl, rfl⟩
      by_cases hbad : hexv a < 0 ∨ hexv b < 0
      · have HN := Lib.hid (unhex_bad HU.out HA.out HB.out hbad)
        rcases hbad with hbad | hbad
        · go_wp2_with fail
          go_ret2
          rw [HN.out]
          exact ⟨rfl, hb⟩
        · by_cases h3 : hexv a < 0
          · go_wp2_with fail
            go_ret2
            rw [HN.out]
            exact ⟨rfl, hb⟩
          · have c1 : decide (hexv b < 0) = true := decide_eq_true hbad
            go_wp2_with fail
            go_ret2
            rw [HN.out]
            exact ⟨rfl, hb⟩
      · have h1 : 0 ≤ hexv a := by omega
        have h2 : 0 ≤ hexv b := by omega
        clear hbad
        have HS := Lib.hid (unhex_step HU.out HA.out HB.out h1 h2)
        have hor := or_hex ⟨(hexv a).toNat, by omega⟩ ⟨(hexv b).toNat, by omega⟩
        simp only at hor
        rw [Int.toNat_of_nonneg h1, Int.toNat_of_nonneg h2] at hor
        have c1 : decide (hexv b < 0) = false := decide_eq_false (by omega)
        have hv : (16 * (hexv a).toNat + (hexv b).toNat) < 256 := by omega
        generalize 16 * (hexv a).toNat + (hexv b).toNat = v at *
        have he8 : [Value.int .u8 (v : Int)] = [UInt8.ofNat v].map encB := by simp [encB, Nat.mod_eq_of_lt hv]
        replace he8 := Lib.hid he8
        go_wp2_with (at_builtin; refine wpList_app _ rfl (.tmp 30) (.tmp 36) 27 rfl w.heap.size 5 (.int .u8 0) 1 1 Try.underlying27 Try.info_u8 rfl (by decide) (.slice A2 k c2) k _ rfl (ho.alloc _) (some ⟨_, 0, none⟩) 1 1 _ rfl (one_src _ _ _) ?h1 ?h2 ?h3 ?h4 ?_)
        case h1 => intro u hu; simp at hu; subst hu; rfl
        case h2 => unfold maxLen; omega
        case h3 => omega
        case h4 => have := hb.size; simp; omega
        intro v3 w3 ho3 hg3 _
        have hb3 : Below w.heap.size w w3 := (below_new hb _).grown hg3 (by have := hb.size; simp; omega) (fun j hj => own_base ho j hj)
        have ho4 : w3.ownsRow w.heap.size 5 1 v3 (k + 1) ((l ++ [UInt8.ofNat v]).map encB) := by rw [List.map_append, ← he8.out]; exact ho3
        clear hg3 ho hb ho3
        go_wp2_with fail
        go_roundw
        case rel => exact ⟨k + 1, _, by omega, by go_num, rfl, rfl, HS.out, by simp [HL.out], ho4, hb3⟩
        case measure => simp [intOf]; omega
    · by_cases hodd : s.size % 2 = 1
      · have HN := Lib.hid (unhex_odd (s.size / 2) s.data.toList (by rw [data_len]; omega))
        have c1 : ((s.size : Int) % 2 == 1) = true := by rw [beq_iff_eq]; omega
        go_wp2_with fail
        go_ret2
        rw [HN.out]
        exact ⟨rfl, hb⟩
      · have HE : Hid (unhex s.data.toList = some l) := by
          have := HU.out
          rwa [List.take_of_length_le (by rw [data_len]; omega)] at this
        have c1 : ((s.size : Int) % 2 == 1) = false := by rw [beq_eq_false_iff_ne]; omega
        obtain ⟨A3, c3, he3, _, hs3⟩ := own_slice ho
        cases he3
        go_wp2_with fail
        go_ret2
        rw [HE.out]
        refine ⟨⟨A2, c2, ?_, ?_⟩, hb⟩
        · rw [HL.out]; rfl
        · rw [← HL.out] at hs3; exact hs3.row1
end Go.Proofs.Ythagcmpehpgmpaa
