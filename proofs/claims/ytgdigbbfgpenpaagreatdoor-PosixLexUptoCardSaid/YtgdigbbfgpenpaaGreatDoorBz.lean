/- The bits of the last step's ends are those of the right value (plain). The step that makes simpler keeps the language and the right way's bits (plain). The value of a text: what the walks of Lex share. The value of a text, with making simpler: simp.Lex. The value of a text: posix.Lex. -/
import Derived.Test.YtgdigbbfgpenpaaGreatDoorBx
import Derived.Test.YtgdigbbfgpenpaaGreatDoorBm
import Derived.Test.YtgdigbbfgpenpaaGreatDoorBo
import Derived.Test.YtgdigbbfgpenpaaGreatDoorBq
import Derived.Test.YtgdigbbfgpenpaaGreatDoorBy
namespace Go.Proofs.YtgdigbbfgpenpaaGreatDoor
open Go.RowKit
set_option linter.unusedVariables false
set_option linter.unusedSimpArgs false

/-- a value and an error's number: the right value, or why there is none -/
def LexRel (t : Re) (s : List UInt8) (v : Va) (e : Int) : Prop :=
  (e = 0 ∧ mayB t = true ∧ RV t s v) ∨ (v = .mk vaH0 [] ∧ ((mayB t = false ∧ e = 1) ∨ (mayB t = true ∧ e = 4) ∨ (mayB t = true ∧ ¬ LT t s ∧ e = 5)))
/-- a step that keeps the language and the right way's bits -/
def Keeps (sT : UInt8 → Co → Co) : Prop := ∀ (d : UInt8) (t : Co), okC t = true → stepE d t = 0 → okC (sT d t) = true ∧ (∀ s, LC (sT d t) s ↔ LC t (d :: s)) ∧ ∀ s u, PB (sT d t) s u → PB t (d :: s) u
theorem step_ok0 {d : UInt8} {t : Co} (he : stepE d t = 0) : stepT d t = stepC d t ∧ okC (stepC d t) = true := by
  unfold stepE at he
  unfold stepT
  by_cases h1 : mayC t = true
  · rw [if_pos h1] at he ⊢
    by_cases h2 : mayC (stepC d t) = true
    · rw [if_pos h2]; exact ⟨rfl, (may_okC h2).1⟩
    · rw [if_neg h2] at he; cases he
  · rw [if_neg h1] at he; cases he
theorem keeps_step : Keeps stepT := by
  intro d t ho he
  obtain ⟨e, h⟩ := step_ok0 he
  rw [e]
  exact ⟨h, step_L d t ho, step_PB d t ho⟩
def lastC (sT : UInt8 → Co → Co) : Co → List UInt8 → Co
  | c, [] => c
  | c, b :: s => lastC sT (sT b c) s
theorem walkL_last (sT : UInt8 → Co → Co) : ∀ (s : List UInt8) (c z : Co), (walkL sT c s).getLastD z = lastC sT c s
  | [], c, z => rfl
  | b :: s, c, z => by
    rw [walkL, List.getLastD_cons, walkL_last sT s (sT b c) c]
    rfl
theorem last_law {sT : UInt8 → Co → Co} (hk : Keeps sT) : ∀ (s : List UInt8) (c : Co), okC c = true → walkE stepE sT c s = 0 → okC (lastC sT c s) = true ∧ (LC (lastC sT c s) [] ↔ LC c s) ∧ ∀ u, PB (lastC sT c s) [] u → PB c s u
  | [], c, ho, _ => ⟨ho, Iff.rfl, fun _ h => h⟩
  | b :: s, c, ho, he => by
    simp only [walkE] at he
    by_cases h0 : stepE b c = 0
    · rw [if_pos h0] at he
      obtain ⟨h1, h2, h3⟩ := hk b c ho h0
      obtain ⟨a1, a2, a3⟩ := last_law hk s (sT b c) h1 he
      exact ⟨a1, a2.trans (h2 s), fun u h => h3 s u (a3 u h)⟩
    · rw [if_neg h0] at he
      exact absurd he h0
theorem lex_law {sT : UInt8 → Co → Co} (hk : Keeps sT) {t : Re} {s : List UInt8} (hm : mayB t = true) (he : walkE stepE sT (ofC t) s = 0) :
    (endsC (lastC sT (ofC t) s) = none → ¬ LT t s) ∧ ∀ u, endsC (lastC sT (ofC t) s) = some u → ∃ v, RV t s v ∧ u = codeV v := by
  have ho := may_okT hm
  obtain ⟨a1, a2, a3⟩ := last_law hk s (ofC t) (of_ok t ho) he
  have h1 := ends_L _ a1
  refine ⟨fun e hl => ?_, fun u e => ?_⟩
  · rw [e] at h1
    exact absurd (h1.2 (a2.2 ((LC_of t ho s).2 hl))) (by decide)
  · rw [e] at h1
    have hl : LT t s := (LC_of t ho s).1 (a2.1 (h1.1 rfl))
    obtain ⟨v, hv⟩ := RV_ex t ho s hl
    exact ⟨v, hv, PB_one _ (of_ok t ho) s _ _ (a3 u (ends_PB _ a1 u e)) (RV_PB hv ho)⟩
theorem walkE_vals {sT : UInt8 → Co → Co} (hs : ∀ {n t b}, Good (n + 1) t → stepE b t = 0 → Good n (sT b t)) : ∀ (s : List UInt8) (c : Co), Good s.length c → walkE stepE sT c s = 0 ∨ walkE stepE sT c s = 4
  | [], c, _ => .inl rfl
  | b :: s, c, hg => by
    simp only [walkE]
    by_cases h0 : stepE b c = 0
    · rw [if_pos h0]
      exact walkE_vals hs s (sT b c) (hs hg h0)
    · rw [if_neg h0]
      right
      unfold stepE at h0 ⊢
      rw [if_pos (good_may hg)] at h0 ⊢
      by_cases h2 : mayC (stepC b c) = true
      · rw [if_pos h2] at h0; exact absurd rfl h0
      · rw [if_neg h2]
/-- what the bits of the last step tell -/
theorem lex_all {sT : UInt8 → Co → Co} (hk : Keeps sT) (hs : ∀ {n t b}, Good (n + 1) t → stepE b t = 0 → Good n (sT b t)) {t : Re} {s : List UInt8} (hl : s.length ≤ 100) :
    ((walkR stepE sT t s).2 = 0 ∧ mayB t = true ∧ ((endsC ((walkR stepE sT t s).1.getLastD zeroC) = none ∧ ¬ LT t s) ∨ ∃ v, RV t s v ∧ endsC ((walkR stepE sT t s).1.getLastD zeroC) = some (codeV v)))
    ∨ ((walkR stepE sT t s).2 = 1 ∧ mayB t = false) ∨ ((walkR stepE sT t s).2 = 4 ∧ mayB t = true) := by
  by_cases hm : mayB t = true
  · rcases walkE_vals hs s (ofC t) (good_of hm hl) with h0 | h4
    · have hw : walkR stepE sT t s = (walkL sT (ofC t) s, 0) := by unfold walkR; rw [if_pos hm, if_pos h0]
      left
      rw [hw]
      refine ⟨rfl, hm, ?_⟩
      rw [walkL_last]
      obtain ⟨a, b⟩ := lex_law hk hm h0
      rcases e : endsC (lastC sT (ofC t) s) with _ | u
      · exact .inl ⟨rfl, a e⟩
      · obtain ⟨v, h1, h2⟩ := b u e
        exact .inr ⟨v, h1, by rw [h2]⟩
    · right; right
      have hw : walkR stepE sT t s = ([], 4) := by unfold walkR; rw [if_pos hm, if_neg (by rw [h4]; decide), h4]
      rw [hw]
      exact ⟨rfl, hm⟩
  · right; left
    have hw : walkR stepE sT t s = ([], 1) := by unfold walkR; rw [if_neg hm]
    rw [hw]
    exact ⟨rfl, by simpa using hm⟩
theorem lexRel_one {t : Re} {s : List UInt8} {v w : Va} {e f : Int} (h : LexRel t s v e) (k : LexRel t s w f) (h4 : e ≠ 4) (k4 : f ≠ 4) : e = f ∧ v = w := by
  rcases h with ⟨h0, hm, hv⟩ | ⟨hv, ⟨hm, he⟩ | ⟨_, he⟩ | ⟨hm, hl, he⟩⟩
  · rcases k with ⟨k0, km, kv⟩ | ⟨kv, ⟨km, ke⟩ | ⟨_, ke⟩ | ⟨km, kl, ke⟩⟩
    · exact ⟨h0.trans k0.symm, RV_one (may_okT hm) hv kv⟩
    · rw [hm] at km; cases km
    · exact absurd ke k4
    · exact absurd (RV_LT hv) kl
  · rcases k with ⟨k0, km, kv⟩ | ⟨kv, ⟨km, ke⟩ | ⟨_, ke⟩ | ⟨km, kl, ke⟩⟩
    · rw [hm] at km; cases km
    · exact ⟨he.trans ke.symm, hv.trans kv.symm⟩
    · exact absurd ke k4
    · rw [hm] at km; cases km
  · exact absurd he h4
  · rcases k with ⟨k0, km, kv⟩ | ⟨kv, ⟨km, ke⟩ | ⟨_, ke⟩ | ⟨km, kl, ke⟩⟩
    · exact absurd (RV_LT kv) hl
    · rw [hm] at km; cases km
    · exact absurd ke k4
    · exact ⟨he.trans ke.symm, hv.trans kv.symm⟩
end Go.Proofs.YtgdigbbfgpenpaaGreatDoor
namespace Go.Proofs.YtgdigbbfgpenpaaGreatDoor
open Go.RowKit
set_option linter.unusedVariables false
set_option linter.unusedSimpArgs false

theorem keeps_sstep : Keeps sstepT := by
  intro d t ho he
  obtain ⟨e, h⟩ := step_ok0 he
  unfold sstepT
  rw [if_pos he, e]
  exact ⟨simp_ok _ h, fun s => (simp_L _ h s).trans (step_L d t ho s), fun s u hp => step_PB d t ho s u ((simp_PB _ h s u).1 hp)⟩
end Go.Proofs.YtgdigbbfgpenpaaGreatDoor
namespace Go.Proofs.YtgdigbbfgpenpaaGreatDoor
open Go.RowKit
set_option linter.unusedVariables false
set_option linter.unusedSimpArgs false

def LexPost (t : Re) (s : List UInt8) (w : World) (e : Ending) (w' : World) : Prop := ∃ h' k' A' c' err, e = .returned (.tuple #[vaV h' A' k'.length c', .int .i64 err]) ∧ LexRel t s (.mk h' k') err ∧ k'.length ≤ c' ∧ InRow VE (fun x => w.heap.size ≤ x) w' k' A' 0 ∧ Below w.heap.size w w'
theorem lex_dec {t : Re} {s : List UInt8} {v : Va} (h : RV t s v) (ho : okT t = true) : ∃ v0, takeT t (codeV v) = some (v0, []) ∧ fullV v0 s = some v ∧ v0.size = v.size := by
  obtain ⟨v0, a1, a2⟩ := RV_take h ho
  have h1 := a1 []
  have h2 := a2 []
  rw [List.append_nil] at h1 h2
  exact ⟨v0, h1, by rw [full_some h2, if_pos rfl], (fillV_size _ _ _ _ h2).symm⟩
theorem lex_sizes {t : Re} {s : List UInt8} {v : Va} (h : RV t s v) (ht : t.size ≤ 900001) (hs : s.length ≤ 100) : v.size ≤ 100000000 ∧ (codeV v).length ≤ 200000000 := by
  have h1 := RV_size h
  have h2 : t.size * (s.length + 1) ≤ 900001 * 101 := Nat.mul_le_mul ht (by omega)
  have h3 := code_size v
  omega
/-- the two contracts that end the walks -/
def LexEnd (h : RH) (ks : List Re) (A : Option Addr) (c : Nat) (S : ByteArray) (w : World) (v v0 : Va) : Prop :=
  (∀ Y, Below w.heap.size w Y → Calls Tryz.prog 16 #[reV h A ks.length c, .string (str (codeV v))] Y (DecPost v0 true Y)) ∧
  (∀ (Y : World) (h0 : VH) (k0 : List Va) (A0 : Option Addr) (c0 : Nat) (P : Nat → Prop), v0 = .mk h0 k0 → k0.length ≤ c0 → InRow VE P Y k0 A0 0 → Calls Tryz.prog 17 #[vaV h0 A0 k0.length c0, .string S] Y (FullPost v0 S.data.toList Y)) ∧ fullV v0 S.data.toList = some v
theorem lexEnd_of {P : Nat → Prop} (h : RH) (ks : List Re) (A : Option Addr) (c : Nat) (S : ByteArray) (w : World) (v : Va) (hm : T.sizes ks ≤ 900000) (hmy : mayB (.mk h ks) = true) (hc : ks.length ≤ c) (hr : InRow RE P w ks A 0) (hS : S.size ≤ 100) (htz : TzOk w) (hv : RV (.mk h ks) S.data.toList v) : ∃ v0, LexEnd h ks A c S w v v0 := by
  obtain ⟨v0, h1, h2, h3⟩ := lex_dec hv (may_okT hmy)
  obtain ⟨h4, h5⟩ := lex_sizes hv (by simp only [T.size]; omega) (by rw [sl_]; exact hS)
  refine ⟨v0, fun Y hY => ?_, fun Y h0 k0 A0 c0 P e hc0 hr0 => ?_, h2⟩
  · have := dec_some h ks A c (str (codeV v)) Y v0 [] hm hmy hc (hr.below hY) (by rw [str_size]; omega) (htz.below hY) h1
    rw [if_pos rfl] at this
    exact this
  · subst e
    simp only [T.size] at h3
    exact pFill_any h0 k0 A0 c0 S Y (by omega) (by omega) hc0 hr0
theorem lexEnd_v {h : RH} {ks : List Re} {A : Option Addr} {c : Nat} {S : ByteArray} {w : World} {v v0 : Va} (hL : LexEnd h ks A c S w v v0) {x : Va} {b : Bool} (hx : FullRel v0 S.data.toList x b) : x = v ∧ b = true := by
  have := hL.2.2
  rcases hx with ⟨h1, _⟩ | ⟨h1, h2⟩
  · rw [this] at h1; cases h1
  · rw [this] at h1; exact ⟨(Option.some.inj h1).symm, h2⟩
end Go.Proofs.YtgdigbbfgpenpaaGreatDoor
namespace Go.Proofs.YtgdigbbfgpenpaaGreatDoor
open Go.RowKit
set_option linter.unusedVariables false
set_option linter.unusedSimpArgs false

end Go.Proofs.YtgdigbbfgpenpaaGreatDoor
namespace Go.Proofs.YtgdigbbfgpenpaaGreatDoor
open Go.RowKit
set_option linter.unusedVariables false
set_option linter.unusedSimpArgs false

def LexPostB (n : Int) (t : Re) (s : List UInt8) (w : World) (e : Ending) (w' : World) : Prop := ∃ h' k' A' c' err, e = .returned (.tuple #[vaV h' A' k'.length c', .int .i64 err]) ∧ (LexRel t s (.mk h' k') err ∧ (err = 0 → n = 0)) ∧ k'.length ≤ c' ∧ InRow VE (fun x => w.heap.size ≤ x) w' k' A' 0 ∧ Below w.heap.size w w'
set_option maxRecDepth 100000 in
set_option maxHeartbeats 16000000 in
theorem pLexB_any {P : Nat → Prop} (hh : RH) (ks : List Re) (A : Option Addr) (c : Nat) (S : ByteArray) (w : World) (hm : T.sizes ks ≤ 900000) (hc : ks.length ≤ c) (hr : InRow RE P w ks A 0) (hs : S.size ≤ 100) (htz : TzOk w) :
    Calls Tryz.prog 6 #[reV hh A ks.length c, .string S] w (LexPostB (lastBits (walkR stepE stepT (.mk hh ks) S.data.toList)).2 (.mk hh ks) S.data.toList w) := by
  obtain ⟨W, hW, hbW, hsW, e1W, e2W⟩ := reva_pre w hh A ks.length c
  obtain ⟨V, hV⟩ : ∃ V, W.alloc (.cells (reA hh A ks.length c) 27) = V := ⟨_, rfl⟩
  have hbV : Below W.heap.size W V := by rw [← hV]; exact below_new (Below.refl _ _) _
  have e5V : V.heap[W.heap.size]? = some (.cells (reA hh A ks.length c) 27 (0, 0)) := by rw [← hV]; exact new_at1 _
  have hbwV := below_from hbW hbV
  have HM : Hid (Calls Tryz.prog 15 #[.slice (some ⟨W.heap.size, 0, none⟩) 1 1] V fun e w' => e = .returned (.bool (mayB (.mk hh ks))) ∧ Below V.heap.size V w') := by
    have := May_any (ok := fun _ => True) [T.mk hh ks] (some ⟨W.heap.size, 0, none⟩) 1 V (by simp only [T.sizes, T.size]; omega) (row_one e5V trivial hc ((hr.weak fun _ _ => trivial).below hbwV))
    unfold Hid
    simpa using this
  have HPB : Hid (∀ X, Below w.heap.size w X → Calls Tryz.prog 11 #[reV hh A ks.length c, .string S] X fun e w' => e = .returned (.tuple #[.string (str (lastBits (walkR stepE stepT (.mk hh ks) S.data.toList)).1), .int .i64 (lastBits (walkR stepE stepT (.mk hh ks) S.data.toList)).2]) ∧ Below X.heap.size X w') := fun X hX => pBits_any hh ks A c S X hm hc (hr.below hX) hs
  have HALL : Hid (mayB (.mk hh ks) = true → (lastBits (walkR stepE stepT (.mk hh ks) S.data.toList) = ([], 5) ∧ ¬ LT (.mk hh ks) S.data.toList) ∨ (lastBits (walkR stepE stepT (.mk hh ks) S.data.toList) = ([], 4)) ∨ ∃ v, RV (.mk hh ks) S.data.toList v ∧ lastBits (walkR stepE stepT (.mk hh ks) S.data.toList) = (codeV v, 0)) := by
    intro hmy
    unfold lastBits
    rcases lex_all keeps_step good_step (t := .mk hh ks) (s := S.data.toList) (by rw [sl_]; exact hs) with ⟨h1, _, h2⟩ | ⟨_, h1⟩ | ⟨h1, _⟩
    · rw [if_pos h1]
      rcases h2 with ⟨h2, h3⟩ | ⟨v, h3, h2⟩
      · rw [h2]; exact .inl ⟨rfl, h3⟩
      · rw [h2]; exact .inr (.inr ⟨v, h3, rfl⟩)
    · rw [hmy] at h1; cases h1
    · rw [if_neg (by rw [h1]; decide), h1]; exact .inr (.inl rfl)
  have HEND : Hid (∀ v, mayB (.mk hh ks) = true → RV (.mk hh ks) S.data.toList v → ∃ v0, LexEnd hh ks A c S w v v0) := fun v hmy hv => lexEnd_of hh ks A c S w v hm hmy hc hr hs htz hv
  generalize lastBits (walkR stepE stepT (.mk hh ks) S.data.toList) = R at *
  have HE := Lib.hid hW
  have HV := Lib.hid hV
  have HBW := Lib.hid hbW
  have HBV := Lib.hid hbwV
  have E1W := Lib.hid e1W
  have E1V := Lib.hid ((hbV.block _ (lt_of_block e1W)).trans e1W)
  have E2V := Lib.hid ((hbV.block _ (lt_of_block e2W)).trans e2W)
  clear hW hbW hsW e1W e2W hr htz hV hbV e5V hbwV
  go_enter Tryz.func6, Tryz.ntmps6
  go_upto_region 1 with fail
  rw [show (w.alloc _).alloc _ = W from HE.out]
  obtain ⟨x0, x1, x2, x3, x4, x5⟩ := re_at_box E1W.out
  go_wp2_with fail
  rw [show W.alloc _ = V from HV.out]
  refine HM.out.mono ?_
  rintro e w1 ⟨rfl, hb1⟩
  have E1 := Lib.hid ((hb1.block _ (lt_of_block E1V.out)).trans E1V.out)
  have E2 := Lib.hid ((hb1.block _ (lt_of_block E2V.out)).trans E2V.out)
  have HB1 := Lib.hid (below_from HBV.out hb1)
  clear x0 x1 x2 x3 x4 x5 HM hb1 HBW HBV E1W E1V E2V HE HV
  rcases hmy : mayB (.mk hh ks) with _ | _
  · have HMF := Lib.hid hmy
    have HBY := HB1
    have E2Y := E2
    clear hmy HALL HEND HPB
    obtain ⟨⟨y0, y1, y2⟩, f0, f1, f2⟩ := va_cells E2Y.out
    have HREL : Hid (LexRel (.mk hh ks) S.data.toList (.mk vaH0 []) 1) := .inr ⟨rfl, .inl ⟨HMF.out, rfl⟩⟩
    go_wp2_with fail
    refine bodyPost_ret (v := .tuple #[vaV vaH0 none 0 0, .int .i64 1]) (by simp [results, Tryz.results6, go_sem, y0, y1, y2]; try exact ⟨rfl, rfl, rfl⟩) rfl ⟨vaH0, [], none, 0, 1, rfl, ⟨HREL.out, fun h => absurd h (by decide)⟩, Nat.le_refl _, by simp [InRow], three_below HBY.out (by omega)⟩
  · have HMY := Lib.hid hmy
    have hall := HALL.out hmy
    have HPC := Lib.hid (HPB.out w1 HB1.out)
    clear hmy HALL HPB
    obtain ⟨x0, x1, x2, x3, x4, x5⟩ := re_at_box E1.out
    rcases hall with ⟨rfl, hnl⟩ | rfl | ⟨v, hrv, rfl⟩
    · simp only at HPC
      have HNL := Lib.hid hnl
      clear hnl
      go_wp2_with fail
      refine HPC.out.mono ?_
      rintro e w2 ⟨rfl, hb2⟩
      have HBY := Lib.hid (below_from HB1.out hb2)
      have E2Y := Lib.hid ((hb2.block _ (lt_of_block E2.out)).trans E2.out)
      clear hb2
      obtain ⟨⟨y0, y1, y2⟩, f0, f1, f2⟩ := va_cells E2Y.out
      have HREL : Hid (LexRel (.mk hh ks) S.data.toList (.mk vaH0 []) 5) := .inr ⟨rfl, .inr (.inr ⟨HMY.out, HNL.out, rfl⟩)⟩
      go_wp2_with fail
      refine bodyPost_ret (v := .tuple #[vaV vaH0 none 0 0, .int .i64 5]) (by simp [results, Tryz.results6, go_sem, y0, y1, y2]; try exact ⟨rfl, rfl, rfl⟩) rfl ⟨vaH0, [], none, 0, 5, rfl, ⟨HREL.out, fun h => absurd h (by decide)⟩, Nat.le_refl _, by simp [InRow], three_below HBY.out (by omega)⟩
    · simp only at HPC
      go_wp2_with fail
      refine HPC.out.mono ?_
      rintro e w2 ⟨rfl, hb2⟩
      have HBY := Lib.hid (below_from HB1.out hb2)
      have E2Y := Lib.hid ((hb2.block _ (lt_of_block E2.out)).trans E2.out)
      clear hb2
      obtain ⟨⟨y0, y1, y2⟩, f0, f1, f2⟩ := va_cells E2Y.out
      have HREL : Hid (LexRel (.mk hh ks) S.data.toList (.mk vaH0 []) 4) := .inr ⟨rfl, .inr (.inl ⟨HMY.out, rfl⟩)⟩
      go_wp2_with fail
      refine bodyPost_ret (v := .tuple #[vaV vaH0 none 0 0, .int .i64 4]) (by simp [results, Tryz.results6, go_sem, y0, y1, y2]; try exact ⟨rfl, rfl, rfl⟩) rfl ⟨vaH0, [], none, 0, 4, rfl, ⟨HREL.out, fun h => absurd h (by decide)⟩, Nat.le_refl _, by simp [InRow], three_below HBY.out (by omega)⟩
    · simp only at HPC
      obtain ⟨v0, hL⟩ := HEND.out v HMY.out hrv
      have HL := Lib.hid hL
      have HRV := Lib.hid hrv
      clear hL hrv HEND
      go_wp2_with fail
      refine HPC.out.mono ?_
      rintro e w2 ⟨rfl, hb2⟩
      have E1Y := (hb2.block _ (lt_of_block E1.out)).trans E1.out
      have E2Y := Lib.hid ((hb2.block _ (lt_of_block E2.out)).trans E2.out)
      have HBY := Lib.hid (below_from HB1.out hb2)
      clear hb2 E1 E2 HPC x0 x1 x2 x3 x4 x5
      have E2 := E2Y
      obtain ⟨x0, x1, x2, x3, x4, x5⟩ := re_at_box E1Y
      clear E1Y E2Y
      go_wp2_with fail
      refine (HL.out.1 _ HBY.out).mono ?_
      rintro e w3 ⟨h0, k0, A0, c0, rfl, ev0, hc0, hr0, hb3⟩
      obtain ⟨Z, hZ⟩ : ∃ Z, w3.alloc (.cells (vaA h0 A0 k0.length c0) 32) = Z := ⟨_, rfl⟩
      have hbZ : Below w3.heap.size w3 Z := by rw [← hZ]; exact below_new (Below.refl _ _) _
      have n10 : Z.heap[w3.heap.size]? = some (.cells (vaA h0 A0 k0.length c0) 32 (0, 0)) := by rw [← hZ]; exact new_at1 _
      have HF := Lib.hid (HL.out.2.1 Z h0 k0 A0 c0 _ ev0 hc0 (hr0.below hbZ))
      have hb3Z := below_from hb3 hbZ
      have hbwZ := below_from HBY.out hb3Z
      have E2Z := Lib.hid ((hb3Z.block _ (lt_of_block E2.out)).trans E2.out)
      have N10 := Lib.hid n10
      have HZZ := Lib.hid hZ
      have HBZ := Lib.hid hbwZ
      have hszw := hbwZ.size
      have hs3 : w.heap.size + 1 < w3.heap.size := by have := hb3.size; have := lt_of_block E2.out; omega
      clear hZ hbZ n10 hb3Z hbwZ hr0 hb3 x0 x1 x2 x3 x4 x5
      go_upto_region 7 with fail
      rw [show w3.alloc _ = Z from HZZ.out]
      obtain ⟨⟨z0, z1, z2⟩, zf0, zf1, zf2⟩ := va_cells N10.out
      go_wp2_with fail
      refine HF.out.mono ?_
      rintro e w4 ⟨hf, kf, Af, cf, b, rfl, hrl, hcf, hrf, hb4⟩
      obtain ⟨evf, rfl⟩ := lexEnd_v HL.out hrl
      have HREL : Hid (LexRel (.mk hh ks) S.data.toList (.mk hf kf) 0) := .inl ⟨rfl, HMY.out, by rw [evf]; exact HRV.out⟩
      clear z0 z1 z2 zf0 zf1 zf2 HF hrl
      have n4 := (hb4.block _ (lt_of_block N10.out)).trans N10.out
      obtain ⟨⟨z0, z1, z2⟩, zf0, zf1, zf2⟩ := va_cells n4
      have N5 := Lib.hid (three_setCells (u0 := .int .u8 (hf.k.toNat : Int)) (u1 := .int .u8 (hf.b.toNat : Int)) (u2 := .slice Af kf.length cf) n4)
      have E25 := Lib.hid ((three_other (u0 := .int .u8 (hf.k.toNat : Int)) (u1 := .int .u8 (hf.b.toNat : Int)) (u2 := .slice Af kf.length cf) (show w.heap.size + 1 ≠ w3.heap.size by omega)).trans ((hb4.block _ (lt_of_block E2Z.out)).trans E2Z.out))
      have HB5 := Lib.hid (three_below (u0 := .int .u8 (hf.k.toNat : Int)) (u1 := .int .u8 (hf.b.toNat : Int)) (u2 := .slice Af kf.length cf) (below_from HBZ.out hb4) (show w.heap.size ≤ w3.heap.size by omega))
      have hz3 : w3.heap.size < Z.heap.size := lt_of_block N10.out
      have HR5 := Lib.hid (row_three (u0 := .int .u8 (hf.k.toNat : Int)) (u1 := .int .u8 (hf.b.toNat : Int)) (u2 := .slice Af kf.length cf) hrf (fun x hx => by show x ≠ w3.heap.size; omega))
      have HCF := Lib.hid hcf
      clear n4 hb4 hrf hcf E2Z N10
      go_upto_region 8 with fail
      obtain ⟨w5, hw5⟩ : ∃ w5, ((w4.setCell ⟨w3.heap.size, 0, none⟩ (.int .u8 (hf.k.toNat : Int))).setCell ⟨w3.heap.size, 1, none⟩ (.int .u8 (hf.b.toNat : Int))).setCell ⟨w3.heap.size, 2, none⟩ (.slice Af kf.length cf) = w5 := ⟨_, rfl⟩
      rw [hw5] at N5 E25 HB5 HR5 ⊢
      clear z0 z1 z2 zf0 zf1 zf2 hw5
      obtain ⟨⟨z0, z1, z2⟩, zf0, zf1, zf2⟩ := va_cells N5.out
      obtain ⟨⟨y0, y1, y2⟩, f0, f1, f2⟩ := va_cells E25.out
      go_wp2_with fail
      refine bodyPost_ret (v := .tuple #[vaV hf Af kf.length cf, .int .i64 0]) (by simp [results, Tryz.results6, go_sem, y0, y1, y2]; try exact ⟨rfl, rfl, rfl⟩) rfl ⟨hf, kf, Af, cf, 0, rfl, ⟨HREL.out, fun _ => rfl⟩, HCF.out, (row_three HR5.out fun x hx => by omega).weak fun x hx => by omega, three_below HB5.out (by omega)⟩
theorem pLex_any {P : Nat → Prop} (hh : RH) (ks : List Re) (A : Option Addr) (c : Nat) (S : ByteArray) (w : World) (hm : T.sizes ks ≤ 900000) (hc : ks.length ≤ c) (hr : InRow RE P w ks A 0) (hs : S.size ≤ 100) (htz : TzOk w) :
    Calls Tryz.prog 6 #[reV hh A ks.length c, .string S] w (LexPost (.mk hh ks) S.data.toList w) :=
  (pLexB_any hh ks A c S w hm hc hr hs htz).mono fun _ _ ⟨h', k', A', c', err, a1, a2, a3, a4, a5⟩ => ⟨h', k', A', c', err, a1, a2.1, a3, a4, a5⟩
end Go.Proofs.YtgdigbbfgpenpaaGreatDoor
