/- Coded expressions made simpler (plain): they fit the same, with the same right way's bits. One of those that a sieve lets pass: is one that is alike met? (*sieve).again: one that is alike is met, or this one is. Those that a sieve lets pass (plain), and the search for the first that it does not. A row of the call's own, written in place: what a store, clear and a cut leave. slices.DeleteFunc with a sieve: those that it lets pass. Made simpler: the contract's form, the leaves, and nothing of nothing. Those that kids made simpler stand for in an Alt. Made simpler, at an Alt. Where the texts end that an expression fits and that begin at one of some places (plain). -/
import Derived.Test.YteokbmngebckjaaBi
import Derived.Test.YteokbmngebckjaaBk
import Derived.Test.YteokbmngebckjaaBc
import Derived.Test.YteokbmngebckjaaBf
import Derived.Laws.OwnMore
import Derived.Laws.IdiomCopy
import Derived.Lib.SliceRun
namespace Go.Proofs.Yteokbmngebckjaa
open Go.RowKit
set_option linter.unusedVariables false
set_option linter.unusedSimpArgs false

def simpSeq (b : List UInt8) (x y : Co) : Co := if x.head.k = 1 ∨ y.head.k = 1 then cEmp else if x.head.k = 2 then fuseC (b ++ x.head.b) y else cSeq b x y
def flat1 (x : Co) : List Co := if x.head.k = 1 then [] else if x.head.k = 5 then x.kids.map (fuseC x.head.b) else [x]
def once (met : List Co) : List Co → List Co
  | [] => []
  | c :: l => if met.any (fun m => sameT (bareT m) (bareT c)) then once met l else c :: once (met ++ [c]) l
def altOf (b : List UInt8) : List Co → Co
  | [] => cEmp
  | [x] => fuseC b x
  | x :: y :: l => cAlt b (x :: y :: l)
def seqOf (b : List UInt8) : List Co → Co
  | [x, y] => simpSeq b x y
  | _ => cEmp
mutual
/-- one that may be, made simpler -/
def simpC : Co → Co
  | .mk h ks => if h.k = 4 then seqOf h.b (simpCs ks) else if h.k = 5 then altOf h.b (once [] ((simpCs ks).flatMap flat1)) else .mk h ks
def simpCs : List Co → List Co
  | [] => []
  | t :: ts => simpC t :: simpCs ts
end
theorem simpCs_map : ∀ ts : List Co, simpCs ts = ts.map simpC
  | [] => rfl
  | t :: ts => by simp only [simpCs, List.map_cons, simpCs_map ts]
theorem simp_seq (b : List UInt8) (x y : Co) : simpC (cSeq b x y) = simpSeq b (simpC x) (simpC y) := by simp [simpC, simpCs, seqOf]
theorem simp_alt (b : List UInt8) (ks : List Co) : simpC (cAlt b ks) = altOf b (once [] ((ks.map simpC).flatMap flat1)) := by rw [← simpCs_map]; simp [simpC]
theorem simp_emp : simpC cEmp = cEmp := rfl
theorem simp_eps (b : List UInt8) : simpC (cEps b) = cEps b := rfl
theorem simp_cls (b : List UInt8) (s : S4) : simpC (cCls b s) = cCls b s := rfl
theorem simp_star (b : List UInt8) (x : Co) : simpC (cStar b x) = cStar b x := by simp [simpC]
theorem kind_emp {x : Co} (h : okC x = true) (hk : x.head.k = 1) : x = cEmp := by
  rcases okC_cases h with rfl | ⟨b, hb, rfl⟩ | ⟨b, S, hb, hs, rfl⟩ | ⟨b, x, y, hb, hx, hy, rfl⟩ | ⟨b, ks, hb, hk', rfl⟩ | ⟨b, x, hb, hx, rfl⟩ <;> first | rfl | (simp [T.head] at hk)
theorem kind_eps {x : Co} (h : okC x = true) (hk : x.head.k = 2) : x = cEps x.head.b ∧ bitsB x.head.b = true := by
  rcases okC_cases h with rfl | ⟨b, hb, rfl⟩ | ⟨b, S, hb, hs, rfl⟩ | ⟨b, x, y, hb, hx, hy, rfl⟩ | ⟨b, ks, hb, hk', rfl⟩ | ⟨b, x, hb, hx, rfl⟩ <;> first | exact ⟨rfl, hb⟩ | (simp [T.head] at hk)
theorem kind_alt {x : Co} (h : okC x = true) (hk : x.head.k = 5) : x = cAlt x.head.b x.kids ∧ bitsB x.head.b = true ∧ okCL x.kids = true := by
  rcases okC_cases h with rfl | ⟨b, hb, rfl⟩ | ⟨b, S, hb, hs, rfl⟩ | ⟨b, x, y, hb, hx, hy, rfl⟩ | ⟨b, ks, hb, hk', rfl⟩ | ⟨b, x, hb, hx, rfl⟩ <;> first | exact ⟨rfl, hb, hk'⟩ | (simp [T.head] at hk)
theorem flat1_ok {x : Co} (h : okC x = true) : ∀ t ∈ flat1 x, okC t = true := by
  intro t ht
  unfold flat1 at ht
  split at ht
  · cases ht
  split at ht
  · rename_i h5
    obtain ⟨e, hb, hk⟩ := kind_alt h h5
    obtain ⟨y, hy, rfl⟩ := List.mem_map.1 ht
    exact ok_fuse hb (okCL_mem hk hy)
  · simp at ht; subst ht; exact h
theorem once_sub : ∀ (l met : List Co) (t : Co), t ∈ once met l → t ∈ l
  | [], met, t, h => by simp [once] at h
  | c :: l, met, t, h => by
    simp only [once] at h
    split at h
    · exact List.mem_cons_of_mem _ (once_sub l met t h)
    · rcases List.mem_cons.1 h with rfl | h
      · exact List.mem_cons_self
      · exact List.mem_cons_of_mem _ (once_sub l _ t h)
theorem altOf_ok {b : List UInt8} (hb : bitsB b = true) {l : List Co} (hl : ∀ t ∈ l, okC t = true) : okC (altOf b l) = true := by
  match l, hl with
  | [], _ => rfl
  | [x], hl => exact ok_fuse hb (hl x (by simp))
  | x :: y :: l, hl =>
    have := okCL_of hl
    simp only [altOf]
    simp only [okC, this, Bool.and_true]
    simp [okNodeC, hb]
theorem simpSeq_ok {b : List UInt8} {x y : Co} (hb : bitsB b = true) (hx : okC x = true) (hy : okC y = true) : okC (simpSeq b x y) = true := by
  unfold simpSeq
  split
  · rfl
  split
  · rename_i h2
    obtain ⟨e, hbx⟩ := kind_eps hx h2
    exact ok_fuse (by rw [bits_app, hb, hbx]; rfl) hy
  · simp [okC, okNodeC, okCL, hb, hx, hy]
theorem simp_ok : ∀ t : Co, okC t = true → okC (simpC t) = true := by
  refine okC_ind ?_ ?_ ?_ ?_ ?_ ?_
  · rfl
  · intro b hb; rw [simp_eps]; simp [okC, okNodeC, okCL, hb]
  · intro b s hb hs; rw [simp_cls]; simp [okC, okNodeC, okCL, hb, hs]
  · intro b x y hb hx hy ihx ihy
    rw [simp_seq]
    exact simpSeq_ok hb ihx ihy
  · intro b ks hb hk ih
    rw [simp_alt]
    refine altOf_ok hb fun t ht => ?_
    have := once_sub _ _ _ ht
    obtain ⟨x, hx, ht'⟩ := List.mem_flatMap.1 this
    obtain ⟨y, hy, rfl⟩ := List.mem_map.1 hx
    exact flat1_ok (ih y hy) t ht'
  · intro b x hb hx ih; rw [simp_star]; simp [okC, okNodeC, okCL, hb, hx]
theorem flat1_size {x : Co} (h : okC x = true) : T.sizes (flat1 x) ≤ x.size := by
  unfold flat1
  split
  · simp [T.sizes]
  split
  · rename_i h5
    obtain ⟨e, hb, hk⟩ := kind_alt h h5
    have hs : ∀ l : List Co, T.sizes (l.map (fuseC x.head.b)) = T.sizes l := by
      intro l
      induction l with
      | nil => rfl
      | cons t ts ih => simp only [List.map_cons, T.sizes, size_fuse, ih]
    rw [hs]
    obtain ⟨h0, ks⟩ := x
    simp only [T.kids, T.size]; omega
  · simp [T.sizes]
theorem once_size : ∀ (l met : List Co), T.sizes (once met l) ≤ T.sizes l
  | [], met => by simp [once]
  | c :: l, met => by
    simp only [once]
    split
    · have := once_size l met; simp only [T.sizes]; omega
    · have := once_size l (met ++ [c]); simp only [T.sizes]; omega
theorem altOf_size (b : List UInt8) (l : List Co) : (altOf b l).size ≤ 1 + T.sizes l := by
  match l with
  | [] => simp [altOf, T.size, T.sizes]
  | [x] => simp only [altOf, size_fuse, T.sizes]; omega
  | x :: y :: l => simp only [altOf, T.size]; omega
theorem simpSeq_size (b : List UInt8) (x y : Co) : (simpSeq b x y).size ≤ 1 + (x.size + y.size) := by
  unfold simpSeq
  split
  · simp [T.size, T.sizes]
  split
  · rw [size_fuse]; omega
  · simp only [T.size, T.sizes]; omega
theorem simp_size : ∀ t : Co, okC t = true → (simpC t).size ≤ t.size := by
  refine okC_ind ?_ ?_ ?_ ?_ ?_ ?_
  · rw [simp_emp]; exact Nat.le_refl _
  · intro b hb; rw [simp_eps]; exact Nat.le_refl _
  · intro b s hb hs; rw [simp_cls]; exact Nat.le_refl _
  · intro b x y hb hx hy ihx ihy
    rw [simp_seq]
    have := simpSeq_size b (simpC x) (simpC y)
    simp only [T.size, T.sizes, Nat.add_zero]
    omega
  · intro b ks hb hk ih
    rw [simp_alt]
    have h1 := altOf_size b (once [] ((ks.map simpC).flatMap flat1))
    have h2 := once_size ((ks.map simpC).flatMap flat1) []
    have h3 : T.sizes ((ks.map simpC).flatMap flat1) ≤ T.sizes ks := by
      have hk' : ∀ t ∈ ks, okC t = true := fun t ht => okCL_mem hk ht
      clear h1 h2 hk hb
      induction ks with
      | nil => simp [T.sizes]
      | cons t ts iht =>
        have a1 := ih t List.mem_cons_self
        have a2 := iht (fun t ht => ih t (List.mem_cons_of_mem _ ht)) fun t ht => hk' t (List.mem_cons_of_mem _ ht)
        have a3 := flat1_size (simp_ok t (hk' t List.mem_cons_self))
        simp only [List.map_cons, List.flatMap_cons, T.sizes_append, T.sizes]
        omega
    simp only [T.size]; omega
  · intro b x hb hx ih; rw [simp_star]; exact Nat.le_refl _
theorem simp_may {t : Co} (h : mayC t = true) : mayC (simpC t) = true := by
  unfold mayC at h ⊢
  simp only [Bool.and_eq_true, decide_eq_true_eq] at h ⊢
  have := simp_size t h.1
  exact ⟨simp_ok t h.1, by omega⟩
theorem head_pot (x : Co) : x.head.b.length ≤ potV x := by
  obtain ⟨h, ks⟩ := x
  simp only [T.head, potV]; omega
theorem flat1_pot {x : Co} (h : okC x = true) : ∀ t ∈ flat1 x, potV t ≤ potV x ∧ potS t ≤ potS x := by
  intro t ht
  unfold flat1 at ht
  split at ht
  · cases ht
  split at ht
  · rename_i h5
    obtain ⟨e, hb, hk⟩ := kind_alt h h5
    obtain ⟨y, hy, rfl⟩ := List.mem_map.1 ht
    have h1 := potV_fuse x.head.b y
    have h2 := le_potMax hy
    have h3 := le_potSs hy
    have e1 : potV x = x.head.b.length + potMax x.kids := by rw [← potV_alt, ← e]
    have e2 : potS x = potSs x.kids := by rw [← potS_alt x.head.b, ← e]
    rw [potS_fuse, e1, e2]
    exact ⟨by omega, h3⟩
  · simp at ht; subst ht; exact ⟨Nat.le_refl _, Nat.le_refl _⟩
theorem simp_pot : ∀ t : Co, okC t = true → potV (simpC t) ≤ potV t ∧ potS (simpC t) ≤ potS t := by
  refine okC_ind ?_ ?_ ?_ ?_ ?_ ?_
  · rw [simp_emp]; exact ⟨Nat.le_refl _, Nat.le_refl _⟩
  · intro b hb; rw [simp_eps]; exact ⟨Nat.le_refl _, Nat.le_refl _⟩
  · intro b s hb hs; rw [simp_cls]; exact ⟨Nat.le_refl _, Nat.le_refl _⟩
  · intro b x y hb hx hy ihx ihy
    rw [simp_seq, potV_seq, potS_seq]
    unfold simpSeq
    split
    · simp [potV, potS, potSum, potSs]
    split
    · have h1 := potV_fuse (b ++ (simpC x).head.b) (simpC y)
      have h2 := head_pot (simpC x)
      rw [potS_fuse]
      rw [List.length_append] at h1
      omega
    · rw [potV_seq, potS_seq]; omega
  · intro b ks hb hk ih
    rw [simp_alt, potV_alt, potS_alt]
    have hl : ∀ t ∈ once [] ((ks.map simpC).flatMap flat1), potV t ≤ potMax ks ∧ potS t ≤ potSs ks := fun t ht => by
      have := once_sub _ _ _ ht
      obtain ⟨x, hx, ht'⟩ := List.mem_flatMap.1 this
      obtain ⟨y, hy, rfl⟩ := List.mem_map.1 hx
      have h1 := flat1_pot (simp_ok y (okCL_mem hk hy)) t ht'
      have h2 := ih y hy
      have h3 := le_potMax hy
      have h4 := le_potSs hy
      omega
    generalize once [] ((ks.map simpC).flatMap flat1) = l at hl
    match l, hl with
    | [], _ => simp [altOf, potV, potS, potSum, potSs]
    | [x], hl =>
      have h1 := potV_fuse b x
      have h2 := hl x (by simp)
      simp only [altOf, potS_fuse]; omega
    | x :: y :: l, hl =>
      simp only [altOf]
      rw [potV_alt, potS_alt]
      have h1 := potMax_le fun t ht => (hl t ht).1
      have h2 := potSs_le fun t ht => (hl t ht).2
      omega
  · intro b x hb hx ih; rw [simp_star]; exact ⟨Nat.le_refl _, Nat.le_refl _⟩

theorem LAny_app (l m : List Co) (s : List UInt8) : LAny (l ++ m) s ↔ LAny l s ∨ LAny m s := by
  simp only [LAny_mem, List.mem_append]
  constructor
  · rintro ⟨t, h | h, k⟩
    · exact .inl ⟨t, h, k⟩
    · exact .inr ⟨t, h, k⟩
  · rintro (⟨t, h, k⟩ | ⟨t, h, k⟩)
    · exact ⟨t, .inl h, k⟩
    · exact ⟨t, .inr h, k⟩
theorem PAny_app (s v : List UInt8) : ∀ (l m : List Co), PAny (l ++ m) s v ↔ PAny l s v ∨ (¬ LAny l s ∧ PAny m s v)
  | [], m => by simp [PAny, LAny]
  | t :: l, m => by
    simp only [List.cons_append, PAny, LAny, PAny_app s v l m]
    constructor
    · rintro (h | ⟨h, h2 | ⟨h2, h3⟩⟩)
      · exact .inl (.inl h)
      · exact .inl (.inr ⟨h, h2⟩)
      · exact .inr ⟨fun k => k.elim h h2, h3⟩
    · rintro ((h | ⟨h, h2⟩) | ⟨h, h2⟩)
      · exact .inl h
      · exact .inr ⟨h, .inl h2⟩
      · exact .inr ⟨fun k => h (.inl k), .inr ⟨fun k => h (.inr k), h2⟩⟩
theorem PAny_fuse (b s v : List UInt8) : ∀ ks : List Co, (∀ t ∈ ks, okC t = true) → (PAny (ks.map (fuseC b)) s v ↔ ∃ v', v = b ++ v' ∧ PAny ks s v')
  | [], _ => by simp [PAny]
  | t :: ts, h => by
    have ih := PAny_fuse b s v ts fun t ht => h t (List.mem_cons_of_mem _ ht)
    simp only [List.map_cons, PAny]
    rw [ih, PB_fuse _ _ _ _ (h t List.mem_cons_self), LC_fuse]
    constructor
    · rintro (⟨v', e, k⟩ | ⟨k, v', e, k2⟩)
      · exact ⟨v', e, .inl k⟩
      · exact ⟨v', e, .inr ⟨k, k2⟩⟩
    · rintro ⟨v', e, k | ⟨k, k2⟩⟩
      · exact .inl ⟨v', e, k⟩
      · exact .inr ⟨k, v', e, k2⟩
theorem flat1_L {x : Co} (h : okC x = true) (s : List UInt8) : LAny (flat1 x) s ↔ LC x s := by
  unfold flat1
  split
  · rename_i h1
    rw [kind_emp h h1, LC_emp]
    simp [LAny]
  split
  · rename_i h5
    obtain ⟨e, hb, hk⟩ := kind_alt h h5
    have e2 : LC x s ↔ LAny x.kids s := by rw [← LC_alt x.head.b, ← e]
    rw [e2, LAny_mem, LAny_mem]
    constructor
    · rintro ⟨t, ht, k⟩
      obtain ⟨y, hy, rfl⟩ := List.mem_map.1 ht
      exact ⟨y, hy, (LC_fuse _ _ _).1 k⟩
    · rintro ⟨y, hy, k⟩
      exact ⟨_, List.mem_map_of_mem hy, (LC_fuse _ _ _).2 k⟩
  · exact LAny_one x s
theorem flat1_P {x : Co} (h : okC x = true) (s v : List UInt8) : PAny (flat1 x) s v ↔ PB x s v := by
  unfold flat1
  split
  · rename_i h1
    rw [kind_emp h h1, PB_emp]
    simp [PAny]
  split
  · rename_i h5
    obtain ⟨e, hb, hk⟩ := kind_alt h h5
    have e2 : PB x s v ↔ ∃ v', v = x.head.b ++ v' ∧ PAny x.kids s v' := by rw [← PB_alt, ← e]
    rw [e2]
    exact PAny_fuse _ _ _ _ fun t ht => okCL_mem hk ht
  · exact PAny_one x s v
theorem once_L (s : List UInt8) : ∀ (l met : List Co), (∀ t ∈ l, okC t = true) → (∀ t ∈ met, okC t = true) → (∀ t ∈ met, ¬ LC t s) → (LAny (once met l) s ↔ LAny l s)
  | [], met, _, _, _ => by simp [once]
  | c :: l, met, hl, hm, hn => by
    simp only [once]
    split
    · rename_i h
      obtain ⟨m, hmm, he⟩ := List.any_eq_true.1 h
      have he := (sameT_eq _ _).1 he
      have hc : ¬ LC c s := fun k => by
        apply hn m hmm
        rw [LC_bare m (hm m hmm), he, ← LC_bare c (hl c List.mem_cons_self)]
        exact k
      rw [once_L s l met (fun t ht => hl t (List.mem_cons_of_mem _ ht)) hm hn]
      simp [LAny, hc]
    · by_cases hc : LC c s
      · simp [LAny, hc]
      · simp only [LAny]
        rw [once_L s l (met ++ [c]) (fun t ht => hl t (List.mem_cons_of_mem _ ht)) (fun t ht => by
          rcases List.mem_append.1 ht with ht | ht
          · exact hm t ht
          · simp at ht; subst ht; exact hl t List.mem_cons_self) fun t ht => by
          rcases List.mem_append.1 ht with ht | ht
          · exact hn t ht
          · simp at ht; subst ht; exact hc]
theorem once_P (s v : List UInt8) : ∀ (l met : List Co), (∀ t ∈ l, okC t = true) → (∀ t ∈ met, okC t = true) → (∀ t ∈ met, ¬ LC t s) → (PAny (once met l) s v ↔ PAny l s v)
  | [], met, _, _, _ => by simp [once]
  | c :: l, met, hl, hm, hn => by
    have hPL := PB_L c (hl c List.mem_cons_self) s v
    simp only [once]
    split
    · rename_i h
      obtain ⟨m, hmm, he⟩ := List.any_eq_true.1 h
      have he := (sameT_eq _ _).1 he
      have hc : ¬ LC c s := fun k => by
        apply hn m hmm
        rw [LC_bare m (hm m hmm), he, ← LC_bare c (hl c List.mem_cons_self)]
        exact k
      rw [once_P s v l met (fun t ht => hl t (List.mem_cons_of_mem _ ht)) hm hn]
      simp only [PAny]
      constructor
      · exact fun h => .inr ⟨hc, h⟩
      · rintro (h | ⟨_, h⟩)
        · exact absurd (hPL h) hc
        · exact h
    · simp only [PAny]
      by_cases hc : LC c s
      · simp [hc]
      · rw [once_P s v l (met ++ [c]) (fun t ht => hl t (List.mem_cons_of_mem _ ht)) (fun t ht => by
          rcases List.mem_append.1 ht with ht | ht
          · exact hm t ht
          · simp at ht; subst ht; exact hl t List.mem_cons_self) fun t ht => by
          rcases List.mem_append.1 ht with ht | ht
          · exact hn t ht
          · simp at ht; subst ht; exact hc]
theorem altOf_L (b : List UInt8) (l : List Co) (s : List UInt8) : LC (altOf b l) s ↔ LAny l s := by
  match l with
  | [] => simp only [altOf]; rw [LC_emp]; simp [LAny]
  | [x] => simp only [altOf]; rw [LC_fuse, LAny_one]
  | x :: y :: l => simp only [altOf]; rw [LC_alt]
theorem altOf_P (b : List UInt8) (l : List Co) (s v : List UInt8) (hl : ∀ t ∈ l, okC t = true) : PB (altOf b l) s v ↔ ∃ v', v = b ++ v' ∧ PAny l s v' := by
  match l, hl with
  | [], _ => simp only [altOf]; rw [PB_emp]; simp [PAny]
  | [x], hl => simp only [altOf]; rw [PB_fuse _ _ _ _ (hl x (by simp))]; simp only [PAny_one]
  | x :: y :: l, hl => simp only [altOf]; rw [PB_alt]
theorem simpSeq_L {b : List UInt8} {x y : Co} (hx : okC x = true) (hy : okC y = true) (s : List UInt8) : LC (simpSeq b x y) s ↔ LC (cSeq b x y) s := by
  unfold simpSeq
  split
  · rename_i h
    rw [LC_seq, LC_emp]
    simp only [false_iff]
    rintro ⟨u, v, e, h1, h2⟩
    rcases h with h | h
    · rw [kind_emp hx h, LC_emp] at h1; exact h1
    · rw [kind_emp hy h, LC_emp] at h2; exact h2
  split
  · rename_i h2
    obtain ⟨e, _⟩ := kind_eps hx h2
    rw [LC_fuse, LC_seq, e]
    simp only [LC_eps]
    constructor
    · intro h; exact ⟨[], s, rfl, rfl, h⟩
    · rintro ⟨u, v, rfl, rfl, h⟩; exact h
  · exact Iff.rfl
theorem simpSeq_P {b : List UInt8} {x y : Co} (hx : okC x = true) (hy : okC y = true) (s u : List UInt8) : PB (simpSeq b x y) s u ↔ PB (cSeq b x y) s u := by
  unfold simpSeq
  split
  · rename_i h
    rw [PB_seq, PB_emp]
    simp only [false_iff]
    rintro ⟨s1, s2, u1, u2, e, e2, h1, h2, _⟩
    rcases h with h | h
    · rw [kind_emp hx h, PB_emp] at h1; exact h1
    · rw [kind_emp hy h, PB_emp] at h2; exact h2
  split
  · rename_i h2
    obtain ⟨e, _⟩ := kind_eps hx h2
    generalize x.head.b = bx at *
    subst e
    rw [PB_fuse _ _ _ _ hy, PB_seq]
    simp only [PB_eps]
    constructor
    · rintro ⟨v, rfl, h⟩
      refine ⟨[], s, bx, v, rfl, List.append_assoc _ _ _, ⟨rfl, rfl⟩, h, fun p q hp e ⟨k, _⟩ => ?_⟩
      rw [LC_eps] at k
      exact hp (List.append_eq_nil_iff.1 k).2
    · rintro ⟨s1, s2, u1, u2, rfl, rfl, ⟨rfl, rfl⟩, h, _⟩
      exact ⟨u2, (List.append_assoc _ _ _).symm, h⟩
  · exact Iff.rfl
theorem simp_L : ∀ t : Co, okC t = true → ∀ s, LC (simpC t) s ↔ LC t s := by
  refine okC_ind ?_ ?_ ?_ ?_ ?_ ?_
  · intro s; rw [simp_emp]
  · intro b hb s; rw [simp_eps]
  · intro b S hb hs s; rw [simp_cls]
  · intro b x y hb hx hy ihx ihy s
    rw [simp_seq, simpSeq_L (simp_ok x hx) (simp_ok y hy), LC_seq, LC_seq]
    simp only [ihx, ihy]
  · intro b ks hb hk ih s
    have hk' : ∀ t ∈ ks, okC t = true := fun t ht => okCL_mem hk ht
    rw [simp_alt, altOf_L, once_L s _ [] (fun t ht => by
      obtain ⟨x, hx, ht'⟩ := List.mem_flatMap.1 ht
      obtain ⟨y, hy, rfl⟩ := List.mem_map.1 hx
      exact flat1_ok (simp_ok y (hk' y hy)) t ht') (fun t ht => by cases ht) (fun t ht => by cases ht), LC_alt]
    clear hk hb
    induction ks with
    | nil => simp
    | cons t ts iht =>
      simp only [List.map_cons, List.flatMap_cons, LAny]
      have h2 : LAny ((ts.map simpC).flatMap flat1) s ↔ LAny ts s := iht (fun t ht => ih t (List.mem_cons_of_mem _ ht)) fun t ht => hk' t (List.mem_cons_of_mem _ ht)
      rw [LAny_app, flat1_L (simp_ok t (hk' t List.mem_cons_self)), ih t List.mem_cons_self, h2]
  · intro b x hb hx ih s; rw [simp_star]
theorem simp_PB : ∀ t : Co, okC t = true → ∀ s u, PB (simpC t) s u ↔ PB t s u := by
  refine okC_ind ?_ ?_ ?_ ?_ ?_ ?_
  · intro s u; rw [simp_emp]
  · intro b hb s u; rw [simp_eps]
  · intro b S hb hs s u; rw [simp_cls]
  · intro b x y hb hx hy ihx ihy s u
    have hLx := simp_L x hx
    have hLy := simp_L y hy
    rw [simp_seq, simpSeq_P (simp_ok x hx) (simp_ok y hy), PB_seq, PB_seq]
    simp only [ihx, ihy]
    constructor
    · rintro ⟨s1, s2, u1, u2, e, e2, h1, h2, h3⟩; exact ⟨s1, s2, u1, u2, e, e2, h1, h2, h3.congr hLx hLy⟩
    · rintro ⟨s1, s2, u1, u2, e, e2, h1, h2, h3⟩; exact ⟨s1, s2, u1, u2, e, e2, h1, h2, h3.congr (fun u => (hLx u).symm) fun u => (hLy u).symm⟩
  · intro b ks hb hk ih s u
    have hk' : ∀ t ∈ ks, okC t = true := fun t ht => okCL_mem hk ht
    have hfl : ∀ t ∈ (ks.map simpC).flatMap flat1, okC t = true := fun t ht => by
      obtain ⟨x, hx, ht'⟩ := List.mem_flatMap.1 ht
      obtain ⟨y, hy, rfl⟩ := List.mem_map.1 hx
      exact flat1_ok (simp_ok y (hk' y hy)) t ht'
    rw [simp_alt, altOf_P _ _ _ _ fun t ht => hfl t (once_sub _ _ _ ht), PB_alt]
    have key : ∀ v, PAny ((ks.map simpC).flatMap flat1) s v ↔ PAny ks s v := by
      intro v
      clear hfl hk hb
      induction ks with
      | nil => simp
      | cons t ts iht =>
        simp only [List.map_cons, List.flatMap_cons, PAny]
        have a := simp_ok t (hk' t List.mem_cons_self)
        have h2 : PAny ((ts.map simpC).flatMap flat1) s v ↔ PAny ts s v := iht (fun t ht => ih t (List.mem_cons_of_mem _ ht)) fun t ht => hk' t (List.mem_cons_of_mem _ ht)
        rw [PAny_app, flat1_P a, flat1_L a, ih t List.mem_cons_self, simp_L t (hk' t List.mem_cons_self), h2]
    have o := fun v => once_P s v _ [] hfl (fun t ht => by cases ht) (fun t ht => by cases ht)
    simp only [o, key]
  · intro b x hb hx ih s u; rw [simp_star]
/-- the ends stay -/
theorem simp_ends {t : Co} (h : okC t = true) : endsC (simpC t) = endsC t := by
  have h1 := ends_L t h
  have h2 := ends_L (simpC t) (simp_ok t h)
  rw [simp_L t h, ← h1] at h2
  rcases e : endsC t with _ | u <;> rcases e2 : endsC (simpC t) with _ | v
  · rfl
  · rw [e, e2] at h2; simp at h2
  · rw [e, e2] at h2; simp at h2
  · have a := ends_PB t h u e
    have b := (simp_PB t h _ _).1 (ends_PB _ (simp_ok t h) v e2)
    rw [PB_one t h _ _ _ a b]
end Go.Proofs.Yteokbmngebckjaa
namespace Go.Proofs.Yteokbmngebckjaa
open Go.RowKit
set_option linter.unusedVariables false
set_option linter.unusedSimpArgs false

end Go.Proofs.Yteokbmngebckjaa
namespace Go.Proofs.Yteokbmngebckjaa
open Go.RowKit
set_option linter.unusedVariables false
set_option linter.unusedSimpArgs false

/-- what lay below some place is as it was, but for one block -/
def KeepX (D sb : Nat) (w w' : World) : Prop := w'.os = w.os ∧ w'.tape = w.tape ∧ w'.output = w.output ∧ w.heap.size ≤ w'.heap.size ∧ ∀ j, j < D → j ≠ sb → w'.heap[j]? = w.heap[j]?
theorem KeepX.below {D sb : Nat} {w w' : World} (h : Below w.heap.size w w') (hD : D ≤ w.heap.size) : KeepX D sb w w' :=
  ⟨h.os, h.tape, h.output, h.size, fun j hj _ => h.block j (by omega)⟩
theorem KeepX.trans {D sb : Nat} {a b c : World} (h : KeepX D sb a b) (k : KeepX D sb b c) : KeepX D sb a c :=
  ⟨k.1.trans h.1, k.2.1.trans h.2.1, k.2.2.1.trans h.2.2.1, Nat.le_trans h.2.2.2.1 k.2.2.2.1, fun j hj hn => (k.2.2.2.2 j hj hn).trans (h.2.2.2.2 j hj hn)⟩
theorem KeepX.grown {D sb : Nat} {w w1 w2 : World} {row : Option Nat} (h : KeepX D sb w w1) (hg : w1.grownBy w2 row) (hD : D ≤ w1.heap.size) (hr : ∀ k, row = some k → D ≤ k) : KeepX D sb w w2 :=
  h.trans ⟨hg.os, hg.tape, hg.output, hg.size, fun j hj _ => hg.block j (by omega) fun e => by have := hr j e.symm; omega⟩
theorem KeepX.set {D sb : Nat} {w w1 : World} (h : KeepX D sb w w1) (a : Addr) (ha : a.block = sb ∨ D ≤ a.block) (u : Value) : KeepX D sb w (w1.setCell a u) :=
  h.trans ⟨rfl, rfl, rfl, by simp, fun j hj hn => Below.heap_setCell _ _ _ _ (by intro e; rcases ha with h | h; exact hn (by omega); omega)⟩
theorem ownT_mk {P : Nat → Prop} {D sb : Nat} {w w7 : World} {e : TypeId} {v7 : Value} {cs0 : List Value} {met : List Co} {h : CH} {k : List Co} {A : Option Addr} {c : Nat} (hP : ∀ x, P x → x < D ∧ x ≠ sb)
    (hk0 : ∀ (i : Nat) (t : Co), met[i]? = some t → ∃ d, (∀ j u, d[j]? = some u → cs0[i * 7 + j]? = some u) ∧ InT CE P w t d) (hl : cs0.length = met.length * 7)
    (hfr : ∀ j, j < D → j ≠ sb → w7.heap[j]? = w.heap[j]?) (hown : w7.ownsRow D e 7 v7 (met.length + 1) (cs0 ++ (coA h A k.length c).toList)) (hc : k.length ≤ c) (hr : InRow CE P w k A 0) :
    OwnT CE P w7 D e v7 (met ++ [T.mk h k]) := by
  have kp : ∀ (a : Addr) (v : Value), P a.block → w.cell? a = some v → w7.cell? a = some v := fun a v ha hv => (World.cell?_of_block (a := a) (hfr _ (hP _ ha).1 (hP _ ha).2)).trans hv
  refine ⟨fun b hb e => ?_, cs0 ++ (coA h A k.length c).toList, by rw [List.length_append]; exact hown, fun i t ht => ?_⟩
  · have := own_base hown b e.symm
    have := (hP b hb).1
    omega
  · by_cases hil : i < met.length
    · rw [List.getElem?_append_left hil] at ht
      obtain ⟨d, d1, d2⟩ := hk0 i t ht
      refine ⟨d, fun j u hu => ?_, d2.keep (fun _ h => h) kp⟩
      have := d1 j u hu
      show (cs0 ++ (coA h A k.length c).toList)[i * 7 + j]? = some u
      rw [List.getElem?_append_left (List.getElem?_eq_some_iff.1 this).1]
      exact this
    · rw [List.getElem?_append_right (by omega)] at ht
      obtain ⟨d, d1, d2⟩ := co_src hc hr _ t ht
      refine ⟨d, fun j u hu => ?_, d2.keep (fun _ h => h) kp⟩
      have := d1 j u hu
      have e1 : i * 7 = met.length * 7 + (i - met.length) * 7 := by omega
      show (cs0 ++ (coA h A k.length c).toList)[i * 7 + j]? = some u
      rw [List.getElem?_append_right (by omega), ← this]
      congr 1
      omega
theorem own_last {w : World} {D g n cap : Nat} {e : TypeId} {cs0 : List Value} {z0 z1 z2 z3 z4 z5 z6 u0 u1 u2 u3 u4 u5 u6 : Value} (h : w.ownsRow D e 7 (.slice (some ⟨g, 0, none⟩) (n + 1) cap) (n + 1) (cs0 ++ [z0, z1, z2, z3, z4, z5, z6])) (hl : cs0.length = n * 7) :
    (((((((w.setCell ⟨g, n * 7, none⟩ u0).setCell ⟨g, n * 7 + 1, none⟩ u1).setCell ⟨g, n * 7 + 2, none⟩ u2).setCell ⟨g, n * 7 + 3, none⟩ u3).setCell ⟨g, n * 7 + 4, none⟩ u4).setCell ⟨g, n * 7 + 5, none⟩ u5).setCell ⟨g, n * 7 + 6, none⟩ u6).ownsRow D e 7 (.slice (some ⟨g, 0, none⟩) (n + 1) cap) (n + 1) (cs0 ++ [u0, u1, u2, u3, u4, u5, u6]) := by
  have h7 := (((((((h.stored (n * 7) u0).1.stored (n * 7 + 1) u1).1.stored (n * 7 + 2) u2).1.stored (n * 7 + 3) u3).1.stored (n * 7 + 4) u4).1.stored (n * 7 + 5) u5).1.stored (n * 7 + 6) u6).1
  have e1 : (((((((cs0 ++ [z0, z1, z2, z3, z4, z5, z6]).set (n * 7) u0).set (n * 7 + 1) u1).set (n * 7 + 2) u2).set (n * 7 + 3) u3).set (n * 7 + 4) u4).set (n * 7 + 5) u5).set (n * 7 + 6) u6 = cs0 ++ [u0, u1, u2, u3, u4, u5, u6] := by
    rw [← hl]
    simp [List.set_append]
  rwa [e1] at h7

end Go.Proofs.Yteokbmngebckjaa
namespace Go.Proofs.Yteokbmngebckjaa
open Go.RowKit
set_option linter.unusedVariables false
set_option linter.unusedSimpArgs false

theorem once_snoc : ∀ (l met : List Co) (c : Co), once met (l ++ [c]) = once met l ++ (if (met ++ once met l).any (fun m => sameT (bareT m) (bareT c)) then [] else [c])
  | [], met, c => by
    simp only [List.nil_append, once, List.append_nil]
  | x :: l, met, c => by
    simp only [List.cons_append, once]
    split
    · exact once_snoc l met c
    · rw [once_snoc l (met ++ [x]) c, List.cons_append, List.append_assoc]
      rfl
theorem once_take {l : List Co} {k : Nat} {t : Co} (h : l[k]? = some t) : once [] (l.take (k + 1)) = once [] (l.take k) ++ (if (once [] (l.take k)).any (fun m => sameT (bareT m) (bareT t)) then [] else [t]) := by
  rw [List.take_add_one, h]
  show once [] (l.take k ++ [t]) = _
  rw [once_snoc]
  rfl
theorem once_len (l : List Co) (k : Nat) : (once [] (l.take k)).length ≤ k := by
  induction k with
  | zero => simp [once]
  | succ k ih =>
    by_cases h : k < l.length
    · rw [once_take (List.getElem?_eq_getElem h), List.length_append]
      split <;> simp <;> omega
    · rw [List.take_of_length_le (by omega)]
      rw [List.take_of_length_le (by omega)] at ih
      omega
theorem alike_same {a b : Co} (ha : mayC a = true) (hb : mayC b = true) : alikeB a b = sameT (bareT a) (bareT b) := by
  unfold alikeB
  rw [ha, hb]
  rfl
theorem any_alike {l : List Co} {t : Co} (hl : ∀ x ∈ l, mayC x = true) (ht : mayC t = true) : (l.any fun x => alikeB x t) = l.any fun m => sameT (bareT m) (bareT t) := by
  induction l with
  | nil => rfl
  | cons x l ih =>
    rw [List.any_cons, List.any_cons, ih fun y hy => hl y (List.mem_cons_of_mem _ hy), alike_same (hl x List.mem_cons_self) ht]
theorem KeepX.row {D sb : Nat} {Q : Nat → Prop} {w w' : World} {ts : List Co} {A : Option Addr} {i : Nat} (h : KeepX D sb w w') (hQ : ∀ x, Q x → x < D ∧ x ≠ sb) (hr : InRow CE Q w ts A i) : InRow CE Q w' ts A i :=
  hr.keep (fun _ h => h) fun a v ha hv => (World.cell?_of_block (a := a) (h.2.2.2.2 _ (hQ _ ha).1 (hQ _ ha).2)).trans hv
/-- what is asked of those that a sieve gets -/
def SieveOk (l : List Co) : Prop := ∀ t ∈ l, mayC t = true ∧ t.size ≤ 1000000 ∧ shortC t
/-- an element of a row, at its place -/
def RowAt (P : Nat → Prop) (w : World) (rb k : Nat) (t : Co) : Prop := ∃ h ks A1 c1, t = .mk h ks ∧ ks.length ≤ c1 ∧ InRow CE P w ks A1 0 ∧
  w.cell? ⟨rb, k * 7, none⟩ = some (.int .u8 (h.k.toNat : Int)) ∧ w.cell? ⟨rb, k * 7 + 1, none⟩ = some (.string (str h.b)) ∧ w.cell? ⟨rb, k * 7 + 2, none⟩ = some (.int .u64 (h.s.a.toNat : Int)) ∧ w.cell? ⟨rb, k * 7 + 3, none⟩ = some (.int .u64 (h.s.b.toNat : Int)) ∧
  w.cell? ⟨rb, k * 7 + 4, none⟩ = some (.int .u64 (h.s.c.toNat : Int)) ∧ w.cell? ⟨rb, k * 7 + 5, none⟩ = some (.int .u64 (h.s.d.toNat : Int)) ∧ w.cell? ⟨rb, k * 7 + 6, none⟩ = some (.slice A1 ks.length c1)
theorem RowAt.keep {P : Nat → Prop} {D sb rb k : Nat} {t : Co} {w w' : World} (h : RowAt P w rb k t) (hk : KeepX D sb w w') (hP : ∀ x, P x → x < D ∧ x ≠ sb) (hrb : rb < D ∧ rb ≠ sb) : RowAt P w' rb k t := by
  obtain ⟨h, ks, A1, c1, e, hc, hr, q0, q1, q2, q3, q4, q5, q6⟩ := h
  have kp : ∀ (o : Nat) (v : Value), w.cell? ⟨rb, o, none⟩ = some v → w'.cell? ⟨rb, o, none⟩ = some v := fun o v hv => (World.cell?_of_block (a := ⟨rb, o, none⟩) (hk.2.2.2.2 rb hrb.1 hrb.2)).trans hv
  exact ⟨h, ks, A1, c1, e, hc, hk.row hP hr, kp _ _ q0, kp _ _ q1, kp _ _ q2, kp _ _ q3, kp _ _ q4, kp _ _ q5, kp _ _ q6⟩
end Go.Proofs.Yteokbmngebckjaa
namespace Go.Proofs.Yteokbmngebckjaa
open Go.RowKit
set_option linter.unusedVariables false
set_option linter.unusedSimpArgs false

theorem own_setCells {base g n cap size : Nat} {e : TypeId} : ∀ (vs : List Value) (o : Nat) (w : World) (xs : List Value), w.ownsRow base e size (.slice (some ⟨g, 0, none⟩) n cap) n xs → ∃ xs', (w.setCells g o vs).ownsRow base e size (.slice (some ⟨g, 0, none⟩) n cap) n xs'
  | [], _, _, xs, h => ⟨xs, h⟩
  | v :: r, o, w, xs, h => own_setCells r (o + 1) _ _ (h.stored o v).1
theorem KeepX.setCells {D sb g : Nat} {w : World} (hg : g = sb ∨ D ≤ g) : ∀ (vs : List Value) (o : Nat) (w1 : World), KeepX D sb w w1 → KeepX D sb w (w1.setCells g o vs)
  | [], _, _, h => h
  | v :: r, o, w1, h => KeepX.setCells hg r (o + 1) _ (h.set ⟨g, o, none⟩ hg v)
theorem KeepX.mono {D D' sb : Nat} {w w' : World} (h : KeepX D sb w w') (hD : D' ≤ D) : KeepX D' sb w w' := ⟨h.1, h.2.1, h.2.2.1, h.2.2.2.1, fun j hj hn => h.2.2.2.2 j (by omega) hn⟩
theorem row_setOut {P : Nat → Prop} {w : World} {rb k o : Nat} {t : Co} {vs : List Value} (h : RowAt P w rb k t) (hP : ∀ x, P x → x ≠ rb) (ho : k * 7 + 7 ≤ o ∨ o + vs.length ≤ k * 7) : RowAt P (w.setCells rb o vs) rb k t := by
  obtain ⟨h, ks, A1, c1, e, hc, hr, q0, q1, q2, q3, q4, q5, q6⟩ := h
  have kp : ∀ (i : Nat) (v : Value), k * 7 ≤ i → i < k * 7 + 7 → w.cell? ⟨rb, i, none⟩ = some v → (w.setCells rb o vs).cell? ⟨rb, i, none⟩ = some v := fun i v h1 h2 hv => by
    rw [World.cell?_setCells_out rb vs o w ⟨rb, i, none⟩ (fun _ _ => by show i < o ∨ o + vs.length ≤ i; omega)]
    exact hv
  refine ⟨h, ks, A1, c1, e, hc, hr.keep (fun _ h => h) fun a v ha hv => ?_, kp _ _ (by omega) (by omega) q0, kp _ _ (by omega) (by omega) q1, kp _ _ (by omega) (by omega) q2, kp _ _ (by omega) (by omega) q3, kp _ _ (by omega) (by omega) q4, kp _ _ (by omega) (by omega) q5, kp _ _ (by omega) (by omega) q6⟩
  rw [World.cell?_setCells_out rb vs o w a (fun e _ => absurd e (hP _ ha))]
  exact hv
theorem row_setIn {P : Nat → Prop} {w : World} {rb i : Nat} {h : CH} {ks : List Co} {A : Option Addr} {c : Nat} (hP : ∀ x, P x → x ≠ rb) (hc : ks.length ≤ c) (hr : InRow CE P w ks A 0) (hs : ∀ r, r < 7 → (w.cell? ⟨rb, i * 7 + r, none⟩).isSome = true) :
    RowAt P (w.setCells rb (i * 7) (coA h A ks.length c).toList) rb i (.mk h ks) := by
  have kp := World.cell?_setCells_in rb (coA h A ks.length c).toList (i * 7) w (fun j hj => hs j hj)
  refine ⟨h, ks, A, c, rfl, hc, hr.keep (fun _ h => h) fun a v ha hv => ?_, kp 0 (by show 0 < 7; decide), kp 1 (by show 1 < 7; decide), kp 2 (by show 2 < 7; decide), kp 3 (by show 3 < 7; decide), kp 4 (by show 4 < 7; decide), kp 5 (by show 5 < 7; decide), kp 6 (by show 6 < 7; decide)⟩
  rw [World.cell?_setCells_out rb _ _ w a (fun e _ => absurd e (hP _ ha))]
  exact hv
theorem own_some {w : World} {base g n cap : Nat} {e : TypeId} {xs : List Value} (h : w.ownsRow base e 7 (.slice (some ⟨g, 0, none⟩) n cap) n xs) {j : Nat} (hj : j < n * 7) : (w.cell? ⟨g, j, none⟩).isSome = true := by
  have hl : j < xs.length := by rw [h.1]; exact hj
  have := h.cells (g := g) rfl j xs[j] (List.getElem?_eq_getElem hl)
  rw [plain_add] at this
  rw [this]
  rfl
theorem own_same {w w' : World} {base g n cap size : Nat} {e : TypeId} {xs : List Value} (h : w.ownsRow base e size (.slice (some ⟨g, 0, none⟩) n cap) n xs) (hk : w'.heap[g]? = w.heap[g]?) : w'.ownsRow base e size (.slice (some ⟨g, 0, none⟩) n cap) n xs := by
  refine ⟨h.1, ?_⟩
  rcases h.2 with ⟨e, _⟩ | ⟨g', cap', cur, e, h1, h2, h3⟩
  · cases e
  · cases e
    exact .inr ⟨g, cap, cur, rfl, h1, hk.trans h2, h3⟩
theorem own_cut {w : World} {base g n cap i : Nat} {e : TypeId} {xs : List Value} (h : w.ownsRow base e 7 (.slice (some ⟨g, 0, none⟩) n cap) n xs) (hi : i ≤ n) : w.ownsRow base e 7 (.slice (some ⟨g, 0, none⟩) i cap) i (xs.take (i * 7)) := by
  refine ⟨by rw [List.length_take, h.1]; omega, ?_⟩
  rcases h.2 with ⟨e, _⟩ | ⟨g', cap', cur, e, h1, h2, h3, h4, h5, h6⟩
  · cases e
  · cases e
    refine .inr ⟨g, cap, cur, rfl, h1, h2, by omega, h4, h5, ?_⟩
    rw [← h6, List.take_take]
    congr 1
    omega
/-- a row of those at their places -/
theorem own_rows {P : Nat → Prop} {w : World} {base g cap : Nat} {e : TypeId} {l : List Co} {xs : List Value} (h : w.ownsRow base e 7 (.slice (some ⟨g, 0, none⟩) l.length cap) l.length xs) (hP : ∀ x, P x → x ≠ g) (hrow : ∀ (k : Nat) (t : Co), l[k]? = some t → RowAt P w g k t) :
    OwnT CE P w base e (.slice (some ⟨g, 0, none⟩) l.length cap) l := by
  refine ⟨fun b hb e => hP b hb (Option.some.inj e), xs, h, fun k t ht => ?_⟩
  obtain ⟨h1, ks, A1, c1, rfl, hc, hr, q0, q1, q2, q3, q4, q5, q6⟩ := hrow k t ht
  have hk := (List.getElem?_eq_some_iff.1 ht).1
  have rd : ∀ (r : Nat) (u : Value), r < 7 → w.cell? ⟨g, k * 7 + r, none⟩ = some u → xs[k * 7 + r]? = some u := fun r u hr hu => by
    have hl : k * 7 + r < xs.length := by rw [h.1]; omega
    have := h.cells (g := g) rfl (k * 7 + r) xs[k * 7 + r] (List.getElem?_eq_getElem hl)
    rw [plain_add, hu] at this
    rw [List.getElem?_eq_getElem hl, this]
  refine ⟨CH.cells h1 ++ [.slice A1 ks.length c1], fun j u hu => ?_, ?_⟩
  · show xs[k * 7 + j]? = some u
    have hj : j < 7 := by
      rcases Nat.lt_or_ge j 7 with h | h
      · exact h
      · rw [List.getElem?_eq_none (by simpa [CH.cells] using h)] at hu; cases hu
    refine rd j u hj ?_
    match j, hj with
    | 0, _ => rw [← hu]; exact q0
    | 1, _ => rw [← hu]; exact q1
    | 2, _ => rw [← hu]; exact q2
    | 3, _ => rw [← hu]; exact q3
    | 4, _ => rw [← hu]; exact q4
    | 5, _ => rw [← hu]; exact q5
    | 6, _ => rw [← hu]; exact q6
  · simp only [InT]
    exact ⟨A1, c1, rfl, hc, hr⟩
theorem rows_of_own {P : Nat → Prop} {w : World} {base g cap : Nat} {e : TypeId} {l : List Co} (h : OwnT CE P w base e (.slice (some ⟨g, 0, none⟩) l.length cap) l) (k : Nat) (t : Co) (ht : l[k]? = some t) : RowAt P w g k t := by
  obtain ⟨h0, cs, ho, hk⟩ := h
  obtain ⟨d, d1, d2⟩ := hk k t ht
  obtain ⟨h1, ks⟩ := t
  simp only [InT] at d2
  obtain ⟨A1, c1, rfl, hc, hr⟩ := d2
  have rd : ∀ (r : Nat) (u : Value), (CH.cells h1 ++ [.slice A1 ks.length c1])[r]? = some u → w.cell? ⟨g, k * 7 + r, none⟩ = some u := fun r u hu => by
    have := ho.cells (g := g) rfl (k * 7 + r) u (d1 r u hu)
    rwa [plain_add] at this
  exact ⟨h1, ks, A1, c1, rfl, hc, hr, rd 0 _ rfl, rd 1 _ rfl, rd 2 _ rfl, rd 3 _ rfl, rd 4 _ rfl, rd 5 _ rfl, rd 6 _ rfl⟩
theorem run_clear7 {P : Program} (w : World) (t e ty : TypeId) (z : Value) (ht : P.underlying t = some (.slice e)) (hv : ∀ w, (zeroValue e).run P w = .ok z w) (hz : z.cells.size = 7) (h1 : ∀ v ∈ z.cells, v.oneCell' = true) (b o n c : Nat) (hn : 0 < n)
    (hc : ∀ j, j < n * 7 → (w.cell? ⟨b, o + j, none⟩).isSome = true) (hf : ∀ j, j < n * 7 → w.frozen? ⟨b, o + j, none⟩ = false) :
    (Builtin.clear_ #[t] ty #[.slice (some ⟨b, o, none⟩) n c]).run P w = .ok (.tuple #[]) (w.setCells b o (Builtin.zeroCells z.cells n).toList) := by
  have hl : (Builtin.zeroCells z.cells n).toList.length = n * 7 := by simp [Builtin.zeroCells, hz]
  have hst := run_storeCells_cells (P := P) b o (Builtin.zeroCells z.cells n).toList 0 w (by rw [hl]; simpa using hc) (by rw [hl]; simpa using hf) (by
    intro v hv'
    simp only [Builtin.zeroCells, Array.toList_map, List.mem_map] at hv'
    obtain ⟨i, _, rfl⟩ := hv'
    have : i % z.cells.size < z.cells.size := Nat.mod_lt _ (by omega)
    rw [getElem!_pos z.cells _ this]
    exact h1 _ (Array.getElem_mem this))
  simp only [Nat.add_zero] at hst
  obtain ⟨m, rfl⟩ : ∃ m, n = m + 1 := ⟨n - 1, by omega⟩
  simp [Builtin.clear_, run_underlying ht, hv, hst]
end Go.Proofs.Yteokbmngebckjaa
namespace Go.Proofs.Yteokbmngebckjaa
open Go.RowKit
set_option linter.unusedVariables false
set_option linter.unusedSimpArgs false

theorem KeepX.to_grown {b : Nat} {w w' : World} (h : KeepX w.heap.size b w w') : w.grownBy w' (some b) := ⟨h.1, h.2.1, h.2.2.1, h.2.2.2.1, fun k hk hn => h.2.2.2.2 k hk fun e => hn (by rw [e])⟩
theorem KeepX.refl (D b : Nat) (w : World) : KeepX D b w w := ⟨rfl, rfl, rfl, Nat.le_refl _, fun _ _ _ => rfl⟩
end Go.Proofs.Yteokbmngebckjaa
namespace Go.Proofs.Yteokbmngebckjaa
open Go.RowKit
set_option linter.unusedVariables false
set_option linter.unusedSimpArgs false

def SimpOk (f : FuncId) (h : CH) (ks : List Co) : Prop := ∀ (P : Nat → Prop) (A : Option Addr) (c : Nat) (w : World), ks.length ≤ c → InRow CE P w ks A 0 →
  Calls Try.prog f #[coV h A ks.length c] w (CoPostX P (simpC (.mk h ks)) w)
def SimpOkT (f : FuncId) (t : Co) : Prop := ∀ h ks, t = .mk h ks → SimpOk f h ks
end Go.Proofs.Yteokbmngebckjaa
namespace Go.Proofs.Yteokbmngebckjaa
open Go.RowKit
set_option linter.unusedVariables false
set_option linter.unusedSimpArgs false

def flatL (ts : List Co) : List Co := ts.flatMap fun t => flat1 (simpC t)
theorem flatL_map (ts : List Co) : flatL ts = (ts.map simpC).flatMap flat1 := by
  unfold flatL
  induction ts with
  | nil => rfl
  | cons t ts ih => simp only [List.flatMap_cons, List.map_cons, ih]
theorem flatL_take {ks : List Co} {k : Nat} {t : Co} (hx : ks[k]? = some t) : flatL (ks.take (k + 1)) = flatL (ks.take k) ++ flat1 (simpC t) := by
  unfold flatL
  rw [List.take_add_one, hx, List.flatMap_append]
  simp
theorem flatL_le (ks : List Co) (k : Nat) : (flatL (ks.take k)).length ≤ (flatL ks).length := by
  unfold flatL
  conv => rhs; rw [← List.take_append_drop k ks, List.flatMap_append, List.length_append]
  omega
theorem flat1_none {t : Co} (h : t.head.k = 1) : flat1 t = [] := by unfold flat1; rw [if_pos h]
theorem flat1_kids {t : Co} (h : t.head.k = 5) : flat1 t = t.kids.map (fuseC t.head.b) := by unfold flat1; rw [if_neg (by rw [h]; decide), if_pos h]
theorem flat1_one {t : Co} (h : t.head.k ≠ 1) (h5 : t.head.k ≠ 5) : flat1 t = [t] := by unfold flat1; rw [if_neg h, if_neg h5]
theorem kindN {k : UInt8} {n : Nat} (hn : n < 256) (h : k ≠ UInt8.ofNat n) : ((k.toNat : Int) == (n : Int)) = false :=
  beq_eq_false_iff_ne.2 fun e => h (by have e2 : k.toNat = n := by { omega }; exact u8_is e2)
theorem kindY {k : UInt8} {n : Nat} (hn : n < 256) (h : k = UInt8.ofNat n) : ((k.toNat : Int) == (n : Int)) = true := by
  subst h
  simp
  omega
end Go.Proofs.Yteokbmngebckjaa
namespace Go.Proofs.Yteokbmngebckjaa
open Go.RowKit
set_option linter.unusedVariables false
set_option linter.unusedSimpArgs false

theorem KeepX.toBelow {D sb B : Nat} {w w' : World} (h : KeepX D sb w w') (hB : B ≤ D) (hs : B ≤ sb) : Below B w w' := ⟨h.1, h.2.1, h.2.2.1, h.2.2.2.1, fun k hk => h.2.2.2.2 k (by omega) (by omega)⟩
theorem own_cases {w : World} {base size n : Nat} {e : TypeId} {v : Value} {cs : List Value} (h : w.ownsRow base e size v n cs) : (v = .slice none 0 0 ∧ n = 0) ∨ ∃ rb cap, v = .slice (some ⟨rb, 0, none⟩) n cap ∧ n ≤ cap := by
  obtain ⟨A, c, rfl, hc, _⟩ := own_slice h
  rcases h.2 with ⟨e1, e2⟩ | ⟨g, cap, cur, e1, h1, h2⟩
  · injection e1 with a b c
    subst a
    left
    refine ⟨by rw [b, c], b⟩
  · injection e1 with a b c
    subst a c
    exact .inr ⟨g, _, rfl, hc⟩
theorem kind5 {k : UInt8} (h : k = 5) : ((k.toNat : Int) == 5) = true := kindY (n := 5) (by decide) h
/-- a row's front one, in a block of its own -/
theorem front_at {P : Nat → Prop} {w : World} {rb : Nat} {t : Co} {r : List Co} {base cap : Nat} {e : TypeId} (h : OwnT CE P w base e (.slice (some ⟨rb, 0, none⟩) (t :: r).length cap) (t :: r)) : RowAt P w rb 0 t := rows_of_own h 0 t rfl
end Go.Proofs.Yteokbmngebckjaa
namespace Go.Proofs.Yteokbmngebckjaa
open Go.RowKit
set_option linter.unusedVariables false
set_option linter.unusedSimpArgs false

/-- a piece of a text -/
def sub (S : List UInt8) (i j : Nat) : List UInt8 := (S.drop i).take (j - i)
theorem sub_self (S : List UInt8) (i : Nat) : sub S i i = [] := by simp [sub]
theorem sub_len {S : List UInt8} {i j : Nat} (hj : j ≤ S.length) : (sub S i j).length = j - i := by simp [sub]; omega
theorem sub_app {S : List UInt8} {i k j : Nat} (h1 : i ≤ k) (h2 : k ≤ j) : sub S i j = sub S i k ++ sub S k j := by
  unfold sub
  have e : j - i = (k - i) + (j - k) := by omega
  rw [e, List.take_add, List.drop_drop, show i + (k - i) = k by omega]
theorem sub_split {S : List UInt8} {i j : Nat} {u v : List UInt8} (h1 : i ≤ j) (h2 : j ≤ S.length) (e : sub S i j = u ++ v) : ∃ k, i ≤ k ∧ k ≤ j ∧ u = sub S i k ∧ v = sub S k j := by
  have hl := sub_len (i := i) h2
  rw [e, List.length_append] at hl
  have h3 := sub_app (S := S) (i := i) (k := i + u.length) (j := j) (by omega) (by omega)
  rw [h3] at e
  have hk : (sub S i (i + u.length)).length = u.length := by rw [sub_len (by omega)]; omega
  obtain ⟨a, b⟩ := List.append_inj e hk
  exact ⟨i + u.length, by omega, by omega, a.symm, b.symm⟩
theorem sub_one {S : List UInt8} {i : Nat} {c : UInt8} (h : S[i]? = some c) : sub S i (i + 1) = [c] := by
  unfold sub
  obtain ⟨hi, e⟩ := List.getElem?_eq_some_iff.1 h
  rw [List.drop_eq_getElem_cons hi, e, show i + 1 - i = 1 by omega]
  rfl
theorem sub_all (S : List UInt8) : sub S 0 S.length = S := by simp [sub]
theorem sub_to (S : List UInt8) (j : Nat) : sub S 0 j = S.take j := by simp [sub]
theorem sub_from (S : List UInt8) (i : Nat) : sub S i S.length = S.drop i := by
  unfold sub
  rw [List.take_of_length_le (by simp)]

theorem StarP.app {P : List UInt8 → Prop} {u v : List UInt8} (h : StarP P u) (k : StarP P v) : StarP P (u ++ v) := by
  induction h with
  | nil => exact k
  | cons h1 h2 _ ih => rw [List.append_assoc]; exact .cons h1 h2 ih
theorem StarP.one {P : List UInt8 → Prop} {u : List UInt8} (h : P u) : StarP P u := by
  by_cases e : u = []
  · subst e; exact .nil
  · have := StarP.cons h e (StarP.nil (P := P))
    rwa [List.append_nil] at this
theorem StarP.two {P : List UInt8 → Prop} {u : List UInt8} : StarP (StarP P) u ↔ StarP P u := by
  constructor
  · intro h
    induction h with
    | nil => exact .nil
    | cons h1 _ _ ih => exact h1.app ih
  · exact StarP.one
theorem LT_star2 (x : Re) (s : List UInt8) : LT (rStar (rStar x)) s ↔ LT (rStar x) s := by
  rw [LT_star, LT_star]
  rw [StarP.iff (LT_star x) s]
  exact StarP.two

/-- the ends -/
def EndsP (r : Re) (S : List UInt8) (fr l : List Bool) : Prop := l.length = S.length + 1 ∧ ∀ j : Nat, l[j]? = some true ↔ (j ≤ S.length ∧ ∃ i, i ≤ j ∧ fr[i]? = some true ∧ LT r (sub S i j))
theorem ends_empP {S : List UInt8} {fr l : List Bool} (hl : l.length = S.length + 1) (h : ∀ j : Nat, l[j]? ≠ some true) : EndsP rEmp S fr l :=
  ⟨hl, fun j => ⟨fun e => absurd e (h j), fun ⟨_, i, _, _, e⟩ => ((LT_emp _).1 e).elim⟩⟩
theorem ends_epsP {S : List UInt8} {fr : List Bool} (hl : fr.length = S.length + 1) : EndsP rEps S fr fr := by
  refine ⟨hl, fun j => ⟨fun e => ?_, fun ⟨hj, i, hi, e, h⟩ => ?_⟩⟩
  · have := (List.getElem?_eq_some_iff.1 e).1
    exact ⟨by omega, j, Nat.le_refl _, e, by rw [LT_eps, sub_self]⟩
  · rw [LT_eps] at h
    have := sub_len (i := i) hj
    rw [h] at this
    simp only [List.length_nil] at this
    rw [show j = i by omega]
    exact e
theorem ends_clsP {S : List UInt8} {X : S4} {fr l : List Bool} (hl : l.length = S.length + 1) (h : ∀ j : Nat, l[j]? = some true ↔ ∃ i c, j = i + 1 ∧ S[i]? = some c ∧ fr[i]? = some true ∧ X.has c.toNat = true) : EndsP (rCls X) S fr l := by
  refine ⟨hl, fun j => ⟨fun e => ?_, fun ⟨hj, i, hi, e, hh⟩ => ?_⟩⟩
  · obtain ⟨i, c, rfl, hc, hf, hx⟩ := (h j).1 e
    have := (List.getElem?_eq_some_iff.1 hc).1
    exact ⟨by omega, i, by omega, hf, (LT_cls _ _).2 ⟨c, sub_one hc, hx⟩⟩
  · obtain ⟨c, hc, hx⟩ := (LT_cls _ _).1 hh
    have h1 := sub_len (i := i) hj
    rw [hc] at h1
    simp only [List.length_cons, List.length_nil] at h1
    have hji : j = i + 1 := by omega
    subst hji
    have hlt : i < S.length := by omega
    have h2 := sub_one (List.getElem?_eq_getElem hlt)
    rw [h2] at hc
    injection hc with hc
    exact (h _).2 ⟨i, S[i], rfl, List.getElem?_eq_getElem hlt, e, by rw [hc]; exact hx⟩
theorem ends_seqP {x y : Re} {S : List UInt8} {fr m l : List Bool} (hm : EndsP x S fr m) (hl : EndsP y S m l) : EndsP (rSeq x y) S fr l := by
  refine ⟨hl.1, fun j => ?_⟩
  rw [hl.2]
  constructor
  · rintro ⟨hj, k, hk, e, h⟩
    obtain ⟨hk2, i, hi, e2, h2⟩ := (hm.2 k).1 e
    exact ⟨hj, i, by omega, e2, (LT_seq _ _ _).2 ⟨_, _, sub_app hi hk, h2, h⟩⟩
  · rintro ⟨hj, i, hi, e, h⟩
    obtain ⟨u, v, e2, h1, h2⟩ := (LT_seq _ _ _).1 h
    obtain ⟨k, hk1, hk2, rfl, rfl⟩ := sub_split hi hj e2
    exact ⟨hj, k, hk2, (hm.2 k).2 ⟨by omega, i, hk1, e, h1⟩, h2⟩
theorem ends_altP {x y : Re} {S : List UInt8} {fr a b l : List Bool} (ha : EndsP x S fr a) (hb : EndsP y S fr b) (hl : l.length = S.length + 1) (h : ∀ j : Nat, l[j]? = some true ↔ (a[j]? = some true ∨ b[j]? = some true)) : EndsP (rAlt x y) S fr l := by
  refine ⟨hl, fun j => ?_⟩
  rw [h, ha.2, hb.2]
  constructor
  · rintro (⟨hj, i, hi, e, h⟩ | ⟨hj, i, hi, e, h⟩)
    · exact ⟨hj, i, hi, e, (LT_alt _ _ _).2 (.inl h)⟩
    · exact ⟨hj, i, hi, e, (LT_alt _ _ _).2 (.inr h)⟩
  · rintro ⟨hj, i, hi, e, h⟩
    rcases (LT_alt _ _ _).1 h with h | h
    · exact .inl ⟨hj, i, hi, e, h⟩
    · exact .inr ⟨hj, i, hi, e, h⟩
/-- reached by a star's rounds -/
def Clos (x : Re) (S : List UInt8) (fr : List Bool) (j : Nat) : Prop := j ≤ S.length ∧ ∃ i, i ≤ j ∧ fr[i]? = some true ∧ StarP (LT x) (sub S i j)
theorem clos_start {x : Re} {S : List UInt8} {fr : List Bool} (hl : fr.length = S.length + 1) {j : Nat} (h : fr[j]? = some true) : Clos x S fr j := by
  have := (List.getElem?_eq_some_iff.1 h).1
  exact ⟨by omega, j, Nat.le_refl _, h, by rw [sub_self]; exact .nil⟩
theorem clos_step {x : Re} {S : List UInt8} {fr l n : List Bool} (hl : ∀ j : Nat, l[j]? = some true → Clos x S fr j) (hn : EndsP x S l n) {j : Nat} (h : n[j]? = some true) : Clos x S fr j := by
  obtain ⟨hj, k, hk, e, h1⟩ := (hn.2 j).1 h
  obtain ⟨_, i, hi, e2, h2⟩ := hl k e
  exact ⟨hj, i, by omega, e2, by rw [sub_app hi hk]; exact h2.app (StarP.one h1)⟩
theorem star_closed {x : Re} {S : List UInt8} {l n : List Bool} (hn : EndsP x S l n) (hc : ∀ j : Nat, n[j]? = some true → l[j]? = some true) {s : List UInt8} (h : StarP (LT x) s) : ∀ i j : Nat, i ≤ j → j ≤ S.length → sub S i j = s → l[i]? = some true → l[j]? = some true := by
  induction h with
  | nil =>
    intro i j hi hj e h
    have := sub_len (i := i) hj
    rw [e] at this
    simp only [List.length_nil] at this
    rw [show j = i by omega]
    exact h
  | @cons u v h1 h2 h3 ih =>
    intro i j hi hj e h
    obtain ⟨k, hk1, hk2, rfl, rfl⟩ := sub_split hi hj e
    exact ih k j hk2 hj rfl (hc k ((hn.2 k).2 ⟨by omega, i, hk1, h, h1⟩))
theorem ends_starP {x : Re} {S : List UInt8} {fr l n : List Bool} (hlen : l.length = S.length + 1) (h0 : ∀ j : Nat, fr[j]? = some true → l[j]? = some true) (h1 : ∀ j : Nat, l[j]? = some true → Clos x S fr j) (hn : EndsP x S l n) (hc : ∀ j : Nat, n[j]? = some true → l[j]? = some true) : EndsP (rStar x) S fr l := by
  refine ⟨hlen, fun j => ⟨fun h => ?_, fun ⟨hj, i, hi, e, h⟩ => ?_⟩⟩
  · obtain ⟨hj, i, hi, e, h2⟩ := h1 j h
    exact ⟨hj, i, hi, e, (LT_star _ _).2 h2⟩
  · exact star_closed hn hc ((LT_star _ _).1 h) i j hi hj rfl (h0 i e)
theorem ends_star2P {x : Re} {S : List UInt8} {fr l : List Bool} (h : EndsP (rStar x) S fr l) : EndsP (rStar (rStar x)) S fr l := by
  refine ⟨h.1, fun j => ?_⟩
  rw [h.2]
  constructor
  · rintro ⟨hj, i, hi, e, h⟩; exact ⟨hj, i, hi, e, (LT_star2 _ _).2 h⟩
  · rintro ⟨hj, i, hi, e, h⟩; exact ⟨hj, i, hi, e, (LT_star2 _ _).1 h⟩
/-- how many are false -/
def falses (l : List Bool) : Nat := l.count false
theorem falses_set {l : List Bool} {i : Nat} (h : l[i]? = some false) : falses (l.set i true) + 1 = falses l := by
  obtain ⟨hi, e⟩ := List.getElem?_eq_some_iff.1 h
  unfold falses
  rw [List.count_set hi]
  have : l.count false ≥ 1 := List.count_pos_iff.2 (by rw [← e]; exact List.getElem_mem hi)
  simp [e]
  omega
end Go.Proofs.Yteokbmngebckjaa
