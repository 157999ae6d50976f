/- Coded expressions made simpler (plain): they fit the same, with the same right way's bits. One of those that a sieve lets pass: is one that is alike met? (*sieve).again: one that is alike is met, or this one is. Those that a sieve lets pass (plain), and the search for the first that it does not. A row of the call's own, written in place: what a store, clear and a cut leave. slices.DeleteFunc with a sieve: those that it lets pass. Made simpler: the contract's form, the leaves, and nothing of nothing. The document's: does one of some stand for the same? Those that kids made simpler stand for in an Alt. Made simpler, at an Alt. Where the texts end that an expression fits and that begin at one of some places (plain). A region that draws its order, by what holds behind each choice: one proof for each operation. Two boxes with what is made of two kids, in whatever order they come up. -/
import Derived.Test.YtgdigbbfgpenpaaDoorBi
import Derived.Test.YtgdigbbfgpenpaaDoorBk
import Derived.Test.YtgdigbbfgpenpaaDoorBc
import Derived.Test.YtgdigbbfgpenpaaDoorBf
import Derived.Laws.OwnMore
import Derived.Laws.IdiomCopy
import Derived.Lib.SliceRun
import Derived.Deep.RegionHeld3
namespace Go.Proofs.YtgdigbbfgpenpaaDoor
open Go.RowKit
set_option linter.unusedVariables false
set_option linter.unusedSimpArgs false

def simpSeq (b : List UInt8) (x y : Co) : Co := if x.head.k = 1 ∨ y.head.k = 1 then cEmp else if x.head.k = 2 then fuseC (b ++ x.head.b) y else cSeq b x y
def flat1 (x : Co) : List Co := if x.head.k = 1 then [] else if x.head.k = 5 then x.kids.map (fuseC x.head.b) else [x]
def once (met : List Co) : List Co → List Co
  | [] => []
  | c :: l => if met.any (fun m => sameT (bareT m) (bareT c)) then once met l else c :: once (met ++ [c]) l
def altOf (b : List UInt8) : List Co → Co
  | [] => cEmp
  | [x] => fuseC b x
  | x :: y :: l => cAlt b (x :: y :: l)
def seqOf (b : List UInt8) : List Co → Co
  | [x, y] => simpSeq b x y
  | _ => cEmp
mutual
/-- one that may be, made simpler -/
def simpC : Co → Co
  | .mk h ks => if h.k = 4 then seqOf h.b (simpCs ks) else if h.k = 5 then altOf h.b (once [] ((simpCs ks).flatMap flat1)) else .mk h ks
def simpCs : List Co → List Co
  | [] => []
  | t :: ts => simpC t :: simpCs ts
end
theorem simpCs_map : ∀ ts : List Co, simpCs ts = ts.map simpC
  | [] => rfl
  | t :: ts => by simp only [simpCs, List.map_cons, simpCs_map ts]
theorem simp_seq (b : List UInt8) (x y : Co) : simpC (cSeq b x y) = simpSeq b (simpC x) (simpC y) := by simp [simpC, simpCs, seqOf]
theorem simp_alt (b : List UInt8) (ks : List Co) : simpC (cAlt b ks) = altOf b (once [] ((ks.map simpC).flatMap flat1)) := by rw [← simpCs_map]; simp [simpC]
theorem simp_emp : simpC cEmp = cEmp := rfl
theorem simp_eps (b : List UInt8) : simpC (cEps b) = cEps b := rfl
theorem simp_cls (b : List UInt8) (s : S4) : simpC (cCls b s) = cCls b s := rfl
theorem simp_star (b : List UInt8) (x : Co) : simpC (cStar b x) = cStar b x := by simp [simpC]
theorem kind_emp {x : Co} (h : okC x = true) (hk : x.head.k = 1) : x = cEmp := by
  rcases okC_cases h with rfl | ⟨b, hb, rfl⟩ | ⟨b, S, hb, hs, rfl⟩ | ⟨b, x, y, hb, hx, hy, rfl⟩ | ⟨b, ks, hb, hk', rfl⟩ | ⟨b, x, hb, hx, rfl⟩ <;> first | rfl | (simp [T.head] at hk)
theorem kind_eps {x : Co} (h : okC x = true) (hk : x.head.k = 2) : x = cEps x.head.b ∧ bitsB x.head.b = true := by
  rcases okC_cases h with rfl | ⟨b, hb, rfl⟩ | ⟨b, S, hb, hs, rfl⟩ | ⟨b, x, y, hb, hx, hy, rfl⟩ | ⟨b, ks, hb, hk', rfl⟩ | ⟨b, x, hb, hx, rfl⟩ <;> first | exact ⟨rfl, hb⟩ | (simp [T.head] at hk)
theorem kind_alt {x : Co} (h : okC x = true) (hk : x.head.k = 5) : x = cAlt x.head.b x.kids ∧ bitsB x.head.b = true ∧ okCL x.kids = true := by
  rcases okC_cases h with rfl | ⟨b, hb, rfl⟩ | ⟨b, S, hb, hs, rfl⟩ | ⟨b, x, y, hb, hx, hy, rfl⟩ | ⟨b, ks, hb, hk', rfl⟩ | ⟨b, x, hb, hx, rfl⟩ <;> first | exact ⟨rfl, hb, hk'⟩ | (simp [T.head] at hk)
theorem flat1_ok {x : Co} (h : okC x = true) : ∀ t ∈ flat1 x, okC t = true := by
  intro t ht
  unfold flat1 at ht
  split at ht
  · cases ht
  split at ht
  · rename_i h5
    obtain ⟨e, hb, hk⟩ := kind_alt h h5
    obtain ⟨y, hy, rfl⟩ := List.mem_map.1 ht
    exact ok_fuse hb (okCL_mem hk hy)
  · simp at ht; subst ht; exact h
theorem once_sub : ∀ (l met : List Co) (t : Co), t ∈ once met l → t ∈ l
  | [], met, t, h => by simp [once] at h
  | c :: l, met, t, h => by
    simp only [once] at h
    split at h
    · exact List.mem_cons_of_mem _ (once_sub l met t h)
    · rcases List.mem_cons.1 h with rfl | h
      · exact List.mem_cons_self
      · exact List.mem_cons_of_mem _ (once_sub l _ t h)
theorem altOf_ok {b : List UInt8} (hb : bitsB b = true) {l : List Co} (hl : ∀ t ∈ l, okC t = true) : okC (altOf b l) = true := by
  match l, hl with
  | [], _ => rfl
  | [x], hl => exact ok_fuse hb (hl x (by simp))
  | x :: y :: l, hl =>
    have := okCL_of hl
    simp only [altOf]
    simp only [okC, this, Bool.and_true]
    simp [okNodeC, hb]
theorem simpSeq_ok {b : List UInt8} {x y : Co} (hb : bitsB b = true) (hx : okC x = true) (hy : okC y = true) : okC (simpSeq b x y) = true := by
  unfold simpSeq
  split
  · rfl
  split
  · rename_i h2
    obtain ⟨e, hbx⟩ := kind_eps hx h2
    exact ok_fuse (by rw [bits_app, hb, hbx]; rfl) hy
  · simp [okC, okNodeC, okCL, hb, hx, hy]
theorem simp_ok : ∀ t : Co, okC t = true → okC (simpC t) = true := by
  refine okC_ind ?_ ?_ ?_ ?_ ?_ ?_
  · rfl
  · intro b hb; rw [simp_eps]; simp [okC, okNodeC, okCL, hb]
  · intro b s hb hs; rw [simp_cls]; simp [okC, okNodeC, okCL, hb, hs]
  · intro b x y hb hx hy ihx ihy
    rw [simp_seq]
    exact simpSeq_ok hb ihx ihy
  · intro b ks hb hk ih
    rw [simp_alt]
    refine altOf_ok hb fun t ht => ?_
    have := once_sub _ _ _ ht
    obtain ⟨x, hx, ht'⟩ := List.mem_flatMap.1 this
    obtain ⟨y, hy, rfl⟩ := List.mem_map.1 hx
    exact flat1_ok (ih y hy) t ht'
  · intro b x hb hx ih; rw [simp_star]; simp [okC, okNodeC, okCL, hb, hx]
theorem flat1_size {x : Co} (h : okC x = true) : T.sizes (flat1 x) ≤ x.size := by
  unfold flat1
  split
  · simp [T.sizes]
  split
  · rename_i h5
    obtain ⟨e, hb, hk⟩ := kind_alt h h5
    have hs : ∀ l : List Co, T.sizes (l.map (fuseC x.head.b)) = T.sizes l := by
      intro l
      induction l with
      | nil => rfl
      | cons t ts ih => simp only [List.map_cons, T.sizes, size_fuse, ih]
    rw [hs]
    obtain ⟨h0, ks⟩ := x
    simp only [T.kids, T.size]; omega
  · simp [T.sizes]
theorem once_size : ∀ (l met : List Co), T.sizes (once met l) ≤ T.sizes l
  | [], met => by simp [once]
  | c :: l, met => by
    simp only [once]
    split
    · have := once_size l met; simp only [T.sizes]; omega
    · have := once_size l (met ++ [c]); simp only [T.sizes]; omega
theorem altOf_size (b : List UInt8) (l : List Co) : (altOf b l).size ≤ 1 + T.sizes l := by
  match l with
  | [] => simp [altOf, T.size, T.sizes]
  | [x] => simp only [altOf, size_fuse, T.sizes]; omega
  | x :: y :: l => simp only [altOf, T.size]; omega
theorem simpSeq_size (b : List UInt8) (x y : Co) : (simpSeq b x y).size ≤ 1 + (x.size + y.size) := by
  unfold simpSeq
  split
  · simp [T.size, T.sizes]
  split
  · rw [size_fuse]; omega
  · simp only [T.size, T.sizes]; omega
theorem simp_size : ∀ t : Co, okC t = true → (simpC t).size ≤ t.size := by
  refine okC_ind ?_ ?_ ?_ ?_ ?_ ?_
  · rw [simp_emp]; exact Nat.le_refl _
  · intro b hb; rw [simp_eps]; exact Nat.le_refl _
  · intro b s hb hs; rw [simp_cls]; exact Nat.le_refl _
  · intro b x y hb hx hy ihx ihy
    rw [simp_seq]
    have := simpSeq_size b (simpC x) (simpC y)
    simp only [T.size, T.sizes, Nat.add_zero]
    omega
  · intro b ks hb hk ih
    rw [simp_alt]
    have h1 := altOf_size b (once [] ((ks.map simpC).flatMap flat1))
    have h2 := once_size ((ks.map simpC).flatMap flat1) []
    have h3 : T.sizes ((ks.map simpC).flatMap flat1) ≤ T.sizes ks := by
      have hk' : ∀ t ∈ ks, okC t = true := fun t ht => okCL_mem hk ht
      clear h1 h2 hk hb
      induction ks with
      | nil => simp [T.sizes]
      | cons t ts iht =>
        have a1 := ih t List.mem_cons_self
        have a2 := iht (fun t ht => ih t (List.mem_cons_of_mem _ ht)) fun t ht => hk' t (List.mem_cons_of_mem _ ht)
        have a3 := flat1_size (simp_ok t (hk' t List.mem_cons_self))
        simp only [List.map_cons, List.flatMap_cons, T.sizes_append, T.sizes]
        omega
    simp only [T.size]; omega
  · intro b x hb hx ih; rw [simp_star]; exact Nat.le_refl _
theorem simp_may {t : Co} (h : mayC t = true) : mayC (simpC t) = true := by
  unfold mayC at h ⊢
  simp only [Bool.and_eq_true, decide_eq_true_eq] at h ⊢
  have := simp_size t h.1
  exact ⟨simp_ok t h.1, by omega⟩
theorem head_pot (x : Co) : x.head.b.length ≤ potV x := by
  obtain ⟨h, ks⟩ := x
  simp only [T.head, potV]; omega
theorem flat1_pot {x : Co} (h : okC x = true) : ∀ t ∈ flat1 x, potV t ≤ potV x ∧ potS t ≤ potS x := by
  intro t ht
  unfold flat1 at ht
  split at ht
  · cases ht
  split at ht
  · rename_i h5
    obtain ⟨e, hb, hk⟩ := kind_alt h h5
    obtain ⟨y, hy, rfl⟩ := List.mem_map.1 ht
    have h1 := potV_fuse x.head.b y
    have h2 := le_potMax hy
    have h3 := le_potSs hy
    have e1 : potV x = x.head.b.length + potMax x.kids := by rw [← potV_alt, ← e]
    have e2 : potS x = potSs x.kids := by rw [← potS_alt x.head.b, ← e]
    rw [potS_fuse, e1, e2]
    exact ⟨by omega, h3⟩
  · simp at ht; subst ht; exact ⟨Nat.le_refl _, Nat.le_refl _⟩
theorem simp_pot : ∀ t : Co, okC t = true → potV (simpC t) ≤ potV t ∧ potS (simpC t) ≤ potS t := by
  refine okC_ind ?_ ?_ ?_ ?_ ?_ ?_
  · rw [simp_emp]; exact ⟨Nat.le_refl _, Nat.le_refl _⟩
  · intro b hb; rw [simp_eps]; exact ⟨Nat.le_refl _, Nat.le_refl _⟩
  · intro b s hb hs; rw [simp_cls]; exact ⟨Nat.le_refl _, Nat.le_refl _⟩
  · intro b x y hb hx hy ihx ihy
    rw [simp_seq, potV_seq, potS_seq]
    unfold simpSeq
    split
    · simp [potV, potS, potSum, potSs]
    split
    · have h1 := potV_fuse (b ++ (simpC x).head.b) (simpC y)
      have h2 := head_pot (simpC x)
      rw [potS_fuse]
      rw [List.length_append] at h1
      omega
    · rw [potV_seq, potS_seq]; omega
  · intro b ks hb hk ih
    rw [simp_alt, potV_alt, potS_alt]
    have hl : ∀ t ∈ once [] ((ks.map simpC).flatMap flat1), potV t ≤ potMax ks ∧ potS t ≤ potSs ks := fun t ht => by
      have := once_sub _ _ _ ht
      obtain ⟨x, hx, ht'⟩ := List.mem_flatMap.1 this
      obtain ⟨y, hy, rfl⟩ := List.mem_map.1 hx
      have h1 := flat1_pot (simp_ok y (okCL_mem hk hy)) t ht'
      have h2 := ih y hy
      have h3 := le_potMax hy
      have h4 := le_potSs hy
      omega
    generalize once [] ((ks.map simpC).flatMap flat1) = l at hl
    match l, hl with
    | [], _ => simp [altOf, potV, potS, potSum, potSs]
    | [x], hl =>
      have h1 := potV_fuse b x
      have h2 := hl x (by simp)
      simp only [altOf, potS_fuse]; omega
    | x :: y :: l, hl =>
      simp only [altOf]
      rw [potV_alt, potS_alt]
      have h1 := potMax_le fun t ht => (hl t ht).1
      have h2 := potSs_le fun t ht => (hl t ht).2
      omega
  · intro b x hb hx ih; rw [simp_star]; exact ⟨Nat.le_refl _, Nat.le_refl _⟩

theorem LAny_app (l m : List Co) (s : List UInt8) : LAny (l ++ m) s ↔ LAny l s ∨ LAny m s := by
  simp only [LAny_mem, List.mem_append]
  constructor
  · rintro ⟨t, h | h, k⟩
    · exact .inl ⟨t, h, k⟩
    · exact .inr ⟨t, h, k⟩
  · rintro (⟨t, h, k⟩ | ⟨t, h, k⟩)
    · exact ⟨t, .inl h, k⟩
    · exact ⟨t, .inr h, k⟩
theorem PAny_app (s v : List UInt8) : ∀ (l m : List Co), PAny (l ++ m) s v ↔ PAny l s v ∨ (¬ LAny l s ∧ PAny m s v)
  | [], m => by simp [PAny, LAny]
  | t :: l, m => by
    simp only [List.cons_append, PAny, LAny, PAny_app s v l m]
    constructor
    · rintro (h | ⟨h, h2 | ⟨h2, h3⟩⟩)
      · exact .inl (.inl h)
      · exact .inl (.inr ⟨h, h2⟩)
      · exact .inr ⟨fun k => k.elim h h2, h3⟩
    · rintro ((h | ⟨h, h2⟩) | ⟨h, h2⟩)
      · exact .inl h
      · exact .inr ⟨h, .inl h2⟩
      · exact .inr ⟨fun k => h (.inl k), .inr ⟨fun k => h (.inr k), h2⟩⟩
theorem PAny_fuse (b s v : List UInt8) : ∀ ks : List Co, (∀ t ∈ ks, okC t = true) → (PAny (ks.map (fuseC b)) s v ↔ ∃ v', v = b ++ v' ∧ PAny ks s v')
  | [], _ => by simp [PAny]
  | t :: ts, h => by
    have ih := PAny_fuse b s v ts fun t ht => h t (List.mem_cons_of_mem _ ht)
    simp only [List.map_cons, PAny]
    rw [ih, PB_fuse _ _ _ _ (h t List.mem_cons_self), LC_fuse]
    constructor
    · rintro (⟨v', e, k⟩ | ⟨k, v', e, k2⟩)
      · exact ⟨v', e, .inl k⟩
      · exact ⟨v', e, .inr ⟨k, k2⟩⟩
    · rintro ⟨v', e, k | ⟨k, k2⟩⟩
      · exact .inl ⟨v', e, k⟩
      · exact .inr ⟨k, v', e, k2⟩
theorem flat1_L {x : Co} (h : okC x = true) (s : List UInt8) : LAny (flat1 x) s ↔ LC x s := by
  unfold flat1
  split
  · rename_i h1
    rw [kind_emp h h1, LC_emp]
    simp [LAny]
  split
  · rename_i h5
    obtain ⟨e, hb, hk⟩ := kind_alt h h5
    have e2 : LC x s ↔ LAny x.kids s := by rw [← LC_alt x.head.b, ← e]
    rw [e2, LAny_mem, LAny_mem]
    constructor
    · rintro ⟨t, ht, k⟩
      obtain ⟨y, hy, rfl⟩ := List.mem_map.1 ht
      exact ⟨y, hy, (LC_fuse _ _ _).1 k⟩
    · rintro ⟨y, hy, k⟩
      exact ⟨_, List.mem_map_of_mem hy, (LC_fuse _ _ _).2 k⟩
  · exact LAny_one x s
theorem flat1_P {x : Co} (h : okC x = true) (s v : List UInt8) : PAny (flat1 x) s v ↔ PB x s v := by
  unfold flat1
  split
  · rename_i h1
    rw [kind_emp h h1, PB_emp]
    simp [PAny]
  split
  · rename_i h5
    obtain ⟨e, hb, hk⟩ := kind_alt h h5
    have e2 : PB x s v ↔ ∃ v', v = x.head.b ++ v' ∧ PAny x.kids s v' := by rw [← PB_alt, ← e]
    rw [e2]
    exact PAny_fuse _ _ _ _ fun t ht => okCL_mem hk ht
  · exact PAny_one x s v
theorem once_L (s : List UInt8) : ∀ (l met : List Co), (∀ t ∈ l, okC t = true) → (∀ t ∈ met, okC t = true) → (∀ t ∈ met, ¬ LC t s) → (LAny (once met l) s ↔ LAny l s)
  | [], met, _, _, _ => by simp [once]
  | c :: l, met, hl, hm, hn => by
    simp only [once]
    split
    · rename_i h
      obtain ⟨m, hmm, he⟩ := List.any_eq_true.1 h
      have he := (sameT_eq _ _).1 he
      have hc : ¬ LC c s := fun k => by
        apply hn m hmm
        rw [LC_bare m (hm m hmm), he, ← LC_bare c (hl c List.mem_cons_self)]
        exact k
      rw [once_L s l met (fun t ht => hl t (List.mem_cons_of_mem _ ht)) hm hn]
      simp [LAny, hc]
    · by_cases hc : LC c s
      · simp [LAny, hc]
      · simp only [LAny]
        rw [once_L s l (met ++ [c]) (fun t ht => hl t (List.mem_cons_of_mem _ ht)) (fun t ht => by
          rcases List.mem_append.1 ht with ht | ht
          · exact hm t ht
          · simp at ht; subst ht; exact hl t List.mem_cons_self) fun t ht => by
          rcases List.mem_append.1 ht with ht | ht
          · exact hn t ht
          · simp at ht; subst ht; exact hc]
theorem once_P (s v : List UInt8) : ∀ (l met : List Co), (∀ t ∈ l, okC t = true) → (∀ t ∈ met, okC t = true) → (∀ t ∈ met, ¬ LC t s) → (PAny (once met l) s v ↔ PAny l s v)
  | [], met, _, _, _ => by simp [once]
  | c :: l, met, hl, hm, hn => by
    have hPL := PB_L c (hl c List.mem_cons_self) s v
    simp only [once]
    split
    · rename_i h
      obtain ⟨m, hmm, he⟩ := List.any_eq_true.1 h
      have he := (sameT_eq _ _).1 he
      have hc : ¬ LC c s := fun k => by
        apply hn m hmm
        rw [LC_bare m (hm m hmm), he, ← LC_bare c (hl c List.mem_cons_self)]
        exact k
      rw [once_P s v l met (fun t ht => hl t (List.mem_cons_of_mem _ ht)) hm hn]
      simp only [PAny]
      constructor
      · exact fun h => .inr ⟨hc, h⟩
      · rintro (h | ⟨_, h⟩)
        · exact absurd (hPL h) hc
        · exact h
    · simp only [PAny]
      by_cases hc : LC c s
      · simp [hc]
      · rw [once_P s v l (met ++ [c]) (fun t ht => hl t (List.mem_cons_of_mem _ ht)) (fun t ht => by
          rcases List.mem_append.1 ht with ht | ht
          · exact hm t ht
          · simp at ht; subst ht; exact hl t List.mem_cons_self) fun t ht => by
          rcases List.mem_append.1 ht with ht | ht
          · exact hn t ht
          · simp at ht; subst ht; exact hc]
theorem altOf_L (b : List UInt8) (l : List Co) (s : List UInt8) : LC (altOf b l) s ↔ LAny l s := by
  match l with
  | [] => simp only [altOf]; rw [LC_emp]; simp [LAny]
  | [x] => simp only [altOf]; rw [LC_fuse, LAny_one]
  | x :: y :: l => simp only [altOf]; rw [LC_alt]
theorem altOf_P (b : List UInt8) (l : List Co) (s v : List UInt8) (hl : ∀ t ∈ l, okC t = true) : PB (altOf b l) s v ↔ ∃ v', v = b ++ v' ∧ PAny l s v' := by
  match l, hl with
  | [], _ => simp only [altOf]; rw [PB_emp]; simp [PAny]
  | [x], hl => simp only [altOf]; rw [PB_fuse _ _ _ _ (hl x (by simp))]; simp only [PAny_one]
  | x :: y :: l, hl => simp only [altOf]; rw [PB_alt]
theorem simpSeq_L {b : List UInt8} {x y : Co} (hx : okC x = true) (hy : okC y = true) (s : List UInt8) : LC (simpSeq b x y) s ↔ LC (cSeq b x y) s := by
  unfold simpSeq
  split
  · rename_i h
    rw [LC_seq, LC_emp]
    simp only [false_iff]
    rintro ⟨u, v, e, h1, h2⟩
    rcases h with h | h
    · rw [kind_emp hx h, LC_emp] at h1; exact h1
    · rw [kind_emp hy h, LC_emp] at h2; exact h2
  split
  · rename_i h2
    obtain ⟨e, _⟩ := kind_eps hx h2
    rw [LC_fuse, LC_seq, e]
    simp only [LC_eps]
    constructor
    · intro h; exact ⟨[], s, rfl, rfl, h⟩
    · rintro ⟨u, v, rfl, rfl, h⟩; exact h
  · exact Iff.rfl
theorem simpSeq_P {b : List UInt8} {x y : Co} (hx : okC x = true) (hy : okC y = true) (s u : List UInt8) : PB (simpSeq b x y) s u ↔ PB (cSeq b x y) s u := by
  unfold simpSeq
  split
  · rename_i h
    rw [PB_seq, PB_emp]
    simp only [false_iff]
    rintro ⟨s1, s2, u1, u2, e, e2, h1, h2, _⟩
    rcases h with h | h
    · rw [kind_emp hx h, PB_emp] at h1; exact h1
    · rw [kind_emp hy h, PB_emp] at h2; exact h2
  split
  · rename_i h2
    obtain ⟨e, _⟩ := kind_eps hx h2
    generalize x.head.b = bx at *
    subst e
    rw [PB_fuse _ _ _ _ hy, PB_seq]
    simp only [PB_eps]
    constructor
    · rintro ⟨v, rfl, h⟩
      refine ⟨[], s, bx, v, rfl, List.append_assoc _ _ _, ⟨rfl, rfl⟩, h, fun p q hp e ⟨k, _⟩ => ?_⟩
      rw [LC_eps] at k
      exact hp (List.append_eq_nil_iff.1 k).2
    · rintro ⟨s1, s2, u1, u2, rfl, rfl, ⟨rfl, rfl⟩, h, _⟩
      exact ⟨u2, (List.append_assoc _ _ _).symm, h⟩
  · exact Iff.rfl
theorem simp_L : ∀ t : Co, okC t = true → ∀ s, LC (simpC t) s ↔ LC t s := by
  refine okC_ind ?_ ?_ ?_ ?_ ?_ ?_
  · intro s; rw [simp_emp]
  · intro b hb s; rw [simp_eps]
  · intro b S hb hs s; rw [simp_cls]
  · intro b x y hb hx hy ihx ihy s
    rw [simp_seq, simpSeq_L (simp_ok x hx) (simp_ok y hy), LC_seq, LC_seq]
    simp only [ihx, ihy]
  · intro b ks hb hk ih s
    have hk' : ∀ t ∈ ks, okC t = true := fun t ht => okCL_mem hk ht
    rw [simp_alt, altOf_L, once_L s _ [] (fun t ht => by
      obtain ⟨x, hx, ht'⟩ := List.mem_flatMap.1 ht
      obtain ⟨y, hy, rfl⟩ := List.mem_map.1 hx
      exact flat1_ok (simp_ok y (hk' y hy)) t ht') (fun t ht => by cases ht) (fun t ht => by cases ht), LC_alt]
    clear hk hb
    induction ks with
    | nil => simp
    | cons t ts iht =>
      simp only [List.map_cons, List.flatMap_cons, LAny]
      have h2 : LAny ((ts.map simpC).flatMap flat1) s ↔ LAny ts s := iht (fun t ht => ih t (List.mem_cons_of_mem _ ht)) fun t ht => hk' t (List.mem_cons_of_mem _ ht)
      rw [LAny_app, flat1_L (simp_ok t (hk' t List.mem_cons_self)), ih t List.mem_cons_self, h2]
  · intro b x hb hx ih s; rw [simp_star]
theorem simp_PB : ∀ t : Co, okC t = true → ∀ s u, PB (simpC t) s u ↔ PB t s u := by
  refine okC_ind ?_ ?_ ?_ ?_ ?_ ?_
  · intro s u; rw [simp_emp]
  · intro b hb s u; rw [simp_eps]
  · intro b S hb hs s u; rw [simp_cls]
  · intro b x y hb hx hy ihx ihy s u
    have hLx := simp_L x hx
    have hLy := simp_L y hy
    rw [simp_seq, simpSeq_P (simp_ok x hx) (simp_ok y hy), PB_seq, PB_seq]
    simp only [ihx, ihy]
    constructor
    · rintro ⟨s1, s2, u1, u2, e, e2, h1, h2, h3⟩; exact ⟨s1, s2, u1, u2, e, e2, h1, h2, h3.congr hLx hLy⟩
    · rintro ⟨s1, s2, u1, u2, e, e2, h1, h2, h3⟩; exact ⟨s1, s2, u1, u2, e, e2, h1, h2, h3.congr (fun u => (hLx u).symm) fun u => (hLy u).symm⟩
  · intro b ks hb hk ih s u
    have hk' : ∀ t ∈ ks, okC t = true := fun t ht => okCL_mem hk ht
    have hfl : ∀ t ∈ (ks.map simpC).flatMap flat1, okC t = true := fun t ht => by
      obtain ⟨x, hx, ht'⟩ := List.mem_flatMap.1 ht
      obtain ⟨y, hy, rfl⟩ := List.mem_map.1 hx
      exact flat1_ok (simp_ok y (hk' y hy)) t ht'
    rw [simp_alt, altOf_P _ _ _ _ fun t ht => hfl t (once_sub _ _ _ ht), PB_alt]
    have key : ∀ v, PAny ((ks.map simpC).flatMap flat1) s v ↔ PAny ks s v := by
      intro v
      clear hfl hk hb
      induction ks with
      | nil => simp
      | cons t ts iht =>
        simp only [List.map_cons, List.flatMap_cons, PAny]
        have a := simp_ok t (hk' t List.mem_cons_self)
        have h2 : PAny ((ts.map simpC).flatMap flat1) s v ↔ PAny ts s v := iht (fun t ht => ih t (List.mem_cons_of_mem _ ht)) fun t ht => hk' t (List.mem_cons_of_mem _ ht)
        rw [PAny_app, flat1_P a, flat1_L a, ih t List.mem_cons_self, simp_L t (hk' t List.mem_cons_self), h2]
    have o := fun v => once_P s v _ [] hfl (fun t ht => by cases ht) (fun t ht => by cases ht)
    simp only [o, key]
  · intro b x hb hx ih s u; rw [simp_star]
/-- the ends stay -/
theorem simp_ends {t : Co} (h : okC t = true) : endsC (simpC t) = endsC t := by
  have h1 := ends_L t h
  have h2 := ends_L (simpC t) (simp_ok t h)
  rw [simp_L t h, ← h1] at h2
  rcases e : endsC t with _ | u <;> rcases e2 : endsC (simpC t) with _ | v
  · rfl
  · rw [e, e2] at h2; simp at h2
  · rw [e, e2] at h2; simp at h2
  · have a := ends_PB t h u e
    have b := (simp_PB t h _ _).1 (ends_PB _ (simp_ok t h) v e2)
    rw [PB_one t h _ _ _ a b]
end Go.Proofs.YtgdigbbfgpenpaaDoor
namespace Go.Proofs.YtgdigbbfgpenpaaDoor
open Go.RowKit
set_option linter.unusedVariables false
set_option linter.unusedSimpArgs false

set_option maxRecDepth 100000 in
set_option maxHeartbeats 4000000 in
theorem again1_any (ok : Nat → Prop) (h1 h2 : CH) (k1 k2 : List Co) (A1 A2 : Option Addr) (c1 c2 cb : Nat) (w : World) (hm : T.sizes k1 ≤ 1048576) (hm2 : T.sizes k2 ≤ 1048576) (hc : k1.length ≤ c1) (hc2 : k2.length ≤ c2) (hr : InRow CE ok w k1 A1 0) (hr2 : InRow CE ok w k2 A2 0) (hs1 : shortC (.mk h1 k1)) (hs2 : shortC (.mk h2 k2))
    (hb2 : w.heap[cb]? = some (.cells (coA h2 A2 k2.length c2) 73 (0, 0))) :
    Calls Tryd.prog 99 #[coV h1 A1 k1.length c1, .pointer (some ⟨cb, 0, none⟩)] w fun e w' => e = .returned (.bool (alikeB (.mk h1 k1) (.mk h2 k2))) ∧ Below w.heap.size w w' := by
  obtain ⟨W, hW⟩ : ∃ W, w.alloc (.cells (coA h1 A1 k1.length c1) 73) = W := ⟨_, rfl⟩
  have hbW : Below w.heap.size w W := by rw [← hW]; exact below_new (Below.refl _ _) _
  have e1 : W.heap[w.heap.size]? = some (.cells (coA h1 A1 k1.length c1) 73 (0, 0)) := by rw [← hW]; exact new_at1 _
  have e2 := (hbW.block _ (lt_of_block hb2)).trans hb2
  have CA := Lib.hid (alike_any ok h1 h2 k1 k2 A1 A2 c1 c2 W hm hm2 hc hc2 (hr.below hbW) (hr2.below hbW) hs1 hs2)
  have HW := Lib.hid hW
  have HB := Lib.hid hbW
  obtain ⟨x0, x1, x2, x3, x4, x5, x6⟩ := co_at_box e1
  obtain ⟨y0, y1, y2, y3, y4, y5, y6⟩ := co_at_box e2
  rw [← HW.out] at x0 x1 x2 x3 x4 x5 x6 y0 y1 y2 y3 y4 y5 y6
  clear hW hbW e1 e2 hr hr2 hs1 hs2 hm hm2 hb2
  generalize alikeB (.mk h1 k1) (.mk h2 k2) = ab at *
  go_enter Tryd.func99, Tryd.ntmps99
  go_wp2_with fail
  rw [HW.out]
  refine CA.out.mono ?_
  rintro e w1 ⟨rfl, hb1⟩
  have hb := below_from HB.out hb1
  clear hb1
  go_wp2_with fail
  go_ret
  exact ⟨rfl, hb⟩

set_option maxHeartbeats 4000000 in
theorem idx_again {ok : Nat → Prop} {cb : Nat} (p : Co → Bool) (ts : List Co) (A : Option Addr) (c : Nat) (w : World)  (hr : InRow CE ok w ts A 0) (hm : ts.length ≤ 1000000000)
    (hcall : ∀ (h : CH) (ks : List Co) (A1 : Option Addr) (c1 : Nat) (w1 : World), T.mk h ks ∈ ts → ks.length ≤ c1 → InRow CE ok w1 ks A1 0 → Below w.heap.size w w1 →
      Calls Tryd.prog 99 #[coV h A1 ks.length c1, .pointer (some ⟨cb, 0, none⟩)] w1 fun e w' => e = .returned (.bool (p (.mk h ks))) ∧ Below w1.heap.size w1 w') :
    Calls Tryd.prog 96 #[.slice A ts.length c, .func (.func 99) #[] #[.pointer (some ⟨cb, 0, none⟩)]] w fun e w' => e = .returned (.int .i64 (idx p ts)) ∧ Below w.heap.size w w' := by
  have HC := Lib.hid hcall
  clear hcall
  go_enter Tryd.func96, Tryd.ntmps96
  go_wp2_with fail
  go_loopw [5, 8] (fun _ i wr => ∃ k : Nat, k ≤ ts.length ∧ i = .int .i64 k ∧ (∀ (j : Nat) (y : Co), j < k → ts[j]? = some y → p y = false) ∧ Below w.heap.size w wr) (fun _ i _ => ts.length - (intOf i).toNat)
  case atStart => exact ⟨0, Nat.zero_le _, rfl, fun j y h => absurd h (by omega), Below.refl _ _⟩
  case round =>
    obtain ⟨k, hk, rfl, hn, hb⟩ := hrel
    have HN := Lib.hid hn
    clear hn
    by_cases hlt : k < ts.length
    · obtain ⟨t, ad, h, ks, A1, c1, hA, hx, rfl, hc1, hr1, q0, q1, q2, q3, q4, q5, q6⟩ := co_at (hr.below hb) hlt
      subst hA
      have HX := Lib.hid hx
      have hmem := List.mem_of_getElem? hx
      clear hx hr
      go_wp2_with fail
      refine (HC.out h ks A1 c1 _ hmem hc1 hr1 hb).mono ?_
      rintro e w1 ⟨rfl, hb1⟩
      have hb2 := below_from hb hb1
      clear hb1 hr1 q0 q1 q2 q3 q4 q5 q6
      rcases hp : p (.mk h ks) with _ | _
      · have HP := Lib.hid hp
        clear hp
        go_wp2_with fail
        go_roundw
        case rel => exact ⟨k + 1, by omega, by go_num, fun j y hj hy => by
          by_cases e : j = k
          · subst e; rw [HX.out] at hy; cases hy; exact HP.out
          · exact HN.out j y (by omega) hy, hb2⟩
        case measure => simp [intOf]; omega
      · have HP := Lib.hid hp
        clear hp
        go_wp2_with fail
        go_ret
        exact ⟨by rw [idx_at _ ts k _ HX.out (fun j y hj hy => HN.out j y hj hy) HP.out]; rfl, hb2⟩
    · have hfin := Lib.hid (idx_none p ts fun j y hy => HN.out j y (by
        have := (List.getElem?_eq_some_iff.1 hy).1; omega) hy)
      go_wp2_with fail
      go_ret
      exact ⟨by rw [hfin.out]; rfl, hb⟩

theorem has_again {ok : Nat → Prop} {cb : Nat} (p : Co → Bool) (ts : List Co) (A : Option Addr) (c : Nat) (w : World)  (hr : InRow CE ok w ts A 0) (hm : ts.length ≤ 1000000000)
    (hcall : ∀ (h : CH) (ks : List Co) (A1 : Option Addr) (c1 : Nat) (w1 : World), T.mk h ks ∈ ts → ks.length ≤ c1 → InRow CE ok w1 ks A1 0 → Below w.heap.size w w1 →
      Calls Tryd.prog 99 #[coV h A1 ks.length c1, .pointer (some ⟨cb, 0, none⟩)] w1 fun e w' => e = .returned (.bool (p (.mk h ks))) ∧ Below w1.heap.size w1 w') :
    Calls Tryd.prog 75 #[.slice A ts.length c, .func (.func 99) #[] #[.pointer (some ⟨cb, 0, none⟩)]] w fun e w' => e = .returned (.bool (ts.any p)) ∧ Below w.heap.size w w' := by
  have HC := Lib.hid hcall
  clear hcall
  have HA := Lib.hid (idx_any p ts)
  go_enter Tryd.func75, Tryd.ntmps75
  go_wp2_with fail
  refine (idx_again p ts A c _ hr hm HC.out).mono ?_
  rintro e w1 ⟨rfl, hb⟩
  go_wp2_with fail
  go_ret
  exact ⟨by rw [← HA.out]; rfl, hb⟩
end Go.Proofs.YtgdigbbfgpenpaaDoor
namespace Go.Proofs.YtgdigbbfgpenpaaDoor
open Go.RowKit
set_option linter.unusedVariables false
set_option linter.unusedSimpArgs false

/-- what lay below some place is as it was, but for one block -/
def KeepX (D sb : Nat) (w w' : World) : Prop := w'.os = w.os ∧ w'.tape = w.tape ∧ w'.output = w.output ∧ w.heap.size ≤ w'.heap.size ∧ ∀ j, j < D → j ≠ sb → w'.heap[j]? = w.heap[j]?
theorem KeepX.below {D sb : Nat} {w w' : World} (h : Below w.heap.size w w') (hD : D ≤ w.heap.size) : KeepX D sb w w' :=
  ⟨h.os, h.tape, h.output, h.size, fun j hj _ => h.block j (by omega)⟩
theorem KeepX.trans {D sb : Nat} {a b c : World} (h : KeepX D sb a b) (k : KeepX D sb b c) : KeepX D sb a c :=
  ⟨k.1.trans h.1, k.2.1.trans h.2.1, k.2.2.1.trans h.2.2.1, Nat.le_trans h.2.2.2.1 k.2.2.2.1, fun j hj hn => (k.2.2.2.2 j hj hn).trans (h.2.2.2.2 j hj hn)⟩
theorem KeepX.grown {D sb : Nat} {w w1 w2 : World} {row : Option Nat} (h : KeepX D sb w w1) (hg : w1.grownBy w2 row) (hD : D ≤ w1.heap.size) (hr : ∀ k, row = some k → D ≤ k) : KeepX D sb w w2 :=
  h.trans ⟨hg.os, hg.tape, hg.output, hg.size, fun j hj _ => hg.block j (by omega) fun e => by have := hr j e.symm; omega⟩
theorem KeepX.set {D sb : Nat} {w w1 : World} (h : KeepX D sb w w1) (a : Addr) (ha : a.block = sb ∨ D ≤ a.block) (u : Value) : KeepX D sb w (w1.setCell a u) :=
  h.trans ⟨rfl, rfl, rfl, by simp, fun j hj hn => Below.heap_setCell _ _ _ _ (by intro e; rcases ha with h | h; exact hn (by omega); omega)⟩
theorem ownT_mk {P : Nat → Prop} {D sb : Nat} {w w7 : World} {e : TypeId} {v7 : Value} {cs0 : List Value} {met : List Co} {h : CH} {k : List Co} {A : Option Addr} {c : Nat} (hP : ∀ x, P x → x < D ∧ x ≠ sb)
    (hk0 : ∀ (i : Nat) (t : Co), met[i]? = some t → ∃ d, (∀ j u, d[j]? = some u → cs0[i * 7 + j]? = some u) ∧ InT CE P w t d) (hl : cs0.length = met.length * 7)
    (hfr : ∀ j, j < D → j ≠ sb → w7.heap[j]? = w.heap[j]?) (hown : w7.ownsRow D e 7 v7 (met.length + 1) (cs0 ++ (coA h A k.length c).toList)) (hc : k.length ≤ c) (hr : InRow CE P w k A 0) :
    OwnT CE P w7 D e v7 (met ++ [T.mk h k]) := by
  have kp : ∀ (a : Addr) (v : Value), P a.block → w.cell? a = some v → w7.cell? a = some v := fun a v ha hv => (World.cell?_of_block (a := a) (hfr _ (hP _ ha).1 (hP _ ha).2)).trans hv
  refine ⟨fun b hb e => ?_, cs0 ++ (coA h A k.length c).toList, by rw [List.length_append]; exact hown, fun i t ht => ?_⟩
  · have := own_base hown b e.symm
    have := (hP b hb).1
    omega
  · by_cases hil : i < met.length
    · rw [List.getElem?_append_left hil] at ht
      obtain ⟨d, d1, d2⟩ := hk0 i t ht
      refine ⟨d, fun j u hu => ?_, d2.keep (fun _ h => h) kp⟩
      have := d1 j u hu
      show (cs0 ++ (coA h A k.length c).toList)[i * 7 + j]? = some u
      rw [List.getElem?_append_left (List.getElem?_eq_some_iff.1 this).1]
      exact this
    · rw [List.getElem?_append_right (by omega)] at ht
      obtain ⟨d, d1, d2⟩ := co_src hc hr _ t ht
      refine ⟨d, fun j u hu => ?_, d2.keep (fun _ h => h) kp⟩
      have := d1 j u hu
      have e1 : i * 7 = met.length * 7 + (i - met.length) * 7 := by omega
      show (cs0 ++ (coA h A k.length c).toList)[i * 7 + j]? = some u
      rw [List.getElem?_append_right (by omega), ← this]
      congr 1
      omega
theorem own_last {w : World} {D g n cap : Nat} {e : TypeId} {cs0 : List Value} {z0 z1 z2 z3 z4 z5 z6 u0 u1 u2 u3 u4 u5 u6 : Value} (h : w.ownsRow D e 7 (.slice (some ⟨g, 0, none⟩) (n + 1) cap) (n + 1) (cs0 ++ [z0, z1, z2, z3, z4, z5, z6])) (hl : cs0.length = n * 7) :
    (((((((w.setCell ⟨g, n * 7, none⟩ u0).setCell ⟨g, n * 7 + 1, none⟩ u1).setCell ⟨g, n * 7 + 2, none⟩ u2).setCell ⟨g, n * 7 + 3, none⟩ u3).setCell ⟨g, n * 7 + 4, none⟩ u4).setCell ⟨g, n * 7 + 5, none⟩ u5).setCell ⟨g, n * 7 + 6, none⟩ u6).ownsRow D e 7 (.slice (some ⟨g, 0, none⟩) (n + 1) cap) (n + 1) (cs0 ++ [u0, u1, u2, u3, u4, u5, u6]) := by
  have h7 := (((((((h.stored (n * 7) u0).1.stored (n * 7 + 1) u1).1.stored (n * 7 + 2) u2).1.stored (n * 7 + 3) u3).1.stored (n * 7 + 4) u4).1.stored (n * 7 + 5) u5).1.stored (n * 7 + 6) u6).1
  have e1 : (((((((cs0 ++ [z0, z1, z2, z3, z4, z5, z6]).set (n * 7) u0).set (n * 7 + 1) u1).set (n * 7 + 2) u2).set (n * 7 + 3) u3).set (n * 7 + 4) u4).set (n * 7 + 5) u5).set (n * 7 + 6) u6 = cs0 ++ [u0, u1, u2, u3, u4, u5, u6] := by
    rw [← hl]
    simp [List.set_append]
  rwa [e1] at h7

set_option maxRecDepth 100000 in
set_option maxHeartbeats 16000000 in
theorem again_any {P : Nat → Prop} {sb D : Nat} (met : List Co) (m : Value) (h : CH) (k : List Co) (A : Option Addr) (c : Nat) (w : World) (hs : w.heap[sb]? = some (.cells #[m] 127 (0, 0))) (HO : OwnT CE P w D 73 m met) (hsb : sb < D) (hD : D ≤ w.heap.size)
    (hP : ∀ x, P x → x < D ∧ x ≠ sb) (hc : k.length ≤ c) (hr : InRow CE P w k A 0) (hz : ∀ t ∈ met, t.size ≤ 1000000 ∧ shortC t) (hzk : (T.mk h k).size ≤ 1000000 ∧ shortC (.mk h k)) (hlen : met.length ≤ 1000000) :
    Calls Tryd.prog 82 #[.pointer (some ⟨sb, 0, none⟩), coV h A k.length c] w fun e w' => e = .returned (.bool (met.any fun t => alikeB t (.mk h k))) ∧ ∃ m', w'.heap[sb]? = some (.cells #[m'] 127 (0, 0)) ∧
      OwnT CE P w' D 73 m' (if (met.any fun t => alikeB t (.mk h k)) then met else met ++ [.mk h k]) ∧ KeepX D sb w w' ∧ ∀ j, j < w.heap.size → j ≠ sb → some j ≠ m.ownBlock → w'.heap[j]? = w.heap[j]? := by
  obtain ⟨W, hW⟩ : ∃ W, w.alloc (.cells (coA h A k.length c) 73) = W := ⟨_, rfl⟩
  have hbW : Below w.heap.size w W := by rw [← hW]; exact below_new (Below.refl _ _) _
  have e1 : W.heap[w.heap.size]? = some (.cells (coA h A k.length c) 73 (0, 0)) := by rw [← hW]; exact new_at1 _
  have hsW := (hbW.block _ (lt_of_block hs)).trans hs
  have HOW := HO.keep hbW
  obtain ⟨Am, cm, hm', hcm, hrm⟩ := HOW.row
  subst hm'
  have hrk : InRow CE (fun x => P x ∨ (Value.slice Am met.length cm).ownBlock = some x) W k A 0 := (hr.below hbW).weak fun x hx => .inl hx
  simp only [T.size] at hzk
  have CH := Lib.hid (has_again (cb := w.heap.size) (fun t => alikeB t (.mk h k)) met Am cm W hrm (by omega) (fun h1 k1 A1 c1 X ht hc1 hr1 hX => by
    have hzt := hz _ ht
    simp only [T.size] at hzt
    exact again1_any _ h1 h k1 k A1 A c1 c w.heap.size X (by omega) (by omega) hc1 hc hr1 (hrk.below hX) hzt.2 hzk.2 ((hX.block _ (lt_of_block e1)).trans e1)))
  have s0 : W.cell? ⟨sb, 0, none⟩ = some (.slice Am met.length cm) := by rw [Lib.cell_of_heap hsW]; rfl
  have HS := Lib.hid hsW
  have HE := Lib.hid e1
  have HOX := Lib.hid HOW
  have HW := Lib.hid hW
  have HR := Lib.hid (hr.below hbW)
  have HPP := Lib.hid hP
  have HNE : Hid (∀ j, (Value.slice Am met.length cm).ownBlock = some j → j < w.heap.size) := fun j e => (own_inE HO e).2
  have HKX : Hid (KeepX D sb w W) := KeepX.below hbW hD
  have hDW : D ≤ W.heap.size := Nat.le_trans hD hbW.size
  have HCC := Lib.hid hc
  have HB0 := Lib.hid hbW
  rw [← HW.out] at s0
  clear hW hbW e1 hsW hs HOW HO hrm hrk hr hz hzk hP hc
  generalize (met.any fun t => alikeB t (.mk h k)) = b at *
  go_enter Tryd.func82, Tryd.ntmps82
  go_wp2_with fail
  rw [HW.out]
  refine CH.out.mono ?_
  rintro e w1 ⟨rfl, hb1⟩
  have HS1 := Lib.hid ((hb1.block _ (lt_of_block HS.out)).trans HS.out)
  have HE1 := Lib.hid ((hb1.block _ (lt_of_block HE.out)).trans HE.out)
  have HO1 := Lib.hid (HOX.out.keep hb1)
  have HR1 := Lib.hid (HR.out.below hb1)
  have HK1 := Lib.hid (HKX.out.trans (KeepX.below hb1 hDW))
  have hD1 : D ≤ w1.heap.size := Nat.le_trans hDW hb1.size
  have HC1 : Hid (w.heap.size < w1.heap.size) := lt_of_block HE1.out
  have HB1 := Lib.hid (below_from HB0.out hb1)
  clear hb1 CH HS HE HOX HR HKX s0 HW hDW HB0
  cases b with
  | true =>
    go_wp2_with fail
    go_ret
    exact ⟨rfl, _, HS1.out, HO1.out, HK1.out, fun j hj _ _ => HB1.out.block j hj⟩
  | false =>
    go_upto_region 3 with fail
    go_cut [12] from 11 to 12 (fun q wx => ∃ bb, q = .bool bb ∧ Below w1.heap.size w1 wx)
    case first =>
      have hz := Below.refl w1.heap.size w1
      go_region
      all_goals go_wp2_with fail
      all_goals go_meet
      all_goals (refine ⟨_, rfl, ?_⟩; (repeat (first | with_reducible exact hz | with_reducible refine Below.drew ?_ | with_reducible refine below_new ?_ _ | (with_reducible refine Below.setCell ?_ (by first | exact Nat.le_refl _ | (simp; done) | (simp; omega)) _))))
    case rest =>
      obtain ⟨bb, rfl, hbx⟩ := hcut
      have HS2 := Lib.hid ((hbx.block _ (lt_of_block HS1.out)).trans HS1.out)
      have HE2 := Lib.hid ((hbx.block _ (lt_of_block HE1.out)).trans HE1.out)
      have HO2 := Lib.hid (HO1.out.keep hbx)
      have HR2 := Lib.hid (HR1.out.below hbx)
      have HK2 := Lib.hid (HK1.out.trans (KeepX.below hbx hD1))
      have hD2 : D ≤ wc.heap.size := Nat.le_trans hD1 hbx.size
      have hC2 : w.heap.size < wc.heap.size := lt_of_block HE2.out
      have HB2 := Lib.hid (below_from HB1.out hbx)
      have HB2S := Lib.hid (below_from HB1.out hbx).size
      clear hbx HS1 HE1 HO1 HR1 HK1 HC1 hD1 HB1
      obtain ⟨h0, cs0, hown0, hk0⟩ := HO2.out
      have hl0 := hown0.1
      have HK0 := Lib.hid hk0
      have HL0 := Lib.hid hl0
      obtain ⟨x0, x1, x2, x3, x4, x5, x6⟩ := co_at_box HE2.out
      have s0 : wc.cell? ⟨sb, 0, none⟩ = some (.slice Am met.length cm) := by rw [Lib.cell_of_heap HS2.out]; rfl
      have HBM : Hid (∀ j, j < D → some j ≠ (Value.slice Am met.length cm).ownBlock) := fun j hj e => by have := own_base hown0 j e.symm; omega
      have HOB : Hid (∀ j, (Value.slice Am met.length cm).ownBlock = some j → D ≤ j) := fun j e => own_base hown0 j e
      clear h0 hk0 hl0 HO2
      cases bb
      · have hown3 : (wc.alloc (.cells (coA h A k.length c) 73)).drew.ownsRow D 73 7 (.slice Am met.length cm) met.length cs0 := hown0.alloc (.cells (coA h A k.length c) 73)
        have hsrc : Src (wc.alloc (.cells (coA h A k.length c) 73)).drew (some ⟨wc.heap.size, 0, none⟩) 1 7 (coA h A k.length c).toList := new_src wc 1 7 (coA h A k.length c) 73 rfl
        have KCa : Hid (KeepX D sb wc (wc.alloc (.cells (coA h A k.length c) 73)).drew) := KeepX.below (below_new (Below.refl _ _) _).drew hD2
        have hsa : (wc.alloc (.cells (coA h A k.length c) 73)).drew.heap.size = wc.heap.size + 1 := World.size_alloc _ _
        have HSA := Lib.hid hsa
        clear hsa hown0
        have s0a := fun ob => keep_cell (below_new (Below.refl wc.heap.size wc) ob) s0
        go_upto_region 6 with fail
        go_region_law
          (first
            | (refine step_app _ (by rfl) (.tmp 28) (.tmp 30) 71 (by rfl) D 73 _ 7 80 Tryd.underlying71 Tryd.info_co rfl (by decide) (.slice Am met.length cm) met.length cs0 (by rfl) hown3 (some ⟨wc.heap.size, 0, none⟩) 1 1 _ (by rfl) hsrc (coA_one h A k.length c) (by unfold maxLen; omega) (by omega) (by rw [HSA.out]; omega) ?_; intro v5 w5 ho5 hg5 hat5; have e5 : w5.heap[sb]? = some (.cells #[.slice Am met.length cm] 127 (0, 0)) := (hg5.block sb (by rw [HSA.out]; omega) (HBM.out sb hsb)).trans ((Below.heap_alloc _ _ _ (by show sb < wc.heap.size; omega)).trans HS2.out); have q5 : w5.cell? ⟨sb, 0, none⟩ = some (.slice Am met.length cm) := by { rw [Lib.cell_of_heap e5]; rfl }; have f5 := Lib.frozen_of_heap e5 0; obtain ⟨A5, c5, hv5, _, _⟩ := own_slice ho5; subst hv5)
            | fail)
        all_goals
          have KC := ((KCa.out.grown hg5 (by rw [HSA.out]; omega) HOB.out).set ⟨sb, 0, none⟩ (.inl rfl) (.slice A5 (met.length + 1) c5))
          have HO7 := Lib.hid (ownT_mk HPP.out HK0.out HL0.out KC.2.2.2.2 (ownsRow_setCell_below ho5 (a := ⟨sb, 0, none⟩) hsb _) HCC.out HR2.out)
          have HS7 : Hid ((w5.setCell ⟨sb, 0, none⟩ (.slice A5 (met.length + 1) c5)).heap[sb]? = some (.cells #[.slice A5 (met.length + 1) c5] 127 (0, 0))) := by unfold Hid; simp [World.setCell, Array.getElem?_modify, e5]
          have HK7 := Lib.hid (HK2.out.trans KC)
          have HQ : Hid (∀ j, j < w.heap.size → j ≠ sb → some j ≠ (Value.slice Am met.length cm).ownBlock → (w5.setCell ⟨sb, 0, none⟩ (.slice A5 (met.length + 1) c5)).heap[j]? = w.heap[j]?) := fun j hj hn ho => (Below.heap_setCell _ _ _ _ hn).trans ((hg5.block j (by rw [HSA.out]; have := HB2S.out; omega) ho).trans ((Below.heap_alloc _ _ _ (by have := HB2S.out; omega)).trans (HB2.out.block j hj)))
          clear KC ho5 hg5 hat5 e5 q5 f5
          go_wp2_with fail
          go_ret
          exact ⟨rfl, _, HS7.out, HO7.out, HK7.out, HQ.out⟩
      · have hown3 := hown0.alloc (.cells coZ 73)
        have hsrc := new_src wc 1 7 coZ 73 rfl
        have KCa : Hid (KeepX D sb wc (wc.alloc (.cells coZ 73))) := KeepX.below (below_new (Below.refl _ _) _) hD2
        have HSA : Hid ((wc.alloc (.cells coZ 73)).heap.size = wc.heap.size + 1) := World.size_alloc _ _
        clear hown0
        go_wp2_with (at_builtin; refine wpList_app _ rfl (.tmp 16) (.tmp 18) 71 rfl D 73 _ 7 80 Tryd.underlying71 Tryd.info_co rfl (by decide) (.slice Am met.length cm) met.length cs0 rfl hown3 (some ⟨wc.heap.size, 0, none⟩) 1 1 _ rfl hsrc ?h1 ?h2 ?h3 ?h4 ?_)
        case h1 => first | exact ⟨rfl, rfl, rfl, rfl⟩ | (intro u hu; simp at hu; rcases hu with rfl | rfl | rfl | rfl | rfl | rfl | rfl <;> rfl)
        case h2 => unfold maxLen; omega
        case h3 => omega
        case h4 => omega
        intro v5 w5 ho5 hg5 hat5
        have ho6 := ho5
        rcases ho6.2 with ⟨_, h00⟩ | ⟨g, cap, cur, hv5, hDg, hh5, hnc, hcm5, hcs5, htk⟩
        · omega
        subst hv5
        have e5 : w5.heap[sb]? = some (.cells #[.slice Am met.length cm] 127 (0, 0)) := (hg5.block sb (by rw [HSA.out]; omega) (HBM.out sb hsb)).trans ((Below.heap_alloc _ _ _ (by show sb < wc.heap.size; omega)).trans HS2.out)
        have q5 : w5.cell? ⟨sb, 0, none⟩ = some (.slice Am met.length cm) := by rw [Lib.cell_of_heap e5]; rfl
        have f5 := Lib.frozen_of_heap e5 0
        have n5 : w5.heap[w.heap.size]? = some (.cells (coA h A k.length c) 73 (0, 0)) := (hg5.block _ (by rw [HSA.out]; omega) (fun e => by have := HNE.out _ e.symm; omega)).trans ((Below.heap_alloc _ _ _ hC2).trans HE2.out)
        obtain ⟨w6, hw6⟩ : ∃ w6, w5.setCell ⟨sb, 0, none⟩ (.slice (some ⟨g, 0, none⟩) (met.length + 1) cap) = w6 := ⟨_, rfl⟩
        have ho7 : w6.ownsRow D 73 7 (.slice (some ⟨g, 0, none⟩) (met.length + 1) cap) (met.length + 1) (cs0 ++ coZ.toList) := by rw [← hw6]; exact ownsRow_setCell_below ho5 (a := ⟨sb, 0, none⟩) hsb _
        have n6 : w6.heap[w.heap.size]? = some (.cells (coA h A k.length c) 73 (0, 0)) := by rw [← hw6]; exact (Below.heap_setCell _ _ _ _ (by show w.heap.size ≠ sb; omega)).trans n5
        have KC6 : Hid (KeepX D sb wc w6) := by rw [← hw6]; exact ((KCa.out.grown hg5 (by rw [HSA.out]; omega) HOB.out).set ⟨sb, 0, none⟩ (.inl rfl) _)
        have S6 : Hid (w6.heap[sb]? = some (.cells #[.slice (some ⟨g, 0, none⟩) (met.length + 1) cap] 127 (0, 0))) := by unfold Hid; rw [← hw6]; simp [World.setCell, Array.getElem?_modify, e5]
        have HO7 := Lib.hid ho7
        have HW6 := Lib.hid hw6
        have HDG := Lib.hid hDg
        obtain ⟨y0, y1, y2, y3, y4, y5, y6⟩ := co_at_box n6
        have hl7 : cs0.length = met.length * 7 := HL0.out
        have cz : ∀ r u, coZ.toList[r]? = some u → w6.cell? ⟨g, met.length * 7 + r, none⟩ = some u := fun r u hu => by
          have := ho7.cells (g := g) rfl (met.length * 7 + r) u (by rw [List.getElem?_append_right (by omega), ← hu]; congr 1; omega)
          rwa [plain_add] at this
        have g0 := cz 0 _ rfl
        have g1 := cz 1 _ rfl
        have g2 := cz 2 _ rfl
        have g3 := cz 3 _ rfl
        have g4 := cz 4 _ rfl
        have g5 := cz 5 _ rfl
        have g6 := cz 6 _ rfl
        rw [Nat.add_zero] at g0
        have p0 := ho7.frozenAt (met.length * 7)
        have p1 := ho7.frozenAt (met.length * 7 + 1)
        have p2 := ho7.frozenAt (met.length * 7 + 2)
        have p3 := ho7.frozenAt (met.length * 7 + 3)
        have p4 := ho7.frozenAt (met.length * 7 + 4)
        have p5 := ho7.frozenAt (met.length * 7 + 5)
        have p6 := ho7.frozenAt (met.length * 7 + 6)
        rw [← hw6] at y0 y1 y2 y3 y4 y5 y6 g0 g1 g2 g3 g4 g5 g6 p0 p1 p2 p3 p4 p5 p6
        have HQ6 : Hid (∀ j, j < w.heap.size → j ≠ sb → some j ≠ (Value.slice Am met.length cm).ownBlock → w6.heap[j]? = w.heap[j]? ∧ j ≠ g) := fun j hj hn ho => ⟨by rw [← hw6]; exact (Below.heap_setCell _ _ _ _ hn).trans ((hg5.block j (by rw [HSA.out]; have := HB2S.out; omega) ho).trans ((Below.heap_alloc _ _ _ (by have := HB2S.out; omega)).trans (HB2.out.block j hj))), fun e => by
          rcases hat5 with h | h
          · exact ho (by rw [← h, e]; rfl)
          · have h2 : g = wc.heap.size + 1 := Option.some.inj h
            have := HB2S.out
            omega⟩
        clear hl7 cz ho7 n6 n5 e5 hw6 ho5 ho6 hg5 hat5 hh5 hnc hcm5 hcs5 htk hown3 hsrc hDg
        have K8 : Hid (KeepX D sb wc (((((((w6.setCell ⟨g, met.length * 7, none⟩ (.int .u8 (h.k.toNat : Int))).setCell ⟨g, met.length * 7 + 1, none⟩ (.string (str h.b))).setCell ⟨g, met.length * 7 + 2, none⟩ (.int .u64 (h.s.a.toNat : Int))).setCell ⟨g, met.length * 7 + 3, none⟩ (.int .u64 (h.s.b.toNat : Int))).setCell ⟨g, met.length * 7 + 4, none⟩ (.int .u64 (h.s.c.toNat : Int))).setCell ⟨g, met.length * 7 + 5, none⟩ (.int .u64 (h.s.d.toNat : Int))).setCell ⟨g, met.length * 7 + 6, none⟩ (.slice A k.length c))) := (((((((KC6.out.set ⟨g, met.length * 7, none⟩ (.inr HDG.out) (.int .u8 (h.k.toNat : Int))).set ⟨g, met.length * 7 + 1, none⟩ (.inr HDG.out) (.string (str h.b))).set ⟨g, met.length * 7 + 2, none⟩ (.inr HDG.out) (.int .u64 (h.s.a.toNat : Int))).set ⟨g, met.length * 7 + 3, none⟩ (.inr HDG.out) (.int .u64 (h.s.b.toNat : Int))).set ⟨g, met.length * 7 + 4, none⟩ (.inr HDG.out) (.int .u64 (h.s.c.toNat : Int))).set ⟨g, met.length * 7 + 5, none⟩ (.inr HDG.out) (.int .u64 (h.s.d.toNat : Int))).set ⟨g, met.length * 7 + 6, none⟩ (.inr HDG.out) (.slice A k.length c))
        have hgs : sb ≠ g := by have := HDG.out; omega
        have S8 : Hid ((((((((w6.setCell ⟨g, met.length * 7, none⟩ (.int .u8 (h.k.toNat : Int))).setCell ⟨g, met.length * 7 + 1, none⟩ (.string (str h.b))).setCell ⟨g, met.length * 7 + 2, none⟩ (.int .u64 (h.s.a.toNat : Int))).setCell ⟨g, met.length * 7 + 3, none⟩ (.int .u64 (h.s.b.toNat : Int))).setCell ⟨g, met.length * 7 + 4, none⟩ (.int .u64 (h.s.c.toNat : Int))).setCell ⟨g, met.length * 7 + 5, none⟩ (.int .u64 (h.s.d.toNat : Int))).setCell ⟨g, met.length * 7 + 6, none⟩ (.slice A k.length c)).heap[sb]? = some (.cells #[.slice (some ⟨g, 0, none⟩) (met.length + 1) cap] 127 (0, 0))) := by
          unfold Hid
          rw [Below.heap_setCell _ _ _ _ (by exact hgs), Below.heap_setCell _ _ _ _ (by exact hgs), Below.heap_setCell _ _ _ _ (by exact hgs), Below.heap_setCell _ _ _ _ (by exact hgs), Below.heap_setCell _ _ _ _ (by exact hgs), Below.heap_setCell _ _ _ _ (by exact hgs), Below.heap_setCell _ _ _ _ (by exact hgs)]
          exact S6.out
        have HO8 : Hid (OwnT CE P (((((((w6.setCell ⟨g, met.length * 7, none⟩ (.int .u8 (h.k.toNat : Int))).setCell ⟨g, met.length * 7 + 1, none⟩ (.string (str h.b))).setCell ⟨g, met.length * 7 + 2, none⟩ (.int .u64 (h.s.a.toNat : Int))).setCell ⟨g, met.length * 7 + 3, none⟩ (.int .u64 (h.s.b.toNat : Int))).setCell ⟨g, met.length * 7 + 4, none⟩ (.int .u64 (h.s.c.toNat : Int))).setCell ⟨g, met.length * 7 + 5, none⟩ (.int .u64 (h.s.d.toNat : Int))).setCell ⟨g, met.length * 7 + 6, none⟩ (.slice A k.length c)) D 73 (.slice (some ⟨g, 0, none⟩) (met.length + 1) cap) (met ++ [T.mk h k])) := ownT_mk HPP.out HK0.out HL0.out K8.out.2.2.2.2 (own_last HO7.out HL0.out) HCC.out HR2.out
        have HK8 := Lib.hid (HK2.out.trans K8.out)
        clear hgs K8
        go_wp2_with fail
        go_ret
        rw [HW6.out]
        exact ⟨rfl, _, S8.out, HO8.out, HK8.out, fun j hj hn ho => by rw [Below.heap_setCell _ _ _ _ (by exact (HQ6.out j hj hn ho).2), Below.heap_setCell _ _ _ _ (by exact (HQ6.out j hj hn ho).2), Below.heap_setCell _ _ _ _ (by exact (HQ6.out j hj hn ho).2), Below.heap_setCell _ _ _ _ (by exact (HQ6.out j hj hn ho).2), Below.heap_setCell _ _ _ _ (by exact (HQ6.out j hj hn ho).2), Below.heap_setCell _ _ _ _ (by exact (HQ6.out j hj hn ho).2), Below.heap_setCell _ _ _ _ (by exact (HQ6.out j hj hn ho).2)]; exact (HQ6.out j hj hn ho).1⟩
end Go.Proofs.YtgdigbbfgpenpaaDoor
namespace Go.Proofs.YtgdigbbfgpenpaaDoor
open Go.RowKit
set_option linter.unusedVariables false
set_option linter.unusedSimpArgs false

theorem once_snoc : ∀ (l met : List Co) (c : Co), once met (l ++ [c]) = once met l ++ (if (met ++ once met l).any (fun m => sameT (bareT m) (bareT c)) then [] else [c])
  | [], met, c => by
    simp only [List.nil_append, once, List.append_nil]
  | x :: l, met, c => by
    simp only [List.cons_append, once]
    split
    · exact once_snoc l met c
    · rw [once_snoc l (met ++ [x]) c, List.cons_append, List.append_assoc]
      rfl
theorem once_take {l : List Co} {k : Nat} {t : Co} (h : l[k]? = some t) : once [] (l.take (k + 1)) = once [] (l.take k) ++ (if (once [] (l.take k)).any (fun m => sameT (bareT m) (bareT t)) then [] else [t]) := by
  rw [List.take_add_one, h]
  show once [] (l.take k ++ [t]) = _
  rw [once_snoc]
  rfl
theorem once_len (l : List Co) (k : Nat) : (once [] (l.take k)).length ≤ k := by
  induction k with
  | zero => simp [once]
  | succ k ih =>
    by_cases h : k < l.length
    · rw [once_take (List.getElem?_eq_getElem h), List.length_append]
      split <;> simp <;> omega
    · rw [List.take_of_length_le (by omega)]
      rw [List.take_of_length_le (by omega)] at ih
      omega
theorem alike_same {a b : Co} (ha : mayC a = true) (hb : mayC b = true) : alikeB a b = sameT (bareT a) (bareT b) := by
  unfold alikeB
  rw [ha, hb]
  rfl
theorem any_alike {l : List Co} {t : Co} (hl : ∀ x ∈ l, mayC x = true) (ht : mayC t = true) : (l.any fun x => alikeB x t) = l.any fun m => sameT (bareT m) (bareT t) := by
  induction l with
  | nil => rfl
  | cons x l ih =>
    rw [List.any_cons, List.any_cons, ih fun y hy => hl y (List.mem_cons_of_mem _ hy), alike_same (hl x List.mem_cons_self) ht]
theorem KeepX.row {D sb : Nat} {Q : Nat → Prop} {w w' : World} {ts : List Co} {A : Option Addr} {i : Nat} (h : KeepX D sb w w') (hQ : ∀ x, Q x → x < D ∧ x ≠ sb) (hr : InRow CE Q w ts A i) : InRow CE Q w' ts A i :=
  hr.keep (fun _ h => h) fun a v ha hv => (World.cell?_of_block (a := a) (h.2.2.2.2 _ (hQ _ ha).1 (hQ _ ha).2)).trans hv
/-- what is asked of those that a sieve gets -/
def SieveOk (l : List Co) : Prop := ∀ t ∈ l, mayC t = true ∧ t.size ≤ 1000000 ∧ shortC t
/-- an element of a row, at its place -/
def RowAt (P : Nat → Prop) (w : World) (rb k : Nat) (t : Co) : Prop := ∃ h ks A1 c1, t = .mk h ks ∧ ks.length ≤ c1 ∧ InRow CE P w ks A1 0 ∧
  w.cell? ⟨rb, k * 7, none⟩ = some (.int .u8 (h.k.toNat : Int)) ∧ w.cell? ⟨rb, k * 7 + 1, none⟩ = some (.string (str h.b)) ∧ w.cell? ⟨rb, k * 7 + 2, none⟩ = some (.int .u64 (h.s.a.toNat : Int)) ∧ w.cell? ⟨rb, k * 7 + 3, none⟩ = some (.int .u64 (h.s.b.toNat : Int)) ∧
  w.cell? ⟨rb, k * 7 + 4, none⟩ = some (.int .u64 (h.s.c.toNat : Int)) ∧ w.cell? ⟨rb, k * 7 + 5, none⟩ = some (.int .u64 (h.s.d.toNat : Int)) ∧ w.cell? ⟨rb, k * 7 + 6, none⟩ = some (.slice A1 ks.length c1)
theorem RowAt.keep {P : Nat → Prop} {D sb rb k : Nat} {t : Co} {w w' : World} (h : RowAt P w rb k t) (hk : KeepX D sb w w') (hP : ∀ x, P x → x < D ∧ x ≠ sb) (hrb : rb < D ∧ rb ≠ sb) : RowAt P w' rb k t := by
  obtain ⟨h, ks, A1, c1, e, hc, hr, q0, q1, q2, q3, q4, q5, q6⟩ := h
  have kp : ∀ (o : Nat) (v : Value), w.cell? ⟨rb, o, none⟩ = some v → w'.cell? ⟨rb, o, none⟩ = some v := fun o v hv => (World.cell?_of_block (a := ⟨rb, o, none⟩) (hk.2.2.2.2 rb hrb.1 hrb.2)).trans hv
  exact ⟨h, ks, A1, c1, e, hc, hk.row hP hr, kp _ _ q0, kp _ _ q1, kp _ _ q2, kp _ _ q3, kp _ _ q4, kp _ _ q5, kp _ _ q6⟩
set_option maxRecDepth 100000 in
set_option maxHeartbeats 4000000 in
theorem idxd_any {P : Nat → Prop} {sb D rb : Nat} (l : List Co) (cap : Nat) (w : World) (hs : w.heap[sb]? = some (.cells #[.slice none 0 0] 127 (0, 0))) (hrow : ∀ (k : Nat) (t : Co), l[k]? = some t → RowAt P w rb k t) (hP : ∀ x, P x → x < D ∧ x ≠ sb) (hrb : rb < D ∧ rb ≠ sb)
    (hsb : sb < D) (hD : D ≤ w.heap.size) (hz : SieveOk l) (hlen : l.length ≤ 1000000) :
    Calls Tryd.prog 96 #[.slice (some ⟨rb, 0, none⟩) l.length cap, (.func (.func 82) #[.pointer (some ⟨sb, 0, none⟩)] #[])] w fun e w' => ∃ (k : Nat) (m' : Value), k ≤ l.length ∧ e = .returned (.int .i64 (if k < l.length then (k : Int) else -1)) ∧ once [] (l.take k) = l.take k ∧ once [] (l.take (k + 1)) = l.take k ∧
      w'.heap[sb]? = some (.cells #[m'] 127 (0, 0)) ∧ OwnT CE P w' D 73 m' (l.take k) ∧ KeepX D sb w w' := by
  have HS := Lib.hid hs
  have HRW := Lib.hid hrow
  have HPP := Lib.hid hP
  have HRB := Lib.hid hrb
  have HZ := Lib.hid hz
  have HO0 : Hid (OwnT CE P w D 73 (.slice none 0 0) (l.take 0)) := OwnT.nil_ _ _ _ _ _
  have HK0 : Hid (KeepX D sb w w) := KeepX.below (Below.refl _ _) hD
  clear hs hrow hP hrb hz
  go_enter Tryd.func96, Tryd.ntmps96
  go_wp2_with fail
  go_loopw [5, 8] (fun _ i wr => ∃ (k : Nat) (m : Value), k ≤ l.length ∧ i = .int .i64 k ∧ Hid (once [] (l.take k) = l.take k) ∧ Hid (wr.heap[sb]? = some (.cells #[m] 127 (0, 0))) ∧ Hid (OwnT CE P wr D 73 m (l.take k)) ∧ Hid (KeepX D sb w wr)) (fun _ i _ => l.length - (intOf i).toNat)
  case atStart => exact ⟨0, _, Nat.zero_le _, rfl, rfl, HS, HO0, HK0⟩
  case round =>
    obtain ⟨k, m, hk, rfl, HON, HSM, HOM, HKM⟩ := hrel
    clear HS HO0 HK0
    by_cases hlt : k < l.length
    · obtain ⟨t, hx⟩ : ∃ t, l[k]? = some t := ⟨_, List.getElem?_eq_getElem hlt⟩
      have hzt := HZ.out t (List.mem_of_getElem? hx)
      have hz1 := hzt.1
      obtain ⟨h, ks, A1, c1, rfl, hc1, hr1, q0, q1, q2, q3, q4, q5, q6⟩ := (HRW.out k t hx).keep HKM.out HPP.out HRB.out
      have CA := again_any (l.take k) m h ks A1 c1 wr HSM.out HOM.out hsb (Nat.le_trans hD HKM.out.2.2.2.1) HPP.out hc1 hr1 (fun y hy => (HZ.out y (List.mem_of_mem_take hy)).2) hzt.2 (by rw [List.length_take]; omega)
      rw [any_alike (fun y hy => (HZ.out y (List.mem_of_mem_take hy)).1) hz1] at CA
      have hot := once_take hx
      rw [HON.out] at hot
      have htk : l.take k ++ [T.mk h ks] = l.take (k + 1) := by rw [List.take_add_one, hx]; rfl
      have CAH := Lib.hid CA
      have HOT := Lib.hid hot
      have HTK := Lib.hid htk
      clear CA hot htk hx hzt hz1 hr1 HSM HOM
      generalize ((l.take k).any fun m => sameT (bareT m) (bareT (T.mk h ks))) = b at *
      cases b with
      | false =>
        go_wp2_with fail
        refine CAH.out.mono ?_
        rintro e w1 ⟨rfl, m', hs1, ho1, hk1, _⟩
        have HS1 := Lib.hid hs1
        have HO1 : Hid (OwnT CE P w1 D 73 m' (l.take (k + 1))) := by unfold Hid; rw [← HTK.out]; exact ho1
        have HK1 := Lib.hid (HKM.out.trans hk1)
        have HN1 : Hid (once [] (l.take (k + 1)) = l.take (k + 1)) := by unfold Hid; rw [HOT.out, ← HTK.out]; rfl
        clear hs1 ho1 hk1 CAH HOT HTK q0 q1 q2 q3 q4 q5 q6
        go_wp2_with fail
        go_roundw
        case rel => exact ⟨k + 1, m', by omega, by go_num, HN1, HS1, HO1, HK1⟩
        case measure => simp [intOf]; omega
      | true =>
        go_wp2_with fail
        refine CAH.out.mono ?_
        rintro e w1 ⟨rfl, m', hs1, ho1, hk1, _⟩
        have HS1 := Lib.hid hs1
        have HO1 := Lib.hid ho1
        have HK1 := Lib.hid (HKM.out.trans hk1)
        clear hs1 ho1 hk1 CAH q0 q1 q2 q3 q4 q5 q6
        go_wp2_with fail
        go_ret
        exact ⟨k, m', hk, by rw [if_pos hlt]; rfl, HON.out, by rw [HOT.out]; simp, HS1.out, HO1.out, HK1.out⟩
    · have hkl : k = l.length := by omega
      have HF : Hid (once [] (l.take (k + 1)) = l.take k) := by
        unfold Hid
        rw [List.take_of_length_le (by omega : l.length ≤ k + 1)]
        have := HON.out
        rw [List.take_of_length_le (by omega : l.length ≤ k)] at this ⊢
        exact this
      clear hkl
      go_wp2_with fail
      go_ret
      exact ⟨k, m, hk, by rw [if_neg hlt]; rfl, HON.out, HF.out, HSM.out, HOM.out, HKM.out⟩
end Go.Proofs.YtgdigbbfgpenpaaDoor
namespace Go.Proofs.YtgdigbbfgpenpaaDoor
open Go.RowKit
set_option linter.unusedVariables false
set_option linter.unusedSimpArgs false

theorem own_setCells {base g n cap size : Nat} {e : TypeId} : ∀ (vs : List Value) (o : Nat) (w : World) (xs : List Value), w.ownsRow base e size (.slice (some ⟨g, 0, none⟩) n cap) n xs → ∃ xs', (w.setCells g o vs).ownsRow base e size (.slice (some ⟨g, 0, none⟩) n cap) n xs'
  | [], _, _, xs, h => ⟨xs, h⟩
  | v :: r, o, w, xs, h => own_setCells r (o + 1) _ _ (h.stored o v).1
theorem KeepX.setCells {D sb g : Nat} {w : World} (hg : g = sb ∨ D ≤ g) : ∀ (vs : List Value) (o : Nat) (w1 : World), KeepX D sb w w1 → KeepX D sb w (w1.setCells g o vs)
  | [], _, _, h => h
  | v :: r, o, w1, h => KeepX.setCells hg r (o + 1) _ (h.set ⟨g, o, none⟩ hg v)
theorem KeepX.mono {D D' sb : Nat} {w w' : World} (h : KeepX D sb w w') (hD : D' ≤ D) : KeepX D' sb w w' := ⟨h.1, h.2.1, h.2.2.1, h.2.2.2.1, fun j hj hn => h.2.2.2.2 j (by omega) hn⟩
theorem row_setOut {P : Nat → Prop} {w : World} {rb k o : Nat} {t : Co} {vs : List Value} (h : RowAt P w rb k t) (hP : ∀ x, P x → x ≠ rb) (ho : k * 7 + 7 ≤ o ∨ o + vs.length ≤ k * 7) : RowAt P (w.setCells rb o vs) rb k t := by
  obtain ⟨h, ks, A1, c1, e, hc, hr, q0, q1, q2, q3, q4, q5, q6⟩ := h
  have kp : ∀ (i : Nat) (v : Value), k * 7 ≤ i → i < k * 7 + 7 → w.cell? ⟨rb, i, none⟩ = some v → (w.setCells rb o vs).cell? ⟨rb, i, none⟩ = some v := fun i v h1 h2 hv => by
    rw [World.cell?_setCells_out rb vs o w ⟨rb, i, none⟩ (fun _ _ => by show i < o ∨ o + vs.length ≤ i; omega)]
    exact hv
  refine ⟨h, ks, A1, c1, e, hc, hr.keep (fun _ h => h) fun a v ha hv => ?_, kp _ _ (by omega) (by omega) q0, kp _ _ (by omega) (by omega) q1, kp _ _ (by omega) (by omega) q2, kp _ _ (by omega) (by omega) q3, kp _ _ (by omega) (by omega) q4, kp _ _ (by omega) (by omega) q5, kp _ _ (by omega) (by omega) q6⟩
  rw [World.cell?_setCells_out rb vs o w a (fun e _ => absurd e (hP _ ha))]
  exact hv
theorem row_setIn {P : Nat → Prop} {w : World} {rb i : Nat} {h : CH} {ks : List Co} {A : Option Addr} {c : Nat} (hP : ∀ x, P x → x ≠ rb) (hc : ks.length ≤ c) (hr : InRow CE P w ks A 0) (hs : ∀ r, r < 7 → (w.cell? ⟨rb, i * 7 + r, none⟩).isSome = true) :
    RowAt P (w.setCells rb (i * 7) (coA h A ks.length c).toList) rb i (.mk h ks) := by
  have kp := World.cell?_setCells_in rb (coA h A ks.length c).toList (i * 7) w (fun j hj => hs j hj)
  refine ⟨h, ks, A, c, rfl, hc, hr.keep (fun _ h => h) fun a v ha hv => ?_, kp 0 (by show 0 < 7; decide), kp 1 (by show 1 < 7; decide), kp 2 (by show 2 < 7; decide), kp 3 (by show 3 < 7; decide), kp 4 (by show 4 < 7; decide), kp 5 (by show 5 < 7; decide), kp 6 (by show 6 < 7; decide)⟩
  rw [World.cell?_setCells_out rb _ _ w a (fun e _ => absurd e (hP _ ha))]
  exact hv
theorem own_some {w : World} {base g n cap : Nat} {e : TypeId} {xs : List Value} (h : w.ownsRow base e 7 (.slice (some ⟨g, 0, none⟩) n cap) n xs) {j : Nat} (hj : j < n * 7) : (w.cell? ⟨g, j, none⟩).isSome = true := by
  have hl : j < xs.length := by rw [h.1]; exact hj
  have := h.cells (g := g) rfl j xs[j] (List.getElem?_eq_getElem hl)
  rw [plain_add] at this
  rw [this]
  rfl
theorem own_same {w w' : World} {base g n cap size : Nat} {e : TypeId} {xs : List Value} (h : w.ownsRow base e size (.slice (some ⟨g, 0, none⟩) n cap) n xs) (hk : w'.heap[g]? = w.heap[g]?) : w'.ownsRow base e size (.slice (some ⟨g, 0, none⟩) n cap) n xs := by
  refine ⟨h.1, ?_⟩
  rcases h.2 with ⟨e, _⟩ | ⟨g', cap', cur, e, h1, h2, h3⟩
  · cases e
  · cases e
    exact .inr ⟨g, cap, cur, rfl, h1, hk.trans h2, h3⟩
theorem own_cut {w : World} {base g n cap i : Nat} {e : TypeId} {xs : List Value} (h : w.ownsRow base e 7 (.slice (some ⟨g, 0, none⟩) n cap) n xs) (hi : i ≤ n) : w.ownsRow base e 7 (.slice (some ⟨g, 0, none⟩) i cap) i (xs.take (i * 7)) := by
  refine ⟨by rw [List.length_take, h.1]; omega, ?_⟩
  rcases h.2 with ⟨e, _⟩ | ⟨g', cap', cur, e, h1, h2, h3, h4, h5, h6⟩
  · cases e
  · cases e
    refine .inr ⟨g, cap, cur, rfl, h1, h2, by omega, h4, h5, ?_⟩
    rw [← h6, List.take_take]
    congr 1
    omega
/-- a row of those at their places -/
theorem own_rows {P : Nat → Prop} {w : World} {base g cap : Nat} {e : TypeId} {l : List Co} {xs : List Value} (h : w.ownsRow base e 7 (.slice (some ⟨g, 0, none⟩) l.length cap) l.length xs) (hP : ∀ x, P x → x ≠ g) (hrow : ∀ (k : Nat) (t : Co), l[k]? = some t → RowAt P w g k t) :
    OwnT CE P w base e (.slice (some ⟨g, 0, none⟩) l.length cap) l := by
  refine ⟨fun b hb e => hP b hb (Option.some.inj e), xs, h, fun k t ht => ?_⟩
  obtain ⟨h1, ks, A1, c1, rfl, hc, hr, q0, q1, q2, q3, q4, q5, q6⟩ := hrow k t ht
  have hk := (List.getElem?_eq_some_iff.1 ht).1
  have rd : ∀ (r : Nat) (u : Value), r < 7 → w.cell? ⟨g, k * 7 + r, none⟩ = some u → xs[k * 7 + r]? = some u := fun r u hr hu => by
    have hl : k * 7 + r < xs.length := by rw [h.1]; omega
    have := h.cells (g := g) rfl (k * 7 + r) xs[k * 7 + r] (List.getElem?_eq_getElem hl)
    rw [plain_add, hu] at this
    rw [List.getElem?_eq_getElem hl, this]
  refine ⟨CH.cells h1 ++ [.slice A1 ks.length c1], fun j u hu => ?_, ?_⟩
  · show xs[k * 7 + j]? = some u
    have hj : j < 7 := by
      rcases Nat.lt_or_ge j 7 with h | h
      · exact h
      · rw [List.getElem?_eq_none (by simpa [CH.cells] using h)] at hu; cases hu
    refine rd j u hj ?_
    match j, hj with
    | 0, _ => rw [← hu]; exact q0
    | 1, _ => rw [← hu]; exact q1
    | 2, _ => rw [← hu]; exact q2
    | 3, _ => rw [← hu]; exact q3
    | 4, _ => rw [← hu]; exact q4
    | 5, _ => rw [← hu]; exact q5
    | 6, _ => rw [← hu]; exact q6
  · simp only [InT]
    exact ⟨A1, c1, rfl, hc, hr⟩
theorem rows_of_own {P : Nat → Prop} {w : World} {base g cap : Nat} {e : TypeId} {l : List Co} (h : OwnT CE P w base e (.slice (some ⟨g, 0, none⟩) l.length cap) l) (k : Nat) (t : Co) (ht : l[k]? = some t) : RowAt P w g k t := by
  obtain ⟨h0, cs, ho, hk⟩ := h
  obtain ⟨d, d1, d2⟩ := hk k t ht
  obtain ⟨h1, ks⟩ := t
  simp only [InT] at d2
  obtain ⟨A1, c1, rfl, hc, hr⟩ := d2
  have rd : ∀ (r : Nat) (u : Value), (CH.cells h1 ++ [.slice A1 ks.length c1])[r]? = some u → w.cell? ⟨g, k * 7 + r, none⟩ = some u := fun r u hu => by
    have := ho.cells (g := g) rfl (k * 7 + r) u (d1 r u hu)
    rwa [plain_add] at this
  exact ⟨h1, ks, A1, c1, rfl, hc, hr, rd 0 _ rfl, rd 1 _ rfl, rd 2 _ rfl, rd 3 _ rfl, rd 4 _ rfl, rd 5 _ rfl, rd 6 _ rfl⟩
theorem run_clear7 {P : Program} (w : World) (t e ty : TypeId) (z : Value) (ht : P.underlying t = some (.slice e)) (hv : ∀ w, (zeroValue e).run P w = .ok z w) (hz : z.cells.size = 7) (h1 : ∀ v ∈ z.cells, v.oneCell' = true) (b o n c : Nat) (hn : 0 < n)
    (hc : ∀ j, j < n * 7 → (w.cell? ⟨b, o + j, none⟩).isSome = true) (hf : ∀ j, j < n * 7 → w.frozen? ⟨b, o + j, none⟩ = false) :
    (Builtin.clear_ #[t] ty #[.slice (some ⟨b, o, none⟩) n c]).run P w = .ok (.tuple #[]) (w.setCells b o (Builtin.zeroCells z.cells n).toList) := by
  have hl : (Builtin.zeroCells z.cells n).toList.length = n * 7 := by simp [Builtin.zeroCells, hz]
  have hst := run_storeCells_cells (P := P) b o (Builtin.zeroCells z.cells n).toList 0 w (by rw [hl]; simpa using hc) (by rw [hl]; simpa using hf) (by
    intro v hv'
    simp only [Builtin.zeroCells, Array.toList_map, List.mem_map] at hv'
    obtain ⟨i, _, rfl⟩ := hv'
    have : i % z.cells.size < z.cells.size := Nat.mod_lt _ (by omega)
    rw [getElem!_pos z.cells _ this]
    exact h1 _ (Array.getElem_mem this))
  simp only [Nat.add_zero] at hst
  obtain ⟨m, rfl⟩ : ∃ m, n = m + 1 := ⟨n - 1, by omega⟩
  simp [Builtin.clear_, run_underlying ht, hv, hst]
end Go.Proofs.YtgdigbbfgpenpaaDoor
namespace Go.Proofs.YtgdigbbfgpenpaaDoor
open Go.RowKit
set_option linter.unusedVariables false
set_option linter.unusedSimpArgs false

theorem zero_co : ∀ w, (zeroValue 73).run Tryd.prog w = .ok (.agg coZ) w := by intro w; kernel_rfl
theorem KeepX.to_grown {b : Nat} {w w' : World} (h : KeepX w.heap.size b w w') : w.grownBy w' (some b) := ⟨h.1, h.2.1, h.2.2.1, h.2.2.2.1, fun k hk hn => h.2.2.2.2 k hk fun e => hn (by rw [e])⟩
theorem KeepX.refl (D b : Nat) (w : World) : KeepX D b w w := ⟨rfl, rfl, rfl, Nat.le_refl _, fun _ _ _ => rfl⟩
set_option maxRecDepth 100000 in
set_option maxHeartbeats 16000000 in
theorem del_any {P : Nat → Prop} {sb D base rb cap : Nat} (l : List Co) (w : World) (hs : w.heap[sb]? = some (.cells #[.slice none 0 0] 127 (0, 0))) (HO : OwnT CE P w base 73 (.slice (some ⟨rb, 0, none⟩) l.length cap) l) (hcap : l.length ≤ cap)
    (hP : ∀ x, P x → x < D ∧ x ≠ sb) (hsb : sb < base) (hbD : base ≤ D) (hD : D = w.heap.size) (hz : SieveOk l) (hlen : l.length ≤ 1000000) :
    Calls Tryd.prog 80 #[.slice (some ⟨rb, 0, none⟩) l.length cap, (.func (.func 82) #[.pointer (some ⟨sb, 0, none⟩)] #[])] w fun e w' => ∃ n cap', e = .returned (.slice (some ⟨rb, 0, none⟩) n cap') ∧ n = (once [] l).length ∧ OwnT CE P w' base 73 (.slice (some ⟨rb, 0, none⟩) n cap') (once [] l) ∧ KeepX base sb w w' := by
  have hrbd := own_inE HO (g := rb) rfl
  have hrb : rb < D ∧ rb ≠ sb := ⟨by omega, by omega⟩
  have hPr : ∀ x, P x → x ≠ rb := fun x hx e => HO.1 x hx (by rw [e]; rfl)
  have hrow := rows_of_own HO
  obtain ⟨h0, xs, hown, _⟩ := HO
  have CI := Lib.hid (idxd_any (P := P) (sb := sb) (D := D) (rb := rb) l cap w hs hrow hP hrb (by omega) (by omega) hz hlen)
  have HOWN := Lib.hid hown
  have HRW := Lib.hid hrow
  have HPP := Lib.hid hP
  have HPR := Lib.hid hPr
  have HRB := Lib.hid hrb
  have HZ := Lib.hid hz
  have hDw : D ≤ w.heap.size := by omega
  have hbr : base ≤ rb := hrbd.1
  clear hs hown hrow hP hPr hz h0 hD hrbd
  go_enter Tryd.func80, Tryd.ntmps80
  go_wp2_with fail
  refine CI.out.mono ?_
  rintro e w0 ⟨k, m, hk, rfl, e1, e2, hs0, ho0, hk0⟩
  have HS0 := Lib.hid hs0
  have HO0 := Lib.hid ho0
  have HK0 := Lib.hid hk0
  have HN1 := Lib.hid e1
  have HN2 := Lib.hid e2
  clear hs0 ho0 hk0 e1 e2 CI
  have HOW0 := Lib.hid (own_same HOWN.out (HK0.out.2.2.2.2 rb HRB.out.1 HRB.out.2))
  have HRW0 : Hid (∀ (i : Nat) (t : Co), l[i]? = some t → RowAt P w0 rb i t) := fun i t ht => (HRW.out i t ht).keep HK0.out HPP.out HRB.out
  by_cases hlt : k < l.length
  · rw [if_pos hlt]
    have hne1 : ((k : Int) == -1) = false := beq_eq_false_iff_ne.2 (by omega)
    have H1 : Hid ((once [] (l.take (k + 1))).length = k) := by unfold Hid; rw [HN2.out, List.length_take]; omega
    have HSt : Hid (∀ (a : Nat) (t : Co), (once [] (l.take (k + 1)))[a]? = some t → RowAt P w0 rb a t) := fun a t ht => by
      rw [HN2.out, List.getElem?_take] at ht
      split at ht
      · exact HRW0.out a t ht
      · cases ht
    go_wp2_with fail
    go_loopw [5, 6, 7] (fun si sj _ wr => ∃ (j i : Nat) (m : Value) (xs : List Value), j ≤ l.length ∧ i < j ∧ si = .int .i64 i ∧ sj = .int .i64 j ∧ Hid ((once [] (l.take j)).length = i) ∧ Hid (wr.heap[sb]? = some (.cells #[m] 127 (0, 0))) ∧ Hid (OwnT CE P wr D 73 m (once [] (l.take j))) ∧ Hid (KeepX base sb w wr) ∧
      Hid (wr.ownsRow base 73 7 (.slice (some ⟨rb, 0, none⟩) l.length cap) l.length xs) ∧ Hid (∀ (a : Nat) (t : Co), (once [] (l.take j))[a]? = some t → RowAt P wr rb a t) ∧ Hid (∀ (a : Nat) (t : Co), j ≤ a → l[a]? = some t → RowAt P wr rb a t)) (fun _ sj _ _ => l.length - (intOf sj).toNat)
    case atStart => exact ⟨k + 1, k, m, _, by omega, by omega, rfl, by go_num, H1, HS0, (by unfold Hid; rw [HN2.out]; exact HO0.out), Lib.hid (HK0.out.mono hbD), HOW0, HSt, fun a t _ ht => HRW0.out a t ht⟩
    case round =>
      clear H1 HSt HS0 HO0 HK0 HOW0 HRW0 HN1 HN2 hne1 hlt hk
      obtain ⟨j, i, m, xs, hj, hij, rfl, rfl, HLI, HSM, HOM, HKM, HOW, HRK, HRL⟩ := hrel
      by_cases hjl : j < l.length
      · obtain ⟨t, hx⟩ : ∃ t, l[j]? = some t := ⟨_, List.getElem?_eq_getElem hjl⟩
        have hzt := HZ.out t (List.mem_of_getElem? hx)
        have hot := once_take hx
        have HSUB : ∀ y ∈ once [] (l.take j), y ∈ l := fun y hy => List.mem_of_mem_take (once_sub _ _ _ hy)
        obtain ⟨h, ks, A1, c1, rfl, hc1, hr1, q0, q1, q2, q3, q4, q5, q6⟩ := HRL.out j t (Nat.le_refl _) hx
        obtain ⟨W1, hW1⟩ : ∃ W1, wr.alloc (.cells (coA h A1 ks.length c1) 73) = W1 := ⟨_, rfl⟩
        have hb1 : Below wr.heap.size wr W1 := by rw [← hW1]; exact below_new (Below.refl _ _) _
        have n1 : W1.heap[wr.heap.size]? = some (.cells (coA h A1 ks.length c1) 73 (0, 0)) := by rw [← hW1]; exact new_at1 _
        have hDr : D ≤ wr.heap.size := Nat.le_trans hDw HKM.out.2.2.2.1
        have hr2 := hr1.below hb1
        have K1 : Hid (KeepX D sb wr W1) := KeepX.below hb1 hDr
        have CA := again_any (once [] (l.take j)) m h ks A1 c1 W1 ((hb1.block _ (lt_of_block HSM.out)).trans HSM.out) (HOM.out.keep hb1) (by omega) (Nat.le_trans hDr hb1.size) HPP.out hc1 hr2 (fun y hy => (HZ.out y (HSUB y hy)).2) hzt.2 (by have := once_len l j; omega)
        rw [any_alike (fun y hy => (HZ.out y (HSUB y hy)).1) hzt.1] at CA
        have HBX : Hid (∀ w2 : World, (∀ a, a < W1.heap.size → a ≠ sb → some a ≠ m.ownBlock → w2.heap[a]? = W1.heap[a]?) → w2.heap[wr.heap.size]? = some (.cells (coA h A1 ks.length c1) 73 (0, 0))) := fun w2 hf => (hf _ (lt_of_block n1) (by omega) (fun e => by have := own_inE HOM.out e.symm; omega)).trans n1
        have CAH := Lib.hid CA
        have HOT := Lib.hid hot
        have HR1 := Lib.hid hr1
        have HW1 := Lib.hid hW1
        clear CA hot hzt hr1 hr2 HSUB hb1 n1 hW1
        generalize ((once [] (l.take j)).any fun m => sameT (bareT m) (bareT (T.mk h ks))) = b at *
        cases b with
        | true =>
          have HOT1 : Hid (once [] (l.take (j + 1)) = once [] (l.take j)) := by unfold Hid; rw [HOT.out]; simp
          clear HOT hx
          go_upto_region 8 with fail
          go_wp2_with fail
          rw [show wr.alloc _ = W1 from HW1.out]
          refine CAH.out.mono ?_
          rintro e w2 ⟨rfl, m', hs2, ho2, hk2, hf2⟩
          have K2 := Lib.hid (K1.out.trans hk2)
          have HS2 := Lib.hid hs2
          have HO2 : Hid (OwnT CE P w2 D 73 m' (once [] (l.take (j + 1)))) := by unfold Hid; rw [HOT1.out]; exact ho2
          have HLI2 : Hid ((once [] (l.take (j + 1))).length = i) := by unfold Hid; rw [HOT1.out]; exact HLI.out
          have HKM2 := Lib.hid (HKM.out.trans (K2.out.mono hbD))
          have HOW2 := Lib.hid (own_same HOW.out (K2.out.2.2.2.2 rb HRB.out.1 HRB.out.2))
          have HRK2 : Hid (∀ (a : Nat) (t : Co), (once [] (l.take (j + 1)))[a]? = some t → RowAt P w2 rb a t) := fun a t ht => by rw [HOT1.out] at ht; exact (HRK.out a t ht).keep K2.out HPP.out HRB.out
          have HRL2 : Hid (∀ (a : Nat) (t : Co), j + 1 ≤ a → l[a]? = some t → RowAt P w2 rb a t) := fun a t ha ht => (HRL.out a t (by omega) ht).keep K2.out HPP.out HRB.out
          clear hs2 ho2 hk2 hf2 q0 q1 q2 q3 q4 q5 q6 HOT1
          go_wp2_with fail
          go_roundw
          case rel => exact ⟨j + 1, i, m', xs, by omega, by omega, rfl, by go_num, HLI2, HS2, HO2, HKM2, HOW2, HRK2, HRL2⟩
          case measure => simp [intOf]; omega
        | false =>
          have HOT1 : Hid (once [] (l.take (j + 1)) = once [] (l.take j) ++ [T.mk h ks]) := HOT.out
          clear HOT hx
          go_upto_region 8 with fail
          go_wp2_with fail
          rw [show wr.alloc _ = W1 from HW1.out]
          refine CAH.out.mono ?_
          rintro e w2 ⟨rfl, m', hs2, ho2, hk2, hf2⟩
          have K2 := Lib.hid (K1.out.trans hk2)
          have HOW2 := Lib.hid (own_same HOW.out (K2.out.2.2.2.2 rb HRB.out.1 HRB.out.2))
          have hil : i < l.length := by omega
          have cs : ∀ r, r < 7 → (w2.cell? ⟨rb, i * 7 + r, none⟩).isSome = true := fun r hr => own_some HOW2.out (by omega)
          obtain ⟨S, hS⟩ : ∃ S, w2.setCells rb (i * 7) (coA h A1 ks.length c1).toList = S := ⟨_, rfl⟩
          have KR : KeepX w2.heap.size rb w2 S := by rw [← hS]; exact KeepX.setCells (.inl rfl) _ _ _ (KeepX.refl _ _ _)
          have hsb2 := lt_of_block hs2
          have HS3 : Hid (S.heap[sb]? = some (.cells #[m'] 127 (0, 0))) := (KR.2.2.2.2 sb hsb2 (fun e => HRB.out.2 e.symm)).trans hs2
          have hD2 : D ≤ w2.heap.size := Nat.le_trans hDr K2.out.2.2.2.1
          have HO3 : Hid (OwnT CE P S D 73 m' (once [] (l.take (j + 1)))) := by unfold Hid; rw [HOT1.out]; exact ho2.grown_bE KR.to_grown HRB.out.1 HPR.out
          obtain ⟨xs3, hxs3⟩ := own_setCells (coA h A1 ks.length c1).toList (i * 7) _ _ HOW2.out
          rw [hS] at hxs3
          have HOW3 := Lib.hid hxs3
          have HLI3 : Hid ((once [] (l.take (j + 1))).length = i + 1) := by unfold Hid; rw [HOT1.out, List.length_append, HLI.out]; rfl
          have HKM3 : Hid (KeepX base sb w S) := by rw [← hS]; exact KeepX.setCells (.inr hbr) _ _ _ (HKM.out.trans (K2.out.mono hbD))
          have hr4 : InRow CE P w2 ks A1 0 := K2.out.row HPP.out HR1.out
          have HRK3 : Hid (∀ (a : Nat) (t : Co), (once [] (l.take (j + 1)))[a]? = some t → RowAt P S rb a t) := fun a t ht => by
            rw [HOT1.out] at ht
            rw [← hS]
            by_cases ha : a < i
            · rw [List.getElem?_append_left (by rw [HLI.out]; exact ha)] at ht
              exact row_setOut ((HRK.out a t ht).keep K2.out HPP.out HRB.out) HPR.out (.inl (by omega))
            · rw [List.getElem?_append_right (by rw [HLI.out]; omega), HLI.out] at ht
              have ha0 : a - i = 0 := by have := (List.getElem?_eq_some_iff.1 ht).1; simp at this; omega
              rw [ha0] at ht
              cases ht
              have hai : a = i := by omega
              subst hai
              exact row_setIn HPR.out hc1 hr4 cs
          have HRL3 : Hid (∀ (a : Nat) (t : Co), j + 1 ≤ a → l[a]? = some t → RowAt P S rb a t) := fun a t ha ht => by
            rw [← hS]
            exact row_setOut ((HRL.out a t (by omega) ht).keep K2.out HPP.out HRB.out) HPR.out (.inr (by show i * 7 + 7 ≤ a * 7; omega))
          have n2 := HBX.out w2 hf2
          obtain ⟨y0, y1, y2, y3, y4, y5, y6⟩ := co_at_box n2
          obtain ⟨v0, g0⟩ := Option.isSome_iff_exists.1 (cs 0 (by decide))
          obtain ⟨v1, g1⟩ := Option.isSome_iff_exists.1 (cs 1 (by decide))
          obtain ⟨v2, g2⟩ := Option.isSome_iff_exists.1 (cs 2 (by decide))
          obtain ⟨v3, g3⟩ := Option.isSome_iff_exists.1 (cs 3 (by decide))
          obtain ⟨v4, g4⟩ := Option.isSome_iff_exists.1 (cs 4 (by decide))
          obtain ⟨v5, g5⟩ := Option.isSome_iff_exists.1 (cs 5 (by decide))
          obtain ⟨v6, g6⟩ := Option.isSome_iff_exists.1 (cs 6 (by decide))
          rw [Nat.add_zero] at g0
          have p0 := HOW2.out.frozenAt (i * 7)
          have p1 := HOW2.out.frozenAt (i * 7 + 1)
          have p2 := HOW2.out.frozenAt (i * 7 + 2)
          have p3 := HOW2.out.frozenAt (i * 7 + 3)
          have p4 := HOW2.out.frozenAt (i * 7 + 4)
          have p5 := HOW2.out.frozenAt (i * 7 + 5)
          have p6 := HOW2.out.frozenAt (i * 7 + 6)
          have HSS := Lib.hid hS
          clear hs2 ho2 hk2 hf2 q0 q1 q2 q3 q4 q5 q6 HOT1 hS KR hsb2 hD2 hxs3 hr4 n2 cs
          go_upto_region 10 with fail
          rw [show (((((((w2.setCell ⟨rb, i * 7, none⟩ (.int .u8 (h.k.toNat : Int))).setCell ⟨rb, i * 7 + 1, none⟩ (.string (str h.b))).setCell ⟨rb, i * 7 + 2, none⟩ (.int .u64 (h.s.a.toNat : Int))).setCell ⟨rb, i * 7 + 3, none⟩ (.int .u64 (h.s.b.toNat : Int))).setCell ⟨rb, i * 7 + 4, none⟩ (.int .u64 (h.s.c.toNat : Int))).setCell ⟨rb, i * 7 + 5, none⟩ (.int .u64 (h.s.d.toNat : Int))).setCell ⟨rb, i * 7 + 6, none⟩ (.slice A1 ks.length c1)) = S from HSS.out]
          clear y0 y1 y2 y3 y4 y5 y6 g0 g1 g2 g3 g4 g5 g6 p0 p1 p2 p3 p4 p5 p6 HSS
          go_wp2_with fail
          go_roundw
          case rel => exact ⟨j + 1, i + 1, m', xs3, by omega, by omega, by go_num, by go_num, HLI3, HS3, HO3, HKM3, HOW3, HRK3, HRL3⟩
          case measure => simp [intOf]; omega
      · have hjn : j = l.length := by omega
        have HF : Hid ((once [] l).length = i) := by
          have := HLI.out
          rwa [List.take_of_length_le (by omega : l.length ≤ j)] at this
        have HRF : Hid (∀ (a : Nat) (t : Co), (once [] l)[a]? = some t → RowAt P wr rb a t) := by
          have := HRK.out
          rwa [List.take_of_length_le (by omega : l.length ≤ j)] at this
        have hil : i < l.length := by omega
        have hcl : ∀ ty, (Builtin.clear_ #[71] ty #[.slice (some ⟨rb, i * 7, none⟩) (l.length - i) (cap - i)]).run Tryd.prog wr = .ok (.tuple #[]) (wr.setCells rb (i * 7) (Builtin.zeroCells coZ (l.length - i)).toList) := fun ty =>
          run_clear7 wr _ _ ty (.agg coZ) Tryd.underlying71 zero_co rfl (by intro v hv; simp [Value.cells] at hv; rcases hv with rfl | rfl | rfl | rfl <;> rfl) rb (i * 7) _ _ (by omega) (fun a ha => own_some HOW.out (by omega)) (fun a ha => HOW.out.frozenAt _)
        obtain ⟨S, hS⟩ : ∃ S, wr.setCells rb (i * 7) (Builtin.zeroCells coZ (l.length - i)).toList = S := ⟨_, rfl⟩
        obtain ⟨xs3, hxs3⟩ := own_setCells (Builtin.zeroCells coZ (l.length - i)).toList (i * 7) _ _ HOW.out
        rw [hS] at hxs3
        have hcut := own_cut hxs3 (Nat.le_of_lt hil)
        have HK3 : Hid (KeepX base sb w S) := by rw [← hS]; exact KeepX.setCells (.inr hbr) _ _ _ HKM.out
        have HFin : Hid (OwnT CE P S base 73 (.slice (some ⟨rb, 0, none⟩) i cap) (once [] l)) := by
          have h2 : ∀ (a : Nat) (t : Co), (once [] l)[a]? = some t → RowAt P S rb a t := fun a t ht => by
            have := (List.getElem?_eq_some_iff.1 ht).1
            have hF := HF.out
            rw [← hS]
            exact row_setOut (HRF.out a t ht) HPR.out (.inl (by omega))
          have h3 := hcut
          rw [← HF.out] at h3 ⊢
          exact own_rows h3 HPR.out h2
        rw [hS] at hcl
        have HFL := Lib.hid HF.out.symm
        clear hjn hS hxs3 hcut HLI HSM HOM HOW HRK HRL HRF HF
        go_wp2_with fail
        go_ret
        exact ⟨_, _, rfl, HFL.out, HFin.out, HK3.out⟩
  · have hkl : k = l.length := by omega
    have HF : Hid (once [] l = l) := by
      have := HN1.out
      rw [List.take_of_length_le (by omega : l.length ≤ k)] at this
      exact this
    have hb := HK0.out.mono hbD
    rw [if_neg hlt]
    clear hkl
    go_wp2_with fail
    go_ret
    exact ⟨_, _, rfl, by rw [HF.out], by rw [HF.out]; exact own_rows HOW0.out HPR.out HRW0.out, hb⟩
end Go.Proofs.YtgdigbbfgpenpaaDoor
namespace Go.Proofs.YtgdigbbfgpenpaaDoor
open Go.RowKit
set_option linter.unusedVariables false
set_option linter.unusedSimpArgs false

def SimpOk (f : FuncId) (h : CH) (ks : List Co) : Prop := ∀ (P : Nat → Prop) (A : Option Addr) (c : Nat) (w : World), ks.length ≤ c → InRow CE P w ks A 0 →
  Calls Tryd.prog f #[coV h A ks.length c] w (CoPostX P (simpC (.mk h ks)) w)
def SimpOkT (f : FuncId) (t : Co) : Prop := ∀ h ks, t = .mk h ks → SimpOk f h ks
set_option maxRecDepth 100000 in
set_option maxHeartbeats 400000 in
theorem idx_nil (fv : Value) (w : World) : Calls Tryd.prog 96 #[.slice none 0 0, fv] w fun e w' => e = .returned (.int .i64 (-1)) ∧ Below w.heap.size w w' := by
  have hb := Below.refl w.heap.size w
  go_enter Tryd.func96, Tryd.ntmps96
  go_wp2_with fail
  have HB := Lib.hid hb
  clear hb
  go_loopw [5, 8] (fun _ i wr => i = .int .i64 0 ∧ Hid (Below w.heap.size w wr)) (fun _ _ _ => 0)
  case atStart => exact ⟨rfl, HB⟩
  case round =>
    obtain ⟨rfl, hb⟩ := hrel
    go_wp2_with fail
    go_ret
    exact ⟨rfl, hb.out⟩
set_option maxRecDepth 100000 in
set_option maxHeartbeats 400000 in
theorem del_nil (fv : Value) (w : World) : Calls Tryd.prog 80 #[.slice none 0 0, fv] w fun e w' => e = .returned (.slice none 0 0) ∧ Below w.heap.size w w' := by
  have HI := Lib.hid (idx_nil fv w)
  go_enter Tryd.func80, Tryd.ntmps80
  go_wp2_with fail
  refine HI.out.mono ?_
  rintro e w1 ⟨rfl, hb⟩
  go_wp2_with fail
  go_ret
  exact ⟨rfl, hb⟩
set_option maxRecDepth 100000 in
set_option maxHeartbeats 400000 in
theorem simp_leaf {h : CH} {ks : List Co} (h4 : h.k ≠ 4) (h5 : h.k ≠ 5) : SimpOk 58 h ks := by
  intro P A c w hc hr
  have g4 : ((h.k.toNat : Int) == 4) = false := beq_eq_false_iff_ne.2 fun e => h4 (by have e2 : h.k.toNat = 4 := by { omega }; exact UInt8.toNat_inj.1 (e2.trans (by decide)))
  have g5 : ((h.k.toNat : Int) == 5) = false := beq_eq_false_iff_ne.2 fun e => h5 (by have e2 : h.k.toNat = 5 := by { omega }; exact UInt8.toNat_inj.1 (e2.trans (by decide)))
  have g6 : ((h.k.toNat : Int) != 5) = true := by unfold bne; rw [g5]; rfl
  have HSQ : Hid (simpC (.mk h ks) = .mk h ks) := by unfold Hid; simp [simpC, h4, h5]
  obtain ⟨V, hV⟩ : ∃ V, w.alloc (.cells (coA h A ks.length c) 73) = V := ⟨_, rfl⟩
  have hbV : Below w.heap.size w V := by rw [← hV]; exact below_new (Below.refl _ _) _
  have hsV : V.heap.size = w.heap.size + 1 := by rw [← hV]; simp
  have e1 : V.heap[w.heap.size]? = some (.cells (coA h A ks.length c) 73 (0, 0)) := by rw [← hV]; exact new_at1 _
  obtain ⟨W, hW⟩ : ∃ W, V.alloc (.cells coZ 73) = W := ⟨_, rfl⟩
  have hbW : Below V.heap.size V W := by rw [← hW]; exact below_new (Below.refl _ _) _
  have e2 : W.heap[w.heap.size + 1]? = some (.cells coZ 73 (0, 0)) := by rw [← hW, ← hsV]; exact new_at1 _
  have e3 := (hbW.block _ (lt_of_block e1)).trans e1
  obtain ⟨x0, x1, x2, x3, x4, x5, x6⟩ := co_at_box e3
  obtain ⟨⟨y0, y1, y2, y3, y4, y5, y6⟩, f0, f1, f2, f3, f4, f5, f6⟩ := co_cells e2
  have HB := Lib.hid (below_from hbV hbW)
  have HR := Lib.hid ((hr.there.below hbV).below hbW)
  have HC := Lib.hid hc
  rw [← hV] at hW
  have HE := Lib.hid hW
  clear hr hc hV hbV hbW hsV hW e1 e2 e3 h4 h5
  go_enter Tryd.func58, Tryd.ntmps58
  go_upto_region 18 with fail
  rw [show (w.alloc (.cells (coA h A ks.length c) 73)).alloc (.cells coZ 73) = W from HE.out]
  go_wp2_with fail
  refine bodyPost_ret (v := coV h A ks.length c) (by simp [results, Tryd.results58, go_sem, y0, y1, y2, y3, y4, y5, y6]; try exact ⟨rfl, rfl, rfl, rfl⟩) rfl ⟨h, ks, A, c, rfl, HSQ.out, HC.out, (row_seven HR.out fun x hx => by have := hx.2; omega).weak fun x hx => .inl hx.1, seven_below HB.out (by omega)⟩
end Go.Proofs.YtgdigbbfgpenpaaDoor
namespace Go.Proofs.YtgdigbbfgpenpaaDoor
open Go.RowKit
set_option linter.unusedVariables false
set_option linter.unusedSimpArgs false

end Go.Proofs.YtgdigbbfgpenpaaDoor
namespace Go.Proofs.YtgdigbbfgpenpaaDoor
open Go.RowKit
set_option linter.unusedVariables false
set_option linter.unusedSimpArgs false

def flatL (ts : List Co) : List Co := ts.flatMap fun t => flat1 (simpC t)
theorem flatL_map (ts : List Co) : flatL ts = (ts.map simpC).flatMap flat1 := by
  unfold flatL
  induction ts with
  | nil => rfl
  | cons t ts ih => simp only [List.flatMap_cons, List.map_cons, ih]
theorem flatL_take {ks : List Co} {k : Nat} {t : Co} (hx : ks[k]? = some t) : flatL (ks.take (k + 1)) = flatL (ks.take k) ++ flat1 (simpC t) := by
  unfold flatL
  rw [List.take_add_one, hx, List.flatMap_append]
  simp
theorem flatL_le (ks : List Co) (k : Nat) : (flatL (ks.take k)).length ≤ (flatL ks).length := by
  unfold flatL
  conv => rhs; rw [← List.take_append_drop k ks, List.flatMap_append, List.length_append]
  omega
theorem flat1_none {t : Co} (h : t.head.k = 1) : flat1 t = [] := by unfold flat1; rw [if_pos h]
theorem flat1_kids {t : Co} (h : t.head.k = 5) : flat1 t = t.kids.map (fuseC t.head.b) := by unfold flat1; rw [if_neg (by rw [h]; decide), if_pos h]
theorem flat1_one {t : Co} (h : t.head.k ≠ 1) (h5 : t.head.k ≠ 5) : flat1 t = [t] := by unfold flat1; rw [if_neg h, if_neg h5]
theorem kindN {k : UInt8} {n : Nat} (hn : n < 256) (h : k ≠ UInt8.ofNat n) : ((k.toNat : Int) == (n : Int)) = false :=
  beq_eq_false_iff_ne.2 fun e => h (by have e2 : k.toNat = n := by { omega }; exact u8_is e2)
theorem kindY {k : UInt8} {n : Nat} (hn : n < 256) (h : k = UInt8.ofNat n) : ((k.toNat : Int) == (n : Int)) = true := by
  subst h
  simp
  omega
/-- what flat leaves: a row of its own -/
def FlatPost (P : Nat → Prop) (L : List Co) (w : World) (e : Ending) (w' : World) : Prop := ∃ v okk, e = .returned v ∧ OwnT CE okk w' w.heap.size 73 v L ∧ (∀ x, okk x → ((P x ∧ x < w.heap.size) ∨ w.heap.size ≤ x) ∧ x < w'.heap.size) ∧ Below w.heap.size w w'
set_option maxRecDepth 100000 in
set_option maxHeartbeats 16000000 in
theorem flat_any {ks : List Co} (hk : ∀ t ∈ ks, SimpOkT 58 t) (hlk : ks.length ≤ 1000000) (hlen : (flatL ks).length ≤ 1000000) (hfb : ∀ t ∈ ks, ∀ y ∈ (simpC t).kids, (simpC t).head.b.length + y.head.b.length ≤ 9223372036854775807)
    (P : Nat → Prop) (A : Option Addr) (c : Nat) (w : World) (hc : ks.length ≤ c) (hr : InRow CE P w ks A 0) :
    Calls Tryd.prog 81 #[.slice A ks.length c] w (FlatPost P (flatL ks) w) := by
  have HK0 := Lib.hid hk
  have HLEN := Lib.hid hlen
  have HFB := Lib.hid hfb
  have HR := Lib.hid hr.there
  have hO0 : Hid (OwnT CE (fun _ => False) w w.heap.size 73 (.slice none 0 0) (flatL (ks.take 0))) := OwnT.nil_ _ _ _ _ _
  have HB0 := Lib.hid (Below.refl w.heap.size w)
  clear hr hk hlen hfb
  go_enter Tryd.func81, Tryd.ntmps81
  go_wp2_with fail
  go_loopw [3, 11] (fun oo i wr => ∃ (k : Nat) (o : Value) (okk : Nat → Prop), o = oo ∧ k ≤ ks.length ∧ i = .int .i64 (k : Nat) ∧ Hid (OwnT CE okk wr w.heap.size 73 o (flatL (ks.take k))) ∧ Hid (∀ x, okk x → ((P x ∧ x < w.heap.size) ∨ w.heap.size ≤ x) ∧ x < wr.heap.size) ∧ Hid (Below w.heap.size w wr)) (fun _ i _ => ks.length - (intOf i).toNat)
  case atStart => exact ⟨0, _, _, rfl, Nat.zero_le _, rfl, hO0, Lib.hid (fun x hx => hx.elim), HB0⟩
  case round =>
    clear hO0 HB0
    obtain ⟨k, o, okk, rfl, hk, rfl, HOw, HK, HB⟩ := hrel
    by_cases hlt : k < ks.length
    · obtain ⟨t, ad, h1, ls, A1, c1, hA, hx, rfl, hc1, hr1, q0, q1, q2, q3, q4, q5, q6⟩ := co_at (HR.out.below HB.out) hlt
      subst hA
      have HTk := Lib.hid (flatL_take hx)
      have HLk : Hid ((flatL (ks.take (k + 1))).length ≤ 1000000) := Nat.le_trans (flatL_le ks _) HLEN.out
      obtain ⟨W1, hW1⟩ : ∃ W1, wr.alloc (.cells (coA h1 A1 ls.length c1) 73) = W1 := ⟨_, rfl⟩
      have hb1 : Below wr.heap.size wr W1 := by rw [← hW1]; exact below_new (Below.refl _ _) _
      have n1 : W1.heap[wr.heap.size]? = some (.cells (coA h1 A1 ls.length c1) 73 (0, 0)) := by rw [← hW1]; exact new_at1 _
      have HC := Lib.hid (HK0.out _ (List.mem_of_getElem? hx) h1 ls rfl (fun b => P b ∧ b < w.heap.size) A1 c1 W1 hc1 (hr1.below hb1))
      have HF1 := Lib.hid (HFB.out _ (List.mem_of_getElem? hx))
      generalize simpC (T.mk h1 ls) = tb at *
      have HB1 := Lib.hid hb1
      have HW1 := Lib.hid hW1
      have hwr := HB.out.size
      have N1 := Lib.hid n1
      clear hx hr1 hb1 hW1 n1
      go_upto_region 5 with fail
      rw [show wr.alloc _ = W1 from HW1.out]
      clear q0 q1 q2 q3 q4 q5 q6 HW1
      obtain ⟨x0, x1, x2, x3, x4, x5, x6⟩ := co_at_box N1.out
      go_wp2_with fail
      refine HC.out.mono ?_
      rintro e w2 ⟨h2, k2, A2, c2, rfl, e2, hc2, hr2, hb2⟩
      clear HC x0 x1 x2 x3 x4 x5 x6 N1
      obtain ⟨W3, hW3⟩ : ∃ W3, w2.alloc (.cells (coA h2 A2 k2.length c2) 73) = W3 := ⟨_, rfl⟩
      have hb3 : Below w2.heap.size w2 W3 := by rw [← hW3]; exact below_new (Below.refl _ _) _
      have n3 : W3.heap[w2.heap.size]? = some (.cells (coA h2 A2 k2.length c2) 73 (0, 0)) := by rw [← hW3]; exact new_at1 _
      have hz3 := below_from HB1.out (below_from hb2 hb3)
      have hs1 := HB1.out.size
      have hs2 := hb2.size
      have hs3 := lt_of_block n3
      have HBW := Lib.hid (below_from HB.out hz3)
      have HO3 := Lib.hid (HOw.out.keep hz3)
      have HK3 : Hid (∀ x, okk x → ((P x ∧ x < w.heap.size) ∨ w.heap.size ≤ x) ∧ x < W3.heap.size) := fun x hx => by have := HK.out x hx; exact ⟨this.1, by omega⟩
      have hr3 : InRow CE (fun x => (P x ∧ x < w.heap.size) ∨ (wr.heap.size ≤ x ∧ x < W3.heap.size)) W3 k2 A2 0 := (hr2.there.below hb3).weak fun x hx => by rcases hx.1 with h | h; exact .inl h; exact .inr ⟨by omega, by omega⟩
      have HR3 := Lib.hid hr3
      have hne : Hid (∀ x, ((P x ∧ x < w.heap.size) ∨ (wr.heap.size ≤ x ∧ x < W3.heap.size)) → some x ≠ o.ownBlock) := fun x hx e => by
        have := own_inE HOw.out e.symm
        rcases hx with h | h
        · have := h.2; omega
        · omega
      have N3 := Lib.hid n3
      have HW3 := Lib.hid hW3
      have hlt2 : Hid (w2.heap.size < W3.heap.size) := hs3
      have hge2 : Hid (wr.heap.size ≤ w2.heap.size) := by unfold Hid; omega
      have HZ3 := Lib.hid hz3
      clear hb2 hr2 hb3 hW3 n3 hr3 hz3 HB1
      go_upto_region 6 with fail
      rw [show w2.alloc _ = W3 from HW3.out]
      clear HW3
      obtain ⟨x0, x1, x2, x3, x4, x5, x6⟩ := co_at_box N3.out
      by_cases k1 : h2.k = 1
      · have g1 : ((h2.k.toNat : Int) == 1) = true := kindY (n := 1) (by decide) k1
        have HT1 : Hid (flatL (ks.take (k + 1)) = flatL (ks.take k)) := by unfold Hid; rw [HTk.out, e2, flat1_none (t := .mk h2 k2) k1, List.append_nil]
        clear k1 e2 HTk HOw HK HB
        go_wp2_with fail
        go_roundw
        case rel => exact ⟨k + 1, _, okk, rfl, by omega, by go_num, by rw [HT1.out]; exact HO3, HK3, HBW⟩
        case measure => simp [intOf]; omega
      have g1 : ((h2.k.toNat : Int) == 1) = false := kindN (n := 1) (by decide) k1
      by_cases k5 : h2.k = 5
      · have g5 : ((h2.k.toNat : Int) == 5) = true := kindY (n := 5) (by decide) k5
        have HT5 : Hid (flatL (ks.take (k + 1)) = flatL (ks.take k) ++ k2.map (fuseC h2.b)) := by unfold Hid; rw [HTk.out, e2, flat1_kids (t := .mk h2 k2) k5]; rfl
        have HF2 : Hid (∀ y ∈ k2, h2.b.length + y.head.b.length ≤ 9223372036854775807) := by have := HF1.out; rw [e2] at this; exact this
        have HO4 : Hid (OwnT CE okk W3 w.heap.size 73 o (flatL (ks.take k) ++ (k2.take 0).map (fuseC h2.b))) := by unfold Hid; rw [List.take_zero, List.map_nil, List.append_nil]; exact HO3.out
        have HLL : Hid ((flatL (ks.take k)).length + k2.length ≤ 1000000) := by have := HLk.out; rw [HT5.out, List.length_append, List.length_map] at this; exact this
        have hkl : k + 1 ≤ ks.length := hlt
        have hk2l : k2.length ≤ 1000000 := by have := HLL.out; omega
        have HZW := HZ3.out.size
        have hsw := HBW.out.size
        clear k1 k5 e2 HTk HOw HK HB HF1 HLk HO3 hs1 hs2 hs3 hlt hk
        generalize flatL (ks.take k) = L at *
        go_wp2_with fail
        clear x0 x1 x2 x3 x4 x5 x6
        obtain ⟨wo, rfl⟩ : ∃ x, x = wr := ⟨_, rfl⟩
        obtain ⟨bx, hbx⟩ : ∃ x, x = w2.heap.size := ⟨_, rfl⟩
        rw [← hbx] at N3 hlt2 hge2 ⊢
        clear hbx
        go_loopw [3, 30] (fun oo i wr => ∃ (j : Nat) (o : Value) (okk : Nat → Prop), o = oo ∧ j ≤ k2.length ∧ i = .int .i64 (j : Nat) ∧ Hid (OwnT CE okk wr w.heap.size 73 o (L ++ (k2.take j).map (fuseC h2.b))) ∧ Hid (∀ x, okk x → ((P x ∧ x < w.heap.size) ∨ w.heap.size ≤ x) ∧ x < wr.heap.size) ∧
          Hid (∀ x, ((P x ∧ x < w.heap.size) ∨ (wo.heap.size ≤ x ∧ x < W3.heap.size)) → some x ≠ o.ownBlock) ∧ Hid (InRow CE (fun x => (P x ∧ x < w.heap.size) ∨ (wo.heap.size ≤ x ∧ x < W3.heap.size)) wr k2 A2 0) ∧ Hid (wr.heap[bx]? = some (.cells (coA h2 A2 k2.length c2) 73 (0, 0))) ∧ Hid (W3.heap.size ≤ wr.heap.size) ∧ Hid (Below w.heap.size w wr)) (fun _ i _ => k2.length - (intOf i).toNat)
        case atStart => exact ⟨0, _, okk, rfl, Nat.zero_le _, rfl, HO4, HK3, hne, HR3, N3, Nat.le_refl _, HBW⟩
        case round =>
          clear HO4 HK3 hne HR3 N3 HBW HZ3
          obtain ⟨j, o, okk, rfl, hj, rfl, HOj, HKj, hnj, HRj, NJ, HSJ, HBj⟩ := hrel
          by_cases hltj : j < k2.length
          · obtain ⟨y, ad2, hy, ky, Ay, cy, hA2, hxy, rfl, hcy, hry, q0, q1, q2, q3, q4, q5, q6⟩ := co_at HRj.out hltj
            subst hA2
            have hfl := HF2.out _ (List.mem_of_getElem? hxy)
            have HTj : Hid (L ++ (k2.take (j + 1)).map (fuseC h2.b) = (L ++ (k2.take j).map (fuseC h2.b)) ++ [fuseC h2.b (.mk hy ky)]) := by
              unfold Hid
              rw [List.take_add_one, hxy]
              simp
            have HLj : Hid ((L ++ (k2.take j).map (fuseC h2.b)).length < 1000000) := by
              unfold Hid
              rw [List.length_append, List.length_map, List.length_take]
              have := HLL.out
              omega
            generalize L ++ (k2.take j).map (fuseC h2.b) = LL at *
            obtain ⟨W4, hW4⟩ : ∃ W4, wr.alloc (.cells (coA hy Ay ky.length cy) 73) = W4 := ⟨_, rfl⟩
            have hb4 : Below wr.heap.size wr W4 := by rw [← hW4]; exact below_new (Below.refl _ _) _
            have n4 : W4.heap[wr.heap.size]? = some (.cells (coA hy Ay ky.length cy) 73 (0, 0)) := by rw [← hW4]; exact new_at1 _
            have N4 := Lib.hid n4
            have HB4 := Lib.hid hb4
            have HW4 := Lib.hid hW4
            have nx4 := (hb4.block _ (lt_of_block NJ.out)).trans NJ.out
            have HRY := Lib.hid hry
            clear hxy hb4 hW4 n4 hry
            go_upto_region 13 with fail
            rw [show wr.alloc _ = W4 from HW4.out]
            clear q0 q1 q2 q3 q4 q5 q6 HW4
            obtain ⟨x0, x1, x2, x3, x4, x5, x6⟩ := co_at_box N4.out
            obtain ⟨z0, z1, z2, z3, z4, z5, z6⟩ := co_at_box nx4
            clear nx4
            go_wp2_with fail
            refine (fuse_any h2.b hy Ay ky.length cy _ hfl).mono ?_
            rintro e w5 ⟨rfl, hb5⟩
            clear x0 x1 x2 x3 x4 x5 x6 z0 z1 z2 z3 z4 z5 z6 N4 hfl
            have hz5 := below_from HB4.out hb5
            have hry5 : InRow CE (fun x => ((P x ∧ x < w.heap.size) ∨ (wo.heap.size ≤ x ∧ x < W3.heap.size)) ∨ wr.heap.size ≤ x) w5 ky Ay 0 := (HRY.out.below hz5).weak fun x hx => .inl hx
            have hsj := HSJ.out
            obtain ⟨cs0, hown0, hsrc, happ⟩ := co_app (P := fun x => (P x ∧ x < w.heap.size) ∨ (wo.heap.size ≤ x ∧ x < W3.heap.size)) HOj.out (fun x hx => (HKj.out x hx).2) (fun x hx => ⟨by rcases hx with h | h; omega; omega, hnj.out x hx⟩) hz5 (fuse_head h2.b hy ky) hcy hry5
            have hXb : Below w5.heap.size w5 (w5.alloc (.cells (coA (fuseH h2.b hy) Ay ky.length cy) 73)) := below_new (Below.refl _ _) _
            have hb6 := below_from hz5 hXb
            have NJ6 := Lib.hid ((hb6.block _ (lt_of_block NJ.out)).trans NJ.out)
            have HRJ6 := Lib.hid (HRj.out.below hb6)
            have HB6 := Lib.hid (below_from HBj.out hb6)
            have hsz5 := hz5.size
            have HSZ5 := Lib.hid hsz5
            have HAPP := Lib.hid happ
            clear hz5 hb6 hXb HB4 hb5 hry5 happ
            go_wp2_with (at_builtin; refine wpList_app _ rfl (.tmp 34) (.tmp 39) 71 rfl w.heap.size 73 _ 7 80 Tryd.underlying71 Tryd.info_co rfl (by decide) _ _ _ rfl hown0 (some ⟨w5.heap.size, 0, none⟩) 1 1 _ rfl hsrc ?h1 ?h2 ?h3 ?h4 ?_)
            case h1 => first | exact coA_one (fuseH h2.b hy) Ay ky.length cy | exact ⟨rfl, rfl, rfl, rfl, rfl, rfl, rfl⟩ | trivial
            case h2 => have := HLj.out; unfold maxLen; omega
            case h3 => have := HLj.out; omega
            case h4 => have := HSZ5.out; have := HSJ.out; (try rw [World.size_alloc]); omega
            intro v5 w6 ho5 hg5 hat5
            have hs6 := hg5.size
            rw [World.size_alloc] at hs6
            have HO6 := Lib.hid (HAPP.out v5 w6 ho5 hg5 (by rw [World.size_alloc]; exact hat5))
            have N6 := Lib.hid ((hg5.block _ (lt_of_block NJ6.out) (hnj.out _ (.inr ⟨hge2.out, hlt2.out⟩))).trans NJ6.out)
            have HR6 := Lib.hid (HRJ6.out.grown hg5 hnj.out)
            have HB7 := Lib.hid (HB6.out.grown hg5 HB6.out.size (fun j hj => by have := own_base hown0 j hj; omega))
            have HK6 : Hid (∀ x, (okk x ∨ ((P x ∧ x < w.heap.size) ∨ (wo.heap.size ≤ x ∧ x < W3.heap.size)) ∨ (wr.heap.size ≤ x ∧ x < w5.heap.size)) → ((P x ∧ x < w.heap.size) ∨ w.heap.size ≤ x) ∧ x < w6.heap.size) := fun x hx => by
              rcases hx with hx | (hx | hx) | hx
              · have := HKj.out x hx; exact ⟨this.1, by omega⟩
              · exact ⟨.inl hx, by omega⟩
              · exact ⟨.inr (by omega), by omega⟩
              · exact ⟨.inr (by omega), by omega⟩
            have HN6 : Hid (∀ x, ((P x ∧ x < w.heap.size) ∨ (wo.heap.size ≤ x ∧ x < W3.heap.size)) → some x ≠ v5.ownBlock) := fun x hx e => by
              rcases hat5 with h | h
              · rw [h] at e; exact hnj.out x hx e
              · rw [h] at e
                have e := Option.some.inj e
                rcases hx with h | h
                · have := h.2; omega
                · omega
            have HS6 : Hid (W3.heap.size ≤ w6.heap.size) := by unfold Hid; omega
            clear ho5 hg5 hat5 hown0 hsrc HAPP NJ6 HRJ6 HB6 hs6 hsz5 HSZ5 hsj HOj HKj hnj HRj NJ HSJ HBj HRY
            go_wp2_with fail
            go_roundw
            case rel => exact ⟨j + 1, _, _, rfl, by omega, by go_num, by rw [HTj.out]; exact HO6, HK6, HN6, HR6, N6, HS6, HB7⟩
            case measure => simp [intOf]; omega
          · have hjj : j = k2.length := by omega
            subst hjj
            have HO7 : Hid (OwnT CE okk wr w.heap.size 73 o (flatL (ks.take (k + 1)))) := by have := HOj.out; rw [List.take_length, ← HT5.out] at this; exact this
            clear HOj hltj hj HLL HF2 HT5
            go_wp2_with fail
            go_roundw
            case rel => exact ⟨k + 1, _, okk, rfl, hkl, by go_num, HO7, HKj, HBj⟩
            case measure => simp [intOf]; omega
      · have g5 : ((h2.k.toNat : Int) == 5) = false := kindN (n := 5) (by decide) k5
        have HT1 : Hid (flatL (ks.take (k + 1)) = flatL (ks.take k) ++ [tb]) := by unfold Hid; rw [HTk.out, e2, flat1_one (t := .mk h2 k2) k1 k5]
        have HLk2 : Hid ((flatL (ks.take k)).length < 1000000) := by have := HLk.out; rw [HT1.out, List.length_append] at this; simp at this; unfold Hid; omega
        obtain ⟨cs0, hown0, hsrc, happ⟩ := co_app (P := fun x => P x ∧ x < w.heap.size) HOw.out (fun x hx => (HK.out x hx).2) (fun x hx => ⟨by have := hx.2; omega, hne.out x (.inl hx)⟩) HZ3.out e2 hc2 (HR3.out.weak fun x hx => by rcases hx with h | h; exact .inl h; exact .inr h.1)
        have HAPP := Lib.hid happ
        have hXb : Below W3.heap.size W3 (W3.alloc (.cells (coA h2 A2 k2.length c2) 73)) := below_new (Below.refl _ _) _
        have HB6 := Lib.hid (below_from HBW.out hXb)
        have HZW := HZ3.out.size
        clear k1 k5 e2 HTk HO3 HK3 hne HR3 N3 HBW HZ3 hXb happ
        go_wp2_with (at_builtin; refine wpList_app _ rfl (.tmp 19) (.tmp 21) 71 rfl w.heap.size 73 _ 7 80 Tryd.underlying71 Tryd.info_co rfl (by decide) _ _ _ rfl hown0 (some ⟨W3.heap.size, 0, none⟩) 1 1 _ rfl hsrc ?h1 ?h2 ?h3 ?h4 ?_)
        case h1 => first | exact coA_one h2 A2 k2.length c2 | exact ⟨rfl, rfl, rfl, rfl, rfl, rfl, rfl⟩ | trivial
        case h2 => have := HLk2.out; unfold maxLen; omega
        case h3 => have := HLk2.out; omega
        case h4 => (try rw [World.size_alloc]); omega
        intro v5 w6 ho5 hg5 hat5
        have hs6 := hg5.size
        rw [World.size_alloc] at hs6
        have HO6 := Lib.hid (HAPP.out v5 w6 ho5 hg5 (by rw [World.size_alloc]; exact hat5))
        have HB7 := Lib.hid (HB6.out.grown hg5 HB6.out.size (fun j hj => by have := own_base hown0 j hj; omega))
        have HK6 : Hid (∀ x, (okk x ∨ (P x ∧ x < w.heap.size) ∨ (wr.heap.size ≤ x ∧ x < W3.heap.size)) → ((P x ∧ x < w.heap.size) ∨ w.heap.size ≤ x) ∧ x < w6.heap.size) := fun x hx => by
          rcases hx with hx | hx | hx
          · have := HK.out x hx; exact ⟨this.1, by omega⟩
          · exact ⟨.inl hx, by omega⟩
          · exact ⟨.inr (by omega), by omega⟩
        clear ho5 hg5 hat5 hown0 hsrc HAPP HB6 hs6 HOw HK HB x0 x1 x2 x3 x4 x5 x6
        go_wp2_with fail
        go_roundw
        case rel => exact ⟨k + 1, _, _, rfl, by omega, by go_num, by rw [HT1.out]; exact HO6, HK6, HB7⟩
        case measure => simp [intOf]; omega
    · have hkk : k = ks.length := by omega
      subst hkk
      have HOw2 : Hid (OwnT CE okk wr w.heap.size 73 o (flatL ks)) := by have := HOw.out; rw [List.take_length] at this; exact this
      clear HOw hlt hk
      go_wp2_with fail
      go_ret
      exact ⟨_, okk, rfl, HOw2.out, HK.out, HB.out⟩
end Go.Proofs.YtgdigbbfgpenpaaDoor
namespace Go.Proofs.YtgdigbbfgpenpaaDoor
open Go.RowKit
set_option linter.unusedVariables false
set_option linter.unusedSimpArgs false

theorem KeepX.toBelow {D sb B : Nat} {w w' : World} (h : KeepX D sb w w') (hB : B ≤ D) (hs : B ≤ sb) : Below B w w' := ⟨h.1, h.2.1, h.2.2.1, h.2.2.2.1, fun k hk => h.2.2.2.2 k (by omega) (by omega)⟩
theorem own_cases {w : World} {base size n : Nat} {e : TypeId} {v : Value} {cs : List Value} (h : w.ownsRow base e size v n cs) : (v = .slice none 0 0 ∧ n = 0) ∨ ∃ rb cap, v = .slice (some ⟨rb, 0, none⟩) n cap ∧ n ≤ cap := by
  obtain ⟨A, c, rfl, hc, _⟩ := own_slice h
  rcases h.2 with ⟨e1, e2⟩ | ⟨g, cap, cur, e1, h1, h2⟩
  · injection e1 with a b c
    subst a
    left
    refine ⟨by rw [b, c], b⟩
  · injection e1 with a b c
    subst a c
    exact .inr ⟨g, _, rfl, hc⟩
theorem kind5 {k : UInt8} (h : k = 5) : ((k.toNat : Int) == 5) = true := kindY (n := 5) (by decide) h
/-- a row's front one, in a block of its own -/
theorem front_at {P : Nat → Prop} {w : World} {rb : Nat} {t : Co} {r : List Co} {base cap : Nat} {e : TypeId} (h : OwnT CE P w base e (.slice (some ⟨rb, 0, none⟩) (t :: r).length cap) (t :: r)) : RowAt P w rb 0 t := rows_of_own h 0 t rfl
set_option maxRecDepth 100000 in
set_option maxHeartbeats 16000000 in
theorem simp_5 {h : CH} (e : h.k = 5) {ks : List Co} (hk : ∀ t ∈ ks, SimpOkT 58 t) (hlk : ks.length ≤ 1000000) (hlen : (flatL ks).length ≤ 1000000) (hfb : ∀ t ∈ ks, ∀ y ∈ (simpC t).kids, (simpC t).head.b.length + y.head.b.length ≤ 9223372036854775807)
    (hsv : SieveOk (flatL ks)) (hfc : ∀ t ∈ flatL ks, h.b.length + t.head.b.length ≤ 9223372036854775807) : SimpOk 58 h ks := by
  intro P A c w hc hr
  have g5 := kind5 e
  have g4 : ((h.k.toNat : Int) == 4) = false := kindN (n := 4) (by decide) (by rw [e]; decide)
  have HSQ : Hid (simpC (.mk h ks) = altOf h.b (once [] (flatL ks))) := by unfold Hid; simp [simpC, e, simpCs_map, flatL_map]
  have CF := Lib.hid (fun X hX => flat_any hk hlk hlen hfb (fun b => P b ∧ b < w.heap.size) A c X hc hX)
  obtain ⟨V, hV⟩ : ∃ V, (w.alloc (.cells #[.int .u8 (h.k.toNat : Int), .string (str h.b), .int .u64 (h.s.a.toNat : Int), .int .u64 (h.s.b.toNat : Int), .int .u64 (h.s.c.toNat : Int), .int .u64 (h.s.d.toNat : Int), .slice A ks.length c] 73)).alloc (.cells #[.int .u8 0, .string ⟨#[]⟩, .int .u64 0, .int .u64 0, .int .u64 0, .int .u64 0, .slice none 0 0] 73) = V := ⟨_, rfl⟩
  have hbV : Below w.heap.size w V := by rw [← hV]; exact below_new (below_new (Below.refl _ _) _) _
  have hsV : V.heap.size = w.heap.size + 1 + 1 := by rw [← hV]; simp
  have e1V : V.heap[w.heap.size]? = some (.cells #[.int .u8 (h.k.toNat : Int), .string (str h.b), .int .u64 (h.s.a.toNat : Int), .int .u64 (h.s.b.toNat : Int), .int .u64 (h.s.c.toNat : Int), .int .u64 (h.s.d.toNat : Int), .slice A ks.length c] 73 (0, 0)) := by rw [← hV]; exact heap_keep1 (new_at1 _) _
  have e2V : V.heap[w.heap.size + 1]? = some (.cells coZ 73 (0, 0)) := by
    rw [← hV]
    have := new_at1 (w := w.alloc (.cells #[.int .u8 (h.k.toNat : Int), .string (str h.b), .int .u64 (h.s.a.toNat : Int), .int .u64 (h.s.b.toNat : Int), .int .u64 (h.s.c.toNat : Int), .int .u64 (h.s.d.toNat : Int), .slice A ks.length c] 73)) (.cells coZ 73)
    rw [World.size_alloc] at this
    exact this
  obtain ⟨W, hW⟩ : ∃ W, V.alloc (.cells #[.slice none 0 0] 127) = W := ⟨_, rfl⟩
  have hbW1 : Below V.heap.size V W := by rw [← hW]; exact below_new (Below.refl _ _) _
  have hs3 : W.heap[w.heap.size + 1 + 1]? = some (.cells #[.slice none 0 0] 127 (0, 0)) := by rw [← hW, ← hsV]; exact new_at1 _
  have hsW : W.heap.size = w.heap.size + 1 + 1 + 1 := by rw [← hW, World.size_alloc, hsV]
  have e1 := (hbW1.block _ (lt_of_block e1V)).trans e1V
  have e2 := (hbW1.block _ (lt_of_block e2V)).trans e2V
  have hbW := below_from hbV hbW1
  have CF1 := Lib.hid (CF.out W (hr.there.below hbW))
  have E1 := Lib.hid e1
  have E2 := Lib.hid e2
  have E3 := Lib.hid hs3
  have HB := Lib.hid hbW
  have HVV := Lib.hid hV
  rw [← hV] at hW
  have HWW := Lib.hid hW
  have HSW := Lib.hid hsW
  have HSV := Lib.hid hsv
  have HFC := Lib.hid hfc
  obtain ⟨x0, x1, x2, x3, x4, x5, x6⟩ := co_at_box e1V
  rw [← hV] at x0 x1 x2 x3 x4 x5 x6
  clear CF hV hbV hsV e1V e2V hW hbW1 hs3 hsW e1 e2 hbW hr hk hsv hfc hfb e
  generalize flatL ks = L at *
  go_enter Tryd.func58, Tryd.ntmps58
  clear HVV
  go_upto_region 11 with fail
  rw [show ((w.alloc _).alloc _).alloc _ = W from HWW.out]
  clear x0 x1 x2 x3 x4 x5 x6
  obtain ⟨x0, x1, x2, x3, x4, x5, x6⟩ := co_at_box E1.out
  go_wp2_with fail
  refine CF1.out.mono ?_
  rintro e w1 ⟨v, okk, rfl, ho, hokk, hb1⟩
  have HB1 := Lib.hid (below_from HB.out hb1)
  have E11 := Lib.hid ((hb1.block _ (lt_of_block E1.out)).trans E1.out)
  have E21 := Lib.hid ((hb1.block _ (lt_of_block E2.out)).trans E2.out)
  have E31 := Lib.hid ((hb1.block _ (lt_of_block E3.out)).trans E3.out)
  have hsz1 := hb1.size
  obtain ⟨cs, hown⟩ := ho.own
  have hcase := own_cases hown
  clear x0 x1 x2 x3 x4 x5 x6 CF1 E1 E2 E3 HB hb1 hown cs HWW
  rcases hcase with ⟨rfl, hn0⟩ | ⟨rb, cap, rfl, hcap⟩
  · have hL : L = [] := List.length_eq_zero_iff.1 hn0
    have HSE : Hid (simpC (.mk h ks) = cEmp) := by unfold Hid; rw [HSQ.out, hL]; rfl
    clear hL hn0 ho hokk HSQ HSV HFC
    go_wp2_with fail
    refine (del_nil _ _).mono ?_
    rintro e w2 ⟨rfl, hb2⟩
    have HB2 := Lib.hid (below_from HB1.out hb2)
    have e22 := (hb2.block _ (lt_of_block E21.out)).trans E21.out
    obtain ⟨⟨y0, y1, y2, y3, y4, y5, y6⟩, f0, f1, f2, f3, f4, f5, f6⟩ := co_cells e22
    clear hb2 e22
    go_wp2_with fail
    refine bodyPost_ret (v := coV ⟨1, [], S4.zero⟩ none 0 0) (by simp [results, Tryd.results58, go_sem, y0, y1, y2, y3, y4, y5, y6]; exact ⟨rfl, rfl, rfl, rfl⟩) rfl ⟨⟨1, [], S4.zero⟩, [], none, 0, rfl, HSE.out, Nat.le_refl _, by simp [InRow], seven_below HB2.out (by omega)⟩
  · have hsw := HSW.out
    have hP1 : ∀ x, okk x → x < w1.heap.size ∧ x ≠ w.heap.size + 1 + 1 := fun x hx => by
      have := hokk x hx
      rcases this.1 with h | h
      · have := h.1.2; exact ⟨by omega, by omega⟩
      · exact ⟨by omega, by omega⟩
    have CD := Lib.hid (del_any L w1 E31.out ho hcap hP1 (by omega) hsz1 rfl HSV.out hlen)
    have HOK : Hid (∀ x, okk x → ((P x ∧ x < w.heap.size) ∨ w.heap.size + 1 + 1 + 1 ≤ x)) := fun x hx => by
      rcases (hokk x hx).1 with h | h
      · exact .inl h.1
      · exact .inr (by omega)
    have HONCE : Hid ((once [] L).length ≤ 1000000 ∧ ∀ t ∈ once [] L, h.b.length + t.head.b.length ≤ 9223372036854775807) := ⟨by have := once_len L L.length; rw [List.take_length] at this; omega, fun t ht => HFC.out t (once_sub _ _ _ ht)⟩
    clear ho hokk HSV hP1 HFC
    generalize once [] L = l at *
    go_wp2_with fail
    refine CD.out.mono ?_
    rintro e w2 ⟨n, cap2, rfl, hn, ho2, hkx⟩
    subst hn
    have HB2 := Lib.hid (HB1.out.trans (hkx.toBelow (B := w.heap.size) (by omega) (by omega)))
    have E12 := Lib.hid ((hkx.2.2.2.2 _ (by omega) (by omega)).trans E11.out)
    have E22 := Lib.hid ((hkx.2.2.2.2 _ (by omega) (by omega)).trans E21.out)
    have hrbb : W.heap.size ≤ rb := (own_inE ho2 (g := rb) rfl).1
    have HO2 := Lib.hid ho2
    have hl6 := HONCE.out.1
    clear hkx CD ho2 E11 E21 E31 HB1
    rcases l with _ | ⟨x, _ | ⟨y, r⟩⟩
    · have HSE : Hid (simpC (.mk h ks) = cEmp) := HSQ.out
      obtain ⟨⟨y0, y1, y2, y3, y4, y5, y6⟩, f0, f1, f2, f3, f4, f5, f6⟩ := co_cells E22.out
      clear HSQ HONCE
      go_wp2_with fail
      refine bodyPost_ret (v := coV ⟨1, [], S4.zero⟩ none 0 0) (by simp [results, Tryd.results58, go_sem, y0, y1, y2, y3, y4, y5, y6]; exact ⟨rfl, rfl, rfl, rfl⟩) rfl ⟨⟨1, [], S4.zero⟩, [], none, 0, rfl, HSE.out, Nat.le_refl _, by simp [InRow], seven_below HB2.out (by omega)⟩
    · have hat := front_at HO2.out
      obtain ⟨hx, kx, Ax, cx, rfl, hcx, hrx, q0, q1, q2, q3, q4, q5, q6⟩ := hat
      rw [Nat.zero_mul] at q0 q1 q2 q3 q4 q5 q6
      have HSE : Hid (simpC (.mk h ks) = .mk (fuseH h.b hx) kx) := by unfold Hid; rw [HSQ.out, ← fuse_head]; rfl
      have hfl : h.b.length + hx.b.length ≤ 9223372036854775807 := HONCE.out.2 _ List.mem_cons_self
      have HRX := Lib.hid (hrx.there.weak (ok' := fun x => ((P x ∧ x < w.heap.size) ∨ w.heap.size + 1 + 1 + 1 ≤ x) ∧ x < w2.heap.size) fun x hx => ⟨HOK.out x hx.1, hx.2⟩)
      have Q : Hid (∀ X, Below w2.heap.size w2 X → X.cell? ⟨w.heap.size, 1, none⟩ = some (.string (str h.b)) ∧ X.cell? ⟨rb, 0, none⟩ = some (.int .u8 (hx.k.toNat : Int)) ∧ X.cell? ⟨rb, 1, none⟩ = some (.string (str hx.b)) ∧ X.cell? ⟨rb, 2, none⟩ = some (.int .u64 (hx.s.a.toNat : Int)) ∧ X.cell? ⟨rb, 3, none⟩ = some (.int .u64 (hx.s.b.toNat : Int)) ∧ X.cell? ⟨rb, 4, none⟩ = some (.int .u64 (hx.s.c.toNat : Int)) ∧ X.cell? ⟨rb, 5, none⟩ = some (.int .u64 (hx.s.d.toNat : Int)) ∧ X.cell? ⟨rb, 6, none⟩ = some (.slice Ax kx.length cx)) := fun X hX => by
        obtain ⟨a0, a1, a2, a3, a4, a5, a6⟩ := co_at_box ((hX.block _ (lt_of_block E12.out)).trans E12.out)
        have p0 := keep_cell hX q0
        have p1 := keep_cell hX q1
        have p2 := keep_cell hX q2
        have p3 := keep_cell hX q3
        have p4 := keep_cell hX q4
        have p5 := keep_cell hX q5
        have p6 := keep_cell hX q6
        simp only [Nat.zero_add] at p1 p2 p3 p4 p5 p6
        exact ⟨a1, p0, p1, p2, p3, p4, p5, p6⟩
      have hn1 : w.heap.size ≠ w.heap.size + 1 := by omega
      have hn2 : rb ≠ w.heap.size + 1 := by have h1 := HSW.out; have h2 := hrbb; omega
      have Qs : Hid (∀ X, Below w2.heap.size w2 X → ∀ u0 u1 u2 u3 u4 u5 u6, (((((((X.setCell ⟨w.heap.size + 1, 0, none⟩ u0).setCell ⟨w.heap.size + 1, 1, none⟩ u1).setCell ⟨w.heap.size + 1, 2, none⟩ u2).setCell ⟨w.heap.size + 1, 3, none⟩ u3).setCell ⟨w.heap.size + 1, 4, none⟩ u4).setCell ⟨w.heap.size + 1, 5, none⟩ u5).setCell ⟨w.heap.size + 1, 6, none⟩ u6).cell? ⟨w.heap.size, 1, none⟩ = some (.string (str h.b)) ∧ (((((((X.setCell ⟨w.heap.size + 1, 0, none⟩ u0).setCell ⟨w.heap.size + 1, 1, none⟩ u1).setCell ⟨w.heap.size + 1, 2, none⟩ u2).setCell ⟨w.heap.size + 1, 3, none⟩ u3).setCell ⟨w.heap.size + 1, 4, none⟩ u4).setCell ⟨w.heap.size + 1, 5, none⟩ u5).setCell ⟨w.heap.size + 1, 6, none⟩ u6).cell? ⟨rb, 0, none⟩ = some (.int .u8 (hx.k.toNat : Int)) ∧ (((((((X.setCell ⟨w.heap.size + 1, 0, none⟩ u0).setCell ⟨w.heap.size + 1, 1, none⟩ u1).setCell ⟨w.heap.size + 1, 2, none⟩ u2).setCell ⟨w.heap.size + 1, 3, none⟩ u3).setCell ⟨w.heap.size + 1, 4, none⟩ u4).setCell ⟨w.heap.size + 1, 5, none⟩ u5).setCell ⟨w.heap.size + 1, 6, none⟩ u6).cell? ⟨rb, 1, none⟩ = some (.string (str hx.b)) ∧ (((((((X.setCell ⟨w.heap.size + 1, 0, none⟩ u0).setCell ⟨w.heap.size + 1, 1, none⟩ u1).setCell ⟨w.heap.size + 1, 2, none⟩ u2).setCell ⟨w.heap.size + 1, 3, none⟩ u3).setCell ⟨w.heap.size + 1, 4, none⟩ u4).setCell ⟨w.heap.size + 1, 5, none⟩ u5).setCell ⟨w.heap.size + 1, 6, none⟩ u6).cell? ⟨rb, 2, none⟩ = some (.int .u64 (hx.s.a.toNat : Int)) ∧ (((((((X.setCell ⟨w.heap.size + 1, 0, none⟩ u0).setCell ⟨w.heap.size + 1, 1, none⟩ u1).setCell ⟨w.heap.size + 1, 2, none⟩ u2).setCell ⟨w.heap.size + 1, 3, none⟩ u3).setCell ⟨w.heap.size + 1, 4, none⟩ u4).setCell ⟨w.heap.size + 1, 5, none⟩ u5).setCell ⟨w.heap.size + 1, 6, none⟩ u6).cell? ⟨rb, 3, none⟩ = some (.int .u64 (hx.s.b.toNat : Int)) ∧ (((((((X.setCell ⟨w.heap.size + 1, 0, none⟩ u0).setCell ⟨w.heap.size + 1, 1, none⟩ u1).setCell ⟨w.heap.size + 1, 2, none⟩ u2).setCell ⟨w.heap.size + 1, 3, none⟩ u3).setCell ⟨w.heap.size + 1, 4, none⟩ u4).setCell ⟨w.heap.size + 1, 5, none⟩ u5).setCell ⟨w.heap.size + 1, 6, none⟩ u6).cell? ⟨rb, 4, none⟩ = some (.int .u64 (hx.s.c.toNat : Int)) ∧ (((((((X.setCell ⟨w.heap.size + 1, 0, none⟩ u0).setCell ⟨w.heap.size + 1, 1, none⟩ u1).setCell ⟨w.heap.size + 1, 2, none⟩ u2).setCell ⟨w.heap.size + 1, 3, none⟩ u3).setCell ⟨w.heap.size + 1, 4, none⟩ u4).setCell ⟨w.heap.size + 1, 5, none⟩ u5).setCell ⟨w.heap.size + 1, 6, none⟩ u6).cell? ⟨rb, 5, none⟩ = some (.int .u64 (hx.s.d.toNat : Int)) ∧ (((((((X.setCell ⟨w.heap.size + 1, 0, none⟩ u0).setCell ⟨w.heap.size + 1, 1, none⟩ u1).setCell ⟨w.heap.size + 1, 2, none⟩ u2).setCell ⟨w.heap.size + 1, 3, none⟩ u3).setCell ⟨w.heap.size + 1, 4, none⟩ u4).setCell ⟨w.heap.size + 1, 5, none⟩ u5).setCell ⟨w.heap.size + 1, 6, none⟩ u6).cell? ⟨rb, 6, none⟩ = some (.slice Ax kx.length cx)) := fun X hX u0 u1 u2 u3 u4 u5 u6 => by
        obtain ⟨a1, p0, p1, p2, p3, p4, p5, p6⟩ := Q.out X hX
        exact ⟨(World.cell?_of_block (seven_other hn1)).trans a1, (World.cell?_of_block (seven_other hn2)).trans p0, (World.cell?_of_block (seven_other hn2)).trans p1, (World.cell?_of_block (seven_other hn2)).trans p2, (World.cell?_of_block (seven_other hn2)).trans p3, (World.cell?_of_block (seven_other hn2)).trans p4, (World.cell?_of_block (seven_other hn2)).trans p5, (World.cell?_of_block (seven_other hn2)).trans p6⟩
      have hsz2 := lt_of_block E22.out
      clear hrx q0 q1 q2 q3 q4 q5 q6 HONCE HSQ HO2
      go_upto_region 16 with fail
      have hz := Below.refl w2.heap.size w2
      obtain ⟨a1, p0, p1, p2, p3, p4, p5, p6⟩ := Q.out _ hz
      go_region_held3 (fun X => X.cell? ⟨w.heap.size, 1, none⟩ = some (.string (str h.b)) ∧ X.cell? ⟨rb, 0, none⟩ = some (.int .u8 (hx.k.toNat : Int)) ∧ X.cell? ⟨rb, 1, none⟩ = some (.string (str hx.b)) ∧ X.cell? ⟨rb, 2, none⟩ = some (.int .u64 (hx.s.a.toNat : Int)) ∧ X.cell? ⟨rb, 3, none⟩ = some (.int .u64 (hx.s.b.toNat : Int)) ∧ X.cell? ⟨rb, 4, none⟩ = some (.int .u64 (hx.s.c.toNat : Int)) ∧ X.cell? ⟨rb, 5, none⟩ = some (.int .u64 (hx.s.d.toNat : Int)) ∧ X.cell? ⟨rb, 6, none⟩ = some (.slice Ax kx.length cx))
        (first | (with_reducible refine Qs.out _ ?_ _ _ _ _ _ _ _; (repeat (first | with_reducible exact hz | with_reducible refine Below.drew ?_ | with_reducible refine below_new ?_ _ | (with_reducible refine Below.setCell ?_ (by first | exact Nat.le_refl _ | (simp; done) | (simp; omega)) _))); done) | (refine Q.out _ ?_; (repeat (first | with_reducible exact hz | with_reducible refine Below.drew ?_ | with_reducible refine below_new ?_ _ | (with_reducible refine Below.setCell ?_ (by first | exact Nat.le_refl _ | (simp; done) | (simp; omega)) _)))))
        (first
          | (go_at_call 79; (with_reducible refine (fuse_any h.b hx Ax kx.length cx _ hfl).mono ?_); rintro e wj ⟨rfl, hbj⟩; have hz : Below w2.heap.size w2 wj := (by refine below_from ?_ hbj; (repeat (first | with_reducible exact hz | with_reducible refine Below.drew ?_ | with_reducible refine below_new ?_ _ | (with_reducible refine Below.setCell ?_ (by first | exact Nat.le_refl _ | (simp; done) | (simp; omega)) _)))); obtain ⟨a1, p0, p1, p2, p3, p4, p5, p6⟩ := Q.out _ hz; obtain ⟨⟨y0, y1, y2, y3, y4, y5, y6⟩, f0, f1, f2, f3, f4, f5, f6⟩ := co_cells ((hz.block _ (lt_of_block E22.out)).trans E22.out))
          | fail)
      all_goals
        have hrj := HRX.out.below hz
        have HRJ := Lib.hid hrj
        have HBF := Lib.hid (HB2.out.trans (hz.mono HB2.out.size))
        clear hrj hbj a1 p0 p1 p2 p3 p4 p5 p6 Q Qs
        go_wp2_with fail
        refine bodyPost_ret (v := coV (fuseH h.b hx) Ax kx.length cx) (by simp [results, Tryd.results58, go_sem, y0, y1, y2, y3, y4, y5, y6]; try exact ⟨rfl, rfl, rfl, rfl⟩) rfl ⟨fuseH h.b hx, kx, Ax, cx, rfl, HSE.out, hcx, (row_seven HRJ.out fun x hx => by rcases hx.1 with h | h; omega; omega).weak fun x hx => by rcases hx.1 with h | h; exact .inl h.1; exact .inr (by omega), seven_below HBF.out (by omega)⟩
    · have HSE : Hid (simpC (.mk h ks) = cAlt h.b (x :: y :: r)) := HSQ.out
      obtain ⟨A3, c3, hv3, hc3, hr3⟩ := HO2.out.row
      have hv3' : A3 = some ⟨rb, 0, none⟩ ∧ c3 = cap2 := by injection hv3 with a b c; exact ⟨a.symm, c.symm⟩
      obtain ⟨rfl, rfl⟩ := hv3'
      have HRX := Lib.hid (hr3.weak (ok' := fun x => ((P x ∧ x < w.heap.size) ∨ w.heap.size + 1 + 1 + 1 ≤ x)) fun x hx => by
        rcases hx with hx | hx
        · exact HOK.out x hx
        · have := (own_inE HO2.out hx).1; exact .inr (by omega))
      have HC3 := Lib.hid hc3
      obtain ⟨a0, a1, a2, a3, a4, a5, a6⟩ := co_at_box E12.out
      obtain ⟨⟨y0, y1, y2, y3, y4, y5, y6⟩, f0, f1, f2, f3, f4, f5, f6⟩ := co_cells E22.out
      obtain ⟨n, hn⟩ : ∃ n, (x :: y :: r).length = n + 2 := ⟨_, rfl⟩
      have HN := Lib.hid hn
      have hn6 : n + 2 ≤ 1000000 := by omega
      have gn0 : (((n : Int) + 2 : Int) == 0) = false := beq_eq_false_iff_ne.2 (by omega)
      have gn1 : (((n : Int) + 2 : Int) == 1) = false := beq_eq_false_iff_ne.2 (by omega)
      rw [hn] at HC3 ⊢
      clear hr3 hc3 hv3 HSQ HONCE hl6 hn HO2
      generalize x :: y :: r = l at *
      go_wp2_with fail
      refine bodyPost_ret (v := coV ⟨5, h.b, S4.zero⟩ (some ⟨rb, 0, none⟩) (n + 2) c3) (by simp [results, Tryd.results58, go_sem, y0, y1, y2, y3, y4, y5, y6]; try exact ⟨rfl, rfl, rfl, rfl⟩) rfl ⟨⟨5, h.b, S4.zero⟩, l, some ⟨rb, 0, none⟩, c3, by rw [HN.out], HSE.out, by rw [HN.out]; exact HC3.out, (row_seven HRX.out fun x hx => by rcases hx with h | h; omega; omega).weak fun x hx => by rcases hx with h | h; exact .inl h.1; exact .inr (by omega), seven_below HB2.out (by omega)⟩
end Go.Proofs.YtgdigbbfgpenpaaDoor
namespace Go.Proofs.YtgdigbbfgpenpaaDoor
open Go.RowKit
set_option linter.unusedVariables false
set_option linter.unusedSimpArgs false

/-- a piece of a text -/
def sub (S : List UInt8) (i j : Nat) : List UInt8 := (S.drop i).take (j - i)
theorem sub_self (S : List UInt8) (i : Nat) : sub S i i = [] := by simp [sub]
theorem sub_len {S : List UInt8} {i j : Nat} (hj : j ≤ S.length) : (sub S i j).length = j - i := by simp [sub]; omega
theorem sub_app {S : List UInt8} {i k j : Nat} (h1 : i ≤ k) (h2 : k ≤ j) : sub S i j = sub S i k ++ sub S k j := by
  unfold sub
  have e : j - i = (k - i) + (j - k) := by omega
  rw [e, List.take_add, List.drop_drop, show i + (k - i) = k by omega]
theorem sub_split {S : List UInt8} {i j : Nat} {u v : List UInt8} (h1 : i ≤ j) (h2 : j ≤ S.length) (e : sub S i j = u ++ v) : ∃ k, i ≤ k ∧ k ≤ j ∧ u = sub S i k ∧ v = sub S k j := by
  have hl := sub_len (i := i) h2
  rw [e, List.length_append] at hl
  have h3 := sub_app (S := S) (i := i) (k := i + u.length) (j := j) (by omega) (by omega)
  rw [h3] at e
  have hk : (sub S i (i + u.length)).length = u.length := by rw [sub_len (by omega)]; omega
  obtain ⟨a, b⟩ := List.append_inj e hk
  exact ⟨i + u.length, by omega, by omega, a.symm, b.symm⟩
theorem sub_one {S : List UInt8} {i : Nat} {c : UInt8} (h : S[i]? = some c) : sub S i (i + 1) = [c] := by
  unfold sub
  obtain ⟨hi, e⟩ := List.getElem?_eq_some_iff.1 h
  rw [List.drop_eq_getElem_cons hi, e, show i + 1 - i = 1 by omega]
  rfl
theorem sub_all (S : List UInt8) : sub S 0 S.length = S := by simp [sub]
theorem sub_to (S : List UInt8) (j : Nat) : sub S 0 j = S.take j := by simp [sub]
theorem sub_from (S : List UInt8) (i : Nat) : sub S i S.length = S.drop i := by
  unfold sub
  rw [List.take_of_length_le (by simp)]

theorem StarP.app {P : List UInt8 → Prop} {u v : List UInt8} (h : StarP P u) (k : StarP P v) : StarP P (u ++ v) := by
  induction h with
  | nil => exact k
  | cons h1 h2 _ ih => rw [List.append_assoc]; exact .cons h1 h2 ih
theorem StarP.one {P : List UInt8 → Prop} {u : List UInt8} (h : P u) : StarP P u := by
  by_cases e : u = []
  · subst e; exact .nil
  · have := StarP.cons h e (StarP.nil (P := P))
    rwa [List.append_nil] at this
theorem StarP.two {P : List UInt8 → Prop} {u : List UInt8} : StarP (StarP P) u ↔ StarP P u := by
  constructor
  · intro h
    induction h with
    | nil => exact .nil
    | cons h1 _ _ ih => exact h1.app ih
  · exact StarP.one
theorem LT_star2 (x : Re) (s : List UInt8) : LT (rStar (rStar x)) s ↔ LT (rStar x) s := by
  rw [LT_star, LT_star]
  rw [StarP.iff (LT_star x) s]
  exact StarP.two

/-- the ends -/
def EndsP (r : Re) (S : List UInt8) (fr l : List Bool) : Prop := l.length = S.length + 1 ∧ ∀ j : Nat, l[j]? = some true ↔ (j ≤ S.length ∧ ∃ i, i ≤ j ∧ fr[i]? = some true ∧ LT r (sub S i j))
theorem ends_empP {S : List UInt8} {fr l : List Bool} (hl : l.length = S.length + 1) (h : ∀ j : Nat, l[j]? ≠ some true) : EndsP rEmp S fr l :=
  ⟨hl, fun j => ⟨fun e => absurd e (h j), fun ⟨_, i, _, _, e⟩ => ((LT_emp _).1 e).elim⟩⟩
theorem ends_epsP {S : List UInt8} {fr : List Bool} (hl : fr.length = S.length + 1) : EndsP rEps S fr fr := by
  refine ⟨hl, fun j => ⟨fun e => ?_, fun ⟨hj, i, hi, e, h⟩ => ?_⟩⟩
  · have := (List.getElem?_eq_some_iff.1 e).1
    exact ⟨by omega, j, Nat.le_refl _, e, by rw [LT_eps, sub_self]⟩
  · rw [LT_eps] at h
    have := sub_len (i := i) hj
    rw [h] at this
    simp only [List.length_nil] at this
    rw [show j = i by omega]
    exact e
theorem ends_clsP {S : List UInt8} {X : S4} {fr l : List Bool} (hl : l.length = S.length + 1) (h : ∀ j : Nat, l[j]? = some true ↔ ∃ i c, j = i + 1 ∧ S[i]? = some c ∧ fr[i]? = some true ∧ X.has c.toNat = true) : EndsP (rCls X) S fr l := by
  refine ⟨hl, fun j => ⟨fun e => ?_, fun ⟨hj, i, hi, e, hh⟩ => ?_⟩⟩
  · obtain ⟨i, c, rfl, hc, hf, hx⟩ := (h j).1 e
    have := (List.getElem?_eq_some_iff.1 hc).1
    exact ⟨by omega, i, by omega, hf, (LT_cls _ _).2 ⟨c, sub_one hc, hx⟩⟩
  · obtain ⟨c, hc, hx⟩ := (LT_cls _ _).1 hh
    have h1 := sub_len (i := i) hj
    rw [hc] at h1
    simp only [List.length_cons, List.length_nil] at h1
    have hji : j = i + 1 := by omega
    subst hji
    have hlt : i < S.length := by omega
    have h2 := sub_one (List.getElem?_eq_getElem hlt)
    rw [h2] at hc
    injection hc with hc
    exact (h _).2 ⟨i, S[i], rfl, List.getElem?_eq_getElem hlt, e, by rw [hc]; exact hx⟩
theorem ends_seqP {x y : Re} {S : List UInt8} {fr m l : List Bool} (hm : EndsP x S fr m) (hl : EndsP y S m l) : EndsP (rSeq x y) S fr l := by
  refine ⟨hl.1, fun j => ?_⟩
  rw [hl.2]
  constructor
  · rintro ⟨hj, k, hk, e, h⟩
    obtain ⟨hk2, i, hi, e2, h2⟩ := (hm.2 k).1 e
    exact ⟨hj, i, by omega, e2, (LT_seq _ _ _).2 ⟨_, _, sub_app hi hk, h2, h⟩⟩
  · rintro ⟨hj, i, hi, e, h⟩
    obtain ⟨u, v, e2, h1, h2⟩ := (LT_seq _ _ _).1 h
    obtain ⟨k, hk1, hk2, rfl, rfl⟩ := sub_split hi hj e2
    exact ⟨hj, k, hk2, (hm.2 k).2 ⟨by omega, i, hk1, e, h1⟩, h2⟩
theorem ends_altP {x y : Re} {S : List UInt8} {fr a b l : List Bool} (ha : EndsP x S fr a) (hb : EndsP y S fr b) (hl : l.length = S.length + 1) (h : ∀ j : Nat, l[j]? = some true ↔ (a[j]? = some true ∨ b[j]? = some true)) : EndsP (rAlt x y) S fr l := by
  refine ⟨hl, fun j => ?_⟩
  rw [h, ha.2, hb.2]
  constructor
  · rintro (⟨hj, i, hi, e, h⟩ | ⟨hj, i, hi, e, h⟩)
    · exact ⟨hj, i, hi, e, (LT_alt _ _ _).2 (.inl h)⟩
    · exact ⟨hj, i, hi, e, (LT_alt _ _ _).2 (.inr h)⟩
  · rintro ⟨hj, i, hi, e, h⟩
    rcases (LT_alt _ _ _).1 h with h | h
    · exact .inl ⟨hj, i, hi, e, h⟩
    · exact .inr ⟨hj, i, hi, e, h⟩
/-- reached by a star's rounds -/
def Clos (x : Re) (S : List UInt8) (fr : List Bool) (j : Nat) : Prop := j ≤ S.length ∧ ∃ i, i ≤ j ∧ fr[i]? = some true ∧ StarP (LT x) (sub S i j)
theorem clos_start {x : Re} {S : List UInt8} {fr : List Bool} (hl : fr.length = S.length + 1) {j : Nat} (h : fr[j]? = some true) : Clos x S fr j := by
  have := (List.getElem?_eq_some_iff.1 h).1
  exact ⟨by omega, j, Nat.le_refl _, h, by rw [sub_self]; exact .nil⟩
theorem clos_step {x : Re} {S : List UInt8} {fr l n : List Bool} (hl : ∀ j : Nat, l[j]? = some true → Clos x S fr j) (hn : EndsP x S l n) {j : Nat} (h : n[j]? = some true) : Clos x S fr j := by
  obtain ⟨hj, k, hk, e, h1⟩ := (hn.2 j).1 h
  obtain ⟨_, i, hi, e2, h2⟩ := hl k e
  exact ⟨hj, i, by omega, e2, by rw [sub_app hi hk]; exact h2.app (StarP.one h1)⟩
theorem star_closed {x : Re} {S : List UInt8} {l n : List Bool} (hn : EndsP x S l n) (hc : ∀ j : Nat, n[j]? = some true → l[j]? = some true) {s : List UInt8} (h : StarP (LT x) s) : ∀ i j : Nat, i ≤ j → j ≤ S.length → sub S i j = s → l[i]? = some true → l[j]? = some true := by
  induction h with
  | nil =>
    intro i j hi hj e h
    have := sub_len (i := i) hj
    rw [e] at this
    simp only [List.length_nil] at this
    rw [show j = i by omega]
    exact h
  | @cons u v h1 h2 h3 ih =>
    intro i j hi hj e h
    obtain ⟨k, hk1, hk2, rfl, rfl⟩ := sub_split hi hj e
    exact ih k j hk2 hj rfl (hc k ((hn.2 k).2 ⟨by omega, i, hk1, h, h1⟩))
theorem ends_starP {x : Re} {S : List UInt8} {fr l n : List Bool} (hlen : l.length = S.length + 1) (h0 : ∀ j : Nat, fr[j]? = some true → l[j]? = some true) (h1 : ∀ j : Nat, l[j]? = some true → Clos x S fr j) (hn : EndsP x S l n) (hc : ∀ j : Nat, n[j]? = some true → l[j]? = some true) : EndsP (rStar x) S fr l := by
  refine ⟨hlen, fun j => ⟨fun h => ?_, fun ⟨hj, i, hi, e, h⟩ => ?_⟩⟩
  · obtain ⟨hj, i, hi, e, h2⟩ := h1 j h
    exact ⟨hj, i, hi, e, (LT_star _ _).2 h2⟩
  · exact star_closed hn hc ((LT_star _ _).1 h) i j hi hj rfl (h0 i e)
theorem ends_star2P {x : Re} {S : List UInt8} {fr l : List Bool} (h : EndsP (rStar x) S fr l) : EndsP (rStar (rStar x)) S fr l := by
  refine ⟨h.1, fun j => ?_⟩
  rw [h.2]
  constructor
  · rintro ⟨hj, i, hi, e, h⟩; exact ⟨hj, i, hi, e, (LT_star2 _ _).2 h⟩
  · rintro ⟨hj, i, hi, e, h⟩; exact ⟨hj, i, hi, e, (LT_star2 _ _).1 h⟩
/-- how many are false -/
def falses (l : List Bool) : Nat := l.count false
theorem falses_set {l : List Bool} {i : Nat} (h : l[i]? = some false) : falses (l.set i true) + 1 = falses l := by
  obtain ⟨hi, e⟩ := List.getElem?_eq_some_iff.1 h
  unfold falses
  rw [List.count_set hi]
  have : l.count false ≥ 1 := List.count_pos_iff.2 (by rw [← e]; exact List.getElem_mem hi)
  simp [e]
  omega
end Go.Proofs.YtgdigbbfgpenpaaDoor
namespace Go.Proofs.YtgdigbbfgpenpaaDoor
open Go.RowKit
set_option linter.unusedVariables false
set_option linter.unusedSimpArgs false

section
variable {P : Program} {ops : Array Oper} {Q : Exit → Act → World → Prop} {md : Region.Mode} {S : World → Prop}
theorem ready_spec {listed : Array Bool} {i : Nat} (h : i ∈ Region.ready md ops listed) : i < ops.size ∧ listed.getD i true = false ∧ ∀ o, ops[i]? = some o → (o.after.all fun e => !Region.binds md e || listed.getD e.on false) = true := by
  simp only [Region.ready, List.mem_filter, List.mem_range, Bool.and_eq_true, Bool.not_eq_true'] at h
  refine ⟨h.1, h.2.1, fun o ho => ?_⟩
  have := h.2.2
  rw [ho] at this
  simpa using this
theorem ready_nil {listed : Array Bool} (h : ∀ i, listed.getD i true = true) : Region.ready md ops listed = [] := by simp [Region.ready, h]
def lefts (l : Array Bool) : Nat := l.toList.count false
theorem lefts_set {l : Array Bool} {i : Nat} (h : l.getD i true = false) : lefts (l.setIfInBounds i true) + 1 = lefts l := by
  unfold lefts
  have h2 : l.toList[i]? = some false := by
    rw [Array.getElem?_toList]
    rw [Array.getD_eq_getD_getElem?] at h
    rcases e : l[i]? with _ | b
    · rw [e] at h; cases h
    · rw [e] at h; rw [show b = false from h]
  rw [Array.toList_setIfInBounds]
  exact falses_set h2
theorem lefts_none {l : Array Bool} (h : lefts l = 0) (i : Nat) : l.getD i true = true := by
  rw [Array.getD_eq_getD_getElem?]
  rcases e : l[i]? with _ | b
  · rfl
  · cases b with
    | true => rfl
    | false =>
      exfalso
      unfold lefts at h
      have : false ∈ l.toList := Array.mem_toList_iff.2 (Array.mem_of_getElem? e)
      have := List.count_pos_iff.2 this
      omega
theorem wpAnyH_inv (I : Array Bool → Act → World → Prop)
    (hstep : ∀ listed a w, I listed a w → ∀ i ∈ Region.ready md ops listed, wpOp P ops Q i (fun a' w' => S w' ∧ I (listed.setIfInBounds i true) a' w') a w)
    (hfin : ∀ listed a w, I listed a w → Region.ready md ops listed = [] → Q .normal a w) :
    ∀ (fuel : Nat) (listed : Array Bool) (a : Act) (w : World), lefts listed ≤ fuel → I listed a w → wpAnyH P md ops Q S fuel listed a w
  | 0, listed, a, w, hf, hI => by
    have h0 : Region.ready md ops listed = [] := ready_nil (lefts_none (by omega))
    exact ⟨h0, hfin _ _ _ hI h0⟩
  | fuel + 1, listed, a, w, hf, hI => by
    refine ⟨fun h0 => hfin _ _ _ hI h0, fun i hi => ?_⟩
    have hs := (ready_spec hi).2.1
    exact wpOp_mono (fun a' w' h => ⟨h.1, wpAnyH_inv I hstep hfin fuel _ a' w' (by have := lefts_set hs; omega) h.2⟩) (hstep _ _ _ hI i hi)
end
end Go.Proofs.YtgdigbbfgpenpaaDoor
namespace Go.Proofs.YtgdigbbfgpenpaaDoor
open Go.RowKit
set_option linter.unusedVariables false
set_option linter.unusedSimpArgs false

/-- two boxes with what was made of two kids -/
def TwoBoxC (P0 : Nat → Prop) (B : World) (t1 t2 : Co) (q1 q2 : Value) (wx : World) : Prop :=
  ∃ b1 b2 h1 k1 A1 c1 h2 k2 A2 c2, q1 = .pointer (some ⟨b1, 0, none⟩) ∧ q2 = .pointer (some ⟨b2, 0, none⟩) ∧ t1 = .mk h1 k1 ∧ t2 = .mk h2 k2 ∧ k1.length ≤ c1 ∧ k2.length ≤ c2 ∧ wx.heap[b1]? = some (.cells (coA h1 A1 k1.length c1) 73 (0, 0)) ∧ wx.heap[b2]? = some (.cells (coA h2 A2 k2.length c2) 73 (0, 0)) ∧
    InRow CE P0 wx k1 A1 0 ∧ InRow CE P0 wx k2 A2 0 ∧ Below B.heap.size B wx ∧ B.heap.size ≤ b1 ∧ B.heap.size ≤ b2
/-- one of them: called (c), allocated (a), stored (s) -/
def HalfS (P0 : Nat → Prop) (W : World) (t : Co) (c a s : Bool) (q v : Value) (b : Nat) (ab : Bool) (bb : Nat) (w : World) : Prop :=
  ∃ h k A n, (c = true → v = coV h A k.length n ∧ t = .mk h k ∧ k.length ≤ n ∧ InRow CE (fun x => P0 x ∧ (a = true → x ≠ b) ∧ (ab = true → x ≠ bb)) w k A 0) ∧
    (a = true → q = .pointer (some ⟨b, 0, none⟩) ∧ W.heap.size ≤ b ∧ b < w.heap.size ∧ w.heap[b]? = some (.cells (if s then coA h A k.length n else coZ) 73 (0, 0))) ∧ (s = true → c = true ∧ a = true)
theorem HalfS.below {P0 : Nat → Prop} {W w w' : World} {t : Co} {c a s ab : Bool} {q v : Value} {b bb : Nat} (h : HalfS P0 W t c a s q v b ab bb w) (hb : Below w.heap.size w w') : HalfS P0 W t c a s q v b ab bb w' := by
  obtain ⟨h1, k, A, n, hc, ha, hs⟩ := h
  refine ⟨h1, k, A, n, fun e => ?_, fun e => ?_, hs⟩
  · obtain ⟨e1, e2, e3, e4⟩ := hc e
    exact ⟨e1, e2, e3, e4.below hb⟩
  · obtain ⟨e1, e2, e3, e4⟩ := ha e
    exact ⟨e1, e2, Nat.lt_of_lt_of_le e3 hb.size, (hb.block _ e3).trans e4⟩
/-- the other one's box comes up -/
theorem HalfS.other {P0 : Nat → Prop} {W w : World} {t : Co} {c a s : Bool} {q v : Value} {b bb : Nat} (h : HalfS P0 W t c a s q v b false bb w) (o : Obj) : HalfS P0 W t c a s q v b true w.heap.size (w.alloc o) := by
  obtain ⟨h1, k, A, n, hc, ha, hs⟩ := h.below (below_new (Below.refl _ _) o)
  obtain ⟨h1', k', A', n', hc', ha', hs'⟩ := h
  refine ⟨h1', k', A', n', fun e => ?_, fun e => ?_, hs'⟩
  · obtain ⟨e1, e2, e3, e4⟩ := hc' e
    exact ⟨e1, e2, e3, (e4.there.below (below_new (Below.refl _ _) o)).weak fun x hx => ⟨hx.1.1, hx.1.2.1, fun _ => by have := hx.2; omega⟩⟩
  · obtain ⟨e1, e2, e3, e4⟩ := ha' e
    exact ⟨e1, e2, by rw [World.size_alloc]; omega, heap_keep1 e4 o⟩
theorem HalfS.call {P0 PB : Nat → Prop} {W w w' : World} {t : Co} {a ab : Bool} {q v : Value} {b bb : Nat} {h : CH} {k : List Co} {A : Option Addr} {n : Nat} (H : HalfS P0 W t false a false q v b ab bb w) (hP : ∀ x, PB x → P0 x ∧ x < W.heap.size) (hP0 : ∀ x, W.heap.size ≤ x → P0 x) (hW : W.heap.size ≤ w.heap.size)
    (hbb : ab = true → W.heap.size ≤ bb ∧ bb < w.heap.size) (e : t = .mk h k) (hc : k.length ≤ n) (hr : InRow CE (fun x => PB x ∨ w.heap.size ≤ x) w' k A 0) (hb : Below w.heap.size w w') : HalfS P0 W t true a false q (coV h A k.length n) b ab bb w' := by
  obtain ⟨_, _, _, _, _, ha, _⟩ := H
  refine ⟨h, k, A, n, fun _ => ⟨rfl, e, hc, hr.weak fun x hx => ?_⟩, fun ea => ?_, fun e => by cases e⟩
  · refine ⟨?_, fun ea => ?_, fun eb => ?_⟩
    · rcases hx with h | h
      · exact (hP x h).1
      · exact hP0 x (by omega)
    · obtain ⟨_, e2, e3, _⟩ := ha ea
      rcases hx with h | h
      · have := (hP x h).2; omega
      · omega
    · obtain ⟨e2, e3⟩ := hbb eb
      rcases hx with h | h
      · have := (hP x h).2; omega
      · omega
  · obtain ⟨e1, e2, e3, e4⟩ := ha ea
    exact ⟨e1, e2, Nat.lt_of_lt_of_le e3 hb.size, (hb.block _ e3).trans e4⟩
theorem HalfS.alloc {P0 : Nat → Prop} {W w : World} {t : Co} {c ab : Bool} {q v : Value} {b bb : Nat} (H : HalfS P0 W t c false false q v b ab bb w) (hW : W.heap.size ≤ w.heap.size) :
    HalfS P0 W t c true false (.pointer (some ⟨w.heap.size, 0, none⟩)) v w.heap.size ab bb (w.alloc (.cells coZ 73)) := by
  obtain ⟨h, k, A, n, hc, ha, hs⟩ := H
  refine ⟨h, k, A, n, fun e => ?_, fun _ => ⟨rfl, hW, by rw [World.size_alloc]; omega, new_at1 _⟩, fun e => by cases e⟩
  obtain ⟨e1, e2, e3, e4⟩ := hc e
  exact ⟨e1, e2, e3, (e4.there.below (below_new (Below.refl _ _) _)).weak fun x hx => ⟨hx.1.1, fun _ => by have := hx.2; omega, hx.1.2.2⟩⟩
theorem HalfS.store {P0 : Nat → Prop} {W w : World} {t : Co} {ab : Bool} {q v : Value} {b bb : Nat} (H : HalfS P0 W t true true false q v b ab bb w) :
    q = .pointer (some ⟨b, 0, none⟩) ∧ w.heap[b]? = some (.cells coZ 73 (0, 0)) ∧ W.heap.size ≤ b ∧ ∃ (h : CH) (k : List Co) (A : Option Addr) (n : Nat), v = coV h A k.length n ∧
      HalfS P0 W t true true true q v b ab bb (((((((w.setCell ⟨b, 0, none⟩ (.int .u8 (h.k.toNat : Int))).setCell ⟨b, 1, none⟩ (.string (str h.b))).setCell ⟨b, 2, none⟩ (.int .u64 (h.s.a.toNat : Int))).setCell ⟨b, 3, none⟩ (.int .u64 (h.s.b.toNat : Int))).setCell ⟨b, 4, none⟩ (.int .u64 (h.s.c.toNat : Int))).setCell ⟨b, 5, none⟩ (.int .u64 (h.s.d.toNat : Int))).setCell ⟨b, 6, none⟩ (.slice A k.length n)) := by
  obtain ⟨h, k, A, n, hc, ha, hs⟩ := H
  obtain ⟨e1, e2, e3, e4⟩ := hc rfl
  obtain ⟨f1, f2, f3, f4⟩ := ha rfl
  refine ⟨f1, f4, f2, h, k, A, n, e1, h, k, A, n, fun _ => ⟨e1, e2, e3, row_seven e4 fun x hx => hx.2.1 rfl⟩, fun _ => ⟨f1, f2, by simpa using f3, seven_setCells f4⟩, fun _ => ⟨rfl, rfl⟩⟩
theorem HalfS.stored {P0 : Nat → Prop} {W w : World} {t : Co} {c a s : Bool} {q v : Value} {b bb : Nat} {u0 u1 u2 u3 u4 u5 u6 : Value} (H : HalfS P0 W t c a s q v b true bb w) (hne : a = true → b ≠ bb) :
    HalfS P0 W t c a s q v b true bb (((((((w.setCell ⟨bb, 0, none⟩ u0).setCell ⟨bb, 1, none⟩ u1).setCell ⟨bb, 2, none⟩ u2).setCell ⟨bb, 3, none⟩ u3).setCell ⟨bb, 4, none⟩ u4).setCell ⟨bb, 5, none⟩ u5).setCell ⟨bb, 6, none⟩ u6) := by
  obtain ⟨h, k, A, n, hc, ha, hs⟩ := H
  refine ⟨h, k, A, n, fun e => ?_, fun e => ?_, hs⟩
  · obtain ⟨e1, e2, e3, e4⟩ := hc e
    exact ⟨e1, e2, e3, row_seven e4 fun x hx => hx.2.2 rfl⟩
  · obtain ⟨f1, f2, f3, f4⟩ := ha e
    exact ⟨f1, f2, by simpa using f3, (seven_other (hne e)).trans f4⟩
/-- both -/
def TwoS (P0 : Nat → Prop) (W : World) (tx ty : Co) (c1 c2 a3 a4 s3 s4 : Bool) (q3 q4 v1 v2 : Value) (w : World) : Prop :=
  ∃ b3 b4, HalfS P0 W tx c1 a3 s3 q3 v1 b3 a4 b4 w ∧ HalfS P0 W ty c2 a4 s4 q4 v2 b4 a3 b3 w ∧ (a3 = true → a4 = true → b3 ≠ b4) ∧ (a3 = true → W.heap.size ≤ b3 ∧ b3 < w.heap.size) ∧ (a4 = true → W.heap.size ≤ b4 ∧ b4 < w.heap.size) ∧ Below W.heap.size W w
theorem TwoS.start {P0 : Nat → Prop} {W : World} {tx ty : Co} {w : World} (q3 q4 v1 v2 : Value) (hb : Below W.heap.size W w) : TwoS P0 W tx ty false false false false false false q3 q4 v1 v2 w := by
  have e0 : ∀ {p : Prop}, (false = true → p) := fun e => by cases e
  exact ⟨0, 0, ⟨⟨0, [], S4.zero⟩, [], none, 0, e0, e0, e0⟩, ⟨⟨0, [], S4.zero⟩, [], none, 0, e0, e0, e0⟩, e0, e0, e0, hb⟩
theorem TwoS.swap {P0 : Nat → Prop} {W : World} {tx ty : Co} {c1 c2 a3 a4 s3 s4 : Bool} {q3 q4 v1 v2 : Value} {w : World} (H : TwoS P0 W tx ty c1 c2 a3 a4 s3 s4 q3 q4 v1 v2 w) : TwoS P0 W ty tx c2 c1 a4 a3 s4 s3 q4 q3 v2 v1 w := by
  obtain ⟨b3, b4, h1, h2, h3, h4, h5, h6⟩ := H
  exact ⟨b4, b3, h2, h1, fun a b e => h3 b a e.symm, h5, h4, h6⟩
theorem TwoS.below_ {P0 : Nat → Prop} {W : World} {tx ty : Co} {c1 c2 a3 a4 s3 s4 : Bool} {q3 q4 v1 v2 : Value} {w : World} (H : TwoS P0 W tx ty c1 c2 a3 a4 s3 s4 q3 q4 v1 v2 w) : Below W.heap.size W w := by
  obtain ⟨b3, b4, h1, h2, h3, h4, h5, h6⟩ := H
  exact h6
theorem TwoS.call {P0 PB : Nat → Prop} {W : World} {tx ty : Co} {c2 a3 a4 s4 : Bool} {q3 q4 v1 v2 : Value} {w w' : World} (H : TwoS P0 W tx ty false c2 a3 a4 false s4 q3 q4 v1 v2 w) (hP : ∀ x, PB x → P0 x ∧ x < W.heap.size) (hP0 : ∀ x, W.heap.size ≤ x → P0 x)
    {h : CH} {k : List Co} {A : Option Addr} {n : Nat} (e : tx = .mk h k) (hc : k.length ≤ n) (hr : InRow CE (fun x => PB x ∨ w.heap.size ≤ x) w' k A 0) (hb : Below w.heap.size w w') : TwoS P0 W tx ty true c2 a3 a4 false s4 q3 q4 (coV h A k.length n) v2 w' := by
  obtain ⟨b3, b4, h1, h2, h3, h4, h5, h6⟩ := H
  exact ⟨b3, b4, h1.call hP hP0 h6.size h5 e hc hr hb, h2.below hb, h3, fun e => ⟨(h4 e).1, Nat.lt_of_lt_of_le (h4 e).2 hb.size⟩, fun e => ⟨(h5 e).1, Nat.lt_of_lt_of_le (h5 e).2 hb.size⟩, below_from h6 hb⟩
theorem TwoS.flags {P0 : Nat → Prop} {W : World} {tx ty : Co} {c1 c2 a3 a4 s3 s4 : Bool} {q3 q4 v1 v2 : Value} {w : World} (H : TwoS P0 W tx ty c1 c2 a3 a4 s3 s4 q3 q4 v1 v2 w) : (s3 = true → c1 = true ∧ a3 = true) ∧ (s4 = true → c2 = true ∧ a4 = true) := by
  obtain ⟨b3, b4, ⟨_, _, _, _, _, _, h1⟩, ⟨_, _, _, _, _, _, h2⟩, _⟩ := H
  exact ⟨h1, h2⟩
theorem TwoS.alloc {P0 : Nat → Prop} {W : World} {tx ty : Co} {c1 c2 a4 s4 : Bool} {q3 q4 v1 v2 : Value} {w : World} (H : TwoS P0 W tx ty c1 c2 false a4 false s4 q3 q4 v1 v2 w) :
    TwoS P0 W tx ty c1 c2 true a4 false s4 (.pointer (some ⟨w.heap.size, 0, none⟩)) q4 v1 v2 (w.alloc (.cells coZ 73)) := by
  obtain ⟨b3, b4, h1, h2, h3, h4, h5, h6⟩ := H
  exact ⟨w.heap.size, b4, h1.alloc h6.size, h2.other _, fun _ e => by have := (h5 e).2; omega, fun _ => ⟨h6.size, by rw [World.size_alloc]; omega⟩, fun e => ⟨(h5 e).1, by rw [World.size_alloc]; have := (h5 e).2; omega⟩, below_new h6 _⟩
theorem TwoS.store {P0 : Nat → Prop} {W : World} {tx ty : Co} {c2 a4 s4 : Bool} {q3 q4 v1 v2 : Value} {w : World} (H : TwoS P0 W tx ty true c2 true a4 false s4 q3 q4 v1 v2 w) :
    ∃ (b : Nat) (h : CH) (k : List Co) (A : Option Addr) (n : Nat), q3 = .pointer (some ⟨b, 0, none⟩) ∧ v1 = coV h A (List.length (α := Co) k) n ∧ w.heap[b]? = some (.cells coZ 73 (0, 0)) ∧ TwoS P0 W tx ty true c2 true a4 true s4 q3 q4 v1 v2 (((((((w.setCell ⟨b, 0, none⟩ (.int .u8 (h.k.toNat : Int))).setCell ⟨b, 1, none⟩ (.string (str h.b))).setCell ⟨b, 2, none⟩ (.int .u64 (h.s.a.toNat : Int))).setCell ⟨b, 3, none⟩ (.int .u64 (h.s.b.toNat : Int))).setCell ⟨b, 4, none⟩ (.int .u64 (h.s.c.toNat : Int))).setCell ⟨b, 5, none⟩ (.int .u64 (h.s.d.toNat : Int))).setCell ⟨b, 6, none⟩ (.slice A k.length n)) := by
  obtain ⟨b3, b4, h1, h2, h3, h4, h5, h6⟩ := H
  obtain ⟨e1, e2, e3, h, k, A, n, e4, h7⟩ := h1.store
  refine ⟨b3, h, k, A, n, e1, e4, e2, b3, b4, h7, h2.stored fun e => (h3 rfl e).symm, h3, fun e => ?_, fun e => ?_, seven_below h6 e3⟩
  · simpa using h4 e
  · simpa using h5 e
theorem TwoS.done {P0 : Nat → Prop} {W : World} {tx ty : Co} {q3 q4 v1 v2 : Value} {w : World} (H : TwoS P0 W tx ty true true true true true true q3 q4 v1 v2 w) : TwoBoxC P0 W tx ty q3 q4 w := by
  obtain ⟨b3, b4, ⟨ha, ka, Aa, ca, h1, h2, _⟩, ⟨hb, kb, Ab, cb, h3, h4, _⟩, h5, h6, h7, h8⟩ := H
  obtain ⟨a1, a2, a3, a4⟩ := h1 rfl
  obtain ⟨b1, b2, b5, b6⟩ := h3 rfl
  obtain ⟨d1, d2, d3, d4⟩ := h2 rfl
  obtain ⟨f1, f2, f3, f4⟩ := h4 rfl
  exact ⟨b3, b4, ha, ka, Aa, ca, hb, kb, Ab, cb, d1, f1, a2, b2, a3, b5, d4, f4, a4.weak fun x hx => hx.1, b6.weak fun x hx => hx.1, h8, d2, f2⟩
end Go.Proofs.YtgdigbbfgpenpaaDoor
