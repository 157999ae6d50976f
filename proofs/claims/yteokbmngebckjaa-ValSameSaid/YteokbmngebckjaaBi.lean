/- Coded expressions, plain: what fits the empty text, the coded derivative; how long bits grow. The bits of how a coded expression fits the empty text. What coded expressions fit, and the bits of the right way (plain): the coded derivative keeps both. Expressions, plain: what they fit; what coded ones stand for fits the same. coded.Ends, coded.Null, coded.Bare. Whether an expression fits the empty text, as the document has it. A slice in a box, that grows by one tree: what an append and the store behind it leave. Expressions, coded, as the document has it. -/
import Derived.Test.YteokbmngebckjaaBc
import Derived.Test.YteokbmngebckjaaBd
import Derived.Test.YteokbmngebckjaaBb
import Derived.Test.YteokbmngebckjaaBa
import Derived.Test.YteokbmngebckjaaBf
namespace Go.Proofs.Yteokbmngebckjaa
open Go.RowKit
set_option linter.unusedVariables false
set_option linter.unusedSimpArgs false

abbrev cEmp : Co := .mk ⟨1, [], S4.zero⟩ []
abbrev cEps (b : List UInt8) : Co := .mk ⟨2, b, S4.zero⟩ []
abbrev cCls (b : List UInt8) (s : S4) : Co := .mk ⟨3, b, s⟩ []
abbrev cSeq (b : List UInt8) (x y : Co) : Co := .mk ⟨4, b, S4.zero⟩ [x, y]
abbrev cAlt (b : List UInt8) (ks : List Co) : Co := .mk ⟨5, b, S4.zero⟩ ks
abbrev cStar (b : List UInt8) (x : Co) : Co := .mk ⟨6, b, S4.zero⟩ [x]

theorem two_of {α : Type} {l : List α} (h : l.length = 2) : ∃ x y, l = [x, y] := by
  match l, h with
  | [x, y], _ => exact ⟨x, y, rfl⟩
theorem u8_is {x : UInt8} {n : Nat} (h : x.toNat = n) : x = UInt8.ofNat n := by
  rw [← h]; simp
/-- the kinds of those that may be -/
theorem okC_cases {t : Co} (H : okC t = true) : t = cEmp ∨ (∃ b, bitsB b = true ∧ t = cEps b) ∨ (∃ b s, bitsB b = true ∧ s ≠ S4.zero ∧ t = cCls b s) ∨
    (∃ b x y, bitsB b = true ∧ okC x = true ∧ okC y = true ∧ t = cSeq b x y) ∨ (∃ b ks, bitsB b = true ∧ okCL ks = true ∧ t = cAlt b ks) ∨ (∃ b x, bitsB b = true ∧ okC x = true ∧ t = cStar b x) := by
  obtain ⟨⟨k, b, s⟩, ks⟩ := t
  simp only [okC, Bool.and_eq_true] at H
  obtain ⟨H1, H2⟩ := H
  unfold okNodeC at H1
  rw [Bool.and_eq_true] at H1
  obtain ⟨hb, H1⟩ := H1
  simp only at hb H1
  split at H1
  · rename_i e
    have := u8_is e
    simp at H1
    obtain ⟨e1, e2, e3⟩ := H1
    subst e1 e2 e3 this
    exact .inl rfl
  split at H1
  · rename_i e
    have := u8_is e
    simp at H1
    obtain ⟨e1, e2⟩ := H1
    subst e1 e2 this
    exact .inr (.inl ⟨b, hb, rfl⟩)
  split at H1
  · rename_i e
    have := u8_is e
    simp at H1
    obtain ⟨e1, e2⟩ := H1
    subst e1 this
    exact .inr (.inr (.inl ⟨b, s, hb, e2, rfl⟩))
  split at H1
  · rename_i e
    have := u8_is e
    simp at H1
    obtain ⟨e1, e2⟩ := H1
    obtain ⟨x, y, rfl⟩ := two_of e1
    simp [okCL] at H2
    subst e2 this
    exact .inr (.inr (.inr (.inl ⟨b, x, y, hb, H2.1, H2.2, rfl⟩)))
  split at H1
  · rename_i e
    have := u8_is e
    simp at H1
    subst H1 this
    exact .inr (.inr (.inr (.inr (.inl ⟨b, ks, hb, H2, rfl⟩))))
  split at H1
  · rename_i e
    have := u8_is e
    simp at H1
    obtain ⟨e1, e2⟩ := H1
    obtain ⟨x, rfl⟩ := List.length_eq_one_iff.1 e1
    simp [okCL] at H2
    subst e2 this
    exact .inr (.inr (.inr (.inr (.inr ⟨b, x, hb, H2, rfl⟩))))
  · cases H1
theorem okCL_mem {ks : List Co} (h : okCL ks = true) {t : Co} (ht : t ∈ ks) : okC t = true := by
  rw [okCL_all] at h
  exact List.all_eq_true.1 h t ht
theorem okCL_of {ks : List Co} (h : ∀ t ∈ ks, okC t = true) : okCL ks = true := by
  rw [okCL_all]
  exact List.all_eq_true.2 h
theorem okC_ind {P : Co → Prop} (h1 : P cEmp) (h2 : ∀ b, bitsB b = true → P (cEps b)) (h3 : ∀ b s, bitsB b = true → s ≠ S4.zero → P (cCls b s))
    (h4 : ∀ b x y, bitsB b = true → okC x = true → okC y = true → P x → P y → P (cSeq b x y)) (h5 : ∀ b ks, bitsB b = true → okCL ks = true → (∀ t ∈ ks, P t) → P (cAlt b ks))
    (h6 : ∀ b x, bitsB b = true → okC x = true → P x → P (cStar b x)) : ∀ t : Co, okC t = true → P t := by
  have H : ∀ (n : Nat) (t : Co), t.size ≤ n → okC t = true → P t := by
    intro n
    induction n with
    | zero => intro t ht; have := T.size_pos t; omega
    | succ n ih =>
      intro t ht ho
      rcases okC_cases ho with rfl | ⟨b, hb, rfl⟩ | ⟨b, s, hb, hs, rfl⟩ | ⟨b, x, y, hb, hx, hy, rfl⟩ | ⟨b, ks, hb, hk, rfl⟩ | ⟨b, x, hb, hx, rfl⟩
      · exact h1
      · exact h2 b hb
      · exact h3 b s hb hs
      · simp only [T.size, T.sizes] at ht
        exact h4 b x y hb hx hy (ih x (by omega) hx) (ih y (by omega) hy)
      · simp only [T.size] at ht
        exact h5 b ks hb hk fun t h => ih t (by have := T.sizes_mem h; omega) (okCL_mem hk h)
      · simp only [T.size, T.sizes] at ht
        exact h6 b x hb hx (ih x (by omega) hx)
  exact fun t ho => H t.size t (Nat.le_refl _) ho

mutual
/-- the bits of how one that may be fits the empty text -/
def endsC : Co → Option (List UInt8)
  | .mk h ks => if h.k = 2 then some h.b else if h.k = 6 then some (h.b ++ [49]) else if h.k = 4 then (endsAll ks).map (h.b ++ ·) else if h.k = 5 then (endsAny ks).map (h.b ++ ·) else none
def endsAll : List Co → Option (List UInt8)
  | [] => some []
  | t :: ts => match endsC t, endsAll ts with
    | some a, some b => some (a ++ b)
    | _, _ => none
def endsAny : List Co → Option (List UInt8)
  | [] => none
  | t :: ts => match endsC t with
    | some a => some a
    | none => endsAny ts
end
theorem ends_emp : endsC cEmp = none := rfl
theorem ends_eps (b : List UInt8) : endsC (cEps b) = some b := rfl
theorem ends_cls (b : List UInt8) (s : S4) : endsC (cCls b s) = none := rfl
theorem ends_star (b : List UInt8) (x : Co) : endsC (cStar b x) = some (b ++ [49]) := rfl
theorem ends_alt (b : List UInt8) (ks : List Co) : endsC (cAlt b ks) = (endsAny ks).map (b ++ ·) := by simp [endsC]
theorem ends_seq (b : List UInt8) (x y : Co) : endsC (cSeq b x y) = match endsC x, endsC y with
    | some u, some v => some (b ++ u ++ v)
    | _, _ => none := by
  have e : endsAll [y] = endsC y := by
    simp only [endsAll]
    rcases endsC y with _ | v <;> simp
  have e2 : endsC (cSeq b x y) = (endsAll [x, y]).map (b ++ ·) := by simp [endsC]
  rw [e2]
  rw [endsAll, e]
  rcases endsC x with _ | u <;> rcases endsC y with _ | v <;> simp

mutual
/-- the coded derivative of one that may be -/
def stepC (d : UInt8) : Co → Co
  | .mk h ks =>
    if h.k = 3 then (if h.s.has d.toNat then cEps h.b else cEmp)
    else if h.k = 5 then cAlt h.b (stepCs d ks)
    else if h.k = 4 then (match ks with
      | x :: y :: _ => (match endsC x with
        | none => cSeq h.b (stepC d x) y
        | some s => cAlt h.b [cSeq [] (stepC d x) y, fuseC s (stepC d y)])
      | _ => cEmp)
    else if h.k = 6 then (match ks with
      | x :: l => cSeq h.b (fuseC [48] (stepC d x)) (.mk ⟨6, [], S4.zero⟩ (x :: l))
      | _ => cEmp)
    else cEmp
def stepCs (d : UInt8) : List Co → List Co
  | [] => []
  | t :: ts => stepC d t :: stepCs d ts
end
theorem stepCs_map (d : UInt8) : ∀ ts : List Co, stepCs d ts = ts.map (stepC d)
  | [] => rfl
  | t :: ts => by simp only [stepCs, List.map_cons, stepCs_map d ts]
theorem step_emp (d : UInt8) : stepC d cEmp = cEmp := rfl
theorem step_eps (d : UInt8) (b : List UInt8) : stepC d (cEps b) = cEmp := rfl
theorem step_cls (d : UInt8) (b : List UInt8) (s : S4) : stepC d (cCls b s) = if s.has d.toNat then cEps b else cEmp := rfl
theorem step_alt (d : UInt8) (b : List UInt8) (ks : List Co) : stepC d (cAlt b ks) = cAlt b (ks.map (stepC d)) := by
  rw [← stepCs_map]; unfold stepC; simp
theorem step_seq (d : UInt8) (b : List UInt8) (x y : Co) : stepC d (cSeq b x y) = match endsC x with
    | none => cSeq b (stepC d x) y
    | some s => cAlt b [cSeq [] (stepC d x) y, fuseC s (stepC d y)] := rfl
theorem step_star (d : UInt8) (b : List UInt8) (x : Co) : stepC d (cStar b x) = cSeq b (fuseC [48] (stepC d x)) (cStar [] x) := rfl

theorem size_fuse (s : List UInt8) (t : Co) : (fuseC s t).size = t.size := by
  obtain ⟨h, ks⟩ := t
  simp only [fuseC]
  split <;> simp [T.size]
theorem bits_app (a b : List UInt8) : bitsB (a ++ b) = (bitsB a && bitsB b) := by simp [bitsB, List.all_append]
theorem ok_fuse {s : List UInt8} {t : Co} (hs : bitsB s = true) (ht : okC t = true) : okC (fuseC s t) = true := by
  obtain ⟨⟨k, b, q⟩, ks⟩ := t
  simp only [fuseC]
  split
  · exact ht
  · rename_i hk
    have hk1 : k.toNat ≠ 1 := fun e => hk (u8_is e)
    simp only [okC, okNodeC, hk1, if_false, bits_app, hs, Bool.true_and] at ht ⊢
    exact ht
/-- the bits of the ends are bits -/
theorem ends_bits : ∀ t : Co, okC t = true → ∀ u, endsC t = some u → bitsB u = true := by
  refine okC_ind ?_ ?_ ?_ ?_ ?_ ?_
  · intro u h; cases h
  · intro b hb u h; cases h; exact hb
  · intro b s hb hs u h; cases h
  · intro b x y hb hx hy ihx ihy u h
    rw [ends_seq] at h
    rcases ex : endsC x with _ | a
    · rw [ex] at h; cases h
    rcases ey : endsC y with _ | c
    · rw [ex, ey] at h; cases h
    rw [ex, ey] at h
    cases h
    rw [bits_app, bits_app, hb, ihx a ex, ihy c ey]; rfl
  · intro b ks hb hk ih u h
    rw [ends_alt] at h
    rcases e : endsAny ks with _ | a
    · rw [e] at h; cases h
    rw [e] at h
    cases h
    rw [bits_app, hb]
    clear hk hb
    induction ks with
    | nil => cases e
    | cons t ts iht =>
      simp only [endsAny] at e
      rcases et : endsC t with _ | v
      · rw [et] at e
        exact iht (fun t ht => ih t (List.mem_cons_of_mem _ ht)) e
      · rw [et] at e
        cases e
        rw [ih t List.mem_cons_self _ et]; rfl
  · intro b x hb hx ih u h
    rw [ends_star] at h
    cases h
    rw [bits_app, hb]; rfl
/-- the derivative of one that may be may be, but for its size -/
theorem step_ok (d : UInt8) : ∀ t : Co, okC t = true → okC (stepC d t) = true := by
  refine okC_ind ?_ ?_ ?_ ?_ ?_ ?_
  · rfl
  · intro b hb; rfl
  · intro b s hb hs
    rw [step_cls]
    split
    · simp [okC, okNodeC, okCL, hb]
    · rfl
  · intro b x y hb hx hy ihx ihy
    rw [step_seq]
    rcases ex : endsC x with _ | a
    · simp [okC, okNodeC, okCL, hb, ihx, hy]
    · have := ok_fuse (ends_bits x hx a ex) ihy
      simp [okC, okNodeC, okCL, hb, ihx, hy, this]
      rfl
  · intro b ks hb hk ih
    rw [step_alt]
    have : okCL (ks.map (stepC d)) = true := okCL_of fun t ht => by
      obtain ⟨x, hx, rfl⟩ := List.mem_map.1 ht
      exact ih x hx
    simp [okC, okNodeC, this, hb]
  · intro b x hb hx ih
    rw [step_star]
    have := ok_fuse (s := [48]) rfl ih
    simp [okC, okNodeC, okCL, hb, hx, this]
    rfl
theorem sq_two (a b : Nat) : (a + b) * (a + b) = a * a + b * b + 2 * (a * b) := by
  rw [Nat.add_mul, Nat.mul_add, Nat.mul_add, Nat.mul_comm b a]; omega
theorem mul_ge (x y : Nat) : x + y + 1 ≤ (x + 1) * (y + 1) := by
  rw [Nat.add_mul, Nat.mul_add]; omega
theorem step_sizes {d : UInt8} {ks : List Co} (h : ∀ t ∈ ks, (stepC d t).size + 1 ≤ (t.size + 1) * (t.size + 1)) : T.sizes (ks.map (stepC d)) + 1 ≤ (T.sizes ks + 1) * (T.sizes ks + 1) := by
  induction ks with
  | nil => simp [T.sizes]
  | cons t ts ih =>
    have h1 := h t List.mem_cons_self
    have h2 := ih fun t ht => h t (List.mem_cons_of_mem _ ht)
    simp only [List.map_cons, T.sizes]
    have e := sq_two t.size (T.sizes ts + 1)
    have e2 := sq_two t.size 1
    have e3 : t.size ≤ t.size * (T.sizes ts + 1) := Nat.le_mul_of_pos_right _ (by omega)
    rw [show t.size + T.sizes ts + 1 = t.size + (T.sizes ts + 1) by omega]
    omega
theorem step_size (d : UInt8) : ∀ t : Co, okC t = true → (stepC d t).size + 1 ≤ (t.size + 1) * (t.size + 1) := by
  refine okC_ind ?_ ?_ ?_ ?_ ?_ ?_
  · rw [step_emp]; decide
  · intro b hb
    rw [step_eps]; simp [T.size, T.sizes]
  · intro b s hb hs
    rw [step_cls]
    split <;> simp [T.size, T.sizes]
  · intro b x y hb hx hy ihx ihy
    have e := sq_two (x.size + 1) (y.size + 1)
    have e2 := mul_ge x.size y.size
    have hs : (stepC d (cSeq b x y)).size ≤ 2 + (stepC d x).size + (stepC d y).size + y.size := by
      rw [step_seq]
      rcases endsC x with _ | s <;> simp only [T.size, T.sizes, size_fuse] <;> omega
    simp only [T.size, T.sizes, Nat.add_zero]
    rw [show 1 + (x.size + y.size) + 1 = (x.size + 1) + (y.size + 1) by omega]
    omega
  · intro b ks hb hk ih
    have h := step_sizes ih
    rw [step_alt]
    simp only [T.size]
    have e := sq_two (T.sizes ks + 1) 1
    rw [show 1 + T.sizes ks + 1 = T.sizes ks + 1 + 1 by omega]
    omega
  · intro b x hb hx ih
    rw [step_star]
    simp only [T.size, T.sizes, size_fuse]
    have e := sq_two (x.size + 1) 1
    rw [show 1 + (x.size + 0) + 1 = x.size + 1 + 1 by omega]
    omega
theorem step_size_le {d : UInt8} {t : Co} (h : mayC t = true) : (stepC d t).size ≤ 400040001 := by
  unfold mayC at h
  simp only [Bool.and_eq_true, decide_eq_true_eq] at h
  have h1 := step_size d t h.1
  have h2 : (t.size + 1) * (t.size + 1) ≤ 20001 * 20001 := Nat.mul_le_mul (by omega) (by omega)
  omega

mutual
/-- how many bits one way through has -/
def potV : Co → Nat
  | .mk h ks => h.b.length + (if h.k = 6 then 1 else if h.k = 5 then potMax ks else potSum ks)
def potSum : List Co → Nat
  | [] => 0
  | t :: ts => potV t + potSum ts
def potMax : List Co → Nat
  | [] => 0
  | t :: ts => max (potV t) (potMax ts)
end
mutual
/-- how many more a byte may add -/
def potS : Co → Nat
  | .mk h ks => if h.k = 6 then 1 + potSum ks + potSs ks else potSs ks
def potSs : List Co → Nat
  | [] => 0
  | t :: ts => max (potS t) (potSs ts)
end
theorem potMax_le {m : Nat} : ∀ {ks : List Co}, (∀ t ∈ ks, potV t ≤ m) → potMax ks ≤ m
  | [], _ => Nat.zero_le _
  | t :: ts, h => by
    simp only [potMax]
    have h1 := h t List.mem_cons_self
    have h2 := potMax_le fun t ht => h t (List.mem_cons_of_mem _ ht)
    omega
theorem le_potMax {t : Co} : ∀ {ks : List Co}, t ∈ ks → potV t ≤ potMax ks
  | t :: ts, h => by
    simp only [potMax]
    rcases List.mem_cons.1 h with rfl | h
    · omega
    · have := le_potMax h; omega
theorem le_potSum {t : Co} : ∀ {ks : List Co}, t ∈ ks → potV t ≤ potSum ks
  | t :: ts, h => by
    simp only [potSum]
    rcases List.mem_cons.1 h with rfl | h
    · omega
    · have := le_potSum h; omega
theorem potSs_le {m : Nat} : ∀ {ks : List Co}, (∀ t ∈ ks, potS t ≤ m) → potSs ks ≤ m
  | [], _ => Nat.zero_le _
  | t :: ts, h => by
    simp only [potSs]
    have h1 := h t List.mem_cons_self
    have h2 := potSs_le fun t ht => h t (List.mem_cons_of_mem _ ht)
    omega
theorem le_potSs {t : Co} : ∀ {ks : List Co}, t ∈ ks → potS t ≤ potSs ks
  | t :: ts, h => by
    simp only [potSs]
    rcases List.mem_cons.1 h with rfl | h
    · omega
    · have := le_potSs h; omega
theorem potV_seq (b : List UInt8) (x y : Co) : potV (cSeq b x y) = b.length + (potV x + potV y) := by simp [potV, potSum]
theorem potV_alt (b : List UInt8) (ks : List Co) : potV (cAlt b ks) = b.length + potMax ks := by simp [potV]
theorem potV_star (b : List UInt8) (x : Co) : potV (cStar b x) = b.length + 1 := by simp [potV]
theorem potV_leaf (k : UInt8) (b : List UInt8) (s : S4) : potV (.mk ⟨k, b, s⟩ []) ≤ b.length + 1 := by
  simp only [potV, potSum, potMax]
  split
  · omega
  · split <;> omega
theorem potV_eps (b : List UInt8) : potV (cEps b) = b.length := by simp [potV, potSum]
theorem potV_cls (b : List UInt8) (s : S4) : potV (cCls b s) = b.length := by simp [potV, potSum]
theorem potS_seq (b : List UInt8) (x y : Co) : potS (cSeq b x y) = max (potS x) (potS y) := by simp [potS, potSs]
theorem potS_alt (b : List UInt8) (ks : List Co) : potS (cAlt b ks) = potSs ks := by simp [potS]
theorem potS_star (b : List UInt8) (x : Co) : potS (cStar b x) = 1 + potV x + potS x := by simp [potS, potSs, potSum]
theorem potV_fuse (s : List UInt8) (t : Co) : potV (fuseC s t) ≤ s.length + potV t := by
  obtain ⟨h, ks⟩ := t
  simp only [fuseC]
  split
  · omega
  · simp only [potV, List.length_append]; omega
theorem potS_fuse (s : List UInt8) (t : Co) : potS (fuseC s t) = potS t := by
  obtain ⟨h, ks⟩ := t
  simp only [fuseC]
  split <;> simp only [potS]
theorem ends_pot : ∀ t : Co, okC t = true → ∀ u, endsC t = some u → u.length ≤ potV t := by
  refine okC_ind ?_ ?_ ?_ ?_ ?_ ?_
  · intro u h; cases h
  · intro b hb u h; cases h; rw [potV_eps]; exact Nat.le_refl _
  · intro b s hb hs u h; cases h
  · intro b x y hb hx hy ihx ihy u h
    rw [ends_seq] at h
    rcases ex : endsC x with _ | a
    · rw [ex] at h; cases h
    rcases ey : endsC y with _ | c
    · rw [ex, ey] at h; cases h
    rw [ex, ey] at h
    cases h
    have h1 := ihx a ex
    have h2 := ihy c ey
    rw [potV_seq, List.length_append, List.length_append]
    omega
  · intro b ks hb hk ih u h
    rw [ends_alt] at h
    rcases e : endsAny ks with _ | a
    · rw [e] at h; cases h
    rw [e] at h
    cases h
    rw [potV_alt, List.length_append]
    have : a.length ≤ potMax ks := by
      clear hk hb
      induction ks with
      | nil => cases e
      | cons t ts iht =>
        simp only [endsAny] at e
        simp only [potMax]
        rcases et : endsC t with _ | v
        · rw [et] at e
          have := iht (fun t ht => ih t (List.mem_cons_of_mem _ ht)) e
          omega
        · rw [et] at e
          cases e
          have := ih t List.mem_cons_self _ et
          omega
    omega
  · intro b x hb hx ih u h
    rw [ends_star] at h
    cases h
    rw [potV_star, List.length_append]
    exact Nat.le_refl _
theorem step_pot (d : UInt8) : ∀ t : Co, okC t = true → potV (stepC d t) ≤ potV t + potS t ∧ potS (stepC d t) ≤ potS t := by
  refine okC_ind ?_ ?_ ?_ ?_ ?_ ?_
  · rw [step_emp]; exact ⟨Nat.zero_le _, Nat.zero_le _⟩
  · intro b hb
    rw [step_eps]; simp [potV, potS, potSum, potSs]
  · intro b s hb hs
    rw [step_cls]
    split
    · rw [potV_eps, potV_cls]; simp [potS, potSs]
    · simp [potV, potS, potSum, potSs]
  · intro b x y hb hx hy ihx ihy
    rw [step_seq]
    rcases ex : endsC x with _ | s
    · simp only [potV_seq, potS_seq]; omega
    · have h1 := ends_pot x hx s ex
      have h2 := potV_fuse s (stepC d y)
      have h3 := potS_fuse s (stepC d y)
      simp only [potV_alt, potS_alt, potMax, potSs, potV_seq, potS_seq, List.length_nil, h3]
      omega
  · intro b ks hb hk ih
    rw [step_alt, potV_alt, potV_alt, potS_alt, potS_alt]
    have h1 : potMax (ks.map (stepC d)) ≤ potMax ks + potSs ks := potMax_le fun t ht => by
      obtain ⟨x, hx, rfl⟩ := List.mem_map.1 ht
      have := (ih x hx).1
      have := le_potMax hx
      have := le_potSs hx
      omega
    have h2 : potSs (ks.map (stepC d)) ≤ potSs ks := potSs_le fun t ht => by
      obtain ⟨x, hx, rfl⟩ := List.mem_map.1 ht
      have := (ih x hx).2
      have := le_potSs hx
      omega
    omega
  · intro b x hb hx ih
    rw [step_star]
    have h2 := potV_fuse [48] (stepC d x)
    have h3 := potS_fuse [48] (stepC d x)
    simp only [potV_seq, potS_seq, potV_star, potS_star, h3, List.length_cons, List.length_nil] at h2 ⊢
    omega
/-- a node's bits -/
theorem node_pot : ∀ t : Co, okC t = true → ∀ x ∈ t.all, x.head.b.length ≤ potV t + potS t := by
  refine okC_ind ?_ ?_ ?_ ?_ ?_ ?_
  · intro x hx; simp [T.all, T.alls] at hx; subst hx; simp [T.head]
  · intro b hb x hx; simp [T.all, T.alls] at hx; subst hx; simp [T.head, potV]; omega
  · intro b s hb hs x hx; simp [T.all, T.alls] at hx; subst hx; simp [T.head, potV]; omega
  · intro b x y hb hx hy ihx ihy z hz
    simp only [T.all, T.alls, List.append_nil, List.mem_cons, List.mem_append] at hz
    rw [potV_seq, potS_seq]
    rcases hz with rfl | hz | hz
    · simp [T.head]; omega
    · have := ihx z hz; omega
    · have := ihy z hz; omega
  · intro b ks hb hk ih z hz
    simp only [T.all, List.mem_cons] at hz
    rw [potV_alt, potS_alt]
    rcases hz with rfl | hz
    · simp [T.head]; omega
    · obtain ⟨t, ht, hz⟩ : ∃ t ∈ ks, z ∈ t.all := by
        clear ih hk hb
        induction ks with
        | nil => simp [T.alls] at hz
        | cons t ts iht =>
          simp only [T.alls, List.mem_append] at hz
          rcases hz with hz | hz
          · exact ⟨t, List.mem_cons_self, hz⟩
          · obtain ⟨t', h1, h2⟩ := iht hz
            exact ⟨t', List.mem_cons_of_mem _ h1, h2⟩
      have := ih t ht z hz
      have := le_potMax ht
      have := le_potSs ht
      omega
  · intro b x hb hx ih z hz
    simp only [T.all, T.alls, List.append_nil, List.mem_cons] at hz
    rw [potV_star, potS_star]
    rcases hz with rfl | hz
    · simp [T.head]; omega
    · have := ih z hz; omega
theorem pot_short {t : Co} (ho : okC t = true) (h : potV t + potS t ≤ 1000000000) : shortC t := fun x hx => Nat.le_trans (node_pot t ho x hx) h
/-- how much there is of bits where no node has more than some -/
theorem potV_le {m : Nat} : ∀ t : Co, okC t = true → (∀ x ∈ t.all, x.head.b.length ≤ m) → potV t ≤ t.size * (m + 1) ∧ potS t ≤ t.size * (t.size * (m + 1)) := by
  have mul3 : ∀ (a b c : Nat), a ≤ b → a * c ≤ b * c := fun a b c h => Nat.mul_le_mul_right c h
  refine okC_ind ?_ ?_ ?_ ?_ ?_ ?_
  · intro h; simp [potV, potS, potSum, potSs]
  · intro b hb h
    have := h _ (List.mem_cons_self)
    simp only [T.head] at this
    simp [potV, potS, potSum, potSs, T.size, T.sizes]; omega
  · intro b s hb hs h
    have := h _ (List.mem_cons_self)
    simp only [T.head] at this
    simp [potV, potS, potSum, potSs, T.size, T.sizes]; omega
  · intro b x y hb hx hy ihx ihy h
    have h0 : b.length ≤ m := h _ List.mem_cons_self
    obtain ⟨x1, x2⟩ := ihx fun z hz => h z (by simp [T.all, T.alls, hz])
    obtain ⟨y1, y2⟩ := ihy fun z hz => h z (by simp [T.all, T.alls, hz])
    rw [potV_seq, potS_seq]
    simp only [T.size, T.sizes, Nat.add_zero]
    have e : (1 + (x.size + y.size)) * (m + 1) = (m + 1) + (x.size * (m + 1) + y.size * (m + 1)) := by rw [Nat.add_mul, Nat.add_mul, Nat.one_mul]
    refine ⟨by omega, ?_⟩
    have h1 : x.size * (x.size * (m + 1)) ≤ (1 + (x.size + y.size)) * ((1 + (x.size + y.size)) * (m + 1)) := Nat.mul_le_mul (by omega) (mul3 _ _ _ (by omega))
    have h2 : y.size * (y.size * (m + 1)) ≤ (1 + (x.size + y.size)) * ((1 + (x.size + y.size)) * (m + 1)) := Nat.mul_le_mul (by omega) (mul3 _ _ _ (by omega))
    omega
  · intro b ks hb hk ih h
    have h0 : b.length ≤ m := h _ List.mem_cons_self
    have hm : ∀ t ∈ ks, ∀ x ∈ t.all, x.head.b.length ≤ m := fun t ht x hx => h x (by simp only [T.all, List.mem_cons]; exact .inr (alls_mem ht hx))
    rw [potV_alt, potS_alt]
    simp only [T.size]
    have hx : potMax ks ≤ T.sizes ks * (m + 1) := potMax_le fun t ht => Nat.le_trans (ih t ht (hm t ht)).1 (mul3 _ _ _ (T.sizes_mem ht))
    have hy : potSs ks ≤ T.sizes ks * (T.sizes ks * (m + 1)) := potSs_le fun t ht => Nat.le_trans (ih t ht (hm t ht)).2 (Nat.mul_le_mul (T.sizes_mem ht) (mul3 _ _ _ (T.sizes_mem ht)))
    have e : (1 + T.sizes ks) * (m + 1) = (m + 1) + T.sizes ks * (m + 1) := by rw [Nat.add_mul, Nat.one_mul]
    refine ⟨by omega, Nat.le_trans hy (Nat.mul_le_mul (by omega) (mul3 _ _ _ (by omega)))⟩
  · intro b x hb hx ih h
    have h0 : b.length ≤ m := h _ List.mem_cons_self
    obtain ⟨x1, x2⟩ := ih fun z hz => h z (by simp [T.all, T.alls, hz])
    rw [potV_star, potS_star]
    simp only [T.size, T.sizes, Nat.add_zero]
    have e : (1 + x.size) * (m + 1) = (m + 1) + x.size * (m + 1) := by rw [Nat.add_mul, Nat.one_mul]
    refine ⟨by omega, ?_⟩
    have e2 : (1 + x.size) * ((1 + x.size) * (m + 1)) = (1 + x.size) * (m + 1) + x.size * ((1 + x.size) * (m + 1)) := by rw [Nat.add_mul 1 x.size ((1 + x.size) * (m + 1)), Nat.one_mul]
    have h2 : x.size * (x.size * (m + 1)) ≤ x.size * ((1 + x.size) * (m + 1)) := Nat.mul_le_mul_left _ (mul3 _ _ _ (by omega))
    omega
end Go.Proofs.Yteokbmngebckjaa
namespace Go.Proofs.Yteokbmngebckjaa
open Go.RowKit
set_option linter.unusedVariables false
set_option linter.unusedSimpArgs false

def endsV : Option (List UInt8) → Value
  | some u => .tuple #[.string (str u), .bool true]
  | none => .tuple #[.string ⟨#[]⟩, .bool false]
def EndsOk (f : FuncId) (h : CH) (ks : List Co) : Prop := ∀ (ok : Nat → Prop) (A : Option Addr) (c : Nat) (w : World), ks.length ≤ c → InRow CE ok w ks A 0 →
  Calls Try.prog f #[coV h A ks.length c] w fun e w' => e = .returned (endsV (endsC (.mk h ks))) ∧ Below w.heap.size w w'
def EndsOkT (f : FuncId) (t : Co) : Prop := ∀ h ks, t = .mk h ks → EndsOk f h ks
theorem kidC0 {ok : Nat → Prop} {w : World} {h : CH} {ks r : List Co} {A : Option Addr} (hr : InRow CE ok w (.mk h ks :: r) A 0) :
    ∃ (ad : Addr) (A1 : Option Addr) (c1 : Nat), A = some ad ∧ ks.length ≤ c1 ∧ InRow CE ok w ks A1 0 ∧
      w.cell? ad = some (.int .u8 (h.k.toNat : Int)) ∧ w.cell? ⟨ad.block, ad.off + 1, none⟩ = some (.string (str h.b)) ∧ w.cell? ⟨ad.block, ad.off + 2, none⟩ = some (.int .u64 (h.s.a.toNat : Int)) ∧ w.cell? ⟨ad.block, ad.off + 3, none⟩ = some (.int .u64 (h.s.b.toNat : Int)) ∧
      w.cell? ⟨ad.block, ad.off + 4, none⟩ = some (.int .u64 (h.s.c.toNat : Int)) ∧ w.cell? ⟨ad.block, ad.off + 5, none⟩ = some (.int .u64 (h.s.d.toNat : Int)) ∧ w.cell? ⟨ad.block, ad.off + 6, none⟩ = some (.slice A1 ks.length c1) := by
  obtain ⟨t, ad, h1, ls, A1, c1, hA, hx, e, hc1, hr1, q⟩ := co_at hr (k := 0) (by simp)
  simp only [List.getElem?_cons_zero, Option.some.injEq] at hx
  rw [e] at hx
  injection hx with e1 e2
  subst e1 e2
  rw [Nat.zero_mul, show ad.add 0 = ad by unfold Addr.add; rfl] at q
  exact ⟨ad, A1, c1, hA, hc1, hr1, q⟩
theorem kidC1 {ok : Nat → Prop} {w : World} {t0 : Co} {h : CH} {ks r : List Co} {A : Option Addr} (hr : InRow CE ok w (t0 :: .mk h ks :: r) A 0) :
    ∃ (ad : Addr) (A1 : Option Addr) (c1 : Nat), A = some ad ∧ ks.length ≤ c1 ∧ InRow CE ok w ks A1 0 ∧
      w.cell? ⟨ad.block, ad.off + 7, none⟩ = some (.int .u8 (h.k.toNat : Int)) ∧ w.cell? ⟨ad.block, ad.off + 7 + 1, none⟩ = some (.string (str h.b)) ∧ w.cell? ⟨ad.block, ad.off + 7 + 2, none⟩ = some (.int .u64 (h.s.a.toNat : Int)) ∧ w.cell? ⟨ad.block, ad.off + 7 + 3, none⟩ = some (.int .u64 (h.s.b.toNat : Int)) ∧
      w.cell? ⟨ad.block, ad.off + 7 + 4, none⟩ = some (.int .u64 (h.s.c.toNat : Int)) ∧ w.cell? ⟨ad.block, ad.off + 7 + 5, none⟩ = some (.int .u64 (h.s.d.toNat : Int)) ∧ w.cell? ⟨ad.block, ad.off + 7 + 6, none⟩ = some (.slice A1 ks.length c1) := by
  obtain ⟨t, ad, h1, ls, A1, c1, hA, hx, e, hc1, hr1, q⟩ := co_at hr (k := 1) (by simp)
  simp only [List.getElem?_cons_succ, List.getElem?_cons_zero, Option.some.injEq] at hx
  rw [e] at hx
  injection hx with e1 e2
  subst e1 e2
  rw [Nat.one_mul, show ad.add 7 = ⟨ad.block, ad.off + 7, none⟩ by unfold Addr.add; rfl] at q
  exact ⟨ad, A1, c1, hA, hc1, hr1, q⟩
theorem any_skip_cends {ks : List Co} {k : Nat} {t : Co} (h : ks[k]? = some t) (hn : endsC t = none) : endsAny (ks.drop k) = endsAny (ks.drop (k + 1)) := by
  obtain ⟨hk, e⟩ := List.getElem?_eq_some_iff.1 h
  rw [List.drop_eq_getElem_cons hk, e, endsAny, hn]
theorem any_stop_cends {ks : List Co} {k : Nat} {t : Co} {u : List UInt8} (h : ks[k]? = some t) (hn : endsC t = some u) : endsAny (ks.drop k) = some u := by
  obtain ⟨hk, e⟩ := List.getElem?_eq_some_iff.1 h
  rw [List.drop_eq_getElem_cons hk, e, endsAny, hn]
theorem any_skip_refEnds {ks : List Co} {k : Nat} {t : Co} (h : ks[k]? = some t) (hn : endsC t = none) : endsAny (ks.drop k) = endsAny (ks.drop (k + 1)) := by
  obtain ⟨hk, e⟩ := List.getElem?_eq_some_iff.1 h
  rw [List.drop_eq_getElem_cons hk, e, endsAny, hn]
theorem any_stop_refEnds {ks : List Co} {k : Nat} {t : Co} {u : List UInt8} (h : ks[k]? = some t) (hn : endsC t = some u) : endsAny (ks.drop k) = some u := by
  obtain ⟨hk, e⟩ := List.getElem?_eq_some_iff.1 h
  rw [List.drop_eq_getElem_cons hk, e, endsAny, hn]
end Go.Proofs.Yteokbmngebckjaa
namespace Go.Proofs.Yteokbmngebckjaa
open Go.RowKit
set_option linter.unusedVariables false
set_option linter.unusedSimpArgs false

/-- some texts, none empty, one behind the other -/
inductive StarP (P : List UInt8 → Prop) : List UInt8 → Prop
  | nil : StarP P []
  | cons {u v : List UInt8} : P u → u ≠ [] → StarP P v → StarP P (u ++ v)
theorem StarP.mono {P Q : List UInt8 → Prop} (h : ∀ u, P u → Q u) {s : List UInt8} (hs : StarP P s) : StarP Q s := by
  induction hs with
  | nil => exact .nil
  | cons h1 h2 _ ih => exact .cons (h _ h1) h2 ih
theorem StarP.iff {P Q : List UInt8 → Prop} (h : ∀ u, P u ↔ Q u) (s : List UInt8) : StarP P s ↔ StarP Q s := ⟨StarP.mono fun u => (h u).1, StarP.mono fun u => (h u).2⟩
theorem StarP.head {P : List UInt8 → Prop} {d : UInt8} {s : List UInt8} : StarP P (d :: s) ↔ ∃ u v, s = u ++ v ∧ P (d :: u) ∧ StarP P v := by
  constructor
  · intro h
    generalize hx : d :: s = x at h
    cases h with
    | nil => cases hx
    | @cons u v h1 h2 h3 =>
      cases u with
      | nil => exact absurd rfl h2
      | cons c u =>
        simp only [List.cons_append, List.cons.injEq] at hx
        obtain ⟨rfl, rfl⟩ := hx
        exact ⟨u, v, rfl, h1, h3⟩
  · rintro ⟨u, v, rfl, h1, h2⟩
    exact .cons (u := d :: u) h1 (by simp) h2
mutual
/-- does a coded expression fit a text? -/
def LC : Co → List UInt8 → Prop
  | .mk h ks, s => if h.k = 2 then s = [] else if h.k = 3 then (∃ c, s = [c] ∧ h.s.has c.toNat = true) else if h.k = 4 then LSeq ks s else if h.k = 5 then LAny ks s else if h.k = 6 then StarP (LAny ks) s else False
def LSeq : List Co → List UInt8 → Prop
  | [], s => s = []
  | t :: ts, s => ∃ u v, s = u ++ v ∧ LC t u ∧ LSeq ts v
def LAny : List Co → List UInt8 → Prop
  | [], _ => False
  | t :: ts, s => LC t s ∨ LAny ts s
end
theorem LC_emp (s : List UInt8) : LC cEmp s ↔ False := by simp [LC]
theorem LC_eps (b s : List UInt8) : LC (cEps b) s ↔ s = [] := by simp [LC]
theorem LC_cls (b : List UInt8) (S : S4) (s : List UInt8) : LC (cCls b S) s ↔ ∃ c, s = [c] ∧ S.has c.toNat = true := by simp [LC]
theorem LC_seq (b : List UInt8) (x y : Co) (s : List UInt8) : LC (cSeq b x y) s ↔ ∃ u v, s = u ++ v ∧ LC x u ∧ LC y v := by
  have : LC (cSeq b x y) s ↔ LSeq [x, y] s := by simp [LC]
  rw [this]
  simp [LSeq]
theorem LC_alt (b : List UInt8) (ks : List Co) (s : List UInt8) : LC (cAlt b ks) s ↔ LAny ks s := by simp [LC]
theorem LAny_mem {ks : List Co} {s : List UInt8} : LAny ks s ↔ ∃ t ∈ ks, LC t s := by
  induction ks with
  | nil => simp [LAny]
  | cons t ts ih => simp [LAny, ih]
theorem LAny_one (x : Co) (s : List UInt8) : LAny [x] s ↔ LC x s := by simp [LAny]
theorem LC_star (b : List UInt8) (x : Co) (s : List UInt8) : LC (cStar b x) s ↔ StarP (LC x) s := by
  have : LC (cStar b x) s ↔ StarP (LAny [x]) s := by simp [LC]
  rw [this]
  exact StarP.iff (LAny_one x) s
theorem LC_fuse (w : List UInt8) (c : Co) (s : List UInt8) : LC (fuseC w c) s ↔ LC c s := by
  obtain ⟨h, ks⟩ := c
  simp only [fuseC]
  split <;> simp only [LC]
/-- ends tells whether it fits the empty text -/
theorem ends_L : ∀ t : Co, okC t = true → ((endsC t).isSome = true ↔ LC t []) := by
  refine okC_ind ?_ ?_ ?_ ?_ ?_ ?_
  · rw [LC_emp]; simp [ends_emp]
  · intro b hb; rw [LC_eps]; simp [ends_eps]
  · intro b s hb hs; rw [LC_cls]; simp [ends_cls]
  · intro b x y hb hx hy ihx ihy
    rw [LC_seq, ends_seq]
    constructor
    · intro h
      rcases ex : endsC x with _ | u
      · rw [ex] at h; cases h
      rcases ey : endsC y with _ | v
      · rw [ex, ey] at h; cases h
      exact ⟨[], [], rfl, ihx.1 (by rw [ex]; rfl), ihy.1 (by rw [ey]; rfl)⟩
    · rintro ⟨u, v, he, h1, h2⟩
      obtain ⟨rfl, rfl⟩ := List.append_eq_nil_iff.1 he.symm
      have h1 := ihx.2 h1
      have h2 := ihy.2 h2
      rcases ex : endsC x with _ | u
      · rw [ex] at h1; cases h1
      rcases ey : endsC y with _ | v
      · rw [ey] at h2; cases h2
      rfl
  · intro b ks hb hk ih
    rw [LC_alt, ends_alt, Option.isSome_map]
    clear hk
    induction ks with
    | nil => simp [LAny, endsAny]
    | cons t ts iht =>
      have h1 := ih t List.mem_cons_self
      have h2 := iht fun t ht => ih t (List.mem_cons_of_mem _ ht)
      simp only [LAny, endsAny]
      rcases et : endsC t with _ | v
      · rw [et] at h1
        simp only [Option.isSome_none, Bool.false_eq_true, false_iff] at h1
        rw [h2]
        simp [h1]
      · rw [et] at h1
        simp at h1
        simp [h1]
  · intro b x hb hx ih
    rw [LC_star, ends_star]
    simp [StarP.nil]
/-- the derivative fits what is left -/
theorem step_L (d : UInt8) : ∀ t : Co, okC t = true → ∀ s, LC (stepC d t) s ↔ LC t (d :: s) := by
  refine okC_ind ?_ ?_ ?_ ?_ ?_ ?_
  · intro s; rw [step_emp, LC_emp, LC_emp]
  · intro b hb s; rw [step_eps, LC_emp, LC_eps]; simp
  · intro b S hb hs s
    rw [step_cls, LC_cls]
    split
    · rename_i h
      rw [LC_eps]
      constructor
      · rintro rfl; exact ⟨d, rfl, h⟩
      · rintro ⟨c, hc, _⟩; simp at hc; exact hc.2
    · rename_i h
      rw [LC_emp]
      simp only [false_iff]
      rintro ⟨c, hc, h2⟩
      simp at hc
      rw [hc.1] at h
      exact h h2
  · intro b x y hb hx hy ihx ihy s
    have hL := ends_L x hx
    have split_ : ∀ (b' : List UInt8), LC (cSeq b' (stepC d x) y) s ↔ ∃ u v, s = u ++ v ∧ LC x (d :: u) ∧ LC y v := fun b' => by
      rw [LC_seq]
      constructor
      · rintro ⟨u, v, e, h1, h2⟩; exact ⟨u, v, e, (ihx u).1 h1, h2⟩
      · rintro ⟨u, v, e, h1, h2⟩; exact ⟨u, v, e, (ihx u).2 h1, h2⟩
    rw [step_seq, LC_seq]
    rcases ex : endsC x with _ | a
    · rw [ex] at hL
      have hn : ¬ LC x [] := fun h => by have := hL.2 h; cases this
      simp only
      rw [split_]
      constructor
      · rintro ⟨u, v, rfl, h1, h2⟩; exact ⟨d :: u, v, rfl, h1, h2⟩
      · rintro ⟨u, v, e, h1, h2⟩
        cases u with
        | nil => exact absurd h1 hn
        | cons c u =>
          simp only [List.cons_append, List.cons.injEq] at e
          obtain ⟨rfl, rfl⟩ := e
          exact ⟨u, v, rfl, h1, h2⟩
    · rw [ex] at hL
      have hn : LC x [] := hL.1 rfl
      simp only
      rw [LC_alt]
      simp only [LAny, or_false]
      rw [split_, LC_fuse, ihy]
      constructor
      · rintro (⟨u, v, rfl, h1, h2⟩ | h)
        · exact ⟨d :: u, v, rfl, h1, h2⟩
        · exact ⟨[], d :: s, rfl, hn, h⟩
      · rintro ⟨u, v, e, h1, h2⟩
        cases u with
        | nil =>
          simp only [List.nil_append] at e
          subst e
          exact .inr h2
        | cons c u =>
          simp only [List.cons_append, List.cons.injEq] at e
          obtain ⟨rfl, rfl⟩ := e
          exact .inl ⟨u, v, rfl, h1, h2⟩
  · intro b ks hb hk ih s
    rw [step_alt, LC_alt, LC_alt, LAny_mem, LAny_mem]
    constructor
    · rintro ⟨t, ht, h⟩
      obtain ⟨x, hx, rfl⟩ := List.mem_map.1 ht
      exact ⟨x, hx, (ih x hx s).1 h⟩
    · rintro ⟨t, ht, h⟩
      exact ⟨_, List.mem_map_of_mem ht, (ih t ht s).2 h⟩
  · intro b x hb hx ih s
    rw [step_star, LC_seq, LC_star, StarP.head]
    constructor
    · rintro ⟨u, v, e, h1, h2⟩
      rw [LC_fuse] at h1
      rw [LC_star] at h2
      exact ⟨u, v, e, (ih u).1 h1, h2⟩
    · rintro ⟨u, v, e, h1, h2⟩
      refine ⟨u, v, e, ?_, ?_⟩
      · rw [LC_fuse]; exact (ih u).2 h1
      · rw [LC_star]; exact h2

/-- no longer front -/
def NoMore (P Q : List UInt8 → Prop) (s t : List UInt8) : Prop := ∀ p q, p ≠ [] → t = p ++ q → ¬ (P (s ++ p) ∧ Q q)
inductive PStar (P : List UInt8 → List UInt8 → Prop) (L : List UInt8 → Prop) : List UInt8 → List UInt8 → Prop
  | nil : PStar P L [] [49]
  | cons {s t u v : List UInt8} : P s u → s ≠ [] → PStar P L t v → NoMore L (StarP L) s t → PStar P L (s ++ t) (48 :: (u ++ v))
mutual
/-- the bits of the right way in which a coded expression fits a text -/
def PB : Co → List UInt8 → List UInt8 → Prop
  | .mk h ks, s, u => if h.k = 2 then s = [] ∧ u = h.b else if h.k = 3 then (∃ c, s = [c] ∧ h.s.has c.toNat = true) ∧ u = h.b else if h.k = 4 then (∃ v, u = h.b ++ v ∧ PSeq ks s v) else if h.k = 5 then (∃ v, u = h.b ++ v ∧ PAny ks s v)
    else if h.k = 6 then (∃ v, u = h.b ++ v ∧ PStar (PAny ks) (LAny ks) s v) else False
def PSeq : List Co → List UInt8 → List UInt8 → Prop
  | [], s, v => s = [] ∧ v = []
  | t :: ts, s, v => ∃ s1 s2 u1 u2, s = s1 ++ s2 ∧ v = u1 ++ u2 ∧ PB t s1 u1 ∧ PSeq ts s2 u2 ∧ NoMore (LC t) (LSeq ts) s1 s2
def PAny : List Co → List UInt8 → List UInt8 → Prop
  | [], _, _ => False
  | t :: ts, s, v => PB t s v ∨ (¬ LC t s ∧ PAny ts s v)
end
theorem PB_emp (s u : List UInt8) : PB cEmp s u ↔ False := by simp [PB]
theorem PB_eps (b s u : List UInt8) : PB (cEps b) s u ↔ s = [] ∧ u = b := by simp [PB]
theorem PB_cls (b : List UInt8) (S : S4) (s u : List UInt8) : PB (cCls b S) s u ↔ (∃ c, s = [c] ∧ S.has c.toNat = true) ∧ u = b := by simp [PB]
theorem PB_alt (b : List UInt8) (ks : List Co) (s u : List UInt8) : PB (cAlt b ks) s u ↔ ∃ v, u = b ++ v ∧ PAny ks s v := by simp [PB]
theorem NoMore.congr {P P' Q Q' : List UInt8 → Prop} (h1 : ∀ u, P u ↔ P' u) (h2 : ∀ u, Q u ↔ Q' u) {s t : List UInt8} (h : NoMore P Q s t) : NoMore P' Q' s t :=
  fun p q hp e ⟨a, b⟩ => h p q hp e ⟨(h1 _).2 a, (h2 _).2 b⟩
theorem LSeq_one (y : Co) (s : List UInt8) : LSeq [y] s ↔ LC y s := by simp [LSeq]
theorem PSeq_one (y : Co) (s v : List UInt8) : PSeq [y] s v ↔ PB y s v := by
  simp only [PSeq, LSeq]
  constructor
  · rintro ⟨s1, s2, u1, u2, rfl, rfl, h, ⟨rfl, rfl⟩, _⟩
    simpa using h
  · intro h
    refine ⟨s, [], v, [], by simp, by simp, h, ⟨rfl, rfl⟩, fun p q hp e => ?_⟩
    have := List.append_eq_nil_iff.1 e.symm
    exact absurd this.1 hp
theorem PB_seq (b : List UInt8) (x y : Co) (s u : List UInt8) : PB (cSeq b x y) s u ↔ ∃ s1 s2 u1 u2, s = s1 ++ s2 ∧ u = b ++ (u1 ++ u2) ∧ PB x s1 u1 ∧ PB y s2 u2 ∧ NoMore (LC x) (LC y) s1 s2 := by
  have : PB (cSeq b x y) s u ↔ ∃ v, u = b ++ v ∧ PSeq [x, y] s v := by simp [PB]
  rw [this]
  constructor
  · rintro ⟨v, rfl, h⟩
    rw [PSeq] at h
    obtain ⟨s1, s2, u1, u2, e, rfl, h1, h2, h3⟩ := h
    exact ⟨s1, s2, u1, u2, e, rfl, h1, (PSeq_one _ _ _).1 h2, h3.congr (fun _ => Iff.rfl) (LSeq_one y)⟩
  · rintro ⟨s1, s2, u1, u2, e, rfl, h1, h2, h3⟩
    refine ⟨_, rfl, ?_⟩
    rw [PSeq]
    exact ⟨s1, s2, u1, u2, e, rfl, h1, (PSeq_one _ _ _).2 h2, h3.congr (fun _ => Iff.rfl) fun u => (LSeq_one y u).symm⟩
theorem PAny_one (x : Co) (s v : List UInt8) : PAny [x] s v ↔ PB x s v := by simp [PAny]
theorem PStar.congr {P P' : List UInt8 → List UInt8 → Prop} {L L' : List UInt8 → Prop} (h1 : ∀ s u, P s u ↔ P' s u) (h2 : ∀ u, L u ↔ L' u) {s v : List UInt8} (h : PStar P L s v) : PStar P' L' s v := by
  induction h with
  | nil => exact .nil
  | cons a b c d ih => exact .cons ((h1 _ _).1 a) b ih (d.congr h2 (StarP.iff h2))
theorem PB_star (b : List UInt8) (x : Co) (s u : List UInt8) : PB (cStar b x) s u ↔ ∃ v, u = b ++ v ∧ PStar (PB x) (LC x) s v := by
  have : PB (cStar b x) s u ↔ ∃ v, u = b ++ v ∧ PStar (PAny [x]) (LAny [x]) s v := by simp [PB]
  rw [this]
  constructor
  · rintro ⟨v, e, h⟩; exact ⟨v, e, h.congr (PAny_one x) (LAny_one x)⟩
  · rintro ⟨v, e, h⟩; exact ⟨v, e, h.congr (fun s u => (PAny_one x s u).symm) fun s => (LAny_one x s).symm⟩
theorem PB_fuse (w : List UInt8) (c : Co) (s u : List UInt8) (hc : okC c = true) : PB (fuseC w c) s u ↔ ∃ v, u = w ++ v ∧ PB c s v := by
  rcases okC_cases hc with rfl | ⟨b, hb, rfl⟩ | ⟨b, S, hb, hs, rfl⟩ | ⟨b, x, y, hb, hx, hy, rfl⟩ | ⟨b, ks, hb, hk, rfl⟩ | ⟨b, x, hb, hx, rfl⟩
  · show PB cEmp s u ↔ _
    simp [PB_emp]
  · show PB (cEps (w ++ b)) s u ↔ _
    simp only [PB_eps]
    constructor
    · rintro ⟨rfl, rfl⟩; exact ⟨b, rfl, rfl, rfl⟩
    · rintro ⟨v, rfl, rfl, rfl⟩; exact ⟨rfl, rfl⟩
  · show PB (cCls (w ++ b) S) s u ↔ _
    simp only [PB_cls]
    constructor
    · rintro ⟨h, rfl⟩; exact ⟨b, rfl, h, rfl⟩
    · rintro ⟨v, rfl, h, rfl⟩; exact ⟨h, rfl⟩
  · show PB (cSeq (w ++ b) x y) s u ↔ _
    simp only [PB_seq]
    constructor
    · rintro ⟨s1, s2, u1, u2, e, rfl, h⟩; exact ⟨_, List.append_assoc _ _ _, s1, s2, u1, u2, e, rfl, h⟩
    · rintro ⟨v, rfl, s1, s2, u1, u2, e, rfl, h⟩; exact ⟨s1, s2, u1, u2, e, (List.append_assoc _ _ _).symm, h⟩
  · show PB (cAlt (w ++ b) ks) s u ↔ _
    simp only [PB_alt]
    constructor
    · rintro ⟨v, rfl, h⟩; exact ⟨_, List.append_assoc _ _ _, v, rfl, h⟩
    · rintro ⟨v, rfl, v', rfl, h⟩; exact ⟨v', (List.append_assoc _ _ _).symm, h⟩
  · show PB (cStar (w ++ b) x) s u ↔ _
    simp only [PB_star]
    constructor
    · rintro ⟨v, rfl, h⟩; exact ⟨_, List.append_assoc _ _ _, v, rfl, h⟩
    · rintro ⟨v, rfl, v', rfl, h⟩; exact ⟨v', (List.append_assoc _ _ _).symm, h⟩
/-- ends are the bits of the right way of the empty text -/
theorem ends_PB : ∀ t : Co, okC t = true → ∀ u, endsC t = some u → PB t [] u := by
  refine okC_ind ?_ ?_ ?_ ?_ ?_ ?_
  · intro u h; cases h
  · intro b hb u h; rw [PB_eps]; cases h; exact ⟨rfl, rfl⟩
  · intro b s hb hs u h; cases h
  · intro b x y hb hx hy ihx ihy u h
    rw [ends_seq] at h
    rcases ex : endsC x with _ | a
    · rw [ex] at h; cases h
    rcases ey : endsC y with _ | c
    · rw [ex, ey] at h; cases h
    rw [ex, ey] at h
    cases h
    rw [PB_seq]
    refine ⟨[], [], a, c, rfl, by rw [List.append_assoc], ihx a ex, ihy c ey, fun p q hp e => ?_⟩
    have := List.append_eq_nil_iff.1 e.symm
    exact absurd this.1 hp
  · intro b ks hb hk ih u h
    rw [ends_alt] at h
    rcases e : endsAny ks with _ | a
    · rw [e] at h; cases h
    rw [e] at h
    cases h
    rw [PB_alt]
    refine ⟨a, rfl, ?_⟩
    have hk' : ∀ t ∈ ks, okC t = true := fun t ht => okCL_mem hk ht
    clear hk hb
    induction ks with
    | nil => cases e
    | cons t ts iht =>
      simp only [endsAny] at e
      rw [PAny]
      rcases et : endsC t with _ | v
      · rw [et] at e
        refine .inr ⟨fun hl => ?_, iht (fun t ht => ih t (List.mem_cons_of_mem _ ht)) e fun t ht => hk' t (List.mem_cons_of_mem _ ht)⟩
        have := (ends_L t (hk' t List.mem_cons_self)).2 hl
        rw [et] at this
        cases this
      · rw [et] at e
        cases e
        exact .inl (ih t List.mem_cons_self _ et)
  · intro b x hb hx ih u h
    rw [ends_star] at h
    cases h
    rw [PB_star]
    exact ⟨[49], rfl, .nil⟩
/-- what the derivative has as the right way's bits, the expression has, too -/
theorem step_PB (d : UInt8) : ∀ t : Co, okC t = true → ∀ s u, PB (stepC d t) s u → PB t (d :: s) u := by
  refine okC_ind ?_ ?_ ?_ ?_ ?_ ?_
  · intro s u h; rw [step_emp, PB_emp] at h; exact h.elim
  · intro b hb s u h; rw [step_eps, PB_emp] at h; exact h.elim
  · intro b S hb hs s u h
    rw [step_cls] at h
    split at h
    · rename_i hh
      rw [PB_eps] at h
      obtain ⟨rfl, rfl⟩ := h
      rw [PB_cls]
      exact ⟨⟨d, rfl, hh⟩, rfl⟩
    · rw [PB_emp] at h; exact h.elim
  · intro b x y hb hx hy ihx ihy s u h
    have front : ∀ b', PB (cSeq b' (stepC d x) y) s u → ∃ s1 s2 u1 u2, s = s1 ++ s2 ∧ u = b' ++ (u1 ++ u2) ∧ PB x (d :: s1) u1 ∧ PB y s2 u2 ∧ NoMore (LC x) (LC y) (d :: s1) s2 := fun b' h => by
      rw [PB_seq] at h
      obtain ⟨s1, s2, u1, u2, e, e2, h1, h2, h3⟩ := h
      exact ⟨s1, s2, u1, u2, e, e2, ihx _ _ h1, h2, fun p q hp e ⟨ha, hq⟩ => h3 p q hp e ⟨(step_L d x hx _).2 ha, hq⟩⟩
    rw [step_seq] at h
    rcases ex : endsC x with _ | a
    · rw [ex] at h
      obtain ⟨s1, s2, u1, u2, rfl, rfl, h1, h2, h3⟩ := front b h
      rw [PB_seq]
      exact ⟨d :: s1, s2, u1, u2, rfl, rfl, h1, h2, h3⟩
    · rw [ex] at h
      simp only at h
      rw [PB_alt] at h
      obtain ⟨v, rfl, h⟩ := h
      rw [PAny, PAny_one] at h
      rcases h with h | ⟨hn, h⟩
      · rw [PB_seq] at h
        obtain ⟨s1, s2, u1, u2, rfl, rfl, h1, h2, h3⟩ := h
        rw [PB_seq]
        exact ⟨d :: s1, s2, u1, u2, rfl, rfl, ihx _ _ h1, h2, fun p q hp e ⟨ha, hq⟩ => h3 p q hp e ⟨(step_L d x hx _).2 ha, hq⟩⟩
      · have hok : okC (stepC d y) = true := step_ok d y hy
        rw [PB_fuse _ _ _ _ hok] at h
        obtain ⟨v', rfl, h⟩ := h
        rw [PB_seq]
        refine ⟨[], d :: s, a, v', rfl, rfl, ends_PB x hx a ex, ihy _ _ h, fun p q hp e ⟨ha, hq⟩ => ?_⟩
        cases p with
        | nil => exact hp rfl
        | cons c p =>
          simp only [List.cons_append, List.cons.injEq] at e
          obtain ⟨rfl, rfl⟩ := e
          apply hn
          rw [LC_seq]
          exact ⟨p, q, rfl, (step_L d x hx _).2 ha, hq⟩
  · intro b ks hb hk ih s u h
    rw [step_alt, PB_alt] at h
    obtain ⟨v, rfl, h⟩ := h
    rw [PB_alt]
    refine ⟨v, rfl, ?_⟩
    have hk' : ∀ t ∈ ks, okC t = true := fun t ht => okCL_mem hk ht
    clear hk hb
    induction ks with
    | nil => rw [List.map_nil, PAny] at h; exact h.elim
    | cons t ts iht =>
      rw [List.map_cons, PAny] at h
      rw [PAny]
      rcases h with h | ⟨hn, h⟩
      · exact .inl (ih t List.mem_cons_self _ _ h)
      · exact .inr ⟨fun hl => hn ((step_L d t (hk' t List.mem_cons_self) _).2 hl), iht (fun t ht => ih t (List.mem_cons_of_mem _ ht)) h fun t ht => hk' t (List.mem_cons_of_mem _ ht)⟩
  · intro b x hb hx ih s u h
    rw [step_star, PB_seq] at h
    obtain ⟨s1, s2, u1, u2, rfl, rfl, h1, h2, h3⟩ := h
    rw [PB_fuse _ _ _ _ (step_ok d x hx)] at h1
    obtain ⟨v1, rfl, h1⟩ := h1
    rw [PB_star] at h2 ⊢
    obtain ⟨v2, e2, h2⟩ := h2
    rw [List.nil_append] at e2
    subst e2
    refine ⟨48 :: (v1 ++ u2), by simp, ?_⟩
    refine PStar.cons (s := d :: s1) (ih _ _ h1) (by simp) h2 fun p q hp e ⟨ha, hq⟩ => h3 p q hp e ⟨?_, ?_⟩
    · rw [LC_fuse]; exact (step_L d x hx _).2 ha
    · rw [LC_star]; exact hq
/-- the right way's bits are of a text that fits -/
theorem PStar.fits {P : List UInt8 → List UInt8 → Prop} {L : List UInt8 → Prop} (h0 : ∀ s u, P s u → L s) {s v : List UInt8} (h : PStar P L s v) : StarP L s := by
  induction h with
  | nil => exact .nil
  | cons a b c d ih => exact .cons (h0 _ _ a) b ih
theorem PB_L : ∀ t : Co, okC t = true → ∀ s u, PB t s u → LC t s := by
  refine okC_ind ?_ ?_ ?_ ?_ ?_ ?_
  · intro s u h; rw [PB_emp] at h; exact h.elim
  · intro b hb s u h; rw [PB_eps] at h; rw [LC_eps]; exact h.1
  · intro b S hb hs s u h; rw [PB_cls] at h; rw [LC_cls]; exact h.1
  · intro b x y hb hx hy ihx ihy s u h
    rw [PB_seq] at h
    obtain ⟨s1, s2, u1, u2, rfl, rfl, h1, h2, _⟩ := h
    rw [LC_seq]
    exact ⟨s1, s2, rfl, ihx _ _ h1, ihy _ _ h2⟩
  · intro b ks hb hk ih s u h
    rw [PB_alt] at h
    obtain ⟨v, rfl, h⟩ := h
    rw [LC_alt]
    clear hk hb
    induction ks with
    | nil => rw [PAny] at h; exact h.elim
    | cons t ts iht =>
      rw [PAny] at h
      rw [LAny]
      rcases h with h | ⟨_, h⟩
      · exact .inl (ih t List.mem_cons_self _ _ h)
      · exact .inr (iht (fun t ht => ih t (List.mem_cons_of_mem _ ht)) h)
  · intro b x hb hx ih s u h
    rw [PB_star] at h
    obtain ⟨v, rfl, h⟩ := h
    rw [LC_star]
    exact h.fits ih
/-- one longest front -/
theorem NoMore.one {P Q : List UInt8 → Prop} {s1 s2 t1 t2 : List UInt8} (e : s1 ++ s2 = t1 ++ t2) (hs : NoMore P Q s1 s2) (ht : NoMore P Q t1 t2) (h1 : P s1) (h2 : Q s2) (h3 : P t1) (h4 : Q t2) : s1 = t1 ∧ s2 = t2 := by
  rcases List.append_eq_append_iff.1 e with ⟨a, ha, hb⟩ | ⟨a, ha, hb⟩
  · by_cases hn : a = []
    · subst hn; simp at ha hb; exact ⟨ha.symm, hb⟩
    · exfalso
      subst ha
      exact hs a t2 hn hb ⟨h3, h4⟩
  · by_cases hn : a = []
    · subst hn; simp at ha hb; exact ⟨ha, hb.symm⟩
    · exfalso
      subst ha
      exact ht a s2 hn hb ⟨h1, h2⟩
theorem PStar.one {P : List UInt8 → List UInt8 → Prop} {L : List UInt8 → Prop} (h0 : ∀ s u, P s u → L s) (h1 : ∀ s u v, P s u → P s v → u = v) {s u : List UInt8} (h : PStar P L s u) : ∀ v, PStar P L s v → u = v := by
  induction h with
  | nil =>
    intro v hv
    generalize hs : ([] : List UInt8) = s at hv
    cases hv with
    | nil => rfl
    | cons a b c d => exact absurd (List.append_eq_nil_iff.1 hs.symm).1 b
  | @cons s t u v a b c d ih =>
    intro v' hv
    generalize hs : s ++ t = x at hv
    cases hv with
    | nil => exact absurd (List.append_eq_nil_iff.1 hs).1 b
    | @cons s' t' u' v'' a' b' c' d' =>
      obtain ⟨rfl, rfl⟩ := NoMore.one hs d d' (h0 _ _ a) (c.fits h0) (h0 _ _ a') (c'.fits h0)
      rw [h1 _ _ _ a a', ih _ c']
/-- there is one right way -/
theorem PB_one : ∀ t : Co, okC t = true → ∀ s u v, PB t s u → PB t s v → u = v := by
  refine okC_ind ?_ ?_ ?_ ?_ ?_ ?_
  · intro s u v h; rw [PB_emp] at h; exact h.elim
  · intro b hb s u v h k; rw [PB_eps] at h k; rw [h.2, k.2]
  · intro b S hb hs s u v h k; rw [PB_cls] at h k; rw [h.2, k.2]
  · intro b x y hb hx hy ihx ihy s u v h k
    rw [PB_seq] at h k
    obtain ⟨s1, s2, u1, u2, rfl, rfl, h1, h2, h3⟩ := h
    obtain ⟨t1, t2, v1, v2, e, rfl, k1, k2, k3⟩ := k
    obtain ⟨rfl, rfl⟩ := NoMore.one e h3 k3 (PB_L x hx _ _ h1) (PB_L y hy _ _ h2) (PB_L x hx _ _ k1) (PB_L y hy _ _ k2)
    rw [ihx _ _ _ h1 k1, ihy _ _ _ h2 k2]
  · intro b ks hb hk ih s u v h k
    rw [PB_alt] at h k
    obtain ⟨u', rfl, h⟩ := h
    obtain ⟨v', rfl, k⟩ := k
    congr 1
    have hk' : ∀ t ∈ ks, okC t = true := fun t ht => okCL_mem hk ht
    clear hk hb
    induction ks with
    | nil => rw [PAny] at h; exact h.elim
    | cons t ts iht =>
      rw [PAny] at h k
      have hL := PB_L t (hk' t List.mem_cons_self) s
      rcases h with h | ⟨hn, h⟩ <;> rcases k with k | ⟨kn, k⟩
      · exact ih t List.mem_cons_self _ _ _ h k
      · exact absurd (hL _ h) kn
      · exact absurd (hL _ k) hn
      · exact iht (fun t ht => ih t (List.mem_cons_of_mem _ ht)) h k (fun t ht => hk' t (List.mem_cons_of_mem _ ht))
  · intro b x hb hx ih s u v h k
    rw [PB_star] at h k
    obtain ⟨u', rfl, h⟩ := h
    obtain ⟨v', rfl, k⟩ := k
    rw [h.one (PB_L x hx) ih _ k]
end Go.Proofs.Yteokbmngebckjaa
namespace Go.Proofs.Yteokbmngebckjaa
open Go.RowKit
set_option linter.unusedVariables false
set_option linter.unusedSimpArgs false

abbrev rEmp : Re := .mk ⟨1, S4.zero⟩ []
abbrev rEps : Re := .mk ⟨2, S4.zero⟩ []
abbrev rCls (s : S4) : Re := .mk ⟨3, s⟩ []
abbrev rSeq (x y : Re) : Re := .mk ⟨4, S4.zero⟩ [x, y]
abbrev rAlt (x y : Re) : Re := .mk ⟨5, S4.zero⟩ [x, y]
abbrev rStar (x : Re) : Re := .mk ⟨6, S4.zero⟩ [x]
theorem okT_cases {t : Re} (H : okT t = true) : t = rEmp ∨ t = rEps ∨ (∃ s, s ≠ S4.zero ∧ t = rCls s) ∨ (∃ x y, okT x = true ∧ okT y = true ∧ t = rSeq x y) ∨ (∃ x y, okT x = true ∧ okT y = true ∧ t = rAlt x y) ∨ (∃ x, okT x = true ∧ t = rStar x) := by
  obtain ⟨⟨k, s⟩, ks⟩ := t
  simp only [okT, Bool.and_eq_true] at H
  obtain ⟨H1, H2⟩ := H
  unfold okNode at H1
  simp only at H1
  split at H1
  · rename_i e
    simp at H1
    obtain ⟨e1, e2⟩ := H1
    subst e1 e2
    rcases e with e | e
    · have := u8_is e; subst this; exact .inl rfl
    · have := u8_is e; subst this; exact .inr (.inl rfl)
  split at H1
  · rename_i e
    have := u8_is e
    simp at H1
    obtain ⟨e1, e2⟩ := H1
    subst e1 this
    exact .inr (.inr (.inl ⟨s, e2, rfl⟩))
  split at H1
  · rename_i e
    simp at H1
    obtain ⟨e1, e2⟩ := H1
    obtain ⟨x, y, rfl⟩ := two_of e1
    simp [okL] at H2
    subst e2
    rcases e with e | e
    · have := u8_is e; subst this; exact .inr (.inr (.inr (.inl ⟨x, y, H2.1, H2.2, rfl⟩)))
    · have := u8_is e; subst this; exact .inr (.inr (.inr (.inr (.inl ⟨x, y, H2.1, H2.2, rfl⟩))))
  split at H1
  · rename_i e
    have := u8_is e
    simp at H1
    obtain ⟨e1, e2⟩ := H1
    obtain ⟨x, rfl⟩ := List.length_eq_one_iff.1 e1
    simp [okL] at H2
    subst e2 this
    exact .inr (.inr (.inr (.inr (.inr ⟨x, H2, rfl⟩))))
  · cases H1
theorem okT_ind {P : Re → Prop} (h1 : P rEmp) (h2 : P rEps) (h3 : ∀ s, s ≠ S4.zero → P (rCls s)) (h4 : ∀ x y, okT x = true → okT y = true → P x → P y → P (rSeq x y)) (h5 : ∀ x y, okT x = true → okT y = true → P x → P y → P (rAlt x y))
    (h6 : ∀ x, okT x = true → P x → P (rStar x)) : ∀ t : Re, okT t = true → P t := by
  have H : ∀ (n : Nat) (t : Re), t.size ≤ n → okT t = true → P t := by
    intro n
    induction n with
    | zero => intro t ht; have := T.size_pos t; omega
    | succ n ih =>
      intro t ht ho
      rcases okT_cases ho with rfl | rfl | ⟨s, hs, rfl⟩ | ⟨x, y, hx, hy, rfl⟩ | ⟨x, y, hx, hy, rfl⟩ | ⟨x, hx, rfl⟩
      · exact h1
      · exact h2
      · exact h3 s hs
      · simp only [T.size, T.sizes] at ht
        exact h4 x y hx hy (ih x (by omega) hx) (ih y (by omega) hy)
      · simp only [T.size, T.sizes] at ht
        exact h5 x y hx hy (ih x (by omega) hx) (ih y (by omega) hy)
      · simp only [T.size, T.sizes] at ht
        exact h6 x hx (ih x (by omega) hx)
  exact fun t ho => H t.size t (Nat.le_refl _) ho
mutual
/-- does one that may be fit the empty text? -/
def nullT : Re → Bool
  | .mk h ks => if h.k = 4 then nullAll ks else if h.k = 5 then nullAny ks else (decide (h.k = 2) || decide (h.k = 6))
def nullAll : List Re → Bool
  | [] => true
  | t :: ts => nullT t && nullAll ts
def nullAny : List Re → Bool
  | [] => false
  | t :: ts => nullT t || nullAny ts
end
theorem null_seq (x y : Re) : nullT (rSeq x y) = (nullT x && nullT y) := by simp [nullT, nullAll]
theorem null_alt (x y : Re) : nullT (rAlt x y) = (nullT x || nullT y) := by simp [nullT, nullAny]
theorem null_fold : ∀ ts : List Re, nullT (foldT 5 1 ts) = ts.any nullT
  | [] => rfl
  | [t] => by simp [foldT]
  | t :: u :: ts => by
    have := null_fold (u :: ts)
    simp only [foldT]
    rw [null_alt, this]
    simp
theorem ok_fold : ∀ ts : List Re, okL ts = true → okT (foldT 5 1 ts) = true
  | [], _ => rfl
  | [t], h => by simpa [okL, foldT] using h
  | t :: u :: ts, h => by
    simp only [okL, Bool.and_eq_true] at h
    have := ok_fold (u :: ts) (by simp [okL, h.2])
    simp only [foldT]
    simp [okT, okNode, okL, h.1, this]
theorem bare_emp : bareT cEmp = rEmp := rfl
theorem bare_eps (b : List UInt8) : bareT (cEps b) = rEps := rfl
theorem bare_cls (b : List UInt8) (s : S4) : bareT (cCls b s) = rCls s := rfl
theorem bare_seq (b : List UInt8) (x y : Co) : bareT (cSeq b x y) = rSeq (bareT x) (bareT y) := by simp [bareT, bareTs]
theorem bare_alt (b : List UInt8) (ks : List Co) : bareT (cAlt b ks) = foldT 5 1 (ks.map bareT) := by rw [← bareTs_map]; simp [bareT]
theorem bare_star (b : List UInt8) (x : Co) : bareT (cStar b x) = rStar (bareT x) := by simp [bareT, bareTs]
theorem bare_ok : ∀ t : Co, okC t = true → okT (bareT t) = true := by
  refine okC_ind ?_ ?_ ?_ ?_ ?_ ?_
  · rfl
  · intro b hb; rfl
  · intro b s hb hs; simp [bareT, bareTs, okT, okL, okNode, hs]
  · intro b x y hb hx hy ihx ihy; rw [bare_seq]; simp [okT, okL, okNode, ihx, ihy]
  · intro b ks hb hk ih
    rw [bare_alt]
    refine ok_fold _ ?_
    rw [okL_all, List.all_map]
    exact List.all_eq_true.2 ih
  · intro b x hb hx ih; rw [bare_star]; simp [okT, okL, okNode, ih]
theorem null_ends : ∀ t : Co, okC t = true → nullT (bareT t) = (endsC t).isSome := by
  refine okC_ind ?_ ?_ ?_ ?_ ?_ ?_
  · rfl
  · intro b hb; rfl
  · intro b s hb hs; rfl
  · intro b x y hb hx hy ihx ihy
    rw [bare_seq, null_seq, ends_seq, ihx, ihy]
    rcases endsC x with _ | u <;> rcases endsC y with _ | v <;> rfl
  · intro b ks hb hk ih
    rw [bare_alt, null_fold, ends_alt, Option.isSome_map]
    clear hk
    induction ks with
    | nil => rfl
    | cons t ts iht =>
      simp only [List.map_cons, List.any_cons]
      rw [ih t List.mem_cons_self, iht fun t ht => ih t (List.mem_cons_of_mem _ ht)]
      simp only [endsAny]
      rcases endsC t with _ | u <;> simp
  · intro b x hb hx ih; rw [bare_star]; rfl

theorem of_seq (x y : Re) : ofC (rSeq x y) = cSeq [] (ofC x) (ofC y) := by simp [ofC, ofCs, ofK]
theorem of_alt (x y : Re) : ofC (rAlt x y) = cAlt [] [fuseC [48] (ofC x), fuseC [49] (ofC y)] := by
  simp [ofC, ofCs, ofK]
theorem of_star (x : Re) : ofC (rStar x) = cStar [] (ofC x) := by simp [ofC, ofCs, ofK]
theorem bare_fuse0 (s : List UInt8) (t : Co) : bareT (fuseC s t) = bareT t := by
  obtain ⟨h, ks⟩ := t
  simp only [fuseC]
  split <;> simp [bareT]
theorem bare_of : ∀ t : Re, okT t = true → bareT (ofC t) = t := by
  refine okT_ind ?_ ?_ ?_ ?_ ?_ ?_
  · rfl
  · rfl
  · intro s hs; rfl
  · intro x y hx hy ihx ihy; rw [of_seq, bare_seq, ihx, ihy]
  · intro x y hx hy ihx ihy
    rw [of_alt, bare_alt]
    simp only [List.map_cons, List.map_nil, bare_fuse0, ihx, ihy, foldT]
  · intro x hx ih; rw [of_star, bare_star, ih]
theorem of_ok : ∀ t : Re, okT t = true → okC (ofC t) = true := by
  refine okT_ind ?_ ?_ ?_ ?_ ?_ ?_
  · rfl
  · rfl
  · intro s hs; simp [ofC, ofCs, okC, okCL, okNodeC, bitsB, hs]
  · intro x y hx hy ihx ihy; rw [of_seq]; simp [okC, okCL, okNodeC, bitsB, ihx, ihy]
  · intro x y hx hy ihx ihy
    rw [of_alt]
    simp [okC, okCL, okNodeC, ok_fuse (s := [48]) rfl ihx, ok_fuse (s := [49]) rfl ihy, bitsB]
  · intro x hx ih; rw [of_star]; simp [okC, okCL, okNodeC, bitsB, ih]
theorem of_size : ∀ t : Re, okT t = true → (ofC t).size = t.size := by
  refine okT_ind ?_ ?_ ?_ ?_ ?_ ?_
  · rfl
  · rfl
  · intro s hs; simp [ofC, ofCs, T.size, T.sizes]
  · intro x y hx hy ihx ihy; rw [of_seq]; simp [T.size, T.sizes, ihx, ihy]
  · intro x y hx hy ihx ihy
    rw [of_alt]
    simp [T.size, T.sizes, size_fuse, ihx, ihy]
  · intro x hx ih; rw [of_star]; simp [T.size, T.sizes, ih]
theorem of_may {t : Re} (h : mayB t = true) : mayC (ofC t) = true := by
  unfold mayB at h
  simp only [Bool.and_eq_true, decide_eq_true_eq] at h
  unfold mayC
  rw [of_ok t h.1, of_size t h.1]
  simp; omega
theorem of_few : ∀ t : Re, okT t = true → ∀ x ∈ (ofC t).all, x.head.b.length ≤ 1 := by
  have leaf0 : ∀ (h : CH), h.b = [] → ∀ x ∈ (T.mk h [] : Co).all, x.head.b.length ≤ 1 := by
    intro h hb x hx
    simp [T.all, T.alls] at hx
    subst hx
    simp [T.head, hb]
  have fuse1 : ∀ (c : UInt8) (t : Co), t.head.b = [] → (∀ x ∈ t.all, x.head.b.length ≤ 1) → ∀ x ∈ (fuseC [c] t).all, x.head.b.length ≤ 1 := by
    intro c t h0 ht x hx
    obtain ⟨⟨k, b, s⟩, ks⟩ := t
    simp only [T.head] at h0
    subst h0
    simp only [fuseC] at hx
    split at hx
    · exact ht x hx
    · simp only [T.all, List.mem_cons] at hx
      rcases hx with rfl | hx
      · simp [T.head]
      · exact ht x (by simp only [T.all, List.mem_cons]; exact .inr hx)
  have noB : ∀ t : Re, (ofC t).head.b = [] := by
    intro t; obtain ⟨h, ks⟩ := t; simp [ofC, T.head]
  refine okT_ind ?_ ?_ ?_ ?_ ?_ ?_
  · exact leaf0 _ rfl
  · exact leaf0 _ rfl
  · intro s hs; exact leaf0 _ rfl
  · intro x y hx hy ihx ihy z hz
    rw [of_seq] at hz
    simp only [T.all, T.alls, List.append_nil, List.mem_cons, List.mem_append] at hz
    rcases hz with rfl | hz | hz
    · simp [T.head]
    · exact ihx z hz
    · exact ihy z hz
  · intro x y hx hy ihx ihy z hz
    rw [of_alt] at hz
    simp only [T.all, T.alls, List.append_nil, List.mem_cons, List.mem_append] at hz
    rcases hz with rfl | hz | hz
    · simp [T.head]
    · exact fuse1 _ _ (noB x) ihx z hz
    · exact fuse1 _ _ (noB y) ihy z hz
  · intro x hx ih z hz
    rw [of_star] at hz
    simp only [T.all, T.alls, List.append_nil, List.mem_cons] at hz
    rcases hz with rfl | hz
    · simp [T.head]
    · exact ih z hz
theorem of_short {t : Re} (h : okT t = true) : shortC (ofC t) := fun x hx => Nat.le_trans (of_few t h x hx) (by decide)

mutual
/-- does an expression fit a text? -/
def LT : Re → List UInt8 → Prop
  | .mk h ks, s => if h.k = 2 then s = [] else if h.k = 3 then (∃ c, s = [c] ∧ h.s.has c.toNat = true) else if h.k = 4 then LTSeq ks s else if h.k = 5 then LTAny ks s else if h.k = 6 then StarP (LTAny ks) s else False
def LTSeq : List Re → List UInt8 → Prop
  | [], s => s = []
  | t :: ts, s => ∃ u v, s = u ++ v ∧ LT t u ∧ LTSeq ts v
def LTAny : List Re → List UInt8 → Prop
  | [], _ => False
  | t :: ts, s => LT t s ∨ LTAny ts s
end
theorem LT_emp (s : List UInt8) : LT rEmp s ↔ False := by simp [LT]
theorem LT_eps (s : List UInt8) : LT rEps s ↔ s = [] := by simp [LT]
theorem LT_cls (S : S4) (s : List UInt8) : LT (rCls S) s ↔ ∃ c, s = [c] ∧ S.has c.toNat = true := by simp [LT]
theorem LT_seq (x y : Re) (s : List UInt8) : LT (rSeq x y) s ↔ ∃ u v, s = u ++ v ∧ LT x u ∧ LT y v := by
  have : LT (rSeq x y) s ↔ LTSeq [x, y] s := by simp [LT]
  rw [this]
  simp [LTSeq]
theorem LT_alt (x y : Re) (s : List UInt8) : LT (rAlt x y) s ↔ LT x s ∨ LT y s := by
  have : LT (rAlt x y) s ↔ LTAny [x, y] s := by simp [LT]
  rw [this]
  simp [LTAny]
theorem LT_star (x : Re) (s : List UInt8) : LT (rStar x) s ↔ StarP (LT x) s := by
  have : LT (rStar x) s ↔ StarP (LTAny [x]) s := by simp [LT]
  rw [this]
  exact StarP.iff (fun u => by simp [LTAny]) s
theorem LT_fold (s : List UInt8) : ∀ ts : List Re, LT (foldT 5 1 ts) s ↔ ∃ t ∈ ts, LT t s
  | [] => by simp only [foldT]; rw [LT_emp]; simp
  | [t] => by simp [foldT]
  | t :: u :: ts => by
    have := LT_fold s (u :: ts)
    simp only [foldT]
    rw [LT_alt, this]
    simp
/-- a coded expression fits what it stands for fits -/
theorem LC_bare : ∀ t : Co, okC t = true → ∀ s, LC t s ↔ LT (bareT t) s := by
  refine okC_ind ?_ ?_ ?_ ?_ ?_ ?_
  · intro s; rw [bare_emp, LC_emp, LT_emp]
  · intro b hb s; rw [bare_eps, LC_eps, LT_eps]
  · intro b S hb hs s; rw [bare_cls, LC_cls, LT_cls]
  · intro b x y hb hx hy ihx ihy s
    rw [bare_seq, LC_seq, LT_seq]
    simp only [ihx, ihy]
  · intro b ks hb hk ih s
    rw [bare_alt, LC_alt, LT_fold, LAny_mem]
    constructor
    · rintro ⟨t, ht, h⟩; exact ⟨_, List.mem_map_of_mem ht, (ih t ht s).1 h⟩
    · rintro ⟨t, ht, h⟩
      obtain ⟨x, hx, rfl⟩ := List.mem_map.1 ht
      exact ⟨x, hx, (ih x hx s).2 h⟩
  · intro b x hb hx ih s
    rw [bare_star, LC_star, LT_star]
    exact StarP.iff ih s
theorem null_L : ∀ t : Re, okT t = true → (nullT t = true ↔ LT t []) := by
  intro t ht
  have h1 := null_ends (ofC t) (of_ok t ht)
  have h2 := ends_L (ofC t) (of_ok t ht)
  have h3 := LC_bare (ofC t) (of_ok t ht) []
  rw [bare_of t ht] at h1 h3
  rw [h1, h2, h3]
end Go.Proofs.Yteokbmngebckjaa
namespace Go.Proofs.Yteokbmngebckjaa
open Go.RowKit
set_option linter.unusedVariables false
set_option linter.unusedSimpArgs false

/-- the ends; none, if it may not be -/
def endsM (t : Co) : Option (List UInt8) := if mayC t then endsC t else none
theorem may_okC {t : Co} (h : mayC t = true) : okC t = true ∧ t.size ≤ 20000 := by
  unfold mayC at h
  simp only [Bool.and_eq_true, decide_eq_true_eq] at h
  exact h
end Go.Proofs.Yteokbmngebckjaa
namespace Go.Proofs.Yteokbmngebckjaa
open Go.RowKit
set_option linter.unusedVariables false
set_option linter.unusedSimpArgs false

theorem kid0N {ok : Nat → Prop} {w : World} {h : RH} {ks r : List Re} {A : Option Addr} (hr : InRow RE ok w (.mk h ks :: r) A 0) :
    ∃ (ad : Addr) (A1 : Option Addr) (c1 : Nat), A = some ad ∧ ks.length ≤ c1 ∧ InRow RE ok w ks A1 0 ∧
      w.cell? ad = some (.int .u8 (h.k.toNat : Int)) ∧ w.cell? ⟨ad.block, ad.off + 1, none⟩ = some (.int .u64 (h.s.a.toNat : Int)) ∧ w.cell? ⟨ad.block, ad.off + 2, none⟩ = some (.int .u64 (h.s.b.toNat : Int)) ∧
      w.cell? ⟨ad.block, ad.off + 3, none⟩ = some (.int .u64 (h.s.c.toNat : Int)) ∧ w.cell? ⟨ad.block, ad.off + 4, none⟩ = some (.int .u64 (h.s.d.toNat : Int)) ∧ w.cell? ⟨ad.block, ad.off + 5, none⟩ = some (.slice A1 ks.length c1) := by
  obtain ⟨t, ad, h', ks', A1, c1, hA, hx, e, hc, hr1, q0, q1, q2, q3, q4, q5⟩ := re_at hr (k := 0) (by simp)
  subst e
  obtain ⟨rfl, rfl⟩ := T.mk.inj (Option.some.inj hx)
  exact ⟨ad, A1, c1, hA, hc, hr1, q0, q1, q2, q3, q4, q5⟩
theorem kid1N {ok : Nat → Prop} {w : World} {t0 : Re} {h : RH} {ks r : List Re} {A : Option Addr} (hr : InRow RE ok w (t0 :: .mk h ks :: r) A 0) :
    ∃ (ad : Addr) (A1 : Option Addr) (c1 : Nat), A = some ad ∧ ks.length ≤ c1 ∧ InRow RE ok w ks A1 0 ∧
      w.cell? ⟨ad.block, ad.off + 6, none⟩ = some (.int .u8 (h.k.toNat : Int)) ∧ w.cell? ⟨ad.block, ad.off + 6 + 1, none⟩ = some (.int .u64 (h.s.a.toNat : Int)) ∧ w.cell? ⟨ad.block, ad.off + 6 + 2, none⟩ = some (.int .u64 (h.s.b.toNat : Int)) ∧
      w.cell? ⟨ad.block, ad.off + 6 + 3, none⟩ = some (.int .u64 (h.s.c.toNat : Int)) ∧ w.cell? ⟨ad.block, ad.off + 6 + 4, none⟩ = some (.int .u64 (h.s.d.toNat : Int)) ∧ w.cell? ⟨ad.block, ad.off + 6 + 5, none⟩ = some (.slice A1 ks.length c1) := by
  obtain ⟨t, ad, h', ks', A1, c1, hA, hx, e, hc, hr1, q0, q1, q2, q3, q4, q5⟩ := re_at hr (k := 1) (by simp)
  subst e
  obtain ⟨rfl, rfl⟩ := T.mk.inj (Option.some.inj hx)
  exact ⟨ad, A1, c1, hA, hc, hr1, q0, q1, q2, q3, q4, q5⟩
end Go.Proofs.Yteokbmngebckjaa
namespace Go.Proofs.Yteokbmngebckjaa
open Go.RowKit
set_option linter.unusedVariables false
set_option linter.unusedSimpArgs false

theorem acc_post {α : Type} {E : Enc α} {e tb : TypeId} {ok : Nat → Prop} {wA w5 : World} {base b : Nat} {o v5 : Value} {ts : List (T α)} {t : T α} {cs0 news : List Value} {arr : Array Value} (n : Nat)
    (h0 : ∀ x, ok x → some x ≠ o.ownBlock) (hown : wA.ownsRow base e (E.sz + 1) o ts.length cs0)
    (hk0 : ∀ (k : Nat) (t : T α), ts[k]? = some t → ∃ c, (∀ j u, c[j]? = some u → cs0[k * (E.sz + 1) + j]? = some u) ∧ InT E ok wA t c)
    (hN : ∀ (j : Nat) (t' : T α), [t][j]? = some t' → ∃ d, (∀ i u, d[i]? = some u → news[j * (E.sz + 1) + i]? = some u) ∧ InT E ok wA t' d)
    (ho5 : w5.ownsRow base e (E.sz + 1) v5 (ts.length + 1) (cs0 ++ news)) (hg5 : wA.grownBy w5 o.ownBlock) (hat5 : v5.ownBlock = o.ownBlock ∨ v5.ownBlock = some wA.heap.size)
    (hlt : ∀ x, ok x → b < x ∧ x < wA.heap.size) (hb : b < base) (he : wA.heap[b]? = some (.cells arr tb (0, 0))) :
    ∃ A c, v5 = .slice A (ts.length + 1) c ∧ OwnT E ok (w5.setCell ⟨b, n, none⟩ v5) base e v5 (ts ++ [t]) ∧ (w5.setCell ⟨b, n, none⟩ v5).heap[b]? = some (.cells (arr.setIfInBounds n v5) tb (0, 0)) ∧ w5.heap[b]? = some (.cells arr tb (0, 0)) ∧
      (∀ j x, j < base → j ≠ b → wA.heap[j]? = some x → (w5.setCell ⟨b, n, none⟩ v5).heap[j]? = some x) ∧ (∀ B, B ≤ b → Below B wA (w5.setCell ⟨b, n, none⟩ v5)) ∧ wA.heap.size ≤ (w5.setCell ⟨b, n, none⟩ v5).heap.size := by
  obtain ⟨A, c, hv5, _, _⟩ := own_slice ho5
  have hr5 := OwnT.app (ys := [t]) h0 hown hk0 hN ho5 hg5 hat5 fun x hx => (hlt x hx).2
  have hne : ∀ j, j < base → some j ≠ Value.ownBlock o := fun j hj e => by have := own_base hown j e.symm; omega
  have e5 := (hg5.block _ (lt_of_block he) (hne _ hb)).trans he
  refine ⟨A, c, hv5, hr5.grown_bE (set_grown w5 b n v5) hb fun x hx => by have := (hlt x hx).1; omega, ?_, e5, fun j x hj hjb hx => ?_, fun B hB => ?_, by simpa using hg5.size⟩
  · simp [World.setCell, Array.getElem?_modify, e5]
  · exact (Below.heap_setCell _ _ _ _ (by show j ≠ b; exact hjb)).trans ((hg5.block _ (lt_of_block hx) (hne _ hj)).trans hx)
  · refine ((Below.refl B wA).grown hg5 (by have := lt_of_block he; omega) fun j hj => ?_).setCell (p := ⟨b, n, none⟩) hB _
    have := own_base hown j hj
    omega
end Go.Proofs.Yteokbmngebckjaa
namespace Go.Proofs.Yteokbmngebckjaa
open Go.RowKit
set_option linter.unusedVariables false
set_option linter.unusedSimpArgs false

end Go.Proofs.Yteokbmngebckjaa
