/- Proves parts of the statement, each under the conditions that its theorem states: Plain facts on nets, flows and turns: no right flow is worth more than any turns cost; a flow and turns that fit together have the same value and cost; Plain facts on one push: what a push along a shortest way keeps; Plain facts on one push: the flow along the way back, and what holds behind the push; Plain facts on the shortest ways: what a round of the search keeps, and what it comes to. -/
set_option linter.unusedSimpArgs false
set_option maxHeartbeats 4000000
set_option maxRecDepth 100000
section
namespace Sw
def sm : Nat → (Nat → Int) → Int
  | 0, _ => 0
  | n+1, f => sm n f + f n
theorem sm_congr {n : Nat} {f g : Nat → Int} (h : ∀ i, i < n → f i = g i) : sm n f = sm n g := by
  induction n with
  | zero => rfl
  | succ n ih => simp only [sm]; rw [ih (fun i hi => h i (by omega)), h n (by omega)]
theorem sm_add (n : Nat) (f g : Nat → Int) : sm n (fun i => f i + g i) = sm n f + sm n g := by
  induction n with
  | zero => rfl
  | succ n ih => simp only [sm, ih]; omega
theorem sm_sub (n : Nat) (f g : Nat → Int) : sm n (fun i => f i - g i) = sm n f - sm n g := by
  induction n with
  | zero => rfl
  | succ n ih => simp only [sm, ih]; omega
theorem sm_mul (n : Nat) (c : Int) (f : Nat → Int) : sm n (fun i => c * f i) = c * sm n f := by
  induction n with
  | zero => simp [sm]
  | succ n ih => simp only [sm, ih]; grind
theorem sm_le {n : Nat} {f g : Nat → Int} (h : ∀ i, i < n → f i ≤ g i) : sm n f ≤ sm n g := by
  induction n with
  | zero => exact Int.le_refl _
  | succ n ih => simp only [sm]; have := ih (fun i hi => h i (by omega)); have := h n (by omega); omega
theorem sm_zero {n : Nat} {f : Nat → Int} (h : ∀ i, i < n → f i = 0) : sm n f = 0 := by
  induction n with
  | zero => rfl
  | succ n ih => simp only [sm]; rw [ih (fun i hi => h i (by omega)), h n (by omega)]; rfl
theorem sm_nonneg {n : Nat} {f : Nat → Int} (h : ∀ i, i < n → 0 ≤ f i) : 0 ≤ sm n f := by
  induction n with
  | zero => exact Int.le_refl _
  | succ n ih => simp only [sm]; have := ih (fun i hi => h i (by omega)); have := h n (by omega); omega
theorem sm_one {n : Nat} (a : Nat) (ha : a < n) (c : Int) : sm n (fun v => if a = v then c else 0) = c := by
  induction n with
  | zero => omega
  | succ n ih =>
    simp only [sm]
    by_cases h : a = n
    · subst h; rw [sm_zero (fun i hi => by rw [if_neg (by omega)])]; simp
    · rw [ih (by omega), if_neg h]; omega
theorem sm_ge_one {n : Nat} {f : Nat → Int} (h : ∀ i, i < n → 0 ≤ f i) (a : Nat) (ha : a < n) : f a ≤ sm n f := by
  have h1 := sm_le (n := n) (f := fun v => if a = v then f a else 0) (g := f) (fun i hi => by
    show (if a = i then f a else 0) ≤ f i
    split
    · rename_i e; subst e; exact Int.le_refl _
    · exact h i hi)
  rw [sm_one a ha] at h1
  exact h1
theorem sm_upd {n : Nat} {f g : Nat → Int} (a : Nat) (ha : a < n) (h : ∀ i, i < n → i ≠ a → f i = g i) : sm n f = sm n g + (f a - g a) := by
  have h1 : sm n f = sm n (fun i => g i + (if a = i then f a - g a else 0)) := sm_congr fun i hi => by
    by_cases e : a = i
    · subst e; simp; omega
    · rw [if_neg e, h i hi (fun x => e x.symm)]; omega
  rw [h1, sm_add, sm_one a ha]
theorem sm_lt {n : Nat} {f g : Nat → Int} (h : ∀ i, i < n → f i ≤ g i) (a : Nat) (ha : a < n) (hl : f a < g a) : sm n f < sm n g := by
  have h1 := sm_ge_one (n := n) (f := fun i => g i - f i) (fun i hi => by have := h i hi; omega) a ha
  rw [sm_sub] at h1
  have : (fun i => g i - f i) a = g a - f a := rfl
  omega
structure Ed where
  f : Nat
  t : Nat
  j : Int
  k : Nat
def gi (xs : List Int) (i : Nat) : Int := xs.getD i 0
def gn (xs : List Nat) (i : Nat) : Nat := xs.getD i 0
def ge (es : List Ed) (i : Nat) : Ed := es.getD i ⟨0, 0, 0, 0⟩
def ab (x : Int) : Int := max x (-x)
def exc (e : Ed) (p : List Int) : Int := gi p e.t - gi p e.f + e.j
def cost (es : List Ed) (p : List Int) : Int := sm es.length fun i => (ge es i).k * ab (exc (ge es i) p)
def value (es : List Ed) (x : List Int) : Int := sm es.length fun i => gi x i * (ge es i).j
def net (es : List Ed) (x : List Int) (v : Nat) : Int := sm es.length fun i => (if (ge es i).t = v then gi x i else 0) - (if (ge es i).f = v then gi x i else 0)
theorem gi_set (xs : List Int) (i j : Nat) (v : Int) (hi : i < xs.length) : gi (xs.set i v) j = if i = j then v else gi xs j := by
  unfold gi
  simp only [List.getD_eq_getElem?_getD, List.getElem?_set]
  split
  · rename_i e; subst e; simp
  · rfl
theorem gi_replicate (n i : Nat) : gi (List.replicate n 0) i = 0 := by
  unfold gi
  simp only [List.getD_eq_getElem?_getD, List.getElem?_replicate]
  split <;> rfl
theorem gn_set (xs : List Nat) (i j : Nat) (v : Nat) (hi : i < xs.length) : gn (xs.set i v) j = if i = j then v else gn xs j := by
  unfold gn
  simp only [List.getD_eq_getElem?_getD, List.getElem?_set]
  split
  · rename_i e; subst e; simp
  · rfl
theorem ab_nonneg (x : Int) : 0 ≤ ab x := by unfold ab; omega
structure Gd (n : Nat) (J : Nat) (es : List Ed) : Prop where
  n_le : n ≤ 200
  J_le : J ≤ 1000
  m_le : es.length ≤ 600
  ends : ∀ i, i < es.length → (ge es i).f < n ∧ (ge es i).t < n ∧ (ge es i).f ≠ (ge es i).t
  jump : ∀ i, i < es.length → -(J : Int) ≤ (ge es i).j ∧ (ge es i).j ≤ J
  wt : ∀ i, i < es.length → (ge es i).k ≤ 1000
structure Right (n : Nat) (es : List Ed) (x : List Int) : Prop where
  len : x.length = es.length
  fit : ∀ i, i < es.length → -((ge es i).k : Int) ≤ gi x i ∧ gi x i ≤ (ge es i).k
  bal : ∀ v, v < n → net es x v = 0
theorem exch (m n : Nat) (t f : Nat → Nat) (x p : Nat → Int) (h : ∀ i, i < m → t i < n ∧ f i < n) :
    sm m (fun i => x i * (p (t i) - p (f i))) = sm n (fun v => p v * sm m (fun i => (if t i = v then x i else 0) - (if f i = v then x i else 0))) := by
  induction m with
  | zero => simp only [sm]; rw [sm_zero]; intro i _; simp
  | succ m ih =>
    have h1 := ih (fun i hi => h i (by omega))
    obtain ⟨ht, hf⟩ := h m (by omega)
    have h2 : sm n (fun v => p v * sm (m+1) (fun i => (if t i = v then x i else 0) - (if f i = v then x i else 0))) =
        sm n (fun v => p v * sm m (fun i => (if t i = v then x i else 0) - (if f i = v then x i else 0)) +
          ((if t m = v then p (t m) * x m else 0) - (if f m = v then p (f m) * x m else 0))) := sm_congr fun v _ => by
      simp only [sm]
      rw [Int.mul_add]
      congr 1
      by_cases a : t m = v <;> by_cases b : f m = v <;> simp only [a, b, if_true, if_false] <;> grind
    rw [h2, sm_add, sm_sub, sm_one _ ht, sm_one _ hf, ← h1]
    simp only [sm]
    grind
theorem exch_net (n : Nat) (es : List Ed) (x : List Int) (p : Nat → Int) (h : ∀ i, i < es.length → (ge es i).f < n ∧ (ge es i).t < n ∧ (ge es i).f ≠ (ge es i).t) :
    sm es.length (fun i => gi x i * (p (ge es i).t - p (ge es i).f)) = sm n (fun v => p v * net es x v) :=
  exch es.length n (fun i => (ge es i).t) (fun i => (ge es i).f) (gi x) p fun i hi => ⟨(h i hi).2.1, (h i hi).1⟩
theorem value_exc (n : Nat) (es : List Ed) (x p : List Int) (h : ∀ i, i < es.length → (ge es i).f < n ∧ (ge es i).t < n ∧ (ge es i).f ≠ (ge es i).t) (hb : ∀ v, v < n → net es x v = 0) :
    value es x = sm es.length (fun i => gi x i * exc (ge es i) p) := by
  have h1 := exch_net n es x (gi p) h
  rw [sm_zero (n := n) (fun v hv => by rw [hb v hv]; simp)] at h1
  have h2 : sm es.length (fun i => gi x i * exc (ge es i) p) = sm es.length (fun i => gi x i * (gi p (ge es i).t - gi p (ge es i).f) + gi x i * (ge es i).j) := sm_congr fun i _ => by
    unfold exc; grind
  rw [h2, sm_add, h1]
  unfold value
  omega
theorem mul_ab_le (a b : Int) (k : Nat) (h : -(k : Int) ≤ a ∧ a ≤ k) : a * b ≤ k * ab b := by
  have h0 := ab_nonneg b
  have h1 : a * b ≤ ab a * ab b := by
    have := Int.le_natAbs (a := a * b)
    rw [Int.natAbs_mul] at this
    have e1 : (a.natAbs : Int) = ab a := by unfold ab; omega
    have e2 : (b.natAbs : Int) = ab b := by unfold ab; omega
    rw [Int.natCast_mul, e1, e2] at this
    exact this
  exact Int.le_trans h1 (Int.mul_le_mul_of_nonneg_right (by unfold ab; omega) h0)
theorem weak (n : Nat) (es : List Ed) (x p : List Int) (h : ∀ i, i < es.length → (ge es i).f < n ∧ (ge es i).t < n ∧ (ge es i).f ≠ (ge es i).t) (hr : Right n es x) : value es x ≤ cost es p := by
  rw [value_exc n es x p h hr.bal]
  exact sm_le fun i hi => mul_ab_le _ _ _ (hr.fit i hi)
def Fits (es : List Ed) (x p : List Int) : Prop := ∀ i, i < es.length →
  (-((ge es i).k : Int) ≤ gi x i ∧ gi x i ≤ (ge es i).k) ∧ (gi x i < (ge es i).k → exc (ge es i) p ≤ 0) ∧ (-((ge es i).k : Int) < gi x i → 0 ≤ exc (ge es i) p)
theorem strong (n : Nat) (es : List Ed) (x p : List Int) (h : ∀ i, i < es.length → (ge es i).f < n ∧ (ge es i).t < n ∧ (ge es i).f ≠ (ge es i).t) (hb : ∀ v, v < n → net es x v = 0) (hf : Fits es x p) : value es x = cost es p := by
  rw [value_exc n es x p h hb]
  unfold cost
  refine sm_congr fun i hi => ?_
  obtain ⟨h1, h2, h3⟩ := hf i hi
  generalize exc (ge es i) p = e at *
  generalize gi x i = y at *
  rcases Int.lt_trichotomy e 0 with he | he | he
  · have : ¬ (-((ge es i).k : Int) < y) := fun hh => by have := h3 hh; omega
    have hy : y = -((ge es i).k : Int) := by omega
    have ha : ab e = -e := by unfold ab; omega
    rw [hy, ha]; grind
  · subst he; have : ab 0 = 0 := by decide
    rw [this]; simp
  · have : ¬ (y < ((ge es i).k : Int)) := fun hh => by have := h2 hh; omega
    have hy : y = ((ge es i).k : Int) := by omega
    have ha : ab e = e := by unfold ab; omega
    rw [hy, ha]
end Sw
end
section
namespace Sw
structure Ar where
  e : Nat
  to : Nat
  s : Int
  room : Int
  cost : Int
def ga (l : List Ar) (i : Nat) : Ar := l.getD i ⟨0, 0, 0, 0, 0⟩
theorem ga_set (xs : List Ar) (i j : Nat) (v : Ar) (hi : i < xs.length) : ga (xs.set i v) j = if i = j then v else ga xs j := by
  unfold ga
  simp only [List.getD_eq_getElem?_getD, List.getElem?_set]
  split
  · rename_i e; subst e; simp
  · rfl
def fwd (es : List Ed) (x : List Int) (i : Nat) : Ar := ⟨i, (ge es i).t, 1, (ge es i).k - gi x i, -(ge es i).j⟩
def bwd (es : List Ed) (x : List Int) (i : Nat) : Ar := ⟨i, (ge es i).f, -1, (ge es i).k + gi x i, (ge es i).j⟩
def IsArc (es : List Ed) (x : List Int) (u : Nat) (a : Ar) : Prop :=
  ∃ i, i < es.length ∧ (((ge es i).f = u ∧ a = fwd es x i) ∨ ((ge es i).t = u ∧ a = bwd es x i)) ∧ 0 < a.room
def rc (p : List Int) (u : Nat) (a : Ar) : Int := a.cost + gi p u - gi p a.to
def far : Int := 1152921504606846976
theorem rc_nonneg {es : List Ed} {x p : List Int} {u : Nat} {a : Ar} (hf : Fits es x p) (h : IsArc es x u a) : 0 ≤ rc p u a := by
  obtain ⟨i, hi, h | h, hr⟩ := h
  · obtain ⟨rfl, rfl⟩ := h
    have := (hf i hi).2.1 (by simp only [fwd] at hr; omega)
    simp only [rc, fwd, exc] at *
    omega
  · obtain ⟨rfl, rfl⟩ := h
    have := (hf i hi).2.2 (by simp only [bwd] at hr; omega)
    simp only [rc, bwd, exc] at *
    omega
theorem arc_to_lt {n J : Nat} {es : List Ed} (hg : Gd n J es) {x : List Int} {u : Nat} {a : Ar} (h : IsArc es x u a) : a.to < n ∧ u < n ∧ a.to ≠ u ∧ a.e < es.length ∧ -(J : Int) ≤ a.cost ∧ a.cost ≤ J := by
  obtain ⟨i, hi, h | h, _⟩ := h
  · obtain ⟨rfl, rfl⟩ := h
    obtain ⟨h1, h2, h3⟩ := hg.ends i hi
    obtain ⟨h4, h5⟩ := hg.jump i hi
    exact ⟨h2, h1, fun e => h3 e.symm, hi, by simp only [fwd]; omega, by simp only [fwd]; omega⟩
  · obtain ⟨rfl, rfl⟩ := h
    obtain ⟨h1, h2, h3⟩ := hg.ends i hi
    obtain ⟨h4, h5⟩ := hg.jump i hi
    exact ⟨h1, h2, h3, hi, by simp only [bwd]; omega, by simp only [bwd]; omega⟩
structure Tour (n : Nat) (es : List Ed) (x p : List Int) (src : Nat) (l : List Int) (last : List Ar) (bef : List Nat) (rk : Nat → Nat) : Prop where
  len1 : l.length = n
  len2 : last.length = n
  len3 : bef.length = n
  src0 : gi l src = 0
  lo : ∀ v, v < n → 0 ≤ gi l v ∧ gi l v ≤ far
  relax : ∀ u, u < n → gi l u < far → ∀ a, IsArc es x u a → gi l a.to ≤ gi l u + rc p u a
  tree : ∀ v, v < n → v ≠ src → gi l v < far → gn bef v < n ∧ gi l (gn bef v) < far ∧ IsArc es x (gn bef v) (ga last v) ∧ (ga last v).to = v ∧
    gi l v = gi l (gn bef v) + rc p (gn bef v) (ga last v) ∧ rk (gn bef v) < rk v
  rkn : ∀ v, v < n → rk v < n
theorem Tour.bound {n J : Nat} {es : List Ed} {x p : List Int} {src : Nat} {l : List Int} {last : List Ar} {bef : List Nat} {rk : Nat → Nat}
    (hg : Gd n J es) (T : Tour n es x p src l last bef rk) : ∀ v, v < n → gi l v < far →
    -((rk v * J : Nat) : Int) ≤ gi l v + gi p v - gi p src ∧ gi l v + gi p v - gi p src ≤ (rk v * J : Nat) := by
  intro v
  generalize hr : rk v = r
  induction r using Nat.strongRecOn generalizing v with
  | _ r ih =>
    intro hv hl
    by_cases hs : v = src
    · subst hs
      rw [T.src0]
      omega
    · obtain ⟨h1, h2, h3, h4, h5, h6⟩ := T.tree v hv hs hl
      have := ih (rk (gn bef v)) (by omega) (gn bef v) rfl h1 h2
      obtain ⟨_, _, _, _, c1, c2⟩ := arc_to_lt hg h3
      have hm := Nat.mul_le_mul_right J (show rk (gn bef v) + 1 ≤ r by omega)
      rw [Nat.add_mul] at hm
      unfold rc at h5
      rw [h4] at h5
      omega
theorem Tour.bound' {n J : Nat} {es : List Ed} {x p : List Int} {src : Nat} {l : List Int} {last : List Ar} {bef : List Nat} {rk : Nat → Nat}
    (hg : Gd n J es) (T : Tour n es x p src l last bef rk) (v : Nat) (hv : v < n) (hl : gi l v < far) :
    -((n * J : Nat) : Int) ≤ gi l v + gi p v - gi p src ∧ gi l v + gi p v - gi p src ≤ (n * J : Nat) := by
  have h1 := T.bound hg v hv hl
  have h2 := Nat.mul_le_mul_right J (Nat.le_of_lt (T.rkn v hv))
  omega
def pos (n : Nat) (ex : List Int) : Int := sm n fun v => max (gi ex v) 0
structure Inv (n J : Nat) (es : List Ed) (x p ex : List Int) (D : Int) : Prop where
  lenx : x.length = es.length
  lenp : p.length = n
  lenex : ex.length = n
  fits : Fits es x p
  exq : ∀ v, v < n → gi ex v = net es x v
  lo : ∀ v, v < n → 0 ≤ gi p v ∧ gi p v ≤ D
  deft : ∀ v, v < n → gi ex v < 0 → gi p v = D
  spread : ∀ v, v < n → D - gi p v ≤ 2 * (n * J : Nat)
  D0 : 0 ≤ D
  bd : D + pos n ex * (n * J : Nat) ≤ 1200000 * (n * J : Nat)
theorem pos_nonneg (n : Nat) (ex : List Int) : 0 ≤ pos n ex := sm_nonneg fun i _ => by omega
theorem nJ_le {n J : Nat} {es : List Ed} (hg : Gd n J es) : n * J ≤ 200000 := by
  have := Nat.mul_le_mul hg.n_le hg.J_le
  omega
theorem Inv.D_le {n J : Nat} {es : List Ed} {x p ex : List Int} {D : Int} (hg : Gd n J es) (h : Inv n J es x p ex D) : D ≤ 240000000000 := by
  have h1 := h.bd
  have h2 := Int.mul_nonneg (pos_nonneg n ex) (Int.natCast_nonneg (n * J))
  have h3 := nJ_le hg
  omega
theorem Inv.p_le {n J : Nat} {es : List Ed} {x p ex : List Int} {D : Int} (hg : Gd n J es) (h : Inv n J es x p ex D) (v : Nat) (hv : v < n) : 0 ≤ gi p v ∧ gi p v ≤ 240000000000 := by
  have := h.lo v hv
  have := h.D_le hg
  omega
theorem reach {n J : Nat} {es : List Ed} {x p ex : List Int} {D : Int} {src : Nat} {l : List Int} {last : List Ar} {bef : List Nat} {rk : Nat → Nat}
    (hg : Gd n J es) (h : Inv n J es x p ex D) (T : Tour n es x p src l last bef rk) (hs : src < n) (hpos : 0 < gi ex src) :
    ∃ v, v < n ∧ gi ex v < 0 ∧ gi l v < far := by
  apply Classical.byContradiction
  intro hno
  have hall : ∀ v, v < n → gi l v < far → 0 ≤ gi ex v := fun v hv hl => by
    apply Classical.byContradiction
    intro hh
    exact hno ⟨v, hv, by omega, hl⟩
  have hx := exch_net n es x (fun v => if gi l v < far then 1 else 0) hg.ends
  have hsrc : gi l src < far := by rw [T.src0]; decide
  have h1 : 0 < sm n (fun v => (if gi l v < far then 1 else 0) * net es x v) := by
    have h2 := sm_ge_one (n := n) (f := fun v => (if gi l v < far then 1 else 0) * net es x v) (fun v hv => by
      show 0 ≤ (if gi l v < far then 1 else 0) * net es x v
      split
      · rw [← h.exq v hv]; have := hall v hv ‹_›; omega
      · omega) src hs
    simp only [hsrc, if_true, Int.one_mul, ← h.exq src hs] at h2
    omega
  have h3 : sm es.length (fun i => gi x i * ((if gi l (ge es i).t < far then 1 else 0) - (if gi l (ge es i).f < far then 1 else 0))) ≤ 0 := by
    refine Int.le_trans (sm_le (g := fun _ => 0) fun i hi => ?_) (by rw [sm_zero (fun _ _ => rfl)]; exact Int.le_refl _)
    obtain ⟨e1, e2, e3⟩ := hg.ends i hi
    obtain ⟨f1, f2, f3⟩ := h.fits i hi
    have hD := h.D_le hg
    have hJ := hg.J_le
    have hn := nJ_le hg
    obtain ⟨j1, j2⟩ := hg.jump i hi
    have pt := h.lo _ e2
    have pf := h.lo _ e1
    have ps := h.lo _ hs
    by_cases ht : gi l (ge es i).t < far <;> by_cases hf : gi l (ge es i).f < far
    · simp [ht, hf]
    · simp only [ht, hf, if_true, if_false]
      by_cases hk : -((ge es i).k : Int) < gi x i
      · have := T.relax _ e2 ht (bwd es x i) ⟨i, hi, .inr ⟨rfl, rfl⟩, by simp only [bwd]; omega⟩
        have hb := T.bound' hg _ e2 ht
        simp only [bwd, rc] at this
        unfold far at *
        omega
      · omega
    · simp only [ht, hf, if_true, if_false]
      by_cases hk : gi x i < ((ge es i).k : Int)
      · have := T.relax _ e1 hf (fwd es x i) ⟨i, hi, .inl ⟨rfl, rfl⟩, by simp only [fwd]; omega⟩
        have hb := T.bound' hg _ e1 hf
        simp only [fwd, rc] at this
        unfold far at *
        omega
      · omega
    · simp [ht, hf]
  omega
structure Sel (n : Nat) (ex l : List Int) (to : Nat) : Prop where
  lt : to < n
  neg : gi ex to < 0
  fin : gi l to < far
  least : ∀ v, v < n → gi ex v < 0 → gi l v < far → gi l to ≤ gi l v
def itb (bef : List Nat) (to : Nat) : Nat → Nat
  | 0 => to
  | k + 1 => gn bef (itb bef to k)
structure Back (n : Nat) (l : List Int) (rk : Nat → Nat) (bef : List Nat) (src to k : Nat) : Prop where
  ne : ∀ j, j < k → itb bef to j ≠ src
  at_ : ∀ j, j ≤ k → itb bef to j < n ∧ gi l (itb bef to j) < far ∧ gi l (itb bef to j) ≤ gi l to ∧ rk (itb bef to j) + j ≤ rk to
theorem Back.zero {n : Nat} {l : List Int} {rk : Nat → Nat} {bef : List Nat} {src to : Nat} (h1 : to < n) (h2 : gi l to < far) : Back n l rk bef src to 0 :=
  ⟨fun j hj => by omega, fun j hj => by obtain rfl : j = 0 := by omega
                                        exact ⟨h1, h2, Int.le_refl _, by simp [itb]⟩⟩
theorem Back.step {n : Nat} {es : List Ed} {x p : List Int} {src : Nat} {l : List Int} {last : List Ar} {bef : List Nat} {rk : Nat → Nat}
    (T : Tour n es x p src l last bef rk) (hf : Fits es x p) {to k : Nat} (h : Back n l rk bef src to k) (hne : itb bef to k ≠ src) : Back n l rk bef src to (k + 1) := by
  obtain ⟨a1, a2, a3, a4⟩ := h.at_ k (Nat.le_refl _)
  obtain ⟨t1, t2, t3, t4, t5, t6⟩ := T.tree _ a1 hne a2
  have hr := rc_nonneg hf t3
  refine ⟨fun j hj => ?_, fun j hj => ?_⟩
  · by_cases e : j = k
    · subst e; exact hne
    · exact h.ne j (by omega)
  · by_cases e : j = k + 1
    · subst e
      show gn bef (itb bef to k) < n ∧ _ ∧ _ ∧ rk (gn bef (itb bef to k)) + (k + 1) ≤ rk to
      exact ⟨t1, t2, show gi l (gn bef (itb bef to k)) ≤ _ by omega, by omega⟩
    · exact h.at_ j (by omega)
theorem Back.rank {n : Nat} {es : List Ed} {x p : List Int} {src : Nat} {l : List Int} {last : List Ar} {bef : List Nat} {rk : Nat → Nat}
    (T : Tour n es x p src l last bef rk) {to k : Nat} (h : Back n l rk bef src to k) : ∀ d j, j + d ≤ k → 0 < d → rk (itb bef to (j + d)) < rk (itb bef to j) := by
  intro d
  induction d with
  | zero => intro j _ h0; omega
  | succ d ih =>
    intro j hj _
    obtain ⟨a1, a2, a3, a4⟩ := h.at_ (j + d) (by omega)
    obtain ⟨t1, t2, t3, t4, t5, t6⟩ := T.tree _ a1 (h.ne _ (by omega)) a2
    have e : itb bef to (j + (d + 1)) = gn bef (itb bef to (j + d)) := rfl
    rw [e]
    by_cases hd : d = 0
    · subst hd; exact t6
    · have := ih j (by omega) (by omega); omega
theorem Back.edge {n : Nat} {es : List Ed} {x p : List Int} {src : Nat} {l : List Int} {last : List Ar} {bef : List Nat} {rk : Nat → Nat}
    (T : Tour n es x p src l last bef rk) {to k : Nat} (h : Back n l rk bef src to (k + 1)) {j : Nat} (hj : j < k)
    (e : (ga last (itb bef to j)).e = (ga last (itb bef to k)).e) : False := by
  obtain ⟨a1, a2, _, _⟩ := h.at_ j (by omega)
  obtain ⟨b1, b2, _, _⟩ := h.at_ k (by omega)
  obtain ⟨t1, t2, t3, t4, t5, t6⟩ := T.tree _ a1 (h.ne _ (by omega)) a2
  obtain ⟨u1, u2, u3, u4, u5, u6⟩ := T.tree _ b1 (h.ne _ (by omega)) b2
  have hr := h.rank T (k - j) j (by omega) (by omega)
  rw [show j + (k - j) = k by omega] at hr
  obtain ⟨i, hi, hu, _⟩ := t3
  obtain ⟨i', hi', hv, _⟩ := u3
  generalize itb bef to j = v at *
  generalize itb bef to k = u at *
  rcases hu with ⟨q1, q2⟩ | ⟨q1, q2⟩ <;> rcases hv with ⟨r1, r2⟩ | ⟨r1, r2⟩ <;> rw [q2] at e t4 <;> rw [r2] at e u4 <;> simp only [fwd, bwd] at e t4 u4 <;> subst e
  · rw [t4] at u4; subst u4; omega
  · rw [← q1, u4] at t6; rw [← r1, t4] at u6; omega
  · rw [← q1, u4] at t6; rw [← r1, t4] at u6; omega
  · rw [t4] at u4; subst u4; omega
end Sw
end
section
namespace Sw
structure Fl (n : Nat) (es : List Ed) (x0 : List Int) (am : Int) (last : List Ar) (bef : List Nat) (to k : Nat) (x : List Int) : Prop where
  len : x.length = es.length
  old : ∀ i, i < es.length → gi x i = gi x0 i ∨ ∃ j, j < k ∧ (ga last (itb bef to j)).e = i ∧ gi x i = gi x0 i + (ga last (itb bef to j)).s * am
  bal : ∀ v, v < n → net es x v = net es x0 v + (if v = to then am else 0) - (if v = itb bef to k then am else 0)
theorem Fl.zero {n : Nat} {es : List Ed} {x0 : List Int} {am : Int} {last : List Ar} {bef : List Nat} {to : Nat} (h : x0.length = es.length) : Fl n es x0 am last bef to 0 x0 :=
  ⟨h, fun _ _ => .inl rfl, fun v _ => by simp only [itb]; omega⟩
theorem net_set {es : List Ed} {x : List Int} {e : Nat} (he : e < es.length) (hl : x.length = es.length) (y : Int) (v : Nat) :
    net es (x.set e y) v = net es x v + ((if (ge es e).t = v then y - gi x e else 0) - (if (ge es e).f = v then y - gi x e else 0)) := by
  unfold net
  rw [sm_upd e he (g := fun i => (if (ge es i).t = v then gi x i else 0) - (if (ge es i).f = v then gi x i else 0)) (fun i hi hne => by
    have h1 : gi (x.set e y) i = gi x i := by rw [gi_set _ _ _ _ (by omega), if_neg (fun h => hne h.symm)]
    rw [h1])]
  have h2 : gi (x.set e y) e = y := by rw [gi_set _ _ _ _ (by omega), if_pos rfl]
  rw [h2]
  by_cases a : (ge es e).t = v <;> by_cases b : (ge es e).f = v <;> simp only [a, b, if_true, if_false] <;> omega
theorem Fl.step {n J : Nat} {es : List Ed} {x p : List Int} {src : Nat} {l : List Int} {last : List Ar} {bef : List Nat} {rk : Nat → Nat}
    (hg : Gd n J es) (T : Tour n es x p src l last bef rk) {to k : Nat} (h : Back n l rk bef src to (k + 1)) {am : Int} {y : List Int} (hF : Fl n es x am last bef to k y) :
    Fl n es x am last bef to (k + 1) (y.set (ga last (itb bef to k)).e (gi y (ga last (itb bef to k)).e + (ga last (itb bef to k)).s * am)) := by
  obtain ⟨b1, b2, _, _⟩ := h.at_ k (by omega)
  obtain ⟨u1, u2, u3, u4, u5, u6⟩ := T.tree _ b1 (h.ne _ (by omega)) b2
  have he := (arc_to_lt hg u3).2.2.2.1
  have hsame : gi y (ga last (itb bef to k)).e = gi x (ga last (itb bef to k)).e := by
    rcases hF.old _ he with h1 | ⟨j, hj, h1, _⟩
    · exact h1
    · exact (h.edge T hj h1).elim
  refine ⟨by rw [List.length_set]; exact hF.len, fun i hi => ?_, fun v hv => ?_⟩
  · rw [gi_set _ _ _ _ (by rw [hF.len]; exact he)]
    by_cases e : (ga last (itb bef to k)).e = i
    · rw [if_pos e, hsame, ← e]
      exact .inr ⟨k, by omega, rfl, rfl⟩
    · rw [if_neg e]
      rcases hF.old i hi with h1 | ⟨j, hj, h1, h2⟩
      · exact .inl h1
      · exact .inr ⟨j, by omega, h1, h2⟩
  · rw [net_set he hF.len, hF.bal v hv]
    have e : itb bef to (k + 1) = gn bef (itb bef to k) := rfl
    rw [e]
    generalize gi y (ga last (itb bef to k)).e = z
    obtain ⟨i, hi, hq | hq, _⟩ := u3
    · obtain ⟨q1, q2⟩ := hq
      rw [q2] at u4 ⊢
      simp only [fwd] at u4 ⊢
      simp only [u4, q1]
      by_cases a : itb bef to k = v <;> by_cases b : gn bef (itb bef to k) = v
      · exact absurd (a.trans b.symm) (fun h => by have := hg.ends i hi; rw [q1, u4] at this; exact this.2.2 h.symm)
      · simp only [eq_comm (a := v), a, b, if_true, if_false]; omega
      · simp only [eq_comm (a := v), a, b, if_true, if_false]; omega
      · simp only [eq_comm (a := v), a, b, if_true, if_false]; omega
    · obtain ⟨q1, q2⟩ := hq
      rw [q2] at u4 ⊢
      simp only [bwd] at u4 ⊢
      simp only [u4, q1]
      by_cases a : itb bef to k = v <;> by_cases b : gn bef (itb bef to k) = v
      · exact absurd (a.trans b.symm) (fun h => by have := hg.ends i hi; rw [q1, u4] at this; exact this.2.2 h)
      · simp only [eq_comm (a := v), a, b, if_true, if_false]; omega
      · simp only [eq_comm (a := v), a, b, if_true, if_false]; omega
      · simp only [eq_comm (a := v), a, b, if_true, if_false]; omega
theorem push_inv {n J : Nat} {es : List Ed} {x p ex : List Int} {D : Int} {src : Nat} {l : List Int} {last : List Ar} {bef : List Nat} {rk : Nat → Nat}
    (hg : Gd n J es) (h : Inv n J es x p ex D) (T : Tour n es x p src l last bef rk) (hs : src < n) (hpos : 0 < gi ex src)
    {to : Nat} (S : Sel n ex l to) {am : Int} (ha1 : 1 ≤ am) (ha2 : am ≤ gi ex src) (ha3 : am ≤ -gi ex to)
    {K : Nat} (hB : Back n l rk bef src to K) (hK : itb bef to K = src) (hroom : ∀ j, j < K → am ≤ (ga last (itb bef to j)).room)
    {x' p' : List Int} (hF : Fl n es x am last bef to K x') (lp : p'.length = n) (hp : ∀ v, v < n → gi p' v = gi p v + min (gi l v) (gi l to)) :
    Inv n J es x' p' ((ex.set src (gi ex src - am)).set to (gi ex to + am)) (D + gi l to) ∧ pos n ((ex.set src (gi ex src - am)).set to (gi ex to + am)) < pos n ex := by
  have hne : src ≠ to := fun e => by subst e; have := S.neg; omega
  have hL := T.lo to S.lt
  have hex : ∀ v, v < n → gi ((ex.set src (gi ex src - am)).set to (gi ex to + am)) v = gi ex v + (if v = to then am else 0) - (if v = src then am else 0) := fun v hv => by
    rw [gi_set _ _ _ _ (by rw [List.length_set, h.lenex]; exact S.lt), gi_set _ _ _ _ (by rw [h.lenex]; exact hs)]
    by_cases a : to = v
    · subst a
      have b : ¬ to = src := fun e => hne e.symm
      simp only [b, if_true, if_false]; omega
    · have a' : ¬ v = to := fun e => a e.symm
      by_cases b : src = v
      · subst b
        simp only [a, a', if_true, if_false]; omega
      · have b' : ¬ v = src := fun e => b e.symm
        simp only [a, a', b, b', if_false]; omega
  have hlen : ((ex.set src (gi ex src - am)).set to (gi ex to + am)).length = n := by rw [List.length_set, List.length_set]; exact h.lenex
  generalize (ex.set src (gi ex src - am)).set to (gi ex to + am) = ex' at *
  have hpl : pos n ex' < pos n ex := by
    refine sm_lt (fun v hv => ?_) src hs ?_
    · show max (gi ex' v) 0 ≤ max (gi ex v) 0
      rw [hex v hv]
      by_cases a : v = to
      · subst a; rw [if_pos rfl, if_neg (fun e => hne e.symm)]; have := S.neg; omega
      · rw [if_neg a]; split <;> omega
    · show max (gi ex' src) 0 < max (gi ex src) 0
      rw [hex src hs, if_neg hne, if_pos rfl]; omega
  have hb := T.bound' hg to S.lt S.fin
  have hps := h.lo src hs
  have hpt := h.deft to S.lt S.neg
  have hmin : ∀ v, v < n → 0 ≤ min (gi l v) (gi l to) ∧ min (gi l v) (gi l to) ≤ gi l to := fun v hv => by
    have := T.lo v hv; omega
  have hfw : ∀ i, i < es.length → (gi x i < (ge es i).k → exc (ge es i) p' ≤ 0) ∧ (-((ge es i).k : Int) < gi x i → 0 ≤ exc (ge es i) p') := fun i hi => by
    obtain ⟨e1, e2, e3⟩ := hg.ends i hi
    obtain ⟨_, f2, f3⟩ := h.fits i hi
    refine ⟨fun hlt => ?_, fun hlt => ?_⟩
    · have h0 := f2 hlt
      have := T.relax _ e1
      unfold exc at *
      rw [hp _ e1, hp _ e2]
      by_cases hf : gi l (ge es i).f < far
      · have := T.relax _ e1 hf (fwd es x i) ⟨i, hi, .inl ⟨rfl, rfl⟩, by simp only [fwd]; omega⟩
        simp only [fwd, rc] at this
        omega
      · have := S.fin; have := hmin _ e2; omega
    · have h0 := f3 hlt
      unfold exc at *
      rw [hp _ e1, hp _ e2]
      by_cases hf : gi l (ge es i).t < far
      · have := T.relax _ e2 hf (bwd es x i) ⟨i, hi, .inr ⟨rfl, rfl⟩, by simp only [bwd]; omega⟩
        simp only [bwd, rc] at this
        omega
      · have := S.fin; have := hmin _ e1; omega
  refine ⟨⟨hF.len, lp, hlen, fun i hi => ?_, fun v hv => ?_, fun v hv => ?_, fun v hv hneg => ?_, fun v hv => ?_, ?_, ?_⟩, hpl⟩
  · rcases hF.old i hi with h1 | ⟨j, hj, h1, h2⟩
    · rw [h1]; exact ⟨(h.fits i hi).1, (hfw i hi)⟩
    · obtain ⟨b1, b2, b3, _⟩ := hB.at_ j (by omega)
      obtain ⟨u1, u2, u3, u4, u5, u6⟩ := T.tree _ b1 (hB.ne _ hj) b2
      have hr := hroom j hj
      have hu0 := rc_nonneg h.fits u3
      have f1 := (h.fits i hi).1
      obtain ⟨i', hi', hq | hq, _⟩ := u3
      · obtain ⟨q1, q2⟩ := hq
        rw [q2] at h1 h2 hr u4 u5 hu0
        simp only [fwd] at h1 h2 hr u4
        subst h1
        have hz : exc (ge es i') p' = 0 := by
          simp only [rc, fwd] at u5 hu0
          obtain ⟨e1, e2, e3⟩ := hg.ends i' hi
          unfold exc
          rw [hp _ e1, hp _ e2]
          simp only [q1, u4] at u5 hu0 ⊢
          omega
        rw [hz, h2]
        omega
      · obtain ⟨q1, q2⟩ := hq
        rw [q2] at h1 h2 hr u4 u5 hu0
        simp only [bwd] at h1 h2 hr u4
        subst h1
        have hz : exc (ge es i') p' = 0 := by
          simp only [rc, bwd] at u5 hu0
          obtain ⟨e1, e2, e3⟩ := hg.ends i' hi
          unfold exc
          rw [hp _ e1, hp _ e2]
          simp only [q1, u4] at u5 hu0 ⊢
          omega
        rw [hz, h2]
        omega
  · rw [hex v hv, hF.bal v hv, hK, h.exq v hv]
  · have := hmin v hv; have := h.lo v hv; rw [hp v hv]; omega
  · rw [hp v hv]
    have h0 : gi ex v < 0 := by
      rw [hex v hv] at hneg
      by_cases a : v = to
      · subst a; exact S.neg
      · rw [if_neg a] at hneg
        by_cases b : v = src
        · subst b; rw [if_pos rfl] at hneg; omega
        · rw [if_neg b] at hneg; omega
    have := h.deft v hv h0
    by_cases hl : gi l v < far
    · have := S.least v hv h0 hl; omega
    · have := S.fin; omega
  · rw [hp v hv]
    have h1 := h.spread v hv
    by_cases hl : gi l v < gi l to
    · have := T.bound' hg v hv (by omega)
      omega
    · omega
  · have := h.D0; omega
  · have h1 := h.bd
    have hnn := Int.natCast_nonneg (n * J)
    have h2 := Int.mul_le_mul_of_nonneg_right (show pos n ex' + 1 ≤ pos n ex by omega) hnn
    rw [Int.add_mul, Int.one_mul] at h2
    omega
end Sw
end
section
namespace Sw
def gb (l : List Bool) (i : Nat) : Bool := l.getD i false
theorem gb_set (xs : List Bool) (i j : Nat) (v : Bool) (hi : i < xs.length) : gb (xs.set i v) j = if i = j then v else gb xs j := by
  unfold gb
  simp only [List.getD_eq_getElem?_getD, List.getElem?_set]
  split
  · rename_i e; subst e; simp
  · rfl
def cnt (d : List Bool) : Nat := d.countP id
theorem cnt_le (d : List Bool) : cnt d ≤ d.length := List.countP_le_length
theorem cnt_set (d : List Bool) (i : Nat) (hi : i < d.length) (h : gb d i = false) : cnt (d.set i true) = cnt d + 1 := by
  induction d generalizing i with
  | nil => simp at hi
  | cons b d ih =>
    cases i with
    | zero =>
      have hb : b = false := by simpa [gb] using h
      subst hb
      simp [cnt]
    | succ i =>
      have := ih i (by simpa using hi) (by simpa [gb] using h)
      unfold cnt at *
      simp only [List.set_cons_succ, List.countP_cons]
      omega
structure Dij (n : Nat) (es : List Ed) (x p : List Int) (src : Nat) (l : List Int) (last : List Ar) (bef : List Nat) (done : List Bool) (rk : Nat → Nat) (m : Int) (pend : Nat → Ar → Prop) : Prop where
  len1 : l.length = n
  len2 : last.length = n
  len3 : bef.length = n
  len4 : done.length = n
  src0 : gi l src = 0
  lo : ∀ v, v < n → 0 ≤ gi l v ∧ gi l v ≤ far
  dn : ∀ v, v < n → gb done v = true → gi l v < far
  top : ∀ v, v < n → gb done v = true → gi l v ≤ m
  ord : ∀ v, v < n → gb done v = false → m ≤ gi l v
  relax : ∀ u, u < n → gb done u = true → ∀ a, IsArc es x u a → ¬ pend u a → gi l a.to ≤ gi l u + rc p u a
  tree : ∀ v, v < n → v ≠ src → gi l v < far → gn bef v < n ∧ gb done (gn bef v) = true ∧ IsArc es x (gn bef v) (ga last v) ∧ (ga last v).to = v ∧
    gi l v = gi l (gn bef v) + rc p (gn bef v) (ga last v) ∧ (gb done v = true → rk (gn bef v) < rk v)
  rkn : ∀ v, v < n → gb done v = true → rk v < cnt done
theorem gi_rep (n : Nat) (c : Int) (i : Nat) (h : i < n) : gi (List.replicate n c) i = c := by
  unfold gi; simp [List.getD_eq_getElem?_getD, List.getElem?_replicate, h]
theorem gb_rep (n i : Nat) : gb (List.replicate n false) i = false := by
  unfold gb; simp only [List.getD_eq_getElem?_getD, List.getElem?_replicate]; split <;> rfl
theorem Dij.start (n : Nat) (es : List Ed) (x p : List Int) (src : Nat) (hs : src < n) :
    Dij n es x p src ((List.replicate n far).set src 0) (List.replicate n ⟨0, 0, 0, 0, 0⟩) (List.replicate n 0) (List.replicate n false) (fun _ => 0) 0 (fun _ _ => False) := by
  have hl : ∀ v, v < n → gi ((List.replicate n far).set src 0) v = if src = v then 0 else far := fun v hv => by
    rw [gi_set _ _ _ _ (by simpa using hs), gi_rep n far v hv]
  have hf : (0 : Int) < far := by decide
  refine ⟨by simp, by simp, by simp, by simp, by rw [hl src hs]; simp, fun v hv => ?_, fun v hv h => ?_, fun v hv h => ?_, fun v hv h => ?_, fun u hu h => ?_, fun v hv hne hlt => ?_, fun v hv h => ?_⟩
  · rw [hl v hv]; split <;> omega
  · rw [gb_rep] at h; cases h
  · rw [gb_rep] at h; cases h
  · rw [hl v hv]; split <;> omega
  · rw [gb_rep] at h; cases h
  · rw [hl v hv, if_neg (fun e => hne e.symm)] at hlt; omega
  · rw [gb_rep] at h; cases h
theorem Dij.mark {n : Nat} {es : List Ed} {x p : List Int} {src : Nat} {l : List Int} {last : List Ar} {bef : List Nat} {done : List Bool} {rk : Nat → Nat} {m : Int}
    (h : Dij n es x p src l last bef done rk m (fun _ _ => False)) {u : Nat} (hu : u < n) (hd : gb done u = false) (hl : gi l u < far)
    (hleast : ∀ v, v < n → gb done v = false → gi l v < far → gi l u ≤ gi l v) :
    Dij n es x p src l last bef (done.set u true) (fun v => if v = u then cnt done else rk v) (gi l u) (fun v _ => v = u) := by
  have hg : ∀ v, gb (done.set u true) v = if u = v then true else gb done v := fun v => gb_set _ _ _ _ (by rw [h.len4]; exact hu)
  have hc := cnt_set done u (by rw [h.len4]; exact hu) hd
  refine ⟨h.len1, h.len2, h.len3, by rw [List.length_set]; exact h.len4, h.src0, h.lo, fun v hv hb => ?_, fun v hv hb => ?_, fun v hv hb => ?_, fun v hv hb a ha hp => ?_, fun v hv hne hlt => ?_, fun v hv hb => ?_⟩
  · rw [hg] at hb
    by_cases e : u = v
    · subst e; exact hl
    · rw [if_neg e] at hb; exact h.dn v hv hb
  · rw [hg] at hb
    by_cases e : u = v
    · subst e; exact Int.le_refl _
    · rw [if_neg e] at hb; have := h.top v hv hb; have := h.ord u hu hd; omega
  · rw [hg] at hb
    by_cases e : u = v
    · rw [if_pos e] at hb; cases hb
    · rw [if_neg e] at hb
      by_cases hv' : gi l v < far
      · exact hleast v hv hb hv'
      · omega
  · rw [hg] at hb
    rw [if_neg (fun e => hp e.symm)] at hb
    exact h.relax v hv hb a ha (fun x => x)
  · obtain ⟨t1, t2, t3, t4, t5, t6⟩ := h.tree v hv hne hlt
    have hbu : u ≠ gn bef v := fun e => by rw [← e, hd] at t2; cases t2
    refine ⟨t1, by rw [hg, if_neg hbu]; exact t2, t3, t4, t5, fun hb => ?_⟩
    show (if gn bef v = u then cnt done else rk (gn bef v)) < if v = u then cnt done else rk v
    rw [if_neg (fun e => hbu e.symm)]
    by_cases e : v = u
    · rw [if_pos e]; exact h.rkn _ t1 t2
    · rw [if_neg e]
      rw [hg, if_neg (fun x => e x.symm)] at hb
      exact t6 hb
  · rw [hc]
    show (if v = u then cnt done else rk v) < _
    by_cases e : v = u
    · rw [if_pos e]; omega
    · rw [if_neg e]
      rw [hg, if_neg (fun x => e x.symm)] at hb
      have := h.rkn v hv hb
      omega
theorem Dij.better {n J : Nat} {es : List Ed} {x p : List Int} {src : Nat} {l : List Int} {last : List Ar} {bef : List Nat} {done : List Bool} {rk : Nat → Nat} {u : Nat} {pend : Nat → Ar → Prop}
    (hg : Gd n J es) (hf : Fits es x p) (h : Dij n es x p src l last bef done rk (gi l u) pend) (hd : gb done u = true) {a : Ar} (ha : IsArc es x u a) (hlt : gi l u + rc p u a < gi l a.to) :
    Dij n es x p src (l.set a.to (gi l u + rc p u a)) (last.set a.to a) (bef.set a.to u) done rk (gi (l.set a.to (gi l u + rc p u a)) u) (fun v b => pend v b ∧ ¬ (v = u ∧ b = a)) := by
  obtain ⟨a1, a2, a3, a4, _, _⟩ := arc_to_lt hg ha
  have hr := rc_nonneg hf ha
  have hnd : gb done a.to = false := by
    cases hh : gb done a.to with
    | false => rfl
    | true => have := h.top _ a1 hh; omega
  have hl : ∀ v, gi (l.set a.to (gi l u + rc p u a)) v = if a.to = v then gi l u + rc p u a else gi l v := fun v => gi_set _ _ _ _ (by rw [h.len1]; exact a1)
  have hb : ∀ v, gn (bef.set a.to u) v = if a.to = v then u else gn bef v := fun v => gn_set _ _ _ _ (by rw [h.len3]; exact a1)
  have ha' : ∀ v, ga (last.set a.to a) v = if a.to = v then a else ga last v := fun v => ga_set _ _ _ _ (by rw [h.len2]; exact a1)
  have hu : gi (l.set a.to (gi l u + rc p u a)) u = gi l u := by rw [hl, if_neg a3]
  have hdn : ∀ v, gb done v = true → gi (l.set a.to (gi l u + rc p u a)) v = gi l v := fun v hv => by
    rw [hl, if_neg (fun e => by subst e; rw [hnd] at hv; cases hv)]
  have hdec : ∀ v, gi (l.set a.to (gi l u + rc p u a)) v ≤ gi l v := fun v => by
    rw [hl]; split
    · rename_i e; subst e; omega
    · exact Int.le_refl _
  have hlu := h.lo u a2
  have hlt' := h.lo a.to a1
  rw [hu]
  refine ⟨by rw [List.length_set]; exact h.len1, by rw [List.length_set]; exact h.len2, by rw [List.length_set]; exact h.len3, h.len4, ?_, fun v hv => ?_, fun v hv hb' => ?_, fun v hv hb' => ?_, fun v hv hb' => ?_, fun v hv hb' b hb'' hp => ?_, fun v hv hne hlt => ?_, h.rkn⟩
  · rw [hl]
    by_cases e : a.to = src
    · exfalso; rw [e] at hlt; rw [h.src0] at hlt; omega
    · rw [if_neg e]; exact h.src0
  · rw [hl]; have := h.lo v hv; split <;> omega
  · rw [hdn v hb']; exact h.dn v hv hb'
  · rw [hdn v hb']; exact h.top v hv hb'
  · rw [hl]; have := h.ord v hv hb'; split <;> omega
  · rw [hdn v hb']
    by_cases e : v = u ∧ b = a
    · obtain ⟨rfl, rfl⟩ := e
      rw [hl, if_pos rfl]; exact Int.le_refl _
    · have := h.relax v hv hb' b hb'' (fun hh => hp ⟨hh, e⟩)
      have := hdec b.to
      omega
  · by_cases e : a.to = v
    · subst e
      rw [hb, if_pos rfl, ha', if_pos rfl, hl, if_pos rfl, hdn u hd]
      exact ⟨a2, hd, ha, rfl, rfl, fun hh => by rw [hnd] at hh; cases hh⟩
    · rw [hl, if_neg e] at hlt
      obtain ⟨t1, t2, t3, t4, t5, t6⟩ := h.tree v hv hne hlt
      rw [hb, if_neg e, ha', if_neg e, hl v, if_neg e, hdn _ t2]
      exact ⟨t1, t2, t3, t4, t5, t6⟩
theorem Dij.worse {n : Nat} {es : List Ed} {x p : List Int} {src : Nat} {l : List Int} {last : List Ar} {bef : List Nat} {done : List Bool} {rk : Nat → Nat} {u : Nat} {m : Int} {pend : Nat → Ar → Prop}
    (h : Dij n es x p src l last bef done rk m pend) {a : Ar} (hle : gi l a.to ≤ gi l u + rc p u a) :
    Dij n es x p src l last bef done rk m (fun v b => pend v b ∧ ¬ (v = u ∧ b = a)) := by
  refine ⟨h.len1, h.len2, h.len3, h.len4, h.src0, h.lo, h.dn, h.top, h.ord, fun v hv hb b hb' hp => ?_, h.tree, h.rkn⟩
  by_cases e : v = u ∧ b = a
  · obtain ⟨rfl, rfl⟩ := e; exact hle
  · exact h.relax v hv hb b hb' (fun hh => hp ⟨hh, e⟩)
theorem Dij.pend {n : Nat} {es : List Ed} {x p : List Int} {src : Nat} {l : List Int} {last : List Ar} {bef : List Nat} {done : List Bool} {rk : Nat → Nat} {m : Int} {pend pend' : Nat → Ar → Prop}
    (h : Dij n es x p src l last bef done rk m pend) (hp : ∀ u a, IsArc es x u a → pend u a → pend' u a) : Dij n es x p src l last bef done rk m pend' :=
  ⟨h.len1, h.len2, h.len3, h.len4, h.src0, h.lo, h.dn, h.top, h.ord, fun v hv hb b hb' hn => h.relax v hv hb b hb' (fun hh => hn (hp _ _ hb' hh)), h.tree, h.rkn⟩
theorem Dij.tour {n : Nat} {es : List Ed} {x p : List Int} {src : Nat} {l : List Int} {last : List Ar} {bef : List Nat} {done : List Bool} {rk : Nat → Nat} {m : Int}
    (h : Dij n es x p src l last bef done rk m (fun _ _ => False)) (hall : ∀ v, v < n → gb done v = false → ¬ gi l v < far) :
    Tour n es x p src l last bef (fun v => if gb done v then rk v else 0) := by
  have hd : ∀ v, v < n → gi l v < far → gb done v = true := fun v hv hl => by
    cases hh : gb done v with
    | true => rfl
    | false => exact absurd hl (hall v hv hh)
  refine ⟨h.len1, h.len2, h.len3, h.src0, h.lo, fun u hu hl a ha => h.relax u hu (hd u hu hl) a ha (fun x => x), fun v hv hne hl => ?_, fun v hv => ?_⟩
  · obtain ⟨t1, t2, t3, t4, t5, t6⟩ := h.tree v hv hne hl
    refine ⟨t1, h.dn _ t1 t2, t3, t4, t5, ?_⟩
    show (if gb done (gn bef v) then rk (gn bef v) else 0) < if gb done v then rk v else 0
    rw [if_pos t2, if_pos (hd v hv hl)]
    exact t6 (hd v hv hl)
  · show (if gb done v then rk v else 0) < n
    by_cases e : gb done v = true
    · rw [if_pos e]; have := h.rkn v hv e; have := cnt_le done; have := h.len4; omega
    · rw [if_neg e]; omega
def adj (es : List Ed) (u : Nat) : List Nat := (List.range es.length).filter fun i => (ge es i).f == u || (ge es i).t == u
def arcAt (es : List Ed) (x : List Int) (u i : Nat) : Ar := if (ge es i).t = u then bwd es x i else fwd es x i
def arcs (es : List Ed) (x : List Int) (u : Nat) : List Ar := ((adj es u).map (arcAt es x u)).filter fun a => 0 < a.room
theorem mem_adj {es : List Ed} {u i : Nat} : i ∈ adj es u ↔ i < es.length ∧ ((ge es i).f = u ∨ (ge es i).t = u) := by
  unfold adj; simp [List.mem_filter]
theorem isArc_iff {n J : Nat} {es : List Ed} (hg : Gd n J es) {x : List Int} {u : Nat} {a : Ar} : IsArc es x u a ↔ a ∈ arcs es x u := by
  unfold arcs
  rw [List.mem_filter, List.mem_map]
  constructor
  · rintro ⟨i, hi, h | h, hr⟩
    · obtain ⟨h1, h2⟩ := h
      refine ⟨⟨i, mem_adj.2 ⟨hi, .inl h1⟩, ?_⟩, by simpa using hr⟩
      unfold arcAt
      rw [if_neg (fun e => (hg.ends i hi).2.2 (h1.trans e.symm)), h2]
    · obtain ⟨h1, h2⟩ := h
      refine ⟨⟨i, mem_adj.2 ⟨hi, .inr h1⟩, ?_⟩, by simpa using hr⟩
      unfold arcAt
      rw [if_pos h1, h2]
  · rintro ⟨⟨i, hi, h⟩, hr⟩
    obtain ⟨h1, h2⟩ := mem_adj.1 hi
    refine ⟨i, h1, ?_, by simpa using hr⟩
    unfold arcAt at h
    by_cases e : (ge es i).t = u
    · rw [if_pos e] at h; exact .inr ⟨e, h.symm⟩
    · rw [if_neg e] at h; exact .inl ⟨h2.resolve_right e, h.symm⟩
end Sw
end
