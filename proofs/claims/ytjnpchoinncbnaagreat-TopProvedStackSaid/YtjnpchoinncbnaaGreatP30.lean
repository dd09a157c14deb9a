/- Proves parts of the statement, each under the conditions that its theorem states: Corrections in plain words: those that are found close everything; no others cost less; The examples' task in plain words; The reference: has, all; The reference's joined: the pair. -/
import Derived.Test.YtjnpchoinncbnaaGreatP29
set_option linter.unusedSimpArgs false
set_option linter.unusedVariables false
set_option maxHeartbeats 4000000
set_option maxRecDepth 100000
section
namespace Go.Proofs.YtjnpchoinncbnaaGreat
open Go.RowKit Sw Fam
def corr (ph ks : List Int) : List Int := (List.range ph.length).map fun i => gi ph i - 4096 * gi ks i
theorem corr_len (ph ks : List Int) : (corr ph ks).length = ph.length := by simp [corr]
theorem corr_get {ph ks : List Int} {i : Nat} (h : i < ph.length) : gi (corr ph ks) i = gi ph i - 4096 * gi ks i := by
  unfold corr
  show (List.getD _ _ _) = _
  simp [List.getD_eq_getElem?_getD, h]
def costK (t : Sk) (ks : List Int) : Int := sm t.pr.length fun i => gi t.ws i * ab (gi ks i)
section
variable {t : Sk} {ph ph' ys : List Int} {T : List Nat} {u : List Int} {p p' : Nat → Int}
theorem Sms.two (ho : NetOk t) (h : Sms t ph p) (h' : Sms t ph' p') : ∃ ys T u, Smt t ph ys T u p ∧ Smt t ph' ys T u p' := by
  obtain ⟨ys, T, u, h⟩ := h
  obtain ⟨ys', T', u', h'⟩ := h'
  have e : ys = ys' := std_uniq (by rw [h.perm.length_eq, rng_len]) (h'.perm.trans h.perm.symm) h.std h'.std
  subst e
  have e2 := h.kr.uniq h'.kr
  subst e2
  have e3 := h.lab.uniq_mem h'.lab (fun _ => Iff.rfl)
  subst e3
  exact ⟨ys, T, u, h, h'⟩
theorem perm_mem (h : ys.Perm (rng t.pr.length)) {i : Nat} (hi : i < t.pr.length) : i ∈ ys.map Int.toNat :=
  List.mem_map.2 ⟨i, h.mem_iff.2 (mem_rng.2 ⟨by omega, by omega⟩), by simp⟩
theorem Smt.all (ho : NetOk t) (h : Smt t ph ys T u p) (d : Nat → Int) (hd : ∀ i, i ∈ T → d (gq (prs t) i).f = d (gq (prs t) i).s) {i : Nat} (hi : i < t.pr.length) : d (gq (prs t) i).f = d (gq (prs t) i).s :=
  h.kr.all (fun i hi => (perm_bd ho h.perm i hi).2) d hd i (perm_mem h.perm hi)
theorem Smt.tlt (ho : NetOk t) (h : Smt t ph ys T u p) {i : Nat} (hi : i ∈ T) : i < t.pr.length := (perm_bd ho h.perm i (h.kr.sub i hi)).1
theorem ms_congr (ho : NetOk t) (h : ∀ v, v < t.sc.length → p v = p' v) {i : Nat} (hi : i < t.pr.length) : ms t ph p i = ms t ph p' i := by
  obtain ⟨h1, h2, _⟩ := prs_lt ho hi
  unfold ms
  rw [h _ h1, h _ h2]
theorem jS_congr (ho : NetOk t) (h : ∀ v, v < t.sc.length → p v = p' v) {i : Nat} (hi : i < t.pr.length) : jS t p i = jS t p' i := by
  unfold jS; rw [ms_congr ho h hi]
theorem edS_congr (ho : NetOk t) (h : ∀ v, v < t.sc.length → p v = p' v) : edS t p = edS t p' := by
  unfold edS
  refine List.map_congr_left fun i hi => ?_
  have hi := List.mem_range.1 hi
  unfold eS
  rw [jS_congr ho h hi]
theorem CodeS.congr (ho : NetOk t) (h : ∀ v, v < t.sc.length → p v = p' v) {x : Int} (hc : CodeS t p x) : CodeS t p' x := by
  have hm : ∀ i, i < t.pr.length → ms t t.ph p i = ms t t.ph p' i := fun i hi => ms_congr ho h hi
  have hj : ∀ i, i < t.pr.length → jS t p i = jS t p' i := fun i hi => jS_congr ho h hi
  rcases hc with ⟨rfl, i, hi, hn⟩ | ⟨rfl, ha, i, hi, hn⟩ | ⟨rfl, ha, hb⟩
  · exact .inl ⟨rfl, i, hi, by rw [← hm i hi]; exact hn⟩
  · exact .inr (.inl ⟨rfl, fun i hi => by rw [← hm i hi]; exact ha i hi, i, hi, by rw [← hj i hi]; exact hn⟩)
  · exact .inr (.inr ⟨rfl, fun i hi => by rw [← hm i hi]; exact ha i hi, fun i hi => by rw [← hj i hi]; exact hb i hi⟩)
theorem CodeS.uniq {x y : Int} (h : CodeS t p x) (h' : CodeS t p y) : x = y := by
  rcases h with ⟨rfl, i, hi, hn⟩ | ⟨rfl, ha, i, hi, hn⟩ | ⟨rfl, ha, hb⟩ <;> rcases h' with ⟨rfl, i', hi', hn'⟩ | ⟨rfl, ha', i', hi', hn'⟩ | ⟨rfl, ha', hb'⟩ <;> try rfl
  · exact absurd (ha' i hi) hn
  · exact absurd (ha' i hi) hn
  · exact absurd (ha i' hi') hn'
  · exact absurd (hb' i hi) hn
  · exact absurd (ha i' hi') hn'
  · exact absurd (hb i' hi') hn'
theorem jS_mul {i : Nat} (h : (4096 : Int) ∣ ms t t.ph p i) : 4096 * jS t p i = ms t t.ph p i := Int.mul_tdiv_cancel' h
theorem kL_at {q : List Int} {i : Nat} (hi : i < t.pr.length) : gi (kL (edS t p) q) i = gi q (gq (prs t) i).s - gi q (gq (prs t) i).f + jS t p i := by
  rw [kL_get (by rw [edS_len]; exact hi), edS_ge hi]
  rfl
theorem kL_closes (ho : RtS t) (h : Sms t t.ph p) (hd : ∀ i, i < t.pr.length → (4096 : Int) ∣ ms t t.ph p i) {q : List Int} (h' : Sms t (corr t.ph (kL (edS t p) q)) p') {i : Nat} (hi : i < t.pr.length) : ms t (corr t.ph (kL (edS t p) q)) p' i = 0 := by
  obtain ⟨ys, T, u, h1, h2⟩ := Sms.two ho.net h h'
  have hk : ∀ i, i < t.pr.length → gi (corr t.ph (kL (edS t p) q)) i = (p (gq (prs t) i).s - 4096 * gi q (gq (prs t) i).s) - (p (gq (prs t) i).f - 4096 * gi q (gq (prs t) i).f) := fun i hi => by
    rw [corr_get (by rw [ho.lph]; exact hi), kL_at hi]
    have := jS_mul (hd i hi)
    unfold ms at this
    omega
  have ha := h2.all ho.net (fun v => p' v - (p v - 4096 * gi q v)) (fun i hi => by
    have h3 := h2.pot.edge i hi
    rw [hk i (h2.tlt ho.net hi)] at h3
    show p' _ - _ = p' _ - _
    omega) hi
  have h3 := hk i hi
  unfold ms
  omega
theorem least (ho : RtS t) (h : Sms t t.ph p) (hd : ∀ i, i < t.pr.length → (4096 : Int) ∣ ms t t.ph p i) (hs : ∀ i, i < t.pr.length → SmallJ (jS t p i)) {ks xs : List Int} (h' : Sms t (corr t.ph ks) p') (hz : ∀ i, i < t.pr.length → ms t (corr t.ph ks) p' i = 0) (hr : Right t.sc.length (edS t p) xs) : value (edS t p) xs ≤ costK t ks := by
  obtain ⟨ys, T, u, h1, h2⟩ := Sms.two ho.net h h'
  have he : ∀ i, i < t.pr.length → 4096 * (gi ks i - jS t p i) = (p (gq (prs t) i).s - p' (gq (prs t) i).s) - (p (gq (prs t) i).f - p' (gq (prs t) i).f) := fun i hi => by
    have a1 := jS_mul (hd i hi)
    have a2 := hz i hi
    unfold ms at a1 a2
    rw [corr_get (by rw [ho.lph]; exact hi)] at a2
    omega
  have hmod : ∀ v, v < t.sc.length → (p v - p' v) % 4096 = 0 := fun v hv => by
    have hc := h1.lab.cl (fun v => (p v - p' v) % 4096) (fun i hi => by
      have := he i (perm_bd ho.net h1.perm i hi).1
      show (p _ - p' _) % 4096 = (p _ - p' _) % 4096
      omega) v hv
    have hrt : rt u v < t.sc.length := Nat.lt_of_le_of_lt (h1.lab.rt_le hv) hv
    have hg : gi u (rt u v) = ((rt u v : Nat) : Int) := by rw [h1.lab.idem v hv, h1.lab.rt_eq hv]
    have r1 := h1.pot.root _ hrt hg
    have r2 := h2.pot.root _ hrt hg
    rw [hc, r1, r2]
    rfl
  have hq : ∀ v, v < t.sc.length → gi ((List.range t.sc.length).map fun v => (p v - p' v) / 4096) v = (p v - p' v) / 4096 := fun v hv => by
    show (List.getD _ _ _) = _
    simp [List.getD_eq_getElem?_getD, hv]
  have hw := weak t.sc.length (edS t p) xs ((List.range t.sc.length).map fun v => (p v - p' v) / 4096) (edS_gd ho hs).ends hr
  refine Int.le_trans hw (Int.le_of_eq ?_)
  unfold cost costK
  rw [edS_len]
  refine sm_congr fun i hi => ?_
  rw [edS_ge hi]
  obtain ⟨b1, b2, _⟩ := prs_lt ho.net hi
  have hws := ho.ws i (by rw [ho.lws]; exact hi)
  have hx : exc (eS t p i) ((List.range t.sc.length).map fun v => (p v - p' v) / 4096) = gi ks i := by
    show gi _ (gq (prs t) i).s - gi _ (gq (prs t) i).f + jS t p i = _
    rw [hq _ b1, hq _ b2]
    have := he i hi
    have := hmod _ b1
    have := hmod _ b2
    omega
  have hk : ((eS t p i).k : Int) = gi t.ws i := by show ((gi t.ws i).toNat : Int) = _; omega
  rw [hx, hk]
theorem cost_kL (ho : RtS t) (q : List Int) : cost (edS t p) q = costK t (kL (edS t p) q) := by
  unfold cost costK
  rw [edS_len]
  refine sm_congr fun i hi => ?_
  rw [kL_get (by rw [edS_len]; exact hi), edS_ge hi]
  have hws := ho.ws i (by rw [ho.lws]; exact hi)
  have hk : ((eS t p i).k : Int) = gi t.ws i := by show ((gi t.ws i).toNat : Int) = _; omega
  rw [hk]
theorem kL_bd (ho : RtS t) (hs : ∀ i, i < t.pr.length → SmallJ (jS t p i)) {q xs : List Int} {c : Int} (h : Solved t.sc.length 1000 (edS t p) q xs c) {i : Nat} (hi : i < t.pr.length) : -1000000 ≤ gi (kL (edS t p) q) i ∧ gi (kL (edS t p) q) i ≤ 1000000 := by
  rw [kL_at hi]
  obtain ⟨b1, b2, _⟩ := prs_lt ho.net hi
  have h1 := h.bound _ b1
  have h2 := h.bound _ b2
  have h3 := hs i hi
  unfold SmallJ at h3
  have h60 := ho.net.n_le
  omega
end
def sc4 : List Sc := [⟨⟨#[97]⟩, 0, 0⟩, ⟨⟨#[98]⟩, 12, 100⟩, ⟨⟨#[99]⟩, 24, -50⟩, ⟨⟨#[100]⟩, 36, 50⟩]
def pr4 : List Rp := [⟨0, 1⟩, ⟨1, 2⟩, ⟨0, 2⟩, ⟨2, 3⟩]
def tk4 (x : Int) (ws : List Int) : Sk := ⟨sc4, pr4, [1000, 500, x, -300], ws⟩
theorem name1 (c : UInt8) (h : 97 ≤ c.toNat ∧ c.toNat ≤ 122) : NameOk ⟨#[c]⟩ := by
  refine ⟨Nat.le_refl 1, by show 1 ≤ 12; decide, fun i hi => .inl (.inl ?_)⟩
  have : i < 1 := hi
  obtain rfl : i = 0 := by omega
  exact h
theorem net4 (x : Int) (ws : List Int) : NetOk (tk4 x ws) := by
  have h1 : ∀ i, i < 4 → ∀ k, k < i → (gsc sc4 k).nm ≠ (gsc sc4 i).nm := by decide
  have h2 : ∀ i, i < 4 → 0 ≤ (gsc sc4 i).day ∧ (gsc sc4 i).day ≤ 100000 := by decide
  have h3 : ∀ i, i < 4 → -100000 ≤ (gsc sc4 i).bl ∧ (gsc sc4 i).bl ≤ 100000 := by decide
  have h4 : ∀ i, i < 4 → 0 ≤ (grp pr4 i).a ∧ (grp pr4 i).a < (grp pr4 i).b ∧ (grp pr4 i).b < 4 := by decide
  have h5 : ∀ i, i < 4 → ∀ k, k < i → ¬ ((grp pr4 k).a = (grp pr4 i).a ∧ (grp pr4 k).b = (grp pr4 i).b) := by decide
  refine ⟨by show 4 ≤ 60; decide, by show 4 ≤ 200; decide, fun i hi => ?_, fun i k hi hk => h1 i hi k hk, fun i hi => h2 i hi, fun i hi => h3 i hi, fun i hi => h4 i hi, fun i k hi hk h => h5 i hi k hk ?_⟩
  · have : i < 4 := hi
    match i, this with
    | 0, _ => exact name1 97 (by decide)
    | 1, _ => exact name1 98 (by decide)
    | 2, _ => exact name1 99 (by decide)
    | 3, _ => exact name1 100 (by decide)
  · have h' : grp pr4 k = grp pr4 i := h
    rw [h']; exact ⟨rfl, rfl⟩
theorem rt4 {x : Int} {a b c d : Int} (hx : -100000000 ≤ x ∧ x ≤ 100000000) (ha : 0 ≤ a ∧ a ≤ 1000) (hb : 0 ≤ b ∧ b ≤ 1000) (hc : 0 ≤ c ∧ c ≤ 1000) (hd : 0 ≤ d ∧ d ≤ 1000) : RtS (tk4 x [a, b, c, d]) := by
  refine ⟨net4 _ _, rfl, rfl, fun i hi => ?_, fun i hi => ?_⟩
  · have : i < 4 := hi
    match i, this with
    | 0, _ => exact ⟨by show (_ : Int) ≤ 1000; omega, by show (1000 : Int) ≤ _; omega⟩
    | 1, _ => exact ⟨by show (_ : Int) ≤ 500; omega, by show (500 : Int) ≤ _; omega⟩
    | 2, _ => exact hx
    | 3, _ => exact ⟨by show (_ : Int) ≤ -300; omega, by show (-300 : Int) ≤ _; omega⟩
  · have : i < 4 := hi
    match i, this with
    | 0, _ => exact ha
    | 1, _ => exact hb
    | 2, _ => exact hc
    | 3, _ => exact hd
def ps4 : List Pr := [⟨0, 1⟩, ⟨1, 2⟩, ⟨0, 2⟩, ⟨2, 3⟩]
theorem prs4 (x : Int) (ws : List Int) : prs (tk4 x ws) = ps4 := rfl
def t04 : Sk := ⟨sc4, pr4, [], []⟩
def p4 (x : Int) (v : Nat) : Int := gi [0, 1000, x, x - 300] v
theorem kr4 : Kr 4 ps4 [2, 0, 3, 1] [2, 0, 3] ∧ Lab 4 ps4 [2, 0, 3, 1] [0, 0, 0, 0] := by
  have L0 : Lab 4 ps4 [] [0, 1, 2, 3] := Lab.start 4 ps4
  have L1 : Lab 4 ps4 [2] [0, 1, 0, 3] := L0.join (i := 2) (by decide) (by decide)
  have L2 : Lab 4 ps4 [2, 0] [0, 0, 0, 3] := L1.join (i := 0) (by decide) (by decide)
  have L3 : Lab 4 ps4 [2, 0, 3] [0, 0, 0, 0] := L2.join (i := 3) (by decide) (by decide)
  have L4 : Lab 4 ps4 [2, 0, 3, 1] [0, 0, 0, 0] := L3.skip (i := 1) (by decide) (by decide) (by decide)
  have K1 : Kr 4 ps4 [2] [2] := Kr.take (i := 2) Kr.nil L0 (by decide)
  have K2 : Kr 4 ps4 [2, 0] [2, 0] := Kr.take (i := 0) K1 L1 (by decide)
  have K3 : Kr 4 ps4 [2, 0, 3] [2, 0, 3] := Kr.take (i := 3) K2 L2 (by decide)
  exact ⟨Kr.skip (i := 1) K3 L3 (by decide), L4⟩
theorem sms4 (x : Int) (ws : List Int) : Sms (tk4 x ws) (tk4 x ws).ph (p4 x) := by
  refine ⟨[2, 0, 3, 1], [2, 0, 3], [0, 0, 0, 0], ?_, ?_, kr4.1, kr4.2, ?_⟩
  · show [2, 0, 3, 1].Perm (rng 4)
    decide
  · have h : ∀ j, j < 4 → ∀ i, i < j → lenP t04 (gi [2, 0, 3, 1] i) < lenP t04 (gi [2, 0, 3, 1] j) ∨ (lenP t04 (gi [2, 0, 3, 1] i) = lenP t04 (gi [2, 0, 3, 1] j) ∧ gi [2, 0, 3, 1] i < gi [2, 0, 3, 1] j) := by decide
    exact fun i j _ hij hj => h j hj i hij
  · refine ⟨fun v hv hr => ?_, fun i hi => ?_⟩
    · have : v < 4 := hv
      match v, this with
      | 0, _ => rfl
      | 1, _ => exact absurd hr (by decide)
      | 2, _ => exact absurd hr (by decide)
      | 3, _ => exact absurd hr (by decide)
    · rw [prs4]
      simp only [List.mem_cons, List.not_mem_nil, or_false] at hi
      rcases hi with rfl | rfl | rfl
      · show x - 0 = x; omega
      · rfl
      · show x - 300 - x = -300; omega
theorem ms4 (x : Int) (ws : List Int) {i : Nat} (hi : i < 4) : ms (tk4 x ws) (tk4 x ws).ph (p4 x) i = if i = 1 then 1500 - x else 0 := by
  match i, hi with
  | 0, _ => rfl
  | 1, _ => show (500 : Int) - x + 1000 = 1500 - x; omega
  | 2, _ => show x - x + 0 = 0; omega
  | 3, _ => show (-300 : Int) - (x - 300) + x = 0; omega
theorem code4 (ws : List Int) {p : Nat → Int} {y : Int} (h : Sms (tk4 5596 ws) (tk4 5596 ws).ph p) (hc : CodeS (tk4 5596 ws) p y) : y = 0 := by
  have h2 : CodeS (tk4 5596 ws) (p4 5596) y := hc.congr (net4 _ _) (h.uniq (net4 _ _) (sms4 _ _))
  refine h2.uniq (.inr (.inr ⟨rfl, fun i hi => ?_, fun i hi => ?_⟩))
  · rw [ms4 _ _ hi]; split <;> decide
  · unfold jS SmallJ; rw [ms4 _ _ hi]; split <;> decide
def es4 : List Ed := [⟨0, 1, 0, 3⟩, ⟨1, 2, -1, 2⟩, ⟨0, 2, 0, 1⟩, ⟨2, 3, 0, 5⟩]
theorem edS4 {p : Nat → Int} (h : Sms (tk4 5596 [3, 2, 1, 5]) (tk4 5596 [3, 2, 1, 5]).ph p) : edS (tk4 5596 [3, 2, 1, 5]) p = es4 := by
  rw [edS_congr (net4 _ _) (h.uniq (net4 _ _) (sms4 _ _))]
  rfl
theorem cor4 {p : Nat → Int} {q xs : List Int} {c : Int} (h : Sms (tk4 5596 [3, 2, 1, 5]) (tk4 5596 [3, 2, 1, 5]).ph p) (hs : Solved 4 1000 (edS (tk4 5596 [3, 2, 1, 5]) p) q xs c) : c = 1 ∧ kL (edS (tk4 5596 [3, 2, 1, 5]) p) q = [0, 0, 1, 0] := by
  rw [edS4 h] at hs ⊢
  have hw := weak 4 es4 xs [0, 0, 1, 1] (by decide) hs.right
  rw [hs.value] at hw
  have hc := hs.cost
  have e1 : cost es4 [0, 0, 1, 1] = 1 := by decide
  rw [e1] at hw
  have e2 : cost es4 q = 0 + 3 * ab (gi q 1 - gi q 0 + 0) + 2 * ab (gi q 2 - gi q 1 + -1) + 1 * ab (gi q 2 - gi q 0 + 0) + 5 * ab (gi q 3 - gi q 2 + 0) := rfl
  have e3 : kL es4 q = [gi q 1 - gi q 0 + 0, gi q 2 - gi q 1 + -1, gi q 2 - gi q 0 + 0, gi q 3 - gi q 2 + 0] := rfl
  rw [e2] at hc
  rw [e3]
  generalize gi q 0 = a at *
  generalize gi q 1 = b at *
  generalize gi q 2 = d at *
  generalize gi q 3 = e at *
  unfold ab at hc
  have k0 : b - a + 0 = 0 := by omega
  have k1 : d - b + -1 = 0 := by omega
  have k2 : d - a + 0 = 1 := by omega
  have k3 : e - d + 0 = 0 := by omega
  refine ⟨by omega, by rw [k0, k1, k2, k3]⟩
theorem miss4 (ws : List Int) {p : Nat → Int} (h : Sms (tk4 1500 ws) (tk4 1500 ws).ph p) {i : Nat} (hi : i < 4) : ms (tk4 1500 ws) (tk4 1500 ws).ph p i = 0 := by
  rw [ms_congr (net4 _ _) (h.uniq (net4 _ _) (sms4 _ _)) hi, ms4 _ _ hi]
  split <;> rfl
theorem pot4 (ws : List Int) {p : Nat → Int} (h : Sms (tk4 1500 ws) (tk4 1500 ws).ph p) : p 0 = 0 ∧ p 1 = 1000 ∧ p 2 = 1500 ∧ p 3 = 1200 := by
  have e := h.uniq (net4 _ _) (sms4 _ _)
  exact ⟨e 0 (show 0 < 4 by decide), e 1 (show 1 < 4 by decide), e 2 (show 2 < 4 by decide), e 3 (show 3 < 4 by decide)⟩
theorem has_c {xs : List Int} {A : Option Addr} {c : Nat} {n : Int} {w : World} (hr : RdI w A xs) (hl : xs.length ≤ 100000) : Calls Tryz.prog 59 #[.slice A xs.length c, .int .i64 n] w fun e w' => e = .returned (.bool (decide (n ∈ xs))) ∧ w = w' := by
  have HR := Lib.hid hr; clear hr
  obtain ⟨r, hr⟩ : ∃ r, decide (n ∈ xs) = r := ⟨_, rfl⟩
  rw [hr]
  have HD := Lib.hid hr; clear hr
  go_enter Tryz.func59, Tryz.ntmps59
  go_wp2_with fail
  go_loopw [5] (fun v5 wr => ∃ k : Nat, v5 = .int .i64 k ∧ k ≤ xs.length ∧ wr = w ∧ ∀ j, j < k → gi xs j ≠ n) (fun v5 _ => xs.length - (intOf v5).toNat)
  case atStart => exact ⟨0, rfl, Nat.zero_le _, rfl, fun j hj => absurd hj (Nat.not_lt_zero _)⟩
  case round =>
    obtain ⟨k, rfl, hk, rfl, hno⟩ := hrel
    have HN := Lib.hid hno; clear hno
    by_cases hlt : k < xs.length
    · obtain ⟨b, o, rfl, hc⟩ := HR.out k hlt
      obtain ⟨x, hx⟩ : ∃ x, gi xs k = x := ⟨_, rfl⟩
      rw [hx] at hc
      have hxl : (k : Int) < xs.length := by omega
      by_cases he : x = n
      · have hd : (x == n) = true := by simpa using he
        have HX := Lib.hid (And.intro hx he); clear hx he
        go_wp2_with fail
        go_ret
        refine ⟨?_, rfl⟩
        have : n ∈ xs := by rw [← HX.out.2, ← HX.out.1]; exact gi_mem hlt
        rw [← HD.out]
        show Ending.returned (.bool true) = Ending.returned (.bool (decide (n ∈ xs)))
        simp [this]
      · have hd : (x == n) = false := by simpa using he
        have HX := Lib.hid (And.intro hx he); clear hx he
        go_wp2_with fail
        go_roundw
        case rel =>
          refine ⟨k + 1, by go_num, by omega, by trivial, fun j hj => ?_⟩
          by_cases e : j = k
          · subst e; rw [HX.out.1]; exact HX.out.2
          · exact HN.out j (by omega)
        case measure => simp [intOf]; omega
    · go_wp2_with fail
      go_ret
      refine ⟨?_, rfl⟩
      have : n ∉ xs := fun h => by
        obtain ⟨j, hj, e⟩ := mem_gi h
        exact HN.out j (by omega) e
      rw [← HD.out]
      show Ending.returned (.bool false) = Ending.returned (.bool (decide (n ∈ xs)))
      simp [this]
theorem all_c {S P : Option Addr} {n m cs cp : Nat} {w : World} (hm : m ≤ 200) : Calls Tryz.prog 60 #[.agg #[.slice S n cs, .slice P m cp], .int .i64 (-1)] w fun e w' => ∃ A c, e = .returned (.slice A m c) ∧ Below w.heap.size w w' ∧ GrI w' w.heap.size A c (rng m) := by
  go_enter Tryz.func60, Tryz.ntmps60
  go_wp2_with fail
  refine nameC ?_
  intro W1 hW1
  obtain ⟨hB1, e1⟩ := alloc1 w _ hW1
  clear hW1
  have g1 : W1.cell? ⟨w.heap.size, 1, none⟩ = some (.slice P m cp) := block_cell e1 (j := 1) (by simp)
  have H1 := Lib.hid (And.intro hB1 g1); clear hB1 e1 g1
  go_loopw [5, 6] (fun v5 v6 wr => ∃ (k : Nat) (A : Option Addr) (c : Nat), v6 = .int .i64 k ∧ v5 = .slice A k c ∧ k ≤ m ∧ Below W1.heap.size W1 wr ∧ GrI wr W1.heap.size A c (rng k)) (fun _ v6 _ => m - (intOf v6).toNat)
  case atStart => exact ⟨0, none, 0, rfl, rfl, Nat.zero_le _, Below.refl _ _, GrF.start W1 _⟩
  case round =>
    obtain ⟨k, A, c, rfl, rfl, hk, hB, hG⟩ := hrel
    have hsz := hB.size
    have g1 := cellB hB H1.out.2
    have H := Lib.hid (And.intro hB hG); clear hB hG
    by_cases hlt : k < m
    · have HL := Lib.hid (rng_len k)
      have hne : ((k : Int) != -1) = true := by simp
      go_wp2_with (at_builtin; refine wpList_append_t Tryz.underlying26 rfl _ _ rfl (GrF.keep H.out.2 ((Below.refl _ _).alloc (Nat.le_refl _) (.cells #[.int .i64 (k : Int)] 3))) (k : Int) _ _ (by rw [HL.out]; rfl) rfl (block_cell (World.alloc_heap_new wr _) (j := 0) (by simp)) (by rw [HL.out]; omega) (by simp; omega) ?_)
      intro A' c' w' g1 g2
      have hb0 : Below W1.heap.size W1 (wr.alloc (.cells #[.int .i64 (k : Int)] 3)) := H.out.1.trans ((Below.refl _ _).alloc hsz _)
      have g3 := grown_below hb0 (Nat.le_refl _) (GrF.keep H.out.2 ((Below.refl _ _).alloc (Nat.le_refl _) (.cells #[.int .i64 (k : Int)] 3))) g2
      rw [HL.out]
      have J := Lib.hid (And.intro g1 g3); clear g1 g2 g3 hb0
      go_wp2_with fail
      go_roundw
      case rel => exact ⟨k + 1, A', c', by go_num, rfl, by omega, J.out.2, by rw [rng_succ]; exact J.out.1⟩
      case measure => simp [intOf]; omega
    · obtain rfl : k = m := by omega
      go_wp2_with fail
      go_ret
      exact ⟨A, c, rfl, H1.out.1.trans (H.out.1.mono H1.out.1.size), H.out.2.low H1.out.1.size⟩
def TJ (B n : Nat) (ty : TypeId) (z : Array Value) (V : Nat → Value) (j : Nat) (w : World) : Prop := j = n → ∃ b, V n = .pointer (some ⟨b, 0, none⟩) ∧ B ≤ b ∧ w.heap[b]? = some (.cells z ty (0, 0))
theorem TJ_ok (B n : Nat) (ty : TypeId) (z : Array Value) {ops : Array Oper} : GrT ops (TJ B n ty z) := by
  constructor
  · intro V j w w' h hb e
    obtain ⟨b, h1, h2, h3⟩ := h e
    exact ⟨b, h1, h2, (hb.block b (Array.getElem?_eq_some_iff.1 h3).1).trans h3⟩
  · intro L V w i u j hi hc hj h e
    have hne : n ≠ i := fun e2 => by rw [← e2, ← e, hj] at hi; cases hi
    rw [setV_ne _ _ hne]
    exact h e
theorem rangeAt2 {w : World} {b o : Nat} {x y : Value} (h0 : w.cell? ⟨b, o, none⟩ = some x) (h1 : w.cell? ⟨b, o + 1, none⟩ = some y) : w.rangeAt b o [x, y] := fun j v hj => by
  match j, hj with
  | 0, hj => rw [Nat.add_zero, h0]; simpa using hj
  | 1, hj => rw [h1]; simpa using hj
  | j + 2, hj => simp at hj
theorem jn_pair {G pb po m cp k i f s n2 c ab ao : Nat} {v5 : Value} {W : World} {Q : Exit → Act → World → Prop} {u0 u3 u4 u6 u8 u9 u10 u11 u12 u13 u14 u15 u16 u17 u18 u19 u20 u21 u22 u23 u24 u25 u26 u27 u28 u29 u30 u31 u32 u33 u34 u35 u36 u37 u38 u39 u40 u41 u42 u43 u44 u45 u46 u47 u48 u49 u50 u51 u52 u53 u54 u55 u56 u57 u58 u59 u60 u61 u62 u63 u64 u65 u66 u67 : Value}
    (g1 : W.cell? ⟨G, 1, none⟩ = some (.slice (some ⟨pb, po, none⟩) m cp)) (x0 : W.cell? ⟨ab, ao + k, none⟩ = some (.int .i64 i)) (hk : k < n2) (hn : n2 ≤ 200) (hi : i < m) (hm : m ≤ 200)
    (p0 : W.cell? ⟨pb, po + i * 2, none⟩ = some (.int .i64 f)) (p1 : W.cell? ⟨pb, po + i * 2 + 1, none⟩ = some (.int .i64 s))
    (hQ : ∀ a w' b, Below W.heap.size W w' → W.heap.size ≤ b → w'.heap[b]? = some (.cells #[.int .i64 f, .int .i64 s] 60 (0, 0)) → Fr 68 [(1, .slice (some ⟨ab, ao, none⟩) n2 c), (2, .pointer (some ⟨G, 0, none⟩)), (5, v5), (7, .int .i64 k), (8, .pointer (some ⟨b, 0, none⟩))] a → Q .normal a w') :
    Code.wp Tryz.prog (Tryz.f58.sub [1, 1, 1, 0, 1, 0, 0, 1, 0, 0, 0]) Q ⟨#[u0, .slice (some ⟨ab, ao, none⟩) n2 c, .pointer (some ⟨G, 0, none⟩), u3, u4, v5, u6, .int .i64 k, u8, u9, u10, u11, u12, u13, u14, u15, u16, u17, u18, u19, u20, u21, u22, u23, u24, u25, u26, u27, u28, u29, u30, u31, u32, u33, u34, u35, u36, u37, u38, u39, u40, u41, u42, u43, u44, u45, u46, u47, u48, u49, u50, u51, u52, u53, u54, u55, u56, u57, u58, u59, u60, u61, u62, u63, u64, u65, u66, u67], []⟩ W := by
  have HQ := Lib.hid hQ; clear hQ
  have hkl : (k : Int) < n2 := by omega
  have hil : (i : Int) < m := by omega
  conv => arg 2; whnf
  dsimp only
  refine region_rel (by kernel_rfl) (by kernel_rfl) (by kernel_rfl) (GrC W.heap.size W (fun L => L 9) (TJ W.heap.size 8 60 #[.int .i64 0, .int .i64 0]) (fun V w' => ∃ w0 b, V 8 = .pointer (some ⟨b, 0, none⟩) ∧ W.heap.size ≤ b ∧ Below W.heap.size W w0 ∧ w0.heap[b]? = some (.cells #[.int .i64 0, .int .i64 0] 60 (0, 0)) ∧ w' = w0.setCells b 0 [.int .i64 f, .int .i64 s])) (GrC.start rfl (Below.refl _ _).drew) ?_
  (refine gr_fix (ahead_last (by kernel_rfl)) rfl (.pointer (some ⟨G, 1, none⟩)) (fun _ _ e => absurd e (by decide)) (fun V w hB => by unfold execOp; go_simp) ?_; simp only [Fam.pt])
  (refine gr_fix (ahead_last (by kernel_rfl)) rfl _ (fun _ _ e => absurd e (by decide)) (fun V w hB => ex_load1 _ _ rfl _ rfl (cellB hB g1) _ Tryz.underlying23 rfl) ?_; simp only [Fam.pt])
  (refine gr_fix (ahead_last (by kernel_rfl)) rfl (.slice (some ⟨ab, ao, none⟩) n2 c) (fun _ _ e => absurd e (by decide)) (fun V w hB => by unfold execOp; go_simp) ?_; simp only [Fam.pt])
  (refine gr_fix (ahead_last (by kernel_rfl)) rfl (.int .i64 k) (fun _ _ e => absurd e (by decide)) (fun V w hB => by unfold execOp; go_simp) ?_; simp only [Fam.pt])
  (refine gr_fix (ahead_last (by kernel_rfl)) rfl (.pointer (some ⟨ab, ao + k, none⟩)) (fun _ _ e => absurd e (by decide)) (fun V w hB => by unfold execOp; go_simp) ?_; simp only [Fam.pt])
  (refine gr_fix (ahead_last (by kernel_rfl)) rfl _ (fun _ _ e => absurd e (by decide)) (fun V w hB => ex_load1 _ _ rfl _ rfl (cellB hB x0) _ Tryz.underlying3 rfl) ?_; simp only [Fam.pt])
  (refine gr_fix (ahead_last (by kernel_rfl)) rfl (.pointer (some ⟨pb, po + i * 2, none⟩)) (fun _ _ e => absurd e (by decide)) (fun V w hB => by unfold execOp; go_simp) ?_; simp only [Fam.pt])
  refine gr_fix (ahead_last (by kernel_rfl)) rfl (.agg #[.int .i64 f, .int .i64 s]) (fun _ _ e => absurd e (by decide)) (fun V w hB => ex_loadN 60 _ rfl pb (po + i * 2) rfl [.int .i64 f, .int .i64 s] _ (rangeAt2 (cellB hB p0) (cellB hB p1)) Tryz.underlying60 rfl (by kernel_rfl)) ?_
  simp only [Fam.pt]
  refine gr_free (TJ_ok _ _ _ _) (ahead_last (by kernel_rfl)) (Nat.le_refl _) rfl (fun V L w hB hT hw => ?_) ?_
  · rw [ex_alloc 60 rfl (z := .agg #[.int .i64 0, .int .i64 0]) (by kernel_rfl)]
    exact ⟨(Below.refl _ _).alloc (Nat.le_refl _) _, fun V' _ h _ => ⟨w.heap.size, h, hB.size, heap_alloc_new w _⟩⟩
  simp only [Fam.pt]
  refine gr_last rfl rfl (fun V w hB hT => ?_) (fun j hj => by revert j; decide +kernel) rfl ?_ (by decide)
  · obtain ⟨b, h1, h2, h3⟩ := hT 8 (by decide) rfl
    rw [ex_storeN 60 (.tmp 8) (.tmp 36) rfl b 0 #[.int .i64 f, .int .i64 s] h1 rfl (block_there h3 (Nat.le_refl 2)) (by kernel_rfl) (by simp [Value.oneCell'])]
    exact ⟨rfl, w, b, h1, h2, hB, h3, rfl⟩
  · rintro V w' ⟨w0, b, h1, h2, h3, h4, rfl⟩
    have s1 := heap_setCell_same w0 b 0 _ _ (.int .i64 f) h4
    have s2 := heap_setCell_same _ b 1 _ _ (.int .i64 s) s1
    exact HQ.out _ _ b (below_setCells h2 _ _ _ h3) h2 s2 ⟨rfl, rfl, rfl, rfl, rfl, rfl, h1, trivial⟩
end Go.Proofs.YtjnpchoinncbnaaGreat
end
