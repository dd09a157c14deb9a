/- Proves parts of the statement, each under the conditions that its theorem states: The sums: what is made; The sums: the statement that makes them; The phases along the lightest forest, in plain words; The sums of the lightest forest. -/
import Derived.Test.YtjnpchoinncbnaaGreatP26
import Derived.Test.YtjnpchoinncbnaaGreatP07
import Derived.Test.YtjnpchoinncbnaaGreatP25
import Derived.Test.YtjnpchoinncbnaaGreatP12
set_option linter.unusedSimpArgs false
set_option linter.unusedVariables false
set_option maxHeartbeats 4000000
set_option maxRecDepth 100000
section
namespace Go.Proofs.YtjnpchoinncbnaaGreat
open Go.RowKit Sw Fam
structure SmC (W : World) (n : Nat) (L : Nat → Bool) (V : Nat → Value) (w : World) : Prop where
  bel : Below W.heap.size W w
  o : L 4 = true → ∃ b, V 4 = .slice (some ⟨b, 0, none⟩) n n ∧ W.heap.size ≤ b ∧ IntB w b (List.replicate n 0)
  k : L 9 = true → ∃ b, V 9 = .slice (some ⟨b, 0, none⟩) n n ∧ W.heap.size ≤ b ∧ BoolB w b (List.replicate n false)
  oc : L 10 = true → ∃ b, V 10 = .pointer (some ⟨b, 0, none⟩) ∧ W.heap.size ≤ b ∧ w.heap[b]? = some (.cells #[if L 12 = true then V 4 else .slice none 0 0] 26 (0, 0))
  kc : L 11 = true → ∃ b, V 11 = .pointer (some ⟨b, 0, none⟩) ∧ W.heap.size ≤ b ∧ w.heap[b]? = some (.cells #[if L 13 = true then V 9 else .slice none 0 0] 89 (0, 0))
section
variable {W w w' : World} {n : Nat} {L : Nat → Bool} {V : Nat → Value}
theorem SmC.up {i : Nat} (h4 : i ≠ 4) (h9 : i ≠ 9) (h10 : i ≠ 10) (h11 : i ≠ 11) (h12 : i ≠ 12) (h13 : i ≠ 13) (h : SmC W n L V w) : SmC W n (upd L i) V w := by
  obtain ⟨a, b, c, d, e⟩ := h
  constructor
  · exact a
  · rw [upd_ne _ h4.symm]; exact b
  · rw [upd_ne _ h9.symm]; exact c
  · rw [upd_ne _ h10.symm, upd_ne _ h12.symm]; exact d
  · rw [upd_ne _ h11.symm, upd_ne _ h13.symm]; exact e
theorem SmC.keep (h : SmC W n L V w) (hb : Below w.heap.size w w') : SmC W n L V w' :=
  ⟨h.bel.trans (hb.mono h.bel.size), fun hl => by obtain ⟨b, h1, h2, h3⟩ := h.o hl; exact ⟨b, h1, h2, h3.keep hb⟩, fun hl => by obtain ⟨b, h1, h2, h3⟩ := h.k hl; exact ⟨b, h1, h2, FlB.keep h3 hb⟩,
   fun hl => by obtain ⟨b, h1, h2, h3⟩ := h.oc hl; exact ⟨b, h1, h2, (hb.block _ (Array.getElem?_eq_some_iff.1 h3).1).trans h3⟩, fun hl => by obtain ⟨b, h1, h2, h3⟩ := h.kc hl; exact ⟨b, h1, h2, (hb.block _ (Array.getElem?_eq_some_iff.1 h3).1).trans h3⟩⟩
theorem SmC.mk4 (h : SmC W n L V w) (h12 : L 12 = false) {b : Nat} (hb : W.heap.size ≤ b) (hi : IntB w b (List.replicate n 0)) : SmC W n (upd L 4) (setV V 4 (.slice (some ⟨b, 0, none⟩) n n)) w := by
  obtain ⟨p, q, r, d, e⟩ := h
  refine ⟨p, fun _ => ⟨b, setV_same _ _ _, hb, hi⟩, ?_, ?_, ?_⟩
  · rw [upd_ne _ (by decide), setV_ne _ _ (by decide)]; exact r
  · rw [upd_ne _ (by decide), upd_ne _ (by decide), setV_ne _ _ (by decide), h12]; rw [h12] at d; exact d
  · rw [upd_ne _ (by decide), upd_ne _ (by decide), setV_ne _ _ (by decide), setV_ne _ _ (by decide)]; exact e
theorem SmC.mk9 (h : SmC W n L V w) (h13 : L 13 = false) {b : Nat} (hb : W.heap.size ≤ b) (hi : BoolB w b (List.replicate n false)) : SmC W n (upd L 9) (setV V 9 (.slice (some ⟨b, 0, none⟩) n n)) w := by
  obtain ⟨p, q, r, d, e⟩ := h
  refine ⟨p, ?_, fun _ => ⟨b, setV_same _ _ _, hb, hi⟩, ?_, ?_⟩
  · rw [upd_ne _ (by decide), setV_ne _ _ (by decide)]; exact q
  · rw [upd_ne _ (by decide), upd_ne _ (by decide), setV_ne _ _ (by decide), setV_ne _ _ (by decide)]; exact d
  · rw [upd_ne _ (by decide), upd_ne _ (by decide), setV_ne _ _ (by decide), h13]; rw [h13] at e; exact e
theorem SmC.mk10 (h : SmC W n L V w) (h12 : L 12 = false) {b : Nat} (hb : W.heap.size ≤ b) (hi : w.heap[b]? = some (.cells #[.slice none 0 0] 26 (0, 0))) : SmC W n (upd L 10) (setV V 10 (.pointer (some ⟨b, 0, none⟩))) w := by
  obtain ⟨p, q, r, d, e⟩ := h
  refine ⟨p, ?_, ?_, fun _ => ⟨b, setV_same _ _ _, hb, ?_⟩, ?_⟩
  · rw [upd_ne _ (by decide), setV_ne _ _ (by decide)]; exact q
  · rw [upd_ne _ (by decide), setV_ne _ _ (by decide)]; exact r
  · rw [upd_ne _ (by decide), h12]; exact hi
  · rw [upd_ne _ (by decide), upd_ne _ (by decide), setV_ne _ _ (by decide), setV_ne _ _ (by decide)]; exact e
theorem SmC.mk11 (h : SmC W n L V w) (h13 : L 13 = false) {b : Nat} (hb : W.heap.size ≤ b) (hi : w.heap[b]? = some (.cells #[.slice none 0 0] 89 (0, 0))) : SmC W n (upd L 11) (setV V 11 (.pointer (some ⟨b, 0, none⟩))) w := by
  obtain ⟨p, q, r, d, e⟩ := h
  refine ⟨p, ?_, ?_, ?_, fun _ => ⟨b, setV_same _ _ _, hb, ?_⟩⟩
  · rw [upd_ne _ (by decide), setV_ne _ _ (by decide)]; exact q
  · rw [upd_ne _ (by decide), setV_ne _ _ (by decide)]; exact r
  · rw [upd_ne _ (by decide), upd_ne _ (by decide), setV_ne _ _ (by decide), setV_ne _ _ (by decide)]; exact d
  · rw [upd_ne _ (by decide), h13]; exact hi
theorem ne_ty {w : World} {b c : Nat} {x y : Array Value} {s t : TypeId} {r r' : Nat × Nat} (h1 : w.heap[b]? = some (.cells x s r)) (h2 : w.heap[c]? = some (.cells y t r')) (hne : s ≠ t) : b ≠ c := fun e => by
  subst e
  rw [h1] at h2
  injection h2 with h2
  injection h2 with _ h2
  exact hne h2
theorem SmC.st12 (h : SmC W n L V w) (h12 : L 12 = false) (h10 : L 10 = true) (b : Nat) (hb : V 10 = .pointer (some ⟨b, 0, none⟩)) : SmC W n (upd L 12) V (w.setCell ⟨b, 0, none⟩ (V 4)) := by
  obtain ⟨b', e1, e2, e3⟩ := h.oc h10
  rw [hb] at e1
  injection e1 with e1; injection e1 with e1; injection e1 with e1
  subst e1
  refine ⟨h.bel.setCell e2 _, ?_, ?_, fun _ => ⟨b, hb, e2, ?_⟩, ?_⟩
  · rw [upd_ne _ (by decide)]
    intro hl
    obtain ⟨c, k1, k2, k3⟩ := h.o hl
    exact ⟨c, k1, k2, k3.other (ne_ty k3 e3 (by decide)) _⟩
  · rw [upd_ne _ (by decide)]
    intro hl
    obtain ⟨c, k1, k2, k3⟩ := h.k hl
    exact ⟨c, k1, k2, FlB.other k3 (ne_ty k3 e3 (by decide)) _⟩
  · rw [if_pos (upd_same L 12)]
    exact heap_setCell_same w b 0 _ _ _ e3
  · rw [upd_ne _ (by decide), upd_ne _ (by decide)]
    intro hl
    obtain ⟨c, k1, k2, k3⟩ := h.kc hl
    exact ⟨c, k1, k2, (Below.heap_setCell _ _ _ _ (ne_ty k3 e3 (by decide))).trans k3⟩
theorem SmC.st13 (h : SmC W n L V w) (h13 : L 13 = false) (h11 : L 11 = true) (b : Nat) (hb : V 11 = .pointer (some ⟨b, 0, none⟩)) : SmC W n (upd L 13) V (w.setCell ⟨b, 0, none⟩ (V 9)) := by
  obtain ⟨b', e1, e2, e3⟩ := h.kc h11
  rw [hb] at e1
  injection e1 with e1; injection e1 with e1; injection e1 with e1
  subst e1
  refine ⟨h.bel.setCell e2 _, ?_, ?_, ?_, fun _ => ⟨b, hb, e2, ?_⟩⟩
  · rw [upd_ne _ (by decide)]
    intro hl
    obtain ⟨c, k1, k2, k3⟩ := h.o hl
    exact ⟨c, k1, k2, k3.other (ne_ty k3 e3 (by decide)) _⟩
  · rw [upd_ne _ (by decide)]
    intro hl
    obtain ⟨c, k1, k2, k3⟩ := h.k hl
    exact ⟨c, k1, k2, FlB.other k3 (ne_ty k3 e3 (by decide)) _⟩
  · rw [upd_ne _ (by decide), upd_ne _ (by decide)]
    intro hl
    obtain ⟨c, k1, k2, k3⟩ := h.oc hl
    exact ⟨c, k1, k2, (Below.heap_setCell _ _ _ _ (ne_ty k3 e3 (by decide))).trans k3⟩
  · rw [if_pos (upd_same L 13)]
    exact heap_setCell_same w b 0 _ _ _ e3
end
theorem sums_make {n cs gb : Nat} {S : Option Addr} {v3 : Value} {W : World} {Q : Exit → Act → World → Prop} {u0 u1 u4 u5 u6 u7 u8 u9 u10 u11 u12 u13 u14 u15 u16 u17 u18 u19 u20 u21 u22 u23 u24 u25 u26 u27 u28 u29 u30 u31 u32 u33 u34 u35 u36 u37 : Value} (hn : n ≤ 60) (g0 : W.cell? ⟨gb, 0, none⟩ = some (.slice S n cs))
    (hQ : ∀ a w' ob kb oc kc, Fr 38 [(2, .pointer (some ⟨gb, 0, none⟩)), (3, v3), (5, .pointer (some ⟨oc, 0, none⟩)), (6, .pointer (some ⟨kc, 0, none⟩))] a → Below W.heap.size W w' → W.heap.size ≤ ob → W.heap.size ≤ kb → W.heap.size ≤ oc → W.heap.size ≤ kc →
      IntB w' ob (List.replicate n 0) → BoolB w' kb (List.replicate n false) → w'.heap[oc]? = some (.cells #[.slice (some ⟨ob, 0, none⟩) n n] 26 (0, 0)) → w'.heap[kc]? = some (.cells #[.slice (some ⟨kb, 0, none⟩) n n] 89 (0, 0)) → Q .normal a w') :
    Code.wp Tryz.prog (Tryz.f28.sub [1, 0]) Q ⟨#[u0, u1, .pointer (some ⟨gb, 0, none⟩), v3, u4, u5, u6, u7, u8, u9, u10, u11, u12, u13, u14, u15, u16, u17, u18, u19, u20, u21, u22, u23, u24, u25, u26, u27, u28, u29, u30, u31, u32, u33, u34, u35, u36, u37], []⟩ W := by
  have HQ := Lib.hid hQ; clear hQ
  conv => arg 2; whnf
  dsimp only
  refine region_rel (by kernel_rfl) (by kernel_rfl) (by kernel_rfl) (SmC W n) ⟨below_drewN (Below.refl _ _) 1, fun h => (by cases h), fun h => (by cases h), fun h => (by cases h), fun h => (by cases h)⟩ ?_
  (refine rel_val rfl (.pointer (some ⟨gb, 0, none⟩)) (fun _ _ _ h => SmC.up (by decide) (by decide) (by decide) (by decide) (by decide) (by decide) h) (fun V L w _ _ _ hC => by unfold execOp; go_simp) ?_; simp only [Fam.pt])
  (refine rel_val rfl (.pointer (some ⟨gb, 0, none⟩)) (fun _ _ _ h => SmC.up (by decide) (by decide) (by decide) (by decide) (by decide) (by decide) h) (fun V L w _ _ _ hC => by unfold execOp; go_simp) ?_; simp only [Fam.pt])
  (refine rel_val rfl _ (fun _ _ _ h => SmC.up (by decide) (by decide) (by decide) (by decide) (by decide) (by decide) h) (fun V L w _ _ _ hC => ex_load1 _ _ rfl _ rfl (cellB hC.bel g0) _ Tryz.underlying22 rfl) ?_; simp only [Fam.pt])
  (refine rel_val rfl (.int .i64 n) (fun _ _ _ h => SmC.up (by decide) (by decide) (by decide) (by decide) (by decide) (by decide) h) (fun V L w _ _ _ hC => by unfold execOp; go_simp) ?_; simp only [Fam.pt])
  refine rel_free rfl (fun V L w hL hw hc hC => ?_) ?_
  · rw [ex_make 26 (.tmp 13) (.tmp 13) rfl rfl rfl (run_make_ints n (by omega) w)]
    exact (hC.keep ((Below.refl _ _).alloc (Nat.le_refl _) _)).mk4 (hc.not (by kernel_rfl) hL) hC.bel.size (FlB.new w encI _ _)
  simp only [Fam.pt]
  (refine rel_val rfl (.pointer (some ⟨gb, 0, none⟩)) (fun _ _ _ h => SmC.up (by decide) (by decide) (by decide) (by decide) (by decide) (by decide) h) (fun V L w _ _ _ hC => by unfold execOp; go_simp) ?_; simp only [Fam.pt])
  (refine rel_val rfl (.pointer (some ⟨gb, 0, none⟩)) (fun _ _ _ h => SmC.up (by decide) (by decide) (by decide) (by decide) (by decide) (by decide) h) (fun V L w _ _ _ hC => by unfold execOp; go_simp) ?_; simp only [Fam.pt])
  (refine rel_val rfl _ (fun _ _ _ h => SmC.up (by decide) (by decide) (by decide) (by decide) (by decide) (by decide) h) (fun V L w _ _ _ hC => ex_load1 _ _ rfl _ rfl (cellB hC.bel g0) _ Tryz.underlying22 rfl) ?_; simp only [Fam.pt])
  (refine rel_val rfl (.int .i64 n) (fun _ _ _ h => SmC.up (by decide) (by decide) (by decide) (by decide) (by decide) (by decide) h) (fun V L w _ _ _ hC => by unfold execOp; go_simp) ?_; simp only [Fam.pt])
  refine rel_free rfl (fun V L w hL hw hc hC => ?_) ?_
  · rw [ex_make 89 (.tmp 18) (.tmp 18) rfl rfl rfl (run_make_bools n (by omega) w)]
    exact (hC.keep ((Below.refl _ _).alloc (Nat.le_refl _) _)).mk9 (hc.not (by kernel_rfl) hL) hC.bel.size (FlB.new w encB _ _)
  simp only [Fam.pt]
  refine rel_free rfl (fun V L w hL hw hc hC => ?_) ?_
  · rw [ex_alloc 26 rfl (z := .slice none 0 0) (by kernel_rfl)]
    exact (hC.keep ((Below.refl _ _).alloc (Nat.le_refl _) _)).mk10 (hc.not (by kernel_rfl) hL) hC.bel.size (heap_alloc_new w _)
  simp only [Fam.pt]
  refine rel_free rfl (fun V L w hL hw hc hC => ?_) ?_
  · rw [ex_alloc 89 rfl (z := .slice none 0 0) (by kernel_rfl)]
    exact (hC.keep ((Below.refl _ _).alloc (Nat.le_refl _) _)).mk11 (hc.not (by kernel_rfl) hL) hC.bel.size (heap_alloc_new w _)
  simp only [Fam.pt]
  refine rel_fix rfl undef (fun V L w hL hw hc hC => ?_) ?_
  · have w10 : L 10 = true := hw ⟨10, .data⟩ (by simp) rfl
    have w4 : L 4 = true := hw ⟨4, .data⟩ (by simp) rfl
    obtain ⟨b, e1, e2, e3⟩ := hC.oc w10
    obtain ⟨c, k1, k2, k3⟩ := hC.o w4
    have hcell := block_cell e3 (j := 0) (by simp)
    rw [ex_store1 26 (.tmp 5) (.tmp 14) rfl b 0 (.slice (some ⟨c, 0, none⟩) n n) e1 k1 hcell (by simp [World.frozen?, e3]) (by kernel_rfl) rfl rfl]
    rw [← k1]
    exact ⟨rfl, hC.st12 hL w10 b e1⟩
  simp only [Act.put]
  refine rel_fix rfl undef (fun V L w hL hw hc hC => ?_) ?_
  · have w11 : L 11 = true := hw ⟨11, .data⟩ (by simp) rfl
    have w9 : L 9 = true := hw ⟨9, .data⟩ (by simp) rfl
    obtain ⟨b, e1, e2, e3⟩ := hC.kc w11
    obtain ⟨c, k1, k2, k3⟩ := hC.k w9
    have hcell := block_cell e3 (j := 0) (by simp)
    rw [ex_store1 89 (.tmp 6) (.tmp 19) rfl b 0 (.slice (some ⟨c, 0, none⟩) n n) e1 k1 hcell (by simp [World.frozen?, e3]) (by kernel_rfl) rfl rfl]
    rw [← k1]
    exact ⟨rfl, hC.st13 hL w11 b e1⟩
  simp only [Act.put]
  intro V L w' hL hC
  obtain ⟨b1, e1, e2, e3⟩ := hC.o (hL 4 (by decide))
  obtain ⟨b2, k1, k2, k3⟩ := hC.k (hL 9 (by decide))
  obtain ⟨b3, m1, m2, m3⟩ := hC.oc (hL 10 (by decide))
  obtain ⟨b4, n1, n2, n3⟩ := hC.kc (hL 11 (by decide))
  rw [if_pos (hL 12 (by decide)), e1] at m3
  rw [if_pos (hL 13 (by decide)), k1] at n3
  refine HQ.out _ w' b1 b2 b3 b4 ⟨rfl, rfl, rfl, rfl, m1, n1, trivial⟩ hC.bel e2 k2 m2 n2 e3 k3 m3 n3
structure Smt (t : Sk) (ph : List Int) (ys : List Int) (T : List Nat) (u : List Int) (p : Nat → Int) : Prop where
  perm : ys.Perm (rng t.pr.length)
  std : Std (lenP t) ys 0 t.pr.length
  kr : Kr t.sc.length (prs t) (ys.map Int.toNat) T
  lab : Lab t.sc.length (prs t) (ys.map Int.toNat) u
  pot : Pot t.sc.length (prs t) u T ph p
def Sms (t : Sk) (ph : List Int) (p : Nat → Int) : Prop := ∃ ys T u, Smt t ph ys T u p
theorem perm_bd {t : Sk} (ho : NetOk t) {ys : List Int} (h : ys.Perm (rng t.pr.length)) : ∀ i, i ∈ ys.map Int.toNat → i < t.pr.length ∧ (gq (prs t) i).f < t.sc.length ∧ (gq (prs t) i).s < t.sc.length := by
  intro i hi
  obtain ⟨x, hx, rfl⟩ := List.mem_map.1 hi
  have := mem_rng.1 (h.subset hx)
  have hl : x.toNat < t.pr.length := by omega
  have := prs_lt ho hl
  exact ⟨hl, this.1, this.2.1⟩
theorem Sms.uniq {t : Sk} (ho : NetOk t) {ph : List Int} {p p' : Nat → Int} (h : Sms t ph p) (h' : Sms t ph p') : ∀ v, v < t.sc.length → p v = p' v := by
  obtain ⟨ys, T, u, h⟩ := h
  obtain ⟨ys', T', u', h'⟩ := h'
  have e : ys = ys' := std_uniq (by rw [h.perm.length_eq, rng_len]) (h'.perm.trans h.perm.symm) h.std h'.std
  subst e
  have e2 := h.kr.uniq h'.kr
  subst e2
  have e3 := h.lab.uniq_mem h'.lab (fun _ => Iff.rfl)
  subst e3
  exact h.pot.uniq (fun i hi => (perm_bd ho h.perm i hi).2) h.kr h.lab h'.pot
theorem lab_ex {n : Nat} {ps : List Pr} : ∀ (L : List Nat), (∀ i, i ∈ L → (gq ps i).f < n ∧ (gq ps i).s < n) → ∃ u, Lab n ps L u := by
  intro L
  generalize hr : L.reverse = R
  induction R generalizing L with
  | nil =>
    have : L = [] := by simpa using hr
    subst this
    exact fun _ => ⟨_, Lab.start n ps⟩
  | cons x R ih =>
    have : L = R.reverse ++ [x] := by rw [← List.reverse_reverse L, hr]; simp
    subst this
    intro hb
    obtain ⟨u, hu⟩ := ih R.reverse (by simp) (fun i hi => hb i (by simp at hi ⊢; exact .inl hi))
    obtain ⟨h1, h2⟩ := hb x (by simp)
    exact ⟨_, hu.join h1 h2⟩
theorem Frs.smt {t : Sk} (ho : NetOk t) {F : List Int} (h : Frs t F) (ph : List Int) : ∃ ys T u p, Smt t ph ys T u p ∧ ∀ i : Int, i ∈ F ↔ ∃ k : Nat, k ∈ T ∧ i = k := by
  obtain ⟨ys, T, h1, h2, h3, h4⟩ := h
  have hb := fun i hi => (perm_bd ho h1 i hi).2
  obtain ⟨u, hu⟩ := lab_ex (n := t.sc.length) (ps := prs t) T (fun i hi => hb i (h3.sub i hi))
  obtain ⟨u', hu'⟩ := lab_ex (n := t.sc.length) (ps := prs t) (ys.map Int.toNat) hb
  have e := h3.lab hb hu hu'
  subst e
  obtain ⟨p, hp⟩ := h3.pot ph hb u hu'
  exact ⟨ys, T, u, p, ⟨h1, h2, h3, hu', hp⟩, h4⟩
theorem Smt.labT {t : Sk} {ph ys : List Int} {T : List Nat} {u : List Int} {p : Nat → Int} (ho : NetOk t) (h : Smt t ph ys T u p) : Lab t.sc.length (prs t) T u := by
  have hb := fun i hi => (perm_bd ho h.perm i hi).2
  obtain ⟨u', hu⟩ := lab_ex (n := t.sc.length) (ps := prs t) T (fun i hi => hb i (h.kr.sub i hi))
  have e := h.kr.lab hb hu h.lab
  subst e
  exact hu
theorem gi_mem {F : List Int} {j : Nat} (hj : j < F.length) : gi F j ∈ F := by simp [gi, hj]
theorem mem_gi {F : List Int} {x : Int} (h : x ∈ F) : ∃ j, j < F.length ∧ gi F j = x := by
  obtain ⟨j, hj, e⟩ := List.mem_iff_getElem.1 h
  exact ⟨j, hj, by simp [gi, hj, e]⟩
section
variable {t : Sk} {F ph ys : List Int} {T : List Nat} {u : List Int} {p : Nat → Int}
theorem Smt.fr (ho : NetOk t) (h : Smt t ph ys T u p) (hF : ∀ i : Int, i ∈ F ↔ ∃ k : Nat, k ∈ T ∧ i = k) : ∀ j, j < F.length → 0 ≤ gi F j ∧ gi F j < t.pr.length := by
  intro j hj
  obtain ⟨k, h1, h2⟩ := (hF _).1 (gi_mem hj)
  have := (perm_bd ho h.perm k (h.kr.sub k h1)).1
  omega
theorem Smt.eq (h : Smt t ph ys T u p) (hF : ∀ i : Int, i ∈ F ↔ ∃ k : Nat, k ∈ T ∧ i = k) : ∀ k, k < 2 * F.length → p (stB (prs t) F k) = p (stA (prs t) F k) + sgn k * gi ph (gi F (k / 2)).toNat := by
  intro k hk
  obtain ⟨i, h1, h2⟩ := (hF _).1 (gi_mem (F := F) (j := k / 2) (by omega))
  have he := h.pot.edge i h1
  have hi : (gi F (k / 2)).toNat = i := by omega
  unfold stA stB sgn
  rw [hi]
  split <;> omega
theorem Smt.first (ho : NetOk t) (h : Smt t ph ys T u p) (hF : ∀ i : Int, i ∈ F ↔ ∃ k : Nat, k ∈ T ∧ i = k) {kn : List Bool} (hc : ∀ v, v < t.sc.length → gb kn v = true → ∀ j, j < 2 * F.length → stA (prs t) F j = v → gb kn (stB (prs t) F j) = true) {i : Nat} (hi : i < t.sc.length) (hk : ∀ v, v < i → gb kn v = true) (hu : gb kn i = false) : p i = 0 := by
  have hb := fun i hi => (perm_bd ho h.perm i (h.kr.sub i hi)).2
  have h1 := (h.labT ho).cl (fun v => if gb kn v = true then 1 else 0) (fun k hkT => by
    obtain ⟨j, hj, e⟩ := mem_gi ((hF k).2 ⟨k, hkT, rfl⟩)
    have e0 : (gi F j).toNat = k := by omega
    have a0 : stA (prs t) F (2 * j) = (gq (prs t) k).f := by unfold stA; rw [if_pos (by omega), show 2 * j / 2 = j by omega, e0]
    have b0 : stB (prs t) F (2 * j) = (gq (prs t) k).s := by unfold stB; rw [if_pos (by omega), show 2 * j / 2 = j by omega, e0]
    have a1 : stA (prs t) F (2 * j + 1) = (gq (prs t) k).s := by unfold stA; rw [if_neg (by omega), show (2 * j + 1) / 2 = j by omega, e0]
    have b1 : stB (prs t) F (2 * j + 1) = (gq (prs t) k).f := by unfold stB; rw [if_neg (by omega), show (2 * j + 1) / 2 = j by omega, e0]
    have f1 := hc _ (hb k hkT).1
    have f2 := hc _ (hb k hkT).2
    by_cases hf : gb kn (gq (prs t) k).f = true
    · have := f1 hf (2 * j) (by omega) a0
      rw [b0] at this
      simp [hf, this]
    · by_cases hs : gb kn (gq (prs t) k).s = true
      · have := f2 hs (2 * j + 1) (by omega) a1
        rw [b1] at this
        exact absurd this hf
      · simp [hf, hs]) i hi
  have hr := h.lab.rt_le hi
  have e : rt u i = i := by
    rcases Nat.lt_or_ge (rt u i) i with hlt | hge
    · have := hk _ hlt
      simp [hu, this] at h1
    · omega
  exact h.pot.root i hi (by rw [← h.lab.rt_eq hi, e])
end
structure SumEnd (t : Sk) (ph : List Int) (M : Int) (B : Nat) (w : World) (b : Nat) (out : List Int) (p : Nat → Int) (w' : World) : Prop where
  bel : Below B w w'
  ge : B ≤ b
  mem : IntB w' b out
  len : out.length = t.sc.length
  sms : Sms t ph p
  val : ∀ v, v < t.sc.length → gi out v = p v ∧ -(M * 60) ≤ p v ∧ p v ≤ M * 60
def SumPost (t : Sk) (ph : List Int) (M : Int) (w : World) (e : Ending) (w' : World) : Prop :=
  ∃ b out p, e = .returned (.slice (some ⟨b, 0, none⟩) t.sc.length t.sc.length) ∧ SumEnd t ph M w.heap.size w b out p w'
@[local go_sem] theorem run_store_func {P : Program} {w : World} (a : Addr) (f : Fn) (x y : Array Value) (m : Mode) : (store a (.func f x y) m).run P w = stored P w a (.func f x y) m := run_store P w a _ m rfl
def LoopSm (W5 : World) (t : Sk) (z : SpL) (F : List Int) (p : Nat → Int) (M : Int) (a : Act) (w : World) : Prop :=
  ∃ (i : Nat) (kn : List Bool) (out : List Int), i ≤ t.sc.length ∧ Tch [z.kb, z.ob] W5 w ∧ BoolB w z.kb kn ∧ IntB w z.ob out ∧ DI t.sc.length M p kn out ∧
    (∀ v, v < t.sc.length → gb kn v = true → ∀ j, j < 2 * F.length → stA (prs t) F j = v → gb kn (stB (prs t) F j) = true) ∧ (∀ v, v < i → gb kn v = true) ∧
    Fr 38 [(5, .pointer (some ⟨z.oc, 0, none⟩)), (6, .pointer (some ⟨z.kc, 0, none⟩)), (8, .pointer (some ⟨z.sp, 0, none⟩)), (24, .int .i64 t.sc.length), (25, .int .i64 i)] a
theorem sums_loop {t : Sk} {l : SkL} {z : SpL} {F ph ys : List Int} {T : List Nat} {u : List Int} {p : Nat → Int} {M : Int} (ho : NetOk t) (hS : StepOk t F ph p M) (hm : Smt t ph ys T u p) (hF : ∀ i : Int, i ∈ F ↔ ∃ k : Nat, k ∈ T ∧ i = k) {W5 : World} (hM : SpM W5 t l z F ph) {Q : Exit → Act → World → Prop}
    (hQ : ∀ a w out, Tch [z.kb, z.ob] W5 w → IntB w z.ob out → out.length = t.sc.length → (∀ v, v < t.sc.length → gi out v = p v ∧ -(M * 60) ≤ p v ∧ p v ≤ M * 60) → Fr 38 [(5, .pointer (some ⟨z.oc, 0, none⟩))] a → Q (.exit 0) a w)
    {a : Act} {w : World} (hI : LoopSm W5 t z F p M a w) :
    Code.wp Tryz.prog (Tryz.f28.sub [1, 1, 1, 1, 1, 0, 1, 0, 0]) (Exit.then (fun a' w' => LoopSm W5 t z F p M a' w' ∧ t.sc.length - (intOf (a'.tmps.getD 25 undef)).toNat < t.sc.length - (intOf (a.tmps.getD 25 undef)).toNat) Q) a w := by
  obtain ⟨i, kn, out, hi, hT, hk, hO, hD, hc, hf, hfr⟩ := hI
  obtain ⟨v, rfl⟩ := hfr.open
  clear hfr
  generalize hmu : t.sc.length - (intOf ((⟨frL 38 _ v, []⟩ : Act).tmps.getD 25 undef)).toNat = mu
  have hmu' : t.sc.length - i = mu := by rw [← hmu]; rfl
  clear hmu
  have hM2 := hM.keep hT
  have c6 := hM2.ck
  have c8 := hM2.cs
  have h60 := ho.n_le
  unfold spA at c8
  have HC := Lib.hid (fun (hu : gb kn i = false) (hi : i < t.sc.length) => spr_c (l := l) (z := z) (ph := ph) ho hS t.sc.length w kn out i (by omega) hM2 hk hO hi ⟨hD.lk, hD.lo, hD.val, fun v hv hg _ => hD.zero v hv hg, hu, by rw [hD.zero i hi hu, hm.first ho hF hc hi hf hu], by rw [hm.first ho hF hc hi hf hu]; have := hS.m0; have : 0 ≤ M * ((cnt kn : Int) + 1) := Int.mul_nonneg this (by omega); omega⟩)
  unfold spA at HC
  have hcnt := cnt_le kn
  rw [hD.lk] at hcnt
  have hmb : M * (cnt kn : Int) ≤ M * 60 := Int.mul_le_mul_of_nonneg_left (by omega) hS.m0
  have HH := Lib.hid (And.intro hT (And.intro hk (And.intro hO (And.intro hD (And.intro hc (And.intro hf (And.intro hmb ho)))))))
  have HQ := Lib.hid hQ; clear hQ
  have HS := Lib.hid hS; clear hS
  have kc := hk.cell (j := i)
  have HF := Lib.hid hF
  clear hm hM hM2 hT hk hO hD hc hf hcnt hmb ho hF
  show Code.wp Tryz.prog (Tryz.f28.sub [1, 1, 1, 1, 1, 0, 1, 0, 0]) _ ⟨#[(v 0), (v 1), (v 2), (v 3), (v 4), .pointer (some ⟨z.oc, 0, none⟩), .pointer (some ⟨z.kc, 0, none⟩), (v 7), .pointer (some ⟨z.sp, 0, none⟩), (v 9), (v 10), (v 11), (v 12), (v 13), (v 14), (v 15), (v 16), (v 17), (v 18), (v 19), (v 20), (v 21), (v 22), (v 23), .int .i64 t.sc.length, .int .i64 i, (v 26), (v 27), (v 28), (v 29), (v 30), (v 31), (v 32), (v 33), (v 34), (v 35), (v 36), (v 37)], []⟩ _
  conv => arg 2; whnf
  dsimp only
  by_cases hlt : i < t.sc.length
  · have kc1 := kc (by rw [HH.out.2.2.2.1.lk]; exact hlt)
    clear kc
    obtain ⟨bv, hbv⟩ : ∃ bv, gb kn i = bv := ⟨_, rfl⟩
    rw [hbv] at kc1
    have HBV := Lib.hid hbv; clear hbv
    cases bv with
    | true =>
      go_wp2_with fail
      refine ⟨⟨i + 1, kn, out, by omega, HH.out.1, HH.out.2.1, HH.out.2.2.1, HH.out.2.2.2.1, HH.out.2.2.2.2.1, fun v hv => ?_, by (refine ⟨rfl, rfl, ?_⟩; repeat (first | exact trivial | refine ⟨rfl, ?_⟩))⟩, ?_⟩
      · by_cases e : v = i
        · rw [e]; exact HBV.out
        · exact HH.out.2.2.2.2.2.1 v (by omega)
      · show t.sc.length - ((i : Int) + 1).toNat < mu
        omega
    | false =>
      have HC2 := Lib.hid (HC.out HBV.out hlt); clear HC
      go_wp2_with fail
      refine HC2.out.mono ?_
      rintro e w2 ⟨⟨r, rfl⟩, kn', out', k1, k2, k3, k4⟩
      have H2 := Lib.hid (And.intro k1 (And.intro k2 (And.intro k3 k4))); clear k1 k2 k3 k4
      go_wp2_with fail
      refine ⟨⟨i + 1, kn', out', by omega, HH.out.1.trans H2.out.1, H2.out.2.1, H2.out.2.2.1, H2.out.2.2.2.di, fun v hv hg j hj hs => ?_, fun v hv => ?_, by (refine ⟨rfl, rfl, ?_⟩; repeat (first | exact trivial | refine ⟨rfl, ?_⟩))⟩, ?_⟩
      · have hP := H2.out.2.2.2
        have hto : stB (prs t) F j < t.sc.length := by
          obtain ⟨f1, f2⟩ := HS.out.fr (j / 2) (by omega)
          obtain ⟨q1, q2, q3⟩ := prs_lt HH.out.2.2.2.2.2.2.2 (i := (gi F (j / 2)).toNat) (by omega)
          unfold stB; split <;> assumption
        by_cases e : gb kn v = true
        · exact hP.mono _ hto (HH.out.2.2.2.2.1 v hv e j hj hs)
        · exact hP.clo v hv hg (by simpa using e) j hj hs
      · have hP := H2.out.2.2.2
        by_cases e : v = i
        · rw [e]; exact hP.own
        · exact hP.mono v (by omega) (HH.out.2.2.2.2.2.1 v (by omega))
      · show t.sc.length - ((i : Int) + 1).toNat < mu
        omega
  · clear kc
    obtain rfl : i = t.sc.length := by omega
    go_wp2_with fail
    refine HQ.out _ _ out HH.out.1 HH.out.2.2.1 HH.out.2.2.2.1.lo (fun v hv => ?_) (by (refine ⟨rfl, rfl, ?_⟩; repeat (first | exact trivial | refine ⟨rfl, ?_⟩)))
    obtain ⟨h1, h2, h3⟩ := HH.out.2.2.2.1.val v hv (HH.out.2.2.2.2.2.1 v hv)
    have := HH.out.2.2.2.2.2.2.1
    exact ⟨h1, by omega, by omega⟩
theorem sums_c {t : Sk} {l : SkL} {w : World} {H : Option Addr} {ch : Nat} {ph : List Int} {M : Int} (hN : NetM w t l) (ho : NetOk t) (hR : RdI w H ph) (hl : ph.length = t.pr.length) (hM : 0 ≤ M ∧ M ≤ 10000000000) (hb : ∀ i, i < t.pr.length → -M ≤ gi ph i ∧ gi ph i ≤ M) :
    Calls Tryz.prog 28 #[NetV t l, .slice H ph.length ch] w (SumPost t ph M w) := by
  have h60 := ho.n_le
  have HN := Lib.hid (And.intro hN hR); clear hN hR
  have HO := Lib.hid (And.intro ho (And.intro hl (And.intro hM hb))); clear ho hl hM hb
  unfold NetV
  go_enter Tryz.func28, Tryz.ntmps28
  show Code.wp Tryz.prog (.seq (Tryz.f28.sub [0]) (.seq (Tryz.f28.sub [1, 0]) (.seq (Tryz.f28.sub [1, 1, 0]) (.seq (Tryz.f28.sub [1, 1, 1, 0]) (.seq (Tryz.f28.sub [1, 1, 1, 1, 0]) (.seq (.seq (Tryz.f28.sub [1, 1, 1, 1, 1, 0, 0]) (.block 0 (.loop (Tryz.f28.sub [1, 1, 1, 1, 1, 0, 1, 0, 0])))) (Tryz.f28.sub [1, 1, 1, 1, 1, 1]))))))) _ _ _
  refine wp_seq ?_
  conv => arg 2; whnf
  go_wp2_with fail
  refine nameC ?_
  intro W1 hW1
  obtain ⟨hz1, e1, e2, hB1⟩ := alloc2 w _ _ hW1
  clear hW1
  obtain ⟨G, hG⟩ : ∃ G, w.heap.size = G := ⟨_, rfl⟩
  rw [hG] at e1 e2 hz1
  rw [hG]
  have HG := Lib.hid hG; clear hG
  refine sums_make (v3 := .pointer (some ⟨G + 1, 0, none⟩)) h60 (block_cell e1 (j := 0) (by simp)) ?_
  intro a W2 ob kb oc kc hfr hB2 b1 b2 b3 b4 m1 m2 m3 m4
  obtain ⟨u, rfl⟩ := hfr.open
  clear hfr
  have nok : ob ≠ kb ∧ ob ≠ oc ∧ ob ≠ kc ∧ kb ≠ oc ∧ kb ≠ kc ∧ oc ≠ kc := ⟨ne_ty m1 m2 (by decide), ne_ty m1 m3 (by decide), ne_ty m1 m4 (by decide), ne_ty m2 m3 (by decide), ne_ty m2 m4 (by decide), ne_ty m3 m4 (by decide)⟩
  have HB := Lib.hid (And.intro hB1 (And.intro hB2 (And.intro m1 (And.intro m2 (And.intro m3 (And.intro m4 nok)))))); 
  have ge2 := (hB2.block _ (Array.getElem?_eq_some_iff.1 e1).1).trans e1
  have pe2 := (hB2.block _ (Array.getElem?_eq_some_iff.1 e2).1).trans e2
  have hz2 := hB2.size
  have obl := m1.lt
  have kbl : kb < W2.heap.size := FlB.lt m2
  have ocl : oc < W2.heap.size := (Array.getElem?_eq_some_iff.1 m3).1
  have kcl : kc < W2.heap.size := (Array.getElem?_eq_some_iff.1 m4).1
  have HGP := Lib.hid (And.intro ge2 pe2)
  clear hB1 hB2 m1 m2 m3 m4 nok e1 e2 pe2
  rename_i K2 hK2
  refine hK2 _ _ ?_
  clear hK2 K2
  have g0 : W2.cell? ⟨G, 0, none⟩ = some (.slice l.S t.sc.length l.cs) := block_cell ge2 (j := 0) (by simp)
  have g1 : W2.cell? ⟨G, 1, none⟩ = some (.slice l.P t.pr.length l.cp) := block_cell ge2 (j := 1) (by simp)
  have HLt := Lib.hid (light_c (HN.out.1.keep (HB.out.1.trans (HB.out.2.1.mono HB.out.1.size))) HO.out.1)
  unfold NetV at HLt
  clear ge2
  show Code.wp Tryz.prog (.seq (Tryz.f28.sub [1, 1, 0]) (.seq (Tryz.f28.sub [1, 1, 1, 0]) (.seq (Tryz.f28.sub [1, 1, 1, 1, 0]) (.seq (.seq (Tryz.f28.sub [1, 1, 1, 1, 1, 0, 0]) (.block 0 (.loop (Tryz.f28.sub [1, 1, 1, 1, 1, 0, 1, 0, 0])))) (Tryz.f28.sub [1, 1, 1, 1, 1, 1]))))) _ ⟨#[(u 0), (u 1), .pointer (some ⟨G, 0, none⟩), .pointer (some ⟨G + 1, 0, none⟩), (u 4), .pointer (some ⟨oc, 0, none⟩), .pointer (some ⟨kc, 0, none⟩), (u 7), (u 8), (u 9), (u 10), (u 11), (u 12), (u 13), (u 14), (u 15), (u 16), (u 17), (u 18), (u 19), (u 20), (u 21), (u 22), (u 23), (u 24), (u 25), (u 26), (u 27), (u 28), (u 29), (u 30), (u 31), (u 32), (u 33), (u 34), (u 35), (u 36), (u 37)], []⟩ _
  refine wp_seq ?_
  conv => arg 2; whnf
  dsimp only
  go_wp2_with fail
  refine HLt.out.mono ?_
  rintro e W3 ⟨A, c, F, rfl, hB3, hF, hFr, hFl, hFA⟩
  have hz3 := hB3.size
  have H3 := Lib.hid (And.intro hB3 (And.intro hF (And.intro hFr (And.intro hFl hFA)))); clear hB3 hF hFr hFl hFA HLt g0 g1
  go_wp2_with fail
  conv => arg 2; whnf
  go_wp2_with fail
  refine nameC ?_
  intro W4 hW4
  obtain ⟨hz4, e1, e2, hB4⟩ := alloc2 W3 _ _ hW4
  clear hW4
  have s0 : W4.cell? ⟨W3.heap.size + 1, 0, none⟩ = some .nilFunc := block_cell e2 (j := 0) (by simp)
  have s1 : W4.frozen? ⟨W3.heap.size + 1, 0, none⟩ = false := by simp [World.frozen?, e2]
  obtain ⟨D, hD⟩ : ∃ D, W3.heap.size = D := ⟨_, rfl⟩
  have H4 := Lib.hid (And.intro e1 (And.intro e2 (And.intro hB4 hD)))
  rw [hD] at s0 s1 hz4 hz3 ⊢
  clear hD e1 e2 hB4
  conv => arg 2; whnf
  go_wp2_with fail
  refine nameC ?_
  intro W5 hW5
  obtain ⟨e1, e2, hB4, hD⟩ := H4.out
  rw [hD] at e1 e2
  have hB25 : Below W2.heap.size W2 W5 := by
    rw [hW5]
    exact (H3.out.1.trans (hB4.mono (by omega))).setCell (show W2.heap.size ≤ D + 1 by omega) _
  have hB35 : Below W3.heap.size W3 W5 := by
    rw [hW5]
    exact hB4.setCell (show W3.heap.size ≤ D + 1 by omega) _
  have e1' : W5.heap[D]? = some (.cells #[.slice A F.length c] 26 (0, 0)) := by rw [hW5]; exact (Below.heap_setCell _ _ _ _ (show D ≠ D + 1 by omega)).trans e1
  have e2' := heap_setCell_same W4 (D + 1) 0 _ _ (.func (.func 43) #[] (spA ⟨kc, G, D, oc, G + 1, D + 1, kb, ob, A, H, c, ch⟩).toArray) e2
  unfold spA at e2'
  rw [← hW5] at e2'
  obtain ⟨hB1, hB2, m1, m2, m3, m4, n1, n2, n3, n4, n5, n6⟩ := HB.out
  obtain ⟨ge2, pe2⟩ := HGP.out
  have hGw := HG.out
  have hbw2 : Below w.heap.size w W2 := hB1.trans (hB2.mono hB1.size)
  have hbw5 : Below w.heap.size w W5 := hbw2.trans (hB25.mono hbw2.size)
  obtain ⟨hN, hR⟩ := HN.out
  have hM5 : SpM W5 t l ⟨kc, G, D, oc, G + 1, D + 1, kb, ob, A, H, c, ch⟩ F ph := by
    refine ⟨block_cell ((hB25.block _ kcl).trans m4) (j := 0) (by simp), block_cell ((hB25.block _ ocl).trans m3) (j := 0) (by simp), (hB25.block _ (show G < W2.heap.size by omega)).trans ge2, block_cell e1' (j := 0) (by simp), block_cell ((hB25.block _ (show G + 1 < W2.heap.size by omega)).trans pe2) (j := 0) (by simp), block_cell e2' (j := 0) (by simp),
      H3.out.2.1.keep hB35, hR.keep hbw5, (hN.rdq HO.out.1).keep hbw5, ⟨?_, ?_, ?_, ?_, ?_, ?_, n1.symm⟩, ?_, ?_, ?_⟩
    · simp only [List.mem_cons, List.not_mem_nil, or_false]; omega
    · simp only [List.mem_cons, List.not_mem_nil, or_false]; omega
    · simp only [List.mem_cons, List.not_mem_nil, or_false]; omega
    · simp only [List.mem_cons, List.not_mem_nil, or_false]; omega
    · simp only [List.mem_cons, List.not_mem_nil, or_false]; omega
    · simp only [List.mem_cons, List.not_mem_nil, or_false]; omega
    · intro b o _ hA
      have := H3.out.2.2.2.2 b o hA
      simp only [List.mem_cons, List.not_mem_nil, or_false]; omega
    · intro b o hp hH
      obtain ⟨b', o', h1, h2⟩ := hR 0 hp
      rw [show H = some ⟨b, o, none⟩ from hH] at h1
      have hbl : b' < w.heap.size := World.block_lt_of_cell? _ _ h2
      injection h1 with h1; injection h1 with h1
      subst h1
      simp only [List.mem_cons, List.not_mem_nil, or_false]; omega
    · intro b o hp hP
      obtain ⟨b', o', h1, h2, _⟩ := (hN.rdq HO.out.1) 0 hp
      rw [hP] at h1
      have hbl : b' < w.heap.size := World.block_lt_of_cell? _ _ h2
      injection h1 with h1; injection h1 with h1
      subst h1
      simp only [List.mem_cons, List.not_mem_nil, or_false]; omega
  obtain ⟨ys, T, u', p, hSm, hTF⟩ := H3.out.2.2.1.smt HO.out.1 ph
  have hS : StepOk t F ph p M := ⟨HO.out.2.2.1.1, HO.out.2.2.1.2, hSm.fr HO.out.1 hTF, by have := H3.out.2.2.2.1; have := HO.out.1.m_le; omega, HO.out.2.1, HO.out.2.2.2, hSm.eq hTF⟩
  have hk5 : BoolB W5 kb (List.replicate t.sc.length false) := (hB25.block _ kbl).trans m2
  have ho5 : IntB W5 ob (List.replicate t.sc.length 0) := (hB25.block _ obl).trans m1
  have c5 : W5.cell? ⟨oc, 0, none⟩ = some (.slice (some ⟨ob, 0, none⟩) t.sc.length t.sc.length) := block_cell ((hB25.block _ ocl).trans m3) (j := 0) (by simp)
  have hob : w.heap.size ≤ ob := by omega
  have oNe : oc ∉ [kb, ob] := by simp only [List.mem_cons, List.not_mem_nil, or_false]; omega
  have H5 := Lib.hid (And.intro hM5 (And.intro hS (And.intro hSm (And.intro hTF (And.intro hk5 (And.intro ho5 (And.intro hbw5 hob)))))))
  clear hM5 hS hSm hTF hk5 ho5 hbw5 hob e1 e2 hB4 hD hB25 hB35 e1' e2' hB1 hB2 m1 m2 m3 m4 ge2 pe2 hN hR hW5 hbw2 s0 s1
  conv => arg 2; whnf
  go_wp2_with fail
  refine wp_loop (LoopSm W5 t ⟨kc, G, D, oc, G + 1, D + 1, kb, ob, A, H, c, ch⟩ F p M) (fun a _ => t.sc.length - (intOf (a.tmps.getD 25 undef)).toNat) ⟨0, _, _, Nat.zero_le _, Tch.refl _ _, H5.out.2.2.2.2.1, H5.out.2.2.2.2.2.1, ⟨by simp, by simp, fun v hv hg => ?_, fun v hv _ => gi_rep _ _ _ hv⟩, fun v hv hg => ?_, fun v hv => absurd hv (Nat.not_lt_zero _), by (refine ⟨rfl, rfl, ?_⟩; repeat (first | exact trivial | refine ⟨rfl, ?_⟩))⟩ ?_
  · simp [gb, hv] at hg
  · simp [gb, hv] at hg
  intro a w hI
  refine sums_loop (l := l) HO.out.1 H5.out.2.1 H5.out.2.2.1 H5.out.2.2.2.1 H5.out.1 ?_ hI
  intro a' w' out hT hO' hlen hval hfr
  obtain ⟨v, rfl⟩ := hfr.open
  clear hfr
  rename_i K5 hK5
  refine hK5 _ _ ?_
  show Code.wp Tryz.prog (Tryz.f28.sub [1, 1, 1, 1, 1, 1]) _ ⟨#[(v 0), (v 1), (v 2), (v 3), (v 4), .pointer (some ⟨oc, 0, none⟩), (v 6), (v 7), (v 8), (v 9), (v 10), (v 11), (v 12), (v 13), (v 14), (v 15), (v 16), (v 17), (v 18), (v 19), (v 20), (v 21), (v 22), (v 23), (v 24), (v 25), (v 26), (v 27), (v 28), (v 29), (v 30), (v 31), (v 32), (v 33), (v 34), (v 35), (v 36), (v 37)], []⟩ _
  have c5' := hT.cell oNe c5
  have HH := Lib.hid (And.intro hT (And.intro hO' (And.intro hlen hval))); clear hT hO' hlen hval hI
  conv => arg 2; whnf
  dsimp only
  go_wp2_with fail
  go_ret
  refine ⟨ob, out, p, rfl, ⟨?_, H5.out.2.2.2.2.2.2.2, HH.out.2.1, HH.out.2.2.1, ⟨ys, T, u', H5.out.2.2.1⟩, HH.out.2.2.2⟩⟩
  have hb := H5.out.2.2.2.2.2.2.1
  refine HH.out.1.below hb (Nat.le_refl _) (fun b hb' => ?_)
  simp only [List.mem_cons, List.not_mem_nil, or_false] at hb'
  have := HG.out
  omega
end Go.Proofs.YtjnpchoinncbnaaGreat
end
