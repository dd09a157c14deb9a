/- Proves parts of the statement, each under the conditions that its theorem states: Plain facts on numbering the parts: a search from each node that has no number yet; Numbers of groups: a node is added; A push: the nearest node that has too little; Numbers of groups: the neighbours of a node are added. -/
import Derived.Test.YtjnpchoinncbnaaGreatP02
import Derived.Test.YtjnpchoinncbnaaGreatP03
import Derived.Test.YtjnpchoinncbnaaGreatP17
set_option linter.unusedSimpArgs false
set_option linter.unusedVariables false
set_option maxHeartbeats 4000000
set_option maxRecDepth 100000
section
namespace Sw
def Nb (es : List Ed) (u v : Nat) : Prop := ∃ i, i < es.length ∧ 0 < (ge es i).k ∧ (((ge es i).f = u ∧ (ge es i).t = v) ∨ ((ge es i).t = u ∧ (ge es i).f = v))
theorem Nb.symm {es : List Ed} {u v : Nat} (h : Nb es u v) : Nb es v u := by
  obtain ⟨i, hi, hk, h⟩ := h
  exact ⟨i, hi, hk, h.elim (fun ⟨a, b⟩ => .inr ⟨b, a⟩) (fun ⟨a, b⟩ => .inl ⟨b, a⟩)⟩
theorem Nb.cn {es : List Ed} {u v : Nat} (h : Nb es u v) : Cn es u v := by
  obtain ⟨i, hi, hk, ⟨rfl, rfl⟩ | ⟨rfl, rfl⟩⟩ := h
  · exact Cn.fw i hi hk (.refl _)
  · exact Cn.bw i hi hk (.refl _)
def vis (out : List Int) (g : Int) (b : Nat) : List Int := if gi out b < 0 then out.set b g else out
def visq (out : List Int) (b : Nat) (q : List Int) : List Int := if gi out b < 0 then q ++ [(b : Int)] else q
def visit (g : Int) (s : List Int × List Int) (b : Nat) : List Int × List Int := (vis s.1 g b, visq s.1 b s.2)
def unl (out : List Int) : Nat := out.countP fun x => decide (x < 0)
theorem unl_set : ∀ (out : List Int) (b : Nat) (g : Int), b < out.length → gi out b < 0 → 0 ≤ g → unl (out.set b g) + 1 = unl out := by
  intro out
  induction out with
  | nil => intro b g hb; simp at hb
  | cons x out ih =>
    intro b g hb hn hg
    cases b with
    | zero =>
      have : x < 0 := by simpa [gi] using hn
      simp [unl, this, show ¬ g < 0 by omega]
    | succ b =>
      have := ih b g (by simpa using hb) (by simpa [gi] using hn) hg
      simp only [unl, List.set_cons_succ, List.countP_cons] at this ⊢
      omega
theorem visit_fold {g : Int} (hg : 0 ≤ g) {n : Nat} : ∀ (l : List Nat) (out q : List Int), out.length = n → (∀ b, b ∈ l → b < n) →
    (l.foldl (visit g) (out, q)).1.length = n ∧
    (∀ v, v < n → gi (l.foldl (visit g) (out, q)).1 v = if gi out v < 0 ∧ v ∈ l then g else gi out v) ∧
    (∀ x, x ∈ (l.foldl (visit g) (out, q)).2 ↔ x ∈ q ∨ ∃ v, v ∈ l ∧ x = (v : Int) ∧ gi out v < 0) ∧
    unl (l.foldl (visit g) (out, q)).1 + (l.foldl (visit g) (out, q)).2.length = unl out + q.length := by
  intro l
  induction l with
  | nil => intro out q h _; simp [h]
  | cons b l ih =>
    intro out q h hl
    have hb := hl b (List.mem_cons_self ..)
    rw [List.foldl_cons]
    by_cases hneg : gi out b < 0
    · have e : visit g (out, q) b = (out.set b g, q ++ [(b : Int)]) := by unfold visit vis visq; simp only; rw [if_pos hneg, if_pos hneg]
      rw [e]
      obtain ⟨h1, h2, h3, h4⟩ := ih (out.set b g) (q ++ [(b : Int)]) (by rw [List.length_set]; exact h) (fun x hx => hl x (List.mem_cons_of_mem _ hx))
      have hs : ∀ v, gi (out.set b g) v = if b = v then g else gi out v := fun v => gi_set _ _ _ _ (by omega)
      refine ⟨h1, fun v hv => ?_, fun x => ?_, ?_⟩
      · rw [h2 v hv, hs v]
        by_cases e : b = v
        · subst e
          rw [if_pos rfl, if_neg (fun hh : g < 0 ∧ b ∈ l => by omega), if_pos ⟨hneg, List.mem_cons_self ..⟩]
        · rw [if_neg e]
          have : (v ∈ b :: l) ↔ v ∈ l := by rw [List.mem_cons]; exact ⟨fun h => h.elim (fun h => absurd h.symm e) id, .inr⟩
          simp only [this]
      · rw [h3 x, List.mem_append, List.mem_singleton]
        constructor
        · rintro ((h | rfl) | ⟨v, hv, rfl, hn⟩)
          · exact .inl h
          · exact .inr ⟨b, List.mem_cons_self .., rfl, hneg⟩
          · rw [hs v] at hn
            by_cases e : b = v
            · rw [if_pos e] at hn; omega
            · rw [if_neg e] at hn; exact .inr ⟨v, List.mem_cons_of_mem _ hv, rfl, hn⟩
        · rintro (h | ⟨v, hv, rfl, hn⟩)
          · exact .inl (.inl h)
          · by_cases e : b = v
            · subst e; exact .inl (.inr rfl)
            · rcases List.mem_cons.1 hv with e' | hv
              · exact absurd e'.symm e
              · exact .inr ⟨v, hv, rfl, by rw [hs v, if_neg e]; exact hn⟩
      · rw [h4, List.length_append, List.length_singleton]
        have := unl_set out b g (by omega) hneg hg
        omega
    · have e : visit g (out, q) b = (out, q) := by unfold visit vis visq; simp only; rw [if_neg hneg, if_neg hneg]
      rw [e]
      obtain ⟨h1, h2, h3, h4⟩ := ih out q h (fun x hx => hl x (List.mem_cons_of_mem _ hx))
      refine ⟨h1, fun v hv => ?_, fun x => ?_, h4⟩
      · rw [h2 v hv]
        by_cases e : v = b
        · subst e; rw [if_neg (fun hh => hneg hh.1), if_neg (fun hh => hneg hh.1)]
        · have : (v ∈ b :: l) ↔ v ∈ l := by rw [List.mem_cons]; exact ⟨fun h => h.elim (fun h => absurd h e) id, .inr⟩
          simp only [this]
      · rw [h3 x]
        constructor
        · rintro (h | ⟨v, hv, h⟩)
          · exact .inl h
          · exact .inr ⟨v, List.mem_cons_of_mem _ hv, h⟩
        · rintro (h | ⟨v, hv, rfl, hn⟩)
          · exact .inl h
          · rcases List.mem_cons.1 hv with e' | hv
            · subst e'; exact absurd hn hneg
            · exact .inr ⟨v, hv, rfl, hn⟩
structure BfsO (n : Nat) (es : List Ed) (out : List Int) (g : Nat) : Prop where
  len : out.length = n
  rng : ∀ v, v < n → gi out v = -1 ∨ (0 ≤ gi out v ∧ gi out v < g)
  sound : ∀ a b, a < n → b < n → 0 ≤ gi out a → gi out a = gi out b → Cn es a b
  closed : ∀ u v, u < n → v < n → Nb es u v → 0 ≤ gi out u → gi out v = gi out u
structure BfsI (n : Nat) (es : List Ed) (out : List Int) (g root : Nat) (q : List Int) : Prop where
  len : out.length = n
  rng : ∀ v, v < n → gi out v = -1 ∨ (0 ≤ gi out v ∧ gi out v ≤ g)
  rt : root < n ∧ gi out root = g
  conn : ∀ v, v < n → gi out v = g → Cn es root v
  sound : ∀ a b, a < n → b < n → 0 ≤ gi out a → gi out a < g → gi out a = gi out b → Cn es a b
  closed : ∀ u v, u < n → v < n → Nb es u v → 0 ≤ gi out u → gi out u < g → gi out v = gi out u
  qu : ∀ x, x ∈ q → ∃ u : Nat, u < n ∧ x = u ∧ gi out u = g
  front : ∀ u v, u < n → v < n → Nb es u v → gi out u = g → (u : Int) ∈ q ∨ gi out v = g
theorem BfsO.start (n : Nat) (es : List Ed) : BfsO n es (List.replicate n (-1)) 0 := by
  have h : ∀ v, v < n → gi (List.replicate n (-1)) v = -1 := fun v hv => by unfold gi; simp [hv]
  refine ⟨by simp, fun v hv => .inl (h v hv), fun a b ha _ h0 => ?_, fun u v hu _ _ h0 => ?_⟩
  · rw [h a ha] at h0; omega
  · rw [h u hu] at h0; omega
theorem BfsO.root {n : Nat} {es : List Ed} {out : List Int} {g : Nat} (h : BfsO n es out g) {r : Nat} (hr : r < n) (hn : gi out r < 0) : BfsI n es (out.set r g) g r [(r : Int)] := by
  have hs : ∀ v, gi (out.set r g) v = if r = v then (g : Int) else gi out v := fun v => gi_set _ _ _ _ (by rw [h.len]; exact hr)
  have hlt : ∀ v, v < n → gi out v < g := fun v hv => by rcases h.rng v hv with e | e <;> omega
  refine ⟨by rw [List.length_set]; exact h.len, fun v hv => ?_, ⟨hr, by rw [hs, if_pos rfl]⟩, fun v hv hg => ?_, fun a b ha hb h0 h1 he => ?_, fun u v hu hv hb h0 h1 => ?_, fun x hx => ?_, fun u v hu hv hb he => ?_⟩
  · rw [hs]
    by_cases e : r = v
    · rw [if_pos e]; omega
    · rw [if_neg e]; rcases h.rng v hv with e | e <;> omega
  · rw [hs] at hg
    by_cases e : r = v
    · subst e; exact .refl _
    · rw [if_neg e] at hg; have := hlt v hv; omega
  · rw [hs] at h0 h1 he
    by_cases e : r = a
    · rw [if_pos e] at h1; omega
    · rw [if_neg e] at h0 h1 he
      rw [hs] at he
      by_cases e' : r = b
      · rw [if_pos e'] at he; omega
      · rw [if_neg e'] at he; exact h.sound a b ha hb h0 he
  · rw [hs] at h0 h1
    by_cases e : r = u
    · rw [if_pos e] at h1; omega
    · rw [if_neg e] at h0 h1
      have := h.closed u v hu hv hb h0
      rw [hs, hs, if_neg e]
      by_cases e' : r = v
      · subst e'; omega
      · rw [if_neg e']; exact this
  · rw [List.mem_singleton] at hx
    exact ⟨r, hr, hx, by rw [hs, if_pos rfl]⟩
  · rw [hs] at he
    by_cases e : r = u
    · subst e; exact .inl (List.mem_singleton.2 rfl)
    · rw [if_neg e] at he; have := hlt u hu; omega
theorem BfsI.step {n : Nat} {es : List Ed} {out : List Int} {g root : Nat} {a : Int} {q : List Int} (h : BfsI n es out g root (a :: q)) {row : List Nat} (hrow : ∀ v, v ∈ row ↔ (v < n ∧ Nb es a.toNat v)) :
    BfsI n es (row.foldl (visit g) (out, q)).1 g root (row.foldl (visit g) (out, q)).2 := by
  obtain ⟨u0, hu0, rfl, hg0⟩ := h.qu a (List.mem_cons_self ..)
  rw [Int.toNat_natCast] at hrow
  obtain ⟨f1, f2, f3, _⟩ := visit_fold (g := (g : Int)) (by omega) row out q h.len (fun b hb => ((hrow b).1 hb).1)
  generalize (row.foldl (visit g) (out, q)).1 = out' at *
  generalize (row.foldl (visit g) (out, q)).2 = q' at *
  have hold : ∀ v, v < n → 0 ≤ gi out v → gi out' v = gi out v := fun v hv h0 => by rw [f2 v hv, if_neg (fun hh => by omega)]
  have hnew : ∀ v, v < n → gi out' v ≠ gi out v → gi out v < 0 ∧ v ∈ row ∧ gi out' v = g := fun v hv hne => by
    have := f2 v hv
    by_cases hc : gi out v < 0 ∧ v ∈ row
    · rw [if_pos hc] at this; exact ⟨hc.1, hc.2, this⟩
    · rw [if_neg hc] at this; exact absurd this hne
  have hlow : ∀ v, v < n → 0 ≤ gi out' v → gi out' v < g → gi out' v = gi out v := fun v hv h0 h1 => by
    apply Classical.byContradiction
    intro hne
    have := (hnew v hv hne).2.2
    omega
  have hcase : ∀ v, v < n → gi out' v = g → gi out v = g ∨ (gi out v < 0 ∧ v ∈ row) := fun v hv hg => by
    by_cases e : gi out' v = gi out v
    · left; omega
    · have := hnew v hv e; exact .inr ⟨this.1, this.2.1⟩
  refine ⟨f1, fun v hv => ?_, ⟨h.rt.1, by rw [hold _ h.rt.1 (by have := h.rt.2; omega)]; exact h.rt.2⟩, fun v hv hg => ?_, fun x y hx hy h0 h1 he => ?_, fun u v hu hv hb h0 h1 => ?_, fun x hx => ?_, fun u v hu hv hb he => ?_⟩
  · rw [f2 v hv]
    split
    · omega
    · exact h.rng v hv
  · rcases hcase v hv hg with e | ⟨_, hm⟩
    · exact h.conn v hv e
    · exact (h.conn u0 hu0 hg0).trans ((hrow v).1 hm).2.cn
  · have e1 := hlow x hx h0 h1
    have e2 := hlow y hy (by omega) (by omega)
    exact h.sound x y hx hy (by omega) (by omega) (by omega)
  · have e1 := hlow u hu h0 h1
    have := h.closed u v hu hv hb (by omega) (by omega)
    rw [hold v hv (by omega), e1]; exact this
  · rcases (f3 x).1 hx with hx | ⟨v, hv, rfl, hn⟩
    · obtain ⟨u, hu, e, hg⟩ := h.qu x (List.mem_cons_of_mem _ hx)
      exact ⟨u, hu, e, by rw [hold u hu (by omega)]; exact hg⟩
    · have hvn := ((hrow v).1 hv).1
      exact ⟨v, hvn, rfl, by rw [f2 v hvn, if_pos ⟨hn, hv⟩]⟩
  · have nolow : ∀ w, w < n → Nb es u w → gi out w = -1 ∨ gi out w = g ∨ (0 ≤ gi out w ∧ gi out w < g ∧ gi out u = gi out w) := fun w hw hb => by
      rcases h.rng w hw with e | e
      · exact .inl e
      · by_cases e2 : gi out w = g
        · exact .inr (.inl e2)
        · exact .inr (.inr ⟨e.1, by omega, h.closed w u hw hu hb.symm e.1 (by omega)⟩)
    rcases hcase u hu he with e | ⟨hn, hm⟩
    · by_cases hu : u = u0
      · subst hu
        right
        rcases nolow v hv hb with e1 | e1 | e1
        · rw [f2 v hv, if_pos ⟨by omega, (hrow v).2 ⟨hv, hb⟩⟩]
        · rw [hold v hv (by omega)]; exact e1
        · omega
      · rcases h.front u v (by assumption) hv hb e with hq | hq
        · rcases List.mem_cons.1 hq with e2 | hq
          · exact absurd (by omega) hu
          · exact .inl ((f3 _).2 (.inl hq))
        · right; rw [hold v hv (by omega)]; exact hq
    · exact .inl ((f3 _).2 (.inr ⟨u, hm, rfl, hn⟩))
theorem BfsI.done {n : Nat} {es : List Ed} {out : List Int} {g root : Nat} (h : BfsI n es out g root []) : BfsO n es out (g + 1) := by
  refine ⟨h.len, fun v hv => ?_, fun a b ha hb h0 he => ?_, fun u v hu hv hb h0 => ?_⟩
  · rcases h.rng v hv with e | e
    · exact .inl e
    · right; omega
  · by_cases e : gi out a = g
    · exact (h.conn a ha e).symm.trans (h.conn b hb (by omega))
    · rcases h.rng a ha with e1 | e1
      · omega
      · exact h.sound a b ha hb h0 (by omega) he
  · by_cases e : gi out u = g
    · rcases h.front u v hu hv hb e with hq | hq
      · cases hq
      · omega
    · rcases h.rng u hu with e1 | e1
      · omega
      · exact h.closed u v hu hv hb h0 (by omega)
theorem BfsO.labels {n J : Nat} {es : List Ed} (hg : Gd n J es) {out : List Int} {g : Nat} (h : BfsO n es out g) (hall : ∀ v, v < n → 0 ≤ gi out v) : Labels n es (out.map Int.toNat) := by
  have hgn : ∀ v, v < n → (gn (out.map Int.toNat) v : Int) = gi out v := fun v hv => by
    have hv' : v < out.length := by rw [h.len]; exact hv
    have := hall v hv
    unfold gn gi at *
    simp [List.getD_eq_getElem?_getD, hv'] at this ⊢
    omega
  refine ⟨by rw [List.length_map]; exact h.len, fun i hi hk => ?_, fun a b ha hb he => ?_⟩
  · obtain ⟨e1, e2, _⟩ := hg.ends i hi
    have := h.closed _ _ e1 e2 ⟨i, hi, hk, .inl ⟨rfl, rfl⟩⟩ (hall _ e1)
    have g1 := hgn _ e1
    have g2 := hgn _ e2
    omega
  · have g1 := hgn _ ha
    have g2 := hgn _ hb
    exact h.sound a b ha hb (hall a ha) (by omega)
end Sw
end
section
namespace Go.Proofs.YtjnpchoinncbnaaGreat
open Go.RowKit Sw Fam
structure NLoc where
  ob : Nat
  gb : Nat
  qb : Nat
  O : Nat
structure NLoc.ok (z : NLoc) (B : Nat) : Prop where
  le : B ≤ z.ob ∧ B ≤ z.gb ∧ B ≤ z.qb ∧ B ≤ z.O
  ne : z.ob ≠ z.gb ∧ z.ob ≠ z.qb ∧ z.ob ≠ z.O ∧ z.gb ≠ z.qb ∧ z.gb ≠ z.O ∧ z.qb ≠ z.O
structure NumM (w : World) (B : Nat) (z : NLoc) (n : Nat) (out : List Int) (g : Int) (A : Option Addr) (c : Nat) (q : List Int) : Prop where
  bo : w.heap[z.ob]? = some (.cells #[.slice (some ⟨z.O, 0, none⟩) n n] 26 (0, 0))
  bg : w.heap[z.gb]? = some (.cells #[.int .i64 g] 3 (0, 0))
  bq : w.heap[z.qb]? = some (.cells #[.slice A q.length c] 26 (0, 0))
  bO : IntB w z.O out
  lo : out.length = n
  gr : GrI w B A c q
  qa : ∀ b, A.map (·.block) = some b → b ≠ z.ob ∧ b ≠ z.gb ∧ b ≠ z.qb ∧ b ≠ z.O
section
variable {w : World} {B : Nat} {z : NLoc} {n : Nat} {out : List Int} {g : Int} {A : Option Addr} {c : Nat} {q : List Int}
theorem NumM.c0 (h : NumM w B z n out g A c q) : w.cell? ⟨z.ob, 0, none⟩ = some (.slice (some ⟨z.O, 0, none⟩) n n) := by simp [World.cell?, h.bo]
theorem NumM.c1 (h : NumM w B z n out g A c q) : w.cell? ⟨z.gb, 0, none⟩ = some (.int .i64 g) := by simp [World.cell?, h.bg]
theorem NumM.c2 (h : NumM w B z n out g A c q) : w.cell? ⟨z.qb, 0, none⟩ = some (.slice A q.length c) := by simp [World.cell?, h.bq]
theorem NumM.f1 (h : NumM w B z n out g A c q) : w.frozen? ⟨z.gb, 0, none⟩ = false := by simp [World.frozen?, h.bg]
theorem NumM.f2 (h : NumM w B z n out g A c q) : w.frozen? ⟨z.qb, 0, none⟩ = false := by simp [World.frozen?, h.bq]
theorem NumM.keep {w' : World} (h : NumM w B z n out g A c q) (hb : Below w.heap.size w w') : NumM w' B z n out g A c q :=
  ⟨(hb.block _ (Array.getElem?_eq_some_iff.1 h.bo).1).trans h.bo, (hb.block _ (Array.getElem?_eq_some_iff.1 h.bg).1).trans h.bg, (hb.block _ (Array.getElem?_eq_some_iff.1 h.bq).1).trans h.bq, h.bO.keep hb, h.lo, h.gr.keep hb, h.qa⟩
theorem NumM.seto (h : NumM w B z n out g A c q) (ok : z.ok B) {i : Nat} (hi : i < n) (y : Int) : NumM (w.setCell ⟨z.O, i, none⟩ (.int .i64 y)) B z n (out.set i y) g A c q :=
  ⟨(Below.heap_setCell _ _ _ _ ok.ne.2.2.1).trans h.bo, (Below.heap_setCell _ _ _ _ ok.ne.2.2.2.2.1).trans h.bg, (Below.heap_setCell _ _ _ _ ok.ne.2.2.2.2.2).trans h.bq, h.bO.set (by rw [h.lo]; exact hi) y, by rw [List.length_set]; exact h.lo,
    h.gr.other (fun e => (h.qa _ e).2.2.2 rfl) _, h.qa⟩
theorem NumM.setg (h : NumM w B z n out g A c q) (ok : z.ok B) (y : Int) : NumM (w.setCell ⟨z.gb, 0, none⟩ (.int .i64 y)) B z n out y A c q :=
  ⟨(Below.heap_setCell _ _ _ _ ok.ne.1).trans h.bo, heap_setCell_same w z.gb 0 _ _ (.int .i64 y) h.bg, (Below.heap_setCell _ _ _ _ ok.ne.2.2.2.1.symm).trans h.bq, h.bO.other ok.ne.2.2.2.2.1.symm _, h.lo,
    h.gr.other (fun e => (h.qa _ e).2.1 rfl) _, h.qa⟩
theorem NumM.setq {w1 : World} {A' : Option Addr} {c' : Nat} {q' : List Int} (h : NumM w B z n out g A c q) (ok : z.ok B) (hg : w.grownBy w1 (A.map (·.block))) (hr : GrI w1 B A' c' q')
    (ha : ∃ a', A' = some a' ∧ ((∃ a, A = some a ∧ a.block = a'.block) ∨ w.heap.size ≤ a'.block)) : NumM (w1.setCell ⟨z.qb, 0, none⟩ (.slice A' q'.length c')) B z n out g A' c' q' := by
  obtain ⟨a', ha1, ha2⟩ := ha
  have lo := (Array.getElem?_eq_some_iff.1 h.bo).1
  have lg := (Array.getElem?_eq_some_iff.1 h.bg).1
  have lq := (Array.getElem?_eq_some_iff.1 h.bq).1
  have lO := h.bO.lt
  have hqa : ∀ b, A'.map (·.block) = some b → b ≠ z.ob ∧ b ≠ z.gb ∧ b ≠ z.qb ∧ b ≠ z.O := by
    intro b hb
    rw [ha1] at hb
    obtain rfl : a'.block = b := by simpa using hb
    rcases ha2 with ⟨a, e1, e2⟩ | hge
    · exact h.qa _ (by rw [e1]; exact congrArg some e2)
    · exact ⟨by omega, by omega, by omega, by omega⟩
  have hne : ∀ b, (∀ b', A.map (·.block) = some b' → b' ≠ b) → some b ≠ A.map (·.block) := fun b hb e => hb b e.symm rfl
  have go : w1.heap[z.ob]? = w.heap[z.ob]? := hg.block _ lo (hne _ fun b hb => (h.qa b hb).1)
  have gg : w1.heap[z.gb]? = w.heap[z.gb]? := hg.block _ lg (hne _ fun b hb => (h.qa b hb).2.1)
  have gq : w1.heap[z.qb]? = w.heap[z.qb]? := hg.block _ lq (hne _ fun b hb => (h.qa b hb).2.2.1)
  have gO : w1.heap[z.O]? = w.heap[z.O]? := hg.block _ lO (hne _ fun b hb => (h.qa b hb).2.2.2)
  exact ⟨(Below.heap_setCell _ _ _ _ ok.ne.2.1).trans (go.trans h.bo), (Below.heap_setCell _ _ _ _ ok.ne.2.2.2.1).trans (gg.trans h.bg), heap_setCell_same w1 z.qb 0 _ _ _ (gq.trans h.bq),
    (Below.heap_setCell _ _ _ _ ok.ne.2.2.2.2.2.symm).trans (gO.trans h.bO), h.lo, hr.other (fun e => (hqa _ e).2.2.1 rfl) _, hqa⟩
end
theorem results_none {P : Program} {fn : Func} (h : fn.results = #[]) (tmps : Array Value) (w : World) : (results fn tmps).run P w = .ok (.tuple #[]) w := by
  simp [results, h]
def Num1Post (B : Nat) (z : NLoc) (n : Nat) (out : List Int) (g : Int) (q : List Int) (b : Nat) (w : World) (e : Ending) (w' : World) : Prop :=
  e = .returned (.tuple #[]) ∧ Below B w w' ∧ ∃ A' c', NumM w' B z n (vis out g b) g A' c' (visq out b q)
theorem num1_c {w : World} {B : Nat} {z : NLoc} {n : Nat} {out : List Int} {g : Int} {A : Option Addr} {c : Nat} {q : List Int} (h : NumM w B z n out g A c q) (ok : z.ok B) {b : Nat} (hb : b < n) (hn : n ≤ 100000) (hq : q.length < 100000) :
    Calls Tryz.prog 84 #[.int .i64 b, .pointer (some ⟨z.ob, 0, none⟩), .pointer (some ⟨z.gb, 0, none⟩), .pointer (some ⟨z.qb, 0, none⟩)] w (Num1Post B z n out g q b w) := by
  have c0 := h.c0
  have c1 := h.c1
  have co := h.bO.cell (j := b) (by rw [h.lo]; exact hb)
  have cf := h.bO.frozen b
  have HB : B ≤ w.heap.size := by have := h.bO.lt; have := ok.le; omega
  have n1 : z.O ≠ z.qb := ok.ne.2.2.2.2.2.symm
  by_cases hneg : gi out b < 0
  · have h1 := h.seto ok hb g
    have H := Lib.hid h1; clear h1
    have H0 := Lib.hid h; clear h
    have OK := Lib.hid ok; clear ok
    go_enter Tryz.func84, Tryz.ntmps84
    have c2 := H.out.c2
    have fq := H.out.f2
    go_wp2_with (at_builtin; refine wpList_append_int rfl _ _ rfl (H.out.keep ((Below.refl _ _).alloc (Nat.le_refl _) (.cells #[.int .i64 b] 3))).gr (b : Int) _ _ rfl rfl ?_ (by omega) ?_ ?_)
    · have e := World.alloc_heap_new (w.setCell ⟨z.O, b, none⟩ (.int .i64 g)) (.cells #[.int .i64 b] 3)
      rw [World.size_setCell] at e
      exact block_cell e (j := 0) (by simp)
    · rw [World.size_alloc, World.size_setCell]; omega
    intro A' c' w1 g1 g2 a' ha1 ha2
    have HG := Lib.hid (And.intro g1 (And.intro g2 (And.intro ha1 ha2)))
    have H2 := Lib.hid (H.out.keep ((Below.refl _ _).alloc (Nat.le_refl _) (.cells #[.int .i64 b] 3)))
    have lq := (Array.getElem?_eq_some_iff.1 H2.out.bq).1
    have gq : w1.heap[z.qb]? = _ := (g2.block z.qb lq (fun e => (H.out.qa _ e.symm).2.2.1 rfl)).trans H2.out.bq
    have c3 : w1.cell? ⟨z.qb, 0, none⟩ = some (.slice A q.length c) := by simp [World.cell?, gq]
    have f3 : w1.frozen? ⟨z.qb, 0, none⟩ = false := by simp [World.frozen?, gq]
    clear g1 g2 ha1 ha2 gq c2 fq c0 c1 co cf
    go_wp2_with fail
    refine bodyPost_end (v := .tuple #[]) (results_none Tryz.results84 _ _) rfl ⟨rfl, ?_, A', c', ?_⟩
    · obtain ⟨g1, g2, ha1, ha2⟩ := HG.out
      obtain ⟨l1, l2, l3, l4⟩ := OK.out.le
      refine Below.setCell ?_ l3 _
      have b1 : Below B w ((w.setCell ⟨z.O, b, none⟩ (.int .i64 g)).alloc (.cells #[.int .i64 b] 3)) := ((Below.refl _ _).setCell l4 _).alloc (by rw [World.size_setCell]; exact HB) _
      refine b1.trans ⟨g2.os, g2.tape, g2.output, g2.size, fun k hk => g2.block k (by have := b1.size; omega) (fun e => ?_)⟩
      have := (H.out.gr.lt e.symm).1
      omega
    · obtain ⟨g1, g2, ha1, ha2⟩ := HG.out
      have := H2.out.setq OK.out g2 g1 ⟨a', ha1, ha2.elim (fun e => .inl ⟨_, e, rfl⟩) (fun e => .inr (by rw [e]; simp))⟩
      rw [List.length_append] at this
      rw [vis, visq, if_pos hneg, if_pos hneg]
      exact this
  · have H := Lib.hid h; clear h
    go_enter Tryz.func84, Tryz.ntmps84
    go_wp2_with fail
    refine bodyPost_end (v := .tuple #[]) (results_none Tryz.results84 _ _) rfl ⟨rfl, Below.refl _ _, A, c, by rw [vis, visq, if_neg (by omega), if_neg (by omega)]; exact H.out⟩
structure PMem (w : World) (tb lb ab bb n : Nat) (l : List Int) (last : List Ar) (bef : List Nat) : Prop where
  blk : w.heap[tb]? = some (.cells #[.slice (some ⟨lb, 0, none⟩) n n, .slice (some ⟨ab, 0, none⟩) n n, .slice (some ⟨bb, 0, none⟩) n n] 121 (0, 0))
  len : IntB w lb l
  lst : FlB encA 124 w ab last
  bfr : IntB w bb (bef.map Int.ofNat)
  ll : l.length = n
  la : last.length = n
  lb' : bef.length = n
section
variable {w : World} {tb lb ab bb n : Nat} {l : List Int} {last : List Ar} {bef : List Nat}
theorem PMem.other (h : PMem w tb lb ab bb n l last bef) {b i : Nat} (hb : tb ≠ b ∧ lb ≠ b ∧ ab ≠ b ∧ bb ≠ b) (u : Value) : PMem (w.setCell ⟨b, i, none⟩ u) tb lb ab bb n l last bef :=
  ⟨(Below.heap_setCell _ _ _ _ hb.1).trans h.blk, h.len.other hb.2.1 u, FlB.other h.lst hb.2.2.1 u, h.bfr.other hb.2.2.2 u, h.ll, h.la, h.lb'⟩
theorem PMem.drewN (h : PMem w tb lb ab bb n l last bef) (k : Nat) : PMem (w.drewN k) tb lb ab bb n l last bef := ⟨h.blk, h.len, h.lst, h.bfr, h.ll, h.la, h.lb'⟩
theorem PMem.c0 (h : PMem w tb lb ab bb n l last bef) : w.cell? ⟨tb, 0, none⟩ = some (.slice (some ⟨lb, 0, none⟩) n n) := by simp [World.cell?, h.blk]
theorem PMem.c1 (h : PMem w tb lb ab bb n l last bef) : w.cell? ⟨tb, 1, none⟩ = some (.slice (some ⟨ab, 0, none⟩) n n) := by simp [World.cell?, h.blk]
theorem PMem.c2 (h : PMem w tb lb ab bb n l last bef) : w.cell? ⟨tb, 2, none⟩ = some (.slice (some ⟨bb, 0, none⟩) n n) := by simp [World.cell?, h.blk]
theorem PMem.lc (h : PMem w tb lb ab bb n l last bef) {v : Nat} (hv : v < n) : w.cell? ⟨lb, v, none⟩ = some (.int .i64 (gi l v)) := h.len.cell (by rw [h.ll]; exact hv)
theorem gi_ofNat (xs : List Nat) (i : Nat) : gi (xs.map Int.ofNat) i = (gn xs i : Int) := by
  unfold gi gn
  rw [List.getD_eq_getElem?_getD, List.getD_eq_getElem?_getD, List.getElem?_map]
  cases xs[i]? <;> rfl
theorem PMem.bc (h : PMem w tb lb ab bb n l last bef) {v : Nat} (hv : v < n) : w.cell? ⟨bb, v, none⟩ = some (.int .i64 (gn bef v)) := by
  rw [h.bfr.cell (by rw [List.length_map, h.lb']; exact hv), gi_ofNat]
theorem PMem.ac (h : PMem w tb lb ab bb n l last bef) {v : Nat} (hv : v < n) {i : Nat} (hi : i < 5) : w.cell? ⟨ab, v * 5 + i, none⟩ = (encA (ga last v))[i]? := by
  have hv' : v < last.length := by rw [h.la]; exact hv
  rw [FlB.cell encA_len h.lst hi hv']
  unfold ga
  rw [List.getD_eq_getElem?_getD, List.getElem?_eq_getElem hv']
  rfl
end
def full (ex : List Int) : List Bool := ex.map fun x => decide (0 ≤ x)
theorem gb_full {ex : List Int} {v : Nat} (hv : v < ex.length) : gb (full ex) v = decide (0 ≤ gi ex v) := by
  unfold gb full gi
  simp [List.getD_eq_getElem?_getD, hv]
def LoopSel (w : World) (lb n : Nat) (l ex : List Int) (fr : List (Nat × Value)) (a : Act) (w' : World) : Prop :=
  ∃ (i : Nat) (k : Int), i ≤ n ∧ MinK n l (full ex) i k ∧ w' = w ∧ FrD 160 [] ((17, .slice (some ⟨lb, 0, none⟩) n n) :: (18, .int .i64 n) :: (19, .int .i64 i) :: (5, .int .i64 k) :: fr) a
theorem push_find {m n tb lb ab bb src : Nat} {v : Loc} {es : List Ed} {x p ex l : List Int} {last : List Ar} {bef : List Nat} {W : World} {Q : Exit → Act → World → Prop} {u2 u3 u6 u7 u8 u9 u10 u11 u12 u13 u14 u15 u16 u17 u18 u19 u20 u21 u22 u23 u24 u25 u26 u27 u28 u29 u30 u31 u32 u33 u34 u35 u36 u37 u38 u39 u40 u41 u42 u43 u44 u45 u46 u47 u48 u49 u50 u51 u52 u53 u54 u55 u56 u57 u58 u59 u60 u61 u62 u63 u64 u65 u66 u67 u68 u69 u70 u71 u72 u73 u74 u75 u76 u77 u78 u79 u80 u81 u82 u83 u84 u85 u86 u87 u88 u89 u90 u91 u92 u93 u94 u95 u96 u97 u98 u99 u100 u101 u102 u103 u104 u105 u106 u107 u108 u109 u110 u111 u112 u113 u114 u115 u116 u117 u118 u119 u120 u121 u122 u123 u124 u125 u126 u127 u128 u129 u130 u131 u132 u133 u134 u135 u136 u137 u138 u139 u140 u141 u142 u143 u144 u145 u146 u147 u148 u149 u150 u151 u152 u153 u154 u155 u156 u157 u158 u159 : Value}
    (hT : PMem W tb lb ab bb n l last bef) (hS : SvM W v n es x p ex) (hn : n ≤ 1000)
    (hQ : ∀ a k, MinK n l (full ex) n k → FrD 160 [] [(0, .pointer (some ⟨v.S, 0, none⟩)), (1, .int .i64 src), (4, .pointer (some ⟨tb, 0, none⟩)), (5, .int .i64 k)] a → Q .normal a W) :
    Code.wpIn Fence.wide m Tryz.prog (Tryz.f53.sub [1, 1, 0]) Q ⟨#[.pointer (some ⟨v.S, 0, none⟩), .int .i64 src, u2, u3, .pointer (some ⟨tb, 0, none⟩), .int .i64 (-1), u6, u7, u8, u9, u10, u11, u12, u13, u14, u15, u16, u17, u18, u19, u20, u21, u22, u23, u24, u25, u26, u27, u28, u29, u30, u31, u32, u33, u34, u35, u36, u37, u38, u39, u40, u41, u42, u43, u44, u45, u46, u47, u48, u49, u50, u51, u52, u53, u54, u55, u56, u57, u58, u59, u60, u61, u62, u63, u64, u65, u66, u67, u68, u69, u70, u71, u72, u73, u74, u75, u76, u77, u78, u79, u80, u81, u82, u83, u84, u85, u86, u87, u88, u89, u90, u91, u92, u93, u94, u95, u96, u97, u98, u99, u100, u101, u102, u103, u104, u105, u106, u107, u108, u109, u110, u111, u112, u113, u114, u115, u116, u117, u118, u119, u120, u121, u122, u123, u124, u125, u126, u127, u128, u129, u130, u131, u132, u133, u134, u135, u136, u137, u138, u139, u140, u141, u142, u143, u144, u145, u146, u147, u148, u149, u150, u151, u152, u153, u154, u155, u156, u157, u158, u159], []⟩ W := by
  have HQ := Lib.hid hQ; clear hQ
  have HT := Lib.hid hT; clear hT
  have HS := Lib.hid hS; clear hS
  have c0 := HT.out.c0
  show Code.wpIn Fence.wide m Tryz.prog (.seq (Tryz.f53.sub [1, 1, 0, 0]) (.block 0 (.loop (Tryz.f53.sub [1, 1, 0, 1, 0, 0])))) _ _ _
  refine wpIn_seq ?_
  conv => arg 4; whnf
  dsimp only
  gi_wp2_with fail
  refine wpIn_loop (LoopSel W lb n l ex [(0, .pointer (some ⟨v.S, 0, none⟩)), (1, .int .i64 src), (4, .pointer (some ⟨tb, 0, none⟩))]) (fun a _ => n - (intOf (a.tmps.getD 19 undef)).toNat) ⟨0, -1, Nat.zero_le _, ⟨by omega, by omega, fun _ v hv => by omega, fun h => by omega⟩, rfl, by (refine ⟨rfl, rfl, ?_⟩; repeat (first | exact trivial | refine ⟨rfl, ?_⟩))⟩ ?_
  rintro a wr ⟨i, k, hi, hM, rfl, hfr⟩
  obtain ⟨t, rfl⟩ := hfr.open
  clear hfr
  generalize hmu : n - (intOf ((⟨frL 160 _ t, []⟩ : Act).tmps.getD 19 undef)).toNat = mu
  have hmu' : n - i = mu := by rw [← hmu]; rfl
  clear hmu
  show Code.wpIn Fence.wide m Tryz.prog (.seq (Tryz.f53.sub [1, 1, 0, 1, 0, 0, 0]) (.seq (Tryz.f53.sub [1, 1, 0, 1, 0, 0, 1, 0]) (.seq (.block 1 (Tryz.f53.sub [1, 1, 0, 1, 0, 0, 1, 1, 0, 0])) (Tryz.f53.sub [1, 1, 0, 1, 0, 0, 1, 1, 1])))) _ ⟨#[.pointer (some ⟨v.S, 0, none⟩), .int .i64 src, (t 2), (t 3), .pointer (some ⟨tb, 0, none⟩), .int .i64 k, (t 6), (t 7), (t 8), (t 9), (t 10), (t 11), (t 12), (t 13), (t 14), (t 15), (t 16), .slice (some ⟨lb, 0, none⟩) n n, .int .i64 n, .int .i64 i, (t 20), (t 21), (t 22), (t 23), (t 24), (t 25), (t 26), (t 27), (t 28), (t 29), (t 30), (t 31), (t 32), (t 33), (t 34), (t 35), (t 36), (t 37), (t 38), (t 39), (t 40), (t 41), (t 42), (t 43), (t 44), (t 45), (t 46), (t 47), (t 48), (t 49), (t 50), (t 51), (t 52), (t 53), (t 54), (t 55), (t 56), (t 57), (t 58), (t 59), (t 60), (t 61), (t 62), (t 63), (t 64), (t 65), (t 66), (t 67), (t 68), (t 69), (t 70), (t 71), (t 72), (t 73), (t 74), (t 75), (t 76), (t 77), (t 78), (t 79), (t 80), (t 81), (t 82), (t 83), (t 84), (t 85), (t 86), (t 87), (t 88), (t 89), (t 90), (t 91), (t 92), (t 93), (t 94), (t 95), (t 96), (t 97), (t 98), (t 99), (t 100), (t 101), (t 102), (t 103), (t 104), (t 105), (t 106), (t 107), (t 108), (t 109), (t 110), (t 111), (t 112), (t 113), (t 114), (t 115), (t 116), (t 117), (t 118), (t 119), (t 120), (t 121), (t 122), (t 123), (t 124), (t 125), (t 126), (t 127), (t 128), (t 129), (t 130), (t 131), (t 132), (t 133), (t 134), (t 135), (t 136), (t 137), (t 138), (t 139), (t 140), (t 141), (t 142), (t 143), (t 144), (t 145), (t 146), (t 147), (t 148), (t 149), (t 150), (t 151), (t 152), (t 153), (t 154), (t 155), (t 156), (t 157), (t 158), (t 159)], []⟩ _
  refine wpIn_seq ?_
  conv => arg 4; whnf
  dsimp only
  have HM := Lib.hid hM
  obtain ⟨klo, khi⟩ : -1 ≤ k ∧ k < n := ⟨hM.lo, hM.hi⟩
  clear hM
  by_cases hlt : i < n
  · gi_wp2_with fail
    conv => arg 4; whnf
    gi_wp2_with fail
    conv => arg 4; whnf
    have cl := HT.out.lc hlt
    have s4 := HS.out.c4
    have ce := HS.out.em.cell (j := i) (by rw [← HS.out.lene]; exact hlt)
    have hfu := gb_full (ex := ex) (v := i) (by rw [← HS.out.lene]; exact hlt)
    have HFU := Lib.hid hfu; clear hfu
    rename_i K4 hK4
    have done3 : ∀ (k3 : Int) (a3 : Act), MinK n l (full ex) (i + 1) k3 →
        FrD 160 [] ((17, .slice (some ⟨lb, 0, none⟩) n n) :: (18, .int .i64 n) :: (19, .int .i64 i) :: (5, .int .i64 k3) :: [(0, .pointer (some ⟨v.S, 0, none⟩)), (1, .int .i64 src), (4, .pointer (some ⟨tb, 0, none⟩))]) a3 → K4 a3 wr := by
      intro k3 a3 h1 h5
      refine hK4 _ _ ?_
      obtain ⟨t3, rfl⟩ := h5.open
      show Code.wpIn Fence.wide m Tryz.prog _ _ ⟨#[.pointer (some ⟨v.S, 0, none⟩), .int .i64 src, (t3 2), (t3 3), .pointer (some ⟨tb, 0, none⟩), .int .i64 k3, (t3 6), (t3 7), (t3 8), (t3 9), (t3 10), (t3 11), (t3 12), (t3 13), (t3 14), (t3 15), (t3 16), .slice (some ⟨lb, 0, none⟩) n n, .int .i64 n, .int .i64 i, (t3 20), (t3 21), (t3 22), (t3 23), (t3 24), (t3 25), (t3 26), (t3 27), (t3 28), (t3 29), (t3 30), (t3 31), (t3 32), (t3 33), (t3 34), (t3 35), (t3 36), (t3 37), (t3 38), (t3 39), (t3 40), (t3 41), (t3 42), (t3 43), (t3 44), (t3 45), (t3 46), (t3 47), (t3 48), (t3 49), (t3 50), (t3 51), (t3 52), (t3 53), (t3 54), (t3 55), (t3 56), (t3 57), (t3 58), (t3 59), (t3 60), (t3 61), (t3 62), (t3 63), (t3 64), (t3 65), (t3 66), (t3 67), (t3 68), (t3 69), (t3 70), (t3 71), (t3 72), (t3 73), (t3 74), (t3 75), (t3 76), (t3 77), (t3 78), (t3 79), (t3 80), (t3 81), (t3 82), (t3 83), (t3 84), (t3 85), (t3 86), (t3 87), (t3 88), (t3 89), (t3 90), (t3 91), (t3 92), (t3 93), (t3 94), (t3 95), (t3 96), (t3 97), (t3 98), (t3 99), (t3 100), (t3 101), (t3 102), (t3 103), (t3 104), (t3 105), (t3 106), (t3 107), (t3 108), (t3 109), (t3 110), (t3 111), (t3 112), (t3 113), (t3 114), (t3 115), (t3 116), (t3 117), (t3 118), (t3 119), (t3 120), (t3 121), (t3 122), (t3 123), (t3 124), (t3 125), (t3 126), (t3 127), (t3 128), (t3 129), (t3 130), (t3 131), (t3 132), (t3 133), (t3 134), (t3 135), (t3 136), (t3 137), (t3 138), (t3 139), (t3 140), (t3 141), (t3 142), (t3 143), (t3 144), (t3 145), (t3 146), (t3 147), (t3 148), (t3 149), (t3 150), (t3 151), (t3 152), (t3 153), (t3 154), (t3 155), (t3 156), (t3 157), (t3 158), (t3 159)], []⟩ _
      conv => arg 4; whnf
      dsimp only
      have H1 := Lib.hid h1; clear h1
      gi_wp2_with fail
      refine ⟨⟨i + 1, k3, by omega, H1.out, rfl, by (refine ⟨rfl, rfl, ?_⟩; repeat (first | exact trivial | refine ⟨rfl, ?_⟩))⟩, ?_⟩
      show n - ((i : Int) + 1).toNat < mu
      omega
    have D3 := Lib.hid done3; clear done3 hK4
    by_cases hd : gi ex i < 0
    · have hg := HFU.out
      rw [show decide (0 ≤ gi ex i) = false by simpa using hd] at hg
      have HG := Lib.hid hg; clear hg
      by_cases hf : gi l i < 1152921504606846976
      · by_cases hk : k < 0
        · gi_wp2_with fail
          exact D3.out i _ (HM.out.take hlt HG.out hf (.inl hk)) (by (refine ⟨rfl, rfl, ?_⟩; repeat (first | exact trivial | refine ⟨rfl, ?_⟩)))
        · obtain ⟨k', rfl⟩ : ∃ k' : Nat, k = k' := ⟨k.toNat, by omega⟩
          have hkn : k' < n := by omega
          have ck := HT.out.lc hkn
          by_cases hll : gi l i < gi l k'
          · gi_wp2_with fail
            exact D3.out i _ (HM.out.take hlt HG.out hf (.inr hll)) (by (refine ⟨rfl, rfl, ?_⟩; repeat (first | exact trivial | refine ⟨rfl, ?_⟩)))
          · gi_wp2_with fail
            exact D3.out _ _ (HM.out.skip (.inr (.inr ⟨by omega, by rw [Int.toNat_natCast]; omega⟩))) (by (refine ⟨rfl, rfl, ?_⟩; repeat (first | exact trivial | refine ⟨rfl, ?_⟩)))
      · gi_wp2_with fail
        exact D3.out _ _ (HM.out.skip (.inr (.inl (by unfold far; omega)))) (by (refine ⟨rfl, rfl, ?_⟩; repeat (first | exact trivial | refine ⟨rfl, ?_⟩)))
    · have hg := HFU.out
      rw [show decide (0 ≤ gi ex i) = true by simp; omega] at hg
      have HG := Lib.hid hg; clear hg
      gi_wp2_with fail
      exact D3.out _ _ (HM.out.skip (.inl HG.out)) (by (refine ⟨rfl, rfl, ?_⟩; repeat (first | exact trivial | refine ⟨rfl, ?_⟩)))
  · gi_wp2_with fail
    conv => arg 4; whnf
    gi_wp2_with fail
    have : i = n := by omega
    subst this
    exact HQ.out _ _ HM.out (by (refine ⟨rfl, rfl, ?_⟩; repeat (first | exact trivial | refine ⟨rfl, ?_⟩)))
def RowsM (w : World) (nb n : Nat) (rows : Nat → List Nat) : Prop :=
  ∃ R, w.cell? ⟨nb, 0, none⟩ = some (.slice (some ⟨R, 0, none⟩) n n) ∧ ∀ u, u < n → ∃ A c, w.cell? ⟨R, u, none⟩ = some (.slice A (rows u).length c) ∧ RdI w A ((rows u).map Int.ofNat)
theorem visit_len (g : Int) : ∀ (l : List Nat) (s : List Int × List Int), (l.foldl (visit g) s).1.length = s.1.length ∧ (l.foldl (visit g) s).2.length ≤ s.2.length + l.length := by
  intro l
  induction l with
  | nil => intro s; simp
  | cons b l ih =>
    intro s
    obtain ⟨h1, h2⟩ := ih (visit g s b)
    rw [List.foldl_cons, List.length_cons]
    have e1 : (visit g s b).1.length = s.1.length := by unfold visit vis; simp only; split <;> simp
    have e2 : (visit g s b).2.length ≤ s.2.length + 1 := by unfold visit visq; simp only; split <;> simp
    omega
def Num2Post (B : Nat) (z : NLoc) (n : Nat) (g : Int) (s : List Int × List Int) (w : World) (e : Ending) (w' : World) : Prop :=
  e = .returned (.tuple #[]) ∧ Below B w w' ∧ ∃ A' c', NumM w' B z n s.1 g A' c' s.2
def N2Loop (B : Nat) (z : NLoc) (n : Nat) (g : Int) (out q : List Int) (row : List Nat) (W : World) (k : Nat) (w : World) : Prop :=
  Below B W w ∧ ∃ A c, NumM w B z n ((row.take k).foldl (visit g) (out, q)).1 g A c ((row.take k).foldl (visit g) (out, q)).2
theorem num2_c {W0 w : World} {z : NLoc} {n nb : Nat} {rows : Nat → List Nat} {out : List Int} {g : Int} {A : Option Addr} {c : Nat} {q : List Int} (hR : RowsM W0 nb n rows) (hB : Below W0.heap.size W0 w) (h : NumM w W0.heap.size z n out g A c q) (ok : z.ok W0.heap.size)
    {a : Nat} (ha : a < n) (hn : n ≤ 100000) (hq : q.length + (rows a).length < 100000) (hrow : ∀ b, b ∈ rows a → b < n) :
    Calls Tryz.prog 75 #[.int .i64 a, .func (.func 84) #[] #[.pointer (some ⟨z.ob, 0, none⟩), .pointer (some ⟨z.gb, 0, none⟩), .pointer (some ⟨z.qb, 0, none⟩)], .pointer (some ⟨nb, 0, none⟩)] w (Num2Post W0.heap.size z n g ((rows a).foldl (visit g) (out, q)) w) := by
  have hcf : ∀ args w, (callFunc 84 args).run Tryz.prog w = .ok (.enter 84 args) w := enters_fn Tryz.func84 (by kernel_rfl) rfl
  obtain ⟨R, r1, r2⟩ := hR
  obtain ⟨RA, rc, r3, r4⟩ := r2 a ha
  have HR4 := Lib.hid r4
  clear r2 r4
  have r1 := cell_keep hB r1
  have r3 := cell_keep hB r3
  have HB := Lib.hid hB; clear hB
  have H := Lib.hid h; clear h
  have OK := Lib.hid ok; clear ok
  have HROW := Lib.hid hrow; clear hrow
  obtain ⟨row, hrow⟩ : ∃ row, row = rows a := ⟨_, rfl⟩
  rw [← hrow] at r3 HR4 HROW hq ⊢
  clear hrow
  go_enter Tryz.func75, Tryz.ntmps75
  go_wp2_with fail
  go_loopw [12] (fun v12 wr => ∃ k : Nat, v12 = .int .i64 k ∧ k ≤ row.length ∧ N2Loop W0.heap.size z n g out q row w k wr) (fun v12 _ => row.length - (intOf v12).toNat)
  case atStart => exact ⟨0, rfl, Nat.zero_le _, Below.refl _ _, A, c, H.out⟩
  case round =>
    obtain ⟨k, rfl, hk, hL⟩ := hrel
    have HL := Lib.hid hL; clear hL
    by_cases hlt : k < row.length
    · obtain ⟨hBw, A1, c1, hN⟩ := HL.out
      obtain ⟨b, o, rfl, hc⟩ := (HR4.out.keep (HB.out.trans hBw)) k (by rw [List.length_map]; exact hlt)
      rw [gi_ofNat] at hc
      have hbn : gn row k < n := HROW.out _ (by rw [gn_get hlt]; exact List.getElem_mem hlt)
      have hlen := (visit_len g (row.take k) (out, q)).2
      rw [List.length_take] at hlen
      have HC := num1_c hN OK.out hbn hn (by simp only at hlen; omega)
      have HC := Lib.hid HC
      have hst : (row.take (k + 1)).foldl (visit g) (out, q) = visit g ((row.take k).foldl (visit g) (out, q)) (gn row k) := by
        rw [List.take_succ_eq_append_getElem hlt, List.foldl_append, gn_get hlt]; rfl
      have HST := Lib.hid hst
      have HBW := Lib.hid hBw
      clear hBw hN hst hlen
      go_wp2_with fail
      refine HC.out.mono ?_
      rintro e w' ⟨rfl, k1, A2, c2, k2⟩
      have K2 := Lib.hid (And.intro k1 k2); clear k1 k2
      go_wp2_with fail
      go_roundw
      case rel => exact ⟨k + 1, by go_num, by omega, HBW.out.trans K2.out.1, A2, c2, by rw [HST.out]; exact K2.out.2⟩
      case measure => simp [intOf]; omega
    · have : k = row.length := by omega
      subst this
      go_wp2_with fail
      obtain ⟨k1, A2, c2, k2⟩ := HL.out
      rw [List.take_length] at k2
      exact bodyPost_end (v := .tuple #[]) (results_none Tryz.results75 _ _) rfl ⟨rfl, k1, A2, c2, k2⟩
end Go.Proofs.YtjnpchoinncbnaaGreat
end
