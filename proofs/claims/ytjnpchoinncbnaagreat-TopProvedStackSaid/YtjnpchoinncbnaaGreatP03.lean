/- Proves parts of the statement, each under the conditions that its theorem states: Regions of an open order that make several things: what each one made is found by its slot's value; Single operations, each as a law on its run; Frames by the slots that matter; Slices of the call's own that grow, and are cut at their head. -/
import Derived.Test.YtjnpchoinncbnaaGreatP02
import Derived.Deep.MidRow
import Derived.Laws.IdiomCopy
import Derived.RangeFuncBound
import Derived.ArgAppend
set_option linter.unusedSimpArgs false
set_option linter.unusedVariables false
set_option maxHeartbeats 4000000
set_option maxRecDepth 100000
section
namespace Go
namespace Fam
open RowKit
variable {P : Program} {ops : Array Oper} {o : Oper} {rest : List Oper} {i : Nat}
structure GrT (ops : Array Oper) (T : (Nat → Value) → Nat → World → Prop) : Prop where
  keep : ∀ V j w w', T V j w → Below w.heap.size w w' → T V j w'
  set : ∀ L V w i u j, L i = false → Cl ops L → L j = true → T V j w → T (setV V i u) j w
def Ahead (ops : Array Oper) (fin : (Nat → Bool) → Bool) (i : Nat) : Prop := (∀ L, L i = false → Cl ops L → fin L = false) ∧ ∀ L, fin (upd L i) = fin L
theorem ahead_last {n : Nat} (h : (dep ops n i && decide (i ≠ n)) = true) : Ahead ops (fun L => L n) i := by
  rw [Bool.and_eq_true, decide_eq_true_eq] at h
  exact ⟨fun L hL hc => hc.not h.1 hL, fun L => upd_ne _ (fun e => h.2 e.symm)⟩
def GrC (B : Nat) (w0 : World) (fin : (Nat → Bool) → Bool) (T : (Nat → Value) → Nat → World → Prop) (E : (Nat → Value) → World → Prop) (L : Nat → Bool) (V : Nat → Value) (w : World) : Prop :=
  if fin L = true then E V w else Below B w0 w ∧ ∀ j, L j = true → T V j w
section
variable {B : Nat} {w0 : World} {fin : (Nat → Bool) → Bool} {T : (Nat → Value) → Nat → World → Prop} {E : (Nat → Value) → World → Prop} {R : ((Nat → Value) → Act) → Prop} {A : (Nat → Value) → Act}
theorem GrC.before {L : Nat → Bool} {V : Nat → Value} {w : World} (hn : fin L = false) (h : GrC B w0 fin T E L V w) : Below B w0 w ∧ ∀ j, L j = true → T V j w := by
  unfold GrC at h; rw [hn] at h; simpa using h
theorem GrC.start {V : Nat → Value} (hn : fin (fun _ => false) = false) {w : World} (h : Below B w0 w) : GrC B w0 fin T E (fun _ => false) V w := by
  unfold GrC; rw [hn, if_neg (by simp)]; exact ⟨h, fun _ h => by cases h⟩
theorem GrC.up {L : Nat → Bool} {V : Nat → Value} {w : World} (hi : ∀ L, fin (upd L i) = fin L) (hT : ∀ V w, T V i w) (h : GrC B w0 fin T E L V w) : GrC B w0 fin T E (upd L i) V w := by
  unfold GrC at *
  rw [hi]
  split
  · rename_i hl; rw [if_pos hl] at h; exact h
  · rename_i hl
    rw [if_neg hl] at h
    refine ⟨h.1, fun j hj => ?_⟩
    by_cases e : j = i
    · subst e; exact hT _ _
    · rw [upd_ne _ e] at hj; exact h.2 j hj
theorem gr_fix (hi : Ahead ops fin i) (hg : o.guard = none) (v : Value) (hT : ∀ V w, T V i w) (hx : ∀ V w, Below B w0 w → (execOp (A V).eval o).run P w = .ok (.value v) w)
    (h : wpRel P ops (GrC B w0 fin T E) R rest (i + 1) (fun V => (A V).put o.dst v)) : wpRel P ops (GrC B w0 fin T E) R (o :: rest) i A :=
  rel_fix hg v (fun V L w hL _ hc hC => by
    have hn := hi.1 L hL hc
    rw [hx V w (hC.before hn).1]
    exact ⟨rfl, hC.up hi.2 hT⟩) h
theorem gr_free (hG : GrT ops T) (hi : Ahead ops fin i) (hB : B ≤ w0.heap.size) (hg : o.guard = none)
    (hx : ∀ V L w, Below B w0 w → (∀ j, L j = true → T V j w) → Waits o L → upon P (fun u w' => Below w.heap.size w w' ∧ ∀ V', (∀ j, j ≠ i → V' j = V j) → V' i = u → T V' i w') ((execOp (A V).eval o).run P w))
    (h : wpRel P ops (GrC B w0 fin T E) R rest (i + 1) (fun V => (A V).put o.dst (V i))) : wpRel P ops (GrC B w0 fin T E) R (o :: rest) i A := by
  refine rel_free hg (fun V L w hL hw hc hC => ?_) h
  have hn := hi.1 L hL hc
  obtain ⟨h1, h2⟩ := hC.before hn
  refine upon_mono (fun u w' ⟨k1, k2⟩ => ?_) (hx V L w h1 h2 hw)
  unfold GrC
  rw [hi.2, hn, if_neg (by simp)]
  refine ⟨h1.trans (k1.mono (Nat.le_trans hB h1.size)), fun j hj => ?_⟩
  by_cases e : j = i
  · subst e
    exact k2 _ (fun j hj => setV_ne _ _ hj) (setV_same _ _ _)
  · rw [upd_ne _ e] at hj
    exact hG.keep _ _ _ _ (hG.set L V w i u j hL hc hj (h2 j hj)) k1
theorem gr_last {n : Nat} (hg : o.guard = none) (hd : o.dst = none)
    (hx : ∀ V w, Below B w0 w → (∀ j, j < n → T V j w) → upon P (fun u w' => u = undef ∧ E V w') ((execOp (A V).eval o).run P w))
    (hw : ∀ j, j < n → dep ops n j = true) (ho : ops[n]? = some o) {Q : Exit → Act → World → Prop} (hE : ∀ V w, E V w → Q .normal (A V) w) {m : Nat} (hm : n < m) :
    wpRel P ops (GrC B w0 (fun L => L n) T E) (fun A => ∀ V (L : Nat → Bool) w', (∀ i, i < m → L i = true) → GrC B w0 (fun L => L n) T E L V w' → Q .normal (A V) w') [o] n A := by
  refine rel_fix hg undef (fun V L w hL hwt hc hC => ?_) ?_
  · obtain ⟨h1, h2⟩ := hC.before hL
    have hall : ∀ j, j < n → T V j w := fun j hj => by
      refine h2 j ?_
      cases hLj : L j with
      | true => rfl
      | false =>
        have := hw j hj
        unfold dep at this
        rw [ho] at this
        simp only [Option.map_some, Option.getD_some] at this
        obtain ⟨e, he, hb⟩ := Array.any_eq_true'.1 this
        simp only [Bool.and_eq_true, beq_iff_eq] at hb
        have := hwt e he hb.1
        rw [hb.2, hLj] at this
        cases this
    refine upon_mono (fun u w' ⟨k1, k2⟩ => ⟨k1, ?_⟩) (hx V w h1 hall)
    unfold GrC
    rw [if_pos (upd_same L n)]
    exact k2
  · intro V L w' hL hC
    unfold GrC at hC
    rw [if_pos (hL n hm)] at hC
    have := hE V w' hC
    rw [hd]
    exact this
end
end Fam
end Go
end
section
namespace Go
namespace Fam
open RowKit
variable {P : Program} {ρ : Operand → Value} {o : Oper} {w : World}
theorem ex_loadN (ty : TypeId) (x : Operand) (ho : o.op = .load ty x) (b k : Nat) (hx : ρ x = .pointer (some ⟨b, k, none⟩)) (cs : List Value) (d : TypeDesc) (hc : w.rangeAt b k cs)
    (hu : P.underlying ty = some d) (hd : d.isRow = true) (hi : (P.info? ty).map (·.size) = some cs.length) : (execOp ρ o).run P w = .ok (.value (.agg cs.toArray)) w := by
  unfold execOp
  simp only [ho, hx, Sem.run_bind, run_loadAt_mid w b k ty cs d hc hu hd hi, Result.andThen_ok, Sem.run_pure]
theorem ex_load1 (ty : TypeId) (x : Operand) (ho : o.op = .load ty x) (ad : Addr) (hx : ρ x = .pointer (some ad)) {v : Value} (hc : w.cell? ad = some v) (d : TypeDesc)
    (hu : P.underlying ty = some d) (hd : d.isRow = false) : (execOp ρ o).run P w = .ok (.value v) w := by
  have hagg : (isAgg ty).run P w = .ok false w := by
    unfold isAgg
    rw [Sem.run_bind, run_underlying hu w]
    cases d <;> simp_all
  unfold execOp
  simp only [ho, hx, Instr.loadAt, Instr.sureAddr, Sem.run_bind, Sem.run_pure, Result.andThen_ok, loadVar, hagg]
  simp [hc]
theorem ex_storeN (ty : TypeId) (x y : Operand) (ho : o.op = .store ty x y) (b k : Nat) (cells : Array Value) (hx : ρ x = .pointer (some ⟨b, k, none⟩)) (hy : ρ y = .agg cells)
    (ht : w.there b k cells.size) (hi : (P.info? ty).map (·.size) = some cells.size) (h1 : cells.all (·.oneCell') = true) : (execOp ρ o).run P w = .ok .skip (w.setCells b k cells.toList) := by
  unfold execOp
  simp only [ho, hx, hy, Sem.run_bind, run_storeAt_mid w b k ty cells ht hi h1, Result.andThen_ok, Sem.run_pure]
theorem ex_store1 (ty : TypeId) (x y : Operand) (ho : o.op = .store ty x y) (b k : Nat) (v : Value) (hx : ρ x = .pointer (some ⟨b, k, none⟩)) (hy : ρ y = v)
    {u : Value} (hc : w.cell? ⟨b, k, none⟩ = some u) (hf : w.frozen? ⟨b, k, none⟩ = false) (hi : (P.info? ty).map (·.size) = some 1) (h1 : v.oneCell' = true) (h2 : v.cells = #[v]) : (execOp ρ o).run P w = .ok .skip (w.setCell ⟨b, k, none⟩ v) := by
  have hst := run_storeCells_cells (P := P) b k [v] 0 w (fun j hj => by
    have : j = 0 := by simpa using hj
    subst this; simp [hc]) (fun j hj => by
    have : j = 0 := by simpa using hj
    subst this; simpa using hf) (fun v' hv => by simp at hv; subst hv; exact h1)
  cases hq : P.info? ty with
  | none => simp [hq] at hi
  | some i =>
    have hs : i.size = 1 := by simpa [hq] using hi
    unfold execOp
    simp only [ho, hx, hy, Instr.storeAt, Instr.sureAddr, Sem.run_bind, Sem.run_pure, Result.andThen_ok]
    simp only [Nat.add_zero] at hst
    simp [storeVar, sizeOf, typeInfo, hq, h2, hs, hst, World.setCells]
theorem ex_alloc (ty : TypeId) (ho : o.op = .alloc ty) {z : Value} (hz : (P.info? ty).map (·.zero) = some (some z)) : (execOp ρ o).run P w = .ok (.value (.pointer (some ⟨w.heap.size, 0, none⟩))) (w.alloc (.cells z.cells ty)) := by
  unfold execOp
  simp only [ho, Sem.run_bind]
  cases hq : P.info? ty with
  | none => simp [hq] at hz
  | some i =>
    have hs : i.zero = some z := by simpa [hq] using hz
    simp [Instr.alloc, zeroValue, typeInfo, hq, hs, newVar, newRow]
theorem ex_box (ty : TypeId) (x : Operand) (ho : o.op = .box ty x) {v : Value} (hx : ρ x = v) : (execOp ρ o).run P w = .ok (.value (.pointer (some ⟨w.heap.size, 0, none⟩))) (w.alloc (.cells v.cells ty)) := by
  unfold execOp
  simp only [ho, hx, Sem.run_bind]
  simp [Instr.box, newVar, newRow]
theorem ex_make (ty : TypeId) (x y : Operand) (ho : o.op = .makeSlice ty x y) {a b v : Value} {w' : World} (hx : ρ x = a) (hy : ρ y = b) (h : (Instr.makeSlice ty a b).run P w = .ok v w') : (execOp ρ o).run P w = .ok (.value v) w' := by
  unfold execOp
  simp only [ho, hx, hy, Sem.run_bind, h, Result.andThen_ok, Sem.run_pure]
theorem cellB {w0 w : World} (hb : Below w0.heap.size w0 w) {ad : Addr} {v : Value} (h : w0.cell? ad = some v) : w.cell? ad = some v := (hb.cell (World.block_lt_of_cell? w0 ad h)).trans h
theorem below_setCells {B b : Nat} {a : World} (hb : B ≤ b) : ∀ (vs : List Value) (o : Nat) (w : World), Below B a w → Below B a (w.setCells b o vs) := by
  intro vs
  induction vs with
  | nil => intro o w h; exact h
  | cons v vs ih => intro o w h; rw [World.setCells]; exact ih _ _ (h.setCell hb _)
theorem rangeAt_setCells {b k : Nat} {vs : List Value} {w : World} (h : ∀ j, j < vs.length → (w.cell? ⟨b, k + j, none⟩).isSome = true) : (w.setCells b k vs).rangeAt b k vs := fun j v hj => by
  obtain ⟨h1, h2⟩ := List.getElem?_eq_some_iff.1 hj
  rw [World.cell?_setCells_in b vs k w h j h1, h2]
theorem block_cell {w : World} {b : Nat} {cs : Array Value} {t : TypeId} (h : w.heap[b]? = some (.cells cs t (0, 0))) {j : Nat} (hj : j < cs.size) : w.cell? ⟨b, j, none⟩ = some cs[j] := by
  simp [World.cell?, h, hj]
theorem block_there {w : World} {b : Nat} {cs : Array Value} {t : TypeId} (h : w.heap[b]? = some (.cells cs t (0, 0))) {n : Nat} (hn : n ≤ cs.size) : w.there b 0 n := fun j hj => by
  rw [Nat.zero_add]
  exact ⟨by rw [block_cell h (by omega)]; rfl, by simp [World.frozen?, h]⟩
end Fam
end Go
end
section
namespace Go
namespace Fam
def frAll : List (Nat × Value) → Act → Prop
  | [], _ => True
  | (j, v) :: r, a => a.tmps.getD j undef = v ∧ frAll r a
def FrD (n : Nat) (ds : List Deferred) (l : List (Nat × Value)) (a : Act) : Prop := a.tmps.size = n ∧ a.defers = ds ∧ frAll l a
abbrev Fr (n : Nat) (l : List (Nat × Value)) (a : Act) : Prop := FrD n [] l a
def look (l : List (Nat × Value)) (j : Nat) (d : Value) : Value := match l with
  | [] => d
  | (k, v) :: r => bif Nat.beq k j then v else look r j d
def frL (n : Nat) (l : List (Nat × Value)) (u : Nat → Value) : Array Value := ((List.range n).map fun j => look l j (u j)).toArray
theorem look_eq {l : List (Nat × Value)} {a : Act} (h : frAll l a) (j : Nat) : look l j (a.tmps.getD j undef) = a.tmps.getD j undef := by
  induction l with
  | nil => rfl
  | cons p r ih =>
    obtain ⟨k, v⟩ := p
    obtain ⟨h1, h2⟩ := h
    unfold look
    cases hb : Nat.beq k j with
    | true =>
      have := Nat.eq_of_beq_eq_true hb
      subst this
      exact h1.symm
    | false => exact ih h2
theorem FrD.open {n : Nat} {ds : List Deferred} {l : List (Nat × Value)} {a : Act} (h : FrD n ds l a) : ∃ u, a = ⟨frL n l u, ds⟩ := by
  refine ⟨fun j => a.tmps.getD j undef, ?_⟩
  obtain ⟨h1, h2, h3⟩ := h
  obtain ⟨t, d⟩ := a
  simp only at h1 h2
  subst h2
  congr 1
  apply Array.ext
  · simp [frL, h1]
  · intro i hi1 hi2
    have hlk := look_eq h3 i
    simp only [frL, List.getElem_toArray, List.getElem_map, List.getElem_range]
    rw [hlk]
    simp [Array.getD, hi1]
structure Tch (S : List Nat) (w w' : World) : Prop where
  os : w'.os = w.os
  tape : w'.tape = w.tape
  output : w'.output = w.output
  size : w.heap.size ≤ w'.heap.size
  block : ∀ b, b < w.heap.size → b ∉ S → w'.heap[b]? = w.heap[b]?
section
open RowKit
variable {S : List Nat} {w w1 w2 : World}
theorem Tch.refl (S : List Nat) (w : World) : Tch S w w := ⟨rfl, rfl, rfl, Nat.le_refl _, fun _ _ _ => rfl⟩
theorem Tch.trans (h : Tch S w w1) (k : Tch S w1 w2) : Tch S w w2 :=
  ⟨k.os.trans h.os, k.tape.trans h.tape, k.output.trans h.output, Nat.le_trans h.size k.size, fun b hb hn => (k.block b (Nat.lt_of_lt_of_le hb h.size) hn).trans (h.block b hb hn)⟩
theorem Tch.mono {S' : List Nat} (h : Tch S w w1) (hs : ∀ b, b ∈ S → b ∈ S' ∨ w.heap.size ≤ b) : Tch S' w w1 :=
  ⟨h.os, h.tape, h.output, h.size, fun b hb hn => h.block b hb fun hm => (hs b hm).elim hn (fun hle => by omega)⟩
theorem Tch.of_below (h : Below w.heap.size w w1) : Tch S w w1 := ⟨h.os, h.tape, h.output, h.size, fun b hb _ => h.block b hb⟩
theorem Tch.set (h : Tch S w w1) {b i : Nat} (hb : b ∈ S ∨ w.heap.size ≤ b) (u : Value) : Tch S w (w1.setCell ⟨b, i, none⟩ u) :=
  ⟨h.os, h.tape, h.output, by simpa using h.size, fun c hc hn => (Below.heap_setCell _ _ _ c (fun e => by
    rcases hb with hb | hb
    · exact hn (by rw [e]; exact hb)
    · rw [e] at hc; exact absurd hc (Nat.not_lt.2 hb))).trans (h.block c hc hn)⟩
theorem Tch.sets {b : Nat} (hb : b ∈ S ∨ w.heap.size ≤ b) : ∀ (vs : List Value) (o : Nat) (w1 : World), Tch S w w1 → Tch S w (w1.setCells b o vs)
  | [], _, _, h => h
  | v :: vs, o, w1, h => by rw [World.setCells]; exact Tch.sets hb vs _ _ (h.set hb v)
theorem Tch.put (h : Tch S w w1) {b : Nat} (hb : b ∈ S ∨ w.heap.size ≤ b) (o : Obj) : Tch S w (w1.putObj b o) :=
  ⟨h.os, h.tape, h.output, by simpa [World.putObj] using h.size, fun c hc hn => (World.putObj_heap_other (fun e => by
    rcases hb with hb | hb
    · exact hn (by rw [e]; exact hb)
    · rw [e] at hc; exact absurd hc (Nat.not_lt.2 hb))).trans (h.block c hc hn)⟩
theorem Tch.alloc (h : Tch S w w1) (o : Obj) : Tch S w (w1.alloc o) := h.trans (Tch.of_below ((Below.refl _ _).alloc (Nat.le_refl _) _))
theorem Tch.drewN (h : Tch S w w1) (n : Nat) : Tch S w (w1.drewN n) := ⟨h.os, h.tape, h.output, h.size, h.block⟩
theorem Tch.below {B : Nat} {w0 : World} (h : Tch S w w1) (k : Below B w0 w) (hB : B ≤ w0.heap.size) (hs : ∀ b, b ∈ S → B ≤ b) : Below B w0 w1 :=
  ⟨h.os.trans k.os, h.tape.trans k.tape, h.output.trans k.output, Nat.le_trans k.size h.size, fun b hb => (h.block b (Nat.lt_of_lt_of_le (Nat.lt_of_lt_of_le hb hB) k.size) (fun hm => absurd hb (Nat.not_lt.2 (hs b hm)))).trans (k.block b hb)⟩
theorem Tch.cell (h : Tch S w w1) {ad : Addr} {v : Value} (hn : ad.block ∉ S) (hc : w.cell? ad = some v) : w1.cell? ad = some v :=
  (World.cell?_of_block (h.block _ (World.block_lt_of_cell? w ad hc) hn)).trans hc
end
end Fam
end Go
end
section
namespace Go.Proofs.YtjnpchoinncbnaaGreat
open Go.RowKit Sw Fam
structure GrF {α : Type} (enc : α → List Value) (e : TypeId) (k : Nat) (w : World) (B : Nat) (A : Option Addr) (c : Nat) (xs : List α) : Prop where
  le : xs.length ≤ c
  cm : c ≤ maxLen
  non : A = none → c = 0
  at_ : ∀ a, A = some a → ∃ b o cs, a = ⟨b, o, none⟩ ∧ B ≤ b ∧ w.heap[b]? = some (.cells cs e (0, 0)) ∧ o + c * k ≤ cs.size ∧ ∀ j u, (xs.flatMap enc)[j]? = some u → cs[o + j]? = some u
section
variable {α : Type} {enc : α → List Value} {e : TypeId} {k : Nat} {w : World} {B : Nat} {A : Option Addr} {c : Nat} {xs : List α}
theorem GrF.start (w : World) (B : Nat) : GrF enc e k w B none 0 [] := ⟨Nat.le_refl _, Nat.zero_le _, fun _ => rfl, fun a h => by cases h⟩
theorem GrF.move {w' : World} (h : GrF enc e k w B A c xs) (hm : ∀ b, A.map (·.block) = some b → w'.heap[b]? = w.heap[b]?) : GrF enc e k w' B A c xs :=
  ⟨h.le, h.cm, h.non, fun a ha => by
    obtain ⟨b, o, cs, h1, h2, h3, h4⟩ := h.at_ a ha
    exact ⟨b, o, cs, h1, h2, (hm b (by rw [ha, h1]; rfl)).trans h3, h4⟩⟩
theorem GrF.lt (h : GrF enc e k w B A c xs) {b : Nat} (hb : A.map (·.block) = some b) : B ≤ b ∧ b < w.heap.size := by
  cases A with
  | none => cases hb
  | some a =>
    obtain ⟨b', o, cs, h1, h2, h3, h4⟩ := h.at_ a rfl
    subst h1
    obtain rfl : b' = b := by simpa using hb
    exact ⟨h2, (Array.getElem?_eq_some_iff.1 h3).1⟩
theorem GrF.block (h : GrF enc e k w B A c xs) {b : Nat} (hb : A.map (·.block) = some b) : ∃ cs, w.heap[b]? = some (.cells cs e (0, 0)) := by
  cases A with
  | none => cases hb
  | some a =>
    obtain ⟨b', o, cs, h1, h2, h3, h4⟩ := h.at_ a rfl
    subst h1
    obtain rfl : b' = b := by simpa using hb
    exact ⟨cs, h3⟩
theorem GrF.keep {w' : World} (h : GrF enc e k w B A c xs) (hb : Below w.heap.size w w') : GrF enc e k w' B A c xs := h.move fun b hm => hb.block b (h.lt hm).2
theorem GrF.drewN (h : GrF enc e k w B A c xs) (n : Nat) : GrF enc e k (w.drewN n) B A c xs := h.move fun _ _ => rfl
theorem GrF.other (h : GrF enc e k w B A c xs) {b i : Nat} (hb : A.map (·.block) ≠ some b) (u : Value) : GrF enc e k (w.setCell ⟨b, i, none⟩ u) B A c xs :=
  h.move fun b' hm => Below.heap_setCell _ _ _ _ (fun e => hb (by rw [hm]; exact congrArg some e))
theorem GrF.low {B' : Nat} (h : GrF enc e k w B A c xs) (hb : B' ≤ B) : GrF enc e k w B' A c xs :=
  ⟨h.le, h.cm, h.non, fun a ha => by
    obtain ⟨b, o, cs, h1, h2, h3⟩ := h.at_ a ha
    exact ⟨b, o, cs, h1, Nat.le_trans hb h2, h3⟩⟩
theorem GrF.cell (hk : ∀ x, (enc x).length = k) (h : GrF enc e k w B A c xs) {j i : Nat} (hi : i < k) (hj : j < xs.length) : ∃ b o, A = some ⟨b, o, none⟩ ∧ B ≤ b ∧ w.cell? ⟨b, o + j * k + i, none⟩ = (enc xs[j])[i]? := by
  cases hA : A with
  | none => have := h.non hA; have := h.le; omega
  | some a =>
    obtain ⟨b, o, cs, h1, h2, h3, h4, h5⟩ := h.at_ a hA
    subst h1
    refine ⟨b, o, rfl, h2, ?_⟩
    have h6 := flat_get hk xs j i hi hj
    have hlt : i < (enc xs[j]).length := by rw [hk]; exact hi
    rw [List.getElem?_eq_getElem hj, Option.bind_some, List.getElem?_eq_getElem hlt] at h6
    have h7 := h5 _ _ h6
    rw [List.getElem?_eq_getElem hlt]
    simp [World.cell?, h3, Nat.add_assoc, h7]
theorem run_append_gr {P : Program} {t ty : TypeId} {i : TypeInfo} {z : Value} {bytes : Nat} (ht : P.underlying t = some (.slice e)) (hi : P.info? e = some i) (hz : i.zero = some z) (hsz : i.size = k) (hby : i.bytes = bytes) (hzs : z.cells.size = k)
    (hk : ∀ x, (enc x).length = k) (h1 : ∀ x, ∀ u ∈ enc x, u.oneCell' = true) (h : GrF enc e k w B A c xs) (ys : List α) (src : Addr) (c2 : Nat) (hnews : ∀ j u, (ys.flatMap enc)[j]? = some u → w.cell? (src.add j) = some u)
    (hy : 0 < ys.length) (hlen : xs.length + ys.length ≤ 1000000) (hb : bytes ≤ 1000) (hB : B ≤ w.heap.size) :
    ∃ A' c' w', (Builtin.append_ #[t, t] ty #[.slice A xs.length c, .slice (some src) ys.length c2]).run P w = .ok (.slice A' (xs.length + ys.length) c') w' ∧ GrF enc e k w' B A' c' (xs ++ ys) ∧ w.grownBy w' (A.map (·.block)) ∧
      ∃ a', A' = some a' ∧ (A = some a' ∨ a'.block = w.heap.size) := by
  have hm : xs.length + ys.length ≤ maxLen := by simp only [maxLen]; omega
  have hnl := flat_len hk ys
  have hbytes : (xs.length + ys.length) * bytes ≤ 140737488355328 := Nat.le_trans (Nat.mul_le_mul hlen hb) (by decide)
  have hxx : (xs ++ ys).flatMap enc = xs.flatMap enc ++ ys.flatMap enc := List.flatMap_append
  subst hsz hby
  have h1' : ∀ u ∈ ys.flatMap enc, u.oneCell' = true := fun u hu => by
    obtain ⟨x, _, hx⟩ := List.mem_flatMap.1 hu
    exact h1 x u hx
  have grown : ∀ (old : Nat) (row : Option Nat),
      GrF enc e i.size (w.drew.alloc (.cells ((xs.flatMap enc).toArray ++ (ys.flatMap enc).toArray ++ Builtin.zeroCells z.cells (grownCap w (xs.length + ys.length) old e - (xs.length + ys.length))) e)) B
        (some ⟨w.heap.size, 0, none⟩) (grownCap w (xs.length + ys.length) old e) (xs ++ ys) ∧
      w.grownBy (w.drew.alloc (.cells ((xs.flatMap enc).toArray ++ (ys.flatMap enc).toArray ++ Builtin.zeroCells z.cells (grownCap w (xs.length + ys.length) old e - (xs.length + ys.length))) e)) row := by
    intro old row
    have hge := grownCap_ge w (xs.length + ys.length) old e
    refine ⟨⟨by rw [List.length_append]; exact hge, grownCap_le_maxLen w _ old e hm, fun h => (by cases h), fun a ha => ?_⟩, ⟨rfl, rfl, rfl, by simp, fun k hk _ => Below.heap_alloc w.drew _ k hk⟩⟩
    cases ha
    refine ⟨w.heap.size, 0, _, rfl, hB, heap_alloc_new w.drew _, ?_, fun j u hj => ?_⟩
    · simp only [Array.size_append, List.size_toArray, size_zeroCells, hzs, flat_len hk, ← Nat.add_mul, Nat.zero_add]
      exact Nat.mul_le_mul_right _ (by omega)
    · rw [hxx] at hj
      have hlt := (List.getElem?_eq_some_iff.1 hj).1
      rw [Nat.zero_add, Array.getElem?_append_left (by simpa using hlt)]
      simpa using hj
  cases hA : A with
  | none =>
    have hc := h.non hA
    have hx : xs = [] := List.eq_nil_of_length_eq_zero (by have := h.le; omega)
    subst hx
    subst hc
    have hr := run_append_nil (P := P) w t ty e i z ht hi hz src ys.length c2 _ hnl hnews hy (by omega) (by simp only [List.length_nil, Nat.zero_add] at hbytes; omega)
    have hgr := grown 0 none
    simp only [List.length_nil, Nat.zero_add, List.flatMap_nil, List.nil_append, Array.empty_append] at hgr ⊢
    exact ⟨_, _, _, hr, hgr.1, hgr.2, _, rfl, .inr rfl⟩
  | some a =>
    obtain ⟨b, o, cs, rfl, hBb, hcs, hoc, hcc⟩ := h.at_ a hA
    by_cases hroom : xs.length + ys.length ≤ c
    · have hmul : xs.length * i.size + ys.length * i.size ≤ c * i.size := by rw [← Nat.add_mul]; exact Nat.mul_le_mul_right _ hroom
      have hr := run_append_room_cells (P := P) w t ty e i ht hi b o xs.length c src ys.length c2 _ hnl hnews h1' hroom
        (fun j hj => by simp [World.cell?, hcs]; omega) (fun j hj => by simp [World.frozen?, hcs])
      have hblk : ∀ (vs : List Value) (off : Nat) (cs : Array Value) (w : World), w.heap[b]? = some (.cells cs e (0, 0)) → off + vs.length ≤ cs.size →
          ∃ cs', (w.setCells b off vs).heap[b]? = some (.cells cs' e (0, 0)) ∧ cs'.size = cs.size ∧ (∀ j, j < off → cs'[j]? = cs[j]?) ∧ ∀ j u, vs[j]? = some u → cs'[off + j]? = some u := by
        intro vs
        induction vs with
        | nil => intro off cs w hw _; exact ⟨cs, hw, rfl, fun _ _ => rfl, fun j u hj => by simp at hj⟩
        | cons v vs ih =>
          intro off cs w hw hs
          simp only [List.length_cons] at hs
          rw [World.setCells]
          obtain ⟨cs', g1, g2, g3, g4⟩ := ih (off + 1) _ _ (heap_setCell_same w b off cs e v hw) (by simp; omega)
          refine ⟨cs', g1, by simpa using g2, fun j hj => ?_, fun j u hj => ?_⟩
          · rw [g3 j (by omega), Array.getElem?_setIfInBounds_ne (by omega)]
          · cases j with
            | zero =>
              simp only [List.getElem?_cons_zero, Option.some.injEq] at hj
              subst hj
              rw [Nat.add_zero, g3 off (by omega)]
              simp [Array.getElem?_setIfInBounds, show off < cs.size by omega]
            | succ j =>
              rw [show off + (j + 1) = off + 1 + j by omega]
              exact g4 j u (by simpa using hj)
      obtain ⟨cs', g1, g2, g3, g4⟩ := hblk (ys.flatMap enc) (o + xs.length * i.size) cs w hcs (by rw [hnl]; omega)
      refine ⟨_, _, _, hr, ⟨by rw [List.length_append]; exact hroom, h.cm, fun h => (by cases h), fun a ha => ?_⟩, ⟨?_, ?_, ?_, ?_, ?_⟩, _, rfl, .inl rfl⟩
      · cases ha
        refine ⟨b, o, cs', rfl, hBb, g1, by rw [g2]; exact hoc, fun j u hj => ?_⟩
        rw [hxx] at hj
        by_cases hjl : j < (xs.flatMap enc).length
        · rw [List.getElem?_append_left hjl] at hj
          rw [g3 (o + j) (by rw [flat_len hk] at hjl; omega)]
          exact hcc j u hj
        · rw [List.getElem?_append_right (by omega)] at hj
          have := g4 _ u hj
          rw [flat_len hk] at this hjl
          rwa [show o + xs.length * i.size + (j - xs.length * i.size) = o + j by omega] at this
      all_goals first
        | exact (Tch.sets (S := [b]) (.inl (by simp)) _ _ _ (Tch.refl _ _)).os
        | exact (Tch.sets (S := [b]) (.inl (by simp)) _ _ _ (Tch.refl _ _)).tape
        | exact (Tch.sets (S := [b]) (.inl (by simp)) _ _ _ (Tch.refl _ _)).output
        | exact (Tch.sets (S := [b]) (.inl (by simp)) _ _ _ (Tch.refl _ _)).size
        | exact fun q hq hne => (Tch.sets (S := [b]) (.inl (by simp)) _ _ _ (Tch.refl _ w)).block q hq (by simp; intro e; subst e; exact hne rfl)
    · have holds : ∀ j u, (xs.flatMap enc)[j]? = some u → w.cell? ((⟨b, o, none⟩ : Addr).add j) = some u := fun j u hj => by
        have := hcc j u hj
        simp [World.cell?, Addr.add_lit, hcs, this]
      have hr := run_append_grow (P := P) w t ty e i z ht hi hz ⟨b, o, none⟩ xs.length c _ (flat_len hk xs) holds src ys.length c2 _ hnl hnews (by omega) (by omega) (growslice_fits (by omega) hbytes)
      have hgr := grown c ((some (⟨b, o, none⟩ : Addr)).map (·.block))
      exact ⟨_, _, _, hr, hgr.1, hgr.2, _, rfl, .inr rfl⟩
theorem GrF.tail {x : α} (hk : ∀ x, (enc x).length = k) {b o : Nat} (h : GrF enc e k w B (some ⟨b, o, none⟩) c (x :: xs)) : GrF enc e k w B (some (if c = 1 then ⟨b, o, none⟩ else ⟨b, o + k, none⟩)) (c - 1) xs := by
  have hl := h.le
  rw [List.length_cons] at hl
  obtain ⟨b', o', cs, h1, h2, h3, h4, h5⟩ := h.at_ _ rfl
  cases h1
  by_cases hc : c = 1
  · subst hc
    have hx : xs = [] := List.eq_nil_of_length_eq_zero (by omega)
    subst hx
    refine ⟨by simp, by have := h.cm; omega, fun h => (by cases h), fun a ha => ?_⟩
    rw [if_pos rfl] at ha
    cases ha
    exact ⟨b, o, cs, rfl, h2, h3, by omega, fun j u hj => by simp at hj⟩
  · refine ⟨by omega, by have := h.cm; omega, fun h => (by cases h), fun a ha => ?_⟩
    rw [if_neg hc] at ha
    cases ha
    refine ⟨b, o + k, cs, rfl, h2, h3, ?_, fun j u hj => ?_⟩
    · have : (c - 1) * k + k = c * k := by
        obtain ⟨d, rfl⟩ : ∃ d, c = d + 1 := ⟨c - 1, by omega⟩
        rw [Nat.add_sub_cancel, Nat.succ_mul]
      omega
    · have := h5 (k + j) u (by rw [List.flatMap_cons, List.getElem?_append_right (by rw [hk]; omega), hk, Nat.add_sub_cancel_left]; exact hj)
      rwa [Nat.add_assoc]
end
abbrev GrI (w : World) (B : Nat) (A : Option Addr) (c : Nat) (xs : List Int) : Prop := GrF encI 3 1 w B A c xs
theorem GrI.cell {w : World} {B : Nat} {A : Option Addr} {c : Nat} {xs : List Int} (h : GrI w B A c xs) {j : Nat} (hj : j < xs.length) : ∃ b o, A = some ⟨b, o, none⟩ ∧ B ≤ b ∧ w.cell? ⟨b, o + j, none⟩ = some (.int .i64 (gi xs j)) := by
  obtain ⟨b, o, h1, h2, h3⟩ := GrF.cell encI_len h (j := j) (i := 0) (by omega) hj
  refine ⟨b, o, h1, h2, ?_⟩
  rw [Nat.mul_one, Nat.add_zero] at h3
  rw [h3]
  simp [encI, gi, hj]
theorem GrI.rd {w : World} {B : Nat} {A : Option Addr} {c : Nat} {xs : List Int} (h : GrI w B A c xs) : RdI w A xs := fun j hj => by
  obtain ⟨b, o, h1, _, h3⟩ := GrI.cell h hj
  exact ⟨b, o, h1, h3⟩
theorem run_append_int {w : World} {B : Nat} {A : Option Addr} {c : Nat} {xs : List Int} (h : GrI w B A c xs) (ty : TypeId) (x : Int) (s c2 : Nat) (hs : w.cell? ⟨s, 0, none⟩ = some (.int .i64 x)) (hlen : xs.length < 1000000) (hB : B ≤ w.heap.size) :
    ∃ A' c' w', (Builtin.append_ #[26, 26] ty #[.slice A xs.length c, .slice (some ⟨s, 0, none⟩) 1 c2]).run Tryz.prog w = .ok (.slice A' (xs.length + 1) c') w' ∧ GrI w' B A' c' (xs ++ [x]) ∧ w.grownBy w' (A.map (·.block)) ∧
      ∃ a', A' = some a' ∧ (A = some a' ∨ a'.block = w.heap.size) := by
  have hinfo := infoInt
  obtain ⟨i, hi, hzz⟩ := Option.map_eq_some_iff.1 hinfo
  simp only [Prod.mk.injEq] at hzz
  obtain ⟨hz, hsz, hby⟩ := hzz
  exact run_append_gr (P := Tryz.prog) Tryz.underlying26 hi hz hsz hby rfl encI_len (fun x u hu => by simp [encI] at hu; subst hu; rfl) h [x] ⟨s, 0, none⟩ c2 (fun j u hj => by
    have : j = 0 := by
      have := (List.getElem?_eq_some_iff.1 hj).1
      simp [encI] at this; exact this
    subst this
    have e : (⟨s, 0, none⟩ : Addr).add 0 = ⟨s, 0, none⟩ := by simp [Addr.add]
    rw [e, hs]
    simpa [encI] using hj) (by simp) (by simp only [List.length_cons, List.length_nil]; omega) (by decide) hB
theorem wpList_append_int {w : World} {B : Nat} {A : Option Addr} {c : Nat} {xs : List Int} {ops : Array Oper} {rest : List Oper} {o : Oper} {a : Act} {Q : Exit → Act → World → Prop} (hgd : o.guard = none) (s x : Operand)
    (ho : o.op = .call { callee := .builtin .append, args := #[s, x], argTypes := #[26, 26] }) (h : GrI w B A c xs) (y : Int) (sb c2 : Nat) (hs : a.eval s = .slice A xs.length c) (hx : a.eval x = .slice (some ⟨sb, 0, none⟩) 1 c2)
    (hc : w.cell? ⟨sb, 0, none⟩ = some (.int .i64 y)) (hlen : xs.length < 1000000) (hB : B ≤ w.heap.size)
    (hk : ∀ A' c' w', GrI w' B A' c' (xs ++ [y]) → w.grownBy w' (A.map (·.block)) → (∃ a', A' = some a' ∧ (A = some a' ∨ a'.block = w.heap.size)) → wpList Tryz.prog ops Q rest (a.put o.dst (.slice A' (xs.length + 1) c')) w') : wpList Tryz.prog ops Q (o :: rest) a w := by
  refine wpList_plain hgd fun K hK => ?_
  obtain ⟨A', c', w', hr, h2, h3, h4⟩ := run_append_int h o.type y sb c2 hc hlen hB
  unfold Oper.wp execOp
  simp only [ho, resolve, invoke, builtin, Sem.run_bind, Sem.run_pure, Result.andThen_ok, List.map_toArray, List.map_cons, List.map_nil, hs, hx, hr]
  exact hK _ _ (hk A' c' w' h2 h3 h4)
end Go.Proofs.YtjnpchoinncbnaaGreat
end
