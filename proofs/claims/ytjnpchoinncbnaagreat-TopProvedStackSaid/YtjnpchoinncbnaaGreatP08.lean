/- Proves parts of the statement, each under the conditions that its theorem states: A list of edges grows in a statement that leaves its order open; Slices of numbers that are appended whole: CopyInts, slices.Clone, slices.Grow, slices.Concat; A list of numbers grows in a statement that leaves its order open; Plain facts on a stack's forest: labels of parts, pairs taken in an order, phases along the taken pairs. -/
import Derived.Test.YtjnpchoinncbnaaGreatP07
import Derived.Test.YtjnpchoinncbnaaGreatP03
import Derived.Laws.Cover3
import Derived.Test.YtjnpchoinncbnaaGreatP01
set_option linter.unusedSimpArgs false
set_option linter.unusedVariables false
set_option maxHeartbeats 4000000
set_option maxRecDepth 100000
section
namespace Go.Proofs.YtjnpchoinncbnaaGreat
open Go.RowKit Sw Fam
abbrev GrE (w : World) (B : Nat) (A : Option Addr) (c : Nat) (es : List Ed) : Prop := GrF encE 54 4 w B A c es
theorem infoEd : (Tryz.prog.info? 54).map (fun i => (i.zero, i.size, i.bytes)) = some (some (.agg #[.int .i64 0, .int .i64 0, .int .i64 0, .int .i64 0]), 4, 32) := by kernel_rfl
theorem run_append_ed {w : World} {B : Nat} {A : Option Addr} {c : Nat} {es : List Ed} (h : GrE w B A c es) (ty : TypeId) (y : Ed) (s c2 : Nat) (hs : w.heap[s]? = some (.cells (encE y).toArray 54 (0, 0))) (hlen : es.length < 100000) (hB : B ≤ w.heap.size) :
    ∃ A' c' w', (Builtin.append_ #[35, 35] ty #[.slice A es.length c, .slice (some ⟨s, 0, none⟩) 1 c2]).run Tryz.prog w = .ok (.slice A' (es.length + 1) c') w' ∧ GrE w' B A' c' (es ++ [y]) ∧ w.grownBy w' (A.map (·.block)) ∧
      ∃ a', A' = some a' ∧ (A = some a' ∨ a'.block = w.heap.size) := by
  obtain ⟨i, hi, hzz⟩ := Option.map_eq_some_iff.1 infoEd
  simp only [Prod.mk.injEq] at hzz
  obtain ⟨hz, hsz, hby⟩ := hzz
  exact run_append_gr (P := Tryz.prog) Tryz.underlying35 hi hz hsz hby rfl encE_len (fun x u hu => by simp [encE] at hu; rcases hu with rfl | rfl | rfl | rfl <;> rfl) h [y] ⟨s, 0, none⟩ c2 (fun j u hj => by
    have hj' : (encE y)[j]? = some u := by simpa using hj
    obtain ⟨j1, j2⟩ := List.getElem?_eq_some_iff.1 hj'
    have := block_cell hs (j := j) (by simpa using j1)
    have e : (⟨s, 0, none⟩ : Addr).add j = ⟨s, j, none⟩ := by unfold Addr.add; split <;> simp_all
    rw [e, this, ← j2]; rfl) (by simp) (by simp only [List.length_cons, List.length_nil]; omega) (by decide) hB
theorem GrF.rdE {w : World} {B : Nat} {A : Option Addr} {c : Nat} {es : List Ed} (h : GrE w B A c es) : RdE w A es := fun j hj => by
  have hge : es[j] = ge es j := by unfold ge; simp [List.getD_eq_getElem?_getD, hj]
  obtain ⟨b, o, h1, _, h2⟩ := GrF.cell encE_len h (i := 0) (by decide) hj
  refine ⟨b, o, h1, ?_⟩
  have hc : ∀ i, i < 4 → w.cell? ⟨b, o + j * 4 + i, none⟩ = (encE es[j])[i]? := fun i hi => by
    obtain ⟨b', o', h1', _, h3⟩ := GrF.cell encE_len h (i := i) hi hj
    rw [h1] at h1'
    injection h1' with h1'; injection h1' with e1 e2
    subst e1 e2
    exact h3
  have c0 := hc 0 (by decide)
  have c1 := hc 1 (by decide)
  have c2 := hc 2 (by decide)
  have c3 := hc 3 (by decide)
  rw [hge] at c0 c1 c2 c3
  exact ⟨c0, c1, c2, c3⟩
structure OneD where
  B : Nat
  N : Nat
  n : Int
  A : Option Addr
  c : Nat
  es : List Ed
  y : Ed
def OneD.S (d : OneD) : List Nat := d.N :: (d.A.map (·.block)).toList
structure OneD.ok (d : OneD) (W : World) : Prop where
  hd : W.heap[d.N]? = some (.cells #[.int .i64 d.n, .slice d.A d.es.length d.c] 37 (0, 0))
  g : GrE W d.B d.A d.c d.es
  nN : d.A.map (·.block) ≠ some d.N
  le : d.B ≤ W.heap.size
  ll : d.es.length < 10000
def GrownE (W w : World) (B : Nat) (A : Option Addr) (l : Nat) (es : List Ed) (v : Value) : Prop :=
  ∃ A' c', v = .slice A' l c' ∧ GrE w B A' c' es ∧ ∃ a', A' = some a' ∧ (A = some a' ∨ W.heap.size ≤ a'.block)
structure OneC (W : World) (d : OneD) (p1 p2 p3 : Bool) (v1 v2 : Value) (w : World) : Prop where
  tch : Tch d.S W w
  b1 : p1 = true → ∃ b, v1 = .slice (some ⟨b, 0, none⟩) 1 1 ∧ W.heap.size ≤ b ∧ w.heap[b]? = some (.cells (encE d.y).toArray 54 (0, 0))
  hd : w.heap[d.N]? = some (.cells #[.int .i64 d.n, if p3 = true then v2 else .slice d.A d.es.length d.c] 37 (0, 0))
  a1 : if p2 = true then GrownE W w d.B d.A (d.es.length + 1) (d.es ++ [d.y]) v2 else GrE w d.B d.A d.c d.es
section
variable {W w : World} {d : OneD} {p1 p2 p3 : Bool} {v1 v2 : Value}
theorem OneD.ok.Nl (h : d.ok W) : d.N < W.heap.size := (Array.getElem?_eq_some_iff.1 h.hd).1
theorem OneD.ok.Sl (h : d.ok W) : ∀ b, b ∈ d.S → b < W.heap.size := by
  intro b hb
  simp only [OneD.S, List.mem_cons, Option.mem_toList] at hb
  rcases hb with rfl | hb
  · exact h.Nl
  · exact (h.g.lt hb).2
theorem OneC.start (h : d.ok W) (w : World) (hw : w = W.drew) : OneC W d false false false v1 v2 w := by
  subst hw
  exact ⟨(Tch.refl _ _).drewN 1, fun h => (by cases h), h.hd, h.g.drewN 1⟩
theorem OneC.made (h : OneC W d p1 false p3 v1 v2 w) (hok : d.ok W) : OneC W d true false p3 (.slice (some ⟨w.heap.size, 0, none⟩) 1 1) v2 (w.alloc (.cells (encE d.y).toArray 54)) := by
  have hb : Below w.heap.size w (w.alloc (.cells (encE d.y).toArray 54)) := (Below.refl _ _).alloc (Nat.le_refl _) _
  refine ⟨h.tch.alloc _, fun _ => ⟨w.heap.size, rfl, h.tch.size, World.alloc_heap_new w _⟩, (hb.block _ (by have := hok.Nl; have := h.tch.size; omega)).trans h.hd, ?_⟩
  have := h.a1
  rw [if_neg (by simp)] at this ⊢
  exact this.keep hb
theorem OneC.app (h : OneC W d true false false v1 v2 w) (hok : d.ok W) (ty : TypeId) :
    ∃ v w', (Builtin.append_ #[35, 35] ty #[.slice d.A d.es.length d.c, v1]).run Tryz.prog w = .ok v w' ∧ OneC W d true true false v1 v w' := by
  obtain ⟨s, rfl, s1, s2⟩ := h.b1 rfl
  have g := h.a1
  rw [if_neg (by simp)] at g
  have hWw := h.tch.size
  obtain ⟨A', c', w', hr, k1, k2, a', rfl, k3⟩ := run_append_ed g ty d.y s 1 s2 (by have := hok.ll; omega) (by have := hok.le; omega)
  have hS : Tch (d.A.map (·.block)).toList w w' := ⟨k2.os, k2.tape, k2.output, k2.size, fun b hb hn => k2.block b hb (fun e => hn (by rw [Option.mem_toList]; exact e.symm))⟩
  have hsn : s ∉ (d.A.map (·.block)).toList := fun hm => by have := hok.Sl s (List.mem_cons_of_mem _ hm); omega
  refine ⟨_, w', hr, h.tch.trans (hS.mono fun b hb => .inl (List.mem_cons_of_mem _ hb)), fun _ => ⟨s, rfl, s1, (hS.block s (Array.getElem?_eq_some_iff.1 s2).1 hsn).trans s2⟩, ?_, ?_⟩
  · have hn : d.N ∉ (d.A.map (·.block)).toList := fun hm => hok.nN (by simpa using hm)
    have := h.hd
    rw [if_neg (by simp)] at this ⊢
    exact (hS.block d.N (by have := hok.Nl; omega) hn).trans this
  · rw [if_pos rfl]
    refine ⟨_, c', rfl, k1, a', rfl, ?_⟩
    rcases k3 with e | e
    · exact .inl e
    · exact .inr (by omega)
theorem OneC.put (h : OneC W d p1 true false v1 v2 w) (hok : d.ok W) : OneC W d p1 true true v1 v2 (w.setCell ⟨d.N, 1, none⟩ v2) := by
  have g1 := h.a1
  rw [if_pos rfl] at g1
  obtain ⟨A', c', e1, g, a', rfl, e3⟩ := g1
  have hne : ∀ b, (some a').map (·.block) = some b → b ≠ d.N := fun b hb e => by
    subst e
    rcases e3 with e3 | e3
    · exact hok.nN (by rw [e3]; exact hb)
    · have := hok.Nl
      have : a'.block = d.N := by simpa using hb
      omega
  refine ⟨h.tch.set (.inl (List.mem_cons_self ..)) _, fun e => ?_, ?_, ?_⟩
  · obtain ⟨b, k1, k2, k3⟩ := h.b1 e
    exact ⟨b, k1, k2, (Below.heap_setCell _ _ _ _ (show b ≠ d.N by have := hok.Nl; omega)).trans k3⟩
  · have := h.hd
    rw [if_neg (by simp)] at this
    have := heap_setCell_same w d.N 1 _ _ v2 this
    simpa using this
  · rw [if_pos rfl]
    exact ⟨_, c', e1, g.move fun b hb => Below.heap_setCell _ _ _ _ (hne b hb), a', rfl, e3⟩
theorem OneC.list (h : OneC W d p1 p2 false v1 v2 w) : w.cell? ⟨d.N, 1, none⟩ = some (.slice d.A d.es.length d.c) := by
  have := h.hd
  simp only [Bool.false_eq_true, if_false] at this
  simp [World.cell?, this]
theorem OneC.there (h : OneC W d p1 p2 p3 v1 v2 w) : (∃ x, w.cell? ⟨d.N, 1, none⟩ = some x) ∧ w.frozen? ⟨d.N, 1, none⟩ = false :=
  ⟨⟨_, block_cell h.hd (j := 1) (by simp)⟩, by simp [World.frozen?, h.hd]⟩
theorem OneC.far (h : OneC W d p1 p2 p3 v1 v2 w) {a : Addr} {v : Value} (hn : a.block ∉ d.S) (hc : W.cell? a = some v) : w.cell? a = some v := h.tch.cell hn hc
end
theorem OneC.up {W w : World} {d : OneD} {v1 v2 : Value} {L : Nat → Bool} {a1 a2 a3 i : Nat} (hi : (Nat.beq a1 i || Nat.beq a2 i || Nat.beq a3 i) = false)
    (h : OneC W d (L a1) (L a2) (L a3) v1 v2 w) : OneC W d (upd L i a1) (upd L i a2) (upd L i a3) v1 v2 w := by
  simp only [Bool.or_eq_false_iff] at hi
  obtain ⟨⟨h1, h2⟩, h3⟩ := hi
  simpa only [upd, h1, h2, h3, cond_false] using h
abbrev OneF (W : World) (d : OneD) (a1 a2 a3 : Nat) (L : Nat → Bool) (V : Nat → Value) (w : World) : Prop := OneC W d (L a1) (L a2) (L a3) (V a1) (V a2) w
section
variable {W : World} {d : OneD} {l : Array Oper} {a1 a2 a3 i : Nat} {o : Oper}
theorem OneC.ev_list {L : Nat → Bool} {V : Nat → Value} {w : World} (hd : (dep l a2 i && dep l a3 a2) = true) (hi : L i = false) (hc : Cl l L) (h : OneF W d a1 a2 a3 L V w) : w.cell? ⟨d.N, 1, none⟩ = some (.slice d.A d.es.length d.c) := by
  rw [Bool.and_eq_true] at hd
  have h1 := hc.not hd.2 (hc.not hd.1 hi)
  unfold OneF at h
  rw [h1] at h
  exact h.list
theorem OneC.ev_made (hs : decide (a1 < a2 ∧ a2 < a3) = true) (hok : d.ok W) {L : Nat → Bool} {V : Nat → Value} {w : World} (hd : dep l a2 a1 = true) (hi : L a1 = false) (hc : Cl l L) (h : OneF W d a1 a2 a3 L V w) :
    OneF W d a1 a2 a3 (upd L a1) (setV V a1 (.slice (some ⟨w.heap.size, 0, none⟩) 1 1)) (w.alloc (.cells (encE d.y).toArray 54)) := by
  simp only [decide_eq_true_eq] at hs
  unfold OneF at h ⊢
  have h2 := hc.not hd hi
  rw [upd_same, upd_ne L (by omega : a2 ≠ a1), upd_ne L (by omega : a3 ≠ a1), setV_same, setV_ne V _ (by omega : a2 ≠ a1), h2]
  rw [h2] at h
  exact h.made hok
theorem OneC.ev_app (hs : decide (a1 < a2 ∧ a2 < a3) = true) (hok : d.ok W) {L : Nat → Bool} {V : Nat → Value} {w : World} (h : OneF W d a1 a2 a3 L V w) (hL : L a2 = false) (hc : Cl l L) (hd : dep l a3 a2 = true)
    (hw : Waits o L) (h1 : (o.after.any fun e => Region.binds .any e && e.on == a1) = true) (ty : TypeId) :
    ∃ v w', (Builtin.append_ #[35, 35] ty #[.slice d.A d.es.length d.c, V a1]).run Tryz.prog w = .ok v w' ∧ OneF W d a1 a2 a3 (upd L a2) (setV V a2 v) w' := by
  simp only [decide_eq_true_eq] at hs
  unfold OneF at h ⊢
  rw [waits_at hw h1, hL, hc.not hd hL] at h
  obtain ⟨v, w', k1, k2⟩ := h.app hok ty
  refine ⟨v, w', k1, ?_⟩
  rw [upd_same, upd_ne L (by omega : a1 ≠ a2), upd_ne L (by omega : a3 ≠ a2), setV_same, setV_ne V _ (by omega : a1 ≠ a2), waits_at hw h1, hc.not hd hL]
  exact k2
theorem OneC.ev_put (hs : decide (a1 < a2 ∧ a2 < a3) = true) (hok : d.ok W) {L : Nat → Bool} {V : Nat → Value} {w : World} (h : OneF W d a1 a2 a3 L V w) (hL : L a3 = false)
    (hw : Waits o L) (h2 : (o.after.any fun e => Region.binds .any e && e.on == a2) = true) :
    (∃ A c, V a2 = .slice A (d.es.length + 1) c) ∧ ((∃ x, w.cell? ⟨d.N, 1, none⟩ = some x) ∧ w.frozen? ⟨d.N, 1, none⟩ = false) ∧ OneF W d a1 a2 a3 (upd L a3) V (w.setCell ⟨d.N, 1, none⟩ (V a2)) := by
  simp only [decide_eq_true_eq] at hs
  unfold OneF at h ⊢
  rw [waits_at hw h2, hL] at h
  refine ⟨?_, h.there, ?_⟩
  · have := h.a1
    rw [if_pos rfl] at this
    obtain ⟨A, c, e, _⟩ := this
    exact ⟨A, c, e⟩
  · rw [upd_same, upd_ne L (by omega : a1 ≠ a3), upd_ne L (by omega : a2 ≠ a3), waits_at hw h2]
    exact h.put hok
end
theorem ex_sliceE {ρ : Operand → Value} {o : Oper} {w : World} (x : Operand) (ho : o.op = .buildSlice 35 1 #[(0, x)]) (y : Ed) (hx : ρ x = edV y) : (execOp ρ o).run Tryz.prog w = .ok (.value (.slice (some ⟨w.heap.size, 0, none⟩) 1 1)) (w.alloc (.cells (encE y).toArray 54)) := by
  unfold execOp edV at *
  simp only [ho, hx, List.map_toArray, List.map_cons, List.map_nil]
  have h : (Instr.buildSlice 35 1 #[(0, .agg #[.int .i64 y.f, .int .i64 y.t, .int .i64 y.j, .int .i64 y.k])]).run Tryz.prog w = .ok (.slice (some ⟨w.heap.size, 0, none⟩) 1 1) (w.alloc (.cells (encE y).toArray 54)) := by
    simp [Instr.buildSlice, go_sem, encE]
  simp [h]
theorem flat_encI (xs : List Int) (j : Nat) (u : Value) (h : (xs.flatMap encI)[j]? = some u) : j < xs.length ∧ u = .int .i64 (gi xs j) := by
  have hj : j < xs.length := by
    have := (List.getElem?_eq_some_iff.1 h).1
    rwa [flat_len encI_len, Nat.mul_one] at this
  have h6 := flat_get encI_len xs j 0 (by omega) hj
  rw [Nat.mul_one, Nat.add_zero, h] at h6
  refine ⟨hj, ?_⟩
  simp [hj, encI] at h6
  rw [h6]
  simp [gi, hj]
theorem run_append_none {w : World} {A Y : Option Addr} {n c c2 : Nat} (ty : TypeId) (hc : n ≤ c) (hn : A = none → n = 0) : (Builtin.append_ #[26, 26] ty #[.slice A n c, .slice Y 0 c2]).run Tryz.prog w = .ok (.slice A n c) w := by
  have hinfo := infoInt
  obtain ⟨i, hi, hzz⟩ := Option.map_eq_some_iff.1 hinfo
  cases A with
  | none =>
    obtain rfl := hn rfl
    cases Y <;> simp [Builtin.append_, run_underlying Tryz.underlying26, sizeOf, typeInfo, hi, Builtin.lenOf, Builtin.firstCells, loadCells, loadCellsFrom]
  | some a =>
    cases Y <;> simp [Builtin.append_, run_underlying Tryz.underlying26, sizeOf, typeInfo, hi, Builtin.lenOf, Builtin.firstCells, loadCells, loadCellsFrom, hc, storeCells]
theorem run_append_ints {w : World} {B : Nat} {A Y : Option Addr} {c c2 : Nat} {xs ys : List Int} (h : GrI w B A c xs) (ty : TypeId) (hy : RdI w Y ys) (hlen : xs.length + ys.length ≤ 1000000) (hB : B ≤ w.heap.size) :
    ∃ A' c' w', (Builtin.append_ #[26, 26] ty #[.slice A xs.length c, .slice Y ys.length c2]).run Tryz.prog w = .ok (.slice A' (xs.length + ys.length) c') w' ∧ GrI w' B A' c' (xs ++ ys) ∧ w.grownBy w' (A.map (·.block)) ∧
      ((A' = A) ∨ ∃ a', A' = some a' ∧ a'.block = w.heap.size) := by
  by_cases h0 : ys.length = 0
  · have e : ys = [] := List.eq_nil_of_length_eq_zero h0
    subst e
    have hr := run_append_none (w := w) (Y := Y) (c2 := c2) ty h.le (fun e => by have := h.non e; have := h.le; omega)
    exact ⟨A, c, w, hr, by rw [List.append_nil]; exact h, ⟨rfl, rfl, rfl, Nat.le_refl _, fun _ _ _ => rfl⟩, .inl rfl⟩
  · obtain ⟨b, o, rfl, _⟩ := hy 0 (by omega)
    have hinfo := infoInt
    obtain ⟨i, hi, hzz⟩ := Option.map_eq_some_iff.1 hinfo
    simp only [Prod.mk.injEq] at hzz
    obtain ⟨hz, hsz, hby⟩ := hzz
    obtain ⟨A', c', w', k1, k2, k3, a', rfl, k4⟩ := run_append_gr (P := Tryz.prog) (ty := ty) Tryz.underlying26 hi hz hsz hby rfl encI_len (fun x u hu => by simp [encI] at hu; subst hu; rfl) h ys ⟨b, o, none⟩ c2 (fun j u hj => by
      obtain ⟨hlt, rfl⟩ := flat_encI ys j u hj
      obtain ⟨b', o', e, hc⟩ := hy j hlt
      cases e
      rw [← hc]
      simp only [Addr.add_lit]) (by omega) hlen (by decide) hB
    refine ⟨_, c', w', k1, k2, k3, ?_⟩
    rcases k4 with e | e
    · exact .inl e.symm
    · exact .inr ⟨a', rfl, e⟩
theorem wpList_append_ints {w : World} {B : Nat} {A Y : Option Addr} {c c2 : Nat} {xs ys : List Int} {ops : Array Oper} {rest : List Oper} {o : Oper} {a : Act} {Q : Exit → Act → World → Prop} (hgd : o.guard = none) (s x : Operand)
    (ho : o.op = .call { callee := .builtin .append, args := #[s, x], argTypes := #[26, 26] }) (h : GrI w B A c xs) (hy : RdI w Y ys) (hs : a.eval s = .slice A xs.length c) (hx : a.eval x = .slice Y ys.length c2)
    (hlen : xs.length + ys.length ≤ 1000000) (hB : B ≤ w.heap.size)
    (hk : ∀ A' c' w', GrI w' B A' c' (xs ++ ys) → w.grownBy w' (A.map (·.block)) → ((A' = A) ∨ ∃ a', A' = some a' ∧ a'.block = w.heap.size) → wpList Tryz.prog ops Q rest (a.put o.dst (.slice A' (xs.length + ys.length) c')) w') : wpList Tryz.prog ops Q (o :: rest) a w := by
  refine wpList_plain hgd fun K hK => ?_
  obtain ⟨A', c', w', hr, h2, h3, h4⟩ := run_append_ints (c2 := c2) h o.type hy hlen hB
  unfold Oper.wp execOp
  simp only [ho, resolve, invoke, builtin, Sem.run_bind, Sem.run_pure, Result.andThen_ok, List.map_toArray, List.map_cons, List.map_nil, hs, hx, hr]
  exact hK _ _ (hk A' c' w' h2 h3 h4)
theorem GrI.empty (w : World) {B : Nat} (hB : B ≤ w.heap.size) : GrI (w.alloc (.cells #[] 3)) B (some ⟨w.heap.size, 0, none⟩) 0 [] :=
  ⟨Nat.le_refl _, Nat.zero_le _, fun h => (by cases h), fun a ha => by
    cases ha
    exact ⟨w.heap.size, 0, _, rfl, hB, World.alloc_heap_new w _, by simp, fun j u hj => by simp at hj⟩⟩
def CopyPost (xs : List Int) (w : World) (e : Ending) (w' : World) : Prop := ∃ A c, e = .returned (.slice A xs.length c) ∧ Below w.heap.size w w' ∧ GrI w' w.heap.size A c xs
theorem copyInts_c {A : Option Addr} {c : Nat} {xs : List Int} {w : World} (h : RdI w A xs) (hl : xs.length ≤ 100000) : Calls Tryz.prog 19 #[.slice A xs.length c] w (CopyPost xs w) := by
  have H := Lib.hid h; clear h
  go_enter Tryz.func19, Tryz.ntmps19
  go_wp2_with (at_builtin; refine wpList_append_ints rfl _ _ rfl (GrI.empty w (Nat.le_refl _)) (H.out.keep ((Below.refl _ _).alloc (Nat.le_refl _) _)) rfl rfl (by simp; omega) (by simp) ?_)
  intro A' c' w' g1 g2 g3
  have G := Lib.hid (And.intro g1 (And.intro g2 g3)); clear g1 g2 g3
  go_wp2_with fail
  go_ret
  obtain ⟨g1, g2, g3⟩ := G.out
  refine ⟨A', c', rfl, ?_, g1⟩
  have hb : Below w.heap.size w (w.alloc (.cells #[] 3)) := (Below.refl _ _).alloc (Nat.le_refl _) _
  exact hb.trans ⟨g2.os, g2.tape, g2.output, g2.size, fun b hb' => g2.block b (by simp; omega) (fun e => by injection e with e; omega)⟩
structure ApD where
  B : Nat
  A : Option Addr
  c : Nat
  xs : List Int
  y : Int
def ApD.S (d : ApD) : List Nat := (d.A.map (·.block)).toList
structure ApD.ok (d : ApD) (W : World) : Prop where
  g : GrI W d.B d.A d.c d.xs
  le : d.B ≤ W.heap.size
  ll : d.xs.length < 100000
structure ApC (W : World) (d : ApD) (p1 p2 : Bool) (v1 v2 : Value) (w : World) : Prop where
  tch : Tch d.S W w
  b1 : p1 = true → ∃ b, v1 = .slice (some ⟨b, 0, none⟩) 1 1 ∧ W.heap.size ≤ b ∧ w.heap[b]? = some (.cells #[.int .i64 d.y] 3 (0, 0))
  a1 : if p2 = true then ∃ A' c', v2 = .slice A' (d.xs.length + 1) c' ∧ GrI w d.B A' c' (d.xs ++ [d.y]) else GrI w d.B d.A d.c d.xs
section
variable {W w : World} {d : ApD} {p1 p2 : Bool} {v1 v2 : Value}
theorem ApC.start (h : d.ok W) (w : World) (hw : w = W.drew) : ApC W d false false v1 v2 w := by
  subst hw
  exact ⟨(Tch.refl _ _).drewN 1, fun h => (by cases h), h.g.drewN 1⟩
theorem ApC.made (h : ApC W d p1 false v1 v2 w) : ApC W d true false (.slice (some ⟨w.heap.size, 0, none⟩) 1 1) v2 (w.alloc (.cells #[.int .i64 d.y] 3)) := by
  have hb : Below w.heap.size w (w.alloc (.cells #[.int .i64 d.y] 3)) := (Below.refl _ _).alloc (Nat.le_refl _) _
  refine ⟨h.tch.alloc _, fun _ => ⟨w.heap.size, rfl, h.tch.size, World.alloc_heap_new w _⟩, ?_⟩
  have := h.a1
  rw [if_neg (by simp)] at this ⊢
  exact this.keep hb
theorem ApC.app (h : ApC W d true false v1 v2 w) (hok : d.ok W) (ty : TypeId) :
    ∃ v w', (Builtin.append_ #[26, 26] ty #[.slice d.A d.xs.length d.c, v1]).run Tryz.prog w = .ok v w' ∧ ApC W d true true v1 v w' := by
  obtain ⟨s, rfl, s1, s2⟩ := h.b1 rfl
  have g := h.a1
  rw [if_neg (by simp)] at g
  have hWw := h.tch.size
  have hy : RdI w (some ⟨s, 0, none⟩) [d.y] := fun j hj => ⟨s, 0, rfl, by
    obtain rfl : j = 0 := by simpa using hj
    exact block_cell s2 (j := 0) (by simp)⟩
  obtain ⟨A', c', w', hr, k1, k2, k3⟩ := run_append_ints (c2 := 1) g ty hy (by have := hok.ll; simp; omega) (by have := hok.le; omega)
  have hs : some s ≠ d.A.map (·.block) := fun e => by
    have := (hok.g.lt e.symm).2
    omega
  refine ⟨_, w', hr, ⟨⟨k2.os.trans h.tch.os, k2.tape.trans h.tch.tape, k2.output.trans h.tch.output, Nat.le_trans h.tch.size k2.size, fun b hb hn => (k2.block b (by omega) (fun e => hn ?_)).trans (h.tch.block b hb hn)⟩, fun _ => ⟨s, rfl, s1, (k2.block s (Array.getElem?_eq_some_iff.1 s2).1 hs).trans s2⟩, ?_⟩⟩
  · unfold ApD.S; rw [← e]; simp
  · rw [if_pos rfl]; exact ⟨A', c', rfl, k1⟩
end
theorem ApC.up {W w : World} {d : ApD} {v1 v2 : Value} {L : Nat → Bool} {a1 a2 i : Nat} (hi : (Nat.beq a1 i || Nat.beq a2 i) = false)
    (h : ApC W d (L a1) (L a2) v1 v2 w) : ApC W d (upd L i a1) (upd L i a2) v1 v2 w := by
  simp only [Bool.or_eq_false_iff] at hi
  obtain ⟨h1, h2⟩ := hi
  simpa only [upd, h1, h2, cond_false] using h
abbrev ApF (W : World) (d : ApD) (a1 a2 : Nat) (L : Nat → Bool) (V : Nat → Value) (w : World) : Prop := ApC W d (L a1) (L a2) (V a1) (V a2) w
section
variable {W : World} {d : ApD} {l : Array Oper} {a1 a2 i : Nat} {o : Oper}
theorem ApC.ev_made (hs : decide (a1 < a2) = true) {L : Nat → Bool} {V : Nat → Value} {w : World} (hd : dep l a2 a1 = true) (hi : L a1 = false) (hc : Cl l L) (h : ApF W d a1 a2 L V w) :
    ApF W d a1 a2 (upd L a1) (setV V a1 (.slice (some ⟨w.heap.size, 0, none⟩) 1 1)) (w.alloc (.cells #[.int .i64 d.y] 3)) := by
  simp only [decide_eq_true_eq] at hs
  unfold ApF at h ⊢
  have h2 := hc.not hd hi
  rw [upd_same, upd_ne L (by omega : a2 ≠ a1), setV_same, setV_ne V _ (by omega : a2 ≠ a1), h2]
  rw [h2] at h
  exact h.made
theorem ApC.ev_app (hs : decide (a1 < a2) = true) (hok : d.ok W) {L : Nat → Bool} {V : Nat → Value} {w : World} (h : ApF W d a1 a2 L V w) (hL : L a2 = false)
    (hw : Waits o L) (h1 : (o.after.any fun e => Region.binds .any e && e.on == a1) = true) (ty : TypeId) :
    ∃ v w', (Builtin.append_ #[26, 26] ty #[.slice d.A d.xs.length d.c, V a1]).run Tryz.prog w = .ok v w' ∧ ApF W d a1 a2 (upd L a2) (setV V a2 v) w' := by
  simp only [decide_eq_true_eq] at hs
  unfold ApF at h ⊢
  rw [waits_at hw h1, hL] at h
  obtain ⟨v, w', k1, k2⟩ := h.app hok ty
  refine ⟨v, w', k1, ?_⟩
  rw [upd_same, upd_ne L (by omega : a1 ≠ a2), setV_same, setV_ne V _ (by omega : a1 ≠ a2), waits_at hw h1]
  exact k2
end
structure ApG (W : World) (d : ApD) (a1 a2 a3 : Nat) (L : Nat → Bool) (V : Nat → Value) (w : World) : Prop where
  f : ApF W d a1 a2 L V w
  g : L a3 = true → V a3 = V a2
section
variable {W w : World} {d : ApD} {l : Array Oper} {a1 a2 a3 i : Nat} {o : Oper} {L : Nat → Bool} {V : Nat → Value}
theorem ApG.start (h : d.ok W) : ApG W d a1 a2 a3 (fun _ => false) (fun _ => undef) W.drew := ⟨ApC.start h _ rfl, fun h => by cases h⟩
theorem ApG.up (hi : (Nat.beq a1 i || Nat.beq a2 i || Nat.beq a3 i) = false) (h : ApG W d a1 a2 a3 L V w) : ApG W d a1 a2 a3 (upd L i) V w := by
  simp only [Bool.or_eq_false_iff] at hi
  refine ⟨ApC.up (by simp [hi.1.1, hi.1.2]) h.f, ?_⟩
  have h3 := hi.2
  simpa only [upd, h3, cond_false] using h.g
theorem ApG.far (h : ApG W d a1 a2 a3 L V w) {a : Addr} {v : Value} (hn : a.block ∉ d.S) (hc : W.cell? a = some v) : w.cell? a = some v := h.f.tch.cell hn hc
theorem ApG.ev_made (hs : decide (a1 < a2 ∧ a2 < a3) = true) (hd : dep l a2 a1 = true) (hi : L a1 = false) (hc : Cl l L) (h : ApG W d a1 a2 a3 L V w) :
    ApG W d a1 a2 a3 (upd L a1) (setV V a1 (.slice (some ⟨w.heap.size, 0, none⟩) 1 1)) (w.alloc (.cells #[.int .i64 d.y] 3)) := by
  simp only [decide_eq_true_eq] at hs
  refine ⟨ApC.ev_made (by simp; omega) hd hi hc h.f, ?_⟩
  rw [upd_ne L (by omega : a3 ≠ a1), setV_ne V _ (by omega : a3 ≠ a1), setV_ne V _ (by omega : a2 ≠ a1)]
  exact h.g
theorem ApG.ev_app (hs : decide (a1 < a2 ∧ a2 < a3) = true) (hok : d.ok W) (h : ApG W d a1 a2 a3 L V w) (hL : L a2 = false) (hd : dep l a3 a2 = true) (hc : Cl l L)
    (hw : Waits o L) (h1 : (o.after.any fun e => Region.binds .any e && e.on == a1) = true) (ty : TypeId) :
    ∃ v w', (Builtin.append_ #[26, 26] ty #[.slice d.A d.xs.length d.c, V a1]).run Tryz.prog w = .ok v w' ∧ ApG W d a1 a2 a3 (upd L a2) (setV V a2 v) w' := by
  simp only [decide_eq_true_eq] at hs
  obtain ⟨v, w', k1, k2⟩ := ApC.ev_app (by simp; omega) hok h.f hL hw h1 ty
  refine ⟨v, w', k1, k2, ?_⟩
  rw [upd_ne L (by omega : a3 ≠ a2), hc.not hd hL]
  exact fun h => by cases h
theorem ApG.ev_asg (hs : decide (a1 < a2 ∧ a2 < a3) = true) (h : ApG W d a1 a2 a3 L V w) : ApG W d a1 a2 a3 (upd L a3) (setV V a3 (V a2)) w := by
  simp only [decide_eq_true_eq] at hs
  refine ⟨?_, fun _ => by rw [setV_same, setV_ne V _ (by omega : a2 ≠ a3)]⟩
  have hf := h.f
  unfold ApF at hf ⊢
  rw [upd_ne L (by omega : a1 ≠ a3), upd_ne L (by omega : a2 ≠ a3), setV_ne V _ (by omega : a1 ≠ a3), setV_ne V _ (by omega : a2 ≠ a3)]
  exact hf
end
theorem ex_asg {P : Program} {ρ : Operand → Value} {o : Oper} {w : World} (x : Operand) (ho : o.op = .assign x) : (execOp ρ o).run P w = .ok (.value (ρ x)) w := by
  unfold execOp
  simp [ho]
theorem ex_sliceI {ρ : Operand → Value} {o : Oper} {w : World} (x : Operand) (ho : o.op = .buildSlice 26 1 #[(0, x)]) (y : Int) (hx : ρ x = .int .i64 y) : (execOp ρ o).run Tryz.prog w = .ok (.value (.slice (some ⟨w.heap.size, 0, none⟩) 1 1)) (w.alloc (.cells #[.int .i64 y] 3)) := by
  unfold execOp
  simp only [ho, hx, List.map_toArray, List.map_cons, List.map_nil]
  have h : (Instr.buildSlice 26 1 #[(0, .int .i64 y)]).run Tryz.prog w = .ok (.slice (some ⟨w.heap.size, 0, none⟩) 1 1) (w.alloc (.cells #[.int .i64 y] 3)) := by
    simp [Instr.buildSlice, go_sem]
  simp [h]
end Go.Proofs.YtjnpchoinncbnaaGreat
end
section
namespace Sw
structure Pr where
  f : Nat
  s : Nat
deriving DecidableEq
def gq (ps : List Pr) (i : Nat) : Pr := ps.getD i ⟨0, 0⟩
def rt (u : List Int) (v : Nat) : Nat := (gi u v).toNat
structure Lab (n : Nat) (ps : List Pr) (L : List Nat) (u : List Int) : Prop where
  len : u.length = n
  lo : ∀ v, v < n → 0 ≤ gi u v
  hi : ∀ v, v < n → gi u v ≤ v
  idem : ∀ v, v < n → gi u (rt u v) = gi u v
  joins : ∀ i, i ∈ L → gi u (gq ps i).f = gi u (gq ps i).s
  cl : ∀ d : Nat → Int, (∀ i, i ∈ L → d (gq ps i).f = d (gq ps i).s) → ∀ v, v < n → d v = d (rt u v)
section
variable {n : Nat} {ps : List Pr} {L L' T : List Nat} {u u' : List Int}
theorem Lab.rt_eq (h : Lab n ps L u) {v : Nat} (hv : v < n) : ((rt u v : Nat) : Int) = gi u v := by
  unfold rt; have := h.lo v hv; omega
theorem Lab.rt_le (h : Lab n ps L u) {v : Nat} (hv : v < n) : rt u v ≤ v := by
  have := h.rt_eq hv; have := h.hi v hv; omega
theorem ext_gi {xs ys : List Int} (hl : xs.length = ys.length) (h : ∀ i, i < xs.length → gi xs i = gi ys i) : xs = ys := by
  apply List.ext_getElem hl
  intro i h1 h2
  have := h i h1
  simpa [gi, h1, h2] using this
theorem Lab.uniq (h : Lab n ps L u) (h' : Lab n ps L' u') (h1 : ∀ i, i ∈ L → i ∈ L') (h2 : ∀ d : Nat → Int, (∀ i, i ∈ L → d (gq ps i).f = d (gq ps i).s) → ∀ i, i ∈ L' → d (gq ps i).f = d (gq ps i).s) : u = u' := by
  refine ext_gi (by rw [h.len, h'.len]) fun v hv => ?_
  rw [h.len] at hv
  have a1 := h.cl (fun x => gi u' x) (fun i hi => h'.joins i (h1 i hi)) v hv
  have a2 := h'.cl (fun x => gi u x) (h2 _ (fun i hi => h.joins i hi)) v hv
  have b1 := h'.hi (rt u v) (Nat.lt_of_le_of_lt (h.rt_le hv) hv)
  have b2 := h.hi (rt u' v) (Nat.lt_of_le_of_lt (h'.rt_le hv) hv)
  have c1 := h.rt_eq hv
  have c2 := h'.rt_eq hv
  omega
theorem Lab.uniq_mem (h : Lab n ps L u) (h' : Lab n ps L' u') (hm : ∀ i, i ∈ L ↔ i ∈ L') : u = u' :=
  h.uniq h' (fun i hi => (hm i).1 hi) (fun _ hd i hi => hd i ((hm i).2 hi))
theorem Lab.start (n : Nat) (ps : List Pr) : Lab n ps [] ((List.range n).map Int.ofNat) := by
  have g : ∀ v, v < n → gi ((List.range n).map Int.ofNat) v = v := fun v hv => by simp [gi, hv]
  refine ⟨by simp, fun v hv => by rw [g v hv]; omega, fun v hv => by rw [g v hv]; omega, fun v hv => ?_, fun i hi => by simp at hi, fun d _ v hv => ?_⟩
  · unfold rt; rw [g v hv]; simp [g v hv]
  · unfold rt; rw [g v hv]; simp
def jn (u : List Int) (a b : Int) : List Int := u.map fun x => if x = a ∨ x = b then min a b else x
theorem gi_map {xs : List Int} {f : Int → Int} {i : Nat} (hi : i < xs.length) : gi (xs.map f) i = f (gi xs i) := by
  simp [gi, hi]
theorem gi_jn {u : List Int} {a b : Int} {v : Nat} (hv : v < u.length) : gi (jn u a b) v = if gi u v = a ∨ gi u v = b then min a b else gi u v := gi_map hv
theorem jn_self {u : List Int} {a : Int} : jn u a a = u := by
  unfold jn
  conv => rhs; rw [← List.map_id u]
  apply List.map_congr_left
  intro x _
  simp only [id]
  split
  · rename_i h; rcases h with h | h <;> (rw [h]; omega)
  · rfl
theorem Lab.join (h : Lab n ps L u) {i : Nat} (hf : (gq ps i).f < n) (hs : (gq ps i).s < n) : Lab n ps (L ++ [i]) (jn u (gi u (gq ps i).f) (gi u (gq ps i).s)) := by
  have ha0 := h.lo _ hf
  have hb0 := h.lo _ hs
  have har := h.rt_eq hf
  have hbr := h.rt_eq hs
  have hai := h.idem _ hf
  have hbi := h.idem _ hs
  have hal := h.rt_le hf
  have hbl := h.rt_le hs
  generalize hA : gi u (gq ps i).f = a at *
  generalize hB : gi u (gq ps i).s = b at *
  generalize hra : rt u (gq ps i).f = ra at *
  generalize hrb : rt u (gq ps i).s = rb at *
  have hlen : (jn u a b).length = n := by simp [jn, h.len]
  have g : ∀ v, v < n → gi (jn u a b) v = if gi u v = a ∨ gi u v = b then min a b else gi u v := fun v hv => gi_jn (by rw [h.len]; exact hv)
  have gm : gi u (min a b).toNat = min a b := by
    rcases Int.le_total a b with hl | hl
    · rw [show min a b = a by omega, show a.toNat = ra by omega]; exact hai
    · rw [show min a b = b by omega, show b.toNat = rb by omega]; exact hbi
  refine ⟨hlen, fun v hv => ?_, fun v hv => ?_, fun v hv => ?_, fun k hk => ?_, fun d hd v hv => ?_⟩
  · rw [g v hv]; have := h.lo v hv; split <;> omega
  · rw [g v hv]; have := h.hi v hv; split <;> omega
  · have hr : rt (jn u a b) v < n := by
      unfold rt; rw [g v hv]; have := h.hi v hv; have := h.lo v hv; split <;> omega
    rw [g _ hr]
    unfold rt
    rw [g v hv]
    by_cases e : gi u v = a ∨ gi u v = b
    · rw [if_pos e, gm, if_pos (by omega)]
    · have hi := h.idem v hv
      unfold rt at hi
      rw [if_neg e, hi, if_neg e]
  · rw [List.mem_append, List.mem_singleton] at hk
    by_cases ho : (gq ps k).f < n ∧ (gq ps k).s < n
    · rw [g _ ho.1, g _ ho.2]
      rcases hk with hk | rfl
      · rw [h.joins k hk]
      · rw [hA, hB, if_pos (.inl rfl), if_pos (.inr rfl)]
    · rcases hk with hk | rfl
      · have hj := h.joins k hk
        have z : ∀ v, ¬ v < n → gi (jn u a b) v = 0 ∧ gi u v = 0 := fun v hv => by
          constructor
          · unfold gi; simp [List.getD_eq_getElem?_getD, List.getElem?_eq_none (show (jn u a b).length ≤ v by rw [hlen]; omega)]
          · unfold gi; simp [List.getD_eq_getElem?_getD, List.getElem?_eq_none (show u.length ≤ v by rw [h.len]; omega)]
        by_cases e1 : (gq ps k).f < n
        · have e2 : ¬ (gq ps k).s < n := fun e => ho ⟨e1, e⟩
          have z2 := z _ e2
          rw [g _ e1, z2.1, hj, z2.2]
          split <;> omega
        · by_cases e2 : (gq ps k).s < n
          · have z1 := z _ e1
            rw [g _ e2, z1.1, ← hj, z1.2]
            split <;> omega
          · rw [(z _ e1).1, (z _ e2).1]
      · exact absurd ⟨hf, hs⟩ ho
  · have hd' : ∀ k, k ∈ L → d (gq ps k).f = d (gq ps k).s := fun k hk => hd k (by simp [hk])
    have e0 := h.cl d hd' v hv
    have ef := h.cl d hd' _ hf
    have es := h.cl d hd' _ hs
    have ei := hd i (by simp)
    rw [hra] at ef
    rw [hrb] at es
    have hrv : rt (jn u a b) v = if gi u v = a ∨ gi u v = b then (min a b).toNat else rt u v := by
      unfold rt; rw [g v hv]; split <;> rfl
    have hd_ab : d ra = d rb := by rw [← ef, ← es, ei]
    have hdm : d (min a b).toNat = d ra := by
      rcases Int.le_total a b with hl | hl
      · rw [show (min a b).toNat = ra by omega]
      · rw [show (min a b).toNat = rb by omega, hd_ab]
    rw [hrv]
    have hrt : rt u v = (gi u v).toNat := rfl
    split
    · rename_i e
      rw [hdm, e0]
      rcases e with e | e
      · rw [show rt u v = ra by omega]
      · rw [show rt u v = rb by omega, hd_ab]
    · exact e0
theorem Lab.skip (h : Lab n ps L u) {i : Nat} (hf : (gq ps i).f < n) (hs : (gq ps i).s < n) (he : gi u (gq ps i).f = gi u (gq ps i).s) : Lab n ps (L ++ [i]) u := by
  have := h.join hf hs
  rw [he, jn_self] at this
  exact this
theorem jn_max {u : List Int} {a b : Int} : (u.map fun x => if x = max a b then min a b else x) = jn u a b := by
  unfold jn
  apply List.map_congr_left
  intro x _
  by_cases h1 : x = a
  · subst h1; by_cases h2 : b ≤ x
    · rw [if_pos (by omega), if_pos (.inl rfl)]
    · rw [if_neg (by omega), if_pos (.inl rfl)]; omega
  · by_cases h2 : x = b
    · subst h2; by_cases h3 : a ≤ x
      · rw [if_pos (by omega), if_pos (.inr rfl)]
      · rw [if_neg (by omega), if_pos (.inr rfl)]; omega
    · rw [if_neg (by omega), if_neg (by omega)]
inductive Kr (n : Nat) (ps : List Pr) : List Nat → List Nat → Prop
  | nil : Kr n ps [] []
  | take {L T : List Nat} {u : List Int} {i : Nat} : Kr n ps L T → Lab n ps L u → gi u (gq ps i).f ≠ gi u (gq ps i).s → Kr n ps (L ++ [i]) (T ++ [i])
  | skip {L T : List Nat} {u : List Int} {i : Nat} : Kr n ps L T → Lab n ps L u → gi u (gq ps i).f = gi u (gq ps i).s → Kr n ps (L ++ [i]) T
theorem Kr.sub (h : Kr n ps L T) : ∀ i, i ∈ T → i ∈ L := by
  induction h with
  | nil => exact fun i h => h
  | take _ _ _ ih => intro i hi; rw [List.mem_append] at hi ⊢; exact hi.imp (ih i) id
  | skip _ _ _ ih => intro i hi; rw [List.mem_append]; exact .inl (ih i hi)
theorem Kr.uniq {T' : List Nat} (h : Kr n ps L T) : Kr n ps L T' → T = T' := by
  induction h generalizing T' with
  | nil =>
    intro h'
    generalize hL : ([] : List Nat) = L at h'
    cases h' with
    | nil => rfl
    | take _ _ _ => simp at hL
    | skip _ _ _ => simp at hL
  | @take L T u i k hl hn ih =>
    intro h'
    generalize hL : L ++ [i] = L2 at h'
    cases h' with
    | nil => simp at hL
    | @take L3 T3 u3 i3 k3 hl3 hn3 =>
      obtain ⟨rfl, e⟩ := List.append_inj' hL rfl
      obtain rfl : i = i3 := by simpa using e
      rw [ih k3]
    | @skip L3 T3 u3 i3 k3 hl3 hn3 =>
      obtain ⟨rfl, e⟩ := List.append_inj' hL rfl
      obtain rfl : i = i3 := by simpa using e
      rw [hl.uniq_mem hl3 (fun _ => Iff.rfl)] at hn
      exact absurd hn3 hn
  | @skip L T u i k hl hn ih =>
    intro h'
    generalize hL : L ++ [i] = L2 at h'
    cases h' with
    | nil => simp at hL
    | @take L3 T3 u3 i3 k3 hl3 hn3 =>
      obtain ⟨rfl, e⟩ := List.append_inj' hL rfl
      obtain rfl : i = i3 := by simpa using e
      rw [hl.uniq_mem hl3 (fun _ => Iff.rfl)] at hn
      exact absurd hn hn3
    | @skip L3 T3 u3 i3 k3 hl3 hn3 =>
      obtain ⟨rfl, e⟩ := List.append_inj' hL rfl
      obtain rfl : i = i3 := by simpa using e
      exact ih k3
theorem Kr.all (h : Kr n ps L T) (hb : ∀ i, i ∈ L → (gq ps i).f < n ∧ (gq ps i).s < n) : ∀ d : Nat → Int, (∀ i, i ∈ T → d (gq ps i).f = d (gq ps i).s) → ∀ i, i ∈ L → d (gq ps i).f = d (gq ps i).s := by
  induction h with
  | nil => intro d _ i hi; simp at hi
  | @take L T u i k hl hn ih =>
    intro d hd j hj
    rw [List.mem_append, List.mem_singleton] at hj
    rcases hj with hj | rfl
    · exact ih (fun i hi => hb i (by simp [hi])) d (fun i hi => hd i (by simp [hi])) j hj
    · exact hd j (by simp)
  | @skip L T u i k hl hn ih =>
    intro d hd j hj
    have ih' := ih (fun i hi => hb i (by simp [hi])) d hd
    rw [List.mem_append, List.mem_singleton] at hj
    rcases hj with hj | rfl
    · exact ih' j hj
    · obtain ⟨b1, b2⟩ := hb j (by simp)
      rw [hl.cl d ih' _ b1, hl.cl d ih' _ b2]
      unfold rt; rw [hn]
theorem Kr.lab (h : Kr n ps L T) (hb : ∀ i, i ∈ L → (gq ps i).f < n ∧ (gq ps i).s < n) (hu : Lab n ps T u) (hu' : Lab n ps L u') : u = u' :=
  hu.uniq hu' h.sub (h.all hb)
structure Pot (n : Nat) (ps : List Pr) (u : List Int) (T : List Nat) (ph : List Int) (p : Nat → Int) : Prop where
  root : ∀ v, v < n → gi u v = v → p v = 0
  edge : ∀ i, i ∈ T → p (gq ps i).s - p (gq ps i).f = gi ph i
theorem Pot.uniq {ph : List Int} {p p' : Nat → Int} (hb : ∀ i, i ∈ L → (gq ps i).f < n ∧ (gq ps i).s < n) (hk : Kr n ps L T) (hu : Lab n ps L u) (h : Pot n ps u T ph p) (h' : Pot n ps u T ph p') : ∀ v, v < n → p v = p' v := by
  intro v hv
  have h1 := hu.cl (fun x => p x - p' x) (hk.all hb (fun x => p x - p' x) (fun i hi => by have := h.edge i hi; have := h'.edge i hi; show p _ - p' _ = p _ - p' _; omega)) v hv
  have hr : rt u v < n := Nat.lt_of_le_of_lt (hu.rt_le hv) hv
  have hg : gi u (rt u v) = ((rt u v : Nat) : Int) := by rw [hu.idem v hv, hu.rt_eq hv]
  have r1 := h.root _ hr hg
  have r2 := h'.root _ hr hg
  omega
theorem Kr.pot (ph : List Int) (h : Kr n ps L T) (hb : ∀ i, i ∈ L → (gq ps i).f < n ∧ (gq ps i).s < n) : ∀ u, Lab n ps L u → ∃ p, Pot n ps u T ph p := by
  induction h with
  | nil => exact fun u _ => ⟨fun _ => 0, ⟨fun _ _ _ => rfl, fun i hi => by simp at hi⟩⟩
  | @skip L T u i k hl hn ih =>
    intro u' hu'
    obtain ⟨b1, b2⟩ := hb i (by simp)
    have e := (hl.skip b1 b2 hn).uniq_mem hu' (fun _ => Iff.rfl)
    subst e
    exact ih (fun i hi => hb i (by simp [hi])) u hl
  | @take L T u i k hl hn ih =>
    intro u' hu'
    obtain ⟨b1, b2⟩ := hb i (by simp)
    have e := (hl.join b1 b2).uniq_mem hu' (fun _ => Iff.rfl)
    subst e
    obtain ⟨p, hp⟩ := ih (fun i hi => hb i (by simp [hi])) u hl
    obtain ⟨a, ha⟩ : ∃ a, gi u (gq ps i).f = a := ⟨_, rfl⟩
    obtain ⟨b, hbb⟩ : ∃ b, gi u (gq ps i).s = b := ⟨_, rfl⟩
    rw [ha, hbb] at hn
    obtain ⟨c, hc⟩ : ∃ c, c = p (gq ps i).f + gi ph i - p (gq ps i).s := ⟨_, rfl⟩
    have hlen := hl.len
    rw [ha, hbb]
    by_cases hab : a ≤ b
    · refine ⟨fun v => if gi u v = b then p v + c else p v, ⟨fun v hv hr => ?_, fun j hj => ?_⟩⟩
      · rw [gi_jn (by rw [hlen]; exact hv)] at hr
        by_cases e : gi u v = a ∨ gi u v = b
        · rw [if_pos e, show min a b = a by omega] at hr
          have hav : gi u v = v := by
            have h1 := hl.idem _ b1
            have h2 := hl.rt_eq b1
            rw [ha] at h1 h2
            have h3 : rt u (gq ps i).f = v := by omega
            rw [h3] at h1
            omega
          rw [if_neg (by omega)]
          exact hp.root v hv hav
        · rw [if_neg e] at hr
          rw [if_neg (fun h => e (.inr h))]
          exact hp.root v hv hr
      · rw [List.mem_append, List.mem_singleton] at hj
        rcases hj with hj | rfl
        · have := hp.edge j hj
          have hg := hl.joins j (k.sub j hj)
          rw [hg]
          split <;> omega
        · rw [ha, hbb, if_neg hn, if_pos rfl]; omega
    · refine ⟨fun v => if gi u v = a then p v - c else p v, ⟨fun v hv hr => ?_, fun j hj => ?_⟩⟩
      · rw [gi_jn (by rw [hlen]; exact hv)] at hr
        by_cases e : gi u v = a ∨ gi u v = b
        · rw [if_pos e, show min a b = b by omega] at hr
          have hav : gi u v = v := by
            have h1 := hl.idem _ b2
            have h2 := hl.rt_eq b2
            rw [hbb] at h1 h2
            have h3 : rt u (gq ps i).s = v := by omega
            rw [h3] at h1
            omega
          rw [if_neg (by omega)]
          exact hp.root v hv hav
        · rw [if_neg e] at hr
          rw [if_neg (fun h => e (.inl h))]
          exact hp.root v hv hr
      · rw [List.mem_append, List.mem_singleton] at hj
        rcases hj with hj | rfl
        · have := hp.edge j hj
          have hg := hl.joins j (k.sub j hj)
          rw [hg]
          split <;> omega
        · rw [ha, hbb, if_pos rfl, if_neg (fun h => hn h.symm)]; omega
end
end Sw
end
