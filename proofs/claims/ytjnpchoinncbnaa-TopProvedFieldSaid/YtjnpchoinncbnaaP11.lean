/- Proves parts of the statement, each under the conditions that its theorem states: Two rows of a slice of slices grow in one statement; The parts: two neighbours are noted; The parts: the rows of neighbours, and the contract; The parts: the contract. -/
import Derived.Test.YtjnpchoinncbnaaP09
import Derived.Test.YtjnpchoinncbnaaP07
import Derived.Test.YtjnpchoinncbnaaP10
section
set_option linter.unusedSimpArgs false
set_option linter.unusedVariables false
namespace Go.Proofs.Ytjnpchoinncbnaa
open Go.RowKit Sw Fam
structure TwoD where
  B : Nat
  R : Nat
  n : Nat
  f : Nat
  t : Nat
  y1 : Int
  y2 : Int
  A : Nat → Option Addr
  c : Nat → Nat
  rows : Nat → List Int
  cs : Array Value
def TwoD.bf (d : TwoD) : Option Nat := (d.A d.f).map (·.block)
def TwoD.bt (d : TwoD) : Option Nat := (d.A d.t).map (·.block)
def TwoD.S (d : TwoD) : List Nat := d.R :: (d.bf.toList ++ d.bt.toList)
structure TwoD.ok (d : TwoD) (W : World) : Prop where
  hd : W.heap[d.R]? = some (.cells d.cs 22 (0, 0))
  sz : d.cs.size = d.n
  lf : d.f < d.n
  lt : d.t < d.n
  ne : d.f ≠ d.t
  gf : GrI W d.B (d.A d.f) (d.c d.f) (d.rows d.f)
  gt : GrI W d.B (d.A d.t) (d.c d.t) (d.rows d.t)
  hf : d.cs[d.f]? = some (.slice (d.A d.f) (d.rows d.f).length (d.c d.f))
  ht : d.cs[d.t]? = some (.slice (d.A d.t) (d.rows d.t).length (d.c d.t))
  apart : ∀ b, d.bf = some b → d.bt ≠ some b
  nf : d.bf ≠ some d.R
  nt : d.bt ≠ some d.R
  le : d.B ≤ d.R ∧ d.B ≤ W.heap.size
  ll : (d.rows d.f).length < 100000 ∧ (d.rows d.t).length < 100000
def TwoD.hdr (d : TwoD) (p5 p6 : Bool) (v1 v2 : Value) : Array Value :=
  let cs := if p5 = true then d.cs.setIfInBounds d.f v1 else d.cs
  if p6 = true then cs.setIfInBounds d.t v2 else cs
def Made (W w : World) (v : Value) (y : Int) : Prop := ∃ b, v = .slice (some ⟨b, 0, none⟩) 1 1 ∧ W.heap.size ≤ b ∧ b < w.heap.size ∧ w.cell? ⟨b, 0, none⟩ = some (.int .i64 y)
def Grown1 (W w : World) (B : Nat) (A : Option Addr) (l : Nat) (xs : List Int) (v : Value) : Prop :=
  ∃ A' c', v = .slice A' l c' ∧ GrI w B A' c' xs ∧ ∃ a', A' = some a' ∧ (A = some a' ∨ W.heap.size ≤ a'.block)
structure TwoC (W : World) (d : TwoD) (p1 p2 p3 p4 p5 p6 : Bool) (v1 v2 v3 v4 : Value) (w : World) : Prop where
  tch : Tch d.S W w
  b1 : p1 = true → Made W w v1 d.y1
  b2 : p3 = true → Made W w v3 d.y2
  hd : w.heap[d.R]? = some (.cells (d.hdr p5 p6 v2 v4) 22 (0, 0))
  a1 : if p2 = true then Grown1 W w d.B (d.A d.f) ((d.rows d.f).length + 1) (d.rows d.f ++ [d.y1]) v2 else GrI w d.B (d.A d.f) (d.c d.f) (d.rows d.f)
  a2 : if p4 = true then Grown1 W w d.B (d.A d.t) ((d.rows d.t).length + 1) (d.rows d.t ++ [d.y2]) v4 ∧ (p2 = true → ∀ b, v2.ownBlock = some b → v4.ownBlock ≠ some b) else GrI w d.B (d.A d.t) (d.c d.t) (d.rows d.t)
theorem Made.step {S : List Nat} {W w w' : World} {v : Value} {y : Int} (h : Made W w v y) (ht : Tch S w w') (hS : ∀ b, b ∈ S → b < W.heap.size) : Made W w' v y := by
  obtain ⟨b, h1, h2, h3, h4⟩ := h
  exact ⟨b, h1, h2, Nat.lt_of_lt_of_le h3 ht.size, ht.cell (fun hm => by have := hS b hm; omega) h4⟩
section
variable {W w : World} {d : TwoD} {p1 p2 p3 p4 p5 p6 : Bool} {v1 v2 v3 v4 : Value}
theorem TwoD.ok.bfl (h : d.ok W) {b : Nat} (hb : d.bf = some b) : b < W.heap.size := (h.gf.lt hb).2
theorem TwoD.ok.btl (h : d.ok W) {b : Nat} (hb : d.bt = some b) : b < W.heap.size := (h.gt.lt hb).2
theorem TwoD.ok.Rl (h : d.ok W) : d.R < W.heap.size := (Array.getElem?_eq_some_iff.1 h.hd).1
theorem TwoD.ok.Sl (h : d.ok W) : ∀ b, b ∈ d.S → b < W.heap.size := by
  intro b hb
  simp only [TwoD.S, List.mem_cons, List.mem_append, Option.mem_toList] at hb
  rcases hb with rfl | hb | hb
  · exact h.Rl
  · exact h.bfl hb
  · exact h.btl hb
theorem TwoC.start (h : d.ok W) (w : World) (hw : w = W.drew) : TwoC W d false false false false false false v1 v2 v3 v4 w := by
  subst hw
  exact ⟨(Tch.refl _ _).drewN 1, fun h => (by cases h), fun h => (by cases h), h.hd, h.gf.drewN 1, h.gt.drewN 1⟩
theorem grown_map {x : Option Addr} {a : Addr} (h : x = some a) : x.map (·.block) = some a.block := by rw [h]; rfl
theorem Grown1.move {W w w' : World} {B : Nat} {A : Option Addr} {l : Nat} {xs : List Int} {v : Value} (h : Grown1 W w B A l xs v) (hm : ∀ b, v.ownBlock = some b → w'.heap[b]? = w.heap[b]?) : Grown1 W w' B A l xs v := by
  obtain ⟨A', c', h1, h2, h3⟩ := h
  refine ⟨A', c', h1, h2.move fun b hb => hm b ?_, h3⟩
  rw [h1]
  obtain ⟨a', e, _⟩ := h3
  subst e
  exact hb
theorem Grown1.blk {W w : World} {B : Nat} {A : Option Addr} {l : Nat} {xs : List Int} {v : Value} (h : Grown1 W w B A l xs v) {b : Nat} (hb : v.ownBlock = some b) : b < w.heap.size ∧ B ≤ b ∧ (A.map (·.block) = some b ∨ W.heap.size ≤ b) := by
  obtain ⟨A', c', h1, h2, a', rfl, h3⟩ := h
  subst h1
  obtain rfl : a'.block = b := by simpa [Value.ownBlock] using hb
  have := h2.lt (b := a'.block) rfl
  exact ⟨this.2, this.1, h3.imp (fun e => grown_map e) id⟩
theorem TwoC.alloc (h : TwoC W d p1 p2 p3 p4 p5 p6 v1 v2 v3 v4 w) (hok : d.ok W) (o : Obj) : TwoC W d p1 p2 p3 p4 p5 p6 v1 v2 v3 v4 (w.alloc o) := by
  have hb : Below w.heap.size w (w.alloc o) := (Below.refl _ _).alloc (Nat.le_refl _) _
  have hk : ∀ b, b < w.heap.size → (w.alloc o).heap[b]? = w.heap[b]? := fun b hb' => hb.block b hb'
  have hWw := h.tch.size
  refine ⟨h.tch.alloc o, fun e => (h.b1 e).step ((Tch.refl [] _).alloc o) (by simp), fun e => (h.b2 e).step ((Tch.refl [] _).alloc o) (by simp), (hk _ (by have := hok.Rl; omega)).trans h.hd, ?_, ?_⟩
  · have := h.a1
    split
    · rename_i e; rw [if_pos e] at this; exact this.move fun b hb => hk b (this.blk hb).1
    · rename_i e; rw [if_neg e] at this; exact this.keep hb
  · have := h.a2
    split
    · rename_i e; rw [if_pos e] at this; exact ⟨this.1.move fun b hb => hk b (this.1.blk hb).1, this.2⟩
    · rename_i e; rw [if_neg e] at this; exact this.keep hb
theorem TwoC.made1 (h : TwoC W d p1 p2 p3 p4 p5 p6 v1 v2 v3 v4 w) (hok : d.ok W) : TwoC W d true p2 p3 p4 p5 p6 (.slice (some ⟨w.heap.size, 0, none⟩) 1 1) v2 v3 v4 (w.alloc (.cells #[.int .i64 d.y1] 3)) := by
  have h1 := h.alloc hok (.cells #[.int .i64 d.y1] 3)
  refine ⟨h1.tch, fun _ => ⟨w.heap.size, rfl, h.tch.size, by simp, block_cell (World.alloc_heap_new w _) (j := 0) (by simp)⟩, h1.b2, h1.hd, h1.a1, h1.a2⟩
theorem TwoC.made2 (h : TwoC W d p1 p2 p3 p4 p5 p6 v1 v2 v3 v4 w) (hok : d.ok W) : TwoC W d p1 p2 true p4 p5 p6 v1 v2 (.slice (some ⟨w.heap.size, 0, none⟩) 1 1) v4 (w.alloc (.cells #[.int .i64 d.y2] 3)) := by
  have h1 := h.alloc hok (.cells #[.int .i64 d.y2] 3)
  refine ⟨h1.tch, h1.b1, fun _ => ⟨w.heap.size, rfl, h.tch.size, by simp, block_cell (World.alloc_heap_new w _) (j := 0) (by simp)⟩, h1.hd, h1.a1, h1.a2⟩
theorem TwoC.app1 (h : TwoC W d true false p3 false false false v1 v2 v3 v4 w) (hok : d.ok W) (ty : TypeId) :
    ∃ v w', (Builtin.append_ #[22, 22] ty #[.slice (d.A d.f) (d.rows d.f).length (d.c d.f), v1]).run Try.prog w = .ok v w' ∧ TwoC W d true true p3 false false false v1 v v3 v4 w' := by
  obtain ⟨s, rfl, s1, s2, s3⟩ := h.b1 rfl
  have g := h.a1
  rw [if_neg (by simp)] at g
  have g2 := h.a2
  rw [if_neg (by simp)] at g2
  have hWw := h.tch.size
  obtain ⟨A', c', w', hr, k1, k2, a', rfl, k3⟩ := run_append_int g ty d.y1 s 1 s3 (by have := hok.ll; omega) (by have := hok.le; omega)
  have hS : Tch (d.bf.toList) w w' := ⟨k2.os, k2.tape, k2.output, k2.size, fun b hb hn => k2.block b hb (fun e => hn (by rw [Option.mem_toList]; exact e.symm))⟩
  refine ⟨_, w', hr, h.tch.trans (hS.mono fun b hb => .inl (List.mem_cons_of_mem _ (List.mem_append_left _ hb))), fun _ => Made.step ⟨s, rfl, s1, s2, s3⟩ hS (fun b hb => hok.bfl (by simpa using hb)), fun e => (h.b2 e).step hS (fun b hb => hok.bfl (by simpa using hb)), ?_, ?_, ?_⟩
  · have : d.R ∉ d.bf.toList := fun hm => hok.nf (by simpa using hm)
    exact (hS.block d.R (by have := hok.Rl; omega) this).trans h.hd
  · rw [if_pos rfl]
    refine ⟨_, c', rfl, k1, a', rfl, ?_⟩
    rcases k3 with e | e
    · exact .inl e
    · exact .inr (by omega)
  · rw [if_neg (by simp)]
    exact g2.move fun b hb => hS.block b (g2.lt hb).2 (fun hm => hok.apart b (by simpa using hm) hb)
theorem TwoC.app2 (h : TwoC W d p1 true true false false false v1 v2 v3 v4 w) (hok : d.ok W) (ty : TypeId) :
    ∃ v w', (Builtin.append_ #[22, 22] ty #[.slice (d.A d.t) (d.rows d.t).length (d.c d.t), v3]).run Try.prog w = .ok v w' ∧ TwoC W d p1 true true true false false v1 v2 v3 v w' := by
  obtain ⟨s, rfl, s1, s2, s3⟩ := h.b2 rfl
  have g := h.a2
  rw [if_neg (by simp)] at g
  have g1 := h.a1
  rw [if_pos rfl] at g1
  have hWw := h.tch.size
  obtain ⟨A', c', w', hr, k1, k2, a', rfl, k3⟩ := run_append_int g ty d.y2 s 1 s3 (by have := hok.ll; omega) (by have := hok.le; omega)
  have hS : Tch (d.bt.toList) w w' := ⟨k2.os, k2.tape, k2.output, k2.size, fun b hb hn => k2.block b hb (fun e => hn (by rw [Option.mem_toList]; exact e.symm))⟩
  have hne : ∀ b, v2.ownBlock = some b → b ∉ d.bt.toList := fun b hb hm => by
    have hm' : d.bt = some b := by simpa using hm
    rcases (g1.blk hb).2.2 with e | e
    · exact hok.apart b e hm'
    · have := hok.btl hm'; omega
  refine ⟨_, w', hr, h.tch.trans (hS.mono fun b hb => .inl (List.mem_cons_of_mem _ (List.mem_append_right _ hb))), fun e => (h.b1 e).step hS (fun b hb => hok.btl (by simpa using hb)), fun _ => Made.step ⟨s, rfl, s1, s2, s3⟩ hS (fun b hb => hok.btl (by simpa using hb)), ?_, ?_, ?_⟩
  · have : d.R ∉ d.bt.toList := fun hm => hok.nt (by simpa using hm)
    exact (hS.block d.R (by have := hok.Rl; omega) this).trans h.hd
  · rw [if_pos rfl]
    exact g1.move fun b hb => hS.block b (g1.blk hb).1 (hne b hb)
  · rw [if_pos rfl]
    refine ⟨⟨_, c', rfl, k1, a', rfl, ?_⟩, fun _ b hb he => ?_⟩
    · rcases k3 with e | e
      · exact .inl e
      · exact .inr (by omega)
    · have he' : a'.block = b := by simpa [Value.ownBlock] using he
      have hb1 := (g1.blk hb).1
      rcases k3 with e | e
      · refine hne b hb ?_
        rw [Option.mem_toList]
        exact (grown_map e).trans (by rw [he'])
      · omega
theorem TwoC.put1 (h : TwoC W d p1 true p3 true false false v1 v2 v3 v4 w) (hok : d.ok W) : TwoC W d p1 true p3 true true false v1 v2 v3 v4 (w.setCell ⟨d.R, d.f, none⟩ v2) := by
  have g1 := h.a1
  rw [if_pos rfl] at g1
  have g2 := h.a2
  rw [if_pos rfl] at g2
  have hS : Tch [d.R] w (w.setCell ⟨d.R, d.f, none⟩ v2) := (Tch.refl _ _).set (.inl (by simp)) _
  have hR := hok.Rl
  have hnb : ∀ b, d.bf = some b ∨ W.heap.size ≤ b → b ≠ d.R := fun b hb e => by
    subst e
    rcases hb with hb | hb
    · exact hok.nf hb
    · omega
  have hnb2 : ∀ b, d.bt = some b ∨ W.heap.size ≤ b → b ≠ d.R := fun b hb e => by
    subst e
    rcases hb with hb | hb
    · exact hok.nt hb
    · omega
  refine ⟨h.tch.set (.inl (List.mem_cons_self ..)) _, fun e => (h.b1 e).step hS (by simpa using hR), fun e => (h.b2 e).step hS (by simpa using hR), ?_, ?_, ?_⟩
  · have := heap_setCell_same w d.R d.f _ _ v2 h.hd
    simpa [TwoD.hdr] using this
  · rw [if_pos rfl]
    exact g1.move fun b hb => Below.heap_setCell _ _ _ _ (hnb b (g1.blk hb).2.2)
  · rw [if_pos rfl]
    exact ⟨g2.1.move fun b hb => Below.heap_setCell _ _ _ _ (hnb2 b (g2.1.blk hb).2.2), g2.2⟩
theorem TwoC.put2 (h : TwoC W d p1 true p3 true true false v1 v2 v3 v4 w) (hok : d.ok W) : TwoC W d p1 true p3 true true true v1 v2 v3 v4 (w.setCell ⟨d.R, d.t, none⟩ v4) := by
  have g1 := h.a1
  rw [if_pos rfl] at g1
  have g2 := h.a2
  rw [if_pos rfl] at g2
  have hS : Tch [d.R] w (w.setCell ⟨d.R, d.t, none⟩ v4) := (Tch.refl _ _).set (.inl (by simp)) _
  have hR := hok.Rl
  have hnb : ∀ b, d.bf = some b ∨ W.heap.size ≤ b → b ≠ d.R := fun b hb e => by
    subst e
    rcases hb with hb | hb
    · exact hok.nf hb
    · omega
  have hnb2 : ∀ b, d.bt = some b ∨ W.heap.size ≤ b → b ≠ d.R := fun b hb e => by
    subst e
    rcases hb with hb | hb
    · exact hok.nt hb
    · omega
  refine ⟨h.tch.set (.inl (List.mem_cons_self ..)) _, fun e => (h.b1 e).step hS (by simpa using hR), fun e => (h.b2 e).step hS (by simpa using hR), ?_, ?_, ?_⟩
  · have := heap_setCell_same w d.R d.t _ _ v4 h.hd
    simpa [TwoD.hdr] using this
  · rw [if_pos rfl]
    exact g1.move fun b hb => Below.heap_setCell _ _ _ _ (hnb b (g1.blk hb).2.2)
  · rw [if_pos rfl]
    exact ⟨g2.1.move fun b hb => Below.heap_setCell _ _ _ _ (hnb2 b (g2.1.blk hb).2.2), g2.2⟩
theorem TwoC.row (h : TwoC W d p1 p2 p3 p4 false false v1 v2 v3 v4 w) {u : Nat} {v : Value} (hu : d.cs[u]? = some v) : w.cell? ⟨d.R, u, none⟩ = some v := by
  have := h.hd
  simp only [TwoD.hdr, Bool.false_eq_true, if_false] at this
  simp [World.cell?, this, hu]
theorem TwoC.there (h : TwoC W d p1 p2 p3 p4 p5 p6 v1 v2 v3 v4 w) (hok : d.ok W) {u : Nat} (hu : u < d.n) : (∃ x, w.cell? ⟨d.R, u, none⟩ = some x) ∧ w.frozen? ⟨d.R, u, none⟩ = false := by
  have hs : (d.hdr p5 p6 v2 v4).size = d.n := by
    unfold TwoD.hdr
    simp only
    split <;> split <;> simp [hok.sz]
  refine ⟨⟨(d.hdr p5 p6 v2 v4)[u]'(by omega), block_cell h.hd (by omega)⟩, by simp [World.frozen?, h.hd]⟩
end
theorem TwoC.up {W w : World} {d : TwoD} {v1 v2 v3 v4 : Value} {L : Nat → Bool} {a1 a2 a3 a4 a5 a6 i : Nat} (hi : (Nat.beq a1 i || Nat.beq a2 i || Nat.beq a3 i || Nat.beq a4 i || Nat.beq a5 i || Nat.beq a6 i) = false)
    (h : TwoC W d (L a1) (L a2) (L a3) (L a4) (L a5) (L a6) v1 v2 v3 v4 w) : TwoC W d (upd L i a1) (upd L i a2) (upd L i a3) (upd L i a4) (upd L i a5) (upd L i a6) v1 v2 v3 v4 w := by
  simp only [Bool.or_eq_false_iff] at hi
  obtain ⟨⟨⟨⟨⟨h1, h2⟩, h3⟩, h4⟩, h5⟩, h6⟩ := hi
  simpa only [upd, h1, h2, h3, h4, h5, h6, cond_false] using h
theorem ex_append {P : Program} {ρ : Operand → Value} {o : Oper} {w w' : World} (s x : Operand) (ts : Array TypeId) (ho : o.op = .call { callee := .builtin .append, args := #[s, x], argTypes := ts }) {a b v : Value} (hs : ρ s = a) (hx : ρ x = b)
    (h : (Builtin.append_ ts o.type #[a, b]).run P w = .ok v w') : (execOp ρ o).run P w = .ok (.value v) w' := by
  unfold execOp
  simp only [ho, resolve, invoke, builtin, Sem.run_bind, Sem.run_pure, Result.andThen_ok, List.map_toArray, List.map_cons, List.map_nil, hs, hx, h]
theorem ex_slice1i {ρ : Operand → Value} {o : Oper} {w : World} (x : Operand) (ho : o.op = .buildSlice 22 1 #[(0, x)]) (c : Int) (hx : ρ x = .int .i64 c) : (execOp ρ o).run Try.prog w = .ok (.value (.slice (some ⟨w.heap.size, 0, none⟩) 1 1)) (w.alloc (.cells #[.int .i64 c] 3)) := ex_slice1 x ho c hx
theorem TwoC.far {W w : World} {d : TwoD} {p1 p2 p3 p4 p5 p6 : Bool} {v1 v2 v3 v4 : Value} (h : TwoC W d p1 p2 p3 p4 p5 p6 v1 v2 v3 v4 w) {a : Addr} {v : Value} (hn : a.block ∉ d.S) (hc : W.cell? a = some v) : w.cell? a = some v := h.tch.cell hn hc
section
variable {W : World} {d : TwoD} {l : Array Oper} {a1 a2 a3 a4 a5 a6 i : Nat} {o : Oper}
abbrev TwoF (W : World) (d : TwoD) (a1 a2 a3 a4 a5 a6 : Nat) (L : Nat → Bool) (V : Nat → Value) (w : World) : Prop := TwoC W d (L a1) (L a2) (L a3) (L a4) (L a5) (L a6) (V a1) (V a2) (V a3) (V a4) w
theorem TwoC.ev_row {L : Nat → Bool} {V : Nat → Value} {w : World} (hd : (dep l a5 i && dep l a6 i) = true) (hi : L i = false) (hc : Cl l L) (h : TwoF W d a1 a2 a3 a4 a5 a6 L V w) {u : Nat} {v : Value} (hu : d.cs[u]? = some v) : w.cell? ⟨d.R, u, none⟩ = some v := by
  rw [Bool.and_eq_true] at hd
  have h1 := hc.not hd.1 hi
  have h2 := hc.not hd.2 hi
  unfold TwoF at h
  rw [h1, h2] at h
  exact h.row hu
theorem waits_at {o : Oper} {L : Nat → Bool} (hw : Waits o L) {j : Nat} (h : (o.after.any fun e => Region.binds .any e && e.on == j) = true) : L j = true := by
  obtain ⟨e, he, hb⟩ := Array.any_eq_true'.1 h
  simp only [Bool.and_eq_true, beq_iff_eq] at hb
  rw [← hb.2]; exact hw e he hb.1
def six (a1 a2 a3 a4 a5 a6 : Nat) : Bool := decide (a1 < a2 ∧ a2 < a3 ∧ a3 < a4 ∧ a4 < a5 ∧ a5 < a6)
theorem TwoC.ev_made1 (hs : six a1 a2 a3 a4 a5 a6 = true) (hok : d.ok W) {L : Nat → Bool} {V : Nat → Value} {w : World} (h : TwoF W d a1 a2 a3 a4 a5 a6 L V w) :
    TwoF W d a1 a2 a3 a4 a5 a6 (upd L a1) (setV V a1 (.slice (some ⟨w.heap.size, 0, none⟩) 1 1)) (w.alloc (.cells #[.int .i64 d.y1] 3)) := by
  simp only [six, decide_eq_true_eq] at hs
  unfold TwoF
  rw [upd_same, upd_ne L (by omega : a2 ≠ a1), upd_ne L (by omega : a3 ≠ a1), upd_ne L (by omega : a4 ≠ a1), upd_ne L (by omega : a5 ≠ a1), upd_ne L (by omega : a6 ≠ a1),
    setV_same, setV_ne V _ (by omega : a2 ≠ a1), setV_ne V _ (by omega : a3 ≠ a1), setV_ne V _ (by omega : a4 ≠ a1)]
  exact TwoC.made1 h hok
theorem TwoC.ev_made2 (hs : six a1 a2 a3 a4 a5 a6 = true) (hok : d.ok W) {L : Nat → Bool} {V : Nat → Value} {w : World} (h : TwoF W d a1 a2 a3 a4 a5 a6 L V w) :
    TwoF W d a1 a2 a3 a4 a5 a6 (upd L a3) (setV V a3 (.slice (some ⟨w.heap.size, 0, none⟩) 1 1)) (w.alloc (.cells #[.int .i64 d.y2] 3)) := by
  simp only [six, decide_eq_true_eq] at hs
  unfold TwoF
  rw [upd_same, upd_ne L (by omega : a1 ≠ a3), upd_ne L (by omega : a2 ≠ a3), upd_ne L (by omega : a4 ≠ a3), upd_ne L (by omega : a5 ≠ a3), upd_ne L (by omega : a6 ≠ a3),
    setV_same, setV_ne V _ (by omega : a1 ≠ a3), setV_ne V _ (by omega : a2 ≠ a3), setV_ne V _ (by omega : a4 ≠ a3)]
  exact TwoC.made2 h hok
theorem TwoC.ev_app1 (hs : six a1 a2 a3 a4 a5 a6 = true) (hok : d.ok W) {L : Nat → Bool} {V : Nat → Value} {w : World} (h : TwoF W d a1 a2 a3 a4 a5 a6 L V w) (hL : L a2 = false) (hc : Cl l L) (hd : (dep l a4 a2 && dep l a5 a2 && dep l a6 a2) = true)
    (hw : Waits o L) (h1 : (o.after.any fun e => Region.binds .any e && e.on == a1) = true) (ty : TypeId) :
    ∃ v w', (Builtin.append_ #[22, 22] ty #[.slice (d.A d.f) (d.rows d.f).length (d.c d.f), V a1]).run Try.prog w = .ok v w' ∧ TwoF W d a1 a2 a3 a4 a5 a6 (upd L a2) (setV V a2 v) w' := by
  simp only [Bool.and_eq_true] at hd
  simp only [six, decide_eq_true_eq] at hs
  unfold TwoF at h ⊢
  rw [waits_at hw h1, hL, hc.not hd.1.1 hL, hc.not hd.1.2 hL, hc.not hd.2 hL] at h
  obtain ⟨v, w', k1, k2⟩ := h.app1 hok ty
  refine ⟨v, w', k1, ?_⟩
  rw [upd_same, upd_ne L (by omega : a1 ≠ a2), upd_ne L (by omega : a3 ≠ a2), upd_ne L (by omega : a4 ≠ a2), upd_ne L (by omega : a5 ≠ a2), upd_ne L (by omega : a6 ≠ a2),
    setV_same, setV_ne V _ (by omega : a1 ≠ a2), setV_ne V _ (by omega : a3 ≠ a2), setV_ne V _ (by omega : a4 ≠ a2), waits_at hw h1, hc.not hd.1.1 hL, hc.not hd.1.2 hL, hc.not hd.2 hL]
  exact k2
theorem TwoC.ev_app2 (hs : six a1 a2 a3 a4 a5 a6 = true) (hok : d.ok W) {L : Nat → Bool} {V : Nat → Value} {w : World} (h : TwoF W d a1 a2 a3 a4 a5 a6 L V w) (hL : L a4 = false) (hc : Cl l L) (hd : (dep l a5 a4 && dep l a6 a4) = true)
    (hw : Waits o L) (h1 : (o.after.any fun e => Region.binds .any e && e.on == a3) = true) (h2 : (o.after.any fun e => Region.binds .any e && e.on == a2) = true) (ty : TypeId) :
    ∃ v w', (Builtin.append_ #[22, 22] ty #[.slice (d.A d.t) (d.rows d.t).length (d.c d.t), V a3]).run Try.prog w = .ok v w' ∧ TwoF W d a1 a2 a3 a4 a5 a6 (upd L a4) (setV V a4 v) w' := by
  simp only [Bool.and_eq_true] at hd
  simp only [six, decide_eq_true_eq] at hs
  unfold TwoF at h ⊢
  rw [waits_at hw h1, waits_at hw h2, hL, hc.not hd.1 hL, hc.not hd.2 hL] at h
  obtain ⟨v, w', k1, k2⟩ := h.app2 hok ty
  refine ⟨v, w', k1, ?_⟩
  rw [upd_same, upd_ne L (by omega : a1 ≠ a4), upd_ne L (by omega : a2 ≠ a4), upd_ne L (by omega : a3 ≠ a4), upd_ne L (by omega : a5 ≠ a4), upd_ne L (by omega : a6 ≠ a4),
    setV_same, setV_ne V _ (by omega : a1 ≠ a4), setV_ne V _ (by omega : a2 ≠ a4), setV_ne V _ (by omega : a3 ≠ a4), waits_at hw h1, waits_at hw h2, hc.not hd.1 hL, hc.not hd.2 hL]
  exact k2
theorem TwoC.ev_put1 (hs : six a1 a2 a3 a4 a5 a6 = true) (hok : d.ok W) {L : Nat → Bool} {V : Nat → Value} {w : World} (h : TwoF W d a1 a2 a3 a4 a5 a6 L V w) (hL : L a5 = false) (hc : Cl l L) (hd : dep l a6 a5 = true)
    (hw : Waits o L) (h2 : (o.after.any fun e => Region.binds .any e && e.on == a2) = true) (h4 : (o.after.any fun e => Region.binds .any e && e.on == a4) = true) :
    (∃ A c, V a2 = .slice A ((d.rows d.f).length + 1) c) ∧ ((∃ x, w.cell? ⟨d.R, d.f, none⟩ = some x) ∧ w.frozen? ⟨d.R, d.f, none⟩ = false) ∧ TwoF W d a1 a2 a3 a4 a5 a6 (upd L a5) V (w.setCell ⟨d.R, d.f, none⟩ (V a2)) := by
  simp only [six, decide_eq_true_eq] at hs
  unfold TwoF at h ⊢
  rw [waits_at hw h2, waits_at hw h4, hL, hc.not hd hL] at h
  refine ⟨?_, h.there hok hok.lf, ?_⟩
  · have := h.a1
    rw [if_pos rfl] at this
    obtain ⟨A, c, e, _⟩ := this
    exact ⟨A, c, e⟩
  · rw [upd_same, upd_ne L (by omega : a1 ≠ a5), upd_ne L (by omega : a2 ≠ a5), upd_ne L (by omega : a3 ≠ a5), upd_ne L (by omega : a4 ≠ a5), upd_ne L (by omega : a6 ≠ a5), waits_at hw h2, waits_at hw h4, hc.not hd hL]
    exact h.put1 hok
theorem TwoC.ev_put2 (hs : six a1 a2 a3 a4 a5 a6 = true) (hok : d.ok W) {L : Nat → Bool} {V : Nat → Value} {w : World} (h : TwoF W d a1 a2 a3 a4 a5 a6 L V w) (hL : L a6 = false)
    (hw : Waits o L) (h2 : (o.after.any fun e => Region.binds .any e && e.on == a2) = true) (h4 : (o.after.any fun e => Region.binds .any e && e.on == a4) = true) (h5 : (o.after.any fun e => Region.binds .any e && e.on == a5) = true) :
    (∃ A c, V a4 = .slice A ((d.rows d.t).length + 1) c) ∧ ((∃ x, w.cell? ⟨d.R, d.t, none⟩ = some x) ∧ w.frozen? ⟨d.R, d.t, none⟩ = false) ∧ TwoF W d a1 a2 a3 a4 a5 a6 (upd L a6) V (w.setCell ⟨d.R, d.t, none⟩ (V a4)) := by
  simp only [six, decide_eq_true_eq] at hs
  unfold TwoF at h ⊢
  rw [waits_at hw h2, waits_at hw h4, waits_at hw h5, hL] at h
  refine ⟨?_, h.there hok hok.lt, ?_⟩
  · have := h.a2
    rw [if_pos rfl] at this
    obtain ⟨⟨A, c, e, _⟩, _⟩ := this
    exact ⟨A, c, e⟩
  · rw [upd_same, upd_ne L (by omega : a1 ≠ a6), upd_ne L (by omega : a2 ≠ a6), upd_ne L (by omega : a3 ≠ a6), upd_ne L (by omega : a4 ≠ a6), upd_ne L (by omega : a5 ≠ a6), waits_at hw h2, waits_at hw h4, waits_at hw h5]
    exact h.put2 hok
end
structure RowsG (w : World) (B R n : Nat) (rows : Nat → List Int) (A : Nat → Option Addr) (c : Nat → Nat) : Prop where
  blk : ∃ cs, w.heap[R]? = some (.cells cs 22 (0, 0)) ∧ cs.size = n ∧ ∀ u, u < n → cs[u]? = some (.slice (A u) (rows u).length (c u))
  gr : ∀ u, u < n → GrI w B (A u) (c u) (rows u)
  apart : ∀ u v, u < n → v < n → u ≠ v → ∀ b, (A u).map (·.block) = some b → (A v).map (·.block) ≠ some b
  nR : ∀ u, u < n → (A u).map (·.block) ≠ some R
  le : B ≤ R
theorem RowsG.keep {w w' : World} {B R n : Nat} {rows : Nat → List Int} {A : Nat → Option Addr} {c : Nat → Nat} (h : RowsG w B R n rows A c) (hb : Below w.heap.size w w') : RowsG w' B R n rows A c := by
  obtain ⟨⟨cs, h1, h2⟩, h3, h4, h5, h6⟩ := h
  exact ⟨⟨cs, (hb.block _ (Array.getElem?_eq_some_iff.1 h1).1).trans h1, h2⟩, fun u hu => (h3 u hu).keep hb, h4, h5, h6⟩
theorem RowsG.lt {w : World} {B R n : Nat} {rows : Nat → List Int} {A : Nat → Option Addr} {c : Nat → Nat} (h : RowsG w B R n rows A c) : R < w.heap.size := by
  obtain ⟨⟨cs, h1, h2⟩, _⟩ := h
  exact (Array.getElem?_eq_some_iff.1 h1).1
def grow2 (rows : Nat → List Int) (f t : Nat) (y1 y2 : Int) (u : Nat) : List Int := if u = f then rows u ++ [y1] else if u = t then rows u ++ [y2] else rows u
theorem RowsG.ok {w : World} {B R n : Nat} {rows : Nat → List Int} {A : Nat → Option Addr} {c : Nat → Nat} (h : RowsG w B R n rows A c) {f t : Nat} (hf : f < n) (ht : t < n) (hne : f ≠ t) (hB : B ≤ w.heap.size) (hl : ∀ u, u < n → (rows u).length < 100000) (y1 y2 : Int) :
    ∃ cs, TwoD.ok ⟨B, R, n, f, t, y1, y2, A, c, rows, cs⟩ w := by
  obtain ⟨⟨cs, h1, h2, h7⟩, h3, h4, h5, h6⟩ := h
  exact ⟨cs, h1, h2, hf, ht, hne, h3 f hf, h3 t ht, h7 f hf, h7 t ht, h4 f t hf ht hne, h5 f hf, h5 t ht, ⟨h6, hB⟩, ⟨hl f hf, hl t ht⟩⟩
theorem TwoC.done {W w : World} {B R n : Nat} {rows : Nat → List Int} {A : Nat → Option Addr} {c : Nat → Nat} (h : RowsG W B R n rows A c) {f t : Nat} {y1 y2 : Int} {cs : Array Value} (hok : TwoD.ok ⟨B, R, n, f, t, y1, y2, A, c, rows, cs⟩ W) {v1 v2 v3 v4 : Value}
    (hC : TwoC W ⟨B, R, n, f, t, y1, y2, A, c, rows, cs⟩ true true true true true true v1 v2 v3 v4 w) : ∃ A' c', RowsG w B R n (grow2 rows f t y1 y2) A' c' ∧ ∀ u, u < n → ∀ b, (A' u).map (·.block) = some b → (A u).map (·.block) = some b ∨ W.heap.size ≤ b := by
  obtain ⟨⟨cs0, e1, e2, e3⟩, q3, q4, q5, q6⟩ := h
  have ecs : cs0 = cs := by
    have := e1.symm.trans hok.hd
    injection this with this; injection this
  subst ecs
  have g1 := hC.a1
  rw [if_pos rfl] at g1
  have g2 := hC.a2
  rw [if_pos rfl] at g2
  obtain ⟨g2, g4⟩ := g2
  have g3 := g4 rfl
  clear g4
  obtain ⟨A1, c1, r1, r2, a1, rfl, r3⟩ := g1
  obtain ⟨A2, c2, s1, s2, a2, rfl, s3⟩ := g2
  subst r1 s1
  simp only at *
  have hft : f ≠ t := hok.ne
  have hne : a1.block ≠ a2.block := fun e => g3 a1.block rfl (by simp [Value.ownBlock, e])
  have hst : ∀ u, u < n → u ≠ f → u ≠ t → ∀ b, (A u).map (·.block) = some b → b ∉ (TwoD.S ⟨B, R, n, f, t, y1, y2, A, c, rows, cs0⟩) := fun u hu h1 h2 b hb hm => by
    simp only [TwoD.S, TwoD.bf, TwoD.bt, List.mem_cons, List.mem_append, Option.mem_toList] at hm
    rcases hm with rfl | hm | hm
    · exact q5 u hu hb
    · exact q4 u f hu hok.lf h1 b hb hm
    · exact q4 u t hu hok.lt h2 b hb hm
  refine ⟨fun u => if u = f then some a1 else if u = t then some a2 else A u, fun u => if u = f then c1 else if u = t then c2 else c u, ⟨⟨_, hC.hd, ?_, fun u hu => ?_⟩, fun u hu => ?_, fun u v hu hv huv b hb => ?_, fun u hu => ?_, q6⟩, fun u hu b hb => ?_⟩
  · simp [TwoD.hdr, e2]
  · simp only [TwoD.hdr, if_true]
    unfold grow2
    by_cases h1 : u = f
    · subst h1
      rw [if_pos rfl, if_pos rfl, if_pos rfl, Array.getElem?_setIfInBounds_ne (fun e => hft e.symm)]
      simp [e2, hu]
    · rw [if_neg h1, if_neg h1, if_neg h1]
      by_cases h2 : u = t
      · subst h2
        rw [if_pos rfl, if_pos rfl, if_pos rfl]
        simp [e2, hu]
      · rw [if_neg h2, if_neg h2, if_neg h2, Array.getElem?_setIfInBounds_ne (fun e => h2 e.symm), Array.getElem?_setIfInBounds_ne (fun e => h1 e.symm)]
        exact e3 u hu
  · unfold grow2
    by_cases h1 : u = f
    · subst h1; rw [if_pos rfl, if_pos rfl, if_pos rfl]; exact r2
    · rw [if_neg h1, if_neg h1, if_neg h1]
      by_cases h2 : u = t
      · subst h2; rw [if_pos rfl, if_pos rfl, if_pos rfl]; exact s2
      · rw [if_neg h2, if_neg h2, if_neg h2]
        exact (q3 u hu).move fun b hb => hC.tch.block b ((q3 u hu).lt hb).2 (hst u hu h1 h2 b hb)
  · -- rows are apart
    have old1 : ∀ w, w < n → w ≠ f → w ≠ t → (A w).map (·.block) ≠ some a1.block := fun w hw w1 w2 e => by
      rcases r3 with e' | e'
      · exact q4 w f hw hok.lf w1 _ e (grown_map e')
      · have := ((q3 w hw).lt e).2; omega
    have old2 : ∀ w, w < n → w ≠ f → w ≠ t → (A w).map (·.block) ≠ some a2.block := fun w hw w1 w2 e => by
      rcases s3 with e' | e'
      · exact q4 w t hw hok.lt w2 _ e (grown_map e')
      · have := ((q3 w hw).lt e).2; omega
    by_cases u1 : u = f
    · rw [if_pos u1] at hb
      obtain rfl : a1.block = b := by simpa using hb
      rw [if_neg (fun e => huv (u1.trans e.symm))]
      by_cases v2 : v = t
      · rw [if_pos v2]; simp; exact fun e => hne e.symm
      · rw [if_neg v2]; exact old1 v hv (fun e => huv (u1.trans e.symm)) v2
    · rw [if_neg u1] at hb
      by_cases u2 : u = t
      · rw [if_pos u2] at hb
        obtain rfl : a2.block = b := by simpa using hb
        by_cases v1 : v = f
        · rw [if_pos v1]; simp; exact hne
        · rw [if_neg v1, if_neg (fun e => huv (u2.trans e.symm))]
          exact old2 v hv v1 (fun e => huv (u2.trans e.symm))
      · rw [if_neg u2] at hb
        by_cases v1 : v = f
        · rw [if_pos v1]; intro e
          exact old1 u hu u1 u2 (hb.trans e.symm)
        · rw [if_neg v1]
          by_cases v2 : v = t
          · rw [if_pos v2]; intro e
            exact old2 u hu u1 u2 (hb.trans e.symm)
          · rw [if_neg v2]; exact q4 u v hu hv huv b hb
  · have hR := hok.Rl
    by_cases u1 : u = f
    · rw [if_pos u1]
      intro e
      obtain e : a1.block = R := by simpa using e
      rcases r3 with e' | e'
      · exact hok.nf ((grown_map e').trans (by rw [e]))
      · simp only at hR; omega
    · rw [if_neg u1]
      by_cases u2 : u = t
      · rw [if_pos u2]
        intro e
        obtain e : a2.block = R := by simpa using e
        rcases s3 with e' | e'
        · exact hok.nt ((grown_map e').trans (by rw [e]))
        · simp only at hR; omega
      · rw [if_neg u2]; exact q5 u hu
  · dsimp only at hb
    by_cases u1 : u = f
    · rw [if_pos u1] at hb
      obtain rfl : a1.block = b := by simpa using hb
      subst u1
      exact r3.imp (fun e => grown_map e) id
    · rw [if_neg u1] at hb
      by_cases u2 : u = t
      · rw [if_pos u2] at hb
        obtain rfl : a2.block = b := by simpa using hb
        subst u2
        exact s3.imp (fun e => grown_map e) id
      · rw [if_neg u2] at hb; exact .inl hb
theorem RowsG.other {w : World} {B R n : Nat} {rows : Nat → List Int} {A : Nat → Option Addr} {c : Nat → Nat} (h : RowsG w B R n rows A c) {b i : Nat} (h1 : R ≠ b) (h2 : ∀ u, u < n → (A u).map (·.block) ≠ some b) (v : Value) : RowsG (w.setCell ⟨b, i, none⟩ v) B R n rows A c := by
  obtain ⟨⟨cs, g1, g2⟩, g3, g4, g5, g6⟩ := h
  exact ⟨⟨cs, (Below.heap_setCell _ _ _ _ h1).trans g1, g2⟩, fun u hu => (g3 u hu).other (h2 u hu) v, g4, g5, g6⟩
end Go.Proofs.Ytjnpchoinncbnaa
end

section
set_option linter.unusedSimpArgs false
set_option linter.unusedVariables false
namespace Go.Proofs.Ytjnpchoinncbnaa
open Go.RowKit Sw Fam
set_option maxHeartbeats 4000000 in
set_option maxRecDepth 100000 in
theorem part_grow {m tb eb : Nat} {W : World} {d : TwoD} {Q : Exit → Act → World → Prop} {u0 u1 u2 u4 u6 u7 u8 u9 u10 u11 u12 u13 u14 u15 u16 u17 u18 u19 u20 u21 u22 u23 u24 u25 u26 u27 u28 u29 u30 u31 u32 u33 u34 u35 u36 u37 u38 u39 u40 u41 u42 u43 u44 u45 u46 u47 u48 u49 u50 u51 u52 : Value}
    (hok : d.ok W) (hy : d.y1 = d.t ∧ d.y2 = d.f) (hn : d.n ≤ 1000) (ht : W.cell? ⟨tb, 0, none⟩ = some (.slice (some ⟨d.R, 0, none⟩) d.n d.n)) (htS : tb ∉ d.S) (heS : eb ∉ d.S)
    (e0 : W.cell? ⟨eb, 0, none⟩ = some (.int .i64 d.f)) (e1 : W.cell? ⟨eb, 1, none⟩ = some (.int .i64 d.t))
    (hQ : ∀ v21 v22 v23 v24 v25 v26 v27 v28 v29 v30 v31 v32 v33 v34 v35 v36 v37 v38 v39 v40 v41 v42 v43 v44 v45 v46 w' a1 a2 a3 a4, TwoC W d true true true true true true a1 a2 a3 a4 w' → Q .normal ⟨#[u0, u1, u2, .pointer (some ⟨tb, 0, none⟩), u4, .pointer (some ⟨eb, 0, none⟩), u6, u7, u8, u9, u10, u11, u12, u13, u14, u15, u16, u17, u18, u19, u20, v21, v22, v23, v24, v25, v26, v27, v28, v29, v30, v31, v32, v33, v34, v35, v36, v37, v38, v39, v40, v41, v42, v43, v44, v45, v46, u47, u48, u49, u50, u51, u52], []⟩ w') :
    Code.wpIn Fence.wide m Try.prog (Try.f44.sub [1, 1, 0, 1, 0, 0, 1, 1, 0, 0, 1, 1, 0]) Q ⟨#[u0, u1, u2, .pointer (some ⟨tb, 0, none⟩), u4, .pointer (some ⟨eb, 0, none⟩), u6, u7, u8, u9, u10, u11, u12, u13, u14, u15, u16, u17, u18, u19, u20, u21, u22, u23, u24, u25, u26, u27, u28, u29, u30, u31, u32, u33, u34, u35, u36, u37, u38, u39, u40, u41, u42, u43, u44, u45, u46, u47, u48, u49, u50, u51, u52], []⟩ W := by
  conv => arg 4; whnf
  dsimp only
  have HQ := Lib.hid hQ; clear hQ
  have lf := hok.lf
  have lt := hok.lt
  have HK := Lib.hid hok; clear hok
  have HY := Lib.hid hy; clear hy
  obtain ⟨dB, dR, dn, df, dt, y1, y2, dA, dc, drows, dcs⟩ := d
  dsimp only at *
  refine regionIn_rel (.inl rfl) (by kernel_rfl) (by kernel_rfl) (by kernel_rfl) (fun L V w' => TwoC W ⟨dB, dR, dn, df, dt, y1, y2, dA, dc, drows, dcs⟩ (L 13) (L 14) (L 22) (L 23) (L 25) (L 27) (V 13) (V 14) (V 22) (V 23) w') (TwoC.start HK.out _ rfl) ?_
  (refine rel_val rfl _ (fun _ _ _ h => TwoC.up rfl h) (fun V L w h1 h2 h3 hC => ex_load1 _ _ rfl _ rfl (TwoC.far hC htS ht) _ Try.underlying60 rfl) ?_; simp only [Act.put, List.setIfInBounds_toArray, List.set_cons_succ, List.set_cons_zero])
  (refine rel_val rfl (.pointer (some ⟨eb, 0, none⟩)) (fun _ _ _ h => TwoC.up rfl h) (fun V L w h1 h2 h3 hC => by unfold execOp; go_simp) ?_; simp only [Act.put, List.setIfInBounds_toArray, List.set_cons_succ, List.set_cons_zero])
  (refine rel_val rfl _ (fun _ _ _ h => TwoC.up rfl h) (fun V L w h1 h2 h3 hC => ex_load1 _ _ rfl _ rfl (TwoC.far hC heS e0) _ Try.underlying3 rfl) ?_; simp only [Act.put, List.setIfInBounds_toArray, List.set_cons_succ, List.set_cons_zero])
  (refine rel_val rfl _ (fun _ _ _ h => TwoC.up rfl h) (fun V L w h1 h2 h3 hC => ex_load1 _ _ rfl _ rfl (TwoC.far hC htS ht) _ Try.underlying60 rfl) ?_; simp only [Act.put, List.setIfInBounds_toArray, List.set_cons_succ, List.set_cons_zero])
  (refine rel_val rfl (.pointer (some ⟨eb, 1, none⟩)) (fun _ _ _ h => TwoC.up rfl h) (fun V L w h1 h2 h3 hC => by unfold execOp; go_simp) ?_; simp only [Act.put, List.setIfInBounds_toArray, List.set_cons_succ, List.set_cons_zero])
  (refine rel_val rfl _ (fun _ _ _ h => TwoC.up rfl h) (fun V L w h1 h2 h3 hC => ex_load1 _ _ rfl _ rfl (TwoC.far hC heS e1) _ Try.underlying3 rfl) ?_; simp only [Act.put, List.setIfInBounds_toArray, List.set_cons_succ, List.set_cons_zero])
  (refine rel_val rfl _ (fun _ _ _ h => TwoC.up rfl h) (fun V L w h1 h2 h3 hC => ex_load1 _ _ rfl _ rfl (TwoC.far hC htS ht) _ Try.underlying60 rfl) ?_; simp only [Act.put, List.setIfInBounds_toArray, List.set_cons_succ, List.set_cons_zero])
  (refine rel_val rfl (.pointer (some ⟨eb, 0, none⟩)) (fun _ _ _ h => TwoC.up rfl h) (fun V L w h1 h2 h3 hC => by unfold execOp; go_simp) ?_; simp only [Act.put, List.setIfInBounds_toArray, List.set_cons_succ, List.set_cons_zero])
  (refine rel_val rfl _ (fun _ _ _ h => TwoC.up rfl h) (fun V L w h1 h2 h3 hC => ex_load1 _ _ rfl _ rfl (TwoC.far hC heS e0) _ Try.underlying3 rfl) ?_; simp only [Act.put, List.setIfInBounds_toArray, List.set_cons_succ, List.set_cons_zero])
  (refine rel_val rfl (.pointer (some ⟨dR, df, none⟩)) (fun _ _ _ h => TwoC.up rfl h) (fun V L w h1 h2 h3 hC => by unfold execOp; go_simp) ?_; simp only [Act.put, List.setIfInBounds_toArray, List.set_cons_succ, List.set_cons_zero])
  refine rel_val rfl (.slice (dA df) (drows df).length (dc df)) (fun _ _ _ h => TwoC.up rfl h) (fun V L w h1 h2 h3 hC => ex_load1 _ _ rfl _ rfl (TwoC.ev_row (by kernel_rfl) h1 h3 hC HK.out.hf) _ Try.underlying22 rfl) ?_
  simp only [Act.put, List.setIfInBounds_toArray, List.set_cons_succ, List.set_cons_zero]
  (refine rel_val rfl (.pointer (some ⟨eb, 1, none⟩)) (fun _ _ _ h => TwoC.up rfl h) (fun V L w h1 h2 h3 hC => by unfold execOp; go_simp) ?_; simp only [Act.put, List.setIfInBounds_toArray, List.set_cons_succ, List.set_cons_zero])
  (refine rel_val rfl _ (fun _ _ _ h => TwoC.up rfl h) (fun V L w h1 h2 h3 hC => ex_load1 _ _ rfl _ rfl (TwoC.far hC heS e1) _ Try.underlying3 rfl) ?_; simp only [Act.put, List.setIfInBounds_toArray, List.set_cons_succ, List.set_cons_zero])
  refine rel_free rfl (fun V L w h1 h2 h3 hC => ?_) ?_
  · rw [ex_slice1i _ rfl (dt : Int) rfl, ← HY.out.1]
    exact TwoC.ev_made1 (by decide) HK.out hC
  simp only [Act.put, List.setIfInBounds_toArray, List.set_cons_succ, List.set_cons_zero]
  refine rel_free rfl (fun V L w h1 h2 h3 hC => ?_) ?_
  · obtain ⟨v, w', k1, k2⟩ := TwoC.ev_app1 (by decide) HK.out hC h1 h3 (by kernel_rfl) h2 (by kernel_rfl) _
    rw [ex_append _ _ _ rfl rfl rfl k1]
    exact k2
  simp only [Act.put, List.setIfInBounds_toArray, List.set_cons_succ, List.set_cons_zero]
  (refine rel_val rfl _ (fun _ _ _ h => TwoC.up rfl h) (fun V L w h1 h2 h3 hC => ex_load1 _ _ rfl _ rfl (TwoC.far hC htS ht) _ Try.underlying60 rfl) ?_; simp only [Act.put, List.setIfInBounds_toArray, List.set_cons_succ, List.set_cons_zero])
  (refine rel_val rfl (.pointer (some ⟨eb, 1, none⟩)) (fun _ _ _ h => TwoC.up rfl h) (fun V L w h1 h2 h3 hC => by unfold execOp; go_simp) ?_; simp only [Act.put, List.setIfInBounds_toArray, List.set_cons_succ, List.set_cons_zero])
  (refine rel_val rfl _ (fun _ _ _ h => TwoC.up rfl h) (fun V L w h1 h2 h3 hC => ex_load1 _ _ rfl _ rfl (TwoC.far hC heS e1) _ Try.underlying3 rfl) ?_; simp only [Act.put, List.setIfInBounds_toArray, List.set_cons_succ, List.set_cons_zero])
  (refine rel_val rfl (.pointer (some ⟨dR, dt, none⟩)) (fun _ _ _ h => TwoC.up rfl h) (fun V L w h1 h2 h3 hC => by unfold execOp; go_simp) ?_; simp only [Act.put, List.setIfInBounds_toArray, List.set_cons_succ, List.set_cons_zero])
  refine rel_val rfl (.slice (dA dt) (drows dt).length (dc dt)) (fun _ _ _ h => TwoC.up rfl h) (fun V L w h1 h2 h3 hC => ex_load1 _ _ rfl _ rfl (TwoC.ev_row (by kernel_rfl) h1 h3 hC HK.out.ht) _ Try.underlying22 rfl) ?_
  simp only [Act.put, List.setIfInBounds_toArray, List.set_cons_succ, List.set_cons_zero]
  (refine rel_val rfl (.pointer (some ⟨eb, 0, none⟩)) (fun _ _ _ h => TwoC.up rfl h) (fun V L w h1 h2 h3 hC => by unfold execOp; go_simp) ?_; simp only [Act.put, List.setIfInBounds_toArray, List.set_cons_succ, List.set_cons_zero])
  (refine rel_val rfl _ (fun _ _ _ h => TwoC.up rfl h) (fun V L w h1 h2 h3 hC => ex_load1 _ _ rfl _ rfl (TwoC.far hC heS e0) _ Try.underlying3 rfl) ?_; simp only [Act.put, List.setIfInBounds_toArray, List.set_cons_succ, List.set_cons_zero])
  refine rel_free rfl (fun V L w h1 h2 h3 hC => ?_) ?_
  · rw [ex_slice1i _ rfl (df : Int) rfl, ← HY.out.2]
    exact TwoC.ev_made2 (by decide) HK.out hC
  simp only [Act.put, List.setIfInBounds_toArray, List.set_cons_succ, List.set_cons_zero]
  refine rel_free rfl (fun V L w h1 h2 h3 hC => ?_) ?_
  · obtain ⟨v, w', k1, k2⟩ := TwoC.ev_app2 (by decide) HK.out hC h1 h3 (by kernel_rfl) h2 (by kernel_rfl) (by kernel_rfl) _
    rw [ex_append _ _ _ rfl rfl rfl k1]
    exact k2
  simp only [Act.put, List.setIfInBounds_toArray, List.set_cons_succ, List.set_cons_zero]
  (refine rel_val rfl (.pointer (some ⟨dR, df, none⟩)) (fun _ _ _ h => TwoC.up rfl h) (fun V L w h1 h2 h3 hC => by unfold execOp; go_simp) ?_; simp only [Act.put, List.setIfInBounds_toArray, List.set_cons_succ, List.set_cons_zero])
  refine rel_fix rfl undef (fun V L w h1 h2 h3 hC => ?_) ?_
  · obtain ⟨⟨A1, c1, k1⟩, ⟨⟨x, k2⟩, k3⟩, k4⟩ := TwoC.ev_put1 (by decide) HK.out hC h1 h3 (by kernel_rfl) h2 (by kernel_rfl) (by kernel_rfl)
    rw [ex_store1 22 _ _ rfl dR df _ rfl rfl k2 k3 (by kernel_rfl) (by rw [k1]; rfl) (by rw [k1]; rfl)]
    exact ⟨rfl, k4⟩
  simp only [Act.put, List.setIfInBounds_toArray, List.set_cons_succ, List.set_cons_zero]
  (refine rel_val rfl (.pointer (some ⟨dR, dt, none⟩)) (fun _ _ _ h => TwoC.up rfl h) (fun V L w h1 h2 h3 hC => by unfold execOp; go_simp) ?_; simp only [Act.put, List.setIfInBounds_toArray, List.set_cons_succ, List.set_cons_zero])
  refine rel_fix rfl undef (fun V L w h1 h2 h3 hC => ?_) ?_
  · obtain ⟨⟨A1, c1, k1⟩, ⟨⟨x, k2⟩, k3⟩, k4⟩ := TwoC.ev_put2 (by decide) HK.out hC h1 h2 (by kernel_rfl) (by kernel_rfl) (by kernel_rfl)
    rw [ex_store1 22 _ _ rfl dR dt _ rfl rfl k2 k3 (by kernel_rfl) (by rw [k1]; rfl) (by rw [k1]; rfl)]
    exact ⟨rfl, k4⟩
  simp only [Act.put, List.setIfInBounds_toArray, List.set_cons_succ, List.set_cons_zero]
  intro V L w' hL hC
  rw [hL 13 (by decide), hL 14 (by decide), hL 22 (by decide), hL 23 (by decide), hL 25 (by decide), hL 27 (by decide)] at hC
  exact HQ.out _ _ _ _ _ _ _ _ _ _ _ _ _ _ _ _ _ _ _ _ _ _ _ _ _ _ w' _ _ _ _ hC
end Go.Proofs.Ytjnpchoinncbnaa
end

section
set_option linter.unusedSimpArgs false
set_option linter.unusedVariables false
namespace Go.Proofs.Ytjnpchoinncbnaa
open Go.RowKit Sw Fam
def nbN (es : List Ed) : Nat → Nat → List Nat
  | 0, _ => []
  | k + 1, u => if 0 < (ge es k).k then (if u = (ge es k).f then nbN es k u ++ [(ge es k).t] else if u = (ge es k).t then nbN es k u ++ [(ge es k).f] else nbN es k u) else nbN es k u
def nbI (es : List Ed) (k u : Nat) : List Int := (nbN es k u).map Int.ofNat
theorem nbN_len (es : List Ed) : ∀ k u, (nbN es k u).length ≤ k := by
  intro k
  induction k with
  | zero => intro u; simp [nbN]
  | succ k ih =>
    intro u
    have := ih u
    unfold nbN
    split
    · split
      · simp; omega
      · split
        · simp; omega
        · omega
    · omega
theorem nbN_mem {n J : Nat} {es : List Ed} (hg : Gd n J es) (u v : Nat) : ∀ k, k ≤ es.length → (v ∈ nbN es k u ↔ ∃ i, i < k ∧ 0 < (ge es i).k ∧ (((ge es i).f = u ∧ (ge es i).t = v) ∨ ((ge es i).t = u ∧ (ge es i).f = v))) := by
  intro k
  induction k with
  | zero => intro _; simp [nbN]
  | succ k ih =>
    intro hk
    have h := ih (by omega)
    have hne := (hg.ends k (by omega)).2.2
    have hsplit : (∃ i, i < k + 1 ∧ 0 < (ge es i).k ∧ (((ge es i).f = u ∧ (ge es i).t = v) ∨ ((ge es i).t = u ∧ (ge es i).f = v))) ↔ (v ∈ nbN es k u ∨ (0 < (ge es k).k ∧ (((ge es k).f = u ∧ (ge es k).t = v) ∨ ((ge es k).t = u ∧ (ge es k).f = v)))) := by
      rw [h]
      constructor
      · rintro ⟨i, hi, hr⟩
        by_cases e : i = k
        · subst e; exact .inr hr
        · exact .inl ⟨i, by omega, hr⟩
      · rintro (⟨i, hi, hr⟩ | hr)
        · exact ⟨i, by omega, hr⟩
        · exact ⟨k, by omega, hr⟩
    rw [hsplit]
    show v ∈ (if 0 < (ge es k).k then (if u = (ge es k).f then nbN es k u ++ [(ge es k).t] else if u = (ge es k).t then nbN es k u ++ [(ge es k).f] else nbN es k u) else nbN es k u) ↔ _
    by_cases hk0 : 0 < (ge es k).k
    · rw [if_pos hk0]
      by_cases h1 : u = (ge es k).f
      · rw [if_pos h1, List.mem_append, List.mem_singleton]
        constructor
        · rintro (h | h)
          · exact .inl h
          · exact .inr ⟨hk0, .inl ⟨h1.symm, h.symm⟩⟩
        · rintro (h | ⟨_, ⟨_, h⟩ | ⟨h, _⟩⟩)
          · exact .inl h
          · exact .inr h.symm
          · exact absurd (h1.symm.trans h.symm) hne
      · rw [if_neg h1]
        by_cases h2 : u = (ge es k).t
        · rw [if_pos h2, List.mem_append, List.mem_singleton]
          constructor
          · rintro (h | h)
            · exact .inl h
            · exact .inr ⟨hk0, .inr ⟨h2.symm, h.symm⟩⟩
          · rintro (h | ⟨_, ⟨h, _⟩ | ⟨_, h⟩⟩)
            · exact .inl h
            · exact absurd h.symm h1
            · exact .inr h.symm
        · rw [if_neg h2]
          constructor
          · exact .inl
          · rintro (h | ⟨_, ⟨h, _⟩ | ⟨h, _⟩⟩)
            · exact h
            · exact absurd h.symm h1
            · exact absurd h.symm h2
    · rw [if_neg hk0]
      constructor
      · exact .inl
      · rintro (h | ⟨h, _⟩)
        · exact h
        · exact absurd h hk0
theorem nbN_ok {n J : Nat} {es : List Ed} (hg : Gd n J es) : RowsOk n es (nbN es es.length) := by
  refine ⟨fun u v hu => ?_, fun u hu => by have := nbN_len es es.length u; have := hg.m_le; omega⟩
  rw [nbN_mem hg u v es.length (Nat.le_refl _)]
  constructor
  · rintro ⟨i, hi, hk, h⟩
    obtain ⟨e1, e2, _⟩ := hg.ends i hi
    refine ⟨?_, i, hi, hk, h⟩
    rcases h with ⟨_, rfl⟩ | ⟨_, rfl⟩
    · exact e2
    · exact e1
  · rintro ⟨_, i, hi, hk, h⟩
    exact ⟨i, hi, hk, h⟩
theorem nbI_grow {es : List Ed} {k : Nat} (hk : 0 < (ge es k).k) : grow2 (nbI es k) (ge es k).f (ge es k).t (ge es k).t (ge es k).f = nbI es (k + 1) := by
  funext u
  unfold grow2 nbI
  rw [nbN, if_pos hk]
  split
  · simp
  · split <;> simp
theorem nbI_same {es : List Ed} {k : Nat} (hk : ¬ 0 < (ge es k).k) : nbI es k = nbI es (k + 1) := by
  funext u
  unfold nbI
  rw [nbN, if_neg hk]
def LoopPart (W0 : World) (tb xb R n : Nat) (es : List Ed) (A : Option Addr) (ca : Nat) (a : Act) (w : World) : Prop :=
  ∃ k Ar c, k ≤ es.length ∧ RowsG w W0.heap.size R n (nbI es k) Ar c ∧ Below W0.heap.size W0 w ∧ w.heap[tb]? = some (.cells #[.slice (some ⟨R, 0, none⟩) n n] 60 (0, 0)) ∧
    w.heap[xb]? = some (.cells #[.int .i64 n, .slice A es.length ca] 56 (0, 0)) ∧
    FrD 53 [] [(1, .pointer (some ⟨xb, 0, none⟩)), (3, .pointer (some ⟨tb, 0, none⟩)), (12, .slice A es.length ca), (13, .int .i64 es.length), (14, .int .i64 k)] a
theorem TwoD.ok.other {d : TwoD} {W : World} (h : d.ok W) {b : Nat} {cs : Array Value} {t : TypeId} (hb : W.heap[b]? = some (.cells cs t (0, 0))) (h1 : t ≠ 22) (h2 : t ≠ 3) : b ∉ d.S := by
  intro hm
  simp only [TwoD.S, List.mem_cons, List.mem_append, Option.mem_toList] at hm
  rcases hm with rfl | hm | hm
  · have := hb.symm.trans h.hd
    injection this with this; injection this with _ e _; exact h1 e
  · obtain ⟨cs', h3⟩ := h.gf.block hm
    have := hb.symm.trans h3
    injection this with this; injection this with _ e _; exact h2 e
  · obtain ⟨cs', h3⟩ := h.gt.block hm
    have := hb.symm.trans h3
    injection this with this; injection this with _ e _; exact h2 e
theorem TwoD.ok.ge {d : TwoD} {W : World} (h : d.ok W) : ∀ b, b ∈ d.S → d.B ≤ b := by
  intro b hm
  simp only [TwoD.S, List.mem_cons, List.mem_append, Option.mem_toList] at hm
  rcases hm with rfl | hm | hm
  · exact h.le.1
  · exact (h.gf.lt hm).1
  · exact (h.gt.lt hm).1
set_option maxHeartbeats 4000000 in
set_option maxRecDepth 100000 in
theorem part_round {mm n J tb xb R : Nat} {W0 : World} {es : List Ed} (hg : Gd n J es) {A : Option Addr} {ca : Nat} (hE : RdE W0 A es)
    {Q : Exit → Act → World → Prop} (hQ : ∀ a w Ar c, RowsG w W0.heap.size R n (nbI es es.length) Ar c → Below W0.heap.size W0 w → w.heap[tb]? = some (.cells #[.slice (some ⟨R, 0, none⟩) n n] 60 (0, 0)) →
      w.heap[xb]? = some (.cells #[.int .i64 n, .slice A es.length ca] 56 (0, 0)) → FrD 53 [] [(1, .pointer (some ⟨xb, 0, none⟩)), (3, .pointer (some ⟨tb, 0, none⟩))] a → Q (.exit 0) a w)
    (a : Act) (w : World) (hI : LoopPart W0 tb xb R n es A ca a w) :
    Code.wpIn Fence.wide mm Try.prog (Try.f44.sub [1, 1, 0, 1, 0, 0]) (Exit.then (fun a' w' => LoopPart W0 tb xb R n es A ca a' w' ∧ es.length - (intOf (a'.tmps.getD 14 undef)).toNat < es.length - (intOf (a.tmps.getD 14 undef)).toNat) Q) a w := by
  obtain ⟨k, Ar, c, hk, hRG, hbel, htb, hxb, hfr⟩ := hI
  obtain ⟨t, rfl⟩ := hfr.open
  clear hfr
  generalize hmu : es.length - (intOf ((⟨frL 53 _ t, []⟩ : Act).tmps.getD 14 undef)).toNat = mu
  have hmu' : es.length - k = mu := by rw [← hmu]; rfl
  clear hmu
  have HG := Lib.hid hg; clear hg
  have HQ := Lib.hid hQ; clear hQ
  have HRG := Lib.hid hRG; clear hRG
  have HBel := Lib.hid hbel; clear hbel
  have HT := Lib.hid htb; clear htb
  have HX := Lib.hid hxb; clear hxb
  have HE := Lib.hid hE; clear hE
  have hmm := HG.out.m_le
  have hnn := HG.out.n_le
  show Code.wpIn Fence.wide mm Try.prog (.seq (Try.f44.sub [1, 1, 0, 1, 0, 0, 0]) (.seq (Try.f44.sub [1, 1, 0, 1, 0, 0, 1, 0]) (.seq (.block 1 (.seq (Try.f44.sub [1, 1, 0, 1, 0, 0, 1, 1, 0, 0, 0]) (.seq (Try.f44.sub [1, 1, 0, 1, 0, 0, 1, 1, 0, 0, 1, 0]) (.cond (.tmp 20) (Try.f44.sub [1, 1, 0, 1, 0, 0, 1, 1, 0, 0, 1, 1, 0]) .skip)))) (Try.f44.sub [1, 1, 0, 1, 0, 0, 1, 1, 1])))) _
    ⟨#[(t 0), .pointer (some ⟨xb, 0, none⟩), (t 2), .pointer (some ⟨tb, 0, none⟩), (t 4), (t 5), (t 6), (t 7), (t 8), (t 9), (t 10), (t 11), .slice A es.length ca, .int .i64 es.length, .int .i64 k, (t 15), (t 16), (t 17), (t 18), (t 19), (t 20), (t 21), (t 22), (t 23), (t 24), (t 25), (t 26), (t 27), (t 28), (t 29), (t 30), (t 31), (t 32), (t 33), (t 34), (t 35), (t 36), (t 37), (t 38), (t 39), (t 40), (t 41), (t 42), (t 43), (t 44), (t 45), (t 46), (t 47), (t 48), (t 49), (t 50), (t 51), (t 52)], []⟩ _
  refine wpIn_seq ?_
  conv => arg 4; whnf
  dsimp only
  by_cases hlt : k < es.length
  · obtain ⟨b, o, rfl, c0, c1, c2, c3⟩ := (HE.out.keep HBel.out) k hlt
    obtain ⟨ef, et, ne⟩ := HG.out.ends k hlt
    have hwt := HG.out.wt k hlt
    gi_wp2_with fail
    conv => arg 4; whnf
    gi_wp2_with fail
    conv => arg 4; whnf
    gi_wp2_with fail
    refine nameW ?_
    intro W1 hW1
    have hb1 : Below w.heap.size w W1 := by rw [hW1]; exact (Below.refl _ _).alloc (Nat.le_refl _) _
    have heb : W1.heap[w.heap.size]? = some (.cells #[.int .i64 (ge es k).f, .int .i64 (ge es k).t, .int .i64 (ge es k).j, .int .i64 (ge es k).k] 66 (0, 0)) := by rw [hW1]; exact World.alloc_heap_new w _
    have hz1 : W1.heap.size = w.heap.size + 1 := by rw [hW1]; simp
    clear hW1
    have x0 : W1.cell? ⟨w.heap.size, 0, none⟩ = some (.int .i64 (ge es k).f) := block_cell heb (j := 0) (by simp)
    have x1 : W1.cell? ⟨w.heap.size, 1, none⟩ = some (.int .i64 (ge es k).t) := block_cell heb (j := 1) (by simp)
    have x3 : W1.cell? ⟨w.heap.size, 3, none⟩ = some (.int .i64 (ge es k).k) := block_cell heb (j := 3) (by simp)
    have hge := hbelle HBel.out
    have hRG1 := HRG.out.keep hb1
    have htb1 := (hb1.block _ (Array.getElem?_eq_some_iff.1 HT.out).1).trans HT.out
    have hxb1 := (hb1.block _ (Array.getElem?_eq_some_iff.1 HX.out).1).trans HX.out
    have hbel1 : Below W0.heap.size W0 W1 := HBel.out.trans (hb1.mono hge)
    have H1 := Lib.hid (And.intro hRG1 (And.intro htb1 (And.intro hxb1 (And.intro hbel1 heb))))
    clear hRG1 htb1 hxb1 hbel1 heb c0 c1 c2 c3 hb1
    have FIN : ∀ (a : Act) (w3 : World) Ar' c', RowsG w3 W0.heap.size R n (nbI es (k + 1)) Ar' c' → Below W0.heap.size W0 w3 → w3.heap[tb]? = some (.cells #[.slice (some ⟨R, 0, none⟩) n n] 60 (0, 0)) → w3.heap[xb]? = some (.cells #[.int .i64 n, .slice (some ⟨b, o, none⟩) es.length ca] 56 (0, 0)) →
        FrD 53 [] [(1, .pointer (some ⟨xb, 0, none⟩)), (3, .pointer (some ⟨tb, 0, none⟩)), (12, .slice (some ⟨b, o, none⟩) es.length ca), (13, .int .i64 es.length), (14, .int .i64 k)] a →
        Code.wpIn Fence.wide mm Try.prog (Try.f44.sub [1, 1, 0, 1, 0, 0, 1, 1, 1]) (Exit.then (fun a' w' => LoopPart W0 tb xb R n es (some ⟨b, o, none⟩) ca a' w' ∧ es.length - (intOf (a'.tmps.getD 14 undef)).toNat < mu) Q) a w3 := by
      intro a w3 Ar' c' k1 k2 k3 k4 k5
      obtain ⟨t5, rfl⟩ := k5.open
      have K := Lib.hid (And.intro k1 (And.intro k2 (And.intro k3 k4)))
      clear k1 k2 k3 k4 k5
      show Code.wpIn Fence.wide mm Try.prog _ _ ⟨#[(t5 0), .pointer (some ⟨xb, 0, none⟩), (t5 2), .pointer (some ⟨tb, 0, none⟩), (t5 4), (t5 5), (t5 6), (t5 7), (t5 8), (t5 9), (t5 10), (t5 11), .slice (some ⟨b, o, none⟩) es.length ca, .int .i64 es.length, .int .i64 k, (t5 15), (t5 16), (t5 17), (t5 18), (t5 19), (t5 20), (t5 21), (t5 22), (t5 23), (t5 24), (t5 25), (t5 26), (t5 27), (t5 28), (t5 29), (t5 30), (t5 31), (t5 32), (t5 33), (t5 34), (t5 35), (t5 36), (t5 37), (t5 38), (t5 39), (t5 40), (t5 41), (t5 42), (t5 43), (t5 44), (t5 45), (t5 46), (t5 47), (t5 48), (t5 49), (t5 50), (t5 51), (t5 52)], []⟩ _
      conv => arg 4; whnf
      dsimp only
      gi_wp2_with fail
      obtain ⟨k1, k2, k3, k4⟩ := K.out
      refine ⟨⟨k + 1, Ar', c', by omega, k1, k2, k3, k4, by (refine ⟨rfl, rfl, ?_⟩; repeat (first | exact trivial | refine ⟨rfl, ?_⟩))⟩, ?_⟩
      show es.length - ((k : Int) + 1).toNat < mu
      omega
    have HFIN := Lib.hid FIN; clear FIN
    rename_i K1 hK1 K2 hK2
    have HK1 := Lib.hid hK1; clear hK1
    conv => arg 4; whnf
    by_cases hw : 0 < (ge es k).k
    · gi_wp2_with fail
      obtain ⟨hRG1, htb1, hxb1, hbel1, heb⟩ := H1.out
      obtain ⟨cs, hok⟩ := hRG1.ok ef et ne (by omega) (fun u hu => by unfold nbI; rw [List.length_map]; have := nbN_len es k u; omega) (ge es k).t (ge es k).f
      refine part_grow (tb := tb) (eb := w.heap.size) hok ⟨rfl, rfl⟩ (by simp only; omega) (by simp [World.cell?, htb1]) (hok.other htb1 (by decide) (by decide)) (hok.other heb (by decide) (by decide)) x0 x1 ?_
      intro v21 v22 v23 v24 v25 v26 v27 v28 v29 v30 v31 v32 v33 v34 v35 v36 v37 v38 v39 v40 v41 v42 v43 v44 v45 v46 w3 a1 a2 a3 a4 hC
      obtain ⟨Ar', c', hR3, _⟩ := hC.done hRG1 hok
      rw [nbI_grow hw] at hR3
      refine HK1.out _ _ ?_
      refine HFIN.out _ w3 Ar' c' hR3 (hC.tch.below hbel1 (by omega) hok.ge) ?_ ?_ (by (refine ⟨rfl, rfl, ?_⟩; repeat (first | exact trivial | refine ⟨rfl, ?_⟩)))
      · exact (hC.tch.block tb (Array.getElem?_eq_some_iff.1 htb1).1 (hok.other htb1 (by decide) (by decide))).trans htb1
      · exact (hC.tch.block xb (Array.getElem?_eq_some_iff.1 hxb1).1 (hok.other hxb1 (by decide) (by decide))).trans hxb1
    · gi_wp2_with fail
      obtain ⟨hRG1, htb1, hxb1, hbel1, heb⟩ := H1.out
      refine HK1.out _ _ ?_
      rw [nbI_same hw] at hRG1
      exact HFIN.out _ W1 Ar c hRG1 hbel1 htb1 hxb1 (by (refine ⟨rfl, rfl, ?_⟩; repeat (first | exact trivial | refine ⟨rfl, ?_⟩)))
  · gi_wp2_with fail
    conv => arg 4; whnf
    gi_wp2_with fail
    have : k = es.length := by omega
    subst this
    exact HQ.out _ _ Ar c HRG.out HBel.out HT.out HX.out (by (refine ⟨rfl, rfl, ?_⟩; repeat (first | exact trivial | refine ⟨rfl, ?_⟩)))
end Go.Proofs.Ytjnpchoinncbnaa
end

section
set_option linter.unusedSimpArgs false
set_option linter.unusedVariables false
namespace Go.Proofs.Ytjnpchoinncbnaa
open Go.RowKit Sw Fam
def encZ (_ : Unit) : List Value := [.slice none 0 0]
theorem encZ_len (x : Unit) : (encZ x).length = 1 := rfl
theorem run_make_rows (n : Nat) (hn : n ≤ 1000) (W : World) : (Instr.makeSlice 60 (.int .i64 (n : Int)) (.int .i64 (n : Int))).run Try.prog W = .ok (.slice (some ⟨W.heap.size, 0, none⟩) n n) (W.alloc (.cells ((List.replicate n ()).flatMap encZ).toArray 22)) :=
  run_make_flat encZ_len (by decide) () _ _ (.slice none 0 0) 24 Try.underlying60 (by kernel_rfl) rfl n hn (by decide) W
theorem RowsG.start {w : World} {R B n : Nat} {rows : Nat → List Int} (h : w.heap[R]? = some (.cells ((List.replicate n ()).flatMap encZ).toArray 22 (0, 0))) (hB : B ≤ R) (hr : ∀ u, rows u = []) : RowsG w B R n rows (fun _ => none) (fun _ => 0) := by
  refine ⟨⟨_, h, ?_, fun u hu => ?_⟩, fun u hu => (by rw [hr u]; exact GrF.start w B), fun u v _ _ _ b hb => (by cases hb), fun u _ hb => (by cases hb), hB⟩
  · rw [List.size_toArray, flat_len encZ_len]; simp
  · have h6 := flat_get encZ_len (List.replicate n ()) u 0 (by omega) (by simpa using hu)
    rw [Nat.mul_one, Nat.add_zero] at h6
    rw [List.getElem?_toArray, h6, hr u]
    simp [hu, encZ]
set_option maxHeartbeats 4000000 in
set_option maxRecDepth 100000 in
theorem parts_c {n J : Nat} {es : List Ed} (hg : Gd n J es) (hn1 : 1 ≤ n) {W : World} {A : Option Addr} {ca : Nat} (hE : RdE W A es) :
    Calls Try.prog 44 #[.agg #[.int .i64 n, .slice A es.length ca]] W fun e w' => ∃ lb pt, e = .returned (.slice (some ⟨lb, 0, none⟩) n n) ∧ Below W.heap.size W w' ∧ W.heap.size ≤ lb ∧ IntB w' lb (pt.map Int.ofNat) ∧ Labels n es pt := by
  refine callsIn_wide.1 (callsIn_of_wp_marks (n := 0) Try.func44 rfl trivial ?_ rfl)
  simp only [Try.ntmps44, List.size_toArray, List.length_cons, List.length_nil, Nat.reduceAdd, Nat.reduceSub, Array.replicate_succ, Array.replicate_zero, List.push_toArray, List.append_toArray, List.nil_append, List.cons_append]
  have hn := hg.n_le
  have hm := hg.m_le
  have HG := Lib.hid hg; clear hg
  have HE := Lib.hid hE; clear hE
  have hmk := run_make_rows n (by omega)
  show Code.wpIn Fence.wide 0 Try.prog (.seq (Try.f44.sub [0]) (.seq (Try.f44.sub [1, 0]) (.seq (.seq (Try.f44.sub [1, 1, 0, 0]) (.block 0 (.loop (Try.f44.sub [1, 1, 0, 1, 0, 0])))) (.seq (Try.f44.sub [1, 1, 1, 0]) .ret)))) _ _ _
  refine wpIn_seq ?_
  conv => arg 4; whnf
  gi_wp2_with fail
  conv => arg 4; whnf
  gi_wp2_with fail
  conv => arg 4; whnf
  gi_wp2_with fail
  refine nameW ?_
  intro W1 hW1
  have hb1 : Below W.heap.size W W1 := by rw [hW1]; exact (((Below.refl _ _).alloc (Nat.le_refl _) _).alloc (by simp) _).alloc (by simp; omega) _
  have hxb : W1.heap[W.heap.size]? = some (.cells #[.int .i64 n, .slice A es.length ca] 56 (0, 0)) := by
    rw [hW1]; exact (Below.heap_alloc _ _ _ (by simp; omega)).trans ((Below.heap_alloc _ _ _ (by simp)).trans (World.alloc_heap_new W _))
  have hR : W1.heap[W.heap.size + 1]? = some (.cells ((List.replicate n ()).flatMap encZ).toArray 22 (0, 0)) := by
    rw [hW1]
    have e := World.alloc_heap_new (W.alloc (.cells #[.int .i64 n, .slice A es.length ca] 56)) (.cells ((List.replicate n ()).flatMap encZ).toArray 22)
    rw [World.size_alloc] at e
    exact (Below.heap_alloc _ _ _ (by simp)).trans e
  have htb : W1.heap[W.heap.size + 2]? = some (.cells #[.slice (some ⟨W.heap.size + 1, 0, none⟩) n n] 60 (0, 0)) := by
    rw [hW1]
    have e := World.alloc_heap_new ((W.alloc (.cells #[.int .i64 n, .slice A es.length ca] 56)).alloc (.cells ((List.replicate n ()).flatMap encZ).toArray 22)) (.cells #[.slice (some ⟨W.heap.size + 1, 0, none⟩) n n] 60)
    rwa [World.size_alloc, World.size_alloc] at e
  clear hW1 hmk
  have hRG : RowsG W1 W.heap.size (W.heap.size + 1) n (nbI es 0) (fun _ => none) (fun _ => 0) := RowsG.start hR (by omega) (fun u => rfl)
  rename_i K hK
  refine wpIn_loop (LoopPart W (W.heap.size + 2) W.heap.size (W.heap.size + 1) n es A ca) (fun a _ => es.length - (intOf (a.tmps.getD 14 undef)).toNat) ⟨0, _, _, Nat.zero_le _, hRG, hb1, htb, hxb, by (refine ⟨rfl, rfl, ?_⟩; repeat (first | exact trivial | refine ⟨rfl, ?_⟩))⟩ (part_round HG.out HE.out ?_)
  clear hRG hb1 hxb hR htb
  intro a3 w3 Ar c hRG3 hbel3 htb3 hxb3 hfr3
  refine hK _ _ ?_
  obtain ⟨t3, rfl⟩ := hfr3.open
  clear hfr3
  have x0 : w3.cell? ⟨W.heap.size, 0, none⟩ = some (.int .i64 n) := by simp [World.cell?, hxb3]
  have t0 : w3.cell? ⟨W.heap.size + 2, 0, none⟩ = some (.slice (some ⟨W.heap.size + 1, 0, none⟩) n n) := by simp [World.cell?, htb3]
  have hRM : RowsM w3 (W.heap.size + 2) n (nbN es es.length) := by
    obtain ⟨⟨cs, q1, q2, q3⟩, q4, _, _, _⟩ := hRG3
    refine ⟨W.heap.size + 1, t0, fun u hu => ⟨Ar u, c u, ?_, (q4 u hu).rd⟩⟩
    have := q3 u hu
    unfold nbI at this
    rw [List.length_map] at this
    simp [World.cell?, q1, this]
  have HC := Lib.hid (numbered_c HG.out hn1 hRM (nbN_ok HG.out))
  have hs3 := hbel3.size
  have HB3 := Lib.hid hbel3
  clear hRG3 hbel3 htb3 hxb3 hRM t0
  show Code.wpIn Fence.wide 0 Try.prog (.seq (Try.f44.sub [1, 1, 1, 0]) .ret) _ ⟨#[(t3 0), .pointer (some ⟨W.heap.size, 0, none⟩), (t3 2), .pointer (some ⟨W.heap.size + 2, 0, none⟩), (t3 4), (t3 5), (t3 6), (t3 7), (t3 8), (t3 9), (t3 10), (t3 11), (t3 12), (t3 13), (t3 14), (t3 15), (t3 16), (t3 17), (t3 18), (t3 19), (t3 20), (t3 21), (t3 22), (t3 23), (t3 24), (t3 25), (t3 26), (t3 27), (t3 28), (t3 29), (t3 30), (t3 31), (t3 32), (t3 33), (t3 34), (t3 35), (t3 36), (t3 37), (t3 38), (t3 39), (t3 40), (t3 41), (t3 42), (t3 43), (t3 44), (t3 45), (t3 46), (t3 47), (t3 48), (t3 49), (t3 50), (t3 51), (t3 52)], []⟩ _
  refine wpIn_seq ?_
  conv => arg 4; whnf
  dsimp only
  gi_wp2_with fail
  refine ⟨trivial, rfl, (callsIn_wide.2 HC.out).mono ?_⟩
  rintro e w4 ⟨lb, pt, rfl, k1, k2, k3, k4⟩
  have K := Lib.hid (And.intro k1 (And.intro k3 k4))
  clear k1 k3 k4
  gi_wp2_with fail
  obtain ⟨k1, k3, k4⟩ := K.out
  show LeavesInM Fence.wide 0 Try.prog _ _ _ [] .returning w4
  exact ⟨.slice (some ⟨lb, 0, none⟩) n n, results_tmp Try.results44 _ _ _, lb, pt, rfl, HB3.out.trans (k1.mono hs3), by omega, k3, k4⟩
end Go.Proofs.Ytjnpchoinncbnaa
end
