/- Proves parts of the statement, each under the conditions that its theorem states: Numbers of groups: a node is added; Numbers of groups: the neighbours of a node are added; Numbers of groups: the search from one node; Numbers of groups: a search from each node that has no number yet. -/
import Derived.Test.YtjnpchoinncbnaaP09
import Derived.Test.YtjnpchoinncbnaaP08
import Derived.Deep.LoopGhost
section
set_option linter.unusedSimpArgs false
set_option linter.unusedVariables false
namespace Go.Proofs.Ytjnpchoinncbnaa
open Go.RowKit Sw Fam
structure NLoc where
  ob : Nat
  gb : Nat
  qb : Nat
  O : Nat
structure NLoc.ok (z : NLoc) (B : Nat) : Prop where
  le : B ≤ z.ob ∧ B ≤ z.gb ∧ B ≤ z.qb ∧ B ≤ z.O
  ne : z.ob ≠ z.gb ∧ z.ob ≠ z.qb ∧ z.ob ≠ z.O ∧ z.gb ≠ z.qb ∧ z.gb ≠ z.O ∧ z.qb ≠ z.O
structure NumM (w : World) (B : Nat) (z : NLoc) (n : Nat) (out : List Int) (g : Int) (A : Option Addr) (c : Nat) (q : List Int) : Prop where
  bo : w.heap[z.ob]? = some (.cells #[.slice (some ⟨z.O, 0, none⟩) n n] 22 (0, 0))
  bg : w.heap[z.gb]? = some (.cells #[.int .i64 g] 3 (0, 0))
  bq : w.heap[z.qb]? = some (.cells #[.slice A q.length c] 22 (0, 0))
  bO : IntB w z.O out
  lo : out.length = n
  gr : GrI w B A c q
  qa : ∀ b, A.map (·.block) = some b → b ≠ z.ob ∧ b ≠ z.gb ∧ b ≠ z.qb ∧ b ≠ z.O
section
variable {w : World} {B : Nat} {z : NLoc} {n : Nat} {out : List Int} {g : Int} {A : Option Addr} {c : Nat} {q : List Int}
theorem NumM.c0 (h : NumM w B z n out g A c q) : w.cell? ⟨z.ob, 0, none⟩ = some (.slice (some ⟨z.O, 0, none⟩) n n) := by simp [World.cell?, h.bo]
theorem NumM.c1 (h : NumM w B z n out g A c q) : w.cell? ⟨z.gb, 0, none⟩ = some (.int .i64 g) := by simp [World.cell?, h.bg]
theorem NumM.c2 (h : NumM w B z n out g A c q) : w.cell? ⟨z.qb, 0, none⟩ = some (.slice A q.length c) := by simp [World.cell?, h.bq]
theorem NumM.f1 (h : NumM w B z n out g A c q) : w.frozen? ⟨z.gb, 0, none⟩ = false := by simp [World.frozen?, h.bg]
theorem NumM.f2 (h : NumM w B z n out g A c q) : w.frozen? ⟨z.qb, 0, none⟩ = false := by simp [World.frozen?, h.bq]
theorem NumM.keep {w' : World} (h : NumM w B z n out g A c q) (hb : Below w.heap.size w w') : NumM w' B z n out g A c q :=
  ⟨(hb.block _ (Array.getElem?_eq_some_iff.1 h.bo).1).trans h.bo, (hb.block _ (Array.getElem?_eq_some_iff.1 h.bg).1).trans h.bg, (hb.block _ (Array.getElem?_eq_some_iff.1 h.bq).1).trans h.bq, h.bO.keep hb, h.lo, h.gr.keep hb, h.qa⟩
theorem NumM.seto (h : NumM w B z n out g A c q) (ok : z.ok B) {i : Nat} (hi : i < n) (y : Int) : NumM (w.setCell ⟨z.O, i, none⟩ (.int .i64 y)) B z n (out.set i y) g A c q :=
  ⟨(Below.heap_setCell _ _ _ _ ok.ne.2.2.1).trans h.bo, (Below.heap_setCell _ _ _ _ ok.ne.2.2.2.2.1).trans h.bg, (Below.heap_setCell _ _ _ _ ok.ne.2.2.2.2.2).trans h.bq, h.bO.set (by rw [h.lo]; exact hi) y, by rw [List.length_set]; exact h.lo,
    h.gr.other (fun e => (h.qa _ e).2.2.2 rfl) _, h.qa⟩
theorem NumM.setg (h : NumM w B z n out g A c q) (ok : z.ok B) (y : Int) : NumM (w.setCell ⟨z.gb, 0, none⟩ (.int .i64 y)) B z n out y A c q :=
  ⟨(Below.heap_setCell _ _ _ _ ok.ne.1).trans h.bo, heap_setCell_same w z.gb 0 _ _ (.int .i64 y) h.bg, (Below.heap_setCell _ _ _ _ ok.ne.2.2.2.1.symm).trans h.bq, h.bO.other ok.ne.2.2.2.2.1.symm _, h.lo,
    h.gr.other (fun e => (h.qa _ e).2.1 rfl) _, h.qa⟩
theorem NumM.setq {w1 : World} {A' : Option Addr} {c' : Nat} {q' : List Int} (h : NumM w B z n out g A c q) (ok : z.ok B) (hg : w.grownBy w1 (A.map (·.block))) (hr : GrI w1 B A' c' q')
    (ha : ∃ a', A' = some a' ∧ ((∃ a, A = some a ∧ a.block = a'.block) ∨ w.heap.size ≤ a'.block)) : NumM (w1.setCell ⟨z.qb, 0, none⟩ (.slice A' q'.length c')) B z n out g A' c' q' := by
  obtain ⟨a', ha1, ha2⟩ := ha
  have lo := (Array.getElem?_eq_some_iff.1 h.bo).1
  have lg := (Array.getElem?_eq_some_iff.1 h.bg).1
  have lq := (Array.getElem?_eq_some_iff.1 h.bq).1
  have lO := h.bO.lt
  have hqa : ∀ b, A'.map (·.block) = some b → b ≠ z.ob ∧ b ≠ z.gb ∧ b ≠ z.qb ∧ b ≠ z.O := by
    intro b hb
    rw [ha1] at hb
    obtain rfl : a'.block = b := by simpa using hb
    rcases ha2 with ⟨a, e1, e2⟩ | hge
    · exact h.qa _ (by rw [e1]; exact congrArg some e2)
    · exact ⟨by omega, by omega, by omega, by omega⟩
  have hne : ∀ b, (∀ b', A.map (·.block) = some b' → b' ≠ b) → some b ≠ A.map (·.block) := fun b hb e => hb b e.symm rfl
  have go : w1.heap[z.ob]? = w.heap[z.ob]? := hg.block _ lo (hne _ fun b hb => (h.qa b hb).1)
  have gg : w1.heap[z.gb]? = w.heap[z.gb]? := hg.block _ lg (hne _ fun b hb => (h.qa b hb).2.1)
  have gq : w1.heap[z.qb]? = w.heap[z.qb]? := hg.block _ lq (hne _ fun b hb => (h.qa b hb).2.2.1)
  have gO : w1.heap[z.O]? = w.heap[z.O]? := hg.block _ lO (hne _ fun b hb => (h.qa b hb).2.2.2)
  exact ⟨(Below.heap_setCell _ _ _ _ ok.ne.2.1).trans (go.trans h.bo), (Below.heap_setCell _ _ _ _ ok.ne.2.2.2.1).trans (gg.trans h.bg), heap_setCell_same w1 z.qb 0 _ _ _ (gq.trans h.bq),
    (Below.heap_setCell _ _ _ _ ok.ne.2.2.2.2.2.symm).trans (gO.trans h.bO), h.lo, hr.other (fun e => (hqa _ e).2.2.1 rfl) _, hqa⟩
end
theorem results_none {P : Program} {fn : Func} (h : fn.results = #[]) (tmps : Array Value) (w : World) : (results fn tmps).run P w = .ok (.tuple #[]) w := by
  simp [results, h]
def Num1Post (B : Nat) (z : NLoc) (n : Nat) (out : List Int) (g : Int) (q : List Int) (b : Nat) (w : World) (e : Ending) (w' : World) : Prop :=
  e = .returned (.tuple #[]) ∧ Below B w w' ∧ ∃ A' c', NumM w' B z n (vis out g b) g A' c' (visq out b q)
set_option maxHeartbeats 1000000 in
theorem num1_c {w : World} {B : Nat} {z : NLoc} {n : Nat} {out : List Int} {g : Int} {A : Option Addr} {c : Nat} {q : List Int} (h : NumM w B z n out g A c q) (ok : z.ok B) {b : Nat} (hb : b < n) (hn : n ≤ 100000) (hq : q.length < 100000) :
    Calls Try.prog 63 #[.int .i64 b, .pointer (some ⟨z.ob, 0, none⟩), .pointer (some ⟨z.gb, 0, none⟩), .pointer (some ⟨z.qb, 0, none⟩)] w (Num1Post B z n out g q b w) := by
  have c0 := h.c0
  have c1 := h.c1
  have co := h.bO.cell (j := b) (by rw [h.lo]; exact hb)
  have cf := h.bO.frozen b
  have HB : B ≤ w.heap.size := by have := h.bO.lt; have := ok.le; omega
  have n1 : z.O ≠ z.qb := ok.ne.2.2.2.2.2.symm
  by_cases hneg : gi out b < 0
  · have h1 := h.seto ok hb g
    have H := Lib.hid h1; clear h1
    have H0 := Lib.hid h; clear h
    have OK := Lib.hid ok; clear ok
    go_enter Try.func63, Try.ntmps63
    have c2 := H.out.c2
    have fq := H.out.f2
    go_wp2_with (at_builtin; refine wpList_append_int rfl _ _ rfl (H.out.keep ((Below.refl _ _).alloc (Nat.le_refl _) (.cells #[.int .i64 b] 3))).gr (b : Int) _ _ rfl rfl ?_ (by omega) ?_ ?_)
    · have e := World.alloc_heap_new (w.setCell ⟨z.O, b, none⟩ (.int .i64 g)) (.cells #[.int .i64 b] 3)
      rw [World.size_setCell] at e
      exact block_cell e (j := 0) (by simp)
    · rw [World.size_alloc, World.size_setCell]; omega
    intro A' c' w1 g1 g2 a' ha1 ha2
    have HG := Lib.hid (And.intro g1 (And.intro g2 (And.intro ha1 ha2)))
    have H2 := Lib.hid (H.out.keep ((Below.refl _ _).alloc (Nat.le_refl _) (.cells #[.int .i64 b] 3)))
    have lq := (Array.getElem?_eq_some_iff.1 H2.out.bq).1
    have gq : w1.heap[z.qb]? = _ := (g2.block z.qb lq (fun e => (H.out.qa _ e.symm).2.2.1 rfl)).trans H2.out.bq
    have c3 : w1.cell? ⟨z.qb, 0, none⟩ = some (.slice A q.length c) := by simp [World.cell?, gq]
    have f3 : w1.frozen? ⟨z.qb, 0, none⟩ = false := by simp [World.frozen?, gq]
    clear g1 g2 ha1 ha2 gq c2 fq c0 c1 co cf
    go_wp2_with fail
    refine bodyPost_end (v := .tuple #[]) (results_none Try.results63 _ _) rfl ⟨rfl, ?_, A', c', ?_⟩
    · obtain ⟨g1, g2, ha1, ha2⟩ := HG.out
      obtain ⟨l1, l2, l3, l4⟩ := OK.out.le
      refine Below.setCell ?_ l3 _
      have b1 : Below B w ((w.setCell ⟨z.O, b, none⟩ (.int .i64 g)).alloc (.cells #[.int .i64 b] 3)) := ((Below.refl _ _).setCell l4 _).alloc (by rw [World.size_setCell]; exact HB) _
      refine b1.trans ⟨g2.os, g2.tape, g2.output, g2.size, fun k hk => g2.block k (by have := b1.size; omega) (fun e => ?_)⟩
      have := (H.out.gr.lt e.symm).1
      omega
    · obtain ⟨g1, g2, ha1, ha2⟩ := HG.out
      have := H2.out.setq OK.out g2 g1 ⟨a', ha1, ha2.elim (fun e => .inl ⟨_, e, rfl⟩) (fun e => .inr (by rw [e]; simp))⟩
      rw [List.length_append] at this
      rw [vis, visq, if_pos hneg, if_pos hneg]
      exact this
  · have H := Lib.hid h; clear h
    go_enter Try.func63, Try.ntmps63
    go_wp2_with fail
    refine bodyPost_end (v := .tuple #[]) (results_none Try.results63 _ _) rfl ⟨rfl, Below.refl _ _, A, c, by rw [vis, visq, if_neg (by omega), if_neg (by omega)]; exact H.out⟩
end Go.Proofs.Ytjnpchoinncbnaa
end

section
set_option linter.unusedSimpArgs false
set_option linter.unusedVariables false
namespace Go.Proofs.Ytjnpchoinncbnaa
open Go.RowKit Sw Fam
def RowsM (w : World) (nb n : Nat) (rows : Nat → List Nat) : Prop :=
  ∃ R, w.cell? ⟨nb, 0, none⟩ = some (.slice (some ⟨R, 0, none⟩) n n) ∧ ∀ u, u < n → ∃ A c, w.cell? ⟨R, u, none⟩ = some (.slice A (rows u).length c) ∧ RdI w A ((rows u).map Int.ofNat)
theorem RowsM.keep {w w' : World} {nb n : Nat} {rows : Nat → List Nat} (h : RowsM w nb n rows) (hb : Below w.heap.size w w') : RowsM w' nb n rows := by
  obtain ⟨R, h1, h2⟩ := h
  refine ⟨R, cell_keep hb h1, fun u hu => ?_⟩
  obtain ⟨A, c, h3, h4⟩ := h2 u hu
  exact ⟨A, c, cell_keep hb h3, h4.keep hb⟩
theorem visit_len (g : Int) : ∀ (l : List Nat) (s : List Int × List Int), (l.foldl (visit g) s).1.length = s.1.length ∧ (l.foldl (visit g) s).2.length ≤ s.2.length + l.length := by
  intro l
  induction l with
  | nil => intro s; simp
  | cons b l ih =>
    intro s
    obtain ⟨h1, h2⟩ := ih (visit g s b)
    rw [List.foldl_cons, List.length_cons]
    have e1 : (visit g s b).1.length = s.1.length := by unfold visit vis; simp only; split <;> simp
    have e2 : (visit g s b).2.length ≤ s.2.length + 1 := by unfold visit visq; simp only; split <;> simp
    omega
def Num2Post (B : Nat) (z : NLoc) (n : Nat) (g : Int) (s : List Int × List Int) (w : World) (e : Ending) (w' : World) : Prop :=
  e = .returned (.tuple #[]) ∧ Below B w w' ∧ ∃ A' c', NumM w' B z n s.1 g A' c' s.2
def N2Loop (B : Nat) (z : NLoc) (n : Nat) (g : Int) (out q : List Int) (row : List Nat) (W : World) (k : Nat) (w : World) : Prop :=
  Below B W w ∧ ∃ A c, NumM w B z n ((row.take k).foldl (visit g) (out, q)).1 g A c ((row.take k).foldl (visit g) (out, q)).2
set_option maxHeartbeats 1000000 in
theorem num2_c {W0 w : World} {z : NLoc} {n nb : Nat} {rows : Nat → List Nat} {out : List Int} {g : Int} {A : Option Addr} {c : Nat} {q : List Int} (hR : RowsM W0 nb n rows) (hB : Below W0.heap.size W0 w) (h : NumM w W0.heap.size z n out g A c q) (ok : z.ok W0.heap.size)
    {a : Nat} (ha : a < n) (hn : n ≤ 100000) (hq : q.length + (rows a).length < 100000) (hrow : ∀ b, b ∈ rows a → b < n) :
    Calls Try.prog 60 #[.int .i64 a, .func (.func 63) #[] #[.pointer (some ⟨z.ob, 0, none⟩), .pointer (some ⟨z.gb, 0, none⟩), .pointer (some ⟨z.qb, 0, none⟩)], .pointer (some ⟨nb, 0, none⟩)] w (Num2Post W0.heap.size z n g ((rows a).foldl (visit g) (out, q)) w) := by
  have hcf : ∀ args w, (callFunc 63 args).run Try.prog w = .ok (.enter 63 args) w := enters_fn Try.func63 (by kernel_rfl) rfl
  obtain ⟨R, r1, r2⟩ := hR
  obtain ⟨RA, rc, r3, r4⟩ := r2 a ha
  have HR4 := Lib.hid r4
  clear r2 r4
  have r1 := cell_keep hB r1
  have r3 := cell_keep hB r3
  have HB := Lib.hid hB; clear hB
  have H := Lib.hid h; clear h
  have OK := Lib.hid ok; clear ok
  have HROW := Lib.hid hrow; clear hrow
  obtain ⟨row, hrow⟩ : ∃ row, row = rows a := ⟨_, rfl⟩
  rw [← hrow] at r3 HR4 HROW hq ⊢
  clear hrow
  go_enter Try.func60, Try.ntmps60
  go_wp2_with fail
  go_loopw [12] (fun v12 wr => ∃ k : Nat, v12 = .int .i64 k ∧ k ≤ row.length ∧ N2Loop W0.heap.size z n g out q row w k wr) (fun v12 _ => row.length - (intOf v12).toNat)
  case atStart => exact ⟨0, rfl, Nat.zero_le _, Below.refl _ _, A, c, H.out⟩
  case round =>
    obtain ⟨k, rfl, hk, hL⟩ := hrel
    have HL := Lib.hid hL; clear hL
    by_cases hlt : k < row.length
    · obtain ⟨hBw, A1, c1, hN⟩ := HL.out
      obtain ⟨b, o, rfl, hc⟩ := (HR4.out.keep (HB.out.trans hBw)) k (by rw [List.length_map]; exact hlt)
      rw [gi_ofNat] at hc
      have hbn : gn row k < n := HROW.out _ (by rw [gn_get hlt]; exact List.getElem_mem hlt)
      have hlen := (visit_len g (row.take k) (out, q)).2
      rw [List.length_take] at hlen
      have HC := num1_c hN OK.out hbn hn (by simp only at hlen; omega)
      have HC := Lib.hid HC
      have hst : (row.take (k + 1)).foldl (visit g) (out, q) = visit g ((row.take k).foldl (visit g) (out, q)) (gn row k) := by
        rw [List.take_succ_eq_append_getElem hlt, List.foldl_append, gn_get hlt]; rfl
      have HST := Lib.hid hst
      have HBW := Lib.hid hBw
      clear hBw hN hst hlen
      go_wp2_with fail
      refine HC.out.mono ?_
      rintro e w' ⟨rfl, k1, A2, c2, k2⟩
      have K2 := Lib.hid (And.intro k1 k2); clear k1 k2
      go_wp2_with fail
      go_roundw
      case rel => exact ⟨k + 1, by go_num, by omega, HBW.out.trans K2.out.1, A2, c2, by rw [HST.out]; exact K2.out.2⟩
      case measure => simp [intOf]; omega
    · have : k = row.length := by omega
      subst this
      go_wp2_with fail
      obtain ⟨k1, A2, c2, k2⟩ := HL.out
      rw [List.take_length] at k2
      exact bodyPost_end (v := .tuple #[]) (results_none Try.results60 _ _) rfl ⟨rfl, k1, A2, c2, k2⟩
end Go.Proofs.Ytjnpchoinncbnaa
end

section
set_option linter.unusedSimpArgs false
set_option linter.unusedVariables false
namespace Go.Proofs.Ytjnpchoinncbnaa
open Go.RowKit Sw Fam
theorem wpIn_loop_ghost {F : Fence} {m : Nat} {P : Program} {Q : Exit → Act → World → Prop} {a : Act} {w : World} {c : Code} (I : Nat → Act → World → Prop) (n₀ : Nat) (h₀ : I n₀ a w)
    (round : ∀ n a w, I n a w → c.wpIn F m P (Exit.then (fun a' w' => ∃ n', n' < n ∧ I n' a' w') Q) a w) : (Code.loop c).wpIn F m P Q a w := by
  refine wpIn_loop (fun a w => ∃ n, I n a w) (fun a w => leastOf (fun n => I n a w)) ⟨n₀, h₀⟩ ?_
  intro a w hI
  refine Code.wpIn_mono ?_ (round _ a w (leastOf_spec hI).1)
  intro e a' w' hq
  cases e with
  | normal =>
    obtain ⟨n', hlt, hI'⟩ := hq
    exact ⟨⟨n', hI'⟩, Nat.lt_of_le_of_lt ((leastOf_spec ⟨n', hI'⟩).2 n' hI') hlt⟩
  | _ => exact hq
structure RowsOk (n : Nat) (es : List Ed) (rows : Nat → List Nat) : Prop where
  mem : ∀ u v, u < n → (v ∈ rows u ↔ (v < n ∧ Nb es u v))
  len : ∀ u, u < n → (rows u).length ≤ 2000
def NumI (W0 : World) (z : NLoc) (n nb : Nat) (es : List Ed) (g root : Nat) (fr : List (Nat × Value)) (m : Nat) (a : Act) (w : World) : Prop :=
  ∃ out A c q, BfsI n es out g root q ∧ unl out + q.length = m ∧ m ≤ n ∧ (∀ v, v < root → 0 ≤ gi out v) ∧ Below W0.heap.size W0 w ∧ NumM w W0.heap.size z n out g A c q ∧
    FrD 45 [] ((1, .func (.func 60) #[] #[.pointer (some ⟨nb, 0, none⟩)]) :: (5, .pointer (some ⟨z.ob, 0, none⟩)) :: (6, .pointer (some ⟨z.gb, 0, none⟩)) :: (8, .pointer (some ⟨z.qb, 0, none⟩)) :: fr) a
set_option maxHeartbeats 4000000 in
set_option maxRecDepth 100000 in
theorem num_round {mm : Nat} {W0 : World} {z : NLoc} {n nb : Nat} {es : List Ed} {g root : Nat} {rows : Nat → List Nat} {fr : List (Nat × Value)} {v14 v15 : Value} (hf : fr = [(14, v14), (15, v15)]) (hR : RowsM W0 nb n rows) (hok : RowsOk n es rows) (ok : z.ok W0.heap.size) (hn : n ≤ 1000)
    {Q : Exit → Act → World → Prop} (hQ : ∀ a w out A c, BfsI n es out g root [] → (∀ v, v < root → 0 ≤ gi out v) → Below W0.heap.size W0 w → NumM w W0.heap.size z n out g A c [] →
      FrD 45 [] ((1, .func (.func 60) #[] #[.pointer (some ⟨nb, 0, none⟩)]) :: (5, .pointer (some ⟨z.ob, 0, none⟩)) :: (6, .pointer (some ⟨z.gb, 0, none⟩)) :: (8, .pointer (some ⟨z.qb, 0, none⟩)) :: fr) a → Q (.exit 2) a w)
    (m : Nat) (a : Act) (w : World) (hI : NumI W0 z n nb es g root fr m a w) :
    Code.wpIn Fence.wide mm Try.prog (Try.f59.sub [1, 1, 1, 0, 1, 0, 0, 1, 1, 0, 0, 1, 1, 1, 1, 0, 0, 0]) (Exit.then (fun a' w' => ∃ n', n' < m ∧ NumI W0 z n nb es g root fr n' a' w') Q) a w := by
  subst hf
  have hcf : ∀ args w, (callFunc 60 args).run Try.prog w = .ok (.enter 60 args) w := enters_fn Try.func60 (by kernel_rfl) rfl
  obtain ⟨out, A, c, q, hB, hm, hmn, hlow, hbel, hN, hfr⟩ := hI
  have HLOW := Lib.hid hlow; clear hlow
  obtain ⟨t, rfl⟩ := hfr.open
  clear hfr
  have HQ := Lib.hid hQ; clear hQ
  have HR := Lib.hid hR; clear hR
  have HK := Lib.hid hok; clear hok
  have OK := Lib.hid ok; clear ok
  have HB := Lib.hid hB; clear hB
  have HM := Lib.hid hm; clear hm
  have HBel := Lib.hid hbel; clear hbel
  show Code.wpIn Fence.wide mm Try.prog (.seq (.seq (Try.f59.sub [1, 1, 1, 0, 1, 0, 0, 1, 1, 0, 0, 1, 1, 1, 1, 0, 0, 0, 0, 0]) (Try.f59.sub [1, 1, 1, 0, 1, 0, 0, 1, 1, 0, 0, 1, 1, 1, 1, 0, 0, 0, 0, 1])) (.block 3 (Try.f59.sub [1, 1, 1, 0, 1, 0, 0, 1, 1, 0, 0, 1, 1, 1, 1, 0, 0, 0, 1, 0]))) _
    ⟨#[(t 0), .func (.func 60) #[] #[.pointer (some ⟨nb, 0, none⟩)], (t 2), (t 3), (t 4), .pointer (some ⟨z.ob, 0, none⟩), .pointer (some ⟨z.gb, 0, none⟩), (t 7), .pointer (some ⟨z.qb, 0, none⟩), (t 9), (t 10), (t 11), (t 12), (t 13), v14, v15, (t 16), (t 17), (t 18), (t 19), (t 20), (t 21), (t 22), (t 23), (t 24), (t 25), (t 26), (t 27), (t 28), (t 29), (t 30), (t 31), (t 32), (t 33), (t 34), (t 35), (t 36), (t 37), (t 38), (t 39), (t 40), (t 41), (t 42), (t 43), (t 44)], []⟩ _
  have c2 := hN.c2
  have f2 := hN.f2
  have hle := hN.gr.le
  refine wpIn_seq ?_
  refine wpIn_seq ?_
  conv => arg 4; whnf
  dsimp only
  cases q with
  | nil =>
    have HN := Lib.hid hN; clear hN
    gi_wp2_with fail
    conv => arg 4; whnf
    gi_wp2_with fail
    exact HQ.out _ _ out A c HB.out HLOW.out HBel.out HN.out (by (refine ⟨rfl, rfl, ?_⟩; repeat (first | exact trivial | refine ⟨rfl, ?_⟩)))
  | cons a q =>
    obtain ⟨b, o, rfl, hBb, hc⟩ := GrI.cell hN.gr (j := 0) (by simp)
    obtain ⟨u, hu, hau, hgu⟩ := HB.out.qu a (List.mem_cons_self ..)
    subst hau
    rw [show gi ((u : Int) :: q) 0 = (u : Int) from rfl, Nat.add_zero] at hc
    have HT := Lib.hid (GrF.tail encI_len hN.gr)
    have HN := Lib.hid hN; clear hN
    have HU := Lib.hid hgu; clear hgu
    simp only [List.length_cons] at c2 hle
    have hcq := HM.out
    rw [List.length_cons] at hcq
    have FIN : ∀ (A1 : Option Addr) (c1 : Nat), A1 = some (if c = 1 then ⟨b, o, none⟩ else ⟨b, o + 1, none⟩) → c1 = c - 1 →
        Calls Try.prog 60 #[.int .i64 u, .func (.func 63) #[] #[.pointer (some ⟨z.ob, 0, none⟩), .pointer (some ⟨z.gb, 0, none⟩), .pointer (some ⟨z.qb, 0, none⟩)], .pointer (some ⟨nb, 0, none⟩)] (w.setCell ⟨z.qb, 0, none⟩ (.slice A1 q.length c1))
          (fun e w' => e = .returned (.tuple #[]) ∧ ∀ a, FrD 45 [] ((1, .func (.func 60) #[] #[.pointer (some ⟨nb, 0, none⟩)]) :: (5, .pointer (some ⟨z.ob, 0, none⟩)) :: (6, .pointer (some ⟨z.gb, 0, none⟩)) :: (8, .pointer (some ⟨z.qb, 0, none⟩)) :: [(14, v14), (15, v15)]) a →
            ∃ n', n' < m ∧ NumI W0 z n nb es g root [(14, v14), (15, v15)] n' a w') := by
      intro A1 c1 hA1 hc1
      have hN1 := HN.out.setq (q' := q) (A' := A1) (c' := c1) OK.out ⟨rfl, rfl, rfl, Nat.le_refl _, fun _ _ _ => rfl⟩ (by rw [hA1, hc1]; exact HT.out) ⟨_, hA1, .inl ⟨_, rfl, by split <;> rfl⟩⟩
      have hb1 : Below W0.heap.size W0 (w.setCell ⟨z.qb, 0, none⟩ (.slice A1 q.length c1)) := HBel.out.setCell OK.out.le.2.2.1 _
      have hrow := HK.out.mem u
      have hlr := HK.out.len u hu
      refine (num2_c HR.out hb1 hN1 OK.out hu (by omega) (by omega) (fun b hb => ((hrow b hu).1 hb).1)).mono ?_
      rintro e w' ⟨rfl, k1, A2, c2', k2⟩
      refine ⟨rfl, fun a hfr => ?_⟩
      have hst := HB.out.step (row := rows u) (by rw [Int.toNat_natCast]; exact fun v => hrow v hu)
      have hv := (visit_fold (g := (g : Int)) (by omega) (rows u) out q HB.out.len (fun b hb => ((hrow b hu).1 hb).1)).2.2.2
      refine ⟨_, by omega, _, A2, c2', _, hst, rfl, by omega, fun v hv => ?_, hb1.trans k1, k2, hfr⟩
      have hvn : v < n := Nat.lt_trans hv HB.out.rt.1
      have h0 := HLOW.out v hv
      rw [(visit_fold (g := (g : Int)) (by omega) (rows u) out q HB.out.len (fun b hb => ((hrow b hu).1 hb).1)).2.1 v hvn, if_neg (fun hh => by omega)]
      exact h0
    have HFIN := Lib.hid FIN; clear FIN
    by_cases hc1 : c = 1
    · have hq0 : q = [] := List.eq_nil_of_length_eq_zero (by omega)
      subst hc1 hq0
      gi_wp2_with fail
      conv => arg 4; whnf
      gi_wp2_with fail
      conv => arg 4; whnf
      gi_wp2_with fail
      refine ⟨trivial, fun hh => (by simp [Fence.wide] at hh), (callsIn_wide.2 (HFIN.out (some ⟨b, o, none⟩) 0 rfl rfl)).mono ?_⟩
      rintro e w' ⟨rfl, h⟩
      have H := Lib.hid h; clear h
      gi_wp2_with fail
      refine H.out _ ?_
      (refine ⟨rfl, rfl, ?_⟩; repeat (first | exact trivial | refine ⟨rfl, ?_⟩))
    · gi_wp2_with fail
      conv => arg 4; whnf
      gi_wp2_with fail
      conv => arg 4; whnf
      gi_wp2_with fail
      refine ⟨trivial, fun hh => (by simp [Fence.wide] at hh), (callsIn_wide.2 (HFIN.out (some ⟨b, o + 1, none⟩) (c - 1) (by rw [if_neg hc1]) rfl)).mono ?_⟩
      rintro e w' ⟨rfl, h⟩
      have H := Lib.hid h; clear h
      gi_wp2_with fail
      refine H.out _ ?_
      (refine ⟨rfl, rfl, ?_⟩; repeat (first | exact trivial | refine ⟨rfl, ?_⟩))
end Go.Proofs.Ytjnpchoinncbnaa
end

section
set_option linter.unusedSimpArgs false
set_option linter.unusedVariables false
namespace Go.Proofs.Ytjnpchoinncbnaa
open Go.RowKit Sw Fam
structure NumO (w : World) (B ob gb O n : Nat) (out : List Int) (g : Int) : Prop where
  bo : w.heap[ob]? = some (.cells #[.slice (some ⟨O, 0, none⟩) n n] 22 (0, 0))
  bg : w.heap[gb]? = some (.cells #[.int .i64 g] 3 (0, 0))
  bO : IntB w O out
  lo : out.length = n
  le : B ≤ ob ∧ B ≤ gb ∧ B ≤ O
  ne : ob ≠ gb ∧ ob ≠ O ∧ gb ≠ O
def LoopNum (W0 : World) (ob gb O n nb : Nat) (es : List Ed) (v4 : Value) (a : Act) (w : World) : Prop :=
  ∃ (i g : Nat) (out : List Int), i ≤ n ∧ g ≤ i ∧ BfsO n es out g ∧ (∀ v, v < i → 0 ≤ gi out v) ∧ Below W0.heap.size W0 w ∧ NumO w W0.heap.size ob gb O n out g ∧
    FrD 45 [] [(1, .func (.func 60) #[] #[.pointer (some ⟨nb, 0, none⟩)]), (5, .pointer (some ⟨ob, 0, none⟩)), (6, .pointer (some ⟨gb, 0, none⟩)), (14, .int .i64 n), (15, .int .i64 i)] a
theorem hbelle {W0 w : World} (h : Below W0.heap.size W0 w) : W0.heap.size ≤ w.heap.size := h.size
set_option maxHeartbeats 4000000 in
set_option maxRecDepth 100000 in
theorem num_outer {mm : Nat} {W0 : World} {ob gb O n nb : Nat} {es : List Ed} {rows : Nat → List Nat} {v4 : Value} (hR : RowsM W0 nb n rows) (hok : RowsOk n es rows) (hn : n ≤ 1000)
    {Q : Exit → Act → World → Prop} (hQ : ∀ a w out g, BfsO n es out g → (∀ v, v < n → 0 ≤ gi out v) → Below W0.heap.size W0 w → NumO w W0.heap.size ob gb O n out g → FrD 45 [] [(5, .pointer (some ⟨ob, 0, none⟩))] a → Q (.exit 0) a w)
    (a : Act) (w : World) (hI : LoopNum W0 ob gb O n nb es v4 a w) :
    Code.wpIn Fence.wide mm Try.prog (Try.f59.sub [1, 1, 1, 0, 1, 0, 0]) (Exit.then (fun a' w' => LoopNum W0 ob gb O n nb es v4 a' w' ∧ n - (intOf (a'.tmps.getD 15 undef)).toNat < n - (intOf (a.tmps.getD 15 undef)).toNat) Q) a w := by
  obtain ⟨i, g, out, hi, hgi, hB, hlow, hbel, hN, hfr⟩ := hI
  obtain ⟨t, rfl⟩ := hfr.open
  clear hfr
  generalize hmu : n - (intOf ((⟨frL 45 _ t, []⟩ : Act).tmps.getD 15 undef)).toNat = mu
  have hmu' : n - i = mu := by rw [← hmu]; rfl
  clear hmu
  have HQ := Lib.hid hQ; clear hQ
  have HR := Lib.hid hR; clear hR
  have HK := Lib.hid hok; clear hok
  have HB := Lib.hid hB; clear hB
  have HLOW := Lib.hid hlow; clear hlow
  have HBel := Lib.hid hbel; clear hbel
  have c0 : w.cell? ⟨ob, 0, none⟩ = some (.slice (some ⟨O, 0, none⟩) n n) := by simp [World.cell?, hN.bo]
  have c1 : w.cell? ⟨gb, 0, none⟩ = some (.int .i64 g) := by simp [World.cell?, hN.bg]
  have f1 : w.frozen? ⟨gb, 0, none⟩ = false := by simp [World.frozen?, hN.bg]
  have HN := Lib.hid hN; clear hN
  show Code.wpIn Fence.wide mm Try.prog (.seq (Try.f59.sub [1, 1, 1, 0, 1, 0, 0, 0]) (.seq (Try.f59.sub [1, 1, 1, 0, 1, 0, 0, 1, 0]) (.seq (.block 1 (.seq (Try.f59.sub [1, 1, 1, 0, 1, 0, 0, 1, 1, 0, 0, 0]) (.seq (Try.f59.sub [1, 1, 1, 0, 1, 0, 0, 1, 1, 0, 0, 1, 0]) (.seq (Try.f59.sub [1, 1, 1, 0, 1, 0, 0, 1, 1, 0, 0, 1, 1, 0]) (.seq (Try.f59.sub [1, 1, 1, 0, 1, 0, 0, 1, 1, 0, 0, 1, 1, 1, 0]) (.seq (.block 2 (.loop (Try.f59.sub [1, 1, 1, 0, 1, 0, 0, 1, 1, 0, 0, 1, 1, 1, 1, 0, 0, 0]))) (Try.f59.sub [1, 1, 1, 0, 1, 0, 0, 1, 1, 0, 0, 1, 1, 1, 1, 1]))))))) (Try.f59.sub [1, 1, 1, 0, 1, 0, 0, 1, 1, 1])))) _
    ⟨#[(t 0), .func (.func 60) #[] #[.pointer (some ⟨nb, 0, none⟩)], (t 2), (t 3), (t 4), .pointer (some ⟨ob, 0, none⟩), .pointer (some ⟨gb, 0, none⟩), (t 7), (t 8), (t 9), (t 10), (t 11), (t 12), (t 13), .int .i64 n, .int .i64 i, (t 16), (t 17), (t 18), (t 19), (t 20), (t 21), (t 22), (t 23), (t 24), (t 25), (t 26), (t 27), (t 28), (t 29), (t 30), (t 31), (t 32), (t 33), (t 34), (t 35), (t 36), (t 37), (t 38), (t 39), (t 40), (t 41), (t 42), (t 43), (t 44)], []⟩ _
  refine wpIn_seq ?_
  conv => arg 4; whnf
  dsimp only
  by_cases hlt : i < n
  · have co := HN.out.bO.cell (j := i) (by rw [HN.out.lo]; exact hlt)
    have fo := HN.out.bO.frozen i
    gi_wp2_with fail
    conv => arg 4; whnf
    gi_wp2_with fail
    conv => arg 4; whnf
    gi_wp2_with fail
    conv => arg 4; whnf
    by_cases hneg : gi out i < 0
    · have hlt0 : O < w.heap.size := HN.out.bO.lt
      have hge := hbelle HBel.out
      have olt : ob < w.heap.size := World.block_lt_of_cell? _ _ c0
      have glt : gb < w.heap.size := World.block_lt_of_cell? _ _ c1
      gi_wp2_with fail
      rename_i K4 hK4
      conv => arg 4; whnf
      gi_wp2_with fail
      conv => arg 4; whnf
      gi_wp2_with fail
      refine nameW ?_
      intro W1 hW1
      rename_i K5 hK5
      have hs0 : W1.heap.size = w.heap.size + 2 := by rw [hW1]; simp
      have hq : W1.heap[w.heap.size + 1]? = some (.cells #[.slice (some ⟨w.heap.size, 0, none⟩) 1 1] 22 (0, 0)) := by
        rw [hW1]
        have e := World.alloc_heap_new ((w.setCell ⟨O, i, none⟩ (.int .i64 g)).alloc (.cells #[.int .i64 i] 3)) (.cells #[.slice (some ⟨w.heap.size, 0, none⟩) 1 1] 22)
        rwa [World.size_alloc, World.size_setCell] at e
      have hb1 : Below w.heap.size (w.setCell ⟨O, i, none⟩ (.int .i64 g)) W1 := by
        rw [hW1]; exact ((Below.refl _ _).alloc (by simp) _).alloc (by simp) _
      have hq0 : W1.heap[w.heap.size]? = some (.cells #[.int .i64 i] 3 (0, 0)) := by
        rw [hW1]
        have e := World.alloc_heap_new (w.setCell ⟨O, i, none⟩ (.int .i64 g)) (.cells #[.int .i64 i] 3)
        rw [World.size_setCell] at e
        exact (Below.heap_alloc _ _ _ (by simp)).trans e
      clear hW1
      have hO := HN.out.bO.set (j := i) (by rw [HN.out.lo]; exact hlt) (g : Int)
      obtain ⟨le1, le2, le3⟩ := HN.out.le
      obtain ⟨ne1, ne2, ne3⟩ := HN.out.ne
      have e1 : W1.heap[ob]? = some (.cells #[.slice (some ⟨O, 0, none⟩) n n] 22 (0, 0)) := (hb1.block ob olt).trans ((Below.heap_setCell _ _ _ _ ne2).trans HN.out.bo)
      have e2 : W1.heap[gb]? = some (.cells #[.int .i64 g] 3 (0, 0)) := (hb1.block gb glt).trans ((Below.heap_setCell _ _ _ _ ne3).trans HN.out.bg)
      have e3 : IntB W1 O (out.set i g) := (hb1.block O hlt0).trans hO
      have hbel1 : Below W0.heap.size W0 W1 := (HBel.out.setCell le3 _).trans (hb1.mono hge)
      have ok : (⟨ob, gb, w.heap.size + 1, O⟩ : NLoc).ok W0.heap.size := by
        refine ⟨⟨le1, le2, ?_, le3⟩, ⟨ne1, ?_, ne2, ?_, ne3, ?_⟩⟩ <;> (simp only; omega)
      have hGr : GrI W1 W0.heap.size (some ⟨w.heap.size, 0, none⟩) 1 [(i : Int)] := ⟨by simp, by simp [maxLen], fun h => (by cases h), fun a ha => by
        cases ha
        exact ⟨w.heap.size, 0, _, rfl, hge, hq0, by simp, fun j u hj => by
          have : j = 0 := by have := (List.getElem?_eq_some_iff.1 hj).1; simp [encI] at this; exact this
          subst this
          simpa [encI] using hj⟩⟩
      have hNM : NumM W1 W0.heap.size ⟨ob, gb, w.heap.size + 1, O⟩ n (out.set i g) g (some ⟨w.heap.size, 0, none⟩) 1 [(i : Int)] :=
        ⟨e1, e2, hq, e3, by rw [List.length_set]; exact HN.out.lo, hGr, fun b hb => by
          obtain rfl : w.heap.size = b := by simpa using hb
          refine ⟨?_, ?_, ?_, ?_⟩ <;> (simp only; omega)⟩
      have hun := unl_set out i g (by rw [HN.out.lo]; exact hlt) hneg (by omega)
      have hul : unl out ≤ n := by have := List.countP_le_length (p := fun x : Int => decide (x < 0)) (l := out); rw [HN.out.lo] at this; exact this
      refine wpIn_loop_ghost (NumI W0 ⟨ob, gb, w.heap.size + 1, O⟩ n nb es g i [(14, .int .i64 n), (15, .int .i64 i)]) _ ⟨_, _, _, _, HB.out.root hlt hneg, rfl, by simp only [List.length_singleton]; omega, fun v hv => ?_, hbel1, hNM, by (refine ⟨rfl, rfl, ?_⟩; repeat (first | exact trivial | refine ⟨rfl, ?_⟩))⟩ (num_round rfl HR.out HK.out ok hn ?_)
      · rw [gi_set _ _ _ _ (by rw [HN.out.lo]; exact hlt), if_neg (by omega)]
        exact HLOW.out v hv
      intro a2 w2 out2 A2 c2 hB2 hl2 hbel2 hN2 hfr2
      refine hK5 _ _ ?_
      obtain ⟨t2, rfl⟩ := hfr2.open
      have hg2 := hN2.c1
      have hgf := hN2.f1
      have HB2 := Lib.hid hB2.done
      have HRT := Lib.hid hB2.rt
      have HL2 := Lib.hid hl2
      have hb5 : Below W0.heap.size W0 (w2.setCell ⟨gb, 0, none⟩ (.int .i64 ((g : Int) + 1))) := hbel2.setCell le2 _
      have HBL2 := Lib.hid hb5
      have HN2 := Lib.hid (hN2.setg ok ((g : Int) + 1))
      clear hb5 hB2 hl2 hbel2 hN2 hNM hGr hq hq0 e1 e2 e3 hO hb1 hbel1 ok c0 c1 f1 co fo hs0 hun hul
      clear hfr2
      show Code.wpIn Fence.wide mm Try.prog (Try.f59.sub [1, 1, 1, 0, 1, 0, 0, 1, 1, 0, 0, 1, 1, 1, 1, 1]) _ ⟨#[(t2 0), .func (.func 60) #[] #[.pointer (some ⟨nb, 0, none⟩)], (t2 2), (t2 3), (t2 4), .pointer (some ⟨ob, 0, none⟩), .pointer (some ⟨gb, 0, none⟩), (t2 7), .pointer (some ⟨w.heap.size + 1, 0, none⟩), (t2 9), (t2 10), (t2 11), (t2 12), (t2 13), .int .i64 n, .int .i64 i, (t2 16), (t2 17), (t2 18), (t2 19), (t2 20), (t2 21), (t2 22), (t2 23), (t2 24), (t2 25), (t2 26), (t2 27), (t2 28), (t2 29), (t2 30), (t2 31), (t2 32), (t2 33), (t2 34), (t2 35), (t2 36), (t2 37), (t2 38), (t2 39), (t2 40), (t2 41), (t2 42), (t2 43), (t2 44)], []⟩ _
      conv => arg 4; whnf
      dsimp only
      gi_wp2_with fail
      conv => arg 4; whnf
      gi_wp2_with fail
      refine ⟨⟨i + 1, g + 1, out2, by omega, by omega, HB2.out, fun v hv => ?_, HBL2.out, ⟨HN2.out.bo, HN2.out.bg, HN2.out.bO, HN2.out.lo, ⟨le1, le2, le3⟩, ⟨ne1, ne2, ne3⟩⟩, by (refine ⟨rfl, rfl, ?_⟩; repeat (first | exact trivial | refine ⟨rfl, ?_⟩))⟩, ?_⟩
      · by_cases e : v = i
        · subst e; have := HRT.out.2; omega
        · exact HL2.out v (by omega)
      · show n - ((i : Int) + 1).toNat < mu
        omega
    · have hneg' : 0 ≤ gi out i := by omega
      gi_wp2_with fail
      conv => arg 4; whnf
      gi_wp2_with fail
      refine ⟨⟨i + 1, g, out, by omega, by omega, HB.out, fun v hv => ?_, HBel.out, HN.out, by (refine ⟨rfl, rfl, ?_⟩; repeat (first | exact trivial | refine ⟨rfl, ?_⟩))⟩, ?_⟩
      · by_cases e : v = i
        · subst e; exact hneg'
        · exact HLOW.out v (by omega)
      · show n - ((i : Int) + 1).toNat < mu
        omega
  · gi_wp2_with fail
    conv => arg 4; whnf
    gi_wp2_with fail
    have : i = n := by omega
    subst this
    exact HQ.out _ _ out g HB.out HLOW.out HBel.out HN.out (by (refine ⟨rfl, rfl, ?_⟩; repeat (first | exact trivial | refine ⟨rfl, ?_⟩)))
set_option maxHeartbeats 4000000 in
set_option maxRecDepth 100000 in
theorem numbered_c {n J nb : Nat} {es : List Ed} (hg : Gd n J es) (hn1 : 1 ≤ n) {rows : Nat → List Nat} {W : World} (hR : RowsM W nb n rows) (hok : RowsOk n es rows) :
    Calls Try.prog 59 #[.int .i64 n, .func (.func 60) #[] #[.pointer (some ⟨nb, 0, none⟩)]] W fun e w' => ∃ lb pt, e = .returned (.slice (some ⟨lb, 0, none⟩) n n) ∧ Below W.heap.size W w' ∧ W.heap.size ≤ lb ∧ IntB w' lb (pt.map Int.ofNat) ∧ Labels n es pt := by
  refine callsIn_wide.1 (callsIn_of_wp_marks (n := 0) Try.func59 rfl trivial ?_ rfl)
  simp only [Try.ntmps59, List.size_toArray, List.length_cons, List.length_nil, Nat.reduceAdd, Nat.reduceSub, Array.replicate_succ, Array.replicate_zero, List.push_toArray, List.append_toArray, List.nil_append, List.cons_append]
  have hn := hg.n_le
  have HG := Lib.hid hg; clear hg
  have HR := Lib.hid hR; clear hR
  have HK := Lib.hid hok; clear hok
  show Code.wpIn Fence.wide 0 Try.prog (.seq (Try.f59.sub [0]) (.seq (Try.f59.sub [1, 0]) (.seq (Try.f59.sub [1, 1, 0]) (.seq (.seq (Try.f59.sub [1, 1, 1, 0, 0]) (.block 0 (.loop (Try.f59.sub [1, 1, 1, 0, 1, 0, 0])))) (.seq (Try.f59.sub [1, 1, 1, 1, 0]) .ret))))) _ _ _
  refine wpIn_seq ?_
  conv => arg 4; whnf
  gi_wp2_with fail
  conv => arg 4; whnf
  gi_wp2_with fail
  refine ⟨trivial, rfl, (callsIn_wide.2 (repeat_c n ⟨hn1, by omega⟩ (-1) W.heap.size _ (by simp))).mono ?_⟩
  rintro e W1 ⟨O, rfl, hB1, hO, hI⟩
  have hz1 := hB1.size
  rw [World.size_alloc] at hz1 hO
  have HB1 := Lib.hid hB1; clear hB1
  have olt : O < W1.heap.size := hI.lt
  have HI := Lib.hid hI; clear hI
  gi_wp2_with fail
  conv => arg 4; whnf
  gi_wp2_with fail
  conv => arg 4; whnf
  gi_wp2_with fail
  refine nameW ?_
  intro W2 hW2
  have e1 : W2.heap[W1.heap.size]? = some (.cells #[.slice (some ⟨O, 0, none⟩) n n] 22 (0, 0)) := by
    rw [hW2]; exact (Below.heap_alloc _ _ _ (by simp)).trans (World.alloc_heap_new W1 _)
  have e2 : W2.heap[W1.heap.size + 1]? = some (.cells #[.int .i64 0] 3 (0, 0)) := by
    rw [hW2]
    have e := World.alloc_heap_new (W1.alloc (.cells #[.slice (some ⟨O, 0, none⟩) n n] 22)) (.cells #[.int .i64 0] 3)
    rwa [World.size_alloc] at e
  have hb2 : Below W1.heap.size W1 W2 := by rw [hW2]; exact ((Below.refl _ _).alloc (Nat.le_refl _) _).alloc (by simp) _
  clear hW2
  have hbel : Below W.heap.size W W2 := by
    have b0 : Below W.heap.size W (W.alloc (.cells #[.int .i64 (-1)] 3)) := (Below.refl _ _).alloc (Nat.le_refl _) _
    exact (b0.trans (HB1.out.mono (by simp))).trans (hb2.mono (by omega))
  have hN : NumO W2 W.heap.size W1.heap.size (W1.heap.size + 1) O n (List.replicate n (-1)) 0 :=
    ⟨e1, e2, HI.out.keep hb2, by simp, ⟨by omega, by omega, by omega⟩, ⟨by omega, by omega, by omega⟩⟩
  rename_i K hK
  refine wpIn_loop (LoopNum W W1.heap.size (W1.heap.size + 1) O n nb es undef) (fun a _ => n - (intOf (a.tmps.getD 15 undef)).toNat) ⟨0, 0, _, Nat.zero_le _, Nat.le_refl _, BfsO.start n es, fun v hv => by omega, hbel, hN, by (refine ⟨rfl, rfl, ?_⟩; repeat (first | exact trivial | refine ⟨rfl, ?_⟩))⟩ (num_outer HR.out HK.out (by omega) ?_)
  intro a3 w3 out3 g3 hB3 hall hbel3 hN3 hfr3
  refine hK _ _ ?_
  obtain ⟨t3, rfl⟩ := hfr3.open
  clear hfr3
  have c3 : w3.cell? ⟨W1.heap.size, 0, none⟩ = some (.slice (some ⟨O, 0, none⟩) n n) := by simp [World.cell?, hN3.bo]
  have H3 := Lib.hid (And.intro hB3 (And.intro hall (And.intro hbel3 hN3)))
  clear hB3 hall hbel3 hN3 hN hbel e1 e2 hb2
  show Code.wpIn Fence.wide 0 Try.prog (.seq (Try.f59.sub [1, 1, 1, 1, 0]) .ret) _ ⟨#[(t3 0), (t3 1), (t3 2), (t3 3), (t3 4), .pointer (some ⟨W1.heap.size, 0, none⟩), (t3 6), (t3 7), (t3 8), (t3 9), (t3 10), (t3 11), (t3 12), (t3 13), (t3 14), (t3 15), (t3 16), (t3 17), (t3 18), (t3 19), (t3 20), (t3 21), (t3 22), (t3 23), (t3 24), (t3 25), (t3 26), (t3 27), (t3 28), (t3 29), (t3 30), (t3 31), (t3 32), (t3 33), (t3 34), (t3 35), (t3 36), (t3 37), (t3 38), (t3 39), (t3 40), (t3 41), (t3 42), (t3 43), (t3 44)], []⟩ _
  refine wpIn_seq ?_
  conv => arg 4; whnf
  dsimp only
  gi_wp2_with fail
  obtain ⟨hB3, hall, hbel3, hN3⟩ := H3.out
  show LeavesInM Fence.wide 0 Try.prog _ _ _ [] .returning w3
  refine ⟨.slice (some ⟨O, 0, none⟩) n n, ?_, O, out3.map Int.toNat, rfl, hbel3, by omega, ?_, hB3.labels HG.out hall⟩
  · exact results_tmp Try.results59 _ _ _
  · have e : (out3.map Int.toNat).map Int.ofNat = out3 := by
      apply List.ext_getElem
      · simp
      · intro i h1 h2
        have := hall i (by rw [← hN3.lo]; simpa using h2)
        unfold gi at this
        simp only [List.getElem_map]
        rw [List.getD_eq_getElem?_getD, List.getElem?_eq_getElem h2, Option.getD_some] at this
        exact Int.toNat_of_nonneg this
    rw [e]; exact hN3.bO
end Go.Proofs.Ytjnpchoinncbnaa
end
