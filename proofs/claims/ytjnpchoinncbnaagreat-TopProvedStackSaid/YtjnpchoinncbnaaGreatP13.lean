/- Proves parts of the statement, each under the conditions that its theorem states: The length of a pair, and the comparison of two pairs; Plain facts on a stable sort in place: segments, rotations, merges of two sorted neighbours; A slice of numbers that is sorted in place: its memory, and one exchange; swapRange; rotate: two neighbours change places. -/
import Derived.Test.YtjnpchoinncbnaaGreatP12
import Derived.RegionTactic
import Derived.BigRegion
import Derived.IntWalk
import Derived.Test.YtjnpchoinncbnaaGreatP08
import Derived.Test.YtjnpchoinncbnaaGreatP03
import Derived.Test.YtjnpchoinncbnaaGreatP07
set_option linter.unusedSimpArgs false
set_option linter.unusedVariables false
set_option maxHeartbeats 4000000
set_option maxRecDepth 100000
section
namespace Go.Proofs.YtjnpchoinncbnaaGreat
open Go.RowKit Sw Fam
theorem alloc2 (w : World) (o0 o1 : Obj) {W : World} (h : W = (w.alloc o0).alloc o1) :
    W.heap.size = w.heap.size + 2 ∧ W.heap[w.heap.size]? = some o0 ∧ W.heap[w.heap.size + 1]? = some o1 ∧ Below w.heap.size w W := by
  have e0 := World.alloc_heap_new w o0
  have e1 := World.alloc_heap_new (w.alloc o0) o1
  simp only [World.size_alloc] at e0 e1
  subst h
  refine ⟨by simp only [World.size_alloc], ?_, e1, ?_⟩
  · rw [Below.heap_alloc _ _ _ (by simp only [World.size_alloc]; omega)]
    exact e0
  · exact ((Below.refl _ _).alloc (Nat.le_refl _) _).alloc (by simp only [World.size_alloc]; omega) _
def lenP (t : Sk) (i : Int) : Int := ab ((gsc t.sc (gq (prs t) i.toNat).f).day - (gsc t.sc (gq (prs t) i.toNat).s).day) + ab ((gsc t.sc (gq (prs t) i.toNat).f).bl - (gsc t.sc (gq (prs t) i.toNat).s).bl)
theorem slength_c {b1 o1 b2 o2 n m cs cp i f s : Nat} {nf ns : ByteArray} {df ds bf bs : Int} {w : World} (hi : i < m) (hf : f < n) (hs : s < n) (hn : n ≤ 60) (hm : m ≤ 200)
    (p0 : w.cell? ⟨b2, o2 + i * 2, none⟩ = some (.int .i64 f)) (p1 : w.cell? ⟨b2, o2 + i * 2 + 1, none⟩ = some (.int .i64 s))
    (f0 : w.cell? ⟨b1, o1 + f * 3, none⟩ = some (.string nf)) (f1 : w.cell? ⟨b1, o1 + f * 3 + 1, none⟩ = some (.int .i64 df)) (f2 : w.cell? ⟨b1, o1 + f * 3 + 2, none⟩ = some (.int .i64 bf))
    (s0 : w.cell? ⟨b1, o1 + s * 3, none⟩ = some (.string ns)) (s1 : w.cell? ⟨b1, o1 + s * 3 + 1, none⟩ = some (.int .i64 ds)) (s2 : w.cell? ⟨b1, o1 + s * 3 + 2, none⟩ = some (.int .i64 bs))
    (hd : 0 ≤ df ∧ df ≤ 100000 ∧ 0 ≤ ds ∧ ds ≤ 100000 ∧ -100000 ≤ bf ∧ bf ≤ 100000 ∧ -100000 ≤ bs ∧ bs ≤ 100000) :
    Calls Tryz.prog 66 #[.agg #[.slice (some ⟨b1, o1, none⟩) n cs, .slice (some ⟨b2, o2, none⟩) m cp], .int .i64 i] w fun e w' => e = .returned (.int .i64 (ab (df - ds) + ab (bf - bs))) ∧ Below w.heap.size w w' := by
  obtain ⟨d1, d2, d3, d4, d5, d6, d7, d8⟩ := hd
  have l1 : b1 < w.heap.size := World.block_lt_of_cell? _ _ f0
  have l2 : b2 < w.heap.size := World.block_lt_of_cell? _ _ p0
  go_enter Tryz.func66, Tryz.ntmps66
  show Code.wp Tryz.prog (.seq (Tryz.f66.sub [0]) (.seq (Tryz.f66.sub [1, 0]) (.seq (Tryz.f66.sub [1, 1, 0]) (Tryz.f66.sub [1, 1, 1])))) _ _ _
  refine wp_seq ?_
  conv => arg 2; whnf
  go_wp2_with fail
  conv => arg 2; whnf
  go_wp2_with fail
  conv => arg 2; whnf
  refine nameC ?_
  intro W2 hW2
  obtain ⟨hz, hg, hp, hB⟩ := alloc2 w _ _ hW2
  clear hW2
  have g0 : W2.cell? ⟨w.heap.size, 0, none⟩ = some (.slice (some ⟨b1, o1, none⟩) n cs) := block_cell hg (j := 0) (by simp)
  have q0 : W2.cell? ⟨w.heap.size + 1, 0, none⟩ = some (.int .i64 f) := block_cell hp (j := 0) (by simp)
  have q1 : W2.cell? ⟨w.heap.size + 1, 1, none⟩ = some (.int .i64 s) := block_cell hp (j := 1) (by simp)
  have f0' := cell_keep hB f0
  have f1' := cell_keep hB f1
  have f2' := cell_keep hB f2
  have s0' := cell_keep hB s0
  have s1' := cell_keep hB s1
  have s2' := cell_keep hB s2
  have HB := Lib.hid hB
  have fl : (f : Int) < n := by omega
  have sl : (s : Int) < n := by omega
  clear hg hp hB f0 f1 f2 s0 s1 s2 p0 p1
  obtain ⟨G, hG⟩ : ∃ G, w.heap.size = G := ⟨_, rfl⟩
  rw [hG] at g0 q0 q1 hz l1 l2 ⊢
  have HG := Lib.hid hG; clear hG
  have l1' : b1 < W2.heap.size := by omega
  have l2' : G < W2.heap.size := by omega
  have l3' : G + 1 < W2.heap.size := by omega
  have HZ := Lib.hid hz; clear hz l1 l2
  go_region
  · refine nameQ ?_
    intro W3 hW3
    subst hW3
    obtain ⟨W4, hW4⟩ : ∃ W4, W4 = ((W2.alloc (.cells #[.string nf, .int .i64 df, .int .i64 bf] 84)).alloc (.cells #[.string ns, .int .i64 ds, .int .i64 bs] 84)).drew := ⟨_, rfl⟩
    rw [← hW4]
    have hall := alloc2 W2 (.cells #[.string nf, .int .i64 df, .int .i64 bf] 84) (.cells #[.string ns, .int .i64 ds, .int .i64 bs] 84) rfl
    have hh : W4.heap = ((W2.alloc (.cells #[.string nf, .int .i64 df, .int .i64 bf] 84)).alloc (.cells #[.string ns, .int .i64 ds, .int .i64 bs] 84)).heap := by rw [hW4]; rfl
    rw [← hh] at hall
    obtain ⟨hz3, h30, h31, hB3'⟩ := hall
    have hB3 : Below W2.heap.size W2 W4 := by rw [hW4]; exact below_drewN hB3' 1
    clear hW4 hh hB3'
    have a1 : W4.cell? ⟨W2.heap.size, 1, none⟩ = some (.int .i64 df) := block_cell h30 (j := 1) (by simp)
    have a2 : W4.cell? ⟨W2.heap.size, 2, none⟩ = some (.int .i64 bf) := block_cell h30 (j := 2) (by simp)
    have e1 : W4.cell? ⟨W2.heap.size + 1, 1, none⟩ = some (.int .i64 ds) := block_cell h31 (j := 1) (by simp)
    have e2 : W4.cell? ⟨W2.heap.size + 1, 2, none⟩ = some (.int .i64 bs) := block_cell h31 (j := 2) (by simp)
    rename_i K5 hK5
    refine hK5 _ _ ?_
    exact slen_tail ⟨d1, d2, d3, d4, d5, d6, d7, d8⟩ rfl (HB.out.trans (hB3.mono HB.out.size)) a1 a2 e1 e2
  · refine nameQ ?_
    intro W3 hW3
    subst hW3
    obtain ⟨W4, hW4⟩ : ∃ W4, W4 = ((W2.alloc (.cells #[.string ns, .int .i64 ds, .int .i64 bs] 84)).alloc (.cells #[.string nf, .int .i64 df, .int .i64 bf] 84)).drew := ⟨_, rfl⟩
    rw [← hW4]
    have hall := alloc2 W2 (.cells #[.string ns, .int .i64 ds, .int .i64 bs] 84) (.cells #[.string nf, .int .i64 df, .int .i64 bf] 84) rfl
    have hh : W4.heap = ((W2.alloc (.cells #[.string ns, .int .i64 ds, .int .i64 bs] 84)).alloc (.cells #[.string nf, .int .i64 df, .int .i64 bf] 84)).heap := by rw [hW4]; rfl
    rw [← hh] at hall
    obtain ⟨hz3, h30, h31, hB3'⟩ := hall
    have hB3 : Below W2.heap.size W2 W4 := by rw [hW4]; exact below_drewN hB3' 1
    clear hW4 hh hB3'
    have a1 : W4.cell? ⟨W2.heap.size + 1, 1, none⟩ = some (.int .i64 df) := block_cell h31 (j := 1) (by simp)
    have a2 : W4.cell? ⟨W2.heap.size + 1, 2, none⟩ = some (.int .i64 bf) := block_cell h31 (j := 2) (by simp)
    have e1 : W4.cell? ⟨W2.heap.size, 1, none⟩ = some (.int .i64 ds) := block_cell h30 (j := 1) (by simp)
    have e2 : W4.cell? ⟨W2.heap.size, 2, none⟩ = some (.int .i64 bs) := block_cell h30 (j := 2) (by simp)
    rename_i K5 hK5
    refine hK5 _ _ ?_
    exact slen_tail ⟨d1, d2, d3, d4, d5, d6, d7, d8⟩ rfl (HB.out.trans (hB3.mono HB.out.size)) a1 a2 e1 e2
end Go.Proofs.YtjnpchoinncbnaaGreat
end
section
namespace Sw
def lx (L : Int → Int) (x y : Int) : Prop := L x < L y ∨ (L x = L y ∧ x < y)
theorem lx_trans {L : Int → Int} {x y z : Int} (h : lx L x y) (k : lx L y z) : lx L x z := by unfold lx at *; omega
theorem lx_or {L : Int → Int} {x y : Int} (h : x ≠ y) (k : ¬ lx L x y) : lx L y x := by unfold lx at *; omega
theorem lx_lt {L : Int → Int} {x y : Int} (h : y < x) : (L x - L y < 0) ↔ lx L x y := by unfold lx; omega
theorem lx_irr {L : Int → Int} {x : Int} : ¬ lx L x x := by unfold lx; omega
def Std (L : Int → Int) (xs : List Int) (a b : Nat) : Prop := ∀ i j, a ≤ i → i < j → j < b → lx L (gi xs i) (gi xs j)
def Old (xs : List Int) (a m b : Nat) : Prop := ∀ i j, a ≤ i → i < m → m ≤ j → j < b → gi xs i < gi xs j
structure Seg (a b : Nat) (xs ys : List Int) : Prop where
  perm : ys.Perm xs
  out : ∀ i, (i < a ∨ b ≤ i) → gi ys i = gi xs i
  inn : ∀ i, a ≤ i → i < b → ∃ j, a ≤ j ∧ j < b ∧ gi ys i = gi xs j
theorem Seg.refl (a b : Nat) (xs : List Int) : Seg a b xs xs := ⟨List.Perm.refl _, fun _ _ => rfl, fun i h1 h2 => ⟨i, h1, h2, rfl⟩⟩
theorem Seg.len {a b : Nat} {xs ys : List Int} (h : Seg a b xs ys) : ys.length = xs.length := h.perm.length_eq
theorem Seg.trans {a b : Nat} {xs ys zs : List Int} (h : Seg a b xs ys) (k : Seg a b ys zs) : Seg a b xs zs :=
  ⟨k.perm.trans h.perm, fun i hi => (k.out i hi).trans (h.out i hi), fun i h1 h2 => by
    obtain ⟨j, j1, j2, j3⟩ := k.inn i h1 h2
    obtain ⟨l, l1, l2, l3⟩ := h.inn j j1 j2
    exact ⟨l, l1, l2, j3.trans l3⟩⟩
theorem Seg.mono {a b a' b' : Nat} {xs ys : List Int} (h : Seg a b xs ys) (ha : a' ≤ a) (hb : b ≤ b') : Seg a' b' xs ys :=
  ⟨h.perm, fun i hi => h.out i (by omega), fun i h1 h2 => by
    by_cases e : a ≤ i ∧ i < b
    · obtain ⟨j, j1, j2, j3⟩ := h.inn i e.1 e.2
      exact ⟨j, by omega, by omega, j3⟩
    · exact ⟨i, h1, h2, h.out i (by omega)⟩⟩
def sw (xs : List Int) (p q : Nat) : List Int := (xs.set p (gi xs q)).set q (gi xs p)
theorem sw_len (xs : List Int) (p q : Nat) : (sw xs p q).length = xs.length := by simp [sw]
theorem gi_sw {xs : List Int} {p q : Nat} (hp : p < xs.length) (hq : q < xs.length) (i : Nat) : gi (sw xs p q) i = if i = p then gi xs q else if i = q then gi xs p else gi xs i := by
  unfold sw
  rw [gi_set _ _ _ _ (by simpa using hq), gi_set _ _ _ _ hp]
  by_cases h1 : q = i
  · subst h1; rw [if_pos rfl]; by_cases h2 : q = p
    · subst h2; simp
    · simp [h2]
  · rw [if_neg h1]; by_cases h2 : p = i
    · subst h2; simp
    · rw [if_neg h2, if_neg (fun e => h2 e.symm), if_neg (fun e => h1 e.symm)]
theorem sw_perm {xs : List Int} {p q : Nat} (hp : p < xs.length) (hq : q < xs.length) : (sw xs p q).Perm xs := by
  have e1 : gi xs q = xs[q] := by simp [gi, hq]
  have e2 : gi xs p = xs[p] := by simp [gi, hp]
  unfold sw
  rw [e1, e2]
  by_cases h : p = q
  · subst h; simp
  · exact List.set_set_perm hp hq
theorem Seg.swap {xs : List Int} {a b p q : Nat} (hp : a ≤ p ∧ p < b) (hq : a ≤ q ∧ q < b) (hb : b ≤ xs.length) : Seg a b xs (sw xs p q) :=
  ⟨sw_perm (by omega) (by omega), fun i hi => by rw [gi_sw (by omega) (by omega), if_neg (by omega), if_neg (by omega)], fun i h1 h2 => by
    rw [gi_sw (by omega) (by omega)]
    split
    · exact ⟨q, hq.1, hq.2, rfl⟩
    · split
      · exact ⟨p, hp.1, hp.2, rfl⟩
      · exact ⟨i, h1, h2, rfl⟩⟩
def Dom (m : Int) (xs : List Int) : Prop := ∀ i, i < xs.length → 0 ≤ gi xs i ∧ gi xs i < m
theorem Dom.seg {m : Int} {a b : Nat} {xs ys : List Int} (h : Dom m xs) (k : Seg a b xs ys) (hb : b ≤ xs.length) : Dom m ys := fun i hi => by
  rw [k.len] at hi
  by_cases e : a ≤ i ∧ i < b
  · obtain ⟨j, j1, j2, j3⟩ := k.inn i e.1 e.2
    rw [j3]; exact h j (by omega)
  · rw [k.out i (by omega)]; exact h i hi
structure Ins (L : Int → Int) (xs ys : List Int) (a i j : Nat) : Prop where
  seg : Seg a (i + 1) xs ys
  low : Std L ys a j
  upp : Std L ys (j + 1) (i + 1)
  mid : ∀ p q, a ≤ p → p < j → j < q → q < i + 1 → lx L (gi ys p) (gi ys q)
  here : gi ys j = gi xs i
  abv : ∀ q, j < q → q < i + 1 → lx L (gi ys j) (gi ys q)
  old : ∀ p, a ≤ p → p < i + 1 → p ≠ j → gi ys p < gi xs i
theorem Ins.start {L : Int → Int} {xs ys : List Int} {a i : Nat} (hs : Seg a i xs ys) (hst : Std L ys a i) (hold : ∀ p, a ≤ p → p < i → gi xs p < gi xs i) : Ins L xs ys a i i :=
  ⟨hs.mono (Nat.le_refl _) (by omega), hst, fun p q h1 h2 h3 => by omega, fun p q h1 h2 h3 h4 => by omega, hs.out i (by omega), fun q h1 h2 => by omega, fun p h1 h2 h3 => by
    obtain ⟨l, l1, l2, l3⟩ := hs.inn p h1 (by omega)
    rw [l3]; exact hold l l1 l2⟩
theorem Ins.sink {L : Int → Int} {xs ys : List Int} {a i j : Nat} (h : Ins L xs ys a i j) (hj : a < j) (hji : j ≤ i) (hi : i < ys.length) (hl : lx L (gi ys j) (gi ys (j - 1))) : Ins L xs (sw ys j (j - 1)) a i (j - 1) := by
  have g : ∀ p, gi (sw ys j (j - 1)) p = if p = j then gi ys (j - 1) else if p = j - 1 then gi ys j else gi ys p := fun p => gi_sw (by omega) (by omega) p
  have g1 : gi (sw ys j (j - 1)) (j - 1) = gi ys j := by rw [g, if_neg (by omega), if_pos rfl]
  refine ⟨h.seg.trans (Seg.swap (by omega) (by omega) (by have := h.seg.len; omega)), fun p q h1 h2 h3 => ?_, fun p q h1 h2 h3 => ?_, fun p q h1 h2 h3 h4 => ?_, ?_, fun q h1 h2 => ?_, fun p h1 h2 h3 => ?_⟩
  · rw [g, g, if_neg (by omega), if_neg (by omega), if_neg (by omega), if_neg (by omega)]
    exact h.low p q h1 h2 (by omega)
  · rw [g, g]
    by_cases e : p = j
    · rw [if_pos e, if_neg (by omega), if_neg (by omega)]
      exact h.mid _ _ (by omega) (by omega) (by omega) h3
    · rw [if_neg e, if_neg (by omega), if_neg (by omega), if_neg (by omega)]
      exact h.upp p q (by omega) h2 h3
  · rw [g, g, if_neg (by omega), if_neg (by omega)]
    by_cases e : q = j
    · rw [if_pos e]; exact h.low p (j - 1) h1 (by omega) (by omega)
    · rw [if_neg e, if_neg (by omega)]; exact h.mid p q h1 (by omega) (by omega) h4
  · rw [g1, h.here]
  · rw [g1, g]
    by_cases e : q = j
    · rw [if_pos e]; exact hl
    · rw [if_neg e, if_neg (by omega)]; exact h.abv q (by omega) h2
  · rw [g]
    by_cases e : p = j
    · rw [if_pos e]; exact h.old _ (by omega) (by omega) (by omega)
    · rw [if_neg e, if_neg (by omega)]; exact h.old p h1 h2 (by omega)
theorem Ins.stop {L : Int → Int} {xs ys : List Int} {a i j : Nat} (h : Ins L xs ys a i j) (hj : a ≤ j) (hji : j ≤ i) (hl : j = a ∨ ¬ lx L (gi ys j) (gi ys (j - 1))) : Std L ys a (i + 1) := by
  have hlow : ∀ p, a ≤ p → p < j → lx L (gi ys p) (gi ys j) := by
    intro p h1 h2
    rcases hl with hl | hl
    · omega
    · have h3 : lx L (gi ys (j - 1)) (gi ys j) := lx_or (by have := h.old (j - 1) (by omega) (by omega) (by omega); rw [h.here]; omega) hl
      by_cases e : p = j - 1
      · subst e; exact h3
      · exact lx_trans (h.low p (j - 1) h1 (by omega) (by omega)) h3
  intro p q h1 h2 h3
  by_cases e1 : q < j
  · exact h.low p q h1 h2 e1
  · by_cases e2 : q = j
    · subst e2; exact hlow p h1 h2
    · by_cases e3 : p < j
      · exact h.mid p q h1 e3 (by omega) h3
      · by_cases e4 : p = j
        · subst e4; exact h.abv q h2 h3
        · exact h.upp p q (by omega) h2 h3
def rot (f : Nat → Int) (a m b k : Nat) : Int := if a ≤ k ∧ k < a + (b - m) then f (k - a + m) else if a + (b - m) ≤ k ∧ k < b then f (k - (b - m)) else f k
def xch (f : Nat → Int) (a b n k : Nat) : Int := if a ≤ k ∧ k < a + n then f (k - a + b) else if b ≤ k ∧ k < b + n then f (k - b + a) else f k
theorem rot_gt (f : Nat → Int) {m i j k : Nat} (hi : i ≤ m) (hji : j < i) (h0 : 0 < j) : rot (xch f (m - i) m j) (m - (i - j)) m (m + j) k = rot f (m - i) m (m + j) k := by
  unfold rot xch
  by_cases c1 : k < m - i
  · repeat' split
    all_goals first | omega | rfl | (congr 1; omega)
  · repeat' split
    all_goals first | omega | rfl | (congr 1; omega)
theorem rot_lt (f : Nat → Int) {m i j k : Nat} (hi : i ≤ m) (hji : i < j) (h0 : 0 < i) : rot (xch f (m - i) (m + j - i) i) (m - i) m (m + (j - i)) k = rot f (m - i) m (m + j) k := by
  unfold rot xch
  by_cases c1 : k < m - i
  · repeat' split
    all_goals first | omega | rfl | (congr 1; omega)
  · repeat' split
    all_goals first | omega | rfl | (congr 1; omega)
theorem rot_eq (f : Nat → Int) {m i k : Nat} (hi : i ≤ m) : xch f (m - i) m i k = rot f (m - i) m (m + i) k := by
  unfold rot xch
  repeat' split
  all_goals first | omega | rfl | (congr 1; omega)
structure Cutp (L : Int → Int) (xs : List Int) (a m b s e : Nat) : Prop where
  am : a ≤ s
  sm : s ≤ m
  me : m ≤ e
  eb : e ≤ b
  low : a < s → e < b → lx L (gi xs (s - 1)) (gi xs e)
  upp : m < e → s < m → lx L (gi xs (e - 1)) (gi xs s)
theorem Cutp.lows {L : Int → Int} {xs : List Int} {a m b s e : Nat} (h : Cutp L xs a m b s e) (h1 : Std L xs a m) (h2 : Std L xs m b) {p q : Nat} (hp : a ≤ p ∧ p < s) (hq : e ≤ q ∧ q < b) : lx L (gi xs p) (gi xs q) := by
  have hm := h.sm
  have he := h.me
  have k := h.low (by omega) (by omega)
  have k1 : p = s - 1 ∨ lx L (gi xs p) (gi xs (s - 1)) := by
    by_cases e : p = s - 1
    · exact .inl e
    · exact .inr (h1 p (s - 1) hp.1 (by omega) (by omega))
  have k2 : q = e ∨ lx L (gi xs e) (gi xs q) := by
    by_cases e' : q = e
    · exact .inl e'
    · exact .inr (h2 e q (by omega) (by omega) hq.2)
  rcases k1 with rfl | k1 <;> rcases k2 with rfl | k2
  · exact k
  · exact lx_trans k k2
  · exact lx_trans k1 k
  · exact lx_trans k1 (lx_trans k k2)
theorem Cutp.upps {L : Int → Int} {xs : List Int} {a m b s e : Nat} (h : Cutp L xs a m b s e) (h1 : Std L xs a m) (h2 : Std L xs m b) {p q : Nat} (hp : m ≤ p ∧ p < e) (hq : s ≤ q ∧ q < m) : lx L (gi xs p) (gi xs q) := by
  have ha := h.am
  have hb := h.eb
  have k := h.upp (by omega) (by omega)
  have k1 : p = e - 1 ∨ lx L (gi xs p) (gi xs (e - 1)) := by
    by_cases e' : p = e - 1
    · exact .inl e'
    · exact .inr (h2 p (e - 1) hp.1 (by omega) (by omega))
  have k2 : q = s ∨ lx L (gi xs s) (gi xs q) := by
    by_cases e' : q = s
    · exact .inl e'
    · exact .inr (h1 s q (by omega) (by omega) hq.2)
  rcases k1 with rfl | k1 <;> rcases k2 with rfl | k2
  · exact k
  · exact lx_trans k k2
  · exact lx_trans k1 k
  · exact lx_trans k1 (lx_trans k k2)
structure Rotd (L : Int → Int) (ys : List Int) (a s mid e b : Nat) : Prop where
  le1 : a ≤ s
  le2 : s ≤ mid
  le3 : mid ≤ e
  le4 : e ≤ b
  s1 : Std L ys a s
  s2 : Std L ys s mid
  s3 : Std L ys mid e
  s4 : Std L ys e b
  o1 : Old ys a s mid
  o2 : Old ys mid e b
  c : ∀ p q, a ≤ p → p < mid → mid ≤ q → q < b → lx L (gi ys p) (gi ys q)
theorem Cutp.rotd {L : Int → Int} {xs ys : List Int} {a m b s e mid : Nat} (h : Cutp L xs a m b s e) (h1 : Std L xs a m) (h2 : Std L xs m b) (ho : Old xs a m b) (hmid : mid = s + (e - m)) (hr : ∀ k, gi ys k = rot (gi xs) s m e k) : Rotd L ys a s mid e b := by
  have ha := h.am
  have hb := h.eb
  have hm := h.sm
  have he := h.me
  subst hmid
  have g1 : ∀ k, k < s → gi ys k = gi xs k := fun k hk => by rw [hr]; unfold rot; rw [if_neg (by omega), if_neg (by omega)]
  have g2 : ∀ k, s ≤ k → k < s + (e - m) → gi ys k = gi xs (k - s + m) := fun k h1 h2 => by rw [hr]; unfold rot; rw [if_pos (by omega)]
  have g3 : ∀ k, s + (e - m) ≤ k → k < e → gi ys k = gi xs (k - (e - m)) := fun k h1 h2 => by rw [hr]; unfold rot; rw [if_neg (by omega), if_pos (by omega)]
  have g4 : ∀ k, e ≤ k → gi ys k = gi xs k := fun k hk => by rw [hr]; unfold rot; rw [if_neg (by omega), if_neg (by omega)]
  refine ⟨ha, by omega, by omega, hb, fun i j i1 i2 i3 => ?_, fun i j i1 i2 i3 => ?_, fun i j i1 i2 i3 => ?_, fun i j i1 i2 i3 => ?_, fun i j i1 i2 i3 i4 => ?_, fun i j i1 i2 i3 i4 => ?_, fun p q p1 p2 q1 q2 => ?_⟩
  · rw [g1 i (by omega), g1 j (by omega)]; exact h1 i j i1 i2 (by omega)
  · rw [g2 i i1 (by omega), g2 j (by omega) i3]; exact h2 _ _ (by omega) (by omega) (by omega)
  · rw [g3 i i1 (by omega), g3 j (by omega) i3]; exact h1 _ _ (by omega) (by omega) (by omega)
  · rw [g4 i i1, g4 j (by omega)]; exact h2 _ _ (by omega) i2 i3
  · rw [g1 i i2, g2 j i3 i4]; exact ho _ _ i1 (by omega) (by omega) (by omega)
  · rw [g3 i i1 i2, g4 j i3]; exact ho _ _ (by omega) (by omega) (by omega) i4
  · by_cases e1 : p < s
    · rw [g1 p e1]
      by_cases e2 : q < e
      · rw [g3 q q1 e2]; exact h1 _ _ p1 (by omega) (by omega)
      · rw [g4 q (by omega)]; exact h.lows h1 h2 ⟨p1, e1⟩ ⟨by omega, q2⟩
    · rw [g2 p (by omega) p2]
      by_cases e2 : q < e
      · rw [g3 q q1 e2]; exact h.upps h1 h2 ⟨by omega, by omega⟩ ⟨by omega, by omega⟩
      · rw [g4 q (by omega)]; exact h2 _ _ (by omega) (by omega) q2
theorem std_join {L : Int → Int} {ys zs : List Int} {a mid b : Nat} (h1 : Std L zs a mid) (h2 : Std L zs mid b) (hc : ∀ p q, a ≤ p → p < mid → mid ≤ q → q < b → lx L (gi zs p) (gi zs q)) : Std L zs a b := by
  intro i j i1 i2 i3
  by_cases e1 : j < mid
  · exact h1 i j i1 i2 e1
  · by_cases e2 : i < mid
    · exact hc i j i1 e2 (by omega) i3
    · exact h2 i j (by omega) i2 i3
theorem rot_id {f : Nat → Int} {a m k : Nat} : rot f a m m k = f k := by
  unfold rot
  repeat' split
  all_goals first | omega | rfl | (congr 1; omega)
theorem rot_nil {f : Nat → Int} {m b k : Nat} : rot f m m b k = f k := by
  unfold rot
  repeat' split
  all_goals first | omega | rfl | (congr 1; omega)
theorem rot_up {xs zs : List Int} {a k : Nat} (hk : a ≤ k) (hl : k + 1 < zs.length) (h : ∀ p, gi zs p = rot (gi xs) a (a + 1) (k + 1) p) : ∀ p, gi (sw zs k (k + 1)) p = rot (gi xs) a (a + 1) (k + 1 + 1) p := by
  intro p
  rw [gi_sw (by omega) hl, h, h, h]
  unfold rot
  repeat' split
  all_goals first | omega | rfl | (congr 1; omega)
theorem rot_dn {xs zs : List Int} {k m : Nat} (h0 : 0 < k) (hk : k ≤ m) (hl : m < zs.length) (h : ∀ p, gi zs p = rot (gi xs) k m (m + 1) p) : ∀ p, gi (sw zs k (k - 1)) p = rot (gi xs) (k - 1) m (m + 1) p := by
  intro p
  rw [gi_sw (by omega) (by omega), h, h, h]
  unfold rot
  repeat' split
  all_goals first | omega | rfl | (congr 1; omega)
theorem c_seg {L : Int → Int} {ys zs ws : List Int} {a mid b : Nat} (h : ∀ p q, a ≤ p → p < mid → mid ≤ q → q < b → lx L (gi ys p) (gi ys q)) (h1 : Seg a mid ys zs) (h2 : Seg mid b zs ws) : ∀ p q, a ≤ p → p < mid → mid ≤ q → q < b → lx L (gi ws p) (gi ws q) := by
  intro p q p1 p2 q1 q2
  rw [h2.out p (.inl p2)]
  obtain ⟨i, i1, i2, i3⟩ := h1.inn p p1 p2
  obtain ⟨j, j1, j2, j3⟩ := h2.inn q q1 q2
  rw [i3, j3, h1.out j (.inr j1)]
  exact h i j i1 i2 j1 j2
theorem Std.seg_out {L : Int → Int} {ys zs : List Int} {a b c d : Nat} (h : Std L ys a b) (hs : Seg c d ys zs) (ho : b ≤ c ∨ d ≤ a) : Std L zs a b := by
  intro i j i1 i2 i3
  rw [hs.out i (by omega), hs.out j (by omega)]
  exact h i j i1 i2 i3
theorem Std.sub {L : Int → Int} {ys : List Int} {a b c d : Nat} (h : Std L ys a b) (h1 : a ≤ c) (h2 : d ≤ b) : Std L ys c d := fun i j i1 i2 i3 => h i j (by omega) i2 (by omega)
theorem Old.seg_out {ys zs : List Int} {a m b c d : Nat} (h : Old ys a m b) (hs : Seg c d ys zs) (ho : b ≤ c ∨ d ≤ a) : Old zs a m b := by
  intro i j i1 i2 i3 i4
  rw [hs.out i (by omega), hs.out j (by omega)]
  exact h i j i1 i2 i3 i4
theorem std_one {L : Int → Int} {xs ys : List Int} {a b i : Nat} (h2 : Std L xs (a + 1) b) (hi : a + 1 ≤ i) (hb : i ≤ b) (lo : ∀ h, a + 1 ≤ h → h < i → lx L (gi xs h) (gi xs a)) (up : ∀ h, i ≤ h → h < b → lx L (gi xs a) (gi xs h)) (hr : ∀ k, gi ys k = rot (gi xs) a (a + 1) i k) : Std L ys a b := by
  have g1 : ∀ k, a ≤ k → k < i - 1 → gi ys k = gi xs (k + 1) := fun k h1 h2 => by rw [hr]; unfold rot; rw [if_pos (by omega)]; congr 1; omega
  have g2 : gi ys (i - 1) = gi xs a := by rw [hr]; unfold rot; rw [if_neg (by omega), if_pos (by omega)]; congr 1; omega
  have g3 : ∀ k, i ≤ k → gi ys k = gi xs k := fun k h => by rw [hr]; unfold rot; rw [if_neg (by omega), if_neg (by omega)]
  intro p q h1 hpq h3
  by_cases e1 : q < i - 1
  · rw [g1 p h1 (by omega), g1 q (by omega) e1]; exact h2 _ _ (by omega) (by omega) (by omega)
  · by_cases e2 : q = i - 1
    · subst e2; rw [g2, g1 p h1 (by omega)]; exact lo _ (by omega) (by omega)
    · rw [g3 q (by omega)]
      by_cases e3 : p < i - 1
      · rw [g1 p h1 e3]; exact h2 _ _ (by omega) (by omega) h3
      · by_cases e4 : p = i - 1
        · subst e4; rw [g2]; exact up q (by omega) h3
        · rw [g3 p (by omega)]; exact h2 _ _ (by omega) hpq h3
theorem std_last {L : Int → Int} {xs ys : List Int} {a m i : Nat} (h1 : Std L xs a m) (hi : a ≤ i) (hm : i ≤ m) (lo : ∀ h, a ≤ h → h < i → lx L (gi xs h) (gi xs m)) (up : ∀ h, i ≤ h → h < m → lx L (gi xs m) (gi xs h)) (hr : ∀ k, gi ys k = rot (gi xs) i m (m + 1) k) : Std L ys a (m + 1) := by
  have g1 : ∀ k, k < i → gi ys k = gi xs k := fun k h => by rw [hr]; unfold rot; rw [if_neg (by omega), if_neg (by omega)]
  have g2 : gi ys i = gi xs m := by rw [hr]; unfold rot; rw [if_pos (by omega)]; congr 1; omega
  have g3 : ∀ k, i < k → k < m + 1 → gi ys k = gi xs (k - 1) := fun k h h' => by rw [hr]; unfold rot; rw [if_neg (by omega), if_pos (by omega)]; congr 1; omega
  intro p q hp hpq hq
  by_cases e1 : q < i
  · rw [g1 p (by omega), g1 q e1]; exact h1 _ _ hp hpq (by omega)
  · by_cases e2 : q = i
    · subst e2; rw [g2, g1 p hpq]; exact lo p hp hpq
    · rw [g3 q (by omega) hq]
      by_cases e3 : p < i
      · rw [g1 p e3]; exact h1 _ _ hp (by omega) (by omega)
      · by_cases e4 : p = i
        · subst e4; rw [g2]; exact up _ (by omega) (by omega)
        · rw [g3 p (by omega) (by omega)]; exact h1 _ _ (by omega) (by omega) (by omega)
structure Blk (L : Int → Int) (s lo hi : Nat) (xs : List Int) : Prop where
  val : ∀ i, lo ≤ i → i < hi → 0 ≤ gi xs i ∧ (gi xs i).toNat / s = i / s
  std : ∀ i j, lo ≤ i → i < j → j < hi → i / s = j / s → lx L (gi xs i) (gi xs j)
def Siz (s : Nat) : Prop := s = 20 ∨ s = 40 ∨ s = 80 ∨ s = 160
theorem blk_start (L : Int → Int) (s : Nat) (xs : List Int) (n : Nat) : Blk L s n n xs := ⟨fun i h1 h2 => by omega, fun i j h1 h2 h3 => by omega⟩
theorem blk_ins {L : Int → Int} {xs ys : List Int} {a b n : Nat} (ha : a % 20 = 0) (hb : b ≤ a + 20) (h : Blk L 20 0 a xs) (hid : ∀ i, a ≤ i → i < n → gi xs i = i) (hbn : b ≤ n) (hab : a ≤ b) (hs : Seg a b xs ys) (hst : Std L ys a b) : Blk L 20 0 b ys ∧ ∀ i, b ≤ i → i < n → gi ys i = i := by
  refine ⟨⟨fun i h1 h2 => ?_, fun i j h1 h2 h3 h4 => ?_⟩, fun i h1 h2 => by rw [hs.out i (by omega)]; exact hid i (by omega) h2⟩
  · by_cases e : i < a
    · rw [hs.out i (by omega)]; exact h.val i (by omega) e
    · obtain ⟨j, j1, j2, j3⟩ := hs.inn i (by omega) h2
      rw [j3, hid j j1 (by omega)]
      omega
  · by_cases e : j < a
    · rw [hs.out i (by omega), hs.out j (by omega)]; exact h.std i j (by omega) h2 e h4
    · exact hst i j (by omega) h2 h3
theorem blk_old {L : Int → Int} {xs : List Int} {s a b n : Nat} (hz : Siz s) (ha : a % (2 * s) = 0) (hb : b ≤ a + 2 * s) (h : Blk L s a n xs) (hbn : b ≤ n) : Std L xs a (min (a + s) b) ∧ Std L xs (a + s) b ∧ Old xs a (a + s) b := by
  refine ⟨fun i j h1 h2 h3 => h.std i j h1 h2 (by omega) ?_, fun i j h1 h2 h3 => h.std i j (by omega) h2 (by omega) ?_, fun i j h1 h2 h3 h4 => ?_⟩
  · rcases hz with rfl | rfl | rfl | rfl <;> omega
  · rcases hz with rfl | rfl | rfl | rfl <;> omega
  · have k1 := h.val i h1 (by omega)
    have k2 := h.val j (by omega) (by omega)
    rcases hz with rfl | rfl | rfl | rfl <;> omega
theorem blk_merge {L : Int → Int} {xs ys : List Int} {s a b n : Nat} (hz : Siz s) (ha : a % (2 * s) = 0) (hb : b = a + 2 * s ∨ (b = n ∧ b ≤ a + 2 * s)) (h0 : Blk L (2 * s) 0 a xs) (h : Blk L s a n xs) (hab : a ≤ b) (hbn : b ≤ n) (hs : Seg a b xs ys) (hst : Std L ys a b) : Blk L (2 * s) 0 b ys ∧ Blk L s b n ys := by
  refine ⟨⟨fun i h1 h2 => ?_, fun i j h1 h2 h3 h4 => ?_⟩, ⟨fun i h1 h2 => ?_, fun i j h1 h2 h3 h4 => ?_⟩⟩
  · by_cases e : i < a
    · rw [hs.out i (by omega)]; exact h0.val i (by omega) e
    · obtain ⟨j, j1, j2, j3⟩ := hs.inn i (by omega) h2
      rw [j3]
      have k := h.val j j1 (by omega)
      refine ⟨k.1, ?_⟩
      have k2 := k.2
      rcases hz with rfl | rfl | rfl | rfl <;> omega
  · by_cases e : j < a
    · rw [hs.out i (by omega), hs.out j (by omega)]; exact h0.std i j (by omega) h2 e h4
    · refine hst i j ?_ h2 h3
      rcases hz with rfl | rfl | rfl | rfl <;> omega
  · rw [hs.out i (by omega)]; exact h.val i (by omega) h2
  · rw [hs.out i (by omega), hs.out j (by omega)]; exact h.std i j (by omega) h2 h3 h4
theorem blk_rest {L : Int → Int} {xs : List Int} {s a n : Nat} (hz : Siz s) (ha : a % (2 * s) = 0) (hn : n ≤ a + s) (h0 : Blk L (2 * s) 0 a xs) (h : Blk L s a n xs) : Blk L (2 * s) 0 n xs := by
  refine ⟨fun i h1 h2 => ?_, fun i j h1 h2 h3 h4 => ?_⟩
  · by_cases e : i < a
    · exact h0.val i (by omega) e
    · have k := h.val i (by omega) h2
      refine ⟨k.1, ?_⟩
      have k2 := k.2
      rcases hz with rfl | rfl | rfl | rfl <;> omega
  · by_cases e : j < a
    · exact h0.std i j (by omega) h2 e h4
    · refine h.std i j ?_ h2 h3 ?_ <;> rcases hz with rfl | rfl | rfl | rfl <;> omega
theorem blk_all {L : Int → Int} {xs : List Int} {s n : Nat} (hn : n ≤ s) (h : Blk L s 0 n xs) : Std L xs 0 n := fun i j h1 h2 h3 => h.std i j h1 h2 h3 (by rw [Nat.div_eq_of_lt (by omega), Nat.div_eq_of_lt (by omega)])
end Sw
end
section
namespace Go.Proofs.YtjnpchoinncbnaaGreat
open Go.RowKit Sw Fam
abbrev DatM (w : World) (b o c : Nat) (xs : List Int) : Prop := GrI w 0 (some ⟨b, o, none⟩) c xs
theorem DatM.cell {w : World} {b o c : Nat} {xs : List Int} (h : DatM w b o c xs) {j : Nat} (hj : j < xs.length) : w.cell? ⟨b, o + j, none⟩ = some (.int .i64 (gi xs j)) := by
  obtain ⟨b', o', e, _, hc⟩ := GrI.cell h hj
  cases e
  exact hc
theorem DatM.free {w : World} {b o c : Nat} {xs : List Int} (h : DatM w b o c xs) (j : Nat) : w.frozen? ⟨b, j, none⟩ = false := by
  obtain ⟨cs, hc⟩ := GrF.block h (b := b) rfl
  simp [World.frozen?, hc]
theorem DatM.lt {w : World} {b o c : Nat} {xs : List Int} (h : DatM w b o c xs) : b < w.heap.size := (GrF.lt h (b := b) rfl).2
theorem enc_get (xs : List Int) (i : Nat) : (xs.flatMap encI)[i]? = (xs[i]?).map (Value.int .i64) := by
  by_cases h : i < xs.length
  · have := flat_get encI_len xs i 0 (by omega) h
    rw [Nat.mul_one, Nat.add_zero] at this
    rw [this]; simp [encI, h]
  · rw [List.getElem?_eq_none (by rw [flat_len encI_len]; omega), List.getElem?_eq_none (by omega)]; rfl
theorem DatM.set {w : World} {b o c : Nat} {xs : List Int} (h : DatM w b o c xs) {j : Nat} (hj : j < xs.length) (v : Int) : DatM (w.setCell ⟨b, o + j, none⟩ (.int .i64 v)) b o c (xs.set j v) := by
  refine ⟨by simpa using h.le, h.cm, fun e => (by cases e), fun a ha => ?_⟩
  obtain ⟨b', o', cs, h1, h2, h3, h4, h5⟩ := h.at_ a ha
  cases ha
  cases h1
  refine ⟨b, o, cs.setIfInBounds (o + j) (.int .i64 v), rfl, h2, heap_setCell_same _ _ _ _ _ _ h3, by simpa using h4, fun i u hi => ?_⟩
  have hlen : o + j < cs.size := by have := h.le; omega
  rw [enc_get, List.getElem?_set] at hi
  rw [Array.getElem?_setIfInBounds]
  by_cases e : j = i
  · subst e
    simp only [if_true, hj] at hi
    simp at hi
    simp [hi, hlen]
  · rw [if_neg e] at hi
    rw [if_neg (by omega)]
    exact h5 i u (by rw [enc_get]; exact hi)
theorem DatM.keep {w w' : World} {b o c : Nat} {xs : List Int} (h : DatM w b o c xs) (hb : Below w.heap.size w w') : DatM w' b o c xs := GrF.keep h hb
theorem DatM.drewN {w : World} {b o c : Nat} {xs : List Int} (h : DatM w b o c xs) (n : Nat) : DatM (w.drewN n) b o c xs := GrF.drewN h n
def Swp (w W : World) (b o c : Nat) (xs : List Int) (p q : Nat) (d1 d2 : Bool) : Prop :=
  Tch [b] W w ∧ ∃ ys, DatM w b o c ys ∧ ys.length = xs.length ∧ gi ys p = (if d1 then gi xs q else gi xs p) ∧ gi ys q = (if d2 then gi xs p else gi xs q) ∧ ∀ j, j ≠ p → j ≠ q → gi ys j = gi xs j
section
variable {w W : World} {b o c : Nat} {xs : List Int} {p q : Nat} {d1 d2 : Bool}
theorem Swp.start (h : DatM W b o c xs) : Swp W.drew W b o c xs p q false false := ⟨Tch.drewN (Tch.refl _ _) 1, xs, DatM.drewN h 1, rfl, by simp, by simp, fun _ _ _ => rfl⟩
theorem Swp.set1 (h : Swp w W b o c xs p q d1 d2) (hp : p < xs.length) (hpq : p ≠ q) : Swp (w.setCell ⟨b, o + p, none⟩ (.int .i64 (gi xs q))) W b o c xs p q true d2 := by
  obtain ⟨h1, ys, h2, h3, h4, h5, h6⟩ := h
  refine ⟨h1.set (.inl (by simp)) _, ys.set p (gi xs q), h2.set (by omega) _, by simpa using h3, ?_, ?_, fun j a b => ?_⟩
  · rw [gi_set _ _ _ _ (by omega)]; simp
  · rw [gi_set _ _ _ _ (by omega), if_neg hpq]; exact h5
  · rw [gi_set _ _ _ _ (by omega), if_neg (fun e => a e.symm)]; exact h6 j a b
theorem Swp.set2 (h : Swp w W b o c xs p q d1 d2) (hq : q < xs.length) (hpq : p ≠ q) : Swp (w.setCell ⟨b, o + q, none⟩ (.int .i64 (gi xs p))) W b o c xs p q d1 true := by
  obtain ⟨h1, ys, h2, h3, h4, h5, h6⟩ := h
  refine ⟨h1.set (.inl (by simp)) _, ys.set q (gi xs p), h2.set (by omega) _, by simpa using h3, ?_, ?_, fun j a b => ?_⟩
  · rw [gi_set _ _ _ _ (by omega), if_neg (fun e => hpq e.symm)]; exact h4
  · rw [gi_set _ _ _ _ (by omega)]; simp
  · rw [gi_set _ _ _ _ (by omega), if_neg (fun e => b e.symm)]; exact h6 j a b
theorem Swp.one (h : Swp w W b o c xs p q false d2) (hp : p < xs.length) : w.cell? ⟨b, o + p, none⟩ = some (.int .i64 (gi xs p)) := by
  obtain ⟨h1, ys, h2, h3, h4, h5, h6⟩ := h
  rw [h2.cell (by omega), h4, if_neg (by simp)]
theorem Swp.two (h : Swp w W b o c xs p q d1 false) (hq : q < xs.length) : w.cell? ⟨b, o + q, none⟩ = some (.int .i64 (gi xs q)) := by
  obtain ⟨h1, ys, h2, h3, h4, h5, h6⟩ := h
  rw [h2.cell (by omega), h5, if_neg (by simp)]
theorem Swp.has (h : Swp w W b o c xs p q d1 d2) {j : Nat} (hj : j < xs.length) : ∃ v, w.cell? ⟨b, o + j, none⟩ = some v := by
  obtain ⟨h1, ys, h2, h3, h4, h5, h6⟩ := h
  exact ⟨_, h2.cell (by omega)⟩
theorem Swp.free (h : Swp w W b o c xs p q d1 d2) (j : Nat) : w.frozen? ⟨b, j, none⟩ = false := by
  obtain ⟨h1, ys, h2, h3, h4, h5, h6⟩ := h
  exact h2.free j
theorem Swp.done (h : Swp w W b o c xs p q true true) (hp : p < xs.length) (hq : q < xs.length) (hpq : p ≠ q) : Tch [b] W w ∧ DatM w b o c (sw xs p q) := by
  obtain ⟨h1, ys, h2, h3, h4, h5, h6⟩ := h
  refine ⟨h1, ?_⟩
  have : ys = sw xs p q := ext_gi (by rw [sw_len]; exact h3) fun i hi => by
    rw [gi_sw hp hq]
    by_cases e1 : i = p
    · subst e1; rw [if_pos rfl, h4, if_pos rfl]
    · by_cases e2 : i = q
      · subst e2; rw [if_neg e1, if_pos rfl, h5, if_pos rfl]
      · rw [if_neg e1, if_neg e2, h6 i e1 e2]
  rw [this] at h2; exact h2
end
def XPost (b o c : Nat) (xs : List Int) (f : Nat → Int) (w : World) (e : Ending) (w' : World) : Prop := (∃ r, e = .returned r) ∧ Tch [b] w w' ∧ ∃ ys, DatM w' b o c ys ∧ ys.Perm xs ∧ ∀ i, gi ys i = f i
theorem swapRange_c {b o c p q k n : Nat} {xs : List Int} (fv : Value) {w : World} (hD : DatM w b o c xs) (hn : xs.length = n) (h1 : p + k ≤ q) (h2 : q + k ≤ n) (hl : n ≤ 100000) :
    Calls Tryz.prog 113 #[.slice (some ⟨b, o, none⟩) n c, .int .i64 p, .int .i64 q, .int .i64 k, fv] w (XPost b o c xs (xch (gi xs) p q k) w) := by
  have HD := Lib.hid hD; clear hD
  have HN := Lib.hid hn; clear hn
  go_enter Tryz.func113, Tryz.ntmps113
  go_wp2_with fail
  go_loopw [10] (fun v10 wr => ∃ (i : Nat) (zs : List Int), v10 = .int .i64 i ∧ i ≤ k ∧ Tch [b] w wr ∧ DatM wr b o c zs ∧ zs.Perm xs ∧ ∀ j, gi zs j = xch (gi xs) p q i j) (fun v10 _ => k - (intOf v10).toNat)
  case atStart => exact ⟨0, xs, rfl, Nat.zero_le _, Tch.refl _ _, HD.out, List.Perm.refl _, fun j => by unfold xch; rw [if_neg (by omega), if_neg (by omega)]⟩
  case round =>
    obtain ⟨i, zs, rfl, hi, hT, hZ, hP, hx⟩ := hrel
    have hzl : zs.length = n := by rw [hP.length_eq, HN.out]
    have H := Lib.hid (And.intro hT (And.intro hZ (And.intro hP (And.intro hx hzl))))
    clear hT hZ hP hx hzl
    by_cases hlt : i < k
    · go_wp2_with fail
      refine region_rel (by kernel_rfl) (by kernel_rfl) (by kernel_rfl) (fun L _ w' => Swp w' wr b o c zs (p + i) (q + i) (L 21) (L 23)) (Swp.start H.out.2.1) ?_
      (repeat (refine relq rfl rfl (fun _ _ _ h => h) (fun K hK => ?_); go_big_quiet_op; (refine hK _ ?_; clear hK K)))
      refine relk_val rfl (.int .i64 (gi zs (q + i))) (fun _ _ _ h => h) (fun V L w' h1 h2 h3 hC => exec_load_int (.tmp 28) rfl ⟨b, o + (q + i), none⟩ rfl (by
        rw [h3.not (j := 23) (by kernel_rfl) h1] at hC
        exact hC.two (by have := H.out.2.2.2.2; omega))) (fun K hK => ?_)
      simp only [Fam.pt]
      refine hK _ ?_
      clear hK K
      (repeat (refine relq rfl rfl (fun _ _ _ h => h) (fun K hK => ?_); go_big_quiet_op; (refine hK _ ?_; clear hK K)))
      refine relk_val rfl (.int .i64 (gi zs (p + i))) (fun _ _ _ h => h) (fun V L w' h1 h2 h3 hC => exec_load_int (.tmp 34) rfl ⟨b, o + (p + i), none⟩ rfl (by
        rw [h3.not (j := 21) (by kernel_rfl) h1] at hC
        exact hC.one (by have := H.out.2.2.2.2; omega))) (fun K hK => ?_)
      simp only [Fam.pt]
      refine hK _ ?_
      clear hK K
      (repeat (refine relq rfl rfl (fun _ _ _ h => h) (fun K hK => ?_); go_big_quiet_op; (refine hK _ ?_; clear hK K)))
      refine relk_do rfl rfl (fun w' => w'.setCell ⟨b, o + (p + i), none⟩ (.int .i64 (gi zs (q + i)))) (fun V L w' h1 h2 h3 hC => ?_) ?_
      · obtain ⟨v, hv⟩ := hC.has (j := p + i) (by have := H.out.2.2.2.2; omega)
        exact ⟨exec_store_int (.tmp 36) (.tmp 29) rfl _ rfl _ rfl hv (hC.free _), hC.set1 (by have := H.out.2.2.2.2; omega) (by omega)⟩
      (repeat (refine relq rfl rfl (fun _ _ _ h => h) (fun K hK => ?_); go_big_quiet_op; (refine hK _ ?_; clear hK K)))
      refine relk_do rfl rfl (fun w' => w'.setCell ⟨b, o + (q + i), none⟩ (.int .i64 (gi zs (p + i)))) (fun V L w' h1 h2 h3 hC => ?_) ?_
      · obtain ⟨v, hv⟩ := hC.has (j := q + i) (by have := H.out.2.2.2.2; omega)
        exact ⟨exec_store_int (.tmp 37) (.tmp 35) rfl _ rfl _ rfl hv (hC.free _), hC.set2 (by have := H.out.2.2.2.2; omega) (by omega)⟩
      (repeat (refine relq rfl rfl (fun _ _ _ h => h) (fun K hK => ?_); go_big_quiet_op; (refine hK _ ?_; clear hK K)))
      refine relk_end (fun L V W2 hL hC => ?_)
      rw [hL 21 (by decide), hL 23 (by decide)] at hC
      clear hL L V
      obtain ⟨r1, r2⟩ := hC.done (by have := H.out.2.2.2.2; omega) (by have := H.out.2.2.2.2; omega) (by omega)
      have R := Lib.hid (And.intro r1 r2); clear r1 r2 hC
      go_wp2_with fail
      go_roundw
      case rel => exact ⟨i + 1, sw zs (p + i) (q + i), by go_num, by omega, H.out.1.trans R.out.1, R.out.2, (sw_perm (by have := H.out.2.2.2.2; omega) (by have := H.out.2.2.2.2; omega)).trans H.out.2.2.1, fun j => by
        rw [gi_sw (by have := H.out.2.2.2.2; omega) (by have := H.out.2.2.2.2; omega), H.out.2.2.2.1, H.out.2.2.2.1, H.out.2.2.2.1]
        unfold xch
        repeat' split
        all_goals first | omega | rfl | (congr 1; omega)⟩
      case measure => simp [intOf]; omega
    · have : i = k := by omega
      subst this
      go_wp2_with fail
      go_end0
      exact ⟨⟨_, rfl⟩, H.out.1, zs, H.out.2.1, H.out.2.2.1, H.out.2.2.2.1⟩
theorem rotate_c {b o c a m e n : Nat} {xs : List Int} (fv : Value) {w : World} (hD : DatM w b o c xs) (hn : xs.length = n) (h1 : a < m) (h2 : m < e) (h3 : e ≤ n) (hl : n ≤ 100000) :
    Calls Tryz.prog 104 #[.slice (some ⟨b, o, none⟩) n c, .int .i64 a, .int .i64 m, .int .i64 e, fv] w (XPost b o c xs (rot (gi xs) a m e) w) := by
  have HD := Lib.hid hD; clear hD
  have HN := Lib.hid hn; clear hn
  go_enter Tryz.func104, Tryz.ntmps104
  go_wp2_with fail
  go_loopw [10, 11] (fun v10 v11 wr => ∃ (i j : Nat) (zs : List Int), v10 = .int .i64 i ∧ v11 = .int .i64 j ∧ 0 < i ∧ 0 < j ∧ i ≤ m ∧ m + j ≤ n ∧ Tch [b] w wr ∧ DatM wr b o c zs ∧ zs.Perm xs ∧ ∀ k, rot (gi zs) (m - i) m (m + j) k = rot (gi xs) a m e k) (fun v10 v11 _ => (intOf v10).toNat + (intOf v11).toNat)
  case atStart => exact ⟨m - a, e - m, xs, by congr 1; omega, by congr 1; omega, by omega, by omega, by omega, by omega, Tch.refl _ _, HD.out, List.Perm.refl _, fun k => by rw [show m - (m - a) = a by omega, show m + (e - m) = e by omega]⟩
  case round =>
    obtain ⟨i, j, zs, rfl, rfl, hi, hj, him, hjn, hT, hZ, hP, hx⟩ := hrel
    have hzl : zs.length = n := by rw [hP.length_eq, HN.out]
    have H := Lib.hid (And.intro hT (And.intro hZ (And.intro hP (And.intro hx hzl))))
    clear hT hZ hP hx hzl
    rcases Nat.lt_trichotomy i j with hlt | heq | hgt
    · have hne : ((i : Int) != (j : Int)) = true := by simp; omega
      have e1 : ((m : Int) - i) = ((m - i : Nat) : Int) := by omega
      have e2 : ((m : Int) + j - i) = ((m + j - i : Nat) : Int) := by omega
      have HC := Lib.hid (swapRange_c fv H.out.2.1 H.out.2.2.2.2 (p := m - i) (q := m + j - i) (k := i) (by omega) (by omega) hl)
      rw [← e1, ← e2] at HC
      clear e1 e2
      go_wp2_with fail
      refine HC.out.mono ?_
      rintro r W2 ⟨⟨r, rfl⟩, hT2, ys, hY, hP2, hx2⟩
      have R := Lib.hid (And.intro hT2 (And.intro hY (And.intro hP2 hx2))); clear hT2 hY hP2 hx2 HC
      go_wp2_with fail
      go_roundw
      case rel => exact ⟨i, j - i, ys, rfl, by congr 1; omega, hi, by omega, him, by omega, H.out.1.trans R.out.1, R.out.2.1, R.out.2.2.1.trans H.out.2.2.1, fun k => by
        rw [← H.out.2.2.2.1, ← rot_lt (gi zs) him hlt hi]
        congr 1
        funext k
        exact R.out.2.2.2 k⟩
      case measure => simp [intOf]; omega
    · subst heq
      have hne : ((i : Int) != (i : Int)) = false := by simp
      have e1 : ((m : Int) - i) = ((m - i : Nat) : Int) := by omega
      have HC := Lib.hid (swapRange_c fv H.out.2.1 H.out.2.2.2.2 (p := m - i) (q := m) (k := i) (by omega) (by omega) hl)
      rw [← e1] at HC
      clear e1
      go_wp2_with fail
      refine HC.out.mono ?_
      rintro r W2 ⟨⟨r, rfl⟩, hT2, ys, hY, hP2, hx2⟩
      have R := Lib.hid (And.intro hT2 (And.intro hY (And.intro hP2 hx2))); clear hT2 hY hP2 hx2 HC
      go_wp2_with fail
      go_end0
      exact ⟨⟨_, rfl⟩, H.out.1.trans R.out.1, ys, R.out.2.1, R.out.2.2.1.trans H.out.2.2.1, fun k => by rw [R.out.2.2.2, ← H.out.2.2.2.1, rot_eq (gi zs) him]⟩
    · have hne : ((i : Int) != (j : Int)) = true := by simp; omega
      have e1 : ((m : Int) - i) = ((m - i : Nat) : Int) := by omega
      have HC := Lib.hid (swapRange_c fv H.out.2.1 H.out.2.2.2.2 (p := m - i) (q := m) (k := j) (by omega) (by omega) hl)
      rw [← e1] at HC
      clear e1
      go_wp2_with fail
      refine HC.out.mono ?_
      rintro r W2 ⟨⟨r, rfl⟩, hT2, ys, hY, hP2, hx2⟩
      have R := Lib.hid (And.intro hT2 (And.intro hY (And.intro hP2 hx2))); clear hT2 hY hP2 hx2 HC
      go_wp2_with fail
      go_roundw
      case rel => exact ⟨i - j, j, ys, by congr 1; omega, rfl, by omega, hj, by omega, hjn, H.out.1.trans R.out.1, R.out.2.1, R.out.2.2.1.trans H.out.2.2.1, fun k => by
        rw [← H.out.2.2.2.1, ← rot_gt (gi zs) him hgt hj]
        congr 1
        funext k
        exact R.out.2.2.2 k⟩
      case measure => simp [intOf]; omega
end Go.Proofs.YtjnpchoinncbnaaGreat
end
