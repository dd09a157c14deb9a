/- Proves parts of the statement, each under the conditions that its theorem states: The reference's Length; The reference's Lightest, in plain words: the next one is chosen; The reference's Lightest: a pair is looked at; The reference's Lightest: the least of those that are left. -/
import Derived.Test.YtjnpchoinncbnaaGreatP31
set_option linter.unusedSimpArgs false
set_option linter.unusedVariables false
set_option maxHeartbeats 4000000
set_option maxRecDepth 100000
section
namespace Go.Proofs.YtjnpchoinncbnaaGreat
open Go.RowKit Sw Fam
theorem rangeAt3 {w : World} {b o : Nat} {x y z : Value} (h0 : w.cell? ⟨b, o, none⟩ = some x) (h1 : w.cell? ⟨b, o + 1, none⟩ = some y) (h2 : w.cell? ⟨b, o + 2, none⟩ = some z) : w.rangeAt b o [x, y, z] := fun j v hj => by
  match j, hj with
  | 0, hj => rw [Nat.add_zero, h0]; simpa using hj
  | 1, hj => rw [h1]; simpa using hj
  | 2, hj => rw [h2]; simpa using hj
  | j + 3, hj => simp at hj
theorem rlen_tail {A B : Nat} {v5 v6 : Value} (h5 : v5 = .pointer (some ⟨A, 0, none⟩)) (h6 : v6 = .pointer (some ⟨B, 0, none⟩)) {df ds bf bs z : Int} {w0 w : World} {u0 u1 u2 u3 u4 u7 u8 u9 u10 u11 u12 u13 u14 u15 u16 u17 u18 u19 u20 u21 u22 u23 u24 u25 u26 u27 u28 u29 u30 u31 u32 u33 u34 u35 u36 u37 u38 u39 : Value} (hd : 0 ≤ df ∧ df ≤ 100000 ∧ 0 ≤ ds ∧ ds ≤ 100000 ∧ -100000 ≤ bf ∧ bf ≤ 100000 ∧ -100000 ≤ bs ∧ bs ≤ 100000) (hz : z = ab (df - ds) + ab (bf - bs)) (hB : Below w0.heap.size w0 w)
    (a1 : w.cell? ⟨A, 1, none⟩ = some (.int .i64 df)) (a2 : w.cell? ⟨A, 2, none⟩ = some (.int .i64 bf)) (e1 : w.cell? ⟨B, 1, none⟩ = some (.int .i64 ds)) (e2 : w.cell? ⟨B, 2, none⟩ = some (.int .i64 bs)) :
    Code.wp Tryz.prog (Tryz.f57.sub [1, 1]) (bodyPost Tryz.prog Tryz.f57 (fun e w' => e = .returned (.int .i64 z) ∧ Below w0.heap.size w0 w')) ⟨#[u0, u1, u2, u3, u4, v5, v6, u7, u8, u9, u10, u11, u12, u13, u14, u15, u16, u17, u18, u19, u20, u21, u22, u23, u24, u25, u26, u27, u28, u29, u30, u31, u32, u33, u34, u35, u36, u37, u38, u39], []⟩ w := by
  subst h5 h6
  conv => arg 2; whnf
  obtain ⟨d1, d2, d3, d4, d5, d6, d7, d8⟩ := hd
  have k0 : 0 ≤ ab (df - ds) ∧ ab (df - ds) ≤ 100000 := by unfold ab; omega
  have k1 : 0 ≤ ab (bf - bs) ∧ ab (bf - bs) ≤ 200000 := by unfold ab; omega
  have K0 := bsize_c (df - ds) (by omega)
  have K1 := bsize_c (bf - bs) (by omega)
  generalize ab (df - ds) = X at *
  generalize ab (bf - bs) = Y at *
  have HK0 := Lib.hid K0; clear K0
  have HK1 := Lib.hid K1; clear K1
  have HZ := Lib.hid hz; clear hz
  have HB := Lib.hid hB; clear hB
  obtain ⟨x1, x2⟩ := k0
  obtain ⟨y1, y2⟩ := k1
  have j1 : IntKind.i64.wrap (df - ds) = df - ds := IntWalk.i64_in _ (by omega)
  have j2 : IntKind.i64.wrap (bf - bs) = bf - bs := IntWalk.i64_in _ (by omega)
  have j3 : IntKind.i64.wrap (X + Y) = X + Y := IntWalk.i64_in _ (by omega)
  go_wp2_with fail
  go_quiet ((go_at_call 23; exact Calls.quiet_of_same (by first | (refine (HK0.out _).mono ?_; rintro e w' ⟨rfl, rfl⟩; exact ⟨rfl, rfl⟩) | (refine (HK1.out _).mono ?_; rintro e w' ⟨rfl, rfl⟩; exact ⟨rfl, rfl⟩))))
  go_wp2_with fail
  go_ret
  exact ⟨ret_i HZ.out.symm, below_drewN HB.out _⟩
theorem rlength_c {t : Sk} {l : SkL} {w : World} (hM : NetM w t l) (ho : NetOk t) {i : Nat} (hi : i < t.pr.length) : Calls Tryz.prog 57 #[NetV t l, .int .i64 i] w fun e w' => e = .returned (.int .i64 (lenP t i)) ∧ Below w.heap.size w w' := by
  have h60 := ho.n_le
  have h200 := ho.m_le
  obtain ⟨pb, po, hPe, p0, p1⟩ := (hM.rdq ho) i (by rw [prs_len]; exact hi)
  obtain ⟨q1, q2, q3⟩ := prs_lt ho hi
  obtain ⟨f, hf⟩ : ∃ f, (gq (prs t) i).f = f := ⟨_, rfl⟩
  obtain ⟨s, hs⟩ : ∃ s, (gq (prs t) i).s = s := ⟨_, rfl⟩
  rw [hf] at p0 q1
  rw [hs] at p1 q2
  obtain ⟨sb, so, hSe, f0, f1, f2, _⟩ := hM.sc f q1
  obtain ⟨sb', so', hSe', s0, s1, s2, _⟩ := hM.sc s q2
  rw [hSe] at hSe'
  injection hSe' with hSe'; injection hSe' with e1 e2
  subst e1 e2
  have hz : lenP t i = ab ((gsc t.sc f).day - (gsc t.sc s).day) + ab ((gsc t.sc f).bl - (gsc t.sc s).bl) := by unfold lenP; rw [Int.toNat_natCast, hf, hs]
  have bd := And.intro (ho.day f q1) (And.intro (ho.day s q2) (And.intro (ho.bl f q1) (ho.bl s q2)))
  have HZ := Lib.hid (And.intro hz bd); clear hz bd
  have hil : (i : Int) < t.pr.length := by omega
  have hfl : (f : Int) < t.sc.length := by omega
  have hsl : (s : Int) < t.sc.length := by omega
  generalize gsc t.sc f = X at *
  generalize gsc t.sc s = Y at *
  unfold NetV
  rw [hPe, hSe]
  clear hPe hSe hM ho hf hs q3
  obtain ⟨z, hzz⟩ : ∃ z, lenP t i = z := ⟨_, rfl⟩
  rw [hzz] at HZ ⊢
  clear hzz
  go_enter Tryz.func57, Tryz.ntmps57
  show Code.wp Tryz.prog (.seq (Tryz.f57.sub [0]) (.seq (Tryz.f57.sub [1, 0]) (Tryz.f57.sub [1, 1]))) _ _ _
  refine wp_seq ?_
  conv => arg 2; whnf
  go_wp2_with fail
  refine nameC ?_
  intro W1 hW1
  obtain ⟨hB1, e1⟩ := alloc1 w _ hW1
  clear hW1
  obtain ⟨G, hG⟩ : ∃ G, w.heap.size = G := ⟨_, rfl⟩
  rw [hG] at e1
  rw [hG]
  have g0 : W1.cell? ⟨G, 0, none⟩ = some (.slice (some ⟨sb, so, none⟩) t.sc.length l.cs) := block_cell e1 (j := 0) (by simp)
  have g1 : W1.cell? ⟨G, 1, none⟩ = some (.slice (some ⟨pb, po, none⟩) t.pr.length l.cp) := block_cell e1 (j := 1) (by simp)
  have p0' := cell_keep hB1 p0
  have p1' := cell_keep hB1 p1
  have f0' := cell_keep hB1 f0
  have f1' := cell_keep hB1 f1
  have f2' := cell_keep hB1 f2
  have s0' := cell_keep hB1 s0
  have s1' := cell_keep hB1 s1
  have s2' := cell_keep hB1 s2
  have HB := Lib.hid hB1
  clear e1 hB1 hG p0 p1 f0 f1 f2 s0 s1 s2
  rename_i K5 hK5 _
  conv => arg 2; whnf
  refine region_rel (by kernel_rfl) (by kernel_rfl) (by kernel_rfl) (LnC W1 #[.string X.nm, .int .i64 X.day, .int .i64 X.bl] #[.string Y.nm, .int .i64 Y.day, .int .i64 Y.bl]) ⟨below_drewN (Below.refl _ _) 1, fun h => (by cases h), fun h => (by cases h), fun h => (by cases h)⟩ ?_
  (refine rel_val rfl (.pointer (some ⟨G, 0, none⟩)) (fun _ _ _ h => LnC.up (by decide) (by decide) (by decide) (by decide) h) (fun V L w _ _ _ hC => by unfold execOp; go_simp) ?_; simp only [Fam.pt])
  (refine rel_val rfl _ (fun _ _ _ h => LnC.up (by decide) (by decide) (by decide) (by decide) h) (fun V L w _ _ _ hC => ex_load1 _ _ rfl _ rfl (cellB hC.bel g0) _ Tryz.underlying22 rfl) ?_; simp only [Fam.pt])
  (refine rel_val rfl (.pointer (some ⟨G, 1, none⟩)) (fun _ _ _ h => LnC.up (by decide) (by decide) (by decide) (by decide) h) (fun V L w _ _ _ hC => by unfold execOp; go_simp) ?_; simp only [Fam.pt])
  (refine rel_val rfl _ (fun _ _ _ h => LnC.up (by decide) (by decide) (by decide) (by decide) h) (fun V L w _ _ _ hC => ex_load1 _ _ rfl _ rfl (cellB hC.bel g1) _ Tryz.underlying23 rfl) ?_; simp only [Fam.pt])
  (refine rel_val rfl (.int .i64 i) (fun _ _ _ h => LnC.up (by decide) (by decide) (by decide) (by decide) h) (fun V L w _ _ _ hC => by unfold execOp; go_simp) ?_; simp only [Fam.pt])
  (refine rel_val rfl (.pointer (some ⟨pb, po + i * 2, none⟩)) (fun _ _ _ h => LnC.up (by decide) (by decide) (by decide) (by decide) h) (fun V L w _ _ _ hC => by unfold execOp; go_simp) ?_; simp only [Fam.pt])
  (refine rel_val rfl (.pointer (some ⟨pb, po + i * 2, none⟩)) (fun _ _ _ h => LnC.up (by decide) (by decide) (by decide) (by decide) h) (fun V L w _ _ _ hC => by unfold execOp; go_simp) ?_; simp only [Fam.pt])
  (refine rel_val rfl _ (fun _ _ _ h => LnC.up (by decide) (by decide) (by decide) (by decide) h) (fun V L w _ _ _ hC => ex_load1 _ _ rfl _ rfl (cellB hC.bel p0') _ Tryz.underlying3 rfl) ?_; simp only [Fam.pt])
  (refine rel_val rfl (.pointer (some ⟨sb, so + f * 3, none⟩)) (fun _ _ _ h => LnC.up (by decide) (by decide) (by decide) (by decide) h) (fun V L w _ _ _ hC => by unfold execOp; go_simp) ?_; simp only [Fam.pt])
  refine rel_val rfl (.agg #[.string X.nm, .int .i64 X.day, .int .i64 X.bl]) (fun _ _ _ h => LnC.up (by decide) (by decide) (by decide) (by decide) h) (fun V L w _ _ _ hC => ex_loadN 84 _ rfl sb (so + f * 3) rfl [.string X.nm, .int .i64 X.day, .int .i64 X.bl] _ (rangeAt3 (cellB hC.bel f0') (cellB hC.bel f1') (cellB hC.bel f2')) Tryz.underlying84 rfl (by kernel_rfl)) ?_
  simp only [Fam.pt]
  (refine rel_val rfl (.pointer (some ⟨G, 0, none⟩)) (fun _ _ _ h => LnC.up (by decide) (by decide) (by decide) (by decide) h) (fun V L w _ _ _ hC => by unfold execOp; go_simp) ?_; simp only [Fam.pt])
  (refine rel_val rfl _ (fun _ _ _ h => LnC.up (by decide) (by decide) (by decide) (by decide) h) (fun V L w _ _ _ hC => ex_load1 _ _ rfl _ rfl (cellB hC.bel g0) _ Tryz.underlying22 rfl) ?_; simp only [Fam.pt])
  (refine rel_val rfl (.pointer (some ⟨G, 1, none⟩)) (fun _ _ _ h => LnC.up (by decide) (by decide) (by decide) (by decide) h) (fun V L w _ _ _ hC => by unfold execOp; go_simp) ?_; simp only [Fam.pt])
  (refine rel_val rfl _ (fun _ _ _ h => LnC.up (by decide) (by decide) (by decide) (by decide) h) (fun V L w _ _ _ hC => ex_load1 _ _ rfl _ rfl (cellB hC.bel g1) _ Tryz.underlying23 rfl) ?_; simp only [Fam.pt])
  (refine rel_val rfl (.int .i64 i) (fun _ _ _ h => LnC.up (by decide) (by decide) (by decide) (by decide) h) (fun V L w _ _ _ hC => by unfold execOp; go_simp) ?_; simp only [Fam.pt])
  (refine rel_val rfl (.pointer (some ⟨pb, po + i * 2, none⟩)) (fun _ _ _ h => LnC.up (by decide) (by decide) (by decide) (by decide) h) (fun V L w _ _ _ hC => by unfold execOp; go_simp) ?_; simp only [Fam.pt])
  (refine rel_val rfl (.pointer (some ⟨pb, po + i * 2 + 1, none⟩)) (fun _ _ _ h => LnC.up (by decide) (by decide) (by decide) (by decide) h) (fun V L w _ _ _ hC => by unfold execOp; go_simp) ?_; simp only [Fam.pt])
  (refine rel_val rfl _ (fun _ _ _ h => LnC.up (by decide) (by decide) (by decide) (by decide) h) (fun V L w _ _ _ hC => ex_load1 _ _ rfl _ rfl (cellB hC.bel p1') _ Tryz.underlying3 rfl) ?_; simp only [Fam.pt])
  (refine rel_val rfl (.pointer (some ⟨sb, so + s * 3, none⟩)) (fun _ _ _ h => LnC.up (by decide) (by decide) (by decide) (by decide) h) (fun V L w _ _ _ hC => by unfold execOp; go_simp) ?_; simp only [Fam.pt])
  refine rel_val rfl (.agg #[.string Y.nm, .int .i64 Y.day, .int .i64 Y.bl]) (fun _ _ _ h => LnC.up (by decide) (by decide) (by decide) (by decide) h) (fun V L w _ _ _ hC => ex_loadN 84 _ rfl sb (so + s * 3) rfl [.string Y.nm, .int .i64 Y.day, .int .i64 Y.bl] _ (rangeAt3 (cellB hC.bel s0') (cellB hC.bel s1') (cellB hC.bel s2')) Tryz.underlying84 rfl (by kernel_rfl)) ?_
  simp only [Fam.pt]
  refine rel_free rfl (fun V L w hL hw hc hC => ?_) ?_
  · rw [ex_alloc 84 rfl (z := .agg zSc) (by kernel_rfl)]
    exact hC.mk20 (hc.not (by kernel_rfl) hL)
  simp only [Fam.pt]
  refine rel_free rfl (fun V L w hL hw hc hC => ?_) ?_
  · rw [ex_alloc 84 rfl (z := .agg zSc) (by kernel_rfl)]
    exact hC.mk21 (hc.not (by kernel_rfl) hL)
  simp only [Fam.pt]
  refine rel_fix rfl undef (fun V L w hL hw hc hC => ?_) ?_
  · have w20 : L 20 = true := waits_at hw (by kernel_rfl)
    obtain ⟨b, e1, e2, e3⟩ := hC.a w20
    rw [ex_storeN 84 (.tmp 5) (.tmp 16) rfl b 0 #[.string X.nm, .int .i64 X.day, .int .i64 X.bl] e1 rfl (block_there e3 (by rw [hL]; exact Nat.le_refl 3)) (by kernel_rfl) (by simp [Value.oneCell'])]
    exact ⟨rfl, hC.st22 hL w20 b e1⟩
  simp only [Act.put]
  refine rel_fix rfl undef (fun V L w hL hw hc hC => ?_) ?_
  · have w21 : L 21 = true := waits_at hw (by kernel_rfl)
    obtain ⟨b, e1, e2, e3⟩ := hC.b w21
    rw [ex_storeN 84 (.tmp 6) (.tmp 26) rfl b 0 #[.string Y.nm, .int .i64 Y.day, .int .i64 Y.bl] e1 rfl (block_there e3 (by rw [hL]; exact Nat.le_refl 3)) (by kernel_rfl) (by simp [Value.oneCell'])]
    exact ⟨rfl, hC.st23 hL w21 b e1⟩
  simp only [Act.put]
  intro V L w' hL hC
  obtain ⟨b1, a1, a2, a3⟩ := hC.a (hL 20 (by decide))
  obtain ⟨b2, c1, c2, c3⟩ := hC.b (hL 21 (by decide))
  rw [if_pos (hL 22 (by decide))] at a3
  rw [if_pos (hL 23 (by decide))] at c3
  obtain ⟨hz, ⟨d1, d2⟩, ⟨d3, d4⟩, ⟨d5, d6⟩, d7, d8⟩ := HZ.out
  refine hK5 _ _ ?_
  exact rlen_tail a1 c1 ⟨d1, d2, d3, d4, d5, d6, d7, d8⟩ hz (HB.out.trans (hC.bel.mono HB.out.size)) (block_cell a3 (j := 1) (by simp)) (block_cell a3 (j := 2) (by simp)) (block_cell c3 (j := 1) (by simp)) (block_cell c3 (j := 2) (by simp))
structure Sel (L : Int → Int) (m : Nat) (zs : List Int) (dn : List Bool) : Prop where
  len : dn.length = m
  lt : ∀ i, i ∈ zs → 0 ≤ i ∧ i < m
  nd : zs.Nodup
  dn : ∀ i : Nat, i < m → (gb dn i = true ↔ (i : Int) ∈ zs)
  so : zs.Pairwise (lx L)
  up : ∀ i j : Int, i ∈ zs → 0 ≤ j → j < m → j ∉ zs → lx L i j
def Bst (L : Int → Int) (m : Nat) (zs : List Int) (i : Nat) (b : Int) : Prop := (b = -1 ∧ ∀ j : Int, 0 ≤ j → j < i → j ∈ zs) ∨ (0 ≤ b ∧ b < i ∧ b ∉ zs ∧ ∀ j : Int, 0 ≤ j → j < i → j ∉ zs → j ≠ b → lx L b j)
section
variable {L : Int → Int} {m : Nat} {zs : List Int} {dn : List Bool}
theorem Sel.start (L : Int → Int) (m : Nat) : Sel L m [] (List.replicate m false) :=
  ⟨by simp, by simp, List.nodup_nil, fun i hi => by simp [gb, hi], List.Pairwise.nil, by simp⟩
theorem Bst.start : Bst L m zs 0 (-1) := .inl ⟨rfl, fun j h1 h2 => by omega⟩
theorem Bst.skip {i : Nat} {b : Int} (h : Bst L m zs i b) (hz : (i : Int) ∈ zs) : Bst L m zs (i + 1) b := by
  rcases h with ⟨h1, h2⟩ | ⟨h1, h2, h3, h4⟩
  · refine .inl ⟨h1, fun j j0 j1 => ?_⟩
    by_cases e : j = i
    · rw [e]; exact hz
    · exact h2 j j0 (by omega)
  · refine .inr ⟨h1, by omega, h3, fun j j0 j1 j2 j3 => ?_⟩
    by_cases e : j = i
    · rw [e] at j2; exact absurd hz j2
    · exact h4 j j0 (by omega) j2 j3
theorem Bst.take {i : Nat} {b : Int} (h : Bst L m zs i b) (hz : (i : Int) ∉ zs) (hb : b < 0 ∨ L i < L b) : Bst L m zs (i + 1) i := by
  refine .inr ⟨Int.natCast_nonneg i, by omega, hz, fun j j0 j1 j2 j3 => ?_⟩
  rcases h with ⟨h1, h2⟩ | ⟨h1, h2, h3, h4⟩
  · exact absurd (h2 j j0 (by omega)) j2
  · have hL : L i < L b := by rcases hb with hb | hb; omega; exact hb
    by_cases e : j = b
    · rw [e]; exact .inl hL
    · have := h4 j j0 (by omega) j2 e
      exact lx_trans (.inl hL) this
theorem Bst.keep {i : Nat} {b : Int} (h : Bst L m zs i b) (h0 : 0 ≤ b) (hb : ¬ L i < L b) : Bst L m zs (i + 1) b := by
  rcases h with ⟨h1, h2⟩ | ⟨h1, h2, h3, h4⟩
  · omega
  · refine .inr ⟨h1, by omega, h3, fun j j0 j1 j2 j3 => ?_⟩
    by_cases e : j = i
    · rw [e]
      rcases Int.lt_trichotomy (L b) (L i) with h | h | h
      · exact .inl h
      · exact .inr ⟨h, by omega⟩
      · exact absurd h hb
    · exact h4 j j0 (by omega) j2 j3
theorem Bst.there {b : Int} (h : Bst L m zs m b) (hs : Sel L m zs dn) (hl : zs.length < m) : 0 ≤ b ∧ b < m ∧ b ∉ zs := by
  rcases h with ⟨h1, h2⟩ | ⟨h1, h2, h3, _⟩
  · exfalso
    have hsub : ∀ x, x ∈ rng m → x ∈ zs := fun x hx => by
      have := mem_rng.1 hx
      exact h2 x this.1 this.2
    have hnd : (rng m).Nodup := by
      unfold rng
      exact List.Pairwise.map Int.ofNat (fun a b h e => h (Int.ofNat.inj e)) List.nodup_range
    have := hnd.length_le_of_subset hsub
    rw [rng_len] at this
    omega
  · exact ⟨h1, h2, h3⟩
theorem Sel.add {b : Int} (hs : Sel L m zs dn) (h : Bst L m zs m b) (hl : zs.length < m) : Sel L m (zs ++ [b]) (dn.set b.toNat true) := by
  obtain ⟨b0, b1, b2⟩ := h.there hs hl
  refine ⟨by rw [List.length_set]; exact hs.len, fun i hi => ?_, ?_, fun i hi => ?_, ?_, fun i j hi j0 j1 hj => ?_⟩
  · rw [List.mem_append, List.mem_singleton] at hi
    rcases hi with hi | rfl
    · exact hs.lt i hi
    · exact ⟨b0, b1⟩
  · rw [List.nodup_append]
    refine ⟨hs.nd, by simp, fun x hx y hy => ?_⟩
    rw [List.mem_singleton] at hy
    subst hy
    exact fun e => b2 (e ▸ hx)
  · rw [gb_put _ _ _ (by rw [hs.len]; omega), List.mem_append, List.mem_singleton]
    by_cases e : b.toNat = i
    · rw [if_pos e]; simp; right; omega
    · rw [if_neg e, hs.dn i hi]
      constructor
      · exact .inl
      · rintro (h | h)
        · exact h
        · omega
  · rw [List.pairwise_append]
    refine ⟨hs.so, by simp, fun x hx y hy => ?_⟩
    rw [List.mem_singleton] at hy
    subst hy
    exact hs.up x y hx b0 b1 b2
  · rw [List.mem_append, List.mem_singleton] at hi
    rw [List.mem_append, List.mem_singleton, not_or] at hj
    rcases hi with hi | rfl
    · exact hs.up i j hi j0 j1 hj.1
    · rcases h with ⟨h1, _⟩ | ⟨_, _, _, h4⟩
      · omega
      · exact h4 j j0 j1 hj.1 hj.2
theorem Sel.full (hs : Sel L m zs dn) (hl : zs.length = m) : zs.Perm (rng m) ∧ Std L zs 0 m := by
  have hnd : (rng m).Nodup := by
    unfold rng
    exact List.Pairwise.map Int.ofNat (fun a b h e => h (Int.ofNat.inj e)) List.nodup_range
  have hsub : zs ⊆ rng m := fun x hx => mem_rng.2 (hs.lt x hx)
  refine ⟨?_, fun i j h1 h2 h3 => ?_⟩
  · refine (List.perm_ext_iff_of_nodup hs.nd hnd).2 fun x => ⟨fun hx => hsub hx, fun hx => ?_⟩
    apply Classical.byContradiction
    intro hx2
    have h2 : (zs ++ [x]).Nodup := by
      rw [List.nodup_append]
      refine ⟨hs.nd, by simp, fun y hy z hz => ?_⟩
      rw [List.mem_singleton] at hz
      subst hz
      exact fun e => hx2 (e ▸ hy)
    have h3 : (zs ++ [x]) ⊆ rng m := fun y hy => by
      rw [List.mem_append, List.mem_singleton] at hy
      rcases hy with hy | rfl
      · exact hsub hy
      · exact hx
    have := h2.length_le_of_subset h3
    rw [rng_len, List.length_append, List.length_singleton] at this
    omega
  · have := List.pairwise_iff_getElem.1 hs.so i j (by omega) (by omega) h2
    simpa [gi, show i < zs.length by omega, show j < zs.length by omega] using this
end
theorem li_test {t : Sk} {l : SkL} {G db i : Nat} {best : Int} {dn : List Bool} {v4 v5 v18 v19 : Value} {r : Bool} {W : World} {Q : Exit → Act → World → Prop} {u0 u2 u3 u9 u10 u11 u12 u13 u14 u15 u16 u17 u20 u21 u22 u23 u24 u25 u26 u27 u28 u29 u30 u31 u32 u33 u34 u35 u36 u37 u38 u39 u40 u41 u42 u43 u44 u45 u46 u47 u48 u49 u50 u51 u52 u53 u54 u55 u56 u57 u58 u59 u60 u61 u62 u63 u64 u65 u66 u67 u68 u69 u70 u71 u72 u73 u74 u75 u76 u77 u78 u79 u80 u81 u82 u83 u84 u85 u86 u87 u88 u89 u90 u91 u92 u93 u94 u95 u96 u97 : Value}
    (hM : NetM W t l) (ho : NetOk t) (hG : W.heap[G]? = some (.cells #[.slice l.S t.sc.length l.cs, .slice l.P t.pr.length l.cp] 25 (0, 0))) (hD : BoolB W db dn) (hdl : dn.length = t.pr.length) (hi : i < t.pr.length) (hb : best = -1 ∨ (0 ≤ best ∧ best < t.pr.length))
    (hr : r = true ↔ (gb dn i = false ∧ (best < 0 ∨ lenP t i < lenP t best)))
    (hQ : ∀ a w', Below W.heap.size W w' → Fr 98 [(1, .pointer (some ⟨G, 0, none⟩)), (4, v4), (5, v5), (6, .slice (some ⟨db, 0, none⟩) t.pr.length t.pr.length), (7, .int .i64 best), (8, .int .i64 i), (18, v18), (19, v19), (45, .bool r)] a → Q .normal a w') :
    Code.wp Tryz.prog (Tryz.f35.sub [1, 1, 1, 1, 0, 1, 0, 0, 1, 1, 0, 0, 1, 0, 1, 0, 0, 1, 0, 0, 0]) Q ⟨#[u0, .pointer (some ⟨G, 0, none⟩), u2, u3, v4, v5, .slice (some ⟨db, 0, none⟩) t.pr.length t.pr.length, .int .i64 best, .int .i64 i, u9, u10, u11, u12, u13, u14, u15, u16, u17, v18, v19, u20, u21, u22, u23, u24, u25, u26, u27, u28, u29, u30, u31, u32, u33, u34, u35, u36, u37, u38, u39, u40, u41, u42, u43, u44, u45, u46, u47, u48, u49, u50, u51, u52, u53, u54, u55, u56, u57, u58, u59, u60, u61, u62, u63, u64, u65, u66, u67, u68, u69, u70, u71, u72, u73, u74, u75, u76, u77, u78, u79, u80, u81, u82, u83, u84, u85, u86, u87, u88, u89, u90, u91, u92, u93, u94, u95, u96, u97], []⟩ W := by
  have HQ := Lib.hid hQ; clear hQ
  have h200 := ho.m_le
  have hil : (i : Int) < t.pr.length := by omega
  have dc := hD.cell (j := i) (by rw [hdl]; exact hi)
  have g0 : W.cell? ⟨G, 0, none⟩ = some (.slice l.S t.sc.length l.cs) := block_cell hG (j := 0) (by simp)
  have g1 : W.cell? ⟨G, 1, none⟩ = some (.slice l.P t.pr.length l.cp) := block_cell hG (j := 1) (by simp)
  have hbd := fun x h0 h1 => lenP_bd ho (i := x) h0 h1
  have HM := Lib.hid (And.intro hM (And.intro ho (And.intro hbd hG))); clear hM ho hbd hG hD hdl
  conv => arg 2; whnf
  dsimp only
  obtain ⟨d, hd⟩ : ∃ d, gb dn i = d := ⟨_, rfl⟩
  rw [hd] at hr dc
  clear hd
  cases d with
  | true =>
    have hrf : r = false := by simpa using hr
    subst hrf
    clear hr
    refine region_rel (by kernel_rfl) (by kernel_rfl) (by kernel_rfl) (fun _ _ w' => Below W.heap.size W w') ((Below.refl _ _).drew) ?_
    (repeat (refine relq rfl rfl (fun _ _ _ h => h) (fun K hK => ?_); go_big_quiet_op; (refine hK _ ?_; clear hK K)))
    (refine relk_val rfl _ (fun _ _ _ h => h) (fun V L w' h1 h2 h3 hC => ex_load1 _ _ rfl _ rfl (cellB hC dc) _ Tryz.underlying4 rfl) (fun K hK => ?_); simp only [Fam.pt]; (refine hK _ ?_; clear hK K))
    (repeat (refine relq rfl rfl (fun _ _ _ h => h) (fun K hK => ?_); go_big_quiet_op; (refine hK _ ?_; clear hK K)))
    (refine relg_skip rfl (fun _ _ _ h => h) (fun K hK => ?_); simp only [Fam.pt]; (refine hK _ ?_; clear hK K)); (refine relg_skip rfl (fun _ _ _ h => h) (fun K hK => ?_); simp only [Fam.pt]; (refine hK _ ?_; clear hK K)); (refine relg_skip rfl (fun _ _ _ h => h) (fun K hK => ?_); simp only [Fam.pt]; (refine hK _ ?_; clear hK K)); (refine relg_skip rfl (fun _ _ _ h => h) (fun K hK => ?_); simp only [Fam.pt]; (refine hK _ ?_; clear hK K)); (refine relg_skip rfl (fun _ _ _ h => h) (fun K hK => ?_); simp only [Fam.pt]; (refine hK _ ?_; clear hK K)); (refine relg_skip rfl (fun _ _ _ h => h) (fun K hK => ?_); simp only [Fam.pt]; (refine hK _ ?_; clear hK K)); (refine relg_skip rfl (fun _ _ _ h => h) (fun K hK => ?_); simp only [Fam.pt]; (refine hK _ ?_; clear hK K)); (refine relg_skip rfl (fun _ _ _ h => h) (fun K hK => ?_); simp only [Fam.pt]; (refine hK _ ?_; clear hK K)); (refine relg_skip rfl (fun _ _ _ h => h) (fun K hK => ?_); simp only [Fam.pt]; (refine hK _ ?_; clear hK K)); (refine relg_skip rfl (fun _ _ _ h => h) (fun K hK => ?_); simp only [Fam.pt]; (refine hK _ ?_; clear hK K)); (refine relg_skip rfl (fun _ _ _ h => h) (fun K hK => ?_); simp only [Fam.pt]; (refine hK _ ?_; clear hK K))
    (repeat (refine relq rfl rfl (fun _ _ _ h => h) (fun K hK => ?_); go_big_quiet_op; (refine hK _ ?_; clear hK K)))
    refine relk_end (fun L' V W1 hL hC1 => ?_)
    exact HQ.out _ W1 hC1 (by (refine ⟨rfl, rfl, ?_⟩; repeat (first | exact trivial | refine ⟨rfl, ?_⟩)))
  | false =>
    by_cases hbn : best < 0
    · obtain rfl : best = -1 := by omega
      have hrf : r = true := hr.2 ⟨rfl, .inl hbn⟩
      subst hrf
      clear hr
      refine region_rel (by kernel_rfl) (by kernel_rfl) (by kernel_rfl) (fun _ _ w' => Below W.heap.size W w') ((Below.refl _ _).drew) ?_
      (repeat (refine relq rfl rfl (fun _ _ _ h => h) (fun K hK => ?_); go_big_quiet_op; (refine hK _ ?_; clear hK K)))
      (refine relk_val rfl _ (fun _ _ _ h => h) (fun V L w' h1 h2 h3 hC => ex_load1 _ _ rfl _ rfl (cellB hC dc) _ Tryz.underlying4 rfl) (fun K hK => ?_); simp only [Fam.pt]; (refine hK _ ?_; clear hK K))
      (repeat (refine relq rfl rfl (fun _ _ _ h => h) (fun K hK => ?_); go_big_quiet_op; (refine hK _ ?_; clear hK K)))
      (refine relg_skip rfl (fun _ _ _ h => h) (fun K hK => ?_); simp only [Fam.pt]; (refine hK _ ?_; clear hK K)); (refine relg_skip rfl (fun _ _ _ h => h) (fun K hK => ?_); simp only [Fam.pt]; (refine hK _ ?_; clear hK K)); (refine relg_skip rfl (fun _ _ _ h => h) (fun K hK => ?_); simp only [Fam.pt]; (refine hK _ ?_; clear hK K)); (refine relg_skip rfl (fun _ _ _ h => h) (fun K hK => ?_); simp only [Fam.pt]; (refine hK _ ?_; clear hK K)); (refine relg_skip rfl (fun _ _ _ h => h) (fun K hK => ?_); simp only [Fam.pt]; (refine hK _ ?_; clear hK K)); (refine relg_skip rfl (fun _ _ _ h => h) (fun K hK => ?_); simp only [Fam.pt]; (refine hK _ ?_; clear hK K)); (refine relg_skip rfl (fun _ _ _ h => h) (fun K hK => ?_); simp only [Fam.pt]; (refine hK _ ?_; clear hK K))
      (repeat (refine relq rfl rfl (fun _ _ _ h => h) (fun K hK => ?_); go_big_quiet_op; (refine hK _ ?_; clear hK K)))
      refine relk_end (fun L' V W1 hL hC1 => ?_)
      exact HQ.out _ W1 hC1 (by (refine ⟨rfl, rfl, ?_⟩; repeat (first | exact trivial | refine ⟨rfl, ?_⟩)))
    · obtain ⟨bn, rfl⟩ : ∃ bn : Nat, best = bn := ⟨best.toNat, by omega⟩
      have hbl : bn < t.pr.length := by omega
      have hdb : decide ((bn : Int) < 0) = false := by simp
      obtain ⟨x1, x2⟩ := HM.out.2.2.1 i (by omega) hil
      obtain ⟨y1, y2⟩ := HM.out.2.2.1 bn (by omega) (by omega)
      have hrf : r = decide (lenP t i < lenP t bn) := by
        by_cases h : lenP t i < lenP t bn
        · rw [hr.2 ⟨rfl, .inr h⟩]; simp [h]
        · have : r = false := by
            cases hrr : r with
            | false => rfl
            | true => exact absurd ((hr.1 hrr).2) (by omega)
          rw [this]; simp [h]
      subst hrf
      clear hr
      refine region_rel (by kernel_rfl) (by kernel_rfl) (by kernel_rfl) (fun _ _ w' => Below W.heap.size W w') ((Below.refl _ _).drew) ?_
      (repeat (refine relq rfl rfl (fun _ _ _ h => h) (fun K hK => ?_); go_big_quiet_op; (refine hK _ ?_; clear hK K)))
      (refine relk_val rfl _ (fun _ _ _ h => h) (fun V L w' h1 h2 h3 hC => ex_load1 _ _ rfl _ rfl (cellB hC dc) _ Tryz.underlying4 rfl) (fun K hK => ?_); simp only [Fam.pt]; (refine hK _ ?_; clear hK K))
      (repeat (refine relq rfl rfl (fun _ _ _ h => h) (fun K hK => ?_); go_big_quiet_op; (refine hK _ ?_; clear hK K)))
      refine relg_val rfl (.agg #[.slice l.S t.sc.length l.cs, .slice l.P t.pr.length l.cp]) (fun _ _ _ h => h) (fun V L w' h1 h2 h3 hC => ex_loadN 25 _ rfl G 0 rfl [.slice l.S t.sc.length l.cs, .slice l.P t.pr.length l.cp] _ (rangeAt2 (cellB hC g0) (cellB hC g1)) Tryz.underlying25 rfl (by kernel_rfl)) (fun K hK => ?_)
      simp only [Fam.pt]
      refine hK _ ?_
      clear hK K
      (repeat (refine relq rfl rfl (fun _ _ _ h => h) (fun K hK => ?_); go_big_quiet_op; (refine hK _ ?_; clear hK K)))
      refine relg_fix rfl (.int .i64 (lenP t i)) (fun V L' w2 h1 h2 h3 hB => ?_) (fun K hK => ?_)
      · rw [ex_call2 57 (.tmp 37) (.tmp 38) _ rfl rfl rfl rfl (enters_fn Tryz.func57 (by kernel_rfl) rfl)]
        refine (rlength_c (HM.out.1.keep hB) HM.out.2.1 hi).mono ?_
        rintro e w' ⟨rfl, hB2⟩
        exact ⟨_, rfl, rfl, hB.trans (hB2.mono hB.size)⟩
      simp only [Fam.pt]
      refine hK _ ?_
      clear hK K
      refine relg_val rfl (.agg #[.slice l.S t.sc.length l.cs, .slice l.P t.pr.length l.cp]) (fun _ _ _ h => h) (fun V L w' h1 h2 h3 hC => ex_loadN 25 _ rfl G 0 rfl [.slice l.S t.sc.length l.cs, .slice l.P t.pr.length l.cp] _ (rangeAt2 (cellB hC g0) (cellB hC g1)) Tryz.underlying25 rfl (by kernel_rfl)) (fun K hK => ?_)
      simp only [Fam.pt]
      refine hK _ ?_
      clear hK K
      (repeat (refine relq rfl rfl (fun _ _ _ h => h) (fun K hK => ?_); go_big_quiet_op; (refine hK _ ?_; clear hK K)))
      refine relg_fix rfl (.int .i64 (lenP t bn)) (fun V L' w2 h1 h2 h3 hB => ?_) (fun K hK => ?_)
      · rw [ex_call2 57 (.tmp 40) (.tmp 41) _ rfl rfl rfl rfl (enters_fn Tryz.func57 (by kernel_rfl) rfl)]
        refine (rlength_c (HM.out.1.keep hB) HM.out.2.1 hbl).mono ?_
        rintro e w' ⟨rfl, hB2⟩
        exact ⟨_, rfl, rfl, hB.trans (hB2.mono hB.size)⟩
      simp only [Fam.pt]
      refine hK _ ?_
      clear hK K
      (repeat (refine relq rfl rfl (fun _ _ _ h => h) (fun K hK => ?_); go_big_quiet_op; (refine hK _ ?_; clear hK K)))
      refine relk_end (fun L' V W1 hL hC1 => ?_)
      exact HQ.out _ W1 hC1 (by (refine ⟨rfl, rfl, ?_⟩; repeat (first | exact trivial | refine ⟨rfl, ?_⟩)))
def LoopB (W1 : World) (t : Sk) (zs : List Int) (G db : Nat) (v4 v5 v18 v19 : Value) (a : Act) (w : World) : Prop :=
  ∃ (i : Nat) (best : Int), i ≤ t.pr.length ∧ Below W1.heap.size W1 w ∧ Bst (lenP t) t.pr.length zs i best ∧
    Fr 98 [(1, .pointer (some ⟨G, 0, none⟩)), (4, v4), (5, v5), (6, .slice (some ⟨db, 0, none⟩) t.pr.length t.pr.length), (7, .int .i64 best), (8, .int .i64 i), (18, v18), (19, v19)] a
theorem Bst.rng {L : Int → Int} {m : Nat} {zs : List Int} {i : Nat} {b : Int} (h : Bst L m zs i b) (hi : i ≤ m) : b = -1 ∨ (0 ≤ b ∧ b < m) := by
  rcases h with ⟨h, _⟩ | ⟨h1, h2, _⟩
  · exact .inl h
  · exact .inr ⟨h1, by omega⟩
theorem li_round {t : Sk} {l : SkL} {G db : Nat} {zs : List Int} {dn : List Bool} {v4 v5 v18 v19 : Value} {W1 : World} (hM : NetM W1 t l) (ho : NetOk t) (hG : W1.heap[G]? = some (.cells #[.slice l.S t.sc.length l.cs, .slice l.P t.pr.length l.cp] 25 (0, 0))) (hD : BoolB W1 db dn) (hs : Sel (lenP t) t.pr.length zs dn) {Q : Exit → Act → World → Prop}
    (hQ : ∀ a w best, Below W1.heap.size W1 w → Bst (lenP t) t.pr.length zs t.pr.length best → Fr 98 [(1, .pointer (some ⟨G, 0, none⟩)), (4, v4), (5, v5), (6, .slice (some ⟨db, 0, none⟩) t.pr.length t.pr.length), (7, .int .i64 best), (18, v18), (19, v19)] a → Q (.exit 2) a w) {a : Act} {w : World} (hI : LoopB W1 t zs G db v4 v5 v18 v19 a w) :
    Code.wp Tryz.prog (Tryz.f35.sub [1, 1, 1, 1, 0, 1, 0, 0, 1, 1, 0, 0, 1, 0, 1, 0, 0]) (Exit.then (fun a' w' => LoopB W1 t zs G db v4 v5 v18 v19 a' w' ∧ t.pr.length - (intOf (a'.tmps.getD 8 undef)).toNat < t.pr.length - (intOf (a.tmps.getD 8 undef)).toNat) Q) a w := by
  obtain ⟨i, best, hi, hB, hBs, hfr⟩ := hI
  obtain ⟨v, rfl⟩ := hfr.open
  clear hfr
  generalize hmu : t.pr.length - (intOf ((⟨frL 98 _ v, []⟩ : Act).tmps.getD 8 undef)).toNat = mu
  have hmu' : t.pr.length - i = mu := by rw [← hmu]; rfl
  clear hmu
  have HQ := Lib.hid hQ; clear hQ
  have h200 := ho.m_le
  have hGw := (hB.block _ (Array.getElem?_eq_some_iff.1 hG).1).trans hG
  have g1 : w.cell? ⟨G, 1, none⟩ = some (.slice l.P t.pr.length l.cp) := block_cell hGw (j := 1) (by simp)
  have hsz := hB.size
  have H := Lib.hid (And.intro hM (And.intro ho (And.intro hGw (And.intro hD (And.intro hs (And.intro hB hBs)))))); clear hM ho hG hGw hD hs hB hBs
  show Code.wp Tryz.prog (.seq (Tryz.f35.sub [1, 1, 1, 1, 0, 1, 0, 0, 1, 1, 0, 0, 1, 0, 1, 0, 0, 0]) (.seq (.block 3 (.seq (Tryz.f35.sub [1, 1, 1, 1, 0, 1, 0, 0, 1, 1, 0, 0, 1, 0, 1, 0, 0, 1, 0, 0, 0]) (Tryz.f35.sub [1, 1, 1, 1, 0, 1, 0, 0, 1, 1, 0, 0, 1, 0, 1, 0, 0, 1, 0, 0, 1]))) (Tryz.f35.sub [1, 1, 1, 1, 0, 1, 0, 0, 1, 1, 0, 0, 1, 0, 1, 0, 0, 1, 1]))) _
    ⟨#[(v 0), .pointer (some ⟨G, 0, none⟩), (v 2), (v 3), v4, v5, .slice (some ⟨db, 0, none⟩) t.pr.length t.pr.length, .int .i64 best, .int .i64 i, (v 9), (v 10), (v 11), (v 12), (v 13), (v 14), (v 15), (v 16), (v 17), v18, v19, (v 20), (v 21), (v 22), (v 23), (v 24), (v 25), (v 26), (v 27), (v 28), (v 29), (v 30), (v 31), (v 32), (v 33), (v 34), (v 35), (v 36), (v 37), (v 38), (v 39), (v 40), (v 41), (v 42), (v 43), (v 44), (v 45), (v 46), (v 47), (v 48), (v 49), (v 50), (v 51), (v 52), (v 53), (v 54), (v 55), (v 56), (v 57), (v 58), (v 59), (v 60), (v 61), (v 62), (v 63), (v 64), (v 65), (v 66), (v 67), (v 68), (v 69), (v 70), (v 71), (v 72), (v 73), (v 74), (v 75), (v 76), (v 77), (v 78), (v 79), (v 80), (v 81), (v 82), (v 83), (v 84), (v 85), (v 86), (v 87), (v 88), (v 89), (v 90), (v 91), (v 92), (v 93), (v 94), (v 95), (v 96), (v 97)], []⟩ _
  refine wp_seq ?_
  conv => arg 2; whnf
  dsimp only
  by_cases hlt : i < t.pr.length
  · have hilt : (i : Int) < t.pr.length := by omega
    go_wp2_with fail
    obtain ⟨r, hr⟩ : ∃ r : Bool, r = true ↔ (gb dn i = false ∧ (best < 0 ∨ lenP t i < lenP t best)) := by
      by_cases h : gb dn i = false ∧ (best < 0 ∨ lenP t i < lenP t best)
      · exact ⟨true, by simp [h]⟩
      · exact ⟨false, by simp only [Bool.false_eq_true, false_iff]; exact h⟩
    have HR := Lib.hid hr
    refine li_test (v4 := v4) (v5 := v5) (v18 := v18) (v19 := v19) (H.out.1.keep H.out.2.2.2.2.2.1) H.out.2.1 H.out.2.2.1 (FlB.keep H.out.2.2.2.1 H.out.2.2.2.2.2.1) H.out.2.2.2.2.1.len hlt (H.out.2.2.2.2.2.2.rng hi) hr ?_
    clear hr
    intro a' w' hB1 hfr
    rename_i K6 hK6
    obtain ⟨v', rfl⟩ := hfr.open
    clear hfr
    refine hK6 _ _ ?_
    clear hK6
    have hB2 : Below W1.heap.size W1 w' := H.out.2.2.2.2.2.1.trans (hB1.mono hsz)
    have HB := Lib.hid hB2; clear hB1 hB2 g1
    show Code.wp Tryz.prog (Tryz.f35.sub [1, 1, 1, 1, 0, 1, 0, 0, 1, 1, 0, 0, 1, 0, 1, 0, 0, 1, 0, 0, 1]) _ ⟨#[(v' 0), .pointer (some ⟨G, 0, none⟩), (v' 2), (v' 3), v4, v5, .slice (some ⟨db, 0, none⟩) t.pr.length t.pr.length, .int .i64 best, .int .i64 i, (v' 9), (v' 10), (v' 11), (v' 12), (v' 13), (v' 14), (v' 15), (v' 16), (v' 17), v18, v19, (v' 20), (v' 21), (v' 22), (v' 23), (v' 24), (v' 25), (v' 26), (v' 27), (v' 28), (v' 29), (v' 30), (v' 31), (v' 32), (v' 33), (v' 34), (v' 35), (v' 36), (v' 37), (v' 38), (v' 39), (v' 40), (v' 41), (v' 42), (v' 43), (v' 44), .bool r, (v' 46), (v' 47), (v' 48), (v' 49), (v' 50), (v' 51), (v' 52), (v' 53), (v' 54), (v' 55), (v' 56), (v' 57), (v' 58), (v' 59), (v' 60), (v' 61), (v' 62), (v' 63), (v' 64), (v' 65), (v' 66), (v' 67), (v' 68), (v' 69), (v' 70), (v' 71), (v' 72), (v' 73), (v' 74), (v' 75), (v' 76), (v' 77), (v' 78), (v' 79), (v' 80), (v' 81), (v' 82), (v' 83), (v' 84), (v' 85), (v' 86), (v' 87), (v' 88), (v' 89), (v' 90), (v' 91), (v' 92), (v' 93), (v' 94), (v' 95), (v' 96), (v' 97)], []⟩ _
    have hnext : ∃ b', b' = (if r = true then (i : Int) else best) ∧ Bst (lenP t) t.pr.length zs (i + 1) b' := by
      refine ⟨_, rfl, ?_⟩
      have hbs := H.out.2.2.2.2.2.2
      have hdn := H.out.2.2.2.2.1.dn i hlt
      cases r with
      | true =>
        obtain ⟨h1, h2⟩ := HR.out.1 rfl
        rw [if_pos rfl]
        exact hbs.take (fun h => by rw [hdn.2 h] at h1; cases h1) h2
      | false =>
        rw [if_neg (by simp)]
        have hno : ¬ (gb dn i = false ∧ (best < 0 ∨ lenP t i < lenP t best)) := fun h => by have := HR.out.2 h; cases this
        cases hg : gb dn i with
        | true => exact hbs.skip (hdn.1 hg)
        | false =>
          have h3 : ¬ (best < 0 ∨ lenP t i < lenP t best) := fun h => hno ⟨hg, h⟩
          exact hbs.keep (by omega) (fun h => h3 (.inr h))
    obtain ⟨b', hb', hn⟩ := hnext
    have HN := Lib.hid hn; clear hn
    conv => arg 2; whnf
    dsimp only
    cases r with
    | true =>
      rw [if_pos rfl] at hb'
      subst hb'
      go_wp2_with fail
      conv => arg 2; whnf
      go_wp2_with fail
      refine ⟨⟨i + 1, i, by omega, HB.out, HN.out, by (refine ⟨rfl, rfl, ?_⟩; repeat (first | exact trivial | refine ⟨rfl, ?_⟩))⟩, ?_⟩
      show t.pr.length - ((i : Int) + 1).toNat < mu
      omega
    | false =>
      rw [if_neg (by simp)] at hb'
      subst hb'
      go_wp2_with fail
      conv => arg 2; whnf
      go_wp2_with fail
      refine ⟨⟨i + 1, b', by omega, HB.out, HN.out, by (refine ⟨rfl, rfl, ?_⟩; repeat (first | exact trivial | refine ⟨rfl, ?_⟩))⟩, ?_⟩
      show t.pr.length - ((i : Int) + 1).toNat < mu
      omega
  · obtain rfl : i = t.pr.length := by omega
    go_wp2_with fail
    exact HQ.out _ _ best H.out.2.2.2.2.2.1 H.out.2.2.2.2.2.2 (by (refine ⟨rfl, rfl, ?_⟩; repeat (first | exact trivial | refine ⟨rfl, ?_⟩)))
end Go.Proofs.YtjnpchoinncbnaaGreat
end
