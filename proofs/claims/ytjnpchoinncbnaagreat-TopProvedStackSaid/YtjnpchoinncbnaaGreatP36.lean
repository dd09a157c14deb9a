/- Proves parts of the statement, each under the conditions that its theorem states: The reference's Along: the contract; The reference's Misses: one is put behind; The reference's Misses; The reference's NetOf: an edge is put behind. -/
import Derived.Test.YtjnpchoinncbnaaGreatP35
import Derived.Test.YtjnpchoinncbnaaGreatP30
import Derived.Test.YtjnpchoinncbnaaGreatP28
import Derived.Test.YtjnpchoinncbnaaGreatP29
set_option linter.unusedSimpArgs false
set_option linter.unusedVariables false
set_option maxHeartbeats 4000000
set_option maxRecDepth 100000
section
namespace Go.Proofs.YtjnpchoinncbnaaGreat
open Go.RowKit Sw Fam
def AlPost (t : Sk) (p : Nat → Int) (M : Int) (w : World) (e : Ending) (w' : World) : Prop := ∃ A c, e = .returned (.slice A t.sc.length c) ∧ Below w.heap.size w w' ∧ GrI w' w.heap.size A c (alL t p) ∧ ∀ v, v < t.sc.length → -(M * 60) ≤ p v ∧ p v ≤ M * 60
structure JnC (W1 : World) (t : Sk) (L : Nat → Bool) (V : Nat → Value) (w : World) : Prop where
  bel : Below W1.heap.size W1 w
  a : L 4 = true → ∃ A c, V 4 = .slice A t.pr.length c ∧ RdI w A (rng t.pr.length)
  j : L 5 = true → ∃ D c u, V 5 = .slice D t.sc.length c ∧ RdI w D u ∧ Lab t.sc.length (prs t) ((rng t.pr.length).map Int.toNat) u
  g : L 6 = true → V 6 = V 5
section
variable {W w w' : World} {t : Sk} {L : Nat → Bool} {V : Nat → Value} {l : Array Oper}
theorem JnC.start (W : World) (t : Sk) : JnC W t (fun _ => false) (fun _ => undef) W.drew := ⟨(Below.refl _ _).drew, fun h => (by cases h), fun h => (by cases h), fun h => by cases h⟩
theorem JnC.up {i : Nat} (h4 : i ≠ 4) (h5 : i ≠ 5) (h6 : i ≠ 6) (h : JnC W t L V w) : JnC W t (upd L i) V w :=
  ⟨h.bel, by rw [upd_ne _ h4.symm]; exact h.a, by rw [upd_ne _ h5.symm]; exact h.j, by rw [upd_ne _ h6.symm]; exact h.g⟩
theorem JnC.all (h : JnC W t L V w) (hb : Below w.heap.size w w') (hL : L 5 = false) (hL6 : L 6 = false) {A : Option Addr} {c : Nat} (hr : RdI w' A (rng t.pr.length)) : JnC W t (upd L 4) (setV V 4 (.slice A t.pr.length c)) w' :=
  ⟨h.bel.trans (hb.mono h.bel.size), fun _ => ⟨A, c, setV_same _ _ _, hr⟩, fun h5 => (by rw [upd_ne _ (by decide), hL] at h5; cases h5), fun h6 => (by rw [upd_ne _ (by decide), hL6] at h6; cases h6)⟩
theorem JnC.jn (h : JnC W t L V w) (hb : Below w.heap.size w w') (hL6 : L 6 = false) {D : Option Addr} {c : Nat} {u : List Int} (hr : RdI w' D u) (hu : Lab t.sc.length (prs t) ((rng t.pr.length).map Int.toNat) u) : JnC W t (upd L 5) (setV V 5 (.slice D t.sc.length c)) w' :=
  ⟨h.bel.trans (hb.mono h.bel.size), fun h4 => (by
    rw [upd_ne _ (by decide)] at h4
    obtain ⟨A, c, h1, h2⟩ := h.a h4
    exact ⟨A, c, by rw [setV_ne _ _ (by decide)]; exact h1, h2.keep hb⟩), fun _ => ⟨D, c, u, setV_same _ _ _, hr, hu⟩, fun h6 => (by rw [upd_ne _ (by decide), hL6] at h6; cases h6)⟩
theorem JnC.asg (h : JnC W t L V w) : JnC W t (upd L 6) (setV V 6 (V 5)) w :=
  ⟨h.bel, by rw [upd_ne _ (by decide), setV_ne _ _ (by decide)]; exact h.a, by rw [upd_ne _ (by decide), setV_ne _ _ (by decide)]; exact h.j, fun _ => by rw [setV_same, setV_ne _ _ (by decide)]⟩
end
theorem al_first {W1 : World} {t : Sk} {l : SkL} {G : Nat} {v1 v4 : Value} (hN : NetM W1 t l) (ho : NetOk t) {u0 u3 u5 u6 u7 u8 u9 u10 u11 u12 u13 u14 u15 u16 u17 u18 u19 u20 u21 u22 u23 u24 u25 u26 u27 u28 u29 u30 u31 u32 u33 u34 u35 : Value} {Q : Exit → Act → World → Prop}
    (hG : W1.heap[G]? = some (.cells #[.slice l.S t.sc.length l.cs, .slice l.P t.pr.length l.cp, .slice l.H t.ph.length l.ch, .slice l.W t.ws.length l.cw] 28 (0, 0)))
    (hQ : ∀ a' w' D c u, Below W1.heap.size W1 w' → RdI w' D u → Lab t.sc.length (prs t) ((rng t.pr.length).map Int.toNat) u → Fr 36 [(1, v1), (2, .pointer (some ⟨G, 0, none⟩)), (4, v4), (5, .slice D t.sc.length c)] a' → Q .normal a' w') :
    Code.wp Tryz.prog (Tryz.f36.sub [1, 0]) Q ⟨#[u0, v1, .pointer (some ⟨G, 0, none⟩), u3, v4, u5, u6, u7, u8, u9, u10, u11, u12, u13, u14, u15, u16, u17, u18, u19, u20, u21, u22, u23, u24, u25, u26, u27, u28, u29, u30, u31, u32, u33, u34, u35], []⟩ W1 := by
  have h200 := ho.m_le
  have c0 : W1.cell? ⟨G, 0, none⟩ = some (.slice l.S t.sc.length l.cs) := block_cell hG (j := 0) (by simp)
  have c1 : W1.cell? ⟨G, 1, none⟩ = some (.slice l.P t.pr.length l.cp) := block_cell hG (j := 1) (by simp)
  have HN := Lib.hid (And.intro hN ho); clear hN ho hG
  have HQ := Lib.hid hQ; clear hQ
  conv => arg 2; whnf
  dsimp only
  refine region_rel (by kernel_rfl) (by kernel_rfl) (by kernel_rfl) (JnC W1 t) (JnC.start W1 t) ?_
  (refine rel_val rfl (.pointer (some ⟨G, 0, none⟩)) (fun _ _ _ h => JnC.up (by decide) (by decide) (by decide) h) (fun V L w h1 h2 h3 hC => by unfold execOp; go_simp) ?_; simp only [Fam.pt])
  refine rel_val rfl (NetV t l) (fun _ _ _ h => JnC.up (by decide) (by decide) (by decide) h) (fun V L w h1 h2 h3 hC => ex_loadN 25 _ rfl _ _ rfl [.slice l.S t.sc.length l.cs, .slice l.P t.pr.length l.cp] _ (rangeAt2 (cellB hC.bel c0) (cellB hC.bel c1)) Tryz.underlying25 rfl (by kernel_rfl)) ?_
  simp only [Fam.pt]
  (refine rel_val rfl (.pointer (some ⟨G, 0, none⟩)) (fun _ _ _ h => JnC.up (by decide) (by decide) (by decide) h) (fun V L w h1 h2 h3 hC => by unfold execOp; go_simp) ?_; simp only [Fam.pt])
  refine rel_val rfl (NetV t l) (fun _ _ _ h => JnC.up (by decide) (by decide) (by decide) h) (fun V L w h1 h2 h3 hC => ex_loadN 25 _ rfl _ _ rfl [.slice l.S t.sc.length l.cs, .slice l.P t.pr.length l.cp] _ (rangeAt2 (cellB hC.bel c0) (cellB hC.bel c1)) Tryz.underlying25 rfl (by kernel_rfl)) ?_
  simp only [Fam.pt]
  refine rel_free rfl (fun V L w h1 h2 h3 hC => ?_) ?_
  · rw [ex_call2 60 (.tmp 11) (.const (.int .i64 (-1))) _ rfl rfl rfl rfl (enters_fn Tryz.func60 (by kernel_rfl) rfl)]
    refine (all_c (by omega)).mono ?_
    rintro e w' ⟨A, c, rfl, hb, hg⟩
    exact ⟨_, rfl, hC.all hb (h3.not (by kernel_rfl) h1) (h3.not (by kernel_rfl) h1) hg.rd⟩
  simp only [Fam.pt]
  refine rel_free rfl (fun V L w h1 h2 h3 hC => ?_) ?_
  · obtain ⟨A, c, e, hr⟩ := hC.a (waits_at h2 (by kernel_rfl))
    rw [ex_call2 58 (.tmp 9) (.tmp 12) _ rfl rfl (by exact e) rfl (enters_fn Tryz.func58 (by kernel_rfl) rfl)]
    have hj := joined_any (ca := c) (HN.out.1.keep hC.bel) HN.out.2 hr (fun j hj => by rw [rng_len] at hj; rw [gi_rng hj]; omega) (by rw [rng_len]; exact h200)
    rw [rng_len] at hj
    refine hj.mono ?_
    rintro e w' ⟨D, c', u, rfl, hb, hd, hu⟩
    exact ⟨_, rfl, hC.jn hb (h3.not (by kernel_rfl) h1) hd hu⟩
  simp only [Fam.pt]
  refine rel_free rfl (fun V L w h1 h2 h3 hC => ?_) ?_
  · rw [ex_asg _ rfl]
    exact hC.asg
  simp only [Fam.pt]
  intro V L w' hL hC
  obtain ⟨D, c, u, e, hr, hu⟩ := hC.j (hL 5 (by decide))
  exact HQ.out _ w' D c u hC.bel hr hu ⟨rfl, rfl, rfl, rfl, rfl, (hC.g (hL 6 (by decide))).trans e, trivial⟩
theorem along_c {t : Sk} {l : SkL} {w : World} {F ys : List Int} {T : List Nat} {u : List Int} {p : Nat → Int} {FA : Option Addr} {fc : Nat} {M : Int} (hN : NetM w t l) (ho : NetOk t) (hH : RdI w l.H t.ph) (hl : t.ph.length = t.pr.length) (hM : 0 ≤ M ∧ M ≤ 10000000000) (hb : ∀ i, i < t.pr.length → -M ≤ gi t.ph i ∧ gi t.ph i ≤ M)
    (hF : RdI w FA F) (hfl : F.length ≤ 200) (hm : Smt t t.ph ys T u p) (hFT : ∀ i : Int, i ∈ F ↔ ∃ k : Nat, k ∈ T ∧ i = k) : Calls Tryz.prog 36 #[SkV t l, .slice FA F.length fc] w (AlPost t p M w) := by
  have HM := Lib.hid (And.intro hN (And.intro ho (And.intro hH (And.intro hl (And.intro hM (And.intro hb (And.intro hF (And.intro hfl (And.intro hm hFT))))))))); clear hN ho hH hl hM hb hF hfl hm hFT
  unfold SkV
  go_enter Tryz.func36, Tryz.ntmps36
  show Code.wp Tryz.prog (.seq (Tryz.f36.sub [0]) (.seq (Tryz.f36.sub [1, 0]) (.seq (Tryz.f36.sub [1, 1, 0]) (.seq (.seq (Tryz.f36.sub [1, 1, 1, 0, 0]) (.block 0 (.loop (Tryz.f36.sub [1, 1, 1, 0, 1, 0, 0])))) (Tryz.f36.sub [1, 1, 1, 1]))))) _ _ _
  refine wp_seq ?_
  conv => arg 2; whnf
  go_wp2_with fail
  refine nameC ?_
  intro W1 hW1
  obtain ⟨hB1, e1⟩ := alloc1 w _ hW1
  clear hW1
  obtain ⟨G, hG⟩ : ∃ G, w.heap.size = G := ⟨_, rfl⟩
  rw [hG] at e1
  rw [hG]
  have HB := Lib.hid (And.intro hB1 (And.intro e1 hG)); clear hB1 e1 hG
  refine al_first (t := t) (l := l) (HM.out.1.keep HB.out.1) HM.out.2.1 HB.out.2.1 ?_
  intro a2 W2 D lc u' hB2 hD hu hfr
  rename_i K5 hK5
  obtain ⟨v, rfl⟩ := hfr.open
  clear hfr
  refine hK5 _ _ ?_
  clear hK5
  have hb02 : Below w.heap.size w W2 := HB.out.1.trans (hB2.mono HB.out.1.size)
  have eu : u' = u := hu.uniq_mem HM.out.2.2.2.2.2.2.2.2.1.lab (fun i => by
    have hp := HM.out.2.2.2.2.2.2.2.2.1.perm
    rw [List.mem_map, List.mem_map]
    exact ⟨fun ⟨x, h1, h2⟩ => ⟨x, hp.mem_iff.2 h1, h2⟩, fun ⟨x, h1, h2⟩ => ⟨x, hp.mem_iff.1 h1, h2⟩⟩)
  subst eu
  have e2 := (hB2.block _ (Array.getElem?_eq_some_iff.1 HB.out.2.1).1).trans HB.out.2.1
  have H2 := Lib.hid (And.intro hb02 (And.intro hD e2)); clear hb02 hD e2 hB2 hu
  show Code.wp Tryz.prog (.seq (Tryz.f36.sub [1, 1, 0]) (.seq (.seq (Tryz.f36.sub [1, 1, 1, 0, 0]) (.block 0 (.loop (Tryz.f36.sub [1, 1, 1, 0, 1, 0, 0])))) (Tryz.f36.sub [1, 1, 1, 1]))) _
    ⟨#[(v 0), .slice FA F.length fc, .pointer (some ⟨G, 0, none⟩), (v 3), .slice none 0 0, .slice D t.sc.length lc, (v 6), (v 7), (v 8), (v 9), (v 10), (v 11), (v 12), (v 13), (v 14), (v 15), (v 16), (v 17), (v 18), (v 19), (v 20), (v 21), (v 22), (v 23), (v 24), (v 25), (v 26), (v 27), (v 28), (v 29), (v 30), (v 31), (v 32), (v 33), (v 34), (v 35)], []⟩ _
  refine wp_seq ?_
  conv => arg 2; whnf
  dsimp only
  go_wp2_with fail
  conv => arg 2; whnf
  go_wp2_with fail
  refine wp_loop (LoopAl W2 t p M F FA D G fc lc) (fun a _ => t.sc.length - (intOf (a.tmps.getD 7 undef)).toNat) ⟨0, none, 0, Nat.zero_le _, fun v hv => absurd hv (Nat.not_lt_zero _), Below.refl _ _, GrF.start _ _, by (refine ⟨rfl, rfl, ?_⟩; repeat (first | exact trivial | refine ⟨rfl, ?_⟩))⟩ ?_
  intro a wr hI
  refine al_loop (HM.out.1.keep H2.out.1) HM.out.2.1 (HM.out.2.2.1.keep H2.out.1) HM.out.2.2.2.1 HM.out.2.2.2.2.1 HM.out.2.2.2.2.2.1 (HM.out.2.2.2.2.2.2.1.keep H2.out.1) HM.out.2.2.2.2.2.2.2.1 HM.out.2.2.2.2.2.2.2.2.1 HM.out.2.2.2.2.2.2.2.2.2 H2.out.2.2 H2.out.2.1 ?_ hI
  intro a' w' A c hbd hBl hGr hfr
  rename_i K6 hK6
  obtain ⟨v', rfl⟩ := hfr.open
  clear hfr hI
  refine hK6 _ _ ?_
  clear hK6
  have HZ := Lib.hid (And.intro hGr (And.intro hBl hbd)); clear hGr hBl hbd
  show Code.wp Tryz.prog (Tryz.f36.sub [1, 1, 1, 1]) _ ⟨#[(v' 0), (v' 1), (v' 2), (v' 3), (v' 4), (v' 5), .slice A t.sc.length c, (v' 7), (v' 8), (v' 9), (v' 10), (v' 11), (v' 12), (v' 13), (v' 14), (v' 15), (v' 16), (v' 17), (v' 18), (v' 19), (v' 20), (v' 21), (v' 22), (v' 23), (v' 24), (v' 25), (v' 26), (v' 27), (v' 28), (v' 29), (v' 30), (v' 31), (v' 32), (v' 33), (v' 34), (v' 35)], []⟩ _
  conv => arg 2; whnf
  dsimp only
  go_wp2_with fail
  go_ret
  exact ⟨A, c, rfl, H2.out.1.trans (HZ.out.2.1.mono H2.out.1.size), HZ.out.1.low H2.out.1.size, HZ.out.2.2⟩
theorem rmiss_add {B c hb ho m ch k xb f s n sb so sc q G : Nat} {A : Option Addr} {xs : List Int} {y a b : Int} {W : World} {Q : Exit → Act → World → Prop} {u0 u2 u3 u4 u9 u10 u11 u12 u13 u14 u15 u16 u17 u18 u19 u20 u21 u22 u23 u24 u25 u26 u27 u28 u29 u30 u31 u32 u33 u34 u35 u36 u37 u38 u39 u40 u41 u42 u43 u44 u45 u46 u47 u48 u49 u50 u51 : Value}
    (hq : xs.length = q) (hok : ApD.ok ⟨B, A, c, xs, y - b + a⟩ W) (hk : k < m) (hm : m ≤ 200) (hn : n ≤ 60) (hf : f < n) (hs : s < n)
    (g2 : W.cell? ⟨G, 2, none⟩ = some (.slice (some ⟨hb, ho, none⟩) m ch)) (c0 : W.cell? ⟨hb, ho + k, none⟩ = some (.int .i64 y)) (x0 : W.cell? ⟨xb, 0, none⟩ = some (.int .i64 f)) (x1 : W.cell? ⟨xb, 1, none⟩ = some (.int .i64 s))
    (of : W.cell? ⟨sb, so + f, none⟩ = some (.int .i64 a)) (os : W.cell? ⟨sb, so + s, none⟩ = some (.int .i64 b)) (hbd : (-10000000000 ≤ y ∧ y ≤ 10000000000) ∧ (-1000000000000 ≤ a ∧ a ≤ 1000000000000) ∧ (-1000000000000 ≤ b ∧ b ≤ 1000000000000))
    (n0 : G ∉ ApD.S ⟨B, A, c, xs, y - b + a⟩) (n1 : hb ∉ ApD.S ⟨B, A, c, xs, y - b + a⟩) (n2 : xb ∉ ApD.S ⟨B, A, c, xs, y - b + a⟩) (n3 : sb ∉ ApD.S ⟨B, A, c, xs, y - b + a⟩)
    (hQ : ∀ a' A' c' w', Tch (A.map (·.block)).toList W w' → GrI w' B A' c' (xs ++ [y - b + a]) → Fr 52 [(1, .pointer (some ⟨G, 0, none⟩)), (5, .slice (some ⟨sb, so, none⟩) n sc), (6, .slice A' (q + 1) c'), (7, .int .i64 k)] a' → Q .normal a' w') :
    Code.wp Tryz.prog (Tryz.f20.sub [1, 1, 1, 1, 0, 1, 0, 0, 1, 0, 0, 1]) Q ⟨#[u0, .pointer (some ⟨G, 0, none⟩), u2, u3, u4, .slice (some ⟨sb, so, none⟩) n sc, .slice A q c, .int .i64 k, .pointer (some ⟨xb, 0, none⟩), u9, u10, u11, u12, u13, u14, u15, u16, u17, u18, u19, u20, u21, u22, u23, u24, u25, u26, u27, u28, u29, u30, u31, u32, u33, u34, u35, u36, u37, u38, u39, u40, u41, u42, u43, u44, u45, u46, u47, u48, u49, u50, u51], []⟩ W := by
  subst hq
  have HK := Lib.hid hok; clear hok
  have HQ := Lib.hid hQ; clear hQ
  obtain ⟨⟨y1, y2⟩, ⟨a1, a2⟩, ⟨b1, b2⟩⟩ := hbd
  have hkm : (k : Int) < m := by omega
  have hfn : (f : Int) < n := by omega
  have hsn : (s : Int) < n := by omega
  conv => arg 2; whnf
  dsimp only
  refine region_rel (by kernel_rfl) (by kernel_rfl) (by kernel_rfl) (ApG W ⟨B, A, c, xs, y - b + a⟩ 18 19 20) (ApG.start HK.out) ?_
  (refine rel_val rfl (.slice A xs.length c) (fun _ _ _ h => ApG.up rfl h) (fun V L w h1 h2 h3 hC => by unfold execOp; go_simp; try exact IntWalk.i64_in _ (by omega)) ?_; simp only [Fam.pt])
  (refine rel_val rfl (.pointer (some ⟨G, 2, none⟩)) (fun _ _ _ h => ApG.up rfl h) (fun V L w h1 h2 h3 hC => by unfold execOp; go_simp; try exact IntWalk.i64_in _ (by omega)) ?_; simp only [Fam.pt])
  (refine rel_val rfl _ (fun _ _ _ h => ApG.up rfl h) (fun V L w h1 h2 h3 hC => ex_load1 _ _ rfl _ rfl (ApG.far hC (by exact n0) g2) _ Tryz.underlying26 rfl) ?_; simp only [Fam.pt])
  (refine rel_val rfl (.int .i64 k) (fun _ _ _ h => ApG.up rfl h) (fun V L w h1 h2 h3 hC => by unfold execOp; go_simp; try exact IntWalk.i64_in _ (by omega)) ?_; simp only [Fam.pt])
  (refine rel_val rfl (.pointer (some ⟨hb, ho + k, none⟩)) (fun _ _ _ h => ApG.up rfl h) (fun V L w h1 h2 h3 hC => by unfold execOp; go_simp; try exact IntWalk.i64_in _ (by omega)) ?_; simp only [Fam.pt])
  (refine rel_val rfl _ (fun _ _ _ h => ApG.up rfl h) (fun V L w h1 h2 h3 hC => ex_load1 _ _ rfl _ rfl (ApG.far hC (by exact n1) c0) _ Tryz.underlying3 rfl) ?_; simp only [Fam.pt])
  (refine rel_val rfl (.slice (some ⟨sb, so, none⟩) n sc) (fun _ _ _ h => ApG.up rfl h) (fun V L w h1 h2 h3 hC => by unfold execOp; go_simp; try exact IntWalk.i64_in _ (by omega)) ?_; simp only [Fam.pt])
  (refine rel_val rfl (.pointer (some ⟨xb, 1, none⟩)) (fun _ _ _ h => ApG.up rfl h) (fun V L w h1 h2 h3 hC => by unfold execOp; go_simp; try exact IntWalk.i64_in _ (by omega)) ?_; simp only [Fam.pt])
  (refine rel_val rfl _ (fun _ _ _ h => ApG.up rfl h) (fun V L w h1 h2 h3 hC => ex_load1 _ _ rfl _ rfl (ApG.far hC (by exact n2) x1) _ Tryz.underlying3 rfl) ?_; simp only [Fam.pt])
  (refine rel_val rfl (.pointer (some ⟨sb, so + s, none⟩)) (fun _ _ _ h => ApG.up rfl h) (fun V L w h1 h2 h3 hC => by unfold execOp; go_simp; try exact IntWalk.i64_in _ (by omega)) ?_; simp only [Fam.pt])
  (refine rel_val rfl _ (fun _ _ _ h => ApG.up rfl h) (fun V L w h1 h2 h3 hC => ex_load1 _ _ rfl _ rfl (ApG.far hC (by exact n3) os) _ Tryz.underlying3 rfl) ?_; simp only [Fam.pt])
  (refine rel_val rfl (.int .i64 (y - b)) (fun _ _ _ h => ApG.up rfl h) (fun V L w h1 h2 h3 hC => by unfold execOp; go_simp; try exact IntWalk.i64_in _ (by omega)) ?_; simp only [Fam.pt])
  (refine rel_val rfl (.slice (some ⟨sb, so, none⟩) n sc) (fun _ _ _ h => ApG.up rfl h) (fun V L w h1 h2 h3 hC => by unfold execOp; go_simp; try exact IntWalk.i64_in _ (by omega)) ?_; simp only [Fam.pt])
  (refine rel_val rfl (.pointer (some ⟨xb, 0, none⟩)) (fun _ _ _ h => ApG.up rfl h) (fun V L w h1 h2 h3 hC => by unfold execOp; go_simp; try exact IntWalk.i64_in _ (by omega)) ?_; simp only [Fam.pt])
  (refine rel_val rfl _ (fun _ _ _ h => ApG.up rfl h) (fun V L w h1 h2 h3 hC => ex_load1 _ _ rfl _ rfl (ApG.far hC (by exact n2) x0) _ Tryz.underlying3 rfl) ?_; simp only [Fam.pt])
  (refine rel_val rfl (.pointer (some ⟨sb, so + f, none⟩)) (fun _ _ _ h => ApG.up rfl h) (fun V L w h1 h2 h3 hC => by unfold execOp; go_simp; try exact IntWalk.i64_in _ (by omega)) ?_; simp only [Fam.pt])
  (refine rel_val rfl _ (fun _ _ _ h => ApG.up rfl h) (fun V L w h1 h2 h3 hC => ex_load1 _ _ rfl _ rfl (ApG.far hC (by exact n3) of) _ Tryz.underlying3 rfl) ?_; simp only [Fam.pt])
  (refine rel_val rfl (.int .i64 (y - b + a)) (fun _ _ _ h => ApG.up rfl h) (fun V L w h1 h2 h3 hC => by unfold execOp; go_simp; try exact IntWalk.i64_in _ (by omega)) ?_; simp only [Fam.pt])
  refine rel_free rfl (fun V L w h1 h2 h3 hC => ?_) ?_
  · rw [ex_sliceI _ rfl (y - b + a) rfl]
    exact ApG.ev_made (by decide) (by kernel_rfl) h1 h3 hC
  simp only [Fam.pt]
  refine rel_free rfl (fun V L w h1 h2 h3 hC => ?_) ?_
  · obtain ⟨v, w', k1, k2⟩ := ApG.ev_app (by decide) HK.out hC h1 (by kernel_rfl) h3 h2 (by kernel_rfl) _
    rw [ex_append _ _ _ rfl rfl rfl k1]
    exact k2
  simp only [Fam.pt]
  refine rel_free rfl (fun V L w h1 h2 h3 hC => ?_) ?_
  · rw [ex_asg _ rfl]
    exact ApG.ev_asg (by decide) hC
  simp only [Fam.pt]
  intro V L w' hL hC
  have h1 := hC.f.a1
  rw [if_pos (hL 19 (by decide))] at h1
  obtain ⟨A', c', e, hg⟩ := h1
  refine HQ.out _ A' c' w' hC.f.tch hg ⟨rfl, rfl, rfl, rfl, (hC.g (hL 20 (by decide))).trans e, rfl, trivial⟩
def LoopRb (W2 : World) (t : Sk) (p : Nat → Int) (SA : Option Addr) (G sc : Nat) (a : Act) (w : World) : Prop :=
  ∃ (k : Nat) (A : Option Addr) (c : Nat), k ≤ t.pr.length ∧ GrI w W2.heap.size A c ((msL t t.ph p).take k) ∧ Below W2.heap.size W2 w ∧
    Fr 52 [(1, .pointer (some ⟨G, 0, none⟩)), (5, .slice SA t.sc.length sc), (6, .slice A k c), (7, .int .i64 k)] a
theorem rmiss_loop {t : Sk} {l : SkL} {p : Nat → Int} {M : Int} {SA : Option Addr} {G sc : Nat} {W2 : World} (ho : NetOk t) (hP : RdQ W2 l.P (prs t)) (hH : RdI W2 l.H t.ph) (hl : t.ph.length = t.pr.length) (hO : RdI W2 SA (alL t p)) (hv : ∀ v, v < t.sc.length → -(M * 60) ≤ p v ∧ p v ≤ M * 60)
    (hG : W2.heap[G]? = some (.cells #[.slice l.S t.sc.length l.cs, .slice l.P t.pr.length l.cp, .slice l.H t.ph.length l.ch, .slice l.W t.ws.length l.cw] 28 (0, 0)))
    (hM : 0 ≤ M ∧ M ≤ 10000000000) (hb : ∀ i, i < t.pr.length → -M ≤ gi t.ph i ∧ gi t.ph i ≤ M) {Q : Exit → Act → World → Prop}
    (hQ : ∀ a w A c, GrI w W2.heap.size A c (msL t t.ph p) → Below W2.heap.size W2 w → Fr 52 [(6, .slice A t.pr.length c)] a → Q (.exit 0) a w) {a : Act} {w : World} (hI : LoopRb W2 t p SA G sc a w) :
    Code.wp Tryz.prog (Tryz.f20.sub [1, 1, 1, 1, 0, 1, 0, 0]) (Exit.then (fun a' w' => LoopRb W2 t p SA G sc a' w' ∧ t.pr.length - (intOf (a'.tmps.getD 7 undef)).toNat < t.pr.length - (intOf (a.tmps.getD 7 undef)).toNat) Q) a w := by
  obtain ⟨k, A, c, hk, hGr, hB, hfr⟩ := hI
  obtain ⟨v, rfl⟩ := hfr.open
  clear hfr
  generalize hmu : t.pr.length - (intOf ((⟨frL 52 _ v, []⟩ : Act).tmps.getD 7 undef)).toNat = mu
  have hmu' : t.pr.length - k = mu := by rw [← hmu]; rfl
  clear hmu
  have h60 := ho.n_le
  have h200 := ho.m_le
  obtain ⟨M1, M2⟩ := hM
  have hGw := (hB.block _ (Array.getElem?_eq_some_iff.1 hG).1).trans hG
  have Glt : G < W2.heap.size := (Array.getElem?_eq_some_iff.1 hG).1
  have HX := Lib.hid (And.intro ho (And.intro hP (And.intro hH (And.intro hl (And.intro hO (And.intro hv hb))))))
  clear ho hP hH hO hv hb hG
  have HQ := Lib.hid hQ; clear hQ
  have HG := Lib.hid (And.intro hGr (And.intro hB hGw)); clear hGr hB
  show Code.wp Tryz.prog (.seq (Tryz.f20.sub [1, 1, 1, 1, 0, 1, 0, 0, 0]) (.seq (.block 1 (.seq (Tryz.f20.sub [1, 1, 1, 1, 0, 1, 0, 0, 1, 0, 0, 0]) (Tryz.f20.sub [1, 1, 1, 1, 0, 1, 0, 0, 1, 0, 0, 1]))) (Tryz.f20.sub [1, 1, 1, 1, 0, 1, 0, 0, 1, 1]))) _
    ⟨#[(v 0), .pointer (some ⟨G, 0, none⟩), (v 2), (v 3), (v 4), .slice SA t.sc.length sc, .slice A k c, .int .i64 k, (v 8), (v 9), (v 10), (v 11), (v 12), (v 13), (v 14), (v 15), (v 16), (v 17), (v 18), (v 19), (v 20), (v 21), (v 22), (v 23), (v 24), (v 25), (v 26), (v 27), (v 28), (v 29), (v 30), (v 31), (v 32), (v 33), (v 34), (v 35), (v 36), (v 37), (v 38), (v 39), (v 40), (v 41), (v 42), (v 43), (v 44), (v 45), (v 46), (v 47), (v 48), (v 49), (v 50), (v 51)], []⟩ _
  refine wp_seq ?_
  conv => arg 2; whnf
  dsimp only
  rw [hl] at hGw
  by_cases hlt : k < t.pr.length
  · obtain ⟨b, o, hA, p0, p1⟩ := (HX.out.2.1.keep HG.out.2.1) k (by rw [prs_len]; exact hlt)
    obtain ⟨hb2, ho2, hH2, hc0⟩ := (HX.out.2.2.1.keep HG.out.2.1) k (by rw [hl]; exact hlt)
    rw [hA, hH2] at hGw
    have g1 : w.cell? ⟨G, 1, none⟩ = some (.slice (some ⟨b, o, none⟩) t.pr.length l.cp) := block_cell hGw (j := 1) (by simp)
    have g2 : w.cell? ⟨G, 2, none⟩ = some (.slice (some ⟨hb2, ho2, none⟩) t.pr.length l.ch) := block_cell hGw (j := 2) (by simp)
    have hklt : (k : Int) < t.pr.length := by omega
    obtain ⟨f1, f2, f3⟩ := prs_lt HX.out.1 hlt
    obtain ⟨x, hx⟩ : ∃ x, (gq (prs t) k).f = x := ⟨_, rfl⟩
    obtain ⟨y, hy⟩ : ∃ y, (gq (prs t) k).s = y := ⟨_, rfl⟩
    rw [hx] at p0 f1
    rw [hy] at p1 f2
    obtain ⟨sb, so, hSA, of⟩ := (HX.out.2.2.2.2.1.keep HG.out.2.1) x (by rw [alL_len]; exact f1)
    obtain ⟨sb', so', hSA', os⟩ := (HX.out.2.2.2.2.1.keep HG.out.2.1) y (by rw [alL_len]; exact f2)
    have hes : sb = sb' ∧ so = so' := by
      rw [hSA] at hSA'
      injection hSA' with h
      injection h with h1 h2
      exact ⟨h1, h2⟩
    clear hSA'
    obtain ⟨rfl, rfl⟩ := hes
    rw [alL_get f1] at of
    rw [alL_get f2] at os
    rw [hSA]
    have sbl : sb < W2.heap.size := by
      obtain ⟨b', o', e, h⟩ := HX.out.2.2.2.2.1 x (by rw [alL_len]; exact f1)
      rw [hSA] at e
      injection e with e; injection e with e
      subst e
      exact World.block_lt_of_cell? _ _ h
    obtain ⟨v2, v3⟩ := HX.out.2.2.2.2.2.1 x f1
    obtain ⟨v5, v6⟩ := HX.out.2.2.2.2.2.1 y f2
    obtain ⟨b1, b2⟩ := HX.out.2.2.2.2.2.2 k hlt
    have HMS := Lib.hid (show gi t.ph k - p y + p x = ms t t.ph p k by rw [← hx, ← hy]; rfl)
    have HA := Lib.hid (And.intro hA (And.intro hH2 hSA)); clear hA hH2 hSA
    have HN := Lib.hid (And.intro hx hy); clear hx hy f3 hGw
    have hBl := HG.out.2.1.size
    have hbl : hb2 < W2.heap.size := by
      obtain ⟨b', o', e, h⟩ := HX.out.2.2.1 k (by rw [hl]; exact hlt)
      rw [HA.out.2.1] at e
      injection e with e; injection e with e
      subst e
      exact World.block_lt_of_cell? _ _ h
    generalize p x = px at *
    generalize p y = py at *
    go_wp2_with fail
    conv => arg 2; whnf
    go_wp2_with fail
    refine nameC ?_
    intro W3 hW3
    have hb3 : Below w.heap.size w W3 := by rw [hW3]; exact (Below.refl _ _).alloc (Nat.le_refl _) _
    have hx3 : W3.heap[w.heap.size]? = some (.cells #[.int .i64 x, .int .i64 y] 60 (0, 0)) := by rw [hW3]; exact heap_alloc_new w _
    clear hW3
    have hS : ∀ q, q ∈ ApD.S ⟨W2.heap.size, A, c, (msL t t.ph p).take k, gi t.ph k - py + px⟩ → W2.heap.size ≤ q ∧ q < w.heap.size := fun q hq => by
      unfold ApD.S at hq
      rw [Option.mem_toList] at hq
      exact HG.out.1.lt hq
    refine rmiss_add (B := W2.heap.size) (xs := (msL t t.ph p).take k) (m := t.pr.length) (ch := l.ch) (msL_take hk) ⟨HG.out.1.keep hb3, Nat.le_trans hBl hb3.size, by rw [msL_take hk]; omega⟩ hlt h200 h60 f1 f2 (cell_keep hb3 g2) (cell_keep hb3 hc0) (block_cell hx3 (j := 0) (by simp)) (block_cell hx3 (j := 1) (by simp)) (cell_keep hb3 of) (cell_keep hb3 os) (by omega) ?_ ?_ ?_ ?_ ?_
    · exact fun h => by have := (hS _ h).1; omega
    · exact fun h => by have := (hS _ h).1; omega
    · exact fun h => by have := (hS _ h).2; omega
    · exact fun h => by have := (hS _ h).1; omega
    intro a' A' c' w' hT hG' hfr
    rename_i Q6 K6 hK6
    obtain ⟨v', rfl⟩ := hfr.open
    clear hfr
    refine hK6 _ _ ?_
    clear hK6
    rw [HMS.out, msL_snoc hlt] at hG'
    have hbw : Below W2.heap.size W2 w' := by
      refine hT.below (HG.out.2.1.trans (hb3.mono hBl)) (Nat.le_refl _) (fun q hq => ?_)
      rw [Option.mem_toList] at hq
      exact (HG.out.1.lt hq).1
    have HJ := Lib.hid (And.intro hG' hbw); clear hG' hbw hT hS
    show Code.wp Tryz.prog (Tryz.f20.sub [1, 1, 1, 1, 0, 1, 0, 0, 1, 1]) _ ⟨#[(v' 0), .pointer (some ⟨G, 0, none⟩), (v' 2), (v' 3), (v' 4), .slice (some ⟨sb, so, none⟩) t.sc.length sc, .slice A' (k + 1) c', .int .i64 k, (v' 8), (v' 9), (v' 10), (v' 11), (v' 12), (v' 13), (v' 14), (v' 15), (v' 16), (v' 17), (v' 18), (v' 19), (v' 20), (v' 21), (v' 22), (v' 23), (v' 24), (v' 25), (v' 26), (v' 27), (v' 28), (v' 29), (v' 30), (v' 31), (v' 32), (v' 33), (v' 34), (v' 35), (v' 36), (v' 37), (v' 38), (v' 39), (v' 40), (v' 41), (v' 42), (v' 43), (v' 44), (v' 45), (v' 46), (v' 47), (v' 48), (v' 49), (v' 50), (v' 51)], []⟩ _
    conv => arg 2; whnf
    dsimp only
    go_wp2_with fail
    refine ⟨⟨k + 1, A', c', by omega, HJ.out.1, HJ.out.2, ?_⟩, ?_⟩
    · refine ⟨rfl, rfl, rfl, ?_, rfl, ?_, trivial⟩
      · rfl
      · show Value.int .i64 ((k : Int) + 1) = _; go_num
    · show t.pr.length - ((k : Int) + 1).toNat < mu
      omega
  · obtain rfl : k = t.pr.length := by omega
    have g2 : w.cell? ⟨G, 2, none⟩ = some (.slice l.H t.pr.length l.ch) := block_cell hGw (j := 2) (by simp)
    go_wp2_with fail
    refine HQ.out _ _ A c ?_ HG.out.2.1 (by (refine ⟨rfl, rfl, ?_⟩; repeat (first | exact trivial | refine ⟨rfl, ?_⟩)))
    have := HG.out.1
    rwa [List.take_of_length_le (by rw [msL_len]; omega)] at this
theorem rmisses_c {t : Sk} {l : SkL} {w : World} {M : Int} (hN : NetM w t l) (ho : NetOk t) (hH : RdI w l.H t.ph) (hl : t.ph.length = t.pr.length) (hM : 0 ≤ M ∧ M ≤ 10000000000) (hb : ∀ i, i < t.pr.length → -M ≤ gi t.ph i ∧ gi t.ph i ≤ M) :
    Calls Tryz.prog 20 #[SkV t l] w (MissPost t t.ph M w) := by
  have HN := Lib.hid (And.intro hN (And.intro hH (And.intro ho (And.intro hl (And.intro hM hb))))); clear hN hH ho hl hM hb
  unfold SkV
  go_enter Tryz.func20, Tryz.ntmps20
  show Code.wp Tryz.prog (.seq (Tryz.f20.sub [0]) (.seq (Tryz.f20.sub [1, 0]) (.seq (Tryz.f20.sub [1, 1, 0]) (.seq (Tryz.f20.sub [1, 1, 1, 0]) (.seq (.seq (Tryz.f20.sub [1, 1, 1, 1, 0, 0]) (.block 0 (.loop (Tryz.f20.sub [1, 1, 1, 1, 0, 1, 0, 0])))) (Tryz.f20.sub [1, 1, 1, 1, 1])))))) _ _ _
  refine wp_seq ?_
  conv => arg 2; whnf
  go_wp2_with fail
  refine nameC ?_
  intro W1 hW1
  obtain ⟨hB1, e1⟩ := alloc1 w _ hW1
  clear hW1
  obtain ⟨G, hG⟩ : ∃ G, w.heap.size = G := ⟨_, rfl⟩
  rw [hG] at e1
  rw [hG]
  have g0 : W1.cell? ⟨G, 0, none⟩ = some (.slice l.S t.sc.length l.cs) := block_cell e1 (j := 0) (by simp)
  have g1 : W1.cell? ⟨G, 1, none⟩ = some (.slice l.P t.pr.length l.cp) := block_cell e1 (j := 1) (by simp)
  have HS := Lib.hid (rlightest_c (HN.out.1.keep hB1) HN.out.2.2.1)
  unfold NetV at HS
  have HB := Lib.hid (And.intro hB1 (And.intro e1 hG)); clear hB1 e1 hG
  conv => arg 2; whnf
  go_wp2_with fail
  refine HS.out.mono ?_
  rintro e W2 ⟨FA, fc, F, len, rfl, hB2, hF, hFr, hFl⟩
  obtain ⟨ys, T, u, p, hm, hFT⟩ := hFr.smt HN.out.2.2.1 t.ph
  have hb02 : Below w.heap.size w W2 := HB.out.1.trans (hB2.mono HB.out.1.size)
  have e2 := (hB2.block _ (Array.getElem?_eq_some_iff.1 HB.out.2.1).1).trans HB.out.2.1
  have g0 : W2.cell? ⟨G, 0, none⟩ = some (.slice l.S t.sc.length l.cs) := block_cell e2 (j := 0) (by simp)
  have g1 : W2.cell? ⟨G, 1, none⟩ = some (.slice l.P t.pr.length l.cp) := block_cell e2 (j := 1) (by simp)
  have g2 : W2.cell? ⟨G, 2, none⟩ = some (.slice l.H t.ph.length l.ch) := block_cell e2 (j := 2) (by simp)
  have g3 : W2.cell? ⟨G, 3, none⟩ = some (.slice l.W t.ws.length l.cw) := block_cell e2 (j := 3) (by simp)
  have HA := Lib.hid (along_c (fc := fc) (HN.out.1.keep hb02) HN.out.2.2.1 (HN.out.2.1.keep hb02) HN.out.2.2.2.1 HN.out.2.2.2.2.1 HN.out.2.2.2.2.2 hF (Nat.le_trans hFl HN.out.2.2.1.m_le) hm hFT)
  unfold SkV at HA
  have HE := Lib.hid (And.intro hb02 (And.intro e2 hm)); clear hb02 e2 hm hB2 HS hF hFr hFT
  go_wp2_with fail
  conv => arg 2; whnf
  go_wp2_with fail
  refine HA.out.mono ?_
  rintro e W3 ⟨SA, sc, rfl, hB3, hSA, hbd⟩
  have hb03 : Below w.heap.size w W3 := HE.out.1.trans (hB3.mono HE.out.1.size)
  have e3 := (hB3.block _ (Array.getElem?_eq_some_iff.1 HE.out.2.1).1).trans HE.out.2.1
  have HZ3 := Lib.hid (And.intro hb03 (And.intro e3 (And.intro hSA hbd))); clear hb03 e3 hSA hbd hB3 HA g0 g1 g2 g3
  go_wp2_with fail
  conv => arg 2; whnf
  go_wp2_with fail
  conv => arg 2; whnf
  go_wp2_with fail
  refine wp_loop (LoopRb W3 t p SA G sc) (fun a _ => t.pr.length - (intOf (a.tmps.getD 7 undef)).toNat) ⟨0, none, 0, Nat.zero_le _, GrF.start _ _, Below.refl _ _, by (refine ⟨rfl, rfl, ?_⟩; repeat (first | exact trivial | refine ⟨rfl, ?_⟩))⟩ ?_
  intro a wr hI
  refine rmiss_loop HN.out.2.2.1 ((HN.out.1.keep HZ3.out.1).rdq HN.out.2.2.1) (HN.out.2.1.keep HZ3.out.1) HN.out.2.2.2.1 HZ3.out.2.2.1.rd HZ3.out.2.2.2 HZ3.out.2.1 HN.out.2.2.2.2.1 HN.out.2.2.2.2.2 ?_ hI
  intro a' w' A c hGr hBl hfr
  rename_i K6 hK6
  obtain ⟨v, rfl⟩ := hfr.open
  clear hfr hI
  refine hK6 _ _ ?_
  clear hK6
  have HZ := Lib.hid (And.intro hGr hBl); clear hGr hBl
  show Code.wp Tryz.prog (Tryz.f20.sub [1, 1, 1, 1, 1]) _ ⟨#[(v 0), (v 1), (v 2), (v 3), (v 4), (v 5), .slice A t.pr.length c, (v 7), (v 8), (v 9), (v 10), (v 11), (v 12), (v 13), (v 14), (v 15), (v 16), (v 17), (v 18), (v 19), (v 20), (v 21), (v 22), (v 23), (v 24), (v 25), (v 26), (v 27), (v 28), (v 29), (v 30), (v 31), (v 32), (v 33), (v 34), (v 35), (v 36), (v 37), (v 38), (v 39), (v 40), (v 41), (v 42), (v 43), (v 44), (v 45), (v 46), (v 47), (v 48), (v 49), (v 50), (v 51)], []⟩ _
  conv => arg 2; whnf
  dsimp only
  go_wp2_with fail
  go_ret
  exact ⟨A, c, p, rfl, HZ3.out.1.trans (HZ.out.2.mono HZ3.out.1.size), ⟨ys, T, u, HE.out.2.2⟩, HZ.out.1.low HZ3.out.1.size, HZ3.out.2.2.2⟩
theorem rnet_add {xb k f s Gb Wb Wo lw cw Mb Mo mm mc B N c : Nat} {n : Int} {A : Option Addr} {es : List Ed} {x z : Int} {v2 v3 : Value} {W : World} {Q : Exit → Act → World → Prop} {u0 u6 u9 u10 u11 u12 u13 u14 u15 u16 u17 u18 u19 u20 u21 u22 u23 u24 u25 u26 u27 u28 u29 u30 u31 u32 u33 u34 u35 u36 u37 u38 u39 u40 u41 u42 u43 u44 u45 u46 u47 u48 u49 u50 u51 u52 u53 u54 u55 u56 u57 u58 u59 u60 u61 u62 u63 u64 u65 u66 u67 u68 u69 : Value}
    (hok : OneD.ok ⟨B, N, n, A, c, es, ⟨f, s, Int.tdiv z 4096, x.toNat⟩⟩ W)
    (p0 : W.cell? ⟨xb, 0, none⟩ = some (.int .i64 f)) (p1 : W.cell? ⟨xb, 1, none⟩ = some (.int .i64 s)) (hP : xb ∉ (OneD.S ⟨B, N, n, A, c, es, ⟨f, s, Int.tdiv z 4096, x.toNat⟩⟩))
    (y0 : W.cell? ⟨Gb, 3, none⟩ = some (.slice (some ⟨Wb, Wo, none⟩) lw cw)) (hY : Gb ∉ (OneD.S ⟨B, N, n, A, c, es, ⟨f, s, Int.tdiv z 4096, x.toNat⟩⟩))
    (yk : W.cell? ⟨Wb, Wo + k, none⟩ = some (.int .i64 x)) (hYk : Wb ∉ (OneD.S ⟨B, N, n, A, c, es, ⟨f, s, Int.tdiv z 4096, x.toNat⟩⟩))
    (mk : W.cell? ⟨Mb, Mo + k, none⟩ = some (.int .i64 z)) (hMk : Mb ∉ (OneD.S ⟨B, N, n, A, c, es, ⟨f, s, Int.tdiv z 4096, x.toNat⟩⟩)) (hk : k < lw) (hkm : k < mm) (hl : lw ≤ 10000) (hmm : mm ≤ 10000) (hx : 0 ≤ x ∧ x ≤ 1000)
    (hz : -100000000000000 ≤ z ∧ z ≤ 100000000000000) (hz2 : -100000000000000 ≤ Int.tdiv z 4096 ∧ Int.tdiv z 4096 ≤ 100000000000000)
    (hQ : ∀ a' w' v1 v2', OneC W ⟨B, N, n, A, c, es, ⟨f, s, Int.tdiv z 4096, x.toNat⟩⟩ true true true v1 v2' w' → Fr 70 [(1, .pointer (some ⟨Gb, 0, none⟩)), (2, v2), (3, v3), (4, .pointer (some ⟨N, 0, none⟩)), (5, .slice (some ⟨Mb, Mo, none⟩) mm mc), (7, .int .i64 k)] a' → Q .normal a' w') :
    Code.wp Tryz.prog (Tryz.f8.sub [1, 1, 1, 1, 0, 1, 0, 0, 1, 0, 0, 1, 1]) Q ⟨#[u0, .pointer (some ⟨Gb, 0, none⟩), v2, v3, .pointer (some ⟨N, 0, none⟩), .slice (some ⟨Mb, Mo, none⟩) mm mc, u6, .int .i64 k, .pointer (some ⟨xb, 0, none⟩), u9, u10, u11, u12, u13, u14, u15, u16, u17, u18, u19, u20, u21, u22, u23, u24, u25, u26, u27, u28, u29, u30, u31, u32, u33, u34, u35, u36, u37, u38, u39, u40, u41, u42, u43, u44, u45, u46, u47, u48, u49, u50, u51, u52, u53, u54, u55, u56, u57, u58, u59, u60, u61, u62, u63, u64, u65, u66, u67, u68, u69], []⟩ W := by
  have HK := Lib.hid hok; clear hok
  have HQ := Lib.hid hQ; clear hQ
  obtain ⟨x1, x2⟩ := hx
  obtain ⟨z1, z2⟩ := hz
  obtain ⟨z3, z4⟩ := hz2
  have hkw : (k : Int) < lw := by omega
  have hkmm : (k : Int) < mm := by omega
  have hxx : ((x.toNat : Nat) : Int) = x := by omega
  conv => arg 2; whnf
  dsimp only
  generalize hye : (⟨f, s, Int.tdiv z 4096, x.toNat⟩ : Ed) = y at *
  have HYe := Lib.hid hye; clear hye
  refine region_rel (by kernel_rfl) (by kernel_rfl) (by kernel_rfl) (fun L V w' => OneC W ⟨B, N, n, A, c, es, y⟩ (L 17) (L 18) (L 20) (V 17) (V 18) w') (OneC.start HK.out _ rfl) ?_
  (refine rel_val rfl (.pointer (some ⟨N, 1, none⟩)) (fun _ _ _ h => OneC.up rfl h) (fun V L w h1 h2 h3 hC => by unfold execOp; go_simp; try exact IntWalk.i64_in _ (by omega)) ?_; simp only [Fam.pt])
  refine rel_val rfl (.slice A es.length c) (fun _ _ _ h => OneC.up rfl h) (fun V L w h1 h2 h3 hC => ex_load1 _ _ rfl _ rfl (OneC.ev_list (by kernel_rfl) h1 h3 hC) _ Tryz.underlying35 rfl) ?_
  simp only [Fam.pt]
  (refine rel_val rfl (.pointer (some ⟨xb, 0, none⟩)) (fun _ _ _ h => OneC.up rfl h) (fun V L w h1 h2 h3 hC => by unfold execOp; go_simp; try exact IntWalk.i64_in _ (by omega)) ?_; simp only [Fam.pt])
  (refine rel_val rfl _ (fun _ _ _ h => OneC.up rfl h) (fun V L w h1 h2 h3 hC => ex_load1 _ _ rfl _ rfl (OneC.far hC (by exact hP) p0) _ Tryz.underlying3 rfl) ?_; simp only [Fam.pt])
  (refine rel_val rfl (.pointer (some ⟨xb, 1, none⟩)) (fun _ _ _ h => OneC.up rfl h) (fun V L w h1 h2 h3 hC => by unfold execOp; go_simp; try exact IntWalk.i64_in _ (by omega)) ?_; simp only [Fam.pt])
  (refine rel_val rfl _ (fun _ _ _ h => OneC.up rfl h) (fun V L w h1 h2 h3 hC => ex_load1 _ _ rfl _ rfl (OneC.far hC (by exact hP) p1) _ Tryz.underlying3 rfl) ?_; simp only [Fam.pt])
  (refine rel_val rfl (.slice (some ⟨Mb, Mo, none⟩) mm mc) (fun _ _ _ h => OneC.up rfl h) (fun V L w h1 h2 h3 hC => by unfold execOp; go_simp; try exact IntWalk.i64_in _ (by omega)) ?_; simp only [Fam.pt])
  (refine rel_val rfl (.int .i64 k) (fun _ _ _ h => OneC.up rfl h) (fun V L w h1 h2 h3 hC => by unfold execOp; go_simp; try exact IntWalk.i64_in _ (by omega)) ?_; simp only [Fam.pt])
  (refine rel_val rfl (.pointer (some ⟨Mb, Mo + k, none⟩)) (fun _ _ _ h => OneC.up rfl h) (fun V L w h1 h2 h3 hC => by unfold execOp; go_simp; try exact IntWalk.i64_in _ (by omega)) ?_; simp only [Fam.pt])
  (refine rel_val rfl _ (fun _ _ _ h => OneC.up rfl h) (fun V L w h1 h2 h3 hC => ex_load1 _ _ rfl _ rfl (OneC.far hC (by exact hMk) mk) _ Tryz.underlying3 rfl) ?_; simp only [Fam.pt])
  (refine rel_val rfl (.int .i64 (Int.tdiv z 4096)) (fun _ _ _ h => OneC.up rfl h) (fun V L w h1 h2 h3 hC => by unfold execOp; go_simp; try exact IntWalk.i64_in _ (by omega)) ?_; simp only [Fam.pt])
  (refine rel_val rfl (.pointer (some ⟨Gb, 3, none⟩)) (fun _ _ _ h => OneC.up rfl h) (fun V L w h1 h2 h3 hC => by unfold execOp; go_simp; try exact IntWalk.i64_in _ (by omega)) ?_; simp only [Fam.pt])
  (refine rel_val rfl _ (fun _ _ _ h => OneC.up rfl h) (fun V L w h1 h2 h3 hC => ex_load1 _ _ rfl _ rfl (OneC.far hC (by exact hY) y0) _ Tryz.underlying26 rfl) ?_; simp only [Fam.pt])
  (refine rel_val rfl (.int .i64 k) (fun _ _ _ h => OneC.up rfl h) (fun V L w h1 h2 h3 hC => by unfold execOp; go_simp; try exact IntWalk.i64_in _ (by omega)) ?_; simp only [Fam.pt])
  (refine rel_val rfl (.pointer (some ⟨Wb, Wo + k, none⟩)) (fun _ _ _ h => OneC.up rfl h) (fun V L w h1 h2 h3 hC => by unfold execOp; go_simp; try exact IntWalk.i64_in _ (by omega)) ?_; simp only [Fam.pt])
  (refine rel_val rfl _ (fun _ _ _ h => OneC.up rfl h) (fun V L w h1 h2 h3 hC => ex_load1 _ _ rfl _ rfl (OneC.far hC (by exact hYk) yk) _ Tryz.underlying3 rfl) ?_; simp only [Fam.pt])
  (refine rel_val rfl (.agg #[.int .i64 f, .int .i64 s, .int .i64 (Int.tdiv z 4096), .int .i64 x]) (fun _ _ _ h => OneC.up rfl h) (fun V L w h1 h2 h3 hC => by unfold execOp; go_simp; try exact IntWalk.i64_in _ (by omega)) ?_; simp only [Fam.pt])
  refine rel_free rfl (fun V L w h1 h2 h3 hC => ?_) ?_
  · rw [ex_sliceE _ rfl y (by rw [← HYe.out, edV, hxx]; rfl)]
    exact OneC.ev_made (by decide) HK.out (by kernel_rfl) h1 h3 hC
  simp only [Fam.pt]
  refine rel_free rfl (fun V L w h1 h2 h3 hC => ?_) ?_
  · obtain ⟨v, w', k1, k2⟩ := OneC.ev_app (by decide) HK.out hC h1 h3 (by kernel_rfl) h2 (by kernel_rfl) _
    rw [ex_append _ _ _ rfl rfl rfl k1]
    exact k2
  simp only [Fam.pt]
  (refine rel_val rfl (.pointer (some ⟨N, 1, none⟩)) (fun _ _ _ h => OneC.up rfl h) (fun V L w h1 h2 h3 hC => by unfold execOp; go_simp; try exact IntWalk.i64_in _ (by omega)) ?_; simp only [Fam.pt])
  refine rel_fix rfl undef (fun V L w h1 h2 h3 hC => ?_) ?_
  · obtain ⟨⟨A1, c1, k1⟩, ⟨⟨x, k2⟩, k3⟩, k4⟩ := OneC.ev_put (by decide) HK.out hC h1 h2 (by kernel_rfl)
    rw [ex_store1 35 _ _ rfl N 1 _ rfl rfl k2 k3 (by kernel_rfl) (by rw [k1]; rfl) (by rw [k1]; rfl)]
    exact ⟨rfl, k4⟩
  simp only [Fam.pt]
  intro V L w' hL hC
  rw [hL 17 (by decide), hL 18 (by decide), hL 20 (by decide)] at hC
  exact HQ.out _ w' _ _ hC ⟨rfl, rfl, rfl, rfl, rfl, rfl, rfl, rfl, trivial⟩
end Go.Proofs.YtjnpchoinncbnaaGreat
end
