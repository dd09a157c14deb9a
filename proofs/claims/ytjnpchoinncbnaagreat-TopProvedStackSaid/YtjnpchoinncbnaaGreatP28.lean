/- Proves parts of the statement, each under the conditions that its theorem states: The misses: one is put behind; The misses of a task; The net of a stack: an edge is put behind; The net of a stack: the loop. -/
import Derived.Test.YtjnpchoinncbnaaGreatP08
import Derived.Test.YtjnpchoinncbnaaGreatP27
import Derived.Test.YtjnpchoinncbnaaGreatP13
set_option linter.unusedSimpArgs false
set_option linter.unusedVariables false
set_option maxHeartbeats 4000000
set_option maxRecDepth 100000
section
namespace Go.Proofs.YtjnpchoinncbnaaGreat
open Go.RowKit Sw Fam
theorem miss_add {B c hb ho m ch k xb f s n ob q : Nat} {A : Option Addr} {xs : List Int} {y a b : Int} {v14 v15 v16 v2 : Value} {W : World} {Q : Exit → Act → World → Prop} {u0 u3 u4 u9 u10 u11 u12 u13 u17 u18 u19 u20 u21 u22 u23 u24 u25 u26 u27 u28 u29 u30 u31 u32 u33 u34 u35 u36 u37 u38 u39 u40 u41 : Value}
    (hq : xs.length = q) (hok : ApD.ok ⟨B, A, c, xs, y - b + a⟩ W) (hk : k < m) (hm : m ≤ 200) (hn : n ≤ 60) (hf : f < n) (hs : s < n)
    (c0 : W.cell? ⟨hb, ho + k, none⟩ = some (.int .i64 y)) (x0 : W.cell? ⟨xb, 0, none⟩ = some (.int .i64 f)) (x1 : W.cell? ⟨xb, 1, none⟩ = some (.int .i64 s))
    (of : W.cell? ⟨ob, f, none⟩ = some (.int .i64 a)) (os : W.cell? ⟨ob, s, none⟩ = some (.int .i64 b)) (hbd : (-10000000000 ≤ y ∧ y ≤ 10000000000) ∧ (-1000000000000 ≤ a ∧ a ≤ 1000000000000) ∧ (-1000000000000 ≤ b ∧ b ≤ 1000000000000))
    (n1 : hb ∉ ApD.S ⟨B, A, c, xs, y - b + a⟩) (n2 : xb ∉ ApD.S ⟨B, A, c, xs, y - b + a⟩) (n3 : ob ∉ ApD.S ⟨B, A, c, xs, y - b + a⟩)
    (hQ : ∀ a' A' c' w', Tch (A.map (·.block)).toList W w' → GrI w' B A' c' (xs ++ [y - b + a]) → Fr 42 [(1, .slice (some ⟨hb, ho, none⟩) m ch), (2, v2), (5, .slice (some ⟨ob, 0, none⟩) n n), (6, .slice A' (q + 1) c'), (14, v14), (15, v15), (16, v16)] a' → Q .normal a' w') :
    Code.wp Tryz.prog (Tryz.f27.sub [1, 1, 1, 0, 1, 0, 0, 1, 1, 0, 0, 1]) Q ⟨#[u0, .slice (some ⟨hb, ho, none⟩) m ch, v2, u3, u4, .slice (some ⟨ob, 0, none⟩) n n, .slice A q c, .int .i64 k, .pointer (some ⟨xb, 0, none⟩), u9, u10, u11, u12, u13, v14, v15, v16, u17, u18, u19, u20, u21, u22, u23, u24, u25, u26, u27, u28, u29, u30, u31, u32, u33, u34, u35, u36, u37, u38, u39, u40, u41], []⟩ W := by
  subst hq
  have HK := Lib.hid hok; clear hok
  have HQ := Lib.hid hQ; clear hQ
  obtain ⟨⟨y1, y2⟩, ⟨a1, a2⟩, ⟨b1, b2⟩⟩ := hbd
  have hkm : (k : Int) < m := by omega
  have hfn : (f : Int) < n := by omega
  have hsn : (s : Int) < n := by omega
  conv => arg 2; whnf
  dsimp only
  refine region_rel (by kernel_rfl) (by kernel_rfl) (by kernel_rfl) (ApG W ⟨B, A, c, xs, y - b + a⟩ 17 18 19) (ApG.start HK.out) ?_
  (refine rel_val rfl (.slice A xs.length c) (fun _ _ _ h => ApG.up rfl h) (fun V L w h1 h2 h3 hC => by unfold execOp; go_simp; try exact IntWalk.i64_in _ (by omega)) ?_; simp only [Fam.pt])
  (refine rel_val rfl (.slice (some ⟨hb, ho, none⟩) m ch) (fun _ _ _ h => ApG.up rfl h) (fun V L w h1 h2 h3 hC => by unfold execOp; go_simp; try exact IntWalk.i64_in _ (by omega)) ?_; simp only [Fam.pt])
  (refine rel_val rfl (.int .i64 k) (fun _ _ _ h => ApG.up rfl h) (fun V L w h1 h2 h3 hC => by unfold execOp; go_simp; try exact IntWalk.i64_in _ (by omega)) ?_; simp only [Fam.pt])
  (refine rel_val rfl (.pointer (some ⟨hb, ho + k, none⟩)) (fun _ _ _ h => ApG.up rfl h) (fun V L w h1 h2 h3 hC => by unfold execOp; go_simp; try exact IntWalk.i64_in _ (by omega)) ?_; simp only [Fam.pt])
  (refine rel_val rfl _ (fun _ _ _ h => ApG.up rfl h) (fun V L w h1 h2 h3 hC => ex_load1 _ _ rfl _ rfl (ApG.far hC (by exact n1) c0) _ Tryz.underlying3 rfl) ?_; simp only [Fam.pt])
  (refine rel_val rfl (.slice (some ⟨ob, 0, none⟩) n n) (fun _ _ _ h => ApG.up rfl h) (fun V L w h1 h2 h3 hC => by unfold execOp; go_simp; try exact IntWalk.i64_in _ (by omega)) ?_; simp only [Fam.pt])
  (refine rel_val rfl (.pointer (some ⟨xb, 1, none⟩)) (fun _ _ _ h => ApG.up rfl h) (fun V L w h1 h2 h3 hC => by unfold execOp; go_simp; try exact IntWalk.i64_in _ (by omega)) ?_; simp only [Fam.pt])
  (refine rel_val rfl _ (fun _ _ _ h => ApG.up rfl h) (fun V L w h1 h2 h3 hC => ex_load1 _ _ rfl _ rfl (ApG.far hC (by exact n2) x1) _ Tryz.underlying3 rfl) ?_; simp only [Fam.pt])
  (refine rel_val rfl (.pointer (some ⟨ob, s, none⟩)) (fun _ _ _ h => ApG.up rfl h) (fun V L w h1 h2 h3 hC => by unfold execOp; go_simp; try exact IntWalk.i64_in _ (by omega)) ?_; simp only [Fam.pt])
  (refine rel_val rfl _ (fun _ _ _ h => ApG.up rfl h) (fun V L w h1 h2 h3 hC => ex_load1 _ _ rfl _ rfl (ApG.far hC (by exact n3) os) _ Tryz.underlying3 rfl) ?_; simp only [Fam.pt])
  (refine rel_val rfl (.int .i64 (y - b)) (fun _ _ _ h => ApG.up rfl h) (fun V L w h1 h2 h3 hC => by unfold execOp; go_simp; try exact IntWalk.i64_in _ (by omega)) ?_; simp only [Fam.pt])
  (refine rel_val rfl (.slice (some ⟨ob, 0, none⟩) n n) (fun _ _ _ h => ApG.up rfl h) (fun V L w h1 h2 h3 hC => by unfold execOp; go_simp; try exact IntWalk.i64_in _ (by omega)) ?_; simp only [Fam.pt])
  (refine rel_val rfl (.pointer (some ⟨xb, 0, none⟩)) (fun _ _ _ h => ApG.up rfl h) (fun V L w h1 h2 h3 hC => by unfold execOp; go_simp; try exact IntWalk.i64_in _ (by omega)) ?_; simp only [Fam.pt])
  (refine rel_val rfl _ (fun _ _ _ h => ApG.up rfl h) (fun V L w h1 h2 h3 hC => ex_load1 _ _ rfl _ rfl (ApG.far hC (by exact n2) x0) _ Tryz.underlying3 rfl) ?_; simp only [Fam.pt])
  (refine rel_val rfl (.pointer (some ⟨ob, f, none⟩)) (fun _ _ _ h => ApG.up rfl h) (fun V L w h1 h2 h3 hC => by unfold execOp; go_simp; try exact IntWalk.i64_in _ (by omega)) ?_; simp only [Fam.pt])
  (refine rel_val rfl _ (fun _ _ _ h => ApG.up rfl h) (fun V L w h1 h2 h3 hC => ex_load1 _ _ rfl _ rfl (ApG.far hC (by exact n3) of) _ Tryz.underlying3 rfl) ?_; simp only [Fam.pt])
  (refine rel_val rfl (.int .i64 (y - b + a)) (fun _ _ _ h => ApG.up rfl h) (fun V L w h1 h2 h3 hC => by unfold execOp; go_simp; try exact IntWalk.i64_in _ (by omega)) ?_; simp only [Fam.pt])
  refine rel_free rfl (fun V L w h1 h2 h3 hC => ?_) ?_
  · rw [ex_sliceI _ rfl (y - b + a) rfl]
    exact ApG.ev_made (by decide) (by kernel_rfl) h1 h3 hC
  simp only [Fam.pt]
  refine rel_free rfl (fun V L w h1 h2 h3 hC => ?_) ?_
  · obtain ⟨v, w', k1, k2⟩ := ApG.ev_app (by decide) HK.out hC h1 (by kernel_rfl) h3 h2 (by kernel_rfl) _
    rw [ex_append _ _ _ rfl rfl rfl k1]
    exact k2
  simp only [Fam.pt]
  refine rel_free rfl (fun V L w h1 h2 h3 hC => ?_) ?_
  · rw [ex_asg _ rfl]
    exact ApG.ev_asg (by decide) hC
  simp only [Fam.pt]
  intro V L w' hL hC
  have h1 := hC.f.a1
  rw [if_pos (hL 18 (by decide))] at h1
  obtain ⟨A', c', e, hg⟩ := h1
  refine HQ.out _ A' c' w' hC.f.tch hg ⟨rfl, rfl, rfl, rfl, rfl, (hC.g (hL 19 (by decide))).trans e, rfl, rfl, rfl, trivial⟩
def ms (t : Sk) (ph : List Int) (p : Nat → Int) (i : Nat) : Int := gi ph i - p (gq (prs t) i).s + p (gq (prs t) i).f
def msL (t : Sk) (ph : List Int) (p : Nat → Int) : List Int := (List.range t.pr.length).map (ms t ph p)
theorem msL_len (t : Sk) (ph : List Int) (p : Nat → Int) : (msL t ph p).length = t.pr.length := by simp [msL]
theorem msL_get {t : Sk} {ph : List Int} {p : Nat → Int} {k : Nat} (hk : k < t.pr.length) : gi (msL t ph p) k = ms t ph p k := by
  unfold msL gi
  simp [List.getD_eq_getElem?_getD, hk]
theorem msL_snoc {t : Sk} {ph : List Int} {p : Nat → Int} {k : Nat} (hk : k < t.pr.length) : (msL t ph p).take k ++ [ms t ph p k] = (msL t ph p).take (k + 1) := by
  rw [take_snoc_i (by rw [msL_len]; exact hk), msL_get hk]
theorem msL_take {t : Sk} {ph : List Int} {p : Nat → Int} {k : Nat} (hk : k ≤ t.pr.length) : ((msL t ph p).take k).length = k := by rw [List.length_take, msL_len]; omega
def MissPost (t : Sk) (ph : List Int) (M : Int) (w : World) (e : Ending) (w' : World) : Prop :=
  ∃ A c p, e = .returned (.slice A t.pr.length c) ∧ Below w.heap.size w w' ∧ Sms t ph p ∧ GrI w' w.heap.size A c (msL t ph p) ∧ ∀ v, v < t.sc.length → -(M * 60) ≤ p v ∧ p v ≤ M * 60
def LoopMs (W2 : World) (t : Sk) (l : SkL) (H : Option Addr) (ph : List Int) (p : Nat → Int) (ob ch : Nat) (a : Act) (w : World) : Prop :=
  ∃ (k : Nat) (A : Option Addr) (c : Nat), k ≤ t.pr.length ∧ GrI w W2.heap.size A c ((msL t ph p).take k) ∧ Below W2.heap.size W2 w ∧
    Fr 42 [(1, .slice H ph.length ch), (5, .slice (some ⟨ob, 0, none⟩) t.sc.length t.sc.length), (6, .slice A k c), (14, .slice l.P t.pr.length l.cp), (15, .int .i64 t.pr.length), (16, .int .i64 k)] a
theorem miss_loop {t : Sk} {l : SkL} {H : Option Addr} {ph out : List Int} {p : Nat → Int} {M : Int} {ob ch : Nat} {W2 : World} (ho : NetOk t) (hP : RdQ W2 l.P (prs t)) (hH : RdI W2 H ph) (hl : ph.length = t.pr.length) (hO : IntB W2 ob out) (hol : out.length = t.sc.length) (hv : ∀ v, v < t.sc.length → gi out v = p v ∧ -(M * 60) ≤ p v ∧ p v ≤ M * 60)
    (hM : 0 ≤ M ∧ M ≤ 10000000000) (hb : ∀ i, i < t.pr.length → -M ≤ gi ph i ∧ gi ph i ≤ M) {Q : Exit → Act → World → Prop}
    (hQ : ∀ a w A c, GrI w W2.heap.size A c (msL t ph p) → Below W2.heap.size W2 w → Fr 42 [(6, .slice A t.pr.length c)] a → Q (.exit 0) a w) {a : Act} {w : World} (hI : LoopMs W2 t l H ph p ob ch a w) :
    Code.wp Tryz.prog (Tryz.f27.sub [1, 1, 1, 0, 1, 0, 0]) (Exit.then (fun a' w' => LoopMs W2 t l H ph p ob ch a' w' ∧ t.pr.length - (intOf (a'.tmps.getD 16 undef)).toNat < t.pr.length - (intOf (a.tmps.getD 16 undef)).toNat) Q) a w := by
  obtain ⟨k, A, c, hk, hG, hB, hfr⟩ := hI
  obtain ⟨v, rfl⟩ := hfr.open
  clear hfr
  generalize hmu : t.pr.length - (intOf ((⟨frL 42 _ v, []⟩ : Act).tmps.getD 16 undef)).toNat = mu
  have hmu' : t.pr.length - k = mu := by rw [← hmu]; rfl
  clear hmu
  have h60 := ho.n_le
  have h200 := ho.m_le
  obtain ⟨M1, M2⟩ := hM
  have HX := Lib.hid (And.intro ho (And.intro hP (And.intro hH (And.intro hl (And.intro hO (And.intro hol (And.intro hv hb)))))))
  clear ho hP hH hO hol hv hb
  have HQ := Lib.hid hQ; clear hQ
  have HG := Lib.hid (And.intro hG hB); clear hG hB
  show Code.wp Tryz.prog (.seq (Tryz.f27.sub [1, 1, 1, 0, 1, 0, 0, 0]) (.seq (Tryz.f27.sub [1, 1, 1, 0, 1, 0, 0, 1, 0]) (.seq (.block 1 (.seq (Tryz.f27.sub [1, 1, 1, 0, 1, 0, 0, 1, 1, 0, 0, 0]) (Tryz.f27.sub [1, 1, 1, 0, 1, 0, 0, 1, 1, 0, 0, 1]))) (Tryz.f27.sub [1, 1, 1, 0, 1, 0, 0, 1, 1, 1])))) _
    ⟨#[(v 0), .slice H ph.length ch, (v 2), (v 3), (v 4), .slice (some ⟨ob, 0, none⟩) t.sc.length t.sc.length, .slice A k c, (v 7), (v 8), (v 9), (v 10), (v 11), (v 12), (v 13), .slice l.P t.pr.length l.cp, .int .i64 t.pr.length, .int .i64 k, (v 17), (v 18), (v 19), (v 20), (v 21), (v 22), (v 23), (v 24), (v 25), (v 26), (v 27), (v 28), (v 29), (v 30), (v 31), (v 32), (v 33), (v 34), (v 35), (v 36), (v 37), (v 38), (v 39), (v 40), (v 41)], []⟩ _
  refine wp_seq ?_
  conv => arg 2; whnf
  dsimp only
  by_cases hlt : k < t.pr.length
  · obtain ⟨b, o, hA, p0, p1⟩ := (HX.out.2.1.keep (HG.out.2)) k (by rw [prs_len]; exact hlt)
    obtain ⟨hb2, ho2, hH2, hc0⟩ := (HX.out.2.2.1.keep HG.out.2) k (by rw [hl]; exact hlt)
    rw [hA, hH2]
    have HA := Lib.hid (And.intro hA hH2); clear hA hH2
    have hklt : (k : Int) < t.pr.length := by omega
    obtain ⟨f1, f2, f3⟩ := prs_lt HX.out.1 hlt
    obtain ⟨x, hx⟩ : ∃ x, (gq (prs t) k).f = x := ⟨_, rfl⟩
    obtain ⟨y, hy⟩ : ∃ y, (gq (prs t) k).s = y := ⟨_, rfl⟩
    rw [hx] at p0 f1
    rw [hy] at p1 f2
    have of := (HX.out.2.2.2.2.1.keep HG.out.2).cell (j := x) (by rw [HX.out.2.2.2.2.2.1]; exact f1)
    have os := (HX.out.2.2.2.2.1.keep HG.out.2).cell (j := y) (by rw [HX.out.2.2.2.2.2.1]; exact f2)
    obtain ⟨v1, v2, v3⟩ := HX.out.2.2.2.2.2.2.1 x f1
    obtain ⟨v4, v5, v6⟩ := HX.out.2.2.2.2.2.2.1 y f2
    obtain ⟨b1, b2⟩ := HX.out.2.2.2.2.2.2.2 k hlt
    have HMS := Lib.hid (show gi ph k - gi out y + gi out x = ms t ph p k by rw [v1, v4, ← hx, ← hy]; rfl)
    rw [← v1] at v2 v3
    rw [← v4] at v5 v6
    have HN := Lib.hid (And.intro hx hy); clear hx hy v1 v4 f3
    have hBl := HG.out.2.size
    have obl := (HX.out.2.2.2.2.1).lt
    have hbl : hb2 < W2.heap.size := by
      obtain ⟨b', o', e, h⟩ := HX.out.2.2.1 k (by rw [hl]; exact hlt)
      rw [HA.out.2] at e
      injection e with e; injection e with e
      subst e
      exact World.block_lt_of_cell? _ _ h
    have hbl2 : ph.length ≤ 200 := by omega
    go_wp2_with fail
    conv => arg 2; whnf
    go_wp2_with fail
    conv => arg 2; whnf
    go_wp2_with fail
    refine nameC ?_
    intro W3 hW3
    have hb3 : Below w.heap.size w W3 := by rw [hW3]; exact (Below.refl _ _).alloc (Nat.le_refl _) _
    have hx3 : W3.heap[w.heap.size]? = some (.cells #[.int .i64 x, .int .i64 y] 60 (0, 0)) := by rw [hW3]; exact heap_alloc_new w _
    clear hW3
    have hS : ∀ q, q ∈ ApD.S ⟨W2.heap.size, A, c, (msL t ph p).take k, gi ph k - gi out y + gi out x⟩ → W2.heap.size ≤ q ∧ q < w.heap.size := fun q hq => by
      unfold ApD.S at hq
      rw [Option.mem_toList] at hq
      exact HG.out.1.lt hq
    refine miss_add (B := W2.heap.size) (xs := (msL t ph p).take k) (v2 := v 2) (v14 := .slice (some ⟨b, o, none⟩) t.pr.length l.cp) (msL_take hk) ⟨HG.out.1.keep hb3, Nat.le_trans hBl hb3.size, by rw [msL_take hk]; omega⟩ (by omega) hbl2 h60 f1 f2 (cell_keep hb3 hc0) (block_cell hx3 (j := 0) (by simp)) (block_cell hx3 (j := 1) (by simp)) (cell_keep hb3 of) (cell_keep hb3 os) (by omega) ?_ ?_ ?_ ?_
    · exact fun h => by have := (hS _ h).1; omega
    · exact fun h => by have := (hS _ h).2; omega
    · exact fun h => by have := (hS _ h).1; omega
    intro a' A' c' w' hT hG' hfr
    rename_i Q6 K6 hK6
    obtain ⟨v', rfl⟩ := hfr.open
    clear hfr
    refine hK6 _ _ ?_
    clear hK6
    rw [HMS.out, msL_snoc hlt] at hG'
    have hbw : Below W2.heap.size W2 w' := by
      refine hT.below (HG.out.2.trans (hb3.mono hBl)) (Nat.le_refl _) (fun q hq => ?_)
      rw [Option.mem_toList] at hq
      exact (HG.out.1.lt hq).1
    have HJ := Lib.hid (And.intro hG' hbw); clear hG' hbw hT hS
    show Code.wp Tryz.prog (Tryz.f27.sub [1, 1, 1, 0, 1, 0, 0, 1, 1, 1]) _ ⟨#[(v' 0), .slice (some ⟨hb2, ho2, none⟩) ph.length ch, v 2, (v' 3), (v' 4), .slice (some ⟨ob, 0, none⟩) t.sc.length t.sc.length, .slice A' (k + 1) c', (v' 7), (v' 8), (v' 9), (v' 10), (v' 11), (v' 12), (v' 13), .slice (some ⟨b, o, none⟩) t.pr.length l.cp, .int .i64 t.pr.length, .int .i64 k, (v' 17), (v' 18), (v' 19), (v' 20), (v' 21), (v' 22), (v' 23), (v' 24), (v' 25), (v' 26), (v' 27), (v' 28), (v' 29), (v' 30), (v' 31), (v' 32), (v' 33), (v' 34), (v' 35), (v' 36), (v' 37), (v' 38), (v' 39), (v' 40), (v' 41)], []⟩ _
    conv => arg 2; whnf
    dsimp only
    go_wp2_with fail
    refine ⟨⟨k + 1, A', c', by omega, HJ.out.1, HJ.out.2, ?_⟩, ?_⟩
    · refine ⟨rfl, rfl, rfl, rfl, rfl, ?_, rfl, ?_, trivial⟩
      · rw [HA.out.1]; rfl
      · show Value.int .i64 ((k : Int) + 1) = _; go_num
    · show t.pr.length - ((k : Int) + 1).toNat < mu
      omega
  · obtain rfl : k = t.pr.length := by omega
    go_wp2_with fail
    conv => arg 2; whnf
    go_wp2_with fail
    refine HQ.out _ _ A c ?_ HG.out.2 (by (refine ⟨rfl, rfl, ?_⟩; repeat (first | exact trivial | refine ⟨rfl, ?_⟩)))
    have := HG.out.1
    rwa [List.take_of_length_le (by rw [msL_len]; omega)] at this
theorem misses_c {t : Sk} {l : SkL} {w : World} {H : Option Addr} {ch : Nat} {ph : List Int} {M : Int} (hN : NetM w t l) (ho : NetOk t) (hR : RdI w H ph) (hl : ph.length = t.pr.length) (hM : 0 ≤ M ∧ M ≤ 10000000000) (hb : ∀ i, i < t.pr.length → -M ≤ gi ph i ∧ gi ph i ≤ M) :
    Calls Tryz.prog 27 #[NetV t l, .slice H ph.length ch] w (MissPost t ph M w) := by
  have HN := Lib.hid (And.intro hN (And.intro hR (And.intro ho (And.intro hl (And.intro hM hb))))); clear hN hR ho hl hM hb
  unfold NetV
  go_enter Tryz.func27, Tryz.ntmps27
  show Code.wp Tryz.prog (.seq (Tryz.f27.sub [0]) (.seq (Tryz.f27.sub [1, 0]) (.seq (Tryz.f27.sub [1, 1, 0]) (.seq (.seq (Tryz.f27.sub [1, 1, 1, 0, 0]) (.block 0 (.loop (Tryz.f27.sub [1, 1, 1, 0, 1, 0, 0])))) (Tryz.f27.sub [1, 1, 1, 1]))))) _ _ _
  refine wp_seq ?_
  conv => arg 2; whnf
  go_wp2_with fail
  refine nameC ?_
  intro W1 hW1
  obtain ⟨hB1, e1⟩ := alloc1 w _ hW1
  clear hW1
  obtain ⟨G, hG⟩ : ∃ G, w.heap.size = G := ⟨_, rfl⟩
  rw [hG] at e1
  rw [hG]
  have g0 : W1.cell? ⟨G, 0, none⟩ = some (.slice l.S t.sc.length l.cs) := block_cell e1 (j := 0) (by simp)
  have g1 : W1.cell? ⟨G, 1, none⟩ = some (.slice l.P t.pr.length l.cp) := block_cell e1 (j := 1) (by simp)
  have HS := Lib.hid (sums_c (M := M) (l := l) (ch := ch) (HN.out.1.keep hB1) HN.out.2.2.1 (HN.out.2.1.keep hB1) HN.out.2.2.2.1 HN.out.2.2.2.2.1 HN.out.2.2.2.2.2)
  unfold NetV at HS
  have HB := Lib.hid (And.intro hB1 (And.intro e1 hG)); clear hB1 e1 hG
  conv => arg 2; whnf
  go_wp2_with fail
  refine HS.out.mono ?_
  rintro e W2 ⟨ob, out, p, rfl, hE⟩
  have hB12 := hE.bel
  have e2 := (hB12.block _ (Array.getElem?_eq_some_iff.1 HB.out.2.1).1).trans HB.out.2.1
  have g1 : W2.cell? ⟨G, 1, none⟩ = some (.slice l.P t.pr.length l.cp) := block_cell e2 (j := 1) (by simp)
  have HE := Lib.hid hE; clear hE hB12 e2 HS g0
  go_wp2_with fail
  conv => arg 2; whnf
  go_wp2_with fail
  conv => arg 2; whnf
  go_wp2_with fail
  have hbw : Below w.heap.size w W2 := HB.out.1.trans (HE.out.bel.mono HB.out.1.size)
  have HBW := Lib.hid hbw; clear hbw
  refine wp_loop (LoopMs W2 t l H ph p ob ch) (fun a _ => t.pr.length - (intOf (a.tmps.getD 16 undef)).toNat) ⟨0, none, 0, Nat.zero_le _, GrF.start _ _, Below.refl _ _, by (refine ⟨rfl, rfl, ?_⟩; repeat (first | exact trivial | refine ⟨rfl, ?_⟩))⟩ ?_
  intro a wr hI
  refine miss_loop HN.out.2.2.1 ((HN.out.1.keep HBW.out).rdq HN.out.2.2.1) (HN.out.2.1.keep HBW.out) HN.out.2.2.2.1 HE.out.mem HE.out.len HE.out.val HN.out.2.2.2.2.1 HN.out.2.2.2.2.2 ?_ hI
  intro a' w' A c hGr hBl hfr
  rename_i K6 hK6
  obtain ⟨v, rfl⟩ := hfr.open
  clear hfr hI
  refine hK6 _ _ ?_
  clear hK6
  have HZ := Lib.hid (And.intro hGr hBl); clear hGr hBl
  show Code.wp Tryz.prog (Tryz.f27.sub [1, 1, 1, 1]) _ ⟨#[(v 0), (v 1), (v 2), (v 3), (v 4), (v 5), .slice A t.pr.length c, (v 7), (v 8), (v 9), (v 10), (v 11), (v 12), (v 13), (v 14), (v 15), (v 16), (v 17), (v 18), (v 19), (v 20), (v 21), (v 22), (v 23), (v 24), (v 25), (v 26), (v 27), (v 28), (v 29), (v 30), (v 31), (v 32), (v 33), (v 34), (v 35), (v 36), (v 37), (v 38), (v 39), (v 40), (v 41)], []⟩ _
  conv => arg 2; whnf
  dsimp only
  go_wp2_with fail
  go_ret
  exact ⟨A, c, p, rfl, HBW.out.trans (HZ.out.2.mono HBW.out.size), HE.out.sms, HZ.out.1.low HBW.out.size, fun v hv => (HE.out.val v hv).2⟩
theorem snet_add {xb k f s Gb Wb Wo lw cw B N c : Nat} {n : Int} {A : Option Addr} {es : List Ed} {x j : Int} {v2 v4 v25 v26 v27 : Value} {W : World} {Q : Exit → Act → World → Prop} {u0 u3 u9 u10 u11 u12 u13 u14 u15 u16 u17 u18 u19 u20 u21 u22 u23 u24 u28 u29 u30 u31 u32 u33 u34 u35 u36 u37 u38 u39 u40 u41 u42 u43 u44 u45 u46 u47 u48 u49 u50 u51 u52 u53 u54 u55 u56 u57 u58 : Value}
    (hok : OneD.ok ⟨B, N, n, A, c, es, ⟨f, s, j, x.toNat⟩⟩ W)
    (p0 : W.cell? ⟨xb, 0, none⟩ = some (.int .i64 f)) (p1 : W.cell? ⟨xb, 1, none⟩ = some (.int .i64 s)) (hP : xb ∉ (OneD.S ⟨B, N, n, A, c, es, ⟨f, s, j, x.toNat⟩⟩))
    (y0 : W.cell? ⟨Gb, 3, none⟩ = some (.slice (some ⟨Wb, Wo, none⟩) lw cw)) (hY : Gb ∉ (OneD.S ⟨B, N, n, A, c, es, ⟨f, s, j, x.toNat⟩⟩))
    (yk : W.cell? ⟨Wb, Wo + k, none⟩ = some (.int .i64 x)) (hYk : Wb ∉ (OneD.S ⟨B, N, n, A, c, es, ⟨f, s, j, x.toNat⟩⟩)) (hk : k < lw) (hl : lw ≤ 10000) (hx : 0 ≤ x ∧ x ≤ 1000)
    (hQ : ∀ a' w' v1 v2', OneC W ⟨B, N, n, A, c, es, ⟨f, s, j, x.toNat⟩⟩ true true true v1 v2' w' → Fr 59 [(1, .pointer (some ⟨Gb, 0, none⟩)), (2, v2), (4, v4), (5, .pointer (some ⟨N, 0, none⟩)), (25, v25), (26, v26), (27, v27)] a' → Q .normal a' w') :
    Code.wp Tryz.prog (Tryz.f31.sub [1, 1, 1, 1, 0, 1, 0, 0, 1, 1, 0, 0, 1, 1, 1]) Q ⟨#[u0, .pointer (some ⟨Gb, 0, none⟩), v2, u3, v4, .pointer (some ⟨N, 0, none⟩), .int .i64 k, .pointer (some ⟨xb, 0, none⟩), .int .i64 j, u9, u10, u11, u12, u13, u14, u15, u16, u17, u18, u19, u20, u21, u22, u23, u24, v25, v26, v27, u28, u29, u30, u31, u32, u33, u34, u35, u36, u37, u38, u39, u40, u41, u42, u43, u44, u45, u46, u47, u48, u49, u50, u51, u52, u53, u54, u55, u56, u57, u58], []⟩ W := by
  have HK := Lib.hid hok; clear hok
  have HQ := Lib.hid hQ; clear hQ
  obtain ⟨x1, x2⟩ := hx
  have hkm : (k : Int) < lw := by omega
  have hxx : ((x.toNat : Nat) : Int) = x := by omega
  conv => arg 2; whnf
  dsimp only
  generalize hye : (⟨f, s, j, x.toNat⟩ : Ed) = y at *
  have HYe := Lib.hid hye; clear hye
  refine region_rel (by kernel_rfl) (by kernel_rfl) (by kernel_rfl) (fun L V w' => OneC W ⟨B, N, n, A, c, es, y⟩ (L 13) (L 14) (L 16) (V 13) (V 14) w') (OneC.start HK.out _ rfl) ?_
  (refine rel_val rfl (.pointer (some ⟨N, 1, none⟩)) (fun _ _ _ h => OneC.up rfl h) (fun V L w h1 h2 h3 hC => by unfold execOp; go_simp; try exact IntWalk.i64_in _ (by omega)) ?_; simp only [Fam.pt])
  refine rel_val rfl (.slice A es.length c) (fun _ _ _ h => OneC.up rfl h) (fun V L w h1 h2 h3 hC => ex_load1 _ _ rfl _ rfl (OneC.ev_list (by kernel_rfl) h1 h3 hC) _ Tryz.underlying35 rfl) ?_
  simp only [Fam.pt]
  (refine rel_val rfl (.pointer (some ⟨xb, 0, none⟩)) (fun _ _ _ h => OneC.up rfl h) (fun V L w h1 h2 h3 hC => by unfold execOp; go_simp; try exact IntWalk.i64_in _ (by omega)) ?_; simp only [Fam.pt])
  (refine rel_val rfl _ (fun _ _ _ h => OneC.up rfl h) (fun V L w h1 h2 h3 hC => ex_load1 _ _ rfl _ rfl (OneC.far hC (by exact hP) p0) _ Tryz.underlying3 rfl) ?_; simp only [Fam.pt])
  (refine rel_val rfl (.pointer (some ⟨xb, 1, none⟩)) (fun _ _ _ h => OneC.up rfl h) (fun V L w h1 h2 h3 hC => by unfold execOp; go_simp; try exact IntWalk.i64_in _ (by omega)) ?_; simp only [Fam.pt])
  (refine rel_val rfl _ (fun _ _ _ h => OneC.up rfl h) (fun V L w h1 h2 h3 hC => ex_load1 _ _ rfl _ rfl (OneC.far hC (by exact hP) p1) _ Tryz.underlying3 rfl) ?_; simp only [Fam.pt])
  (refine rel_val rfl (.int .i64 j) (fun _ _ _ h => OneC.up rfl h) (fun V L w h1 h2 h3 hC => by unfold execOp; go_simp; try exact IntWalk.i64_in _ (by omega)) ?_; simp only [Fam.pt])
  (refine rel_val rfl (.pointer (some ⟨Gb, 3, none⟩)) (fun _ _ _ h => OneC.up rfl h) (fun V L w h1 h2 h3 hC => by unfold execOp; go_simp; try exact IntWalk.i64_in _ (by omega)) ?_; simp only [Fam.pt])
  (refine rel_val rfl _ (fun _ _ _ h => OneC.up rfl h) (fun V L w h1 h2 h3 hC => ex_load1 _ _ rfl _ rfl (OneC.far hC (by exact hY) y0) _ Tryz.underlying26 rfl) ?_; simp only [Fam.pt])
  (refine rel_val rfl (.int .i64 k) (fun _ _ _ h => OneC.up rfl h) (fun V L w h1 h2 h3 hC => by unfold execOp; go_simp; try exact IntWalk.i64_in _ (by omega)) ?_; simp only [Fam.pt])
  (refine rel_val rfl (.pointer (some ⟨Wb, Wo + k, none⟩)) (fun _ _ _ h => OneC.up rfl h) (fun V L w h1 h2 h3 hC => by unfold execOp; go_simp; try exact IntWalk.i64_in _ (by omega)) ?_; simp only [Fam.pt])
  (refine rel_val rfl _ (fun _ _ _ h => OneC.up rfl h) (fun V L w h1 h2 h3 hC => ex_load1 _ _ rfl _ rfl (OneC.far hC (by exact hYk) yk) _ Tryz.underlying3 rfl) ?_; simp only [Fam.pt])
  (refine rel_val rfl (.agg #[.int .i64 f, .int .i64 s, .int .i64 j, .int .i64 x]) (fun _ _ _ h => OneC.up rfl h) (fun V L w h1 h2 h3 hC => by unfold execOp; go_simp; try exact IntWalk.i64_in _ (by omega)) ?_; simp only [Fam.pt])
  refine rel_free rfl (fun V L w h1 h2 h3 hC => ?_) ?_
  · rw [ex_sliceE _ rfl y (by rw [← HYe.out, edV, hxx]; rfl)]
    exact OneC.ev_made (by decide) HK.out (by kernel_rfl) h1 h3 hC
  simp only [Fam.pt]
  refine rel_free rfl (fun V L w h1 h2 h3 hC => ?_) ?_
  · obtain ⟨v, w', k1, k2⟩ := OneC.ev_app (by decide) HK.out hC h1 h3 (by kernel_rfl) h2 (by kernel_rfl) _
    rw [ex_append _ _ _ rfl rfl rfl k1]
    exact k2
  simp only [Fam.pt]
  (refine rel_val rfl (.pointer (some ⟨N, 1, none⟩)) (fun _ _ _ h => OneC.up rfl h) (fun V L w h1 h2 h3 hC => by unfold execOp; go_simp; try exact IntWalk.i64_in _ (by omega)) ?_; simp only [Fam.pt])
  refine rel_fix rfl undef (fun V L w h1 h2 h3 hC => ?_) ?_
  · obtain ⟨⟨A1, c1, k1⟩, ⟨⟨x, k2⟩, k3⟩, k4⟩ := OneC.ev_put (by decide) HK.out hC h1 h2 (by kernel_rfl)
    rw [ex_store1 35 _ _ rfl N 1 _ rfl rfl k2 k3 (by kernel_rfl) (by rw [k1]; rfl) (by rw [k1]; rfl)]
    exact ⟨rfl, k4⟩
  simp only [Fam.pt]
  intro V L w' hL hC
  rw [hL 13 (by decide), hL 14 (by decide), hL 16 (by decide)] at hC
  exact HQ.out _ w' _ _ hC ⟨rfl, rfl, rfl, rfl, rfl, rfl, rfl, rfl, rfl, trivial⟩
def jS (t : Sk) (p : Nat → Int) (i : Nat) : Int := Int.tdiv (ms t t.ph p i) 4096
def eS (t : Sk) (p : Nat → Int) (i : Nat) : Ed := ⟨(gq (prs t) i).f, (gq (prs t) i).s, jS t p i, (gi t.ws i).toNat⟩
def edS (t : Sk) (p : Nat → Int) : List Ed := (List.range t.pr.length).map (eS t p)
theorem edS_len (t : Sk) (p : Nat → Int) : (edS t p).length = t.pr.length := by simp [edS]
theorem edS_snoc {t : Sk} {p : Nat → Int} {k : Nat} (hk : k < t.pr.length) : (edS t p).take k ++ [eS t p k] = (edS t p).take (k + 1) := by
  have h : k < (edS t p).length := by rw [edS_len]; exact hk
  rw [List.take_succ_eq_append_getElem h]
  simp [edS]
theorem edS_take {t : Sk} {p : Nat → Int} {k : Nat} (hk : k ≤ t.pr.length) : ((edS t p).take k).length = k := by rw [List.length_take, edS_len]; omega
structure SdM (W2 : World) (t : Sk) (l : SkL) (p : Nat → Int) (R G : Nat) (MA : Option Addr) : Prop where
  hG : W2.heap[G]? = some (.cells #[.slice l.S t.sc.length l.cs, .slice l.P t.pr.length l.cp, .slice l.H t.ph.length l.ch, .slice l.W t.ws.length l.cw] 28 (0, 0))
  hR : W2.heap[R]? = some (.cells #[.int .i64 0, .slice none 0 0] 37 (0, 0))
  hP : RdQ W2 l.P (prs t)
  hW : RdI W2 l.W t.ws
  hM : RdI W2 MA (msL t t.ph p)
def SmallJ (x : Int) : Prop := -1000 ≤ x ∧ x ≤ 1000
def LoopSd (W2 : World) (t : Sk) (l : SkL) (p : Nat → Int) (R G mc : Nat) (MA : Option Addr) (a : Act) (w : World) : Prop :=
  ∃ (k : Nat) (A : Option Addr) (c : Nat), k ≤ t.pr.length ∧ (∀ i, i < k → SmallJ (jS t p i)) ∧ w.heap[W2.heap.size]? = some (.cells #[.int .i64 t.sc.length, .slice A k c] 37 (0, 0)) ∧ GrE w (W2.heap.size + 1) A c ((edS t p).take k) ∧ Below W2.heap.size W2 w ∧
    Fr 59 [(1, .pointer (some ⟨G, 0, none⟩)), (2, .pointer (some ⟨R, 0, none⟩)), (4, .slice MA t.pr.length mc), (5, .pointer (some ⟨W2.heap.size, 0, none⟩)), (25, .slice l.P t.pr.length l.cp), (26, .int .i64 t.pr.length), (27, .int .i64 k)] a
theorem snd_loop {t : Sk} {l : SkL} {p : Nat → Int} {R G mc : Nat} {MA : Option Addr} {W2 : World} (ho : RtS t) (hS : SdM W2 t l p R G MA) (hb : ∀ i, i < t.pr.length → (4096 : Int) ∣ ms t t.ph p i ∧ -100000000000000 ≤ ms t t.ph p i ∧ ms t t.ph p i ≤ 100000000000000) {Q : Exit → Act → World → Prop}
    (hQ1 : ∀ a w A c, (∀ i, i < t.pr.length → SmallJ (jS t p i)) → w.heap[W2.heap.size]? = some (.cells #[.int .i64 t.sc.length, .slice A t.pr.length c] 37 (0, 0)) → GrE w (W2.heap.size + 1) A c (edS t p) → Below W2.heap.size W2 w → Fr 59 [(2, .pointer (some ⟨R, 0, none⟩)), (5, .pointer (some ⟨W2.heap.size, 0, none⟩))] a → Q (.exit 0) a w)
    (hQ2 : ∀ a w i, i < t.pr.length → ¬ SmallJ (jS t p i) → Tch [R] W2 w → w.heap[R]? = some (.cells #[.int .i64 0, .slice none 0 0] 37 (0, 0)) → Fr 59 [(2, .pointer (some ⟨R, 0, none⟩)), (3, .int .i64 8)] a → Q .ret a w)
    {a : Act} {w : World} (hI : LoopSd W2 t l p R G mc MA a w) :
    Code.wp Tryz.prog (Tryz.f31.sub [1, 1, 1, 1, 0, 1, 0, 0]) (Exit.then (fun a' w' => LoopSd W2 t l p R G mc MA a' w' ∧ t.pr.length - (intOf (a'.tmps.getD 27 undef)).toNat < t.pr.length - (intOf (a.tmps.getD 27 undef)).toNat) Q) a w := by
  obtain ⟨k, A, c, hk, hsm, hNb, hG, hB, hfr⟩ := hI
  obtain ⟨v, rfl⟩ := hfr.open
  clear hfr
  generalize hmu : t.pr.length - (intOf ((⟨frL 59 _ v, []⟩ : Act).tmps.getD 27 undef)).toNat = mu
  have hmu' : t.pr.length - k = mu := by rw [← hmu]; rfl
  clear hmu
  have h200 := ho.net.m_le
  have HO := Lib.hid (And.intro ho (And.intro hS hb)); clear ho hS hb
  have HQ := Lib.hid (And.intro hQ1 hQ2); clear hQ1 hQ2
  have HG := Lib.hid (And.intro hsm (And.intro hNb (And.intro hG hB))); clear hsm hNb hG hB
  show Code.wp Tryz.prog (.seq (Tryz.f31.sub [1, 1, 1, 1, 0, 1, 0, 0, 0]) (.seq (Tryz.f31.sub [1, 1, 1, 1, 0, 1, 0, 0, 1, 0]) (.seq (.block 1 (.seq (Tryz.f31.sub [1, 1, 1, 1, 0, 1, 0, 0, 1, 1, 0, 0, 0]) (.seq (Tryz.f31.sub [1, 1, 1, 1, 0, 1, 0, 0, 1, 1, 0, 0, 1, 0]) (.seq (Tryz.f31.sub [1, 1, 1, 1, 0, 1, 0, 0, 1, 1, 0, 0, 1, 1, 0]) (Tryz.f31.sub [1, 1, 1, 1, 0, 1, 0, 0, 1, 1, 0, 0, 1, 1, 1]))))) (Tryz.f31.sub [1, 1, 1, 1, 0, 1, 0, 0, 1, 1, 1])))) _
    ⟨#[(v 0), .pointer (some ⟨G, 0, none⟩), .pointer (some ⟨R, 0, none⟩), (v 3), .slice MA t.pr.length mc, .pointer (some ⟨W2.heap.size, 0, none⟩), (v 6), (v 7), (v 8), (v 9), (v 10), (v 11), (v 12), (v 13), (v 14), (v 15), (v 16), (v 17), (v 18), (v 19), (v 20), (v 21), (v 22), (v 23), (v 24), .slice l.P t.pr.length l.cp, .int .i64 t.pr.length, .int .i64 k, (v 28), (v 29), (v 30), (v 31), (v 32), (v 33), (v 34), (v 35), (v 36), (v 37), (v 38), (v 39), (v 40), (v 41), (v 42), (v 43), (v 44), (v 45), (v 46), (v 47), (v 48), (v 49), (v 50), (v 51), (v 52), (v 53), (v 54), (v 55), (v 56), (v 57), (v 58)], []⟩ _
  refine wp_seq ?_
  conv => arg 2; whnf
  dsimp only
  by_cases hlt : k < t.pr.length
  · obtain ⟨b, o, hA, p0, p1⟩ := (HO.out.2.1.hP.keep HG.out.2.2.2) k (by rw [prs_len]; exact hlt)
    obtain ⟨mb, mo, hMA, hc0⟩ := (HO.out.2.1.hM.keep HG.out.2.2.2) k (by rw [msL_len]; exact hlt)
    rw [msL_get hlt] at hc0
    rw [hA, hMA]
    have HA := Lib.hid (And.intro hA hMA); clear hA hMA
    have hklt : (k : Int) < t.pr.length := by omega
    obtain ⟨hd, m1, m2⟩ := HO.out.2.2 k hlt
    obtain ⟨x, hx⟩ : ∃ x, (gq (prs t) k).f = x := ⟨_, rfl⟩
    obtain ⟨y, hy⟩ : ∃ y, (gq (prs t) k).s = y := ⟨_, rfl⟩
    rw [hx] at p0
    rw [hy] at p1
    have hjb : -100000000000000 ≤ jS t p k ∧ jS t p k ≤ 100000000000000 := by
      obtain ⟨q, hq⟩ := hd
      unfold jS
      rw [hq, Int.mul_tdiv_cancel_left _ (by decide)]
      omega
    have HJ := Lib.hid (show Int.tdiv (ms t t.ph p k) 4096 = jS t p k from rfl)
    have HN := Lib.hid (And.intro hx hy); clear hx hy hd
    have hBl := HG.out.2.2.2.size
    obtain ⟨z, hz⟩ : ∃ z, ms t t.ph p k = z := ⟨_, rfl⟩
    rw [hz] at m1 m2 hc0 HJ
    have hzb : -100000000000000 ≤ Int.tdiv z 4096 ∧ Int.tdiv z 4096 ≤ 100000000000000 := by rw [HJ.out]; exact hjb
    clear hz
    go_wp2_with fail
    conv => arg 2; whnf
    go_wp2_with fail
    conv => arg 2; whnf
    go_wp2_with fail
    refine nameC ?_
    intro W3 hW3
    have hb3 : Below w.heap.size w W3 := by rw [hW3]; exact (Below.refl _ _).alloc (Nat.le_refl _) _
    have hx3 : W3.heap[w.heap.size]? = some (.cells #[.int .i64 x, .int .i64 y] 60 (0, 0)) := by rw [hW3]; exact heap_alloc_new w _
    clear hW3
    have hc3 := cell_keep hb3 hc0
    have mbl : mb < W3.heap.size := World.block_lt_of_cell? _ _ hc3
    clear p0 p1 hc0
    conv => arg 2; whnf
    go_wp2_with fail
    rw [HJ.out]
    have hBw3 : Below W2.heap.size W2 W3 := HG.out.2.2.2.trans (hb3.mono hBl)
    have hR3 := (hBw3.block _ (Array.getElem?_eq_some_iff.1 HO.out.2.1.hR).1).trans HO.out.2.1.hR
    have Rlt : R < W2.heap.size := (Array.getElem?_eq_some_iff.1 HO.out.2.1.hR).1
    obtain ⟨j, hj⟩ : ∃ j, jS t p k = j := ⟨_, rfl⟩
    rw [hj] at hjb ⊢
    have HJJ := Lib.hid hj; clear hj
    by_cases hsm : SmallJ j
    · have HSC := Lib.hid (fun W => small_c j 1000 true (by omega) (by simp; exact hsm) W)
      have HSM := Lib.hid hsm; clear hsm
      have HBW := Lib.hid (And.intro hBw3 hR3); clear hBw3 hR3
      conv => arg 2; whnf
      go_wp2_with fail
      refine (HSC.out _).mono ?_
      rintro e W4 ⟨rfl, rfl⟩
      go_wp2_with fail
      obtain ⟨wb, wo, hWa, hwc⟩ := (HO.out.2.1.hW.keep HBW.out.1) k (by rw [HO.out.1.lws]; exact hlt)
      have hwlt : wb < W2.heap.size := by
        obtain ⟨b', o', e, h⟩ := HO.out.2.1.hW k (by rw [HO.out.1.lws]; exact hlt)
        rw [hWa] at e
        injection e with e; injection e with e
        subst e
        exact World.block_lt_of_cell? _ _ h
      have hGb := (HBW.out.1.block _ (Array.getElem?_eq_some_iff.1 HO.out.2.1.hG).1).trans HO.out.2.1.hG
      have Glt : G < W2.heap.size := (Array.getElem?_eq_some_iff.1 HO.out.2.1.hG).1
      rw [hWa] at hGb
      have hwb := HO.out.1.ws k (by rw [HO.out.1.lws]; exact hlt)
      have hNb := (hb3.block _ (Array.getElem?_eq_some_iff.1 HG.out.2.1).1).trans HG.out.2.1
      have hNlt : W2.heap.size < w.heap.size := (Array.getElem?_eq_some_iff.1 HG.out.2.1).1
      have hz3 := hb3.size
      have hEy : (⟨x, y, j, (gi t.ws k).toNat⟩ : Ed) = eS t p k := by unfold eS; rw [HN.out.1, HN.out.2, HJJ.out]
      have HEY := Lib.hid hEy; clear hEy
      have hok : OneD.ok ⟨W2.heap.size + 1, W2.heap.size, t.sc.length, A, c, (edS t p).take k, ⟨x, y, j, (gi t.ws k).toNat⟩⟩ W3 := by
        refine ⟨?_, HG.out.2.2.1.keep hb3, fun e => ?_, ?_, ?_⟩
        · show W3.heap[W2.heap.size]? = some (.cells #[.int .i64 t.sc.length, .slice A ((edS t p).take k).length c] 37 (0, 0))
          rw [edS_take hk]; exact hNb
        · have := (HG.out.2.2.1.lt e).1
          simp only at this
          omega
        · show W2.heap.size + 1 ≤ W3.heap.size; omega
        · show ((edS t p).take k).length < 10000; rw [edS_take hk]; omega
      have hSb : ∀ q, q ∈ OneD.S ⟨W2.heap.size + 1, W2.heap.size, t.sc.length, A, c, (edS t p).take k, ⟨x, y, j, (gi t.ws k).toNat⟩⟩ → W2.heap.size ≤ q ∧ q < w.heap.size := fun q hq => by
        unfold OneD.S at hq
        rw [List.mem_cons, Option.mem_toList] at hq
        rcases hq with rfl | hq
        · exact ⟨Nat.le_refl _, hNlt⟩
        · have := HG.out.2.2.1.lt hq
          omega
      refine snet_add (Gb := G) (Wb := wb) (Wo := wo) (lw := t.ws.length) (cw := l.cw) (v2 := .pointer (some ⟨R, 0, none⟩)) (v4 := .slice (some ⟨mb, mo, none⟩) t.pr.length mc) (v25 := .slice (some ⟨b, o, none⟩) t.pr.length l.cp) (v26 := .int .i64 t.pr.length) (v27 := .int .i64 k) hok (block_cell hx3 (j := 0) (by simp)) (block_cell hx3 (j := 1) (by simp)) (fun h => by have := (hSb _ h).2; omega) (block_cell hGb (j := 3) (by simp)) (fun h => by have := (hSb _ h).1; omega) hwc (fun h => by have := (hSb _ h).1; omega) (by rw [HO.out.1.lws]; exact hlt) (by rw [HO.out.1.lws]; omega) hwb ?_
      intro a' w' v1 v2' hC hfr
      rename_i Q6 K6 hK6
      obtain ⟨v', rfl⟩ := hfr.open
      clear hfr
      refine hK6 _ _ ?_
      clear hK6
      have hNd := hC.hd
      have hGr := hC.a1
      rw [if_pos rfl] at hNd hGr
      obtain ⟨A', c', e, hGr, _⟩ := hGr
      subst e
      simp only at hNd hGr
      rw [edS_take hk] at hNd
      rw [HEY.out, edS_snoc hlt] at hGr
      have hbw : Below W2.heap.size W2 w' := hC.tch.below HBW.out.1 (Nat.le_refl _) (fun q hq => (hSb q hq).1)
      have HJ2 := Lib.hid (And.intro hNd (And.intro hGr hbw)); clear hNd hGr hbw hC hSb hok hNb hGb
      show Code.wp Tryz.prog (Tryz.f31.sub [1, 1, 1, 1, 0, 1, 0, 0, 1, 1, 1]) _ ⟨#[(v' 0), .pointer (some ⟨G, 0, none⟩), .pointer (some ⟨R, 0, none⟩), (v' 3), .slice (some ⟨mb, mo, none⟩) t.pr.length mc, .pointer (some ⟨W2.heap.size, 0, none⟩), (v' 6), (v' 7), (v' 8), (v' 9), (v' 10), (v' 11), (v' 12), (v' 13), (v' 14), (v' 15), (v' 16), (v' 17), (v' 18), (v' 19), (v' 20), (v' 21), (v' 22), (v' 23), (v' 24), .slice (some ⟨b, o, none⟩) t.pr.length l.cp, .int .i64 t.pr.length, .int .i64 k, (v' 28), (v' 29), (v' 30), (v' 31), (v' 32), (v' 33), (v' 34), (v' 35), (v' 36), (v' 37), (v' 38), (v' 39), (v' 40), (v' 41), (v' 42), (v' 43), (v' 44), (v' 45), (v' 46), (v' 47), (v' 48), (v' 49), (v' 50), (v' 51), (v' 52), (v' 53), (v' 54), (v' 55), (v' 56), (v' 57), (v' 58)], []⟩ _
      conv => arg 2; whnf
      dsimp only
      go_wp2_with fail
      refine ⟨⟨k + 1, A', c', by omega, fun i hi => ?_, HJ2.out.1, HJ2.out.2.1, HJ2.out.2.2, ?_⟩, ?_⟩
      · by_cases e : i = k
        · rw [e, HJJ.out]; exact HSM.out
        · exact HG.out.1 i (by omega)
      · refine ⟨rfl, rfl, rfl, rfl, rfl, rfl, ?_, rfl, ?_, trivial⟩
        · rw [HA.out.1]; rfl
        · show Value.int .i64 ((k : Int) + 1) = _; go_num
      · show t.pr.length - ((k : Int) + 1).toNat < mu
        omega
    · have HSC := Lib.hid (fun W => small_c j 1000 false (by omega) (by simp; unfold SmallJ at hsm; omega) W)
      have HSM := Lib.hid hsm; clear hsm
      have r0 : W3.cell? ⟨R, 0, none⟩ = some (.int .i64 0) := block_cell hR3 (j := 0) (by simp)
      have r1 : W3.cell? ⟨R, 1, none⟩ = some (.slice none 0 0) := block_cell hR3 (j := 1) (by simp)
      have r2 : W3.frozen? ⟨R, 0, none⟩ = false := by simp [World.frozen?, hR3]
      have r3 : W3.frozen? ⟨R, 1, none⟩ = false := by simp [World.frozen?, hR3]
      have HBW := Lib.hid (And.intro hBw3 hR3); clear hBw3 hR3
      conv => arg 2; whnf
      go_wp2_with fail
      refine (HSC.out _).mono ?_
      rintro e W4 ⟨rfl, rfl⟩
      go_wp2_with fail
      refine HQ.out.2 _ _ k hlt (by rw [HJJ.out]; exact HSM.out) ?_ ?_ (by (refine ⟨rfl, rfl, ?_⟩; repeat (first | exact trivial | refine ⟨rfl, ?_⟩)))
      · exact ((Tch.of_below HBW.out.1).set (.inl (by simp)) _).set (.inl (by simp)) _
      · have s1 := heap_setCell_same W3 R 0 _ _ (.int .i64 0) HBW.out.2
        have s2 := heap_setCell_same _ R 1 _ _ (.slice none 0 0) s1
        exact s2
  · obtain rfl : k = t.pr.length := by omega
    go_wp2_with fail
    conv => arg 2; whnf
    go_wp2_with fail
    refine HQ.out.1 _ _ A c (fun i hi => HG.out.1 i hi) HG.out.2.1 ?_ HG.out.2.2.2 (by (refine ⟨rfl, rfl, ?_⟩; repeat (first | exact trivial | refine ⟨rfl, ?_⟩)))
    have := HG.out.2.2.1
    rwa [List.take_of_length_le (by rw [edS_len]; omega)] at this
end Go.Proofs.YtjnpchoinncbnaaGreat
end
