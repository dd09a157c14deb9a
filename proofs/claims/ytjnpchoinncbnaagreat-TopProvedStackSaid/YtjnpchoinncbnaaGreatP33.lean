/- Proves parts of the statement, each under the conditions that its theorem states: The reference's Lightest: a pair is taken; The reference's Lightest: a round; The reference's Lightest: the contract; The reference's ends. -/
import Derived.Test.YtjnpchoinncbnaaGreatP32
set_option linter.unusedSimpArgs false
set_option linter.unusedVariables false
set_option maxHeartbeats 4000000
set_option maxRecDepth 100000
section
namespace Go.Proofs.YtjnpchoinncbnaaGreat
open Go.RowKit Sw Fam
theorem ApG.keepB {W w w' : World} {d : ApD} {a1 a2 a3 : Nat} {L : Nat → Bool} {V : Nat → Value} (h : ApG W d a1 a2 a3 L V w) (hb : Below w.heap.size w w') : ApG W d a1 a2 a3 L V w' := by
  refine ⟨⟨h.f.tch.trans (Tch.of_below hb), fun hl => ?_, ?_⟩, h.g⟩
  · obtain ⟨b, h1, h2, h3⟩ := h.f.b1 hl
    exact ⟨b, h1, h2, (hb.block _ (Array.getElem?_eq_some_iff.1 h3).1).trans h3⟩
  · have := h.f.a1
    split
    · rename_i hl
      rw [if_pos hl] at this
      obtain ⟨A', c', e, hg⟩ := this
      exact ⟨A', c', e, hg.keep hb⟩
    · rename_i hl
      rw [if_neg hl] at this
      exact this.keep hb
theorem li_app {t : Sk} {l : SkL} {G B bn q c : Nat} {A : Option Addr} {xs : List Int} {len : Int} {v6 v18 v19 : Value} {W : World} {Q : Exit → Act → World → Prop} {u0 u2 u3 u8 u9 u10 u11 u12 u13 u14 u15 u16 u17 u20 u21 u22 u23 u24 u25 u26 u27 u28 u29 u30 u31 u32 u33 u34 u35 u36 u37 u38 u39 u40 u41 u42 u43 u44 u45 u46 u47 u48 u49 u50 u51 u52 u53 u54 u55 u56 u57 u58 u59 u60 u61 u62 u63 u64 u65 u66 u67 u68 u69 u70 u71 u72 u73 u74 u75 u76 u77 u78 u79 u80 u81 u82 u83 u84 u85 u86 u87 u88 u89 u90 u91 u92 u93 u94 u95 u96 u97 : Value}
    (hq : xs.length = q) (hok : ApD.ok ⟨B, A, c, xs, bn⟩ W) (hM : ∀ w', Tch (A.map (·.block)).toList W w' → NetM w' t l) (ho : NetOk t) (hG : W.heap[G]? = some (.cells #[.slice l.S t.sc.length l.cs, .slice l.P t.pr.length l.cp] 25 (0, 0))) (hGA : G ∉ ApD.S ⟨B, A, c, xs, bn⟩) (hb : bn < t.pr.length) (hlen : 0 ≤ len ∧ len ≤ 1000000000)
    (hQ : ∀ a' A' c' w', Tch (A.map (·.block)).toList W w' → GrI w' B A' c' (xs ++ [(bn : Int)]) → Fr 98 [(1, .pointer (some ⟨G, 0, none⟩)), (4, .slice A' (q + 1) c'), (5, .int .i64 (len + lenP t bn)), (6, v6), (18, v18), (19, v19)] a' → Q .normal a' w') :
    Code.wp Tryz.prog (Tryz.f35.sub [1, 1, 1, 1, 0, 1, 0, 0, 1, 1, 0, 0, 1, 1, 1, 1, 1, 0]) Q ⟨#[u0, .pointer (some ⟨G, 0, none⟩), u2, u3, .slice A q c, .int .i64 len, v6, .int .i64 bn, u8, u9, u10, u11, u12, u13, u14, u15, u16, u17, v18, v19, u20, u21, u22, u23, u24, u25, u26, u27, u28, u29, u30, u31, u32, u33, u34, u35, u36, u37, u38, u39, u40, u41, u42, u43, u44, u45, u46, u47, u48, u49, u50, u51, u52, u53, u54, u55, u56, u57, u58, u59, u60, u61, u62, u63, u64, u65, u66, u67, u68, u69, u70, u71, u72, u73, u74, u75, u76, u77, u78, u79, u80, u81, u82, u83, u84, u85, u86, u87, u88, u89, u90, u91, u92, u93, u94, u95, u96, u97], []⟩ W := by
  subst hq
  have HK := Lib.hid hok; clear hok
  have HQ := Lib.hid hQ; clear hQ
  have hbd := lenP_bd ho (i := bn) (by omega) (by omega)
  have g0 : W.cell? ⟨G, 0, none⟩ = some (.slice l.S t.sc.length l.cs) := block_cell hG (j := 0) (by simp)
  have g1 : W.cell? ⟨G, 1, none⟩ = some (.slice l.P t.pr.length l.cp) := block_cell hG (j := 1) (by simp)
  have HM := Lib.hid (And.intro hM ho); clear hM ho hG
  obtain ⟨y1, y2⟩ := hbd
  obtain ⟨z1, z2⟩ := hlen
  conv => arg 2; whnf
  dsimp only
  refine region_rel (by kernel_rfl) (by kernel_rfl) (by kernel_rfl) (ApG W ⟨B, A, c, xs, bn⟩ 2 3 9) (ApG.start HK.out) ?_
  (refine rel_val rfl (.slice A xs.length c) (fun _ _ _ h => ApG.up rfl h) (fun V L w h1 h2 h3 hC => by unfold execOp; go_simp; try exact IntWalk.i64_in _ (by omega)) ?_; simp only [Fam.pt])
  (refine rel_val rfl (.int .i64 bn) (fun _ _ _ h => ApG.up rfl h) (fun V L w h1 h2 h3 hC => by unfold execOp; go_simp; try exact IntWalk.i64_in _ (by omega)) ?_; simp only [Fam.pt])
  refine rel_free rfl (fun V L w h1 h2 h3 hC => ?_) ?_
  · rw [ex_sliceI _ rfl bn rfl]
    exact ApG.ev_made (by decide) (by kernel_rfl) h1 h3 hC
  simp only [Fam.pt]
  refine rel_free rfl (fun V L w h1 h2 h3 hC => ?_) ?_
  · obtain ⟨v, w', k1, k2⟩ := ApG.ev_app (by decide) HK.out hC h1 (by kernel_rfl) h3 h2 (by kernel_rfl) _
    rw [ex_append _ _ _ rfl rfl rfl k1]
    exact k2
  simp only [Fam.pt]
  (refine rel_val rfl (.int .i64 len) (fun _ _ _ h => ApG.up rfl h) (fun V L w h1 h2 h3 hC => by unfold execOp; go_simp; try exact IntWalk.i64_in _ (by omega)) ?_; simp only [Fam.pt])
  refine rel_val rfl (.agg #[.slice l.S t.sc.length l.cs, .slice l.P t.pr.length l.cp]) (fun _ _ _ h => ApG.up rfl h) (fun V L w h1 h2 h3 hC => ex_loadN 25 _ rfl G 0 rfl [.slice l.S t.sc.length l.cs, .slice l.P t.pr.length l.cp] _ (rangeAt2 (ApG.far hC hGA g0) (ApG.far hC hGA g1)) Tryz.underlying25 rfl (by kernel_rfl)) ?_
  simp only [Fam.pt]
  (refine rel_val rfl (.int .i64 bn) (fun _ _ _ h => ApG.up rfl h) (fun V L w h1 h2 h3 hC => by unfold execOp; go_simp; try exact IntWalk.i64_in _ (by omega)) ?_; simp only [Fam.pt])
  refine rel_fix rfl (.int .i64 (lenP t bn)) (fun V L w h1 h2 h3 hC => ?_) ?_
  · rw [ex_call2 57 (.tmp 77) (.tmp 78) _ rfl rfl rfl rfl (enters_fn Tryz.func57 (by kernel_rfl) rfl)]
    refine (rlength_c (HM.out.1 w hC.f.tch) HM.out.2 hb).mono ?_
    rintro e w' ⟨rfl, hB2⟩
    exact ⟨_, rfl, rfl, (ApG.up rfl hC).keepB hB2⟩
  simp only [Fam.pt]
  (refine rel_val rfl (.int .i64 (len + lenP t bn)) (fun _ _ _ h => ApG.up rfl h) (fun V L w h1 h2 h3 hC => by unfold execOp; go_simp; try exact IntWalk.i64_in _ (by omega)) ?_; simp only [Fam.pt])
  refine rel_free rfl (fun V L w h1 h2 h3 hC => ?_) ?_
  · rw [ex_asg _ rfl]
    exact ApG.ev_asg (by decide) hC
  simp only [Fam.pt]
  (refine rel_val rfl (.int .i64 (len + lenP t bn)) (fun _ _ _ h => ApG.up rfl h) (fun V L w h1 h2 h3 hC => by unfold execOp; go_simp; try exact IntWalk.i64_in _ (by omega)) ?_; simp only [Fam.pt])
  intro V L w' hL hC
  have h1 := hC.f.a1
  rw [if_pos (hL 3 (by decide))] at h1
  obtain ⟨A', c', e, hg⟩ := h1
  refine HQ.out _ A' c' w' hC.f.tch hg ⟨rfl, rfl, rfl, (hC.g (hL 9 (by decide))).trans e, rfl, rfl, rfl, rfl, trivial⟩
structure LiM (W0 : World) (t : Sk) (k : Nat) (zs : List Int) (T : List Nat) (dn : List Bool) (A : Option Addr) (c : Nat) (len : Int) (w : World) : Prop where
  kz : zs.length = k
  bel : Below W0.heap.size W0 w
  hd : BoolB w W0.heap.size dn
  sel : Sel (lenP t) t.pr.length zs dn
  kr : Kr t.sc.length (prs t) (zs.map Int.toNat) T
  tl : T.length ≤ k
  gr : GrI w (W0.heap.size + 1) A c (T.map Int.ofNat)
  ln : 0 ≤ len ∧ len ≤ 1000000 * (k : Int)
def LoopL (W0 : World) (t : Sk) (G : Nat) (a : Act) (w : World) : Prop :=
  ∃ (k : Nat) (zs : List Int) (T : List Nat) (dn : List Bool) (A : Option Addr) (c : Nat) (len : Int), k ≤ t.pr.length ∧ LiM W0 t k zs T dn A c len w ∧
    Fr 98 [(1, .pointer (some ⟨G, 0, none⟩)), (4, .slice A T.length c), (5, .int .i64 len), (6, .slice (some ⟨W0.heap.size, 0, none⟩) t.pr.length t.pr.length), (18, .int .i64 t.pr.length), (19, .int .i64 k)] a
theorem li_outer {t : Sk} {l : SkL} {G : Nat} {W0 : World} (hM : NetM W0 t l) (ho : NetOk t) (hG : W0.heap[G]? = some (.cells #[.slice l.S t.sc.length l.cs, .slice l.P t.pr.length l.cp] 25 (0, 0))) {Q : Exit → Act → World → Prop}
    (hQ : ∀ a w zs T dn A c len, LiM W0 t t.pr.length zs T dn A c len w → Fr 98 [(1, .pointer (some ⟨G, 0, none⟩)), (4, .slice A T.length c), (5, .int .i64 len)] a → Q (.exit 0) a w) {a : Act} {w : World} (hI : LoopL W0 t G a w) :
    Code.wp Tryz.prog (Tryz.f35.sub [1, 1, 1, 1, 0, 1, 0, 0]) (Exit.then (fun a' w' => LoopL W0 t G a' w' ∧ t.pr.length - (intOf (a'.tmps.getD 19 undef)).toNat < t.pr.length - (intOf (a.tmps.getD 19 undef)).toNat) Q) a w := by
  obtain ⟨k, zs, T, dn, A, c, len, hk, hL, hfr⟩ := hI
  obtain ⟨v, rfl⟩ := hfr.open
  clear hfr
  generalize hmu : t.pr.length - (intOf ((⟨frL 98 _ v, []⟩ : Act).tmps.getD 19 undef)).toNat = mu
  have hmu' : t.pr.length - k = mu := by rw [← hmu]; rfl
  clear hmu
  have HQ := Lib.hid hQ; clear hQ
  have h200 := ho.m_le
  have h60 := ho.n_le
  have HM := Lib.hid (And.intro hM (And.intro ho hG)); clear hM ho hG
  have H := Lib.hid hL; clear hL
  show Code.wp Tryz.prog (.seq (Tryz.f35.sub [1, 1, 1, 1, 0, 1, 0, 0, 0]) (.seq (Tryz.f35.sub [1, 1, 1, 1, 0, 1, 0, 0, 1, 0]) (.seq (.block 1 (.seq (Tryz.f35.sub [1, 1, 1, 1, 0, 1, 0, 0, 1, 1, 0, 0, 0]) (.seq (.seq (Tryz.f35.sub [1, 1, 1, 1, 0, 1, 0, 0, 1, 1, 0, 0, 1, 0, 0]) (.block 2 (.loop (Tryz.f35.sub [1, 1, 1, 1, 0, 1, 0, 0, 1, 1, 0, 0, 1, 0, 1, 0, 0])))) (.seq (Tryz.f35.sub [1, 1, 1, 1, 0, 1, 0, 0, 1, 1, 0, 0, 1, 1, 0]) (.seq (Tryz.f35.sub [1, 1, 1, 1, 0, 1, 0, 0, 1, 1, 0, 0, 1, 1, 1, 0]) (.seq (Tryz.f35.sub [1, 1, 1, 1, 0, 1, 0, 0, 1, 1, 0, 0, 1, 1, 1, 1, 0]) (Tryz.f35.sub [1, 1, 1, 1, 0, 1, 0, 0, 1, 1, 0, 0, 1, 1, 1, 1, 1]))))))) (Tryz.f35.sub [1, 1, 1, 1, 0, 1, 0, 0, 1, 1, 1])))) _
    ⟨#[(v 0), .pointer (some ⟨G, 0, none⟩), (v 2), (v 3), .slice A T.length c, .int .i64 len, .slice (some ⟨W0.heap.size, 0, none⟩) t.pr.length t.pr.length, (v 7), (v 8), (v 9), (v 10), (v 11), (v 12), (v 13), (v 14), (v 15), (v 16), (v 17), .int .i64 t.pr.length, .int .i64 k, (v 20), (v 21), (v 22), (v 23), (v 24), (v 25), (v 26), (v 27), (v 28), (v 29), (v 30), (v 31), (v 32), (v 33), (v 34), (v 35), (v 36), (v 37), (v 38), (v 39), (v 40), (v 41), (v 42), (v 43), (v 44), (v 45), (v 46), (v 47), (v 48), (v 49), (v 50), (v 51), (v 52), (v 53), (v 54), (v 55), (v 56), (v 57), (v 58), (v 59), (v 60), (v 61), (v 62), (v 63), (v 64), (v 65), (v 66), (v 67), (v 68), (v 69), (v 70), (v 71), (v 72), (v 73), (v 74), (v 75), (v 76), (v 77), (v 78), (v 79), (v 80), (v 81), (v 82), (v 83), (v 84), (v 85), (v 86), (v 87), (v 88), (v 89), (v 90), (v 91), (v 92), (v 93), (v 94), (v 95), (v 96), (v 97)], []⟩ _
  refine wp_seq ?_
  conv => arg 2; whnf
  dsimp only
  by_cases hlt : k < t.pr.length
  · have hklt : (k : Int) < t.pr.length := by omega
    go_wp2_with fail
    conv => arg 2; whnf
    go_wp2_with fail
    conv => arg 2; whnf
    go_wp2_with fail
    conv => arg 2; whnf
    go_wp2_with fail
    have hGl : G < W0.heap.size := (Array.getElem?_eq_some_iff.1 HM.out.2.2).1
    have hGw : w.heap[G]? = _ := (H.out.bel.block _ hGl).trans HM.out.2.2
    have hsz := H.out.bel.size
    refine wp_loop (LoopB w t zs G W0.heap.size (.slice A T.length c) (.int .i64 len) (.int .i64 t.pr.length) (.int .i64 k)) (fun a _ => t.pr.length - (intOf (a.tmps.getD 8 undef)).toNat) ⟨0, -1, Nat.zero_le _, Below.refl _ _, Bst.start, by (refine ⟨rfl, rfl, ?_⟩; repeat (first | exact trivial | refine ⟨rfl, ?_⟩))⟩ ?_
    intro a1 w1 hI1
    refine li_round (HM.out.1.keep H.out.bel) HM.out.2.1 hGw H.out.hd H.out.sel ?_ hI1
    intro a2 w2 best hB2 hBs hfr2
    rename_i Q6 K6 hK6 K7 hK7
    obtain ⟨v2, rfl⟩ := hfr2.open
    clear hfr2 hI1 hGw
    refine hK7 _ _ ?_
    clear hK7 K7
    have hBw2 : Below W0.heap.size W0 w2 := H.out.bel.trans (hB2.mono hsz)
    have hzl : zs.length < t.pr.length := by rw [H.out.kz]; exact hlt
    obtain ⟨t0, t1, t2⟩ := hBs.there H.out.sel hzl
    have hsel := H.out.sel.add hBs hzl
    obtain ⟨bn, rfl⟩ : ∃ bn : Nat, best = bn := ⟨best.toNat, by omega⟩
    have hbl : bn < t.pr.length := by omega
    rw [Int.toNat_natCast] at hsel
    have hD2 : BoolB w2 W0.heap.size dn := FlB.keep H.out.hd hB2
    have hG2 := H.out.gr.keep hB2
    have hGw2 := (hBw2.block _ hGl).trans HM.out.2.2
    have dc := hD2.cell (j := bn) (by rw [H.out.sel.len]; exact hbl)
    have df := FlB.frozen hD2 bn
    have hs2 := hB2.size
    have H2 := Lib.hid (And.intro hBw2 (And.intro hD2 (And.intro hG2 (And.intro hGw2 (And.intro hsel t2))))); clear hBw2 hD2 hG2 hGw2 hsel t2 hBs hB2
    show Code.wp Tryz.prog (.seq (Tryz.f35.sub [1, 1, 1, 1, 0, 1, 0, 0, 1, 1, 0, 0, 1, 1, 0]) (.seq (Tryz.f35.sub [1, 1, 1, 1, 0, 1, 0, 0, 1, 1, 0, 0, 1, 1, 1, 0]) (.seq (Tryz.f35.sub [1, 1, 1, 1, 0, 1, 0, 0, 1, 1, 0, 0, 1, 1, 1, 1, 0]) (Tryz.f35.sub [1, 1, 1, 1, 0, 1, 0, 0, 1, 1, 0, 0, 1, 1, 1, 1, 1])))) _
      ⟨#[(v2 0), .pointer (some ⟨G, 0, none⟩), (v2 2), (v2 3), .slice A T.length c, .int .i64 len, .slice (some ⟨W0.heap.size, 0, none⟩) t.pr.length t.pr.length, .int .i64 bn, (v2 8), (v2 9), (v2 10), (v2 11), (v2 12), (v2 13), (v2 14), (v2 15), (v2 16), (v2 17), .int .i64 t.pr.length, .int .i64 k, (v2 20), (v2 21), (v2 22), (v2 23), (v2 24), (v2 25), (v2 26), (v2 27), (v2 28), (v2 29), (v2 30), (v2 31), (v2 32), (v2 33), (v2 34), (v2 35), (v2 36), (v2 37), (v2 38), (v2 39), (v2 40), (v2 41), (v2 42), (v2 43), (v2 44), (v2 45), (v2 46), (v2 47), (v2 48), (v2 49), (v2 50), (v2 51), (v2 52), (v2 53), (v2 54), (v2 55), (v2 56), (v2 57), (v2 58), (v2 59), (v2 60), (v2 61), (v2 62), (v2 63), (v2 64), (v2 65), (v2 66), (v2 67), (v2 68), (v2 69), (v2 70), (v2 71), (v2 72), (v2 73), (v2 74), (v2 75), (v2 76), (v2 77), (v2 78), (v2 79), (v2 80), (v2 81), (v2 82), (v2 83), (v2 84), (v2 85), (v2 86), (v2 87), (v2 88), (v2 89), (v2 90), (v2 91), (v2 92), (v2 93), (v2 94), (v2 95), (v2 96), (v2 97)], []⟩ _
    refine wp_seq ?_
    conv => arg 2; whnf
    dsimp only
    go_wp2_with fail
    refine nameC ?_
    intro w3 hw3
    have hB3 : Below W0.heap.size W0 w3 := by rw [hw3]; exact H2.out.1.setCell (Nat.le_refl _) _
    have hD3 : BoolB w3 W0.heap.size (dn.set bn true) := by rw [hw3]; exact BoolB.set H2.out.2.1 (by rw [H.out.sel.len]; exact hbl) true
    have hG3 : GrI w3 (W0.heap.size + 1) A c (T.map Int.ofNat) := by
      rw [hw3]
      refine GrF.other H2.out.2.2.1 (fun e => ?_) _
      have := (H2.out.2.2.1.lt e).1
      omega
    have hGw3 := (hB3.block _ hGl).trans HM.out.2.2
    clear hw3 dc df
    have g0 : w3.cell? ⟨G, 0, none⟩ = some (.slice l.S t.sc.length l.cs) := block_cell hGw3 (j := 0) (by simp)
    have g1 : w3.cell? ⟨G, 1, none⟩ = some (.slice l.P t.pr.length l.cp) := block_cell hGw3 (j := 1) (by simp)
    have hn0 : 0 < t.sc.length := by have := prs_lt HM.out.2.1 hbl; omega
    have hTr : ∀ j, j < (T.map Int.ofNat).length → 0 ≤ gi (T.map Int.ofNat) j ∧ gi (T.map Int.ofNat) j < t.pr.length := fun j hj => by
      obtain ⟨x, hx, e⟩ := List.mem_map.1 (gi_mem hj)
      obtain ⟨z, hz, e2⟩ := List.mem_map.1 (H.out.kr.sub x hx)
      have := H.out.sel.lt z hz
      have e3 : gi (T.map Int.ofNat) j = (x : Int) := e.symm
      omega
    have HJ := joined_c (l := l) (ca := c) (HM.out.1.keep hB3) HM.out.2.1 hn0 (GrI.rd hG3) hTr (by rw [List.length_map]; have := H.out.tl; omega)
    rw [List.length_map] at HJ
    have HJ := Lib.hid HJ
    unfold NetV at HJ
    have hs3 := hB3.size
    have H3 := Lib.hid (And.intro hB3 (And.intro hD3 (And.intro hG3 hGw3))); clear hB3 hD3 hG3 hGw3 hTr
    conv => arg 2; whnf
    go_wp2_with fail
    refine HJ.out.mono ?_
    rintro e w4 ⟨b, o, cu, u, rfl, hB4, hbB, hU, hLab⟩
    have hG4 := (hB4.block _ (by omega)).trans H3.out.2.2.2
    have hB04 := H3.out.1.trans (hB4.mono hs3)
    obtain ⟨pb, po, hPe, p0, p1⟩ := ((HM.out.1.rdq HM.out.2.1).keep hB04) bn (by rw [prs_len]; exact hbl)
    obtain ⟨q1, q2, q3⟩ := prs_lt HM.out.2.1 hbl
    obtain ⟨f, hf⟩ : ∃ f, (gq (prs t) bn).f = f := ⟨_, rfl⟩
    obtain ⟨s, hs⟩ : ∃ s, (gq (prs t) bn).s = s := ⟨_, rfl⟩
    rw [hf] at p0 q1
    rw [hs] at p1 q2
    have uc0 := hU.cell (j := f) (by rw [hLab.len]; exact q1)
    have uc1 := hU.cell (j := s) (by rw [hLab.len]; exact q2)
    have g1 : w4.cell? ⟨G, 1, none⟩ = some (.slice (some ⟨pb, po, none⟩) t.pr.length l.cp) := by rw [← hPe]; exact block_cell hG4 (j := 1) (by simp)
    have hs4 := hB4.size
    obtain ⟨x, hx⟩ : ∃ x, gi u f = x := ⟨_, rfl⟩
    obtain ⟨y, hy⟩ : ∃ y, gi u s = y := ⟨_, rfl⟩
    rw [hx] at uc0
    rw [hy] at uc1
    have hlabz : Lab t.sc.length (prs t) (zs.map Int.toNat) u := by
      have hb : ∀ i, i ∈ zs.map Int.toNat → (gq (prs t) i).f < t.sc.length ∧ (gq (prs t) i).s < t.sc.length := fun i hi => by
        obtain ⟨z, hz, rfl⟩ := List.mem_map.1 hi
        have := H.out.sel.lt z hz
        have := prs_lt HM.out.2.1 (i := z.toNat) (by omega)
        exact ⟨this.1, this.2.1⟩
      obtain ⟨u', hu'⟩ := lab_ex _ hb
      rw [List.map_map, show Int.toNat ∘ Int.ofNat = id from rfl, List.map_id] at hLab
      have := H.out.kr.lab hb hLab hu'
      rw [this]; exact hu'
    have H4 := Lib.hid (And.intro hB04 (And.intro hB4 (And.intro hlabz (And.intro hf (And.intro hs (And.intro hx (And.intro hy hG4)))))))
    have hfl : (f : Int) < t.sc.length := by omega
    have hsl : (s : Int) < t.sc.length := by omega
    have hbnl : (bn : Int) < t.pr.length := by omega
    clear hB04 hB4 hlabz hf hs hx hy hG4 hU hLab hPe HJ g0 q3 hbB
    go_wp2_with fail
    conv => arg 2; whnf
    go_quiet (fail)
    rename_i K8 hK8
    refine nameQ ?_
    intro w5 hw5
    have hB45 : Below w4.heap.size w4 w5 := by rw [hw5]; exact below_drewN (Below.refl _ _) nq
    have hB05 : Below W0.heap.size W0 w5 := H4.out.1.trans (hB45.mono (by omega))
    have hD5 : BoolB w5 W0.heap.size (dn.set bn true) := FlB.keep (FlB.keep H3.out.2.1 H4.out.2.1) hB45
    have hG5 : GrI w5 (W0.heap.size + 1) A c (T.map Int.ofNat) := (H3.out.2.2.1.keep H4.out.2.1).keep hB45
    have hs5 := hB45.size
    clear hw5
    have H5 := Lib.hid (And.intro hB05 (And.intro hD5 hG5)); clear hB05 hD5 hG5 hB45 p0 p1 uc0 uc1 g1
    dsimp only [Exit.then]
    refine hK8 _ _ ?_
    clear hK8 K8
    have hzm : (zs ++ [(bn : Int)]).map Int.toNat = zs.map Int.toNat ++ [bn] := by simp
    have hzl2 : (zs ++ [(bn : Int)]).length = k + 1 := by rw [List.length_append, H.out.kz]; rfl
    have hlb := lenP_bd HM.out.2.1 (i := bn) (by omega) hbnl
    have hln := H.out.ln
    have htl := H.out.tl
    by_cases hxy : x = y
    · have hd : (x != y) = false := by simpa using hxy
      have hkr : Kr t.sc.length (prs t) ((zs ++ [(bn : Int)]).map Int.toNat) T := by
        rw [hzm]
        exact .skip H.out.kr H4.out.2.2.1 (by rw [H4.out.2.2.2.1, H4.out.2.2.2.2.1, H4.out.2.2.2.2.2.1, H4.out.2.2.2.2.2.2.1]; exact hxy)
      have HK := Lib.hid hkr; clear hkr hxy
      conv => arg 2; whnf
      go_wp2_with fail
      conv => arg 2; whnf
      go_wp2_with fail
      refine ⟨⟨k + 1, zs ++ [(bn : Int)], T, dn.set bn true, A, c, len, by omega, ⟨hzl2, H5.out.1, H5.out.2.1, H2.out.2.2.2.2.1, HK.out, by omega, H5.out.2.2, by omega⟩, by (refine ⟨rfl, rfl, ?_⟩; repeat (first | exact trivial | refine ⟨rfl, ?_⟩))⟩, ?_⟩
      show t.pr.length - ((k : Int) + 1).toNat < mu
      omega
    · have hd : (x != y) = true := by simpa using hxy
      have hkr : Kr t.sc.length (prs t) ((zs ++ [(bn : Int)]).map Int.toNat) (T ++ [bn]) := by
        rw [hzm]
        exact .take H.out.kr H4.out.2.2.1 (by rw [H4.out.2.2.2.1, H4.out.2.2.2.2.1, H4.out.2.2.2.2.2.1, H4.out.2.2.2.2.2.2.1]; exact hxy)
      have HK := Lib.hid hkr; clear hkr hxy
      have hS : ∀ q, q ∈ ApD.S ⟨W0.heap.size + 1, A, c, T.map Int.ofNat, bn⟩ → W0.heap.size + 1 ≤ q ∧ q < w5.heap.size := fun q hq => by
        unfold ApD.S at hq
        rw [Option.mem_toList] at hq
        exact H5.out.2.2.lt hq
      have hSB : ∀ w', Tch (A.map (·.block)).toList w5 w' → Below W0.heap.size W0 w' := fun w' h => h.below H5.out.1 (Nat.le_refl _) (fun q hq => by
        rw [Option.mem_toList] at hq
        have := (H5.out.2.2.lt hq).1
        omega)
      have hGw5 := (H5.out.1.block _ hGl).trans HM.out.2.2
      show Code.wp Tryz.prog (.cond (.tmp 71) (Tryz.f35.sub [1, 1, 1, 1, 0, 1, 0, 0, 1, 1, 0, 0, 1, 1, 1, 1, 1, 0]) .skip) _ _ _
      have HSS := Lib.hid (And.intro hS (And.intro hSB hGw5)); clear hS hSB hGw5
      go_wp2_with fail
      refine li_app (l := l) (len := len) (v18 := .int .i64 t.pr.length) (v19 := .int .i64 k) (by simp) ⟨H5.out.2.2, by have := H5.out.2.1; have := FlB.lt this; show W0.heap.size + 1 ≤ w5.heap.size; omega, by show (T.map Int.ofNat).length < 100000; rw [List.length_map]; omega⟩ (fun w' h => HM.out.1.keep (HSS.out.2.1 w' h)) HM.out.2.1 HSS.out.2.2 (fun h => by have := (HSS.out.1 _ h).1; omega) hbl (by omega) ?_
      intro a6 A' c' w6 hT6 hG6 hfr6
      obtain ⟨v6, rfl⟩ := hfr6.open
      clear hfr6
      refine hK6 _ _ ?_
      clear hK6
      have hB06 := HSS.out.2.1 w6 hT6
      have hD6 : BoolB w6 W0.heap.size (dn.set bn true) := (hT6.block _ (FlB.lt H5.out.2.1) (fun hq => by
        rw [Option.mem_toList] at hq
        have := (H5.out.2.2.lt hq).1
        omega)).trans H5.out.2.1
      have H6 := Lib.hid (And.intro hB06 (And.intro hD6 hG6)); clear hB06 hD6 hG6 hT6
      show Code.wp Tryz.prog (Tryz.f35.sub [1, 1, 1, 1, 0, 1, 0, 0, 1, 1, 1]) _ ⟨#[(v6 0), .pointer (some ⟨G, 0, none⟩), (v6 2), (v6 3), .slice A' (T.length + 1) c', .int .i64 (len + lenP t bn), .slice (some ⟨W0.heap.size, 0, none⟩) t.pr.length t.pr.length, (v6 7), (v6 8), (v6 9), (v6 10), (v6 11), (v6 12), (v6 13), (v6 14), (v6 15), (v6 16), (v6 17), .int .i64 t.pr.length, .int .i64 k, (v6 20), (v6 21), (v6 22), (v6 23), (v6 24), (v6 25), (v6 26), (v6 27), (v6 28), (v6 29), (v6 30), (v6 31), (v6 32), (v6 33), (v6 34), (v6 35), (v6 36), (v6 37), (v6 38), (v6 39), (v6 40), (v6 41), (v6 42), (v6 43), (v6 44), (v6 45), (v6 46), (v6 47), (v6 48), (v6 49), (v6 50), (v6 51), (v6 52), (v6 53), (v6 54), (v6 55), (v6 56), (v6 57), (v6 58), (v6 59), (v6 60), (v6 61), (v6 62), (v6 63), (v6 64), (v6 65), (v6 66), (v6 67), (v6 68), (v6 69), (v6 70), (v6 71), (v6 72), (v6 73), (v6 74), (v6 75), (v6 76), (v6 77), (v6 78), (v6 79), (v6 80), (v6 81), (v6 82), (v6 83), (v6 84), (v6 85), (v6 86), (v6 87), (v6 88), (v6 89), (v6 90), (v6 91), (v6 92), (v6 93), (v6 94), (v6 95), (v6 96), (v6 97)], []⟩ _
      conv => arg 2; whnf
      dsimp only
      go_wp2_with fail
      refine ⟨⟨k + 1, zs ++ [(bn : Int)], T ++ [bn], dn.set bn true, A', c', len + lenP t bn, by omega, ⟨hzl2, H6.out.1, H6.out.2.1, H2.out.2.2.2.2.1, HK.out, by simp; omega, by rw [List.map_append]; exact H6.out.2.2, by omega⟩, ?_⟩, ?_⟩
      · rw [List.length_append]; (refine ⟨rfl, rfl, ?_⟩; repeat (first | exact trivial | refine ⟨rfl, ?_⟩))
      · show t.pr.length - ((k : Int) + 1).toNat < mu
        omega
  · obtain rfl : k = t.pr.length := by omega
    go_wp2_with fail
    conv => arg 2; whnf
    go_wp2_with fail
    exact HQ.out _ _ zs T dn A c len H.out (by (refine ⟨rfl, rfl, ?_⟩; repeat (first | exact trivial | refine ⟨rfl, ?_⟩)))
def flt (xs : List Int) (i : Nat) : List Int := (rng i).filter fun x => decide (x ∈ xs)
theorem flt_in {xs : List Int} {i : Nat} (h : (i : Int) ∈ xs) : flt xs (i + 1) = flt xs i ++ [(i : Int)] := by unfold flt; rw [rng_succ, List.filter_append]; simp [h]
theorem flt_out {xs : List Int} {i : Nat} (h : (i : Int) ∉ xs) : flt xs (i + 1) = flt xs i := by unfold flt; rw [rng_succ, List.filter_append]; simp [h]
theorem flt_le (xs : List Int) (i : Nat) : (flt xs i).length ≤ i := by unfold flt; have := List.length_filter_le (fun x => decide (x ∈ xs)) (rng i); rw [rng_len] at this; exact this
def LoopO (W3 : World) (m : Nat) (xs : List Int) (G : Nat) (v4 v5 : Value) (a : Act) (w : World) : Prop :=
  ∃ (i : Nat) (A : Option Addr) (c : Nat), i ≤ m ∧ Below W3.heap.size W3 w ∧ GrI w W3.heap.size A c (flt xs i) ∧ Fr 98 [(1, .pointer (some ⟨G, 0, none⟩)), (4, v4), (5, v5), (10, .slice A (flt xs i).length c), (11, .int .i64 i)] a
theorem li_out {W3 : World} {m n cs cp G tc : Nat} {S P TA : Option Addr} {xs : List Int} {q : Nat} {v5 : Value} (hq : xs.length = q) (hm : m ≤ 200) (hxl : xs.length ≤ 200) (hG : W3.heap[G]? = some (.cells #[.slice S n cs, .slice P m cp] 25 (0, 0))) (hR : RdI W3 TA xs) {Q : Exit → Act → World → Prop}
    (hQ : ∀ a w A c, Below W3.heap.size W3 w → GrI w W3.heap.size A c (flt xs m) → Fr 98 [(5, v5), (10, .slice A (flt xs m).length c)] a → Q (.exit 4) a w) {a : Act} {w : World} (hI : LoopO W3 m xs G (.slice TA q tc) v5 a w) :
    Code.wp Tryz.prog (Tryz.f35.sub [1, 1, 1, 1, 1, 1, 0, 1, 0, 0]) (Exit.then (fun a' w' => LoopO W3 m xs G (.slice TA q tc) v5 a' w' ∧ m - (intOf (a'.tmps.getD 11 undef)).toNat < m - (intOf (a.tmps.getD 11 undef)).toNat) Q) a w := by
  subst hq
  obtain ⟨i, A, c, hi, hB, hGr, hfr⟩ := hI
  obtain ⟨v, rfl⟩ := hfr.open
  clear hfr
  generalize hmu : m - (intOf ((⟨frL 98 _ v, []⟩ : Act).tmps.getD 11 undef)).toNat = mu
  have hmu' : m - i = mu := by rw [← hmu]; rfl
  clear hmu
  have HQ := Lib.hid hQ; clear hQ
  have g1 : w.cell? ⟨G, 1, none⟩ = some (.slice P m cp) := block_cell ((hB.block _ (Array.getElem?_eq_some_iff.1 hG).1).trans hG) (j := 1) (by simp)
  have hsz := hB.size
  have HH := Lib.hid (has_c (c := tc) (n := (i : Int)) (hR.keep hB) (by omega))
  have hfl := flt_le xs i
  have H := Lib.hid (And.intro hB hGr); clear hB hGr hG hR
  show Code.wp Tryz.prog (Tryz.f35.sub [1, 1, 1, 1, 1, 1, 0, 1, 0, 0]) _ ⟨#[(v 0), .pointer (some ⟨G, 0, none⟩), (v 2), (v 3), .slice TA xs.length tc, v5, (v 6), (v 7), (v 8), (v 9), .slice A (flt xs i).length c, .int .i64 i, (v 12), (v 13), (v 14), (v 15), (v 16), (v 17), (v 18), (v 19), (v 20), (v 21), (v 22), (v 23), (v 24), (v 25), (v 26), (v 27), (v 28), (v 29), (v 30), (v 31), (v 32), (v 33), (v 34), (v 35), (v 36), (v 37), (v 38), (v 39), (v 40), (v 41), (v 42), (v 43), (v 44), (v 45), (v 46), (v 47), (v 48), (v 49), (v 50), (v 51), (v 52), (v 53), (v 54), (v 55), (v 56), (v 57), (v 58), (v 59), (v 60), (v 61), (v 62), (v 63), (v 64), (v 65), (v 66), (v 67), (v 68), (v 69), (v 70), (v 71), (v 72), (v 73), (v 74), (v 75), (v 76), (v 77), (v 78), (v 79), (v 80), (v 81), (v 82), (v 83), (v 84), (v 85), (v 86), (v 87), (v 88), (v 89), (v 90), (v 91), (v 92), (v 93), (v 94), (v 95), (v 96), (v 97)], []⟩ _
  conv => arg 2; whnf
  dsimp only
  by_cases hlt : i < m
  · have hilt : (i : Int) < m := by omega
    by_cases hin : (i : Int) ∈ xs
    · have hd : decide ((i : Int) ∈ xs) = true := decide_eq_true hin
      rw [hd] at HH
      have HF := Lib.hid (flt_in hin); clear hin hd
      go_wp2_with fail
      refine HH.out.mono ?_
      rintro e w' ⟨rfl, rfl⟩
      go_wp2_with (at_builtin; refine wpList_append_t Tryz.underlying26 rfl _ _ rfl (GrF.keep H.out.2 ((Below.refl _ _).alloc (Nat.le_refl _) (.cells #[.int .i64 (i : Int)] 3))) (i : Int) _ _ rfl rfl (block_cell (World.alloc_heap_new w _) (j := 0) (by simp)) (by omega) (by simp; omega) ?_)
      intro A' c' w' g1 g2
      have hb0 : Below W3.heap.size W3 (w.alloc (.cells #[.int .i64 (i : Int)] 3)) := H.out.1.trans ((Below.refl _ _).alloc hsz _)
      have g3 := grown_below hb0 (Nat.le_refl _) (GrF.keep H.out.2 ((Below.refl _ _).alloc (Nat.le_refl _) (.cells #[.int .i64 (i : Int)] 3))) g2
      have J := Lib.hid (And.intro g1 g3); clear g1 g2 g3 hb0
      go_wp2_with fail
      refine ⟨⟨i + 1, A', c', by omega, J.out.2, by rw [HF.out]; exact J.out.1, by rw [HF.out, List.length_append]; (refine ⟨rfl, rfl, ?_⟩; repeat (first | exact trivial | refine ⟨rfl, ?_⟩))⟩, ?_⟩
      show m - ((i : Int) + 1).toNat < mu
      omega
    · have hd : decide ((i : Int) ∈ xs) = false := decide_eq_false hin
      rw [hd] at HH
      have HF := Lib.hid (flt_out hin); clear hin hd
      go_wp2_with fail
      refine HH.out.mono ?_
      rintro e w' ⟨rfl, rfl⟩
      go_wp2_with fail
      refine ⟨⟨i + 1, A, c, by omega, H.out.1, by rw [HF.out]; exact H.out.2, by rw [HF.out]; (refine ⟨rfl, rfl, ?_⟩; repeat (first | exact trivial | refine ⟨rfl, ?_⟩))⟩, ?_⟩
      show m - ((i : Int) + 1).toNat < mu
      omega
  · obtain rfl : i = m := by omega
    go_wp2_with fail
    exact HQ.out _ _ A c H.out.1 H.out.2 (by (refine ⟨rfl, rfl, ?_⟩; repeat (first | exact trivial | refine ⟨rfl, ?_⟩)))
def RLiPost (t : Sk) (w : World) (e : Ending) (w' : World) : Prop := ∃ A c F len, e = .returned (.tuple #[.slice A F.length c, .int .i64 len]) ∧ Below w.heap.size w w' ∧ RdI w' A F ∧ Frs t F ∧ F.length ≤ t.pr.length
theorem rlightest_c {t : Sk} {l : SkL} {w : World} (hM : NetM w t l) (ho : NetOk t) : Calls Tryz.prog 35 #[NetV t l] w (RLiPost t w) := by
  have h200 := ho.m_le
  have HM := Lib.hid (And.intro hM ho); clear hM ho
  unfold NetV
  go_enter Tryz.func35, Tryz.ntmps35
  show Code.wp Tryz.prog (.seq (Tryz.f35.sub [0]) (.seq (Tryz.f35.sub [1, 0]) (.seq (Tryz.f35.sub [1, 1, 0]) (.seq (Tryz.f35.sub [1, 1, 1, 0]) (.seq (.seq (Tryz.f35.sub [1, 1, 1, 1, 0, 0]) (.block 0 (.loop (Tryz.f35.sub [1, 1, 1, 1, 0, 1, 0, 0])))) (.seq (Tryz.f35.sub [1, 1, 1, 1, 1, 0]) (.seq (.seq (Tryz.f35.sub [1, 1, 1, 1, 1, 1, 0, 0]) (.block 4 (.loop (Tryz.f35.sub [1, 1, 1, 1, 1, 1, 0, 1, 0, 0])))) (Tryz.f35.sub [1, 1, 1, 1, 1, 1, 1])))))))) _ _ _
  refine wp_seq ?_
  conv => arg 2; whnf
  go_wp2_with fail
  refine nameC ?_
  intro W1 hW1
  obtain ⟨hB1, e1⟩ := alloc1 w _ hW1
  clear hW1
  obtain ⟨G, hG⟩ : ∃ G, w.heap.size = G := ⟨_, rfl⟩
  rw [hG] at e1
  rw [hG]
  have g1 : W1.cell? ⟨G, 1, none⟩ = some (.slice l.P t.pr.length l.cp) := block_cell e1 (j := 1) (by simp)
  have HB := Lib.hid (And.intro hB1 (And.intro e1 hG)); clear hB1 e1 hG
  conv => arg 2; whnf
  go_wp2_with fail
  conv => arg 2; whnf
  go_wp2_with fail
  have hmk := run_make_bools t.pr.length (by omega) W1
  conv => arg 2; whnf
  go_wp2_with fail
  refine nameC ?_
  intro W2 hW2
  have hB2 : Below W1.heap.size W1 W2 := by rw [hW2]; exact (Below.refl _ _).alloc (Nat.le_refl _) _
  have hD2 : BoolB W2 W1.heap.size (List.replicate t.pr.length false) := by rw [hW2]; exact FlB.new W1 encB _ _
  have g1' := cell_keep hB2 g1
  have hz2 : W2.heap.size = W1.heap.size + 1 := by rw [hW2]; simp
  have H2 := Lib.hid (And.intro hB2 hD2); clear hB2 hD2 hW2 hmk g1
  conv => arg 2; whnf
  go_wp2_with fail
  refine wp_loop (LoopL W1 t G) (fun a _ => t.pr.length - (intOf (a.tmps.getD 19 undef)).toNat) ⟨0, [], [], _, none, 0, 0, Nat.zero_le _, ⟨rfl, H2.out.1, H2.out.2, Sel.start _ _, Kr.nil, Nat.le_refl _, GrF.start _ _, by omega⟩, by (refine ⟨rfl, rfl, ?_⟩; repeat (first | exact trivial | refine ⟨rfl, ?_⟩))⟩ ?_
  intro a3 w3 hI3
  refine li_outer (HM.out.1.keep HB.out.1) HM.out.2 HB.out.2.1 ?_ hI3
  intro a4 w4 zs T dn A c len hL hfr4
  rename_i K6 hK6
  obtain ⟨v4, rfl⟩ := hfr4.open
  clear hfr4 hI3
  refine hK6 _ _ ?_
  clear hK6
  have HL := Lib.hid hL; clear hL
  have hG4 := (HL.out.bel.block _ (Array.getElem?_eq_some_iff.1 HB.out.2.1).1).trans HB.out.2.1
  have HG4 := Lib.hid hG4; clear hG4 g1'
  have htl := HL.out.tl
  show Code.wp Tryz.prog (.seq (Tryz.f35.sub [1, 1, 1, 1, 1, 0]) (.seq (.seq (Tryz.f35.sub [1, 1, 1, 1, 1, 1, 0, 0]) (.block 4 (.loop (Tryz.f35.sub [1, 1, 1, 1, 1, 1, 0, 1, 0, 0])))) (Tryz.f35.sub [1, 1, 1, 1, 1, 1, 1]))) _ ⟨#[(v4 0), .pointer (some ⟨G, 0, none⟩), (v4 2), (v4 3), .slice A T.length c, .int .i64 len, (v4 6), (v4 7), (v4 8), (v4 9), (v4 10), (v4 11), (v4 12), (v4 13), (v4 14), (v4 15), (v4 16), (v4 17), (v4 18), (v4 19), (v4 20), (v4 21), (v4 22), (v4 23), (v4 24), (v4 25), (v4 26), (v4 27), (v4 28), (v4 29), (v4 30), (v4 31), (v4 32), (v4 33), (v4 34), (v4 35), (v4 36), (v4 37), (v4 38), (v4 39), (v4 40), (v4 41), (v4 42), (v4 43), (v4 44), (v4 45), (v4 46), (v4 47), (v4 48), (v4 49), (v4 50), (v4 51), (v4 52), (v4 53), (v4 54), (v4 55), (v4 56), (v4 57), (v4 58), (v4 59), (v4 60), (v4 61), (v4 62), (v4 63), (v4 64), (v4 65), (v4 66), (v4 67), (v4 68), (v4 69), (v4 70), (v4 71), (v4 72), (v4 73), (v4 74), (v4 75), (v4 76), (v4 77), (v4 78), (v4 79), (v4 80), (v4 81), (v4 82), (v4 83), (v4 84), (v4 85), (v4 86), (v4 87), (v4 88), (v4 89), (v4 90), (v4 91), (v4 92), (v4 93), (v4 94), (v4 95), (v4 96), (v4 97)], []⟩ _
  refine wp_seq ?_
  conv => arg 2; whnf
  dsimp only
  go_wp2_with fail
  conv => arg 2; whnf
  go_wp2_with fail
  refine wp_loop (LoopO w4 t.pr.length (T.map Int.ofNat) G (.slice A T.length c) (.int .i64 len)) (fun a _ => t.pr.length - (intOf (a.tmps.getD 11 undef)).toNat) ⟨0, none, 0, Nat.zero_le _, Below.refl _ _, GrF.start _ _, by (refine ⟨rfl, rfl, ?_⟩; repeat (first | exact trivial | refine ⟨rfl, ?_⟩))⟩ ?_
  intro a5 w5 hI5
  refine li_out (by simp) h200 (by rw [List.length_map]; omega) HG4.out (GrI.rd HL.out.gr) ?_ hI5
  intro a6 w6 A6 c6 hB6 hG6 hfr6
  rename_i K7 hK7
  obtain ⟨v6, rfl⟩ := hfr6.open
  clear hfr6 hI5
  refine hK7 _ _ ?_
  clear hK7
  have H6 := Lib.hid (And.intro hB6 hG6); clear hB6 hG6
  obtain ⟨F, hF⟩ : ∃ F, flt (T.map Int.ofNat) t.pr.length = F := ⟨_, rfl⟩
  rw [hF] at H6 ⊢
  have hfle := flt_le (T.map Int.ofNat) t.pr.length
  rw [hF] at hfle
  have HF := Lib.hid hF; clear hF
  show Code.wp Tryz.prog (Tryz.f35.sub [1, 1, 1, 1, 1, 1, 1]) _ ⟨#[(v6 0), (v6 1), (v6 2), (v6 3), (v6 4), .int .i64 len, (v6 6), (v6 7), (v6 8), (v6 9), .slice A6 F.length c6, (v6 11), (v6 12), (v6 13), (v6 14), (v6 15), (v6 16), (v6 17), (v6 18), (v6 19), (v6 20), (v6 21), (v6 22), (v6 23), (v6 24), (v6 25), (v6 26), (v6 27), (v6 28), (v6 29), (v6 30), (v6 31), (v6 32), (v6 33), (v6 34), (v6 35), (v6 36), (v6 37), (v6 38), (v6 39), (v6 40), (v6 41), (v6 42), (v6 43), (v6 44), (v6 45), (v6 46), (v6 47), (v6 48), (v6 49), (v6 50), (v6 51), (v6 52), (v6 53), (v6 54), (v6 55), (v6 56), (v6 57), (v6 58), (v6 59), (v6 60), (v6 61), (v6 62), (v6 63), (v6 64), (v6 65), (v6 66), (v6 67), (v6 68), (v6 69), (v6 70), (v6 71), (v6 72), (v6 73), (v6 74), (v6 75), (v6 76), (v6 77), (v6 78), (v6 79), (v6 80), (v6 81), (v6 82), (v6 83), (v6 84), (v6 85), (v6 86), (v6 87), (v6 88), (v6 89), (v6 90), (v6 91), (v6 92), (v6 93), (v6 94), (v6 95), (v6 96), (v6 97)], []⟩ _
  conv => arg 2; whnf
  dsimp only
  go_wp2_with fail
  go_ret2
  have hs1 := HB.out.1.size
  have hs4 := HL.out.bel.size
  refine ⟨A6, c6, F, len, rfl, HB.out.1.trans ((HL.out.bel.trans (H6.out.1.mono hs4)).mono hs1), GrI.rd H6.out.2, ?_, hfle⟩
  obtain ⟨h1, h2⟩ := HL.out.sel.full HL.out.kz
  refine ⟨zs, T, h1, h2, HL.out.kr, fun i => ?_⟩
  rw [← HF.out]
  unfold flt
  rw [List.mem_filter, decide_eq_true_eq, List.mem_map]
  constructor
  · rintro ⟨_, k, hk, rfl⟩; exact ⟨k, hk, rfl⟩
  · rintro ⟨k, hk, rfl⟩
    refine ⟨mem_rng.2 ⟨Int.natCast_nonneg k, ?_⟩, k, hk, rfl⟩
    obtain ⟨z, hz, e⟩ := List.mem_map.1 (HL.out.kr.sub k hk)
    have := HL.out.sel.lt z hz
    omega
theorem rends_c {b o m i f s n cs cp : Nat} {S : Option Addr} {sg : Int} {w : World} (hsg : sg = 1 ∨ sg = -1) (hi : i < m) (hm : m ≤ 200)
    (p0 : w.cell? ⟨b, o + i * 2, none⟩ = some (.int .i64 (f : Nat))) (p1 : w.cell? ⟨b, o + i * 2 + 1, none⟩ = some (.int .i64 (s : Nat))) :
    Calls Tryz.prog 76 #[.agg #[.slice S n cs, .slice (some ⟨b, o, none⟩) m cp], .agg #[.int .i64 i, .int .i64 sg]] w fun e w' => e = .returned (.tuple #[.int .i64 ((if sg = 1 then f else s : Nat) : Int), .int .i64 ((if sg = 1 then s else f : Nat) : Int)]) ∧ Below w.heap.size w w' := by
  have hil : (i : Int) < m := by omega
  have hbl : b < w.heap.size := World.block_lt_of_cell? _ _ p0
  rcases hsg with rfl | rfl
  · rw [if_pos rfl, if_pos rfl]
    have hb0 := ((((Below.refl w.heap.size w).alloc (Nat.le_refl _) (.cells #[.slice S n cs, .slice (some ⟨b, o, none⟩) m cp] 25)).alloc (by simp) (.cells #[.int .i64 i, .int .i64 1] 95)).alloc (by simp; omega) (.cells #[.int .i64 (f : Nat), .int .i64 (s : Nat)] 60))
    have HB := Lib.hid hb0; clear hb0
    go_enter Tryz.func76, Tryz.ntmps76
    go_wp2_with fail
    go_quiet (fail)
    go_wp2_with fail
    go_ret2
    exact ⟨rfl, below_drewN HB.out _⟩
  · rw [if_neg (by decide), if_neg (by decide)]
    have hb0 := ((((Below.refl w.heap.size w).alloc (Nat.le_refl _) (.cells #[.slice S n cs, .slice (some ⟨b, o, none⟩) m cp] 25)).alloc (by simp) (.cells #[.int .i64 i, .int .i64 (-1)] 95)).alloc (by simp; omega) (.cells #[.int .i64 (f : Nat), .int .i64 (s : Nat)] 60))
    have HB := Lib.hid hb0; clear hb0
    go_enter Tryz.func76, Tryz.ntmps76
    go_wp2_with fail
    go_quiet (fail)
    go_wp2_with fail
    go_ret2
    exact ⟨rfl, below_drewN HB.out _⟩
end Go.Proofs.YtjnpchoinncbnaaGreat
end
