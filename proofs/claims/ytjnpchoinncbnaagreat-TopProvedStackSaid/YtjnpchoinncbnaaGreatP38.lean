/- Proves parts of the statement, each under the conditions that its theorem states: The reference's copy of a stack's task; The reference's Corrected: the loop; The reference's Corrected: the contract; The reference's CheckCorrections: the loops. -/
import Derived.Test.YtjnpchoinncbnaaGreatP37
import Derived.Test.YtjnpchoinncbnaaGreatP13
import Derived.Test.YtjnpchoinncbnaaGreatP07
set_option linter.unusedSimpArgs false
set_option linter.unusedVariables false
set_option maxHeartbeats 4000000
set_option maxRecDepth 100000
section
namespace Go.Proofs.YtjnpchoinncbnaaGreat
open Go.RowKit Sw Fam
def TCt (B : Nat) (t : Sk) (V : Nat → Value) : Nat → World → Prop
  | 2, w => ∃ A c A2 c2, V 2 = .agg #[.slice A t.sc.length c, .slice A2 t.pr.length c2] ∧ GrSc w B A c t.sc ∧ GrRp w B A2 c2 t.pr
  | 5, w => ∃ A c, V 5 = .slice A t.ph.length c ∧ GrI w B A c t.ph
  | 8, w => ∃ A c, V 8 = .slice A t.ws.length c ∧ GrI w B A c t.ws
  | 9, w => ∃ A c A2 c2 A3 c3 A4 c4, V 2 = .agg #[.slice A t.sc.length c, .slice A2 t.pr.length c2] ∧ V 5 = .slice A3 t.ph.length c3 ∧ V 8 = .slice A4 t.ws.length c4 ∧ V 9 = .agg #[.slice A t.sc.length c, .slice A2 t.pr.length c2, .slice A3 t.ph.length c3, .slice A4 t.ws.length c4]
  | _, _ => True
theorem TCt_ok (B : Nat) (t : Sk) {ops : Array Oper} (hd : (dep ops 9 2 && dep ops 9 5 && dep ops 9 8) = true) : GrT ops (TCt B t) := by
  simp only [Bool.and_eq_true] at hd
  obtain ⟨⟨d1, d2⟩, d3⟩ := hd
  constructor
  · intro V j w w' h hb
    unfold TCt at h ⊢
    split
    · obtain ⟨A, c, A2, c2, h1, h2, h3⟩ := h; exact ⟨A, c, A2, c2, h1, GrF.keep h2 hb, GrF.keep h3 hb⟩
    · obtain ⟨A, c, h1, h2⟩ := h; exact ⟨A, c, h1, GrF.keep h2 hb⟩
    · obtain ⟨A, c, h1, h2⟩ := h; exact ⟨A, c, h1, GrF.keep h2 hb⟩
    · exact h
    · trivial
  · intro L V w i u j hi hc hj h
    have hne : j ≠ i := fun e => by rw [← e, hj] at hi; cases hi
    have key : ∀ k, dep ops j k = true → k ≠ i := fun k hk e => by subst e; rw [hc.not hk hi] at hj; cases hj
    unfold TCt at h ⊢
    split
    · rw [setV_ne _ _ hne]; exact h
    · rw [setV_ne _ _ hne]; exact h
    · rw [setV_ne _ _ hne]; exact h
    · rw [setV_ne _ _ hne, setV_ne _ _ (key 2 d1), setV_ne _ _ (key 5 d2), setV_ne _ _ (key 8 d3)]; exact h
    · trivial
theorem ex_build_task {ρ : Operand → Value} {o : Oper} {w : World} (x0 x1 x2 : Operand) (ho : o.op = .build 28 #[(0, x0), (1, x1), (2, x2)]) {A A2 A3 A4 : Option Addr} {n c n2 c2 n3 c3 n4 c4 : Nat}
    (h0 : ρ x0 = .agg #[.slice A n c, .slice A2 n2 c2]) (h1 : ρ x1 = .slice A3 n3 c3) (h2 : ρ x2 = .slice A4 n4 c4) :
    (execOp ρ o).run Tryz.prog w = .ok (.value (.agg #[.slice A n c, .slice A2 n2 c2, .slice A3 n3 c3, .slice A4 n4 c4])) w := by
  unfold execOp
  simp only [ho, h0, h1, h2, List.map_toArray, List.map_cons, List.map_nil]
  go_simp
def CtPost (t : Sk) (w : World) (e : Ending) (w' : World) : Prop := ∃ l, e = .returned (SkV t l) ∧ Below w.heap.size w w' ∧ GrSc w' w.heap.size l.S l.cs t.sc ∧ GrRp w' w.heap.size l.P l.cp t.pr ∧ GrI w' w.heap.size l.H l.ch t.ph ∧ GrI w' w.heap.size l.W l.cw t.ws
theorem copyTask_c {t : Sk} {l : SkL} {w : World} (hM : SkM w t l) (hn : t.sc.length ≤ 1000) (hm : t.pr.length ≤ 1000) (hh : t.ph.length ≤ 1000) (hw : t.ws.length ≤ 1000) : Calls Tryz.prog 7 #[SkV t l] w (CtPost t w) := by
  have HM := Lib.hid hM; clear hM
  unfold SkV
  go_enter Tryz.func7, Tryz.ntmps7
  go_wp2_with fail
  obtain ⟨w1, hw1⟩ : ∃ w1, w1 = (w.alloc (.cells #[.slice l.S t.sc.length l.cs, .slice l.P t.pr.length l.cp, .slice l.H t.ph.length l.ch, .slice l.W t.ws.length l.cw] 28)).alloc (.cells #[.slice none 0 0, .slice none 0 0, .slice none 0 0, .slice none 0 0] 28) := ⟨_, rfl⟩
  rw [← hw1]
  obtain ⟨hz1, hT1, hR1, hB1⟩ := alloc2 w _ _ hw1
  clear hw1
  have t0 : w1.cell? ⟨w.heap.size, 0, none⟩ = some (.slice l.S t.sc.length l.cs) := block_cell hT1 (j := 0) (by simp)
  have t1 : w1.cell? ⟨w.heap.size, 1, none⟩ = some (.slice l.P t.pr.length l.cp) := block_cell hT1 (j := 1) (by simp)
  have t2 : w1.cell? ⟨w.heap.size, 2, none⟩ = some (.slice l.H t.ph.length l.ch) := block_cell hT1 (j := 2) (by simp)
  have t3 : w1.cell? ⟨w.heap.size, 3, none⟩ = some (.slice l.W t.ws.length l.cw) := block_cell hT1 (j := 3) (by simp)
  refine region_rel (by kernel_rfl) (by kernel_rfl) (by kernel_rfl) (GrC w1.heap.size w1 (fun L => L 10) (TCt w1.heap.size t) (fun V w' => ∃ w0 A c A2 c2 A3 c3 A4 c4, Below w1.heap.size w1 w0 ∧ GrSc w0 w1.heap.size A c t.sc ∧ GrRp w0 w1.heap.size A2 c2 t.pr ∧ GrI w0 w1.heap.size A3 c3 t.ph ∧ GrI w0 w1.heap.size A4 c4 t.ws ∧ w' = w0.setCells (w.heap.size + 1) 0 [.slice A t.sc.length c, .slice A2 t.pr.length c2, .slice A3 t.ph.length c3, .slice A4 t.ws.length c4])) (GrC.start rfl (Below.refl _ _).drew) ?_
  (repeat (first | (refine relq rfl rfl (by (first | (exact fun _ _ _ h => GrC.up (fun L => upd_ne _ (by decide)) (fun _ _ => trivial) h) | (exact fun _ _ _ h => GrC.up (fun L => rfl) (fun _ _ => trivial) h) | (exact fun _ _ _ h => Lst.up (by decide) h) | (exact fun _ _ _ h => h))) (fun K hK => ?_); go_big_quiet_op; (refine hK _ ?_; clear hK K)) | (refine relk_nil rfl _ rfl _ rfl (by (first | (exact fun _ _ _ h => GrC.up (fun L => upd_ne _ (by decide)) (fun _ _ => trivial) h) | (exact fun _ _ _ h => GrC.up (fun L => rfl) (fun _ _ => trivial) h) | (exact fun _ _ _ h => Lst.up (by decide) h) | (exact fun _ _ _ h => h))) (fun K hK => ?_); simp only [Fam.pt]; (refine hK _ ?_; clear hK K))))
  refine relk_val rfl (.agg #[.slice l.S t.sc.length l.cs, .slice l.P t.pr.length l.cp]) (by (first | (exact fun _ _ _ h => GrC.up (fun L => upd_ne _ (by decide)) (fun _ _ => trivial) h) | (exact fun _ _ _ h => GrC.up (fun L => rfl) (fun _ _ => trivial) h) | (exact fun _ _ _ h => Lst.up (by decide) h) | (exact fun _ _ _ h => h))) (fun V L w' h1 h2 h3 hC => ex_loadN 25 _ rfl w.heap.size 0 rfl [.slice l.S t.sc.length l.cs, .slice l.P t.pr.length l.cp] _ (rangeAt2 (cellB (hC.before ((ahead_last (by kernel_rfl)).1 L h1 h3)).1 t0) (cellB (hC.before ((ahead_last (by kernel_rfl)).1 L h1 h3)).1 t1)) Tryz.underlying25 rfl (by kernel_rfl)) (fun K hK => ?_)
  simp only [Fam.pt]
  refine hK _ ?_
  clear hK K
  refine gr_free (TCt_ok _ _ (by kernel_rfl)) (ahead_last (by kernel_rfl)) (Nat.le_refl _) rfl (fun V L wx hB hT hw => ?_) ?_
  · rw [ex_call1 18 (.tmp 4) _ rfl rfl rfl (enters_fn Tryz.func18 (by kernel_rfl) rfl)]
    refine (copyNet_c (t := t) (l := l) ((HM.out.net.keep hB1).keep hB) hn hm).mono ?_
    rintro e w' ⟨l', rfl, hb, g1, g2⟩
    exact ⟨_, rfl, hb, fun V' _ h => ⟨l'.S, l'.cs, l'.P, l'.cp, h, g1.low hB.size, g2.low hB.size⟩⟩
  simp only [Fam.pt]
  (refine gr_fix (ahead_last (by kernel_rfl)) rfl (.pointer (some ⟨w.heap.size, 2, none⟩)) (fun _ _ => trivial) (fun V w hB => by unfold execOp; go_simp) ?_; simp only [Fam.pt])
  (refine gr_fix (ahead_last (by kernel_rfl)) rfl _ (fun _ _ => trivial) (fun V w hB => ex_load1 _ _ rfl _ rfl (cellB hB t2) _ Tryz.underlying26 rfl) ?_; simp only [Fam.pt])
  refine gr_free (TCt_ok _ _ (by kernel_rfl)) (ahead_last (by kernel_rfl)) (Nat.le_refl _) rfl (fun V L wx hB hT hw => ?_) ?_
  · rw [ex_call1 19 (.tmp 7) _ rfl rfl rfl (enters_fn Tryz.func19 (by kernel_rfl) rfl)]
    refine (copyInts_c ((HM.out.ph.keep hB1).keep hB) (by omega)).mono ?_
    rintro e w' ⟨A', c', rfl, hb, hg⟩
    exact ⟨_, rfl, hb, fun V' _ h => ⟨A', c', h, hg.low hB.size⟩⟩
  simp only [Fam.pt]
  (refine gr_fix (ahead_last (by kernel_rfl)) rfl (.pointer (some ⟨w.heap.size, 3, none⟩)) (fun _ _ => trivial) (fun V w hB => by unfold execOp; go_simp) ?_; simp only [Fam.pt])
  (refine gr_fix (ahead_last (by kernel_rfl)) rfl _ (fun _ _ => trivial) (fun V w hB => ex_load1 _ _ rfl _ rfl (cellB hB t3) _ Tryz.underlying26 rfl) ?_; simp only [Fam.pt])
  refine gr_free (TCt_ok _ _ (by kernel_rfl)) (ahead_last (by kernel_rfl)) (Nat.le_refl _) rfl (fun V L wx hB hT hw => ?_) ?_
  · rw [ex_call1 19 (.tmp 10) _ rfl rfl rfl (enters_fn Tryz.func19 (by kernel_rfl) rfl)]
    refine (copyInts_c ((HM.out.ws.keep hB1).keep hB) (by omega)).mono ?_
    rintro e w' ⟨A', c', rfl, hb, hg⟩
    exact ⟨_, rfl, hb, fun V' _ h => ⟨A', c', h, hg.low hB.size⟩⟩
  simp only [Fam.pt]
  refine gr_free (TCt_ok _ _ (by kernel_rfl)) (ahead_last (by kernel_rfl)) (Nat.le_refl _) rfl (fun V L wx hB hT hw => ?_) ?_
  · obtain ⟨A1, c1, A2, c2, k1, _⟩ := hT 2 (waits_at hw (by kernel_rfl))
    obtain ⟨A3, c3, k2, _⟩ := hT 5 (waits_at hw (by kernel_rfl))
    obtain ⟨A4, c4, k3, _⟩ := hT 8 (waits_at hw (by kernel_rfl))
    rw [ex_build_task _ _ _ rfl k1 k2 k3]
    exact ⟨Below.refl _ _, fun V' hV h => ⟨A1, c1, A2, c2, A3, c3, A4, c4, by rw [hV 2 (by decide)]; exact k1, by rw [hV 5 (by decide)]; exact k2, by rw [hV 8 (by decide)]; exact k3, h⟩⟩
  simp only [Fam.pt]
  refine gr_last rfl rfl (fun V wx hB hT => ?_) (fun j hj => by revert j; decide +kernel) rfl ?_ (by decide)
  · obtain ⟨A1, c1, A2, c2, k1, m1, m2⟩ := hT 2 (by decide)
    obtain ⟨A3, c3, k2, m3⟩ := hT 5 (by decide)
    obtain ⟨A4, c4, k3, m4⟩ := hT 8 (by decide)
    obtain ⟨A1', c1', A2', c2', A3', c3', A4', c4', n1, n2, n3, n4⟩ := hT 9 (by decide)
    rw [k1] at n1
    rw [k2] at n2
    rw [k3] at n3
    injection n1 with n1; injection n1 with n1; simp only [List.cons.injEq] at n1
    obtain ⟨n1, n1', _⟩ := n1
    injection n1 with e1 _ e2
    injection n1' with e3 _ e4
    injection n2 with e5 _ e6
    injection n3 with e7 _ e8
    subst e1 e2 e3 e4 e5 e6 e7 e8
    rw [ex_storeN 28 _ _ rfl (w.heap.size + 1) 0 #[.slice A1 t.sc.length c1, .slice A2 t.pr.length c2, .slice A3 t.ph.length c3, .slice A4 t.ws.length c4] rfl n4 ?_ (by kernel_rfl) (by simp [Value.oneCell'])]
    · exact ⟨rfl, wx, A1, c1, A2, c2, A3, c3, A4, c4, hB, m1, m2, m3, m4, rfl⟩
    · exact block_there ((hB.block _ (Array.getElem?_eq_some_iff.1 hR1).1).trans hR1) (Nat.le_refl 4)
  · rintro V w6 ⟨w0, A1, c1, A2, c2, A3, c3, A4, c4, hB0, m1, m2, m3, m4, rfl⟩
    generalize V _ = g1
    generalize V _ = g2
    generalize V _ = g3
    generalize V _ = g4
    go_wp2_with fail
    have hR0 := (hB0.block _ (Array.getElem?_eq_some_iff.1 hR1).1).trans hR1
    have q1 := heap_setCell_same w0 (w.heap.size + 1) 0 _ _ (.slice A1 t.sc.length c1) hR0
    have q2 := heap_setCell_same _ (w.heap.size + 1) 1 _ _ (.slice A2 t.pr.length c2) q1
    have q3 := heap_setCell_same _ (w.heap.size + 1) 2 _ _ (.slice A3 t.ph.length c3) q2
    have q5 := heap_setCell_same _ (w.heap.size + 1) 3 _ _ (.slice A4 t.ws.length c4) q3
    generalize hvs : [Value.slice A1 t.sc.length c1, Value.slice A2 t.pr.length c2, Value.slice A3 t.ph.length c3, Value.slice A4 t.ws.length c4] = vs
    have hBf : Below w.heap.size w (w0.setCells (w.heap.size + 1) 0 vs) := below_setCells (by omega) _ _ _ (hB1.trans (hB0.mono (by omega)))
    have n1 := (GrF.sets (r := w.heap.size + 1) (j := 0) m1 (by omega) vs).low (B' := w.heap.size) (by omega)
    have n2 := (GrF.sets (r := w.heap.size + 1) (j := 0) m2 (by omega) vs).low (B' := w.heap.size) (by omega)
    have n3 := (GrF.sets (r := w.heap.size + 1) (j := 0) m3 (by omega) vs).low (B' := w.heap.size) (by omega)
    have n4 := (GrF.sets (r := w.heap.size + 1) (j := 0) m4 (by omega) vs).low (B' := w.heap.size) (by omega)
    obtain ⟨w9, hW9⟩ : ∃ w9, w0.setCells (w.heap.size + 1) 0 vs = w9 := ⟨_, rfl⟩
    have q4 : w9.heap[w.heap.size + 1]? = some (.cells #[.slice A1 t.sc.length c1, .slice A2 t.pr.length c2, .slice A3 t.ph.length c3, .slice A4 t.ws.length c4] 28 (0, 0)) := by rw [← hW9, ← hvs]; exact q5
    rw [hW9] at hBf n1 n2 n3 n4 ⊢
    have d0 : w9.cell? ⟨w.heap.size + 1, 0, none⟩ = some (.slice A1 t.sc.length c1) := block_cell q4 (j := 0) (by simp)
    have d1 : w9.cell? ⟨w.heap.size + 1, 1, none⟩ = some (.slice A2 t.pr.length c2) := block_cell q4 (j := 1) (by simp)
    have d2 : w9.cell? ⟨w.heap.size + 1, 2, none⟩ = some (.slice A3 t.ph.length c3) := block_cell q4 (j := 2) (by simp)
    have d3 : w9.cell? ⟨w.heap.size + 1, 3, none⟩ = some (.slice A4 t.ws.length c4) := block_cell q4 (j := 3) (by simp)
    refine bodyPost_ret (v := SkV t ⟨A1, A2, A3, A4, c1, c2, c3, c4⟩) ?_ rfl ⟨⟨A1, A2, A3, A4, c1, c2, c3, c4⟩, rfl, hBf, n1, n2, n3, n4⟩
    simp [results, Tryz.results7, go_sem, d0, d1, d2, d3, SkV]
def Mix (ph ks zs : List Int) (k : Nat) : Prop := zs.length = ph.length ∧ ∀ j, j < ph.length → gi zs j = if j < k then gi ph j - 4096 * gi ks j else gi ph j
theorem Mix.start (ph ks : List Int) : Mix ph ks ph 0 := ⟨rfl, fun j hj => by rw [if_neg (by omega)]⟩
theorem Mix.step {ph ks zs : List Int} {k : Nat} (h : Mix ph ks zs k) (hk : k < ph.length) {v : Int} (hv : v = gi ph k - 4096 * gi ks k) : Mix ph ks (zs.set k v) (k + 1) := by
  refine ⟨by rw [List.length_set]; exact h.1, fun j hj => ?_⟩
  rw [gi_set _ _ _ _ (by rw [h.1]; exact hk)]
  by_cases e : k = j
  · subst e; rw [if_pos rfl, if_pos (by omega), hv]
  · rw [if_neg e, h.2 j hj]
    by_cases e2 : j < k
    · rw [if_pos e2, if_pos (by omega)]
    · rw [if_neg e2, if_neg (by omega)]
theorem Mix.fin {ph ks zs : List Int} (h : Mix ph ks zs ph.length) : zs = corr ph ks := by
  refine ext_gi (by rw [h.1, corr_len]) fun j hj => ?_
  rw [h.1] at hj
  rw [h.2 j hj, if_pos hj, corr_get hj]
def LoopCd (W3 : World) (t : Sk) (ks : List Int) (O hc tc : Nat) (H TA : Option Addr) (v4 : Value) (a : Act) (w : World) : Prop :=
  ∃ (k : Nat) (zs : List Int), k ≤ t.ph.length ∧ Mix t.ph ks zs k ∧ Tch (H.map (·.block)).toList W3 w ∧ GrI w 0 H hc zs ∧
    Fr 31 [(1, .slice TA t.ph.length tc), (4, v4), (5, .pointer (some ⟨O, 0, none⟩)), (6, .int .i64 k)] a
theorem crd_loop {W3 : World} {t : Sk} {ks : List Int} {O hc tc : Nat} {H TA : Option Addr} {v4 x0 x1 x3 : Value} (hm : t.ph.length ≤ 200) (hk : ks.length = t.ph.length) (hT : RdI W3 TA ks) (hO : W3.heap[O]? = some (.cells #[x0, x1, .slice H t.ph.length hc, x3] 28 (0, 0)))
    (nO : O ∉ (H.map (·.block)).toList) (nT : ∀ b o, TA = some ⟨b, o, none⟩ → 0 < ks.length → b ∉ (H.map (·.block)).toList) (hb : ∀ i, i < t.ph.length → (-100000000 ≤ gi t.ph i ∧ gi t.ph i ≤ 100000000) ∧ -1000000 ≤ gi ks i ∧ gi ks i ≤ 1000000) {Q : Exit → Act → World → Prop}
    (hQ : ∀ a w, Tch (H.map (·.block)).toList W3 w → GrI w 0 H hc (corr t.ph ks) → Fr 31 [(4, v4), (5, .pointer (some ⟨O, 0, none⟩))] a → Q (.exit 0) a w) {a : Act} {w : World} (hI : LoopCd W3 t ks O hc tc H TA v4 a w) :
    Code.wp Tryz.prog (Tryz.f22.sub [1, 1, 0, 1, 0, 0]) (Exit.then (fun a' w' => LoopCd W3 t ks O hc tc H TA v4 a' w' ∧ t.ph.length - (intOf (a'.tmps.getD 6 undef)).toNat < t.ph.length - (intOf (a.tmps.getD 6 undef)).toNat) Q) a w := by
  obtain ⟨k, zs, hkm, hmx, hTc, hG, hfr⟩ := hI
  obtain ⟨v, rfl⟩ := hfr.open
  clear hfr
  generalize hmu : t.ph.length - (intOf ((⟨frL 31 _ v, []⟩ : Act).tmps.getD 6 undef)).toNat = mu
  have hmu' : t.ph.length - k = mu := by rw [← hmu]; rfl
  clear hmu
  have HQ := Lib.hid hQ; clear hQ
  have hOl := (Array.getElem?_eq_some_iff.1 hO).1
  have hOw := (hTc.block O hOl nO).trans hO
  have c2 : w.cell? ⟨O, 2, none⟩ = some (.slice H t.ph.length hc) := block_cell hOw (j := 2) (by simp)
  have HX := Lib.hid (And.intro hk (And.intro hT (And.intro hO (And.intro nO (And.intro nT hb))))); clear hk hT hO nO nT hb hOw
  have HG := Lib.hid (And.intro hmx (And.intro hTc hG)); clear hmx hTc hG
  show Code.wp Tryz.prog (.seq (Tryz.f22.sub [1, 1, 0, 1, 0, 0, 0]) (.seq (.block 1 (Tryz.f22.sub [1, 1, 0, 1, 0, 0, 1, 0, 0])) (Tryz.f22.sub [1, 1, 0, 1, 0, 0, 1, 1]))) _
    ⟨#[(v 0), .slice TA t.ph.length tc, (v 2), (v 3), v4, .pointer (some ⟨O, 0, none⟩), .int .i64 k, (v 7), (v 8), (v 9), (v 10), (v 11), (v 12), (v 13), (v 14), (v 15), (v 16), (v 17), (v 18), (v 19), (v 20), (v 21), (v 22), (v 23), (v 24), (v 25), (v 26), (v 27), (v 28), (v 29), (v 30)], []⟩ _
  refine wp_seq ?_
  conv => arg 2; whnf
  try dsimp only
  by_cases hlt : k < t.ph.length
  · have hklt : (k : Int) < t.ph.length := by omega
    obtain ⟨tb, to, hTA, ht0⟩ := HX.out.2.1 k (by rw [HX.out.1]; exact hlt)
    have nT := HX.out.2.2.2.2.1 tb to hTA (by rw [HX.out.1]; omega)
    have ht := HG.out.2.1.cell (by exact nT) ht0
    obtain ⟨hb2, ho2, hHe, hj1, hj2⟩ := GrI.cell HG.out.2.2 (j := k) (by rw [HG.out.1.1]; exact hlt)
    obtain ⟨⟨y1, y2⟩, x1', x2'⟩ := HX.out.2.2.2.2.2 k hlt
    clear hj1 hj2
    subst hHe
    have hD : DatM w hb2 ho2 hc zs := HG.out.2.2
    have hc0 := hD.cell (j := k) (by rw [HG.out.1.1]; exact hlt)
    have hf0 := hD.free (ho2 + k)
    have hzk : gi zs k = gi t.ph k := by rw [HG.out.1.2 k hlt, if_neg (by omega)]
    rw [hzk] at hc0
    rw [hTA]
    obtain ⟨y, hy⟩ : ∃ y, gi t.ph k = y := ⟨_, rfl⟩
    obtain ⟨x, hx⟩ : ∃ x, gi ks k = x := ⟨_, rfl⟩
    rw [hy] at hc0 y1 y2
    rw [hx] at ht x1' x2'
    have HA := Lib.hid (And.intro hTA (And.intro hy (And.intro hx hD))); clear hTA hy hx hD ht0 nT hzk
    go_wp2_with fail
    conv => arg 2; whnf
    try dsimp only
    refine region_last (by kernel_rfl) (by kernel_rfl) (by kernel_rfl) cut_last (by kernel_rfl) (by kernel_rfl) (by kernel_rfl) ?_
    dsimp only [List.dropLast, List.getLast]
    repeat (go_big_quiet_step (fail))
    refine wpQuiet_nil ?_
    refine ⟨fun w => w.setCell ⟨hb2, ho2 + k, none⟩ (.int .i64 (y - x * 4096)), fun q => ?_, fun q => ?_⟩
    · unfold execOp
      go_simp
    rename_i Q6 K6 hK6
    refine hK6 _ _ ?_
    clear hK6
    conv => arg 2; whnf
    try dsimp only
    go_wp2_with fail
    refine ⟨⟨k + 1, zs.set k (y - x * 4096), by omega, HG.out.1.step hlt (by rw [HA.out.2.1, HA.out.2.2.1]; omega), (HG.out.2.1.drewN q).set (.inl (by simp)) _, ?_, ?_⟩, ?_⟩
    · exact (HA.out.2.2.2.drewN q).set (by rw [HG.out.1.1]; exact hlt) _
    · refine ⟨rfl, rfl, rfl, rfl, rfl, ?_, trivial⟩
      show Value.int .i64 ((k : Int) + 1) = _; go_num
    · show t.ph.length - ((k : Int) + 1).toNat < mu
      omega
  · obtain rfl : k = t.ph.length := by omega
    go_wp2_with fail
    refine HQ.out _ _ HG.out.2.1 ?_ (by (refine ⟨rfl, rfl, ?_⟩; repeat (first | exact trivial | refine ⟨rfl, ?_⟩)))
    have := HG.out.2.2
    rwa [HG.out.1.fin] at this
theorem GrF.ne_block {α β : Type} {enc : α → List Value} {enc' : β → List Value} {e e' : TypeId} {k k' : Nat} {B B' c c' : Nat} {w : World} {A A' : Option Addr} {xs : List α} {ys : List β} (h : GrF enc e k w B A c xs) (h' : GrF enc' e' k' w B' A' c' ys) (hne : e ≠ e') {b : Nat} (hb : A.map (·.block) = some b) : b ∉ (A'.map (·.block)).toList := by
  intro hm
  rw [Option.mem_toList] at hm
  cases A with
  | none => cases hb
  | some a =>
    cases A' with
    | none => cases hm
    | some a' =>
      obtain ⟨b1, o1, cs1, rfl, _, h1, _⟩ := h.at_ _ rfl
      obtain ⟨b2, o2, cs2, rfl, _, h2, _⟩ := h'.at_ _ rfl
      have e1 : b1 = b := by simpa using hb
      have e2 : b2 = b := by simpa using hm
      subst e1
      subst e2
      rw [h1] at h2
      injection h2 with h2
      injection h2 with _ h2
      exact hne h2
def corrT (t : Sk) (ks : List Int) : Sk := ⟨t.sc, t.pr, corr t.ph ks, t.ws⟩
def CdPost (t : Sk) (ks : List Int) (w : World) (e : Ending) (w' : World) : Prop := ∃ l, e = .returned (SkV (corrT t ks) l) ∧ Below w.heap.size w w' ∧ NetM w' (corrT t ks) l ∧ RdI w' l.H (corrT t ks).ph
theorem corrected_c {t : Sk} {l : SkL} {w : World} {ks : List Int} {TA : Option Addr} {tc : Nat} (hM : SkM w t l) (ho : RtS t) (hT : RdI w TA ks) (hk : ks.length = t.ph.length) (hb : ∀ i, i < t.ph.length → -1000000 ≤ gi ks i ∧ gi ks i ≤ 1000000) :
    Calls Tryz.prog 22 #[SkV t l, .slice TA t.ph.length tc] w (CdPost t ks w) := by
  have HM := Lib.hid (And.intro hM (And.intro ho (And.intro hT (And.intro hk hb)))); clear hM hT hk hb
  have h200 := ho.net.m_le
  have hl := ho.lph
  have hl2 := ho.lws
  have hn := ho.net.n_le
  have hh200 : t.ph.length ≤ 200 := by omega
  have HL := Lib.hid (And.intro hl hl2); clear hl hl2 ho
  have HC := Lib.hid (fun W l' (h : SkM W t l') => copyTask_c h (by omega) (by omega) (by omega) (by have := HL.out.2; omega))
  unfold SkV at *
  go_enter Tryz.func22, Tryz.ntmps22
  show Code.wp Tryz.prog (.seq (Tryz.f22.sub [0]) (.seq (Tryz.f22.sub [1, 0]) (.seq (.seq (Tryz.f22.sub [1, 1, 0, 0]) (.block 0 (.loop (Tryz.f22.sub [1, 1, 0, 1, 0, 0])))) (Tryz.f22.sub [1, 1, 1])))) _ _ _
  refine wp_seq ?_
  conv => arg 2; whnf
  go_wp2_with fail
  refine nameC ?_
  intro W1 hW1
  obtain ⟨hz1, e1, e2, hB1⟩ := alloc2 w _ _ hW1
  clear hW1
  obtain ⟨G, hG⟩ : ∃ G, w.heap.size = G := ⟨_, rfl⟩
  rw [hG] at e1 e2 hz1
  rw [hG]
  have g0 : W1.cell? ⟨G, 0, none⟩ = some (.slice l.S t.sc.length l.cs) := block_cell e1 (j := 0) (by simp)
  have g1 : W1.cell? ⟨G, 1, none⟩ = some (.slice l.P t.pr.length l.cp) := block_cell e1 (j := 1) (by simp)
  have g2 : W1.cell? ⟨G, 2, none⟩ = some (.slice l.H t.ph.length l.ch) := block_cell e1 (j := 2) (by simp)
  have g3 : W1.cell? ⟨G, 3, none⟩ = some (.slice l.W t.ws.length l.cw) := block_cell e1 (j := 3) (by simp)
  have HC1 := Lib.hid (HC.out W1 l (HM.out.1.keep hB1))
  have HB := Lib.hid (And.intro hB1 (And.intro e1 (And.intro e2 (And.intro hG hz1)))); clear hB1 e1 e2 hG hz1
  conv => arg 2; whnf
  go_wp2_with fail
  refine HC1.out.mono ?_
  rintro e W2 ⟨l', rfl, hB2, m1, m2, m3, m4⟩
  unfold SkV
  have hB02 : Below w.heap.size w W2 := HB.out.1.trans (hB2.mono HB.out.1.size)
  have H2 := Lib.hid (And.intro hB02 (And.intro hB2 (And.intro m1 (And.intro m2 m3)))); clear hB02 hB2 m1 m2 m3 m4 HC1 g0 g1 g2 g3
  go_wp2_with fail
  refine nameC ?_
  intro W3 hW3
  have hB3 : Below W2.heap.size W2 W3 := by rw [hW3]; exact (Below.refl _ _).alloc (Nat.le_refl _) _
  have hO3 : W3.heap[W2.heap.size]? = some (.cells #[.slice l'.S t.sc.length l'.cs, .slice l'.P t.pr.length l'.cp, .slice l'.H t.ph.length l'.ch, .slice l'.W t.ws.length l'.cw] 28 (0, 0)) := by rw [hW3]; exact heap_alloc_new W2 _
  clear hW3
  have H3 := Lib.hid (And.intro (H2.out.1.trans (hB3.mono H2.out.1.size)) (And.intro hB3 hO3)); clear hB3 hO3
  obtain ⟨O, hO⟩ : ∃ O, W2.heap.size = O := ⟨_, rfl⟩
  rw [hO] at H3
  rw [hO]
  conv => arg 2; whnf
  go_wp2_with fail
  have nH : ∀ b, b ∈ (l'.H.map (·.block)).toList → W1.heap.size ≤ b ∧ b < O := fun b hb => by
    rw [Option.mem_toList] at hb
    have := H2.out.2.2.2.2.lt hb
    omega
  have NH := Lib.hid nH; clear nH
  refine wp_loop (LoopCd W3 t ks O l'.ch tc l'.H TA (.pointer (some ⟨G + 1, 0, none⟩))) (fun a _ => t.ph.length - (intOf (a.tmps.getD 6 undef)).toNat) ⟨0, t.ph, Nat.zero_le _, Mix.start _ _, Tch.refl _ _, ?_, by (refine ⟨rfl, rfl, ?_⟩; repeat (first | exact trivial | refine ⟨rfl, ?_⟩))⟩ ?_
  · exact GrF.low (GrF.keep H2.out.2.2.2.2 (hO ▸ H3.out.2.1)) (Nat.zero_le _)
  intro a wr hI
  refine crd_loop hh200 HM.out.2.2.2.1 (HM.out.2.2.1.keep H3.out.1) H3.out.2.2 (fun h => by have := NH.out _ h; omega) (fun b o hb h0 h => ?_) (fun i hi => ⟨HM.out.2.1.ph i hi, HM.out.2.2.2.2 i hi⟩) ?_ hI
  · have h1 := NH.out _ h
    obtain ⟨b', o', h2, h3⟩ := HM.out.2.2.1 0 h0
    have h4 := World.block_lt_of_cell? _ _ h3
    rw [hb] at h2
    injection h2 with h2; injection h2 with h2
    subst h2
    simp only at h4
    have := HB.out.2.2.2.1
    have := HB.out.2.2.2.2
    omega
  intro a' w' hT hGr hfr
  rename_i K6 hK6
  obtain ⟨v, rfl⟩ := hfr.open
  clear hfr hI
  refine hK6 _ _ ?_
  clear hK6
  have hz1 := HB.out.2.2.2.2
  have hsz2 := H2.out.2.1.size
  have hz3 := H3.out.2.1.size
  have hGr1 : G + 1 < W1.heap.size := by omega
  have hR3 := ((H2.out.2.1.trans ((hO ▸ H3.out.2.1 : Below W2.heap.size W2 W3).mono hsz2)).block (G + 1) hGr1).trans HB.out.2.2.1
  have hRw := (hT.block (G + 1) (by omega) (fun h => by have := NH.out _ h; omega)).trans hR3
  have hOw := (hT.block O (Array.getElem?_eq_some_iff.1 H3.out.2.2).1 (fun h => by have := NH.out _ h; omega)).trans H3.out.2.2
  have hBw : Below w.heap.size w w' := hT.below H3.out.1 (Nat.le_refl _) (fun b hb => by have := NH.out b hb; have := HB.out.2.2.2.1; omega)
  have hS : GrSc w' W1.heap.size l'.S l'.cs t.sc := GrF.move H2.out.2.2.1 fun b hb => by
    have h1 := GrF.lt H2.out.2.2.1 hb
    exact (hT.block b (by omega) (GrF.ne_block H2.out.2.2.1 H2.out.2.2.2.2 (by decide) hb)).trans ((hO ▸ H3.out.2.1 : Below W2.heap.size W2 W3).block b h1.2)
  have hP : GrRp w' W1.heap.size l'.P l'.cp t.pr := GrF.move H2.out.2.2.2.1 fun b hb => by
    have h1 := GrF.lt H2.out.2.2.2.1 hb
    exact (hT.block b (by omega) (GrF.ne_block H2.out.2.2.2.1 H2.out.2.2.2.2 (by decide) hb)).trans ((hO ▸ H3.out.2.1 : Below W2.heap.size W2 W3).block b h1.2)
  have o0 : w'.cell? ⟨O, 0, none⟩ = some (.slice l'.S t.sc.length l'.cs) := block_cell hOw (j := 0) (by simp)
  have o1 : w'.cell? ⟨O, 1, none⟩ = some (.slice l'.P t.pr.length l'.cp) := block_cell hOw (j := 1) (by simp)
  have o2 : w'.cell? ⟨O, 2, none⟩ = some (.slice l'.H t.ph.length l'.ch) := block_cell hOw (j := 2) (by simp)
  have o3 : w'.cell? ⟨O, 3, none⟩ = some (.slice l'.W t.ws.length l'.cw) := block_cell hOw (j := 3) (by simp)
  have r0 : w'.cell? ⟨G + 1, 0, none⟩ = some (.slice none 0 0) := block_cell hRw (j := 0) (by simp)
  have r1 : w'.cell? ⟨G + 1, 1, none⟩ = some (.slice none 0 0) := block_cell hRw (j := 1) (by simp)
  have r2 : w'.cell? ⟨G + 1, 2, none⟩ = some (.slice none 0 0) := block_cell hRw (j := 2) (by simp)
  have r3 : w'.cell? ⟨G + 1, 3, none⟩ = some (.slice none 0 0) := block_cell hRw (j := 3) (by simp)
  have f0 : w'.frozen? ⟨G + 1, 0, none⟩ = false := by simp [World.frozen?, hRw]
  have f1 : w'.frozen? ⟨G + 1, 1, none⟩ = false := by simp [World.frozen?, hRw]
  have f2 : w'.frozen? ⟨G + 1, 2, none⟩ = false := by simp [World.frozen?, hRw]
  have f3 : w'.frozen? ⟨G + 1, 3, none⟩ = false := by simp [World.frozen?, hRw]
  have HZ := Lib.hid (And.intro hGr (And.intro hRw (And.intro hBw (And.intro hS (And.intro hP (And.intro hGr1 hz1)))))); clear hGr hRw hBw hS hP hT hR3 hOw hz1 hGr1 hsz2 hz3
  show Code.wp Tryz.prog (Tryz.f22.sub [1, 1, 1]) _ ⟨#[(v 0), (v 1), (v 2), (v 3), .pointer (some ⟨G + 1, 0, none⟩), .pointer (some ⟨O, 0, none⟩), (v 6), (v 7), (v 8), (v 9), (v 10), (v 11), (v 12), (v 13), (v 14), (v 15), (v 16), (v 17), (v 18), (v 19), (v 20), (v 21), (v 22), (v 23), (v 24), (v 25), (v 26), (v 27), (v 28), (v 29), (v 30)], []⟩ _
  conv => arg 2; whnf
  try dsimp only
  go_wp2_with fail
  have hlt := HZ.out.2.2.2.2.2.1
  have hz1 := HZ.out.2.2.2.2.2.2
  have hGw := HB.out.2.2.2.1
  obtain ⟨vs, hvs⟩ : ∃ vs, vs = [Value.slice l'.S t.sc.length l'.cs, Value.slice l'.P t.pr.length l'.cp, Value.slice l'.H t.ph.length l'.ch, Value.slice l'.W t.ws.length l'.cw] := ⟨_, rfl⟩
  have q1 := heap_setCell_same w' (G + 1) 0 _ _ (.slice l'.S t.sc.length l'.cs) HZ.out.2.1
  have q2 := heap_setCell_same _ (G + 1) 1 _ _ (.slice l'.P t.pr.length l'.cp) q1
  have q3 := heap_setCell_same _ (G + 1) 2 _ _ (.slice l'.H t.ph.length l'.ch) q2
  have q5 := heap_setCell_same _ (G + 1) 3 _ _ (.slice l'.W t.ws.length l'.cw) q3
  have hBf : Below w.heap.size w (w'.setCells (G + 1) 0 vs) := below_setCells (by omega) _ _ _ HZ.out.2.2.1
  have n1 := GrF.sets (r := G + 1) (j := 0) HZ.out.2.2.2.1 hlt vs
  have n2 := GrF.sets (r := G + 1) (j := 0) HZ.out.2.2.2.2.1 hlt vs
  have n3 : GrI (w'.setCells (G + 1) 0 vs) 0 l'.H l'.ch (corr t.ph ks) := GrF.move HZ.out.1 fun b hb => by
    have h1 := NH.out b (by rw [Option.mem_toList]; exact hb)
    exact (Tch.sets (S := [G + 1]) (.inl (by simp)) vs 0 w' (Tch.refl _ _)).block b (GrF.lt HZ.out.1 hb).2 (by simp; omega)
  obtain ⟨w9, hW9⟩ : ∃ w9, w'.setCells (G + 1) 0 vs = w9 := ⟨_, rfl⟩
  have q4 : w9.heap[G + 1]? = some (.cells #[.slice l'.S t.sc.length l'.cs, .slice l'.P t.pr.length l'.cp, .slice l'.H t.ph.length l'.ch, .slice l'.W t.ws.length l'.cw] 28 (0, 0)) := by rw [← hW9, hvs]; exact q5
  rw [hW9] at hBf n1 n2 n3
  have hW : ((((w'.setCell ⟨G + 1, 0, none⟩ (Value.slice l'.S t.sc.length l'.cs)).setCell ⟨G + 1, 1, none⟩ (Value.slice l'.P t.pr.length l'.cp)).setCell ⟨G + 1, 2, none⟩ (Value.slice l'.H t.ph.length l'.ch)).setCell ⟨G + 1, 3, none⟩ (Value.slice l'.W t.ws.length l'.cw)) = w9 := by rw [← hW9, hvs]; rfl
  rw [hW]
  clear hW q1 q2 q3 q5 hW9 hvs
  have d0 : w9.cell? ⟨G + 1, 0, none⟩ = some (.slice l'.S t.sc.length l'.cs) := block_cell q4 (j := 0) (by simp)
  have d1 : w9.cell? ⟨G + 1, 1, none⟩ = some (.slice l'.P t.pr.length l'.cp) := block_cell q4 (j := 1) (by simp)
  have d2 : w9.cell? ⟨G + 1, 2, none⟩ = some (.slice l'.H t.ph.length l'.ch) := block_cell q4 (j := 2) (by simp)
  have d3 : w9.cell? ⟨G + 1, 3, none⟩ = some (.slice l'.W t.ws.length l'.cw) := block_cell q4 (j := 3) (by simp)
  refine bodyPost_ret (v := .agg #[.slice l'.S t.sc.length l'.cs, .slice l'.P t.pr.length l'.cp, .slice l'.H t.ph.length l'.ch, .slice l'.W t.ws.length l'.cw]) ?_ rfl ⟨l', ?_, hBf, ⟨GrSc.rdS n1 fun j hj => ?_, GrRp.rdP n2⟩, n3.rd⟩
  · simp [results, Tryz.results22, go_sem, d0, d1, d2, d3]
  · unfold SkV corrT
    dsimp only
    rw [corr_len]
  · have h := (HM.out.2.1.net.name j hj).hi
    show (gsc t.sc j).nm.size ≤ maxLen
    simp only [maxLen]
    omega
def InK (x : Int) : Prop := -1000000 ≤ x ∧ x ≤ 1000000
def LoopRk (W1 : World) (ks : List Int) (TA : Option Addr) (tc : Nat) (v2 : Value) (a : Act) (w : World) : Prop :=
  ∃ (k : Nat), k ≤ ks.length ∧ (∀ i, i < k → InK (gi ks i)) ∧ w = W1 ∧ Fr 57 [(1, .slice TA ks.length tc), (2, v2), (6, .int .i64 k)] a
theorem rk_first {W1 : World} {ks : List Int} {TA : Option Addr} {tc : Nat} {v2 : Value} (h200 : ks.length ≤ 250) (hT : RdI W1 TA ks) {Q : Exit → Act → World → Prop}
    (hQ1 : ∀ a, (∀ i, i < ks.length → InK (gi ks i)) → Fr 57 [(1, .slice TA ks.length tc), (2, v2)] a → Q (.exit 0) a W1)
    (hQ2 : ∀ a i, i < ks.length → ¬ InK (gi ks i) → Fr 57 [(4, .int .i64 0), (5, .int .i64 2)] a → Q .ret a W1)
    {a : Act} {w : World} (hI : LoopRk W1 ks TA tc v2 a w) :
    Code.wp Tryz.prog (Tryz.f9.sub [1, 1, 0, 1, 0, 0]) (Exit.then (fun a' w' => LoopRk W1 ks TA tc v2 a' w' ∧ ks.length - (intOf (a'.tmps.getD 6 undef)).toNat < ks.length - (intOf (a.tmps.getD 6 undef)).toNat) Q) a w := by
  obtain ⟨k, hk, hin, rfl, hfr⟩ := hI
  obtain ⟨v, rfl⟩ := hfr.open
  clear hfr
  generalize hmu : ks.length - (intOf ((⟨frL 57 _ v, []⟩ : Act).tmps.getD 6 undef)).toNat = mu
  have hmu' : ks.length - k = mu := by rw [← hmu]; rfl
  clear hmu
  have HQ := Lib.hid (And.intro hQ1 hQ2); clear hQ1 hQ2
  have H := Lib.hid (And.intro hin hT); clear hin hT
  show Code.wp Tryz.prog (.seq (Tryz.f9.sub [1, 1, 0, 1, 0, 0, 0]) (.seq (.block 1 (Tryz.f9.sub [1, 1, 0, 1, 0, 0, 1, 0, 0])) (Tryz.f9.sub [1, 1, 0, 1, 0, 0, 1, 1]))) _
    ⟨#[(v 0), .slice TA ks.length tc, v2, (v 3), (v 4), (v 5), .int .i64 k, (v 7), (v 8), (v 9), (v 10), (v 11), (v 12), (v 13), (v 14), (v 15), (v 16), (v 17), (v 18), (v 19), (v 20), (v 21), (v 22), (v 23), (v 24), (v 25), (v 26), (v 27), (v 28), (v 29), (v 30), (v 31), (v 32), (v 33), (v 34), (v 35), (v 36), (v 37), (v 38), (v 39), (v 40), (v 41), (v 42), (v 43), (v 44), (v 45), (v 46), (v 47), (v 48), (v 49), (v 50), (v 51), (v 52), (v 53), (v 54), (v 55), (v 56)], []⟩ _
  refine wp_seq ?_
  conv => arg 2; whnf
  try dsimp only
  by_cases hlt : k < ks.length
  · have hklt : (k : Int) < ks.length := by omega
    obtain ⟨mb, mo, hMA, hc0⟩ := H.out.2 k hlt
    rw [hMA]
    have HA := Lib.hid hMA; clear hMA
    obtain ⟨z, hz⟩ : ∃ z, gi ks k = z := ⟨_, rfl⟩
    rw [hz] at hc0
    have HZ := Lib.hid hz; clear hz
    by_cases hd : InK z
    · have HM := Lib.hid (bwithin_c z (-1000000) 1000000 true (by simp; exact hd) w)
      have HD := Lib.hid hd; clear hd
      go_wp2_with fail
      conv => arg 2; whnf
      go_wp2_with fail
      refine HM.out.mono ?_
      rintro e w' ⟨rfl, rfl⟩
      go_wp2_with fail
      conv => arg 2; whnf
      go_wp2_with fail
      refine ⟨⟨k + 1, by omega, fun i hi => ?_, rfl, ?_⟩, ?_⟩
      · by_cases e : i = k
        · rw [e, HZ.out]; exact HD.out
        · exact H.out.1 i (by omega)
      · refine ⟨rfl, rfl, rfl, rfl, ?_, trivial⟩
        show Value.int .i64 ((k : Int) + 1) = _; go_num
      · show ks.length - ((k : Int) + 1).toNat < mu
        omega
    · have HM := Lib.hid (bwithin_c z (-1000000) 1000000 false (by simp; unfold InK at hd; omega) w)
      have HD := Lib.hid hd; clear hd
      go_wp2_with fail
      conv => arg 2; whnf
      go_wp2_with fail
      refine HM.out.mono ?_
      rintro e w' ⟨rfl, rfl⟩
      go_wp2_with fail
      exact HQ.out.2 _ k hlt (by rw [HZ.out]; exact HD.out) (by (refine ⟨rfl, rfl, ?_⟩; repeat (first | exact trivial | refine ⟨rfl, ?_⟩)))
  · obtain rfl : k = ks.length := by omega
    go_wp2_with fail
    exact HQ.out.1 _ H.out.1 (by (refine ⟨rfl, rfl, ?_⟩; repeat (first | exact trivial | refine ⟨rfl, ?_⟩)))
def sK (t : Sk) (ks : List Int) (k : Nat) : Int := sm k fun i => gi t.ws i * ab (gi ks i)
theorem sK_bound {t : Sk} {ks : List Int} (hw : ∀ i, i < t.ws.length → 0 ≤ gi t.ws i ∧ gi t.ws i ≤ 1000) (hk : ∀ i, i < ks.length → InK (gi ks i)) : ∀ k, k ≤ t.ws.length → k ≤ ks.length → 0 ≤ sK t ks k ∧ sK t ks k ≤ 1000000000 * (k : Int) := by
  intro k
  induction k with
  | zero => intro _ _; exact ⟨Int.le_refl _, Int.le_refl _⟩
  | succ k ih =>
    intro h1 h2
    have i0 := ih (by omega) (by omega)
    have w0 := hw k (by omega)
    have k0 := hk k (by omega)
    unfold InK at k0
    have y0 : 0 ≤ ab (gi ks k) ∧ ab (gi ks k) ≤ 1000000 := by unfold ab; omega
    have p1 : gi t.ws k * ab (gi ks k) ≤ 1000 * 1000000 := Int.mul_le_mul w0.2 y0.2 y0.1 (by omega)
    have p2 : 0 ≤ gi t.ws k * ab (gi ks k) := Int.mul_nonneg w0.1 y0.1
    show 0 ≤ sK t ks k + gi t.ws k * ab (gi ks k) ∧ sK t ks k + gi t.ws k * ab (gi ks k) ≤ _
    omega
def LoopRj (W3 : World) (t : Sk) (ks ph : List Int) (p : Nat → Int) (MA TA : Option Addr) (mc tc G : Nat) (a : Act) (w : World) : Prop :=
  ∃ (k : Nat), k ≤ t.pr.length ∧ (∀ i, i < k → ms t ph p i = 0) ∧ Below W3.heap.size W3 w ∧ Fr 57 [(1, .slice TA ks.length tc), (2, .pointer (some ⟨G, 0, none⟩)), (7, .slice MA t.pr.length mc), (8, .int .i64 (sK t ks k)), (9, .int .i64 k)] a
theorem rk_second {W3 : World} {t : Sk} {l : SkL} {ks ph : List Int} {p : Nat → Int} {MA TA : Option Addr} {mc tc G : Nat} (ho : RtS t) (hk : ks.length = t.ph.length) (hin : ∀ i, i < ks.length → InK (gi ks i)) (hM : RdI W3 MA (msL t ph p)) (hT : RdI W3 TA ks) (hW : RdI W3 l.W t.ws)
    (hG : W3.heap[G]? = some (.cells #[.slice l.S t.sc.length l.cs, .slice l.P t.pr.length l.cp, .slice l.H t.ph.length l.ch, .slice l.W t.ws.length l.cw] 28 (0, 0))) {Q : Exit → Act → World → Prop}
    (hQ1 : ∀ a w, (∀ i, i < t.pr.length → ms t ph p i = 0) → Below W3.heap.size W3 w → Fr 57 [(8, .int .i64 (costK t ks))] a → Q (.exit 2) a w)
    (hQ2 : ∀ a w i, i < t.pr.length → ms t ph p i ≠ 0 → Below W3.heap.size W3 w → Fr 57 [(4, .int .i64 0), (5, .int .i64 26)] a → Q .ret a w)
    {a : Act} {w : World} (hI : LoopRj W3 t ks ph p MA TA mc tc G a w) :
    Code.wp Tryz.prog (Tryz.f9.sub [1, 1, 1, 1, 1, 0, 1, 0, 0]) (Exit.then (fun a' w' => LoopRj W3 t ks ph p MA TA mc tc G a' w' ∧ t.pr.length - (intOf (a'.tmps.getD 9 undef)).toNat < t.pr.length - (intOf (a.tmps.getD 9 undef)).toNat) Q) a w := by
  obtain ⟨k, hkm, hz, hB, hfr⟩ := hI
  obtain ⟨v, rfl⟩ := hfr.open
  clear hfr
  generalize hmu : t.pr.length - (intOf ((⟨frL 57 _ v, []⟩ : Act).tmps.getD 9 undef)).toNat = mu
  have hmu' : t.pr.length - k = mu := by rw [← hmu]; rfl
  clear hmu
  have h200 := ho.net.m_le
  have hGw := (hB.block _ (Array.getElem?_eq_some_iff.1 hG).1).trans hG
  have HQ := Lib.hid (And.intro hQ1 hQ2); clear hQ1 hQ2
  have H := Lib.hid (And.intro ho (And.intro hk (And.intro hin (And.intro hM (And.intro hT (And.intro hW (And.intro hz hB))))))); clear ho hk hin hM hT hW hz hG hB
  have hsb := Lib.hid (sK_bound H.out.1.ws H.out.2.2.1)
  obtain ⟨s, hs⟩ : ∃ s, sK t ks k = s := ⟨_, rfl⟩
  rw [hs]
  have HS := Lib.hid hs; clear hs
  show Code.wp Tryz.prog (.seq (Tryz.f9.sub [1, 1, 1, 1, 1, 0, 1, 0, 0, 0]) (.seq (.block 3 (.seq (Tryz.f9.sub [1, 1, 1, 1, 1, 0, 1, 0, 0, 1, 0, 0, 0]) (Tryz.f9.sub [1, 1, 1, 1, 1, 0, 1, 0, 0, 1, 0, 0, 1]))) (Tryz.f9.sub [1, 1, 1, 1, 1, 0, 1, 0, 0, 1, 1]))) _
    ⟨#[(v 0), .slice TA ks.length tc, .pointer (some ⟨G, 0, none⟩), (v 3), (v 4), (v 5), (v 6), .slice MA t.pr.length mc, .int .i64 s, .int .i64 k, (v 10), (v 11), (v 12), (v 13), (v 14), (v 15), (v 16), (v 17), (v 18), (v 19), (v 20), (v 21), (v 22), (v 23), (v 24), (v 25), (v 26), (v 27), (v 28), (v 29), (v 30), (v 31), (v 32), (v 33), (v 34), (v 35), (v 36), (v 37), (v 38), (v 39), (v 40), (v 41), (v 42), (v 43), (v 44), (v 45), (v 46), (v 47), (v 48), (v 49), (v 50), (v 51), (v 52), (v 53), (v 54), (v 55), (v 56)], []⟩ _
  refine wp_seq ?_
  conv => arg 2; whnf
  try dsimp only
  by_cases hlt : k < t.pr.length
  · have hklt : (k : Int) < t.pr.length := by omega
    have hl1 := H.out.1.lph
    have hl2 := H.out.1.lws
    have hl3 := H.out.2.1
    obtain ⟨mb, mo, hMA, hm0⟩ := (H.out.2.2.2.1.keep H.out.2.2.2.2.2.2.2) k (by rw [msL_len]; exact hlt)
    obtain ⟨tb, to, hTA, ht0⟩ := (H.out.2.2.2.2.1.keep H.out.2.2.2.2.2.2.2) k (by omega)
    obtain ⟨wb, wo, hWA, hw0⟩ := (H.out.2.2.2.2.2.1.keep H.out.2.2.2.2.2.2.2) k (by omega)
    rw [msL_get hlt] at hm0
    rw [hWA, hl2] at hGw
    have g3 : w.cell? ⟨G, 3, none⟩ = some (.slice (some ⟨wb, wo, none⟩) t.pr.length l.cw) := block_cell hGw (j := 3) (by simp)
    rw [hMA, hTA]
    have hkk : (k : Int) < ks.length := by omega
    have hkn : ks.length ≤ 200 := by omega
    have hwb := H.out.1.ws k (by omega)
    have hkb := H.out.2.2.1 k (by omega)
    have hsk := hsb.out k (by omega) (by omega)
    have hsk1 := hsb.out (k + 1) (by omega) (by omega)
    rw [HS.out] at hsk
    have hse : sK t ks (k + 1) = s + gi t.ws k * ab (gi ks k) := by rw [← HS.out]; rfl
    obtain ⟨x, hx⟩ : ∃ x, gi t.ws k = x := ⟨_, rfl⟩
    obtain ⟨y, hy⟩ : ∃ y, gi ks k = y := ⟨_, rfl⟩
    obtain ⟨z, hz⟩ : ∃ z, ms t ph p k = z := ⟨_, rfl⟩
    obtain ⟨r, hr⟩ : ∃ r, x * ab y = r := ⟨_, rfl⟩
    rw [hx, hy, hr] at hse
    rw [hx] at hw0 hwb
    rw [hy] at ht0 hkb
    rw [hz] at hm0
    unfold InK at hkb
    have hyb : 0 ≤ ab y ∧ ab y ≤ 1000000 := by unfold ab; omega
    have hrb : 0 ≤ r ∧ r ≤ 1000000000 := by
      rw [← hr]
      have h5 : x * ab y ≤ 1000 * 1000000 := Int.mul_le_mul hwb.2 hyb.2 hyb.1 (by omega)
      have h6 : 0 ≤ x * ab y := Int.mul_nonneg hwb.1 hyb.1
      omega
    rw [hse] at hsk1
    obtain ⟨s1, s2⟩ := hsk
    obtain ⟨s3, s4⟩ := hsk1
    obtain ⟨r1, r2⟩ := hrb
    obtain ⟨a1, a2⟩ := hyb
    obtain ⟨b1, b2⟩ := hkb
    have HSZ := Lib.hid (fun W => bsize_c y (by omega) W)
    obtain ⟨ay, hay⟩ : ∃ ay, ab y = ay := ⟨_, rfl⟩
    rw [hay] at HSZ hr a1 a2
    have HA := Lib.hid (And.intro hMA (And.intro hTA (And.intro hz (And.intro hse hr)))); clear hMA hTA hWA hx hy hz hr hse hay hGw hwb
    have HL := Lib.hid (And.intro hl1 (And.intro hl2 hl3)); clear hl1 hl2 hl3
    by_cases hz0 : z = 0
    · have hzb : (z != 0) = false := by simp [hz0]
      have HZ0 := Lib.hid hz0; clear hz0
      go_wp2_with fail
      conv => arg 2; whnf
      go_wp2_with fail
      conv => arg 2; whnf
      try dsimp only
      refine region_rel (by kernel_rfl) (by kernel_rfl) (by kernel_rfl) (fun _ _ w' => Below w.heap.size w w') ((Below.refl _ _).drew) ?_
      (repeat (refine relq rfl rfl (fun _ _ _ h => h) (fun K hK => ?_); go_big_quiet_op; (refine hK _ ?_; clear hK K)))
      (refine relk_val rfl _ (fun _ _ _ h => h) (fun V L w' h1 h2 h3 hC => ex_load1 _ _ rfl _ rfl (cellB hC g3) _ Tryz.underlying26 rfl) (fun K hK => ?_); simp only [Fam.pt]; (refine hK _ ?_; clear hK K))
      (repeat (refine relq rfl rfl (fun _ _ _ h => h) (fun K hK => ?_); go_big_quiet_op; (refine hK _ ?_; clear hK K)))
      (refine relk_val rfl _ (fun _ _ _ h => h) (fun V L w' h1 h2 h3 hC => ex_load1 _ _ rfl _ rfl (cellB hC hw0) _ Tryz.underlying3 rfl) (fun K hK => ?_); simp only [Fam.pt]; (refine hK _ ?_; clear hK K))
      (repeat (refine relq rfl rfl (fun _ _ _ h => h) (fun K hK => ?_); go_big_quiet_op; (refine hK _ ?_; clear hK K)))
      (refine relk_val rfl _ (fun _ _ _ h => h) (fun V L w' h1 h2 h3 hC => ex_load1 _ _ rfl _ rfl (cellB hC ht0) _ Tryz.underlying3 rfl) (fun K hK => ?_); simp only [Fam.pt]; (refine hK _ ?_; clear hK K))
      refine relk_fix rfl (.int .i64 ay) (fun V L w2 h1 h2 h3 hC => ?_) (fun K hK => ?_)
      · rw [ex_call1 23 (.tmp 52) _ rfl rfl rfl (enters_fn Tryz.func23 (by kernel_rfl) rfl)]
        refine (HSZ.out _).mono ?_
        rintro e w' ⟨rfl, rfl⟩
        exact ⟨_, rfl, rfl, hC⟩
      simp only [Fam.pt]
      refine hK _ ?_
      clear hK K
      refine relk_val rfl (.int .i64 r) (fun _ _ _ h => h) (fun V L w2 h1 h2 h3 hC => ?_) (fun K hK => ?_)
      · unfold execOp
        go_simp
        rw [HA.out.2.2.2.2]
        exact IntWalk.i64_in r (by omega)
      simp only [Fam.pt]
      refine hK _ ?_
      clear hK K
      (repeat (refine relq rfl rfl (fun _ _ _ h => h) (fun K hK => ?_); go_big_quiet_op; (refine hK _ ?_; clear hK K)))
      refine relk_end (fun L' V w3 hL hC => ?_)
      rename_i Q6 K6 hK6
      refine hK6 _ _ ?_
      clear hK6
      conv => arg 2; whnf
      try dsimp only
      go_wp2_with fail
      refine ⟨⟨k + 1, by omega, fun i hi => ?_, H.out.2.2.2.2.2.2.2.trans (hC.mono H.out.2.2.2.2.2.2.2.size), ?_⟩, ?_⟩
      · by_cases e : i = k
        · rw [e, HA.out.2.2.1]; exact HZ0.out
        · exact H.out.2.2.2.2.2.2.1 i (by omega)
      · refine ⟨rfl, rfl, rfl, rfl, rfl, ?_, ?_, trivial⟩
        · rw [HA.out.2.2.2.1]; rfl
        · show Value.int .i64 ((k : Int) + 1) = _; go_num
      · show t.pr.length - ((k : Int) + 1).toNat < mu
        omega
    · have hzb : (z != 0) = true := by simp [hz0]
      have HZ0 := Lib.hid hz0; clear hz0
      go_wp2_with fail
      conv => arg 2; whnf
      go_wp2_with fail
      exact HQ.out.2 _ _ k hlt (by rw [HA.out.2.2.1]; exact HZ0.out) H.out.2.2.2.2.2.2.2 (by (refine ⟨rfl, rfl, ?_⟩; repeat (first | exact trivial | refine ⟨rfl, ?_⟩)))
  · obtain rfl : k = t.pr.length := by omega
    go_wp2_with fail
    refine HQ.out.1 _ _ H.out.2.2.2.2.2.2.1 H.out.2.2.2.2.2.2.2 ?_
    have : costK t ks = s := HS.out
    rw [this]
    (refine ⟨rfl, rfl, ?_⟩; repeat (first | exact trivial | refine ⟨rfl, ?_⟩))
end Go.Proofs.YtjnpchoinncbnaaGreat
end
