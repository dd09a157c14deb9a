/- Proves parts of the statement, each under the conditions that its theorem states: The reference's copies; The reference's copy of a task; The reference's net of a field; The reference's net of a field: one edge looked at. -/
import Derived.Test.YtjnpchoinncbnaaP17
section
set_option linter.unusedSimpArgs false
set_option linter.unusedVariables false
namespace Go.Proofs.Ytjnpchoinncbnaa
open Go.RowKit Sw Fam
def RdN (B : Nat) (w : World) (A : Option Addr) (xs : List Int) : Prop := ∀ j, j < xs.length → ∃ b o, A = some ⟨b, o, none⟩ ∧ B ≤ b ∧ w.cell? ⟨b, o + j, none⟩ = some (.int .i64 (gi xs j))
theorem RdN.rd {B : Nat} {w : World} {A : Option Addr} {xs : List Int} (h : RdN B w A xs) : RdI w A xs := fun j hj => by
  obtain ⟨b, o, h1, _, h2⟩ := h j hj
  exact ⟨b, o, h1, h2⟩
theorem RdN.keep {B : Nat} {w w' : World} {A : Option Addr} {xs : List Int} (h : RdN B w A xs) (hb : Below w.heap.size w w') : RdN B w' A xs := fun j hj => by
  obtain ⟨b, o, h1, h3, h2⟩ := h j hj
  exact ⟨b, o, h1, h3, cellB hb h2⟩
theorem RdN.low {B B' : Nat} {w : World} {A : Option Addr} {xs : List Int} (h : RdN B w A xs) (hb : B' ≤ B) : RdN B' w A xs := fun j hj => by
  obtain ⟨b, o, h1, h3, h2⟩ := h j hj
  exact ⟨b, o, h1, Nat.le_trans hb h3, h2⟩
theorem RdN.sets {B r k : Nat} {w : World} {A : Option Addr} {xs : List Int} (h : RdN B w A xs) (hr : r < B) (vs : List Value) : RdN B (w.setCells r k vs) A xs := fun j hj => by
  obtain ⟨b, o, h1, h3, h2⟩ := h j hj
  refine ⟨b, o, h1, h3, ?_⟩
  rw [World.cell?_setCells_out r vs k w ⟨b, o + j, none⟩ (fun e => by simp only at e; omega)]
  exact h2
theorem GrF.rdN {B : Nat} {w : World} {A : Option Addr} {c : Nat} {xs : List Int} (h : GrI w B A c xs) : RdN B w A xs := fun j hj => GrI.cell h hj
def TC (B : Nat) (R C : Int) (ph : List Int) (V : Nat → Value) : Nat → World → Prop
  | 6, w => ∃ A c, V 6 = .slice A ph.length c ∧ GrI w B A c ph
  | 7, w => ∃ A c, V 6 = .slice A ph.length c ∧ V 7 = .agg #[.int .i64 R, .int .i64 C, .slice A ph.length c]
  | _, _ => True
theorem TC_ok (B : Nat) (R C : Int) (ph : List Int) {ops : Array Oper} (hd : dep ops 7 6 = true) : GrT ops (TC B R C ph) := by
  constructor
  · intro V j w w' h hb
    unfold TC at h ⊢
    split
    · obtain ⟨A, c, h1, h2⟩ := h; exact ⟨A, c, h1, h2.keep hb⟩
    · exact h
    · trivial
  · intro L V w i u j hi hc hj h
    have hne : j ≠ i := fun e => by rw [← e, hj] at hi; cases hi
    unfold TC at h ⊢
    split
    · rw [setV_ne _ _ hne]; exact h
    · have h9 : (6 : Nat) ≠ i := fun e => by subst e; rw [hc.not hd hi] at hj; cases hj
      rw [setV_ne _ _ hne, setV_ne _ _ h9]; exact h
    · trivial
def CMPost (R C : Int) (ph : List Int) (w : World) (e : Ending) (w' : World) : Prop := ∃ A c, e = .returned (.agg #[.int .i64 R, .int .i64 C, .slice A ph.length c]) ∧ Below w.heap.size w w' ∧ RdN w.heap.size w' A ph
set_option maxHeartbeats 1000000 in
set_option maxRecDepth 100000 in
theorem copyMap_c {R C : Int} {ph : List Int} {P : Option Addr} {cp : Nat} {w : World} (hP : RdI w P ph) (hl : ph.length ≤ 100000) : Calls Try.prog 25 #[.agg #[.int .i64 R, .int .i64 C, .slice P ph.length cp]] w (CMPost R C ph w) := by
  have HP := Lib.hid hP; clear hP
  go_enter Try.func25, Try.ntmps25
  go_wp2_with fail
  obtain ⟨w1, hw1⟩ : ∃ w1, w1 = (w.alloc (.cells #[.int .i64 R, .int .i64 C, .slice P ph.length cp] 24)).alloc (.cells #[.int .i64 0, .int .i64 0, .slice none 0 0] 24) := ⟨_, rfl⟩
  rw [← hw1]
  obtain ⟨hz1, hT1, hR1, hB1⟩ := alloc2 w _ _ hw1
  clear hw1
  have t0 : w1.cell? ⟨w.heap.size, 0, none⟩ = some (.int .i64 R) := block_cell hT1 (j := 0) (by simp)
  have t1 : w1.cell? ⟨w.heap.size, 1, none⟩ = some (.int .i64 C) := block_cell hT1 (j := 1) (by simp)
  have t2 : w1.cell? ⟨w.heap.size, 2, none⟩ = some (.slice P ph.length cp) := block_cell hT1 (j := 2) (by simp)
  refine region_rel (by kernel_rfl) (by kernel_rfl) (by kernel_rfl) (GrC w1.heap.size w1 (fun L => L 8) (TC w1.heap.size R C ph) (fun V w' => ∃ w0 A' c', Below w1.heap.size w1 w0 ∧ GrI w0 w1.heap.size A' c' ph ∧ w' = w0.setCells (w.heap.size + 1) 0 [.int .i64 R, .int .i64 C, .slice A' ph.length c'])) (GrC.start rfl (Below.refl _ _).drew) ?_
  (repeat (first | (refine relq rfl rfl (by (first | (exact fun _ _ _ h => GrC.up (fun L => upd_ne _ (by decide)) (fun _ _ => trivial) h) | (exact fun _ _ _ h => GrC.up (fun L => rfl) (fun _ _ => trivial) h) | (exact fun _ _ _ h => Lst.up (by decide) h) | (exact fun _ _ _ h => h))) (fun K hK => ?_); go_big_quiet_op; (refine hK _ ?_; clear hK K)) | (refine relk_nil rfl _ rfl _ rfl (by (first | (exact fun _ _ _ h => GrC.up (fun L => upd_ne _ (by decide)) (fun _ _ => trivial) h) | (exact fun _ _ _ h => GrC.up (fun L => rfl) (fun _ _ => trivial) h) | (exact fun _ _ _ h => Lst.up (by decide) h) | (exact fun _ _ _ h => h))) (fun K hK => ?_); simp only [Act.put, List.setIfInBounds_toArray, List.set_cons_succ, List.set_cons_zero]; (refine hK _ ?_; clear hK K))))
  (refine relk_val rfl _ (by (first | (exact fun _ _ _ h => GrC.up (fun L => upd_ne _ (by decide)) (fun _ _ => trivial) h) | (exact fun _ _ _ h => GrC.up (fun L => rfl) (fun _ _ => trivial) h) | (exact fun _ _ _ h => Lst.up (by decide) h) | (exact fun _ _ _ h => h))) (fun V L w' h1 h2 h3 hC => ex_load1 _ _ rfl _ rfl (cellB (hC.before ((ahead_last (by kernel_rfl)).1 L h1 h3)).1 t0) _ Try.underlying3 rfl) (fun K hK => ?_); simp only [Act.put, List.setIfInBounds_toArray, List.set_cons_succ, List.set_cons_zero]; (refine hK _ ?_; clear hK K); (repeat (first | (refine relq rfl rfl (by (first | (exact fun _ _ _ h => GrC.up (fun L => upd_ne _ (by decide)) (fun _ _ => trivial) h) | (exact fun _ _ _ h => GrC.up (fun L => rfl) (fun _ _ => trivial) h) | (exact fun _ _ _ h => Lst.up (by decide) h) | (exact fun _ _ _ h => h))) (fun K hK => ?_); go_big_quiet_op; (refine hK _ ?_; clear hK K)) | (refine relk_nil rfl _ rfl _ rfl (by (first | (exact fun _ _ _ h => GrC.up (fun L => upd_ne _ (by decide)) (fun _ _ => trivial) h) | (exact fun _ _ _ h => GrC.up (fun L => rfl) (fun _ _ => trivial) h) | (exact fun _ _ _ h => Lst.up (by decide) h) | (exact fun _ _ _ h => h))) (fun K hK => ?_); simp only [Act.put, List.setIfInBounds_toArray, List.set_cons_succ, List.set_cons_zero]; (refine hK _ ?_; clear hK K)))))
  (refine relk_val rfl _ (by (first | (exact fun _ _ _ h => GrC.up (fun L => upd_ne _ (by decide)) (fun _ _ => trivial) h) | (exact fun _ _ _ h => GrC.up (fun L => rfl) (fun _ _ => trivial) h) | (exact fun _ _ _ h => Lst.up (by decide) h) | (exact fun _ _ _ h => h))) (fun V L w' h1 h2 h3 hC => ex_load1 _ _ rfl _ rfl (cellB (hC.before ((ahead_last (by kernel_rfl)).1 L h1 h3)).1 t1) _ Try.underlying3 rfl) (fun K hK => ?_); simp only [Act.put, List.setIfInBounds_toArray, List.set_cons_succ, List.set_cons_zero]; (refine hK _ ?_; clear hK K); (repeat (first | (refine relq rfl rfl (by (first | (exact fun _ _ _ h => GrC.up (fun L => upd_ne _ (by decide)) (fun _ _ => trivial) h) | (exact fun _ _ _ h => GrC.up (fun L => rfl) (fun _ _ => trivial) h) | (exact fun _ _ _ h => Lst.up (by decide) h) | (exact fun _ _ _ h => h))) (fun K hK => ?_); go_big_quiet_op; (refine hK _ ?_; clear hK K)) | (refine relk_nil rfl _ rfl _ rfl (by (first | (exact fun _ _ _ h => GrC.up (fun L => upd_ne _ (by decide)) (fun _ _ => trivial) h) | (exact fun _ _ _ h => GrC.up (fun L => rfl) (fun _ _ => trivial) h) | (exact fun _ _ _ h => Lst.up (by decide) h) | (exact fun _ _ _ h => h))) (fun K hK => ?_); simp only [Act.put, List.setIfInBounds_toArray, List.set_cons_succ, List.set_cons_zero]; (refine hK _ ?_; clear hK K)))))
  (refine relk_val rfl _ (by (first | (exact fun _ _ _ h => GrC.up (fun L => upd_ne _ (by decide)) (fun _ _ => trivial) h) | (exact fun _ _ _ h => GrC.up (fun L => rfl) (fun _ _ => trivial) h) | (exact fun _ _ _ h => Lst.up (by decide) h) | (exact fun _ _ _ h => h))) (fun V L w' h1 h2 h3 hC => ex_load1 _ _ rfl _ rfl (cellB (hC.before ((ahead_last (by kernel_rfl)).1 L h1 h3)).1 t2) _ Try.underlying22 rfl) (fun K hK => ?_); simp only [Act.put, List.setIfInBounds_toArray, List.set_cons_succ, List.set_cons_zero]; (refine hK _ ?_; clear hK K); (repeat (first | (refine relq rfl rfl (by (first | (exact fun _ _ _ h => GrC.up (fun L => upd_ne _ (by decide)) (fun _ _ => trivial) h) | (exact fun _ _ _ h => GrC.up (fun L => rfl) (fun _ _ => trivial) h) | (exact fun _ _ _ h => Lst.up (by decide) h) | (exact fun _ _ _ h => h))) (fun K hK => ?_); go_big_quiet_op; (refine hK _ ?_; clear hK K)) | (refine relk_nil rfl _ rfl _ rfl (by (first | (exact fun _ _ _ h => GrC.up (fun L => upd_ne _ (by decide)) (fun _ _ => trivial) h) | (exact fun _ _ _ h => GrC.up (fun L => rfl) (fun _ _ => trivial) h) | (exact fun _ _ _ h => Lst.up (by decide) h) | (exact fun _ _ _ h => h))) (fun K hK => ?_); simp only [Act.put, List.setIfInBounds_toArray, List.set_cons_succ, List.set_cons_zero]; (refine hK _ ?_; clear hK K)))))
  refine gr_free (TC_ok _ _ _ _ (by kernel_rfl)) (ahead_last (by kernel_rfl)) (Nat.le_refl _) rfl (fun V L wx hB hT hw => ?_) ?_
  · rw [ex_call1 26 (.tmp 8) _ rfl rfl rfl (enters_fn Try.func26 (by kernel_rfl) rfl)]
    refine (copyInts_c ((HP.out.keep hB1).keep hB) (by omega)).mono ?_
    rintro e w' ⟨A', c', rfl, hb, hg⟩
    exact ⟨_, rfl, hb, fun V' _ h => ⟨A', c', h, hg.low hB.size⟩⟩
  simp only [Act.put, List.setIfInBounds_toArray, List.set_cons_succ, List.set_cons_zero]
  refine gr_free (TC_ok _ _ _ _ (by kernel_rfl)) (ahead_last (by kernel_rfl)) (Nat.le_refl _) rfl (fun V L wx hB hT hw => ?_) ?_
  · obtain ⟨A', c', h9, _⟩ := hT 6 (waits_at hw (by kernel_rfl))
    rw [ex_build24 _ _ _ rfl rfl rfl h9]
    exact ⟨Below.refl _ _, fun V' hV h => ⟨A', c', by rw [hV 6 (by decide)]; exact h9, h⟩⟩
  simp only [Act.put, List.setIfInBounds_toArray, List.set_cons_succ, List.set_cons_zero]
  refine gr_last rfl rfl (fun V wx hB hT => ?_) (fun j hj => by revert j; decide +kernel) rfl ?_ (by decide)
  · obtain ⟨A', c', h9, h9g⟩ := hT 6 (by decide)
    obtain ⟨A2, c2, h9', h10⟩ := hT 7 (by decide)
    rw [h9] at h9'
    injection h9' with e1 _ e3
    subst e1 e3
    rw [ex_storeN 24 _ _ rfl (w.heap.size + 1) 0 #[.int .i64 R, .int .i64 C, .slice A' ph.length c'] rfl h10 ?_ (by kernel_rfl) (by simp [Value.oneCell'])]
    · exact ⟨rfl, wx, A', c', hB, h9g, rfl⟩
    · exact block_there ((hB.block _ (Array.getElem?_eq_some_iff.1 hR1).1).trans hR1) (Nat.le_refl 3)
  · rintro V w6 ⟨w0, A', c', hB0, hA0, rfl⟩
    generalize V _ = g1
    generalize V _ = g2
    go_wp2_with fail
    have hR0 := (hB0.block _ (Array.getElem?_eq_some_iff.1 hR1).1).trans hR1
    have q1 := heap_setCell_same w0 (w.heap.size + 1) 0 _ _ (.int .i64 R) hR0
    have q2 := heap_setCell_same _ (w.heap.size + 1) 1 _ _ (.int .i64 C) q1
    have q3 := heap_setCell_same _ (w.heap.size + 1) 2 _ _ (.slice A' ph.length c') q2
    have hBf : Below w.heap.size w (w0.setCells (w.heap.size + 1) 0 [.int .i64 R, .int .i64 C, .slice A' ph.length c']) := below_setCells (by omega) _ _ _ (hB1.trans (hB0.mono (by omega)))
    have hrd : RdN w.heap.size (w0.setCells (w.heap.size + 1) 0 [.int .i64 R, .int .i64 C, .slice A' ph.length c']) A' ph := (hA0.rdN.sets (by omega) _).low (by omega)
    generalize hW9 : w0.setCells (w.heap.size + 1) 0 [.int .i64 R, .int .i64 C, .slice A' ph.length c'] = w9 at *
    have q4 : w9.heap[w.heap.size + 1]? = some (.cells #[.int .i64 R, .int .i64 C, .slice A' ph.length c'] 24 (0, 0)) := by rw [← hW9]; exact q3
    have c0 : w9.cell? ⟨w.heap.size + 1, 0, none⟩ = some (.int .i64 R) := block_cell q4 (j := 0) (by simp)
    have c1 : w9.cell? ⟨w.heap.size + 1, 1, none⟩ = some (.int .i64 C) := block_cell q4 (j := 1) (by simp)
    have c2 : w9.cell? ⟨w.heap.size + 1, 2, none⟩ = some (.slice A' ph.length c') := block_cell q4 (j := 2) (by simp)
    refine bodyPost_ret (v := .agg #[.int .i64 R, .int .i64 C, .slice A' ph.length c']) ?_ rfl ⟨A', c', rfl, hBf, hrd⟩
    simp [results, Try.results25, go_sem, c0, c1, c2]
end Go.Proofs.Ytjnpchoinncbnaa
end

section
set_option linter.unusedSimpArgs false
set_option linter.unusedVariables false
namespace Go.Proofs.Ytjnpchoinncbnaa
open Go.RowKit Sw Fam
def TK (B : Nat) (t : Tk) (V : Nat → Value) : Nat → World → Prop
  | 2, w => ∃ A c, V 2 = .agg #[.int .i64 t.rows, .int .i64 t.cols, .slice A t.ph.length c] ∧ RdN B w A t.ph
  | 5, w => ∃ A c, V 5 = .slice A t.ac.length c ∧ RdN B w A t.ac
  | 8, w => ∃ A c, V 8 = .slice A t.dn.length c ∧ RdN B w A t.dn
  | 9, w => ∃ A c A2 c2 A3 c3, V 2 = .agg #[.int .i64 t.rows, .int .i64 t.cols, .slice A t.ph.length c] ∧ V 5 = .slice A2 t.ac.length c2 ∧ V 8 = .slice A3 t.dn.length c3 ∧ V 9 = .agg #[.int .i64 t.rows, .int .i64 t.cols, .slice A t.ph.length c, .slice A2 t.ac.length c2, .slice A3 t.dn.length c3]
  | _, _ => True
theorem TK_ok (B : Nat) (t : Tk) {ops : Array Oper} (hd : (dep ops 9 2 && dep ops 9 5 && dep ops 9 8) = true) : GrT ops (TK B t) := by
  simp only [Bool.and_eq_true] at hd
  obtain ⟨⟨d1, d2⟩, d3⟩ := hd
  constructor
  · intro V j w w' h hb
    unfold TK at h ⊢
    split
    · obtain ⟨A, c, h1, h2⟩ := h; exact ⟨A, c, h1, h2.keep hb⟩
    · obtain ⟨A, c, h1, h2⟩ := h; exact ⟨A, c, h1, h2.keep hb⟩
    · obtain ⟨A, c, h1, h2⟩ := h; exact ⟨A, c, h1, h2.keep hb⟩
    · exact h
    · trivial
  · intro L V w i u j hi hc hj h
    have hne : j ≠ i := fun e => by rw [← e, hj] at hi; cases hi
    have key : ∀ k, dep ops j k = true → k ≠ i := fun k hk e => by subst e; rw [hc.not hk hi] at hj; cases hj
    unfold TK at h ⊢
    split
    · rw [setV_ne _ _ hne]; exact h
    · rw [setV_ne _ _ hne]; exact h
    · rw [setV_ne _ _ hne]; exact h
    · rw [setV_ne _ _ hne, setV_ne _ _ (key 2 d1), setV_ne _ _ (key 5 d2), setV_ne _ _ (key 8 d3)]; exact h
    · trivial
theorem ex_build26 {ρ : Operand → Value} {o : Oper} {w : World} (x0 x1 x2 : Operand) (ho : o.op = .build 26 #[(0, x0), (1, x1), (2, x2)]) {A A2 A3 : Option Addr} {R C : Int} {n c n2 c2 n3 c3 : Nat}
    (h0 : ρ x0 = .agg #[.int .i64 R, .int .i64 C, .slice A n c]) (h1 : ρ x1 = .slice A2 n2 c2) (h2 : ρ x2 = .slice A3 n3 c3) :
    (execOp ρ o).run Try.prog w = .ok (.value (.agg #[.int .i64 R, .int .i64 C, .slice A n c, .slice A2 n2 c2, .slice A3 n3 c3])) w := by
  unfold execOp
  simp only [ho, h0, h1, h2, List.map_toArray, List.map_cons, List.map_nil]
  go_simp
def CTPost (t : Tk) (w : World) (e : Ending) (w' : World) : Prop := ∃ l, e = .returned (TkV t l) ∧ Below w.heap.size w w' ∧ TkM w' t l
set_option maxHeartbeats 1000000 in
set_option maxRecDepth 100000 in
theorem copyTask_c {t : Tk} {l : TkL} {w : World} (hM : TkM w t l) (h1 : t.ph.length ≤ 100000) (h2 : t.ac.length ≤ 100000) (h3 : t.dn.length ≤ 100000) : Calls Try.prog 7 #[TkV t l] w (CTPost t w) := by
  have HM := Lib.hid hM; clear hM
  obtain ⟨R, C, ph, ac, dn⟩ := t
  obtain ⟨P, A, D, cp, ca, cd⟩ := l
  unfold TkV
  dsimp only at *
  go_enter Try.func7, Try.ntmps7
  go_wp2_with fail
  obtain ⟨w1, hw1⟩ : ∃ w1, w1 = (w.alloc (.cells #[.int .i64 R, .int .i64 C, .slice P ph.length cp, .slice A ac.length ca, .slice D dn.length cd] 26)).alloc (.cells #[.int .i64 0, .int .i64 0, .slice none 0 0, .slice none 0 0, .slice none 0 0] 26) := ⟨_, rfl⟩
  rw [← hw1]
  obtain ⟨hz1, hT1, hR1, hB1⟩ := alloc2 w _ _ hw1
  clear hw1
  have t3 : w1.cell? ⟨w.heap.size, 3, none⟩ = some (.slice A ac.length ca) := block_cell hT1 (j := 3) (by simp)
  have t4 : w1.cell? ⟨w.heap.size, 4, none⟩ = some (.slice D dn.length cd) := block_cell hT1 (j := 4) (by simp)
  refine region_rel (by kernel_rfl) (by kernel_rfl) (by kernel_rfl) (GrC w1.heap.size w1 (fun L => L 10) (TK w1.heap.size ⟨R, C, ph, ac, dn⟩) (fun V w' => ∃ (w0 : World) (l' : TkL), Below w1.heap.size w1 w0 ∧ (RdN w1.heap.size w0 l'.P ph ∧ RdN w1.heap.size w0 l'.A ac ∧ RdN w1.heap.size w0 l'.D dn) ∧ w' = w0.setCells (w.heap.size + 1) 0 [.int .i64 R, .int .i64 C, .slice l'.P ph.length l'.cp, .slice l'.A ac.length l'.ca, .slice l'.D dn.length l'.cd])) (GrC.start rfl (Below.refl _ _).drew) ?_
  (repeat (first | (refine relq rfl rfl (by (first | (exact fun _ _ _ h => GrC.up (fun L => upd_ne _ (by decide)) (fun _ _ => trivial) h) | (exact fun _ _ _ h => GrC.up (fun L => rfl) (fun _ _ => trivial) h) | (exact fun _ _ _ h => Lst.up (by decide) h) | (exact fun _ _ _ h => h))) (fun K hK => ?_); go_big_quiet_op; (refine hK _ ?_; clear hK K)) | (refine relk_nil rfl _ rfl _ rfl (by (first | (exact fun _ _ _ h => GrC.up (fun L => upd_ne _ (by decide)) (fun _ _ => trivial) h) | (exact fun _ _ _ h => GrC.up (fun L => rfl) (fun _ _ => trivial) h) | (exact fun _ _ _ h => Lst.up (by decide) h) | (exact fun _ _ _ h => h))) (fun K hK => ?_); simp only [Act.put, List.setIfInBounds_toArray, List.set_cons_succ, List.set_cons_zero]; (refine hK _ ?_; clear hK K))))
  refine relk_val rfl (.agg #[.int .i64 R, .int .i64 C, .slice P ph.length cp]) (by (first | (exact fun _ _ _ h => GrC.up (fun L => upd_ne _ (by decide)) (fun _ _ => trivial) h) | (exact fun _ _ _ h => GrC.up (fun L => rfl) (fun _ _ => trivial) h) | (exact fun _ _ _ h => Lst.up (by decide) h) | (exact fun _ _ _ h => h))) (fun V L w' h1 h2 h3 hC => ex_loadN 24 _ rfl w.heap.size 0 rfl [.int .i64 R, .int .i64 C, .slice P ph.length cp] _ (fun j v hj => by
    have hD := (hC.before ((ahead_last (by kernel_rfl)).1 L h1 h3)).1
    have hb := (hD.block _ (Array.getElem?_eq_some_iff.1 hT1).1).trans hT1
    obtain ⟨j1, j2⟩ := List.getElem?_eq_some_iff.1 hj
    have j3 : j < 3 := by simpa using j1
    rw [Nat.zero_add, block_cell hb (j := j) (by simp; omega)]
    rw [← j2]
    match j, j3 with
    | 0, _ => rfl
    | 1, _ => rfl
    | 2, _ => rfl) Try.underlying24 rfl (by kernel_rfl)) (fun K hK => ?_)
  simp only [Act.put, List.setIfInBounds_toArray, List.set_cons_succ, List.set_cons_zero]
  refine hK _ ?_
  clear hK K
  refine gr_free (TK_ok _ _ (by kernel_rfl)) (ahead_last (by kernel_rfl)) (Nat.le_refl _) rfl (fun V L wx hB hT hw => ?_) ?_
  · rw [ex_call1 25 (.tmp 4) _ rfl rfl rfl (enters_fn Try.func25 (by kernel_rfl) rfl)]
    refine (copyMap_c ((HM.out.p.keep hB1).keep hB) (by dsimp only; omega)).mono ?_
    rintro e w' ⟨A', c', rfl, hb, hg⟩
    exact ⟨_, rfl, hb, fun V' _ h => ⟨A', c', h, hg.low hB.size⟩⟩
  simp only [Act.put, List.setIfInBounds_toArray, List.set_cons_succ, List.set_cons_zero]
  (refine gr_fix (ahead_last (by kernel_rfl)) rfl (.pointer (some ⟨w.heap.size, 3, none⟩)) (fun _ _ => trivial) (fun V w hB => by unfold execOp; go_simp) ?_; simp only [Act.put, List.setIfInBounds_toArray, List.set_cons_succ, List.set_cons_zero])
  (refine gr_fix (ahead_last (by kernel_rfl)) rfl _ (fun _ _ => trivial) (fun V w hB => ex_load1 _ _ rfl _ rfl (cellB hB t3) _ Try.underlying22 rfl) ?_; simp only [Act.put, List.setIfInBounds_toArray, List.set_cons_succ, List.set_cons_zero])
  refine gr_free (TK_ok _ _ (by kernel_rfl)) (ahead_last (by kernel_rfl)) (Nat.le_refl _) rfl (fun V L wx hB hT hw => ?_) ?_
  · rw [ex_call1 26 (.tmp 7) _ rfl rfl rfl (enters_fn Try.func26 (by kernel_rfl) rfl)]
    refine (copyInts_c ((HM.out.a.keep hB1).keep hB) (by dsimp only; omega)).mono ?_
    rintro e w' ⟨A', c', rfl, hb, hg⟩
    exact ⟨_, rfl, hb, fun V' _ h => ⟨A', c', h, hg.rdN.low hB.size⟩⟩
  simp only [Act.put, List.setIfInBounds_toArray, List.set_cons_succ, List.set_cons_zero]
  (refine gr_fix (ahead_last (by kernel_rfl)) rfl (.pointer (some ⟨w.heap.size, 4, none⟩)) (fun _ _ => trivial) (fun V w hB => by unfold execOp; go_simp) ?_; simp only [Act.put, List.setIfInBounds_toArray, List.set_cons_succ, List.set_cons_zero])
  (refine gr_fix (ahead_last (by kernel_rfl)) rfl _ (fun _ _ => trivial) (fun V w hB => ex_load1 _ _ rfl _ rfl (cellB hB t4) _ Try.underlying22 rfl) ?_; simp only [Act.put, List.setIfInBounds_toArray, List.set_cons_succ, List.set_cons_zero])
  refine gr_free (TK_ok _ _ (by kernel_rfl)) (ahead_last (by kernel_rfl)) (Nat.le_refl _) rfl (fun V L wx hB hT hw => ?_) ?_
  · rw [ex_call1 26 (.tmp 10) _ rfl rfl rfl (enters_fn Try.func26 (by kernel_rfl) rfl)]
    refine (copyInts_c ((HM.out.d.keep hB1).keep hB) (by dsimp only; omega)).mono ?_
    rintro e w' ⟨A', c', rfl, hb, hg⟩
    exact ⟨_, rfl, hb, fun V' _ h => ⟨A', c', h, hg.rdN.low hB.size⟩⟩
  simp only [Act.put, List.setIfInBounds_toArray, List.set_cons_succ, List.set_cons_zero]
  refine gr_free (TK_ok _ _ (by kernel_rfl)) (ahead_last (by kernel_rfl)) (Nat.le_refl _) rfl (fun V L wx hB hT hw => ?_) ?_
  · obtain ⟨A1, c1, k1, _⟩ := hT 2 (waits_at hw (by kernel_rfl))
    obtain ⟨A2, c2, k2, _⟩ := hT 5 (waits_at hw (by kernel_rfl))
    obtain ⟨A3, c3, k3, _⟩ := hT 8 (waits_at hw (by kernel_rfl))
    rw [ex_build26 _ _ _ rfl k1 k2 k3]
    exact ⟨Below.refl _ _, fun V' hV h => ⟨A1, c1, A2, c2, A3, c3, by rw [hV 2 (by decide)]; exact k1, by rw [hV 5 (by decide)]; exact k2, by rw [hV 8 (by decide)]; exact k3, h⟩⟩
  simp only [Act.put, List.setIfInBounds_toArray, List.set_cons_succ, List.set_cons_zero]
  refine gr_last rfl rfl (fun V wx hB hT => ?_) (fun j hj => by revert j; decide +kernel) rfl ?_ (by decide)
  · obtain ⟨A1, c1, k1, m1⟩ := hT 2 (by decide)
    obtain ⟨A2, c2, k2, m2⟩ := hT 5 (by decide)
    obtain ⟨A3, c3, k3, m3⟩ := hT 8 (by decide)
    obtain ⟨A1', c1', A2', c2', A3', c3', n1, n2, n3, n4⟩ := hT 9 (by decide)
    rw [k1] at n1
    rw [k2] at n2
    rw [k3] at n3
    injection n1 with n1; injection n1 with n1; simp only [List.cons.injEq] at n1
    obtain ⟨_, _, n1, _⟩ := n1
    injection n1 with e1 _ e3
    injection n2 with e4 _ e6
    injection n3 with e7 _ e9
    subst e1 e3 e4 e6 e7 e9
    rw [ex_storeN 26 _ _ rfl (w.heap.size + 1) 0 #[.int .i64 R, .int .i64 C, .slice A1 ph.length c1, .slice A2 ac.length c2, .slice A3 dn.length c3] rfl n4 ?_ (by kernel_rfl) (by simp [Value.oneCell'])]
    · exact ⟨rfl, wx, ⟨A1, A2, A3, c1, c2, c3⟩, hB, ⟨m1, m2, m3⟩, rfl⟩
    · exact block_there ((hB.block _ (Array.getElem?_eq_some_iff.1 hR1).1).trans hR1) (Nat.le_refl 5)
  · rintro V w6 ⟨w0, ⟨A1, A2, A3, c1, c2, c3⟩, hB0, ⟨m1, m2, m3⟩, rfl⟩
    dsimp only at *
    generalize V _ = g1
    generalize V _ = g2
    generalize V _ = g3
    generalize V _ = g4
    go_wp2_with fail
    have hR0 := (hB0.block _ (Array.getElem?_eq_some_iff.1 hR1).1).trans hR1
    have q1 := heap_setCell_same w0 (w.heap.size + 1) 0 _ _ (.int .i64 R) hR0
    have q2 := heap_setCell_same _ (w.heap.size + 1) 1 _ _ (.int .i64 C) q1
    have q3 := heap_setCell_same _ (w.heap.size + 1) 2 _ _ (.slice A1 ph.length c1) q2
    have q5 := heap_setCell_same _ (w.heap.size + 1) 3 _ _ (.slice A2 ac.length c2) q3
    have q6 := heap_setCell_same _ (w.heap.size + 1) 4 _ _ (.slice A3 dn.length c3) q5
    have hBf : Below w.heap.size w (w0.setCells (w.heap.size + 1) 0 [.int .i64 R, .int .i64 C, .slice A1 ph.length c1, .slice A2 ac.length c2, .slice A3 dn.length c3]) := below_setCells (by omega) _ _ _ (hB1.trans (hB0.mono (by omega)))
    have n1 := (m1.sets (r := w.heap.size + 1) (k := 0) (by omega) [.int .i64 R, .int .i64 C, .slice A1 ph.length c1, .slice A2 ac.length c2, .slice A3 dn.length c3]).rd
    have n2 := (m2.sets (r := w.heap.size + 1) (k := 0) (by omega) [.int .i64 R, .int .i64 C, .slice A1 ph.length c1, .slice A2 ac.length c2, .slice A3 dn.length c3]).rd
    have n3 := (m3.sets (r := w.heap.size + 1) (k := 0) (by omega) [.int .i64 R, .int .i64 C, .slice A1 ph.length c1, .slice A2 ac.length c2, .slice A3 dn.length c3]).rd
    generalize hW9 : w0.setCells (w.heap.size + 1) 0 [.int .i64 R, .int .i64 C, .slice A1 ph.length c1, .slice A2 ac.length c2, .slice A3 dn.length c3] = w9 at *
    have q4 : w9.heap[w.heap.size + 1]? = some (.cells #[.int .i64 R, .int .i64 C, .slice A1 ph.length c1, .slice A2 ac.length c2, .slice A3 dn.length c3] 26 (0, 0)) := by rw [← hW9]; exact q6
    have d0 : w9.cell? ⟨w.heap.size + 1, 0, none⟩ = some (.int .i64 R) := block_cell q4 (j := 0) (by simp)
    have d1 : w9.cell? ⟨w.heap.size + 1, 1, none⟩ = some (.int .i64 C) := block_cell q4 (j := 1) (by simp)
    have d2 : w9.cell? ⟨w.heap.size + 1, 2, none⟩ = some (.slice A1 ph.length c1) := block_cell q4 (j := 2) (by simp)
    have d3 : w9.cell? ⟨w.heap.size + 1, 3, none⟩ = some (.slice A2 ac.length c2) := block_cell q4 (j := 3) (by simp)
    have d4 : w9.cell? ⟨w.heap.size + 1, 4, none⟩ = some (.slice A3 dn.length c3) := block_cell q4 (j := 4) (by simp)
    refine bodyPost_ret (v := TkV ⟨R, C, ph, ac, dn⟩ ⟨A1, A2, A3, c1, c2, c3⟩) ?_ rfl ⟨⟨A1, A2, A3, c1, c2, c3⟩, rfl, hBf, ⟨n1, n2, n3⟩⟩
    simp [results, Try.results7, go_sem, d0, d1, d2, d3, d4, TkV]
end Go.Proofs.Ytjnpchoinncbnaa
end

section
set_option linter.unusedSimpArgs false
set_option linter.unusedVariables false
namespace Go.Proofs.Ytjnpchoinncbnaa
open Go.RowKit Sw Fam
def edgeV : Option Ed → Value
  | none => .tuple #[.agg #[.int .i64 0, .int .i64 0, .int .i64 0, .int .i64 0], .bool false]
  | some e => .tuple #[edV e, .bool true]
set_option maxHeartbeats 1000000 in
set_option maxRecDepth 100000 in
theorem edge_c {R C : Int} {ph : List Int} {P : Option Addr} {cp a b : Nat} {k : Int} {w : World} (hP : RdI w P ph) (hph : PhOk ph) (hl : ph.length ≤ 4096) (ha : a < ph.length) (hb : b < ph.length) (hk : 0 ≤ k ∧ k ≤ 1000) :
    Calls Try.prog 27 #[.agg #[.int .i64 R, .int .i64 C, .slice P ph.length cp], .int .i64 a, .int .i64 b, .int .i64 k] w fun e w' => e = .returned (edgeV (edg ph (a, b) k)) ∧ Below w.heap.size w w' := by
  obtain ⟨pb1, po, rfl, pa⟩ := hP a ha
  obtain ⟨pb1', po', hpe, pbc⟩ := hP b hb
  injection hpe with hpe; injection hpe with e1 e2
  subst e1 e2
  have HA := Lib.hid (hph a ha)
  have HB := Lib.hid (hph b hb)
  have HE : edg ph (a, b) k = if gi ph a = void ∨ gi ph b = void then none else some ⟨a, b, Int.tdiv (gi ph b - gi ph a - wrp (gi ph b - gi ph a)) 4096, k.toNat⟩ := rfl
  obtain ⟨x, hx⟩ : ∃ x, x = gi ph a := ⟨_, rfl⟩
  obtain ⟨y, hy⟩ : ∃ y, y = gi ph b := ⟨_, rfl⟩
  rw [← hx] at HE pa HA
  rw [← hy] at HE pbc HB
  have HEE := Lib.hid HE
  have hlt := World.block_lt_of_cell? _ _ pa
  clear hx hy HE hph hP
  have hkk : ((k.toNat : Nat) : Int) = k := by omega
  have HKK := Lib.hid hkk; clear hkk
  go_enter Try.func27, Try.ntmps27
  go_wp2_with fail
  go_quiet (fail)
  refine nameQ ?_
  intro w2 hw2
  obtain ⟨w1, hw1⟩ : ∃ w1, w1 = (w.alloc (.cells #[.int .i64 R, .int .i64 C, .slice (some ⟨pb1, po, none⟩) ph.length cp] 24)).alloc (.cells #[.int .i64 0, .int .i64 0, .int .i64 0, .int .i64 0] 66) := ⟨_, rfl⟩
  rw [← hw1] at hw2
  obtain ⟨hz1, hT1, hR1, hB1⟩ := alloc2 w _ _ hw1
  clear hw1
  have hR2 : w2.heap[w.heap.size + 1]? = some (.cells #[.int .i64 0, .int .i64 0, .int .i64 0, .int .i64 0] 66 (0, 0)) := by rw [hw2]; exact hR1
  have hB2 : Below w.heap.size w w2 := by rw [hw2]; exact below_drewN hB1 _
  clear hw2 hT1 hR1 hB1
  have r0 : w2.cell? ⟨w.heap.size + 1, 0, none⟩ = some (.int .i64 0) := block_cell hR2 (j := 0) (by simp)
  have r1 : w2.cell? ⟨w.heap.size + 1, 1, none⟩ = some (.int .i64 0) := block_cell hR2 (j := 1) (by simp)
  have r2 : w2.cell? ⟨w.heap.size + 1, 2, none⟩ = some (.int .i64 0) := block_cell hR2 (j := 2) (by simp)
  have r3 : w2.cell? ⟨w.heap.size + 1, 3, none⟩ = some (.int .i64 0) := block_cell hR2 (j := 3) (by simp)
  have f0 : w2.frozen? ⟨w.heap.size + 1, 0, none⟩ = false := by simp [World.frozen?, hR2]
  have f1 : w2.frozen? ⟨w.heap.size + 1, 1, none⟩ = false := by simp [World.frozen?, hR2]
  have f2 : w2.frozen? ⟨w.heap.size + 1, 2, none⟩ = false := by simp [World.frozen?, hR2]
  have f3 : w2.frozen? ⟨w.heap.size + 1, 3, none⟩ = false := by simp [World.frozen?, hR2]
  have HR2 := Lib.hid (And.intro hR2 hB2)
  clear hR2 hB2 pa pbc
  have hend : ∀ (o : Option Ed) (v0 v1 v2 v3 : Int) (g : Bool) (tm : Array Value) (df : List Deferred) (w3 : World), w3 = (((w2.setCell ⟨w.heap.size + 1, 0, none⟩ (.int .i64 v0)).setCell ⟨w.heap.size + 1, 1, none⟩ (.int .i64 v1)).setCell ⟨w.heap.size + 1, 2, none⟩ (.int .i64 v2)).setCell ⟨w.heap.size + 1, 3, none⟩ (.int .i64 v3) →
      edg ph (a, b) k = o → edgeV o = .tuple #[.agg #[.int .i64 v0, .int .i64 v1, .int .i64 v2, .int .i64 v3], .bool g] →
      tm.getD 8 undef = .pointer (some ⟨w.heap.size + 1, 0, none⟩) → tm.getD 9 undef = .bool g → df = [] → bodyPost Try.prog Try.f27 (fun e w' => e = .returned (edgeV (edg ph (a, b) k)) ∧ Below w.heap.size w w') .ret ⟨tm, df⟩ w3 := by
    intro o v0 v1 v2 v3 g tm df w3 hw3 ho hv h8 h9 hdf
    subst hdf
    have q1 := heap_setCell_same w2 (w.heap.size + 1) 0 _ _ (.int .i64 v0) HR2.out.1
    have q2 := heap_setCell_same _ (w.heap.size + 1) 1 _ _ (.int .i64 v1) q1
    have q3 := heap_setCell_same _ (w.heap.size + 1) 2 _ _ (.int .i64 v2) q2
    have q4 := heap_setCell_same _ (w.heap.size + 1) 3 _ _ (.int .i64 v3) q3
    have hBf : Below w.heap.size w w3 := by rw [hw3]; exact below_setCells (b := w.heap.size + 1) (by omega) [.int .i64 v0, .int .i64 v1, .int .i64 v2, .int .i64 v3] 0 w2 HR2.out.2
    rw [← hw3] at q4
    have q5 : w3.heap[w.heap.size + 1]? = some (.cells #[.int .i64 v0, .int .i64 v1, .int .i64 v2, .int .i64 v3] 66 (0, 0)) := q4
    have d0 : w3.cell? ⟨w.heap.size + 1, 0, none⟩ = some (.int .i64 v0) := block_cell q5 (j := 0) (by simp)
    have d1 : w3.cell? ⟨w.heap.size + 1, 1, none⟩ = some (.int .i64 v1) := block_cell q5 (j := 1) (by simp)
    have d2 : w3.cell? ⟨w.heap.size + 1, 2, none⟩ = some (.int .i64 v2) := block_cell q5 (j := 2) (by simp)
    have d3 : w3.cell? ⟨w.heap.size + 1, 3, none⟩ = some (.int .i64 v3) := block_cell q5 (j := 3) (by simp)
    refine bodyPost_ret (v := .tuple #[.agg #[.int .i64 v0, .int .i64 v1, .int .i64 v2, .int .i64 v3], .bool g]) ?_ rfl ⟨by rw [ho, hv], hBf⟩
    rw [Array.getD_eq_getD_getElem?] at h8 h9
    simp [results, Try.results27, go_sem, h8, h9, d0, d1, d2, d3]
  have HEND := Lib.hid hend; clear hend
  by_cases hv : x = void
  · have he := HEE.out
    rw [if_pos (.inl hv)] at he
    have HVE := Lib.hid he; clear he
    have hv1 : x = 1000000000000 := hv
    clear hv
    subst hv1
    go_wp2_with fail
    exact HEND.out none 0 0 0 0 false _ _ _ rfl HVE.out rfl rfl rfl rfl
  · by_cases hu : y = void
    · have he := HEE.out
      rw [if_pos (.inr hu)] at he
      have HVE := Lib.hid he; clear he
      have hu1 : y = 1000000000000 := hu
      clear hu
      subst hu1
      have hx1 : (x == 1000000000000) = false := by simpa [void] using hv
      clear hv
      go_wp2_with fail
      exact HEND.out none 0 0 0 0 false _ _ _ rfl HVE.out rfl rfl rfl rfl
    · have he := HEE.out
      rw [if_neg (by simp only [not_or]; exact ⟨hv, hu⟩)] at he
      have hx1 : ¬ x = 1000000000000 := hv
      have hy1 : ¬ y = 1000000000000 := hu
      have hxb := HA.out.resolve_left hx1
      have hyb := HB.out.resolve_left hy1
      have hj := jump_le (d := y - x) (by omega)
      have hwb := wrp_bounds (y - x)
      have hx2 : (x == 1000000000000) = false := by simpa using hx1
      have hy2 : (y == 1000000000000) = false := by simpa using hy1
      obtain ⟨wv, hwv⟩ : ∃ wv, wv = wrp (y - x) := ⟨_, rfl⟩
      rw [← hwv] at hj hwb he
      have HWV := Lib.hid hwv; clear hwv
      have HVE := Lib.hid he; clear he hv hu hx1 hy1
      go_wp2_with fail
      refine (bWrapped_c (y - x) (by omega) _).mono ?_
      rintro e w' ⟨rfl, rfl⟩
      rw [← HWV.out]
      go_wp2_with fail
      exact HEND.out (some ⟨a, b, Int.tdiv (y - x - wv) 4096, k.toNat⟩) a b (Int.tdiv (y - x - wv) 4096) k true _ _ _ rfl HVE.out (by simp only [edgeV, edV, HKK.out]) rfl rfl rfl
end Go.Proofs.Ytjnpchoinncbnaa
end

section
set_option linter.unusedSimpArgs false
set_option linter.unusedVariables false
namespace Go.Fam
open RowKit
section
variable {P : Program} {ops : Array Oper} {o : Oper} {rest : List Oper} {i : Nat} {B : Nat} {w0 : World} {fin : (Nat → Bool) → Bool} {T : (Nat → Value) → Nat → World → Prop} {E : (Nat → Value) → World → Prop} {R : ((Nat → Value) → Act) → Prop} {A : (Nat → Value) → Act}
theorem gr_fixw (hG : GrT ops T) (hi : Ahead ops fin i) (hB : B ≤ w0.heap.size) (hg : o.guard = none) (v : Value) (hT : ∀ V w, T V i w)
    (hx : ∀ V w, Below B w0 w → upon P (fun u w' => u = v ∧ Below w.heap.size w w') ((execOp (A V).eval o).run P w))
    (h : wpRel P ops (GrC B w0 fin T E) R rest (i + 1) (fun V => (A V).put o.dst v)) : wpRel P ops (GrC B w0 fin T E) R (o :: rest) i A := by
  refine rel_fix hg v (fun V L w hL hw hc hC => ?_) h
  have hn := hi.1 L hL hc
  obtain ⟨h1, h2⟩ := hC.before hn
  refine upon_mono (fun u w' ⟨k1, k2⟩ => ⟨k1, ?_⟩) (hx V w h1)
  unfold GrC
  rw [hi.2, hn]
  simp only [Bool.false_eq_true, if_false]
  refine ⟨h1.trans (k2.mono (Nat.le_trans hB h1.size)), fun j hj => ?_⟩
  by_cases e : j = i
  · subst e; exact hT _ _
  · rw [upd_ne _ e] at hj
    exact hG.keep _ _ _ _ (h2 j hj) k2
end
end Go.Fam
namespace Go.Proofs.Ytjnpchoinncbnaa
open Go.RowKit Sw Fam
theorem ex_call4 {P : Program} {ρ : Operand → Value} {o : Oper} {w : World} (f : FuncId) (x y z u : Operand) (ts : Array TypeId) (ho : o.op = .call { callee := .value (.func f), args := #[x, y, z, u], argTypes := ts }) {a b c d : Value} (hx : ρ x = a) (hy : ρ y = b) (hz : ρ z = c) (hu : ρ u = d) (hf : ρ (.func f) = .func (.func f) #[] #[])
    (he : ∀ args w, (callFunc f args).run P w = .ok (.enter f args) w) : (execOp ρ o).run P w = .ok (.enter f #[a, b, c, d]) w := by
  unfold execOp
  simp only [ho, resolve, List.map_toArray, List.map_cons, List.map_nil, hx, hy, hz, hu, hf, Deferred.ofValue, Sem.run_bind, Sem.run_pure, Result.andThen_ok, invoke]
  simp [he]
def TE29 (B : Nat) (V : Nat → Value) : Nat → World → Prop
  | 29, w => ∃ b, V 29 = .pointer (some ⟨b, 0, none⟩) ∧ B ≤ b ∧ w.heap[b]? = some (.cells #[.int .i64 0, .int .i64 0, .int .i64 0, .int .i64 0] 66 (0, 0))
  | _, _ => True
theorem TE29_ok (B : Nat) {ops : Array Oper} : GrT ops (TE29 B) := by
  constructor
  · intro V j w w' h hb
    unfold TE29 at h ⊢
    split
    · obtain ⟨b, h1, h2, h3⟩ := h; exact ⟨b, h1, h2, (hb.block b (Array.getElem?_eq_some_iff.1 h3).1).trans h3⟩
    · trivial
  · intro L V w i u j hi hc hj h
    have hne : j ≠ i := fun e => by rw [← e, hj] at hi; cases hi
    unfold TE29 at h ⊢
    split
    · rw [setV_ne _ _ hne]; exact h
    · trivial
def TE28 (B : Nat) (V : Nat → Value) : Nat → World → Prop
  | 28, w => ∃ b, V 28 = .pointer (some ⟨b, 0, none⟩) ∧ B ≤ b ∧ w.heap[b]? = some (.cells #[.int .i64 0, .int .i64 0, .int .i64 0, .int .i64 0] 66 (0, 0))
  | _, _ => True
theorem TE28_ok (B : Nat) {ops : Array Oper} : GrT ops (TE28 B) := by
  constructor
  · intro V j w w' h hb
    unfold TE28 at h ⊢
    split
    · obtain ⟨b, h1, h2, h3⟩ := h; exact ⟨b, h1, h2, (hb.block b (Array.getElem?_eq_some_iff.1 h3).1).trans h3⟩
    · trivial
  · intro L V w i u j hi hc hj h
    have hne : j ≠ i := fun e => by rw [← e, hj] at hi; cases hi
    unfold TE28 at h ⊢
    split
    · rw [setV_ne _ _ hne]; exact h
    · trivial
def edcs : Option Ed → List Value
  | none => [.int .i64 0, .int .i64 0, .int .i64 0, .int .i64 0]
  | some e => encE e
theorem run_ext0 (o : Option Ed) (W : World) : (Instr.extract (edgeV o) 0).run Try.prog W = .ok (.agg (edcs o).toArray) W := by
  cases o <;> simp [Instr.extract, go_sem, edgeV, edcs, edV, encE]
theorem run_ext1 (o : Option Ed) (W : World) : (Instr.extract (edgeV o) 1).run Try.prog W = .ok (.bool o.isSome) W := by
  cases o <;> simp [Instr.extract, go_sem, edgeV]
theorem ex_ext0 {ρ : Operand → Value} {o : Oper} {w : World} (x : Operand) (q : Option Ed) (ho : o.op = .extract x 0) (hx : ρ x = edgeV q) : (execOp ρ o).run Try.prog w = .ok (.value (.agg (edcs q).toArray)) w := by
  unfold execOp
  simp only [ho, hx, Sem.run_bind, run_ext0, Result.andThen_ok, Sem.run_pure]
theorem ex_ext1 {ρ : Operand → Value} {o : Oper} {w : World} (x : Operand) (q : Option Ed) (ho : o.op = .extract x 1) (hx : ρ x = edgeV q) : (execOp ρ o).run Try.prog w = .ok (.value (.bool q.isSome)) w := by
  unfold execOp
  simp only [ho, hx, Sem.run_bind, run_ext1, Result.andThen_ok, Sem.run_pure]
theorem edcs_len (o : Option Ed) : (edcs o).length = 4 := by cases o <;> rfl
theorem ed_block {w0 : World} {b : Nat} {q : Option Ed} (h : w0.heap[b]? = some (.cells #[.int .i64 0, .int .i64 0, .int .i64 0, .int .i64 0] 66 (0, 0))) : (w0.setCells b 0 (edcs q)).heap[b]? = some (.cells (edcs q).toArray 66 (0, 0)) := by
  cases q with
  | none => exact heap_setCell_same _ b 3 _ _ _ (heap_setCell_same _ b 2 _ _ _ (heap_setCell_same _ b 1 _ _ _ (heap_setCell_same w0 b 0 _ _ (.int .i64 0) h)))
  | some e => exact heap_setCell_same _ b 3 _ _ _ (heap_setCell_same _ b 2 _ _ _ (heap_setCell_same _ b 1 _ _ _ (heap_setCell_same w0 b 0 _ _ (.int .i64 e.f) h)))
def BFr (T0 R0 M N : Nat) (l : List (Nat × Value)) : Act → Prop := FrD 119 [] ([(1, .pointer (some ⟨T0, 0, none⟩)), (2, .pointer (some ⟨R0, 0, none⟩)), (3, .pointer (some ⟨M, 0, none⟩)), (4, .pointer (some ⟨N, 0, none⟩))] ++ l)
set_option maxHeartbeats 4000000 in
set_option maxRecDepth 100000 in
theorem bnet_look9 {m T0 R0 M N r c R C : Nat} {ph ac dn : List Int} {P A D : Option Addr} {cp ca cd : Nat} {W : World} {Q : Exit → Act → World → Prop} {u0 u7 u8 u9 u10 u11 u12 u13 u14 u15 u16 u17 u18 u19 u20 u21 u22 u23 u24 u25 u26 u27 u28 u29 u30 u31 u32 u33 u34 u35 u36 u37 u38 u39 u40 u41 u42 u43 u44 u45 u46 u47 u48 u49 u50 u51 u52 u53 u54 u55 u56 u57 u58 u59 u60 u61 u62 u63 u64 u65 u66 u67 u68 u69 u70 u71 u72 u73 u74 u75 u76 u77 u78 u79 u80 u81 u82 u83 u84 u85 u86 u87 u88 u89 u90 u91 u92 u93 u94 u95 u96 u97 u98 u99 u100 u101 u102 u103 u104 u105 u106 u107 u108 u109 u110 u111 u112 u113 u114 u115 u116 u117 u118 : Value}
    (hn : RtN R C ph ac dn) (hr : r < R) (hc : c + 1 < C)
    (hM : W.heap[M]? = some (.cells #[.int .i64 R, .int .i64 C, .slice P ph.length cp] 24 (0, 0))) (hT : W.heap[T0]? = some (.cells #[.int .i64 R, .int .i64 C, .slice P ph.length cp, .slice A ac.length ca, .slice D dn.length cd] 26 (0, 0)))
    (hP : RdI W P ph) (hA : RdI W A ac)
    (hQ : ∀ a' w' b, Below W.heap.size W w' → W.heap.size ≤ b → w'.heap[b]? = some (.cells (edcs (edg ph (r * C + c, r * C + c + 1) (gi ac (r * (C - 1) + c)))).toArray 66 (0, 0)) →
      BFr T0 R0 M N [(5, .int .i64 r), (6, .int .i64 c), (7, .pointer (some ⟨b, 0, none⟩)), (8, .bool (edg ph (r * C + c, r * C + c + 1) (gi ac (r * (C - 1) + c))).isSome)] a' → Q .normal a' w') :
    Code.wpIn Fence.wide m Try.prog (Try.f8.sub [1, 1, 1, 0, 1, 0, 0, 1, 0, 0, 1, 0, 0, 1, 0, 0, 0]) Q ⟨#[u0, .pointer (some ⟨T0, 0, none⟩), .pointer (some ⟨R0, 0, none⟩), .pointer (some ⟨M, 0, none⟩), .pointer (some ⟨N, 0, none⟩), .int .i64 r, .int .i64 c, u7, u8, u9, u10, u11, u12, u13, u14, u15, u16, u17, u18, u19, u20, u21, u22, u23, u24, u25, u26, u27, u28, u29, u30, u31, u32, u33, u34, u35, u36, u37, u38, u39, u40, u41, u42, u43, u44, u45, u46, u47, u48, u49, u50, u51, u52, u53, u54, u55, u56, u57, u58, u59, u60, u61, u62, u63, u64, u65, u66, u67, u68, u69, u70, u71, u72, u73, u74, u75, u76, u77, u78, u79, u80, u81, u82, u83, u84, u85, u86, u87, u88, u89, u90, u91, u92, u93, u94, u95, u96, u97, u98, u99, u100, u101, u102, u103, u104, u105, u106, u107, u108, u109, u110, u111, u112, u113, u114, u115, u116, u117, u118], []⟩ W := by
  have hi1 : r * C + c + 1 < ph.length := by
    rw [hn.lp]
    have := Nat.mul_le_mul_right C (show r + 1 ≤ R from hr)
    rw [Nat.add_mul, Nat.one_mul] at this
    omega
  have hi2 : r * (C - 1) + c < ac.length := by
    rw [hn.la]
    have := Nat.mul_le_mul_right (C - 1) (show r + 1 ≤ R from hr)
    rw [Nat.add_mul, Nat.one_mul] at this
    omega
  obtain ⟨ab, ao, rfl, hac⟩ := hA _ hi2
  have hw := hn.wa _ hi2
  have hlp : ph.length ≤ 4096 := by rw [hn.lp]; have := hn.few; omega
  have hrb := hn.hR
  have hcb := hn.hC
  have hb1 : 0 ≤ (r : Int) * C ∧ (r : Int) * C ≤ 4096 := mul_64 (by omega) (by omega)
  have hb2 : 0 ≤ (r : Int) * ((C : Int) - 1) ∧ (r : Int) * ((C : Int) - 1) ≤ 4096 := mul_64 (by omega) (by omega)
  have he2 : (r : Int) * ((C : Int) - 1) + c = ((r * (C - 1) + c : Nat) : Int) := by
    rw [show ((C : Int) - 1) = ((C - 1 : Nat) : Int) by omega]; rfl
  generalize hkk : r * (C - 1) + c = k at *
  have hal : ac.length ≤ 4096 := by rw [hn.la]; have := Nat.mul_le_mul hn.hR.2 (show C - 1 ≤ 64 by omega); omega
  have m1 : W.cell? ⟨M, 1, none⟩ = some (.int .i64 C) := block_cell hM (j := 1) (by simp)
  have t3 : W.cell? ⟨T0, 3, none⟩ = some (.slice (some ⟨ab, ao, none⟩) ac.length ca) := block_cell hT (j := 3) (by simp)
  obtain ⟨x, hx⟩ : ∃ x, x = gi ac k := ⟨_, rfl⟩
  rw [← hx] at hac hw hQ
  clear hx
  obtain ⟨q, hq⟩ : ∃ q, q = edg ph (r * C + c, r * C + c + 1) x := ⟨_, rfl⟩
  rw [← hq] at hQ
  have HQ := Lib.hid hQ; clear hQ
  have Hq := Lib.hid hq; clear hq
  have HM := Lib.hid hM; clear hM hT
  have HP := Lib.hid hP; clear hP
  have HN := Lib.hid hn; clear hn hA
  have HE2 := Lib.hid he2; clear he2
  conv => arg 4; whnf
  refine regionIn_rel (.inl rfl) (by kernel_rfl) (by kernel_rfl) (by kernel_rfl) (GrC W.heap.size W (fun L => L 30) (TE29 W.heap.size) (fun V w' => ∃ w0 b, V 29 = .pointer (some ⟨b, 0, none⟩) ∧ W.heap.size ≤ b ∧ Below W.heap.size W w0 ∧ w0.heap[b]? = some (.cells #[.int .i64 0, .int .i64 0, .int .i64 0, .int .i64 0] 66 (0, 0)) ∧ w' = w0.setCells b 0 (edcs q))) (GrC.start rfl (Below.refl _ _).drew) ?_
  refine relk_val rfl (.agg #[.int .i64 R, .int .i64 C, .slice P ph.length cp]) (by (first | (exact fun _ _ _ h => GrC.up (fun L => upd_ne _ (by decide)) (fun _ _ => trivial) h) | (exact fun _ _ _ h => GrC.up (fun L => rfl) (fun _ _ => trivial) h) | (exact fun _ _ _ h => Lst.up (by decide) h) | (exact fun _ _ _ h => h))) (fun V L w' h1 h2 h3 hC => ex_loadN 24 _ rfl M 0 rfl [.int .i64 R, .int .i64 C, .slice P ph.length cp] _ (fun j v hj => by
    have hD := (hC.before ((ahead_last (by kernel_rfl)).1 L h1 h3)).1
    have hb := (hD.block _ (Array.getElem?_eq_some_iff.1 HM.out).1).trans HM.out
    obtain ⟨j1, j2⟩ := List.getElem?_eq_some_iff.1 hj
    rw [Nat.zero_add, block_cell hb (j := j) (by simpa using j1)]
    simp [← j2]) Try.underlying24 rfl (by kernel_rfl)) (fun K hK => ?_)
  simp only [Act.put, List.setIfInBounds_toArray, List.set_cons_succ, List.set_cons_zero]
  refine hK _ ?_
  clear hK K
  (repeat (first | (refine relq rfl rfl (by (first | (exact fun _ _ _ h => GrC.up (fun L => upd_ne _ (by decide)) (fun _ _ => trivial) h) | (exact fun _ _ _ h => GrC.up (fun L => rfl) (fun _ _ => trivial) h) | (exact fun _ _ _ h => Lst.up (by decide) h) | (exact fun _ _ _ h => h))) (fun K hK => ?_); go_big_quiet_op; (refine hK _ ?_; clear hK K)) | (refine relk_nil rfl _ rfl _ rfl (by (first | (exact fun _ _ _ h => GrC.up (fun L => upd_ne _ (by decide)) (fun _ _ => trivial) h) | (exact fun _ _ _ h => GrC.up (fun L => rfl) (fun _ _ => trivial) h) | (exact fun _ _ _ h => Lst.up (by decide) h) | (exact fun _ _ _ h => h))) (fun K hK => ?_); simp only [Act.put, List.setIfInBounds_toArray, List.set_cons_succ, List.set_cons_zero]; (refine hK _ ?_; clear hK K))))
  (refine relk_val rfl _ (by (first | (exact fun _ _ _ h => GrC.up (fun L => upd_ne _ (by decide)) (fun _ _ => trivial) h) | (exact fun _ _ _ h => GrC.up (fun L => rfl) (fun _ _ => trivial) h) | (exact fun _ _ _ h => Lst.up (by decide) h) | (exact fun _ _ _ h => h))) (fun V L w' h1 h2 h3 hC => ex_load1 _ _ rfl _ rfl (cellB (hC.before ((ahead_last (by kernel_rfl)).1 L h1 h3)).1 m1) _ Try.underlying3 rfl) (fun K hK => ?_); simp only [Act.put, List.setIfInBounds_toArray, List.set_cons_succ, List.set_cons_zero]; (refine hK _ ?_; clear hK K); (repeat (first | (refine relq rfl rfl (by (first | (exact fun _ _ _ h => GrC.up (fun L => upd_ne _ (by decide)) (fun _ _ => trivial) h) | (exact fun _ _ _ h => GrC.up (fun L => rfl) (fun _ _ => trivial) h) | (exact fun _ _ _ h => Lst.up (by decide) h) | (exact fun _ _ _ h => h))) (fun K hK => ?_); go_big_quiet_op; (refine hK _ ?_; clear hK K)) | (refine relk_nil rfl _ rfl _ rfl (by (first | (exact fun _ _ _ h => GrC.up (fun L => upd_ne _ (by decide)) (fun _ _ => trivial) h) | (exact fun _ _ _ h => GrC.up (fun L => rfl) (fun _ _ => trivial) h) | (exact fun _ _ _ h => Lst.up (by decide) h) | (exact fun _ _ _ h => h))) (fun K hK => ?_); simp only [Act.put, List.setIfInBounds_toArray, List.set_cons_succ, List.set_cons_zero]; (refine hK _ ?_; clear hK K)))))
  (refine relk_val rfl _ (by (first | (exact fun _ _ _ h => GrC.up (fun L => upd_ne _ (by decide)) (fun _ _ => trivial) h) | (exact fun _ _ _ h => GrC.up (fun L => rfl) (fun _ _ => trivial) h) | (exact fun _ _ _ h => Lst.up (by decide) h) | (exact fun _ _ _ h => h))) (fun V L w' h1 h2 h3 hC => ex_load1 _ _ rfl _ rfl (cellB (hC.before ((ahead_last (by kernel_rfl)).1 L h1 h3)).1 m1) _ Try.underlying3 rfl) (fun K hK => ?_); simp only [Act.put, List.setIfInBounds_toArray, List.set_cons_succ, List.set_cons_zero]; (refine hK _ ?_; clear hK K); (repeat (first | (refine relq rfl rfl (by (first | (exact fun _ _ _ h => GrC.up (fun L => upd_ne _ (by decide)) (fun _ _ => trivial) h) | (exact fun _ _ _ h => GrC.up (fun L => rfl) (fun _ _ => trivial) h) | (exact fun _ _ _ h => Lst.up (by decide) h) | (exact fun _ _ _ h => h))) (fun K hK => ?_); go_big_quiet_op; (refine hK _ ?_; clear hK K)) | (refine relk_nil rfl _ rfl _ rfl (by (first | (exact fun _ _ _ h => GrC.up (fun L => upd_ne _ (by decide)) (fun _ _ => trivial) h) | (exact fun _ _ _ h => GrC.up (fun L => rfl) (fun _ _ => trivial) h) | (exact fun _ _ _ h => Lst.up (by decide) h) | (exact fun _ _ _ h => h))) (fun K hK => ?_); simp only [Act.put, List.setIfInBounds_toArray, List.set_cons_succ, List.set_cons_zero]; (refine hK _ ?_; clear hK K)))))
  (refine relk_val rfl _ (by (first | (exact fun _ _ _ h => GrC.up (fun L => upd_ne _ (by decide)) (fun _ _ => trivial) h) | (exact fun _ _ _ h => GrC.up (fun L => rfl) (fun _ _ => trivial) h) | (exact fun _ _ _ h => Lst.up (by decide) h) | (exact fun _ _ _ h => h))) (fun V L w' h1 h2 h3 hC => ex_load1 _ _ rfl _ rfl (cellB (hC.before ((ahead_last (by kernel_rfl)).1 L h1 h3)).1 t3) _ Try.underlying22 rfl) (fun K hK => ?_); simp only [Act.put, List.setIfInBounds_toArray, List.set_cons_succ, List.set_cons_zero]; (refine hK _ ?_; clear hK K); (repeat (first | (refine relq rfl rfl (by (first | (exact fun _ _ _ h => GrC.up (fun L => upd_ne _ (by decide)) (fun _ _ => trivial) h) | (exact fun _ _ _ h => GrC.up (fun L => rfl) (fun _ _ => trivial) h) | (exact fun _ _ _ h => Lst.up (by decide) h) | (exact fun _ _ _ h => h))) (fun K hK => ?_); go_big_quiet_op; (refine hK _ ?_; clear hK K)) | (refine relk_nil rfl _ rfl _ rfl (by (first | (exact fun _ _ _ h => GrC.up (fun L => upd_ne _ (by decide)) (fun _ _ => trivial) h) | (exact fun _ _ _ h => GrC.up (fun L => rfl) (fun _ _ => trivial) h) | (exact fun _ _ _ h => Lst.up (by decide) h) | (exact fun _ _ _ h => h))) (fun K hK => ?_); simp only [Act.put, List.setIfInBounds_toArray, List.set_cons_succ, List.set_cons_zero]; (refine hK _ ?_; clear hK K)))))
  (refine relk_val rfl _ (by (first | (exact fun _ _ _ h => GrC.up (fun L => upd_ne _ (by decide)) (fun _ _ => trivial) h) | (exact fun _ _ _ h => GrC.up (fun L => rfl) (fun _ _ => trivial) h) | (exact fun _ _ _ h => Lst.up (by decide) h) | (exact fun _ _ _ h => h))) (fun V L w' h1 h2 h3 hC => ex_load1 _ _ rfl _ rfl (cellB (hC.before ((ahead_last (by kernel_rfl)).1 L h1 h3)).1 m1) _ Try.underlying3 rfl) (fun K hK => ?_); simp only [Act.put, List.setIfInBounds_toArray, List.set_cons_succ, List.set_cons_zero]; (refine hK _ ?_; clear hK K); (repeat (first | (refine relq rfl rfl (by (first | (exact fun _ _ _ h => GrC.up (fun L => upd_ne _ (by decide)) (fun _ _ => trivial) h) | (exact fun _ _ _ h => GrC.up (fun L => rfl) (fun _ _ => trivial) h) | (exact fun _ _ _ h => Lst.up (by decide) h) | (exact fun _ _ _ h => h))) (fun K hK => ?_); go_big_quiet_op; (refine hK _ ?_; clear hK K)) | (refine relk_nil rfl _ rfl _ rfl (by (first | (exact fun _ _ _ h => GrC.up (fun L => upd_ne _ (by decide)) (fun _ _ => trivial) h) | (exact fun _ _ _ h => GrC.up (fun L => rfl) (fun _ _ => trivial) h) | (exact fun _ _ _ h => Lst.up (by decide) h) | (exact fun _ _ _ h => h))) (fun K hK => ?_); simp only [Act.put, List.setIfInBounds_toArray, List.set_cons_succ, List.set_cons_zero]; (refine hK _ ?_; clear hK K)))))
  rw [HE2.out]
  (repeat (first | (refine relq rfl rfl (by (first | (exact fun _ _ _ h => GrC.up (fun L => upd_ne _ (by decide)) (fun _ _ => trivial) h) | (exact fun _ _ _ h => GrC.up (fun L => rfl) (fun _ _ => trivial) h) | (exact fun _ _ _ h => Lst.up (by decide) h) | (exact fun _ _ _ h => h))) (fun K hK => ?_); go_big_quiet_op; (refine hK _ ?_; clear hK K)) | (refine relk_nil rfl _ rfl _ rfl (by (first | (exact fun _ _ _ h => GrC.up (fun L => upd_ne _ (by decide)) (fun _ _ => trivial) h) | (exact fun _ _ _ h => GrC.up (fun L => rfl) (fun _ _ => trivial) h) | (exact fun _ _ _ h => Lst.up (by decide) h) | (exact fun _ _ _ h => h))) (fun K hK => ?_); simp only [Act.put, List.setIfInBounds_toArray, List.set_cons_succ, List.set_cons_zero]; (refine hK _ ?_; clear hK K))))
  (refine relk_val rfl _ (by (first | (exact fun _ _ _ h => GrC.up (fun L => upd_ne _ (by decide)) (fun _ _ => trivial) h) | (exact fun _ _ _ h => GrC.up (fun L => rfl) (fun _ _ => trivial) h) | (exact fun _ _ _ h => Lst.up (by decide) h) | (exact fun _ _ _ h => h))) (fun V L w' h1 h2 h3 hC => ex_load1 _ _ rfl _ rfl (cellB (hC.before ((ahead_last (by kernel_rfl)).1 L h1 h3)).1 hac) _ Try.underlying3 rfl) (fun K hK => ?_); simp only [Act.put, List.setIfInBounds_toArray, List.set_cons_succ, List.set_cons_zero]; (refine hK _ ?_; clear hK K); (repeat (first | (refine relq rfl rfl (by (first | (exact fun _ _ _ h => GrC.up (fun L => upd_ne _ (by decide)) (fun _ _ => trivial) h) | (exact fun _ _ _ h => GrC.up (fun L => rfl) (fun _ _ => trivial) h) | (exact fun _ _ _ h => Lst.up (by decide) h) | (exact fun _ _ _ h => h))) (fun K hK => ?_); go_big_quiet_op; (refine hK _ ?_; clear hK K)) | (refine relk_nil rfl _ rfl _ rfl (by (first | (exact fun _ _ _ h => GrC.up (fun L => upd_ne _ (by decide)) (fun _ _ => trivial) h) | (exact fun _ _ _ h => GrC.up (fun L => rfl) (fun _ _ => trivial) h) | (exact fun _ _ _ h => Lst.up (by decide) h) | (exact fun _ _ _ h => h))) (fun K hK => ?_); simp only [Act.put, List.setIfInBounds_toArray, List.set_cons_succ, List.set_cons_zero]; (refine hK _ ?_; clear hK K)))))
  refine gr_fixw (TE29_ok _) (ahead_last (by kernel_rfl)) (Nat.le_refl _) rfl (edgeV q) (fun _ _ => trivial) (fun V wx hB => ?_) ?_
  · rw [ex_call4 27 (.tmp 35) (.tmp 41) (.tmp 48) (.tmp 59) _ rfl rfl rfl rfl rfl rfl (enters_fn Try.func27 (by kernel_rfl) rfl)]
    refine (edge_c (a := r * C + c) (b := r * C + c + 1) (k := x) (HP.out.keep hB) HN.out.ph hlp (by omega) hi1 hw).mono ?_
    rintro e w' ⟨rfl, hb⟩
    exact ⟨_, rfl, by rw [Hq.out], hb⟩
  simp only [Act.put, List.setIfInBounds_toArray, List.set_cons_succ, List.set_cons_zero]
  (refine gr_fix (ahead_last (by kernel_rfl)) rfl (edgeV q) (fun _ _ => trivial) (fun V w hB => by unfold execOp; go_simp) ?_; simp only [Act.put, List.setIfInBounds_toArray, List.set_cons_succ, List.set_cons_zero])
  refine gr_fix (ahead_last (by kernel_rfl)) rfl (.agg (edcs q).toArray) (fun _ _ => trivial) (fun V w hB => ex_ext0 _ q rfl rfl) ?_
  simp only [Act.put, List.setIfInBounds_toArray, List.set_cons_succ, List.set_cons_zero]
  refine rel_val rfl (.bool q.isSome) (fun L V w h => GrC.up (fun L => upd_ne _ (by decide)) (fun _ _ => trivial) h) (fun V L w h1 h2 h3 hC => ex_ext1 _ q rfl rfl) ?_
  simp only [Act.put, List.setIfInBounds_toArray, List.set_cons_succ, List.set_cons_zero]
  refine gr_free (TE29_ok _) (ahead_last (by kernel_rfl)) (Nat.le_refl _) rfl (fun V L wx hB _ _ => ?_) ?_
  · rw [ex_alloc 66 rfl (z := .agg #[.int .i64 0, .int .i64 0, .int .i64 0, .int .i64 0]) (by kernel_rfl)]
    exact ⟨(Below.refl _ _).alloc (Nat.le_refl _) _, fun V' _ h => ⟨wx.heap.size, h, hB.size, heap_alloc_new wx _⟩⟩
  simp only [Act.put, List.setIfInBounds_toArray, List.set_cons_succ, List.set_cons_zero]
  refine rel_fix rfl undef (fun V L wx h1 h2 h3 hC => ?_) ?_
  · obtain ⟨hB, hT⟩ := hC.before h1
    obtain ⟨b, k1, k2, k3⟩ := hT 29 (waits_at h2 (by kernel_rfl))
    rw [ex_storeN 66 _ _ rfl b 0 (edcs q).toArray k1 rfl (block_there k3 (by simp [edcs_len])) (by cases q <;> kernel_rfl) (by cases q <;> simp [edcs, encE, Value.oneCell'])]
    refine ⟨rfl, (show GrC _ _ _ _ _ (upd L 30) V _ from ?_)⟩
    unfold GrC
    rw [if_pos (upd_same L 30)]
    exact ⟨wx, b, k1, k2, hB, k3, by simp⟩
  simp only [Act.put, List.setIfInBounds_toArray, List.set_cons_succ, List.set_cons_zero]
  refine rel_val rfl (.bool q.isSome) (fun L V w h => GrC.up (fun L => upd_ne _ (by decide)) (fun _ _ => trivial) h) (fun V L w h1 h2 h3 hC => by unfold execOp; go_simp) ?_
  simp only [Act.put, List.setIfInBounds_toArray, List.set_cons_succ, List.set_cons_zero]
  intro V L w' hL hC
  unfold GrC at hC
  rw [if_pos (hL 30 (by decide))] at hC
  obtain ⟨w0, b, h1, h2, h3, h4, rfl⟩ := hC
  have e29 : V (0 + 1 + 1 + 1 + 1 + 1 + 1 + 1 + 1 + 1 + 1 + 1 + 1 + 1 + 1 + 1 + 1 + 1 + 1 + 1 + 1 + 1 + 1 + 1 + 1 + 1 + 1 + 1 + 1 + 1) = .pointer (some ⟨b, 0, none⟩) := h1
  refine HQ.out _ _ b (below_setCells h2 _ _ _ h3) h2 (ed_block h4) ⟨rfl, rfl, rfl, rfl, rfl, rfl, rfl, rfl, e29, rfl, trivial⟩
end Go.Proofs.Ytjnpchoinncbnaa
end
