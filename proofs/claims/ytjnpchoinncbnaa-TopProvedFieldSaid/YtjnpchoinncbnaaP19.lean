/- Proves parts of the statement, each under the conditions that its theorem states: The reference's net of a field: one edge looked at, downward; The reference's net of a field: an edge put behind; the loops; The reference's net of a field: the loops; The reference's net of a field: the contract. -/
import Derived.Test.YtjnpchoinncbnaaP18
section
set_option linter.unusedSimpArgs false
set_option linter.unusedVariables false
namespace Go.Proofs.Ytjnpchoinncbnaa
open Go.RowKit Sw Fam
set_option maxHeartbeats 4000000 in
set_option maxRecDepth 100000 in
theorem bnet_look18 {m T0 R0 M N r c R C : Nat} {ph ac dn : List Int} {P A D : Option Addr} {cp ca cd : Nat} {W : World} {Q : Exit → Act → World → Prop} {u0 u5 u6 u7 u8 u11 u12 u13 u14 u15 u16 u17 u18 u19 u20 u21 u22 u23 u24 u25 u26 u27 u28 u29 u30 u31 u32 u33 u34 u35 u36 u37 u38 u39 u40 u41 u42 u43 u44 u45 u46 u47 u48 u49 u50 u51 u52 u53 u54 u55 u56 u57 u58 u59 u60 u61 u62 u63 u64 u65 u66 u67 u68 u69 u70 u71 u72 u73 u74 u75 u76 u77 u78 u79 u80 u81 u82 u83 u84 u85 u86 u87 u88 u89 u90 u91 u92 u93 u94 u95 u96 u97 u98 u99 u100 u101 u102 u103 u104 u105 u106 u107 u108 u109 u110 u111 u112 u113 u114 u115 u116 u117 u118 : Value}
    (hn : RtN R C ph ac dn) (hr : r + 1 < R) (hc : c < C)
    (hM : W.heap[M]? = some (.cells #[.int .i64 R, .int .i64 C, .slice P ph.length cp] 24 (0, 0))) (hT : W.heap[T0]? = some (.cells #[.int .i64 R, .int .i64 C, .slice P ph.length cp, .slice A ac.length ca, .slice D dn.length cd] 26 (0, 0)))
    (hP : RdI W P ph) (hA : RdI W D dn)
    (hQ : ∀ a' w' b, Below W.heap.size W w' → W.heap.size ≤ b → w'.heap[b]? = some (.cells (edcs (edg ph (r * C + c, (r + 1) * C + c) (gi dn (r * C + c)))).toArray 66 (0, 0)) →
      BFr T0 R0 M N [(9, .int .i64 r), (10, .int .i64 c), (11, .pointer (some ⟨b, 0, none⟩)), (12, .bool (edg ph (r * C + c, (r + 1) * C + c) (gi dn (r * C + c))).isSome)] a' → Q .normal a' w') :
    Code.wpIn Fence.wide m Try.prog (Try.f8.sub [1, 1, 1, 1, 0, 1, 0, 0, 1, 0, 0, 1, 0, 0, 1, 0, 0, 0]) Q ⟨#[u0, .pointer (some ⟨T0, 0, none⟩), .pointer (some ⟨R0, 0, none⟩), .pointer (some ⟨M, 0, none⟩), .pointer (some ⟨N, 0, none⟩), u5, u6, u7, u8, .int .i64 r, .int .i64 c, u11, u12, u13, u14, u15, u16, u17, u18, u19, u20, u21, u22, u23, u24, u25, u26, u27, u28, u29, u30, u31, u32, u33, u34, u35, u36, u37, u38, u39, u40, u41, u42, u43, u44, u45, u46, u47, u48, u49, u50, u51, u52, u53, u54, u55, u56, u57, u58, u59, u60, u61, u62, u63, u64, u65, u66, u67, u68, u69, u70, u71, u72, u73, u74, u75, u76, u77, u78, u79, u80, u81, u82, u83, u84, u85, u86, u87, u88, u89, u90, u91, u92, u93, u94, u95, u96, u97, u98, u99, u100, u101, u102, u103, u104, u105, u106, u107, u108, u109, u110, u111, u112, u113, u114, u115, u116, u117, u118], []⟩ W := by
  have hi1 : (r + 1) * C + c < ph.length := by
    rw [hn.lp]
    have := Nat.mul_le_mul_right C (show r + 1 + 1 ≤ R from hr)
    rw [Nat.add_mul _ 1, Nat.one_mul] at this
    omega
  have hi0 : r * C + c < ph.length := by
    rw [Nat.add_mul, Nat.one_mul] at hi1
    omega
  have hi2 : r * C + c < dn.length := by
    rw [hn.ld]
    have := Nat.mul_le_mul_right C (show r + 1 ≤ R - 1 by omega)
    rw [Nat.add_mul, Nat.one_mul] at this
    omega
  obtain ⟨ab, ao, rfl, hac⟩ := hA _ hi2
  have hw := hn.wd _ hi2
  have hlp : ph.length ≤ 4096 := by rw [hn.lp]; have := hn.few; omega
  have hrb := hn.hR
  have hcb := hn.hC
  have hb1 : 0 ≤ (r : Int) * C ∧ (r : Int) * C ≤ 4096 := mul_64 (by omega) (by omega)
  have hb2 : 0 ≤ ((r : Int) + 1) * (C : Int) ∧ ((r : Int) + 1) * (C : Int) ≤ 4096 := mul_64 (by omega) (by omega)
  have he2 : (r : Int) * (C : Int) + c = ((r * C + c : Nat) : Int) := rfl
  obtain ⟨k, hkk⟩ : ∃ k, k = r * C + c := ⟨_, rfl⟩
  have HKK := Lib.hid hkk
  rw [← hkk] at hac hw hQ hi2
  have he3 : (r : Int) * (C : Int) + c = (k : Int) := by rw [he2, hkk]
  clear he2 hkk
  have hal : dn.length ≤ 4096 := by rw [hn.ld]; have := Nat.mul_le_mul (show R - 1 ≤ 64 by omega) hn.hC.2; omega
  have m1 : W.cell? ⟨M, 1, none⟩ = some (.int .i64 C) := block_cell hM (j := 1) (by simp)
  have t3 : W.cell? ⟨T0, 4, none⟩ = some (.slice (some ⟨ab, ao, none⟩) dn.length cd) := block_cell hT (j := 4) (by simp)
  obtain ⟨x, hx⟩ : ∃ x, x = gi dn k := ⟨_, rfl⟩
  rw [← hx] at hac hw hQ
  clear hx
  obtain ⟨q, hq⟩ : ∃ q, q = edg ph (r * C + c, (r + 1) * C + c) x := ⟨_, rfl⟩
  rw [HKK.out] at hQ
  rw [← hq] at hQ
  have HQ := Lib.hid hQ; clear hQ
  have Hq := Lib.hid hq; clear hq
  have HM := Lib.hid hM; clear hM hT
  have HP := Lib.hid hP; clear hP
  have HN := Lib.hid hn; clear hn hA
  have HE2 := Lib.hid he3; clear he3
  conv => arg 4; whnf
  refine regionIn_rel (.inl rfl) (by kernel_rfl) (by kernel_rfl) (by kernel_rfl) (GrC W.heap.size W (fun L => L 29) (TE28 W.heap.size) (fun V w' => ∃ w0 b, V 28 = .pointer (some ⟨b, 0, none⟩) ∧ W.heap.size ≤ b ∧ Below W.heap.size W w0 ∧ w0.heap[b]? = some (.cells #[.int .i64 0, .int .i64 0, .int .i64 0, .int .i64 0] 66 (0, 0)) ∧ w' = w0.setCells b 0 (edcs q))) (GrC.start rfl (Below.refl _ _).drew) ?_
  refine relk_val rfl (.agg #[.int .i64 R, .int .i64 C, .slice P ph.length cp]) (by (first | (exact fun _ _ _ h => GrC.up (fun L => upd_ne _ (by decide)) (fun _ _ => trivial) h) | (exact fun _ _ _ h => GrC.up (fun L => rfl) (fun _ _ => trivial) h) | (exact fun _ _ _ h => Lst.up (by decide) h) | (exact fun _ _ _ h => h))) (fun V L w' h1 h2 h3 hC => ex_loadN 24 _ rfl M 0 rfl [.int .i64 R, .int .i64 C, .slice P ph.length cp] _ (fun j v hj => by
    have hD := (hC.before ((ahead_last (by kernel_rfl)).1 L h1 h3)).1
    have hb := (hD.block _ (Array.getElem?_eq_some_iff.1 HM.out).1).trans HM.out
    obtain ⟨j1, j2⟩ := List.getElem?_eq_some_iff.1 hj
    rw [Nat.zero_add, block_cell hb (j := j) (by simpa using j1)]
    simp [← j2]) Try.underlying24 rfl (by kernel_rfl)) (fun K hK => ?_)
  simp only [Act.put, List.setIfInBounds_toArray, List.set_cons_succ, List.set_cons_zero]
  refine hK _ ?_
  clear hK K
  (repeat (first | (refine relq rfl rfl (by (first | (exact fun _ _ _ h => GrC.up (fun L => upd_ne _ (by decide)) (fun _ _ => trivial) h) | (exact fun _ _ _ h => GrC.up (fun L => rfl) (fun _ _ => trivial) h) | (exact fun _ _ _ h => Lst.up (by decide) h) | (exact fun _ _ _ h => h))) (fun K hK => ?_); go_big_quiet_op; (refine hK _ ?_; clear hK K)) | (refine relk_nil rfl _ rfl _ rfl (by (first | (exact fun _ _ _ h => GrC.up (fun L => upd_ne _ (by decide)) (fun _ _ => trivial) h) | (exact fun _ _ _ h => GrC.up (fun L => rfl) (fun _ _ => trivial) h) | (exact fun _ _ _ h => Lst.up (by decide) h) | (exact fun _ _ _ h => h))) (fun K hK => ?_); simp only [Act.put, List.setIfInBounds_toArray, List.set_cons_succ, List.set_cons_zero]; (refine hK _ ?_; clear hK K))))
  (refine relk_val rfl _ (by (first | (exact fun _ _ _ h => GrC.up (fun L => upd_ne _ (by decide)) (fun _ _ => trivial) h) | (exact fun _ _ _ h => GrC.up (fun L => rfl) (fun _ _ => trivial) h) | (exact fun _ _ _ h => Lst.up (by decide) h) | (exact fun _ _ _ h => h))) (fun V L w' h1 h2 h3 hC => ex_load1 _ _ rfl _ rfl (cellB (hC.before ((ahead_last (by kernel_rfl)).1 L h1 h3)).1 m1) _ Try.underlying3 rfl) (fun K hK => ?_); simp only [Act.put, List.setIfInBounds_toArray, List.set_cons_succ, List.set_cons_zero]; (refine hK _ ?_; clear hK K); (repeat (first | (refine relq rfl rfl (by (first | (exact fun _ _ _ h => GrC.up (fun L => upd_ne _ (by decide)) (fun _ _ => trivial) h) | (exact fun _ _ _ h => GrC.up (fun L => rfl) (fun _ _ => trivial) h) | (exact fun _ _ _ h => Lst.up (by decide) h) | (exact fun _ _ _ h => h))) (fun K hK => ?_); go_big_quiet_op; (refine hK _ ?_; clear hK K)) | (refine relk_nil rfl _ rfl _ rfl (by (first | (exact fun _ _ _ h => GrC.up (fun L => upd_ne _ (by decide)) (fun _ _ => trivial) h) | (exact fun _ _ _ h => GrC.up (fun L => rfl) (fun _ _ => trivial) h) | (exact fun _ _ _ h => Lst.up (by decide) h) | (exact fun _ _ _ h => h))) (fun K hK => ?_); simp only [Act.put, List.setIfInBounds_toArray, List.set_cons_succ, List.set_cons_zero]; (refine hK _ ?_; clear hK K)))))
  (refine relk_val rfl _ (by (first | (exact fun _ _ _ h => GrC.up (fun L => upd_ne _ (by decide)) (fun _ _ => trivial) h) | (exact fun _ _ _ h => GrC.up (fun L => rfl) (fun _ _ => trivial) h) | (exact fun _ _ _ h => Lst.up (by decide) h) | (exact fun _ _ _ h => h))) (fun V L w' h1 h2 h3 hC => ex_load1 _ _ rfl _ rfl (cellB (hC.before ((ahead_last (by kernel_rfl)).1 L h1 h3)).1 m1) _ Try.underlying3 rfl) (fun K hK => ?_); simp only [Act.put, List.setIfInBounds_toArray, List.set_cons_succ, List.set_cons_zero]; (refine hK _ ?_; clear hK K); (repeat (first | (refine relq rfl rfl (by (first | (exact fun _ _ _ h => GrC.up (fun L => upd_ne _ (by decide)) (fun _ _ => trivial) h) | (exact fun _ _ _ h => GrC.up (fun L => rfl) (fun _ _ => trivial) h) | (exact fun _ _ _ h => Lst.up (by decide) h) | (exact fun _ _ _ h => h))) (fun K hK => ?_); go_big_quiet_op; (refine hK _ ?_; clear hK K)) | (refine relk_nil rfl _ rfl _ rfl (by (first | (exact fun _ _ _ h => GrC.up (fun L => upd_ne _ (by decide)) (fun _ _ => trivial) h) | (exact fun _ _ _ h => GrC.up (fun L => rfl) (fun _ _ => trivial) h) | (exact fun _ _ _ h => Lst.up (by decide) h) | (exact fun _ _ _ h => h))) (fun K hK => ?_); simp only [Act.put, List.setIfInBounds_toArray, List.set_cons_succ, List.set_cons_zero]; (refine hK _ ?_; clear hK K)))))
  (refine relk_val rfl _ (by (first | (exact fun _ _ _ h => GrC.up (fun L => upd_ne _ (by decide)) (fun _ _ => trivial) h) | (exact fun _ _ _ h => GrC.up (fun L => rfl) (fun _ _ => trivial) h) | (exact fun _ _ _ h => Lst.up (by decide) h) | (exact fun _ _ _ h => h))) (fun V L w' h1 h2 h3 hC => ex_load1 _ _ rfl _ rfl (cellB (hC.before ((ahead_last (by kernel_rfl)).1 L h1 h3)).1 t3) _ Try.underlying22 rfl) (fun K hK => ?_); simp only [Act.put, List.setIfInBounds_toArray, List.set_cons_succ, List.set_cons_zero]; (refine hK _ ?_; clear hK K); (repeat (first | (refine relq rfl rfl (by (first | (exact fun _ _ _ h => GrC.up (fun L => upd_ne _ (by decide)) (fun _ _ => trivial) h) | (exact fun _ _ _ h => GrC.up (fun L => rfl) (fun _ _ => trivial) h) | (exact fun _ _ _ h => Lst.up (by decide) h) | (exact fun _ _ _ h => h))) (fun K hK => ?_); go_big_quiet_op; (refine hK _ ?_; clear hK K)) | (refine relk_nil rfl _ rfl _ rfl (by (first | (exact fun _ _ _ h => GrC.up (fun L => upd_ne _ (by decide)) (fun _ _ => trivial) h) | (exact fun _ _ _ h => GrC.up (fun L => rfl) (fun _ _ => trivial) h) | (exact fun _ _ _ h => Lst.up (by decide) h) | (exact fun _ _ _ h => h))) (fun K hK => ?_); simp only [Act.put, List.setIfInBounds_toArray, List.set_cons_succ, List.set_cons_zero]; (refine hK _ ?_; clear hK K)))))
  (refine relk_val rfl _ (by (first | (exact fun _ _ _ h => GrC.up (fun L => upd_ne _ (by decide)) (fun _ _ => trivial) h) | (exact fun _ _ _ h => GrC.up (fun L => rfl) (fun _ _ => trivial) h) | (exact fun _ _ _ h => Lst.up (by decide) h) | (exact fun _ _ _ h => h))) (fun V L w' h1 h2 h3 hC => ex_load1 _ _ rfl _ rfl (cellB (hC.before ((ahead_last (by kernel_rfl)).1 L h1 h3)).1 m1) _ Try.underlying3 rfl) (fun K hK => ?_); simp only [Act.put, List.setIfInBounds_toArray, List.set_cons_succ, List.set_cons_zero]; (refine hK _ ?_; clear hK K); (repeat (first | (refine relq rfl rfl (by (first | (exact fun _ _ _ h => GrC.up (fun L => upd_ne _ (by decide)) (fun _ _ => trivial) h) | (exact fun _ _ _ h => GrC.up (fun L => rfl) (fun _ _ => trivial) h) | (exact fun _ _ _ h => Lst.up (by decide) h) | (exact fun _ _ _ h => h))) (fun K hK => ?_); go_big_quiet_op; (refine hK _ ?_; clear hK K)) | (refine relk_nil rfl _ rfl _ rfl (by (first | (exact fun _ _ _ h => GrC.up (fun L => upd_ne _ (by decide)) (fun _ _ => trivial) h) | (exact fun _ _ _ h => GrC.up (fun L => rfl) (fun _ _ => trivial) h) | (exact fun _ _ _ h => Lst.up (by decide) h) | (exact fun _ _ _ h => h))) (fun K hK => ?_); simp only [Act.put, List.setIfInBounds_toArray, List.set_cons_succ, List.set_cons_zero]; (refine hK _ ?_; clear hK K)))))
  rw [HE2.out]
  (repeat (first | (refine relq rfl rfl (by (first | (exact fun _ _ _ h => GrC.up (fun L => upd_ne _ (by decide)) (fun _ _ => trivial) h) | (exact fun _ _ _ h => GrC.up (fun L => rfl) (fun _ _ => trivial) h) | (exact fun _ _ _ h => Lst.up (by decide) h) | (exact fun _ _ _ h => h))) (fun K hK => ?_); go_big_quiet_op; (refine hK _ ?_; clear hK K)) | (refine relk_nil rfl _ rfl _ rfl (by (first | (exact fun _ _ _ h => GrC.up (fun L => upd_ne _ (by decide)) (fun _ _ => trivial) h) | (exact fun _ _ _ h => GrC.up (fun L => rfl) (fun _ _ => trivial) h) | (exact fun _ _ _ h => Lst.up (by decide) h) | (exact fun _ _ _ h => h))) (fun K hK => ?_); simp only [Act.put, List.setIfInBounds_toArray, List.set_cons_succ, List.set_cons_zero]; (refine hK _ ?_; clear hK K))))
  (refine relk_val rfl _ (by (first | (exact fun _ _ _ h => GrC.up (fun L => upd_ne _ (by decide)) (fun _ _ => trivial) h) | (exact fun _ _ _ h => GrC.up (fun L => rfl) (fun _ _ => trivial) h) | (exact fun _ _ _ h => Lst.up (by decide) h) | (exact fun _ _ _ h => h))) (fun V L w' h1 h2 h3 hC => ex_load1 _ _ rfl _ rfl (cellB (hC.before ((ahead_last (by kernel_rfl)).1 L h1 h3)).1 hac) _ Try.underlying3 rfl) (fun K hK => ?_); simp only [Act.put, List.setIfInBounds_toArray, List.set_cons_succ, List.set_cons_zero]; (refine hK _ ?_; clear hK K); (repeat (first | (refine relq rfl rfl (by (first | (exact fun _ _ _ h => GrC.up (fun L => upd_ne _ (by decide)) (fun _ _ => trivial) h) | (exact fun _ _ _ h => GrC.up (fun L => rfl) (fun _ _ => trivial) h) | (exact fun _ _ _ h => Lst.up (by decide) h) | (exact fun _ _ _ h => h))) (fun K hK => ?_); go_big_quiet_op; (refine hK _ ?_; clear hK K)) | (refine relk_nil rfl _ rfl _ rfl (by (first | (exact fun _ _ _ h => GrC.up (fun L => upd_ne _ (by decide)) (fun _ _ => trivial) h) | (exact fun _ _ _ h => GrC.up (fun L => rfl) (fun _ _ => trivial) h) | (exact fun _ _ _ h => Lst.up (by decide) h) | (exact fun _ _ _ h => h))) (fun K hK => ?_); simp only [Act.put, List.setIfInBounds_toArray, List.set_cons_succ, List.set_cons_zero]; (refine hK _ ?_; clear hK K)))))
  rw [show ((r : Int) + 1) * (C : Int) + c = (((r + 1) * C + c : Nat) : Int) by push_cast; rfl]
  refine gr_fixw (TE28_ok _) (ahead_last (by kernel_rfl)) (Nat.le_refl _) rfl (edgeV q) (fun _ _ => trivial) (fun V wx hB => ?_) ?_
  · rw [ex_call4 27 (.tmp 84) (.tmp 90) (.tmp 97) (.tmp 107) _ rfl rfl rfl rfl rfl rfl (enters_fn Try.func27 (by kernel_rfl) rfl)]
    refine (edge_c (a := k) (b := (r + 1) * C + c) (k := x) (HP.out.keep hB) HN.out.ph hlp (by rw [HKK.out]; exact hi0) hi1 hw).mono ?_
    rintro e w' ⟨rfl, hb⟩
    exact ⟨_, rfl, by rw [Hq.out, HKK.out], hb⟩
  simp only [Act.put, List.setIfInBounds_toArray, List.set_cons_succ, List.set_cons_zero]
  (refine gr_fix (ahead_last (by kernel_rfl)) rfl (edgeV q) (fun _ _ => trivial) (fun V w hB => by unfold execOp; go_simp) ?_; simp only [Act.put, List.setIfInBounds_toArray, List.set_cons_succ, List.set_cons_zero])
  refine gr_fix (ahead_last (by kernel_rfl)) rfl (.agg (edcs q).toArray) (fun _ _ => trivial) (fun V w hB => ex_ext0 _ q rfl rfl) ?_
  simp only [Act.put, List.setIfInBounds_toArray, List.set_cons_succ, List.set_cons_zero]
  refine rel_val rfl (.bool q.isSome) (fun L V w h => GrC.up (fun L => upd_ne _ (by decide)) (fun _ _ => trivial) h) (fun V L w h1 h2 h3 hC => ex_ext1 _ q rfl rfl) ?_
  simp only [Act.put, List.setIfInBounds_toArray, List.set_cons_succ, List.set_cons_zero]
  refine gr_free (TE28_ok _) (ahead_last (by kernel_rfl)) (Nat.le_refl _) rfl (fun V L wx hB _ _ => ?_) ?_
  · rw [ex_alloc 66 rfl (z := .agg #[.int .i64 0, .int .i64 0, .int .i64 0, .int .i64 0]) (by kernel_rfl)]
    exact ⟨(Below.refl _ _).alloc (Nat.le_refl _) _, fun V' _ h => ⟨wx.heap.size, h, hB.size, heap_alloc_new wx _⟩⟩
  simp only [Act.put, List.setIfInBounds_toArray, List.set_cons_succ, List.set_cons_zero]
  refine rel_fix rfl undef (fun V L wx h1 h2 h3 hC => ?_) ?_
  · obtain ⟨hB, hT⟩ := hC.before h1
    obtain ⟨b, k1, k2, k3⟩ := hT 28 (waits_at h2 (by kernel_rfl))
    rw [ex_storeN 66 _ _ rfl b 0 (edcs q).toArray k1 rfl (block_there k3 (by simp [edcs_len])) (by cases q <;> kernel_rfl) (by cases q <;> simp [edcs, encE, Value.oneCell'])]
    refine ⟨rfl, (show GrC _ _ _ _ _ (upd L 29) V _ from ?_)⟩
    unfold GrC
    rw [if_pos (upd_same L 29)]
    exact ⟨wx, b, k1, k2, hB, k3, by simp⟩
  simp only [Act.put, List.setIfInBounds_toArray, List.set_cons_succ, List.set_cons_zero]
  refine rel_val rfl (.bool q.isSome) (fun L V w h => GrC.up (fun L => upd_ne _ (by decide)) (fun _ _ => trivial) h) (fun V L w h1 h2 h3 hC => by unfold execOp; go_simp) ?_
  simp only [Act.put, List.setIfInBounds_toArray, List.set_cons_succ, List.set_cons_zero]
  intro V L w' hL hC
  unfold GrC at hC
  rw [if_pos (hL 29 (by decide))] at hC
  obtain ⟨w0, b, h1, h2, h3, h4, rfl⟩ := hC
  have e29 : V (0 + 1 + 1 + 1 + 1 + 1 + 1 + 1 + 1 + 1 + 1 + 1 + 1 + 1 + 1 + 1 + 1 + 1 + 1 + 1 + 1 + 1 + 1 + 1 + 1 + 1 + 1 + 1 + 1) = .pointer (some ⟨b, 0, none⟩) := h1
  refine HQ.out _ _ b (below_setCells h2 _ _ _ h3) h2 (ed_block h4) ⟨rfl, rfl, rfl, rfl, rfl, rfl, rfl, rfl, e29, rfl, trivial⟩
end Go.Proofs.Ytjnpchoinncbnaa
end

section
set_option linter.unusedSimpArgs false
set_option linter.unusedVariables false
namespace Go.Proofs.Ytjnpchoinncbnaa
open Go.RowKit Sw Fam
theorem wpListIn_append_ed {F : Fence} {n : Nat} {w : World} {B : Nat} {A : Option Addr} {c : Nat} {xs : List Ed} {ops : Array Oper} {rest : List Oper} {o : Oper} {a : Act} {Q : Exit → Act → World → Prop} (hgd : o.guard = none) (s x : Operand)
    (ho : o.op = .call { callee := .builtin .append, args := #[s, x], argTypes := #[35, 35] }) (h : GrE w B A c xs) (y : Ed) (sb c2 : Nat) (hs : a.eval s = .slice A xs.length c) (hx : a.eval x = .slice (some ⟨sb, 0, none⟩) 1 c2)
    (hc : w.heap[sb]? = some (.cells (encE y).toArray 66 (0, 0))) (hlen : xs.length < 100000) (hB : B ≤ w.heap.size)
    (hk : ∀ A' c' w', GrE w' B A' c' (xs ++ [y]) → w.grownBy w' (A.map (·.block)) → (∃ a', A' = some a' ∧ (A = some a' ∨ a'.block = w.heap.size)) → wpListIn F n Try.prog ops Q rest (a.put o.dst (.slice A' (xs.length + 1) c')) w') : wpListIn F n Try.prog ops Q (o :: rest) a w := by
  refine wpListIn_plain hgd fun K hK => ?_
  obtain ⟨A', c', w', hr, h2, h3, h4⟩ := run_append_ed h o.type y sb c2 hc hlen hB
  unfold Oper.wpIn
  refine ⟨?_, ?_⟩
  · simp [Oper.about, ho, resolve, Target.leads, Sem.run_pure]
  · rw [Oper.semAt_plain F _ _ (by rw [ho]; intro c hc'; cases hc')]
    unfold execOp
    simp only [ho, resolve, invoke, builtin, Sem.run_bind, Sem.run_pure, Result.andThen_ok, List.map_toArray, List.map_cons, List.map_nil, hs, hx, hr]
    exact hK _ _ (hk A' c' w' h2 h3 h4)

set_option maxHeartbeats 4000000 in
set_option maxRecDepth 100000 in
theorem bnet_put9 {m T0 R0 M r c b : Nat} {d : NetD} {es : List Ed} {q : Option Ed} {W5 W : World} {Q : Exit → Act → World → Prop} {u0 u9 u10 u11 u12 u13 u14 u15 u16 u17 u18 u19 u20 u21 u22 u23 u24 u25 u26 u27 u28 u29 u30 u31 u32 u33 u34 u35 u36 u37 u38 u39 u40 u41 u42 u43 u44 u45 u46 u47 u48 u49 u50 u51 u52 u53 u54 u55 u56 u57 u58 u59 u60 u61 u62 u63 u64 u65 u66 u67 u68 u69 u70 u71 u72 u73 u74 u75 u76 u77 u78 u79 u80 u81 u82 u83 u84 u85 u86 u87 u88 u89 u90 u91 u92 u93 u94 u95 u96 u97 u98 u99 u100 u101 u102 u103 u104 u105 u106 u107 u108 u109 u110 u111 u112 u113 u114 u115 u116 u117 u118 : Value}
    (hJ : NetJ W5 d es W) (hN : d.N < W5.heap.size) (hb : W.heap[b]? = some (.cells (edcs q).toArray 66 (0, 0))) (hbW : W5.heap.size ≤ b) (hl : es.length < 10000)
    (hQ : ∀ a' w', NetJ W5 d (es ++ q.toList) w' → BFr T0 R0 M d.N [(5, .int .i64 r), (6, .int .i64 c)] a' → Q .normal a' w') :
    Code.wpIn Fence.wide m Try.prog (.seq (Try.f8.sub [1, 1, 1, 0, 1, 0, 0, 1, 0, 0, 1, 0, 0, 1, 0, 0, 1, 0]) (.cond (.tmp 63) (Try.f8.sub [1, 1, 1, 0, 1, 0, 0, 1, 0, 0, 1, 0, 0, 1, 0, 0, 1, 1, 0]) .skip)) Q ⟨#[u0, .pointer (some ⟨T0, 0, none⟩), .pointer (some ⟨R0, 0, none⟩), .pointer (some ⟨M, 0, none⟩), .pointer (some ⟨d.N, 0, none⟩), .int .i64 r, .int .i64 c, .pointer (some ⟨b, 0, none⟩), .bool q.isSome, u9, u10, u11, u12, u13, u14, u15, u16, u17, u18, u19, u20, u21, u22, u23, u24, u25, u26, u27, u28, u29, u30, u31, u32, u33, u34, u35, u36, u37, u38, u39, u40, u41, u42, u43, u44, u45, u46, u47, u48, u49, u50, u51, u52, u53, u54, u55, u56, u57, u58, u59, u60, u61, u62, u63, u64, u65, u66, u67, u68, u69, u70, u71, u72, u73, u74, u75, u76, u77, u78, u79, u80, u81, u82, u83, u84, u85, u86, u87, u88, u89, u90, u91, u92, u93, u94, u95, u96, u97, u98, u99, u100, u101, u102, u103, u104, u105, u106, u107, u108, u109, u110, u111, u112, u113, u114, u115, u116, u117, u118], []⟩ W := by
  obtain ⟨N, M', Yb, P', cp', Y', cy', n', ph', ws'⟩ := d
  have HJ := Lib.hid hJ
  obtain ⟨A, cc, h1, h2⟩ := hJ.net
  have hz := hJ.tch.size
  dsimp only at *
  have hNl : N < W.heap.size := by omega
  have HQ := Lib.hid hQ; clear hQ hJ
  refine wpIn_seq ?_
  conv => arg 4; whnf
  cases q with
  | none =>
    have HB := Lib.hid (And.intro hb (And.intro h1 h2)); clear hb h1 h2
    simp only [Option.isSome_none, Option.toList_none, List.append_nil] at *
    gi_wp2_with fail
    exact HQ.out _ _ HJ.out (by unfold BFr; (refine ⟨rfl, rfl, ?_⟩; repeat (first | exact trivial | refine ⟨rfl, ?_⟩)))
  | some y =>
    have hbl := (Array.getElem?_eq_some_iff.1 hb).1
    have n1 : W.cell? ⟨N, 1, none⟩ = some (.slice A es.length cc) := block_cell h1 (j := 1) (by simp)
    have e0 : W.cell? ⟨b, 0, none⟩ = some (.int .i64 y.f) := block_cell hb (j := 0) (by simp [edcs, encE])
    have e1 : W.cell? ⟨b, 1, none⟩ = some (.int .i64 y.t) := block_cell hb (j := 1) (by simp [edcs, encE])
    have e2 : W.cell? ⟨b, 2, none⟩ = some (.int .i64 y.j) := block_cell hb (j := 2) (by simp [edcs, encE])
    have e3 : W.cell? ⟨b, 3, none⟩ = some (.int .i64 y.k) := block_cell hb (j := 3) (by simp [edcs, encE])
    have HB := Lib.hid (And.intro hb (And.intro h1 h2)); clear hb h1 h2
    simp only [Option.isSome_some, Option.toList_some] at *
    gi_wp2_with fail
    conv => arg 4; whnf
    gi_wp2_with (refine wpListIn_append_ed rfl _ _ rfl (HB.out.2.2.keep ((Below.refl _ _).alloc (Nat.le_refl _) _)) y W.heap.size 1 rfl rfl (World.alloc_heap_new W _) (by omega) (by simp; omega) ?_)
    intro A' c' w' g1 g2 a' e3 g3
    subst e3
    have hTg : Tch (A.map (·.block)).toList (W.alloc (.cells (encE y).toArray 66)) w' := ⟨g2.os, g2.tape, g2.output, g2.size, fun b hb hn => g2.block b hb (fun e => hn (by rw [Option.mem_toList]; exact e.symm))⟩
    have hAl : ∀ b', b' ∈ (A.map (·.block)).toList → W5.heap.size ≤ b' ∧ b' < W.heap.size := fun b' hb' => by
      have := HB.out.2.2.lt (b := b') (by simpa using hb')
      exact this
    have hN' : w'.heap[N]? = some (.cells #[.int .i64 n', .slice A es.length cc] 37 (0, 0)) :=
      (hTg.block N (by simp; omega) (fun hm => by have := (hAl N hm).1; omega)).trans ((Below.heap_alloc _ _ _ hNl).trans HB.out.2.1)
    have c1 : w'.cell? ⟨N, 1, none⟩ = some (.slice A es.length cc) := block_cell hN' (j := 1) (by simp)
    have f1 : w'.frozen? ⟨N, 1, none⟩ = false := by simp [World.frozen?, hN']
    have HG := Lib.hid (And.intro g1 (And.intro g3 (And.intro hTg (And.intro hN' hAl)))); clear g1 g2 g3 hTg hN' hAl
    gi_wp2_with fail
    obtain ⟨g1, g3, hTg, hN', hAl⟩ := HG.out
    have hne : ∀ b', (some a').map (·.block) = some b' → b' ≠ N := fun b' hb' e => by
      have := (g1.lt hb').1; omega
    refine HQ.out _ _ ⟨?_, some a', c', ?_, ?_⟩ (by unfold BFr; (refine ⟨rfl, rfl, ?_⟩; repeat (first | exact trivial | refine ⟨rfl, ?_⟩)))
    · have hTJ := HJ.out.tch
      have hT0 : Tch [N] W5 w' := ⟨hTg.os.trans hTJ.os, hTg.tape.trans hTJ.tape, hTg.output.trans hTJ.output, by have := hTg.size; simp at this; omega, fun b' hb' hn' =>
        (hTg.block b' (by simp; omega) (fun hm => by have := (hAl b' hm).1; omega)).trans ((Below.heap_alloc _ _ _ (by omega)).trans (hTJ.block b' hb' hn'))⟩
      exact hT0.set (.inl (by simp)) _
    · have := heap_setCell_same w' N 1 _ _ (.slice (some a') (es.length + 1) c') hN'
      simpa using this
    · exact g1.move fun b' hb' => Below.heap_setCell _ _ _ _ (hne b' hb')

set_option maxHeartbeats 4000000 in
set_option maxRecDepth 100000 in
theorem bnet_put18 {m T0 R0 M r c b : Nat} {d : NetD} {es : List Ed} {q : Option Ed} {W5 W : World} {Q : Exit → Act → World → Prop} {u0 u5 u6 u7 u8 u13 u14 u15 u16 u17 u18 u19 u20 u21 u22 u23 u24 u25 u26 u27 u28 u29 u30 u31 u32 u33 u34 u35 u36 u37 u38 u39 u40 u41 u42 u43 u44 u45 u46 u47 u48 u49 u50 u51 u52 u53 u54 u55 u56 u57 u58 u59 u60 u61 u62 u63 u64 u65 u66 u67 u68 u69 u70 u71 u72 u73 u74 u75 u76 u77 u78 u79 u80 u81 u82 u83 u84 u85 u86 u87 u88 u89 u90 u91 u92 u93 u94 u95 u96 u97 u98 u99 u100 u101 u102 u103 u104 u105 u106 u107 u108 u109 u110 u111 u112 u113 u114 u115 u116 u117 u118 : Value}
    (hJ : NetJ W5 d es W) (hN : d.N < W5.heap.size) (hb : W.heap[b]? = some (.cells (edcs q).toArray 66 (0, 0))) (hbW : W5.heap.size ≤ b) (hl : es.length < 10000)
    (hQ : ∀ a' w', NetJ W5 d (es ++ q.toList) w' → BFr T0 R0 M d.N [(9, .int .i64 r), (10, .int .i64 c)] a' → Q .normal a' w') :
    Code.wpIn Fence.wide m Try.prog (.seq (Try.f8.sub [1, 1, 1, 1, 0, 1, 0, 0, 1, 0, 0, 1, 0, 0, 1, 0, 0, 1, 0]) (.cond (.tmp 111) (Try.f8.sub [1, 1, 1, 1, 0, 1, 0, 0, 1, 0, 0, 1, 0, 0, 1, 0, 0, 1, 1, 0]) .skip)) Q ⟨#[u0, .pointer (some ⟨T0, 0, none⟩), .pointer (some ⟨R0, 0, none⟩), .pointer (some ⟨M, 0, none⟩), .pointer (some ⟨d.N, 0, none⟩), u5, u6, u7, u8, .int .i64 r, .int .i64 c, .pointer (some ⟨b, 0, none⟩), .bool q.isSome, u13, u14, u15, u16, u17, u18, u19, u20, u21, u22, u23, u24, u25, u26, u27, u28, u29, u30, u31, u32, u33, u34, u35, u36, u37, u38, u39, u40, u41, u42, u43, u44, u45, u46, u47, u48, u49, u50, u51, u52, u53, u54, u55, u56, u57, u58, u59, u60, u61, u62, u63, u64, u65, u66, u67, u68, u69, u70, u71, u72, u73, u74, u75, u76, u77, u78, u79, u80, u81, u82, u83, u84, u85, u86, u87, u88, u89, u90, u91, u92, u93, u94, u95, u96, u97, u98, u99, u100, u101, u102, u103, u104, u105, u106, u107, u108, u109, u110, u111, u112, u113, u114, u115, u116, u117, u118], []⟩ W := by
  obtain ⟨N, M', Yb, P', cp', Y', cy', n', ph', ws'⟩ := d
  have HJ := Lib.hid hJ
  obtain ⟨A, cc, h1, h2⟩ := hJ.net
  have hz := hJ.tch.size
  dsimp only at *
  have hNl : N < W.heap.size := by omega
  have HQ := Lib.hid hQ; clear hQ hJ
  refine wpIn_seq ?_
  conv => arg 4; whnf
  cases q with
  | none =>
    have HB := Lib.hid (And.intro hb (And.intro h1 h2)); clear hb h1 h2
    simp only [Option.isSome_none, Option.toList_none, List.append_nil] at *
    gi_wp2_with fail
    exact HQ.out _ _ HJ.out (by unfold BFr; (refine ⟨rfl, rfl, ?_⟩; repeat (first | exact trivial | refine ⟨rfl, ?_⟩)))
  | some y =>
    have hbl := (Array.getElem?_eq_some_iff.1 hb).1
    have n1 : W.cell? ⟨N, 1, none⟩ = some (.slice A es.length cc) := block_cell h1 (j := 1) (by simp)
    have e0 : W.cell? ⟨b, 0, none⟩ = some (.int .i64 y.f) := block_cell hb (j := 0) (by simp [edcs, encE])
    have e1 : W.cell? ⟨b, 1, none⟩ = some (.int .i64 y.t) := block_cell hb (j := 1) (by simp [edcs, encE])
    have e2 : W.cell? ⟨b, 2, none⟩ = some (.int .i64 y.j) := block_cell hb (j := 2) (by simp [edcs, encE])
    have e3 : W.cell? ⟨b, 3, none⟩ = some (.int .i64 y.k) := block_cell hb (j := 3) (by simp [edcs, encE])
    have HB := Lib.hid (And.intro hb (And.intro h1 h2)); clear hb h1 h2
    simp only [Option.isSome_some, Option.toList_some] at *
    gi_wp2_with fail
    conv => arg 4; whnf
    gi_wp2_with (refine wpListIn_append_ed rfl _ _ rfl (HB.out.2.2.keep ((Below.refl _ _).alloc (Nat.le_refl _) _)) y W.heap.size 1 rfl rfl (World.alloc_heap_new W _) (by omega) (by simp; omega) ?_)
    intro A' c' w' g1 g2 a' e3 g3
    subst e3
    have hTg : Tch (A.map (·.block)).toList (W.alloc (.cells (encE y).toArray 66)) w' := ⟨g2.os, g2.tape, g2.output, g2.size, fun b hb hn => g2.block b hb (fun e => hn (by rw [Option.mem_toList]; exact e.symm))⟩
    have hAl : ∀ b', b' ∈ (A.map (·.block)).toList → W5.heap.size ≤ b' ∧ b' < W.heap.size := fun b' hb' => by
      have := HB.out.2.2.lt (b := b') (by simpa using hb')
      exact this
    have hN' : w'.heap[N]? = some (.cells #[.int .i64 n', .slice A es.length cc] 37 (0, 0)) :=
      (hTg.block N (by simp; omega) (fun hm => by have := (hAl N hm).1; omega)).trans ((Below.heap_alloc _ _ _ hNl).trans HB.out.2.1)
    have c1 : w'.cell? ⟨N, 1, none⟩ = some (.slice A es.length cc) := block_cell hN' (j := 1) (by simp)
    have f1 : w'.frozen? ⟨N, 1, none⟩ = false := by simp [World.frozen?, hN']
    have HG := Lib.hid (And.intro g1 (And.intro g3 (And.intro hTg (And.intro hN' hAl)))); clear g1 g2 g3 hTg hN' hAl
    gi_wp2_with fail
    obtain ⟨g1, g3, hTg, hN', hAl⟩ := HG.out
    have hne : ∀ b', (some a').map (·.block) = some b' → b' ≠ N := fun b' hb' e => by
      have := (g1.lt hb').1; omega
    refine HQ.out _ _ ⟨?_, some a', c', ?_, ?_⟩ (by unfold BFr; (refine ⟨rfl, rfl, ?_⟩; repeat (first | exact trivial | refine ⟨rfl, ?_⟩)))
    · have hTJ := HJ.out.tch
      have hT0 : Tch [N] W5 w' := ⟨hTg.os.trans hTJ.os, hTg.tape.trans hTJ.tape, hTg.output.trans hTJ.output, by have := hTg.size; simp at this; omega, fun b' hb' hn' =>
        (hTg.block b' (by simp; omega) (fun hm => by have := (hAl b' hm).1; omega)).trans ((Below.heap_alloc _ _ _ (by omega)).trans (hTJ.block b' hb' hn'))⟩
      exact hT0.set (.inl (by simp)) _
    · have := heap_setCell_same w' N 1 _ _ (.slice (some a') (es.length + 1) c') hN'
      simpa using this
    · exact g1.move fun b' hb' => Below.heap_setCell _ _ _ _ (hne b' hb')
end Go.Proofs.Ytjnpchoinncbnaa
end

section
set_option linter.unusedSimpArgs false
set_option linter.unusedVariables false
namespace Sw
open Go.Proofs.Ytjnpchoinncbnaa
theorem esA_step {R C : Nat} {ph ac dn : List Int} (h : RtN R C ph ac dn) {r c : Nat} (hr : r < R) (hc : c + 1 < C) :
    eds ph (sdA C (r * C + (c + 1))) (ac ++ dn) = eds ph (sdA C (r * C + c)) (ac ++ dn) ++ (edg ph (r * C + c, r * C + c + 1) (gi ac (r * (C - 1) + c))).toList := by
  have h1 := sdA_row (C := C) (r := r) (c := c) (by omega)
  rw [if_pos hc] at h1
  rw [← Nat.add_assoc, h1, eds_snoc, sdA_len h.hC.1 r c (by omega)]
  have hi2 : r * (C - 1) + c < ac.length := by
    rw [h.la]
    have := Nat.mul_le_mul_right (C - 1) (show r + 1 ≤ R from hr)
    rw [Nat.add_mul, Nat.one_mul] at this
    omega
  have : gi (ac ++ dn) (r * (C - 1) + c) = gi ac (r * (C - 1) + c) := by simp [gi, List.getElem?_append_left hi2]
  rw [this]
theorem esD_step {R C : Nat} {ph ac dn : List Int} (h : RtN R C ph ac dn) {r c : Nat} (hr : r + 1 < R) (hc : c < C) :
    eds ph (sdA C (R * C) ++ sdD R C (r * C + (c + 1))) (ac ++ dn) = eds ph (sdA C (R * C) ++ sdD R C (r * C + c)) (ac ++ dn) ++ (edg ph (r * C + c, (r + 1) * C + c) (gi dn (r * C + c))).toList := by
  have h1 := sdD_row (R := R) (C := C) (r := r) (c := c) hc
  rw [if_pos (by omega)] at h1
  have h2 : r * C + c ≤ (R - 1) * C := by
    have := Nat.mul_le_mul_right C (show r + 1 ≤ R - 1 by omega)
    rw [Nat.add_mul, Nat.one_mul] at this
    omega
  rw [← Nat.add_assoc, h1, ← List.append_assoc, eds_snoc, List.length_append, sdA_all h.hC.1, sdD_len h.hC.1 _ h2, ← h.la]
  have : gi (ac ++ dn) (ac.length + (r * C + c)) = gi dn (r * C + c) := by simp [gi, List.getElem?_append_right]
  rw [this, show r * C + c + C = (r + 1) * C + c by rw [Nat.add_mul]; omega]
theorem esA_few {R C : Nat} {ph ac dn : List Int} (h : RtN R C ph ac dn) {n : Nat} (hn : n ≤ R * C) : (eds ph (sdA C n) (ac ++ dn)).length < 10000 := by
  have h1 := eds_len ph (sdA C n) (ac ++ dn)
  have h2 := (sdA_pre (C := C) hn).length_le
  have h3 := h.few_sides
  unfold sdl at h3
  rw [List.length_append] at h3
  omega
theorem esD_few {R C : Nat} {ph ac dn : List Int} (h : RtN R C ph ac dn) {n : Nat} (hn : n ≤ R * C) : (eds ph (sdA C (R * C) ++ sdD R C n) (ac ++ dn)).length < 10000 := by
  have h1 := eds_len ph (sdA C (R * C) ++ sdD R C n) (ac ++ dn)
  have h2 := (sdD_pre (R := R) (C := C) hn).length_le
  have h3 := h.few_sides
  unfold sdl at h3
  rw [List.length_append] at h1 h3
  omega
end Sw
namespace Go.Proofs.Ytjnpchoinncbnaa
open Go.RowKit Sw Fam
structure BOk (W5 : World) (d : NetD) (T0 M R C : Nat) (ph ac dn : List Int) (P A D : Option Addr) (cp ca cd : Nat) : Prop where
  hn : RtN R C ph ac dn
  hM : W5.heap[M]? = some (.cells #[.int .i64 R, .int .i64 C, .slice P ph.length cp] 24 (0, 0))
  hT : W5.heap[T0]? = some (.cells #[.int .i64 R, .int .i64 C, .slice P ph.length cp, .slice A ac.length ca, .slice D dn.length cd] 26 (0, 0))
  rd : ∀ W, Tch [d.N] W5 W → RdI W P ph ∧ RdI W A ac ∧ RdI W D dn
  mN : M ≠ d.N
  tN : T0 ≠ d.N
  lN : d.N < W5.heap.size

def BIn9 (W5 : World) (d : NetD) (T0 R0 M R C : Nat) (ph ac dn : List Int) (r : Nat) (a : Act) (W : World) : Prop :=
  ∃ c : Nat, c ≤ C - 1 ∧ NetJ W5 d (eds ph (sdA C (r * C + c)) (ac ++ dn)) W ∧ BFr T0 R0 M d.N [(5, .int .i64 r), (6, .int .i64 c)] a
set_option maxHeartbeats 4000000 in
set_option maxRecDepth 100000 in
theorem bnet_in9 {m T0 R0 M r R C : Nat} {d : NetD} {ph ac dn : List Int} {P A D : Option Addr} {cp ca cd : Nat} {W5 : World} {Q : Exit → Act → World → Prop}
    (hok : BOk W5 d T0 M R C ph ac dn P A D cp ca cd) (hr : r < R) {a : Act} {W : World} (h0 : BIn9 W5 d T0 R0 M R C ph ac dn r a W)
    (hQ : ∀ a' w', NetJ W5 d (eds ph (sdA C ((r + 1) * C)) (ac ++ dn)) w' → BFr T0 R0 M d.N [(5, .int .i64 r)] a' → Q .normal a' w') :
    Code.wpIn Fence.wide m Try.prog (.loop (Try.f8.sub [1, 1, 1, 0, 1, 0, 0, 1, 0, 0, 1, 0, 0])) (Exit.inBlock 2 Q) a W := by
  have HQ := Lib.hid hQ; clear hQ
  have HO := Lib.hid hok; clear hok
  refine wpIn_loop (BIn9 W5 d T0 R0 M R C ph ac dn r) (fun a _ => C - (intOf (a.tmps.getD 6 undef)).toNat) h0 ?_
  clear h0 a W
  rintro a W ⟨c, hc, hJ, hfr⟩
  unfold BFr at hfr
  obtain ⟨u, rfl⟩ := hfr.open
  clear hfr
  have HJ := Lib.hid hJ
  have hTM := hJ.tch
  generalize hmu : C - (intOf ((⟨frL 119 _ u, []⟩ : Act).tmps.getD 6 undef)).toNat = mu
  have hmu' : C - c = mu := by rw [← hmu]; rfl
  clear hmu
  have hMW := (hTM.block M (Array.getElem?_eq_some_iff.1 HO.out.hM).1 (by simpa using HO.out.mN)).trans HO.out.hM
  have hTW := (hTM.block T0 (Array.getElem?_eq_some_iff.1 HO.out.hT).1 (by simpa using HO.out.tN)).trans HO.out.hT
  have HMT := Lib.hid (And.intro hMW hTW)
  have m1 : W.cell? ⟨M, 1, none⟩ = some (.int .i64 C) := block_cell hMW (j := 1) (by simp)
  have hrd := HO.out.rd W hTM
  have HRD := Lib.hid hrd
  have hC := HO.out.hn.hC
  have hR := HO.out.hn.hR
  clear hJ hTM hMW hTW hrd
  show Code.wpIn Fence.wide m Try.prog (.seq (.seq (Try.f8.sub [1, 1, 1, 0, 1, 0, 0, 1, 0, 0, 1, 0, 0, 0, 0]) (.cond (.tmp 31) .skip (.exit 2))) (.seq (.block 3 (.seq (Try.f8.sub [1, 1, 1, 0, 1, 0, 0, 1, 0, 0, 1, 0, 0, 1, 0, 0, 0]) (.seq (Try.f8.sub [1, 1, 1, 0, 1, 0, 0, 1, 0, 0, 1, 0, 0, 1, 0, 0, 1, 0]) (.cond (.tmp 63) (Try.f8.sub [1, 1, 1, 0, 1, 0, 0, 1, 0, 0, 1, 0, 0, 1, 0, 0, 1, 1, 0]) .skip)))) (Try.f8.sub [1, 1, 1, 0, 1, 0, 0, 1, 0, 0, 1, 0, 0, 1, 1]))) _ ⟨#[(u 0), .pointer (some ⟨T0, 0, none⟩), .pointer (some ⟨R0, 0, none⟩), .pointer (some ⟨M, 0, none⟩), .pointer (some ⟨d.N, 0, none⟩), .int .i64 r, .int .i64 c, (u 7), (u 8), (u 9), (u 10), (u 11), (u 12), (u 13), (u 14), (u 15), (u 16), (u 17), (u 18), (u 19), (u 20), (u 21), (u 22), (u 23), (u 24), (u 25), (u 26), (u 27), (u 28), (u 29), (u 30), (u 31), (u 32), (u 33), (u 34), (u 35), (u 36), (u 37), (u 38), (u 39), (u 40), (u 41), (u 42), (u 43), (u 44), (u 45), (u 46), (u 47), (u 48), (u 49), (u 50), (u 51), (u 52), (u 53), (u 54), (u 55), (u 56), (u 57), (u 58), (u 59), (u 60), (u 61), (u 62), (u 63), (u 64), (u 65), (u 66), (u 67), (u 68), (u 69), (u 70), (u 71), (u 72), (u 73), (u 74), (u 75), (u 76), (u 77), (u 78), (u 79), (u 80), (u 81), (u 82), (u 83), (u 84), (u 85), (u 86), (u 87), (u 88), (u 89), (u 90), (u 91), (u 92), (u 93), (u 94), (u 95), (u 96), (u 97), (u 98), (u 99), (u 100), (u 101), (u 102), (u 103), (u 104), (u 105), (u 106), (u 107), (u 108), (u 109), (u 110), (u 111), (u 112), (u 113), (u 114), (u 115), (u 116), (u 117), (u 118)], []⟩ W
  refine wpIn_seq ?_
  refine wpIn_seq ?_
  conv => arg 4; whnf
  dsimp only
  by_cases hlt : c + 1 < C
  · gi_wp2_with fail
    have hfew := esA_few HO.out.hn (n := r * C + c) (by
      have := Nat.mul_le_mul_right C (show r + 1 ≤ R by omega)
      rw [Nat.add_mul, Nat.one_mul] at this
      omega)
    have hst := esA_step HO.out.hn (r := r) (c := c) hr hlt
    refine bnet_look9 (P := P) (A := A) (D := D) (cp := cp) (ca := ca) (cd := cd) HO.out.hn hr hlt HMT.out.1 HMT.out.2 HRD.out.1 HRD.out.2.1 ?_
    intro a' w' b hB hbW hb hfr'
    have HJ2 := Lib.hid (HJ.out.keep hB HO.out.lN)
    rename_i K1 hK1
    refine hK1 _ _ ?_
    clear hK1 K1
    unfold BFr at hfr'
    obtain ⟨u', rfl⟩ := hfr'.open
    clear hfr'
    have hz := HJ.out.tch.size
    show Code.wpIn Fence.wide m Try.prog (.seq (Try.f8.sub [1, 1, 1, 0, 1, 0, 0, 1, 0, 0, 1, 0, 0, 1, 0, 0, 1, 0]) (.cond (.tmp 63) (Try.f8.sub [1, 1, 1, 0, 1, 0, 0, 1, 0, 0, 1, 0, 0, 1, 0, 0, 1, 1, 0]) .skip)) _ ⟨#[(u' 0), .pointer (some ⟨T0, 0, none⟩), .pointer (some ⟨R0, 0, none⟩), .pointer (some ⟨M, 0, none⟩), .pointer (some ⟨d.N, 0, none⟩), .int .i64 r, .int .i64 c, .pointer (some ⟨b, 0, none⟩), .bool (edg ph (r * C + c, r * C + c + 1) (gi ac (r * (C - 1) + c))).isSome, (u' 9), (u' 10), (u' 11), (u' 12), (u' 13), (u' 14), (u' 15), (u' 16), (u' 17), (u' 18), (u' 19), (u' 20), (u' 21), (u' 22), (u' 23), (u' 24), (u' 25), (u' 26), (u' 27), (u' 28), (u' 29), (u' 30), (u' 31), (u' 32), (u' 33), (u' 34), (u' 35), (u' 36), (u' 37), (u' 38), (u' 39), (u' 40), (u' 41), (u' 42), (u' 43), (u' 44), (u' 45), (u' 46), (u' 47), (u' 48), (u' 49), (u' 50), (u' 51), (u' 52), (u' 53), (u' 54), (u' 55), (u' 56), (u' 57), (u' 58), (u' 59), (u' 60), (u' 61), (u' 62), (u' 63), (u' 64), (u' 65), (u' 66), (u' 67), (u' 68), (u' 69), (u' 70), (u' 71), (u' 72), (u' 73), (u' 74), (u' 75), (u' 76), (u' 77), (u' 78), (u' 79), (u' 80), (u' 81), (u' 82), (u' 83), (u' 84), (u' 85), (u' 86), (u' 87), (u' 88), (u' 89), (u' 90), (u' 91), (u' 92), (u' 93), (u' 94), (u' 95), (u' 96), (u' 97), (u' 98), (u' 99), (u' 100), (u' 101), (u' 102), (u' 103), (u' 104), (u' 105), (u' 106), (u' 107), (u' 108), (u' 109), (u' 110), (u' 111), (u' 112), (u' 113), (u' 114), (u' 115), (u' 116), (u' 117), (u' 118)], []⟩ _
    refine bnet_put9 (T0 := T0) (R0 := R0) (M := M) (r := r) (c := c) HJ2.out HO.out.lN hb (by omega) hfew ?_
    intro a2 w2 hJ2 hfr2
    rw [← hst] at hJ2
    have HJ3 := Lib.hid hJ2; clear hJ2
    unfold BFr at hfr2
    obtain ⟨u2, rfl⟩ := hfr2.open
    clear hfr2
    rename_i K hK
    refine hK _ _ ?_
    show Code.wpIn Fence.wide m Try.prog (Try.f8.sub [1, 1, 1, 0, 1, 0, 0, 1, 0, 0, 1, 0, 0, 1, 1]) _ ⟨#[(u2 0), .pointer (some ⟨T0, 0, none⟩), .pointer (some ⟨R0, 0, none⟩), .pointer (some ⟨M, 0, none⟩), .pointer (some ⟨d.N, 0, none⟩), .int .i64 r, .int .i64 c, (u2 7), (u2 8), (u2 9), (u2 10), (u2 11), (u2 12), (u2 13), (u2 14), (u2 15), (u2 16), (u2 17), (u2 18), (u2 19), (u2 20), (u2 21), (u2 22), (u2 23), (u2 24), (u2 25), (u2 26), (u2 27), (u2 28), (u2 29), (u2 30), (u2 31), (u2 32), (u2 33), (u2 34), (u2 35), (u2 36), (u2 37), (u2 38), (u2 39), (u2 40), (u2 41), (u2 42), (u2 43), (u2 44), (u2 45), (u2 46), (u2 47), (u2 48), (u2 49), (u2 50), (u2 51), (u2 52), (u2 53), (u2 54), (u2 55), (u2 56), (u2 57), (u2 58), (u2 59), (u2 60), (u2 61), (u2 62), (u2 63), (u2 64), (u2 65), (u2 66), (u2 67), (u2 68), (u2 69), (u2 70), (u2 71), (u2 72), (u2 73), (u2 74), (u2 75), (u2 76), (u2 77), (u2 78), (u2 79), (u2 80), (u2 81), (u2 82), (u2 83), (u2 84), (u2 85), (u2 86), (u2 87), (u2 88), (u2 89), (u2 90), (u2 91), (u2 92), (u2 93), (u2 94), (u2 95), (u2 96), (u2 97), (u2 98), (u2 99), (u2 100), (u2 101), (u2 102), (u2 103), (u2 104), (u2 105), (u2 106), (u2 107), (u2 108), (u2 109), (u2 110), (u2 111), (u2 112), (u2 113), (u2 114), (u2 115), (u2 116), (u2 117), (u2 118)], []⟩ _
    conv => arg 4; whnf
    dsimp only
    gi_wp2_with fail
    refine ⟨⟨c + 1, by omega, HJ3.out, by unfold BFr; (refine ⟨rfl, rfl, ?_⟩; repeat (first | exact trivial | refine ⟨rfl, ?_⟩))⟩, ?_⟩
    show C - ((c : Int) + 1).toNat < mu
    omega
  · gi_wp2_with fail
    have : c = C - 1 := by omega
    subst this
    refine HQ.out _ _ ?_ (by unfold BFr; (refine ⟨rfl, rfl, ?_⟩; repeat (first | exact trivial | refine ⟨rfl, ?_⟩)))
    have h := HJ.out
    rw [sdA_end hC.1] at h
    exact h

def BIn18 (W5 : World) (d : NetD) (T0 R0 M R C : Nat) (ph ac dn : List Int) (r : Nat) (a : Act) (W : World) : Prop :=
  ∃ c : Nat, c ≤ C ∧ NetJ W5 d (eds ph (sdA C (R * C) ++ sdD R C (r * C + c)) (ac ++ dn)) W ∧ BFr T0 R0 M d.N [(9, .int .i64 r), (10, .int .i64 c)] a
set_option maxHeartbeats 4000000 in
set_option maxRecDepth 100000 in
theorem bnet_in18 {m T0 R0 M r R C : Nat} {d : NetD} {ph ac dn : List Int} {P A D : Option Addr} {cp ca cd : Nat} {W5 : World} {Q : Exit → Act → World → Prop}
    (hok : BOk W5 d T0 M R C ph ac dn P A D cp ca cd) (hr : r + 1 < R) {a : Act} {W : World} (h0 : BIn18 W5 d T0 R0 M R C ph ac dn r a W)
    (hQ : ∀ a' w', NetJ W5 d (eds ph (sdA C (R * C) ++ sdD R C ((r + 1) * C)) (ac ++ dn)) w' → BFr T0 R0 M d.N [(9, .int .i64 r)] a' → Q .normal a' w') :
    Code.wpIn Fence.wide m Try.prog (.loop (Try.f8.sub [1, 1, 1, 1, 0, 1, 0, 0, 1, 0, 0, 1, 0, 0])) (Exit.inBlock 6 Q) a W := by
  have HQ := Lib.hid hQ; clear hQ
  have HO := Lib.hid hok; clear hok
  refine wpIn_loop (BIn18 W5 d T0 R0 M R C ph ac dn r) (fun a _ => C - (intOf (a.tmps.getD 10 undef)).toNat) h0 ?_
  clear h0 a W
  rintro a W ⟨c, hc, hJ, hfr⟩
  unfold BFr at hfr
  obtain ⟨u, rfl⟩ := hfr.open
  clear hfr
  have HJ := Lib.hid hJ
  have hTM := hJ.tch
  generalize hmu : C - (intOf ((⟨frL 119 _ u, []⟩ : Act).tmps.getD 10 undef)).toNat = mu
  have hmu' : C - c = mu := by rw [← hmu]; rfl
  clear hmu
  have hMW := (hTM.block M (Array.getElem?_eq_some_iff.1 HO.out.hM).1 (by simpa using HO.out.mN)).trans HO.out.hM
  have hTW := (hTM.block T0 (Array.getElem?_eq_some_iff.1 HO.out.hT).1 (by simpa using HO.out.tN)).trans HO.out.hT
  have HMT := Lib.hid (And.intro hMW hTW)
  have m1 : W.cell? ⟨M, 1, none⟩ = some (.int .i64 C) := block_cell hMW (j := 1) (by simp)
  have hrd := HO.out.rd W hTM
  have HRD := Lib.hid hrd
  have hC := HO.out.hn.hC
  have hR := HO.out.hn.hR
  clear hJ hTM hMW hTW hrd
  show Code.wpIn Fence.wide m Try.prog (.seq (.seq (Try.f8.sub [1, 1, 1, 1, 0, 1, 0, 0, 1, 0, 0, 1, 0, 0, 0, 0]) (.cond (.tmp 80) .skip (.exit 6))) (.seq (.block 7 (.seq (Try.f8.sub [1, 1, 1, 1, 0, 1, 0, 0, 1, 0, 0, 1, 0, 0, 1, 0, 0, 0]) (.seq (Try.f8.sub [1, 1, 1, 1, 0, 1, 0, 0, 1, 0, 0, 1, 0, 0, 1, 0, 0, 1, 0]) (.cond (.tmp 111) (Try.f8.sub [1, 1, 1, 1, 0, 1, 0, 0, 1, 0, 0, 1, 0, 0, 1, 0, 0, 1, 1, 0]) .skip)))) (Try.f8.sub [1, 1, 1, 1, 0, 1, 0, 0, 1, 0, 0, 1, 0, 0, 1, 1]))) _ ⟨#[(u 0), .pointer (some ⟨T0, 0, none⟩), .pointer (some ⟨R0, 0, none⟩), .pointer (some ⟨M, 0, none⟩), .pointer (some ⟨d.N, 0, none⟩), (u 5), (u 6), (u 7), (u 8), .int .i64 r, .int .i64 c, (u 11), (u 12), (u 13), (u 14), (u 15), (u 16), (u 17), (u 18), (u 19), (u 20), (u 21), (u 22), (u 23), (u 24), (u 25), (u 26), (u 27), (u 28), (u 29), (u 30), (u 31), (u 32), (u 33), (u 34), (u 35), (u 36), (u 37), (u 38), (u 39), (u 40), (u 41), (u 42), (u 43), (u 44), (u 45), (u 46), (u 47), (u 48), (u 49), (u 50), (u 51), (u 52), (u 53), (u 54), (u 55), (u 56), (u 57), (u 58), (u 59), (u 60), (u 61), (u 62), (u 63), (u 64), (u 65), (u 66), (u 67), (u 68), (u 69), (u 70), (u 71), (u 72), (u 73), (u 74), (u 75), (u 76), (u 77), (u 78), (u 79), (u 80), (u 81), (u 82), (u 83), (u 84), (u 85), (u 86), (u 87), (u 88), (u 89), (u 90), (u 91), (u 92), (u 93), (u 94), (u 95), (u 96), (u 97), (u 98), (u 99), (u 100), (u 101), (u 102), (u 103), (u 104), (u 105), (u 106), (u 107), (u 108), (u 109), (u 110), (u 111), (u 112), (u 113), (u 114), (u 115), (u 116), (u 117), (u 118)], []⟩ W
  refine wpIn_seq ?_
  refine wpIn_seq ?_
  conv => arg 4; whnf
  dsimp only
  by_cases hlt : c < C
  · gi_wp2_with fail
    have hfew := esD_few HO.out.hn (n := r * C + c) (by
      have := Nat.mul_le_mul_right C (show r + 1 ≤ R by omega)
      rw [Nat.add_mul, Nat.one_mul] at this
      omega)
    have hst := esD_step HO.out.hn (r := r) (c := c) hr hlt
    refine bnet_look18 (P := P) (A := A) (D := D) (cp := cp) (ca := ca) (cd := cd) HO.out.hn hr hlt HMT.out.1 HMT.out.2 HRD.out.1 HRD.out.2.2 ?_
    intro a' w' b hB hbW hb hfr'
    have HJ2 := Lib.hid (HJ.out.keep hB HO.out.lN)
    rename_i K1 hK1
    refine hK1 _ _ ?_
    clear hK1 K1
    unfold BFr at hfr'
    obtain ⟨u', rfl⟩ := hfr'.open
    clear hfr'
    have hz := HJ.out.tch.size
    show Code.wpIn Fence.wide m Try.prog (.seq (Try.f8.sub [1, 1, 1, 1, 0, 1, 0, 0, 1, 0, 0, 1, 0, 0, 1, 0, 0, 1, 0]) (.cond (.tmp 111) (Try.f8.sub [1, 1, 1, 1, 0, 1, 0, 0, 1, 0, 0, 1, 0, 0, 1, 0, 0, 1, 1, 0]) .skip)) _ ⟨#[(u' 0), .pointer (some ⟨T0, 0, none⟩), .pointer (some ⟨R0, 0, none⟩), .pointer (some ⟨M, 0, none⟩), .pointer (some ⟨d.N, 0, none⟩), (u' 5), (u' 6), (u' 7), (u' 8), .int .i64 r, .int .i64 c, .pointer (some ⟨b, 0, none⟩), .bool (edg ph (r * C + c, (r + 1) * C + c) (gi dn (r * C + c))).isSome, (u' 13), (u' 14), (u' 15), (u' 16), (u' 17), (u' 18), (u' 19), (u' 20), (u' 21), (u' 22), (u' 23), (u' 24), (u' 25), (u' 26), (u' 27), (u' 28), (u' 29), (u' 30), (u' 31), (u' 32), (u' 33), (u' 34), (u' 35), (u' 36), (u' 37), (u' 38), (u' 39), (u' 40), (u' 41), (u' 42), (u' 43), (u' 44), (u' 45), (u' 46), (u' 47), (u' 48), (u' 49), (u' 50), (u' 51), (u' 52), (u' 53), (u' 54), (u' 55), (u' 56), (u' 57), (u' 58), (u' 59), (u' 60), (u' 61), (u' 62), (u' 63), (u' 64), (u' 65), (u' 66), (u' 67), (u' 68), (u' 69), (u' 70), (u' 71), (u' 72), (u' 73), (u' 74), (u' 75), (u' 76), (u' 77), (u' 78), (u' 79), (u' 80), (u' 81), (u' 82), (u' 83), (u' 84), (u' 85), (u' 86), (u' 87), (u' 88), (u' 89), (u' 90), (u' 91), (u' 92), (u' 93), (u' 94), (u' 95), (u' 96), (u' 97), (u' 98), (u' 99), (u' 100), (u' 101), (u' 102), (u' 103), (u' 104), (u' 105), (u' 106), (u' 107), (u' 108), (u' 109), (u' 110), (u' 111), (u' 112), (u' 113), (u' 114), (u' 115), (u' 116), (u' 117), (u' 118)], []⟩ _
    refine bnet_put18 (T0 := T0) (R0 := R0) (M := M) (r := r) (c := c) HJ2.out HO.out.lN hb (by omega) hfew ?_
    intro a2 w2 hJ2 hfr2
    rw [← hst] at hJ2
    have HJ3 := Lib.hid hJ2; clear hJ2
    unfold BFr at hfr2
    obtain ⟨u2, rfl⟩ := hfr2.open
    clear hfr2
    rename_i K hK
    refine hK _ _ ?_
    show Code.wpIn Fence.wide m Try.prog (Try.f8.sub [1, 1, 1, 1, 0, 1, 0, 0, 1, 0, 0, 1, 0, 0, 1, 1]) _ ⟨#[(u2 0), .pointer (some ⟨T0, 0, none⟩), .pointer (some ⟨R0, 0, none⟩), .pointer (some ⟨M, 0, none⟩), .pointer (some ⟨d.N, 0, none⟩), (u2 5), (u2 6), (u2 7), (u2 8), .int .i64 r, .int .i64 c, (u2 11), (u2 12), (u2 13), (u2 14), (u2 15), (u2 16), (u2 17), (u2 18), (u2 19), (u2 20), (u2 21), (u2 22), (u2 23), (u2 24), (u2 25), (u2 26), (u2 27), (u2 28), (u2 29), (u2 30), (u2 31), (u2 32), (u2 33), (u2 34), (u2 35), (u2 36), (u2 37), (u2 38), (u2 39), (u2 40), (u2 41), (u2 42), (u2 43), (u2 44), (u2 45), (u2 46), (u2 47), (u2 48), (u2 49), (u2 50), (u2 51), (u2 52), (u2 53), (u2 54), (u2 55), (u2 56), (u2 57), (u2 58), (u2 59), (u2 60), (u2 61), (u2 62), (u2 63), (u2 64), (u2 65), (u2 66), (u2 67), (u2 68), (u2 69), (u2 70), (u2 71), (u2 72), (u2 73), (u2 74), (u2 75), (u2 76), (u2 77), (u2 78), (u2 79), (u2 80), (u2 81), (u2 82), (u2 83), (u2 84), (u2 85), (u2 86), (u2 87), (u2 88), (u2 89), (u2 90), (u2 91), (u2 92), (u2 93), (u2 94), (u2 95), (u2 96), (u2 97), (u2 98), (u2 99), (u2 100), (u2 101), (u2 102), (u2 103), (u2 104), (u2 105), (u2 106), (u2 107), (u2 108), (u2 109), (u2 110), (u2 111), (u2 112), (u2 113), (u2 114), (u2 115), (u2 116), (u2 117), (u2 118)], []⟩ _
    conv => arg 4; whnf
    dsimp only
    gi_wp2_with fail
    refine ⟨⟨c + 1, by omega, HJ3.out, by unfold BFr; (refine ⟨rfl, rfl, ?_⟩; repeat (first | exact trivial | refine ⟨rfl, ?_⟩))⟩, ?_⟩
    show C - ((c : Int) + 1).toNat < mu
    omega
  · gi_wp2_with fail
    have : c = C := by omega
    subst this
    refine HQ.out _ _ ?_ (by unfold BFr; (refine ⟨rfl, rfl, ?_⟩; repeat (first | exact trivial | refine ⟨rfl, ?_⟩)))
    have h := HJ.out
    rw [show r * c + c = (r + 1) * c by rw [Nat.add_mul]; omega] at h
    exact h
end Go.Proofs.Ytjnpchoinncbnaa
end

section
set_option linter.unusedSimpArgs false
set_option linter.unusedVariables false
namespace Go.Proofs.Ytjnpchoinncbnaa
open Go.RowKit Sw Fam
theorem alloc4 (w : World) (o0 o1 o2 o3 : Obj) {W : World} (h : W = (((w.alloc o0).alloc o1).alloc o2).alloc o3) :
    W.heap.size = w.heap.size + 4 ∧ W.heap[w.heap.size]? = some o0 ∧ W.heap[w.heap.size + 1]? = some o1 ∧ W.heap[w.heap.size + 2]? = some o2 ∧ W.heap[w.heap.size + 3]? = some o3 ∧ Below w.heap.size w W := by
  obtain ⟨h0, h1, h2, h3, h5⟩ := alloc3 w o0 o1 o2 (W := ((w.alloc o0).alloc o1).alloc o2) rfl
  subst h
  generalize hV : ((w.alloc o0).alloc o1).alloc o2 = V at *
  have e3 := World.alloc_heap_new V o3
  rw [h0] at e3
  refine ⟨by simp only [World.size_alloc]; omega, ?_, ?_, ?_, e3, h5.alloc (by omega) _⟩
  · rw [Below.heap_alloc _ _ _ (by omega)]; exact h1
  · rw [Below.heap_alloc _ _ _ (by omega)]; exact h2
  · rw [Below.heap_alloc _ _ _ (by omega)]; exact h3

def BOut9 (W5 : World) (d : NetD) (T0 R0 M R C : Nat) (ph ac dn : List Int) (a : Act) (W : World) : Prop :=
  ∃ r : Nat, r ≤ R ∧ NetJ W5 d (eds ph (sdA C (r * C)) (ac ++ dn)) W ∧ BFr T0 R0 M d.N [(5, .int .i64 r)] a
set_option maxHeartbeats 4000000 in
set_option maxRecDepth 100000 in
theorem bnet_out9 {m T0 R0 M R C : Nat} {d : NetD} {ph ac dn : List Int} {P A D : Option Addr} {cp ca cd : Nat} {W5 : World} {Q : Exit → Act → World → Prop}
    (hok : BOk W5 d T0 M R C ph ac dn P A D cp ca cd) {a : Act} {W : World} (h0 : BOut9 W5 d T0 R0 M R C ph ac dn a W)
    (hQ : ∀ a' w', NetJ W5 d (eds ph (sdA C (R * C)) (ac ++ dn)) w' → BFr T0 R0 M d.N [] a' → Q .normal a' w') :
    Code.wpIn Fence.wide m Try.prog (.loop (Try.f8.sub [1, 1, 1, 0, 1, 0, 0])) (Exit.inBlock 0 Q) a W := by
  have HQ := Lib.hid hQ; clear hQ
  have HO := Lib.hid hok; clear hok
  refine wpIn_loop (BOut9 W5 d T0 R0 M R C ph ac dn) (fun a _ => R - (intOf (a.tmps.getD 5 undef)).toNat) h0 ?_
  clear h0 a W
  rintro a W ⟨r, hr, hJ, hfr⟩
  unfold BFr at hfr
  obtain ⟨u, rfl⟩ := hfr.open
  clear hfr
  have HJ := Lib.hid hJ
  have hTM := hJ.tch
  generalize hmu : R - (intOf ((⟨frL 119 _ u, []⟩ : Act).tmps.getD 5 undef)).toNat = mu
  have hmu' : R - r = mu := by rw [← hmu]; rfl
  clear hmu
  have hMW := (hTM.block M (Array.getElem?_eq_some_iff.1 HO.out.hM).1 (by simpa using HO.out.mN)).trans HO.out.hM
  have m0 : W.cell? ⟨M, 0, none⟩ = some (.int .i64 R) := block_cell hMW (j := 0) (by simp)
  have hC := HO.out.hn.hC
  have hR := HO.out.hn.hR
  clear hJ hTM hMW
  show Code.wpIn Fence.wide m Try.prog (.seq (.seq (Try.f8.sub [1, 1, 1, 0, 1, 0, 0, 0, 0]) (.cond (.tmp 24) .skip (.exit 0))) (.seq (.block 1 (.seq (Try.f8.sub [1, 1, 1, 0, 1, 0, 0, 1, 0, 0, 0]) (.block 2 (.loop (Try.f8.sub [1, 1, 1, 0, 1, 0, 0, 1, 0, 0, 1, 0, 0]))))) (Try.f8.sub [1, 1, 1, 0, 1, 0, 0, 1, 1]))) _ ⟨#[(u 0), .pointer (some ⟨T0, 0, none⟩), .pointer (some ⟨R0, 0, none⟩), .pointer (some ⟨M, 0, none⟩), .pointer (some ⟨d.N, 0, none⟩), .int .i64 r, (u 6), (u 7), (u 8), (u 9), (u 10), (u 11), (u 12), (u 13), (u 14), (u 15), (u 16), (u 17), (u 18), (u 19), (u 20), (u 21), (u 22), (u 23), (u 24), (u 25), (u 26), (u 27), (u 28), (u 29), (u 30), (u 31), (u 32), (u 33), (u 34), (u 35), (u 36), (u 37), (u 38), (u 39), (u 40), (u 41), (u 42), (u 43), (u 44), (u 45), (u 46), (u 47), (u 48), (u 49), (u 50), (u 51), (u 52), (u 53), (u 54), (u 55), (u 56), (u 57), (u 58), (u 59), (u 60), (u 61), (u 62), (u 63), (u 64), (u 65), (u 66), (u 67), (u 68), (u 69), (u 70), (u 71), (u 72), (u 73), (u 74), (u 75), (u 76), (u 77), (u 78), (u 79), (u 80), (u 81), (u 82), (u 83), (u 84), (u 85), (u 86), (u 87), (u 88), (u 89), (u 90), (u 91), (u 92), (u 93), (u 94), (u 95), (u 96), (u 97), (u 98), (u 99), (u 100), (u 101), (u 102), (u 103), (u 104), (u 105), (u 106), (u 107), (u 108), (u 109), (u 110), (u 111), (u 112), (u 113), (u 114), (u 115), (u 116), (u 117), (u 118)], []⟩ W
  refine wpIn_seq ?_
  refine wpIn_seq ?_
  conv => arg 4; whnf
  dsimp only
  by_cases hlt : r < R
  · gi_wp2_with fail
    conv => arg 4; whnf
    gi_wp2_with fail
    refine bnet_in9 HO.out hlt ⟨0, Nat.zero_le _, HJ.out, by unfold BFr; (refine ⟨rfl, rfl, ?_⟩; repeat (first | exact trivial | refine ⟨rfl, ?_⟩))⟩ ?_
    intro a2 w2 hJ2 hfr2
    have HJ3 := Lib.hid hJ2; clear hJ2
    unfold BFr at hfr2
    obtain ⟨u2, rfl⟩ := hfr2.open
    clear hfr2
    rename_i K hK
    refine hK _ _ ?_
    show Code.wpIn Fence.wide m Try.prog (Try.f8.sub [1, 1, 1, 0, 1, 0, 0, 1, 1]) _ ⟨#[(u2 0), .pointer (some ⟨T0, 0, none⟩), .pointer (some ⟨R0, 0, none⟩), .pointer (some ⟨M, 0, none⟩), .pointer (some ⟨d.N, 0, none⟩), .int .i64 r, (u2 6), (u2 7), (u2 8), (u2 9), (u2 10), (u2 11), (u2 12), (u2 13), (u2 14), (u2 15), (u2 16), (u2 17), (u2 18), (u2 19), (u2 20), (u2 21), (u2 22), (u2 23), (u2 24), (u2 25), (u2 26), (u2 27), (u2 28), (u2 29), (u2 30), (u2 31), (u2 32), (u2 33), (u2 34), (u2 35), (u2 36), (u2 37), (u2 38), (u2 39), (u2 40), (u2 41), (u2 42), (u2 43), (u2 44), (u2 45), (u2 46), (u2 47), (u2 48), (u2 49), (u2 50), (u2 51), (u2 52), (u2 53), (u2 54), (u2 55), (u2 56), (u2 57), (u2 58), (u2 59), (u2 60), (u2 61), (u2 62), (u2 63), (u2 64), (u2 65), (u2 66), (u2 67), (u2 68), (u2 69), (u2 70), (u2 71), (u2 72), (u2 73), (u2 74), (u2 75), (u2 76), (u2 77), (u2 78), (u2 79), (u2 80), (u2 81), (u2 82), (u2 83), (u2 84), (u2 85), (u2 86), (u2 87), (u2 88), (u2 89), (u2 90), (u2 91), (u2 92), (u2 93), (u2 94), (u2 95), (u2 96), (u2 97), (u2 98), (u2 99), (u2 100), (u2 101), (u2 102), (u2 103), (u2 104), (u2 105), (u2 106), (u2 107), (u2 108), (u2 109), (u2 110), (u2 111), (u2 112), (u2 113), (u2 114), (u2 115), (u2 116), (u2 117), (u2 118)], []⟩ _
    conv => arg 4; whnf
    dsimp only
    gi_wp2_with fail
    refine ⟨⟨r + 1, by omega, HJ3.out, by unfold BFr; (refine ⟨rfl, rfl, ?_⟩; repeat (first | exact trivial | refine ⟨rfl, ?_⟩))⟩, ?_⟩
    show R - ((r : Int) + 1).toNat < mu
    omega
  · gi_wp2_with fail
    have : r = R := by omega
    subst this
    refine HQ.out _ _ ?_ (by unfold BFr; (refine ⟨rfl, rfl, ?_⟩; repeat (first | exact trivial | refine ⟨rfl, ?_⟩)))
    have h := HJ.out
    skip
    exact h

def BOut18 (W5 : World) (d : NetD) (T0 R0 M R C : Nat) (ph ac dn : List Int) (a : Act) (W : World) : Prop :=
  ∃ r : Nat, r ≤ (R - 1) ∧ NetJ W5 d (eds ph (sdA C (R * C) ++ sdD R C (r * C)) (ac ++ dn)) W ∧ BFr T0 R0 M d.N [(9, .int .i64 r)] a
set_option maxHeartbeats 4000000 in
set_option maxRecDepth 100000 in
theorem bnet_out18 {m T0 R0 M R C : Nat} {d : NetD} {ph ac dn : List Int} {P A D : Option Addr} {cp ca cd : Nat} {W5 : World} {Q : Exit → Act → World → Prop}
    (hok : BOk W5 d T0 M R C ph ac dn P A D cp ca cd) {a : Act} {W : World} (h0 : BOut18 W5 d T0 R0 M R C ph ac dn a W)
    (hQ : ∀ a' w', NetJ W5 d (eds ph (sdl R C) (ac ++ dn)) w' → BFr T0 R0 M d.N [] a' → Q .normal a' w') :
    Code.wpIn Fence.wide m Try.prog (.loop (Try.f8.sub [1, 1, 1, 1, 0, 1, 0, 0])) (Exit.inBlock 4 Q) a W := by
  have HQ := Lib.hid hQ; clear hQ
  have HO := Lib.hid hok; clear hok
  refine wpIn_loop (BOut18 W5 d T0 R0 M R C ph ac dn) (fun a _ => R - (intOf (a.tmps.getD 9 undef)).toNat) h0 ?_
  clear h0 a W
  rintro a W ⟨r, hr, hJ, hfr⟩
  unfold BFr at hfr
  obtain ⟨u, rfl⟩ := hfr.open
  clear hfr
  have HJ := Lib.hid hJ
  have hTM := hJ.tch
  generalize hmu : R - (intOf ((⟨frL 119 _ u, []⟩ : Act).tmps.getD 9 undef)).toNat = mu
  have hmu' : R - r = mu := by rw [← hmu]; rfl
  clear hmu
  have hMW := (hTM.block M (Array.getElem?_eq_some_iff.1 HO.out.hM).1 (by simpa using HO.out.mN)).trans HO.out.hM
  have m0 : W.cell? ⟨M, 0, none⟩ = some (.int .i64 R) := block_cell hMW (j := 0) (by simp)
  have hC := HO.out.hn.hC
  have hR := HO.out.hn.hR
  clear hJ hTM hMW
  show Code.wpIn Fence.wide m Try.prog (.seq (.seq (Try.f8.sub [1, 1, 1, 1, 0, 1, 0, 0, 0, 0]) (.cond (.tmp 74) .skip (.exit 4))) (.seq (.block 5 (.seq (Try.f8.sub [1, 1, 1, 1, 0, 1, 0, 0, 1, 0, 0, 0]) (.block 6 (.loop (Try.f8.sub [1, 1, 1, 1, 0, 1, 0, 0, 1, 0, 0, 1, 0, 0]))))) (Try.f8.sub [1, 1, 1, 1, 0, 1, 0, 0, 1, 1]))) _ ⟨#[(u 0), .pointer (some ⟨T0, 0, none⟩), .pointer (some ⟨R0, 0, none⟩), .pointer (some ⟨M, 0, none⟩), .pointer (some ⟨d.N, 0, none⟩), (u 5), (u 6), (u 7), (u 8), .int .i64 r, (u 10), (u 11), (u 12), (u 13), (u 14), (u 15), (u 16), (u 17), (u 18), (u 19), (u 20), (u 21), (u 22), (u 23), (u 24), (u 25), (u 26), (u 27), (u 28), (u 29), (u 30), (u 31), (u 32), (u 33), (u 34), (u 35), (u 36), (u 37), (u 38), (u 39), (u 40), (u 41), (u 42), (u 43), (u 44), (u 45), (u 46), (u 47), (u 48), (u 49), (u 50), (u 51), (u 52), (u 53), (u 54), (u 55), (u 56), (u 57), (u 58), (u 59), (u 60), (u 61), (u 62), (u 63), (u 64), (u 65), (u 66), (u 67), (u 68), (u 69), (u 70), (u 71), (u 72), (u 73), (u 74), (u 75), (u 76), (u 77), (u 78), (u 79), (u 80), (u 81), (u 82), (u 83), (u 84), (u 85), (u 86), (u 87), (u 88), (u 89), (u 90), (u 91), (u 92), (u 93), (u 94), (u 95), (u 96), (u 97), (u 98), (u 99), (u 100), (u 101), (u 102), (u 103), (u 104), (u 105), (u 106), (u 107), (u 108), (u 109), (u 110), (u 111), (u 112), (u 113), (u 114), (u 115), (u 116), (u 117), (u 118)], []⟩ W
  refine wpIn_seq ?_
  refine wpIn_seq ?_
  conv => arg 4; whnf
  dsimp only
  by_cases hlt : r + 1 < R
  · gi_wp2_with fail
    conv => arg 4; whnf
    gi_wp2_with fail
    refine bnet_in18 HO.out hlt ⟨0, Nat.zero_le _, HJ.out, by unfold BFr; (refine ⟨rfl, rfl, ?_⟩; repeat (first | exact trivial | refine ⟨rfl, ?_⟩))⟩ ?_
    intro a2 w2 hJ2 hfr2
    have HJ3 := Lib.hid hJ2; clear hJ2
    unfold BFr at hfr2
    obtain ⟨u2, rfl⟩ := hfr2.open
    clear hfr2
    rename_i K hK
    refine hK _ _ ?_
    show Code.wpIn Fence.wide m Try.prog (Try.f8.sub [1, 1, 1, 1, 0, 1, 0, 0, 1, 1]) _ ⟨#[(u2 0), .pointer (some ⟨T0, 0, none⟩), .pointer (some ⟨R0, 0, none⟩), .pointer (some ⟨M, 0, none⟩), .pointer (some ⟨d.N, 0, none⟩), (u2 5), (u2 6), (u2 7), (u2 8), .int .i64 r, (u2 10), (u2 11), (u2 12), (u2 13), (u2 14), (u2 15), (u2 16), (u2 17), (u2 18), (u2 19), (u2 20), (u2 21), (u2 22), (u2 23), (u2 24), (u2 25), (u2 26), (u2 27), (u2 28), (u2 29), (u2 30), (u2 31), (u2 32), (u2 33), (u2 34), (u2 35), (u2 36), (u2 37), (u2 38), (u2 39), (u2 40), (u2 41), (u2 42), (u2 43), (u2 44), (u2 45), (u2 46), (u2 47), (u2 48), (u2 49), (u2 50), (u2 51), (u2 52), (u2 53), (u2 54), (u2 55), (u2 56), (u2 57), (u2 58), (u2 59), (u2 60), (u2 61), (u2 62), (u2 63), (u2 64), (u2 65), (u2 66), (u2 67), (u2 68), (u2 69), (u2 70), (u2 71), (u2 72), (u2 73), (u2 74), (u2 75), (u2 76), (u2 77), (u2 78), (u2 79), (u2 80), (u2 81), (u2 82), (u2 83), (u2 84), (u2 85), (u2 86), (u2 87), (u2 88), (u2 89), (u2 90), (u2 91), (u2 92), (u2 93), (u2 94), (u2 95), (u2 96), (u2 97), (u2 98), (u2 99), (u2 100), (u2 101), (u2 102), (u2 103), (u2 104), (u2 105), (u2 106), (u2 107), (u2 108), (u2 109), (u2 110), (u2 111), (u2 112), (u2 113), (u2 114), (u2 115), (u2 116), (u2 117), (u2 118)], []⟩ _
    conv => arg 4; whnf
    dsimp only
    gi_wp2_with fail
    refine ⟨⟨r + 1, by omega, HJ3.out, by unfold BFr; (refine ⟨rfl, rfl, ?_⟩; repeat (first | exact trivial | refine ⟨rfl, ?_⟩))⟩, ?_⟩
    show R - ((r : Int) + 1).toNat < mu
    omega
  · gi_wp2_with fail
    have : r = (R - 1) := by omega
    subst this
    refine HQ.out _ _ ?_ (by unfold BFr; (refine ⟨rfl, rfl, ?_⟩; repeat (first | exact trivial | refine ⟨rfl, ?_⟩)))
    have h := HJ.out
    rw [sdD_end hC.1 hR.1] at h
    exact h

set_option maxHeartbeats 4000000 in
set_option maxRecDepth 100000 in
theorem bnetOf_c {t : Tk} {l : TkL} {w : World} (hM : TkM w t l) {R C : Nat} (hR : t.rows = R) (hC : t.cols = C) (hN : RtN R C t.ph t.ac t.dn) :
    Calls Try.prog 8 #[TkV t l] w fun e w' => ∃ A c, e = .returned (.agg #[.int .i64 (R * C : Nat), .slice A (netOf t R C).length c]) ∧ Below w.heap.size w w' ∧ GrE w' w.heap.size A c (netOf t R C) := by
  obtain ⟨Ri, Ci, ph, ac, dn⟩ := t
  obtain ⟨P, A, D, cp, ca, cd⟩ := l
  unfold TkV netOf
  dsimp only at *
  subst hR hC
  refine callsIn_wide.1 (callsIn_of_wp_marks (n := 0) Try.func8 rfl trivial ?_ rfl)
  simp only [Try.ntmps8, List.size_toArray, List.length_cons, List.length_nil, Nat.reduceAdd, Nat.reduceSub, Array.replicate_succ, Array.replicate_zero, List.push_toArray, List.append_toArray, List.nil_append, List.cons_append]
  have HM := Lib.hid hM; clear hM
  have HN := Lib.hid hN; clear hN
  have hb1 : 0 ≤ (R : Int) * C ∧ (R : Int) * C ≤ 4096 := mul_64 (by have := HN.out.hR; omega) (by have := HN.out.hC; omega)
  show Code.wpIn Fence.wide 0 Try.prog (.seq (Try.f8.sub [0]) (.seq (Try.f8.sub [1, 0]) (.seq (Try.f8.sub [1, 1, 0]) (.seq (.seq (Try.f8.sub [1, 1, 1, 0, 0]) (.block 0 (.loop (Try.f8.sub [1, 1, 1, 0, 1, 0, 0])))) (.seq (.seq (Try.f8.sub [1, 1, 1, 1, 0, 0]) (.block 4 (.loop (Try.f8.sub [1, 1, 1, 1, 0, 1, 0, 0])))) (Try.f8.sub [1, 1, 1, 1, 1])))))) _ _ _
  refine wpIn_seq ?_
  conv => arg 4; whnf
  gi_wp2_with fail
  conv => arg 4; whnf
  gi_wp2_with fail
  conv => arg 4; whnf
  gi_wp2_with fail
  conv => arg 4; whnf
  gi_wp2_with fail
  refine nameW ?_
  intro w4 hw4
  obtain ⟨hz4, hT4, hR4, hM4, hN4, hB4⟩ := alloc4 w _ _ _ _ hw4
  clear hw4
  have hlpos : ∀ (A : Option Addr) (xs : List Int), RdI w A xs → ∀ W, Tch [w.heap.size + 3] w4 W → RdI W A xs := fun A xs h W hT j hj => by
    obtain ⟨b, o, e1, e2⟩ := h j hj
    have hlt := World.block_lt_of_cell? _ _ e2
    simp only at hlt
    exact ⟨b, o, e1, hT.cell (by simp; omega) (cellB hB4 e2)⟩
  have hok : BOk w4 ⟨w.heap.size + 3, 0, 0, none, 0, none, 0, (R : Int) * C, [], []⟩ w.heap.size (w.heap.size + 2) R C ph ac dn P A D cp ca cd := by
    refine ⟨HN.out, hM4, hT4, fun W hT => ⟨hlpos _ _ HM.out.p W hT, hlpos _ _ HM.out.a W hT, hlpos _ _ HM.out.d W hT⟩, ?_, ?_, ?_⟩
    · show w.heap.size + 2 ≠ w.heap.size + 3; omega
    · show w.heap.size ≠ w.heap.size + 3; omega
    · show w.heap.size + 3 < w4.heap.size; omega
  have HOK := Lib.hid hok; clear hok hlpos
  have H4 := Lib.hid (And.intro hR4 hB4)
  refine bnet_out9 (T0 := w.heap.size) (R0 := w.heap.size + 1) (M := w.heap.size + 2) HOK.out ⟨0, Nat.zero_le _, ?_, by unfold BFr; (refine ⟨rfl, rfl, ?_⟩; repeat (first | exact trivial | refine ⟨rfl, ?_⟩))⟩ ?_
  · have : eds ph (sdA C (0 * C)) (ac ++ dn) = [] := by simp [sdA_zero, eds_nil]
    rw [this]; exact ⟨Tch.refl _ _, none, 0, hN4, GrF.start _ _⟩
  clear hT4 hR4 hM4 hN4 hB4
  intro a2 w5 hJ5 hfr5
  have HJ5 := Lib.hid hJ5; clear hJ5
  unfold BFr at hfr5
  obtain ⟨u5, rfl⟩ := hfr5.open
  clear hfr5
  rename_i K hK
  refine hK _ _ ?_
  clear hK K
  show Code.wpIn Fence.wide 0 Try.prog (.seq (.seq (Try.f8.sub [1, 1, 1, 1, 0, 0]) (.block 4 (.loop (Try.f8.sub [1, 1, 1, 1, 0, 1, 0, 0])))) (Try.f8.sub [1, 1, 1, 1, 1])) _ ⟨#[(u5 0), .pointer (some ⟨w.heap.size, 0, none⟩), .pointer (some ⟨w.heap.size + 1, 0, none⟩), .pointer (some ⟨w.heap.size + 2, 0, none⟩), .pointer (some ⟨w.heap.size + 3, 0, none⟩), (u5 5), (u5 6), (u5 7), (u5 8), (u5 9), (u5 10), (u5 11), (u5 12), (u5 13), (u5 14), (u5 15), (u5 16), (u5 17), (u5 18), (u5 19), (u5 20), (u5 21), (u5 22), (u5 23), (u5 24), (u5 25), (u5 26), (u5 27), (u5 28), (u5 29), (u5 30), (u5 31), (u5 32), (u5 33), (u5 34), (u5 35), (u5 36), (u5 37), (u5 38), (u5 39), (u5 40), (u5 41), (u5 42), (u5 43), (u5 44), (u5 45), (u5 46), (u5 47), (u5 48), (u5 49), (u5 50), (u5 51), (u5 52), (u5 53), (u5 54), (u5 55), (u5 56), (u5 57), (u5 58), (u5 59), (u5 60), (u5 61), (u5 62), (u5 63), (u5 64), (u5 65), (u5 66), (u5 67), (u5 68), (u5 69), (u5 70), (u5 71), (u5 72), (u5 73), (u5 74), (u5 75), (u5 76), (u5 77), (u5 78), (u5 79), (u5 80), (u5 81), (u5 82), (u5 83), (u5 84), (u5 85), (u5 86), (u5 87), (u5 88), (u5 89), (u5 90), (u5 91), (u5 92), (u5 93), (u5 94), (u5 95), (u5 96), (u5 97), (u5 98), (u5 99), (u5 100), (u5 101), (u5 102), (u5 103), (u5 104), (u5 105), (u5 106), (u5 107), (u5 108), (u5 109), (u5 110), (u5 111), (u5 112), (u5 113), (u5 114), (u5 115), (u5 116), (u5 117), (u5 118)], []⟩ _
  refine wpIn_seq ?_
  refine wpIn_seq ?_
  conv => arg 4; whnf
  dsimp only
  gi_wp2_with fail
  refine bnet_out18 (T0 := w.heap.size) (R0 := w.heap.size + 1) (M := w.heap.size + 2) HOK.out ⟨0, Nat.zero_le _, ?_, by unfold BFr; (refine ⟨rfl, rfl, ?_⟩; repeat (first | exact trivial | refine ⟨rfl, ?_⟩))⟩ ?_
  · have : sdA C (R * C) ++ sdD R C (0 * C) = sdA C (R * C) := by simp [sdD_zero]
    rw [this]; exact HJ5.out
  intro a3 w6 hJ6 hfr6
  clear HJ5
  unfold BFr at hfr6
  obtain ⟨u6, rfl⟩ := hfr6.open
  clear hfr6
  have hT6 := hJ6.tch
  obtain ⟨A', c', hN6, hG6⟩ := hJ6.net
  dsimp only at hN6 hG6 hT6
  have hz6 := hT6.size
  have hR6 := (hT6.block (w.heap.size + 1) (by omega) (by simp)).trans H4.out.1
  have hB6 : Below w.heap.size w w6 := ⟨hT6.os.trans H4.out.2.os, hT6.tape.trans H4.out.2.tape, hT6.output.trans H4.out.2.output, by omega, fun b hb => (hT6.block b (by omega) (by simp; omega)).trans (H4.out.2.block b hb)⟩
  generalize hee : eds ph (sdl R C) (ac ++ dn) = es at *
  have n0 : w6.cell? ⟨w.heap.size + 3, 0, none⟩ = some (.int .i64 ((R : Int) * C)) := block_cell hN6 (j := 0) (by simp)
  have n1 : w6.cell? ⟨w.heap.size + 3, 1, none⟩ = some (.slice A' es.length c') := block_cell hN6 (j := 1) (by simp)
  have r0 : w6.cell? ⟨w.heap.size + 1, 0, none⟩ = some (.int .i64 0) := block_cell hR6 (j := 0) (by simp)
  have r1 : w6.cell? ⟨w.heap.size + 1, 1, none⟩ = some (.slice none 0 0) := block_cell hR6 (j := 1) (by simp)
  have f0 : w6.frozen? ⟨w.heap.size + 1, 0, none⟩ = false := by simp [World.frozen?, hR6]
  have f1 : w6.frozen? ⟨w.heap.size + 1, 1, none⟩ = false := by simp [World.frozen?, hR6]
  have HF := Lib.hid (And.intro hR6 (And.intro hG6 hB6))
  clear hT6 hN6 hG6 hR6 hB6 hJ6
  show Code.wpIn Fence.wide 0 Try.prog (Try.f8.sub [1, 1, 1, 1, 1]) _ ⟨#[(u6 0), .pointer (some ⟨w.heap.size, 0, none⟩), .pointer (some ⟨w.heap.size + 1, 0, none⟩), .pointer (some ⟨w.heap.size + 2, 0, none⟩), .pointer (some ⟨w.heap.size + 3, 0, none⟩), (u6 5), (u6 6), (u6 7), (u6 8), (u6 9), (u6 10), (u6 11), (u6 12), (u6 13), (u6 14), (u6 15), (u6 16), (u6 17), (u6 18), (u6 19), (u6 20), (u6 21), (u6 22), (u6 23), (u6 24), (u6 25), (u6 26), (u6 27), (u6 28), (u6 29), (u6 30), (u6 31), (u6 32), (u6 33), (u6 34), (u6 35), (u6 36), (u6 37), (u6 38), (u6 39), (u6 40), (u6 41), (u6 42), (u6 43), (u6 44), (u6 45), (u6 46), (u6 47), (u6 48), (u6 49), (u6 50), (u6 51), (u6 52), (u6 53), (u6 54), (u6 55), (u6 56), (u6 57), (u6 58), (u6 59), (u6 60), (u6 61), (u6 62), (u6 63), (u6 64), (u6 65), (u6 66), (u6 67), (u6 68), (u6 69), (u6 70), (u6 71), (u6 72), (u6 73), (u6 74), (u6 75), (u6 76), (u6 77), (u6 78), (u6 79), (u6 80), (u6 81), (u6 82), (u6 83), (u6 84), (u6 85), (u6 86), (u6 87), (u6 88), (u6 89), (u6 90), (u6 91), (u6 92), (u6 93), (u6 94), (u6 95), (u6 96), (u6 97), (u6 98), (u6 99), (u6 100), (u6 101), (u6 102), (u6 103), (u6 104), (u6 105), (u6 106), (u6 107), (u6 108), (u6 109), (u6 110), (u6 111), (u6 112), (u6 113), (u6 114), (u6 115), (u6 116), (u6 117), (u6 118)], []⟩ _
  conv => arg 4; whnf
  dsimp only
  gi_wp2_with fail
  refine nameQ ?_
  intro W8 hW8
  obtain ⟨hR6, hG6, hB6⟩ := HF.out
  have hb8 : ∀ b, b ≠ w.heap.size + 1 → W8.heap[b]? = w6.heap[b]? := fun b hb => by
    rw [hW8]; exact (Below.heap_setCell _ _ _ b hb).trans (Below.heap_setCell _ _ _ b hb)
  have hB8 : Below w.heap.size w W8 := by rw [hW8]; exact (hB6.setCell (show w.heap.size ≤ w.heap.size + 1 by omega) _).setCell (show w.heap.size ≤ w.heap.size + 1 by omega) _
  have hR8 : W8.heap[w.heap.size + 1]? = some (.cells #[.int .i64 ((R : Int) * C), .slice A' es.length c'] 37 (0, 0)) := by
    rw [hW8]
    have s1 := heap_setCell_same w6 (w.heap.size + 1) 0 _ _ (.int .i64 ((R : Int) * C)) hR6
    exact heap_setCell_same _ (w.heap.size + 1) 1 _ _ (.slice A' es.length c') s1
  have hG8 : GrE W8 w4.heap.size A' c' es := hG6.move fun b hb => hb8 b (by have := (hG6.lt hb).1; omega)
  show LeavesInM Fence.wide 0 Try.prog _ _ _ (([] : List Nat).map rfMark) .returning W8
  refine leaves_marks [] W8 ⟨by simp, fun D hD => by cases hD⟩ ?_
  intro w' k1 k2 k3 k4 k5
  have b8 := (k1 (w.heap.size + 1) (by simp)).trans hR8
  refine ⟨.agg #[.int .i64 ((R : Int) * C), .slice A' es.length c'], ?_, A', c', by rw [hee]; rfl, ?_, ?_⟩
  · refine results_cellN (b := w.heap.size + 1) (cs := [.int .i64 ((R : Int) * C), .slice A' es.length c']) Try.results8 rfl (fun j u hj => ?_) Try.underlying37 rfl (by kernel_rfl)
    obtain ⟨j1, j2⟩ := List.getElem?_eq_some_iff.1 hj
    rw [Nat.zero_add, block_cell b8 (j := j) (by simpa using j1)]
    simp [← j2]
  · exact ⟨k3.trans hB8.os, k4.trans hB8.tape, k5.trans hB8.output, by rw [k2]; exact hB8.size, fun b hb => (k1 b (by simp)).trans (hB8.block b hb)⟩
  · rw [hee]; exact (hG8.move fun b hb => k1 b (by simp)).low (by omega)
end Go.Proofs.Ytjnpchoinncbnaa
end
