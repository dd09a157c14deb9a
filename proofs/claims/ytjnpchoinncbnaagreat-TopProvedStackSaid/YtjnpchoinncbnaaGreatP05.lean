/- Proves parts of the statement, each under the conditions that its theorem states: SolC; SolD; The shortest ways: the nearest node that is not done; A loop over a function whose body neither breaks nor returns; the marks it leaves. -/
import Derived.Test.YtjnpchoinncbnaaGreatP04
import Derived.Test.YtjnpchoinncbnaaGreatP03
import Derived.RangeFuncNested
import Derived.RangeFuncBound
import Derived.RangeFuncCalls
import Derived.RangeFuncLeaves
import Derived.OwnWalkIn
import Derived.TacticsInMore
import Derived.LoopNIn
import Derived.LoopIn
import Derived.BigRegionIn
set_option linter.unusedSimpArgs false
set_option linter.unusedVariables false
set_option maxHeartbeats 4000000
set_option maxRecDepth 100000
section
namespace Go.Proofs.YtjnpchoinncbnaaGreat
open Go.RowKit Sw Fam
def T1 (B : Nat) (V : Nat → Value) : Nat → World → Prop
  | 17, w => ∃ b, V 17 = .pointer (some ⟨b, 0, none⟩) ∧ B ≤ b ∧ w.heap[b]? = some (.cells #[.int .i64 0, .int .i64 0, .int .i64 0, .int .i64 0, .int .i64 0] 124 (0, 0))
  | _, _ => True
theorem T1_ok (B : Nat) (ops : Array Oper) : GrT ops (T1 B) := by
  constructor
  · intro V j w w' h hb
    unfold T1 at h ⊢
    split
    · obtain ⟨b, h1, h2, h3⟩ := h
      exact ⟨b, h1, h2, (hb.block b (Array.getElem?_eq_some_iff.1 h3).1).trans h3⟩
    · trivial
  · intro L V w i u j hi hc hj h
    unfold T1 at h ⊢
    split
    · obtain ⟨b, h1, h2⟩ := h
      have : (17 : Nat) ≠ i := fun e => by rw [← e, hj] at hi; cases hi
      exact ⟨b, by rw [setV_ne _ _ this]; exact h1, h2⟩
    · trivial
theorem arcs1_make {m C sb S X i et M : Nat} {ej xi : Int} {ek : Nat} {W : World} {Q : Exit → Act → World → Prop} {u0 u2 u3 u4 u7 u8 u9 u10 u11 u12 u13 u14 u15 u16 u17 u18 u19 u20 u21 u22 u23 u24 u25 u26 u27 u28 u29 u30 u31 u32 u33 u34 u35 u36 u37 u38 u39 u40 u41 u42 u43 u44 u45 u46 u47 u48 u49 u50 u51 u52 u53 u54 u55 u56 u57 u58 u59 u60 u61 u62 u63 u64 u65 u66 u67 u68 u69 u70 u71 u72 u73 u74 u75 : Value}
    (s0 : W.cell? ⟨sb, 0, none⟩ = some (.pointer (some ⟨S, 0, none⟩)))
    (s1 : W.cell? ⟨S, 2, none⟩ = some (.slice (some ⟨X, 0, none⟩) M M)) (hi : i < M) (xc : W.cell? ⟨X, i, none⟩ = some (.int .i64 xi)) (xb : -1000 ≤ xi ∧ xi ≤ 1000) (kb : ek ≤ 1000) (jb : -1000 ≤ ej ∧ ej ≤ 1000)
    (t1 : W.cell? ⟨C, 1, none⟩ = some (.int .i64 et)) (t2 : W.cell? ⟨C, 2, none⟩ = some (.int .i64 ej)) (t3 : W.cell? ⟨C, 3, none⟩ = some (.int .i64 ek))
    (hQ : ∀ B v29 v30 v31 v32 v33 v34 v35 v36 v37 v38 v39 v40 v41 v42 v43 v44 v45 w', W.heap.size ≤ B → Below W.heap.size W w' → (∀ i, w'.frozen? ⟨B, i, none⟩ = false) →
      w'.cell? ⟨B, 0, none⟩ = some (.int .i64 i) → w'.cell? ⟨B, 1, none⟩ = some (.int .i64 et) → w'.cell? ⟨B, 2, none⟩ = some (.int .i64 1) → w'.cell? ⟨B, 3, none⟩ = some (.int .i64 (ek - xi)) → w'.cell? ⟨B, 4, none⟩ = some (.int .i64 (-ej)) →
      Q .normal ⟨#[u0, .pointer (some ⟨sb, 0, none⟩), u2, u3, u4, .int .i64 i, .pointer (some ⟨C, 0, none⟩), .pointer (some ⟨B, 0, none⟩), u8, u9, u10, u11, u12, u13, u14, u15, u16, u17, u18, u19, u20, u21, u22, u23, u24, u25, u26, u27, u28, v29, v30, v31, v32, v33, v34, v35, v36, v37, v38, v39, v40, v41, v42, v43, v44, v45, u46, u47, u48, u49, u50, u51, u52, u53, u54, u55, u56, u57, u58, u59, u60, u61, u62, u63, u64, u65, u66, u67, u68, u69, u70, u71, u72, u73, u74, u75], []⟩ w') :
    Code.wpIn Fence.wide m Tryz.prog (Tryz.f102.sub [1, 0, 0, 1, 1, 0, 0, 1, 1, 0]) Q ⟨#[u0, .pointer (some ⟨sb, 0, none⟩), u2, u3, u4, .int .i64 i, .pointer (some ⟨C, 0, none⟩), u7, u8, u9, u10, u11, u12, u13, u14, u15, u16, u17, u18, u19, u20, u21, u22, u23, u24, u25, u26, u27, u28, u29, u30, u31, u32, u33, u34, u35, u36, u37, u38, u39, u40, u41, u42, u43, u44, u45, u46, u47, u48, u49, u50, u51, u52, u53, u54, u55, u56, u57, u58, u59, u60, u61, u62, u63, u64, u65, u66, u67, u68, u69, u70, u71, u72, u73, u74, u75], []⟩ W := by
  conv => arg 4; whnf
  dsimp only
  have HQ := Lib.hid hQ; clear hQ
  obtain ⟨xb1, xb2⟩ := xb
  obtain ⟨jb1, jb2⟩ := jb
  refine regionIn_rel (.inl rfl) (by kernel_rfl) (by kernel_rfl) (by kernel_rfl) (GrC W.heap.size W (fun L => L 18) (T1 W.heap.size) (fun V w' => ∃ w0 b, V 17 = .pointer (some ⟨b, 0, none⟩) ∧ W.heap.size ≤ b ∧ Below W.heap.size W w0 ∧ w0.heap[b]? = some (.cells #[.int .i64 0, .int .i64 0, .int .i64 0, .int .i64 0, .int .i64 0] 124 (0, 0)) ∧ w' = w0.setCells b 0 [.int .i64 i, .int .i64 et, .int .i64 1, .int .i64 (ek - xi), .int .i64 (-ej)])) (GrC.start rfl (Below.refl _ _).drew) ?_
  (repeat (first | (refine relq rfl rfl (by (first | (exact fun _ _ _ h => GrC.up (fun L => upd_ne _ (by decide)) (fun _ _ => trivial) h) | (exact fun _ _ _ h => GrC.up (fun L => rfl) (fun _ _ => trivial) h) | (exact fun _ _ _ h => Lst.up (by decide) h) | (exact fun _ _ _ h => h))) (fun K hK => ?_); go_big_quiet_op; (refine hK _ ?_; clear hK K)) | (refine relk_nil rfl _ rfl _ rfl (by (first | (exact fun _ _ _ h => GrC.up (fun L => upd_ne _ (by decide)) (fun _ _ => trivial) h) | (exact fun _ _ _ h => GrC.up (fun L => rfl) (fun _ _ => trivial) h) | (exact fun _ _ _ h => Lst.up (by decide) h) | (exact fun _ _ _ h => h))) (fun K hK => ?_); simp only [Fam.pt]; (refine hK _ ?_; clear hK K))))
  (refine relk_val rfl _ (by (first | (exact fun _ _ _ h => GrC.up (fun L => upd_ne _ (by decide)) (fun _ _ => trivial) h) | (exact fun _ _ _ h => GrC.up (fun L => rfl) (fun _ _ => trivial) h) | (exact fun _ _ _ h => Lst.up (by decide) h) | (exact fun _ _ _ h => h))) (fun V L w' h1 h2 h3 hC => ex_load1 _ _ rfl _ rfl (cellB (hC.before ((ahead_last (by kernel_rfl)).1 L h1 h3)).1 t1) _ Tryz.underlying3 rfl) (fun K hK => ?_); simp only [Fam.pt]; (refine hK _ ?_; clear hK K); (repeat (first | (refine relq rfl rfl (by (first | (exact fun _ _ _ h => GrC.up (fun L => upd_ne _ (by decide)) (fun _ _ => trivial) h) | (exact fun _ _ _ h => GrC.up (fun L => rfl) (fun _ _ => trivial) h) | (exact fun _ _ _ h => Lst.up (by decide) h) | (exact fun _ _ _ h => h))) (fun K hK => ?_); go_big_quiet_op; (refine hK _ ?_; clear hK K)) | (refine relk_nil rfl _ rfl _ rfl (by (first | (exact fun _ _ _ h => GrC.up (fun L => upd_ne _ (by decide)) (fun _ _ => trivial) h) | (exact fun _ _ _ h => GrC.up (fun L => rfl) (fun _ _ => trivial) h) | (exact fun _ _ _ h => Lst.up (by decide) h) | (exact fun _ _ _ h => h))) (fun K hK => ?_); simp only [Fam.pt]; (refine hK _ ?_; clear hK K)))))
  (refine relk_val rfl _ (by (first | (exact fun _ _ _ h => GrC.up (fun L => upd_ne _ (by decide)) (fun _ _ => trivial) h) | (exact fun _ _ _ h => GrC.up (fun L => rfl) (fun _ _ => trivial) h) | (exact fun _ _ _ h => Lst.up (by decide) h) | (exact fun _ _ _ h => h))) (fun V L w' h1 h2 h3 hC => ex_load1 _ _ rfl _ rfl (cellB (hC.before ((ahead_last (by kernel_rfl)).1 L h1 h3)).1 t3) _ Tryz.underlying3 rfl) (fun K hK => ?_); simp only [Fam.pt]; (refine hK _ ?_; clear hK K); (repeat (first | (refine relq rfl rfl (by (first | (exact fun _ _ _ h => GrC.up (fun L => upd_ne _ (by decide)) (fun _ _ => trivial) h) | (exact fun _ _ _ h => GrC.up (fun L => rfl) (fun _ _ => trivial) h) | (exact fun _ _ _ h => Lst.up (by decide) h) | (exact fun _ _ _ h => h))) (fun K hK => ?_); go_big_quiet_op; (refine hK _ ?_; clear hK K)) | (refine relk_nil rfl _ rfl _ rfl (by (first | (exact fun _ _ _ h => GrC.up (fun L => upd_ne _ (by decide)) (fun _ _ => trivial) h) | (exact fun _ _ _ h => GrC.up (fun L => rfl) (fun _ _ => trivial) h) | (exact fun _ _ _ h => Lst.up (by decide) h) | (exact fun _ _ _ h => h))) (fun K hK => ?_); simp only [Fam.pt]; (refine hK _ ?_; clear hK K)))))
  (refine relk_val rfl _ (by (first | (exact fun _ _ _ h => GrC.up (fun L => upd_ne _ (by decide)) (fun _ _ => trivial) h) | (exact fun _ _ _ h => GrC.up (fun L => rfl) (fun _ _ => trivial) h) | (exact fun _ _ _ h => Lst.up (by decide) h) | (exact fun _ _ _ h => h))) (fun V L w' h1 h2 h3 hC => ex_load1 _ _ rfl _ rfl (cellB (hC.before ((ahead_last (by kernel_rfl)).1 L h1 h3)).1 s0) _ Tryz.underlying74 rfl) (fun K hK => ?_); simp only [Fam.pt]; (refine hK _ ?_; clear hK K); (repeat (first | (refine relq rfl rfl (by (first | (exact fun _ _ _ h => GrC.up (fun L => upd_ne _ (by decide)) (fun _ _ => trivial) h) | (exact fun _ _ _ h => GrC.up (fun L => rfl) (fun _ _ => trivial) h) | (exact fun _ _ _ h => Lst.up (by decide) h) | (exact fun _ _ _ h => h))) (fun K hK => ?_); go_big_quiet_op; (refine hK _ ?_; clear hK K)) | (refine relk_nil rfl _ rfl _ rfl (by (first | (exact fun _ _ _ h => GrC.up (fun L => upd_ne _ (by decide)) (fun _ _ => trivial) h) | (exact fun _ _ _ h => GrC.up (fun L => rfl) (fun _ _ => trivial) h) | (exact fun _ _ _ h => Lst.up (by decide) h) | (exact fun _ _ _ h => h))) (fun K hK => ?_); simp only [Fam.pt]; (refine hK _ ?_; clear hK K)))))
  (refine relk_val rfl _ (by (first | (exact fun _ _ _ h => GrC.up (fun L => upd_ne _ (by decide)) (fun _ _ => trivial) h) | (exact fun _ _ _ h => GrC.up (fun L => rfl) (fun _ _ => trivial) h) | (exact fun _ _ _ h => Lst.up (by decide) h) | (exact fun _ _ _ h => h))) (fun V L w' h1 h2 h3 hC => ex_load1 _ _ rfl _ rfl (cellB (hC.before ((ahead_last (by kernel_rfl)).1 L h1 h3)).1 s1) _ Tryz.underlying26 rfl) (fun K hK => ?_); simp only [Fam.pt]; (refine hK _ ?_; clear hK K); (repeat (first | (refine relq rfl rfl (by (first | (exact fun _ _ _ h => GrC.up (fun L => upd_ne _ (by decide)) (fun _ _ => trivial) h) | (exact fun _ _ _ h => GrC.up (fun L => rfl) (fun _ _ => trivial) h) | (exact fun _ _ _ h => Lst.up (by decide) h) | (exact fun _ _ _ h => h))) (fun K hK => ?_); go_big_quiet_op; (refine hK _ ?_; clear hK K)) | (refine relk_nil rfl _ rfl _ rfl (by (first | (exact fun _ _ _ h => GrC.up (fun L => upd_ne _ (by decide)) (fun _ _ => trivial) h) | (exact fun _ _ _ h => GrC.up (fun L => rfl) (fun _ _ => trivial) h) | (exact fun _ _ _ h => Lst.up (by decide) h) | (exact fun _ _ _ h => h))) (fun K hK => ?_); simp only [Fam.pt]; (refine hK _ ?_; clear hK K)))))
  (refine relk_val rfl _ (by (first | (exact fun _ _ _ h => GrC.up (fun L => upd_ne _ (by decide)) (fun _ _ => trivial) h) | (exact fun _ _ _ h => GrC.up (fun L => rfl) (fun _ _ => trivial) h) | (exact fun _ _ _ h => Lst.up (by decide) h) | (exact fun _ _ _ h => h))) (fun V L w' h1 h2 h3 hC => ex_load1 _ _ rfl _ rfl (cellB (hC.before ((ahead_last (by kernel_rfl)).1 L h1 h3)).1 xc) _ Tryz.underlying3 rfl) (fun K hK => ?_); simp only [Fam.pt]; (refine hK _ ?_; clear hK K); (repeat (first | (refine relq rfl rfl (by (first | (exact fun _ _ _ h => GrC.up (fun L => upd_ne _ (by decide)) (fun _ _ => trivial) h) | (exact fun _ _ _ h => GrC.up (fun L => rfl) (fun _ _ => trivial) h) | (exact fun _ _ _ h => Lst.up (by decide) h) | (exact fun _ _ _ h => h))) (fun K hK => ?_); go_big_quiet_op; (refine hK _ ?_; clear hK K)) | (refine relk_nil rfl _ rfl _ rfl (by (first | (exact fun _ _ _ h => GrC.up (fun L => upd_ne _ (by decide)) (fun _ _ => trivial) h) | (exact fun _ _ _ h => GrC.up (fun L => rfl) (fun _ _ => trivial) h) | (exact fun _ _ _ h => Lst.up (by decide) h) | (exact fun _ _ _ h => h))) (fun K hK => ?_); simp only [Fam.pt]; (refine hK _ ?_; clear hK K)))))
  (refine relk_val rfl _ (by (first | (exact fun _ _ _ h => GrC.up (fun L => upd_ne _ (by decide)) (fun _ _ => trivial) h) | (exact fun _ _ _ h => GrC.up (fun L => rfl) (fun _ _ => trivial) h) | (exact fun _ _ _ h => Lst.up (by decide) h) | (exact fun _ _ _ h => h))) (fun V L w' h1 h2 h3 hC => ex_load1 _ _ rfl _ rfl (cellB (hC.before ((ahead_last (by kernel_rfl)).1 L h1 h3)).1 t2) _ Tryz.underlying3 rfl) (fun K hK => ?_); simp only [Fam.pt]; (refine hK _ ?_; clear hK K); (repeat (first | (refine relq rfl rfl (by (first | (exact fun _ _ _ h => GrC.up (fun L => upd_ne _ (by decide)) (fun _ _ => trivial) h) | (exact fun _ _ _ h => GrC.up (fun L => rfl) (fun _ _ => trivial) h) | (exact fun _ _ _ h => Lst.up (by decide) h) | (exact fun _ _ _ h => h))) (fun K hK => ?_); go_big_quiet_op; (refine hK _ ?_; clear hK K)) | (refine relk_nil rfl _ rfl _ rfl (by (first | (exact fun _ _ _ h => GrC.up (fun L => upd_ne _ (by decide)) (fun _ _ => trivial) h) | (exact fun _ _ _ h => GrC.up (fun L => rfl) (fun _ _ => trivial) h) | (exact fun _ _ _ h => Lst.up (by decide) h) | (exact fun _ _ _ h => h))) (fun K hK => ?_); simp only [Fam.pt]; (refine hK _ ?_; clear hK K)))))
  refine gr_free (T1_ok _ _) (ahead_last (by kernel_rfl)) (Nat.le_refl _) rfl (fun V L w hB _ _ => ?_) ?_
  · rw [ex_alloc 124 rfl (z := .agg #[.int .i64 0, .int .i64 0, .int .i64 0, .int .i64 0, .int .i64 0]) (by kernel_rfl)]
    exact ⟨(Below.refl _ _).alloc (Nat.le_refl _) _, fun V' _ h => ⟨w.heap.size, h, hB.size, heap_alloc_new w _⟩⟩
  refine gr_last rfl rfl (fun V w hB hT => ?_) (fun j hj => by revert j; decide +kernel) rfl ?_ (by decide)
  · obtain ⟨b, h1, h2, h3⟩ := hT 17 (by decide)
    rw [ex_storeN 124 (.tmp 7) (.tmp 45) rfl b 0 #[.int .i64 i, .int .i64 et, .int .i64 1, .int .i64 (ek - xi), .int .i64 (-ej)] h1 rfl ?_ (by kernel_rfl) (by simp [Value.oneCell'])]
    · exact ⟨rfl, w, b, h1, h2, hB, h3, rfl⟩
    · exact block_there h3 (Nat.le_refl 5)
  · rintro V w' ⟨w0, b, h1, h2, h3, h4, rfl⟩
    have hc := rangeAt_setCells (w := w0) (b := b) (k := 0) (vs := [.int .i64 i, .int .i64 et, .int .i64 1, .int .i64 (ek - xi), .int .i64 (-ej)]) (fun j hj => (block_there h4 (n := 5) (by decide) j hj).1)
    rw [h1]
    refine HQ.out b _ _ _ _ _ _ _ _ _ _ _ _ _ _ _ _ _ _ h2 ?_ (fun j => ?_) (hc 0 _ rfl) (hc 1 _ rfl) (hc 2 _ rfl) (hc 3 _ rfl) (hc 4 _ rfl)
    · exact below_setCells h2 _ _ _ h3
    · rw [World.frozen?_setCells]; simp [World.frozen?, h4]
theorem arcs1_body {m l sb nb S X i u M b o b1 o1 ei ef et L L' : Nat} {ej xi : Int} {ek cA : Nat} {W : World} {R : World → Prop} {Q : Exit → Act → World → Prop} {u3 u4 u5 u6 u7 u8 u9 u10 u11 u12 u13 u15 u17 u18 u19 u20 u21 u22 u23 u24 u25 u26 u27 u28 u29 u30 u31 u32 u33 u34 u35 u36 u37 u38 u39 u40 u41 u42 u43 u44 u45 u46 u47 u48 u49 u50 u51 u52 u53 u54 u55 u56 u57 u58 u59 u60 u61 u62 u63 u64 u65 u66 u67 u68 u69 u70 u71 u72 u73 u74 u75 : Value}
    (hil : i < L) (L6 : L ≤ 600)
    (q3 : W.cell? ⟨b, o + i, none⟩ = some (.int .i64 ei))
    (s0 : W.cell? ⟨sb, 0, none⟩ = some (.pointer (some ⟨S, 0, none⟩))) (n0 : W.cell? ⟨nb, 0, none⟩ = some (.int .i64 u))
    (r1 : W.cell? ⟨S, 1, none⟩ = some (.slice (some ⟨b1, o1, none⟩) M cA)) (r2 : W.cell? ⟨S, 2, none⟩ = some (.slice (some ⟨X, 0, none⟩) M M))
    (he : ei < M) (hM : M ≤ 600)
    (e0 : W.cell? ⟨b1, o1 + ei * 4, none⟩ = some (.int .i64 ef)) (e1 : W.cell? ⟨b1, o1 + ei * 4 + 1, none⟩ = some (.int .i64 et)) (e2 : W.cell? ⟨b1, o1 + ei * 4 + 2, none⟩ = some (.int .i64 ej)) (e3 : W.cell? ⟨b1, o1 + ei * 4 + 3, none⟩ = some (.int .i64 ek))
    (xc : W.cell? ⟨X, ei, none⟩ = some (.int .i64 xi)) (xb : -1000 ≤ xi ∧ xi ≤ 1000) (kb : ek ≤ 1000) (jb : -1000 ≤ ej ∧ ej ≤ 1000)
    (hY : ∀ W' ar, Below W.heap.size W W' → ar = (if et = u then ⟨ei, ef, -1, ek + xi, ej⟩ else ⟨ei, et, 1, ek - xi, -ej⟩) → (0 < ar.room → RoundA l ar W' R) ∧ (¬ 0 < ar.room → R W'))
    (hQ : ∀ v5 v6 v7 v18 v19 v20 v21 v22 v23 v24 v25 v26 v27 v28 v29 v30 v31 v32 v33 v34 v35 v36 v37 v38 v39 v40 v41 v42 v43 v44 v45 v46 v47 v48 v49 v50 v51 v52 v53 v54 v55 v56 v57 v58 v59 v60 v61 v62 v63 v64 v65 v66 v67 v68 v69 v70 v71 v72 v73 v74 w', R w' →
      Q .normal ⟨#[.func (.yield l) #[] #[], .pointer (some ⟨sb, 0, none⟩), .pointer (some ⟨nb, 0, none⟩), u3, u4, v5, v6, v7, u8, u9, u10, u11, u12, u13, .slice (some ⟨b, o, none⟩) L L', u15, .int .i64 i, u17, v18, v19, v20, v21, v22, v23, v24, v25, v26, v27, v28, v29, v30, v31, v32, v33, v34, v35, v36, v37, v38, v39, v40, v41, v42, v43, v44, v45, v46, v47, v48, v49, v50, v51, v52, v53, v54, v55, v56, v57, v58, v59, v60, v61, v62, v63, v64, v65, v66, v67, v68, v69, v70, v71, v72, v73, v74, u75], []⟩ w') :
    Code.wpIn Fence.wide m Tryz.prog (Tryz.f102.sub [1, 0, 0, 1, 1, 0, 0]) Q ⟨#[.func (.yield l) #[] #[], .pointer (some ⟨sb, 0, none⟩), .pointer (some ⟨nb, 0, none⟩), u3, u4, u5, u6, u7, u8, u9, u10, u11, u12, u13, .slice (some ⟨b, o, none⟩) L L', u15, .int .i64 i, u17, u18, u19, u20, u21, u22, u23, u24, u25, u26, u27, u28, u29, u30, u31, u32, u33, u34, u35, u36, u37, u38, u39, u40, u41, u42, u43, u44, u45, u46, u47, u48, u49, u50, u51, u52, u53, u54, u55, u56, u57, u58, u59, u60, u61, u62, u63, u64, u65, u66, u67, u68, u69, u70, u71, u72, u73, u74, u75], []⟩ W := by
  show Code.wpIn Fence.wide m Tryz.prog (.seq (Tryz.f102.sub [1, 0, 0, 1, 1, 0, 0, 0]) (.seq (Tryz.f102.sub [1, 0, 0, 1, 1, 0, 0, 1, 0]) (.seq (Tryz.f102.sub [1, 0, 0, 1, 1, 0, 0, 1, 1, 0]) (.seq (Tryz.f102.sub [1, 0, 0, 1, 1, 0, 0, 1, 1, 1, 0]) (Tryz.f102.sub [1, 0, 0, 1, 1, 0, 0, 1, 1, 1, 1]))))) _ _ _
  have HQ := Lib.hid hQ; clear hQ
  have HY := Lib.hid hY; clear hY
  refine wpIn_seq ?_
  conv => arg 4; whnf
  dsimp only
  gi_wp2_with fail
  conv => arg 4; whnf
  have b1lt : b1 < W.heap.size := World.block_lt_of_cell? _ _ e0
  have Slt : S < W.heap.size := World.block_lt_of_cell? _ _ r1
  have sblt : sb < W.heap.size := World.block_lt_of_cell? _ _ s0
  have nblt : nb < W.heap.size := World.block_lt_of_cell? _ _ n0
  have Xlt : X < W.heap.size := World.block_lt_of_cell? _ _ xc
  gi_wp2_with fail
  refine nameW ?_
  intro W1 hW1
  have hB1 : Below W.heap.size W W1 := by rw [hW1]; exact (Below.refl _ _).alloc (Nat.le_refl _) _
  have t0 : W1.cell? ⟨W.heap.size, 0, none⟩ = some (.int .i64 ef) := by rw [hW1]; simp
  have t1 : W1.cell? ⟨W.heap.size, 1, none⟩ = some (.int .i64 et) := by rw [hW1]; simp
  have t2 : W1.cell? ⟨W.heap.size, 2, none⟩ = some (.int .i64 ej) := by rw [hW1]; simp
  have t3 : W1.cell? ⟨W.heap.size, 3, none⟩ = some (.int .i64 ek) := by rw [hW1]; simp
  have hz1 : W1.heap.size = W.heap.size + 1 := by rw [hW1]; simp
  clear hW1 e0 e1 e2 e3
  refine arcs1_make (cellB hB1 s0) (cellB hB1 r2) he (cellB hB1 xc) xb kb jb t1 t2 t3 ?_
  intro B v29 v30 v31 v32 v33 v34 v35 v36 v37 v38 v39 v40 v41 v42 v43 v44 v45 W2 hle hB2 hf a0 a1 a2 a3 a4
  rename_i K3 hK3 
  have hB12 : Below W.heap.size W W2 := hB1.trans (hB2.mono (by omega))
  refine hK3 _ _ ?_
  refine wpIn_seq ?_
  refine arcs1_turn (by omega) ⟨by omega, by omega, by omega, by omega⟩ (cellB hB12 s0) (cellB hB12 n0) (cellB hB12 r2) he (cellB hB12 xc) xb kb (cellB hB2 t0) (cellB hB2 t1) (cellB hB2 t2) (cellB hB2 t3) hf a0 a1 a2 a3 a4 ?_
  intro v46 v47 v48 v49 v50 v51 v52 v53 v54 v55 v56 v57 v58 v59 v60 v61 v62 v63 v64 v65 W3 ar har hB3 c0 c1 c2 c3 c4
  have hB13 : Below W.heap.size W W3 := hB12.trans (hB3.mono (by omega))
  obtain ⟨y1, y2⟩ := HY.out W3 ar hB13 har
  refine arcs1_tail c0 c1 c2 c3 c4 y1 (fun h => y2 (by omega)) ?_
  intro v66 v67 v68 v69 v70 v71 v72 v73 v74 W4 hR
  exact HQ.out _ _ _ _ _ _ _ _ _ _ _ _ _ _ _ _ _ _ _ _ _ _ _ _ _ _ _ _ _ _ _ _ _ _ _ _ _ _ _ _ _ _ _ _ _ _ _ _ _ _ _ _ _ _ _ _ _ _ _ _ W4 hR
def LoopA (es : List Ed) (x : List Int) (sb nb l : Nat) (J : Nat → World → Prop) (un : Nat) (d14 : Value) (a : Act) (w : World) : Prop :=
  ∃ i : Nat, i ≤ (adj es un).length ∧ J (arcsK es x un i).length w ∧ Fr 76 [(0, .func (.yield l) #[] #[]), (1, .pointer (some ⟨sb, 0, none⟩)), (2, .pointer (some ⟨nb, 0, none⟩)), (14, d14), (15, .int .i64 (adj es un).length), (16, .int .i64 i)] a
theorem arcs1_in (l : Nat) {v : Loc} {n J0 : Nat} {es : List Ed} (hg : Gd n J0 es) {x p ex : List Int} (hx : Fits es x p) (u : Nat) (hu : u < n) (sb nb : Nat) (J : Nat → World → Prop)
    (hK : ∀ k W W', J k W → Below W.heap.size W W' → J k W')
    (hS : ∀ k W, J k W → SvM W v n es x p ex ∧ W.cell? ⟨sb, 0, none⟩ = some (.pointer (some ⟨v.S, 0, none⟩)) ∧ W.cell? ⟨nb, 0, none⟩ = some (.int .i64 u))
    (hY : ∀ k W, k < (arcs es x u).length → J k W → RoundA l (ga (arcs es x u) k) W (J (k + 1))) (W : World) (h0 : J 0 W) :
    CallsIn Fence.wide 3 Tryz.prog 102 #[.func (.yield l) #[] #[], .pointer (some ⟨sb, 0, none⟩), .pointer (some ⟨nb, 0, none⟩)] W (fun e W' => (∃ r, e = .returned r) ∧ J (arcs es x u).length W') := by
  refine callsIn_of_wp Tryz.func102 rfl trivial ?_ rfl
  simp only [Tryz.ntmps102, List.size_toArray, List.length_cons, List.length_nil, Nat.reduceAdd, Nat.reduceSub, Array.replicate_succ, Array.replicate_zero, List.push_toArray, List.append_toArray, List.nil_append, List.cons_append]
  obtain ⟨hS0, hsb, hnb⟩ := hS 0 W h0
  have HSv := Lib.hid hS0; clear hS0
  have hc5 := HSv.out.c5
  obtain ⟨hr1, hr2⟩ := HSv.out.rows u hu
  have HR := Lib.hid hr2; clear hr2
  have hul : (u : Int) < n := by omega
  have hn := hg.n_le
  have hal : (adj es u).length ≤ 600 := by
    have h1 : (adj es u).length ≤ es.length := by unfold adj; exact Nat.le_trans (List.length_filter_le _ _) (by simp)
    exact Nat.le_trans h1 hg.m_le
  have HG := Lib.hid hg; clear hg
  have HFx := Lib.hid hx; clear hx
  have HKk := Lib.hid hK; clear hK
  have HSk := Lib.hid hS; clear hS
  have HYk := Lib.hid hY; clear hY
  show Code.wpIn Fence.wide 3 Tryz.prog (.seq (Tryz.f102.sub [0]) (.block 0 (.loop (Tryz.f102.sub [1, 0, 0])))) _ _ _
  refine wpIn_seq ?_
  conv => arg 4; whnf
  refine regionIn_reads (.inl rfl) (by kernel_rfl) (by kernel_rfl) (by kernel_rfl) ?_
  repeat (go_big_quiet_step (fail))
  refine wpQuiet_nil ?_
  intro _ hw'
  obtain ⟨nq, rfl⟩ := hw'
  refine wpIn_block ?_
  refine wpIn_loop (LoopA es x sb nb l J u (.slice (v.row u) (adj es u).length (v.rcap u))) (fun a _ => (adj es u).length - (intOf (a.tmps.getD 16 undef)).toNat) ⟨0, Nat.zero_le _, HKk.out 0 W _ h0 (below_drewN (Below.refl _ _) nq), by (refine ⟨rfl, rfl, ?_⟩; repeat (first | exact trivial | refine ⟨rfl, ?_⟩))⟩ ?_
  clear hsb hnb hc5 hr1 HSv HR h0
  rintro a wr ⟨i, hi, hJ, hfr⟩
  obtain ⟨t, rfl⟩ := hfr.open
  clear hfr
  obtain ⟨hS1, hsb1, hnb1⟩ := HSk.out _ _ hJ
  have HS1 := Lib.hid hS1; clear hS1
  have HJ := Lib.hid hJ; clear hJ
  generalize hmu : (adj es u).length - (intOf ((⟨frL 76 _ t, []⟩ : Act).tmps.getD 16 undef)).toNat = mu
  have hmu' : (adj es u).length - i = mu := by rw [← hmu]; rfl
  clear hmu
  show Code.wpIn Fence.wide 3 Tryz.prog (.seq (Tryz.f102.sub [1, 0, 0, 0]) (.seq (Tryz.f102.sub [1, 0, 0, 1, 0]) (.seq (.block 1 (Tryz.f102.sub [1, 0, 0, 1, 1, 0, 0])) (Tryz.f102.sub [1, 0, 0, 1, 1, 1])))) _ ⟨#[.func (.yield l) #[] #[], .pointer (some ⟨sb, 0, none⟩), .pointer (some ⟨nb, 0, none⟩), (t 3), (t 4), (t 5), (t 6), (t 7), (t 8), (t 9), (t 10), (t 11), (t 12), (t 13), .slice (v.row u) (adj es u).length (v.rcap u), .int .i64 (adj es u).length, .int .i64 i, (t 17), (t 18), (t 19), (t 20), (t 21), (t 22), (t 23), (t 24), (t 25), (t 26), (t 27), (t 28), (t 29), (t 30), (t 31), (t 32), (t 33), (t 34), (t 35), (t 36), (t 37), (t 38), (t 39), (t 40), (t 41), (t 42), (t 43), (t 44), (t 45), (t 46), (t 47), (t 48), (t 49), (t 50), (t 51), (t 52), (t 53), (t 54), (t 55), (t 56), (t 57), (t 58), (t 59), (t 60), (t 61), (t 62), (t 63), (t 64), (t 65), (t 66), (t 67), (t 68), (t 69), (t 70), (t 71), (t 72), (t 73), (t 74), (t 75)], []⟩ _
  refine wpIn_seq ?_
  conv => arg 4; whnf
  dsimp only
  by_cases hlt : i < (adj es u).length
  · gi_wp2_with fail
    conv => arg 4; whnf
    gi_wp2_with fail
    obtain ⟨he, hfu⟩ := adj_edge hlt
    obtain ⟨j1, j2⟩ := HG.out.jump _ he
    have hw1 := HG.out.wt _ he
    have hJ0 := HG.out.J_le
    have hm6 := HG.out.m_le
    obtain ⟨f1, f2⟩ := (HFx.out _ he).1
    obtain ⟨q1, q2⟩ := HS1.out.rows u hu
    obtain ⟨b, o, hAu, hb, q3⟩ := q2 i hlt
    obtain ⟨b1, o1, hA, hb1, e0, e1, e2, e3⟩ := HS1.out.ed _ he
    have hxc := HS1.out.fl.cell (j := gn (adj es u) i) (by rw [← HS1.out.lenx]; exact he)
    have r1 := HS1.out.c1
    rw [hA] at r1
    rw [hAu]
    rename_i K4 hK4
    refine arcs1_body (R := J (arcsK es x u (i + 1)).length) hlt hal q3 hsb1 hnb1 r1 HS1.out.c2 he hm6 e0 e1 e2 e3 hxc ⟨by omega, by omega⟩ hw1 ⟨by omega, by omega⟩ ?_ ?_
    · intro W' ar hB har
      have hJ' := HKk.out _ _ _ HJ.out hB
      rw [arcsK_succ hlt]
      rw [show ar = arcAt es x u (gn (adj es u) i) from har]
      refine ⟨fun hr => ?_, fun hr => ?_⟩
      · obtain ⟨k1, k2⟩ := arcsK_here hlt hr
        rw [if_pos hr, List.length_append, ← k2]
        exact HYk.out _ W' k1 hJ'
      · rw [if_neg hr, List.append_nil]; exact hJ'
    · intros
      rename_i w3 hJ3
      have HJ3 := Lib.hid hJ3; clear hJ3
      refine hK4 _ _ ?_
      conv => arg 4; whnf
      dsimp only
      gi_wp2_with fail
      refine ⟨⟨i + 1, by omega, HJ3.out, rfl, rfl, rfl, rfl, rfl, by rw [hAu]; rfl, rfl, rfl, trivial⟩, ?_⟩
      show (adj es u).length - ((i : Int) + 1).toNat < mu
      omega
  · gi_wp2_with fail
    conv => arg 4; whnf
    gi_wp2_with fail
    go_end0
    refine ⟨⟨_, rfl⟩, ?_⟩
    have : i = (adj es u).length := by omega
    subst this
    rw [← arcsK_all]; exact HJ.out
structure TourM (w : World) (tb lb ab bb db n : Nat) (l : List Int) (last : List Ar) (bef : List Nat) (done : List Bool) : Prop where
  blk : w.heap[tb]? = some (.cells #[.slice (some ⟨lb, 0, none⟩) n n, .slice (some ⟨ab, 0, none⟩) n n, .slice (some ⟨bb, 0, none⟩) n n] 121 (0, 0))
  len : IntB w lb l
  lst : FlB encA 124 w ab last
  bfr : IntB w bb (bef.map Int.ofNat)
  dn : BoolB w db done
  ll : l.length = n
  la : last.length = n
  lb' : bef.length = n
  ld : done.length = n
  lbb : lb ≠ bb
section
variable {w : World} {tb lb ab bb db n : Nat} {l : List Int} {last : List Ar} {bef : List Nat} {done : List Bool}
theorem TourM.keep {w' : World} (h : TourM w tb lb ab bb db n l last bef done) (hb : Below w.heap.size w w') : TourM w' tb lb ab bb db n l last bef done :=
  ⟨(hb.block _ (Array.getElem?_eq_some_iff.1 h.blk).1).trans h.blk, h.len.keep hb, FlB.keep h.lst hb, h.bfr.keep hb, FlB.keep h.dn hb, h.ll, h.la, h.lb', h.ld, h.lbb⟩
theorem TourM.c0 (h : TourM w tb lb ab bb db n l last bef done) : w.cell? ⟨tb, 0, none⟩ = some (.slice (some ⟨lb, 0, none⟩) n n) := by simp [World.cell?, h.blk]
theorem TourM.c1 (h : TourM w tb lb ab bb db n l last bef done) : w.cell? ⟨tb, 1, none⟩ = some (.slice (some ⟨ab, 0, none⟩) n n) := by simp [World.cell?, h.blk]
theorem TourM.c2 (h : TourM w tb lb ab bb db n l last bef done) : w.cell? ⟨tb, 2, none⟩ = some (.slice (some ⟨bb, 0, none⟩) n n) := by simp [World.cell?, h.blk]
end
structure MinK (n : Nat) (l : List Int) (done : List Bool) (i : Nat) (k : Int) : Prop where
  lo : -1 ≤ k
  hi : k < n
  none : k = -1 → ∀ v, v < i → gb done v = false → ¬ gi l v < far
  some : 0 ≤ k → gb done k.toNat = false ∧ gi l k.toNat < far ∧ ∀ v, v < i → gb done v = false → gi l v < far → gi l k.toNat ≤ gi l v
theorem MinK.skip {n : Nat} {l : List Int} {done : List Bool} {i : Nat} {k : Int} (h : MinK n l done i k) (hs : gb done i = true ∨ ¬ gi l i < far ∨ (0 ≤ k ∧ ¬ gi l i < gi l k.toNat)) : MinK n l done (i + 1) k := by
  refine ⟨h.lo, h.hi, fun e v hv hd => ?_, fun e => ⟨(h.some e).1, (h.some e).2.1, fun v hv hd hl => ?_⟩⟩
  · by_cases hvi : v = i
    · subst hvi
      rcases hs with hs | hs | hs
      · rw [hs] at hd; cases hd
      · exact hs
      · omega
    · exact h.none e v (by omega) hd
  · by_cases hvi : v = i
    · subst hvi
      rcases hs with hs | hs | hs
      · rw [hs] at hd; cases hd
      · exact absurd hl hs
      · omega
    · exact (h.some e).2.2 v (by omega) hd hl
theorem MinK.take {n : Nat} {l : List Int} {done : List Bool} {i : Nat} {k : Int} (h : MinK n l done i k) (hi : i < n) (hd : gb done i = false) (hl : gi l i < far) (hk : k < 0 ∨ gi l i < gi l k.toNat) : MinK n l done (i + 1) i := by
  refine ⟨by omega, by omega, fun e => by omega, fun _ => ?_⟩
  rw [Int.toNat_natCast]
  refine ⟨hd, hl, fun v hv hdv hlv => ?_⟩
  by_cases hvi : v = i
  · subst hvi; exact Int.le_refl _
  · by_cases hk0 : 0 ≤ k
    · have := (h.some hk0).2.2 v (by omega) hdv hlv; rcases hk with hk | hk <;> omega
    · exact absurd hlv (h.none (by have := h.lo; omega) v (by omega) hdv)
def LoopMin (W0 : World) (tb lb db at' n : Nat) (l : List Int) (done : List Bool) (ds : List Deferred) (fr : List (Nat × Value)) (a : Act) (w : World) : Prop :=
  ∃ (i : Nat) (k : Int), i ≤ n ∧ MinK n l done i k ∧ Below at' W0 w ∧ w.cell? ⟨at', 0, none⟩ = some (.int .i64 k) ∧ w.frozen? ⟨at', 0, none⟩ = false ∧ FrD 139 ds ((47, .slice (some ⟨lb, 0, none⟩) n n) :: (48, .int .i64 n) :: (49, .int .i64 i) :: fr) a
theorem ways_min {ds : List Deferred} {m tb lb ab bb db n at' sb rb : Nat} {s0 src : Value} {l : List Int} {last : List Ar} {bef : List Nat} {done : List Bool} {W : World} {Q : Exit → Act → World → Prop} {u3 u8 u9 u10 u11 u12 u13 u14 u15 u16 u17 u18 u19 u20 u21 u22 u23 u24 u25 u26 u27 u28 u29 u30 u31 u32 u33 u34 u35 u36 u37 u38 u39 u40 u41 u42 u43 u44 u45 u46 u47 u48 u49 u50 u51 u52 u53 u54 u55 u56 u57 u58 u59 u60 u61 u62 u63 u64 u65 u66 u67 u68 u69 u70 u71 u72 u73 u74 u75 u76 u77 u78 u79 u80 u81 u82 u83 u84 u85 u86 u87 u88 u89 u90 u91 u92 u93 u94 u95 u96 u97 u98 u99 u100 u101 u102 u103 u104 u105 u106 u107 u108 u109 u110 u111 u112 u113 u114 u115 u116 u117 u118 u119 u120 u121 u122 u123 u124 u125 u126 u127 u128 u129 u130 u131 u132 u133 u134 u135 u136 u137 u138 : Value}
    (hT : TourM W tb lb ab bb db n l last bef done) (hn : n ≤ 1000) (hat : W.cell? ⟨at', 0, none⟩ = some (.int .i64 (-1))) (hfz : W.frozen? ⟨at', 0, none⟩ = false) (hlt : tb < at' ∧ lb < at' ∧ db < at')
    (hQ : ∀ a w' k, MinK n l done n k → Below at' W w' → w'.cell? ⟨at', 0, none⟩ = some (.int .i64 k) → w'.frozen? ⟨at', 0, none⟩ = false →
      FrD 139 ds [(0, s0), (1, src), (2, .pointer (some ⟨sb, 0, none⟩)), (4, .pointer (some ⟨rb, 0, none⟩)), (5, .pointer (some ⟨tb, 0, none⟩)), (6, .slice (some ⟨db, 0, none⟩) n n), (7, .pointer (some ⟨at', 0, none⟩))] a → Q .normal a w') :
    Code.wpIn Fence.wide m Tryz.prog (Tryz.f73.sub [1, 1, 1, 1, 0, 0, 0, 1, 0]) Q ⟨#[s0, src, .pointer (some ⟨sb, 0, none⟩), u3, .pointer (some ⟨rb, 0, none⟩), .pointer (some ⟨tb, 0, none⟩), .slice (some ⟨db, 0, none⟩) n n, .pointer (some ⟨at', 0, none⟩), u8, u9, u10, u11, u12, u13, u14, u15, u16, u17, u18, u19, u20, u21, u22, u23, u24, u25, u26, u27, u28, u29, u30, u31, u32, u33, u34, u35, u36, u37, u38, u39, u40, u41, u42, u43, u44, u45, u46, u47, u48, u49, u50, u51, u52, u53, u54, u55, u56, u57, u58, u59, u60, u61, u62, u63, u64, u65, u66, u67, u68, u69, u70, u71, u72, u73, u74, u75, u76, u77, u78, u79, u80, u81, u82, u83, u84, u85, u86, u87, u88, u89, u90, u91, u92, u93, u94, u95, u96, u97, u98, u99, u100, u101, u102, u103, u104, u105, u106, u107, u108, u109, u110, u111, u112, u113, u114, u115, u116, u117, u118, u119, u120, u121, u122, u123, u124, u125, u126, u127, u128, u129, u130, u131, u132, u133, u134, u135, u136, u137, u138], ds⟩ W := by
  have HQ := Lib.hid hQ; clear hQ
  have HT := Lib.hid hT; clear hT
  have c0 := HT.out.c0
  show Code.wpIn Fence.wide m Tryz.prog (.seq (Tryz.f73.sub [1, 1, 1, 1, 0, 0, 0, 1, 0, 0]) (.block 2 (.loop (Tryz.f73.sub [1, 1, 1, 1, 0, 0, 0, 1, 0, 1, 0, 0])))) _ _ _
  refine wpIn_seq ?_
  conv => arg 4; whnf
  dsimp only
  gi_wp2_with fail
  refine wpIn_loop (LoopMin W tb lb db at' n l done ds [(0, s0), (1, src), (2, .pointer (some ⟨sb, 0, none⟩)), (4, .pointer (some ⟨rb, 0, none⟩)), (5, .pointer (some ⟨tb, 0, none⟩)), (6, .slice (some ⟨db, 0, none⟩) n n), (7, .pointer (some ⟨at', 0, none⟩))]) (fun a _ => n - (intOf (a.tmps.getD 49 undef)).toNat) ⟨0, -1, Nat.zero_le _, ⟨by omega, by omega, fun _ v hv => by omega, fun h => by omega⟩, Below.refl _ _, hat, hfz, by (refine ⟨rfl, rfl, ?_⟩; repeat (first | exact trivial | refine ⟨rfl, ?_⟩))⟩ ?_
  obtain ⟨hlt1, hlt2, hlt3⟩ := hlt
  clear hat hfz c0
  rintro a wr ⟨i, k, hi, hM, hB, hat, hfz, hfr⟩
  obtain ⟨t, rfl⟩ := hfr.open
  clear hfr
  generalize hmu : n - (intOf ((⟨frL 139 _ t, ds⟩ : Act).tmps.getD 49 undef)).toNat = mu
  have hmu' : n - i = mu := by rw [← hmu]; rfl
  clear hmu
  show Code.wpIn Fence.wide m Tryz.prog (.seq (Tryz.f73.sub [1, 1, 1, 1, 0, 0, 0, 1, 0, 1, 0, 0, 0]) (.seq (Tryz.f73.sub [1, 1, 1, 1, 0, 0, 0, 1, 0, 1, 0, 0, 1, 0]) (.seq (.block 3 (Tryz.f73.sub [1, 1, 1, 1, 0, 0, 0, 1, 0, 1, 0, 0, 1, 1, 0, 0])) (Tryz.f73.sub [1, 1, 1, 1, 0, 0, 0, 1, 0, 1, 0, 0, 1, 1, 1])))) _ ⟨#[s0, src, .pointer (some ⟨sb, 0, none⟩), (t 3), .pointer (some ⟨rb, 0, none⟩), .pointer (some ⟨tb, 0, none⟩), .slice (some ⟨db, 0, none⟩) n n, .pointer (some ⟨at', 0, none⟩), (t 8), (t 9), (t 10), (t 11), (t 12), (t 13), (t 14), (t 15), (t 16), (t 17), (t 18), (t 19), (t 20), (t 21), (t 22), (t 23), (t 24), (t 25), (t 26), (t 27), (t 28), (t 29), (t 30), (t 31), (t 32), (t 33), (t 34), (t 35), (t 36), (t 37), (t 38), (t 39), (t 40), (t 41), (t 42), (t 43), (t 44), (t 45), (t 46), .slice (some ⟨lb, 0, none⟩) n n, .int .i64 n, .int .i64 i, (t 50), (t 51), (t 52), (t 53), (t 54), (t 55), (t 56), (t 57), (t 58), (t 59), (t 60), (t 61), (t 62), (t 63), (t 64), (t 65), (t 66), (t 67), (t 68), (t 69), (t 70), (t 71), (t 72), (t 73), (t 74), (t 75), (t 76), (t 77), (t 78), (t 79), (t 80), (t 81), (t 82), (t 83), (t 84), (t 85), (t 86), (t 87), (t 88), (t 89), (t 90), (t 91), (t 92), (t 93), (t 94), (t 95), (t 96), (t 97), (t 98), (t 99), (t 100), (t 101), (t 102), (t 103), (t 104), (t 105), (t 106), (t 107), (t 108), (t 109), (t 110), (t 111), (t 112), (t 113), (t 114), (t 115), (t 116), (t 117), (t 118), (t 119), (t 120), (t 121), (t 122), (t 123), (t 124), (t 125), (t 126), (t 127), (t 128), (t 129), (t 130), (t 131), (t 132), (t 133), (t 134), (t 135), (t 136), (t 137), (t 138)], ds⟩ _
  refine wpIn_seq ?_
  conv => arg 4; whnf
  dsimp only
  have HB := Lib.hid hB
  have HM := Lib.hid hM
  obtain ⟨klo, khi⟩ : -1 ≤ k ∧ k < n := ⟨hM.lo, hM.hi⟩
  have c0 : wr.cell? ⟨tb, 0, none⟩ = some (.slice (some ⟨lb, 0, none⟩) n n) := (hB.cell (show tb < at' by omega)).trans HT.out.c0
  by_cases hlt : i < n
  · gi_wp2_with fail
    conv => arg 4; whnf
    gi_wp2_with fail
    conv => arg 4; whnf
    have cl : wr.cell? ⟨lb, i, none⟩ = some (.int .i64 (gi l i)) := (hB.cell hlt2).trans (HT.out.len.cell (by rw [HT.out.ll]; exact hlt))
    have cd : wr.cell? ⟨db, i, none⟩ = some (.bool (gb done i)) := (hB.cell hlt3).trans (HT.out.dn.cell (by rw [HT.out.ld]; exact hlt))
    clear hB hM
    rename_i K4 hK4
    have done3 : ∀ (w3 : World) (k3 : Int) (a3 : Act), MinK n l done (i + 1) k3 → Below at' W w3 → w3.cell? ⟨at', 0, none⟩ = some (.int .i64 k3) → w3.frozen? ⟨at', 0, none⟩ = false →
        FrD 139 ds ((47, .slice (some ⟨lb, 0, none⟩) n n) :: (48, .int .i64 n) :: (49, .int .i64 i) :: [(0, s0), (1, src), (2, .pointer (some ⟨sb, 0, none⟩)), (4, .pointer (some ⟨rb, 0, none⟩)), (5, .pointer (some ⟨tb, 0, none⟩)), (6, .slice (some ⟨db, 0, none⟩) n n), (7, .pointer (some ⟨at', 0, none⟩))]) a3 → K4 a3 w3 := by
      intro w3 k3 a3 h1 h2 h3 h4 h5
      refine hK4 _ _ ?_
      obtain ⟨t3, rfl⟩ := h5.open
      show Code.wpIn Fence.wide m Tryz.prog _ _ ⟨#[s0, src, .pointer (some ⟨sb, 0, none⟩), (t3 3), .pointer (some ⟨rb, 0, none⟩), .pointer (some ⟨tb, 0, none⟩), .slice (some ⟨db, 0, none⟩) n n, .pointer (some ⟨at', 0, none⟩), (t3 8), (t3 9), (t3 10), (t3 11), (t3 12), (t3 13), (t3 14), (t3 15), (t3 16), (t3 17), (t3 18), (t3 19), (t3 20), (t3 21), (t3 22), (t3 23), (t3 24), (t3 25), (t3 26), (t3 27), (t3 28), (t3 29), (t3 30), (t3 31), (t3 32), (t3 33), (t3 34), (t3 35), (t3 36), (t3 37), (t3 38), (t3 39), (t3 40), (t3 41), (t3 42), (t3 43), (t3 44), (t3 45), (t3 46), .slice (some ⟨lb, 0, none⟩) n n, .int .i64 n, .int .i64 i, (t3 50), (t3 51), (t3 52), (t3 53), (t3 54), (t3 55), (t3 56), (t3 57), (t3 58), (t3 59), (t3 60), (t3 61), (t3 62), (t3 63), (t3 64), (t3 65), (t3 66), (t3 67), (t3 68), (t3 69), (t3 70), (t3 71), (t3 72), (t3 73), (t3 74), (t3 75), (t3 76), (t3 77), (t3 78), (t3 79), (t3 80), (t3 81), (t3 82), (t3 83), (t3 84), (t3 85), (t3 86), (t3 87), (t3 88), (t3 89), (t3 90), (t3 91), (t3 92), (t3 93), (t3 94), (t3 95), (t3 96), (t3 97), (t3 98), (t3 99), (t3 100), (t3 101), (t3 102), (t3 103), (t3 104), (t3 105), (t3 106), (t3 107), (t3 108), (t3 109), (t3 110), (t3 111), (t3 112), (t3 113), (t3 114), (t3 115), (t3 116), (t3 117), (t3 118), (t3 119), (t3 120), (t3 121), (t3 122), (t3 123), (t3 124), (t3 125), (t3 126), (t3 127), (t3 128), (t3 129), (t3 130), (t3 131), (t3 132), (t3 133), (t3 134), (t3 135), (t3 136), (t3 137), (t3 138)], ds⟩ _
      conv => arg 4; whnf
      dsimp only
      have H1 := Lib.hid h1; clear h1
      have H2 := Lib.hid h2; clear h2
      have H34 := Lib.hid (And.intro h3 h4); clear h3 h4
      gi_wp2_with fail
      refine ⟨⟨i + 1, k3, by omega, H1.out, H2.out, H34.out.1, H34.out.2, by (refine ⟨rfl, rfl, ?_⟩; repeat (first | exact trivial | refine ⟨rfl, ?_⟩))⟩, ?_⟩
      show n - ((i : Int) + 1).toNat < mu
      omega
    have D3 := Lib.hid done3; clear done3 hK4
    cases hd : gb done i with
    | true =>
      rw [hd] at cd
      gi_wp2_with fail
      exact D3.out _ _ _ (HM.out.skip (.inl hd)) HB.out hat hfz (by (refine ⟨rfl, rfl, ?_⟩; repeat (first | exact trivial | refine ⟨rfl, ?_⟩)))
    | false =>
      rw [hd] at cd
      by_cases hf : gi l i < 1152921504606846976
      · by_cases hk : k < 0
        · gi_wp2_with fail
          exact D3.out _ i _ (HM.out.take hlt hd hf (.inl hk)) (HB.out.setCell (Nat.le_refl _) _) (World.cell?_setCell_same _ _ _ hat) (by rw [World.frozen?_setCell]; exact hfz) (by (refine ⟨rfl, rfl, ?_⟩; repeat (first | exact trivial | refine ⟨rfl, ?_⟩)))
        · obtain ⟨k', rfl⟩ : ∃ k' : Nat, k = k' := ⟨k.toNat, by omega⟩
          have hkn : k' < n := by omega
          have ck : wr.cell? ⟨lb, k', none⟩ = some (.int .i64 (gi l k')) := (HB.out.cell hlt2).trans (HT.out.len.cell (by rw [HT.out.ll]; exact hkn))
          by_cases hll : gi l i < gi l k'
          · gi_wp2_with fail
            exact D3.out _ i _ (HM.out.take hlt hd hf (.inr hll)) (HB.out.setCell (Nat.le_refl _) _) (World.cell?_setCell_same _ _ _ hat) (by rw [World.frozen?_setCell]; exact hfz) (by (refine ⟨rfl, rfl, ?_⟩; repeat (first | exact trivial | refine ⟨rfl, ?_⟩)))
          · gi_wp2_with fail
            exact D3.out _ _ _ (HM.out.skip (.inr (.inr ⟨by omega, by rw [Int.toNat_natCast]; omega⟩))) HB.out hat hfz (by (refine ⟨rfl, rfl, ?_⟩; repeat (first | exact trivial | refine ⟨rfl, ?_⟩)))
      · gi_wp2_with fail
        exact D3.out _ _ _ (HM.out.skip (.inr (.inl (by unfold far; omega)))) HB.out hat hfz (by (refine ⟨rfl, rfl, ?_⟩; repeat (first | exact trivial | refine ⟨rfl, ?_⟩)))
  · gi_wp2_with fail
    conv => arg 4; whnf
    gi_wp2_with fail
    have : i = n := by omega
    subst this
    exact HQ.out _ _ _ HM.out HB.out hat hfz (by (refine ⟨rfl, rfl, ?_⟩; repeat (first | exact trivial | refine ⟨rfl, ?_⟩)))
end Go.Proofs.YtjnpchoinncbnaaGreat
end
section
namespace Go
namespace Fam
open RowKit
variable {P : Program}
def recOf (fn : FuncId) (tmps : Array Value) (ps : Array Tmp) (assign body : Code) (D : Nat) (st : LoopState) : Loop := { state := st, pending := none, fn, tmps, params := ps, assign, body, defers := D }
def rfMark (D : Nat) : Deferred := { target := .collected D, args := #[] }
theorem wpIn_over {m : Nat} {g : Operand} {ps : Array Tmp} {assign body : Code} {Q : Exit → Act → World → Prop} {a : Act} {w : World} (f : FuncId) (cap : Array Value) (hg : a.eval g = .func (.func f) #[] cap)
    (hinv : ∀ args w, (callFunc f args).run P w = .ok (.enter f args) w)
    (h : ∀ fn, CallsIn Fence.wide (m - 1) P f (#[.func (.yield (w.heap.size + 1)) #[] #[]] ++ cap) ((w.alloc (.deferred (some []))).alloc (.loop (recOf fn a.tmps ps assign body w.heap.size .ready)))
      (fun e W' => (∃ r, e = .returned r) ∧ W'.heap[w.heap.size + 1]? = some (.loop (recOf fn a.tmps ps assign body w.heap.size .ready)) ∧
        Q .normal { a with defers := rfMark w.heap.size :: a.defers } (W'.putObj (w.heap.size + 1) (.loop (recOf fn a.tmps ps assign body w.heap.size .exhausted))))) :
    (Code.rangeFunc g ps assign body).wpIn Fence.wide m P Q a w := by
  refine wpIn_rangeFunc ?_
  intro fn _
  obtain ⟨W1, hW1⟩ : ∃ W1, (w.alloc (.deferred (some []))).alloc (.loop (recOf fn a.tmps ps assign body w.heap.size .ready)) = W1 := ⟨_, rfl⟩
  have hc := h fn
  rw [hW1] at hc
  refine ⟨w.heap.size + 1, [rfMark w.heap.size], W1, { target := .fn (.func f) cap, args := #[.func (.yield (w.heap.size + 1)) #[] #[]] }, W1, f, #[.func (.yield (w.heap.size + 1)) #[] #[]] ++ cap, W1, ?_, ?_, ?_, ?_, fun hh => by simp [Fence.wide] at hh, ?_⟩
  · rw [← hW1]; exact run_enterLoop_outer _ _ _ _ _
  · have he : a.eval (.const (.func (.yield (w.heap.size + 1)) #[] #[])) = .func (.yield (w.heap.size + 1)) #[] #[] := rfl
    simp only [resolve, rangeCall, List.map_toArray, List.map_cons, List.map_nil, hg, he, Deferred.ofValue]
    rfl
  · intro f' _; trivial
  · unfold invoke
    simp only
    exact hinv _ _
  · refine hc.mono ?_
    rintro e W' ⟨⟨r, rfl⟩, h1, h2⟩
    exact ⟨none, _, run_endLoop h1 (by simp [recOf]), h2⟩
structure Opn (w : World) (Ds : List Nat) : Prop where
  nd : Ds.Nodup
  op : ∀ D, D ∈ Ds → w.heap[D]? = some (.deferred (some []))
theorem Opn.cons {w : World} {D : Nat} {Ds : List Nat} (h : Opn w (D :: Ds)) : Opn (w.putObj D (.deferred none)) Ds := by
  obtain ⟨h1, h2⟩ := h
  rw [List.nodup_cons] at h1
  refine ⟨h1.2, fun E hE => ?_⟩
  have hne : E ≠ D := fun e => h1.1 (e ▸ hE)
  exact (World.putObj_heap_other hne).trans (h2 E (List.mem_cons_of_mem _ hE))
theorem leaves_marks {F : Fence} {n : Nat} {fn : Func} {tmps : Array Value} {R : Ending → World → Prop} : ∀ (Ds : List Nat) (w : World), Opn w Ds →
    (∀ w', (∀ b, b ∉ Ds → w'.heap[b]? = w.heap[b]?) → w'.heap.size = w.heap.size → w'.os = w.os → w'.tape = w.tape → w'.output = w.output → LeavesIn F n P fn tmps R [] .returning w') → LeavesInM F n P fn tmps R (Ds.map rfMark) .returning w := by
  intro Ds
  induction Ds with
  | nil => intro w _ h; exact h w (fun _ _ => rfl) rfl rfl rfl rfl
  | cons D Ds ih =>
    intro w ho h
    refine ⟨by simp, .inl ⟨D, w.putObj D (.deferred none), rfl, run_takeDeferred (ho.op D (List.mem_cons_self ..)), ?_⟩⟩
    refine ih _ ho.cons fun w' h1 h2 h3 h4 h5 => h w' (fun b hb => ?_) (by rw [h2]; simp [World.putObj]) (by rw [h3]; rfl) (by rw [h4]; rfl) (by rw [h5]; rfl)
    rw [List.mem_cons, not_or] at hb
    rw [h1 b hb.2]
    exact World.putObj_heap_other hb.1
end Fam
end Go
end
