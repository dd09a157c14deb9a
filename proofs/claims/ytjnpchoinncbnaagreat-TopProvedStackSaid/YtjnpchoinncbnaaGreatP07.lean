/- Proves parts of the statement, each under the conditions that its theorem states: The shortest ways: the tour is made; Two rows of a slice of slices grow in one statement; Contract of the reference's CheckFlowOf: the value of a flow that is right, or an error; Contracts of excess and cost, and of the reference's Excess and Cost. -/
import Derived.Test.YtjnpchoinncbnaaGreatP06
import Derived.Test.YtjnpchoinncbnaaGreatP03
import Derived.Test.YtjnpchoinncbnaaGreatP04
import Derived.Test.YtjnpchoinncbnaaGreatP02
import Derived.IntWalk
set_option linter.unusedSimpArgs false
set_option linter.unusedVariables false
set_option maxHeartbeats 4000000
set_option maxRecDepth 100000
section
namespace Go.Fam
open RowKit
variable {P : Program} {ρ : Operand → Value} {o : Oper} {w : World}
theorem ex_call1 (f : FuncId) (x : Operand) (ts : Array TypeId) (ho : o.op = .call { callee := .value (.func f), args := #[x], argTypes := ts }) {a : Value} (hx : ρ x = a) (hf : ρ (.func f) = .func (.func f) #[] #[])
    (he : ∀ args w, (callFunc f args).run P w = .ok (.enter f args) w) : (execOp ρ o).run P w = .ok (.enter f #[a]) w := by
  unfold execOp
  simp only [ho, resolve, List.map_toArray, List.map_cons, List.map_nil, hx, hf, Deferred.ofValue, Sem.run_bind, Sem.run_pure, Result.andThen_ok, invoke]
  simp [he]
theorem ex_call2 (f : FuncId) (x y : Operand) (ts : Array TypeId) (ho : o.op = .call { callee := .value (.func f), args := #[x, y], argTypes := ts }) {a b : Value} (hx : ρ x = a) (hy : ρ y = b) (hf : ρ (.func f) = .func (.func f) #[] #[])
    (he : ∀ args w, (callFunc f args).run P w = .ok (.enter f args) w) : (execOp ρ o).run P w = .ok (.enter f #[a, b]) w := by
  unfold execOp
  simp only [ho, resolve, List.map_toArray, List.map_cons, List.map_nil, hx, hy, hf, Deferred.ofValue, Sem.run_bind, Sem.run_pure, Result.andThen_ok, invoke]
  simp [he]
theorem enters_fn {f : FuncId} {fn : Func} {c : Code} (hf : P.funcs[f]? = some fn) (hname : (fn.name == "runtime.NumGoroutine") = false) (hb : fn.body = some c) : ∀ args w, (callFunc f args).run P w = .ok (.enter f args) w := by
  intro args w
  have h1 : fn.name ≠ "runtime.NumGoroutine" := by simpa using hname
  simp [callFunc, hf, h1, hb, mark]
end Go.Fam
namespace Go.Proofs.YtjnpchoinncbnaaGreat
open Go.RowKit Sw Fam
theorem ex_slice1 {ρ : Operand → Value} {o : Oper} {w : World} (x : Operand) (ho : o.op = .buildSlice 26 1 #[(0, x)]) (c : Int) (hx : ρ x = .int .i64 c) : (execOp ρ o).run Tryz.prog w = .ok (.value (.slice (some ⟨w.heap.size, 0, none⟩) 1 1)) (w.alloc (.cells #[.int .i64 c] 3)) := by
  unfold execOp
  simp only [ho, hx, List.map_toArray, List.map_cons, List.map_nil]
  go_simp
theorem ex_build3 {ρ : Operand → Value} {o : Oper} {w : World} (x y z : Operand) (ho : o.op = .build 121 #[(0, x), (1, y), (2, z)]) {a b c : Option Addr} {n : Nat} (hx : ρ x = .slice a n n) (hy : ρ y = .slice b n n) (hz : ρ z = .slice c n n) :
    (execOp ρ o).run Tryz.prog w = .ok (.value (.agg #[.slice a n n, .slice b n n, .slice c n n])) w := by
  unfold execOp
  simp only [ho, hx, hy, hz, List.map_toArray, List.map_cons, List.map_nil]
  go_simp
def TW (B n : Nat) (V : Nat → Value) : Nat → World → Prop
  | 0, w => ∃ b, V 0 = .slice (some ⟨b, 0, none⟩) 1 1 ∧ w.cell? ⟨b, 0, none⟩ = some (.int .i64 far)
  | 7, w => ∃ b, V 7 = .slice (some ⟨b, 0, none⟩) n n ∧ B ≤ b ∧ IntB w b (List.replicate n far)
  | 14, w => ∃ b, V 14 = .slice (some ⟨b, 0, none⟩) n n ∧ B ≤ b ∧ FlB encA 124 w b (List.replicate n ⟨0, 0, 0, 0, 0⟩)
  | 21, w => ∃ b, V 21 = .slice (some ⟨b, 0, none⟩) n n ∧ B ≤ b ∧ IntB w b (List.replicate n 0)
  | 22, w => V 22 = .agg #[V 7, V 14, V 21]
  | 23, w => ∃ b, V 23 = .pointer (some ⟨b, 0, none⟩) ∧ B ≤ b ∧ w.heap[b]? = some (.cells #[.slice none 0 0, .slice none 0 0, .slice none 0 0] 121 (0, 0))
  | _, _ => True
theorem TW_ok (B n : Nat) {ops : Array Oper} (hd : (dep ops 22 7 && dep ops 22 14 && dep ops 22 21) = true) : GrT ops (TW B n) := by
  simp only [Bool.and_eq_true] at hd
  obtain ⟨⟨e1, e2⟩, e3⟩ := hd
  constructor
  · intro V j w w' h hb
    unfold TW at h ⊢
    split
    · obtain ⟨b, h1, h2⟩ := h; exact ⟨b, h1, cellB hb h2⟩
    · obtain ⟨b, h1, h2, h3⟩ := h; exact ⟨b, h1, h2, h3.keep hb⟩
    · obtain ⟨b, h1, h2, h3⟩ := h; exact ⟨b, h1, h2, FlB.keep h3 hb⟩
    · obtain ⟨b, h1, h2, h3⟩ := h; exact ⟨b, h1, h2, h3.keep hb⟩
    · exact h
    · obtain ⟨b, h1, h2, h3⟩ := h; exact ⟨b, h1, h2, (hb.block b (Array.getElem?_eq_some_iff.1 h3).1).trans h3⟩
    · trivial
  · intro L V w i u j hi hc hj h
    have hne : j ≠ i := fun e => by rw [← e, hj] at hi; cases hi
    unfold TW at h ⊢
    split
    · rw [setV_ne _ _ hne]; exact h
    · rw [setV_ne _ _ hne]; exact h
    · rw [setV_ne _ _ hne]; exact h
    · rw [setV_ne _ _ hne]; exact h
    · have k7 : (7 : Nat) ≠ i := fun e => by subst e; rw [hc.not e1 hi] at hj; cases hj
      have k14 : (14 : Nat) ≠ i := fun e => by subst e; rw [hc.not e2 hi] at hj; cases hj
      have k21 : (21 : Nat) ≠ i := fun e => by subst e; rw [hc.not e3 hi] at hj; cases hj
      rw [setV_ne _ _ hne, setV_ne _ _ k7, setV_ne _ _ k14, setV_ne _ _ k21]; exact h
    · rw [setV_ne _ _ hne]; exact h
    · trivial
theorem ways_make {m n sb S : Nat} {W : World} {Q : Exit → Act → World → Prop} {u0 u1 u3 u4 u5 u6 u7 u8 u9 u10 u11 u12 u13 u14 u15 u16 u17 u18 u19 u20 u21 u22 u23 u24 u25 u26 u27 u28 u29 u30 u31 u32 u33 u34 u35 u36 u37 u38 u39 u40 u41 u42 u43 u44 u45 u46 u47 u48 u49 u50 u51 u52 u53 u54 u55 u56 u57 u58 u59 u60 u61 u62 u63 u64 u65 u66 u67 u68 u69 u70 u71 u72 u73 u74 u75 u76 u77 u78 u79 u80 u81 u82 u83 u84 u85 u86 u87 u88 u89 u90 u91 u92 u93 u94 u95 u96 u97 u98 u99 u100 u101 u102 u103 u104 u105 u106 u107 u108 u109 u110 u111 u112 u113 u114 u115 u116 u117 u118 u119 u120 u121 u122 u123 u124 u125 u126 u127 u128 u129 u130 u131 u132 u133 u134 u135 u136 u137 u138 : Value}
    (hn : 1 ≤ n ∧ n ≤ 1000) (hsb : W.cell? ⟨sb, 0, none⟩ = some (.pointer (some ⟨S, 0, none⟩))) (h0 : W.cell? ⟨S, 0, none⟩ = some (.int .i64 n))
    (hQ : ∀ v12 v13 v14 v15 v16 v17 v18 v19 v20 v21 v22 v23 v24 v25 v26 v27 v28 v29 v30 v31 v32 v33 v34 w' tb lb ab bb, Below W.heap.size W w' → W.heap.size ≤ tb → W.heap.size ≤ lb → W.heap.size ≤ ab → W.heap.size ≤ bb →
      w'.heap[tb]? = some (.cells #[.slice (some ⟨lb, 0, none⟩) n n, .slice (some ⟨ab, 0, none⟩) n n, .slice (some ⟨bb, 0, none⟩) n n] 121 (0, 0)) → IntB w' lb (List.replicate n far) → FlB encA 124 w' ab (List.replicate n ⟨0, 0, 0, 0, 0⟩) → IntB w' bb (List.replicate n 0) →
      Q .normal ⟨#[u0, u1, .pointer (some ⟨sb, 0, none⟩), u3, u4, .pointer (some ⟨tb, 0, none⟩), u6, u7, u8, u9, u10, u11, v12, v13, v14, v15, v16, v17, v18, v19, v20, v21, v22, v23, v24, v25, v26, v27, v28, v29, v30, v31, v32, v33, v34, u35, u36, u37, u38, u39, u40, u41, u42, u43, u44, u45, u46, u47, u48, u49, u50, u51, u52, u53, u54, u55, u56, u57, u58, u59, u60, u61, u62, u63, u64, u65, u66, u67, u68, u69, u70, u71, u72, u73, u74, u75, u76, u77, u78, u79, u80, u81, u82, u83, u84, u85, u86, u87, u88, u89, u90, u91, u92, u93, u94, u95, u96, u97, u98, u99, u100, u101, u102, u103, u104, u105, u106, u107, u108, u109, u110, u111, u112, u113, u114, u115, u116, u117, u118, u119, u120, u121, u122, u123, u124, u125, u126, u127, u128, u129, u130, u131, u132, u133, u134, u135, u136, u137, u138], []⟩ w') :
    Code.wpIn Fence.wide m Tryz.prog (Tryz.f73.sub [1, 0]) Q ⟨#[u0, u1, .pointer (some ⟨sb, 0, none⟩), u3, u4, u5, u6, u7, u8, u9, u10, u11, u12, u13, u14, u15, u16, u17, u18, u19, u20, u21, u22, u23, u24, u25, u26, u27, u28, u29, u30, u31, u32, u33, u34, u35, u36, u37, u38, u39, u40, u41, u42, u43, u44, u45, u46, u47, u48, u49, u50, u51, u52, u53, u54, u55, u56, u57, u58, u59, u60, u61, u62, u63, u64, u65, u66, u67, u68, u69, u70, u71, u72, u73, u74, u75, u76, u77, u78, u79, u80, u81, u82, u83, u84, u85, u86, u87, u88, u89, u90, u91, u92, u93, u94, u95, u96, u97, u98, u99, u100, u101, u102, u103, u104, u105, u106, u107, u108, u109, u110, u111, u112, u113, u114, u115, u116, u117, u118, u119, u120, u121, u122, u123, u124, u125, u126, u127, u128, u129, u130, u131, u132, u133, u134, u135, u136, u137, u138], []⟩ W := by
  conv => arg 4; whnf
  dsimp only
  have HQ := Lib.hid hQ; clear hQ
  obtain ⟨hn1, hn2⟩ := hn
  refine regionIn_rel (.inl rfl) (by kernel_rfl) (by kernel_rfl) (by kernel_rfl) (GrC W.heap.size W (fun L => L 24) (TW W.heap.size n) (fun V w' => ∃ w0 b, V 23 = .pointer (some ⟨b, 0, none⟩) ∧ W.heap.size ≤ b ∧ Below W.heap.size W w0 ∧ (∀ j, j < 24 → TW W.heap.size n V j w0) ∧ w' = w0.setCells b 0 [V 7, V 14, V 21])) (GrC.start rfl (Below.refl _ _).drew) ?_
  refine gr_free (TW_ok _ _ (by kernel_rfl)) (ahead_last (by kernel_rfl)) (Nat.le_refl _) rfl (fun V L w hB _ _ => ?_) ?_
  · rw [ex_slice1 _ rfl 1152921504606846976 rfl]
    refine ⟨(Below.refl _ _).alloc (Nat.le_refl _) _, fun V' _ h => ⟨w.heap.size, h, ?_⟩⟩
    simp; rfl
  simp only [Fam.pt]
  (refine gr_fix (ahead_last (by kernel_rfl)) rfl _ (fun _ _ => trivial) (fun V w hB => ex_load1 _ _ rfl _ rfl (cellB hB hsb) _ Tryz.underlying74 rfl) ?_; simp only [Fam.pt])
  (refine gr_fix (ahead_last (by kernel_rfl)) rfl (.pointer (some ⟨S, 0, none⟩)) (fun _ _ => trivial) (fun V w hB => by unfold execOp; go_simp) ?_; simp only [Fam.pt])
  (refine gr_fix (ahead_last (by kernel_rfl)) rfl (.pointer (some ⟨S, 0, none⟩)) (fun _ _ => trivial) (fun V w hB => by unfold execOp; go_simp) ?_; simp only [Fam.pt])
  (refine gr_fix (ahead_last (by kernel_rfl)) rfl (.pointer (some ⟨S, 0, none⟩)) (fun _ _ => trivial) (fun V w hB => by unfold execOp; go_simp) ?_; simp only [Fam.pt])
  (refine gr_fix (ahead_last (by kernel_rfl)) rfl (.pointer (some ⟨S, 0, none⟩)) (fun _ _ => trivial) (fun V w hB => by unfold execOp; go_simp) ?_; simp only [Fam.pt])
  (refine gr_fix (ahead_last (by kernel_rfl)) rfl _ (fun _ _ => trivial) (fun V w hB => ex_load1 _ _ rfl _ rfl (cellB hB h0) _ Tryz.underlying3 rfl) ?_; simp only [Fam.pt])
  refine gr_free (TW_ok _ _ (by kernel_rfl)) (ahead_last (by kernel_rfl)) (Nat.le_refl _) rfl (fun V L w hB hT hw => ?_) ?_
  · obtain ⟨b, e1, e2⟩ := hT 0 (hw ⟨0, .data⟩ (by simp) rfl)
    rw [ex_call2 82 (.tmp 12) (.tmp 18) _ rfl e1 rfl rfl (enters_fn Tryz.func82 (by kernel_rfl) rfl)]
    refine (repeat_c n ⟨hn1, hn2⟩ far b w e2).mono ?_
    rintro e w' ⟨B, rfl, k1, k2, k3⟩
    exact ⟨_, rfl, k1, fun V' _ h => ⟨B, h, Nat.le_trans hB.size k2, k3⟩⟩
  simp only [Fam.pt]
  (refine gr_fix (ahead_last (by kernel_rfl)) rfl _ (fun _ _ => trivial) (fun V w hB => ex_load1 _ _ rfl _ rfl (cellB hB hsb) _ Tryz.underlying74 rfl) ?_; simp only [Fam.pt])
  (refine gr_fix (ahead_last (by kernel_rfl)) rfl (.pointer (some ⟨S, 0, none⟩)) (fun _ _ => trivial) (fun V w hB => by unfold execOp; go_simp) ?_; simp only [Fam.pt])
  (refine gr_fix (ahead_last (by kernel_rfl)) rfl (.pointer (some ⟨S, 0, none⟩)) (fun _ _ => trivial) (fun V w hB => by unfold execOp; go_simp) ?_; simp only [Fam.pt])
  (refine gr_fix (ahead_last (by kernel_rfl)) rfl (.pointer (some ⟨S, 0, none⟩)) (fun _ _ => trivial) (fun V w hB => by unfold execOp; go_simp) ?_; simp only [Fam.pt])
  (refine gr_fix (ahead_last (by kernel_rfl)) rfl (.pointer (some ⟨S, 0, none⟩)) (fun _ _ => trivial) (fun V w hB => by unfold execOp; go_simp) ?_; simp only [Fam.pt])
  (refine gr_fix (ahead_last (by kernel_rfl)) rfl _ (fun _ _ => trivial) (fun V w hB => ex_load1 _ _ rfl _ rfl (cellB hB h0) _ Tryz.underlying3 rfl) ?_; simp only [Fam.pt])
  refine gr_free (TW_ok _ _ (by kernel_rfl)) (ahead_last (by kernel_rfl)) (Nat.le_refl _) rfl (fun V L w hB hT hw => ?_) ?_
  · rw [ex_make 119 (.tmp 25) (.tmp 25) rfl rfl rfl (run_make_arcs n hn2 w)]
    exact ⟨(Below.refl _ _).alloc (Nat.le_refl _) _, fun V' _ h => ⟨w.heap.size, h, hB.size, FlB.new w encA _ _⟩⟩
  simp only [Fam.pt]
  (refine gr_fix (ahead_last (by kernel_rfl)) rfl _ (fun _ _ => trivial) (fun V w hB => ex_load1 _ _ rfl _ rfl (cellB hB hsb) _ Tryz.underlying74 rfl) ?_; simp only [Fam.pt])
  (refine gr_fix (ahead_last (by kernel_rfl)) rfl (.pointer (some ⟨S, 0, none⟩)) (fun _ _ => trivial) (fun V w hB => by unfold execOp; go_simp) ?_; simp only [Fam.pt])
  (refine gr_fix (ahead_last (by kernel_rfl)) rfl (.pointer (some ⟨S, 0, none⟩)) (fun _ _ => trivial) (fun V w hB => by unfold execOp; go_simp) ?_; simp only [Fam.pt])
  (refine gr_fix (ahead_last (by kernel_rfl)) rfl (.pointer (some ⟨S, 0, none⟩)) (fun _ _ => trivial) (fun V w hB => by unfold execOp; go_simp) ?_; simp only [Fam.pt])
  (refine gr_fix (ahead_last (by kernel_rfl)) rfl (.pointer (some ⟨S, 0, none⟩)) (fun _ _ => trivial) (fun V w hB => by unfold execOp; go_simp) ?_; simp only [Fam.pt])
  (refine gr_fix (ahead_last (by kernel_rfl)) rfl _ (fun _ _ => trivial) (fun V w hB => ex_load1 _ _ rfl _ rfl (cellB hB h0) _ Tryz.underlying3 rfl) ?_; simp only [Fam.pt])
  refine gr_free (TW_ok _ _ (by kernel_rfl)) (ahead_last (by kernel_rfl)) (Nat.le_refl _) rfl (fun V L w hB hT hw => ?_) ?_
  · rw [ex_make 26 (.tmp 32) (.tmp 32) rfl rfl rfl (run_make_ints n (by omega) w)]
    exact ⟨(Below.refl _ _).alloc (Nat.le_refl _) _, fun V' _ h => ⟨w.heap.size, h, hB.size, FlB.new w encI _ _⟩⟩
  simp only [Fam.pt]
  refine gr_free (TW_ok _ _ (by kernel_rfl)) (ahead_last (by kernel_rfl)) (Nat.le_refl _) rfl (fun V L w hB hT hw => ?_) ?_
  · obtain ⟨b7, e7, _, _⟩ := hT 7 (hw ⟨7, .data⟩ (by simp) rfl)
    obtain ⟨b14, e14, _, _⟩ := hT 14 (hw ⟨14, .data⟩ (by simp) rfl)
    obtain ⟨b21, e21, _, _⟩ := hT 21 (hw ⟨21, .data⟩ (by simp) rfl)
    rw [ex_build3 (.tmp 19) (.tmp 26) (.tmp 33) rfl e7 e14 e21]
    refine ⟨Below.refl _ _, fun V' h h' => ?_⟩
    show V' 22 = .agg #[V' 7, V' 14, V' 21]
    rw [h', h 7 (by decide), h 14 (by decide), h 21 (by decide), e7, e14, e21]
  simp only [Fam.pt]
  refine gr_free (TW_ok _ _ (by kernel_rfl)) (ahead_last (by kernel_rfl)) (Nat.le_refl _) rfl (fun V L w hB hT hw => ?_) ?_
  · rw [ex_alloc 121 rfl (z := .agg #[.slice none 0 0, .slice none 0 0, .slice none 0 0]) (by kernel_rfl)]
    exact ⟨(Below.refl _ _).alloc (Nat.le_refl _) _, fun V' _ h => ⟨w.heap.size, h, hB.size, heap_alloc_new w _⟩⟩
  simp only [Fam.pt]
  refine gr_last rfl rfl (fun V w hB hT => ?_) (fun j hj => by revert j; decide +kernel) rfl ?_ (by decide)
  · obtain ⟨b, h1, h2, h3⟩ := hT 23 (by decide)
    have h22 : V 22 = .agg #[V 7, V 14, V 21] := hT 22 (by decide)
    obtain ⟨b7, e7, _, _⟩ := hT 7 (by decide)
    obtain ⟨b14, e14, _, _⟩ := hT 14 (by decide)
    obtain ⟨b21, e21, _, _⟩ := hT 21 (by decide)
    rw [ex_storeN 121 (.tmp 5) (.tmp 34) rfl b 0 #[V 7, V 14, V 21] h1 h22 (block_there h3 (Nat.le_refl 3)) (by kernel_rfl) (by rw [e7, e14, e21]; simp [Value.oneCell'])]
    exact ⟨rfl, w, b, h1, h2, hB, hT, rfl⟩
  · rintro V w' ⟨w0, b, h1, h2, h3, hT, rfl⟩
    obtain ⟨b', h1', _, h4⟩ := hT 23 (by decide)
    rw [h1] at h1'
    cases h1'
    obtain ⟨b7, e7, g7, f7⟩ := hT 7 (by decide)
    obtain ⟨b14, e14, g14, f14⟩ := hT 14 (by decide)
    obtain ⟨b21, e21, g21, f21⟩ := hT 21 (by decide)
    have n7 : b7 ≠ b := fun e => by subst e; have := f7.symm.trans h4; injection this with this; injection this with _ h _; exact absurd h (by decide)
    have n14 : b14 ≠ b := fun e => by subst e; have := f14.symm.trans h4; injection this with this; injection this with _ h _; exact absurd h (by decide)
    have n21 : b21 ≠ b := fun e => by subst e; have := f21.symm.trans h4; injection this with this; injection this with _ h _; exact absurd h (by decide)
    rw [h1, e7, e14, e21]
    refine HQ.out _ _ _ _ _ _ _ _ _ _ _ _ _ _ _ _ _ _ _ _ _ _ _ _ b b7 b14 b21 (below_setCells h2 _ _ _ h3) h2 g7 g14 g21 ?_ (fl_cells n7 _ _ _ f7) (fl_cells n14 _ _ _ f14) (fl_cells n21 _ _ _ f21)
    have s1 := heap_setCell_same w0 b 0 _ _ (.slice (some ⟨b7, 0, none⟩) n n) h4
    have s2 := heap_setCell_same _ b 1 _ _ (.slice (some ⟨b14, 0, none⟩) n n) s1
    exact heap_setCell_same _ b 2 _ _ (.slice (some ⟨b21, 0, none⟩) n n) s2
structure TwoD where
  B : Nat
  R : Nat
  n : Nat
  f : Nat
  t : Nat
  y1 : Int
  y2 : Int
  A : Nat → Option Addr
  c : Nat → Nat
  rows : Nat → List Int
  cs : Array Value
def TwoD.bf (d : TwoD) : Option Nat := (d.A d.f).map (·.block)
def TwoD.bt (d : TwoD) : Option Nat := (d.A d.t).map (·.block)
def TwoD.S (d : TwoD) : List Nat := d.R :: (d.bf.toList ++ d.bt.toList)
structure TwoD.ok (d : TwoD) (W : World) : Prop where
  hd : W.heap[d.R]? = some (.cells d.cs 26 (0, 0))
  sz : d.cs.size = d.n
  lf : d.f < d.n
  lt : d.t < d.n
  ne : d.f ≠ d.t
  gf : GrI W d.B (d.A d.f) (d.c d.f) (d.rows d.f)
  gt : GrI W d.B (d.A d.t) (d.c d.t) (d.rows d.t)
  hf : d.cs[d.f]? = some (.slice (d.A d.f) (d.rows d.f).length (d.c d.f))
  ht : d.cs[d.t]? = some (.slice (d.A d.t) (d.rows d.t).length (d.c d.t))
  apart : ∀ b, d.bf = some b → d.bt ≠ some b
  nf : d.bf ≠ some d.R
  nt : d.bt ≠ some d.R
  le : d.B ≤ d.R ∧ d.B ≤ W.heap.size
  ll : (d.rows d.f).length < 100000 ∧ (d.rows d.t).length < 100000
def TwoD.hdr (d : TwoD) (p5 p6 : Bool) (v1 v2 : Value) : Array Value :=
  let cs := if p5 = true then d.cs.setIfInBounds d.f v1 else d.cs
  if p6 = true then cs.setIfInBounds d.t v2 else cs
def Made (W w : World) (v : Value) (y : Int) : Prop := ∃ b, v = .slice (some ⟨b, 0, none⟩) 1 1 ∧ W.heap.size ≤ b ∧ b < w.heap.size ∧ w.cell? ⟨b, 0, none⟩ = some (.int .i64 y)
def Grown1 (W w : World) (B : Nat) (A : Option Addr) (l : Nat) (xs : List Int) (v : Value) : Prop :=
  ∃ A' c', v = .slice A' l c' ∧ GrI w B A' c' xs ∧ ∃ a', A' = some a' ∧ (A = some a' ∨ W.heap.size ≤ a'.block)
structure TwoC (W : World) (d : TwoD) (p1 p2 p3 p4 p5 p6 : Bool) (v1 v2 v3 v4 : Value) (w : World) : Prop where
  tch : Tch d.S W w
  b1 : p1 = true → Made W w v1 d.y1
  b2 : p3 = true → Made W w v3 d.y2
  hd : w.heap[d.R]? = some (.cells (d.hdr p5 p6 v2 v4) 26 (0, 0))
  a1 : if p2 = true then Grown1 W w d.B (d.A d.f) ((d.rows d.f).length + 1) (d.rows d.f ++ [d.y1]) v2 else GrI w d.B (d.A d.f) (d.c d.f) (d.rows d.f)
  a2 : if p4 = true then Grown1 W w d.B (d.A d.t) ((d.rows d.t).length + 1) (d.rows d.t ++ [d.y2]) v4 ∧ (p2 = true → ∀ b, v2.ownBlock = some b → v4.ownBlock ≠ some b) else GrI w d.B (d.A d.t) (d.c d.t) (d.rows d.t)
theorem Made.step {S : List Nat} {W w w' : World} {v : Value} {y : Int} (h : Made W w v y) (ht : Tch S w w') (hS : ∀ b, b ∈ S → b < W.heap.size) : Made W w' v y := by
  obtain ⟨b, h1, h2, h3, h4⟩ := h
  exact ⟨b, h1, h2, Nat.lt_of_lt_of_le h3 ht.size, ht.cell (fun hm => by have := hS b hm; omega) h4⟩
section
variable {W w : World} {d : TwoD} {p1 p2 p3 p4 p5 p6 : Bool} {v1 v2 v3 v4 : Value}
theorem TwoD.ok.bfl (h : d.ok W) {b : Nat} (hb : d.bf = some b) : b < W.heap.size := (h.gf.lt hb).2
theorem TwoD.ok.btl (h : d.ok W) {b : Nat} (hb : d.bt = some b) : b < W.heap.size := (h.gt.lt hb).2
theorem TwoD.ok.Rl (h : d.ok W) : d.R < W.heap.size := (Array.getElem?_eq_some_iff.1 h.hd).1
theorem TwoC.start (h : d.ok W) (w : World) (hw : w = W.drew) : TwoC W d false false false false false false v1 v2 v3 v4 w := by
  subst hw
  exact ⟨(Tch.refl _ _).drewN 1, fun h => (by cases h), fun h => (by cases h), h.hd, h.gf.drewN 1, h.gt.drewN 1⟩
theorem grown_map {x : Option Addr} {a : Addr} (h : x = some a) : x.map (·.block) = some a.block := by rw [h]; rfl
theorem Grown1.move {W w w' : World} {B : Nat} {A : Option Addr} {l : Nat} {xs : List Int} {v : Value} (h : Grown1 W w B A l xs v) (hm : ∀ b, v.ownBlock = some b → w'.heap[b]? = w.heap[b]?) : Grown1 W w' B A l xs v := by
  obtain ⟨A', c', h1, h2, h3⟩ := h
  refine ⟨A', c', h1, h2.move fun b hb => hm b ?_, h3⟩
  rw [h1]
  obtain ⟨a', e, _⟩ := h3
  subst e
  exact hb
theorem Grown1.blk {W w : World} {B : Nat} {A : Option Addr} {l : Nat} {xs : List Int} {v : Value} (h : Grown1 W w B A l xs v) {b : Nat} (hb : v.ownBlock = some b) : b < w.heap.size ∧ B ≤ b ∧ (A.map (·.block) = some b ∨ W.heap.size ≤ b) := by
  obtain ⟨A', c', h1, h2, a', rfl, h3⟩ := h
  subst h1
  obtain rfl : a'.block = b := by simpa [Value.ownBlock] using hb
  have := h2.lt (b := a'.block) rfl
  exact ⟨this.2, this.1, h3.imp (fun e => grown_map e) id⟩
theorem TwoC.alloc (h : TwoC W d p1 p2 p3 p4 p5 p6 v1 v2 v3 v4 w) (hok : d.ok W) (o : Obj) : TwoC W d p1 p2 p3 p4 p5 p6 v1 v2 v3 v4 (w.alloc o) := by
  have hb : Below w.heap.size w (w.alloc o) := (Below.refl _ _).alloc (Nat.le_refl _) _
  have hk : ∀ b, b < w.heap.size → (w.alloc o).heap[b]? = w.heap[b]? := fun b hb' => hb.block b hb'
  have hWw := h.tch.size
  refine ⟨h.tch.alloc o, fun e => (h.b1 e).step ((Tch.refl [] _).alloc o) (by simp), fun e => (h.b2 e).step ((Tch.refl [] _).alloc o) (by simp), (hk _ (by have := hok.Rl; omega)).trans h.hd, ?_, ?_⟩
  · have := h.a1
    split
    · rename_i e; rw [if_pos e] at this; exact this.move fun b hb => hk b (this.blk hb).1
    · rename_i e; rw [if_neg e] at this; exact this.keep hb
  · have := h.a2
    split
    · rename_i e; rw [if_pos e] at this; exact ⟨this.1.move fun b hb => hk b (this.1.blk hb).1, this.2⟩
    · rename_i e; rw [if_neg e] at this; exact this.keep hb
theorem TwoC.made1 (h : TwoC W d p1 p2 p3 p4 p5 p6 v1 v2 v3 v4 w) (hok : d.ok W) : TwoC W d true p2 p3 p4 p5 p6 (.slice (some ⟨w.heap.size, 0, none⟩) 1 1) v2 v3 v4 (w.alloc (.cells #[.int .i64 d.y1] 3)) := by
  have h1 := h.alloc hok (.cells #[.int .i64 d.y1] 3)
  refine ⟨h1.tch, fun _ => ⟨w.heap.size, rfl, h.tch.size, by simp, block_cell (World.alloc_heap_new w _) (j := 0) (by simp)⟩, h1.b2, h1.hd, h1.a1, h1.a2⟩
theorem TwoC.made2 (h : TwoC W d p1 p2 p3 p4 p5 p6 v1 v2 v3 v4 w) (hok : d.ok W) : TwoC W d p1 p2 true p4 p5 p6 v1 v2 (.slice (some ⟨w.heap.size, 0, none⟩) 1 1) v4 (w.alloc (.cells #[.int .i64 d.y2] 3)) := by
  have h1 := h.alloc hok (.cells #[.int .i64 d.y2] 3)
  refine ⟨h1.tch, h1.b1, fun _ => ⟨w.heap.size, rfl, h.tch.size, by simp, block_cell (World.alloc_heap_new w _) (j := 0) (by simp)⟩, h1.hd, h1.a1, h1.a2⟩
theorem TwoC.app1 (h : TwoC W d true false p3 false false false v1 v2 v3 v4 w) (hok : d.ok W) (ty : TypeId) :
    ∃ v w', (Builtin.append_ #[26, 26] ty #[.slice (d.A d.f) (d.rows d.f).length (d.c d.f), v1]).run Tryz.prog w = .ok v w' ∧ TwoC W d true true p3 false false false v1 v v3 v4 w' := by
  obtain ⟨s, rfl, s1, s2, s3⟩ := h.b1 rfl
  have g := h.a1
  rw [if_neg (by simp)] at g
  have g2 := h.a2
  rw [if_neg (by simp)] at g2
  have hWw := h.tch.size
  obtain ⟨A', c', w', hr, k1, k2, a', rfl, k3⟩ := run_append_int g ty d.y1 s 1 s3 (by have := hok.ll; omega) (by have := hok.le; omega)
  have hS : Tch (d.bf.toList) w w' := ⟨k2.os, k2.tape, k2.output, k2.size, fun b hb hn => k2.block b hb (fun e => hn (by rw [Option.mem_toList]; exact e.symm))⟩
  refine ⟨_, w', hr, h.tch.trans (hS.mono fun b hb => .inl (List.mem_cons_of_mem _ (List.mem_append_left _ hb))), fun _ => Made.step ⟨s, rfl, s1, s2, s3⟩ hS (fun b hb => hok.bfl (by simpa using hb)), fun e => (h.b2 e).step hS (fun b hb => hok.bfl (by simpa using hb)), ?_, ?_, ?_⟩
  · have : d.R ∉ d.bf.toList := fun hm => hok.nf (by simpa using hm)
    exact (hS.block d.R (by have := hok.Rl; omega) this).trans h.hd
  · rw [if_pos rfl]
    refine ⟨_, c', rfl, k1, a', rfl, ?_⟩
    rcases k3 with e | e
    · exact .inl e
    · exact .inr (by omega)
  · rw [if_neg (by simp)]
    exact g2.move fun b hb => hS.block b (g2.lt hb).2 (fun hm => hok.apart b (by simpa using hm) hb)
theorem TwoC.app2 (h : TwoC W d p1 true true false false false v1 v2 v3 v4 w) (hok : d.ok W) (ty : TypeId) :
    ∃ v w', (Builtin.append_ #[26, 26] ty #[.slice (d.A d.t) (d.rows d.t).length (d.c d.t), v3]).run Tryz.prog w = .ok v w' ∧ TwoC W d p1 true true true false false v1 v2 v3 v w' := by
  obtain ⟨s, rfl, s1, s2, s3⟩ := h.b2 rfl
  have g := h.a2
  rw [if_neg (by simp)] at g
  have g1 := h.a1
  rw [if_pos rfl] at g1
  have hWw := h.tch.size
  obtain ⟨A', c', w', hr, k1, k2, a', rfl, k3⟩ := run_append_int g ty d.y2 s 1 s3 (by have := hok.ll; omega) (by have := hok.le; omega)
  have hS : Tch (d.bt.toList) w w' := ⟨k2.os, k2.tape, k2.output, k2.size, fun b hb hn => k2.block b hb (fun e => hn (by rw [Option.mem_toList]; exact e.symm))⟩
  have hne : ∀ b, v2.ownBlock = some b → b ∉ d.bt.toList := fun b hb hm => by
    have hm' : d.bt = some b := by simpa using hm
    rcases (g1.blk hb).2.2 with e | e
    · exact hok.apart b e hm'
    · have := hok.btl hm'; omega
  refine ⟨_, w', hr, h.tch.trans (hS.mono fun b hb => .inl (List.mem_cons_of_mem _ (List.mem_append_right _ hb))), fun e => (h.b1 e).step hS (fun b hb => hok.btl (by simpa using hb)), fun _ => Made.step ⟨s, rfl, s1, s2, s3⟩ hS (fun b hb => hok.btl (by simpa using hb)), ?_, ?_, ?_⟩
  · have : d.R ∉ d.bt.toList := fun hm => hok.nt (by simpa using hm)
    exact (hS.block d.R (by have := hok.Rl; omega) this).trans h.hd
  · rw [if_pos rfl]
    exact g1.move fun b hb => hS.block b (g1.blk hb).1 (hne b hb)
  · rw [if_pos rfl]
    refine ⟨⟨_, c', rfl, k1, a', rfl, ?_⟩, fun _ b hb he => ?_⟩
    · rcases k3 with e | e
      · exact .inl e
      · exact .inr (by omega)
    · have he' : a'.block = b := by simpa [Value.ownBlock] using he
      have hb1 := (g1.blk hb).1
      rcases k3 with e | e
      · refine hne b hb ?_
        rw [Option.mem_toList]
        exact (grown_map e).trans (by rw [he'])
      · omega
theorem TwoC.put1 (h : TwoC W d p1 true p3 true false false v1 v2 v3 v4 w) (hok : d.ok W) : TwoC W d p1 true p3 true true false v1 v2 v3 v4 (w.setCell ⟨d.R, d.f, none⟩ v2) := by
  have g1 := h.a1
  rw [if_pos rfl] at g1
  have g2 := h.a2
  rw [if_pos rfl] at g2
  have hS : Tch [d.R] w (w.setCell ⟨d.R, d.f, none⟩ v2) := (Tch.refl _ _).set (.inl (by simp)) _
  have hR := hok.Rl
  have hnb : ∀ b, d.bf = some b ∨ W.heap.size ≤ b → b ≠ d.R := fun b hb e => by
    subst e
    rcases hb with hb | hb
    · exact hok.nf hb
    · omega
  have hnb2 : ∀ b, d.bt = some b ∨ W.heap.size ≤ b → b ≠ d.R := fun b hb e => by
    subst e
    rcases hb with hb | hb
    · exact hok.nt hb
    · omega
  refine ⟨h.tch.set (.inl (List.mem_cons_self ..)) _, fun e => (h.b1 e).step hS (by simpa using hR), fun e => (h.b2 e).step hS (by simpa using hR), ?_, ?_, ?_⟩
  · have := heap_setCell_same w d.R d.f _ _ v2 h.hd
    simpa [TwoD.hdr] using this
  · rw [if_pos rfl]
    exact g1.move fun b hb => Below.heap_setCell _ _ _ _ (hnb b (g1.blk hb).2.2)
  · rw [if_pos rfl]
    exact ⟨g2.1.move fun b hb => Below.heap_setCell _ _ _ _ (hnb2 b (g2.1.blk hb).2.2), g2.2⟩
theorem TwoC.put2 (h : TwoC W d p1 true p3 true true false v1 v2 v3 v4 w) (hok : d.ok W) : TwoC W d p1 true p3 true true true v1 v2 v3 v4 (w.setCell ⟨d.R, d.t, none⟩ v4) := by
  have g1 := h.a1
  rw [if_pos rfl] at g1
  have g2 := h.a2
  rw [if_pos rfl] at g2
  have hS : Tch [d.R] w (w.setCell ⟨d.R, d.t, none⟩ v4) := (Tch.refl _ _).set (.inl (by simp)) _
  have hR := hok.Rl
  have hnb : ∀ b, d.bf = some b ∨ W.heap.size ≤ b → b ≠ d.R := fun b hb e => by
    subst e
    rcases hb with hb | hb
    · exact hok.nf hb
    · omega
  have hnb2 : ∀ b, d.bt = some b ∨ W.heap.size ≤ b → b ≠ d.R := fun b hb e => by
    subst e
    rcases hb with hb | hb
    · exact hok.nt hb
    · omega
  refine ⟨h.tch.set (.inl (List.mem_cons_self ..)) _, fun e => (h.b1 e).step hS (by simpa using hR), fun e => (h.b2 e).step hS (by simpa using hR), ?_, ?_, ?_⟩
  · have := heap_setCell_same w d.R d.t _ _ v4 h.hd
    simpa [TwoD.hdr] using this
  · rw [if_pos rfl]
    exact g1.move fun b hb => Below.heap_setCell _ _ _ _ (hnb b (g1.blk hb).2.2)
  · rw [if_pos rfl]
    exact ⟨g2.1.move fun b hb => Below.heap_setCell _ _ _ _ (hnb2 b (g2.1.blk hb).2.2), g2.2⟩
theorem TwoC.row (h : TwoC W d p1 p2 p3 p4 false false v1 v2 v3 v4 w) {u : Nat} {v : Value} (hu : d.cs[u]? = some v) : w.cell? ⟨d.R, u, none⟩ = some v := by
  have := h.hd
  simp only [TwoD.hdr, Bool.false_eq_true, if_false] at this
  simp [World.cell?, this, hu]
theorem TwoC.there (h : TwoC W d p1 p2 p3 p4 p5 p6 v1 v2 v3 v4 w) (hok : d.ok W) {u : Nat} (hu : u < d.n) : (∃ x, w.cell? ⟨d.R, u, none⟩ = some x) ∧ w.frozen? ⟨d.R, u, none⟩ = false := by
  have hs : (d.hdr p5 p6 v2 v4).size = d.n := by
    unfold TwoD.hdr
    simp only
    split <;> split <;> simp [hok.sz]
  refine ⟨⟨(d.hdr p5 p6 v2 v4)[u]'(by omega), block_cell h.hd (by omega)⟩, by simp [World.frozen?, h.hd]⟩
end
theorem TwoC.up {W w : World} {d : TwoD} {v1 v2 v3 v4 : Value} {L : Nat → Bool} {a1 a2 a3 a4 a5 a6 i : Nat} (hi : (Nat.beq a1 i || Nat.beq a2 i || Nat.beq a3 i || Nat.beq a4 i || Nat.beq a5 i || Nat.beq a6 i) = false)
    (h : TwoC W d (L a1) (L a2) (L a3) (L a4) (L a5) (L a6) v1 v2 v3 v4 w) : TwoC W d (upd L i a1) (upd L i a2) (upd L i a3) (upd L i a4) (upd L i a5) (upd L i a6) v1 v2 v3 v4 w := by
  simp only [Bool.or_eq_false_iff] at hi
  obtain ⟨⟨⟨⟨⟨h1, h2⟩, h3⟩, h4⟩, h5⟩, h6⟩ := hi
  simpa only [upd, h1, h2, h3, h4, h5, h6, cond_false] using h
theorem ex_append {P : Program} {ρ : Operand → Value} {o : Oper} {w w' : World} (s x : Operand) (ts : Array TypeId) (ho : o.op = .call { callee := .builtin .append, args := #[s, x], argTypes := ts }) {a b v : Value} (hs : ρ s = a) (hx : ρ x = b)
    (h : (Builtin.append_ ts o.type #[a, b]).run P w = .ok v w') : (execOp ρ o).run P w = .ok (.value v) w' := by
  unfold execOp
  simp only [ho, resolve, invoke, builtin, Sem.run_bind, Sem.run_pure, Result.andThen_ok, List.map_toArray, List.map_cons, List.map_nil, hs, hx, h]
theorem ex_slice1i {ρ : Operand → Value} {o : Oper} {w : World} (x : Operand) (ho : o.op = .buildSlice 26 1 #[(0, x)]) (c : Int) (hx : ρ x = .int .i64 c) : (execOp ρ o).run Tryz.prog w = .ok (.value (.slice (some ⟨w.heap.size, 0, none⟩) 1 1)) (w.alloc (.cells #[.int .i64 c] 3)) := ex_slice1 x ho c hx
theorem TwoC.far {W w : World} {d : TwoD} {p1 p2 p3 p4 p5 p6 : Bool} {v1 v2 v3 v4 : Value} (h : TwoC W d p1 p2 p3 p4 p5 p6 v1 v2 v3 v4 w) {a : Addr} {v : Value} (hn : a.block ∉ d.S) (hc : W.cell? a = some v) : w.cell? a = some v := h.tch.cell hn hc
section
variable {W : World} {d : TwoD} {l : Array Oper} {a1 a2 a3 a4 a5 a6 i : Nat} {o : Oper}
abbrev TwoF (W : World) (d : TwoD) (a1 a2 a3 a4 a5 a6 : Nat) (L : Nat → Bool) (V : Nat → Value) (w : World) : Prop := TwoC W d (L a1) (L a2) (L a3) (L a4) (L a5) (L a6) (V a1) (V a2) (V a3) (V a4) w
theorem TwoC.ev_row {L : Nat → Bool} {V : Nat → Value} {w : World} (hd : (dep l a5 i && dep l a6 i) = true) (hi : L i = false) (hc : Cl l L) (h : TwoF W d a1 a2 a3 a4 a5 a6 L V w) {u : Nat} {v : Value} (hu : d.cs[u]? = some v) : w.cell? ⟨d.R, u, none⟩ = some v := by
  rw [Bool.and_eq_true] at hd
  have h1 := hc.not hd.1 hi
  have h2 := hc.not hd.2 hi
  unfold TwoF at h
  rw [h1, h2] at h
  exact h.row hu
theorem waits_at {o : Oper} {L : Nat → Bool} (hw : Waits o L) {j : Nat} (h : (o.after.any fun e => Region.binds .any e && e.on == j) = true) : L j = true := by
  obtain ⟨e, he, hb⟩ := Array.any_eq_true'.1 h
  simp only [Bool.and_eq_true, beq_iff_eq] at hb
  rw [← hb.2]; exact hw e he hb.1
def six (a1 a2 a3 a4 a5 a6 : Nat) : Bool := decide (a1 < a2 ∧ a2 < a3 ∧ a3 < a4 ∧ a4 < a5 ∧ a5 < a6)
theorem TwoC.ev_made1 (hs : six a1 a2 a3 a4 a5 a6 = true) (hok : d.ok W) {L : Nat → Bool} {V : Nat → Value} {w : World} (h : TwoF W d a1 a2 a3 a4 a5 a6 L V w) :
    TwoF W d a1 a2 a3 a4 a5 a6 (upd L a1) (setV V a1 (.slice (some ⟨w.heap.size, 0, none⟩) 1 1)) (w.alloc (.cells #[.int .i64 d.y1] 3)) := by
  simp only [six, decide_eq_true_eq] at hs
  unfold TwoF
  rw [upd_same, upd_ne L (by omega : a2 ≠ a1), upd_ne L (by omega : a3 ≠ a1), upd_ne L (by omega : a4 ≠ a1), upd_ne L (by omega : a5 ≠ a1), upd_ne L (by omega : a6 ≠ a1),
    setV_same, setV_ne V _ (by omega : a2 ≠ a1), setV_ne V _ (by omega : a3 ≠ a1), setV_ne V _ (by omega : a4 ≠ a1)]
  exact TwoC.made1 h hok
theorem TwoC.ev_made2 (hs : six a1 a2 a3 a4 a5 a6 = true) (hok : d.ok W) {L : Nat → Bool} {V : Nat → Value} {w : World} (h : TwoF W d a1 a2 a3 a4 a5 a6 L V w) :
    TwoF W d a1 a2 a3 a4 a5 a6 (upd L a3) (setV V a3 (.slice (some ⟨w.heap.size, 0, none⟩) 1 1)) (w.alloc (.cells #[.int .i64 d.y2] 3)) := by
  simp only [six, decide_eq_true_eq] at hs
  unfold TwoF
  rw [upd_same, upd_ne L (by omega : a1 ≠ a3), upd_ne L (by omega : a2 ≠ a3), upd_ne L (by omega : a4 ≠ a3), upd_ne L (by omega : a5 ≠ a3), upd_ne L (by omega : a6 ≠ a3),
    setV_same, setV_ne V _ (by omega : a1 ≠ a3), setV_ne V _ (by omega : a2 ≠ a3), setV_ne V _ (by omega : a4 ≠ a3)]
  exact TwoC.made2 h hok
theorem TwoC.ev_app1 (hs : six a1 a2 a3 a4 a5 a6 = true) (hok : d.ok W) {L : Nat → Bool} {V : Nat → Value} {w : World} (h : TwoF W d a1 a2 a3 a4 a5 a6 L V w) (hL : L a2 = false) (hc : Cl l L) (hd : (dep l a4 a2 && dep l a5 a2 && dep l a6 a2) = true)
    (hw : Waits o L) (h1 : (o.after.any fun e => Region.binds .any e && e.on == a1) = true) (ty : TypeId) :
    ∃ v w', (Builtin.append_ #[26, 26] ty #[.slice (d.A d.f) (d.rows d.f).length (d.c d.f), V a1]).run Tryz.prog w = .ok v w' ∧ TwoF W d a1 a2 a3 a4 a5 a6 (upd L a2) (setV V a2 v) w' := by
  simp only [Bool.and_eq_true] at hd
  simp only [six, decide_eq_true_eq] at hs
  unfold TwoF at h ⊢
  rw [waits_at hw h1, hL, hc.not hd.1.1 hL, hc.not hd.1.2 hL, hc.not hd.2 hL] at h
  obtain ⟨v, w', k1, k2⟩ := h.app1 hok ty
  refine ⟨v, w', k1, ?_⟩
  rw [upd_same, upd_ne L (by omega : a1 ≠ a2), upd_ne L (by omega : a3 ≠ a2), upd_ne L (by omega : a4 ≠ a2), upd_ne L (by omega : a5 ≠ a2), upd_ne L (by omega : a6 ≠ a2),
    setV_same, setV_ne V _ (by omega : a1 ≠ a2), setV_ne V _ (by omega : a3 ≠ a2), setV_ne V _ (by omega : a4 ≠ a2), waits_at hw h1, hc.not hd.1.1 hL, hc.not hd.1.2 hL, hc.not hd.2 hL]
  exact k2
theorem TwoC.ev_app2 (hs : six a1 a2 a3 a4 a5 a6 = true) (hok : d.ok W) {L : Nat → Bool} {V : Nat → Value} {w : World} (h : TwoF W d a1 a2 a3 a4 a5 a6 L V w) (hL : L a4 = false) (hc : Cl l L) (hd : (dep l a5 a4 && dep l a6 a4) = true)
    (hw : Waits o L) (h1 : (o.after.any fun e => Region.binds .any e && e.on == a3) = true) (h2 : (o.after.any fun e => Region.binds .any e && e.on == a2) = true) (ty : TypeId) :
    ∃ v w', (Builtin.append_ #[26, 26] ty #[.slice (d.A d.t) (d.rows d.t).length (d.c d.t), V a3]).run Tryz.prog w = .ok v w' ∧ TwoF W d a1 a2 a3 a4 a5 a6 (upd L a4) (setV V a4 v) w' := by
  simp only [Bool.and_eq_true] at hd
  simp only [six, decide_eq_true_eq] at hs
  unfold TwoF at h ⊢
  rw [waits_at hw h1, waits_at hw h2, hL, hc.not hd.1 hL, hc.not hd.2 hL] at h
  obtain ⟨v, w', k1, k2⟩ := h.app2 hok ty
  refine ⟨v, w', k1, ?_⟩
  rw [upd_same, upd_ne L (by omega : a1 ≠ a4), upd_ne L (by omega : a2 ≠ a4), upd_ne L (by omega : a3 ≠ a4), upd_ne L (by omega : a5 ≠ a4), upd_ne L (by omega : a6 ≠ a4),
    setV_same, setV_ne V _ (by omega : a1 ≠ a4), setV_ne V _ (by omega : a2 ≠ a4), setV_ne V _ (by omega : a3 ≠ a4), waits_at hw h1, waits_at hw h2, hc.not hd.1 hL, hc.not hd.2 hL]
  exact k2
theorem TwoC.ev_put1 (hs : six a1 a2 a3 a4 a5 a6 = true) (hok : d.ok W) {L : Nat → Bool} {V : Nat → Value} {w : World} (h : TwoF W d a1 a2 a3 a4 a5 a6 L V w) (hL : L a5 = false) (hc : Cl l L) (hd : dep l a6 a5 = true)
    (hw : Waits o L) (h2 : (o.after.any fun e => Region.binds .any e && e.on == a2) = true) (h4 : (o.after.any fun e => Region.binds .any e && e.on == a4) = true) :
    (∃ A c, V a2 = .slice A ((d.rows d.f).length + 1) c) ∧ ((∃ x, w.cell? ⟨d.R, d.f, none⟩ = some x) ∧ w.frozen? ⟨d.R, d.f, none⟩ = false) ∧ TwoF W d a1 a2 a3 a4 a5 a6 (upd L a5) V (w.setCell ⟨d.R, d.f, none⟩ (V a2)) := by
  simp only [six, decide_eq_true_eq] at hs
  unfold TwoF at h ⊢
  rw [waits_at hw h2, waits_at hw h4, hL, hc.not hd hL] at h
  refine ⟨?_, h.there hok hok.lf, ?_⟩
  · have := h.a1
    rw [if_pos rfl] at this
    obtain ⟨A, c, e, _⟩ := this
    exact ⟨A, c, e⟩
  · rw [upd_same, upd_ne L (by omega : a1 ≠ a5), upd_ne L (by omega : a2 ≠ a5), upd_ne L (by omega : a3 ≠ a5), upd_ne L (by omega : a4 ≠ a5), upd_ne L (by omega : a6 ≠ a5), waits_at hw h2, waits_at hw h4, hc.not hd hL]
    exact h.put1 hok
theorem TwoC.ev_put2 (hs : six a1 a2 a3 a4 a5 a6 = true) (hok : d.ok W) {L : Nat → Bool} {V : Nat → Value} {w : World} (h : TwoF W d a1 a2 a3 a4 a5 a6 L V w) (hL : L a6 = false)
    (hw : Waits o L) (h2 : (o.after.any fun e => Region.binds .any e && e.on == a2) = true) (h4 : (o.after.any fun e => Region.binds .any e && e.on == a4) = true) (h5 : (o.after.any fun e => Region.binds .any e && e.on == a5) = true) :
    (∃ A c, V a4 = .slice A ((d.rows d.t).length + 1) c) ∧ ((∃ x, w.cell? ⟨d.R, d.t, none⟩ = some x) ∧ w.frozen? ⟨d.R, d.t, none⟩ = false) ∧ TwoF W d a1 a2 a3 a4 a5 a6 (upd L a6) V (w.setCell ⟨d.R, d.t, none⟩ (V a4)) := by
  simp only [six, decide_eq_true_eq] at hs
  unfold TwoF at h ⊢
  rw [waits_at hw h2, waits_at hw h4, waits_at hw h5, hL] at h
  refine ⟨?_, h.there hok hok.lt, ?_⟩
  · have := h.a2
    rw [if_pos rfl] at this
    obtain ⟨⟨A, c, e, _⟩, _⟩ := this
    exact ⟨A, c, e⟩
  · rw [upd_same, upd_ne L (by omega : a1 ≠ a6), upd_ne L (by omega : a2 ≠ a6), upd_ne L (by omega : a3 ≠ a6), upd_ne L (by omega : a4 ≠ a6), upd_ne L (by omega : a5 ≠ a6), waits_at hw h2, waits_at hw h4, waits_at hw h5]
    exact h.put2 hok
end
structure RowsG (w : World) (B R n : Nat) (rows : Nat → List Int) (A : Nat → Option Addr) (c : Nat → Nat) : Prop where
  blk : ∃ cs, w.heap[R]? = some (.cells cs 26 (0, 0)) ∧ cs.size = n ∧ ∀ u, u < n → cs[u]? = some (.slice (A u) (rows u).length (c u))
  gr : ∀ u, u < n → GrI w B (A u) (c u) (rows u)
  apart : ∀ u v, u < n → v < n → u ≠ v → ∀ b, (A u).map (·.block) = some b → (A v).map (·.block) ≠ some b
  nR : ∀ u, u < n → (A u).map (·.block) ≠ some R
  le : B ≤ R
theorem RowsG.keep {w w' : World} {B R n : Nat} {rows : Nat → List Int} {A : Nat → Option Addr} {c : Nat → Nat} (h : RowsG w B R n rows A c) (hb : Below w.heap.size w w') : RowsG w' B R n rows A c := by
  obtain ⟨⟨cs, h1, h2⟩, h3, h4, h5, h6⟩ := h
  exact ⟨⟨cs, (hb.block _ (Array.getElem?_eq_some_iff.1 h1).1).trans h1, h2⟩, fun u hu => (h3 u hu).keep hb, h4, h5, h6⟩
def grow2 (rows : Nat → List Int) (f t : Nat) (y1 y2 : Int) (u : Nat) : List Int := if u = f then rows u ++ [y1] else if u = t then rows u ++ [y2] else rows u
theorem RowsG.ok {w : World} {B R n : Nat} {rows : Nat → List Int} {A : Nat → Option Addr} {c : Nat → Nat} (h : RowsG w B R n rows A c) {f t : Nat} (hf : f < n) (ht : t < n) (hne : f ≠ t) (hB : B ≤ w.heap.size) (hl : ∀ u, u < n → (rows u).length < 100000) (y1 y2 : Int) :
    ∃ cs, TwoD.ok ⟨B, R, n, f, t, y1, y2, A, c, rows, cs⟩ w := by
  obtain ⟨⟨cs, h1, h2, h7⟩, h3, h4, h5, h6⟩ := h
  exact ⟨cs, h1, h2, hf, ht, hne, h3 f hf, h3 t ht, h7 f hf, h7 t ht, h4 f t hf ht hne, h5 f hf, h5 t ht, ⟨h6, hB⟩, ⟨hl f hf, hl t ht⟩⟩
theorem TwoC.done {W w : World} {B R n : Nat} {rows : Nat → List Int} {A : Nat → Option Addr} {c : Nat → Nat} (h : RowsG W B R n rows A c) {f t : Nat} {y1 y2 : Int} {cs : Array Value} (hok : TwoD.ok ⟨B, R, n, f, t, y1, y2, A, c, rows, cs⟩ W) {v1 v2 v3 v4 : Value}
    (hC : TwoC W ⟨B, R, n, f, t, y1, y2, A, c, rows, cs⟩ true true true true true true v1 v2 v3 v4 w) : ∃ A' c', RowsG w B R n (grow2 rows f t y1 y2) A' c' ∧ ∀ u, u < n → ∀ b, (A' u).map (·.block) = some b → (A u).map (·.block) = some b ∨ W.heap.size ≤ b := by
  obtain ⟨⟨cs0, e1, e2, e3⟩, q3, q4, q5, q6⟩ := h
  have ecs : cs0 = cs := by
    have := e1.symm.trans hok.hd
    injection this with this; injection this
  subst ecs
  have g1 := hC.a1
  rw [if_pos rfl] at g1
  have g2 := hC.a2
  rw [if_pos rfl] at g2
  obtain ⟨g2, g4⟩ := g2
  have g3 := g4 rfl
  clear g4
  obtain ⟨A1, c1, r1, r2, a1, rfl, r3⟩ := g1
  obtain ⟨A2, c2, s1, s2, a2, rfl, s3⟩ := g2
  subst r1 s1
  simp only at *
  have hft : f ≠ t := hok.ne
  have hne : a1.block ≠ a2.block := fun e => g3 a1.block rfl (by simp [Value.ownBlock, e])
  have hst : ∀ u, u < n → u ≠ f → u ≠ t → ∀ b, (A u).map (·.block) = some b → b ∉ (TwoD.S ⟨B, R, n, f, t, y1, y2, A, c, rows, cs0⟩) := fun u hu h1 h2 b hb hm => by
    simp only [TwoD.S, TwoD.bf, TwoD.bt, List.mem_cons, List.mem_append, Option.mem_toList] at hm
    rcases hm with rfl | hm | hm
    · exact q5 u hu hb
    · exact q4 u f hu hok.lf h1 b hb hm
    · exact q4 u t hu hok.lt h2 b hb hm
  refine ⟨fun u => if u = f then some a1 else if u = t then some a2 else A u, fun u => if u = f then c1 else if u = t then c2 else c u, ⟨⟨_, hC.hd, ?_, fun u hu => ?_⟩, fun u hu => ?_, fun u v hu hv huv b hb => ?_, fun u hu => ?_, q6⟩, fun u hu b hb => ?_⟩
  · simp [TwoD.hdr, e2]
  · simp only [TwoD.hdr, if_true]
    unfold grow2
    by_cases h1 : u = f
    · subst h1
      rw [if_pos rfl, if_pos rfl, if_pos rfl, Array.getElem?_setIfInBounds_ne (fun e => hft e.symm)]
      simp [e2, hu]
    · rw [if_neg h1, if_neg h1, if_neg h1]
      by_cases h2 : u = t
      · subst h2
        rw [if_pos rfl, if_pos rfl, if_pos rfl]
        simp [e2, hu]
      · rw [if_neg h2, if_neg h2, if_neg h2, Array.getElem?_setIfInBounds_ne (fun e => h2 e.symm), Array.getElem?_setIfInBounds_ne (fun e => h1 e.symm)]
        exact e3 u hu
  · unfold grow2
    by_cases h1 : u = f
    · subst h1; rw [if_pos rfl, if_pos rfl, if_pos rfl]; exact r2
    · rw [if_neg h1, if_neg h1, if_neg h1]
      by_cases h2 : u = t
      · subst h2; rw [if_pos rfl, if_pos rfl, if_pos rfl]; exact s2
      · rw [if_neg h2, if_neg h2, if_neg h2]
        exact (q3 u hu).move fun b hb => hC.tch.block b ((q3 u hu).lt hb).2 (hst u hu h1 h2 b hb)
  · -- rows are apart
    have old1 : ∀ w, w < n → w ≠ f → w ≠ t → (A w).map (·.block) ≠ some a1.block := fun w hw w1 w2 e => by
      rcases r3 with e' | e'
      · exact q4 w f hw hok.lf w1 _ e (grown_map e')
      · have := ((q3 w hw).lt e).2; omega
    have old2 : ∀ w, w < n → w ≠ f → w ≠ t → (A w).map (·.block) ≠ some a2.block := fun w hw w1 w2 e => by
      rcases s3 with e' | e'
      · exact q4 w t hw hok.lt w2 _ e (grown_map e')
      · have := ((q3 w hw).lt e).2; omega
    by_cases u1 : u = f
    · rw [if_pos u1] at hb
      obtain rfl : a1.block = b := by simpa using hb
      rw [if_neg (fun e => huv (u1.trans e.symm))]
      by_cases v2 : v = t
      · rw [if_pos v2]; simp; exact fun e => hne e.symm
      · rw [if_neg v2]; exact old1 v hv (fun e => huv (u1.trans e.symm)) v2
    · rw [if_neg u1] at hb
      by_cases u2 : u = t
      · rw [if_pos u2] at hb
        obtain rfl : a2.block = b := by simpa using hb
        by_cases v1 : v = f
        · rw [if_pos v1]; simp; exact hne
        · rw [if_neg v1, if_neg (fun e => huv (u2.trans e.symm))]
          exact old2 v hv v1 (fun e => huv (u2.trans e.symm))
      · rw [if_neg u2] at hb
        by_cases v1 : v = f
        · rw [if_pos v1]; intro e
          exact old1 u hu u1 u2 (hb.trans e.symm)
        · rw [if_neg v1]
          by_cases v2 : v = t
          · rw [if_pos v2]; intro e
            exact old2 u hu u1 u2 (hb.trans e.symm)
          · rw [if_neg v2]; exact q4 u v hu hv huv b hb
  · have hR := hok.Rl
    by_cases u1 : u = f
    · rw [if_pos u1]
      intro e
      obtain e : a1.block = R := by simpa using e
      rcases r3 with e' | e'
      · exact hok.nf ((grown_map e').trans (by rw [e]))
      · simp only at hR; omega
    · rw [if_neg u1]
      by_cases u2 : u = t
      · rw [if_pos u2]
        intro e
        obtain e : a2.block = R := by simpa using e
        rcases s3 with e' | e'
        · exact hok.nt ((grown_map e').trans (by rw [e]))
        · simp only at hR; omega
      · rw [if_neg u2]; exact q5 u hu
  · dsimp only at hb
    by_cases u1 : u = f
    · rw [if_pos u1] at hb
      obtain rfl : a1.block = b := by simpa using hb
      subst u1
      exact r3.imp (fun e => grown_map e) id
    · rw [if_neg u1] at hb
      by_cases u2 : u = t
      · rw [if_pos u2] at hb
        obtain rfl : a2.block = b := by simpa using hb
        subst u2
        exact s3.imp (fun e => grown_map e) id
      · rw [if_neg u2] at hb; exact .inl hb
theorem RowsG.other {w : World} {B R n : Nat} {rows : Nat → List Int} {A : Nat → Option Addr} {c : Nat → Nat} (h : RowsG w B R n rows A c) {b i : Nat} (h1 : R ≠ b) (h2 : ∀ u, u < n → (A u).map (·.block) ≠ some b) (v : Value) : RowsG (w.setCell ⟨b, i, none⟩ v) B R n rows A c := by
  obtain ⟨⟨cs, g1, g2⟩, g3, g4, g5, g6⟩ := h
  exact ⟨⟨cs, (Below.heap_setCell _ _ _ _ h1).trans g1, g2⟩, fun u hu => (g3 u hu).other (h2 u hu) v, g4, g5, g6⟩
def netk (es : List Ed) (x : List Int) (k v : Nat) : Int := sm k fun i => (if (ge es i).t = v then gi x i else 0) - (if (ge es i).f = v then gi x i else 0)
def valk (es : List Ed) (x : List Int) (k : Nat) : Int := sm k fun i => gi x i * (ge es i).j
def FitK (es : List Ed) (x : List Int) (k : Nat) : Prop := ∀ i, i < k → -((ge es i).k : Int) ≤ gi x i ∧ gi x i ≤ (ge es i).k
theorem netk_bound {n J : Nat} {es : List Ed} (hg : Gd n J es) {x : List Int} {k : Nat} (hk : k ≤ es.length) (hf : FitK es x k) (v : Nat) : -(1000 * (k : Int)) ≤ netk es x k v ∧ netk es x k v ≤ 1000 * (k : Int) := by
  induction k with
  | zero => simp [netk, sm]
  | succ k ih =>
    have h1 := ih (by omega) (fun i hi => hf i (by omega))
    have h2 := hf k (by omega)
    have h3 := hg.wt k (by omega)
    have h4 := (hg.ends k (by omega)).2.2
    unfold netk sm
    have e : sm k (fun i => (if (ge es i).t = v then gi x i else 0) - (if (ge es i).f = v then gi x i else 0)) = netk es x k v := rfl
    rw [e]
    by_cases a : (ge es k).t = v <;> by_cases b : (ge es k).f = v
    · exact absurd (b.trans a.symm) h4
    · simp only [a, b, if_true, if_false]; omega
    · simp only [a, b, if_true, if_false]; omega
    · simp only [a, b, if_false]; omega
theorem valk_bound {n J : Nat} {es : List Ed} (hg : Gd n J es) {x : List Int} {k : Nat} (hk : k ≤ es.length) (hf : FitK es x k) : -(1000000 * (k : Int)) ≤ valk es x k ∧ valk es x k ≤ 1000000 * (k : Int) := by
  induction k with
  | zero => simp [valk, sm]
  | succ k ih =>
    have h1 := ih (by omega) (fun i hi => hf i (by omega))
    have h2 := hf k (by omega)
    have h3 := hg.wt k (by omega)
    have h4 := hg.jump k (by omega)
    have h5 := hg.J_le
    have h6 := mul_ab_le (gi x k) (ge es k).j 1000 (by omega)
    have h7 := mul_ab_le (-gi x k) (ge es k).j 1000 (by omega)
    have h8 : ab (ge es k).j ≤ 1000 := by unfold ab; omega
    rw [Int.neg_mul] at h7
    have e : valk es x (k + 1) = valk es x k + gi x k * (ge es k).j := rfl
    rw [e]
    omega
def FlowPost (n : Nat) (es : List Ed) (fs : List Int) (w : World) (e : Ending) (w' : World) : Prop :=
  ∃ v g : Int, e = .returned (.tuple #[.int .i64 v, .int .i64 g]) ∧ (g = 0 → Right n es fs ∧ v = value es fs) ∧ (Right n es fs → g = 0) ∧ Below w.heap.size w w'
def Row3 (w : World) (W : World) (b : Nat) (old : List Int) (t f : Nat) (vt vf : Int) (d1 d2 : Bool) : Prop :=
  W.grownBy w (some b) ∧ ∃ ys, IntB w b ys ∧ ys.length = old.length ∧ gi ys t = (if d1 then vt else gi old t) ∧ gi ys f = (if d2 then vf else gi old f) ∧ ∀ j, j ≠ t → j ≠ f → gi ys j = gi old j
theorem Row3.start {W w : World} {b : Nat} {old : List Int} {t f : Nat} {vt vf : Int} (hg : W.grownBy w (some b)) (h : IntB w b old) : Row3 w W b old t f vt vf false false :=
  ⟨hg, old, h, rfl, by simp, by simp, fun _ _ _ => rfl⟩
theorem Row3.set1 {W w : World} {b : Nat} {old : List Int} {t f : Nat} {vt vf : Int} {d1 d2 : Bool} (h : Row3 w W b old t f vt vf d1 d2) (ht : t < old.length) (htf : t ≠ f) : Row3 (w.setCell ⟨b, t, none⟩ (.int .i64 vt)) W b old t f vt vf true d2 := by
  obtain ⟨h1, ys, h2, h3, h4, h5, h6⟩ := h
  refine ⟨grown_trans h1 grown_set, ys.set t vt, h2.set (by omega) vt, by simpa using h3, ?_, ?_, fun j a b => ?_⟩
  · rw [gi_set _ _ _ _ (by omega)]; simp
  · rw [gi_set _ _ _ _ (by omega), if_neg htf]; exact h5
  · rw [gi_set _ _ _ _ (by omega), if_neg (fun e => a e.symm)]; exact h6 j a b
theorem Row3.set2 {W w : World} {b : Nat} {old : List Int} {t f : Nat} {vt vf : Int} {d1 d2 : Bool} (h : Row3 w W b old t f vt vf d1 d2) (hf : f < old.length) (htf : t ≠ f) : Row3 (w.setCell ⟨b, f, none⟩ (.int .i64 vf)) W b old t f vt vf d1 true := by
  obtain ⟨h1, ys, h2, h3, h4, h5, h6⟩ := h
  refine ⟨grown_trans h1 grown_set, ys.set f vf, h2.set (by omega) vf, by simpa using h3, ?_, ?_, fun j a b => ?_⟩
  · rw [gi_set _ _ _ _ (by omega), if_neg (fun e => htf e.symm)]; exact h4
  · rw [gi_set _ _ _ _ (by omega)]; simp
  · rw [gi_set _ _ _ _ (by omega), if_neg (fun e => b e.symm)]; exact h6 j a b
theorem Row3.cell {W w : World} {b : Nat} {old : List Int} {t f : Nat} {vt vf : Int} {d1 d2 : Bool} (h : Row3 w W b old t f vt vf d1 d2) {a : Addr} {v : Value} (hc : W.cell? a = some v) (hne : a.block ≠ b) : w.cell? a = some v := by
  rw [← hc]
  exact World.cell?_of_block (w := W) (h.1.block a.block (World.block_lt_of_cell? W a hc) (fun e => hne (by injection e)))
theorem Row3.own {W w : World} {b : Nat} {old : List Int} {t f : Nat} {vt vf : Int} {d1 d2 : Bool} (h : Row3 w W b old t f vt vf d1 d2) {j : Nat} (hj : j < old.length) : ∃ y, w.cell? ⟨b, j, none⟩ = some (.int .i64 y) ∧ w.frozen? ⟨b, j, none⟩ = false ∧
    (j = t → y = if d1 then vt else gi old t) ∧ (j = f → y = if d2 then vf else gi old f) := by
  obtain ⟨h1, ys, h2, h3, h4, h5, h6⟩ := h
  exact ⟨gi ys j, h2.cell (by omega), h2.frozen j, fun e => by subst e; exact h4, fun e => by subst e; exact h5⟩
def FlowLoop (n : Nat) (es : List Ed) (fs : List Int) (N : Nat) (w1 : World) (k : Nat) (s : Int) (wr : World) : Prop :=
  FitK es fs k ∧ s = valk es fs k ∧ Below (N + 1) w1 wr ∧ ∃ ys, IntB wr (N + 1) ys ∧ ys.length = n ∧ ∀ v, v < n → gi ys v = netk es fs k v
theorem flow_c (n J : Nat) (es : List Ed) (hg : Gd n J es) (fs : List Int) (A B : Option Addr) (ca cb : Nat) (w : World) (hl : fs.length ≤ 100000) (hE : RdE w A es) (hF : RdI w B fs) :
    Calls Tryz.prog 10 #[.agg #[.int .i64 n, .slice A es.length ca], .slice B fs.length cb] w (FlowPost n es fs w) := by
  have hm := hg.m_le
  have hn := hg.n_le
  have HG := Lib.hid hg; clear hg
  have HE := Lib.hid hE; clear hE
  have HF := Lib.hid hF; clear hF
  by_cases hlen : fs.length = es.length
  · have hq : ((fs.length:Int) != (es.length:Int)) = false := by simp [hlen]
    have HL := Lib.hid hlen; clear hlen
    have hmk := run_make_ints n (by omega)
    go_enter Tryz.func10, Tryz.ntmps10
    go_wp2_with fail
    generalize hw1 : ((w.alloc (Obj.cells #[Value.int IntKind.i64 ↑n, Value.slice A es.length ca] 37)).alloc (.cells ((List.replicate n (0:Int)).flatMap encI).toArray 3)) = w1
    have hB1 : Below w.heap.size w w1 := by subst hw1; exact ((Below.refl _ _).alloc (Nat.le_refl _) _).alloc (by simp) _
    have hz : w1.heap.size = w.heap.size + 2 := by subst hw1; simp
    have hI1 : IntB w1 (w.heap.size + 1) (List.replicate n 0) := by
      subst hw1
      have := FlB.new (w.alloc (Obj.cells #[Value.int IntKind.i64 ↑n, Value.slice A es.length ca] 37)) encI 3 (List.replicate n 0)
      rw [World.size_alloc] at this
      exact this
    have hN1 : w1.heap[w.heap.size]? = some (Obj.cells #[Value.int IntKind.i64 ↑n, Value.slice A es.length ca] 37) := by
      subst hw1; rw [Below.heap_alloc _ _ _ (by simp)]; exact heap_alloc_new _ _
    clear hw1 hmk
    have HB1 := Lib.hid hB1; clear hB1
    have HI1 := Lib.hid hI1; clear hI1
    have HN1 := Lib.hid hN1; clear hN1
    have HZ := Lib.hid hz; clear hz
    go_loopw [7, 8] (fun v7 v8 wr => ∃ (s : Int) (k : Nat), v7 = .int .i64 s ∧ v8 = .int .i64 k ∧ k ≤ es.length ∧ FlowLoop n es fs w.heap.size w1 k s wr) (fun _ v8 _ => es.length - (intOf v8).toNat)
    case atStart =>
      refine ⟨0, 0, rfl, rfl, Nat.zero_le _, fun i hi => by omega, rfl, Below.refl _ _, List.replicate n 0, HI1.out, by simp, fun v _ => by rw [gi_replicate]; rfl⟩
    case round =>
      obtain ⟨s, k, rfl, rfl, hk, hL⟩ := hrel
      obtain ⟨hfit, hval, hBr, ys, hys, hyl, hyv⟩ := hL
      have HFit := Lib.hid hfit; clear hfit
      have HVal := Lib.hid hval; clear hval
      have HBr := Lib.hid hBr; clear hBr
      have HYs := Lib.hid hys; clear hys
      have HYl := Lib.hid hyl; clear hyl
      have HYv := Lib.hid hyv; clear hyv
      have hNr : wr.heap[w.heap.size]? = some (Obj.cells #[Value.int IntKind.i64 ↑n, Value.slice A es.length ca] 37) := (HBr.out.block _ (by omega)).trans HN1.out
      have hn0 : wr.cell? ⟨w.heap.size, 0, none⟩ = some (Value.int .i64 n) := by simp [World.cell?, hNr]
      have hn1 : wr.cell? ⟨w.heap.size, 1, none⟩ = some (Value.slice A es.length ca) := by simp [World.cell?, hNr]
      clear hNr
      have hlt1 : w.heap.size + 1 < wr.heap.size := HYs.out.lt
      by_cases hlt : k < es.length
      · obtain ⟨b, o, rfl, c0, c1, c2, c3⟩ := (HE.out.keep (HB1.out.trans (HBr.out.mono (by omega)))) k hlt
        obtain ⟨b', o', rfl, d0w⟩ := HF.out k (by rw [HL.out]; exact hlt)
        have hbw : b' < w.heap.size := World.block_lt_of_cell? _ _ d0w
        have d0 := cell_keep (HB1.out.trans (HBr.out.mono (by omega))) d0w
        clear d0w
        have hlt' : k < fs.length := by rw [HL.out]; exact hlt
        obtain ⟨e1, e2, e3⟩ := HG.out.ends k hlt
        obtain ⟨j1, j2⟩ := HG.out.jump k hlt
        have w1' := HG.out.wt k hlt
        have hJ := HG.out.J_le
        have hb1 : b < wr.heap.size := World.block_lt_of_cell? _ _ c0
        have hb2 : b' < wr.heap.size := World.block_lt_of_cell? _ _ d0
        obtain ⟨x, hx⟩ : ∃ x, x = ge es k := ⟨_, rfl⟩
        obtain ⟨y, hy⟩ : ∃ y, y = gi fs k := ⟨_, rfl⟩
        rw [← hx] at c0 c1 c2 c3 e1 e2 e3 j1 j2 w1'
        rw [← hy] at d0
        obtain ⟨xf, xt, xj, xk⟩ := x
        dsimp only at *
        have HX := Lib.hid hx; clear hx
        have HY := Lib.hid hy; clear hy
        by_cases hfity : -(xk:Int) ≤ y ∧ y ≤ xk
        · obtain ⟨y1, y2⟩ := hfity
          go_wp2_with fail
          go_quiet ((go_at_call 15; exact Calls.quiet_of_same (by refine (bwithin_c _ _ _ true (by simp; omega) _).mono ?_; rintro e w' ⟨rfl, rfl⟩; exact ⟨rfl, rfl⟩)))
          go_wp2_with fail
          obtain ⟨X, hX⟩ : ∃ X, X = wr.heap.size := ⟨_, rfl⟩
          obtain ⟨W, hW⟩ : ∃ W, W = (wr.alloc (Obj.cells #[Value.int IntKind.i64 ↑xf, Value.int IntKind.i64 ↑xt, Value.int IntKind.i64 xj, Value.int IntKind.i64 ↑xk] 54)).drewN nq := ⟨_, rfl⟩
          have x0 : W.cell? ⟨wr.heap.size, 0, none⟩ = some (.int .i64 xf) := by rw [hW]; simp
          have x1 : W.cell? ⟨wr.heap.size, 1, none⟩ = some (.int .i64 xt) := by rw [hW]; simp
          have x2 : W.cell? ⟨wr.heap.size, 2, none⟩ = some (.int .i64 xj) := by rw [hW]; simp
          have xd : W.cell? ⟨b', o' + k, none⟩ = some (.int .i64 y) := by rw [hW]; exact (World.cell?_alloc_lt _ _ ⟨b', o' + k, none⟩ hb2).trans d0
          have xI : IntB W (w.heap.size + 1) ys := by rw [hW]; exact (HYs.out.alloc _).drewN _
          rw [← hW]
          rw [← hX] at x0 x1 x2 ⊢
          have hXW : X ≠ w.heap.size + 1 := by omega
          have hb1n : b' ≠ w.heap.size + 1 := by omega
          obtain ⟨vt, hvt⟩ : ∃ v, v = gi ys xt := ⟨_, rfl⟩
          obtain ⟨vf, hvf⟩ : ∃ v, v = gi ys xf := ⟨_, rfl⟩
          have bt : -600000 ≤ vt ∧ vt ≤ 600000 := by
            have := netk_bound HG.out hk HFit.out xt; rw [hvt, HYv.out xt e2]; omega
          have bf : -600000 ≤ vf ∧ vf ≤ 600000 := by
            have := netk_bound HG.out hk HFit.out xf; rw [hvf, HYv.out xf e1]; omega
          obtain ⟨bt1, bt2⟩ := bt
          obtain ⟨bf1, bf2⟩ := bf
          have HVt := Lib.hid hvt; clear hvt
          have HVf := Lib.hid hvf; clear hvf
          have HXW := Lib.hid hX; clear hX
          have HWW := Lib.hid hW; clear hW
          have hyl := HYl.out
          refine region_rel (by kernel_rfl) (by kernel_rfl) (by kernel_rfl) (fun L _ w' => Row3 w' W (w.heap.size + 1) ys xt xf (vt + y) (vf - y) (L 36) (L 38)) (Row3.start ⟨rfl, rfl, rfl, Nat.le_refl _, fun _ _ _ => rfl⟩ xI.drew) ?_
          repeat (refine relq rfl rfl (fun _ _ _ h => h) (fun K hK => ?_); go_big_quiet_op; (refine hK _ ?_; clear hK K))
          refine relk_val rfl (.int .i64 xt) (fun _ _ _ h => h) (fun V L w' h1 h2 h3 hC => exec_load_int (.tmp 43) rfl ⟨X, 1, none⟩ rfl (hC.cell x1 (by show X ≠ _; omega))) (fun K hK => ?_)
          simp only [Fam.pt]; (refine hK _ ?_; clear hK K)
          repeat (refine relq rfl rfl (fun _ _ _ h => h) (fun K hK => ?_); go_big_quiet_op; (refine hK _ ?_; clear hK K))
          refine relk_val rfl (.int .i64 xf) (fun _ _ _ h => h) (fun V L w' h1 h2 h3 hC => exec_load_int (.tmp 46) rfl ⟨X, 0, none⟩ rfl (hC.cell x0 (by show X ≠ _; omega))) (fun K hK => ?_)
          simp only [Fam.pt]; (refine hK _ ?_; clear hK K)
          repeat (refine relq rfl rfl (fun _ _ _ h => h) (fun K hK => ?_); go_big_quiet_op; (refine hK _ ?_; clear hK K))
          refine relk_val rfl (.int .i64 xt) (fun _ _ _ h => h) (fun V L w' h1 h2 h3 hC => exec_load_int (.tmp 49) rfl ⟨X, 1, none⟩ rfl (hC.cell x1 (by show X ≠ _; omega))) (fun K hK => ?_)
          simp only [Fam.pt]; (refine hK _ ?_; clear hK K)
          repeat (refine relq rfl rfl (fun _ _ _ h => h) (fun K hK => ?_); go_big_quiet_op; (refine hK _ ?_; clear hK K))
          refine relk_val rfl (.int .i64 vt) (fun _ _ _ h => h) (fun V L w' h1 h2 h3 hC => exec_load_int (.tmp 51) rfl ⟨w.heap.size + 1, xt, none⟩ rfl (by
            obtain ⟨z, z1, _, z2, _⟩ := hC.own (j := xt) (by omega)
            rw [z1, z2 rfl, if_neg (by rw [h3.not (j := 36) (by kernel_rfl) h1]; simp), HVt.out])) (fun K hK => ?_)
          simp only [Fam.pt]; (refine hK _ ?_; clear hK K)
          repeat (refine relq rfl rfl (fun _ _ _ h => h) (fun K hK => ?_); go_big_quiet_op; (refine hK _ ?_; clear hK K))
          refine relk_val rfl (.int .i64 y) (fun _ _ _ h => h) (fun V L w' h1 h2 h3 hC => exec_load_int (.tmp 55) rfl ⟨b', o' + k, none⟩ rfl (hC.cell xd (by show b' ≠ _; omega))) (fun K hK => ?_)
          simp only [Fam.pt]; (refine hK _ ?_; clear hK K)
          repeat (refine relq rfl rfl (fun _ _ _ h => h) (fun K hK => ?_); go_big_quiet_op; (refine hK _ ?_; clear hK K))
          refine relk_val rfl (.int .i64 xf) (fun _ _ _ h => h) (fun V L w' h1 h2 h3 hC => exec_load_int (.tmp 59) rfl ⟨X, 0, none⟩ rfl (hC.cell x0 (by show X ≠ _; omega))) (fun K hK => ?_)
          simp only [Fam.pt]; (refine hK _ ?_; clear hK K)
          repeat (refine relq rfl rfl (fun _ _ _ h => h) (fun K hK => ?_); go_big_quiet_op; (refine hK _ ?_; clear hK K))
          refine relk_val rfl (.int .i64 vf) (fun _ _ _ h => h) (fun V L w' h1 h2 h3 hC => exec_load_int (.tmp 61) rfl ⟨w.heap.size + 1, xf, none⟩ rfl (by
            obtain ⟨z, z1, _, _, z2⟩ := hC.own (j := xf) (by omega)
            rw [z1, z2 rfl, if_neg (by rw [h3.not (j := 38) (by kernel_rfl) h1]; simp), HVf.out])) (fun K hK => ?_)
          simp only [Fam.pt]; (refine hK _ ?_; clear hK K)
          repeat (refine relq rfl rfl (fun _ _ _ h => h) (fun K hK => ?_); go_big_quiet_op; (refine hK _ ?_; clear hK K))
          refine relk_val rfl (.int .i64 y) (fun _ _ _ h => h) (fun V L w' h1 h2 h3 hC => exec_load_int (.tmp 65) rfl ⟨b', o' + k, none⟩ rfl (hC.cell xd (by show b' ≠ _; omega))) (fun K hK => ?_)
          simp only [Fam.pt]; (refine hK _ ?_; clear hK K)
          repeat (refine relq rfl rfl (fun _ _ _ h => h) (fun K hK => ?_); go_big_quiet_op; (refine hK _ ?_; clear hK K))
          refine relk_val rfl (.int .i64 y) (fun _ _ _ h => h) (fun V L w' h1 h2 h3 hC => exec_load_int (.tmp 71) rfl ⟨b', o' + k, none⟩ rfl (hC.cell xd (by show b' ≠ _; omega))) (fun K hK => ?_)
          simp only [Fam.pt]; (refine hK _ ?_; clear hK K)
          repeat (refine relq rfl rfl (fun _ _ _ h => h) (fun K hK => ?_); go_big_quiet_op; (refine hK _ ?_; clear hK K))
          refine relk_val rfl (.int .i64 xj) (fun _ _ _ h => h) (fun V L w' h1 h2 h3 hC => exec_load_int (.tmp 73) rfl ⟨X, 2, none⟩ rfl (hC.cell x2 (by show X ≠ _; omega))) (fun K hK => ?_)
          simp only [Fam.pt]; (refine hK _ ?_; clear hK K)
          repeat (refine relq rfl rfl (fun _ _ _ h => h) (fun K hK => ?_); go_big_quiet_op; (refine hK _ ?_; clear hK K))
          refine relk_do rfl rfl (fun w' => w'.setCell ⟨w.heap.size + 1, xt, none⟩ (.int .i64 (vt + y))) (fun V L w' h1 h2 h3 hC => ?_) ?_
          · obtain ⟨z, z1, z2, _, _⟩ := hC.own (j := xt) (by omega)
            exact ⟨exec_store_int (.tmp 77) (.tmp 57) rfl _ rfl _ rfl z1 z2, hC.set1 (by omega) (fun e => e3 e.symm)⟩
          repeat (refine relq rfl rfl (fun _ _ _ h => h) (fun K hK => ?_); go_big_quiet_op; (refine hK _ ?_; clear hK K))
          refine relk_do rfl rfl (fun w' => w'.setCell ⟨w.heap.size + 1, xf, none⟩ (.int .i64 (vf - y))) (fun V L w' h1 h2 h3 hC => ?_) ?_
          · obtain ⟨z, z1, z2, _, _⟩ := hC.own (j := xf) (by omega)
            exact ⟨exec_store_int (.tmp 78) (.tmp 67) rfl _ rfl _ rfl z1 z2, hC.set2 (by omega) (fun e => e3 e.symm)⟩
          repeat (refine relq rfl rfl (fun _ _ _ h => h) (fun K hK => ?_); go_big_quiet_op; (refine hK _ ?_; clear hK K))
          refine relk_end (fun L V W2 hL hC => ?_)
          rw [hL 36 (by decide), hL 38 (by decide)] at hC
          clear hL L V
          obtain ⟨r1, ys2, r2, r3, r4, r5, r6⟩ := hC
          have R1 := Lib.hid r1; clear r1
          have R2 := Lib.hid r2; clear r2
          have R3 := Lib.hid r3; clear r3
          have R4 := Lib.hid r4; clear r4
          have R5 := Lib.hid r5; clear r5
          have R6 := Lib.hid r6; clear r6
          go_wp2_with fail
          go_roundw
          case rel =>
            have E1 : FitK es fs (k + 1) := fun i hi => by
              by_cases e : i = k
              · subst e; rw [← HX.out, ← HY.out]; exact ⟨y1, y2⟩
              · exact HFit.out i (by omega)
            have E2 : valk es fs (k + 1) = s + y * xj := by
              have : valk es fs (k + 1) = valk es fs k + gi fs k * (ge es k).j := rfl
              rw [this, ← HVal.out, ← HX.out, ← HY.out]
            have hb := valk_bound HG.out (show k + 1 ≤ es.length by omega) E1
            rw [E2] at hb
            have hxy : wrap64 (y * xj) = y * xj := by
              have h6 := mul_ab_le y xj 1000 (by omega)
              have h7 := mul_ab_le (-y) xj 1000 (by omega)
              have h8 : ab xj ≤ 1000 := by unfold ab; omega
              rw [Int.neg_mul] at h7
              exact w64 (by omega) (by omega)
            refine ⟨s + y * xj, k + 1, ?_, by go_num, by omega, E1, E2.symm, ?_, ys2, R2.out, R3.out.trans HYl.out, fun v hv => ?_⟩
            · rw [hxy, w64 (by omega) (by omega)]
            · have g1 : wr.grownBy W2 (some (w.heap.size + 1)) := by
                have g0 : wr.grownBy W (some (w.heap.size + 1)) := by
                  rw [HWW.out]
                  exact ⟨rfl, rfl, rfl, by simp, fun i hi _ => Below.heap_alloc wr _ i hi⟩
                exact grown_trans g0 R1.out
              exact HBr.out.trans ⟨g1.os, g1.tape, g1.output, g1.size, fun i hi => g1.block i (by omega) (fun e => by injection e; omega)⟩
            · have e : netk es fs (k + 1) v = netk es fs k v + ((if xt = v then y else 0) - (if xf = v then y else 0)) := by
                have : netk es fs (k + 1) v = netk es fs k v + ((if (ge es k).t = v then gi fs k else 0) - (if (ge es k).f = v then gi fs k else 0)) := rfl
                rw [this, ← HX.out, ← HY.out]
              rw [e]
              by_cases a : xt = v
              · subst a
                rw [R4.out, HVt.out, HYv.out _ hv, if_pos rfl, if_neg e3]; simp
              · by_cases c : xf = v
                · subst c
                  rw [R5.out, HVf.out, HYv.out _ hv, if_pos rfl, if_neg a]; simp; omega
                · rw [R6.out v (fun h => a h.symm) (fun h => c h.symm), HYv.out _ hv, if_neg a, if_neg c]; omega
          case measure => simp [intOf]; omega
        · go_wp2_with fail
          go_quiet ((go_at_call 15; exact Calls.quiet_of_same (by refine (bwithin_c _ _ _ false (by simp; omega) _).mono ?_; rintro e w' ⟨rfl, rfl⟩; exact ⟨rfl, rfl⟩)))
          go_wp2_with fail
          go_ret2
          refine ⟨0, 2, rfl, fun h => by simp at h, fun h => ?_, ?_⟩
          · have := h.fit k hlt
            rw [← HX.out, ← HY.out] at this
            exact absurd this hfity
          · exact below_drewN (HB1.out.trans ((HBr.out.mono (by omega)).alloc (by omega) _)) _
      · have hkE : k = es.length := by omega
        have hge : fs.length ≤ k := by rw [HL.out]; omega
        have HkE := Lib.hid hkE; clear hkE
        go_wp2_with fail
        have HBW : Below w.heap.size w wr := HB1.out.trans (HBr.out.mono (by omega))
        have hNl := HYl.out
        have hNet : ∀ v, v < n → gi ys v = net es fs v := fun v hv => by rw [HYv.out v hv, HkE.out]; rfl
        have HNet := Lib.hid hNet; clear hNet
        have HFit' : FitK es fs es.length := by rw [← HkE.out]; exact HFit.out
        have HVal' : s = value es fs := by rw [HVal.out, HkE.out]; rfl
        have HV := Lib.hid HVal'; clear HVal'
        have HW := Lib.hid HBW; clear HBW
        go_loop [10] (fun v10 => ∃ i : Nat, v10 = .int .i64 i ∧ i ≤ n ∧ ∀ v, v < i → gi ys v = 0) (fun v10 => n - (intOf v10).toNat)
        case atStart => exact ⟨0, rfl, Nat.zero_le _, fun v hv => by omega⟩
        case round =>
          obtain ⟨i, rfl, hi, hz⟩ := hrel
          have HZr := Lib.hid hz; clear hz
          by_cases hin : i < n
          · have hc := HYs.out.cell (j := i) (by omega)
            by_cases hg0 : gi ys i = 0
            · have h1 : (gi ys i != 0) = false := by simp [hg0]
              have HG0 := Lib.hid hg0; clear hg0
              go_wp2_with fail
              go_round
              case rel => exact ⟨i + 1, by go_num, by omega, fun v hv => by
                by_cases e : v = i
                · subst e; exact HG0.out
                · exact HZr.out v (by omega)⟩
              case measure => simp [intOf]; omega
            · have h1 : (gi ys i != 0) = true := by simp [hg0]
              have HG0 := Lib.hid hg0; clear hg0
              go_wp2_with fail
              go_ret2
              refine ⟨0, 25, rfl, fun h => by simp at h, fun h => ?_, HW.out⟩
              exact absurd ((HNet.out i hin).trans (h.bal i hin)) HG0.out
          · go_wp2_with fail
            go_ret2
            refine ⟨s, 0, rfl, fun _ => ⟨⟨HL.out, HFit', fun v hv => ?_⟩, HV.out⟩, fun _ => rfl, HW.out⟩
            rw [← HNet.out v hv]
            exact HZr.out v (by omega)
  · have hq : ((fs.length:Int) != (es.length:Int)) = true := by
      rw [bne_iff_ne]; omega
    have HL := Lib.hid hlen; clear hlen
    go_enter Tryz.func10, Tryz.ntmps10
    go_wp2_with fail
    go_ret2
    exact ⟨0, 10, rfl, fun h => by simp at h, fun h => absurd h.len HL.out, (Below.refl _ _).alloc (Nat.le_refl _) _⟩
end Go.Proofs.YtjnpchoinncbnaaGreat
end
section
namespace Go.Fam
end Go.Fam
namespace Go.Proofs.YtjnpchoinncbnaaGreat
open Go.RowKit Sw Fam
def costk (es : List Ed) (p : List Int) (k : Nat) : Int := sm k fun i => (ge es i).k * ab (exc (ge es i) p)
def edV (e : Ed) : Value := .agg #[.int .i64 e.f, .int .i64 e.t, .int .i64 e.j, .int .i64 e.k]
def PB (n : Nat) (p : List Int) : Prop := p.length = n ∧ ∀ v, v < n → -1000000000 ≤ gi p v ∧ gi p v ≤ 1000000000
theorem exc_bound {n J : Nat} {es : List Ed} (hg : Gd n J es) {p : List Int} (hp : PB n p) {k : Nat} (hk : k < es.length) : -2000001000 ≤ exc (ge es k) p ∧ exc (ge es k) p ≤ 2000001000 := by
  obtain ⟨e1, e2, _⟩ := hg.ends k hk
  have := hp.2 _ e1
  have := hp.2 _ e2
  have := hg.jump k hk
  have := hg.J_le
  unfold exc; omega
theorem costk_bound {n J : Nat} {es : List Ed} (hg : Gd n J es) {p : List Int} (hp : PB n p) {k : Nat} (hk : k ≤ es.length) : 0 ≤ costk es p k ∧ costk es p k ≤ 2000001000000 * (k : Int) := by
  induction k with
  | zero => simp [costk, sm]
  | succ k ih =>
    have h1 := ih (by omega)
    have h2 := exc_bound hg hp (show k < es.length by omega)
    have h3 := hg.wt k (by omega)
    have e : costk es p (k + 1) = costk es p k + (ge es k).k * ab (exc (ge es k) p) := rfl
    rw [e]
    have h4 : 0 ≤ ab (exc (ge es k) p) ∧ ab (exc (ge es k) p) ≤ 2000001000 := by unfold ab; omega
    have h5 : ((ge es k).k : Int) * ab (exc (ge es k) p) ≤ 1000 * 2000001000 := Int.mul_le_mul (by omega) h4.2 h4.1 (by omega)
    have h6 : 0 ≤ ((ge es k).k : Int) * ab (exc (ge es k) p) := Int.mul_nonneg (by omega) h4.1
    omega
theorem excess_c {n : Nat} {e : Ed} {p : List Int} {A : Option Addr} {c : Nat} {w : World} (hn : n ≤ 100000) (hp : PB n p) (hr : RdI w A p) (h1 : e.f < n) (h2 : e.t < n) (hj : -1000 ≤ e.j ∧ e.j ≤ 1000) :
    Calls Tryz.prog 56 #[edV e, .slice A n c] w fun r w' => r = .returned (.int .i64 (exc e p)) ∧ Below w.heap.size w w' := by
  obtain ⟨b, o, rfl, c1⟩ := hr e.f (by rw [hp.1]; exact h1)
  obtain ⟨b', o', e', c2⟩ := hr e.t (by rw [hp.1]; exact h2)
  cases e'
  have b1 := hp.2 _ h1
  have b2 := hp.2 _ h2
  clear hr hp
  obtain ⟨b11, b12⟩ := b1
  obtain ⟨b21, b22⟩ := b2
  obtain ⟨j1, j2⟩ := hj
  unfold edV exc
  have hlt : b < w.heap.size := World.block_lt_of_cell? _ _ c1
  go_enter Tryz.func56, Tryz.ntmps56
  go_wp2_with fail
  go_quiet (fail)
  go_wp2_with fail
  go_ret
  exact ⟨rfl, below_drewN ((Below.refl _ _).alloc (Nat.le_refl _) _) _⟩
theorem cost_c {n J : Nat} {es : List Ed} (hg : Gd n J es) {p : List Int} {A B : Option Addr} {ca cb : Nat} {w : World} (hp : PB n p) (hE : RdE w A es) (hP : RdI w B p) :
    Calls Tryz.prog 34 #[.agg #[.int .i64 n, .slice A es.length ca], .slice B n cb] w fun r w' => r = .returned (.int .i64 (cost es p)) ∧ Below w.heap.size w w' := by
  have hm := hg.m_le
  have hn := hg.n_le
  have HG := Lib.hid hg; clear hg
  have HE := Lib.hid hE; clear hE
  have HP := Lib.hid hP; clear hP
  have HPB := Lib.hid hp; clear hp
  go_enter Tryz.func34, Tryz.ntmps34
  go_wp2_with fail
  go_loopw [5, 12] (fun v5 v12 wr => ∃ k : Nat, v12 = .int .i64 k ∧ v5 = .int .i64 (costk es p k) ∧ k ≤ es.length ∧ Below w.heap.size w wr) (fun _ v12 _ => es.length - (intOf v12).toNat)
  case atStart => exact ⟨0, rfl, rfl, Nat.zero_le _, (Below.refl _ _).alloc (Nat.le_refl _) _⟩
  case round =>
    obtain ⟨k, rfl, rfl, hk, hB⟩ := hrel
    by_cases hlt : k < es.length
    · obtain ⟨b, o, rfl, c0, c1, c2, c3⟩ := (HE.out.keep hB) k hlt
      obtain ⟨e1, e2, e3⟩ := HG.out.ends k hlt
      obtain ⟨j1, j2⟩ := HG.out.jump k hlt
      have hJ := HG.out.J_le
      have hwt := HG.out.wt k hlt
      have hex := exc_bound HG.out HPB.out hlt
      have hck := costk_bound HG.out HPB.out (show k ≤ es.length by omega)
      have hck1 := costk_bound HG.out HPB.out (show k + 1 ≤ es.length by omega)
      have HBe := Lib.hid hB; clear hB
      go_wp2_with fail
      generalize hW1 : wr.alloc _ = W1
      have hb1 : Below wr.heap.size wr W1 := by rw [← hW1]; exact (Below.refl _ _).alloc (Nat.le_refl _) _
      have heb : W1.heap[wr.heap.size]? = some (.cells #[.int .i64 (ge es k).f, .int .i64 (ge es k).t, .int .i64 (ge es k).j, .int .i64 (ge es k).k] 54 (0, 0)) := by rw [← hW1]; exact World.alloc_heap_new wr _
      clear hW1
      have x3 : W1.cell? ⟨wr.heap.size, 3, none⟩ = some (.int .i64 (ge es k).k) := block_cell heb (j := 3) (by simp)
      have hBW : Below w.heap.size w W1 := HBe.out.trans (hb1.mono HBe.out.size)
      obtain ⟨y, hy⟩ : ∃ y, y = ab (exc (ge es k) p) := ⟨_, rfl⟩
      have hyb : 0 ≤ y ∧ y ≤ 2000001000 := by rw [hy]; unfold ab; omega
      obtain ⟨z, hz⟩ : ∃ z : Int, z = (ge es k).k * y := ⟨_, rfl⟩
      have hzb : 0 ≤ z ∧ z ≤ 2000001000000 := by
        have h5 : ((ge es k).k : Int) * y ≤ 1000 * 2000001000 := Int.mul_le_mul (by omega) hyb.2 hyb.1 (by omega)
        have h6 : 0 ≤ ((ge es k).k : Int) * y := Int.mul_nonneg (by omega) hyb.1
        rw [hz]; omega
      obtain ⟨z1, z2⟩ := hzb
      have hcs : costk es p (k + 1) = costk es p k + z := by rw [hz, hy]; rfl
      have HCS := Lib.hid hcs
      have HZ := Lib.hid (And.intro hy hz)
      have HEB := Lib.hid heb
      have HBW := Lib.hid hBW
      rw [hcs] at hck1
      obtain ⟨q1, q2⟩ := hck
      clear hcs heb hBW hb1 c0 c1 c2 c3 hy hz
      refine region_rel (by kernel_rfl) (by kernel_rfl) (by kernel_rfl) (fun _ _ w' => Below W1.heap.size W1 w') ((Below.refl _ _).drew) ?_
      (repeat (refine relq rfl rfl (fun _ _ _ h => h) (fun K hK => ?_); go_big_quiet_op; (refine hK _ ?_; clear hK K)))
      (refine relk_val rfl _ (fun _ _ _ h => h) (fun V L w' h1 h2 h3 hC => ex_load1 _ _ rfl _ rfl (cellB hC x3) _ Tryz.underlying3 rfl) (fun K hK => ?_); simp only [Fam.pt]; (refine hK _ ?_; clear hK K))
      refine relk_val rfl (edV (ge es k)) (fun _ _ _ h => h) (fun V L w' h1 h2 h3 hC => ex_loadN 54 _ rfl wr.heap.size 0 rfl [.int .i64 (ge es k).f, .int .i64 (ge es k).t, .int .i64 (ge es k).j, .int .i64 (ge es k).k] _ (fun j v hj => by
        have hb := (hC.block _ (Array.getElem?_eq_some_iff.1 HEB.out).1).trans HEB.out
        obtain ⟨j1, j2⟩ := List.getElem?_eq_some_iff.1 hj
        rw [Nat.zero_add, block_cell hb (j := j) (by simpa using j1)]
        simp [← j2]) Tryz.underlying54 rfl (by kernel_rfl)) (fun K hK => ?_)
      simp only [Fam.pt]
      refine hK _ ?_
      clear hK K
      (repeat (refine relq rfl rfl (fun _ _ _ h => h) (fun K hK => ?_); go_big_quiet_op; (refine hK _ ?_; clear hK K)))
      refine relk_fix rfl (.int .i64 (exc (ge es k) p)) (fun V L w2 h1 h2 h3 hC => ?_) (fun K hK => ?_)
      · rw [ex_call2 56 (.tmp 19) (.tmp 20) _ rfl rfl rfl rfl (enters_fn Tryz.func56 (by kernel_rfl) rfl)]
        refine (excess_c (e := ge es k) (by omega) HPB.out ((HP.out.keep HBW.out).keep hC) e1 e2 ⟨by omega, by omega⟩).mono ?_
        rintro e w' ⟨rfl, h⟩
        exact ⟨_, rfl, rfl, hC.trans (h.mono hC.size)⟩
      simp only [Fam.pt]
      refine hK _ ?_
      clear hK K
      refine relk_fix rfl (.int .i64 y) (fun V L w2 h1 h2 h3 hC => ?_) (fun K hK => ?_)
      · rw [ex_call1 55 (.tmp 21) _ rfl rfl rfl (enters_fn Tryz.func55 (by kernel_rfl) rfl)]
        refine (size_c _ (by omega) _).mono ?_
        rintro e w' ⟨rfl, rfl⟩
        exact ⟨_, rfl, by rw [← HZ.out.1], hC⟩
      simp only [Fam.pt]
      refine hK _ ?_
      clear hK K
      refine relk_val rfl (.int .i64 z) (fun _ _ _ h => h) (fun V L w2 h1 h2 h3 hC => ?_) (fun K hK => ?_)
      · unfold execOp
        go_simp
        rw [← HZ.out.2]
        exact IntWalk.i64_in z (by omega)
      simp only [Fam.pt]
      refine hK _ ?_
      clear hK K
      (repeat (refine relq rfl rfl (fun _ _ _ h => h) (fun K hK => ?_); go_big_quiet_op; (refine hK _ ?_; clear hK K)))
      refine relk_end (fun L V W2 hL hC => ?_)
      go_wp2_with fail
      go_roundw
      case rel => exact ⟨k + 1, by go_num, by rw [HCS.out], by omega, HBW.out.trans (hC.mono HBW.out.size)⟩
      case measure => simp [intOf]; omega
    · have : k = es.length := by omega
      subst this
      go_wp2_with fail
      go_ret
      exact ⟨rfl, hB⟩
end Go.Proofs.YtjnpchoinncbnaaGreat
end
