/- Proves parts of the statement, each under the conditions that its theorem states: The shortest ways: what is made at the start; The shortest ways: the tour is made; The shortest ways: a round of the search; The shortest ways: the search. -/
import Derived.Test.YtjnpchoinncbnaaP06
import Derived.Test.YtjnpchoinncbnaaP05
section
set_option linter.unusedSimpArgs false
set_option linter.unusedVariables false
namespace Go.Proofs.Ytjnpchoinncbnaa
open Go.RowKit Sw Fam
theorem arcs_c (S u : Nat) (w : World) : Calls Try.prog 62 #[.pointer (some ⟨S, 0, none⟩), .int .i64 u] w fun e w' =>
    e = .returned (.func (.func 65) #[] #[.pointer (some ⟨w.heap.size, 0, none⟩), .pointer (some ⟨w.heap.size + 1, 0, none⟩)]) ∧ w' = (w.alloc (.cells #[.pointer (some ⟨S, 0, none⟩)] 57)).alloc (.cells #[.int .i64 u] 3) := by
  go_enter Try.func62, Try.ntmps62
  go_wp2_with fail
  go_ret
  exact ⟨rfl, rfl⟩
theorem made_flat {α : Type} {enc : α → List Value} {k : Nat} (hk : ∀ x, (enc x).length = k) (hk0 : 0 < k) (d : α) (n : Nat) : madeCells (enc d).toArray (n * k) = ((List.replicate n d).flatMap enc).toArray := by
  have hlen : ((List.replicate n d).flatMap enc).length = n * k := by rw [flat_len hk, List.length_replicate]
  apply Array.ext
  · simp [madeCells, hlen]
  · intro i h1 h2
    have hi : i < n * k := by simpa [madeCells] using h1
    have hd : i / k < n := by rw [Nat.div_lt_iff_lt_mul hk0]; exact hi
    have h3 := flat_get hk (List.replicate n d) (i / k) (i % k) (Nat.mod_lt _ hk0) (by rw [List.length_replicate]; exact hd)
    rw [show i / k * k + i % k = i by rw [Nat.mul_comm]; exact Nat.div_add_mod i k] at h3
    have h4 : (List.replicate n d)[i / k]? = some d := by rw [List.getElem?_replicate, if_pos hd]
    rw [h4] at h3
    simp only [Option.bind_some] at h3
    have hm : i % k < (enc d).length := by rw [hk]; exact Nat.mod_lt _ hk0
    rw [List.getElem?_eq_getElem (by rw [hlen]; exact hi), List.getElem?_eq_getElem hm] at h3
    have h5 := Option.some.inj h3
    simp only [madeCells, Array.getElem_map, Array.getElem_range, List.size_toArray, hk, List.getElem_toArray, h5]
    rw [getElem!_pos (enc d).toArray (i % k) (by simpa using hm)]
    simp
theorem run_make_flat {α : Type} {enc : α → List Value} {k : Nat} (hk : ∀ x, (enc x).length = k) (hk0 : 0 < k) (d : α) (t e : TypeId) (z : Value) (bytes : Nat) (ht : Try.prog.underlying t = some (.slice e)) (hinfo : (Try.prog.info? e).map (fun i => (i.zero, i.size, i.bytes)) = some (some z, k, bytes)) (hz : z.cells = (enc d).toArray)
    (n : Nat) (hn : n ≤ 1000) (hb : bytes ≤ 1000000) (W : World) : (Instr.makeSlice t (.int .i64 (n : Int)) (.int .i64 (n : Int))).run Try.prog W = .ok (.slice (some ⟨W.heap.size, 0, none⟩) n n) (W.alloc (.cells ((List.replicate n d).flatMap enc).toArray e)) := by
  obtain ⟨i, hi, hzz⟩ := Option.map_eq_some_iff.1 hinfo
  simp only [Prod.mk.injEq] at hzz
  obtain ⟨hz', hs, hb'⟩ := hzz
  have hle : bytes * n ≤ 1000000 * 1000 := Nat.mul_le_mul hb hn
  have hbi : (i.bytes : Int) * (n : Int) ≤ 281474976710656 := by
    have h : ((i.bytes * n : Nat) : Int) ≤ 281474976710656 := by rw [hb']; omega
    rwa [Int.natCast_mul] at h
  have hr := run_make (P := Try.prog) W t e i z ht hi hz' .i64 .i64 n n (by omega) (Int.le_refl _) hbi (by omega)
  simp only [Int.toNat_natCast, hs, hz] at hr
  rw [made_flat hk hk0] at hr
  exact hr
theorem run_make_arcs (n : Nat) (hn : n ≤ 1000) (W : World) : (Instr.makeSlice 94 (.int .i64 (n : Int)) (.int .i64 (n : Int))).run Try.prog W = .ok (.slice (some ⟨W.heap.size, 0, none⟩) n n) (W.alloc (.cells ((List.replicate n (⟨0, 0, 0, 0, 0⟩ : Ar)).flatMap encA).toArray 99)) :=
  run_make_flat encA_len (by decide) ⟨0, 0, 0, 0, 0⟩ _ _ (.agg #[.int .i64 0, .int .i64 0, .int .i64 0, .int .i64 0, .int .i64 0]) 40 Try.underlying94 (by kernel_rfl) rfl n hn (by decide) W
theorem run_make_bools (n : Nat) (hn : n ≤ 1000) (W : World) : (Instr.makeSlice 102 (.int .i64 (n : Int)) (.int .i64 (n : Int))).run Try.prog W = .ok (.slice (some ⟨W.heap.size, 0, none⟩) n n) (W.alloc (.cells ((List.replicate n false).flatMap encB).toArray 4)) :=
  run_make_flat encB_len (by decide) false _ _ (.bool false) 1 Try.underlying102 (by kernel_rfl) rfl n hn (by decide) W
end Go.Proofs.Ytjnpchoinncbnaa
end

section
set_option linter.unusedSimpArgs false
set_option linter.unusedVariables false
namespace Go.Fam
open RowKit
variable {P : Program} {ρ : Operand → Value} {o : Oper} {w : World}
theorem ex_call1 (f : FuncId) (x : Operand) (ts : Array TypeId) (ho : o.op = .call { callee := .value (.func f), args := #[x], argTypes := ts }) {a : Value} (hx : ρ x = a) (hf : ρ (.func f) = .func (.func f) #[] #[])
    (he : ∀ args w, (callFunc f args).run P w = .ok (.enter f args) w) : (execOp ρ o).run P w = .ok (.enter f #[a]) w := by
  unfold execOp
  simp only [ho, resolve, List.map_toArray, List.map_cons, List.map_nil, hx, hf, Deferred.ofValue, Sem.run_bind, Sem.run_pure, Result.andThen_ok, invoke]
  simp [he]
theorem ex_call2 (f : FuncId) (x y : Operand) (ts : Array TypeId) (ho : o.op = .call { callee := .value (.func f), args := #[x, y], argTypes := ts }) {a b : Value} (hx : ρ x = a) (hy : ρ y = b) (hf : ρ (.func f) = .func (.func f) #[] #[])
    (he : ∀ args w, (callFunc f args).run P w = .ok (.enter f args) w) : (execOp ρ o).run P w = .ok (.enter f #[a, b]) w := by
  unfold execOp
  simp only [ho, resolve, List.map_toArray, List.map_cons, List.map_nil, hx, hy, hf, Deferred.ofValue, Sem.run_bind, Sem.run_pure, Result.andThen_ok, invoke]
  simp [he]
theorem enters_fn {f : FuncId} {fn : Func} {c : Code} (hf : P.funcs[f]? = some fn) (hname : (fn.name == "runtime.NumGoroutine") = false) (hb : fn.body = some c) : ∀ args w, (callFunc f args).run P w = .ok (.enter f args) w := by
  intro args w
  have h1 : fn.name ≠ "runtime.NumGoroutine" := by simpa using hname
  simp [callFunc, hf, h1, hb, mark]
end Go.Fam
namespace Go.Proofs.Ytjnpchoinncbnaa
open Go.RowKit Sw Fam
theorem ex_slice1 {ρ : Operand → Value} {o : Oper} {w : World} (x : Operand) (ho : o.op = .buildSlice 22 1 #[(0, x)]) (c : Int) (hx : ρ x = .int .i64 c) : (execOp ρ o).run Try.prog w = .ok (.value (.slice (some ⟨w.heap.size, 0, none⟩) 1 1)) (w.alloc (.cells #[.int .i64 c] 3)) := by
  unfold execOp
  simp only [ho, hx, List.map_toArray, List.map_cons, List.map_nil]
  go_simp
theorem ex_build3 {ρ : Operand → Value} {o : Oper} {w : World} (x y z : Operand) (ho : o.op = .build 96 #[(0, x), (1, y), (2, z)]) {a b c : Option Addr} {n : Nat} (hx : ρ x = .slice a n n) (hy : ρ y = .slice b n n) (hz : ρ z = .slice c n n) :
    (execOp ρ o).run Try.prog w = .ok (.value (.agg #[.slice a n n, .slice b n n, .slice c n n])) w := by
  unfold execOp
  simp only [ho, hx, hy, hz, List.map_toArray, List.map_cons, List.map_nil]
  go_simp
def TW (B n : Nat) (V : Nat → Value) : Nat → World → Prop
  | 0, w => ∃ b, V 0 = .slice (some ⟨b, 0, none⟩) 1 1 ∧ w.cell? ⟨b, 0, none⟩ = some (.int .i64 far)
  | 7, w => ∃ b, V 7 = .slice (some ⟨b, 0, none⟩) n n ∧ B ≤ b ∧ IntB w b (List.replicate n far)
  | 14, w => ∃ b, V 14 = .slice (some ⟨b, 0, none⟩) n n ∧ B ≤ b ∧ FlB encA 99 w b (List.replicate n ⟨0, 0, 0, 0, 0⟩)
  | 21, w => ∃ b, V 21 = .slice (some ⟨b, 0, none⟩) n n ∧ B ≤ b ∧ IntB w b (List.replicate n 0)
  | 22, w => V 22 = .agg #[V 7, V 14, V 21]
  | 23, w => ∃ b, V 23 = .pointer (some ⟨b, 0, none⟩) ∧ B ≤ b ∧ w.heap[b]? = some (.cells #[.slice none 0 0, .slice none 0 0, .slice none 0 0] 96 (0, 0))
  | _, _ => True
theorem TW_ok (B n : Nat) {ops : Array Oper} (hd : (dep ops 22 7 && dep ops 22 14 && dep ops 22 21) = true) : GrT ops (TW B n) := by
  simp only [Bool.and_eq_true] at hd
  obtain ⟨⟨e1, e2⟩, e3⟩ := hd
  constructor
  · intro V j w w' h hb
    unfold TW at h ⊢
    split
    · obtain ⟨b, h1, h2⟩ := h; exact ⟨b, h1, cellB hb h2⟩
    · obtain ⟨b, h1, h2, h3⟩ := h; exact ⟨b, h1, h2, h3.keep hb⟩
    · obtain ⟨b, h1, h2, h3⟩ := h; exact ⟨b, h1, h2, FlB.keep h3 hb⟩
    · obtain ⟨b, h1, h2, h3⟩ := h; exact ⟨b, h1, h2, h3.keep hb⟩
    · exact h
    · obtain ⟨b, h1, h2, h3⟩ := h; exact ⟨b, h1, h2, (hb.block b (Array.getElem?_eq_some_iff.1 h3).1).trans h3⟩
    · trivial
  · intro L V w i u j hi hc hj h
    have hne : j ≠ i := fun e => by rw [← e, hj] at hi; cases hi
    unfold TW at h ⊢
    split
    · rw [setV_ne _ _ hne]; exact h
    · rw [setV_ne _ _ hne]; exact h
    · rw [setV_ne _ _ hne]; exact h
    · rw [setV_ne _ _ hne]; exact h
    · have k7 : (7 : Nat) ≠ i := fun e => by subst e; rw [hc.not e1 hi] at hj; cases hj
      have k14 : (14 : Nat) ≠ i := fun e => by subst e; rw [hc.not e2 hi] at hj; cases hj
      have k21 : (21 : Nat) ≠ i := fun e => by subst e; rw [hc.not e3 hi] at hj; cases hj
      rw [setV_ne _ _ hne, setV_ne _ _ k7, setV_ne _ _ k14, setV_ne _ _ k21]; exact h
    · rw [setV_ne _ _ hne]; exact h
    · trivial
set_option maxHeartbeats 4000000 in
set_option maxRecDepth 100000 in
theorem ways_make {m n sb S : Nat} {W : World} {Q : Exit → Act → World → Prop} {u0 u1 u3 u4 u5 u6 u7 u8 u9 u10 u11 u12 u13 u14 u15 u16 u17 u18 u19 u20 u21 u22 u23 u24 u25 u26 u27 u28 u29 u30 u31 u32 u33 u34 u35 u36 u37 u38 u39 u40 u41 u42 u43 u44 u45 u46 u47 u48 u49 u50 u51 u52 u53 u54 u55 u56 u57 u58 u59 u60 u61 u62 u63 u64 u65 u66 u67 u68 u69 u70 u71 u72 u73 u74 u75 u76 u77 u78 u79 u80 u81 u82 u83 u84 u85 u86 u87 u88 u89 u90 u91 u92 u93 u94 u95 u96 u97 u98 u99 u100 u101 u102 u103 u104 u105 u106 u107 u108 u109 u110 u111 u112 u113 u114 u115 u116 u117 u118 u119 u120 u121 u122 u123 u124 u125 u126 u127 u128 u129 u130 u131 u132 u133 u134 u135 u136 u137 u138 : Value}
    (hn : 1 ≤ n ∧ n ≤ 1000) (hsb : W.cell? ⟨sb, 0, none⟩ = some (.pointer (some ⟨S, 0, none⟩))) (h0 : W.cell? ⟨S, 0, none⟩ = some (.int .i64 n))
    (hQ : ∀ v12 v13 v14 v15 v16 v17 v18 v19 v20 v21 v22 v23 v24 v25 v26 v27 v28 v29 v30 v31 v32 v33 v34 w' tb lb ab bb, Below W.heap.size W w' → W.heap.size ≤ tb → W.heap.size ≤ lb → W.heap.size ≤ ab → W.heap.size ≤ bb →
      w'.heap[tb]? = some (.cells #[.slice (some ⟨lb, 0, none⟩) n n, .slice (some ⟨ab, 0, none⟩) n n, .slice (some ⟨bb, 0, none⟩) n n] 96 (0, 0)) → IntB w' lb (List.replicate n far) → FlB encA 99 w' ab (List.replicate n ⟨0, 0, 0, 0, 0⟩) → IntB w' bb (List.replicate n 0) →
      Q .normal ⟨#[u0, u1, .pointer (some ⟨sb, 0, none⟩), u3, u4, .pointer (some ⟨tb, 0, none⟩), u6, u7, u8, u9, u10, u11, v12, v13, v14, v15, v16, v17, v18, v19, v20, v21, v22, v23, v24, v25, v26, v27, v28, v29, v30, v31, v32, v33, v34, u35, u36, u37, u38, u39, u40, u41, u42, u43, u44, u45, u46, u47, u48, u49, u50, u51, u52, u53, u54, u55, u56, u57, u58, u59, u60, u61, u62, u63, u64, u65, u66, u67, u68, u69, u70, u71, u72, u73, u74, u75, u76, u77, u78, u79, u80, u81, u82, u83, u84, u85, u86, u87, u88, u89, u90, u91, u92, u93, u94, u95, u96, u97, u98, u99, u100, u101, u102, u103, u104, u105, u106, u107, u108, u109, u110, u111, u112, u113, u114, u115, u116, u117, u118, u119, u120, u121, u122, u123, u124, u125, u126, u127, u128, u129, u130, u131, u132, u133, u134, u135, u136, u137, u138], []⟩ w') :
    Code.wpIn Fence.wide m Try.prog (Try.f58.sub [1, 0]) Q ⟨#[u0, u1, .pointer (some ⟨sb, 0, none⟩), u3, u4, u5, u6, u7, u8, u9, u10, u11, u12, u13, u14, u15, u16, u17, u18, u19, u20, u21, u22, u23, u24, u25, u26, u27, u28, u29, u30, u31, u32, u33, u34, u35, u36, u37, u38, u39, u40, u41, u42, u43, u44, u45, u46, u47, u48, u49, u50, u51, u52, u53, u54, u55, u56, u57, u58, u59, u60, u61, u62, u63, u64, u65, u66, u67, u68, u69, u70, u71, u72, u73, u74, u75, u76, u77, u78, u79, u80, u81, u82, u83, u84, u85, u86, u87, u88, u89, u90, u91, u92, u93, u94, u95, u96, u97, u98, u99, u100, u101, u102, u103, u104, u105, u106, u107, u108, u109, u110, u111, u112, u113, u114, u115, u116, u117, u118, u119, u120, u121, u122, u123, u124, u125, u126, u127, u128, u129, u130, u131, u132, u133, u134, u135, u136, u137, u138], []⟩ W := by
  conv => arg 4; whnf
  dsimp only
  have HQ := Lib.hid hQ; clear hQ
  obtain ⟨hn1, hn2⟩ := hn
  refine regionIn_rel (.inl rfl) (by kernel_rfl) (by kernel_rfl) (by kernel_rfl) (GrC W.heap.size W (fun L => L 24) (TW W.heap.size n) (fun V w' => ∃ w0 b, V 23 = .pointer (some ⟨b, 0, none⟩) ∧ W.heap.size ≤ b ∧ Below W.heap.size W w0 ∧ (∀ j, j < 24 → TW W.heap.size n V j w0) ∧ w' = w0.setCells b 0 [V 7, V 14, V 21])) (GrC.start rfl (Below.refl _ _).drew) ?_
  refine gr_free (TW_ok _ _ (by kernel_rfl)) (ahead_last (by kernel_rfl)) (Nat.le_refl _) rfl (fun V L w hB _ _ => ?_) ?_
  · rw [ex_slice1 _ rfl 1152921504606846976 rfl]
    refine ⟨(Below.refl _ _).alloc (Nat.le_refl _) _, fun V' _ h => ⟨w.heap.size, h, ?_⟩⟩
    simp; rfl
  simp only [Act.put, List.setIfInBounds_toArray, List.set_cons_succ, List.set_cons_zero]
  (refine gr_fix (ahead_last (by kernel_rfl)) rfl _ (fun _ _ => trivial) (fun V w hB => ex_load1 _ _ rfl _ rfl (cellB hB hsb) _ Try.underlying57 rfl) ?_; simp only [Act.put, List.setIfInBounds_toArray, List.set_cons_succ, List.set_cons_zero])
  (refine gr_fix (ahead_last (by kernel_rfl)) rfl (.pointer (some ⟨S, 0, none⟩)) (fun _ _ => trivial) (fun V w hB => by unfold execOp; go_simp) ?_; simp only [Act.put, List.setIfInBounds_toArray, List.set_cons_succ, List.set_cons_zero])
  (refine gr_fix (ahead_last (by kernel_rfl)) rfl (.pointer (some ⟨S, 0, none⟩)) (fun _ _ => trivial) (fun V w hB => by unfold execOp; go_simp) ?_; simp only [Act.put, List.setIfInBounds_toArray, List.set_cons_succ, List.set_cons_zero])
  (refine gr_fix (ahead_last (by kernel_rfl)) rfl (.pointer (some ⟨S, 0, none⟩)) (fun _ _ => trivial) (fun V w hB => by unfold execOp; go_simp) ?_; simp only [Act.put, List.setIfInBounds_toArray, List.set_cons_succ, List.set_cons_zero])
  (refine gr_fix (ahead_last (by kernel_rfl)) rfl (.pointer (some ⟨S, 0, none⟩)) (fun _ _ => trivial) (fun V w hB => by unfold execOp; go_simp) ?_; simp only [Act.put, List.setIfInBounds_toArray, List.set_cons_succ, List.set_cons_zero])
  (refine gr_fix (ahead_last (by kernel_rfl)) rfl _ (fun _ _ => trivial) (fun V w hB => ex_load1 _ _ rfl _ rfl (cellB hB h0) _ Try.underlying3 rfl) ?_; simp only [Act.put, List.setIfInBounds_toArray, List.set_cons_succ, List.set_cons_zero])
  refine gr_free (TW_ok _ _ (by kernel_rfl)) (ahead_last (by kernel_rfl)) (Nat.le_refl _) rfl (fun V L w hB hT hw => ?_) ?_
  · obtain ⟨b, e1, e2⟩ := hT 0 (hw ⟨0, .data⟩ (by simp) rfl)
    rw [ex_call2 61 (.tmp 12) (.tmp 18) _ rfl e1 rfl rfl (enters_fn Try.func61 (by kernel_rfl) rfl)]
    refine (repeat_c n ⟨hn1, hn2⟩ far b w e2).mono ?_
    rintro e w' ⟨B, rfl, k1, k2, k3⟩
    exact ⟨_, rfl, k1, fun V' _ h => ⟨B, h, Nat.le_trans hB.size k2, k3⟩⟩
  simp only [Act.put, List.setIfInBounds_toArray, List.set_cons_succ, List.set_cons_zero]
  (refine gr_fix (ahead_last (by kernel_rfl)) rfl _ (fun _ _ => trivial) (fun V w hB => ex_load1 _ _ rfl _ rfl (cellB hB hsb) _ Try.underlying57 rfl) ?_; simp only [Act.put, List.setIfInBounds_toArray, List.set_cons_succ, List.set_cons_zero])
  (refine gr_fix (ahead_last (by kernel_rfl)) rfl (.pointer (some ⟨S, 0, none⟩)) (fun _ _ => trivial) (fun V w hB => by unfold execOp; go_simp) ?_; simp only [Act.put, List.setIfInBounds_toArray, List.set_cons_succ, List.set_cons_zero])
  (refine gr_fix (ahead_last (by kernel_rfl)) rfl (.pointer (some ⟨S, 0, none⟩)) (fun _ _ => trivial) (fun V w hB => by unfold execOp; go_simp) ?_; simp only [Act.put, List.setIfInBounds_toArray, List.set_cons_succ, List.set_cons_zero])
  (refine gr_fix (ahead_last (by kernel_rfl)) rfl (.pointer (some ⟨S, 0, none⟩)) (fun _ _ => trivial) (fun V w hB => by unfold execOp; go_simp) ?_; simp only [Act.put, List.setIfInBounds_toArray, List.set_cons_succ, List.set_cons_zero])
  (refine gr_fix (ahead_last (by kernel_rfl)) rfl (.pointer (some ⟨S, 0, none⟩)) (fun _ _ => trivial) (fun V w hB => by unfold execOp; go_simp) ?_; simp only [Act.put, List.setIfInBounds_toArray, List.set_cons_succ, List.set_cons_zero])
  (refine gr_fix (ahead_last (by kernel_rfl)) rfl _ (fun _ _ => trivial) (fun V w hB => ex_load1 _ _ rfl _ rfl (cellB hB h0) _ Try.underlying3 rfl) ?_; simp only [Act.put, List.setIfInBounds_toArray, List.set_cons_succ, List.set_cons_zero])
  refine gr_free (TW_ok _ _ (by kernel_rfl)) (ahead_last (by kernel_rfl)) (Nat.le_refl _) rfl (fun V L w hB hT hw => ?_) ?_
  · rw [ex_make 94 (.tmp 25) (.tmp 25) rfl rfl rfl (run_make_arcs n hn2 w)]
    exact ⟨(Below.refl _ _).alloc (Nat.le_refl _) _, fun V' _ h => ⟨w.heap.size, h, hB.size, FlB.new w encA _ _⟩⟩
  simp only [Act.put, List.setIfInBounds_toArray, List.set_cons_succ, List.set_cons_zero]
  (refine gr_fix (ahead_last (by kernel_rfl)) rfl _ (fun _ _ => trivial) (fun V w hB => ex_load1 _ _ rfl _ rfl (cellB hB hsb) _ Try.underlying57 rfl) ?_; simp only [Act.put, List.setIfInBounds_toArray, List.set_cons_succ, List.set_cons_zero])
  (refine gr_fix (ahead_last (by kernel_rfl)) rfl (.pointer (some ⟨S, 0, none⟩)) (fun _ _ => trivial) (fun V w hB => by unfold execOp; go_simp) ?_; simp only [Act.put, List.setIfInBounds_toArray, List.set_cons_succ, List.set_cons_zero])
  (refine gr_fix (ahead_last (by kernel_rfl)) rfl (.pointer (some ⟨S, 0, none⟩)) (fun _ _ => trivial) (fun V w hB => by unfold execOp; go_simp) ?_; simp only [Act.put, List.setIfInBounds_toArray, List.set_cons_succ, List.set_cons_zero])
  (refine gr_fix (ahead_last (by kernel_rfl)) rfl (.pointer (some ⟨S, 0, none⟩)) (fun _ _ => trivial) (fun V w hB => by unfold execOp; go_simp) ?_; simp only [Act.put, List.setIfInBounds_toArray, List.set_cons_succ, List.set_cons_zero])
  (refine gr_fix (ahead_last (by kernel_rfl)) rfl (.pointer (some ⟨S, 0, none⟩)) (fun _ _ => trivial) (fun V w hB => by unfold execOp; go_simp) ?_; simp only [Act.put, List.setIfInBounds_toArray, List.set_cons_succ, List.set_cons_zero])
  (refine gr_fix (ahead_last (by kernel_rfl)) rfl _ (fun _ _ => trivial) (fun V w hB => ex_load1 _ _ rfl _ rfl (cellB hB h0) _ Try.underlying3 rfl) ?_; simp only [Act.put, List.setIfInBounds_toArray, List.set_cons_succ, List.set_cons_zero])
  refine gr_free (TW_ok _ _ (by kernel_rfl)) (ahead_last (by kernel_rfl)) (Nat.le_refl _) rfl (fun V L w hB hT hw => ?_) ?_
  · rw [ex_make 22 (.tmp 32) (.tmp 32) rfl rfl rfl (run_make_ints n (by omega) w)]
    exact ⟨(Below.refl _ _).alloc (Nat.le_refl _) _, fun V' _ h => ⟨w.heap.size, h, hB.size, FlB.new w encI _ _⟩⟩
  simp only [Act.put, List.setIfInBounds_toArray, List.set_cons_succ, List.set_cons_zero]
  refine gr_free (TW_ok _ _ (by kernel_rfl)) (ahead_last (by kernel_rfl)) (Nat.le_refl _) rfl (fun V L w hB hT hw => ?_) ?_
  · obtain ⟨b7, e7, _, _⟩ := hT 7 (hw ⟨7, .data⟩ (by simp) rfl)
    obtain ⟨b14, e14, _, _⟩ := hT 14 (hw ⟨14, .data⟩ (by simp) rfl)
    obtain ⟨b21, e21, _, _⟩ := hT 21 (hw ⟨21, .data⟩ (by simp) rfl)
    rw [ex_build3 (.tmp 19) (.tmp 26) (.tmp 33) rfl e7 e14 e21]
    refine ⟨Below.refl _ _, fun V' h h' => ?_⟩
    show V' 22 = .agg #[V' 7, V' 14, V' 21]
    rw [h', h 7 (by decide), h 14 (by decide), h 21 (by decide), e7, e14, e21]
  simp only [Act.put, List.setIfInBounds_toArray, List.set_cons_succ, List.set_cons_zero]
  refine gr_free (TW_ok _ _ (by kernel_rfl)) (ahead_last (by kernel_rfl)) (Nat.le_refl _) rfl (fun V L w hB hT hw => ?_) ?_
  · rw [ex_alloc 96 rfl (z := .agg #[.slice none 0 0, .slice none 0 0, .slice none 0 0]) (by kernel_rfl)]
    exact ⟨(Below.refl _ _).alloc (Nat.le_refl _) _, fun V' _ h => ⟨w.heap.size, h, hB.size, heap_alloc_new w _⟩⟩
  simp only [Act.put, List.setIfInBounds_toArray, List.set_cons_succ, List.set_cons_zero]
  refine gr_last rfl rfl (fun V w hB hT => ?_) (fun j hj => by revert j; decide +kernel) rfl ?_ (by decide)
  · obtain ⟨b, h1, h2, h3⟩ := hT 23 (by decide)
    have h22 : V 22 = .agg #[V 7, V 14, V 21] := hT 22 (by decide)
    obtain ⟨b7, e7, _, _⟩ := hT 7 (by decide)
    obtain ⟨b14, e14, _, _⟩ := hT 14 (by decide)
    obtain ⟨b21, e21, _, _⟩ := hT 21 (by decide)
    rw [ex_storeN 96 (.tmp 5) (.tmp 34) rfl b 0 #[V 7, V 14, V 21] h1 h22 (block_there h3 (Nat.le_refl 3)) (by kernel_rfl) (by rw [e7, e14, e21]; simp [Value.oneCell'])]
    exact ⟨rfl, w, b, h1, h2, hB, hT, rfl⟩
  · rintro V w' ⟨w0, b, h1, h2, h3, hT, rfl⟩
    obtain ⟨b', h1', _, h4⟩ := hT 23 (by decide)
    rw [h1] at h1'
    cases h1'
    obtain ⟨b7, e7, g7, f7⟩ := hT 7 (by decide)
    obtain ⟨b14, e14, g14, f14⟩ := hT 14 (by decide)
    obtain ⟨b21, e21, g21, f21⟩ := hT 21 (by decide)
    have n7 : b7 ≠ b := fun e => by subst e; have := f7.symm.trans h4; injection this with this; injection this with _ h _; exact absurd h (by decide)
    have n14 : b14 ≠ b := fun e => by subst e; have := f14.symm.trans h4; injection this with this; injection this with _ h _; exact absurd h (by decide)
    have n21 : b21 ≠ b := fun e => by subst e; have := f21.symm.trans h4; injection this with this; injection this with _ h _; exact absurd h (by decide)
    rw [h1, e7, e14, e21]
    refine HQ.out _ _ _ _ _ _ _ _ _ _ _ _ _ _ _ _ _ _ _ _ _ _ _ _ b b7 b14 b21 (below_setCells h2 _ _ _ h3) h2 g7 g14 g21 ?_ (fl_cells n7 _ _ _ f7) (fl_cells n14 _ _ _ f14) (fl_cells n21 _ _ _ f21)
    have s1 := heap_setCell_same w0 b 0 _ _ (.slice (some ⟨b7, 0, none⟩) n n) h4
    have s2 := heap_setCell_same _ b 1 _ _ (.slice (some ⟨b14, 0, none⟩) n n) s1
    exact heap_setCell_same _ b 2 _ _ (.slice (some ⟨b21, 0, none⟩) n n) s2
end Go.Proofs.Ytjnpchoinncbnaa
end

section
set_option linter.unusedSimpArgs false
set_option linter.unusedVariables false
namespace Go.Proofs.Ytjnpchoinncbnaa
open Go.RowKit Sw Fam
structure WLoc where
  sb : Nat
  rb : Nat
  tb : Nat
  lb : Nat
  ab : Nat
  bb : Nat
  db : Nat
structure WLoc.ok (z : WLoc) (B : Nat) : Prop where
  le : B ≤ z.sb ∧ B ≤ z.rb ∧ B ≤ z.tb ∧ B ≤ z.lb ∧ B ≤ z.ab ∧ B ≤ z.bb ∧ B ≤ z.db
  ne : z.lb ≠ z.ab ∧ z.ab ≠ z.bb ∧ z.lb ≠ z.bb ∧ z.lb ≠ z.tb ∧ z.ab ≠ z.tb ∧ z.bb ≠ z.tb ∧ z.db ≠ z.lb ∧ z.db ≠ z.ab ∧ z.db ≠ z.bb ∧ z.db ≠ z.tb
  sb : z.sb ≠ z.lb ∧ z.sb ≠ z.ab ∧ z.sb ≠ z.bb ∧ z.sb ≠ z.db ∧ z.sb ≠ z.tb ∧ z.sb ≠ z.rb
  rb : z.rb ≠ z.lb ∧ z.rb ≠ z.ab ∧ z.rb ≠ z.bb ∧ z.rb ≠ z.db ∧ z.rb ≠ z.tb
structure WMem (W0 w : World) (z : WLoc) (S n : Nat) (l : List Int) (last : List Ar) (bef : List Nat) (done : List Bool) (Ds : List Nat) : Prop where
  bel : Below W0.heap.size W0 w
  tour : TourM w z.tb z.lb z.ab z.bb z.db n l last bef done
  sbc : w.cell? ⟨z.sb, 0, none⟩ = some (.pointer (some ⟨S, 0, none⟩))
  rbc : ∃ a b c, w.heap[z.rb]? = some (.cells #[a, b, c] 96 (0, 0))
  op : Opn w Ds
  ge : ∀ D, D ∈ Ds → W0.heap.size ≤ D
theorem WMem.keep {W0 w w' : World} {z : WLoc} {S n : Nat} {l : List Int} {last : List Ar} {bef : List Nat} {done : List Bool} {Ds : List Nat} (h : WMem W0 w z S n l last bef done Ds) (hb : Below w.heap.size w w') : WMem W0 w' z S n l last bef done Ds := by
  obtain ⟨h1, h2, h3, ⟨a, b, c, h4⟩, h6, h7⟩ := h
  exact ⟨h1.trans (hb.mono h1.size), h2.keep hb, cellB hb h3, ⟨a, b, c, (hb.block _ (Array.getElem?_eq_some_iff.1 h4).1).trans h4⟩, ⟨h6.nd, fun D hD => (hb.block _ (Array.getElem?_eq_some_iff.1 (h6.op D hD)).1).trans (h6.op D hD)⟩, h7⟩
theorem Opn.ne_cells {w : World} {Ds : List Nat} (h : Opn w Ds) {b : Nat} {cs : Array Value} {t : TypeId} {r : Nat × Nat} (hb : w.heap[b]? = some (.cells cs t r)) : b ∉ Ds := fun hm => by
  have := hb.symm.trans (h.op b hm)
  injection this with this
  cases this
def WJ (W0 : World) (z : WLoc) (S n : Nat) (es : List Ed) (x p : List Int) (src u : Nat) (done : List Bool) (rk : Nat → Nat) (Ds : List Nat) (at' nb l : Nat) (rec : Loop) (k : Nat) (w : World) : Prop :=
  ∃ len last bef, WMem W0 w z S n len last bef done Ds ∧ Dij n es x p src len last bef done rk (gi len u) (fun v a => v = u ∧ a ∈ (arcs es x u).drop k) ∧
    w.cell? ⟨at', 0, none⟩ = some (.int .i64 u) ∧ w.cell? ⟨nb, 0, none⟩ = some (.int .i64 u) ∧ w.cell? ⟨nb - 1, 0, none⟩ = some (.pointer (some ⟨S, 0, none⟩)) ∧ w.heap[l]? = some (.loop rec) ∧ gb done u = true
theorem roundA_mono {l : Nat} {ar : Ar} {W : World} {R R' : World → Prop} (h : RoundA l ar W R) (hR : ∀ w, R w → R' w) : RoundA l ar W R' := by
  obtain ⟨rec, h1, h2, h3⟩ := h
  exact ⟨rec, h1, h2, fun m => (h3 m).mono fun e w ⟨e1, e2⟩ => ⟨e1, hR w e2⟩⟩
theorem drop_cons {xs : List Ar} {k : Nat} (h : k < xs.length) : xs.drop k = ga xs k :: xs.drop (k + 1) := by
  rw [List.drop_eq_getElem_cons h]
  congr 1
  unfold ga
  simp [h]
theorem WJ.keep {W0 : World} {z : WLoc} {S n : Nat} {es : List Ed} {x p : List Int} {src u : Nat} {done : List Bool} {rk : Nat → Nat} {Ds : List Nat} {at' nb l : Nat} {rec : Loop} {k : Nat} {w w' : World}
    (h : WJ W0 z S n es x p src u done rk Ds at' nb l rec k w) (hb : Below w.heap.size w w') : WJ W0 z S n es x p src u done rk Ds at' nb l rec k w' := by
  obtain ⟨len, last, bef, h1, h2, h3, h4, h5, h6, h7⟩ := h
  exact ⟨len, last, bef, h1.keep hb, h2, cellB hb h3, cellB hb h4, cellB hb h5, (hb.block _ (Array.getElem?_eq_some_iff.1 h6).1).trans h6, h7⟩
set_option maxHeartbeats 4000000 in
set_option maxRecDepth 100000 in
theorem WJ.step {W0 : World} {z : WLoc} {n J0 : Nat} {es : List Ed} (hg : Gd n J0 es) {x p ex : List Int} {v : Loc} (hx : Fits es x p) (hS : SvM W0 v n es x p ex) (hpb : ∀ i, i < n → 0 ≤ gi p i ∧ gi p i ≤ 1000000000000) (hz : z.ok W0.heap.size)
    {src u : Nat} (hu : u < n) {done : List Bool} {rk : Nat → Nat} {Ds : List Nat} {at' nb l D fn : Nat} {rec : Loop} {u0 u1 u3 u4 u6 u8 u9 u10 u11 u12 u13 u14 u15 u16 u17 u18 u19 u20 u21 u22 u23 u24 u25 u26 u27 u28 u29 u30 u31 u32 u33 u34 u35 u36 u37 u38 u39 u40 u41 u42 u43 u44 u45 u46 u47 u48 u49 u50 u51 u52 u53 u54 u55 u56 u57 u58 u59 u60 u61 u62 u63 u64 u65 u66 u67 u68 u69 u70 u71 u72 u73 u74 u75 u76 u77 u78 u79 u80 u81 u82 u83 u84 u85 u86 u87 u88 u89 u90 u91 u92 u93 u94 u95 u96 u97 u98 u99 u100 u101 u102 u103 u104 u105 u106 u107 u108 u109 u110 u111 u112 u113 u114 u115 u116 u117 u118 u119 u120 u121 u122 u123 u124 u125 u126 u127 u128 u129 u130 u131 u132 u133 u134 u135 u136 u137 u138 : Value}
    (hrec : rec = recOf fn #[u0, u1, .pointer (some ⟨z.sb, 0, none⟩), u3, u4, .pointer (some ⟨z.tb, 0, none⟩), u6, .pointer (some ⟨at', 0, none⟩), u8, u9, u10, u11, u12, u13, u14, u15, u16, u17, u18, u19, u20, u21, u22, u23, u24, u25, u26, u27, u28, u29, u30, u31, u32, u33, u34, u35, u36, u37, u38, u39, u40, u41, u42, u43, u44, u45, u46, u47, u48, u49, u50, u51, u52, u53, u54, u55, u56, u57, u58, u59, u60, u61, u62, u63, u64, u65, u66, u67, u68, u69, u70, u71, u72, u73, u74, u75, u76, u77, u78, u79, u80, u81, u82, u83, u84, u85, u86, u87, u88, u89, u90, u91, u92, u93, u94, u95, u96, u97, u98, u99, u100, u101, u102, u103, u104, u105, u106, u107, u108, u109, u110, u111, u112, u113, u114, u115, u116, u117, u118, u119, u120, u121, u122, u123, u124, u125, u126, u127, u128, u129, u130, u131, u132, u133, u134, u135, u136, u137, u138] #[87] (Try.f58.sub [1, 1, 1, 1, 0, 0, 0, 1, 1, 1, 1, 1, 0, 0]) (Try.f58.sub [1, 1, 1, 1, 0, 0, 0, 1, 1, 1, 1, 1, 0, 1]) D .ready)
    (hn : ∀ b, b = at' ∨ b = nb ∨ b = nb - 1 ∨ b = l → W0.heap.size ≤ b ∧ b ≠ z.sb ∧ b ≠ z.rb ∧ b ≠ z.tb ∧ b ≠ z.lb ∧ b ≠ z.ab ∧ b ≠ z.bb ∧ b ≠ z.db) (hl : l ≠ at' ∧ l ≠ nb ∧ l ≠ nb - 1)
    {k : Nat} {w : World} (hk : k < (arcs es x u).length) (h : WJ W0 z v.S n es x p src u done rk Ds at' nb l rec k w) :
    RoundA l (ga (arcs es x u) k) w (WJ W0 z v.S n es x p src u done rk Ds at' nb l rec (k + 1)) := by
  obtain ⟨len, last, bef, h1, h2, h3, h4, h5, h6, h7⟩ := h
  have ha : IsArc es x u (ga (arcs es x u) k) := (isArc_iff hg).2 (by unfold ga; simp [hk])
  obtain ⟨a1, _, _, _, a5, a6⟩ := arc_to_lt hg ha
  have hJ := hg.J_le
  have hn2 := hg.n_le
  have hS1 : SvM w v n es x p ex := hS.keep h1.bel
  have hlo := h2.lo u hu
  obtain ⟨⟨z1, z2, z3, z4, z5, z6, z7⟩, ⟨n1, n2, n3, n4, n5, n6, n7, n8, n9, n10⟩, ⟨s1, s2, s3, s4, s5, s6⟩, ⟨r1, r2, r3, r4, r5⟩⟩ := hz
  obtain ⟨q1, q2, q3, q4, q5, q6, q7, q8⟩ := hn l (by simp)
  obtain ⟨t1, t2, t3, t4, t5, t6, t7, t8⟩ := hn at' (by simp)
  obtain ⟨b1, b2, b3, b4, b5, b6, b7, b8⟩ := hn nb (by simp)
  obtain ⟨c1, c2, c3, c4, c5, c6, c7, c8⟩ := hn (nb - 1) (by simp)
  obtain ⟨m1, m2, m3⟩ := hl
  have hSlt : v.S < W0.heap.size := (Array.getElem?_eq_some_iff.1 hS.blk).1
  have hplt : v.p < W0.heap.size := hS.tu.lt
  rw [hrec] at h6
  refine roundA_mono (ways_round h6 h1.tour (by omega) hu a1 h3 h1.sbc hS1.c3 hS1.tu hS.lenp.symm hlo (hpb u hu) (hpb _ a1) ⟨by omega, by omega⟩ ⟨n1, n2, t5.symm, t6.symm, t7.symm, n4, n5, n6, n7, n8, n9⟩ ⟨q4, q5, q6, q7, q8, m1, q2, by omega, by omega⟩) ?_
  rintro W' ⟨l', last', bef', k1, k2, k3, k4⟩
  have hcell : ∀ b, b ≠ z.lb → b ≠ z.ab → b ≠ z.bb → b ≠ l → b ∉ [z.lb, z.ab, z.bb, l] := fun b e1 e2 e3 e4 => by simp [e1, e2, e3, e4]
  have hpend : ∀ v b, ((v = u ∧ b ∈ (arcs es x u).drop k) ∧ ¬ (v = u ∧ b = ga (arcs es x u) k)) → v = u ∧ b ∈ (arcs es x u).drop (k + 1) := by
    rintro v b ⟨⟨e1, e2⟩, e3⟩
    refine ⟨e1, ?_⟩
    rw [drop_cons hk, List.mem_cons] at e2
    rcases e2 with e2 | e2
    · exact absurd ⟨e1, e2⟩ e3
    · exact e2
  have hmem : WMem W0 W' z v.S n l' last' bef' done Ds := by
    refine ⟨k2.below h1.bel (Nat.le_refl _) (fun b hb => ?_), k1, k2.cell (hcell _ s1 s2 s3 q2.symm) h1.sbc, ?_, ⟨h1.op.nd, fun E hE => ?_⟩, h1.ge⟩
    · simp only [List.mem_cons, List.not_mem_nil, or_false] at hb
      rcases hb with rfl | rfl | rfl | rfl <;> assumption
    · obtain ⟨a, b, c, e1⟩ := h1.rbc
      exact ⟨a, b, c, (k2.block _ (Array.getElem?_eq_some_iff.1 e1).1 (hcell _ r1 r2 r3 q3.symm)).trans e1⟩
    · have hE2 := h1.op.op E hE
      refine (k2.block _ (Array.getElem?_eq_some_iff.1 hE2).1 (hcell _ (fun e => ?_) (fun e => ?_) (fun e => ?_) (fun e => ?_))).trans hE2
      · exact Opn.ne_cells h1.op h1.tour.len (e ▸ hE)
      · exact Opn.ne_cells h1.op h1.tour.lst (e ▸ hE)
      · exact Opn.ne_cells h1.op h1.tour.bfr (e ▸ hE)
      · rw [e] at hE2; have := hE2.symm.trans h6; injection this with this; cases this
  refine ⟨l', last', bef', hmem, ?_, k2.cell (hcell _ t5 t6 t7 m1.symm) h3, k2.cell (hcell _ b5 b6 b7 m2.symm) h4, k2.cell (hcell _ c5 c6 c7 m3.symm) h5, k3.trans (by rw [hrec]; exact h6), h7⟩
  rcases k4 with ⟨e1, rfl, rfl, rfl⟩ | ⟨e1, rfl, rfl, rfl⟩
  · exact (h2.better hg hx h7 ha e1).pend fun v b _ hb => hpend v b hb
  · exact (h2.worse e1).pend fun v b _ hb => hpend v b hb
end Go.Proofs.Ytjnpchoinncbnaa
end

section
set_option linter.unusedSimpArgs false
set_option linter.unusedVariables false
namespace Go.Proofs.Ytjnpchoinncbnaa
open Go.RowKit Sw Fam
def LoopW (W0 : World) (z : WLoc) (S n : Nat) (es : List Ed) (x p : List Int) (src : Nat) (a : Act) (w : World) : Prop :=
  ∃ len last bef done rk m Ds, WMem W0 w z S n len last bef done Ds ∧ Dij n es x p src len last bef done rk m (fun _ _ => False) ∧ Ds.length = cnt done ∧
    FrD 139 (Ds.map rfMark) [(2, .pointer (some ⟨z.sb, 0, none⟩)), (4, .pointer (some ⟨z.rb, 0, none⟩)), (5, .pointer (some ⟨z.tb, 0, none⟩)), (6, .slice (some ⟨z.db, 0, none⟩) n n)] a
def WEnd (W0 : World) (z : WLoc) (n : Nat) (es : List Ed) (x p : List Int) (src : Nat) (a : Act) (w : World) : Prop :=
  ∃ len last bef rk Ds, a.defers = Ds.map rfMark ∧ a.tmps.getD 4 undef = .pointer (some ⟨z.rb, 0, none⟩) ∧ Opn w Ds ∧ (∀ D, D ∈ Ds → W0.heap.size ≤ D) ∧ Below W0.heap.size W0 w ∧ IntB w z.lb len ∧ FlB encA 99 w z.ab last ∧ IntB w z.bb (bef.map Int.ofNat) ∧
    w.heap[z.rb]? = some (.cells #[.slice (some ⟨z.lb, 0, none⟩) n n, .slice (some ⟨z.ab, 0, none⟩) n n, .slice (some ⟨z.bb, 0, none⟩) n n] 96 (0, 0)) ∧ Tour n es x p src len last bef rk
set_option maxHeartbeats 4000000 in
set_option maxRecDepth 100000 in
theorem ways_search {mm : Nat} {W0 : World} {z : WLoc} {n J0 : Nat} {es : List Ed} (hg : Gd n J0 es) {x p ex : List Int} {v : Loc} (hx : Fits es x p) (hS : SvM W0 v n es x p ex) (hpb : ∀ i, i < n → 0 ≤ gi p i ∧ gi p i ≤ 1000000000000) (hz : z.ok W0.heap.size)
    {src : Nat} {Q : Exit → Act → World → Prop} (hQ : ∀ a w, WEnd W0 z n es x p src a w → Q .ret a w) {a : Act} {w : World} (hI : LoopW W0 z v.S n es x p src a w) :
    Code.wpIn Fence.wide mm Try.prog (Try.f58.sub [1, 1, 1, 1, 0, 0, 0]) (Exit.then (fun a' w' => LoopW W0 z v.S n es x p src a' w' ∧ n - a'.defers.length < n - a.defers.length) Q) a w := by
  obtain ⟨len, last, bef, done, rk, m, Ds, hM, hD, hlen, hfr⟩ := hI
  obtain ⟨t, rfl⟩ := hfr.open
  clear hfr
  have hcn := cnt_le done
  have hld := hM.tour.ld
  show Code.wpIn Fence.wide mm Try.prog (.seq (Try.f58.sub [1, 1, 1, 1, 0, 0, 0, 0]) (.seq (Try.f58.sub [1, 1, 1, 1, 0, 0, 0, 1, 0]) (Try.f58.sub [1, 1, 1, 1, 0, 0, 0, 1, 1]))) _
    ⟨#[(t 0), (t 1), .pointer (some ⟨z.sb, 0, none⟩), (t 3), .pointer (some ⟨z.rb, 0, none⟩), .pointer (some ⟨z.tb, 0, none⟩), .slice (some ⟨z.db, 0, none⟩) n n, (t 7), (t 8), (t 9), (t 10), (t 11), (t 12), (t 13), (t 14), (t 15), (t 16), (t 17), (t 18), (t 19), (t 20), (t 21), (t 22), (t 23), (t 24), (t 25), (t 26), (t 27), (t 28), (t 29), (t 30), (t 31), (t 32), (t 33), (t 34), (t 35), (t 36), (t 37), (t 38), (t 39), (t 40), (t 41), (t 42), (t 43), (t 44), (t 45), (t 46), (t 47), (t 48), (t 49), (t 50), (t 51), (t 52), (t 53), (t 54), (t 55), (t 56), (t 57), (t 58), (t 59), (t 60), (t 61), (t 62), (t 63), (t 64), (t 65), (t 66), (t 67), (t 68), (t 69), (t 70), (t 71), (t 72), (t 73), (t 74), (t 75), (t 76), (t 77), (t 78), (t 79), (t 80), (t 81), (t 82), (t 83), (t 84), (t 85), (t 86), (t 87), (t 88), (t 89), (t 90), (t 91), (t 92), (t 93), (t 94), (t 95), (t 96), (t 97), (t 98), (t 99), (t 100), (t 101), (t 102), (t 103), (t 104), (t 105), (t 106), (t 107), (t 108), (t 109), (t 110), (t 111), (t 112), (t 113), (t 114), (t 115), (t 116), (t 117), (t 118), (t 119), (t 120), (t 121), (t 122), (t 123), (t 124), (t 125), (t 126), (t 127), (t 128), (t 129), (t 130), (t 131), (t 132), (t 133), (t 134), (t 135), (t 136), (t 137), (t 138)], (Ds.map rfMark)⟩ _
  have hn := hg.n_le
  have HG := Lib.hid hg; clear hg
  have HX := Lib.hid hx; clear hx
  have HS := Lib.hid hS; clear hS
  have HP := Lib.hid hpb; clear hpb
  have HZ := Lib.hid hz; clear hz
  have HQ := Lib.hid hQ; clear hQ
  have HD := Lib.hid hD; clear hD
  have HM := Lib.hid hM; clear hM
  refine wpIn_seq ?_
  conv => arg 4; whnf
  dsimp only
  gi_wp2_with fail
  refine nameW ?_
  intro W1 hW1
  have hat : W1.cell? ⟨w.heap.size, 0, none⟩ = some (.int .i64 (-1)) := by rw [hW1]; simp
  have haf : W1.frozen? ⟨w.heap.size, 0, none⟩ = false := by rw [hW1]; simp
  have hB1 : Below w.heap.size w W1 := by rw [hW1]; exact (Below.refl _ _).alloc (Nat.le_refl _) _
  have hz1 : W1.heap.size = w.heap.size + 1 := by rw [hW1]; simp
  have HM1 := Lib.hid (HM.out.keep hB1)
  have tlt : z.tb < w.heap.size := (Array.getElem?_eq_some_iff.1 HM.out.tour.blk).1
  have llt : z.lb < w.heap.size := HM.out.tour.len.lt
  have dlt : z.db < w.heap.size := FlB.lt HM.out.tour.dn
  clear hW1
  refine ways_min HM1.out.tour (by omega) hat haf ⟨tlt, llt, dlt⟩ ?_
  intro a2 W2 k hk hB2 hat2 haf2 hfr2
  obtain ⟨t2, rfl⟩ := hfr2.open
  clear hfr2
  have hB02 : Below w.heap.size w W2 := hB1.trans hB2
  have hz2 := hB2.size
  have HM2 := Lib.hid (HM.out.keep hB02)
  rename_i K3 hK3
  refine hK3 _ _ ?_
  clear hK3 K3
  show Code.wpIn Fence.wide mm Try.prog (.seq (.seq (Try.f58.sub [1, 1, 1, 1, 0, 0, 0, 1, 1, 0, 0]) (Try.f58.sub [1, 1, 1, 1, 0, 0, 0, 1, 1, 0, 1])) (.seq (Try.f58.sub [1, 1, 1, 1, 0, 0, 0, 1, 1, 1, 0]) (.seq (Try.f58.sub [1, 1, 1, 1, 0, 0, 0, 1, 1, 1, 1, 0]) (.block 4 (Try.f58.sub [1, 1, 1, 1, 0, 0, 0, 1, 1, 1, 1, 1, 0]))))) _
    ⟨#[t 0, t 1, .pointer (some ⟨z.sb, 0, none⟩), (t2 3), .pointer (some ⟨z.rb, 0, none⟩), .pointer (some ⟨z.tb, 0, none⟩), .slice (some ⟨z.db, 0, none⟩) n n, .pointer (some ⟨w.heap.size, 0, none⟩), (t2 8), (t2 9), (t2 10), (t2 11), (t2 12), (t2 13), (t2 14), (t2 15), (t2 16), (t2 17), (t2 18), (t2 19), (t2 20), (t2 21), (t2 22), (t2 23), (t2 24), (t2 25), (t2 26), (t2 27), (t2 28), (t2 29), (t2 30), (t2 31), (t2 32), (t2 33), (t2 34), (t2 35), (t2 36), (t2 37), (t2 38), (t2 39), (t2 40), (t2 41), (t2 42), (t2 43), (t2 44), (t2 45), (t2 46), (t2 47), (t2 48), (t2 49), (t2 50), (t2 51), (t2 52), (t2 53), (t2 54), (t2 55), (t2 56), (t2 57), (t2 58), (t2 59), (t2 60), (t2 61), (t2 62), (t2 63), (t2 64), (t2 65), (t2 66), (t2 67), (t2 68), (t2 69), (t2 70), (t2 71), (t2 72), (t2 73), (t2 74), (t2 75), (t2 76), (t2 77), (t2 78), (t2 79), (t2 80), (t2 81), (t2 82), (t2 83), (t2 84), (t2 85), (t2 86), (t2 87), (t2 88), (t2 89), (t2 90), (t2 91), (t2 92), (t2 93), (t2 94), (t2 95), (t2 96), (t2 97), (t2 98), (t2 99), (t2 100), (t2 101), (t2 102), (t2 103), (t2 104), (t2 105), (t2 106), (t2 107), (t2 108), (t2 109), (t2 110), (t2 111), (t2 112), (t2 113), (t2 114), (t2 115), (t2 116), (t2 117), (t2 118), (t2 119), (t2 120), (t2 121), (t2 122), (t2 123), (t2 124), (t2 125), (t2 126), (t2 127), (t2 128), (t2 129), (t2 130), (t2 131), (t2 132), (t2 133), (t2 134), (t2 135), (t2 136), (t2 137), (t2 138)], (Ds.map rfMark)⟩ _
  have HK := Lib.hid hk
  obtain ⟨klo, khi⟩ : -1 ≤ k ∧ k < n := ⟨hk.lo, hk.hi⟩
  clear hk
  refine wpIn_seq ?_
  refine wpIn_seq ?_
  conv => arg 4; whnf
  dsimp only
  by_cases hneg : k < 0
  · have h1 : k = -1 := by omega
    subst h1
    have t0 := HM2.out.tour.c0
    have t1 := HM2.out.tour.c1
    have t22 := HM2.out.tour.c2
    obtain ⟨ra, rb, rcc, rc⟩ := HM2.out.rbc
    have r0 : W2.cell? ⟨z.rb, 0, none⟩ = some ra := by simp [World.cell?, rc]
    have r1 : W2.cell? ⟨z.rb, 1, none⟩ = some rb := by simp [World.cell?, rc]
    have r2 : W2.cell? ⟨z.rb, 2, none⟩ = some rcc := by simp [World.cell?, rc]
    have f1 : W2.frozen? ⟨z.rb, 0, none⟩ = false := by simp [World.frozen?, rc]
    have f2 : W2.frozen? ⟨z.rb, 1, none⟩ = false := by simp [World.frozen?, rc]
    have f3 : W2.frozen? ⟨z.rb, 2, none⟩ = false := by simp [World.frozen?, rc]
    have RC := Lib.hid rc
    clear rc
    gi_wp2_with fail
    conv => arg 4; whnf
    gi_wp2_with fail
    obtain ⟨⟨z1, z2, z3, z4, z5, z6, z7⟩, _, _, ⟨y1, y2, y3, y4, y5⟩⟩ := HZ.out
    have hM := HM2.out
    have hrb : ∀ b, b ≠ z.rb → (((W2.setCell ⟨z.rb, 0, none⟩ (.slice (some ⟨z.lb, 0, none⟩) n n)).setCell ⟨z.rb, 1, none⟩ (.slice (some ⟨z.ab, 0, none⟩) n n)).setCell ⟨z.rb, 2, none⟩ (.slice (some ⟨z.bb, 0, none⟩) n n)).heap[b]? = W2.heap[b]? := fun b hb =>
      (Below.heap_setCell _ _ _ b hb).trans ((Below.heap_setCell _ _ _ b hb).trans (Below.heap_setCell _ _ _ b hb))
    refine HQ.out _ _ ⟨len, last, bef, _, Ds, rfl, rfl, ⟨hM.op.nd, fun E hE => (hrb E (fun e => Opn.ne_cells hM.op RC.out (e ▸ hE))).trans (hM.op.op E hE)⟩, hM.ge, ((hM.bel.setCell z2 _).setCell z2 _).setCell z2 _, (hrb _ y1.symm).trans hM.tour.len, (hrb _ y2.symm).trans hM.tour.lst, (hrb _ y3.symm).trans hM.tour.bfr, ?_, HD.out.tour (HK.out.none rfl)⟩
    have s1 := heap_setCell_same W2 z.rb 0 _ _ (.slice (some ⟨z.lb, 0, none⟩) n n) RC.out
    have s2 := heap_setCell_same _ z.rb 1 _ _ (.slice (some ⟨z.ab, 0, none⟩) n n) s1
    exact heap_setCell_same _ z.rb 2 _ _ (.slice (some ⟨z.bb, 0, none⟩) n n) s2
  · obtain ⟨u, rfl⟩ : ∃ u : Nat, k = u := ⟨k.toNat, by omega⟩
    have hun : u < n := by omega
    obtain ⟨m1, m2, m3⟩ := HK.out.some (by omega)
    rw [Int.toNat_natCast] at m1 m2 m3
    have hM := HM2.out
    have hdu := hM.tour.dn.cell (j := u) (by rw [hld]; exact hun)
    have hdf := FlB.frozen hM.tour.dn u
    have hsb := hM.sbc
    have hsz : z.sb < W2.heap.size := World.block_lt_of_cell? _ _ hsb
    have halt : w.heap.size < W2.heap.size := by omega
    have HLN := Lib.hid (And.intro hlen (cnt_set done u (by rw [hld]; exact hun) m1))
    clear hM hlen hcn
    gi_wp2_with fail
    conv => arg 4; whnf
    gi_wp2_with fail
    conv => arg 4; whnf
    gi_wp2_with fail
    refine nameW ?_
    intro W3 hW3
    obtain ⟨⟨z1, z2, z3, z4, z5, z6, z7⟩, ⟨n1, n2, n3, n4, n5, n6, n7, n8, n9, n10⟩, ⟨s1, s2, s3, s4, s5, s6⟩, ⟨y1, y2, y3, y4, y5⟩⟩ := HZ.out
    have hb3 : ∀ b, b ≠ z.db → W3.heap[b]? = W2.heap[b]? := fun b hb => by rw [hW3]; exact Below.heap_setCell _ _ _ b hb
    have hM3 : WMem W0 W3 z v.S n len last bef (done.set u true) Ds := by
      have h := HM2.out
      obtain ⟨ra, rb, rcc, rc⟩ := h.rbc
      refine ⟨by rw [hW3]; exact h.bel.setCell z7 _, ⟨(hb3 _ n10.symm).trans h.tour.blk, (hb3 _ n7.symm).trans h.tour.len, (hb3 _ n8.symm).trans h.tour.lst, (hb3 _ n9.symm).trans h.tour.bfr, by rw [hW3]; exact BoolB.set h.tour.dn (by rw [hld]; exact hun) true, h.tour.ll, h.tour.la, h.tour.lb', by rw [List.length_set]; exact hld, n3⟩, (World.cell?_of_block (hb3 _ s4)).trans h.sbc, ⟨ra, rb, rcc, (hb3 _ y4).trans rc⟩, ⟨h.op.nd, fun E hE => (hb3 E (fun e => Opn.ne_cells h.op h.tour.dn (e ▸ hE))).trans (h.op.op E hE)⟩, h.ge⟩
    have hat3 : W3.cell? ⟨w.heap.size, 0, none⟩ = some (.int .i64 u) := (World.cell?_of_block (hb3 _ (show w.heap.size ≠ z.db by omega))).trans hat2
    have hz3 : W3.heap.size = W2.heap.size := by rw [hW3]; simp
    have hD3 := HD.out.mark hun m1 m2 m3
    have hsb3 := hM3.sbc
    have HZ3 := Lib.hid hz3
    clear hz3
    have HM3 := Lib.hid hM3
    have HD3 := Lib.hid hD3
    clear hW3 hb3 hM3 hD3 hdu hdf hat2 haf2 m1 m2 m3 hsb
    conv => arg 4; whnf
    gi_wp2_with fail
    refine ⟨trivial, fun hh => by simp [Fence.wide] at hh, (callsIn_wide.2 (arcs_c v.S u W3)).mono ?_⟩
    rintro e W4 ⟨rfl, hW4⟩
    gi_wp2_with fail
    rw [← hW4]
    have hz4 : W4.heap.size = W3.heap.size + 2 := by rw [hW4]; simp
    have hB4 : Below W3.heap.size W3 W4 := by rw [hW4]; exact ((Below.refl _ _).alloc (Nat.le_refl _) _).alloc (by simp) _
    have hc4 : W4.cell? ⟨W3.heap.size, 0, none⟩ = some (.pointer (some ⟨v.S, 0, none⟩)) := by rw [hW4]; simp
    have hd4 : W4.cell? ⟨W3.heap.size + 1, 0, none⟩ = some (.int .i64 u) := by rw [hW4]; simp
    clear hW4
    show Code.wpIn Fence.wide mm Try.prog (.rangeFunc (.tmp 86) #[87] (Try.f58.sub [1, 1, 1, 1, 0, 0, 0, 1, 1, 1, 1, 1, 0, 0]) (Try.f58.sub [1, 1, 1, 1, 0, 0, 0, 1, 1, 1, 1, 1, 0, 1])) _ _ _
    refine wpIn_over 65 #[.pointer (some ⟨W3.heap.size, 0, none⟩), .pointer (some ⟨W3.heap.size + 1, 0, none⟩)] rfl (enters_fn Try.func65 (by kernel_rfl) rfl) ?_
    intro fn
    generalize hrec : recOf fn _ _ _ _ W4.heap.size .ready = rec
    obtain ⟨W5, hW5⟩ : ∃ W5, (W4.alloc (.deferred (some []))).alloc (.loop rec) = W5 := ⟨_, rfl⟩
    rw [hW5]
    have hz5 : W5.heap.size = W4.heap.size + 2 := by rw [← hW5]; simp
    have hB5 : Below W4.heap.size W4 W5 := by rw [← hW5]; exact ((Below.refl _ _).alloc (Nat.le_refl _) _).alloc (by simp) _
    have hD5 : W5.heap[W4.heap.size]? = some (.deferred (some [])) := by rw [← hW5]; exact (Below.heap_alloc _ _ _ (by simp)).trans (World.alloc_heap_new W4 _)
    have hL5 : W5.heap[W4.heap.size + 1]? = some (.loop rec) := by rw [← hW5]; have := World.alloc_heap_new (W4.alloc (.deferred (some []))) (.loop rec); rwa [World.size_alloc] at this
    have hz3 := HZ3.out
    have hM5 := (HM3.out.keep hB4).keep hB5
    have hlt5 : ∀ b cs t r, w.heap[b]? = some (.cells cs t r) → b < w.heap.size := fun b cs t r h => (Array.getElem?_eq_some_iff.1 h).1
    obtain ⟨ra, rb, rcc, rc⟩ := HM.out.rbc
    have lt1 : z.tb < w.heap.size := hlt5 _ _ _ _ HM.out.tour.blk
    have lt2 : z.lb < w.heap.size := hlt5 _ _ _ _ HM.out.tour.len
    have lt3 : z.ab < w.heap.size := hlt5 _ _ _ _ HM.out.tour.lst
    have lt4 : z.bb < w.heap.size := hlt5 _ _ _ _ HM.out.tour.bfr
    have lt5 : z.db < w.heap.size := hlt5 _ _ _ _ HM.out.tour.dn
    have lt6 : z.rb < w.heap.size := hlt5 _ _ _ _ rc
    have lt7 : z.sb < w.heap.size := World.block_lt_of_cell? _ _ HM.out.sbc
    have lt8 : W0.heap.size ≤ w.heap.size := HM.out.bel.size
    clear hlt5 rc
    have hDs : ∀ D, D ∈ Ds → D < W4.heap.size := fun D hD => (Array.getElem?_eq_some_iff.1 (((HM3.out.keep hB4).op.op D hD))).1
    have hM6 : WMem W0 W5 z v.S n len last bef (done.set u true) (W4.heap.size :: Ds) :=
      ⟨hM5.bel, hM5.tour, hM5.sbc, hM5.rbc, ⟨List.nodup_cons.2 ⟨fun hm => absurd (hDs _ hm) (Nat.lt_irrefl _), hM5.op.nd⟩, fun D hD => by
        rcases List.mem_cons.1 hD with rfl | hD
        · exact hD5
        · exact hM5.op.op D hD⟩, fun D hD => by
        rcases List.mem_cons.1 hD with rfl | hD
        · omega
        · exact hM5.ge D hD⟩
    have hdn : gb (done.set u true) u = true := by rw [gb_set _ _ _ _ (by rw [hld]; exact hun), if_pos rfl]
    have h0 : WJ W0 z v.S n es x p src u (done.set u true) (fun v => if v = u then cnt done else rk v) (W4.heap.size :: Ds) w.heap.size (W3.heap.size + 1) (W4.heap.size + 1) rec 0 W5 := by
      refine ⟨len, last, bef, hM6, HD3.out.pend (fun u' a ha hp => ?_), cellB hB5 (cellB hB4 hat3), cellB hB5 hd4, cellB hB5 hc4, hL5, hdn⟩
      subst hp
      exact ⟨rfl, by rw [List.drop_zero]; exact (isArc_iff HG.out).1 ha⟩
    refine (callsIn_wide.2 (callsIn_wide.1 (arcs1_in (v := v) (ex := ex) (W4.heap.size + 1) HG.out HX.out u hun W3.heap.size (W3.heap.size + 1) (WJ W0 z v.S n es x p src u (done.set u true) (fun v => if v = u then cnt done else rk v) (W4.heap.size :: Ds) w.heap.size (W3.heap.size + 1) (W4.heap.size + 1) rec)
      (fun k W W' h hb => h.keep hb) (fun k W h => ?_) (fun k W hk h => ?_) W5 h0))).mono ?_
    · obtain ⟨_, _, _, k1, k2, k3, k4, k5, k6, k7⟩ := h
      exact ⟨HS.out.keep k1.bel, k5, k4⟩
    · exact WJ.step HG.out HX.out HS.out HP.out HZ.out hun hrec.symm (fun b hb => by omega) (by omega) hk h
    · rintro e W6 ⟨hr, l6, last6, bef6, k1, k2, k3, k4, k5, k6, k7⟩
      refine ⟨hr, k6, ?_⟩
      have hp : ∀ b, b ≠ W4.heap.size + 1 → ∀ o, (W6.putObj (W4.heap.size + 1) o).heap[b]? = W6.heap[b]? := fun b hb o => World.putObj_heap_other hb
      obtain ⟨ya, yb, yc, yd⟩ := k1.rbc
      refine ⟨⟨l6, last6, bef6, done.set u true, _, _, W4.heap.size :: Ds, ⟨?_, ⟨(hp _ (by omega) _).trans k1.tour.blk, (hp _ (by omega) _).trans k1.tour.len, (hp _ (by omega) _).trans k1.tour.lst, (hp _ (by omega) _).trans k1.tour.bfr, (hp _ (by omega) _).trans k1.tour.dn, k1.tour.ll, k1.tour.la, k1.tour.lb', k1.tour.ld, k1.tour.lbb⟩, (World.cell?_of_block (hp _ (show z.sb ≠ W4.heap.size + 1 by omega) _)).trans k1.sbc, ⟨ya, yb, yc, (hp _ (by omega) _).trans yd⟩, ⟨k1.op.nd, fun E hE => (hp _ (fun e => ?_) _).trans (k1.op.op E hE)⟩, k1.ge⟩, k2.pend (fun v b _ hh => ?_), ?_, by (refine ⟨rfl, rfl, ?_⟩; repeat (first | exact trivial | refine ⟨rfl, ?_⟩))⟩, ?_⟩
      · have e := k1.bel
        exact ⟨e.os, e.tape, e.output, by simpa [World.putObj] using e.size, fun b hb => (hp b (by omega) _).trans (e.block b hb)⟩
      · have h1 := k1.op.op E hE
        rw [e, k6] at h1
        injection h1 with h1; cases h1
      · have := hh.2
        rw [List.drop_length] at this
        cases this
      · rw [List.length_cons, HLN.out.2, HLN.out.1]
      · have h1 := HLN.out
        have h2 := cnt_le (done.set u true)
        rw [List.length_set, hld, h1.2] at h2
        show n - (rfMark W4.heap.size :: Ds.map rfMark).length < n - (Ds.map rfMark).length
        simp only [List.length_cons, List.length_map]
        omega
end Go.Proofs.Ytjnpchoinncbnaa
end
