/- Proves parts of the statement, each under the conditions that its theorem states: A new solver: what is made; A push: how much may go; A push: the flow along the way; A push: what is left, and the turns. -/
import Derived.Test.YtjnpchoinncbnaaGreatP19
import Derived.Test.YtjnpchoinncbnaaGreatP18
set_option linter.unusedSimpArgs false
set_option linter.unusedVariables false
set_option maxHeartbeats 4000000
set_option maxRecDepth 100000
section
namespace Go.Fam
open RowKit
variable {P : Program} {ops : Array Oper} {o : Oper} {rest : List Oper} {i : Nat}
def GrD (D : Nat → Bool) (B : Nat) (w0 : World) (T : (Nat → Value) → Nat → World → Prop) (L : Nat → Bool) (V : Nat → Value) (w : World) : Prop :=
  (Below B w0 w ∧ ∀ j, L j = true → T V j w) ∧ ∀ i j, D i = true → D j = true → i ≠ j → L i = true → L j = true → V i ≠ V j
section
variable {D : Nat → Bool} {B : Nat} {w0 : World} {T : (Nat → Value) → Nat → World → Prop} {R : ((Nat → Value) → Act) → Prop} {A : (Nat → Value) → Act}
theorem GrD.up {L : Nat → Bool} {V : Nat → Value} {w : World} (hD : D i = false) (hT : ∀ V w, T V i w) (h : GrD D B w0 T L V w) : GrD D B w0 T (upd L i) V w := by
  obtain ⟨⟨h1, h2⟩, h3⟩ := h
  refine ⟨⟨h1, fun j hj => ?_⟩, fun a b ha hb hab la lb => ?_⟩
  · by_cases e : j = i
    · subst e; exact hT _ _
    · rw [upd_ne _ e] at hj; exact h2 j hj
  · have na : a ≠ i := fun e => by subst e; rw [hD] at ha; cases ha
    have nb : b ≠ i := fun e => by subst e; rw [hD] at hb; cases hb
    rw [upd_ne _ na] at la
    rw [upd_ne _ nb] at lb
    exact h3 a b ha hb hab la lb
theorem gd_fix (hg : o.guard = none) (v : Value) (hD : D i = false) (hT : ∀ V w, T V i w) (hx : ∀ V w, Below B w0 w → (execOp (A V).eval o).run P w = .ok (.value v) w)
    (h : wpRel P ops (GrD D B w0 T) R rest (i + 1) (fun V => (A V).put o.dst v)) : wpRel P ops (GrD D B w0 T) R (o :: rest) i A :=
  rel_fix hg v (fun V L w hL _ hc hC => by
    rw [hx V w hC.1.1]
    exact ⟨rfl, hC.up hD hT⟩) h
theorem gd_free (hG : GrT ops T) (hB : B ≤ w0.heap.size) (hg : o.guard = none)
    (hx : ∀ V L w, Below B w0 w → (∀ j, L j = true → T V j w) → Waits o L → upon P (fun u w' => Below w.heap.size w w' ∧ (∀ V', (∀ j, j ≠ i → V' j = V j) → V' i = u → T V' i w') ∧ (D i = true → ∀ j, D j = true → j ≠ i → L j = true → V j ≠ u)) ((execOp (A V).eval o).run P w))
    (h : wpRel P ops (GrD D B w0 T) R rest (i + 1) (fun V => (A V).put o.dst (V i))) : wpRel P ops (GrD D B w0 T) R (o :: rest) i A := by
  refine rel_free hg (fun V L w hL hw hc hC => ?_) h
  obtain ⟨⟨h1, h2⟩, h3⟩ := hC
  refine upon_mono (fun u w' ⟨k1, k2, k3⟩ => ?_) (hx V L w h1 h2 hw)
  refine ⟨⟨h1.trans (k1.mono (Nat.le_trans hB h1.size)), fun j hj => ?_⟩, fun a b ha hb hab la lb => ?_⟩
  · by_cases e : j = i
    · subst e
      exact k2 _ (fun j hj => setV_ne _ _ hj) (setV_same _ _ _)
    · rw [upd_ne _ e] at hj
      exact hG.keep _ _ _ _ (hG.set L V w i u j hL hc hj (h2 j hj)) k1
  · by_cases ea : a = i
    · subst ea
      have nb : b ≠ a := fun e => hab e.symm
      rw [upd_ne _ nb] at lb
      rw [setV_same, setV_ne _ _ nb]
      exact fun e => k3 ha b hb nb lb e.symm
    · rw [upd_ne _ ea] at la
      rw [setV_ne _ _ ea]
      by_cases eb : b = i
      · subst eb
        rw [setV_same]
        exact k3 hb a ha ea la
      · rw [upd_ne _ eb] at lb
        rw [setV_ne _ _ eb]
        exact h3 a b ha hb hab la lb
theorem gd_end {Q : Exit → Act → World → Prop} {n m : Nat} (h : ∀ V w, Below B w0 w → (∀ j, j < m → T V j w) → (∀ i j, i < m → j < m → D i = true → D j = true → i ≠ j → V i ≠ V j) → Q .normal (A V) w) :
    wpRel P ops (GrD D B w0 T) (fun A => ∀ V (L : Nat → Bool) w', (∀ i, i < m → L i = true) → GrD D B w0 T L V w' → Q .normal (A V) w') [] n A := by
  intro V L w' hL hC
  obtain ⟨⟨h1, h2⟩, h3⟩ := hC
  exact h V w' h1 (fun j hj => h2 j (hL j hj)) (fun a b la lb ha hb hab => h3 a b ha hb hab (hL a la) (hL b lb))
end
end Go.Fam
namespace Go.Proofs.YtjnpchoinncbnaaGreat
open Go.RowKit Sw Fam
def TN (B n m : Nat) (A : Option Addr) (ca : Nat) (V : Nat → Value) : Nat → World → Prop
  | 5, w => ∃ b, V 5 = .slice (some ⟨b, 0, none⟩) m m ∧ B ≤ b ∧ IntB w b (List.replicate m 0)
  | 9, w => ∃ b, V 9 = .slice (some ⟨b, 0, none⟩) n n ∧ B ≤ b ∧ IntB w b (List.replicate n 0)
  | 13, w => ∃ b, V 13 = .slice (some ⟨b, 0, none⟩) n n ∧ B ≤ b ∧ IntB w b (List.replicate n 0)
  | 17, w => ∃ b, V 17 = .slice (some ⟨b, 0, none⟩) n n ∧ B ≤ b ∧ w.heap[b]? = some (.cells ((List.replicate n ()).flatMap encZ).toArray 26 (0, 0))
  | 18, w => V 18 = .agg #[.int .i64 n, .slice A m ca, V 5, V 9, V 13, V 17]
  | 19, w => ∃ b, V 19 = .pointer (some ⟨b, 0, none⟩) ∧ B ≤ b ∧ w.heap[b]? = some (.cells #[.int .i64 n, .slice A m ca, V 5, V 9, V 13, V 17] 78 (0, 0))
  | 20, w => V 20 = V 19
  | _, _ => True
def dN (j : Nat) : Bool := j == 5 || j == 9 || j == 13
theorem TN_ok (B n m : Nat) (A : Option Addr) (ca : Nat) {ops : Array Oper} (hd : (dep ops 18 5 && dep ops 18 9 && dep ops 18 13 && dep ops 18 17 && dep ops 19 18 && dep ops 20 19) = true) : GrT ops (TN B n m A ca) := by
  simp only [Bool.and_eq_true] at hd
  obtain ⟨⟨⟨⟨⟨a1, a2⟩, a3⟩, a4⟩, b1⟩, c1⟩ := hd
  constructor
  · intro V j w w' h hb
    unfold TN at h ⊢
    split
    · obtain ⟨b, h1, h2, h3⟩ := h; exact ⟨b, h1, h2, h3.keep hb⟩
    · obtain ⟨b, h1, h2, h3⟩ := h; exact ⟨b, h1, h2, h3.keep hb⟩
    · obtain ⟨b, h1, h2, h3⟩ := h; exact ⟨b, h1, h2, h3.keep hb⟩
    · obtain ⟨b, h1, h2, h3⟩ := h; exact ⟨b, h1, h2, (hb.block b (Array.getElem?_eq_some_iff.1 h3).1).trans h3⟩
    · exact h
    · obtain ⟨b, h1, h2, h3⟩ := h; exact ⟨b, h1, h2, (hb.block b (Array.getElem?_eq_some_iff.1 h3).1).trans h3⟩
    · exact h
    · trivial
  · intro L V w i u j hi hc hj h
    have hne : j ≠ i := fun e => by rw [← e, hj] at hi; cases hi
    have key : ∀ k, dep ops j k = true → k ≠ i := fun k hk e => by subst e; rw [hc.not hk hi] at hj; cases hj
    have key2 : j = 19 → ∀ k, dep ops 18 k = true → k ≠ i := fun e k hk e2 => by
      subst e2
      have := hc.not b1 (hc.not hk hi)
      rw [← e, hj] at this; cases this
    unfold TN at h ⊢
    split
    · rw [setV_ne _ _ hne]; exact h
    · rw [setV_ne _ _ hne]; exact h
    · rw [setV_ne _ _ hne]; exact h
    · rw [setV_ne _ _ hne]; exact h
    · rw [setV_ne _ _ hne, setV_ne _ _ (key 5 a1), setV_ne _ _ (key 9 a2), setV_ne _ _ (key 13 a3), setV_ne _ _ (key 17 a4)]; exact h
    · rw [setV_ne _ _ hne, setV_ne _ _ (key2 rfl 5 a1), setV_ne _ _ (key2 rfl 9 a2), setV_ne _ _ (key2 rfl 13 a3), setV_ne _ _ (key2 rfl 17 a4)]; exact h
    · rw [setV_ne _ _ hne, setV_ne _ _ (key 19 c1)]; exact h
    · trivial
theorem IntB.other_block {w : World} {b b' : Nat} {xs : List Int} (h : IntB w b xs) (hb : w.heap.size ≤ b') {n m : Nat} : (Value.slice (some ⟨b, 0, none⟩) n n) ≠ .slice (some ⟨b', 0, none⟩) m m := fun e => by
  injection e with e; injection e with e; injection e with e
  have := h.lt; omega
theorem ex_build5 {ρ : Operand → Value} {o : Oper} {w : World} (x0 x1 x2 x3 x4 : Operand) (ho : o.op = .build 78 #[(0, x0), (1, x1), (2, x2), (3, x3), (4, x4)]) {A : Option Addr} {n : Int} {m ca : Nat} {a b c d : Option Addr} {na nb nc nd : Nat}
    (h0 : ρ x0 = .agg #[.int .i64 n, .slice A m ca]) (h1 : ρ x1 = .slice a na na) (h2 : ρ x2 = .slice b nb nb) (h3 : ρ x3 = .slice c nc nc) (h4 : ρ x4 = .slice d nd nd) :
    (execOp ρ o).run Tryz.prog w = .ok (.value (.agg #[.int .i64 n, .slice A m ca, .slice a na na, .slice b nb nb, .slice c nc nc, .slice d nd nd])) w := by
  unfold execOp
  simp only [ho, h0, h1, h2, h3, h4, List.map_toArray, List.map_cons, List.map_nil]
  go_simp
theorem ex_assign {P : Program} {ρ : Operand → Value} {o : Oper} {w : World} (x : Operand) (ho : o.op = .assign x) {v : Value} (hx : ρ x = v) : (execOp ρ o).run P w = .ok (.value v) w := by
  unfold execOp
  simp [ho, hx]
theorem new_make {m n M ca xb : Nat} {A : Option Addr} {W : World} {Q : Exit → Act → World → Prop} {u0 u2 u3 u4 u5 u6 u7 u8 u9 u10 u11 u12 u13 u14 u15 u16 u17 u18 u19 u20 u21 u22 u23 u24 u25 u26 u27 u28 u29 u30 u31 u32 u33 u34 u35 u36 u37 u38 u39 u40 u41 u42 u43 u44 u45 u46 u47 u48 u49 u50 u51 u52 u53 u54 u55 u56 u57 u58 u59 u60 u61 u62 u63 u64 u65 u66 u67 u68 u69 u70 u71 u72 u73 u74 u75 u76 u77 u78 u79 u80 u81 u82 u83 u84 u85 u86 u87 u88 u89 u90 u91 u92 u93 u94 u95 u96 u97 u98 u99 u100 u101 u102 u103 u104 u105 u106 u107 u108 u109 u110 u111 u112 u113 u114 u115 u116 u117 u118 u119 u120 u121 u122 u123 u124 u125 u126 u127 u128 u129 u130 u131 : Value}
    (hn : n ≤ 1000) (hM : M ≤ 1000) (hx : W.heap[xb]? = some (.cells #[.int .i64 n, .slice A M ca] 71 (0, 0)))
    (hQ : ∀ v6 v7 v8 v9 v10 v11 v12 v13 v14 v15 v16 v17 v18 v19 v20 v21 v22 v23 v24 v25 w' sb fb pb eb rb, Below W.heap.size W w' → W.heap.size ≤ sb → W.heap.size ≤ fb → W.heap.size ≤ pb → W.heap.size ≤ eb → W.heap.size ≤ rb → fb ≠ pb → fb ≠ eb → pb ≠ eb →
      w'.heap[sb]? = some (.cells #[.int .i64 n, .slice A M ca, .slice (some ⟨fb, 0, none⟩) M M, .slice (some ⟨pb, 0, none⟩) n n, .slice (some ⟨eb, 0, none⟩) n n, .slice (some ⟨rb, 0, none⟩) n n] 78 (0, 0)) →
      IntB w' fb (List.replicate M 0) → IntB w' pb (List.replicate n 0) → IntB w' eb (List.replicate n 0) → w'.heap[rb]? = some (.cells ((List.replicate n ()).flatMap encZ).toArray 26 (0, 0)) →
      Q .normal ⟨#[u0, .pointer (some ⟨xb, 0, none⟩), u2, .pointer (some ⟨sb, 0, none⟩), u4, u5, v6, v7, v8, v9, v10, v11, v12, v13, v14, v15, v16, v17, v18, v19, v20, v21, v22, v23, v24, v25, u26, u27, u28, u29, u30, u31, u32, u33, u34, u35, u36, u37, u38, u39, u40, u41, u42, u43, u44, u45, u46, u47, u48, u49, u50, u51, u52, u53, u54, u55, u56, u57, u58, u59, u60, u61, u62, u63, u64, u65, u66, u67, u68, u69, u70, u71, u72, u73, u74, u75, u76, u77, u78, u79, u80, u81, u82, u83, u84, u85, u86, u87, u88, u89, u90, u91, u92, u93, u94, u95, u96, u97, u98, u99, u100, u101, u102, u103, u104, u105, u106, u107, u108, u109, u110, u111, u112, u113, u114, u115, u116, u117, u118, u119, u120, u121, u122, u123, u124, u125, u126, u127, u128, u129, u130, u131], []⟩ w') :
    Code.wpIn Fence.wide m Tryz.prog (Tryz.f50.sub [1, 0]) Q ⟨#[u0, .pointer (some ⟨xb, 0, none⟩), u2, u3, u4, u5, u6, u7, u8, u9, u10, u11, u12, u13, u14, u15, u16, u17, u18, u19, u20, u21, u22, u23, u24, u25, u26, u27, u28, u29, u30, u31, u32, u33, u34, u35, u36, u37, u38, u39, u40, u41, u42, u43, u44, u45, u46, u47, u48, u49, u50, u51, u52, u53, u54, u55, u56, u57, u58, u59, u60, u61, u62, u63, u64, u65, u66, u67, u68, u69, u70, u71, u72, u73, u74, u75, u76, u77, u78, u79, u80, u81, u82, u83, u84, u85, u86, u87, u88, u89, u90, u91, u92, u93, u94, u95, u96, u97, u98, u99, u100, u101, u102, u103, u104, u105, u106, u107, u108, u109, u110, u111, u112, u113, u114, u115, u116, u117, u118, u119, u120, u121, u122, u123, u124, u125, u126, u127, u128, u129, u130, u131], []⟩ W := by
  conv => arg 4; whnf
  dsimp only
  have HQ := Lib.hid hQ; clear hQ
  have HX := Lib.hid hx
  have h0 : W.cell? ⟨xb, 0, none⟩ = some (.int .i64 n) := by simp [World.cell?, hx]
  have h1 : W.cell? ⟨xb, 1, none⟩ = some (.slice A M ca) := by simp [World.cell?, hx]
  clear hx
  refine regionIn_rel (.inl rfl) (by kernel_rfl) (by kernel_rfl) (by kernel_rfl) (GrD dN W.heap.size W (TN W.heap.size n M A ca)) ⟨⟨(Below.refl _ _).drew, fun _ h => by cases h⟩, fun _ _ _ _ _ h => by cases h⟩ ?_
  refine gd_fix rfl (.agg #[.int .i64 n, .slice A M ca]) rfl (fun _ _ => trivial) (fun V w hB => ex_loadN 71 _ rfl xb 0 rfl [.int .i64 n, .slice A M ca] _ (fun j v hj => by
    have hb := (hB.block xb (Array.getElem?_eq_some_iff.1 HX.out).1).trans HX.out
    obtain ⟨j1, j2⟩ := List.getElem?_eq_some_iff.1 hj
    rw [Nat.zero_add, block_cell hb (j := j) (by simpa using j1)]
    simp [← j2]) Tryz.underlying71 rfl (by kernel_rfl)) ?_
  simp only [Fam.pt]
  (refine gd_fix rfl (.pointer (some ⟨xb, 0, none⟩)) rfl (fun _ _ => trivial) (fun V w hB => by unfold execOp; go_simp) ?_; simp only [Fam.pt])
  (refine gd_fix rfl (.pointer (some ⟨xb, 1, none⟩)) rfl (fun _ _ => trivial) (fun V w hB => by unfold execOp; go_simp) ?_; simp only [Fam.pt])
  (refine gd_fix rfl _ rfl (fun _ _ => trivial) (fun V w hB => ex_load1 _ _ rfl _ rfl (cellB hB h1) _ Tryz.underlying35 rfl) ?_; simp only [Fam.pt])
  (refine gd_fix rfl (.int .i64 M) rfl (fun _ _ => trivial) (fun V w hB => by unfold execOp; go_simp) ?_; simp only [Fam.pt])
  refine gd_free (TN_ok _ _ _ _ _ (by kernel_rfl)) (Nat.le_refl _) rfl (fun V L w hB hT hw => ?_) ?_
  · rw [ex_make 26 (.tmp 10) (.tmp 10) rfl rfl rfl (run_make_ints M (by omega) w)]
    refine ⟨(Below.refl _ _).alloc (Nat.le_refl _) _, fun V' _ h => ⟨w.heap.size, h, hB.size, FlB.new w encI _ _⟩, fun _ j hj hne hL => ?_⟩
    have hj' : j = 5 ∨ j = 9 ∨ j = 13 := by simpa [dN, or_assoc] using hj
    have hTj := hT j hL
    rcases hj' with rfl | rfl | rfl
    · exact absurd rfl hne
    · obtain ⟨b, e, _, q⟩ := hTj; rw [e]; exact q.other_block (Nat.le_refl _)
    · obtain ⟨b, e, _, q⟩ := hTj; rw [e]; exact q.other_block (Nat.le_refl _)
  simp only [Fam.pt]
  (refine gd_fix rfl (.pointer (some ⟨xb, 0, none⟩)) rfl (fun _ _ => trivial) (fun V w hB => by unfold execOp; go_simp) ?_; simp only [Fam.pt])
  (refine gd_fix rfl (.pointer (some ⟨xb, 0, none⟩)) rfl (fun _ _ => trivial) (fun V w hB => by unfold execOp; go_simp) ?_; simp only [Fam.pt])
  (refine gd_fix rfl _ rfl (fun _ _ => trivial) (fun V w hB => ex_load1 _ _ rfl _ rfl (cellB hB h0) _ Tryz.underlying3 rfl) ?_; simp only [Fam.pt])
  refine gd_free (TN_ok _ _ _ _ _ (by kernel_rfl)) (Nat.le_refl _) rfl (fun V L w hB hT hw => ?_) ?_
  · rw [ex_make 26 (.tmp 14) (.tmp 14) rfl rfl rfl (run_make_ints n (by omega) w)]
    refine ⟨(Below.refl _ _).alloc (Nat.le_refl _) _, fun V' _ h => ⟨w.heap.size, h, hB.size, FlB.new w encI _ _⟩, fun _ j hj hne hL => ?_⟩
    have hj' : j = 5 ∨ j = 9 ∨ j = 13 := by simpa [dN, or_assoc] using hj
    have hTj := hT j hL
    rcases hj' with rfl | rfl | rfl
    · obtain ⟨b, e, _, q⟩ := hTj; rw [e]; exact q.other_block (Nat.le_refl _)
    · exact absurd rfl hne
    · obtain ⟨b, e, _, q⟩ := hTj; rw [e]; exact q.other_block (Nat.le_refl _)
  simp only [Fam.pt]
  (refine gd_fix rfl (.pointer (some ⟨xb, 0, none⟩)) rfl (fun _ _ => trivial) (fun V w hB => by unfold execOp; go_simp) ?_; simp only [Fam.pt])
  (refine gd_fix rfl (.pointer (some ⟨xb, 0, none⟩)) rfl (fun _ _ => trivial) (fun V w hB => by unfold execOp; go_simp) ?_; simp only [Fam.pt])
  (refine gd_fix rfl _ rfl (fun _ _ => trivial) (fun V w hB => ex_load1 _ _ rfl _ rfl (cellB hB h0) _ Tryz.underlying3 rfl) ?_; simp only [Fam.pt])
  refine gd_free (TN_ok _ _ _ _ _ (by kernel_rfl)) (Nat.le_refl _) rfl (fun V L w hB hT hw => ?_) ?_
  · rw [ex_make 26 (.tmp 18) (.tmp 18) rfl rfl rfl (run_make_ints n (by omega) w)]
    refine ⟨(Below.refl _ _).alloc (Nat.le_refl _) _, fun V' _ h => ⟨w.heap.size, h, hB.size, FlB.new w encI _ _⟩, fun _ j hj hne hL => ?_⟩
    have hj' : j = 5 ∨ j = 9 ∨ j = 13 := by simpa [dN, or_assoc] using hj
    have hTj := hT j hL
    rcases hj' with rfl | rfl | rfl
    · obtain ⟨b, e, _, q⟩ := hTj; rw [e]; exact q.other_block (Nat.le_refl _)
    · obtain ⟨b, e, _, q⟩ := hTj; rw [e]; exact q.other_block (Nat.le_refl _)
    · exact absurd rfl hne
  simp only [Fam.pt]
  (refine gd_fix rfl (.pointer (some ⟨xb, 0, none⟩)) rfl (fun _ _ => trivial) (fun V w hB => by unfold execOp; go_simp) ?_; simp only [Fam.pt])
  (refine gd_fix rfl (.pointer (some ⟨xb, 0, none⟩)) rfl (fun _ _ => trivial) (fun V w hB => by unfold execOp; go_simp) ?_; simp only [Fam.pt])
  (refine gd_fix rfl _ rfl (fun _ _ => trivial) (fun V w hB => ex_load1 _ _ rfl _ rfl (cellB hB h0) _ Tryz.underlying3 rfl) ?_; simp only [Fam.pt])
  refine gd_free (TN_ok _ _ _ _ _ (by kernel_rfl)) (Nat.le_refl _) rfl (fun V L w hB hT hw => ?_) ?_
  · rw [ex_make 76 (.tmp 22) (.tmp 22) rfl rfl rfl (run_make_rows n hn w)]
    exact ⟨(Below.refl _ _).alloc (Nat.le_refl _) _, fun V' _ h => ⟨w.heap.size, h, hB.size, heap_alloc_new w _⟩, fun h => by cases h⟩
  simp only [Fam.pt]
  refine gd_free (TN_ok _ _ _ _ _ (by kernel_rfl)) (Nat.le_refl _) rfl (fun V L w hB hT hw => ?_) ?_
  · obtain ⟨b5, e5, _, _⟩ := hT 5 (hw ⟨5, .data⟩ (by simp) rfl)
    obtain ⟨b9, e9, _, _⟩ := hT 9 (hw ⟨9, .data⟩ (by simp) rfl)
    obtain ⟨b13, e13, _, _⟩ := hT 13 (hw ⟨13, .data⟩ (by simp) rfl)
    obtain ⟨b17, e17, _, _⟩ := hT 17 (hw ⟨17, .data⟩ (by simp) rfl)
    rw [ex_build5 (.tmp 6) (.tmp 11) (.tmp 15) (.tmp 19) (.tmp 23) rfl rfl e5 e9 e13 e17]
    refine ⟨Below.refl _ _, fun V' h h' => ?_, fun h => by cases h⟩
    show V' 18 = .agg #[.int .i64 n, .slice A M ca, V' 5, V' 9, V' 13, V' 17]
    rw [h', h 5 (by decide), h 9 (by decide), h 13 (by decide), h 17 (by decide), e5, e9, e13, e17]
  simp only [Fam.pt]
  refine gd_free (TN_ok _ _ _ _ _ (by kernel_rfl)) (Nat.le_refl _) rfl (fun V L w hB hT hw => ?_) ?_
  · have e18 : V 18 = _ := hT 18 (hw ⟨18, .data⟩ (by simp) rfl)
    rw [ex_box 78 (.tmp 24) rfl (v := .agg #[.int .i64 n, .slice A M ca, V 5, V 9, V 13, V 17]) e18]
    refine ⟨(Below.refl _ _).alloc (Nat.le_refl _) _, fun V' h h' => ⟨w.heap.size, h', hB.size, ?_⟩, fun h => by cases h⟩
    rw [h 5 (by decide), h 9 (by decide), h 13 (by decide), h 17 (by decide)]
    exact World.alloc_heap_new w _
  simp only [Fam.pt]
  refine gd_free (TN_ok _ _ _ _ _ (by kernel_rfl)) (Nat.le_refl _) rfl (fun V L w hB hT hw => ?_) ?_
  · rw [ex_assign (.tmp 25) rfl rfl]
    refine ⟨Below.refl _ _, fun V' h h' => ?_, fun h => by cases h⟩
    show V' 20 = V' 19
    rw [h', h 19 (by decide)]
    rfl
  simp only [Fam.pt]
  refine gd_end (m := 21) fun V w hB hT hD => ?_
  obtain ⟨b5, e5, g5, f5⟩ := hT 5 (by decide)
  obtain ⟨b9, e9, g9, f9⟩ := hT 9 (by decide)
  obtain ⟨b13, e13, g13, f13⟩ := hT 13 (by decide)
  obtain ⟨b17, e17, g17, f17⟩ := hT 17 (by decide)
  obtain ⟨b19, e19, g19, f19⟩ := hT 19 (by decide)
  have e20 : V 20 = V 19 := hT 20 (by decide)
  rw [e5, e9, e13, e17] at f19
  have d1 := hD 9 13 (by decide) (by decide) rfl rfl (by decide)
  rw [e9, e13] at d1
  have d2 : b5 ≠ b9 ∨ M = n := by
    by_cases h : b5 = b9
    · right
      subst h
      have := f5.symm.trans f9
      injection this with this; injection this with this
      have h2 := congrArg Array.size this
      simpa [flat_len encI_len] using h2
    · exact .inl h
  have d3 : b5 ≠ b13 ∨ M = n := by
    by_cases h : b5 = b13
    · right
      subst h
      have := f5.symm.trans f13
      injection this with this; injection this with this
      have h2 := congrArg Array.size this
      simpa [flat_len encI_len] using h2
    · exact .inl h
  have c1 : b5 ≠ b9 := by
    rcases d2 with h | rfl
    · exact h
    · have := hD 5 9 (by decide) (by decide) rfl rfl (by decide)
      rw [e5, e9] at this
      exact fun e => this (by rw [e])
  have c2 : b5 ≠ b13 := by
    rcases d3 with h | rfl
    · exact h
    · have := hD 5 13 (by decide) (by decide) rfl rfl (by decide)
      rw [e5, e13] at this
      exact fun e => this (by rw [e])
  rw [e20, e19]
  exact HQ.out _ _ _ _ _ _ _ _ _ _ _ _ _ _ _ _ _ _ _ _ w b19 b5 b9 b13 b17 hB g19 g5 g9 g13 g17 c1 c2 (fun e => d1 (by rw [e])) f19 f5 f9 f13 f17
theorem push_amount {m n tb src to : Nat} {v : Loc} {es : List Ed} {x p ex : List Int} {W : World} {Q : Exit → Act → World → Prop} {u2 u3 u6 u7 u8 u9 u10 u11 u12 u13 u14 u15 u16 u17 u18 u19 u20 u21 u22 u23 u24 u25 u26 u27 u28 u29 u30 u31 u32 u33 u34 u35 u36 u37 u38 u39 u40 u41 u42 u43 u44 u45 u46 u47 u48 u49 u50 u51 u52 u53 u54 u55 u56 u57 u58 u59 u60 u61 u62 u63 u64 u65 u66 u67 u68 u69 u70 u71 u72 u73 u74 u75 u76 u77 u78 u79 u80 u81 u82 u83 u84 u85 u86 u87 u88 u89 u90 u91 u92 u93 u94 u95 u96 u97 u98 u99 u100 u101 u102 u103 u104 u105 u106 u107 u108 u109 u110 u111 u112 u113 u114 u115 u116 u117 u118 u119 u120 u121 u122 u123 u124 u125 u126 u127 u128 u129 u130 u131 u132 u133 u134 u135 u136 u137 u138 u139 u140 u141 u142 u143 u144 u145 u146 u147 u148 u149 u150 u151 u152 u153 u154 u155 u156 u157 u158 u159 : Value}
    (hS : SvM W v n es x p ex) (hsrc : src < n) (hto : to < n) (hb : ∀ v, v < n → -1000000000 ≤ gi ex v ∧ gi ex v ≤ 1000000000)
    (hQ : ∀ a k am, am = min (gi ex src) (-gi ex to) → FrD 160 [] [(0, .pointer (some ⟨v.S, 0, none⟩)), (1, .int .i64 src), (4, .pointer (some ⟨tb, 0, none⟩)), (5, .int .i64 to), (8, .int .i64 am)] a → Q .normal a (W.drewN k)) :
    Code.wpIn Fence.wide m Tryz.prog (Tryz.f53.sub [1, 1, 1, 0]) Q ⟨#[.pointer (some ⟨v.S, 0, none⟩), .int .i64 src, u2, u3, .pointer (some ⟨tb, 0, none⟩), .int .i64 to, u6, u7, u8, u9, u10, u11, u12, u13, u14, u15, u16, u17, u18, u19, u20, u21, u22, u23, u24, u25, u26, u27, u28, u29, u30, u31, u32, u33, u34, u35, u36, u37, u38, u39, u40, u41, u42, u43, u44, u45, u46, u47, u48, u49, u50, u51, u52, u53, u54, u55, u56, u57, u58, u59, u60, u61, u62, u63, u64, u65, u66, u67, u68, u69, u70, u71, u72, u73, u74, u75, u76, u77, u78, u79, u80, u81, u82, u83, u84, u85, u86, u87, u88, u89, u90, u91, u92, u93, u94, u95, u96, u97, u98, u99, u100, u101, u102, u103, u104, u105, u106, u107, u108, u109, u110, u111, u112, u113, u114, u115, u116, u117, u118, u119, u120, u121, u122, u123, u124, u125, u126, u127, u128, u129, u130, u131, u132, u133, u134, u135, u136, u137, u138, u139, u140, u141, u142, u143, u144, u145, u146, u147, u148, u149, u150, u151, u152, u153, u154, u155, u156, u157, u158, u159], []⟩ W := by
  have HQ := Lib.hid hQ; clear hQ
  have s4 := hS.c4
  have e1 := hS.em.cell (j := src) (by rw [← hS.lene]; exact hsrc)
  have e2 := hS.em.cell (j := to) (by rw [← hS.lene]; exact hto)
  obtain ⟨a1, a2⟩ := hb src hsrc
  obtain ⟨b1, b2⟩ := hb to hto
  clear hS hb
  conv => arg 4; whnf
  dsimp only
  refine regionIn_reads (.inl rfl) (by kernel_rfl) (by kernel_rfl) (by kernel_rfl) ?_
  by_cases hmn : -gi ex to < gi ex src
  all_goals
    repeat (go_big_quiet_step (fail))
    refine wpQuiet_nil ?_
    intro _ hw'
    obtain ⟨nq, rfl⟩ := hw'
    first
    | exact HQ.out _ _ (gi ex src) (by omega) (by (refine ⟨rfl, rfl, ?_⟩; repeat (first | exact trivial | refine ⟨rfl, ?_⟩)))
    | exact HQ.out _ _ (-gi ex to) (by omega) (by (refine ⟨rfl, rfl, ?_⟩; repeat (first | exact trivial | refine ⟨rfl, ?_⟩)))
def LoopRoom (w : World) (n : Nat) (l : List Int) (rk : Nat → Nat) (last : List Ar) (bef : List Nat) (src to : Nat) (am0 : Int) (fr : List (Nat × Value)) (a : Act) (w' : World) : Prop :=
  ∃ (k : Nat) (am : Int), Back n l rk bef src to k ∧ 1 ≤ am ∧ am ≤ am0 ∧ (∀ j, j < k → am ≤ (ga last (itb bef to j)).room) ∧ w' = w ∧ FrD 160 [] ((9, .int .i64 (itb bef to k)) :: (8, .int .i64 am) :: fr) a
theorem push_room {m n J tb lb ab bb src to : Nat} {S : Value} {es : List Ed} (hg : Gd n J es) {x p l : List Int} {last : List Ar} {bef : List Nat} {rk : Nat → Nat} {am0 : Int} {W : World} {Q : Exit → Act → World → Prop} {u2 u3 u6 u7 u9 u10 u11 u12 u13 u14 u15 u16 u17 u18 u19 u20 u21 u22 u23 u24 u25 u26 u27 u28 u29 u30 u31 u32 u33 u34 u35 u36 u37 u38 u39 u40 u41 u42 u43 u44 u45 u46 u47 u48 u49 u50 u51 u52 u53 u54 u55 u56 u57 u58 u59 u60 u61 u62 u63 u64 u65 u66 u67 u68 u69 u70 u71 u72 u73 u74 u75 u76 u77 u78 u79 u80 u81 u82 u83 u84 u85 u86 u87 u88 u89 u90 u91 u92 u93 u94 u95 u96 u97 u98 u99 u100 u101 u102 u103 u104 u105 u106 u107 u108 u109 u110 u111 u112 u113 u114 u115 u116 u117 u118 u119 u120 u121 u122 u123 u124 u125 u126 u127 u128 u129 u130 u131 u132 u133 u134 u135 u136 u137 u138 u139 u140 u141 u142 u143 u144 u145 u146 u147 u148 u149 u150 u151 u152 u153 u154 u155 u156 u157 u158 u159 : Value}
    (hT : PMem W tb lb ab bb n l last bef) (T : Tour n es x p src l last bef rk) (hf : Fits es x p) (hto : to < n) (hfar : gi l to < far) (ha : 1 ≤ am0 ∧ am0 ≤ 1000000000)
    (hQ : ∀ a k am, Back n l rk bef src to k → itb bef to k = src → 1 ≤ am → am ≤ am0 → (∀ j, j < k → am ≤ (ga last (itb bef to j)).room) →
      FrD 160 [] [(0, S), (1, .int .i64 src), (4, .pointer (some ⟨tb, 0, none⟩)), (5, .int .i64 to), (8, .int .i64 am)] a → Q .normal a W) :
    Code.wpIn Fence.wide m Tryz.prog (Tryz.f53.sub [1, 1, 1, 1, 0]) Q ⟨#[S, .int .i64 src, u2, u3, .pointer (some ⟨tb, 0, none⟩), .int .i64 to, u6, u7, .int .i64 am0, u9, u10, u11, u12, u13, u14, u15, u16, u17, u18, u19, u20, u21, u22, u23, u24, u25, u26, u27, u28, u29, u30, u31, u32, u33, u34, u35, u36, u37, u38, u39, u40, u41, u42, u43, u44, u45, u46, u47, u48, u49, u50, u51, u52, u53, u54, u55, u56, u57, u58, u59, u60, u61, u62, u63, u64, u65, u66, u67, u68, u69, u70, u71, u72, u73, u74, u75, u76, u77, u78, u79, u80, u81, u82, u83, u84, u85, u86, u87, u88, u89, u90, u91, u92, u93, u94, u95, u96, u97, u98, u99, u100, u101, u102, u103, u104, u105, u106, u107, u108, u109, u110, u111, u112, u113, u114, u115, u116, u117, u118, u119, u120, u121, u122, u123, u124, u125, u126, u127, u128, u129, u130, u131, u132, u133, u134, u135, u136, u137, u138, u139, u140, u141, u142, u143, u144, u145, u146, u147, u148, u149, u150, u151, u152, u153, u154, u155, u156, u157, u158, u159], []⟩ W := by
  have HQ := Lib.hid hQ; clear hQ
  have HT := Lib.hid hT; clear hT
  have HG := Lib.hid hg; clear hg
  have TT := Lib.hid T; clear T
  have HF := Lib.hid hf; clear hf
  have hnn := HG.out.n_le
  show Code.wpIn Fence.wide m Tryz.prog (.seq (Tryz.f53.sub [1, 1, 1, 1, 0, 0]) (.block 2 (.loop (Tryz.f53.sub [1, 1, 1, 1, 0, 1, 0, 0])))) _ _ _
  refine wpIn_seq ?_
  conv => arg 4; whnf
  gi_wp2_with fail
  obtain ⟨ha1, ha2⟩ := ha
  refine wpIn_loop (LoopRoom W n l rk last bef src to am0 [(0, S), (1, .int .i64 src), (4, .pointer (some ⟨tb, 0, none⟩)), (5, .int .i64 to)]) (fun a _ => rk (intOf (a.tmps.getD 9 undef)).toNat) ⟨0, am0, Back.zero hto hfar, ha1, Int.le_refl _, fun j hj => by omega, rfl, by (refine ⟨rfl, rfl, ?_⟩; repeat (first | exact trivial | refine ⟨rfl, ?_⟩))⟩ ?_
  rintro a wr ⟨k, am, hB, hm1, hm2, hro, rfl, hfr⟩
  obtain ⟨t, rfl⟩ := hfr.open
  clear hfr
  generalize hmu : rk (intOf ((⟨frL 160 _ t, []⟩ : Act).tmps.getD 9 undef)).toNat = mu
  have hmu' : rk (itb bef to k) = mu := by rw [← hmu]; rfl
  clear hmu
  have HB := Lib.hid hB
  have HR := Lib.hid hro; clear hro
  have HMU := Lib.hid hmu'; clear hmu'
  obtain ⟨b1, b2, b3, b4⟩ := hB.at_ k (Nat.le_refl _)
  clear hB b3 b4
  obtain ⟨u, hu⟩ : ∃ u, itb bef to k = u := ⟨_, rfl⟩
  rw [hu] at b1 b2 ⊢
  have HU := Lib.hid hu; clear hu
  have c1 := HT.out.c1
  have c2 := HT.out.c2
  have d1 : wr.cell? ⟨ab, u * 5 + 3, none⟩ = some (.int .i64 (ga last u).room) := HT.out.ac b1 (i := 3) (by omega)
  have d2 := HT.out.bc b1
  show Code.wpIn Fence.wide m Tryz.prog (.seq (.seq (Tryz.f53.sub [1, 1, 1, 1, 0, 1, 0, 0, 0, 0]) (Tryz.f53.sub [1, 1, 1, 1, 0, 1, 0, 0, 0, 1])) (.seq (.block 3 (Tryz.f53.sub [1, 1, 1, 1, 0, 1, 0, 0, 1, 0, 0])) (Tryz.f53.sub [1, 1, 1, 1, 0, 1, 0, 0, 1, 1]))) _ ⟨#[S, .int .i64 src, (t 2), (t 3), .pointer (some ⟨tb, 0, none⟩), .int .i64 to, (t 6), (t 7), .int .i64 am, .int .i64 u, (t 10), (t 11), (t 12), (t 13), (t 14), (t 15), (t 16), (t 17), (t 18), (t 19), (t 20), (t 21), (t 22), (t 23), (t 24), (t 25), (t 26), (t 27), (t 28), (t 29), (t 30), (t 31), (t 32), (t 33), (t 34), (t 35), (t 36), (t 37), (t 38), (t 39), (t 40), (t 41), (t 42), (t 43), (t 44), (t 45), (t 46), (t 47), (t 48), (t 49), (t 50), (t 51), (t 52), (t 53), (t 54), (t 55), (t 56), (t 57), (t 58), (t 59), (t 60), (t 61), (t 62), (t 63), (t 64), (t 65), (t 66), (t 67), (t 68), (t 69), (t 70), (t 71), (t 72), (t 73), (t 74), (t 75), (t 76), (t 77), (t 78), (t 79), (t 80), (t 81), (t 82), (t 83), (t 84), (t 85), (t 86), (t 87), (t 88), (t 89), (t 90), (t 91), (t 92), (t 93), (t 94), (t 95), (t 96), (t 97), (t 98), (t 99), (t 100), (t 101), (t 102), (t 103), (t 104), (t 105), (t 106), (t 107), (t 108), (t 109), (t 110), (t 111), (t 112), (t 113), (t 114), (t 115), (t 116), (t 117), (t 118), (t 119), (t 120), (t 121), (t 122), (t 123), (t 124), (t 125), (t 126), (t 127), (t 128), (t 129), (t 130), (t 131), (t 132), (t 133), (t 134), (t 135), (t 136), (t 137), (t 138), (t 139), (t 140), (t 141), (t 142), (t 143), (t 144), (t 145), (t 146), (t 147), (t 148), (t 149), (t 150), (t 151), (t 152), (t 153), (t 154), (t 155), (t 156), (t 157), (t 158), (t 159)], []⟩ _
  refine wpIn_seq ?_
  refine wpIn_seq ?_
  conv => arg 4; whnf
  dsimp only
  by_cases hus : u = src
  · subst hus
    gi_wp2_with fail
    conv => arg 4; whnf
    gi_wp2_with fail
    exact HQ.out _ k am HB.out HU.out hm1 hm2 HR.out (by (refine ⟨rfl, rfl, ?_⟩; repeat (first | exact trivial | refine ⟨rfl, ?_⟩)))
  · obtain ⟨r1, r2, r3, r4, r5, r6⟩ := TT.out.tree u b1 hus b2
    have hroom : 0 < (ga last u).room := by obtain ⟨_, _, _, h⟩ := r3; exact h
    have hus' : ¬ ((u : Int) = src) := by omega
    have hbn : ¬ (n ≤ u) := by omega
    have R6 := Lib.hid r6
    clear r2 r3 r4 r5 r6
    have hne : itb bef to k ≠ src := by rw [HU.out]; exact hus
    have hu2 : itb bef to (k + 1) = gn bef u := by show gn bef (itb bef to k) = _; rw [HU.out]
    have HN := Lib.hid (And.intro hne hu2); clear hne hu2
    by_cases hmn : (ga last u).room < am
    all_goals
      gi_wp2_with fail
      conv => arg 4; whnf
      gi_wp2_with fail
      conv => arg 4; whnf
      gi_wp2_with fail
      conv => arg 4; whnf
      gi_wp2_with fail
      obtain ⟨hne, hu2⟩ := HN.out
      have FIN : ∀ (am' : Int) (a : Act), (1 ≤ am' ∧ am' ≤ am ∧ am' ≤ (ga last u).room) → FrD 160 [] ((9, .int .i64 (gn bef u)) :: (8, .int .i64 am') :: [(0, S), (1, .int .i64 src), (4, .pointer (some ⟨tb, 0, none⟩)), (5, .int .i64 to)]) a →
          (LoopRoom wr n l rk last bef src to am0 [(0, S), (1, .int .i64 src), (4, .pointer (some ⟨tb, 0, none⟩)), (5, .int .i64 to)] a wr ∧ rk (intOf (a.tmps.getD 9 undef)).toNat < mu) := by
        intro am' a ⟨q1, q2, q3⟩ hfr
        refine ⟨⟨k + 1, am', HB.out.step TT.out HF.out hne, q1, by omega, fun j hj => ?_, rfl, by rw [hu2]; exact hfr⟩, ?_⟩
        · by_cases e : j = k
          · subst e; rw [HU.out]; exact q3
          · have := HR.out j (by omega); omega
        · rw [hfr.2.2.1, ← HMU.out, HU.out]
          exact R6.out
      first
      | exact FIN am _ (by omega) (by (refine ⟨rfl, rfl, ?_⟩; repeat (first | exact trivial | refine ⟨rfl, ?_⟩)))
      | exact FIN (ga last u).room _ (by omega) (by (refine ⟨rfl, rfl, ?_⟩; repeat (first | exact trivial | refine ⟨rfl, ?_⟩)))
structure PW (W w : World) (v : Loc) (tb lb ab bb n : Nat) (es : List Ed) (x p ex l : List Int) (last : List Ar) (bef : List Nat) : Prop where
  sv : SvM w v n es x p ex
  pm : PMem w tb lb ab bb n l last bef
  tch : Tch [v.x, v.p, v.e] W w
structure PApart (v : Loc) (tb lb ab bb : Nat) : Prop where
  x : tb ≠ v.x ∧ lb ≠ v.x ∧ ab ≠ v.x ∧ bb ≠ v.x
  p : tb ≠ v.p ∧ lb ≠ v.p ∧ ab ≠ v.p ∧ bb ≠ v.p
  e : tb ≠ v.e ∧ lb ≠ v.e ∧ ab ≠ v.e ∧ bb ≠ v.e
section
variable {W w : World} {v : Loc} {tb lb ab bb n : Nat} {es : List Ed} {x p ex l : List Int} {last : List Ar} {bef : List Nat}
theorem SvM.drewN (h : SvM w v n es x p ex) (k : Nat) : SvM (w.drewN k) v n es x p ex := h.keep (below_drewN (Below.refl _ _) k)
theorem PW.drewN (h : PW W w v tb lb ab bb n es x p ex l last bef) (k : Nat) : PW W (w.drewN k) v tb lb ab bb n es x p ex l last bef := ⟨h.sv.drewN k, h.pm.drewN k, h.tch.drewN k⟩
theorem PW.setx (h : PW W w v tb lb ab bb n es x p ex l last bef) (ha : PApart v tb lb ab bb) {i : Nat} (hi : i < x.length) (y : Int) : PW W (w.setCell ⟨v.x, i, none⟩ (.int .i64 y)) v tb lb ab bb n es (x.set i y) p ex l last bef :=
  ⟨h.sv.setx hi y, h.pm.other ha.x _, h.tch.set (.inl (by simp)) _⟩
theorem PW.setp (h : PW W w v tb lb ab bb n es x p ex l last bef) (ha : PApart v tb lb ab bb) {i : Nat} (hi : i < p.length) (y : Int) : PW W (w.setCell ⟨v.p, i, none⟩ (.int .i64 y)) v tb lb ab bb n es x (p.set i y) ex l last bef :=
  ⟨h.sv.setp hi y, h.pm.other ha.p _, h.tch.set (.inl (by simp)) _⟩
theorem PW.sete (h : PW W w v tb lb ab bb n es x p ex l last bef) (ha : PApart v tb lb ab bb) {i : Nat} (hi : i < ex.length) (y : Int) : PW W (w.setCell ⟨v.e, i, none⟩ (.int .i64 y)) v tb lb ab bb n es x p (ex.set i y) l last bef :=
  ⟨h.sv.sete hi y, h.pm.other ha.e _, h.tch.set (.inl (by simp)) _⟩
end
def LoopFlow (W : World) (v : Loc) (tb lb ab bb n : Nat) (es : List Ed) (x p ex l : List Int) (last : List Ar) (bef : List Nat) (to K : Nat) (am : Int) (fr : List (Nat × Value)) (a : Act) (w : World) : Prop :=
  ∃ (k : Nat) (y : List Int), k ≤ K ∧ Fl n es x am last bef to k y ∧ PW W w v tb lb ab bb n es y p ex l last bef ∧ FrD 160 [] ((10, .int .i64 (itb bef to k)) :: fr) a
theorem push_flow {m n J tb lb ab bb src to K : Nat} {es : List Ed} (hg : Gd n J es) {x p ex l : List Int} {v : Loc} {last : List Ar} {bef : List Nat} {rk : Nat → Nat} {am : Int} {W0 W : World} {Q : Exit → Act → World → Prop} {u2 u3 u6 u7 u9 u10 u11 u12 u13 u14 u15 u16 u17 u18 u19 u20 u21 u22 u23 u24 u25 u26 u27 u28 u29 u30 u31 u32 u33 u34 u35 u36 u37 u38 u39 u40 u41 u42 u43 u44 u45 u46 u47 u48 u49 u50 u51 u52 u53 u54 u55 u56 u57 u58 u59 u60 u61 u62 u63 u64 u65 u66 u67 u68 u69 u70 u71 u72 u73 u74 u75 u76 u77 u78 u79 u80 u81 u82 u83 u84 u85 u86 u87 u88 u89 u90 u91 u92 u93 u94 u95 u96 u97 u98 u99 u100 u101 u102 u103 u104 u105 u106 u107 u108 u109 u110 u111 u112 u113 u114 u115 u116 u117 u118 u119 u120 u121 u122 u123 u124 u125 u126 u127 u128 u129 u130 u131 u132 u133 u134 u135 u136 u137 u138 u139 u140 u141 u142 u143 u144 u145 u146 u147 u148 u149 u150 u151 u152 u153 u154 u155 u156 u157 u158 u159 : Value}
    (hP : PW W0 W v tb lb ab bb n es x p ex l last bef) (hA : PApart v tb lb ab bb) (T : Tour n es x p src l last bef rk) (hf : Fits es x p) (hB : Back n l rk bef src to K) (hK : itb bef to K = src) (ha : 1 ≤ am ∧ am ≤ 1000000000)
    (hQ : ∀ a w y, Fl n es x am last bef to K y → PW W0 w v tb lb ab bb n es y p ex l last bef →
      FrD 160 [] [(0, .pointer (some ⟨v.S, 0, none⟩)), (1, .int .i64 src), (4, .pointer (some ⟨tb, 0, none⟩)), (5, .int .i64 to), (8, .int .i64 am)] a → Q .normal a w) :
    Code.wpIn Fence.wide m Tryz.prog (Tryz.f53.sub [1, 1, 1, 1, 1, 0]) Q ⟨#[.pointer (some ⟨v.S, 0, none⟩), .int .i64 src, u2, u3, .pointer (some ⟨tb, 0, none⟩), .int .i64 to, u6, u7, .int .i64 am, u9, u10, u11, u12, u13, u14, u15, u16, u17, u18, u19, u20, u21, u22, u23, u24, u25, u26, u27, u28, u29, u30, u31, u32, u33, u34, u35, u36, u37, u38, u39, u40, u41, u42, u43, u44, u45, u46, u47, u48, u49, u50, u51, u52, u53, u54, u55, u56, u57, u58, u59, u60, u61, u62, u63, u64, u65, u66, u67, u68, u69, u70, u71, u72, u73, u74, u75, u76, u77, u78, u79, u80, u81, u82, u83, u84, u85, u86, u87, u88, u89, u90, u91, u92, u93, u94, u95, u96, u97, u98, u99, u100, u101, u102, u103, u104, u105, u106, u107, u108, u109, u110, u111, u112, u113, u114, u115, u116, u117, u118, u119, u120, u121, u122, u123, u124, u125, u126, u127, u128, u129, u130, u131, u132, u133, u134, u135, u136, u137, u138, u139, u140, u141, u142, u143, u144, u145, u146, u147, u148, u149, u150, u151, u152, u153, u154, u155, u156, u157, u158, u159], []⟩ W := by
  have HQ := Lib.hid hQ; clear hQ
  have HA := Lib.hid hA; clear hA
  have HG := Lib.hid hg; clear hg
  have TT := Lib.hid T; clear T
  have HF := Lib.hid hf; clear hf
  have HB := Lib.hid (And.intro hB hK); clear hB hK
  have hnn := HG.out.n_le
  have hmm := HG.out.m_le
  have HX0 := Lib.hid hP.sv.lenx.symm
  show Code.wpIn Fence.wide m Tryz.prog (.seq (Tryz.f53.sub [1, 1, 1, 1, 1, 0, 0]) (.block 4 (.loop (Tryz.f53.sub [1, 1, 1, 1, 1, 0, 1, 0, 0])))) _ _ _
  refine wpIn_seq ?_
  conv => arg 4; whnf
  have HP0 := Lib.hid hP; clear hP
  gi_wp2_with fail
  obtain ⟨ha1, ha2⟩ := ha
  refine wpIn_loop (LoopFlow W0 v tb lb ab bb n es x p ex l last bef to K am [(0, .pointer (some ⟨v.S, 0, none⟩)), (1, .int .i64 src), (4, .pointer (some ⟨tb, 0, none⟩)), (5, .int .i64 to), (8, .int .i64 am)]) (fun a _ => rk (intOf (a.tmps.getD 10 undef)).toNat) ⟨0, x, Nat.zero_le _, Fl.zero HX0.out, HP0.out, by (refine ⟨rfl, rfl, ?_⟩; repeat (first | exact trivial | refine ⟨rfl, ?_⟩))⟩ ?_
  clear HP0 W
  rintro a W ⟨k, y, hkK, hFl, hP, hfr⟩
  obtain ⟨t, rfl⟩ := hfr.open
  clear hfr
  generalize hmu : rk (intOf ((⟨frL 160 _ t, []⟩ : Act).tmps.getD 10 undef)).toNat = mu
  have hmu' : rk (itb bef to k) = mu := by rw [← hmu]; rfl
  clear hmu
  have HMU := Lib.hid hmu'; clear hmu'
  obtain ⟨b1, b2, b3, b4⟩ := HB.out.1.at_ k hkK
  clear b3 b4
  obtain ⟨u, hu⟩ : ∃ u, itb bef to k = u := ⟨_, rfl⟩
  rw [hu] at b1 b2 ⊢
  have HU := Lib.hid hu; clear hu
  have HFl := Lib.hid hFl; clear hFl
  have c1 := hP.pm.c1
  have c2 := hP.pm.c2
  have s1 := hP.sv.c2
  have d0 : W.cell? ⟨ab, u * 5, none⟩ = some (.int .i64 (ga last u).e) := hP.pm.ac b1 (i := 0) (by omega)
  have d2 : W.cell? ⟨ab, u * 5 + 2, none⟩ = some (.int .i64 (ga last u).s) := hP.pm.ac b1 (i := 2) (by omega)
  have d3 := hP.pm.bc b1
  have HP := Lib.hid hP; clear hP
  show Code.wpIn Fence.wide m Tryz.prog (.seq (.seq (Tryz.f53.sub [1, 1, 1, 1, 1, 0, 1, 0, 0, 0, 0]) (Tryz.f53.sub [1, 1, 1, 1, 1, 0, 1, 0, 0, 0, 1])) (.seq (.block 5 (Tryz.f53.sub [1, 1, 1, 1, 1, 0, 1, 0, 0, 1, 0, 0])) (Tryz.f53.sub [1, 1, 1, 1, 1, 0, 1, 0, 0, 1, 1]))) _ ⟨#[.pointer (some ⟨v.S, 0, none⟩), .int .i64 src, (t 2), (t 3), .pointer (some ⟨tb, 0, none⟩), .int .i64 to, (t 6), (t 7), .int .i64 am, (t 9), .int .i64 u, (t 11), (t 12), (t 13), (t 14), (t 15), (t 16), (t 17), (t 18), (t 19), (t 20), (t 21), (t 22), (t 23), (t 24), (t 25), (t 26), (t 27), (t 28), (t 29), (t 30), (t 31), (t 32), (t 33), (t 34), (t 35), (t 36), (t 37), (t 38), (t 39), (t 40), (t 41), (t 42), (t 43), (t 44), (t 45), (t 46), (t 47), (t 48), (t 49), (t 50), (t 51), (t 52), (t 53), (t 54), (t 55), (t 56), (t 57), (t 58), (t 59), (t 60), (t 61), (t 62), (t 63), (t 64), (t 65), (t 66), (t 67), (t 68), (t 69), (t 70), (t 71), (t 72), (t 73), (t 74), (t 75), (t 76), (t 77), (t 78), (t 79), (t 80), (t 81), (t 82), (t 83), (t 84), (t 85), (t 86), (t 87), (t 88), (t 89), (t 90), (t 91), (t 92), (t 93), (t 94), (t 95), (t 96), (t 97), (t 98), (t 99), (t 100), (t 101), (t 102), (t 103), (t 104), (t 105), (t 106), (t 107), (t 108), (t 109), (t 110), (t 111), (t 112), (t 113), (t 114), (t 115), (t 116), (t 117), (t 118), (t 119), (t 120), (t 121), (t 122), (t 123), (t 124), (t 125), (t 126), (t 127), (t 128), (t 129), (t 130), (t 131), (t 132), (t 133), (t 134), (t 135), (t 136), (t 137), (t 138), (t 139), (t 140), (t 141), (t 142), (t 143), (t 144), (t 145), (t 146), (t 147), (t 148), (t 149), (t 150), (t 151), (t 152), (t 153), (t 154), (t 155), (t 156), (t 157), (t 158), (t 159)], []⟩ _
  refine wpIn_seq ?_
  refine wpIn_seq ?_
  conv => arg 4; whnf
  dsimp only
  by_cases hus : u = src
  · subst hus
    gi_wp2_with fail
    conv => arg 4; whnf
    gi_wp2_with fail
    have : k = K := by
      apply Classical.byContradiction
      intro hne
      exact HB.out.1.ne k (by omega) HU.out
    subst this
    exact HQ.out _ _ y HFl.out HP.out (by (refine ⟨rfl, rfl, ?_⟩; repeat (first | exact trivial | refine ⟨rfl, ?_⟩)))
  · have hkK' : k < K := by
      apply Classical.byContradiction
      intro hne
      have : k = K := by omega
      subst this
      exact hus (HU.out.symm.trans HB.out.2)
    obtain ⟨r1, r2, r3, r4, r5, r6⟩ := TT.out.tree u b1 hus b2
    have he := (arc_to_lt HG.out r3).2.2.2.1
    have hs : (ga last u).s = 1 ∨ (ga last u).s = -1 := by
      obtain ⟨i, _, hq | hq, _⟩ := r3
      · left; rw [hq.2]; rfl
      · right; rw [hq.2]; rfl
    have hus' : ¬ ((u : Int) = src) := by omega
    have R6 := Lib.hid r6
    clear r2 r3 r4 r5 r6
    have hyb : -2000000000 ≤ gi y (ga last u).e ∧ gi y (ga last u).e ≤ 2000000000 := by
      have hfit := (HF.out _ he).1
      have hwt := HG.out.wt _ he
      rcases HFl.out.old _ he with h1 | ⟨j, hj, _, h1⟩
      · rw [h1]; omega
      · have hsj : (ga last (itb bef to j)).s = 1 ∨ (ga last (itb bef to j)).s = -1 := by
          obtain ⟨q1, q2, _, _⟩ := HB.out.1.at_ j (by omega)
          obtain ⟨_, _, q3, _⟩ := TT.out.tree _ q1 (HB.out.1.ne j (by omega)) q2
          obtain ⟨i, _, hq | hq, _⟩ := q3
          · left; rw [hq.2]; rfl
          · right; rw [hq.2]; rfl
        rcases hsj with hsj | hsj <;> rw [hsj] at h1 <;> omega
    obtain ⟨hyb1, hyb2⟩ := hyb
    have e1 := HP.out.sv.fl.cell (j := (ga last u).e) (by rw [HFl.out.len]; exact he)
    have e2 := HP.out.sv.fl.frozen (ga last u).e
    have hu2 : itb bef to (k + 1) = gn bef u := by show gn bef (itb bef to k) = _; rw [HU.out]
    have HU2 := Lib.hid hu2; clear hu2
    have FIN : ∀ (a : Act) (q : Nat) (z : Int), z = gi y (ga last u).e + (ga last u).s * am → FrD 160 [] ((10, .int .i64 (gn bef u)) :: [(0, .pointer (some ⟨v.S, 0, none⟩)), (1, .int .i64 src), (4, .pointer (some ⟨tb, 0, none⟩)), (5, .int .i64 to), (8, .int .i64 am)]) a →
        (LoopFlow W0 v tb lb ab bb n es x p ex l last bef to K am [(0, .pointer (some ⟨v.S, 0, none⟩)), (1, .int .i64 src), (4, .pointer (some ⟨tb, 0, none⟩)), (5, .int .i64 to), (8, .int .i64 am)] a ((W.drewN q).setCell ⟨v.x, (ga last u).e, none⟩ (.int .i64 z)) ∧ rk (intOf (a.tmps.getD 10 undef)).toNat < mu) := by
      intro a q z hz hfr
      refine ⟨⟨k + 1, y.set (ga last u).e z, by omega, ?_, (HP.out.drewN q).setx HA.out (by rw [HFl.out.len]; exact he) z, by rw [HU2.out]; exact hfr⟩, ?_⟩
      · have hb2 : Back n l rk bef src to (k + 1) := ⟨fun j hj => HB.out.1.ne j (by omega), fun j hj => HB.out.1.at_ j (by omega)⟩
        have := HFl.out.step HG.out TT.out hb2
        rw [HU.out] at this
        rw [hz]; exact this
      · rw [hfr.2.2.1, ← HMU.out, HU.out]
        exact R6.out
    have HFIN := Lib.hid FIN; clear FIN
    obtain ⟨e, hee⟩ : ∃ e, (ga last u).e = e := ⟨_, rfl⟩
    obtain ⟨s, hss⟩ : ∃ s, (ga last u).s = s := ⟨_, rfl⟩
    obtain ⟨g, hgg⟩ : ∃ g, gi y e = g := ⟨_, rfl⟩
    have HFIN2 : Hid (∀ (a : Act) (q : Nat) (z : Int), z = g + s * am → FrD 160 [] ((10, .int .i64 (gn bef u)) :: [(0, .pointer (some ⟨v.S, 0, none⟩)), (1, .int .i64 src), (4, .pointer (some ⟨tb, 0, none⟩)), (5, .int .i64 to), (8, .int .i64 am)]) a →
        (LoopFlow W0 v tb lb ab bb n es x p ex l last bef to K am [(0, .pointer (some ⟨v.S, 0, none⟩)), (1, .int .i64 src), (4, .pointer (some ⟨tb, 0, none⟩)), (5, .int .i64 to), (8, .int .i64 am)] a ((W.drewN q).setCell ⟨v.x, e, none⟩ (.int .i64 z)) ∧ rk (intOf (a.tmps.getD 10 undef)).toNat < mu)) := by
      rw [← hss, ← hgg, ← hee]; exact HFIN
    clear HFIN
    rw [hee] at d0 e1 e2 he hyb1 hyb2
    rw [hgg] at e1 hyb1 hyb2
    rw [hss] at d2 hs
    clear hee hss hgg
    have xlt : v.x < W.heap.size := World.block_lt_of_cell? _ _ e1
    have blt : bb < W.heap.size := World.block_lt_of_cell? _ _ d3
    have tlt : tb < W.heap.size := World.block_lt_of_cell? _ _ c1
    have nbx : bb ≠ v.x := HA.out.x.2.2.2
    have ntx : tb ≠ v.x := HA.out.x.1
    have hbn : ¬ (es.length ≤ e) := by omega
    rcases hs with rfl | rfl
    all_goals
      gi_wp2_with fail
      conv => arg 4; whnf
      gi_wp2_with fail
      conv => arg 4; whnf
      refine regionIn_last (.inl rfl) (by kernel_rfl) (by kernel_rfl) (by kernel_rfl) cut_last (by kernel_rfl) (by kernel_rfl) (by kernel_rfl) ?_
      dsimp only [List.dropLast, List.getLast]
      repeat (go_big_quiet_step (fail))
      refine wpQuiet_nil ?_
    · refine ⟨fun w => w.setCell ⟨v.x, e, none⟩ (.int .i64 (g + am)), fun q => ?_, fun q => ?_⟩
      · unfold execOp
        go_simp
      dsimp only [Exit.then]
      conv => arg 4; whnf
      gi_wp2_with fail
      conv => arg 4; whnf
      gi_wp2_with fail
      refine HFIN2.out _ q (g + am) (by omega) ?_
      (refine ⟨rfl, rfl, ?_⟩; repeat (first | exact trivial | refine ⟨rfl, ?_⟩))
    · refine ⟨fun w => w.setCell ⟨v.x, e, none⟩ (.int .i64 (g + -am)), fun q => ?_, fun q => ?_⟩
      · unfold execOp
        go_simp
      dsimp only [Exit.then]
      conv => arg 4; whnf
      gi_wp2_with fail
      conv => arg 4; whnf
      gi_wp2_with fail
      refine HFIN2.out _ q (g + -am) (by omega) ?_
      (refine ⟨rfl, rfl, ?_⟩; repeat (first | exact trivial | refine ⟨rfl, ?_⟩))
theorem push_extra {m n tb lb ab bb src to : Nat} {es : List Ed} {x p ex l : List Int} {v : Loc} {last : List Ar} {bef : List Nat} {am : Int} {W0 W : World} {Q : Exit → Act → World → Prop} {c : Code} {u2 u3 u6 u7 u9 u10 u11 u12 u13 u14 u15 u16 u17 u18 u19 u20 u21 u22 u23 u24 u25 u26 u27 u28 u29 u30 u31 u32 u33 u34 u35 u36 u37 u38 u39 u40 u41 u42 u43 u44 u45 u46 u47 u48 u49 u50 u51 u52 u53 u54 u55 u56 u57 u58 u59 u60 u61 u62 u63 u64 u65 u66 u67 u68 u69 u70 u71 u72 u73 u74 u75 u76 u77 u78 u79 u80 u81 u82 u83 u84 u85 u86 u87 u88 u89 u90 u91 u92 u93 u94 u95 u96 u97 u98 u99 u100 u101 u102 u103 u104 u105 u106 u107 u108 u109 u110 u111 u112 u113 u114 u115 u116 u117 u118 u119 u120 u121 u122 u123 u124 u125 u126 u127 u128 u129 u130 u131 u132 u133 u134 u135 u136 u137 u138 u139 u140 u141 u142 u143 u144 u145 u146 u147 u148 u149 u150 u151 u152 u153 u154 u155 u156 u157 u158 u159 : Value}
    (hP : PW W0 W v tb lb ab bb n es x p ex l last bef) (hA : PApart v tb lb ab bb) (hsrc : src < n) (hto : to < n) (hne : src ≠ to) (hb : ∀ v, v < n → -1000000000 ≤ gi ex v ∧ gi ex v ≤ 1000000000) (ha : 1 ≤ am ∧ am ≤ 1000000000)
    (hQ : ∀ a w, PW W0 w v tb lb ab bb n es x p ((ex.set src (gi ex src - am)).set to (gi ex to + am)) l last bef →
      FrD 160 [] [(0, .pointer (some ⟨v.S, 0, none⟩)), (1, .int .i64 src), (4, .pointer (some ⟨tb, 0, none⟩)), (5, .int .i64 to), (8, .int .i64 am)] a → Code.wpIn Fence.wide m Tryz.prog c Q a w) :
    Code.wpIn Fence.wide m Tryz.prog (.seq (Tryz.f53.sub [1, 1, 1, 1, 1, 1, 0]) (.seq (Tryz.f53.sub [1, 1, 1, 1, 1, 1, 1, 0]) c)) Q ⟨#[.pointer (some ⟨v.S, 0, none⟩), .int .i64 src, u2, u3, .pointer (some ⟨tb, 0, none⟩), .int .i64 to, u6, u7, .int .i64 am, u9, u10, u11, u12, u13, u14, u15, u16, u17, u18, u19, u20, u21, u22, u23, u24, u25, u26, u27, u28, u29, u30, u31, u32, u33, u34, u35, u36, u37, u38, u39, u40, u41, u42, u43, u44, u45, u46, u47, u48, u49, u50, u51, u52, u53, u54, u55, u56, u57, u58, u59, u60, u61, u62, u63, u64, u65, u66, u67, u68, u69, u70, u71, u72, u73, u74, u75, u76, u77, u78, u79, u80, u81, u82, u83, u84, u85, u86, u87, u88, u89, u90, u91, u92, u93, u94, u95, u96, u97, u98, u99, u100, u101, u102, u103, u104, u105, u106, u107, u108, u109, u110, u111, u112, u113, u114, u115, u116, u117, u118, u119, u120, u121, u122, u123, u124, u125, u126, u127, u128, u129, u130, u131, u132, u133, u134, u135, u136, u137, u138, u139, u140, u141, u142, u143, u144, u145, u146, u147, u148, u149, u150, u151, u152, u153, u154, u155, u156, u157, u158, u159], []⟩ W := by
  have HQ := Lib.hid hQ; clear hQ
  have s4 := hP.sv.c4
  have le := hP.sv.lene
  have e1 := hP.sv.em.cell (j := src) (by omega)
  have e2 := hP.sv.em.cell (j := to) (by omega)
  have f1 := hP.sv.em.frozen src
  have f2 := hP.sv.em.frozen to
  have hp := Lib.hid ((hP.sete hA (i := src) (by omega) (gi ex src - am)).sete hA (i := to) (by rw [List.length_set]; omega) (gi ex to + am))
  obtain ⟨a1, a2⟩ := hb src hsrc
  obtain ⟨b1, b2⟩ := hb to hto
  obtain ⟨c1, c2⟩ := ha
  have okS := hP.sv.okS.2.2
  have HL := Lib.hid le
  clear hb hP le
  have hne' : to ≠ src := fun e => hne e.symm
  refine wpIn_seq ?_
  conv => arg 4; whnf
  dsimp only
  gi_wp2_with fail
  conv => arg 4; whnf
  gi_wp2_with fail
  exact HQ.out _ _ hp.out (by (refine ⟨rfl, rfl, ?_⟩; repeat (first | exact trivial | refine ⟨rfl, ?_⟩)))
def LoopTurn (W0 : World) (v : Loc) (tb lb ab bb n : Nat) (es : List Ed) (x p ex l : List Int) (last : List Ar) (bef : List Nat) (to : Nat) (fr : List (Nat × Value)) (a : Act) (w : World) : Prop :=
  ∃ (i : Nat) (q : List Int), i ≤ n ∧ (∀ u, u < n → gi q u = if u < i then gi p u + min (gi l u) (gi l to) else gi p u) ∧ PW W0 w v tb lb ab bb n es x q ex l last bef ∧ FrD 160 [] ((136, .slice (some ⟨lb, 0, none⟩) n n) :: (137, .int .i64 n) :: (138, .int .i64 i) :: fr) a
theorem push_turns {m n tb lb ab bb to : Nat} {es : List Ed} {x p ex l : List Int} {v : Loc} {last : List Ar} {bef : List Nat} {W0 W : World} {Q : Exit → Act → World → Prop} {u1 u2 u3 u6 u7 u8 u9 u10 u11 u12 u13 u14 u15 u16 u17 u18 u19 u20 u21 u22 u23 u24 u25 u26 u27 u28 u29 u30 u31 u32 u33 u34 u35 u36 u37 u38 u39 u40 u41 u42 u43 u44 u45 u46 u47 u48 u49 u50 u51 u52 u53 u54 u55 u56 u57 u58 u59 u60 u61 u62 u63 u64 u65 u66 u67 u68 u69 u70 u71 u72 u73 u74 u75 u76 u77 u78 u79 u80 u81 u82 u83 u84 u85 u86 u87 u88 u89 u90 u91 u92 u93 u94 u95 u96 u97 u98 u99 u100 u101 u102 u103 u104 u105 u106 u107 u108 u109 u110 u111 u112 u113 u114 u115 u116 u117 u118 u119 u120 u121 u122 u123 u124 u125 u126 u127 u128 u129 u130 u131 u132 u133 u134 u135 u136 u137 u138 u139 u140 u141 u142 u143 u144 u145 u146 u147 u148 u149 u150 u151 u152 u153 u154 u155 u156 u157 u158 u159 : Value}
    (hP : PW W0 W v tb lb ab bb n es x p ex l last bef) (hA : PApart v tb lb ab bb) (hn : n ≤ 1000) (hto : to < n) (hl : ∀ v, v < n → 0 ≤ gi l v ∧ gi l v ≤ far) (hpb : ∀ v, v < n → 0 ≤ gi p v ∧ gi p v ≤ 1000000000000)
    (hQ : ∀ a w q, a.defers = [] → (∀ u, u < n → gi q u = gi p u + min (gi l u) (gi l to)) → PW W0 w v tb lb ab bb n es x q ex l last bef → Q .normal a w) :
    Code.wpIn Fence.wide m Tryz.prog (Tryz.f53.sub [1, 1, 1, 1, 1, 1, 1, 1]) Q ⟨#[.pointer (some ⟨v.S, 0, none⟩), u1, u2, u3, .pointer (some ⟨tb, 0, none⟩), .int .i64 to, u6, u7, u8, u9, u10, u11, u12, u13, u14, u15, u16, u17, u18, u19, u20, u21, u22, u23, u24, u25, u26, u27, u28, u29, u30, u31, u32, u33, u34, u35, u36, u37, u38, u39, u40, u41, u42, u43, u44, u45, u46, u47, u48, u49, u50, u51, u52, u53, u54, u55, u56, u57, u58, u59, u60, u61, u62, u63, u64, u65, u66, u67, u68, u69, u70, u71, u72, u73, u74, u75, u76, u77, u78, u79, u80, u81, u82, u83, u84, u85, u86, u87, u88, u89, u90, u91, u92, u93, u94, u95, u96, u97, u98, u99, u100, u101, u102, u103, u104, u105, u106, u107, u108, u109, u110, u111, u112, u113, u114, u115, u116, u117, u118, u119, u120, u121, u122, u123, u124, u125, u126, u127, u128, u129, u130, u131, u132, u133, u134, u135, u136, u137, u138, u139, u140, u141, u142, u143, u144, u145, u146, u147, u148, u149, u150, u151, u152, u153, u154, u155, u156, u157, u158, u159], []⟩ W := by
  have HQ := Lib.hid hQ; clear hQ
  have HA := Lib.hid hA; clear hA
  have HL := Lib.hid hl; clear hl
  have HPB := Lib.hid hpb; clear hpb
  have c0 := hP.pm.c0
  show Code.wpIn Fence.wide m Tryz.prog (.seq (Tryz.f53.sub [1, 1, 1, 1, 1, 1, 1, 1, 0]) (.block 6 (.loop (Tryz.f53.sub [1, 1, 1, 1, 1, 1, 1, 1, 1, 0, 0])))) _ _ _
  refine wpIn_seq ?_
  conv => arg 4; whnf
  dsimp only
  have HP0 := Lib.hid hP; clear hP
  gi_wp2_with fail
  refine wpIn_loop (LoopTurn W0 v tb lb ab bb n es x p ex l last bef to [(0, .pointer (some ⟨v.S, 0, none⟩)), (4, .pointer (some ⟨tb, 0, none⟩)), (5, .int .i64 to)]) (fun a _ => n - (intOf (a.tmps.getD 138 undef)).toNat) ⟨0, p, Nat.zero_le _, fun u _ => by simp, HP0.out, by (refine ⟨rfl, rfl, ?_⟩; repeat (first | exact trivial | refine ⟨rfl, ?_⟩))⟩ ?_
  clear HP0 c0 W
  rintro a W ⟨i, q, hi, hq, hP, hfr⟩
  obtain ⟨t, rfl⟩ := hfr.open
  clear hfr
  generalize hmu : n - (intOf ((⟨frL 160 _ t, []⟩ : Act).tmps.getD 138 undef)).toNat = mu
  have hmu' : n - i = mu := by rw [← hmu]; rfl
  clear hmu
  have HQ' := Lib.hid hq; clear hq
  have c0 := hP.pm.c0
  have s3 := hP.sv.c3
  have lt := hP.pm.lc hto
  have lp := hP.sv.lenp
  have HP := Lib.hid hP; clear hP
  show Code.wpIn Fence.wide m Tryz.prog (.seq (Tryz.f53.sub [1, 1, 1, 1, 1, 1, 1, 1, 1, 0, 0, 0]) (.seq (Tryz.f53.sub [1, 1, 1, 1, 1, 1, 1, 1, 1, 0, 0, 1, 0]) (.seq (.block 7 (Tryz.f53.sub [1, 1, 1, 1, 1, 1, 1, 1, 1, 0, 0, 1, 1, 0, 0])) (Tryz.f53.sub [1, 1, 1, 1, 1, 1, 1, 1, 1, 0, 0, 1, 1, 1])))) _ ⟨#[.pointer (some ⟨v.S, 0, none⟩), (t 1), (t 2), (t 3), .pointer (some ⟨tb, 0, none⟩), .int .i64 to, (t 6), (t 7), (t 8), (t 9), (t 10), (t 11), (t 12), (t 13), (t 14), (t 15), (t 16), (t 17), (t 18), (t 19), (t 20), (t 21), (t 22), (t 23), (t 24), (t 25), (t 26), (t 27), (t 28), (t 29), (t 30), (t 31), (t 32), (t 33), (t 34), (t 35), (t 36), (t 37), (t 38), (t 39), (t 40), (t 41), (t 42), (t 43), (t 44), (t 45), (t 46), (t 47), (t 48), (t 49), (t 50), (t 51), (t 52), (t 53), (t 54), (t 55), (t 56), (t 57), (t 58), (t 59), (t 60), (t 61), (t 62), (t 63), (t 64), (t 65), (t 66), (t 67), (t 68), (t 69), (t 70), (t 71), (t 72), (t 73), (t 74), (t 75), (t 76), (t 77), (t 78), (t 79), (t 80), (t 81), (t 82), (t 83), (t 84), (t 85), (t 86), (t 87), (t 88), (t 89), (t 90), (t 91), (t 92), (t 93), (t 94), (t 95), (t 96), (t 97), (t 98), (t 99), (t 100), (t 101), (t 102), (t 103), (t 104), (t 105), (t 106), (t 107), (t 108), (t 109), (t 110), (t 111), (t 112), (t 113), (t 114), (t 115), (t 116), (t 117), (t 118), (t 119), (t 120), (t 121), (t 122), (t 123), (t 124), (t 125), (t 126), (t 127), (t 128), (t 129), (t 130), (t 131), (t 132), (t 133), (t 134), (t 135), .slice (some ⟨lb, 0, none⟩) n n, .int .i64 n, .int .i64 i, (t 139), (t 140), (t 141), (t 142), (t 143), (t 144), (t 145), (t 146), (t 147), (t 148), (t 149), (t 150), (t 151), (t 152), (t 153), (t 154), (t 155), (t 156), (t 157), (t 158), (t 159)], []⟩ _
  refine wpIn_seq ?_
  conv => arg 4; whnf
  dsimp only
  by_cases hlt : i < n
  · have li := HP.out.pm.lc hlt
    have pi := HP.out.sv.tu.cell (j := i) (by omega)
    have pf := HP.out.sv.tu.frozen i
    have hqi := HQ'.out i hlt
    rw [if_neg (by omega)] at hqi
    rw [hqi] at pi
    clear hqi
    obtain ⟨l1, l2⟩ := HL.out i hlt
    obtain ⟨m1, m2⟩ := HL.out to hto
    obtain ⟨p1, p2⟩ := HPB.out i hlt
    unfold far at l2 m2
    have FIN : ∀ (a : Act) (k : Nat) (z : Int), z = gi p i + min (gi l i) (gi l to) → FrD 160 [] ((136, .slice (some ⟨lb, 0, none⟩) n n) :: (137, .int .i64 n) :: (138, .int .i64 ((i : Int) + 1)) :: [(0, .pointer (some ⟨v.S, 0, none⟩)), (4, .pointer (some ⟨tb, 0, none⟩)), (5, .int .i64 to)]) a →
        (LoopTurn W0 v tb lb ab bb n es x p ex l last bef to [(0, .pointer (some ⟨v.S, 0, none⟩)), (4, .pointer (some ⟨tb, 0, none⟩)), (5, .int .i64 to)] a ((W.drewN k).setCell ⟨v.p, i, none⟩ (.int .i64 z)) ∧ n - (intOf (a.tmps.getD 138 undef)).toNat < mu) := by
      intro a k z hz hfr
      refine ⟨⟨i + 1, q.set i z, by omega, fun u hu => ?_, (HP.out.drewN k).setp HA.out (by omega) z, hfr⟩, ?_⟩
      · rw [gi_set _ _ _ _ (by omega)]
        by_cases e : i = u
        · subst e; rw [if_pos rfl, if_pos (by omega)]; exact hz
        · rw [if_neg e, HQ'.out u hu]
          by_cases e2 : u < i
          · rw [if_pos e2, if_pos (by omega)]
          · rw [if_neg e2, if_neg (by omega)]
      · rw [hfr.2.2.2.2.1]
        show n - ((i : Int) + 1).toNat < mu
        omega
    have HFIN := Lib.hid FIN; clear FIN
    have HLP := Lib.hid lp; clear lp
    have hbn : ¬ (n ≤ i) := by omega
    have hbt : ¬ (n ≤ to) := by omega
    have plt : v.p < W.heap.size := World.block_lt_of_cell? _ _ pi
    by_cases hmn : gi l to < gi l i
    all_goals
      gi_wp2_with fail
      conv => arg 4; whnf
      gi_wp2_with fail
      conv => arg 4; whnf
      gi_wp2_with fail
      refine regionIn_last (.inl rfl) (by kernel_rfl) (by kernel_rfl) (by kernel_rfl) cut_last (by kernel_rfl) (by kernel_rfl) (by kernel_rfl) ?_
      dsimp only [List.dropLast, List.getLast]
      repeat (go_big_quiet_step (fail))
      refine wpQuiet_nil ?_
    · refine ⟨fun w => w.setCell ⟨v.p, i, none⟩ (.int .i64 (gi p i + gi l to)), fun q => ?_, fun q => ?_⟩
      · unfold execOp
        go_simp
      dsimp only [Exit.then]
      conv => arg 4; whnf
      gi_wp2_with fail
      conv => arg 4; whnf
      gi_wp2_with fail
      refine HFIN.out _ q _ (by omega) ?_
      (refine ⟨rfl, rfl, ?_⟩; repeat (first | exact trivial | refine ⟨rfl, ?_⟩))
    · refine ⟨fun w => w.setCell ⟨v.p, i, none⟩ (.int .i64 (gi p i + gi l i)), fun q => ?_, fun q => ?_⟩
      · unfold execOp
        go_simp
      dsimp only [Exit.then]
      conv => arg 4; whnf
      gi_wp2_with fail
      conv => arg 4; whnf
      gi_wp2_with fail
      refine HFIN.out _ q _ (by omega) ?_
      (refine ⟨rfl, rfl, ?_⟩; repeat (first | exact trivial | refine ⟨rfl, ?_⟩))
  · gi_wp2_with fail
    conv => arg 4; whnf
    gi_wp2_with fail
    have : i = n := by omega
    subst this
    refine HQ.out _ _ q rfl (fun u hu => ?_) HP.out
    rw [HQ'.out u hu, if_pos hu]
end Go.Proofs.YtjnpchoinncbnaaGreat
end
