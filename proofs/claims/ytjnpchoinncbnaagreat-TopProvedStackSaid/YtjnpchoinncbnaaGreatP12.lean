/- Proves parts of the statement, each under the conditions that its theorem states: The steps of some pairs that begin at a scene: one step; A search by depth over the steps: what is known and what it holds; The steps of some pairs that begin at a scene: the loops; The length of a pair: the sum. -/
import Derived.Test.YtjnpchoinncbnaaGreatP11
import Derived.Test.YtjnpchoinncbnaaGreatP05
import Derived.Test.YtjnpchoinncbnaaGreatP04
import Derived.Test.YtjnpchoinncbnaaGreatP08
import Derived.Test.YtjnpchoinncbnaaGreatP01
import Derived.IntWalk
set_option linter.unusedSimpArgs false
set_option linter.unusedVariables false
set_option maxHeartbeats 4000000
set_option maxRecDepth 100000
section
namespace Go.Proofs.YtjnpchoinncbnaaGreat
open Go.RowKit Sw Fam
def RoundS (l i : Nat) (sg : Int) (to : Nat) (W : World) (R : World → Prop) : Prop :=
  ∃ rec : Loop, W.heap[l]? = some (.loop rec) ∧ rec.params.size = 2 ∧ ∀ m,
    RoundIn Fence.wide m Tryz.prog l rec.fn ((rec.params.zip #[.agg #[.int .i64 i, .int .i64 sg], .int .i64 to]).foldl (fun tmps (t, a) => tmps.setIfInBounds t a) rec.tmps) rec.assign rec.body W (fun e W' => e = .returned (.bool true) ∧ R W')
theorem RoundS.use {l i to : Nat} {sg : Int} {W : World} {R : World → Prop} (h : RoundS l i sg to W R) {o : Oper} {m : Nat} {a : Act} {next : Act → World → Prop} {Q : Exit → Act → World → Prop}
    (hn : ∀ w', R w' → next (a.put o.dst (.bool true)) w') :
    Oper.uponIn Fence.wide m Tryz.prog o a next Q ((Instr.yield l #[.agg #[.int .i64 i, .int .i64 sg], .int .i64 to]).run Tryz.prog W) := by
  obtain ⟨rec, h1, h2, h3⟩ := h
  have hr := run_yield (P := Tryz.prog) (args := #[.agg #[.int .i64 i, .int .i64 sg], .int .i64 to]) h1 (by simp [h2])
  rw [hr, Oper.uponIn_round]
  refine ⟨fun h => by simp [Fence.wide] at h, (h3 (m - 1)).mono ?_⟩
  rintro e w' ⟨rfl, hR⟩
  exact hn _ hR
theorem run_index2 (si : Nat) (sg : Int) (h : si = 0 ∧ sg = 1 ∨ si = 1 ∧ sg = -1) (w : World) : (Instr.index 116 (.agg #[.int .i64 1, .int .i64 (-1)]) (.int .i64 (si : Int))).run Tryz.prog w = .ok (.int .i64 sg) w := by
  rcases h with ⟨rfl, rfl⟩ | ⟨rfl, rfl⟩ <;> simp [Instr.index, go_sem, Tryz.underlying116, Tryz.underlying3] <;> rfl
theorem from1_step {mm l gb sb i m n cs cp f s b o si sc : Nat} {S : Option Addr} {sg : Int} {W : World} {R : World → Prop} {Q : Exit → Act → World → Prop} {u1 u4 u5 u7 u8 u9 u10 u11 u12 u13 u14 u15 u16 u17 u20 u21 u22 u23 u24 u25 u26 u27 u28 u29 u30 u31 u32 u33 u34 u35 u36 u37 u38 u39 u40 u41 u42 : Value}
    (hsi : si = 0 ∧ sg = 1 ∨ si = 1 ∧ sg = -1) (hi : i < m) (hm : m ≤ 200)
    (hG : W.heap[gb]? = some (.cells #[.slice S n cs, .slice (some ⟨b, o, none⟩) m cp] 66 (0, 0))) (hsc : W.cell? ⟨sb, 0, none⟩ = some (.int .i64 (sc : Nat)))
    (p0 : W.cell? ⟨b, o + i * 2, none⟩ = some (.int .i64 (f : Nat))) (p1 : W.cell? ⟨b, o + i * 2 + 1, none⟩ = some (.int .i64 (s : Nat)))
    (hY : ∀ W', Below W.heap.size W W' → ((if sg = 1 then f else s) = sc → RoundS l i sg (if sg = 1 then s else f) W' R) ∧ ((if sg = 1 then f else s) ≠ sc → R W'))
    (hQ : ∀ v8 v9 v10 v11 v21 v22 v23 v24 v25 v26 v27 v28 v29 v30 v31 v32 v33 v34 v35 v36 v37 v38 v39 v40 w', R w' → Q .normal ⟨#[.func (.yield l) #[] #[], u1, .pointer (some ⟨gb, 0, none⟩), .pointer (some ⟨sb, 0, none⟩), u4, u5, .int .i64 i, u7, v8, v9, v10, v11, u12, u13, u14, u15, u16, u17, .agg #[.int .i64 1, .int .i64 (-1)], .int .i64 si, u20, v21, v22, v23, v24, v25, v26, v27, v28, v29, v30, v31, v32, v33, v34, v35, v36, v37, v38, v39, v40, u41, u42], []⟩ w') :
    Code.wpIn Fence.wide mm Tryz.prog (Tryz.f68.sub [1, 0, 0, 1, 1, 0, 0, 1, 1, 0, 0, 1, 1, 0, 0]) Q ⟨#[.func (.yield l) #[] #[], u1, .pointer (some ⟨gb, 0, none⟩), .pointer (some ⟨sb, 0, none⟩), u4, u5, .int .i64 i, u7, u8, u9, u10, u11, u12, u13, u14, u15, u16, u17, .agg #[.int .i64 1, .int .i64 (-1)], .int .i64 si, u20, u21, u22, u23, u24, u25, u26, u27, u28, u29, u30, u31, u32, u33, u34, u35, u36, u37, u38, u39, u40, u41, u42], []⟩ W := by
  conv => arg 4; whnf
  dsimp only
  have HQ := Lib.hid hQ; clear hQ
  have HY := Lib.hid hY; clear hY
  have hix := run_index2 si sg hsi
  have g0 : W.cell? ⟨gb, 0, none⟩ = some (.slice S n cs) := block_cell hG (j := 0) (by simp)
  have g1 : W.cell? ⟨gb, 1, none⟩ = some (.slice (some ⟨b, o, none⟩) m cp) := block_cell hG (j := 1) (by simp)
  have gl : gb < W.heap.size := (Array.getElem?_eq_some_iff.1 hG).1
  have hsg : sg = 1 ∨ sg = -1 := by rcases hsi with h | h; exact .inl h.2; exact .inr h.2
  obtain ⟨W1, hW1⟩ : ∃ W1, W1 = W.alloc (.cells #[.int .i64 i, .int .i64 sg] 95) := ⟨_, rfl⟩
  obtain ⟨hB1, hS1⟩ := alloc1 W _ hW1
  have HE := Lib.hid (ends_c (S := S) (n := n) (cs := cs) (cp := cp) hsg hi hm (cell_keep hB1 p0) (cell_keep hB1 p1))
  have H1 := Lib.hid (And.intro hB1 (And.intro hS1 (And.intro hsc (And.intro hsi hsg))))
  have HW1 := Lib.hid hW1
  clear hB1 hS1 hG hsc hsi hsg hW1
  gi_wp2_with fail
  rw [← HW1.out]
  refine ⟨trivial, fun hh => by simp [Fence.wide] at hh, (callsIn_wide.2 HE.out).mono ?_⟩
  rintro e W2 ⟨rfl, hB2⟩
  have hB02 : Below W.heap.size W W2 := H1.out.1.trans (hB2.mono H1.out.1.size)
  have hS2 := (hB2.block _ (Array.getElem?_eq_some_iff.1 H1.out.2.1).1).trans H1.out.2.1
  have s0 : W2.cell? ⟨W.heap.size, 0, none⟩ = some (.int .i64 i) := block_cell hS2 (j := 0) (by simp)
  have s1 : W2.cell? ⟨W.heap.size, 1, none⟩ = some (.int .i64 sg) := block_cell hS2 (j := 1) (by simp)
  have q0 := cell_keep hB02 H1.out.2.2.1
  obtain ⟨y1, y2⟩ := HY.out W2 hB02
  clear hB2 hS2 HE g0 g1 gl p0 p1 hix
  generalize (if sg = 1 then f else s) = a0 at *
  generalize (if sg = 1 then s else f) = a1 at *
  by_cases ha : a0 = sc
  · have HR := Lib.hid (y1 ha); clear y1 y2
    have d1 : ((a0 : Int) == (sc : Int)) = true := by simp [ha]
    have HA := Lib.hid ha; clear ha
    gi_wp2_with fail
    refine RoundS.use HR.out ?_
    intro w3 hJ3
    have HJ3 := Lib.hid hJ3; clear hJ3
    gi_wp2_with fail
    exact HQ.out _ _ _ _ _ _ _ _ _ _ _ _ _ _ _ _ _ _ _ _ _ _ _ _ _ HJ3.out
  · have HR := Lib.hid (y2 ha); clear y1 y2
    have d1 : ((a0 : Int) == (sc : Int)) = false := by simp; omega
    have HA := Lib.hid ha; clear ha
    gi_wp2_with fail
    refine ⟨fun f h => (nomatch h), ?_⟩
    gi_wp2_with fail
    exact HQ.out _ _ _ _ _ _ _ _ _ _ _ _ _ _ _ _ _ _ _ _ _ _ _ _ _ HR.out
end Go.Proofs.YtjnpchoinncbnaaGreat
end
section
namespace Sw
def sgn (k : Nat) : Int := if k % 2 = 0 then 1 else -1
def stA (ps : List Pr) (F : List Int) (k : Nat) : Nat := if k % 2 = 0 then (gq ps (gi F (k / 2)).toNat).f else (gq ps (gi F (k / 2)).toNat).s
def stB (ps : List Pr) (F : List Int) (k : Nat) : Nat := if k % 2 = 0 then (gq ps (gi F (k / 2)).toNat).s else (gq ps (gi F (k / 2)).toNat).f
theorem gb_put (d : List Bool) (i j : Nat) (hi : i < d.length) : gb (d.set i true) j = if i = j then true else gb d j := by
  unfold gb
  by_cases h : i = j
  · subst h; simp [hi]
  · simp [h]
theorem cnt_mono : ∀ {d e : List Bool}, d.length = e.length → (∀ v, v < d.length → gb d v = true → gb e v = true) → cnt d ≤ cnt e := by
  intro d
  induction d with
  | nil => intro e he _; simp [cnt]
  | cons x d ih =>
    intro e he h
    cases e with
    | nil => simp at he
    | cons y e =>
      have h1 := ih (e := e) (by simpa using he) (fun v hv hg => by have := h (v + 1) (by simp; omega) (by simpa [gb] using hg); simpa [gb] using this)
      have h0 := h 0 (by simp)
      unfold cnt at *
      rw [List.countP_cons, List.countP_cons]
      cases x with
      | false => simp; omega
      | true =>
        have : y = true := by simpa [gb] using h0 (by simp [gb])
        subst this
        simp; omega
structure DI (n : Nat) (M : Int) (p : Nat → Int) (kn : List Bool) (out : List Int) : Prop where
  lk : kn.length = n
  lo : out.length = n
  val : ∀ v, v < n → gb kn v = true → gi out v = p v ∧ -(M * (cnt kn : Int)) ≤ p v ∧ p v ≤ M * (cnt kn : Int)
  zero : ∀ v, v < n → gb kn v = false → gi out v = 0
structure DS (n : Nat) (M : Int) (p : Nat → Int) (sc : Nat) (kn : List Bool) (out : List Int) : Prop where
  lk : kn.length = n
  lo : out.length = n
  val : ∀ v, v < n → gb kn v = true → gi out v = p v ∧ -(M * (cnt kn : Int)) ≤ p v ∧ p v ≤ M * (cnt kn : Int)
  zero : ∀ v, v < n → gb kn v = false → v ≠ sc → gi out v = 0
  unk : gb kn sc = false
  at_ : gi out sc = p sc
  bd : -(M * (cnt kn + 1 : Int)) ≤ p sc ∧ p sc ≤ M * (cnt kn + 1 : Int)
structure DJ (n : Nat) (M : Int) (p : Nat → Int) (ps : List Pr) (F : List Int) (sc k : Nat) (kn0 kn : List Bool) (out : List Int) : Prop where
  di : DI n M p kn out
  mono : ∀ v, v < n → gb kn0 v = true → gb kn v = true
  own : gb kn sc = true
  done : ∀ j, j < k → stA ps F j = sc → gb kn (stB ps F j) = true
  clo : ∀ v, v < n → gb kn v = true → gb kn0 v = false → v ≠ sc → ∀ j, j < 2 * F.length → stA ps F j = v → gb kn (stB ps F j) = true
structure DP (n : Nat) (M : Int) (p : Nat → Int) (ps : List Pr) (F : List Int) (sc : Nat) (kn0 kn : List Bool) (out : List Int) : Prop where
  di : DI n M p kn out
  mono : ∀ v, v < n → gb kn0 v = true → gb kn v = true
  own : gb kn sc = true
  clo : ∀ v, v < n → gb kn v = true → gb kn0 v = false → ∀ j, j < 2 * F.length → stA ps F j = v → gb kn (stB ps F j) = true
section
variable {n : Nat} {M : Int} {p : Nat → Int} {ps : List Pr} {F : List Int} {sc k : Nat} {kn0 kn kn' : List Bool} {out out' : List Int}
theorem DS.start (h : DS n M p sc kn out) (hM : 0 ≤ M) (hs : sc < n) : DJ n M p ps F sc 0 kn (kn.set sc true) out := by
  have hl : sc < kn.length := by rw [h.lk]; exact hs
  have hc := cnt_set kn sc hl h.unk
  refine ⟨⟨by rw [List.length_set]; exact h.lk, h.lo, fun v hv hg => ?_, fun v hv hg => ?_⟩, fun v hv hg => ?_, ?_, fun j hj => absurd hj (Nat.not_lt_zero _), fun v hv hg h0 hne => ?_⟩
  · rw [hc]
    by_cases e : sc = v
    · subst e
      refine ⟨h.at_, ?_⟩
      have := h.bd
      simpa using this
    · rw [gb_put _ _ _ hl, if_neg e] at hg
      obtain ⟨h1, h2, h3⟩ := h.val v hv hg
      refine ⟨h1, ?_, ?_⟩
      · have : M * ((cnt kn + 1 : Nat) : Int) = M * (cnt kn : Int) + M := by rw [Int.natCast_add, Int.mul_add]; simp
        omega
      · have : M * ((cnt kn + 1 : Nat) : Int) = M * (cnt kn : Int) + M := by rw [Int.natCast_add, Int.mul_add]; simp
        omega
  · rw [gb_put _ _ _ hl] at hg
    by_cases e : sc = v
    · rw [if_pos e] at hg; cases hg
    · rw [if_neg e] at hg; exact h.zero v hv hg (fun e' => e e'.symm)
  · rw [gb_put _ _ _ hl]; split
    · rfl
    · exact hg
  · rw [gb_put _ _ _ hl, if_pos rfl]
  · rw [gb_put _ _ _ hl, if_neg (fun e => hne e.symm), h0] at hg; cases hg
theorem DJ.fin (h : DJ n M p ps F sc (2 * F.length) kn0 kn out) : DP n M p ps F sc kn0 kn out :=
  ⟨h.di, h.mono, h.own, fun v hv hg h0 j hj hs => by
    by_cases e : v = sc
    · exact h.done j hj (hs.trans e)
    · exact h.clo v hv hg h0 e j hj hs⟩
theorem DJ.skip (h : DJ n M p ps F sc k kn0 kn out) (hk : stA ps F k = sc → gb kn (stB ps F k) = true) : DJ n M p ps F sc (k + 1) kn0 kn out :=
  ⟨h.di, h.mono, h.own, fun j hj hs => by
    by_cases e : j = k
    · subst e; exact hk hs
    · exact h.done j (by omega) hs, h.clo⟩
theorem DJ.enter (h : DJ n M p ps F sc k kn0 kn out) (hM : 0 ≤ M) (hs : sc < n) {to : Nat} (ht : to < n) (hu : gb kn to = false) {x : Int} (hx : p to = p sc + x) (hb : -M ≤ x ∧ x ≤ M) : DS n M p to kn (out.set to (gi out sc + x)) := by
  obtain ⟨v1, v2, v3⟩ := h.di.val sc hs h.own
  have hg : ∀ v, v ≠ to → gi (out.set to (gi out sc + x)) v = gi out v := fun v hv => by simp [gi, Ne.symm hv]
  refine ⟨h.di.lk, by rw [List.length_set]; exact h.di.lo, fun v hv hgv => ?_, fun v hv hgv hne => ?_, hu, ?_, ?_⟩
  · rw [hg v (fun e => by subst e; rw [hu] at hgv; cases hgv)]; exact h.di.val v hv hgv
  · rw [hg v hne]; exact h.di.zero v hv hgv
  · rw [hx, ← v1]; simp [gi, h.di.lo, ht]
  · have : M * ((cnt kn : Int) + 1) = M * (cnt kn : Int) + M := by rw [Int.mul_add]; simp
    omega
theorem DJ.after (h : DJ n M p ps F sc k kn0 kn out) (hA : stA ps F k = sc) (hs : sc < n) (hF : ∀ j, j < 2 * F.length → stB ps F j < n) (hk : k < 2 * F.length) (hd : DP n M p ps F (stB ps F k) kn kn' out') : DJ n M p ps F sc (k + 1) kn0 kn' out' := by
  refine ⟨hd.di, fun v hv hg => hd.mono v hv (h.mono v hv hg), hd.mono sc hs h.own, fun j hj hsj => ?_, fun v hv hg h0 hne j hj hsj => ?_⟩
  · by_cases e : j = k
    · subst e; exact hd.own
    · exact hd.mono _ (hF j (by omega)) (h.done j (by omega) hsj)
  · by_cases hv' : gb kn v = true
    · exact hd.mono _ (hF j hj) (h.clo v hv hv' h0 hne j hj hsj)
    · exact hd.clo v hv hg (by simpa using hv') j hj hsj
end
end Sw
end
section
namespace Go.Proofs.YtjnpchoinncbnaaGreat
open Go.RowKit Sw Fam
def LoopF (F : List Int) (J : Nat → World → Prop) (z0 z1 z2 z3 z12 : Value) (a : Act) (w : World) : Prop :=
  ∃ i : Nat, i ≤ F.length ∧ J (2 * i) w ∧ Fr 43 [(0, z0), (1, z1), (2, z2), (3, z3), (12, z12), (13, .int .i64 F.length), (14, .int .i64 i)] a
def LoopS (F : List Int) (J : Nat → World → Prop) (z0 z1 z2 z3 z12 : Value) (i x : Nat) (a : Act) (w : World) : Prop :=
  ∃ si : Nat, si ≤ 2 ∧ J (2 * i + si) w ∧ Fr 43 [(0, z0), (1, z1), (2, z2), (3, z3), (12, z12), (13, .int .i64 F.length), (14, .int .i64 i), (6, .int .i64 x), (18, .agg #[.int .i64 1, .int .i64 (-1)]), (19, .int .i64 si)] a
theorem from1_in (l : Nat) {t : Sk} {S P : Option Addr} {cs cp fb gb sb sc fc : Nat} {A : Option Addr} {F : List Int} (ho : NetOk t) (hF : ∀ j, j < F.length → 0 ≤ gi F j ∧ gi F j < t.pr.length) (hl : F.length ≤ 200) (J : Nat → World → Prop)
    (hK : ∀ k W W', J k W → Below W.heap.size W W' → J k W')
    (hS : ∀ k W, J k W → W.cell? ⟨fb, 0, none⟩ = some (.slice A F.length fc) ∧ W.heap[gb]? = some (.cells #[.slice S t.sc.length cs, .slice P t.pr.length cp] 66 (0, 0)) ∧ W.cell? ⟨sb, 0, none⟩ = some (.int .i64 (sc : Nat)) ∧ RdI W A F ∧ RdQ W P (prs t))
    (hY : ∀ k W, k < 2 * F.length → J k W → (stA (prs t) F k = sc → RoundS l (gi F (k / 2)).toNat (sgn k) (stB (prs t) F k) W (J (k + 1))) ∧ (stA (prs t) F k ≠ sc → J (k + 1) W)) (W : World) (h0 : J 0 W) :
    CallsIn Fence.wide 3 Tryz.prog 68 #[.func (.yield l) #[] #[], .pointer (some ⟨fb, 0, none⟩), .pointer (some ⟨gb, 0, none⟩), .pointer (some ⟨sb, 0, none⟩)] W (fun e W' => (∃ r, e = .returned r) ∧ J (2 * F.length) W') := by
  refine callsIn_of_wp Tryz.func68 rfl trivial ?_ rfl
  simp only [Tryz.ntmps68, List.size_toArray, List.length_cons, List.length_nil, Nat.reduceAdd, Nat.reduceSub, Array.replicate_succ, Array.replicate_zero, List.push_toArray, List.append_toArray, List.nil_append, List.cons_append]
  obtain ⟨c1, _, _, _, _⟩ := hS 0 W h0
  have HO := Lib.hid ho; clear ho
  have HF := Lib.hid hF; clear hF
  have HK := Lib.hid hK; clear hK
  have HS := Lib.hid hS; clear hS
  have HY := Lib.hid hY; clear hY
  show Code.wpIn Fence.wide 3 Tryz.prog (.seq (Tryz.f68.sub [0]) (.block 0 (.loop (Tryz.f68.sub [1, 0, 0])))) _ _ _
  refine wpIn_seq ?_
  conv => arg 4; whnf
  gi_wp2_with fail
  refine wpIn_loop (LoopF F J (.func (.yield l) #[] #[]) (.pointer (some ⟨fb, 0, none⟩)) (.pointer (some ⟨gb, 0, none⟩)) (.pointer (some ⟨sb, 0, none⟩)) (.slice A F.length fc)) (fun a _ => F.length - (intOf (a.tmps.getD 14 undef)).toNat) ⟨0, Nat.zero_le _, h0, by (refine ⟨rfl, rfl, ?_⟩; repeat (first | exact trivial | refine ⟨rfl, ?_⟩))⟩ ?_
  clear h0 c1
  rintro a wr ⟨i, hi, hJ, hfr⟩
  obtain ⟨u, rfl⟩ := hfr.open
  clear hfr
  have HJ := Lib.hid hJ; clear hJ
  generalize hmu : F.length - (intOf ((⟨frL 43 _ u, []⟩ : Act).tmps.getD 14 undef)).toNat = mu
  have hmu' : F.length - i = mu := by rw [← hmu]; rfl
  clear hmu
  show Code.wpIn Fence.wide 3 Tryz.prog (.seq (Tryz.f68.sub [1, 0, 0, 0]) (.seq (Tryz.f68.sub [1, 0, 0, 1, 0]) (.seq (.block 1 (.seq (Tryz.f68.sub [1, 0, 0, 1, 1, 0, 0, 0]) (.seq (Tryz.f68.sub [1, 0, 0, 1, 1, 0, 0, 1, 0]) (.block 2 (.loop (Tryz.f68.sub [1, 0, 0, 1, 1, 0, 0, 1, 1, 0, 0])))))) (Tryz.f68.sub [1, 0, 0, 1, 1, 1])))) _ ⟨#[.func (.yield l) #[] #[], .pointer (some ⟨fb, 0, none⟩), .pointer (some ⟨gb, 0, none⟩), .pointer (some ⟨sb, 0, none⟩), (u 4), (u 5), (u 6), (u 7), (u 8), (u 9), (u 10), (u 11), .slice A F.length fc, .int .i64 F.length, .int .i64 i, (u 15), (u 16), (u 17), (u 18), (u 19), (u 20), (u 21), (u 22), (u 23), (u 24), (u 25), (u 26), (u 27), (u 28), (u 29), (u 30), (u 31), (u 32), (u 33), (u 34), (u 35), (u 36), (u 37), (u 38), (u 39), (u 40), (u 41), (u 42)], []⟩ _
  refine wpIn_seq ?_
  conv => arg 4; whnf
  dsimp only
  by_cases hlt : i < F.length
  · gi_wp2_with fail
    conv => arg 4; whnf
    gi_wp2_with fail
    obtain ⟨b, o, hA, hc⟩ := (HS.out _ _ HJ.out).2.2.2.1 i hlt
    obtain ⟨x0, x1⟩ := HF.out i hlt
    obtain ⟨x, hx⟩ : ∃ x : Nat, gi F i = (x : Int) := ⟨(gi F i).toNat, by omega⟩
    rw [hx] at hc
    have HX := Lib.hid hx; clear hx x0 x1
    subst hA
    have hil : (i : Int) < F.length := by omega
    conv => arg 4; whnf
    gi_wp2_with fail
    conv => arg 4; whnf
    gi_wp2_with fail
    rename_i K5 hK5 Q6
    refine wpIn_loop (LoopS F J (.func (.yield l) #[] #[]) (.pointer (some ⟨fb, 0, none⟩)) (.pointer (some ⟨gb, 0, none⟩)) (.pointer (some ⟨sb, 0, none⟩)) (.slice (some ⟨b, o, none⟩) F.length fc) i x) (fun a _ => 2 - (intOf (a.tmps.getD 19 undef)).toNat) ⟨0, Nat.zero_le _, HJ.out, by (refine ⟨rfl, rfl, ?_⟩; repeat (first | exact trivial | refine ⟨rfl, ?_⟩))⟩ ?_
    clear HJ hc
    rintro a wr2 ⟨si, hsi, hJ2, hfr2⟩
    obtain ⟨u2, rfl⟩ := hfr2.open
    clear hfr2
    have HJ2 := Lib.hid hJ2; clear hJ2
    generalize hmu2 : 2 - (intOf ((⟨frL 43 _ u2, []⟩ : Act).tmps.getD 19 undef)).toNat = mu2
    have hmu2' : 2 - si = mu2 := by rw [← hmu2]; rfl
    clear hmu2
    show Code.wpIn Fence.wide 3 Tryz.prog (.seq (Tryz.f68.sub [1, 0, 0, 1, 1, 0, 0, 1, 1, 0, 0, 0]) (.seq (Tryz.f68.sub [1, 0, 0, 1, 1, 0, 0, 1, 1, 0, 0, 1, 0]) (.seq (.block 3 (Tryz.f68.sub [1, 0, 0, 1, 1, 0, 0, 1, 1, 0, 0, 1, 1, 0, 0])) (Tryz.f68.sub [1, 0, 0, 1, 1, 0, 0, 1, 1, 0, 0, 1, 1, 1])))) _ ⟨#[.func (.yield l) #[] #[], .pointer (some ⟨fb, 0, none⟩), .pointer (some ⟨gb, 0, none⟩), .pointer (some ⟨sb, 0, none⟩), (u2 4), (u2 5), .int .i64 x, (u2 7), (u2 8), (u2 9), (u2 10), (u2 11), .slice (some ⟨b, o, none⟩) F.length fc, .int .i64 F.length, .int .i64 i, (u2 15), (u2 16), (u2 17), .agg #[.int .i64 1, .int .i64 (-1)], .int .i64 si, (u2 20), (u2 21), (u2 22), (u2 23), (u2 24), (u2 25), (u2 26), (u2 27), (u2 28), (u2 29), (u2 30), (u2 31), (u2 32), (u2 33), (u2 34), (u2 35), (u2 36), (u2 37), (u2 38), (u2 39), (u2 40), (u2 41), (u2 42)], []⟩ _
    refine wpIn_seq ?_
    conv => arg 4; whnf
    dsimp only
    by_cases hlt2 : si < 2
    · have d2 : (si : Int) < 2 := by omega
      gi_wp2_with fail
      conv => arg 4; whnf
      gi_wp2_with fail
      obtain ⟨t1, t2, t3, t4, t5⟩ := HS.out _ _ HJ2.out
      have hxm : x < t.pr.length := by have := HF.out i hlt; rw [HX.out] at this; omega
      obtain ⟨b5, o5, hP5, p0, p1⟩ := t5 x (by rw [prs_len]; exact hxm)
      rw [hP5] at t2
      have hyy := HY.out (2 * i + si)
      have HP5 := Lib.hid hP5; clear hP5
      have e1 : (2 * i + si) % 2 = si := by omega
      have e2 : (2 * i + si) / 2 = i := by omega
      have e3 : (gi F i).toNat = x := by rw [HX.out]; omega
      unfold stA stB sgn at hyy
      rw [e1, e2, e3] at hyy
      have HYY := Lib.hid hyy; clear hyy e1 e2 e3
      rename_i K7 hK7
      refine from1_step (R := J (2 * i + si + 1)) (sg := if si = 0 then 1 else -1) (by
        have : si = 0 ∨ si = 1 := by omega
        rcases this with rfl | rfl <;> simp) hxm HO.out.m_le t2 t3 p0 p1 (fun W' hB => ?_) ?_
      · have h := HYY.out W' (by omega) (HK.out _ _ _ HJ2.out hB)
        have : si = 0 ∨ si = 1 := by omega
        rcases this with rfl | rfl
        · simpa using h
        · simpa using h
      · intros
        rename_i w3 hJ3
        have HJ3 := Lib.hid hJ3; clear hJ3
        refine hK7 _ _ ?_
        conv => arg 4; whnf
        gi_wp2_with fail
        refine ⟨⟨si + 1, by omega, HJ3.out, by (refine ⟨rfl, rfl, ?_⟩; repeat (first | exact trivial | refine ⟨rfl, ?_⟩))⟩, ?_⟩
        show 2 - ((si : Int) + 1).toNat < mu2
        omega
    · have d2 : ¬ (si : Int) < 2 := by omega
      obtain rfl : si = 2 := by omega
      gi_wp2_with fail
      conv => arg 4; whnf
      gi_wp2_with fail
      conv => arg 4; whnf
      gi_wp2_with fail
      refine ⟨⟨i + 1, by omega, ?_, by (refine ⟨rfl, rfl, ?_⟩; repeat (first | exact trivial | refine ⟨rfl, ?_⟩))⟩, ?_⟩
      · have := HJ2.out
        rwa [show 2 * (i + 1) = 2 * i + 2 by omega]
      · show F.length - ((i : Int) + 1).toNat < mu
        omega
  · gi_wp2_with fail
    conv => arg 4; whnf
    gi_wp2_with fail
    go_end0
    obtain rfl : i = F.length := by omega
    exact ⟨⟨_, rfl⟩, HJ.out⟩
theorem slen_tail {A B : Nat} {df ds bf bs z : Int} {w0 w : World} {u0 u1 u2 u3 u4 u5 u8 u9 u10 u11 u12 u13 u14 u15 u16 u17 u18 u19 u20 u21 u22 u23 u24 u25 u26 u27 u28 u29 u30 u31 u32 u33 u34 u35 u36 u37 u38 u39 u40 : Value} (hd : 0 ≤ df ∧ df ≤ 100000 ∧ 0 ≤ ds ∧ ds ≤ 100000 ∧ -100000 ≤ bf ∧ bf ≤ 100000 ∧ -100000 ≤ bs ∧ bs ≤ 100000) (hz : z = ab (df - ds) + ab (bf - bs)) (hB : Below w0.heap.size w0 w)
    (a1 : w.cell? ⟨A, 1, none⟩ = some (.int .i64 df)) (a2 : w.cell? ⟨A, 2, none⟩ = some (.int .i64 bf)) (e1 : w.cell? ⟨B, 1, none⟩ = some (.int .i64 ds)) (e2 : w.cell? ⟨B, 2, none⟩ = some (.int .i64 bs)) :
    Code.wp Tryz.prog (Tryz.f66.sub [1, 1, 1]) (bodyPost Tryz.prog Tryz.f66 (fun e w' => e = .returned (.int .i64 z) ∧ Below w0.heap.size w0 w')) ⟨#[u0, u1, u2, u3, u4, u5, .pointer (some ⟨A, 0, none⟩), .pointer (some ⟨B, 0, none⟩), u8, u9, u10, u11, u12, u13, u14, u15, u16, u17, u18, u19, u20, u21, u22, u23, u24, u25, u26, u27, u28, u29, u30, u31, u32, u33, u34, u35, u36, u37, u38, u39, u40], []⟩ w := by
  conv => arg 2; whnf
  obtain ⟨d1, d2, d3, d4, d5, d6, d7, d8⟩ := hd
  have k0 : 0 ≤ ab (df - ds) ∧ ab (df - ds) ≤ 100000 := by unfold ab; omega
  have k1 : 0 ≤ ab (bf - bs) ∧ ab (bf - bs) ≤ 200000 := by unfold ab; omega
  have K0 := ssize_c (df - ds) (by omega)
  have K1 := ssize_c (bf - bs) (by omega)
  generalize ab (df - ds) = X at *
  generalize ab (bf - bs) = Y at *
  have HK0 := Lib.hid K0; clear K0
  have HK1 := Lib.hid K1; clear K1
  have HZ := Lib.hid hz; clear hz
  have HB := Lib.hid hB; clear hB
  obtain ⟨x1, x2⟩ := k0
  obtain ⟨y1, y2⟩ := k1
  have j1 : IntKind.i64.wrap (df - ds) = df - ds := IntWalk.i64_in _ (by omega)
  have j2 : IntKind.i64.wrap (bf - bs) = bf - bs := IntWalk.i64_in _ (by omega)
  have j3 : IntKind.i64.wrap (X + Y) = X + Y := IntWalk.i64_in _ (by omega)
  go_wp2_with fail
  go_quiet ((go_at_call 79; exact Calls.quiet_of_same (by first | (refine (HK0.out _).mono ?_; rintro e w' ⟨rfl, rfl⟩; exact ⟨rfl, rfl⟩) | (refine (HK1.out _).mono ?_; rintro e w' ⟨rfl, rfl⟩; exact ⟨rfl, rfl⟩))))
  go_wp2_with fail
  go_ret
  exact ⟨ret_i HZ.out.symm, below_drewN HB.out _⟩
end Go.Proofs.YtjnpchoinncbnaaGreat
end
