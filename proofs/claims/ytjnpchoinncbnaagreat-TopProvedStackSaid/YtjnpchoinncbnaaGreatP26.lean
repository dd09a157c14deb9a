/- Proves parts of the statement, each under the conditions that its theorem states: The phases spread: one phase is written; The phases spread: one step; The phases spread: a round; The phases spread: the contract. -/
import Derived.Test.YtjnpchoinncbnaaGreatP25
import Derived.Test.YtjnpchoinncbnaaGreatP12
set_option linter.unusedSimpArgs false
set_option linter.unusedVariables false
set_option maxHeartbeats 4000000
set_option maxRecDepth 100000
section
namespace Go.Proofs.YtjnpchoinncbnaaGreat
open Go.RowKit Sw Fam
theorem spr_put {m L oc pc sb xb ob hb ho n k ch to sc i : Nat} {v6 : Value} {sg u y : Int} {out : List Int} {W : World} {Q : Exit → Act → World → Prop} {u0 u1 u2 u3 u10 u11 u12 u13 u14 u15 u16 u17 u18 u19 u20 u21 u22 u23 u24 u25 u26 u27 u28 u29 u30 u31 u32 u33 u34 u35 u36 u37 u38 u39 u40 u41 u42 : Value}
    (hsg : sg = 1 ∨ sg = -1) (hO : IntB W ob out) (hn : out.length = n) (hn2 : n ≤ 60) (ht : to < n) (hs : sc < n) (hi : i < k) (hk : k ≤ 200) (hu : gi out sc = u) (ub : -1000000000000 ≤ u ∧ u ≤ 1000000000000) (yb : -10000000000 ≤ y ∧ y ≤ 10000000000)
    (c4 : W.cell? ⟨oc, 0, none⟩ = some (.slice (some ⟨ob, 0, none⟩) n n)) (c5 : W.cell? ⟨pc, 0, none⟩ = some (.slice (some ⟨hb, ho, none⟩) k ch)) (c7 : W.cell? ⟨sb, 0, none⟩ = some (.int .i64 sc))
    (x0 : W.cell? ⟨xb, 0, none⟩ = some (.int .i64 i)) (x1 : W.cell? ⟨xb, 1, none⟩ = some (.int .i64 sg)) (hy : W.cell? ⟨hb, ho + i, none⟩ = some (.int .i64 y))
    (hQ : ∀ a q, FrD 43 [] [(6, v6), (9, .int .i64 to)] a → Q .normal a ((W.drewN q).setCell ⟨ob, to, none⟩ (.int .i64 (u + sg * y)))) :
    Code.wpIn (Fence.wide.inRound L) m Tryz.prog (Tryz.f43.sub [1, 1, 1, 0, 1, 0, 1, 0, 0]) Q ⟨#[u0, u1, u2, u3, .pointer (some ⟨oc, 0, none⟩), .pointer (some ⟨pc, 0, none⟩), v6, .pointer (some ⟨sb, 0, none⟩), .pointer (some ⟨xb, 0, none⟩), .int .i64 to, u10, u11, u12, u13, u14, u15, u16, u17, u18, u19, u20, u21, u22, u23, u24, u25, u26, u27, u28, u29, u30, u31, u32, u33, u34, u35, u36, u37, u38, u39, u40, u41, u42], []⟩ W := by
  have HQ := Lib.hid hQ; clear hQ
  have oc1 := hO.cell (j := sc) (by rw [hn]; exact hs)
  rw [hu] at oc1
  have ot := hO.cell (j := to) (by rw [hn]; exact ht)
  have of := hO.frozen to
  have HO := Lib.hid (And.intro hO (And.intro hn hu)); clear hO hn hu
  obtain ⟨u1, u2⟩ := ub
  obtain ⟨y1, y2⟩ := yb
  have hil : (i : Int) < k := by omega
  conv => arg 4; whnf
  dsimp only
  rcases hsg with rfl | rfl
  all_goals
    refine regionIn_last (.inr ⟨_, rfl⟩) (by kernel_rfl) (by kernel_rfl) (by kernel_rfl) cut_last (by kernel_rfl) (by kernel_rfl) (by kernel_rfl) ?_
    dsimp only [List.dropLast, List.getLast]
    repeat (go_big_quiet_step (fail))
    refine wpQuiet_nil ?_
  · refine ⟨fun w => w.setCell ⟨ob, to, none⟩ (.int .i64 (u + 1 * y)), fun q => ?_, fun q => ?_⟩
    · unfold execOp
      go_simp
    exact HQ.out _ _ (by (refine ⟨rfl, rfl, ?_⟩; repeat (first | exact trivial | refine ⟨rfl, ?_⟩)))
  · refine ⟨fun w => w.setCell ⟨ob, to, none⟩ (.int .i64 (u + -1 * y)), fun q => ?_, fun q => ?_⟩
    · unfold execOp
      go_simp
    exact HQ.out _ _ (by (refine ⟨rfl, rfl, ?_⟩; repeat (first | exact trivial | refine ⟨rfl, ?_⟩)))
attribute [local go_sem] Oper.semAt_some
structure SpL where
  kc : Nat
  gb : Nat
  fc : Nat
  oc : Nat
  pc : Nat
  sp : Nat
  kb : Nat
  ob : Nat
  A : Option Addr
  H : Option Addr
  ca : Nat
  ch : Nat
def spA (z : SpL) : List Value := [.pointer (some ⟨z.kc, 0, none⟩), .pointer (some ⟨z.gb, 0, none⟩), .pointer (some ⟨z.fc, 0, none⟩), .pointer (some ⟨z.oc, 0, none⟩), .pointer (some ⟨z.pc, 0, none⟩), .pointer (some ⟨z.sp, 0, none⟩)]
structure SpM (w : World) (t : Sk) (l : SkL) (z : SpL) (F ph : List Int) : Prop where
  ck : w.cell? ⟨z.kc, 0, none⟩ = some (.slice (some ⟨z.kb, 0, none⟩) t.sc.length t.sc.length)
  co : w.cell? ⟨z.oc, 0, none⟩ = some (.slice (some ⟨z.ob, 0, none⟩) t.sc.length t.sc.length)
  cg : w.heap[z.gb]? = some (.cells #[.slice l.S t.sc.length l.cs, .slice l.P t.pr.length l.cp] 66 (0, 0))
  cf : w.cell? ⟨z.fc, 0, none⟩ = some (.slice z.A F.length z.ca)
  cp : w.cell? ⟨z.pc, 0, none⟩ = some (.slice z.H ph.length z.ch)
  cs : w.cell? ⟨z.sp, 0, none⟩ = some (.func (.func 43) #[] (spA z).toArray)
  rF : RdI w z.A F
  rH : RdI w z.H ph
  rP : RdQ w l.P (prs t)
  ne : z.kc ∉ [z.kb, z.ob] ∧ z.gb ∉ [z.kb, z.ob] ∧ z.fc ∉ [z.kb, z.ob] ∧ z.oc ∉ [z.kb, z.ob] ∧ z.pc ∉ [z.kb, z.ob] ∧ z.sp ∉ [z.kb, z.ob] ∧ z.kb ≠ z.ob
  nA : ∀ b o, 0 < F.length → z.A = some ⟨b, o, none⟩ → b ∉ [z.kb, z.ob]
  nH : ∀ b o, 0 < ph.length → z.H = some ⟨b, o, none⟩ → b ∉ [z.kb, z.ob]
  nP : ∀ b o, 0 < (prs t).length → l.P = some ⟨b, o, none⟩ → b ∉ [z.kb, z.ob]
section
variable {w w' : World} {t : Sk} {l : SkL} {z : SpL} {F ph : List Int}
theorem SpM.keep (h : SpM w t l z F ph) (k : Tch [z.kb, z.ob] w w') : SpM w' t l z F ph :=
  ⟨k.cell h.ne.1 h.ck, k.cell h.ne.2.2.2.1 h.co, (k.block _ (Array.getElem?_eq_some_iff.1 h.cg).1 h.ne.2.1).trans h.cg, k.cell h.ne.2.2.1 h.cf, k.cell h.ne.2.2.2.2.1 h.cp, k.cell h.ne.2.2.2.2.2.1 h.cs,
   fun j hj => by obtain ⟨b, o, h1, h2⟩ := h.rF j hj; exact ⟨b, o, h1, k.cell (h.nA b o (by omega) h1) h2⟩,
   fun j hj => by obtain ⟨b, o, h1, h2⟩ := h.rH j hj; exact ⟨b, o, h1, k.cell (h.nH b o (by omega) h1) h2⟩,
   fun j hj => by obtain ⟨b, o, h1, h2, h3⟩ := h.rP j hj; exact ⟨b, o, h1, k.cell (h.nP b o (by omega) h1) h2, k.cell (h.nP b o (by omega) h1) h3⟩, h.ne, h.nA, h.nH, h.nP⟩
end
def SpPost (t : Sk) (z : SpL) (F : List Int) (p : Nat → Int) (M : Int) (sc : Nat) (kn : List Bool) (W : World) (e : Ending) (W' : World) : Prop :=
  (∃ r, e = .returned r) ∧ ∃ kn' out', Tch [z.kb, z.ob] W W' ∧ BoolB W' z.kb kn' ∧ IntB W' z.ob out' ∧ DP t.sc.length M p (prs t) F sc kn kn' out'
def SpC (t : Sk) (l : SkL) (z : SpL) (F ph : List Int) (p : Nat → Int) (M : Int) (N : Nat) : Prop := ∀ (W : World) (kn : List Bool) (out : List Int) (sc : Nat),
  t.sc.length ≤ cnt kn + N → SpM W t l z F ph → BoolB W z.kb kn → IntB W z.ob out → sc < t.sc.length → DS t.sc.length M p sc kn out →
  Calls Tryz.prog 43 (#[.int .i64 sc] ++ (spA z).toArray) W (SpPost t z F p M sc kn W)
structure StepOk (t : Sk) (F ph : List Int) (p : Nat → Int) (M : Int) : Prop where
  m0 : 0 ≤ M
  m1 : M ≤ 10000000000
  fr : ∀ j, j < F.length → 0 ≤ gi F j ∧ gi F j < t.pr.length
  fl : F.length ≤ 200
  hl : ph.length = t.pr.length
  bd : ∀ i, i < t.pr.length → -M ≤ gi ph i ∧ gi ph i ≤ M
  eq : ∀ k, k < 2 * F.length → p (stB (prs t) F k) = p (stA (prs t) F k) + sgn k * gi ph (gi F (k / 2)).toNat
structure SpJ (W1 : World) (t : Sk) (l : SkL) (z : SpL) (F ph : List Int) (p : Nat → Int) (M : Int) (sc : Nat) (kn0 : List Bool) (sb N L : Nat) (rec : Loop) (k : Nat) (kn : List Bool) (out : List Int) (W : World) : Prop where
  tch : Tch [z.kb, z.ob] W1 W
  hk : BoolB W z.kb kn
  ho : IntB W z.ob out
  dj : DJ t.sc.length M p (prs t) F sc k kn0 kn out
  g0 : W.heap[N]? = some (.cells #[.slice l.S t.sc.length l.cs, .slice l.P t.pr.length l.cp] 66 (0, 0))
  g1 : W.cell? ⟨N + 1, 0, none⟩ = some (.int .i64 sc)
  g2 : W.cell? ⟨N + 2, 0, none⟩ = some (.slice z.A F.length z.ca)
  gs : W.cell? ⟨sb, 0, none⟩ = some (.int .i64 sc)
  gl : W.heap[L]? = some (.loop rec)
  gd : W.heap[N + 3]? = some (.deferred (some []))
theorem SpJ.keep {W1 : World} {t : Sk} {l : SkL} {z : SpL} {F ph : List Int} {p : Nat → Int} {M : Int} {sc : Nat} {kn0 : List Bool} {sb N L : Nat} {rec : Loop} {k : Nat} {kn : List Bool} {out : List Int} {W W' : World} (h : SpJ W1 t l z F ph p M sc kn0 sb N L rec k kn out W) (hb : Below W.heap.size W W') : SpJ W1 t l z F ph p M sc kn0 sb N L rec k kn out W' :=
  ⟨h.tch.trans (Tch.of_below hb), FlB.keep h.hk hb, h.ho.keep hb, h.dj, (hb.block _ (Array.getElem?_eq_some_iff.1 h.g0).1).trans h.g0, cell_keep hb h.g1, cell_keep hb h.g2, cell_keep hb h.gs, (hb.block _ (Array.getElem?_eq_some_iff.1 h.gl).1).trans h.gl, (hb.block _ (Array.getElem?_eq_some_iff.1 h.gd).1).trans h.gd⟩
theorem roundS_of {l i to : Nat} {sg : Int} {W : World} {R : World → Prop} {rec : Loop} {tm : Array Value} {k1 k2 : Nat} (h : W.heap[l]? = some (.loop rec)) (hp : rec.params = #[k1, k2]) (ht : (rec.tmps.setIfInBounds k1 (.agg #[.int .i64 i, .int .i64 sg])).setIfInBounds k2 (.int .i64 to) = tm)
    (hr : ∀ m, RoundIn Fence.wide m Tryz.prog l rec.fn tm rec.assign rec.body W (fun e W' => e = .returned (.bool true) ∧ R W')) : RoundS l i sg to W R := by
  refine ⟨rec, h, by rw [hp]; rfl, fun m => ?_⟩
  rw [hp]
  have : ((#[k1, k2].zip #[Value.agg #[.int .i64 i, .int .i64 sg], .int .i64 to]).foldl (fun tmps (t, a) => tmps.setIfInBounds t a) rec.tmps) = tm := by rw [← ht]; simp
  rw [this]
  exact hr m
attribute [local go_sem] Oper.semAt_some
theorem spr_round {t : Sk} {l : SkL} {z : SpL} {F ph : List Int} {p : Nat → Int} {M : Int} {Nn : Nat} (IH : SpC t l z F ph p M Nn) (ho : NetOk t) (hS : StepOk t F ph p M) {W1 : World} (hM : SpM W1 t l z F ph) {sc : Nat} (hsc : sc < t.sc.length) {kn0 kn : List Bool} {out : List Int} {sb N L k fn D : Nat} {W : World} {u0 u8 u9 u10 u11 u12 u13 u14 u15 u16 u17 u18 u19 u20 u21 u22 u23 u24 u25 u26 u27 u28 u29 u30 u31 u32 u33 u34 u35 u36 u37 u38 u39 u40 u41 u42 : Value}
    (hkb : z.kb < W1.heap.size ∧ z.ob < W1.heap.size) (hc : t.sc.length ≤ cnt kn0 + Nn + 1) (hu0 : gb kn0 sc = false) (hl0 : kn0.length = t.sc.length) (hk : k < 2 * F.length) (hA : stA (prs t) F k = sc) (hlt : W1.heap.size ≤ sb ∧ W1.heap.size ≤ N ∧ W1.heap.size ≤ L ∧ sb ≠ L ∧ N + 3 < L)
    (hJ : SpJ W1 t l z F ph p M sc kn0 sb N L (recOf fn #[u0, .pointer (some ⟨z.kc, 0, none⟩), .pointer (some ⟨z.gb, 0, none⟩), .pointer (some ⟨z.fc, 0, none⟩), .pointer (some ⟨z.oc, 0, none⟩), .pointer (some ⟨z.pc, 0, none⟩), .pointer (some ⟨z.sp, 0, none⟩), .pointer (some ⟨sb, 0, none⟩), u8, u9, u10, u11, u12, u13, u14, u15, u16, u17, u18, u19, u20, u21, u22, u23, u24, u25, u26, u27, u28, u29, u30, u31, u32, u33, u34, u35, u36, u37, u38, u39, u40, u41, u42] #[17, 18] (Tryz.f43.sub [1, 1, 1, 0, 0]) (Tryz.f43.sub [1, 1, 1, 0, 1]) D .ready) k kn out W) :
    RoundS L (gi F (k / 2)).toNat (sgn k) (stB (prs t) F k) W (fun W' => ∃ kn' out', SpJ W1 t l z F ph p M sc kn0 sb N L (recOf fn #[u0, .pointer (some ⟨z.kc, 0, none⟩), .pointer (some ⟨z.gb, 0, none⟩), .pointer (some ⟨z.fc, 0, none⟩), .pointer (some ⟨z.oc, 0, none⟩), .pointer (some ⟨z.pc, 0, none⟩), .pointer (some ⟨z.sp, 0, none⟩), .pointer (some ⟨sb, 0, none⟩), u8, u9, u10, u11, u12, u13, u14, u15, u16, u17, u18, u19, u20, u21, u22, u23, u24, u25, u26, u27, u28, u29, u30, u31, u32, u33, u34, u35, u36, u37, u38, u39, u40, u41, u42] #[17, 18] (Tryz.f43.sub [1, 1, 1, 0, 0]) (Tryz.f43.sub [1, 1, 1, 0, 1]) D .ready) (k + 1) kn' out' W') := by
  have hsgn : sgn k = 1 ∨ sgn k = -1 := by unfold sgn; split <;> simp
  obtain ⟨f1, f2⟩ := hS.fr (k / 2) (by omega)
  obtain ⟨i, hi⟩ : ∃ i : Nat, (gi F (k / 2)).toNat = i := ⟨_, rfl⟩
  have him : i < t.pr.length := by omega
  obtain ⟨q1, q2, q3⟩ := prs_lt ho him
  have hto : stB (prs t) F k < t.sc.length := by unfold stB; rw [hi]; split <;> assumption
  have hpe := hS.eq k hk
  rw [hA, hi] at hpe
  obtain ⟨y1, y2⟩ := hS.bd i him
  have hFin : ∀ j, j < 2 * F.length → stB (prs t) F j < t.sc.length := fun j hj => by
    obtain ⟨f1, f2⟩ := hS.fr (j / 2) (by omega)
    obtain ⟨q1, q2, q3⟩ := prs_lt ho (i := (gi F (j / 2)).toNat) (by omega)
    unfold stB; split <;> assumption
  have hDJ := hJ.dj
  have hent := fun (hu : gb kn (stB (prs t) F k) = false) => hDJ.enter hS.m0 hsc hto hu hpe (by rcases hsgn with e | e <;> (rw [e]; omega))
  have haft := fun (kn' : List Bool) (out' : List Int) (h : DP t.sc.length M p (prs t) F (stB (prs t) F k) kn kn' out') => hDJ.after hA hsc hFin hk h
  have hskip := fun (hu : gb kn (stB (prs t) F k) = true) => hDJ.skip (k := k) (fun _ => hu)
  have hcn : t.sc.length ≤ cnt kn + Nn := by
    have h1 := cnt_set kn0 sc (by rw [hl0]; exact hsc) hu0
    have h2 := cnt_mono (d := kn0.set sc true) (e := kn) (by rw [List.length_set, hl0, hDJ.di.lk]) (fun v hv hg => by
      rw [List.length_set, hl0] at hv
      rw [gb_put _ _ _ (by rw [hl0]; exact hsc)] at hg
      by_cases e : sc = v
      · subst e; exact hDJ.own
      · rw [if_neg e] at hg; exact hDJ.mono v hv hg)
    omega
  obtain ⟨v1, v2, v3⟩ := hDJ.di.val sc hsc hDJ.own
  have hcl := cnt_le kn
  rw [hDJ.di.lk] at hcl
  have hub : -1000000000000 ≤ gi out sc ∧ gi out sc ≤ 1000000000000 := by
    have h60 := ho.n_le
    have hm0 := hS.m0
    have hm1 := hS.m1
    have : M * (cnt kn : Int) ≤ 10000000000 * 60 := Int.mul_le_mul hm1 (by omega) (by omega) (by omega)
    omega
  have hlk := hDJ.di.lk
  have hlo := hDJ.di.lo
  clear hDJ
  obtain ⟨to, hTo⟩ : ∃ to, stB (prs t) F k = to := ⟨_, rfl⟩
  obtain ⟨sg, hSg⟩ : ∃ sg, sgn k = sg := ⟨_, rfl⟩
  rw [hTo] at hto hpe hent haft hskip ⊢
  rw [hSg] at hsgn hpe hent ⊢
  rw [hi]
  have HENT := Lib.hid hent; clear hent
  have HAFT := Lib.hid haft; clear haft
  have HSKIP := Lib.hid hskip; clear hskip
  have HS := Lib.hid hS; clear hS
  have HM := Lib.hid hM; clear hM
  have HJ := Lib.hid hJ
  have HI := Lib.hid IH; clear IH
  have HX := Lib.hid (And.intro hcn (And.intro hub (And.intro hlk (And.intro hlo (And.intro hl0 (And.intro ho hcl)))))); clear hcn hub hlk hlo hl0 hcl hc
  clear hFin hpe hTo hSg hi v1 v2 v3 f1 f2 q1 q2 q3
  refine roundS_of (tm := #[u0, .pointer (some ⟨z.kc, 0, none⟩), .pointer (some ⟨z.gb, 0, none⟩), .pointer (some ⟨z.fc, 0, none⟩), .pointer (some ⟨z.oc, 0, none⟩), .pointer (some ⟨z.pc, 0, none⟩), .pointer (some ⟨z.sp, 0, none⟩), .pointer (some ⟨sb, 0, none⟩), u8, u9, u10, u11, u12, u13, u14, u15, u16, .agg #[.int .i64 i, .int .i64 sg], .int .i64 to, u19, u20, u21, u22, u23, u24, u25, u26, u27, u28, u29, u30, u31, u32, u33, u34, u35, u36, u37, u38, u39, u40, u41, u42]) hJ.gl rfl rfl (fun m => ?_)
  clear hJ
  refine roundIn_of_wpIn trivial ?_
  show Code.wpIn (Fence.wide.inRound L) m Tryz.prog (Tryz.f43.sub [1, 1, 1, 0, 0]) (Exit.then (fun a₁ w₁ => ∃ w₂, (Instr.beginRound L).run Tryz.prog w₁ = .ok () w₂ ∧ (Tryz.f43.sub [1, 1, 1, 0, 1]).wpIn (Fence.wide.inRound L) m Tryz.prog (roundPost Tryz.prog L _) a₁ w₂) (fun _ _ _ => False)) _ _
  conv => arg 4; whnf
  dsimp only
  obtain ⟨rec, hrec⟩ : ∃ rec, rec = recOf fn #[u0, .pointer (some ⟨z.kc, 0, none⟩), .pointer (some ⟨z.gb, 0, none⟩), .pointer (some ⟨z.fc, 0, none⟩), .pointer (some ⟨z.oc, 0, none⟩), .pointer (some ⟨z.pc, 0, none⟩), .pointer (some ⟨z.sp, 0, none⟩), .pointer (some ⟨sb, 0, none⟩), u8, u9, u10, u11, u12, u13, u14, u15, u16, u17, u18, u19, u20, u21, u22, u23, u24, u25, u26, u27, u28, u29, u30, u31, u32, u33, u34, u35, u36, u37, u38, u39, u40, u41, u42] #[17, 18] (Tryz.f43.sub [1, 1, 1, 0, 0]) (Tryz.f43.sub [1, 1, 1, 0, 1]) D .ready := ⟨_, rfl⟩
  rw [← hrec] at HJ
  simp only [← hrec]
  have hst : rec.state = .ready ∧ rec.pending = none := by rw [hrec]; exact ⟨rfl, rfl⟩
  have HST := Lib.hid hst
  clear hst hrec
  gi_wp2_with fail
  obtain ⟨W2, hW2⟩ : ∃ W2, W.alloc (.cells #[.int .i64 i, .int .i64 sg] 95) = W2 := ⟨_, rfl⟩
  have llt : L < W.heap.size := (Array.getElem?_eq_some_iff.1 HJ.out.gl).1
  have hL2 : W2.heap[L]? = some (.loop rec) := by rw [← hW2]; exact (Below.heap_alloc _ _ _ llt).trans HJ.out.gl
  have hbr := run_beginRound (P := Tryz.prog) hL2 HST.out.1
  refine ⟨_, by rw [← hW2] at hbr; exact hbr, ?_⟩
  rw [hW2]
  refine nameW ?_
  intro W3 hW3
  have hT3 : Tch [L] W W3 := by rw [hW3, ← hW2]; exact ((Tch.refl _ _).alloc _).put (.inl (by simp)) _
  have hX3 : W3.heap[W.heap.size]? = some (.cells #[.int .i64 i, .int .i64 sg] 95 (0, 0)) := by
    rw [hW3, ← hW2]; exact (World.putObj_heap_other (by omega)).trans (heap_alloc_new W _)
  have hL3 : W3.heap[L]? = some (.loop { rec with state := .busy }) := by rw [hW3]; exact World.putObj_heap_same (Array.getElem?_eq_some_iff.1 hL2).1
  clear hW2 hW3 hL2 hbr
  obtain ⟨l1, l2, l3, l4, l5⟩ := hlt
  have ltW := HJ.out.tch.size
  have hT13 : Tch [z.kb, z.ob] W1 W3 := ((HJ.out.tch.mono (S' := [z.kb, z.ob, L]) (fun b hb => .inl (by simp at hb ⊢; omega))).trans (hT3.mono (fun b hb => .inl (by simp at hb ⊢; omega)))).mono (fun b hb => by
    simp at hb ⊢; omega)
  have hM3 := HM.out.keep hT13
  have hk3 : BoolB W3 z.kb kn := (hT3.block _ (FlB.lt HJ.out.hk) (by simp; omega)).trans HJ.out.hk
  have ho3 : IntB W3 z.ob out := (hT3.block _ HJ.out.ho.lt (by simp; omega)).trans HJ.out.ho
  have n0 : W3.heap[N]? = some (.cells #[.slice l.S t.sc.length l.cs, .slice l.P t.pr.length l.cp] 66 (0, 0)) := (hT3.block _ (Array.getElem?_eq_some_iff.1 HJ.out.g0).1 (by simp; omega)).trans HJ.out.g0
  have n3 := (hT3.block _ (Array.getElem?_eq_some_iff.1 HJ.out.gd).1 (by simp; omega)).trans HJ.out.gd
  have n1 := hT3.cell (by simp; omega) HJ.out.g1
  have n2 := hT3.cell (by simp; omega) HJ.out.g2
  have ns := hT3.cell (by simp; omega) HJ.out.gs
  have ck := hM3.ck
  have kt := hk3.cell (j := to) (by rw [HX.out.2.2.1]; exact hto)
  have h60 := HX.out.2.2.2.2.2.1.n_le
  have fin : ∀ (a : Act) (W4 : World) kn' out', Tch [z.kb, z.ob] W3 W4 → BoolB W4 z.kb kn' → IntB W4 z.ob out' → DJ t.sc.length M p (prs t) F sc (k + 1) kn0 kn' out' →
      roundPost Tryz.prog L (fun e W' => e = .returned (.bool true) ∧ ∃ kn' out', SpJ W1 t l z F ph p M sc kn0 sb N L rec (k + 1) kn' out' W') .normal a W4 := by
    intro a W4 kn' out' h1 h2 h3 h4
    have hs := h1.size
    have h5 := (h1.block L (Array.getElem?_eq_some_iff.1 hL3).1 (by simp; omega)).trans hL3
    have h6 := run_endRound (P := Tryz.prog) none h5
    have hb : ∀ b, b ≠ L → (W4.putObj L (.loop { rec with state := .ready, pending := none })).heap[b]? = W4.heap[b]? := fun b h1 => World.putObj_heap_other h1
    have hc : ∀ (b o : Nat) v, b ≠ L → W4.cell? ⟨b, o, none⟩ = some v → (W4.putObj L (.loop { rec with state := .ready, pending := none })).cell? ⟨b, o, none⟩ = some v := fun b o v h1 h2 => (World.cell?_of_block (hb b h1)).trans h2
    refine ⟨_, _, h6, rfl, kn', out', ⟨?_, (hb _ (by omega)).trans h2, (hb _ (by omega)).trans h3, h4, ?_, hc _ _ _ (by omega) (h1.cell (by simp; omega) n1), hc _ _ _ (by omega) (h1.cell (by simp; omega) n2), hc _ _ _ (by omega) (h1.cell (by simp; omega) ns), ?_, (hb _ (by omega)).trans ((h1.block _ (Array.getElem?_eq_some_iff.1 n3).1 (by simp; omega)).trans n3)⟩⟩
    · exact (hT13.trans h1).put (.inr (by omega)) _
    · exact (hb _ (by omega)).trans ((h1.block _ (Array.getElem?_eq_some_iff.1 n0).1 (by simp; omega)).trans n0)
    · refine (World.putObj_heap_same (Array.getElem?_eq_some_iff.1 h5).1).trans ?_
      have h7 := HST.out
      obtain ⟨s1, s2, s3, s4, s5, s6, s7, s8⟩ := rec
      simp only at h7
      obtain ⟨h8, h9⟩ := h7
      subst h8 h9
      rfl
  have FIN := Lib.hid fin; clear fin
  have H3 := Lib.hid (And.intro hM3 (And.intro hk3 (And.intro ho3 hX3))); clear hM3 hk3 ho3 hX3 hT13 hL3 hT3 n0 n1 n2 n3
  clear HJ HM
  show Code.wpIn (Fence.wide.inRound L) m Tryz.prog (.block 1 (.seq (Tryz.f43.sub [1, 1, 1, 0, 1, 0, 0]) (.cond (.tmp 23) (.seq (Tryz.f43.sub [1, 1, 1, 0, 1, 0, 1, 0, 0]) (Tryz.f43.sub [1, 1, 1, 0, 1, 0, 1, 0, 1])) .skip))) _ _ _
  refine wpIn_block ?_
  refine wpIn_seq ?_
  conv => arg 4; whnf
  obtain ⟨bv, hbv⟩ : ∃ bv, gb kn to = bv := ⟨_, rfl⟩
  rw [hbv] at kt
  have HBV := Lib.hid hbv; clear hbv
  cases bv with
  | true =>
    gi_wp2_with fail
    exact FIN.out _ _ _ _ (Tch.refl _ _) H3.out.2.1 H3.out.2.2.1 (HSKIP.out HBV.out)
  | false =>
    gi_wp2_with fail
    have HENT2 := Lib.hid (HENT.out HBV.out); clear HENT
    obtain ⟨hb0, ho0, hH, y0⟩ := H3.out.1.rH i (by have := HS.out.hl; omega)
    have cp := H3.out.1.cp
    rw [hH] at cp
    have hm1 := HS.out.m1
    refine spr_put (v6 := .pointer (some ⟨z.sp, 0, none⟩)) hsgn H3.out.2.2.1 HX.out.2.2.2.1 h60 hto hsc (show i < ph.length by have := HS.out.hl; omega) (by have := HX.out.2.2.2.2.2.1.m_le; have := HS.out.hl; omega) rfl HX.out.2.1 (show _ ∧ _ by omega) H3.out.1.co cp ns (block_cell H3.out.2.2.2 (j := 0) (by simp)) (block_cell H3.out.2.2.2 (j := 1) (by simp)) y0 ?_
    intro a q hfr
    obtain ⟨u2, rfl⟩ := hfr.open
    clear hfr
    rename_i Q6 K5 hK5
    refine hK5 _ _ ?_
    clear hK5
    show Code.wpIn (Fence.wide.inRound L) m Tryz.prog (Tryz.f43.sub [1, 1, 1, 0, 1, 0, 1, 0, 1]) _ ⟨#[(u2 0), (u2 1), (u2 2), (u2 3), (u2 4), (u2 5), .pointer (some ⟨z.sp, 0, none⟩), (u2 7), (u2 8), .int .i64 to, (u2 10), (u2 11), (u2 12), (u2 13), (u2 14), (u2 15), (u2 16), (u2 17), (u2 18), (u2 19), (u2 20), (u2 21), (u2 22), (u2 23), (u2 24), (u2 25), (u2 26), (u2 27), (u2 28), (u2 29), (u2 30), (u2 31), (u2 32), (u2 33), (u2 34), (u2 35), (u2 36), (u2 37), (u2 38), (u2 39), (u2 40), (u2 41), (u2 42)], []⟩ _
    refine nameW ?_
    intro W4 hW4
    have hT34 : Tch [z.kb, z.ob] W3 W4 := by rw [hW4]; exact ((Tch.refl _ _).drewN q).set (.inl (by simp)) _
    have hk4 : BoolB W4 z.kb kn := by rw [hW4]; exact FlB.other (H3.out.2.1.drewN q) H3.out.1.ne.2.2.2.2.2.2 _
    have ho4 : IntB W4 z.ob (out.set to (gi out sc + sg * gi ph i)) := by rw [hW4]; exact (H3.out.2.2.1.drewN q).set (by rw [HX.out.2.2.2.1]; exact hto) _
    have hM4 := H3.out.1.keep hT34
    have HC := Lib.hid (HI.out W4 kn _ to HX.out.1 hM4 hk4 ho4 hto HENT2.out)
    have cs := hM4.cs
    unfold spA at cs HC
    have H4 := Lib.hid hT34
    clear hT34 hk4 ho4 hM4 hW4 cp y0 ns kt ck HI
    conv => arg 4; whnf
    dsimp only
    gi_wp2_with fail
    refine ⟨trivial, fun hh => by simp [Fence.wide] at hh, (CallsIn.inRound L (callsIn_wide.2 HC.out)).mono ?_⟩
    rintro e W5 ⟨⟨r, rfl⟩, kn', out', hT5, hk5, ho5, hP5⟩
    have H5 := Lib.hid (And.intro hT5 (And.intro hk5 (And.intro ho5 hP5))); clear hT5 hk5 ho5 hP5
    gi_wp2_with fail
    exact FIN.out _ _ _ _ (H4.out.trans H5.out.1) H5.out.2.1 H5.out.2.2.1 (HAFT.out _ _ H5.out.2.2.2)
theorem spr_c {t : Sk} {l : SkL} {z : SpL} {F ph : List Int} {p : Nat → Int} {M : Int} (ho : NetOk t) (hS : StepOk t F ph p M) : ∀ Nn, SpC t l z F ph p M Nn := by
  intro Nn
  induction Nn with
  | zero =>
    intro W kn out sc hc hM hk hO hsc hD
    have h1 := cnt_set kn sc (by rw [hD.lk]; exact hsc) hD.unk
    have h2 := cnt_le (kn.set sc true)
    rw [List.length_set, hD.lk] at h2
    omega
  | succ Nn IH =>
    intro W kn out sc hc hM hk hO hsc hD
    have hdj := hD.start (ps := prs t) (F := F) hS.m0 hsc
    have hlk := hD.lk
    have h60 := ho.n_le
    have hku := hD.unk
    have klt : z.kb < W.heap.size := FlB.lt hk
    have olt := hO.lt
    have HD := Lib.hid hdj; clear hdj
    have HIH := Lib.hid IH; clear IH
    have HO := Lib.hid ho; clear ho
    have HS := Lib.hid hS; clear hS
    have ck := hM.ck
    have HM := Lib.hid hM; clear hM
    have kt := hk.cell (j := sc) (by rw [hlk]; exact hsc)
    have kf := FlB.frozen hk sc
    have HK := Lib.hid (And.intro hk (And.intro hO (And.intro hlk (And.intro hku hc)))); clear hk hO hlk hku hc hD
    unfold spA
    refine callsIn_wide.1 (callsIn_of_wp_marks (n := 4) Tryz.func43 rfl trivial ?_ rfl)
    simp only [Tryz.ntmps43, List.size_toArray, List.length_cons, List.length_nil, Nat.reduceAdd, Nat.reduceSub, Array.replicate_succ, Array.replicate_zero, List.push_toArray, List.append_toArray, List.nil_append, List.cons_append]
    show Code.wpIn Fence.wide 4 Tryz.prog (.seq (Tryz.f43.sub [0]) (.seq (Tryz.f43.sub [1, 0]) (.seq (Tryz.f43.sub [1, 1, 0]) (.block 0 (.rangeFunc (.tmp 16) #[17, 18] (Tryz.f43.sub [1, 1, 1, 0, 0]) (Tryz.f43.sub [1, 1, 1, 0, 1])))))) _ _ _
    refine wpIn_seq ?_
    conv => arg 4; whnf
    gi_wp2_with fail
    refine nameW ?_
    intro W1 hW1
    have hB1 : Below W.heap.size W W1 := by rw [hW1]; exact (Below.refl _ _).alloc (Nat.le_refl _) _
    have hz1 : W1.heap.size = W.heap.size + 1 := by rw [hW1]; simp
    have hs1 : W1.cell? ⟨W.heap.size, 0, none⟩ = some (.int .i64 sc) := by rw [hW1]; simp
    have ck1 := cell_keep hB1 ck
    have kt1 := cell_keep hB1 kt
    have kf1 : W1.frozen? ⟨z.kb, sc, none⟩ = false := FlB.frozen (FlB.keep HK.out.1 hB1) sc
    clear hW1 ck kt kf
    conv => arg 4; whnf
    gi_wp2_with fail
    conv => arg 4; whnf
    refine nameW ?_
    intro W2 hW2
    have hT2 : Tch [z.kb, z.ob] W W2 := by rw [hW2]; exact (Tch.of_below hB1).set (.inl (by simp)) _
    have hM2 := HM.out.keep hT2
    have hk2 : BoolB W2 z.kb (kn.set sc true) := by rw [hW2]; exact BoolB.set (FlB.keep HK.out.1 hB1) (by rw [HK.out.2.2.1]; exact hsc) true
    have ho2 : IntB W2 z.ob out := by rw [hW2]; exact (HK.out.2.1.keep hB1).other (fun e => HM.out.ne.2.2.2.2.2.2 e.symm) _
    have hz2 : W2.heap.size = W.heap.size + 1 := by rw [hW2]; simpa using hz1
    have hs2 : W2.cell? ⟨W.heap.size, 0, none⟩ = some (.int .i64 sc) := by rw [hW2]; exact (World.cell?_of_block (Below.heap_setCell _ _ _ _ (show W.heap.size ≠ z.kb by omega))).trans hs1
    clear hW2 kt1 kf1 ck1 hs1
    have g0 : W2.cell? ⟨z.gb, 0, none⟩ = some (.slice l.S t.sc.length l.cs) := block_cell hM2.cg (j := 0) (by simp)
    have g1 : W2.cell? ⟨z.gb, 1, none⟩ = some (.slice l.P t.pr.length l.cp) := block_cell hM2.cg (j := 1) (by simp)
    have cf := hM2.cf
    have H2 := Lib.hid (And.intro hT2 (And.intro hM2 (And.intro hk2 ho2))); clear hT2 hM2 hk2 ho2
    gi_wp2_with fail
    refine ⟨trivial, (callsIn_wide.2 from_c).mono ?_⟩
    rintro e W3 ⟨rfl, hB3, e0, e1, e2, hz3⟩
    have hT3 : Tch [z.kb, z.ob] W W3 := H2.out.1.trans (Tch.of_below hB3)
    have hs3 := cell_keep hB3 hs2
    have hk3 := FlB.keep H2.out.2.2.1 hB3
    have ho3 := H2.out.2.2.2.keep hB3
    have H3 := Lib.hid (And.intro e0 (And.intro e1 (And.intro e2 (And.intro hT3 (And.intro hs3 (And.intro hk3 ho3)))))); clear e0 e1 e2 hT3 hs3 hk3 ho3 hB3 hs2 g0 g1 cf
    obtain ⟨N, hN⟩ : ∃ N, W2.heap.size = N := ⟨_, rfl⟩
    rw [hN] at H3 hz3
    rw [hN]
    unfold fromV
    gi_wp2_with fail
    refine wpIn_over 68 #[.pointer (some ⟨N + 2, 0, none⟩), .pointer (some ⟨N, 0, none⟩), .pointer (some ⟨N + 1, 0, none⟩)] rfl (enters_fn Tryz.func68 (by kernel_rfl) rfl) ?_
    intro fn
    rw [hz3]
    generalize hrec : recOf fn _ _ _ _ (N + 3) .ready = rec
    obtain ⟨W5, hW5⟩ : ∃ W5, (W3.alloc (.deferred (some []))).alloc (.loop rec) = W5 := ⟨_, rfl⟩
    rw [hW5]
    have hz5 : W5.heap.size = N + 5 := by rw [← hW5]; simp [hz3]
    have hB5 : Below W3.heap.size W3 W5 := by rw [← hW5]; exact ((Below.refl _ _).alloc (Nat.le_refl _) _).alloc (by simp) _
    have hD5 : W5.heap[N + 3]? = some (.deferred (some [])) := by rw [← hW5, ← hz3]; exact (Below.heap_alloc _ _ _ (by simp)).trans (World.alloc_heap_new W3 _)
    have hL5 : W5.heap[N + 4]? = some (.loop rec) := by rw [← hW5]; have := World.alloc_heap_new (W3.alloc (.deferred (some []))) (.loop rec); rw [World.size_alloc, hz3] at this; exact this
    obtain ⟨e0, e1, e2, hT3, hs3, hk3, ho3⟩ := H3.out
    have h0 : SpJ W t l z F ph p M sc kn W.heap.size N (N + 4) rec 0 (kn.set sc true) out W5 :=
      ⟨hT3.trans (Tch.of_below hB5), FlB.keep hk3 hB5, ho3.keep hB5, HD.out, (hB5.block _ (by omega)).trans e0, cell_keep hB5 e1, cell_keep hB5 e2, cell_keep hB5 hs3, hL5, hD5⟩
    refine (callsIn_wide.2 (callsIn_wide.1 (from1_in (N + 4) (t := t) (A := z.A) (F := F) (S := l.S) (P := l.P) (cs := l.cs) (cp := l.cp) (sc := sc) (fc := z.ca) HO.out HS.out.fr HS.out.fl (fun k W' => ∃ kn' out', SpJ W t l z F ph p M sc kn W.heap.size N (N + 4) rec k kn' out' W')
      (fun k W1 W2 h hb => ?_) (fun k W1 h => ?_) (fun k W1 hk h => ?_) W5 ⟨_, _, h0⟩))).mono ?_
    · obtain ⟨kn', out', h⟩ := h
      exact ⟨kn', out', h.keep hb⟩
    · obtain ⟨kn', out', h⟩ := h
      have := HM.out.keep h.tch
      exact ⟨h.g2, h.g0, h.g1, this.rF, this.rP⟩
    · obtain ⟨kn', out', h⟩ := h
      refine ⟨fun hA => ?_, fun hA => ⟨kn', out', h.tch, h.hk, h.ho, h.dj.skip (fun e => absurd e hA), h.g0, h.g1, h.g2, h.gs, h.gl, h.gd⟩⟩
      subst hrec
      exact spr_round HIH.out HO.out HS.out HM.out hsc ⟨klt, olt⟩ (by have := HK.out.2.2.2.2; omega) HK.out.2.2.2.1 HK.out.2.2.1 hk hA ⟨Nat.le_refl _, by omega, by omega, by omega, by omega⟩ h
    · rintro e W6 ⟨hr, kn', out', h⟩
      refine ⟨hr, h.gl, ?_⟩
      have hW6 := h.tch.size
      show LeavesInM Fence.wide 4 Tryz.prog _ _ _ ([N + 3].map rfMark) .returning _
      have hb : ∀ b, b ≠ N + 4 → ∀ o, (W6.putObj (N + 4) o).heap[b]? = W6.heap[b]? := fun b hb o => World.putObj_heap_other hb
      refine leaves_marks [N + 3] _ ⟨by simp, fun D hD => ?_⟩ ?_
      · rw [List.mem_singleton] at hD
        subst hD
        exact (hb _ (by omega) _).trans h.gd
      intro w' k1 k2 k3 k4 k5
      have hb2 : ∀ b, b ≠ N + 4 → b ≠ N + 3 → w'.heap[b]? = W6.heap[b]? := fun b h1 h2 => (k1 b (by simpa using h2)).trans (hb b h1 _)
      refine ⟨.tuple #[], results_none Tryz.results43 _ _ w', ⟨_, rfl⟩, kn', out', ⟨?_, ?_, ?_, ?_, ?_⟩, (hb2 _ (by omega) (by omega)).trans h.hk, (hb2 _ (by omega) (by omega)).trans h.ho, h.dj.fin⟩
      · exact k3.trans h.tch.os
      · exact k4.trans h.tch.tape
      · exact k5.trans h.tch.output
      · rw [k2]; simpa [World.putObj] using hW6
      · exact fun b h1 h2 => (hb2 b (by omega) (by omega)).trans (h.tch.block b h1 h2)
end Go.Proofs.YtjnpchoinncbnaaGreat
end
