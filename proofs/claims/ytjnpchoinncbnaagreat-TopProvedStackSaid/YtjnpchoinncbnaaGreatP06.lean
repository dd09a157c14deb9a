/- Proves parts of the statement, each under the conditions that its theorem states: The shortest ways: one arc looked at; The shortest ways: a round of the loop over the arcs; slices.Repeat of one number; The shortest ways: what is made at the start. -/
import Derived.Test.YtjnpchoinncbnaaGreatP05
import Derived.Test.YtjnpchoinncbnaaGreatP04
import Derived.Test.YtjnpchoinncbnaaGreatP03
import Derived.OwnWalk
import Derived.Laws.IdiomCopy
set_option linter.unusedSimpArgs false
set_option linter.unusedVariables false
set_option maxHeartbeats 4000000
set_option maxRecDepth 100000
section
namespace Go.Proofs.YtjnpchoinncbnaaGreat
open Go.RowKit Sw Fam
theorem arB_set {w : World} {b : Nat} {xs : List Ar} {e : TypeId} (h : FlB encA e w b xs) {j : Nat} (hj : j < xs.length) (y : Ar) : FlB encA e (w.setCells b (j * 5) (encA y)) b (xs.set j y) := by
  have key : ∀ (z y' : Ar) (i : Nat) (v : Value) (w : World), i < 5 → FlB encA e w b (xs.set j z) → encA y' = (encA z).set i v → FlB encA e (w.setCell ⟨b, j * 5 + i, none⟩ v) b (xs.set j y') := by
    intro z y' i v w hi hz he
    have := FlB.set encA_len hz (j := j) (i := i) (y := y') (v := v) hi (by simpa using hj) (by simpa using he)
    rwa [List.set_set] at this
  have h0 : FlB encA e w b (xs.set j xs[j]) := by rw [List.set_getElem_self]; exact h
  have h1 := key _ { xs[j] with e := y.e } 0 (.int .i64 y.e) _ (by omega) h0 rfl
  have h2 := key _ { xs[j] with e := y.e, to := y.to } 1 (.int .i64 y.to) _ (by omega) h1 rfl
  have h3 := key _ { xs[j] with e := y.e, to := y.to, s := y.s } 2 (.int .i64 y.s) _ (by omega) h2 rfl
  have h4 := key _ { xs[j] with e := y.e, to := y.to, s := y.s, room := y.room } 3 (.int .i64 y.room) _ (by omega) h3 rfl
  exact key _ y 4 (.int .i64 y.cost) _ (by omega) h4 rfl
theorem fl_cells {α : Type} {enc : α → List Value} {e : TypeId} {b ab : Nat} {xs : List α} (hne : b ≠ ab) : ∀ (vs : List Value) (o : Nat) (w : World), FlB enc e w b xs → FlB enc e (w.setCells ab o vs) b xs
  | [], _, _, h => h
  | v :: vs, o, w, h => by rw [World.setCells]; exact fl_cells hne vs _ _ (h.other hne v)
theorem arB_there {w : World} {b : Nat} {xs : List Ar} {e : TypeId} (h : FlB encA e w b xs) {j : Nat} (hj : j < xs.length) : w.there b (j * 5) 5 := fun i hi => by
  refine ⟨?_, h.frozen _⟩
  rw [FlB.cell encA_len h hi hj]
  have : i < (encA xs[j]).length := hi
  rw [List.getElem?_eq_getElem this]; rfl
structure C3 (W : World) (lb ab bb : Nat) (l l' : List Int) (last last' : List Ar) (bef bef' : List Int) (b1 b2 b3 : Bool) (w' : World) : Prop where
  tch : Tch [lb, ab, bb] W w'
  c1 : IntB w' lb (if b1 = true then l' else l)
  c2 : FlB encA 124 w' ab (if b2 = true then last' else last)
  c3 : IntB w' bb (if b3 = true then bef' else bef)
theorem C3.up {W : World} {lb ab bb : Nat} {l l' : List Int} {last last' : List Ar} {bef bef' : List Int} {L : Nat → Bool} {w : World} {i : Nat} (h1 : i ≠ 16) (h2 : i ≠ 18) (h3 : i ≠ 20) (h : C3 W lb ab bb l l' last last' bef bef' (L 16) (L 18) (L 20) w) :
    C3 W lb ab bb l l' last last' bef bef' (upd L i 16) (upd L i 18) (upd L i 20) w := by
  rw [upd_ne _ h1.symm, upd_ne _ h2.symm, upd_ne _ h3.symm]; exact h
theorem ways_relax {m rl tb lb ab bb db n at' ap u : Nat} {n2 : Int} {ar : Ar} {l : List Int} {last : List Ar} {bef : List Nat} {done : List Bool} {W : World} {Q : Exit → Act → World → Prop} {u0 u1 u2 u3 u4 u6 u8 u9 u12 u13 u14 u15 u16 u17 u18 u19 u20 u21 u22 u23 u24 u25 u26 u27 u28 u29 u30 u31 u32 u33 u34 u35 u36 u37 u38 u39 u40 u41 u42 u43 u44 u45 u46 u47 u48 u49 u50 u51 u52 u53 u54 u55 u56 u57 u58 u59 u60 u61 u62 u63 u64 u65 u66 u67 u68 u69 u70 u71 u72 u73 u74 u75 u76 u77 u78 u79 u80 u81 u82 u83 u84 u85 u86 u87 u88 u89 u90 u91 u92 u93 u94 u95 u96 u97 u98 u99 u100 u101 u102 u103 u104 u105 u106 u107 u108 u109 u110 u111 u112 u113 u114 u115 u116 u117 u118 u119 u120 u121 u122 u123 u124 u125 u126 u127 u128 u129 u130 u131 u132 u133 u134 u135 u136 u137 u138 : Value}
    (hT : TourM W tb lb ab bb db n l last bef done) (hn : n ≤ 1000) (hat : W.cell? ⟨at', 0, none⟩ = some (.int .i64 u))
    (hA : W.heap[ap]? = some (.cells (encA ar).toArray 124 (0, 0))) (hto : ar.to < n)
    (hd : lb ≠ ab ∧ ab ≠ bb ∧ lb ≠ at' ∧ ab ≠ at' ∧ bb ≠ at' ∧ lb ≠ ap ∧ ab ≠ ap ∧ bb ≠ ap ∧ lb ≠ tb ∧ ab ≠ tb ∧ bb ≠ tb ∧ db ≠ lb ∧ db ≠ ab ∧ db ≠ bb)
    (hQ : ∀ a w', Tch [lb, ab, bb] W w' → TourM w' tb lb ab bb db n (l.set ar.to n2) (last.set ar.to ar) (bef.set ar.to u) done → Q .normal a w') :
    Code.wpIn (Fence.wide.inRound rl) m Tryz.prog (Tryz.f73.sub [1, 1, 1, 1, 0, 0, 0, 1, 1, 1, 1, 1, 0, 1, 0, 1, 1, 0]) Q ⟨#[u0, u1, u2, u3, u4, .pointer (some ⟨tb, 0, none⟩), u6, .pointer (some ⟨at', 0, none⟩), u8, u9, .pointer (some ⟨ap, 0, none⟩), .int .i64 n2, u12, u13, u14, u15, u16, u17, u18, u19, u20, u21, u22, u23, u24, u25, u26, u27, u28, u29, u30, u31, u32, u33, u34, u35, u36, u37, u38, u39, u40, u41, u42, u43, u44, u45, u46, u47, u48, u49, u50, u51, u52, u53, u54, u55, u56, u57, u58, u59, u60, u61, u62, u63, u64, u65, u66, u67, u68, u69, u70, u71, u72, u73, u74, u75, u76, u77, u78, u79, u80, u81, u82, u83, u84, u85, u86, u87, u88, u89, u90, u91, u92, u93, u94, u95, u96, u97, u98, u99, u100, u101, u102, u103, u104, u105, u106, u107, u108, u109, u110, u111, u112, u113, u114, u115, u116, u117, u118, u119, u120, u121, u122, u123, u124, u125, u126, u127, u128, u129, u130, u131, u132, u133, u134, u135, u136, u137, u138], []⟩ W := by
  conv => arg 4; whnf
  dsimp only
  obtain ⟨d1, d2, d3, d4, d5, d6, d7, d8, d9, d10, d11, d12, d13, d14⟩ := hd
  have HT := Lib.hid hT; clear hT
  have HQ := Lib.hid hQ; clear hQ
  have c0 := HT.out.c0
  have c1 := HT.out.c1
  have c2 := HT.out.c2
  have a1 : W.cell? ⟨ap, 1, none⟩ = some (.int .i64 ar.to) := block_cell hA (j := 1) (by simp [encA])
  have hlt := HT.out.lbb
  refine regionIn_rel (.inr ⟨_, rfl⟩) (by kernel_rfl) (by kernel_rfl) (by kernel_rfl) (fun L _ w' => C3 W lb ab bb l (l.set ar.to n2) last (last.set ar.to ar) (bef.map Int.ofNat) ((bef.set ar.to u).map Int.ofNat) (L 16) (L 18) (L 20) w') ⟨(Tch.refl _ _).drewN 1, HT.out.len, HT.out.lst, HT.out.bfr⟩ ?_
  repeat (refine relq rfl rfl (fun _ _ _ h => C3.up (by decide) (by decide) (by decide) h) (fun K hK => ?_); go_big_quiet_op; (refine hK _ ?_; clear hK K))
  (refine relk_val rfl _ (fun _ _ _ h => C3.up (by decide) (by decide) (by decide) h) (fun V L w' h1 h2 h3 hC => ex_load1 _ _ rfl _ rfl (hC.tch.cell (by simp; omega) c0) _ Tryz.underlying26 rfl) (fun K hK => ?_); simp only [Fam.pt]; (refine hK _ ?_; clear hK K); repeat (refine relq rfl rfl (fun _ _ _ h => C3.up (by decide) (by decide) (by decide) h) (fun K hK => ?_); go_big_quiet_op; (refine hK _ ?_; clear hK K)))
  (refine relk_val rfl _ (fun _ _ _ h => C3.up (by decide) (by decide) (by decide) h) (fun V L w' h1 h2 h3 hC => ex_load1 _ _ rfl _ rfl (hC.tch.cell (by simp; omega) a1) _ Tryz.underlying3 rfl) (fun K hK => ?_); simp only [Fam.pt]; (refine hK _ ?_; clear hK K); repeat (refine relq rfl rfl (fun _ _ _ h => C3.up (by decide) (by decide) (by decide) h) (fun K hK => ?_); go_big_quiet_op; (refine hK _ ?_; clear hK K)))
  (refine relk_val rfl _ (fun _ _ _ h => C3.up (by decide) (by decide) (by decide) h) (fun V L w' h1 h2 h3 hC => ex_load1 _ _ rfl _ rfl (hC.tch.cell (by simp; omega) c1) _ Tryz.underlying119 rfl) (fun K hK => ?_); simp only [Fam.pt]; (refine hK _ ?_; clear hK K); repeat (refine relq rfl rfl (fun _ _ _ h => C3.up (by decide) (by decide) (by decide) h) (fun K hK => ?_); go_big_quiet_op; (refine hK _ ?_; clear hK K)))
  (refine relk_val rfl _ (fun _ _ _ h => C3.up (by decide) (by decide) (by decide) h) (fun V L w' h1 h2 h3 hC => ex_load1 _ _ rfl _ rfl (hC.tch.cell (by simp; omega) a1) _ Tryz.underlying3 rfl) (fun K hK => ?_); simp only [Fam.pt]; (refine hK _ ?_; clear hK K); repeat (refine relq rfl rfl (fun _ _ _ h => C3.up (by decide) (by decide) (by decide) h) (fun K hK => ?_); go_big_quiet_op; (refine hK _ ?_; clear hK K)))
  (refine relk_val rfl _ (fun _ _ _ h => C3.up (by decide) (by decide) (by decide) h) (fun V L w' h1 h2 h3 hC => ex_load1 _ _ rfl _ rfl (hC.tch.cell (by simp; omega) c2) _ Tryz.underlying26 rfl) (fun K hK => ?_); simp only [Fam.pt]; (refine hK _ ?_; clear hK K); repeat (refine relq rfl rfl (fun _ _ _ h => C3.up (by decide) (by decide) (by decide) h) (fun K hK => ?_); go_big_quiet_op; (refine hK _ ?_; clear hK K)))
  (refine relk_val rfl _ (fun _ _ _ h => C3.up (by decide) (by decide) (by decide) h) (fun V L w' h1 h2 h3 hC => ex_load1 _ _ rfl _ rfl (hC.tch.cell (by simp; omega) a1) _ Tryz.underlying3 rfl) (fun K hK => ?_); simp only [Fam.pt]; (refine hK _ ?_; clear hK K); repeat (refine relq rfl rfl (fun _ _ _ h => C3.up (by decide) (by decide) (by decide) h) (fun K hK => ?_); go_big_quiet_op; (refine hK _ ?_; clear hK K)))
  refine relk_val rfl (.agg (encA ar).toArray) (fun _ _ _ h => C3.up (by decide) (by decide) (by decide) h) (fun V L w' h1 h2 h3 hC => ex_loadN 124 _ rfl ap 0 rfl (encA ar) _ (fun j v hj => by
    have hb := (hC.tch.block ap (Array.getElem?_eq_some_iff.1 hA).1 (by simp; omega)).trans hA
    obtain ⟨j1, j2⟩ := List.getElem?_eq_some_iff.1 hj
    rw [Nat.zero_add, block_cell hb (j := j) (by simpa using j1)]
    simp [← j2]) Tryz.underlying124 rfl (by kernel_rfl)) (fun K hK => ?_)
  simp only [Fam.pt]
  refine hK _ ?_
  clear hK K
  (refine relk_val rfl _ (fun _ _ _ h => C3.up (by decide) (by decide) (by decide) h) (fun V L w' h1 h2 h3 hC => ex_load1 _ _ rfl _ rfl (hC.tch.cell (by simp; omega) hat) _ Tryz.underlying3 rfl) (fun K hK => ?_); simp only [Fam.pt]; (refine hK _ ?_; clear hK K); repeat (refine relq rfl rfl (fun _ _ _ h => C3.up (by decide) (by decide) (by decide) h) (fun K hK => ?_); go_big_quiet_op; (refine hK _ ?_; clear hK K)))
  refine relk_do rfl rfl (fun w => w.setCell ⟨lb, ar.to, none⟩ (.int .i64 n2)) (fun V L w' h1 h2 h3 hC => ?_) ?_
  · have hc := hC.c1
    rw [h1, if_neg (by simp)] at hc
    have hll : ar.to < l.length := by rw [HT.out.ll]; exact hto
    refine ⟨ex_store1 3 _ _ rfl lb ar.to _ rfl rfl (hc.cell hll) (hc.frozen _) (by kernel_rfl) rfl rfl, ?_⟩
    refine ⟨hC.tch.set (.inl (by simp)) _, ?_, ?_, ?_⟩
    · rw [if_pos (upd_same L 16)]; exact hc.set hll n2
    · rw [upd_ne _ (by decide)]; exact FlB.other hC.c2 (fun e => d1 e.symm) _
    · rw [upd_ne _ (by decide)]; exact hC.c3.other (fun e => hlt e.symm) _
  repeat (refine relq rfl rfl (fun _ _ _ h => C3.up (by decide) (by decide) (by decide) h) (fun K hK => ?_); go_big_quiet_op; (refine hK _ ?_; clear hK K))
  refine relk_do rfl rfl (fun w => w.setCells ab (ar.to * 5) (encA ar)) (fun V L w' h1 h2 h3 hC => ?_) ?_
  · have hc := hC.c2
    rw [h1, if_neg (by simp)] at hc
    have hll : ar.to < last.length := by rw [HT.out.la]; exact hto
    refine ⟨ex_storeN 124 _ _ rfl ab (ar.to * 5) (encA ar).toArray rfl rfl (arB_there hc hll) (by kernel_rfl) (by simp [encA, Value.oneCell']), ?_⟩
    refine ⟨hC.tch.sets (.inl (by simp)) _ _ _, ?_, ?_, ?_⟩
    · rw [upd_ne _ (by decide)]; exact fl_cells d1 _ _ _ hC.c1
    · rw [if_pos (upd_same L 18)]; exact arB_set hc hll ar
    · rw [upd_ne _ (by decide)]; exact fl_cells (fun e => d2 e.symm) _ _ _ hC.c3
  repeat (refine relq rfl rfl (fun _ _ _ h => C3.up (by decide) (by decide) (by decide) h) (fun K hK => ?_); go_big_quiet_op; (refine hK _ ?_; clear hK K))
  refine relk_do rfl rfl (fun w => w.setCell ⟨bb, ar.to, none⟩ (.int .i64 u)) (fun V L w' h1 h2 h3 hC => ?_) ?_
  · have hc := hC.c3
    rw [h1, if_neg (by simp)] at hc
    have hll : ar.to < (bef.map Int.ofNat).length := by rw [List.length_map, HT.out.lb']; exact hto
    refine ⟨ex_store1 3 _ _ rfl bb ar.to _ rfl rfl (hc.cell hll) (hc.frozen _) (by kernel_rfl) rfl rfl, ?_⟩
    refine ⟨hC.tch.set (.inl (by simp)) _, ?_, ?_, ?_⟩
    · rw [upd_ne _ (by decide)]; exact hC.c1.other hlt _
    · rw [upd_ne _ (by decide)]; exact FlB.other hC.c2 d2 _
    · rw [if_pos (upd_same L 20), List.map_set]; exact hc.set hll (Int.ofNat u)
  refine relk_end (n := 21) fun L V w' hL hC => ?_
  rw [hL 16 (by decide), hL 18 (by decide), hL 20 (by decide)] at hC
  obtain ⟨k1, k2, k3, k4⟩ := hC
  rw [if_pos rfl] at k2 k3 k4
  have hb : ∀ b, b ∉ [lb, ab, bb] → b < W.heap.size → w'.heap[b]? = W.heap[b]? := fun b h1 h2 => k1.block b h2 h1
  refine HQ.out _ _ k1 ⟨(hb tb (by simp; omega) (Array.getElem?_eq_some_iff.1 HT.out.blk).1).trans HT.out.blk, k2, k3, k4, (hb db (by simp; omega) (FlB.lt HT.out.dn)).trans HT.out.dn, ?_, ?_, ?_, HT.out.ld, hlt⟩
  · rw [List.length_set]; exact HT.out.ll
  · rw [List.length_set]; exact HT.out.la
  · rw [List.length_set]; exact HT.out.lb'
attribute [local go_sem] Oper.semAt_some
theorem roundA_of {l k : Nat} {ar : Ar} {W : World} {R : World → Prop} {rec : Loop} {tm : Array Value} (h : W.heap[l]? = some (.loop rec)) (hp : rec.params = #[k]) (ht : rec.tmps.setIfInBounds k (.agg (encA ar).toArray) = tm)
    (hr : ∀ m, RoundIn Fence.wide m Tryz.prog l rec.fn tm rec.assign rec.body W (fun e W' => e = .returned (.bool true) ∧ R W')) : RoundA l ar W R := by
  refine ⟨rec, h, by rw [hp]; rfl, fun m => ?_⟩
  rw [hp]
  have : ((#[k].zip #[Value.agg (encA ar).toArray]).foldl (fun tmps (t, a) => tmps.setIfInBounds t a) rec.tmps) = tm := by rw [← ht]; simp
  rw [this]
  exact hr m
def Relaxed (n : Nat) (p : List Int) (u : Nat) (ar : Ar) (l l' : List Int) (last last' : List Ar) (bef bef' : List Nat) : Prop :=
  (gi l u + rc p u ar < gi l ar.to ∧ l' = l.set ar.to (gi l u + rc p u ar) ∧ last' = last.set ar.to ar ∧ bef' = bef.set ar.to u) ∨ (gi l ar.to ≤ gi l u + rc p u ar ∧ l' = l ∧ last' = last ∧ bef' = bef)
theorem ways_round {l D fn tb lb ab bb db n at' sb u : Nat} {S pb : Nat} {ar : Ar} {p : List Int} {len : List Int} {last : List Ar} {bef : List Nat} {done : List Bool} {W : World} {u0 u1 u3 u4 u6 u8 u9 u10 u11 u12 u13 u14 u15 u16 u17 u18 u19 u20 u21 u22 u23 u24 u25 u26 u27 u28 u29 u30 u31 u32 u33 u34 u35 u36 u37 u38 u39 u40 u41 u42 u43 u44 u45 u46 u47 u48 u49 u50 u51 u52 u53 u54 u55 u56 u57 u58 u59 u60 u61 u62 u63 u64 u65 u66 u67 u68 u69 u70 u71 u72 u73 u74 u75 u76 u77 u78 u79 u80 u81 u82 u83 u84 u85 u86 u87 u88 u89 u90 u91 u92 u93 u94 u95 u96 u97 u98 u99 u100 u101 u102 u103 u104 u105 u106 u107 u108 u109 u110 u111 u112 u113 u114 u115 u116 u117 u118 u119 u120 u121 u122 u123 u124 u125 u126 u127 u128 u129 u130 u131 u132 u133 u134 u135 u136 u137 u138 : Value}
    (hL : W.heap[l]? = some (.loop (recOf fn #[u0, u1, .pointer (some ⟨sb, 0, none⟩), u3, u4, .pointer (some ⟨tb, 0, none⟩), u6, .pointer (some ⟨at', 0, none⟩), u8, u9, u10, u11, u12, u13, u14, u15, u16, u17, u18, u19, u20, u21, u22, u23, u24, u25, u26, u27, u28, u29, u30, u31, u32, u33, u34, u35, u36, u37, u38, u39, u40, u41, u42, u43, u44, u45, u46, u47, u48, u49, u50, u51, u52, u53, u54, u55, u56, u57, u58, u59, u60, u61, u62, u63, u64, u65, u66, u67, u68, u69, u70, u71, u72, u73, u74, u75, u76, u77, u78, u79, u80, u81, u82, u83, u84, u85, u86, u87, u88, u89, u90, u91, u92, u93, u94, u95, u96, u97, u98, u99, u100, u101, u102, u103, u104, u105, u106, u107, u108, u109, u110, u111, u112, u113, u114, u115, u116, u117, u118, u119, u120, u121, u122, u123, u124, u125, u126, u127, u128, u129, u130, u131, u132, u133, u134, u135, u136, u137, u138] #[87] (Tryz.f73.sub [1, 1, 1, 1, 0, 0, 0, 1, 1, 1, 1, 1, 0, 0]) (Tryz.f73.sub [1, 1, 1, 1, 0, 0, 0, 1, 1, 1, 1, 1, 0, 1]) D .ready)))
    (hT : TourM W tb lb ab bb db n len last bef done) (hn : n ≤ 1000) (hu : u < n) (hto : ar.to < n) (hat : W.cell? ⟨at', 0, none⟩ = some (.int .i64 u))
    (hsb : W.cell? ⟨sb, 0, none⟩ = some (.pointer (some ⟨S, 0, none⟩))) (hp3 : W.cell? ⟨S, 3, none⟩ = some (.slice (some ⟨pb, 0, none⟩) n n)) (hp : IntB W pb p) (hpl : p.length = n)
    (hlu : 0 ≤ gi len u ∧ gi len u ≤ far) (hpu : 0 ≤ gi p u ∧ gi p u ≤ 1000000000000) (hpt : 0 ≤ gi p ar.to ∧ gi p ar.to ≤ 1000000000000) (hco : -1000 ≤ ar.cost ∧ ar.cost ≤ 1000)
    (hd : lb ≠ ab ∧ ab ≠ bb ∧ lb ≠ at' ∧ ab ≠ at' ∧ bb ≠ at' ∧ lb ≠ tb ∧ ab ≠ tb ∧ bb ≠ tb ∧ db ≠ lb ∧ db ≠ ab ∧ db ≠ bb)
    (hl : l ≠ tb ∧ l ≠ lb ∧ l ≠ ab ∧ l ≠ bb ∧ l ≠ db ∧ l ≠ at' ∧ l ≠ sb ∧ l ≠ S ∧ l ≠ pb) :
    RoundA l ar W (fun W' => ∃ l' last' bef', TourM W' tb lb ab bb db n l' last' bef' done ∧ Tch [lb, ab, bb, l] W W' ∧ W'.heap[l]? = W.heap[l]? ∧ Relaxed n p u ar len l' last last' bef bef') := by
  refine roundA_of (tm := #[u0, u1, .pointer (some ⟨sb, 0, none⟩), u3, u4, .pointer (some ⟨tb, 0, none⟩), u6, .pointer (some ⟨at', 0, none⟩), u8, u9, u10, u11, u12, u13, u14, u15, u16, u17, u18, u19, u20, u21, u22, u23, u24, u25, u26, u27, u28, u29, u30, u31, u32, u33, u34, u35, u36, u37, u38, u39, u40, u41, u42, u43, u44, u45, u46, u47, u48, u49, u50, u51, u52, u53, u54, u55, u56, u57, u58, u59, u60, u61, u62, u63, u64, u65, u66, u67, u68, u69, u70, u71, u72, u73, u74, u75, u76, u77, u78, u79, u80, u81, u82, u83, u84, u85, u86, .agg (encA ar).toArray, u88, u89, u90, u91, u92, u93, u94, u95, u96, u97, u98, u99, u100, u101, u102, u103, u104, u105, u106, u107, u108, u109, u110, u111, u112, u113, u114, u115, u116, u117, u118, u119, u120, u121, u122, u123, u124, u125, u126, u127, u128, u129, u130, u131, u132, u133, u134, u135, u136, u137, u138]) hL rfl rfl (fun m => ?_)
  refine roundIn_of_wpIn trivial ?_
  show Code.wpIn (Fence.wide.inRound l) m Tryz.prog (Tryz.f73.sub [1, 1, 1, 1, 0, 0, 0, 1, 1, 1, 1, 1, 0, 0]) (Exit.then (fun a₁ w₁ => ∃ w₂, (Instr.beginRound l).run Tryz.prog w₁ = .ok () w₂ ∧ (Tryz.f73.sub [1, 1, 1, 1, 0, 0, 0, 1, 1, 1, 1, 1, 0, 1]).wpIn (Fence.wide.inRound l) m Tryz.prog (roundPost Tryz.prog l _) a₁ w₂) (fun _ _ _ => False)) _ _
  conv => arg 4; whnf
  dsimp only
  have HT := Lib.hid hT; clear hT
  have HL := Lib.hid hL; clear hL
  have HP := Lib.hid hp; clear hp
  unfold encA
  gi_wp2_with fail
  obtain ⟨rec, hL0, hrd, hpn⟩ : ∃ rec : Loop, W.heap[l]? = some (.loop rec) ∧ rec.state = .ready ∧ rec.pending = none := ⟨_, HL.out, rfl, rfl⟩
  clear HL
  have llt : l < W.heap.size := (Array.getElem?_eq_some_iff.1 hL0).1
  obtain ⟨d1, d2, d3, d4, d5, d6, d7, d8, d9, d10, d11⟩ := hd
  obtain ⟨l1, l2, l3, l4, l5, l6, l7, l8, l9⟩ := hl
  obtain ⟨W1, hW1⟩ : ∃ W1, W.alloc (.cells (encA ar).toArray 124) = W1 := ⟨_, rfl⟩
  have hL1 : W1.heap[l]? = some (.loop rec) := by rw [← hW1]; exact (Below.heap_alloc _ _ _ llt).trans hL0
  have hbr := run_beginRound (P := Tryz.prog) hL1 hrd
  refine ⟨_, by rw [← hW1] at hbr; exact hbr, ?_⟩
  rw [hW1]
  refine nameW ?_
  intro W2 hW2
  have hT2 : Tch [l] W W2 := by rw [hW2, ← hW1]; exact ((Tch.refl _ _).alloc _).put (.inl (by simp)) _
  have hA2 : W2.heap[W.heap.size]? = some (.cells (encA ar).toArray 124 (0, 0)) := by
    rw [hW2, ← hW1]; exact (World.putObj_heap_other (by omega)).trans (heap_alloc_new W _)
  have hL2 : W2.heap[l]? = some (.loop { rec with state := .busy }) := by rw [hW2]; exact World.putObj_heap_same (Array.getElem?_eq_some_iff.1 hL1).1
  have hM2 : TourM W2 tb lb ab bb db n len last bef done := by
    have hb : ∀ b, b ≠ l → b < W.heap.size → W2.heap[b]? = W.heap[b]? := fun b h1 h2 => hT2.block b h2 (by simpa using h1)
    have h := HT.out
    exact ⟨(hb tb l1.symm (Array.getElem?_eq_some_iff.1 h.blk).1).trans h.blk, (hb lb l2.symm h.len.lt).trans h.len, (hb ab l3.symm (FlB.lt h.lst)).trans h.lst, (hb bb l4.symm h.bfr.lt).trans h.bfr, (hb db l5.symm (FlB.lt h.dn)).trans h.dn, h.ll, h.la, h.lb', h.ld, h.lbb⟩
  have at2 := hT2.cell (by simpa using l6.symm) hat
  have sb2 := hT2.cell (by simpa using l7.symm) hsb
  have p32 := hT2.cell (by simpa using l8.symm) hp3
  have hpc : ∀ j, j < n → W2.cell? ⟨pb, j, none⟩ = some (.int .i64 (gi p j)) := fun j hj => hT2.cell (by simpa using l9.symm) (HP.out.cell (by rw [hpl]; exact hj))
  have pu := hpc u hu
  have pt := hpc ar.to hto
  have lu := hM2.len.cell (j := u) (by rw [hM2.ll]; exact hu)
  have lt := hM2.len.cell (j := ar.to) (by rw [hM2.ll]; exact hto)
  have c0 := hM2.c0
  have tblt : tb < W.heap.size := (Array.getElem?_eq_some_iff.1 HT.out.blk).1
  have lblt : lb < W.heap.size := HT.out.len.lt
  have ablt : ab < W.heap.size := FlB.lt HT.out.lst
  have bblt : bb < W.heap.size := HT.out.bfr.lt
  have a1 : W2.cell? ⟨W.heap.size, 1, none⟩ = some (.int .i64 ar.to) := block_cell hA2 (j := 1) (by simp [encA])
  have a4 : W2.cell? ⟨W.heap.size, 4, none⟩ = some (.int .i64 ar.cost) := block_cell hA2 (j := 4) (by simp [encA])
  have HL2 := Lib.hid hL2
  have HM2 := Lib.hid hM2
  have HT2 := Lib.hid hT2
  have HA2 := Lib.hid hA2
  have HL0 := Lib.hid hL0
  clear hW1 hW2 hL1 hbr hL2 hM2 hT2 hA2 hpc hat hsb hp3 hL0
  obtain ⟨lu1, lu2⟩ := hlu
  obtain ⟨pu1, pu2⟩ := hpu
  obtain ⟨pt1, pt2⟩ := hpt
  obtain ⟨co1, co2⟩ := hco
  have lu3 : gi len u ≤ 1152921504606846976 := lu2
  show Code.wpIn (Fence.wide.inRound l) m Tryz.prog (.block 5 (.seq (Tryz.f73.sub [1, 1, 1, 1, 0, 0, 0, 1, 1, 1, 1, 1, 0, 1, 0, 0]) (.seq (Tryz.f73.sub [1, 1, 1, 1, 0, 0, 0, 1, 1, 1, 1, 1, 0, 1, 0, 1, 0]) (.cond (.tmp 120) (Tryz.f73.sub [1, 1, 1, 1, 0, 0, 0, 1, 1, 1, 1, 1, 0, 1, 0, 1, 1, 0]) .skip)))) _ _ _
  refine wpIn_block ?_
  refine wpIn_seq ?_
  conv => arg 4; whnf
  refine regionIn_reads (.inr ⟨_, rfl⟩) (by kernel_rfl) (by kernel_rfl) (by kernel_rfl) ?_
  repeat (go_big_quiet_step (fail))
  refine wpQuiet_nil ?_
  intro _ hw'
  obtain ⟨nq, rfl⟩ := hw'
  dsimp only [Exit.then]
  have fin : ∀ (a : Act) (W3 : World) l' last' bef', TourM W3 tb lb ab bb db n l' last' bef' done → Tch [lb, ab, bb] W2 W3 → Relaxed n p u ar len l' last last' bef bef' →
      roundPost Tryz.prog l (fun e W' => e = .returned (.bool true) ∧ ∃ l' last' bef', TourM W' tb lb ab bb db n l' last' bef' done ∧ Tch [lb, ab, bb, l] W W' ∧ W'.heap[l]? = W.heap[l]? ∧ Relaxed n p u ar len l' last last' bef bef') .normal a W3 := by
    intro a W3 l' last' bef' h1 h2 h3
    have h4 := (h2.block l (Array.getElem?_eq_some_iff.1 HL2.out).1 (by simp; omega)).trans HL2.out
    have h5 := run_endRound (P := Tryz.prog) none h4
    refine ⟨_, _, h5, rfl, l', last', bef', ?_, ?_, ?_, h3⟩
    · have hb : ∀ b, b ≠ l → (W3.putObj l (.loop { rec with state := .ready, pending := none })).heap[b]? = W3.heap[b]? := fun b h1 => World.putObj_heap_other h1
      exact ⟨(hb tb l1.symm).trans h1.blk, (hb lb l2.symm).trans h1.len, (hb ab l3.symm).trans h1.lst, (hb bb l4.symm).trans h1.bfr, (hb db l5.symm).trans h1.dn, h1.ll, h1.la, h1.lb', h1.ld, h1.lbb⟩
    · exact ((HT2.out.mono (fun b hb => .inl (by simp at hb ⊢; omega))).trans (h2.mono (fun b hb => .inl (by simp at hb ⊢; omega)))).put (.inl (by simp)) _
    · rw [HL0.out]
      refine (World.putObj_heap_same (Array.getElem?_eq_some_iff.1 h4).1).trans ?_
      obtain ⟨s1, s2, s3, s4, s5, s6, s7, s8⟩ := rec
      simp only at hrd hpn
      subst hrd hpn
      rfl
  have FIN := Lib.hid fin
  clear fin llt
  refine wpIn_seq ?_
  conv => arg 4; whnf
  by_cases hlt : gi len u + ar.cost + gi p u - gi p ar.to < gi len ar.to
  · gi_wp2_with fail
    refine ways_relax (HM2.out.keep (below_drewN (Below.refl _ _) nq)) hn at2 HA2.out hto ⟨d1, d2, d3, d4, d5, by omega, by omega, by omega, d6, d7, d8, d9, d10, d11⟩ ?_
    intro a w' k1 k2
    have e : gi len u + ar.cost + gi p u - gi p ar.to = gi len u + rc p u ar := by unfold rc; omega
    rw [e] at hlt k2
    exact FIN.out a w' _ _ _ k2 ⟨k1.os, k1.tape, k1.output, k1.size, k1.block⟩ (.inl ⟨hlt, rfl, rfl, rfl⟩)
  · gi_wp2_with fail
    exact FIN.out _ _ _ _ _ (HM2.out.keep (below_drewN (Below.refl _ _) nq)) ((Tch.refl _ _).drewN nq) (.inr ⟨by unfold rc; omega, rfl, rfl, rfl⟩)
theorem bit_and (n : Nat) (hn : n ≤ 1000) : bits .and .u64 n 4294967295 = n := by
  have : ∀ m : Fin 1001, bits .and .u64 (m.val : Int) 4294967295 = m.val := by decide +kernel
  exact this ⟨n, by omega⟩
theorem u64_ok {x : Int} (h1 : 0 ≤ x) (h2 : x ≤ 1000) : IntKind.u64.wrap x = x := by
  simp only [IntKind.wrap]
  have : x % (2 ^ IntKind.u64.bits : Int) = x := Int.emod_eq_of_lt h1 (by show x < 18446744073709551616; omega)
  rw [this]
  rfl
theorem mul64_c (n : Nat) (hn : n ≤ 1000) (w : World) : Calls Tryz.prog 112 #[.int .u64 1, .int .u64 n] w fun e w' => e = .returned (.tuple #[.int .u64 0, .int .u64 n]) ∧ w = w' := by
  go_enter Tryz.func112, Tryz.ntmps112
  have b1 : bits .and .u64 1 4294967295 = 1 := by decide +kernel
  have b2 : bits .and .u64 n 4294967295 = n := bit_and n hn
  have b3 : bits .and .u64 0 4294967295 = 0 := by decide +kernel
  have u0 : IntKind.u64.wrap 0 = 0 := by decide
  have u1 : IntKind.u64.wrap n = n := u64_ok (by omega) (by omega)
  have d1 : (n : Int) / 4294967296 = 0 := by omega
  go_wp2_with fail
  go_ret2
  exact ⟨rfl, rfl⟩
theorem mul_c (n : Nat) (hn : n ≤ 1000) (w : World) : Calls Tryz.prog 101 #[.int .u64 1, .int .u64 n] w fun e w' => e = .returned (.tuple #[.int .u64 0, .int .u64 n]) ∧ w = w' := by
  go_enter Tryz.func101, Tryz.ntmps101
  have u1 : IntKind.u64.wrap n = n := u64_ok (by omega) (by omega)
  go_wp2_with fail
  refine (mul64_c n hn _).mono ?_
  rintro e w' ⟨rfl, rfl⟩
  go_wp2_with fail
  go_ret2
  exact ⟨rfl, rfl⟩
def rp (n : Nat) (c : Int) (k : Nat) : List Int := List.replicate k c ++ List.replicate (n - k) 0
theorem rp_len {n : Nat} {c : Int} {k : Nat} (h : k ≤ n) : (rp n c k).length = n := by unfold rp; simp; omega
theorem rp_set {n : Nat} {c : Int} {k : Nat} (h : k < n) : (rp n c k).set k c = rp n c (k + 1) := by
  unfold rp
  rw [List.set_append_right _ _ (by simp)]
  have e : n - k = (n - (k + 1)) + 1 := by omega
  rw [List.length_replicate, Nat.sub_self, e, List.replicate_succ, List.set_cons_zero, List.replicate_succ', List.append_assoc]
  rfl
theorem rp_all (n : Nat) (c : Int) : rp n c n = List.replicate n c := by unfold rp; simp
theorem rp_none (n : Nat) (c : Int) : rp n c 0 = List.replicate n 0 := by unfold rp; simp
theorem IntB.fill {n : Nat} {c : Int} {b : Nat} : ∀ (m k : Nat) (w : World), k + m ≤ n → IntB w b (rp n c k) → IntB (w.setCells b k (List.replicate m (.int .i64 c))) b (rp n c (k + m)) := by
  intro m
  induction m with
  | zero => intro k w _ h; exact h
  | succ m ih =>
    intro k w hk h
    rw [List.replicate_succ, World.setCells]
    have h1 := h.set (j := k) (by rw [rp_len (by omega)]; omega) c
    rw [rp_set (by omega)] at h1
    have := ih (k + 1) _ (by omega) h1
    rwa [show k + 1 + m = k + (m + 1) by omega] at this
theorem gi_rp {n : Nat} {c : Int} {k j : Nat} (h : j < k) : gi (rp n c k) j = c := by
  unfold gi rp
  simp [List.getD_eq_getElem?_getD, List.getElem?_append, h]
theorem exec_copy {ρ : Operand → Value} {o : Oper} {w w' : World} (x y : Operand) {d s : TypeId} (ho : o.op = .call { callee := .builtin .copy, args := #[x, y], argTypes := #[d, s] }) {dv sv v : Value} (hx : ρ x = dv) (hy : ρ y = sv)
    (h : ∀ ty, (Builtin.copy_ #[d, s] ty #[dv, sv]).run Tryz.prog w = .ok v w') : (execOp ρ o).run Tryz.prog w = .ok (.value v) w' := by
  unfold execOp
  simp only [ho, resolve, List.map_toArray, List.map_cons, List.map_nil, hx, hy]
  simp only [Sem.run_bind, Sem.run_pure, Result.andThen_ok, invoke, builtin, h]
theorem copy_fill {W : World} {n : Nat} {c : Int} {B k m dl dc sl sc : Nat} {a : Addr} {dT sT ty : TypeId} (hd : dT = 26) (h : IntB W B (rp n c k)) (hm : m = Nat.min sl dl) (hk : k + m ≤ n) (hs : ∀ j, j < m → W.cell? (a.add j) = some (.int .i64 c)) :
    (Builtin.copy_ #[dT, sT] ty #[.slice (some ⟨B, k, none⟩) dl dc, .slice (some a) sl sc]).run Tryz.prog W = .ok (goInt m) (W.setCells B k (List.replicate m (.int .i64 c))) := by
  subst hd
  have hl := rp_len (n := n) (c := c) (k := k) (by omega)
  have := run_copy_cells (P := Tryz.prog) W 26 sT ty 3 B k dl dc a sl sc (List.replicate m (.int .i64 c)) Tryz.underlying26 (by kernel_rfl) (by rw [List.length_replicate]; exact hm)
    (fun j v hj => by
      obtain ⟨h1, h2⟩ := List.getElem?_eq_some_iff.1 hj
      rw [List.length_replicate] at h1
      rw [List.getElem_replicate] at h2
      rw [← h2]
      exact hs j h1)
    (fun j hj => by
      rw [List.length_replicate] at hj
      rw [h.cell (by rw [hl]; omega)]
      rfl)
    (fun j hj => h.frozen _) (fun v hv => by rw [List.eq_of_mem_replicate hv]; rfl)
  rwa [List.length_replicate] at this
theorem repeat_c (n : Nat) (hn : 1 ≤ n ∧ n ≤ 1000) (c : Int) (b : Nat) (w : World) (hb : w.cell? ⟨b, 0, none⟩ = some (.int .i64 c)) :
    Calls Tryz.prog 82 #[.slice (some ⟨b, 0, none⟩) 1 1, .int .i64 n] w fun e w' => ∃ B, e = .returned (.slice (some ⟨B, 0, none⟩) n n) ∧ Below w.heap.size w w' ∧ w.heap.size ≤ B ∧ IntB w' B (List.replicate n c) := by
  obtain ⟨hn1, hn2⟩ := hn
  go_enter Tryz.func82, Tryz.ntmps82
  have u1 : IntKind.u64.wrap n = n := u64_ok (by omega) (by omega)
  go_wp2_with fail
  refine (mul_c n hn2 _).mono ?_
  rintro e w' ⟨rfl, rfl⟩
  have hmk := run_make_ints n (by omega) w
  obtain ⟨W1, hW1⟩ : ∃ W1, w.alloc (.cells ((List.replicate n (0:Int)).flatMap encI).toArray 3) = W1 := ⟨_, rfl⟩
  rw [hW1] at hmk
  have hB1 : Below w.heap.size w W1 := by rw [← hW1]; exact (Below.refl _ _).alloc (Nat.le_refl _) _
  have hI1 : IntB W1 w.heap.size (rp n c 0) := by rw [← hW1, rp_none]; exact FlB.new w encI _ _
  have hcp : ∀ ty, _ := fun ty => copy_fill (ty := ty) (sT := 26) (dl := n) (dc := n) (sl := 1) (sc := 1) (m := 1) (a := ⟨b, 0, none⟩) rfl hI1 (show (1 : Nat) = Nat.min 1 n from (Nat.min_eq_left hn1).symm) (by omega) (fun j hj => by
    have : j = 0 := by omega
    subst this
    exact cell_keep hB1 hb)
  obtain ⟨W2, hW2⟩ : ∃ W2, W1.setCells w.heap.size 0 (List.replicate 1 (.int .i64 c)) = W2 := ⟨_, rfl⟩
  rw [hW2] at hcp
  have hB2 : Below w.heap.size w W2 := by rw [← hW2]; exact below_setCells (Nat.le_refl _) _ _ _ hB1
  have hI2 : IntB W2 w.heap.size (rp n c 1) := by rw [← hW2]; exact IntB.fill 1 0 _ (by omega) hI1
  clear hW1 hW2 hb
  have HB2 := Lib.hid hB2; clear hB2 hB1 hI1
  have HI2 := Lib.hid hI2; clear hI2
  go_wp2_with fail
  go_loopw [8] (fun v8 wr => ∃ k : Nat, v8 = .int .i64 k ∧ 1 ≤ k ∧ k ≤ n ∧ Below w.heap.size w wr ∧ IntB wr w.heap.size (rp n c k)) (fun v8 _ => n - (intOf v8).toNat)
  case atStart => exact ⟨1, rfl, Nat.le_refl _, hn1, HB2.out, HI2.out⟩
  case round =>
    obtain ⟨k, rfl, hk1, hk2, hB, hI⟩ := hrel
    have HB := Lib.hid hB; clear hB
    have HI := Lib.hid hI; clear hI
    by_cases hlt : k < n
    · obtain ⟨m, hm⟩ : ∃ m, Nat.min k (n - k) = m := ⟨_, rfl⟩
      have hm1 : 1 ≤ m := by rw [← hm]; exact Nat.le_min.2 ⟨hk1, by omega⟩
      obtain ⟨hm3, hm4⟩ : m ≤ k ∧ m ≤ n - k := by rw [← hm]; exact ⟨Nat.min_le_left _ _, Nat.min_le_right _ _⟩
      have hm2 : k + m ≤ n := by omega
      go_wp2_with fail
      refine region_rel (by kernel_rfl) (by kernel_rfl) (by kernel_rfl) (Lst 7 (fun w' => ∃ q, w' = wr.drewN q) (fun w' => ∃ q, w' = (wr.drewN q).setCells w.heap.size k (List.replicate m (.int .i64 c)))) ⟨1, rfl⟩ ?_
      repeat (refine relq rfl rfl (fun _ _ _ h => Lst.up (by decide) h) (fun K hK => ?_); go_big_quiet_op; (refine hK _ ?_; clear hK K))
      refine relk_fix rfl (goInt m) (fun V L w' h1 h2 h3 hC => ?_) (fun K hK => ?_)
      · unfold Lst at hC
        rw [h1] at hC
        obtain ⟨q, rfl⟩ : ∃ q, w' = wr.drewN q := by simpa using hC
        rw [exec_copy (.tmp 41) (.tmp 44) rfl rfl rfl (fun ty => copy_fill rfl (HI.out.drewN q) hm.symm hm2 (fun j hj => by
          have h9 := HI.out.cell (j := j) (by rw [rp_len hk2]; omega)
          rw [gi_rp (by omega)] at h9
          have e9 : (⟨w.heap.size, 0, none⟩ : Addr).add j = ⟨w.heap.size, j, none⟩ := by unfold Addr.add; by_cases h0 : j = 0 <;> simp [h0]
          rw [e9]
          exact h9))]
        refine ⟨rfl, ?_⟩
        unfold Lst
        rw [upd_same, if_pos rfl]
        exact ⟨q, rfl⟩
      simp only [Fam.pt]; (refine hK _ ?_; clear hK K)
      repeat (refine relq rfl rfl (fun _ _ _ h => Lst.up (by decide) h) (fun K hK => ?_); go_big_quiet_op; (refine hK _ ?_; clear hK K))
      refine relk_end (n := 10) fun L V w' hL hC => ?_
      unfold Lst at hC
      rw [hL 7 (by decide)] at hC
      obtain ⟨q, hw⟩ : ∃ q, w' = (wr.drewN q).setCells w.heap.size k (List.replicate m (.int .i64 c)) := by simpa using hC
      have HB3 : Below w.heap.size w w' := by rw [hw]; exact below_setCells (Nat.le_refl _) _ _ _ (below_drewN HB.out q)
      have HI3 : IntB w' w.heap.size (rp n c (k + m)) := by rw [hw]; exact IntB.fill m k _ hm2 (HI.out.drewN q)
      clear hw hC
      go_wp2_with fail
      go_roundw
      case rel => exact ⟨k + m, by simp, by omega, hm2, HB3, HI3⟩
      case measure => simp only [intOf]; omega
    · go_wp2_with fail
      go_ret
      have : k = n := by omega
      subst this
      refine ⟨w.heap.size, rfl, HB.out, Nat.le_refl _, ?_⟩
      rw [← rp_all]; exact HI.out
theorem repeat_0 (n : Nat) (hn0 : n < 1) (c : Int) (b : Nat) (w : World) (hb : w.cell? ⟨b, 0, none⟩ = some (.int .i64 c)) :
    Calls Tryz.prog 82 #[.slice (some ⟨b, 0, none⟩) 1 1, .int .i64 n] w fun e w' => ∃ B, e = .returned (.slice (some ⟨B, 0, none⟩) n n) ∧ Below w.heap.size w w' ∧ w.heap.size ≤ B ∧ IntB w' B (List.replicate n c) := by
  have hn2 : n ≤ 1000 := by omega
  have hmin : (0 : Nat) = Nat.min 1 n := by
    have : n = 0 := by omega
    subst this; rfl
  go_enter Tryz.func82, Tryz.ntmps82
  have u1 : IntKind.u64.wrap n = n := u64_ok (by omega) (by omega)
  go_wp2_with fail
  refine (mul_c n hn2 _).mono ?_
  rintro e w' ⟨rfl, rfl⟩
  have hmk := run_make_ints n (by omega) w
  obtain ⟨W1, hW1⟩ : ∃ W1, w.alloc (.cells ((List.replicate n (0:Int)).flatMap encI).toArray 3) = W1 := ⟨_, rfl⟩
  rw [hW1] at hmk
  have hB1 : Below w.heap.size w W1 := by rw [← hW1]; exact (Below.refl _ _).alloc (Nat.le_refl _) _
  have hI1 : IntB W1 w.heap.size (rp n c 0) := by rw [← hW1, rp_none]; exact FlB.new w encI _ _
  have hcp : ∀ ty, _ := fun ty => copy_fill (ty := ty) (sT := 26) (dl := n) (dc := n) (sl := 1) (sc := 1) (m := 0) (a := ⟨b, 0, none⟩) rfl hI1 hmin (by omega) (fun j hj => by omega)
  rw [show W1.setCells w.heap.size 0 (List.replicate 0 (.int .i64 c)) = W1 from rfl] at hcp
  have H := Lib.hid (And.intro hB1 hI1); clear hB1 hI1 hb hW1 hmin
  go_wp2_with fail
  go_loopw [8] (fun v8 wr => v8 = .int .i64 0 ∧ wr = W1) (fun v8 _ => 0)
  case atStart => exact ⟨rfl, rfl⟩
  case round =>
    obtain ⟨rfl, rfl⟩ := hrel
    go_wp2_with fail
    go_ret
    have : n = 0 := by omega
    subst this
    exact ⟨w.heap.size, rfl, H.out.1, Nat.le_refl _, H.out.2⟩
theorem repeat_g (n : Nat) (hn : n ≤ 1000) (c : Int) (b : Nat) (w : World) (hb : w.cell? ⟨b, 0, none⟩ = some (.int .i64 c)) :
    Calls Tryz.prog 82 #[.slice (some ⟨b, 0, none⟩) 1 1, .int .i64 n] w fun e w' => ∃ B, e = .returned (.slice (some ⟨B, 0, none⟩) n n) ∧ Below w.heap.size w w' ∧ w.heap.size ≤ B ∧ IntB w' B (List.replicate n c) := by
  by_cases h : 1 ≤ n
  · exact repeat_c n ⟨h, hn⟩ c b w hb
  · exact repeat_0 n (by omega) c b w hb
theorem arcs_c (S u : Nat) (w : World) : Calls Tryz.prog 83 #[.pointer (some ⟨S, 0, none⟩), .int .i64 u] w fun e w' =>
    e = .returned (.func (.func 102) #[] #[.pointer (some ⟨w.heap.size, 0, none⟩), .pointer (some ⟨w.heap.size + 1, 0, none⟩)]) ∧ w' = (w.alloc (.cells #[.pointer (some ⟨S, 0, none⟩)] 74)).alloc (.cells #[.int .i64 u] 3) := by
  go_enter Tryz.func83, Tryz.ntmps83
  go_wp2_with fail
  go_ret
  exact ⟨rfl, rfl⟩
theorem made_flat {α : Type} {enc : α → List Value} {k : Nat} (hk : ∀ x, (enc x).length = k) (hk0 : 0 < k) (d : α) (n : Nat) : madeCells (enc d).toArray (n * k) = ((List.replicate n d).flatMap enc).toArray := by
  have hlen : ((List.replicate n d).flatMap enc).length = n * k := by rw [flat_len hk, List.length_replicate]
  apply Array.ext
  · simp [madeCells, hlen]
  · intro i h1 h2
    have hi : i < n * k := by simpa [madeCells] using h1
    have hd : i / k < n := by rw [Nat.div_lt_iff_lt_mul hk0]; exact hi
    have h3 := flat_get hk (List.replicate n d) (i / k) (i % k) (Nat.mod_lt _ hk0) (by rw [List.length_replicate]; exact hd)
    rw [show i / k * k + i % k = i by rw [Nat.mul_comm]; exact Nat.div_add_mod i k] at h3
    have h4 : (List.replicate n d)[i / k]? = some d := by rw [List.getElem?_replicate, if_pos hd]
    rw [h4] at h3
    simp only [Option.bind_some] at h3
    have hm : i % k < (enc d).length := by rw [hk]; exact Nat.mod_lt _ hk0
    rw [List.getElem?_eq_getElem (by rw [hlen]; exact hi), List.getElem?_eq_getElem hm] at h3
    have h5 := Option.some.inj h3
    simp only [madeCells, Array.getElem_map, Array.getElem_range, List.size_toArray, hk, List.getElem_toArray, h5]
    rw [getElem!_pos (enc d).toArray (i % k) (by simpa using hm)]
    simp
theorem run_make_flat {α : Type} {enc : α → List Value} {k : Nat} (hk : ∀ x, (enc x).length = k) (hk0 : 0 < k) (d : α) (t e : TypeId) (z : Value) (bytes : Nat) (ht : Tryz.prog.underlying t = some (.slice e)) (hinfo : (Tryz.prog.info? e).map (fun i => (i.zero, i.size, i.bytes)) = some (some z, k, bytes)) (hz : z.cells = (enc d).toArray)
    (n : Nat) (hn : n ≤ 1000) (hb : bytes ≤ 1000000) (W : World) : (Instr.makeSlice t (.int .i64 (n : Int)) (.int .i64 (n : Int))).run Tryz.prog W = .ok (.slice (some ⟨W.heap.size, 0, none⟩) n n) (W.alloc (.cells ((List.replicate n d).flatMap enc).toArray e)) := by
  obtain ⟨i, hi, hzz⟩ := Option.map_eq_some_iff.1 hinfo
  simp only [Prod.mk.injEq] at hzz
  obtain ⟨hz', hs, hb'⟩ := hzz
  have hle : bytes * n ≤ 1000000 * 1000 := Nat.mul_le_mul hb hn
  have hbi : (i.bytes : Int) * (n : Int) ≤ 281474976710656 := by
    have h : ((i.bytes * n : Nat) : Int) ≤ 281474976710656 := by rw [hb']; omega
    rwa [Int.natCast_mul] at h
  have hr := run_make (P := Tryz.prog) W t e i z ht hi hz' .i64 .i64 n n (by omega) (Int.le_refl _) hbi (by omega)
  simp only [Int.toNat_natCast, hs, hz] at hr
  rw [made_flat hk hk0] at hr
  exact hr
theorem run_make_arcs (n : Nat) (hn : n ≤ 1000) (W : World) : (Instr.makeSlice 119 (.int .i64 (n : Int)) (.int .i64 (n : Int))).run Tryz.prog W = .ok (.slice (some ⟨W.heap.size, 0, none⟩) n n) (W.alloc (.cells ((List.replicate n (⟨0, 0, 0, 0, 0⟩ : Ar)).flatMap encA).toArray 124)) :=
  run_make_flat encA_len (by decide) ⟨0, 0, 0, 0, 0⟩ _ _ (.agg #[.int .i64 0, .int .i64 0, .int .i64 0, .int .i64 0, .int .i64 0]) 40 Tryz.underlying119 (by kernel_rfl) rfl n hn (by decide) W
theorem run_make_bools (n : Nat) (hn : n ≤ 1000) (W : World) : (Instr.makeSlice 89 (.int .i64 (n : Int)) (.int .i64 (n : Int))).run Tryz.prog W = .ok (.slice (some ⟨W.heap.size, 0, none⟩) n n) (W.alloc (.cells ((List.replicate n false).flatMap encB).toArray 4)) :=
  run_make_flat encB_len (by decide) false _ _ (.bool false) 1 Tryz.underlying89 (by kernel_rfl) rfl n hn (by decide) W
end Go.Proofs.YtjnpchoinncbnaaGreat
end
