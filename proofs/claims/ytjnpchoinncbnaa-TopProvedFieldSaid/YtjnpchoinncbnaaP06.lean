/- Proves parts of the statement, each under the conditions that its theorem states: SolD; The shortest ways: the nearest node that is not done; The shortest ways: one arc looked at; The shortest ways: a round of the loop over the arcs. -/
import Derived.Test.YtjnpchoinncbnaaP05
import Derived.Test.YtjnpchoinncbnaaP03
import Derived.Test.YtjnpchoinncbnaaP04
section
set_option linter.unusedSimpArgs false
set_option linter.unusedVariables false
namespace Go.Proofs.Ytjnpchoinncbnaa
open Go.RowKit Sw Fam
set_option maxHeartbeats 4000000 in
set_option maxRecDepth 100000 in
theorem arcs1_body {m l sb nb S X i u M b o b1 o1 ei ef et L L' : Nat} {ej xi : Int} {ek cA : Nat} {W : World} {R : World → Prop} {Q : Exit → Act → World → Prop} {u3 u4 u5 u6 u7 u8 u9 u10 u11 u12 u13 u15 u17 u18 u19 u20 u21 u22 u23 u24 u25 u26 u27 u28 u29 u30 u31 u32 u33 u34 u35 u36 u37 u38 u39 u40 u41 u42 u43 u44 u45 u46 u47 u48 u49 u50 u51 u52 u53 u54 u55 u56 u57 u58 u59 u60 u61 u62 u63 u64 u65 u66 u67 u68 u69 u70 u71 u72 u73 u74 u75 : Value}
    (hil : i < L) (L6 : L ≤ 600)
    (q3 : W.cell? ⟨b, o + i, none⟩ = some (.int .i64 ei))
    (s0 : W.cell? ⟨sb, 0, none⟩ = some (.pointer (some ⟨S, 0, none⟩))) (n0 : W.cell? ⟨nb, 0, none⟩ = some (.int .i64 u))
    (r1 : W.cell? ⟨S, 1, none⟩ = some (.slice (some ⟨b1, o1, none⟩) M cA)) (r2 : W.cell? ⟨S, 2, none⟩ = some (.slice (some ⟨X, 0, none⟩) M M))
    (he : ei < M) (hM : M ≤ 600)
    (e0 : W.cell? ⟨b1, o1 + ei * 4, none⟩ = some (.int .i64 ef)) (e1 : W.cell? ⟨b1, o1 + ei * 4 + 1, none⟩ = some (.int .i64 et)) (e2 : W.cell? ⟨b1, o1 + ei * 4 + 2, none⟩ = some (.int .i64 ej)) (e3 : W.cell? ⟨b1, o1 + ei * 4 + 3, none⟩ = some (.int .i64 ek))
    (xc : W.cell? ⟨X, ei, none⟩ = some (.int .i64 xi)) (xb : -1000 ≤ xi ∧ xi ≤ 1000) (kb : ek ≤ 1000) (jb : -1000 ≤ ej ∧ ej ≤ 1000)
    (hY : ∀ W' ar, Below W.heap.size W W' → ar = (if et = u then ⟨ei, ef, -1, ek + xi, ej⟩ else ⟨ei, et, 1, ek - xi, -ej⟩) → (0 < ar.room → RoundA l ar W' R) ∧ (¬ 0 < ar.room → R W'))
    (hQ : ∀ v5 v6 v7 v18 v19 v20 v21 v22 v23 v24 v25 v26 v27 v28 v29 v30 v31 v32 v33 v34 v35 v36 v37 v38 v39 v40 v41 v42 v43 v44 v45 v46 v47 v48 v49 v50 v51 v52 v53 v54 v55 v56 v57 v58 v59 v60 v61 v62 v63 v64 v65 v66 v67 v68 v69 v70 v71 v72 v73 v74 w', R w' →
      Q .normal ⟨#[.func (.yield l) #[] #[], .pointer (some ⟨sb, 0, none⟩), .pointer (some ⟨nb, 0, none⟩), u3, u4, v5, v6, v7, u8, u9, u10, u11, u12, u13, .slice (some ⟨b, o, none⟩) L L', u15, .int .i64 i, u17, v18, v19, v20, v21, v22, v23, v24, v25, v26, v27, v28, v29, v30, v31, v32, v33, v34, v35, v36, v37, v38, v39, v40, v41, v42, v43, v44, v45, v46, v47, v48, v49, v50, v51, v52, v53, v54, v55, v56, v57, v58, v59, v60, v61, v62, v63, v64, v65, v66, v67, v68, v69, v70, v71, v72, v73, v74, u75], []⟩ w') :
    Code.wpIn Fence.wide m Try.prog (Try.f65.sub [1, 0, 0, 1, 1, 0, 0]) Q ⟨#[.func (.yield l) #[] #[], .pointer (some ⟨sb, 0, none⟩), .pointer (some ⟨nb, 0, none⟩), u3, u4, u5, u6, u7, u8, u9, u10, u11, u12, u13, .slice (some ⟨b, o, none⟩) L L', u15, .int .i64 i, u17, u18, u19, u20, u21, u22, u23, u24, u25, u26, u27, u28, u29, u30, u31, u32, u33, u34, u35, u36, u37, u38, u39, u40, u41, u42, u43, u44, u45, u46, u47, u48, u49, u50, u51, u52, u53, u54, u55, u56, u57, u58, u59, u60, u61, u62, u63, u64, u65, u66, u67, u68, u69, u70, u71, u72, u73, u74, u75], []⟩ W := by
  show Code.wpIn Fence.wide m Try.prog (.seq (Try.f65.sub [1, 0, 0, 1, 1, 0, 0, 0]) (.seq (Try.f65.sub [1, 0, 0, 1, 1, 0, 0, 1, 0]) (.seq (Try.f65.sub [1, 0, 0, 1, 1, 0, 0, 1, 1, 0]) (.seq (Try.f65.sub [1, 0, 0, 1, 1, 0, 0, 1, 1, 1, 0]) (Try.f65.sub [1, 0, 0, 1, 1, 0, 0, 1, 1, 1, 1]))))) _ _ _
  have HQ := Lib.hid hQ; clear hQ
  have HY := Lib.hid hY; clear hY
  refine wpIn_seq ?_
  conv => arg 4; whnf
  dsimp only
  gi_wp2_with fail
  conv => arg 4; whnf
  have b1lt : b1 < W.heap.size := World.block_lt_of_cell? _ _ e0
  have Slt : S < W.heap.size := World.block_lt_of_cell? _ _ r1
  have sblt : sb < W.heap.size := World.block_lt_of_cell? _ _ s0
  have nblt : nb < W.heap.size := World.block_lt_of_cell? _ _ n0
  have Xlt : X < W.heap.size := World.block_lt_of_cell? _ _ xc
  gi_wp2_with fail
  refine nameW ?_
  intro W1 hW1
  have hB1 : Below W.heap.size W W1 := by rw [hW1]; exact (Below.refl _ _).alloc (Nat.le_refl _) _
  have t0 : W1.cell? ⟨W.heap.size, 0, none⟩ = some (.int .i64 ef) := by rw [hW1]; simp
  have t1 : W1.cell? ⟨W.heap.size, 1, none⟩ = some (.int .i64 et) := by rw [hW1]; simp
  have t2 : W1.cell? ⟨W.heap.size, 2, none⟩ = some (.int .i64 ej) := by rw [hW1]; simp
  have t3 : W1.cell? ⟨W.heap.size, 3, none⟩ = some (.int .i64 ek) := by rw [hW1]; simp
  have hz1 : W1.heap.size = W.heap.size + 1 := by rw [hW1]; simp
  clear hW1 e0 e1 e2 e3
  refine arcs1_make (cellB hB1 s0) (cellB hB1 r2) he (cellB hB1 xc) xb kb jb t1 t2 t3 ?_
  intro B v29 v30 v31 v32 v33 v34 v35 v36 v37 v38 v39 v40 v41 v42 v43 v44 v45 W2 hle hB2 hf a0 a1 a2 a3 a4
  rename_i K3 hK3 
  have hB12 : Below W.heap.size W W2 := hB1.trans (hB2.mono (by omega))
  refine hK3 _ _ ?_
  refine wpIn_seq ?_
  refine arcs1_turn (by omega) ⟨by omega, by omega, by omega, by omega⟩ (cellB hB12 s0) (cellB hB12 n0) (cellB hB12 r2) he (cellB hB12 xc) xb kb (cellB hB2 t0) (cellB hB2 t1) (cellB hB2 t2) (cellB hB2 t3) hf a0 a1 a2 a3 a4 ?_
  intro v46 v47 v48 v49 v50 v51 v52 v53 v54 v55 v56 v57 v58 v59 v60 v61 v62 v63 v64 v65 W3 ar har hB3 c0 c1 c2 c3 c4
  have hB13 : Below W.heap.size W W3 := hB12.trans (hB3.mono (by omega))
  obtain ⟨y1, y2⟩ := HY.out W3 ar hB13 har
  refine arcs1_tail c0 c1 c2 c3 c4 y1 (fun h => y2 (by omega)) ?_
  intro v66 v67 v68 v69 v70 v71 v72 v73 v74 W4 hR
  exact HQ.out _ _ _ _ _ _ _ _ _ _ _ _ _ _ _ _ _ _ _ _ _ _ _ _ _ _ _ _ _ _ _ _ _ _ _ _ _ _ _ _ _ _ _ _ _ _ _ _ _ _ _ _ _ _ _ _ _ _ _ _ W4 hR
def LoopA (es : List Ed) (x : List Int) (sb nb l : Nat) (J : Nat → World → Prop) (un : Nat) (d14 : Value) (a : Act) (w : World) : Prop :=
  ∃ i : Nat, i ≤ (adj es un).length ∧ J (arcsK es x un i).length w ∧ Fr 76 [(0, .func (.yield l) #[] #[]), (1, .pointer (some ⟨sb, 0, none⟩)), (2, .pointer (some ⟨nb, 0, none⟩)), (14, d14), (15, .int .i64 (adj es un).length), (16, .int .i64 i)] a
set_option maxHeartbeats 4000000 in
set_option maxRecDepth 100000 in
theorem arcs1_in (l : Nat) {v : Loc} {n J0 : Nat} {es : List Ed} (hg : Gd n J0 es) {x p ex : List Int} (hx : Fits es x p) (u : Nat) (hu : u < n) (sb nb : Nat) (J : Nat → World → Prop)
    (hK : ∀ k W W', J k W → Below W.heap.size W W' → J k W')
    (hS : ∀ k W, J k W → SvM W v n es x p ex ∧ W.cell? ⟨sb, 0, none⟩ = some (.pointer (some ⟨v.S, 0, none⟩)) ∧ W.cell? ⟨nb, 0, none⟩ = some (.int .i64 u))
    (hY : ∀ k W, k < (arcs es x u).length → J k W → RoundA l (ga (arcs es x u) k) W (J (k + 1))) (W : World) (h0 : J 0 W) :
    CallsIn Fence.wide 3 Try.prog 65 #[.func (.yield l) #[] #[], .pointer (some ⟨sb, 0, none⟩), .pointer (some ⟨nb, 0, none⟩)] W (fun e W' => (∃ r, e = .returned r) ∧ J (arcs es x u).length W') := by
  refine callsIn_of_wp Try.func65 rfl trivial ?_ rfl
  simp only [Try.ntmps65, List.size_toArray, List.length_cons, List.length_nil, Nat.reduceAdd, Nat.reduceSub, Array.replicate_succ, Array.replicate_zero, List.push_toArray, List.append_toArray, List.nil_append, List.cons_append]
  obtain ⟨hS0, hsb, hnb⟩ := hS 0 W h0
  have HSv := Lib.hid hS0; clear hS0
  have hc5 := HSv.out.c5
  obtain ⟨hr1, hr2⟩ := HSv.out.rows u hu
  have HR := Lib.hid hr2; clear hr2
  have hul : (u : Int) < n := by omega
  have hn := hg.n_le
  have hal : (adj es u).length ≤ 600 := by
    have h1 : (adj es u).length ≤ es.length := by unfold adj; exact Nat.le_trans (List.length_filter_le _ _) (by simp)
    exact Nat.le_trans h1 hg.m_le
  have HG := Lib.hid hg; clear hg
  have HFx := Lib.hid hx; clear hx
  have HKk := Lib.hid hK; clear hK
  have HSk := Lib.hid hS; clear hS
  have HYk := Lib.hid hY; clear hY
  show Code.wpIn Fence.wide 3 Try.prog (.seq (Try.f65.sub [0]) (.block 0 (.loop (Try.f65.sub [1, 0, 0])))) _ _ _
  refine wpIn_seq ?_
  conv => arg 4; whnf
  refine regionIn_reads (.inl rfl) (by kernel_rfl) (by kernel_rfl) (by kernel_rfl) ?_
  repeat (go_big_quiet_step (fail))
  refine wpQuiet_nil ?_
  intro _ hw'
  obtain ⟨nq, rfl⟩ := hw'
  refine wpIn_block ?_
  refine wpIn_loop (LoopA es x sb nb l J u (.slice (v.row u) (adj es u).length (v.rcap u))) (fun a _ => (adj es u).length - (intOf (a.tmps.getD 16 undef)).toNat) ⟨0, Nat.zero_le _, HKk.out 0 W _ h0 (below_drewN (Below.refl _ _) nq), by (refine ⟨rfl, rfl, ?_⟩; repeat (first | exact trivial | refine ⟨rfl, ?_⟩))⟩ ?_
  clear hsb hnb hc5 hr1 HSv HR h0
  rintro a wr ⟨i, hi, hJ, hfr⟩
  obtain ⟨t, rfl⟩ := hfr.open
  clear hfr
  obtain ⟨hS1, hsb1, hnb1⟩ := HSk.out _ _ hJ
  have HS1 := Lib.hid hS1; clear hS1
  have HJ := Lib.hid hJ; clear hJ
  generalize hmu : (adj es u).length - (intOf ((⟨frL 76 _ t, []⟩ : Act).tmps.getD 16 undef)).toNat = mu
  have hmu' : (adj es u).length - i = mu := by rw [← hmu]; rfl
  clear hmu
  show Code.wpIn Fence.wide 3 Try.prog (.seq (Try.f65.sub [1, 0, 0, 0]) (.seq (Try.f65.sub [1, 0, 0, 1, 0]) (.seq (.block 1 (Try.f65.sub [1, 0, 0, 1, 1, 0, 0])) (Try.f65.sub [1, 0, 0, 1, 1, 1])))) _ ⟨#[.func (.yield l) #[] #[], .pointer (some ⟨sb, 0, none⟩), .pointer (some ⟨nb, 0, none⟩), (t 3), (t 4), (t 5), (t 6), (t 7), (t 8), (t 9), (t 10), (t 11), (t 12), (t 13), .slice (v.row u) (adj es u).length (v.rcap u), .int .i64 (adj es u).length, .int .i64 i, (t 17), (t 18), (t 19), (t 20), (t 21), (t 22), (t 23), (t 24), (t 25), (t 26), (t 27), (t 28), (t 29), (t 30), (t 31), (t 32), (t 33), (t 34), (t 35), (t 36), (t 37), (t 38), (t 39), (t 40), (t 41), (t 42), (t 43), (t 44), (t 45), (t 46), (t 47), (t 48), (t 49), (t 50), (t 51), (t 52), (t 53), (t 54), (t 55), (t 56), (t 57), (t 58), (t 59), (t 60), (t 61), (t 62), (t 63), (t 64), (t 65), (t 66), (t 67), (t 68), (t 69), (t 70), (t 71), (t 72), (t 73), (t 74), (t 75)], []⟩ _
  refine wpIn_seq ?_
  conv => arg 4; whnf
  dsimp only
  by_cases hlt : i < (adj es u).length
  · gi_wp2_with fail
    conv => arg 4; whnf
    gi_wp2_with fail
    obtain ⟨he, hfu⟩ := adj_edge hlt
    obtain ⟨j1, j2⟩ := HG.out.jump _ he
    have hw1 := HG.out.wt _ he
    have hJ0 := HG.out.J_le
    have hm6 := HG.out.m_le
    obtain ⟨f1, f2⟩ := (HFx.out _ he).1
    obtain ⟨q1, q2⟩ := HS1.out.rows u hu
    obtain ⟨b, o, hAu, hb, q3⟩ := q2 i hlt
    obtain ⟨b1, o1, hA, hb1, e0, e1, e2, e3⟩ := HS1.out.ed _ he
    have hxc := HS1.out.fl.cell (j := gn (adj es u) i) (by rw [← HS1.out.lenx]; exact he)
    have r1 := HS1.out.c1
    rw [hA] at r1
    rw [hAu]
    rename_i K4 hK4
    refine arcs1_body (R := J (arcsK es x u (i + 1)).length) hlt hal q3 hsb1 hnb1 r1 HS1.out.c2 he hm6 e0 e1 e2 e3 hxc ⟨by omega, by omega⟩ hw1 ⟨by omega, by omega⟩ ?_ ?_
    · intro W' ar hB har
      have hJ' := HKk.out _ _ _ HJ.out hB
      rw [arcsK_succ hlt]
      rw [show ar = arcAt es x u (gn (adj es u) i) from har]
      refine ⟨fun hr => ?_, fun hr => ?_⟩
      · obtain ⟨k1, k2⟩ := arcsK_here hlt hr
        rw [if_pos hr, List.length_append, ← k2]
        exact HYk.out _ W' k1 hJ'
      · rw [if_neg hr, List.append_nil]; exact hJ'
    · intros
      rename_i w3 hJ3
      have HJ3 := Lib.hid hJ3; clear hJ3
      refine hK4 _ _ ?_
      conv => arg 4; whnf
      dsimp only
      gi_wp2_with fail
      refine ⟨⟨i + 1, by omega, HJ3.out, rfl, rfl, rfl, rfl, rfl, by rw [hAu]; rfl, rfl, rfl, trivial⟩, ?_⟩
      show (adj es u).length - ((i : Int) + 1).toNat < mu
      omega
  · gi_wp2_with fail
    conv => arg 4; whnf
    gi_wp2_with fail
    go_end0
    refine ⟨⟨_, rfl⟩, ?_⟩
    have : i = (adj es u).length := by omega
    subst this
    rw [← arcsK_all]; exact HJ.out
end Go.Proofs.Ytjnpchoinncbnaa
end

section
set_option linter.unusedSimpArgs false
set_option linter.unusedVariables false
namespace Go.Proofs.Ytjnpchoinncbnaa
open Go.RowKit Sw Fam
structure TourM (w : World) (tb lb ab bb db n : Nat) (l : List Int) (last : List Ar) (bef : List Nat) (done : List Bool) : Prop where
  blk : w.heap[tb]? = some (.cells #[.slice (some ⟨lb, 0, none⟩) n n, .slice (some ⟨ab, 0, none⟩) n n, .slice (some ⟨bb, 0, none⟩) n n] 96 (0, 0))
  len : IntB w lb l
  lst : FlB encA 99 w ab last
  bfr : IntB w bb (bef.map Int.ofNat)
  dn : BoolB w db done
  ll : l.length = n
  la : last.length = n
  lb' : bef.length = n
  ld : done.length = n
  lbb : lb ≠ bb
section
variable {w : World} {tb lb ab bb db n : Nat} {l : List Int} {last : List Ar} {bef : List Nat} {done : List Bool}
theorem TourM.keep {w' : World} (h : TourM w tb lb ab bb db n l last bef done) (hb : Below w.heap.size w w') : TourM w' tb lb ab bb db n l last bef done :=
  ⟨(hb.block _ (Array.getElem?_eq_some_iff.1 h.blk).1).trans h.blk, h.len.keep hb, FlB.keep h.lst hb, h.bfr.keep hb, FlB.keep h.dn hb, h.ll, h.la, h.lb', h.ld, h.lbb⟩
theorem TourM.c0 (h : TourM w tb lb ab bb db n l last bef done) : w.cell? ⟨tb, 0, none⟩ = some (.slice (some ⟨lb, 0, none⟩) n n) := by simp [World.cell?, h.blk]
theorem TourM.c1 (h : TourM w tb lb ab bb db n l last bef done) : w.cell? ⟨tb, 1, none⟩ = some (.slice (some ⟨ab, 0, none⟩) n n) := by simp [World.cell?, h.blk]
theorem TourM.c2 (h : TourM w tb lb ab bb db n l last bef done) : w.cell? ⟨tb, 2, none⟩ = some (.slice (some ⟨bb, 0, none⟩) n n) := by simp [World.cell?, h.blk]
end
structure MinK (n : Nat) (l : List Int) (done : List Bool) (i : Nat) (k : Int) : Prop where
  lo : -1 ≤ k
  hi : k < n
  none : k = -1 → ∀ v, v < i → gb done v = false → ¬ gi l v < far
  some : 0 ≤ k → gb done k.toNat = false ∧ gi l k.toNat < far ∧ ∀ v, v < i → gb done v = false → gi l v < far → gi l k.toNat ≤ gi l v
theorem MinK.skip {n : Nat} {l : List Int} {done : List Bool} {i : Nat} {k : Int} (h : MinK n l done i k) (hs : gb done i = true ∨ ¬ gi l i < far ∨ (0 ≤ k ∧ ¬ gi l i < gi l k.toNat)) : MinK n l done (i + 1) k := by
  refine ⟨h.lo, h.hi, fun e v hv hd => ?_, fun e => ⟨(h.some e).1, (h.some e).2.1, fun v hv hd hl => ?_⟩⟩
  · by_cases hvi : v = i
    · subst hvi
      rcases hs with hs | hs | hs
      · rw [hs] at hd; cases hd
      · exact hs
      · omega
    · exact h.none e v (by omega) hd
  · by_cases hvi : v = i
    · subst hvi
      rcases hs with hs | hs | hs
      · rw [hs] at hd; cases hd
      · exact absurd hl hs
      · omega
    · exact (h.some e).2.2 v (by omega) hd hl
theorem MinK.take {n : Nat} {l : List Int} {done : List Bool} {i : Nat} {k : Int} (h : MinK n l done i k) (hi : i < n) (hd : gb done i = false) (hl : gi l i < far) (hk : k < 0 ∨ gi l i < gi l k.toNat) : MinK n l done (i + 1) i := by
  refine ⟨by omega, by omega, fun e => by omega, fun _ => ?_⟩
  rw [Int.toNat_natCast]
  refine ⟨hd, hl, fun v hv hdv hlv => ?_⟩
  by_cases hvi : v = i
  · subst hvi; exact Int.le_refl _
  · by_cases hk0 : 0 ≤ k
    · have := (h.some hk0).2.2 v (by omega) hdv hlv; rcases hk with hk | hk <;> omega
    · exact absurd hlv (h.none (by have := h.lo; omega) v (by omega) hdv)

def LoopMin (W0 : World) (tb lb db at' n : Nat) (l : List Int) (done : List Bool) (ds : List Deferred) (fr : List (Nat × Value)) (a : Act) (w : World) : Prop :=
  ∃ (i : Nat) (k : Int), i ≤ n ∧ MinK n l done i k ∧ Below at' W0 w ∧ w.cell? ⟨at', 0, none⟩ = some (.int .i64 k) ∧ w.frozen? ⟨at', 0, none⟩ = false ∧ FrD 139 ds ((47, .slice (some ⟨lb, 0, none⟩) n n) :: (48, .int .i64 n) :: (49, .int .i64 i) :: fr) a
set_option maxHeartbeats 4000000 in
set_option maxRecDepth 100000 in
theorem ways_min {ds : List Deferred} {m tb lb ab bb db n at' sb rb : Nat} {s0 src : Value} {l : List Int} {last : List Ar} {bef : List Nat} {done : List Bool} {W : World} {Q : Exit → Act → World → Prop} {u3 u8 u9 u10 u11 u12 u13 u14 u15 u16 u17 u18 u19 u20 u21 u22 u23 u24 u25 u26 u27 u28 u29 u30 u31 u32 u33 u34 u35 u36 u37 u38 u39 u40 u41 u42 u43 u44 u45 u46 u47 u48 u49 u50 u51 u52 u53 u54 u55 u56 u57 u58 u59 u60 u61 u62 u63 u64 u65 u66 u67 u68 u69 u70 u71 u72 u73 u74 u75 u76 u77 u78 u79 u80 u81 u82 u83 u84 u85 u86 u87 u88 u89 u90 u91 u92 u93 u94 u95 u96 u97 u98 u99 u100 u101 u102 u103 u104 u105 u106 u107 u108 u109 u110 u111 u112 u113 u114 u115 u116 u117 u118 u119 u120 u121 u122 u123 u124 u125 u126 u127 u128 u129 u130 u131 u132 u133 u134 u135 u136 u137 u138 : Value}
    (hT : TourM W tb lb ab bb db n l last bef done) (hn : n ≤ 1000) (hat : W.cell? ⟨at', 0, none⟩ = some (.int .i64 (-1))) (hfz : W.frozen? ⟨at', 0, none⟩ = false) (hlt : tb < at' ∧ lb < at' ∧ db < at')
    (hQ : ∀ a w' k, MinK n l done n k → Below at' W w' → w'.cell? ⟨at', 0, none⟩ = some (.int .i64 k) → w'.frozen? ⟨at', 0, none⟩ = false →
      FrD 139 ds [(0, s0), (1, src), (2, .pointer (some ⟨sb, 0, none⟩)), (4, .pointer (some ⟨rb, 0, none⟩)), (5, .pointer (some ⟨tb, 0, none⟩)), (6, .slice (some ⟨db, 0, none⟩) n n), (7, .pointer (some ⟨at', 0, none⟩))] a → Q .normal a w') :
    Code.wpIn Fence.wide m Try.prog (Try.f58.sub [1, 1, 1, 1, 0, 0, 0, 1, 0]) Q ⟨#[s0, src, .pointer (some ⟨sb, 0, none⟩), u3, .pointer (some ⟨rb, 0, none⟩), .pointer (some ⟨tb, 0, none⟩), .slice (some ⟨db, 0, none⟩) n n, .pointer (some ⟨at', 0, none⟩), u8, u9, u10, u11, u12, u13, u14, u15, u16, u17, u18, u19, u20, u21, u22, u23, u24, u25, u26, u27, u28, u29, u30, u31, u32, u33, u34, u35, u36, u37, u38, u39, u40, u41, u42, u43, u44, u45, u46, u47, u48, u49, u50, u51, u52, u53, u54, u55, u56, u57, u58, u59, u60, u61, u62, u63, u64, u65, u66, u67, u68, u69, u70, u71, u72, u73, u74, u75, u76, u77, u78, u79, u80, u81, u82, u83, u84, u85, u86, u87, u88, u89, u90, u91, u92, u93, u94, u95, u96, u97, u98, u99, u100, u101, u102, u103, u104, u105, u106, u107, u108, u109, u110, u111, u112, u113, u114, u115, u116, u117, u118, u119, u120, u121, u122, u123, u124, u125, u126, u127, u128, u129, u130, u131, u132, u133, u134, u135, u136, u137, u138], ds⟩ W := by
  have HQ := Lib.hid hQ; clear hQ
  have HT := Lib.hid hT; clear hT
  have c0 := HT.out.c0
  show Code.wpIn Fence.wide m Try.prog (.seq (Try.f58.sub [1, 1, 1, 1, 0, 0, 0, 1, 0, 0]) (.block 2 (.loop (Try.f58.sub [1, 1, 1, 1, 0, 0, 0, 1, 0, 1, 0, 0])))) _ _ _
  refine wpIn_seq ?_
  conv => arg 4; whnf
  dsimp only
  gi_wp2_with fail
  refine wpIn_loop (LoopMin W tb lb db at' n l done ds [(0, s0), (1, src), (2, .pointer (some ⟨sb, 0, none⟩)), (4, .pointer (some ⟨rb, 0, none⟩)), (5, .pointer (some ⟨tb, 0, none⟩)), (6, .slice (some ⟨db, 0, none⟩) n n), (7, .pointer (some ⟨at', 0, none⟩))]) (fun a _ => n - (intOf (a.tmps.getD 49 undef)).toNat) ⟨0, -1, Nat.zero_le _, ⟨by omega, by omega, fun _ v hv => by omega, fun h => by omega⟩, Below.refl _ _, hat, hfz, by (refine ⟨rfl, rfl, ?_⟩; repeat (first | exact trivial | refine ⟨rfl, ?_⟩))⟩ ?_
  obtain ⟨hlt1, hlt2, hlt3⟩ := hlt
  clear hat hfz c0
  rintro a wr ⟨i, k, hi, hM, hB, hat, hfz, hfr⟩
  obtain ⟨t, rfl⟩ := hfr.open
  clear hfr
  generalize hmu : n - (intOf ((⟨frL 139 _ t, ds⟩ : Act).tmps.getD 49 undef)).toNat = mu
  have hmu' : n - i = mu := by rw [← hmu]; rfl
  clear hmu
  show Code.wpIn Fence.wide m Try.prog (.seq (Try.f58.sub [1, 1, 1, 1, 0, 0, 0, 1, 0, 1, 0, 0, 0]) (.seq (Try.f58.sub [1, 1, 1, 1, 0, 0, 0, 1, 0, 1, 0, 0, 1, 0]) (.seq (.block 3 (Try.f58.sub [1, 1, 1, 1, 0, 0, 0, 1, 0, 1, 0, 0, 1, 1, 0, 0])) (Try.f58.sub [1, 1, 1, 1, 0, 0, 0, 1, 0, 1, 0, 0, 1, 1, 1])))) _ ⟨#[s0, src, .pointer (some ⟨sb, 0, none⟩), (t 3), .pointer (some ⟨rb, 0, none⟩), .pointer (some ⟨tb, 0, none⟩), .slice (some ⟨db, 0, none⟩) n n, .pointer (some ⟨at', 0, none⟩), (t 8), (t 9), (t 10), (t 11), (t 12), (t 13), (t 14), (t 15), (t 16), (t 17), (t 18), (t 19), (t 20), (t 21), (t 22), (t 23), (t 24), (t 25), (t 26), (t 27), (t 28), (t 29), (t 30), (t 31), (t 32), (t 33), (t 34), (t 35), (t 36), (t 37), (t 38), (t 39), (t 40), (t 41), (t 42), (t 43), (t 44), (t 45), (t 46), .slice (some ⟨lb, 0, none⟩) n n, .int .i64 n, .int .i64 i, (t 50), (t 51), (t 52), (t 53), (t 54), (t 55), (t 56), (t 57), (t 58), (t 59), (t 60), (t 61), (t 62), (t 63), (t 64), (t 65), (t 66), (t 67), (t 68), (t 69), (t 70), (t 71), (t 72), (t 73), (t 74), (t 75), (t 76), (t 77), (t 78), (t 79), (t 80), (t 81), (t 82), (t 83), (t 84), (t 85), (t 86), (t 87), (t 88), (t 89), (t 90), (t 91), (t 92), (t 93), (t 94), (t 95), (t 96), (t 97), (t 98), (t 99), (t 100), (t 101), (t 102), (t 103), (t 104), (t 105), (t 106), (t 107), (t 108), (t 109), (t 110), (t 111), (t 112), (t 113), (t 114), (t 115), (t 116), (t 117), (t 118), (t 119), (t 120), (t 121), (t 122), (t 123), (t 124), (t 125), (t 126), (t 127), (t 128), (t 129), (t 130), (t 131), (t 132), (t 133), (t 134), (t 135), (t 136), (t 137), (t 138)], ds⟩ _
  refine wpIn_seq ?_
  conv => arg 4; whnf
  dsimp only
  have HB := Lib.hid hB
  have HM := Lib.hid hM
  obtain ⟨klo, khi⟩ : -1 ≤ k ∧ k < n := ⟨hM.lo, hM.hi⟩
  have c0 : wr.cell? ⟨tb, 0, none⟩ = some (.slice (some ⟨lb, 0, none⟩) n n) := (hB.cell (show tb < at' by omega)).trans HT.out.c0
  by_cases hlt : i < n
  · gi_wp2_with fail
    conv => arg 4; whnf
    gi_wp2_with fail
    conv => arg 4; whnf
    have cl : wr.cell? ⟨lb, i, none⟩ = some (.int .i64 (gi l i)) := (hB.cell hlt2).trans (HT.out.len.cell (by rw [HT.out.ll]; exact hlt))
    have cd : wr.cell? ⟨db, i, none⟩ = some (.bool (gb done i)) := (hB.cell hlt3).trans (HT.out.dn.cell (by rw [HT.out.ld]; exact hlt))
    clear hB hM
    rename_i K4 hK4
    have done3 : ∀ (w3 : World) (k3 : Int) (a3 : Act), MinK n l done (i + 1) k3 → Below at' W w3 → w3.cell? ⟨at', 0, none⟩ = some (.int .i64 k3) → w3.frozen? ⟨at', 0, none⟩ = false →
        FrD 139 ds ((47, .slice (some ⟨lb, 0, none⟩) n n) :: (48, .int .i64 n) :: (49, .int .i64 i) :: [(0, s0), (1, src), (2, .pointer (some ⟨sb, 0, none⟩)), (4, .pointer (some ⟨rb, 0, none⟩)), (5, .pointer (some ⟨tb, 0, none⟩)), (6, .slice (some ⟨db, 0, none⟩) n n), (7, .pointer (some ⟨at', 0, none⟩))]) a3 → K4 a3 w3 := by
      intro w3 k3 a3 h1 h2 h3 h4 h5
      refine hK4 _ _ ?_
      obtain ⟨t3, rfl⟩ := h5.open
      show Code.wpIn Fence.wide m Try.prog _ _ ⟨#[s0, src, .pointer (some ⟨sb, 0, none⟩), (t3 3), .pointer (some ⟨rb, 0, none⟩), .pointer (some ⟨tb, 0, none⟩), .slice (some ⟨db, 0, none⟩) n n, .pointer (some ⟨at', 0, none⟩), (t3 8), (t3 9), (t3 10), (t3 11), (t3 12), (t3 13), (t3 14), (t3 15), (t3 16), (t3 17), (t3 18), (t3 19), (t3 20), (t3 21), (t3 22), (t3 23), (t3 24), (t3 25), (t3 26), (t3 27), (t3 28), (t3 29), (t3 30), (t3 31), (t3 32), (t3 33), (t3 34), (t3 35), (t3 36), (t3 37), (t3 38), (t3 39), (t3 40), (t3 41), (t3 42), (t3 43), (t3 44), (t3 45), (t3 46), .slice (some ⟨lb, 0, none⟩) n n, .int .i64 n, .int .i64 i, (t3 50), (t3 51), (t3 52), (t3 53), (t3 54), (t3 55), (t3 56), (t3 57), (t3 58), (t3 59), (t3 60), (t3 61), (t3 62), (t3 63), (t3 64), (t3 65), (t3 66), (t3 67), (t3 68), (t3 69), (t3 70), (t3 71), (t3 72), (t3 73), (t3 74), (t3 75), (t3 76), (t3 77), (t3 78), (t3 79), (t3 80), (t3 81), (t3 82), (t3 83), (t3 84), (t3 85), (t3 86), (t3 87), (t3 88), (t3 89), (t3 90), (t3 91), (t3 92), (t3 93), (t3 94), (t3 95), (t3 96), (t3 97), (t3 98), (t3 99), (t3 100), (t3 101), (t3 102), (t3 103), (t3 104), (t3 105), (t3 106), (t3 107), (t3 108), (t3 109), (t3 110), (t3 111), (t3 112), (t3 113), (t3 114), (t3 115), (t3 116), (t3 117), (t3 118), (t3 119), (t3 120), (t3 121), (t3 122), (t3 123), (t3 124), (t3 125), (t3 126), (t3 127), (t3 128), (t3 129), (t3 130), (t3 131), (t3 132), (t3 133), (t3 134), (t3 135), (t3 136), (t3 137), (t3 138)], ds⟩ _
      conv => arg 4; whnf
      dsimp only
      have H1 := Lib.hid h1; clear h1
      have H2 := Lib.hid h2; clear h2
      have H34 := Lib.hid (And.intro h3 h4); clear h3 h4
      gi_wp2_with fail
      refine ⟨⟨i + 1, k3, by omega, H1.out, H2.out, H34.out.1, H34.out.2, by (refine ⟨rfl, rfl, ?_⟩; repeat (first | exact trivial | refine ⟨rfl, ?_⟩))⟩, ?_⟩
      show n - ((i : Int) + 1).toNat < mu
      omega
    have D3 := Lib.hid done3; clear done3 hK4
    cases hd : gb done i with
    | true =>
      rw [hd] at cd
      gi_wp2_with fail
      exact D3.out _ _ _ (HM.out.skip (.inl hd)) HB.out hat hfz (by (refine ⟨rfl, rfl, ?_⟩; repeat (first | exact trivial | refine ⟨rfl, ?_⟩)))
    | false =>
      rw [hd] at cd
      by_cases hf : gi l i < 1152921504606846976
      · by_cases hk : k < 0
        · gi_wp2_with fail
          exact D3.out _ i _ (HM.out.take hlt hd hf (.inl hk)) (HB.out.setCell (Nat.le_refl _) _) (World.cell?_setCell_same _ _ _ hat) (by rw [World.frozen?_setCell]; exact hfz) (by (refine ⟨rfl, rfl, ?_⟩; repeat (first | exact trivial | refine ⟨rfl, ?_⟩)))
        · obtain ⟨k', rfl⟩ : ∃ k' : Nat, k = k' := ⟨k.toNat, by omega⟩
          have hkn : k' < n := by omega
          have ck : wr.cell? ⟨lb, k', none⟩ = some (.int .i64 (gi l k')) := (HB.out.cell hlt2).trans (HT.out.len.cell (by rw [HT.out.ll]; exact hkn))
          by_cases hll : gi l i < gi l k'
          · gi_wp2_with fail
            exact D3.out _ i _ (HM.out.take hlt hd hf (.inr hll)) (HB.out.setCell (Nat.le_refl _) _) (World.cell?_setCell_same _ _ _ hat) (by rw [World.frozen?_setCell]; exact hfz) (by (refine ⟨rfl, rfl, ?_⟩; repeat (first | exact trivial | refine ⟨rfl, ?_⟩)))
          · gi_wp2_with fail
            exact D3.out _ _ _ (HM.out.skip (.inr (.inr ⟨by omega, by rw [Int.toNat_natCast]; omega⟩))) HB.out hat hfz (by (refine ⟨rfl, rfl, ?_⟩; repeat (first | exact trivial | refine ⟨rfl, ?_⟩)))
      · gi_wp2_with fail
        exact D3.out _ _ _ (HM.out.skip (.inr (.inl (by unfold far; omega)))) HB.out hat hfz (by (refine ⟨rfl, rfl, ?_⟩; repeat (first | exact trivial | refine ⟨rfl, ?_⟩)))
  · gi_wp2_with fail
    conv => arg 4; whnf
    gi_wp2_with fail
    have : i = n := by omega
    subst this
    exact HQ.out _ _ _ HM.out HB.out hat hfz (by (refine ⟨rfl, rfl, ?_⟩; repeat (first | exact trivial | refine ⟨rfl, ?_⟩)))
end Go.Proofs.Ytjnpchoinncbnaa
end

section
set_option linter.unusedSimpArgs false
set_option linter.unusedVariables false
namespace Go.Proofs.Ytjnpchoinncbnaa
open Go.RowKit Sw Fam
theorem arB_set {w : World} {b : Nat} {xs : List Ar} {e : TypeId} (h : FlB encA e w b xs) {j : Nat} (hj : j < xs.length) (y : Ar) : FlB encA e (w.setCells b (j * 5) (encA y)) b (xs.set j y) := by
  have key : ∀ (z y' : Ar) (i : Nat) (v : Value) (w : World), i < 5 → FlB encA e w b (xs.set j z) → encA y' = (encA z).set i v → FlB encA e (w.setCell ⟨b, j * 5 + i, none⟩ v) b (xs.set j y') := by
    intro z y' i v w hi hz he
    have := FlB.set encA_len hz (j := j) (i := i) (y := y') (v := v) hi (by simpa using hj) (by simpa using he)
    rwa [List.set_set] at this
  have h0 : FlB encA e w b (xs.set j xs[j]) := by rw [List.set_getElem_self]; exact h
  have h1 := key _ { xs[j] with e := y.e } 0 (.int .i64 y.e) _ (by omega) h0 rfl
  have h2 := key _ { xs[j] with e := y.e, to := y.to } 1 (.int .i64 y.to) _ (by omega) h1 rfl
  have h3 := key _ { xs[j] with e := y.e, to := y.to, s := y.s } 2 (.int .i64 y.s) _ (by omega) h2 rfl
  have h4 := key _ { xs[j] with e := y.e, to := y.to, s := y.s, room := y.room } 3 (.int .i64 y.room) _ (by omega) h3 rfl
  exact key _ y 4 (.int .i64 y.cost) _ (by omega) h4 rfl
theorem fl_cells {α : Type} {enc : α → List Value} {e : TypeId} {b ab : Nat} {xs : List α} (hne : b ≠ ab) : ∀ (vs : List Value) (o : Nat) (w : World), FlB enc e w b xs → FlB enc e (w.setCells ab o vs) b xs
  | [], _, _, h => h
  | v :: vs, o, w, h => by rw [World.setCells]; exact fl_cells hne vs _ _ (h.other hne v)
theorem arB_there {w : World} {b : Nat} {xs : List Ar} {e : TypeId} (h : FlB encA e w b xs) {j : Nat} (hj : j < xs.length) : w.there b (j * 5) 5 := fun i hi => by
  refine ⟨?_, h.frozen _⟩
  rw [FlB.cell encA_len h hi hj]
  have : i < (encA xs[j]).length := hi
  rw [List.getElem?_eq_getElem this]; rfl
structure C3 (W : World) (lb ab bb : Nat) (l l' : List Int) (last last' : List Ar) (bef bef' : List Int) (b1 b2 b3 : Bool) (w' : World) : Prop where
  tch : Tch [lb, ab, bb] W w'
  c1 : IntB w' lb (if b1 = true then l' else l)
  c2 : FlB encA 99 w' ab (if b2 = true then last' else last)
  c3 : IntB w' bb (if b3 = true then bef' else bef)
theorem C3.up {W : World} {lb ab bb : Nat} {l l' : List Int} {last last' : List Ar} {bef bef' : List Int} {L : Nat → Bool} {w : World} {i : Nat} (h1 : i ≠ 16) (h2 : i ≠ 18) (h3 : i ≠ 20) (h : C3 W lb ab bb l l' last last' bef bef' (L 16) (L 18) (L 20) w) :
    C3 W lb ab bb l l' last last' bef bef' (upd L i 16) (upd L i 18) (upd L i 20) w := by
  rw [upd_ne _ h1.symm, upd_ne _ h2.symm, upd_ne _ h3.symm]; exact h
set_option maxHeartbeats 4000000 in
set_option maxRecDepth 100000 in
theorem ways_relax {m rl tb lb ab bb db n at' ap u : Nat} {n2 : Int} {ar : Ar} {l : List Int} {last : List Ar} {bef : List Nat} {done : List Bool} {W : World} {Q : Exit → Act → World → Prop} {u0 u1 u2 u3 u4 u6 u8 u9 u12 u13 u14 u15 u16 u17 u18 u19 u20 u21 u22 u23 u24 u25 u26 u27 u28 u29 u30 u31 u32 u33 u34 u35 u36 u37 u38 u39 u40 u41 u42 u43 u44 u45 u46 u47 u48 u49 u50 u51 u52 u53 u54 u55 u56 u57 u58 u59 u60 u61 u62 u63 u64 u65 u66 u67 u68 u69 u70 u71 u72 u73 u74 u75 u76 u77 u78 u79 u80 u81 u82 u83 u84 u85 u86 u87 u88 u89 u90 u91 u92 u93 u94 u95 u96 u97 u98 u99 u100 u101 u102 u103 u104 u105 u106 u107 u108 u109 u110 u111 u112 u113 u114 u115 u116 u117 u118 u119 u120 u121 u122 u123 u124 u125 u126 u127 u128 u129 u130 u131 u132 u133 u134 u135 u136 u137 u138 : Value}
    (hT : TourM W tb lb ab bb db n l last bef done) (hn : n ≤ 1000) (hat : W.cell? ⟨at', 0, none⟩ = some (.int .i64 u))
    (hA : W.heap[ap]? = some (.cells (encA ar).toArray 99 (0, 0))) (hto : ar.to < n)
    (hd : lb ≠ ab ∧ ab ≠ bb ∧ lb ≠ at' ∧ ab ≠ at' ∧ bb ≠ at' ∧ lb ≠ ap ∧ ab ≠ ap ∧ bb ≠ ap ∧ lb ≠ tb ∧ ab ≠ tb ∧ bb ≠ tb ∧ db ≠ lb ∧ db ≠ ab ∧ db ≠ bb)
    (hQ : ∀ a w', Tch [lb, ab, bb] W w' → TourM w' tb lb ab bb db n (l.set ar.to n2) (last.set ar.to ar) (bef.set ar.to u) done → Q .normal a w') :
    Code.wpIn (Fence.wide.inRound rl) m Try.prog (Try.f58.sub [1, 1, 1, 1, 0, 0, 0, 1, 1, 1, 1, 1, 0, 1, 0, 1, 1, 0]) Q ⟨#[u0, u1, u2, u3, u4, .pointer (some ⟨tb, 0, none⟩), u6, .pointer (some ⟨at', 0, none⟩), u8, u9, .pointer (some ⟨ap, 0, none⟩), .int .i64 n2, u12, u13, u14, u15, u16, u17, u18, u19, u20, u21, u22, u23, u24, u25, u26, u27, u28, u29, u30, u31, u32, u33, u34, u35, u36, u37, u38, u39, u40, u41, u42, u43, u44, u45, u46, u47, u48, u49, u50, u51, u52, u53, u54, u55, u56, u57, u58, u59, u60, u61, u62, u63, u64, u65, u66, u67, u68, u69, u70, u71, u72, u73, u74, u75, u76, u77, u78, u79, u80, u81, u82, u83, u84, u85, u86, u87, u88, u89, u90, u91, u92, u93, u94, u95, u96, u97, u98, u99, u100, u101, u102, u103, u104, u105, u106, u107, u108, u109, u110, u111, u112, u113, u114, u115, u116, u117, u118, u119, u120, u121, u122, u123, u124, u125, u126, u127, u128, u129, u130, u131, u132, u133, u134, u135, u136, u137, u138], []⟩ W := by
  conv => arg 4; whnf
  dsimp only
  obtain ⟨d1, d2, d3, d4, d5, d6, d7, d8, d9, d10, d11, d12, d13, d14⟩ := hd
  have HT := Lib.hid hT; clear hT
  have HQ := Lib.hid hQ; clear hQ
  have c0 := HT.out.c0
  have c1 := HT.out.c1
  have c2 := HT.out.c2
  have a1 : W.cell? ⟨ap, 1, none⟩ = some (.int .i64 ar.to) := block_cell hA (j := 1) (by simp [encA])
  have hlt := HT.out.lbb
  refine regionIn_rel (.inr ⟨_, rfl⟩) (by kernel_rfl) (by kernel_rfl) (by kernel_rfl) (fun L _ w' => C3 W lb ab bb l (l.set ar.to n2) last (last.set ar.to ar) (bef.map Int.ofNat) ((bef.set ar.to u).map Int.ofNat) (L 16) (L 18) (L 20) w') ⟨(Tch.refl _ _).drewN 1, HT.out.len, HT.out.lst, HT.out.bfr⟩ ?_
  repeat (refine relq rfl rfl (fun _ _ _ h => C3.up (by decide) (by decide) (by decide) h) (fun K hK => ?_); go_big_quiet_op; (refine hK _ ?_; clear hK K))
  (refine relk_val rfl _ (fun _ _ _ h => C3.up (by decide) (by decide) (by decide) h) (fun V L w' h1 h2 h3 hC => ex_load1 _ _ rfl _ rfl (hC.tch.cell (by simp; omega) c0) _ Try.underlying22 rfl) (fun K hK => ?_); simp only [Act.put, List.setIfInBounds_toArray, List.set_cons_succ, List.set_cons_zero]; (refine hK _ ?_; clear hK K); repeat (refine relq rfl rfl (fun _ _ _ h => C3.up (by decide) (by decide) (by decide) h) (fun K hK => ?_); go_big_quiet_op; (refine hK _ ?_; clear hK K)))
  (refine relk_val rfl _ (fun _ _ _ h => C3.up (by decide) (by decide) (by decide) h) (fun V L w' h1 h2 h3 hC => ex_load1 _ _ rfl _ rfl (hC.tch.cell (by simp; omega) a1) _ Try.underlying3 rfl) (fun K hK => ?_); simp only [Act.put, List.setIfInBounds_toArray, List.set_cons_succ, List.set_cons_zero]; (refine hK _ ?_; clear hK K); repeat (refine relq rfl rfl (fun _ _ _ h => C3.up (by decide) (by decide) (by decide) h) (fun K hK => ?_); go_big_quiet_op; (refine hK _ ?_; clear hK K)))
  (refine relk_val rfl _ (fun _ _ _ h => C3.up (by decide) (by decide) (by decide) h) (fun V L w' h1 h2 h3 hC => ex_load1 _ _ rfl _ rfl (hC.tch.cell (by simp; omega) c1) _ Try.underlying94 rfl) (fun K hK => ?_); simp only [Act.put, List.setIfInBounds_toArray, List.set_cons_succ, List.set_cons_zero]; (refine hK _ ?_; clear hK K); repeat (refine relq rfl rfl (fun _ _ _ h => C3.up (by decide) (by decide) (by decide) h) (fun K hK => ?_); go_big_quiet_op; (refine hK _ ?_; clear hK K)))
  (refine relk_val rfl _ (fun _ _ _ h => C3.up (by decide) (by decide) (by decide) h) (fun V L w' h1 h2 h3 hC => ex_load1 _ _ rfl _ rfl (hC.tch.cell (by simp; omega) a1) _ Try.underlying3 rfl) (fun K hK => ?_); simp only [Act.put, List.setIfInBounds_toArray, List.set_cons_succ, List.set_cons_zero]; (refine hK _ ?_; clear hK K); repeat (refine relq rfl rfl (fun _ _ _ h => C3.up (by decide) (by decide) (by decide) h) (fun K hK => ?_); go_big_quiet_op; (refine hK _ ?_; clear hK K)))
  (refine relk_val rfl _ (fun _ _ _ h => C3.up (by decide) (by decide) (by decide) h) (fun V L w' h1 h2 h3 hC => ex_load1 _ _ rfl _ rfl (hC.tch.cell (by simp; omega) c2) _ Try.underlying22 rfl) (fun K hK => ?_); simp only [Act.put, List.setIfInBounds_toArray, List.set_cons_succ, List.set_cons_zero]; (refine hK _ ?_; clear hK K); repeat (refine relq rfl rfl (fun _ _ _ h => C3.up (by decide) (by decide) (by decide) h) (fun K hK => ?_); go_big_quiet_op; (refine hK _ ?_; clear hK K)))
  (refine relk_val rfl _ (fun _ _ _ h => C3.up (by decide) (by decide) (by decide) h) (fun V L w' h1 h2 h3 hC => ex_load1 _ _ rfl _ rfl (hC.tch.cell (by simp; omega) a1) _ Try.underlying3 rfl) (fun K hK => ?_); simp only [Act.put, List.setIfInBounds_toArray, List.set_cons_succ, List.set_cons_zero]; (refine hK _ ?_; clear hK K); repeat (refine relq rfl rfl (fun _ _ _ h => C3.up (by decide) (by decide) (by decide) h) (fun K hK => ?_); go_big_quiet_op; (refine hK _ ?_; clear hK K)))
  refine relk_val rfl (.agg (encA ar).toArray) (fun _ _ _ h => C3.up (by decide) (by decide) (by decide) h) (fun V L w' h1 h2 h3 hC => ex_loadN 99 _ rfl ap 0 rfl (encA ar) _ (fun j v hj => by
    have hb := (hC.tch.block ap (Array.getElem?_eq_some_iff.1 hA).1 (by simp; omega)).trans hA
    obtain ⟨j1, j2⟩ := List.getElem?_eq_some_iff.1 hj
    rw [Nat.zero_add, block_cell hb (j := j) (by simpa using j1)]
    simp [← j2]) Try.underlying99 rfl (by kernel_rfl)) (fun K hK => ?_)
  simp only [Act.put, List.setIfInBounds_toArray, List.set_cons_succ, List.set_cons_zero]
  refine hK _ ?_
  clear hK K
  (refine relk_val rfl _ (fun _ _ _ h => C3.up (by decide) (by decide) (by decide) h) (fun V L w' h1 h2 h3 hC => ex_load1 _ _ rfl _ rfl (hC.tch.cell (by simp; omega) hat) _ Try.underlying3 rfl) (fun K hK => ?_); simp only [Act.put, List.setIfInBounds_toArray, List.set_cons_succ, List.set_cons_zero]; (refine hK _ ?_; clear hK K); repeat (refine relq rfl rfl (fun _ _ _ h => C3.up (by decide) (by decide) (by decide) h) (fun K hK => ?_); go_big_quiet_op; (refine hK _ ?_; clear hK K)))
  refine relk_do rfl rfl (fun w => w.setCell ⟨lb, ar.to, none⟩ (.int .i64 n2)) (fun V L w' h1 h2 h3 hC => ?_) ?_
  · have hc := hC.c1
    rw [h1, if_neg (by simp)] at hc
    have hll : ar.to < l.length := by rw [HT.out.ll]; exact hto
    refine ⟨ex_store1 3 _ _ rfl lb ar.to _ rfl rfl (hc.cell hll) (hc.frozen _) (by kernel_rfl) rfl rfl, ?_⟩
    refine ⟨hC.tch.set (.inl (by simp)) _, ?_, ?_, ?_⟩
    · rw [if_pos (upd_same L 16)]; exact hc.set hll n2
    · rw [upd_ne _ (by decide)]; exact FlB.other hC.c2 (fun e => d1 e.symm) _
    · rw [upd_ne _ (by decide)]; exact hC.c3.other (fun e => hlt e.symm) _
  repeat (refine relq rfl rfl (fun _ _ _ h => C3.up (by decide) (by decide) (by decide) h) (fun K hK => ?_); go_big_quiet_op; (refine hK _ ?_; clear hK K))
  refine relk_do rfl rfl (fun w => w.setCells ab (ar.to * 5) (encA ar)) (fun V L w' h1 h2 h3 hC => ?_) ?_
  · have hc := hC.c2
    rw [h1, if_neg (by simp)] at hc
    have hll : ar.to < last.length := by rw [HT.out.la]; exact hto
    refine ⟨ex_storeN 99 _ _ rfl ab (ar.to * 5) (encA ar).toArray rfl rfl (arB_there hc hll) (by kernel_rfl) (by simp [encA, Value.oneCell']), ?_⟩
    refine ⟨hC.tch.sets (.inl (by simp)) _ _ _, ?_, ?_, ?_⟩
    · rw [upd_ne _ (by decide)]; exact fl_cells d1 _ _ _ hC.c1
    · rw [if_pos (upd_same L 18)]; exact arB_set hc hll ar
    · rw [upd_ne _ (by decide)]; exact fl_cells (fun e => d2 e.symm) _ _ _ hC.c3
  repeat (refine relq rfl rfl (fun _ _ _ h => C3.up (by decide) (by decide) (by decide) h) (fun K hK => ?_); go_big_quiet_op; (refine hK _ ?_; clear hK K))
  refine relk_do rfl rfl (fun w => w.setCell ⟨bb, ar.to, none⟩ (.int .i64 u)) (fun V L w' h1 h2 h3 hC => ?_) ?_
  · have hc := hC.c3
    rw [h1, if_neg (by simp)] at hc
    have hll : ar.to < (bef.map Int.ofNat).length := by rw [List.length_map, HT.out.lb']; exact hto
    refine ⟨ex_store1 3 _ _ rfl bb ar.to _ rfl rfl (hc.cell hll) (hc.frozen _) (by kernel_rfl) rfl rfl, ?_⟩
    refine ⟨hC.tch.set (.inl (by simp)) _, ?_, ?_, ?_⟩
    · rw [upd_ne _ (by decide)]; exact hC.c1.other hlt _
    · rw [upd_ne _ (by decide)]; exact FlB.other hC.c2 d2 _
    · rw [if_pos (upd_same L 20), List.map_set]; exact hc.set hll (Int.ofNat u)
  refine relk_end (n := 21) fun L V w' hL hC => ?_
  rw [hL 16 (by decide), hL 18 (by decide), hL 20 (by decide)] at hC
  obtain ⟨k1, k2, k3, k4⟩ := hC
  rw [if_pos rfl] at k2 k3 k4
  have hb : ∀ b, b ∉ [lb, ab, bb] → b < W.heap.size → w'.heap[b]? = W.heap[b]? := fun b h1 h2 => k1.block b h2 h1
  refine HQ.out _ _ k1 ⟨(hb tb (by simp; omega) (Array.getElem?_eq_some_iff.1 HT.out.blk).1).trans HT.out.blk, k2, k3, k4, (hb db (by simp; omega) (FlB.lt HT.out.dn)).trans HT.out.dn, ?_, ?_, ?_, HT.out.ld, hlt⟩
  · rw [List.length_set]; exact HT.out.ll
  · rw [List.length_set]; exact HT.out.la
  · rw [List.length_set]; exact HT.out.lb'
end Go.Proofs.Ytjnpchoinncbnaa
end

section
set_option linter.unusedSimpArgs false
set_option linter.unusedVariables false
namespace Go.Proofs.Ytjnpchoinncbnaa
open Go.RowKit Sw Fam
attribute [local go_sem] Oper.semAt_some
theorem sv_tch {w w' : World} {v : Loc} {n : Nat} {es : List Ed} {x p ex : List Int} {S : List Nat} {B : Nat} (h : SvM w v n es x p ex) (ht : Tch S w w') (hs : ∀ b, b ∈ S → w.heap.size ≤ b) : SvM w' v n es x p ex :=
  h.keep ⟨ht.os, ht.tape, ht.output, ht.size, fun b hb => ht.block b hb (fun hm => absurd hb (Nat.not_lt.2 (hs b hm)))⟩
theorem roundA_of {l k : Nat} {ar : Ar} {W : World} {R : World → Prop} {rec : Loop} {tm : Array Value} (h : W.heap[l]? = some (.loop rec)) (hp : rec.params = #[k]) (ht : rec.tmps.setIfInBounds k (.agg (encA ar).toArray) = tm)
    (hr : ∀ m, RoundIn Fence.wide m Try.prog l rec.fn tm rec.assign rec.body W (fun e W' => e = .returned (.bool true) ∧ R W')) : RoundA l ar W R := by
  refine ⟨rec, h, by rw [hp]; rfl, fun m => ?_⟩
  rw [hp]
  have : ((#[k].zip #[Value.agg (encA ar).toArray]).foldl (fun tmps (t, a) => tmps.setIfInBounds t a) rec.tmps) = tm := by rw [← ht]; simp
  rw [this]
  exact hr m
def Relaxed (n : Nat) (p : List Int) (u : Nat) (ar : Ar) (l l' : List Int) (last last' : List Ar) (bef bef' : List Nat) : Prop :=
  (gi l u + rc p u ar < gi l ar.to ∧ l' = l.set ar.to (gi l u + rc p u ar) ∧ last' = last.set ar.to ar ∧ bef' = bef.set ar.to u) ∨ (gi l ar.to ≤ gi l u + rc p u ar ∧ l' = l ∧ last' = last ∧ bef' = bef)
set_option maxHeartbeats 4000000 in
set_option maxRecDepth 100000 in
theorem ways_round {l D fn tb lb ab bb db n at' sb u : Nat} {S pb : Nat} {ar : Ar} {p : List Int} {len : List Int} {last : List Ar} {bef : List Nat} {done : List Bool} {W : World} {u0 u1 u3 u4 u6 u8 u9 u10 u11 u12 u13 u14 u15 u16 u17 u18 u19 u20 u21 u22 u23 u24 u25 u26 u27 u28 u29 u30 u31 u32 u33 u34 u35 u36 u37 u38 u39 u40 u41 u42 u43 u44 u45 u46 u47 u48 u49 u50 u51 u52 u53 u54 u55 u56 u57 u58 u59 u60 u61 u62 u63 u64 u65 u66 u67 u68 u69 u70 u71 u72 u73 u74 u75 u76 u77 u78 u79 u80 u81 u82 u83 u84 u85 u86 u87 u88 u89 u90 u91 u92 u93 u94 u95 u96 u97 u98 u99 u100 u101 u102 u103 u104 u105 u106 u107 u108 u109 u110 u111 u112 u113 u114 u115 u116 u117 u118 u119 u120 u121 u122 u123 u124 u125 u126 u127 u128 u129 u130 u131 u132 u133 u134 u135 u136 u137 u138 : Value}
    (hL : W.heap[l]? = some (.loop (recOf fn #[u0, u1, .pointer (some ⟨sb, 0, none⟩), u3, u4, .pointer (some ⟨tb, 0, none⟩), u6, .pointer (some ⟨at', 0, none⟩), u8, u9, u10, u11, u12, u13, u14, u15, u16, u17, u18, u19, u20, u21, u22, u23, u24, u25, u26, u27, u28, u29, u30, u31, u32, u33, u34, u35, u36, u37, u38, u39, u40, u41, u42, u43, u44, u45, u46, u47, u48, u49, u50, u51, u52, u53, u54, u55, u56, u57, u58, u59, u60, u61, u62, u63, u64, u65, u66, u67, u68, u69, u70, u71, u72, u73, u74, u75, u76, u77, u78, u79, u80, u81, u82, u83, u84, u85, u86, u87, u88, u89, u90, u91, u92, u93, u94, u95, u96, u97, u98, u99, u100, u101, u102, u103, u104, u105, u106, u107, u108, u109, u110, u111, u112, u113, u114, u115, u116, u117, u118, u119, u120, u121, u122, u123, u124, u125, u126, u127, u128, u129, u130, u131, u132, u133, u134, u135, u136, u137, u138] #[87] (Try.f58.sub [1, 1, 1, 1, 0, 0, 0, 1, 1, 1, 1, 1, 0, 0]) (Try.f58.sub [1, 1, 1, 1, 0, 0, 0, 1, 1, 1, 1, 1, 0, 1]) D .ready)))
    (hT : TourM W tb lb ab bb db n len last bef done) (hn : n ≤ 1000) (hu : u < n) (hto : ar.to < n) (hat : W.cell? ⟨at', 0, none⟩ = some (.int .i64 u))
    (hsb : W.cell? ⟨sb, 0, none⟩ = some (.pointer (some ⟨S, 0, none⟩))) (hp3 : W.cell? ⟨S, 3, none⟩ = some (.slice (some ⟨pb, 0, none⟩) n n)) (hp : IntB W pb p) (hpl : p.length = n)
    (hlu : 0 ≤ gi len u ∧ gi len u ≤ far) (hpu : 0 ≤ gi p u ∧ gi p u ≤ 1000000000000) (hpt : 0 ≤ gi p ar.to ∧ gi p ar.to ≤ 1000000000000) (hco : -1000 ≤ ar.cost ∧ ar.cost ≤ 1000)
    (hd : lb ≠ ab ∧ ab ≠ bb ∧ lb ≠ at' ∧ ab ≠ at' ∧ bb ≠ at' ∧ lb ≠ tb ∧ ab ≠ tb ∧ bb ≠ tb ∧ db ≠ lb ∧ db ≠ ab ∧ db ≠ bb)
    (hl : l ≠ tb ∧ l ≠ lb ∧ l ≠ ab ∧ l ≠ bb ∧ l ≠ db ∧ l ≠ at' ∧ l ≠ sb ∧ l ≠ S ∧ l ≠ pb) :
    RoundA l ar W (fun W' => ∃ l' last' bef', TourM W' tb lb ab bb db n l' last' bef' done ∧ Tch [lb, ab, bb, l] W W' ∧ W'.heap[l]? = W.heap[l]? ∧ Relaxed n p u ar len l' last last' bef bef') := by
  refine roundA_of (tm := #[u0, u1, .pointer (some ⟨sb, 0, none⟩), u3, u4, .pointer (some ⟨tb, 0, none⟩), u6, .pointer (some ⟨at', 0, none⟩), u8, u9, u10, u11, u12, u13, u14, u15, u16, u17, u18, u19, u20, u21, u22, u23, u24, u25, u26, u27, u28, u29, u30, u31, u32, u33, u34, u35, u36, u37, u38, u39, u40, u41, u42, u43, u44, u45, u46, u47, u48, u49, u50, u51, u52, u53, u54, u55, u56, u57, u58, u59, u60, u61, u62, u63, u64, u65, u66, u67, u68, u69, u70, u71, u72, u73, u74, u75, u76, u77, u78, u79, u80, u81, u82, u83, u84, u85, u86, .agg (encA ar).toArray, u88, u89, u90, u91, u92, u93, u94, u95, u96, u97, u98, u99, u100, u101, u102, u103, u104, u105, u106, u107, u108, u109, u110, u111, u112, u113, u114, u115, u116, u117, u118, u119, u120, u121, u122, u123, u124, u125, u126, u127, u128, u129, u130, u131, u132, u133, u134, u135, u136, u137, u138]) hL rfl rfl (fun m => ?_)
  refine roundIn_of_wpIn trivial ?_
  show Code.wpIn (Fence.wide.inRound l) m Try.prog (Try.f58.sub [1, 1, 1, 1, 0, 0, 0, 1, 1, 1, 1, 1, 0, 0]) (Exit.then (fun a₁ w₁ => ∃ w₂, (Instr.beginRound l).run Try.prog w₁ = .ok () w₂ ∧ (Try.f58.sub [1, 1, 1, 1, 0, 0, 0, 1, 1, 1, 1, 1, 0, 1]).wpIn (Fence.wide.inRound l) m Try.prog (roundPost Try.prog l _) a₁ w₂) (fun _ _ _ => False)) _ _
  conv => arg 4; whnf
  dsimp only
  have HT := Lib.hid hT; clear hT
  have HL := Lib.hid hL; clear hL
  have HP := Lib.hid hp; clear hp
  unfold encA
  gi_wp2_with fail
  obtain ⟨rec, hL0, hrd, hpn⟩ : ∃ rec : Loop, W.heap[l]? = some (.loop rec) ∧ rec.state = .ready ∧ rec.pending = none := ⟨_, HL.out, rfl, rfl⟩
  clear HL
  have llt : l < W.heap.size := (Array.getElem?_eq_some_iff.1 hL0).1
  obtain ⟨d1, d2, d3, d4, d5, d6, d7, d8, d9, d10, d11⟩ := hd
  obtain ⟨l1, l2, l3, l4, l5, l6, l7, l8, l9⟩ := hl
  obtain ⟨W1, hW1⟩ : ∃ W1, W.alloc (.cells (encA ar).toArray 99) = W1 := ⟨_, rfl⟩
  have hL1 : W1.heap[l]? = some (.loop rec) := by rw [← hW1]; exact (Below.heap_alloc _ _ _ llt).trans hL0
  have hbr := run_beginRound (P := Try.prog) hL1 hrd
  refine ⟨_, by rw [← hW1] at hbr; exact hbr, ?_⟩
  rw [hW1]
  refine nameW ?_
  intro W2 hW2
  have hT2 : Tch [l] W W2 := by rw [hW2, ← hW1]; exact ((Tch.refl _ _).alloc _).put (.inl (by simp)) _
  have hA2 : W2.heap[W.heap.size]? = some (.cells (encA ar).toArray 99 (0, 0)) := by
    rw [hW2, ← hW1]; exact (World.putObj_heap_other (by omega)).trans (heap_alloc_new W _)
  have hL2 : W2.heap[l]? = some (.loop { rec with state := .busy }) := by rw [hW2]; exact World.putObj_heap_same (Array.getElem?_eq_some_iff.1 hL1).1
  have hM2 : TourM W2 tb lb ab bb db n len last bef done := by
    have hb : ∀ b, b ≠ l → b < W.heap.size → W2.heap[b]? = W.heap[b]? := fun b h1 h2 => hT2.block b h2 (by simpa using h1)
    have h := HT.out
    exact ⟨(hb tb l1.symm (Array.getElem?_eq_some_iff.1 h.blk).1).trans h.blk, (hb lb l2.symm h.len.lt).trans h.len, (hb ab l3.symm (FlB.lt h.lst)).trans h.lst, (hb bb l4.symm h.bfr.lt).trans h.bfr, (hb db l5.symm (FlB.lt h.dn)).trans h.dn, h.ll, h.la, h.lb', h.ld, h.lbb⟩
  have at2 := hT2.cell (by simpa using l6.symm) hat
  have sb2 := hT2.cell (by simpa using l7.symm) hsb
  have p32 := hT2.cell (by simpa using l8.symm) hp3
  have hpc : ∀ j, j < n → W2.cell? ⟨pb, j, none⟩ = some (.int .i64 (gi p j)) := fun j hj => hT2.cell (by simpa using l9.symm) (HP.out.cell (by rw [hpl]; exact hj))
  have pu := hpc u hu
  have pt := hpc ar.to hto
  have lu := hM2.len.cell (j := u) (by rw [hM2.ll]; exact hu)
  have lt := hM2.len.cell (j := ar.to) (by rw [hM2.ll]; exact hto)
  have c0 := hM2.c0
  have tblt : tb < W.heap.size := (Array.getElem?_eq_some_iff.1 HT.out.blk).1
  have lblt : lb < W.heap.size := HT.out.len.lt
  have ablt : ab < W.heap.size := FlB.lt HT.out.lst
  have bblt : bb < W.heap.size := HT.out.bfr.lt
  have a1 : W2.cell? ⟨W.heap.size, 1, none⟩ = some (.int .i64 ar.to) := block_cell hA2 (j := 1) (by simp [encA])
  have a4 : W2.cell? ⟨W.heap.size, 4, none⟩ = some (.int .i64 ar.cost) := block_cell hA2 (j := 4) (by simp [encA])
  have HL2 := Lib.hid hL2
  have HM2 := Lib.hid hM2
  have HT2 := Lib.hid hT2
  have HA2 := Lib.hid hA2
  have HL0 := Lib.hid hL0
  clear hW1 hW2 hL1 hbr hL2 hM2 hT2 hA2 hpc hat hsb hp3 hL0
  obtain ⟨lu1, lu2⟩ := hlu
  obtain ⟨pu1, pu2⟩ := hpu
  obtain ⟨pt1, pt2⟩ := hpt
  obtain ⟨co1, co2⟩ := hco
  have lu3 : gi len u ≤ 1152921504606846976 := lu2
  show Code.wpIn (Fence.wide.inRound l) m Try.prog (.block 5 (.seq (Try.f58.sub [1, 1, 1, 1, 0, 0, 0, 1, 1, 1, 1, 1, 0, 1, 0, 0]) (.seq (Try.f58.sub [1, 1, 1, 1, 0, 0, 0, 1, 1, 1, 1, 1, 0, 1, 0, 1, 0]) (.cond (.tmp 120) (Try.f58.sub [1, 1, 1, 1, 0, 0, 0, 1, 1, 1, 1, 1, 0, 1, 0, 1, 1, 0]) .skip)))) _ _ _
  refine wpIn_block ?_
  refine wpIn_seq ?_
  conv => arg 4; whnf
  refine regionIn_reads (.inr ⟨_, rfl⟩) (by kernel_rfl) (by kernel_rfl) (by kernel_rfl) ?_
  repeat (go_big_quiet_step (fail))
  refine wpQuiet_nil ?_
  intro _ hw'
  obtain ⟨nq, rfl⟩ := hw'
  dsimp only [Exit.then]
  have fin : ∀ (a : Act) (W3 : World) l' last' bef', TourM W3 tb lb ab bb db n l' last' bef' done → Tch [lb, ab, bb] W2 W3 → Relaxed n p u ar len l' last last' bef bef' →
      roundPost Try.prog l (fun e W' => e = .returned (.bool true) ∧ ∃ l' last' bef', TourM W' tb lb ab bb db n l' last' bef' done ∧ Tch [lb, ab, bb, l] W W' ∧ W'.heap[l]? = W.heap[l]? ∧ Relaxed n p u ar len l' last last' bef bef') .normal a W3 := by
    intro a W3 l' last' bef' h1 h2 h3
    have h4 := (h2.block l (Array.getElem?_eq_some_iff.1 HL2.out).1 (by simp; omega)).trans HL2.out
    have h5 := run_endRound (P := Try.prog) none h4
    refine ⟨_, _, h5, rfl, l', last', bef', ?_, ?_, ?_, h3⟩
    · have hb : ∀ b, b ≠ l → (W3.putObj l (.loop { rec with state := .ready, pending := none })).heap[b]? = W3.heap[b]? := fun b h1 => World.putObj_heap_other h1
      exact ⟨(hb tb l1.symm).trans h1.blk, (hb lb l2.symm).trans h1.len, (hb ab l3.symm).trans h1.lst, (hb bb l4.symm).trans h1.bfr, (hb db l5.symm).trans h1.dn, h1.ll, h1.la, h1.lb', h1.ld, h1.lbb⟩
    · exact ((HT2.out.mono (fun b hb => .inl (by simp at hb ⊢; omega))).trans (h2.mono (fun b hb => .inl (by simp at hb ⊢; omega)))).put (.inl (by simp)) _
    · rw [HL0.out]
      refine (World.putObj_heap_same (Array.getElem?_eq_some_iff.1 h4).1).trans ?_
      obtain ⟨s1, s2, s3, s4, s5, s6, s7, s8⟩ := rec
      simp only at hrd hpn
      subst hrd hpn
      rfl
  have FIN := Lib.hid fin
  clear fin llt
  refine wpIn_seq ?_
  conv => arg 4; whnf
  by_cases hlt : gi len u + ar.cost + gi p u - gi p ar.to < gi len ar.to
  · gi_wp2_with fail
    refine ways_relax (HM2.out.keep (below_drewN (Below.refl _ _) nq)) hn at2 HA2.out hto ⟨d1, d2, d3, d4, d5, by omega, by omega, by omega, d6, d7, d8, d9, d10, d11⟩ ?_
    intro a w' k1 k2
    have e : gi len u + ar.cost + gi p u - gi p ar.to = gi len u + rc p u ar := by unfold rc; omega
    rw [e] at hlt k2
    exact FIN.out a w' _ _ _ k2 ⟨k1.os, k1.tape, k1.output, k1.size, k1.block⟩ (.inl ⟨hlt, rfl, rfl, rfl⟩)
  · gi_wp2_with fail
    exact FIN.out _ _ _ _ _ (HM2.out.keep (below_drewN (Below.refl _ _) nq)) ((Tch.refl _ _).drewN nq) (.inr ⟨by unfold rc; omega, rfl, rfl, rfl⟩)
end Go.Proofs.Ytjnpchoinncbnaa
end
