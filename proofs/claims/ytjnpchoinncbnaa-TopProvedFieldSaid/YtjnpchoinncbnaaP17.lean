/- Proves parts of the statement, each under the conditions that its theorem states: The net of a field: a round of the loop over the sides; The net of a field: the contract; Unwrap: the copy of the field; Unwrap. -/
import Derived.Test.YtjnpchoinncbnaaP16
import Derived.Test.YtjnpchoinncbnaaP06
import Derived.Test.YtjnpchoinncbnaaP08
import Derived.Test.YtjnpchoinncbnaaP14
section
set_option linter.unusedSimpArgs false
set_option linter.unusedVariables false
namespace Go.Proofs.Ytjnpchoinncbnaa
open Go.RowKit Sw Fam
theorem roundS_of {l i j k : Nat} {q : Nat × Nat} {W : World} {R : World → Prop} {rec : Loop} {tm : Array Value} (h : W.heap[l]? = some (.loop rec)) (hp : rec.params = #[i, j]) (ht : (rec.tmps.setIfInBounds i (.int .i64 k)).setIfInBounds j (.agg #[.int .i64 q.1, .int .i64 q.2]) = tm)
    (hr : ∀ m, RoundIn Fence.wide m Try.prog l rec.fn tm rec.assign rec.body W (fun e W' => e = .returned (.bool true) ∧ R W')) : RoundS l k q W R := by
  refine ⟨rec, h, by rw [hp]; rfl, fun m => ?_⟩
  rw [hp]
  have : ((#[i, j].zip (encP k q)).foldl (fun tmps (t, a) => tmps.setIfInBounds t a) rec.tmps) = tm := by rw [← ht]; simp [encP]
  rw [this]
  exact hr m
structure NetD where
  N : Nat
  M : Nat
  Yb : Nat
  P : Option Addr
  cp : Nat
  Y : Option Addr
  cy : Nat
  n : Int
  ph : List Int
  ws : List Int
structure NetJ (W5 : World) (d : NetD) (es : List Ed) (W : World) : Prop where
  tch : Tch [d.N] W5 W
  net : ∃ A c, W.heap[d.N]? = some (.cells #[.int .i64 d.n, .slice A es.length c] 37 (0, 0)) ∧ GrE W W5.heap.size A c es
structure NetOk (W5 : World) (d : NetD) (l : Nat) : Prop where
  m2 : W5.cell? ⟨d.M, 2, none⟩ = some (.slice d.P d.ph.length d.cp)
  yb : W5.cell? ⟨d.Yb, 0, none⟩ = some (.slice d.Y d.ws.length d.cy)
  rp : RdI W5 d.P d.ph
  ry : RdI W5 d.Y d.ws
  lN : d.N < W5.heap.size
  mN : d.M ≠ d.N
  yN : d.Yb ≠ d.N
  lneN : l ≠ d.N
  ml : d.M ≠ l
  yl : d.Yb ≠ l
  pN : ∀ b o, d.P = some ⟨b, o, none⟩ → b ≠ d.N ∧ b ≠ l
  wN : ∀ b o, d.Y = some ⟨b, o, none⟩ → b ≠ d.N ∧ b ≠ l
  ph : PhOk d.ph
  ws : WtOk d.ws
  lp : d.ph.length ≤ 4096
  lw : d.ws.length ≤ 10000
theorem NetJ.keep {W5 W W' : World} {d : NetD} {es : List Ed} (h : NetJ W5 d es W) (hb : Below W.heap.size W W') (hN : d.N < W5.heap.size) : NetJ W5 d es W' := by
  obtain ⟨A, c, h1, h2⟩ := h.net
  exact ⟨h.tch.trans (Tch.of_below hb), A, c, (hb.block _ (by have := h.tch.size; omega)).trans h1, h2.keep hb⟩
attribute [local go_sem] Oper.semAt_some
set_option maxHeartbeats 4000000 in
set_option maxRecDepth 100000 in
theorem net_round {l D fn k : Nat} {q : Nat × Nat} {d : NetD} {es : List Ed} {W5 W : World} {u0 u1 u2 u6 u7 u8 u9 u10 u11 u12 u13 u14 u15 u16 u17 u18 u19 u20 u21 u22 u23 u24 u25 u26 u27 u28 u29 u30 u31 u32 u33 u34 u35 u36 u37 u38 u39 u40 u41 u42 u43 u44 u45 u46 u47 u48 u49 u50 u51 u52 u53 u54 u55 u56 u57 u58 u59 u60 u61 u62 u63 u64 u65 u66 u67 u68 u69 u70 : Value}
    (hJ : NetJ W5 d es W) (hok : NetOk W5 d l)
    (hL : W5.heap[l]? = some (.loop (recOf fn #[u0, u1, u2, .pointer (some ⟨d.M, 0, none⟩), .pointer (some ⟨d.N, 0, none⟩), .pointer (some ⟨d.Yb, 0, none⟩), u6, u7, u8, u9, u10, u11, u12, u13, u14, u15, u16, u17, u18, u19, u20, u21, u22, u23, u24, u25, u26, u27, u28, u29, u30, u31, u32, u33, u34, u35, u36, u37, u38, u39, u40, u41, u42, u43, u44, u45, u46, u47, u48, u49, u50, u51, u52, u53, u54, u55, u56, u57, u58, u59, u60, u61, u62, u63, u64, u65, u66, u67, u68, u69, u70] #[27, 28] (Try.f20.sub [1, 1, 1, 1, 0, 1, 0, 0]) (Try.f20.sub [1, 1, 1, 1, 0, 1, 0, 1]) D .ready)))
    (q1 : q.1 < d.ph.length) (q2 : q.2 < d.ph.length) (hk : k < d.ws.length) (hl : es.length < 10000) :
    RoundS l k q W (NetJ W5 d (es ++ (edg d.ph q (gi d.ws k)).toList)) := by
  obtain ⟨N, M, Yb, P, cp, Y, cy, n, ph, ws⟩ := d
  obtain ⟨qa, qb⟩ := q
  dsimp only at *
  have hltL : l < W5.heap.size := (Array.getElem?_eq_some_iff.1 hL).1
  have hL1 := (hJ.tch.block l hltL (by simpa using hok.lneN)).trans hL
  refine roundS_of (tm := #[u0, u1, u2, .pointer (some ⟨M, 0, none⟩), .pointer (some ⟨N, 0, none⟩), .pointer (some ⟨Yb, 0, none⟩), u6, u7, u8, u9, u10, u11, u12, u13, u14, u15, u16, u17, u18, u19, u20, u21, u22, u23, u24, u25, u26, .int .i64 k, .agg #[.int .i64 qa, .int .i64 qb], u29, u30, u31, u32, u33, u34, u35, u36, u37, u38, u39, u40, u41, u42, u43, u44, u45, u46, u47, u48, u49, u50, u51, u52, u53, u54, u55, u56, u57, u58, u59, u60, u61, u62, u63, u64, u65, u66, u67, u68, u69, u70]) hL1 rfl rfl (fun m => ?_)
  refine roundIn_of_wpIn trivial ?_
  show Code.wpIn (Fence.wide.inRound l) m Try.prog (Try.f20.sub [1, 1, 1, 1, 0, 1, 0, 0]) (Exit.then (fun a₁ w₁ => ∃ w₂, (Instr.beginRound l).run Try.prog w₁ = .ok () w₂ ∧ (Try.f20.sub [1, 1, 1, 1, 0, 1, 0, 1]).wpIn (Fence.wide.inRound l) m Try.prog (roundPost Try.prog l _) a₁ w₂) (fun _ _ _ => False)) _ _
  have HJ := Lib.hid hJ; clear hJ
  have HO := Lib.hid hok; clear hok
  have HL := Lib.hid hL1
  have HL5 := Lib.hid hL; clear hL1 hL
  conv => arg 4; whnf
  dsimp only
  gi_wp2_with fail
  obtain ⟨rec, hL0, hrd, hpn⟩ : ∃ rec : Loop, W.heap[l]? = some (.loop rec) ∧ rec.state = .ready ∧ rec.pending = none := ⟨_, HL.out, rfl, rfl⟩
  clear HL
  have llt : l < W.heap.size := (Array.getElem?_eq_some_iff.1 hL0).1
  obtain ⟨W1, hW1⟩ : ∃ W1, W.alloc (.cells #[.int .i64 qa, .int .i64 qb] 79) = W1 := ⟨_, rfl⟩
  have hL1 : W1.heap[l]? = some (.loop rec) := by rw [← hW1]; exact (Below.heap_alloc _ _ _ llt).trans hL0
  have hbr := run_beginRound (P := Try.prog) hL1 hrd
  refine ⟨_, by rw [← hW1] at hbr; exact hbr, ?_⟩
  rw [hW1]
  refine nameW ?_
  intro W2 hW2
  have hT2 : Tch [l] W W2 := by rw [hW2, ← hW1]; exact ((Tch.refl _ _).alloc _).put (.inl (by simp)) _
  have hA2 : W2.heap[W.heap.size]? = some (.cells #[.int .i64 qa, .int .i64 qb] 79 (0, 0)) := by
    rw [hW2, ← hW1]; exact (World.putObj_heap_other (by omega)).trans (heap_alloc_new W _)
  have hL2 : W2.heap[l]? = some (.loop { rec with state := .busy }) := by rw [hW2]; exact World.putObj_heap_same (Array.getElem?_eq_some_iff.1 hL1).1
  have hz2 : W2.heap.size = W.heap.size + 1 := by rw [hW2, ← hW1]; simp [World.putObj]
  clear hW1 hW2 hL1 hbr
  have hz5 := HJ.out.tch.size
  have hlNe := HO.out.lneN
  have hkeep : ∀ b, b < W5.heap.size → b ≠ N → b ≠ l → W2.heap[b]? = W5.heap[b]? := fun b h1 h2 h3 =>
    (hT2.block b (by omega) (by simpa using h3)).trans (HJ.out.tch.block b h1 (by simpa using h2))
  have hcell : ∀ (b o : Nat) (v : Value), W5.cell? ⟨b, o, none⟩ = some v → b ≠ N → b ≠ l → W2.cell? ⟨b, o, none⟩ = some v := fun b o v h1 h2 h3 => by
    rw [← h1]; exact World.cell?_of_block (hkeep b (World.block_lt_of_cell? _ _ h1) h2 h3)
  have m2 := hcell _ _ _ HO.out.m2 HO.out.mN HO.out.ml
  have yb := hcell _ _ _ HO.out.yb HO.out.yN HO.out.yl
  obtain ⟨pb1, po, rfl, pc⟩ := HO.out.rp qa q1
  obtain ⟨pb1', po', hpe, pc'⟩ := HO.out.rp qb q2
  injection hpe with hpe; injection hpe with e1 e2
  subst e1 e2
  obtain ⟨wb, wo, rfl, wc⟩ := HO.out.ry k hk
  have hpn2 := HO.out.pN _ _ rfl
  have hwn2 := HO.out.wN _ _ rfl
  have pc2 := hcell _ _ _ pc hpn2.1 hpn2.2
  have pc2' := hcell _ _ _ pc' hpn2.1 hpn2.2
  have wc2 := hcell _ _ _ wc hwn2.1 hwn2.2
  have a0 : W2.cell? ⟨W.heap.size, 0, none⟩ = some (.int .i64 qa) := block_cell hA2 (j := 0) (by simp)
  have a1 : W2.cell? ⟨W.heap.size, 1, none⟩ = some (.int .i64 qb) := block_cell hA2 (j := 1) (by simp)
  obtain ⟨A, c, hN0, hG0⟩ := HJ.out.net
  have hN2 : W2.heap[N]? = _ := (hT2.block N (by have := HO.out.lN; simp only at this; omega) (by simpa using Ne.symm hlNe)).trans hN0
  have hG2 : GrE W2 W5.heap.size A c es := hG0.move fun b hb => hT2.block b (hG0.lt hb).2 (by have := (hG0.lt hb).1; simp; omega)
  have hva := HO.out.ph qa q1
  have hvb := HO.out.ph qb q2
  have hwk := HO.out.ws k hk
  have hlp := HO.out.lp
  have hlw := HO.out.lw
  simp only at hva hvb hwk hlp hlw
  have hyd := HO.out.yN
  have hmd := HO.out.mN
  have hlN := HO.out.lN
  simp only at hyd hmd hlN
  have HK2 := Lib.hid (And.intro hkeep (And.intro hL2 (And.intro hA2 (And.intro hN2 (And.intro hG2 hT2)))))
  have HL0 := Lib.hid hL0
  have wblt : wb < W5.heap.size := World.block_lt_of_cell? _ _ wc
  have yblt : Yb < W5.heap.size := World.block_lt_of_cell? _ _ HO.out.yb
  have fin : ∀ (es' : List Ed) (a : Act) (W3 : World) (S : List Nat), (∀ b, b ∈ S → b = N ∨ W5.heap.size ≤ b) → Tch S W2 W3 → (∃ A c, W3.heap[N]? = some (.cells #[.int .i64 n, .slice A es'.length c] 37 (0, 0)) ∧ GrE W3 W5.heap.size A c es') →
      roundPost Try.prog l (fun e W' => e = .returned (.bool true) ∧ NetJ W5 ⟨N, M, Yb, some ⟨pb1, po, none⟩, cp, some ⟨wb, wo, none⟩, cy, n, ph, ws⟩ es' W') .normal a W3 := by
    intro es' a W3 S hS h2 ⟨A3, c3, h3, h4⟩
    have hlS : l ∉ S := fun hm => by
      rcases hS l hm with e | e
      · exact hlNe e
      · omega
    have h5 := (h2.block l (Array.getElem?_eq_some_iff.1 HK2.out.2.1).1 hlS).trans HK2.out.2.1
    have h6 := run_endRound (P := Try.prog) none h5
    refine ⟨_, _, h6, rfl, ?_, A3, c3, (World.putObj_heap_other (Ne.symm hlNe)).trans h3, h4.move fun b hb => World.putObj_heap_other (by have := (h4.lt hb).1; omega)⟩
    have hT := HJ.out.tch
    refine ⟨?_, ?_, ?_, ?_, fun b hb hbN => ?_⟩
    · exact h2.os.trans (HK2.out.2.2.2.2.2.os.trans hT.os)
    · exact h2.tape.trans (HK2.out.2.2.2.2.2.tape.trans hT.tape)
    · exact h2.output.trans (HK2.out.2.2.2.2.2.output.trans hT.output)
    · have := h2.size; simp [World.putObj]; omega
    · by_cases e : b = l
      · subst e
        refine (World.putObj_heap_same (Array.getElem?_eq_some_iff.1 h5).1).trans ?_
        rw [← hT.block b hb hbN, HL0.out]
        obtain ⟨s1, s2, s3, s4, s5, s6, s7, s8⟩ := rec
        simp only at hrd hpn
        subst hrd hpn
        rfl
      · refine (World.putObj_heap_other e).trans ?_
        have hbS : b ∉ S := fun hm => by
          rcases hS b hm with e' | e'
          · exact hbN (by simpa using e')
          · omega
        exact (h2.block b (by omega) hbS).trans (HK2.out.1 b hb (by simpa using hbN) e)
  have FIN := Lib.hid fin
  clear fin hkeep hcell hL2 hA2 hN2 hG2 hT2 hN0 hG0 hL0 hpn hrd pc pc' wc hpn2 hwn2 llt
  show Code.wpIn (Fence.wide.inRound l) m Try.prog (.block 1 (.seq (Try.f20.sub [1, 1, 1, 1, 0, 1, 0, 1, 0, 0]) (.seq (.seq (Try.f20.sub [1, 1, 1, 1, 0, 1, 0, 1, 0, 1, 0, 0]) (.cond (.tmp 46) (.exit 1) .skip)) (Try.f20.sub [1, 1, 1, 1, 0, 1, 0, 1, 0, 1, 1])))) _ _ _
  refine wpIn_block ?_
  refine wpIn_seq ?_
  obtain ⟨pa, hpa⟩ : ∃ pa, pa = gi ph qa := ⟨_, rfl⟩
  obtain ⟨pb, hpb⟩ : ∃ pb, pb = gi ph qb := ⟨_, rfl⟩
  obtain ⟨wk, hwke⟩ : ∃ wk, wk = gi ws k := ⟨_, rfl⟩
  rw [← hpa] at hva pc2
  rw [← hpb] at hvb pc2'
  rw [← hwke] at hwk wc2
  have HPV := Lib.hid (And.intro hpa (And.intro hpb hwke)); clear hpa hpb hwke
  have HVA := Lib.hid (And.intro hva hvb); clear hva hvb
  conv => arg 4; whnf
  refine regionIn_reads (.inr ⟨_, rfl⟩) (by kernel_rfl) (by kernel_rfl) (by kernel_rfl) ?_
  repeat (go_big_quiet_step (fail))
  refine wpQuiet_nil ?_
  intro _ hw'
  obtain ⟨nq, rfl⟩ := hw'
  dsimp only [Exit.then]
  refine wpIn_seq ?_
  refine wpIn_seq ?_
  conv => arg 4; whnf
  by_cases hv : pa = void
  · have he : es ++ (edg ph (qa, qb) (gi ws k)).toList = es := by unfold edg; rw [if_pos (.inl (by rw [← HPV.out.1]; exact hv))]; simp
    rw [he]
    have hv1 : (pa == 1000000000000) = true := by rw [hv]; rfl
    clear hv he
    gi_wp2_with fail
    refine ⟨trivial, fun hh => by simp [Fence.wide] at hh, ((callsIn_wide.2 (isVoid_c _ _)).inRound l).mono ?_⟩
    rintro e w' ⟨rfl, rfl⟩
    dsimp only
    rw [hv1]
    gi_wp2_with fail
    refine ⟨trivial, ?_⟩
    gi_wp2_with fail
    exact FIN.out es _ _ [] (by simp) ((Tch.refl _ _).drewN nq) ⟨A, c, HK2.out.2.2.2.1, HK2.out.2.2.2.2.1.drewN nq⟩
  · have hv1 : (pa == 1000000000000) = false := by simpa [void] using hv
    by_cases hu : pb = void
    · have he : es ++ (edg ph (qa, qb) (gi ws k)).toList = es := by unfold edg; rw [if_pos (.inr (by rw [← HPV.out.2.1]; exact hu))]; simp
      rw [he]
      have hu1 : (pb == 1000000000000) = true := by rw [hu]; rfl
      clear hv hu he
      gi_wp2_with fail
      refine ⟨trivial, fun hh => by simp [Fence.wide] at hh, ((callsIn_wide.2 (isVoid_c _ _)).inRound l).mono ?_⟩
      rintro e w' ⟨rfl, rfl⟩
      dsimp only
      rw [hv1]
      gi_wp2_with fail
      refine ⟨trivial, fun hh => by simp [Fence.wide] at hh, ((callsIn_wide.2 (isVoid_c _ _)).inRound l).mono ?_⟩
      rintro e w' ⟨rfl, rfl⟩
      dsimp only
      rw [hu1]
      gi_wp2_with fail
      exact FIN.out es _ _ [] (by simp) ((Tch.refl _ _).drewN nq) ⟨A, c, HK2.out.2.2.2.1, HK2.out.2.2.2.2.1.drewN nq⟩
    · have he : es ++ (edg ph (qa, qb) (gi ws k)).toList = es ++ [⟨qa, qb, Int.tdiv (pb - pa - wrp (pb - pa)) 4096, wk.toNat⟩] := by
        unfold edg
        obtain ⟨g1, g2, g3⟩ := HPV.out
        dsimp only
        rw [← g1, ← g2, ← g3, if_neg (by simp only [not_or]; exact ⟨hv, hu⟩)]
        rfl
      rw [he]
      have hu1 : (pb == 1000000000000) = false := by simpa [void] using hu
      have r1 := HVA.out.1.resolve_left (by simpa [void] using hv)
      have r2 := HVA.out.2.resolve_left (by simpa [void] using hu)
      clear hv hu he
      gi_wp2_with fail
      refine ⟨trivial, fun hh => by simp [Fence.wide] at hh, ((callsIn_wide.2 (isVoid_c _ _)).inRound l).mono ?_⟩
      rintro e w' ⟨rfl, rfl⟩
      dsimp only
      rw [hv1]
      gi_wp2_with fail
      refine ⟨trivial, fun hh => by simp [Fence.wide] at hh, ((callsIn_wide.2 (isVoid_c _ _)).inRound l).mono ?_⟩
      rintro e w' ⟨rfl, rfl⟩
      dsimp only
      rw [hu1]
      gi_wp2_with fail
      have hSb : ∀ b, b < W2.heap.size → b ≠ N → (b < W5.heap.size ∨ W.heap.size ≤ b) → ∀ y, b ∉ (OneD.S ⟨W5.heap.size, N, n, A, c, es, y⟩) := by
        intro b h1 h2 h3 y hm
        simp only [OneD.S, List.mem_cons, Option.mem_toList] at hm
        rcases hm with e | e
        · exact h2 e
        · obtain ⟨A', c', h4, h5⟩ := HJ.out.net
          have e1 := HK2.out.2.2.2.1.symm.trans ((HK2.out.2.2.2.2.2.block N (by omega) (by simpa using Ne.symm hlNe)).trans h4)
          injection e1 with e1; injection e1 with e1; injection e1 with e1; simp only [List.cons.injEq] at e1
          obtain ⟨_, e1, _⟩ := e1
          injection e1 with e1 e2 e3
          subst e1
          have := h5.lt e
          omega
      refine net_add (.inr ⟨_, rfl⟩) (B := W5.heap.size) (n := n) (A := A) (c := c) (es := es) (x := wk) ⟨HK2.out.2.2.2.1, HK2.out.2.2.2.2.1.drewN nq, ?_, ?_, hl⟩ a0 a1 ?_ yb ?_ wc2 ?_ hk hlw hwk r1 r2 ?_
      · intro e
        have : W5.heap.size ≤ N := (HK2.out.2.2.2.2.1.lt e).1
        omega
      · show W5.heap.size ≤ W2.heap.size
        omega
      · exact hSb _ (by omega) (by omega) (.inr (Nat.le_refl _)) _
      · exact hSb _ (by omega) hyd (.inl yblt) _
      · exact hSb _ (by omega) (HO.out.wN _ _ rfl).1 (.inl wblt) _
      · intro a' w' v1 v2 hC
        have g1 := hC.a1
        rw [if_pos rfl] at g1
        obtain ⟨A', c', e1, g, _⟩ := g1
        have hh := hC.hd
        rw [if_pos rfl, e1] at hh
        refine FIN.out _ a' w' _ ?_ (((Tch.refl _ _).drewN nq).trans hC.tch) ⟨A', c', by simpa using hh, g⟩
        intro b hb
        simp only [OneD.S, List.mem_cons, Option.mem_toList] at hb
        rcases hb with e | e
        · exact .inl e
        · exact .inr (HK2.out.2.2.2.2.1.lt e).1
end Go.Proofs.Ytjnpchoinncbnaa
end

section
set_option linter.unusedSimpArgs false
set_option linter.unusedVariables false
namespace Go.Proofs.Ytjnpchoinncbnaa
open Go.RowKit Sw Fam
theorem sides_c (r c : Int) (w : World) : Calls Try.prog 38 #[.int .i64 r, .int .i64 c] w fun e w' => e = .returned (.func (.func 57) #[] #[.pointer (some ⟨w.heap.size + 1, 0, none⟩), .pointer (some ⟨w.heap.size, 0, none⟩)]) ∧ w' = (w.alloc (.cells #[.int .i64 r] 3)).alloc (.cells #[.int .i64 c] 3) := by
  go_enter Try.func38, Try.ntmps38
  go_wp2_with fail
  go_ret
  exact ⟨rfl, rfl⟩
theorem alloc5 (w : World) (o0 o1 o2 o3 o4 : Obj) {W : World} (h : W = ((((w.alloc o0).alloc o1).alloc o2).alloc o3).alloc o4) :
    W.heap.size = w.heap.size + 5 ∧ W.heap[w.heap.size]? = some o0 ∧ W.heap[w.heap.size + 1]? = some o1 ∧ W.heap[w.heap.size + 2]? = some o2 ∧ W.heap[w.heap.size + 3]? = some o3 ∧ W.heap[w.heap.size + 4]? = some o4 ∧ Below w.heap.size w W := by
  have e0 := World.alloc_heap_new w o0
  have e1 := World.alloc_heap_new (w.alloc o0) o1
  have e2 := World.alloc_heap_new ((w.alloc o0).alloc o1) o2
  have e3 := World.alloc_heap_new (((w.alloc o0).alloc o1).alloc o2) o3
  have e4 := World.alloc_heap_new ((((w.alloc o0).alloc o1).alloc o2).alloc o3) o4
  simp only [World.size_alloc] at e0 e1 e2 e3 e4
  subst h
  refine ⟨by simp only [World.size_alloc], ?_, ?_, ?_, ?_, e4, ?_⟩
  · rw [Below.heap_alloc _ _ _ (by simp only [World.size_alloc]; omega), Below.heap_alloc _ _ _ (by simp only [World.size_alloc]; omega), Below.heap_alloc _ _ _ (by simp only [World.size_alloc]; omega), Below.heap_alloc _ _ _ (by simp only [World.size_alloc]; omega)]
    exact e0
  · rw [Below.heap_alloc _ _ _ (by simp only [World.size_alloc]; omega), Below.heap_alloc _ _ _ (by simp only [World.size_alloc]; omega), Below.heap_alloc _ _ _ (by simp only [World.size_alloc]; omega)]
    exact e1
  · rw [Below.heap_alloc _ _ _ (by simp only [World.size_alloc]; omega), Below.heap_alloc _ _ _ (by simp only [World.size_alloc]; omega)]
    exact e2
  · rw [Below.heap_alloc _ _ _ (by simp only [World.size_alloc]; omega)]
    exact e3
  · exact (((((Below.refl _ _).alloc (Nat.le_refl _) _).alloc (by simp only [World.size_alloc]; omega) _).alloc (by simp only [World.size_alloc]; omega) _).alloc (by simp only [World.size_alloc]; omega) _).alloc (by simp only [World.size_alloc]; omega) _
theorem alloc3 (w : World) (o0 o1 o2 : Obj) {W : World} (h : W = ((w.alloc o0).alloc o1).alloc o2) :
    W.heap.size = w.heap.size + 3 ∧ W.heap[w.heap.size]? = some o0 ∧ W.heap[w.heap.size + 1]? = some o1 ∧ W.heap[w.heap.size + 2]? = some o2 ∧ Below w.heap.size w W := by
  have e0 := World.alloc_heap_new w o0
  have e1 := World.alloc_heap_new (w.alloc o0) o1
  have e2 := World.alloc_heap_new ((w.alloc o0).alloc o1) o2
  simp only [World.size_alloc] at e0 e1 e2
  subst h
  refine ⟨by simp only [World.size_alloc], ?_, ?_, e2, ?_⟩
  · rw [Below.heap_alloc _ _ _ (by simp only [World.size_alloc]; omega), Below.heap_alloc _ _ _ (by simp only [World.size_alloc]; omega)]
    exact e0
  · rw [Below.heap_alloc _ _ _ (by simp only [World.size_alloc]; omega)]
    exact e1
  · exact (((Below.refl _ _).alloc (Nat.le_refl _) _).alloc (by simp only [World.size_alloc]; omega) _).alloc (by simp only [World.size_alloc]; omega) _
def netOf (t : Tk) (R C : Nat) : List Ed := eds t.ph (sdl R C) (t.ac ++ t.dn)
set_option maxHeartbeats 4000000 in
set_option maxRecDepth 100000 in
theorem netOf_c {t : Tk} {l : TkL} {w : World} (hM : TkM w t l) {R C : Nat} (hR : t.rows = R) (hC : t.cols = C) (hN : RtN R C t.ph t.ac t.dn) :
    Calls Try.prog 20 #[TkV t l] w fun e w' => ∃ A c, e = .returned (.agg #[.int .i64 (R * C : Nat), .slice A (netOf t R C).length c]) ∧ Below w.heap.size w w' ∧ GrE w' w.heap.size A c (netOf t R C) := by
  obtain ⟨Ri, Ci, ph, ac, dn⟩ := t
  obtain ⟨P, A, D, cp, ca, cd⟩ := l
  unfold TkV netOf
  dsimp only at *
  subst hR hC
  refine callsIn_wide.1 (callsIn_of_wp_marks (n := 0) Try.func20 rfl trivial ?_ rfl)
  simp only [Try.ntmps20, List.size_toArray, List.length_cons, List.length_nil, Nat.reduceAdd, Nat.reduceSub, Array.replicate_succ, Array.replicate_zero, List.push_toArray, List.append_toArray, List.nil_append, List.cons_append]
  have HM := Lib.hid hM; clear hM
  have HN := Lib.hid hN; clear hN
  show Code.wpIn Fence.wide 0 Try.prog (.seq (Try.f20.sub [0]) (.seq (Try.f20.sub [1, 0]) (.seq (Try.f20.sub [1, 1, 0]) (.seq (Try.f20.sub [1, 1, 1, 0]) (.seq (.seq (Try.f20.sub [1, 1, 1, 1, 0, 0]) (.block 0 (.rangeFunc (.tmp 26) #[27, 28] (Try.f20.sub [1, 1, 1, 1, 0, 1, 0, 0]) (Try.f20.sub [1, 1, 1, 1, 0, 1, 0, 1])))) (Try.f20.sub [1, 1, 1, 1, 1])))))) _ _ _
  refine wpIn_seq ?_
  conv => arg 4; whnf
  gi_wp2_with fail
  conv => arg 4; whnf
  gi_wp2_with fail
  conv => arg 4; whnf
  gi_wp2_with fail
  conv => arg 4; whnf
  gi_wp2_with fail
  obtain ⟨w1, hw1⟩ : ∃ w1, w1 = ((((w.alloc (.cells #[.int .i64 R, .int .i64 C, .slice P ph.length cp, .slice A ac.length ca, .slice D dn.length cd] 26)).alloc (.cells #[.int .i64 0, .slice none 0 0] 37)).alloc (.cells #[.int .i64 R, .int .i64 C, .slice P ph.length cp] 24)).alloc (.cells #[.int .i64 ph.length, .slice none 0 0] 37)).alloc (.cells #[.slice A ac.length ca, .slice D dn.length cd] 22) := ⟨_, rfl⟩
  rw [← hw1]
  obtain ⟨hz1, hT1, hR1, hM1, hN1, hP1, hB1⟩ := alloc5 w _ _ _ _ _ hw1
  clear hw1
  have hla : ac.length ≤ 4096 := by have := HN.out.la; have h2 := Nat.mul_le_mul HN.out.hR.2 (show C - 1 ≤ 64 by have := HN.out.hC.2; omega); omega
  have hld : dn.length ≤ 4096 := by have := HN.out.ld; have h2 := Nat.mul_le_mul (show R - 1 ≤ 64 by have := HN.out.hR.2; omega) HN.out.hC.2; omega
  refine ⟨trivial, rfl, (callsIn_wide.2 (concat_c (ac := ac) (dn := dn) (b := w.heap.size + 4) (A := A) (D := D) (ca := ca) (cd := cd) (block_cell hP1 (j := 0) (by simp)) (block_cell hP1 (j := 1) (by simp)) (HM.out.a.keep hB1) (HM.out.d.keep hB1) (by omega) (by omega))).mono ?_⟩
  rintro e w2 ⟨Y, cy, rfl, hB2, hG2⟩
  have hz2 := hB2.size
  have hB12 := hB1.trans (hB2.mono (by omega))
  have hR2 := (hB2.block _ (by omega)).trans hR1
  have hM2 := (hB2.block _ (by omega)).trans hM1
  have hN2 := (hB2.block _ (by omega)).trans hN1
  have m0 : w2.cell? ⟨w.heap.size + 2, 0, none⟩ = some (.int .i64 R) := block_cell hM2 (j := 0) (by simp)
  have m1 : w2.cell? ⟨w.heap.size + 2, 1, none⟩ = some (.int .i64 C) := block_cell hM2 (j := 1) (by simp)
  have HH := Lib.hid (And.intro hB12 (And.intro hR2 (And.intro hM2 (And.intro hN2 hG2))))
  clear hB12 hR2 hM2 hN2 hG2 hB1 hB2 hT1 hR1 hM1 hN1 hP1
  generalize hws : ac ++ dn = ws at *
  have HWS := Lib.hid hws; clear hws
  have m0l : w.heap.size + 2 < w2.heap.size := by omega
  gi_wp2_with fail
  conv => arg 4; whnf
  gi_wp2_with fail
  refine ⟨trivial, rfl, (callsIn_wide.2 (sides_c R C _)).mono ?_⟩
  rintro e w4 ⟨rfl, hW4⟩
  dsimp only
  simp only [World.size_alloc] at *
  obtain ⟨hz4, k0, k1, k2, hW4'⟩ := alloc3 w2 _ _ _ hW4
  have hy4 : w4.cell? ⟨w2.heap.size, 0, none⟩ = some (.slice Y ws.length cy) := block_cell k0 (j := 0) (by simp)
  have hr4 : w4.cell? ⟨w2.heap.size + 1, 0, none⟩ = some (.int .i64 R) := block_cell k1 (j := 0) (by simp)
  have hc4 : w4.cell? ⟨w2.heap.size + 1 + 1, 0, none⟩ = some (.int .i64 C) := block_cell k2 (j := 0) (by simp)
  clear k0 k1 k2
  have H4 := Lib.hid hW4'
  have Hy4 := Lib.hid (And.intro hy4 (And.intro hr4 hc4))
  clear hW4 hW4' hy4 hr4 hc4 m0 m1
  gi_wp2_with fail
  show Code.wpIn Fence.wide 0 Try.prog (.rangeFunc (.tmp 26) #[27, 28] (Try.f20.sub [1, 1, 1, 1, 0, 1, 0, 0]) (Try.f20.sub [1, 1, 1, 1, 0, 1, 0, 1])) _ _ _
  refine wpIn_over 57 #[.pointer (some ⟨w2.heap.size + 1 + 1, 0, none⟩), .pointer (some ⟨w2.heap.size + 1, 0, none⟩)] rfl (enters_fn Try.func57 (by kernel_rfl) rfl) ?_
  intro fn
  generalize hrec : recOf fn _ _ _ _ w4.heap.size .ready = rec
  obtain ⟨W5, hW5⟩ : ∃ W5, (w4.alloc (.deferred (some []))).alloc (.loop rec) = W5 := ⟨_, rfl⟩
  rw [hW5]
  have hz5 : W5.heap.size = w4.heap.size + 2 := by rw [← hW5]; simp
  have hB5 : Below w4.heap.size w4 W5 := by rw [← hW5]; exact ((Below.refl _ _).alloc (Nat.le_refl _) _).alloc (by simp) _
  have hD5 : W5.heap[w4.heap.size]? = some (.deferred (some [])) := by rw [← hW5]; exact (Below.heap_alloc _ _ _ (by simp)).trans (World.alloc_heap_new w4 _)
  have hL5 : W5.heap[w4.heap.size + 1]? = some (.loop rec) := by rw [← hW5]; have := World.alloc_heap_new (w4.alloc (.deferred (some []))) (.loop rec); rwa [World.size_alloc] at this
  clear hW5
  have hB25 : Below w2.heap.size w2 W5 := H4.out.trans (hB5.mono (by omega))
  obtain ⟨hB12, hR2, hM2, hN2, hG2⟩ := HH.out
  have hB05 : Below w.heap.size w W5 := hB12.trans (hB25.mono (by omega))
  have hR5 := (hB25.block _ (by omega)).trans hR2
  have hM5 := (hB25.block _ (by omega)).trans hM2
  have hN5 := (hB25.block _ (by omega)).trans hN2
  have hG5 : GrI W5 w.heap.size Y cy ws := (hG2.keep hB25).low (by omega)
  have hn := HN.out
  have hlen : ph.length = R * C := hn.lp
  have hpos : 0 < ph.length := by rw [hlen]; exact Nat.mul_pos hn.hR.1 hn.hC.1
  have hwl : ws.length = (sdl R C).length := by rw [← HWS.out, List.length_append, hn.la, hn.ld, sdl_len hn.hC.1 hn.hR.1]
  have hfs := hn.few_sides
  have hfew := hn.few
  have hok : NetOk W5 ⟨w.heap.size + 3, w.heap.size + 2, w2.heap.size, P, cp, Y, cy, ph.length, ph, ws⟩ (w4.heap.size + 1) := by
    refine ⟨block_cell hM5 (j := 2) (by simp), cellB hB5 Hy4.out.1, HM.out.p.keep hB05, hG5.rd, ?_, ?_, ?_, ?_, ?_, ?_, fun b o hb => ?_, fun b o hb => ?_, hn.ph, by rw [← HWS.out]; exact wt_append hn.wa hn.wd, ?_, ?_⟩
    · show w.heap.size + 3 < W5.heap.size; omega
    · show w.heap.size + 2 ≠ w.heap.size + 3; omega
    · show w2.heap.size ≠ w.heap.size + 3; omega
    · show w4.heap.size + 1 ≠ w.heap.size + 3; omega
    · show w.heap.size + 2 ≠ w4.heap.size + 1; omega
    · show w2.heap.size ≠ w4.heap.size + 1; omega
    · have hb' : P = some ⟨b, o, none⟩ := hb
      obtain ⟨b', o', h1, h2⟩ := HM.out.p 0 hpos
      rw [hb'] at h1
      injection h1 with h1; injection h1 with e1 e2
      have := World.block_lt_of_cell? _ _ h2
      simp only at this
      show b ≠ w.heap.size + 3 ∧ b ≠ w4.heap.size + 1
      omega
    · have hb' : Y = some ⟨b, o, none⟩ := hb
      have := hG2.lt (b := b) (by rw [hb']; rfl)
      show b ≠ w.heap.size + 3 ∧ b ≠ w4.heap.size + 1
      omega
    · show ph.length ≤ 4096; omega
    · show ws.length ≤ 10000; omega
  have hr5 := cellB hB5 Hy4.out.2.1
  have hc5 := cellB hB5 Hy4.out.2.2
  have h0 : NetJ W5 ⟨w.heap.size + 3, w.heap.size + 2, w2.heap.size, P, cp, Y, cy, ph.length, ph, ws⟩ (eds ph ((sdl R C).take 0) ws) W5 :=
    ⟨Tch.refl _ _, none, 0, hN5, GrF.start W5 _⟩
  have hL5' := hL5
  rw [← hrec] at hL5'
  refine (callsIn_wide.2 (callsIn_wide.1 (sides1_in (w4.heap.size + 1) (cb := w2.heap.size + 1 + 1) (rb := w2.heap.size + 1) (R := R) (C := C) hn.hR hn.hC (by omega) (by omega)
    (fun k W => NetJ W5 ⟨w.heap.size + 3, w.heap.size + 2, w2.heap.size, P, cp, Y, cy, ph.length, ph, ws⟩ (eds ph ((sdl R C).take k) ws) W)
    (fun k W W' h hb => h.keep hb (by show w.heap.size + 3 < W5.heap.size; omega)) (fun k W h => ⟨h.tch.cell (by show w2.heap.size + 1 ∉ [w.heap.size + 3]; simp; omega) hr5, h.tch.cell (by show w2.heap.size + 1 + 1 ∉ [w.heap.size + 3]; simp; omega) hc5⟩) (fun k W hk h => ?_) W5 h0))).mono ?_
  · have hq := mem_sdl hn.hC.1 (gp_mem hk)
    have hr := net_round (k := k) (q := gp (sdl R C) k) h hok hL5' (by show _ < ph.length; omega) (by show _ < ph.length; omega) (by show k < ws.length; omega) (by have := eds_len ph ((sdl R C).take k) ws; rw [List.length_take] at this; omega)
    have he := eds_snoc ph ((sdl R C).take k) (gp (sdl R C) k) ws
    rw [← take_snoc hk, List.length_take, Nat.min_eq_left (by omega)] at he
    rw [he]
    exact hr
  · rintro e W6 ⟨hr, hJ6⟩
    rw [List.take_length] at hJ6
    have hl6 := (hJ6.tch.block (w4.heap.size + 1) (by omega) (by show w4.heap.size + 1 ∉ [w.heap.size + 3]; simp; omega)).trans hL5
    refine ⟨hr, hl6, ?_⟩
    obtain ⟨A', c', hN6, hG6⟩ := hJ6.net
    have hes := eds_len ph (sdl R C) ws
    generalize hee : eds ph (sdl R C) ws = es at hN6 hG6 hes
    have HEE := Lib.hid hee; clear hee
    refine nameQ ?_
    intro W7 hW7
    have hp : ∀ b, b ≠ w4.heap.size + 1 → W7.heap[b]? = W6.heap[b]? := fun b hb => by rw [hW7]; exact World.putObj_heap_other hb
    have hN7 := (hp (w.heap.size + 3) (by omega)).trans hN6
    have hR7 := (hp (w.heap.size + 1) (by omega)).trans ((hJ6.tch.block (w.heap.size + 1) (by omega) (by show w.heap.size + 1 ∉ [w.heap.size + 3]; simp)).trans hR5)
    have hD7 := (hp w4.heap.size (by omega)).trans ((hJ6.tch.block w4.heap.size (by omega) (by show w4.heap.size ∉ [w.heap.size + 3]; simp; omega)).trans hD5)
    have hG7 : GrE W7 W5.heap.size A' c' es := hG6.move fun b hb => hp b (by have := (hG6.lt hb).1; omega)
    have hz7 : W7.heap.size = W6.heap.size := by rw [hW7]; simp [World.putObj]
    have hz6 := hJ6.tch.size
    have hB7 : Below w.heap.size w W7 := by
      have h1 := hJ6.tch
      refine ⟨?_, ?_, ?_, by omega, fun b hb => ?_⟩
      · rw [hW7]; exact h1.os.trans hB05.os
      · rw [hW7]; exact h1.tape.trans hB05.tape
      · rw [hW7]; exact h1.output.trans hB05.output
      · exact (hp b (by omega)).trans ((h1.block b (by omega) (by show b ∉ [w.heap.size + 3]; simp; omega)).trans (hB05.block b hb))
    have n0 : W7.cell? ⟨w.heap.size + 1 + 1 + 1, 0, none⟩ = some (.int .i64 ph.length) := block_cell hN7 (j := 0) (by simp)
    have n1 : W7.cell? ⟨w.heap.size + 1 + 1 + 1, 1, none⟩ = some (.slice A' es.length c') := block_cell hN7 (j := 1) (by simp)
    have r0 : W7.cell? ⟨w.heap.size + 1, 0, none⟩ = some (.int .i64 0) := block_cell hR7 (j := 0) (by simp)
    have r1 : W7.cell? ⟨w.heap.size + 1, 1, none⟩ = some (.slice none 0 0) := block_cell hR7 (j := 1) (by simp)
    have f0 : W7.frozen? ⟨w.heap.size + 1, 0, none⟩ = false := by simp [World.frozen?, hR7]
    have f1 : W7.frozen? ⟨w.heap.size + 1, 1, none⟩ = false := by simp [World.frozen?, hR7]
    have HR7 := Lib.hid hR7
    have H7 := Lib.hid (And.intro hD7 (And.intro hG7 hB7))
    have HZ := Lib.hid (And.intro hz7 hz6)
    clear hW7 hp hN7 hR7 hD7 hG7 hB7 hz7 hz6 hJ6 hL5 hL5' hok h0 hr5 hc5 hr hl6 hN6 hG6 hD5 hB5 hB05 hB25 hR5 hM5 hN5 hG5 hB12 hR2 hM2 hN2 hG2 hrec
    rename_i K hK
    refine hK _ _ ?_
    clear hK K
    dsimp only
    conv => arg 4; whnf
    gi_wp2_with fail
    refine nameQ ?_
    intro W8 hW8
    obtain ⟨hD7, hG7, hB7⟩ := H7.out
    have hb8 : ∀ b, b ≠ w.heap.size + 1 → W8.heap[b]? = W7.heap[b]? := fun b hb => by
      rw [hW8]; exact (Below.heap_setCell _ _ _ b hb).trans (Below.heap_setCell _ _ _ b hb)
    have hB8 : Below w.heap.size w W8 := by rw [hW8]; exact (hB7.setCell (show w.heap.size ≤ w.heap.size + 1 by omega) _).setCell (show w.heap.size ≤ w.heap.size + 1 by omega) _
    have hR8 : W8.heap[w.heap.size + 1]? = some (.cells #[.int .i64 ((R : Int) * C), .slice A' es.length c'] 37 (0, 0)) := by
      rw [hW8]
      have s1 := heap_setCell_same W7 (w.heap.size + 1) 0 _ _ (.int .i64 ((R : Int) * C)) HR7.out
      exact heap_setCell_same _ (w.heap.size + 1) 1 _ _ (.slice A' es.length c') s1
    have hD8 := (hb8 w4.heap.size (by omega)).trans hD7
    have hG8 : GrE W8 W5.heap.size A' c' es := hG7.move fun b hb => hb8 b (by have := (hG7.lt hb).1; omega)
    show LeavesInM Fence.wide 0 Try.prog _ _ _ ([w4.heap.size].map rfMark) .returning W8
    refine leaves_marks [w4.heap.size] W8 ⟨by simp, fun D hD => by rw [List.mem_singleton] at hD; subst hD; exact hD8⟩ ?_
    intro w' k1 k2 k3 k4 k5
    have b8 := (k1 (w.heap.size + 1) (by simp; omega)).trans hR8
    refine ⟨.agg #[.int .i64 ((R : Int) * C), .slice A' es.length c'], ?_, A', c', ?_, ?_, ?_⟩
    · refine results_cellN (b := w.heap.size + 1) (cs := [.int .i64 ((R : Int) * C), .slice A' es.length c']) Try.results20 rfl (fun j u hj => ?_) Try.underlying37 rfl (by kernel_rfl)
      obtain ⟨j1, j2⟩ := List.getElem?_eq_some_iff.1 hj
      rw [Nat.zero_add, block_cell b8 (j := j) (by simpa using j1)]
      simp [← j2]
    · rw [HWS.out, HEE.out]; rfl
    · exact ⟨k3.trans hB8.os, k4.trans hB8.tape, k5.trans hB8.output, by rw [k2]; exact hB8.size, fun b hb => (k1 b (by simp; omega)).trans (hB8.block b hb)⟩
    · rw [HWS.out, HEE.out]
      exact (hG8.move fun b hb => k1 b (by have := (hG8.lt hb).1; simp; omega)).low (by omega)
end Go.Proofs.Ytjnpchoinncbnaa
end

section
set_option linter.unusedSimpArgs false
set_option linter.unusedVariables false
namespace Go.Proofs.Ytjnpchoinncbnaa
open Go.RowKit Sw Fam
def T6 (B : Nat) (R C : Int) (ph : List Int) (V : Nat → Value) : Nat → World → Prop
  | 9, w => ∃ A c, V 9 = .slice A ph.length c ∧ GrI w B A c ph
  | 10, w => ∃ A c, V 9 = .slice A ph.length c ∧ V 10 = .agg #[.int .i64 R, .int .i64 C, .slice A ph.length c]
  | 11, w => ∃ b, V 11 = .pointer (some ⟨b, 0, none⟩) ∧ B ≤ b ∧ w.heap[b]? = some (.cells #[.int .i64 0, .int .i64 0, .slice none 0 0] 24 (0, 0))
  | _, _ => True
theorem T6_ok (B : Nat) (R C : Int) (ph : List Int) {ops : Array Oper} (hd : dep ops 10 9 = true) : GrT ops (T6 B R C ph) := by
  constructor
  · intro V j w w' h hb
    unfold T6 at h ⊢
    split
    · obtain ⟨A, c, h1, h2⟩ := h; exact ⟨A, c, h1, h2.keep hb⟩
    · exact h
    · obtain ⟨b, h1, h2, h3⟩ := h; exact ⟨b, h1, h2, (hb.block b (Array.getElem?_eq_some_iff.1 h3).1).trans h3⟩
    · trivial
  · intro L V w i u j hi hc hj h
    have hne : j ≠ i := fun e => by rw [← e, hj] at hi; cases hi
    unfold T6 at h ⊢
    split
    · rw [setV_ne _ _ hne]; exact h
    · have h9 : (9 : Nat) ≠ i := fun e => by subst e; rw [hc.not hd hi] at hj; cases hj
      rw [setV_ne _ _ hne, setV_ne _ _ h9]; exact h
    · rw [setV_ne _ _ hne]; exact h
    · trivial
theorem ex_build24 {ρ : Operand → Value} {o : Oper} {w : World} (x0 x1 x2 : Operand) (ho : o.op = .build 24 #[(0, x0), (1, x1), (2, x2)]) {A : Option Addr} {R C : Int} {n c : Nat}
    (h0 : ρ x0 = .int .i64 R) (h1 : ρ x1 = .int .i64 C) (h2 : ρ x2 = .slice A n c) :
    (execOp ρ o).run Try.prog w = .ok (.value (.agg #[.int .i64 R, .int .i64 C, .slice A n c])) w := by
  unfold execOp
  simp only [ho, h0, h1, h2, List.map_toArray, List.map_cons, List.map_nil]
  go_simp
def StE (W : World) (r : Nat) (vs : List Value) (w' : World) : Prop := ∃ w0, Below W.heap.size W w0 ∧ w' = w0.setCells r 0 vs
abbrev StC (n : Nat) (W : World) (r : Nat) (vs : List Value) (L : Nat → Bool) (V : Nat → Value) (w : World) : Prop := Lst n (fun w' => Below W.heap.size W w') (StE W r vs) L V w
theorem StC.early {n r : Nat} {W w : World} {vs : List Value} {L : Nat → Bool} {V : Nat → Value} (h : StC n W r vs L V w) (hn : L n = false) : Below W.heap.size W w := by
  unfold StC Lst at h; rw [hn] at h; simpa using h
theorem StC.cell {n r : Nat} {W w : World} {vs : List Value} {L : Nat → Bool} {V : Nat → Value} (h : StC n W r vs L V w) {ad : Addr} {v : Value} (hc : W.cell? ad = some v) (hne : ad.block ≠ r) : w.cell? ad = some v := by
  unfold StC Lst at h
  split at h
  · obtain ⟨w0, h1, rfl⟩ := h
    rw [World.cell?_setCells_out r vs 0 w0 ad (fun e => absurd e hne)]
    exact cellB h1 hc
  · exact cellB h hc
end Go.Proofs.Ytjnpchoinncbnaa
end

section
set_option linter.unusedSimpArgs false
set_option linter.unusedVariables false
namespace Go.Proofs.Ytjnpchoinncbnaa
open Go.RowKit Sw Fam
theorem nameCalls {P : Program} {f : FuncId} {args : Array Value} {w : World} {R : Ending → World → Prop} (h : ∀ W, W = w → Calls P f args W R) : Calls P f args w R := h w rfl
theorem alloc2 (w : World) (o0 o1 : Obj) {W : World} (h : W = (w.alloc o0).alloc o1) :
    W.heap.size = w.heap.size + 2 ∧ W.heap[w.heap.size]? = some o0 ∧ W.heap[w.heap.size + 1]? = some o1 ∧ Below w.heap.size w W := by
  have e0 := World.alloc_heap_new w o0
  have e1 := World.alloc_heap_new (w.alloc o0) o1
  simp only [World.size_alloc] at e0 e1
  subst h
  refine ⟨by simp only [World.size_alloc], ?_, e1, ?_⟩
  · rw [Below.heap_alloc _ _ _ (by simp only [World.size_alloc]; omega)]
    exact e0
  · exact ((Below.refl _ _).alloc (Nat.le_refl _) _).alloc (by simp only [World.size_alloc]; omega) _
def shift (ph q : List Int) : List Int := (List.range ph.length).map fun i => if gi ph i = void then void else gi ph i + gi q i * 4096
theorem shift_get {ph q : List Int} {k : Nat} (hk : k < ph.length) : gi (shift ph q) k = if gi ph k = void then void else gi ph k + gi q k * 4096 := by
  unfold shift gi
  simp [List.getD_eq_getElem?_getD, hk]
theorem shift_len (ph q : List Int) : (shift ph q).length = ph.length := by simp [shift]
def UnwI (w6 : World) (yb yo n : Nat) (ph q : List Int) (k : Nat) (wr : World) : Prop :=
  Tch [yb] w6 wr ∧ (∀ j, j < n → wr.cell? ⟨yb, yo + j, none⟩ = some (.int .i64 (if j < k then gi (shift ph q) j else gi ph j))) ∧ ∀ i, wr.frozen? ⟨yb, i, none⟩ = false
set_option maxHeartbeats 4000000 in
set_option maxRecDepth 100000 in
theorem unwrap_c {t : Tk} {l : TkL} {w : World} (hM : TkM w t l) {R C : Nat} (hR : t.rows = R) (hC : t.cols = C) (hN : RtN R C t.ph t.ac t.dn) (hRt : Rt t) :
    Calls Try.prog 6 #[TkV t l] w fun e w' => ∃ (q x : List Int) (A : Option Addr) (c X : Nat),
      e = .returned (.tuple #[.agg #[.int .i64 R, .int .i64 C, .slice A t.ph.length c], .slice (some ⟨X, 0, none⟩) (netOf t R C).length (netOf t R C).length, .int .i64 (cost (netOf t R C) q), .int .i64 0]) ∧
      Below w.heap.size w w' ∧ RdI w' A (shift t.ph q) ∧ IntB w' X x ∧ Solved (R * C) 1 (netOf t R C) q x (cost (netOf t R C) q) := by
  have HRT := Lib.hid hRt; clear hRt
  have HM := Lib.hid hM; clear hM
  have HN := Lib.hid hN; clear hN
  have hck : ∀ w', Below w.heap.size w w' → Calls Try.prog 19 #[TkV t l] w' _ := fun w' hb => checkTask_c t l w' (HM.out.keep hb) HRT.out
  have hno : ∀ w', Below w.heap.size w w' → Calls Try.prog 20 #[TkV t l] w' _ := fun w' hb => netOf_c (HM.out.keep hb) hR hC HN.out
  have HCK := Lib.hid hck
  have HNO := Lib.hid hno
  clear hck hno
  obtain ⟨Ri, Ci, ph, ac, dn⟩ := t
  obtain ⟨P, A, D, cp, ca, cd⟩ := l
  unfold TkV at *
  dsimp only at *
  subst hR hC
  go_enter Try.func6, Try.ntmps6
  go_wp2_with fail
  refine nameCalls ?_
  intro w1 hw1
  obtain ⟨hz1, hT1, hR1, hB1⟩ := alloc2 w _ _ hw1
  clear hw1
  refine (HCK.out w1 hB1).mono ?_
  rintro e w2 ⟨rfl, hB2⟩
  dsimp only
  have hB12 := hB1.trans (hB2.mono (by omega))
  have hz2 := hB2.size
  have hT2 := (hB2.block _ (by omega)).trans hT1
  have hR2 := (hB2.block _ (by omega)).trans hR1
  have H2 := Lib.hid (And.intro hB12 (And.intro hT2 hR2))
  have t0 : w2.cell? ⟨w.heap.size, 0, none⟩ = some (.int .i64 R) := block_cell hT2 (j := 0) (by simp)
  have t1 : w2.cell? ⟨w.heap.size, 1, none⟩ = some (.int .i64 C) := block_cell hT2 (j := 1) (by simp)
  have t2 : w2.cell? ⟨w.heap.size, 2, none⟩ = some (.slice P ph.length cp) := block_cell hT2 (j := 2) (by simp)
  have t3 : w2.cell? ⟨w.heap.size, 3, none⟩ = some (.slice A ac.length ca) := block_cell hT2 (j := 3) (by simp)
  have t4 : w2.cell? ⟨w.heap.size, 4, none⟩ = some (.slice D dn.length cd) := block_cell hT2 (j := 4) (by simp)
  clear hB12 hT2 hR2 hT1 hR1 hB1 hB2 HCK
  go_wp2_with fail
  refine (HNO.out w2 H2.out.1).mono ?_
  rintro e w3 ⟨E, ce, rfl, hB3, hG3⟩
  dsimp only
  have hgd := HN.out.gd
  have hn1 : 1 ≤ R * C := Nat.mul_pos HN.out.hR.1 HN.out.hC.1
  have hn2 := HN.out.few
  have hlp := HN.out.lp
  generalize hnn : R * C = n at *
  have HNN := Lib.hid hnn; clear hnn
  have HGD := Lib.hid hgd
  have hel := hgd.m_le
  generalize hes : netOf ⟨R, C, ph, ac, dn⟩ R C = es at *
  have hes' : eds ph (sdl R C) (ac ++ dn) = es := hes
  have HES := Lib.hid hes
  rw [hes'] at HGD hgd hel
  clear hes hes' hgd t0 t1 t2 t3 t4 HNO
  have hB03 := H2.out.1.trans (hB3.mono H2.out.1.size)
  have hT3 := (hB3.block _ (by omega)).trans H2.out.2.1
  have hR3 := (hB3.block _ (by omega)).trans H2.out.2.2
  have hz3 := hB3.size
  have H3 := Lib.hid (And.intro hB03 (And.intro hT3 (And.intro hR3 hG3.rdE)))
  clear hB03 hT3 hR3 hG3 hB3 H2
  go_wp2_with fail
  refine nameCalls ?_
  intro w4 hw4
  have hz4 : w4.heap.size = w3.heap.size + 1 := by rw [hw4]; simp only [World.size_alloc]
  have hB4 : Below w3.heap.size w3 w4 := by rw [hw4]; exact (Below.refl _ _).alloc (Nat.le_refl _) _
  have hN4 : w4.heap[w3.heap.size]? = some (.cells #[.int .i64 n, .slice E es.length ce] 56 (0, 0)) := by rw [hw4]; exact World.alloc_heap_new w3 _
  clear hw4
  refine (solve_c HGD.out hn1 (ca := ce) (H3.out.2.2.2.keep hB4)).mono ?_
  rintro e w5 ⟨v, x, q, rfl, hB5, s1, s2, s3, hS, hSo⟩
  dsimp only
  have hz5 := hB5.size
  have hB35 : Below w3.heap.size w3 w5 := hB4.trans (hB5.mono (by omega))
  have hT5 := (hB35.block _ (by omega)).trans H3.out.2.1
  have hR5 := (hB35.block _ (by omega)).trans H3.out.2.2.1
  have hN5 := (hB5.block _ (by omega)).trans hN4
  have hB05 := H3.out.1.trans (hB35.mono H3.out.1.size)
  have hE5 := H3.out.2.2.2.keep hB35
  have H5 := Lib.hid (And.intro hB05 (And.intro hT5 (And.intro hR5 (And.intro hN5 (And.intro hE5 (And.intro hS hSo))))))
  have HS1 := Lib.hid (And.intro s1 (And.intro s2 s3))
  have t0 : w5.cell? ⟨w.heap.size, 0, none⟩ = some (.int .i64 R) := block_cell hT5 (j := 0) (by simp)
  have t1 : w5.cell? ⟨w.heap.size, 1, none⟩ = some (.int .i64 C) := block_cell hT5 (j := 1) (by simp)
  have t2 : w5.cell? ⟨w.heap.size, 2, none⟩ = some (.slice P ph.length cp) := block_cell hT5 (j := 2) (by simp)
  clear hB35 hT5 hR5 hN5 hB05 hE5 hS hSo s1 s2 s3 hN4 hB4 hB5 H3
  go_wp2_with fail
  refine region_rel (by kernel_rfl) (by kernel_rfl) (by kernel_rfl) (GrC w5.heap.size w5 (fun L => L 12) (T6 w5.heap.size R C ph) (fun V w' => ∃ w0 b A' c', V 11 = .pointer (some ⟨b, 0, none⟩) ∧ w5.heap.size ≤ b ∧ Below w5.heap.size w5 w0 ∧ w0.heap[b]? = some (.cells #[.int .i64 0, .int .i64 0, .slice none 0 0] 24 (0, 0)) ∧ GrI w0 w5.heap.size A' c' ph ∧ w' = w0.setCells b 0 [.int .i64 R, .int .i64 C, .slice A' ph.length c'])) (GrC.start rfl (Below.refl _ _).drew) ?_
  (repeat (first | (refine relq rfl rfl (by (first | (exact fun _ _ _ h => GrC.up (fun L => upd_ne _ (by decide)) (fun _ _ => trivial) h) | (exact fun _ _ _ h => GrC.up (fun L => rfl) (fun _ _ => trivial) h) | (exact fun _ _ _ h => Lst.up (by decide) h) | (exact fun _ _ _ h => h))) (fun K hK => ?_); go_big_quiet_op; (refine hK _ ?_; clear hK K)) | (refine relk_nil rfl _ rfl _ rfl (by (first | (exact fun _ _ _ h => GrC.up (fun L => upd_ne _ (by decide)) (fun _ _ => trivial) h) | (exact fun _ _ _ h => GrC.up (fun L => rfl) (fun _ _ => trivial) h) | (exact fun _ _ _ h => Lst.up (by decide) h) | (exact fun _ _ _ h => h))) (fun K hK => ?_); simp only [Act.put, List.setIfInBounds_toArray, List.set_cons_succ, List.set_cons_zero]; (refine hK _ ?_; clear hK K))))
  (refine relk_val rfl _ (by (first | (exact fun _ _ _ h => GrC.up (fun L => upd_ne _ (by decide)) (fun _ _ => trivial) h) | (exact fun _ _ _ h => GrC.up (fun L => rfl) (fun _ _ => trivial) h) | (exact fun _ _ _ h => Lst.up (by decide) h) | (exact fun _ _ _ h => h))) (fun V L w' h1 h2 h3 hC => ex_load1 _ _ rfl _ rfl (cellB (hC.before ((ahead_last (by kernel_rfl)).1 L h1 h3)).1 t0) _ Try.underlying3 rfl) (fun K hK => ?_); simp only [Act.put, List.setIfInBounds_toArray, List.set_cons_succ, List.set_cons_zero]; (refine hK _ ?_; clear hK K); (repeat (first | (refine relq rfl rfl (by (first | (exact fun _ _ _ h => GrC.up (fun L => upd_ne _ (by decide)) (fun _ _ => trivial) h) | (exact fun _ _ _ h => GrC.up (fun L => rfl) (fun _ _ => trivial) h) | (exact fun _ _ _ h => Lst.up (by decide) h) | (exact fun _ _ _ h => h))) (fun K hK => ?_); go_big_quiet_op; (refine hK _ ?_; clear hK K)) | (refine relk_nil rfl _ rfl _ rfl (by (first | (exact fun _ _ _ h => GrC.up (fun L => upd_ne _ (by decide)) (fun _ _ => trivial) h) | (exact fun _ _ _ h => GrC.up (fun L => rfl) (fun _ _ => trivial) h) | (exact fun _ _ _ h => Lst.up (by decide) h) | (exact fun _ _ _ h => h))) (fun K hK => ?_); simp only [Act.put, List.setIfInBounds_toArray, List.set_cons_succ, List.set_cons_zero]; (refine hK _ ?_; clear hK K)))))
  (refine relk_val rfl _ (by (first | (exact fun _ _ _ h => GrC.up (fun L => upd_ne _ (by decide)) (fun _ _ => trivial) h) | (exact fun _ _ _ h => GrC.up (fun L => rfl) (fun _ _ => trivial) h) | (exact fun _ _ _ h => Lst.up (by decide) h) | (exact fun _ _ _ h => h))) (fun V L w' h1 h2 h3 hC => ex_load1 _ _ rfl _ rfl (cellB (hC.before ((ahead_last (by kernel_rfl)).1 L h1 h3)).1 t1) _ Try.underlying3 rfl) (fun K hK => ?_); simp only [Act.put, List.setIfInBounds_toArray, List.set_cons_succ, List.set_cons_zero]; (refine hK _ ?_; clear hK K); (repeat (first | (refine relq rfl rfl (by (first | (exact fun _ _ _ h => GrC.up (fun L => upd_ne _ (by decide)) (fun _ _ => trivial) h) | (exact fun _ _ _ h => GrC.up (fun L => rfl) (fun _ _ => trivial) h) | (exact fun _ _ _ h => Lst.up (by decide) h) | (exact fun _ _ _ h => h))) (fun K hK => ?_); go_big_quiet_op; (refine hK _ ?_; clear hK K)) | (refine relk_nil rfl _ rfl _ rfl (by (first | (exact fun _ _ _ h => GrC.up (fun L => upd_ne _ (by decide)) (fun _ _ => trivial) h) | (exact fun _ _ _ h => GrC.up (fun L => rfl) (fun _ _ => trivial) h) | (exact fun _ _ _ h => Lst.up (by decide) h) | (exact fun _ _ _ h => h))) (fun K hK => ?_); simp only [Act.put, List.setIfInBounds_toArray, List.set_cons_succ, List.set_cons_zero]; (refine hK _ ?_; clear hK K)))))
  (refine relk_val rfl _ (by (first | (exact fun _ _ _ h => GrC.up (fun L => upd_ne _ (by decide)) (fun _ _ => trivial) h) | (exact fun _ _ _ h => GrC.up (fun L => rfl) (fun _ _ => trivial) h) | (exact fun _ _ _ h => Lst.up (by decide) h) | (exact fun _ _ _ h => h))) (fun V L w' h1 h2 h3 hC => ex_load1 _ _ rfl _ rfl (cellB (hC.before ((ahead_last (by kernel_rfl)).1 L h1 h3)).1 t2) _ Try.underlying22 rfl) (fun K hK => ?_); simp only [Act.put, List.setIfInBounds_toArray, List.set_cons_succ, List.set_cons_zero]; (refine hK _ ?_; clear hK K); (repeat (first | (refine relq rfl rfl (by (first | (exact fun _ _ _ h => GrC.up (fun L => upd_ne _ (by decide)) (fun _ _ => trivial) h) | (exact fun _ _ _ h => GrC.up (fun L => rfl) (fun _ _ => trivial) h) | (exact fun _ _ _ h => Lst.up (by decide) h) | (exact fun _ _ _ h => h))) (fun K hK => ?_); go_big_quiet_op; (refine hK _ ?_; clear hK K)) | (refine relk_nil rfl _ rfl _ rfl (by (first | (exact fun _ _ _ h => GrC.up (fun L => upd_ne _ (by decide)) (fun _ _ => trivial) h) | (exact fun _ _ _ h => GrC.up (fun L => rfl) (fun _ _ => trivial) h) | (exact fun _ _ _ h => Lst.up (by decide) h) | (exact fun _ _ _ h => h))) (fun K hK => ?_); simp only [Act.put, List.setIfInBounds_toArray, List.set_cons_succ, List.set_cons_zero]; (refine hK _ ?_; clear hK K)))))
  refine gr_free (T6_ok _ _ _ _ (by kernel_rfl)) (ahead_last (by kernel_rfl)) (Nat.le_refl _) rfl (fun V L wx hB hT hw => ?_) ?_
  · rw [ex_call1 22 (.tmp 31) _ rfl rfl rfl (enters_fn Try.func22 (by kernel_rfl) rfl)]
    refine (clone_c ((HM.out.p.keep H5.out.1).keep hB) (by dsimp only; omega) (by dsimp only; omega)).mono ?_
    rintro e w' ⟨A', c', rfl, hb, hg⟩
    exact ⟨_, rfl, hb, fun V' _ h => ⟨A', c', h, hg.low hB.size⟩⟩
  simp only [Act.put, List.setIfInBounds_toArray, List.set_cons_succ, List.set_cons_zero]
  refine gr_free (T6_ok _ _ _ _ (by kernel_rfl)) (ahead_last (by kernel_rfl)) (Nat.le_refl _) rfl (fun V L wx hB hT hw => ?_) ?_
  · obtain ⟨A', c', h9, _⟩ := hT 9 (waits_at hw (by kernel_rfl))
    rw [ex_build24 _ _ _ rfl rfl rfl h9]
    exact ⟨Below.refl _ _, fun V' hV h => ⟨A', c', by rw [hV 9 (by decide)]; exact h9, h⟩⟩
  simp only [Act.put, List.setIfInBounds_toArray, List.set_cons_succ, List.set_cons_zero]
  refine gr_free (T6_ok _ _ _ _ (by kernel_rfl)) (ahead_last (by kernel_rfl)) (Nat.le_refl _) rfl (fun V L wx hB _ _ => ?_) ?_
  · rw [ex_alloc 24 rfl (z := .agg #[.int .i64 0, .int .i64 0, .slice none 0 0]) (by kernel_rfl)]
    exact ⟨(Below.refl _ _).alloc (Nat.le_refl _) _, fun V' _ h => ⟨wx.heap.size, h, hB.size, heap_alloc_new wx _⟩⟩
  simp only [Act.put, List.setIfInBounds_toArray, List.set_cons_succ, List.set_cons_zero]
  refine gr_last rfl rfl (fun V wx hB hT => ?_) (fun j hj => by revert j; decide +kernel) rfl ?_ (by decide)
  · obtain ⟨A', c', h9, h9g⟩ := hT 9 (by decide)
    obtain ⟨A2, c2, h9', h10⟩ := hT 10 (by decide)
    obtain ⟨b, h11, h11b, h11c⟩ := hT 11 (by decide)
    rw [h9] at h9'
    injection h9' with e1 _ e3
    subst e1 e3
    rw [ex_storeN 24 _ _ rfl b 0 #[.int .i64 R, .int .i64 C, .slice A' ph.length c'] h11 h10 ?_ (by kernel_rfl) (by simp [Value.oneCell'])]
    · exact ⟨rfl, wx, b, A', c', h11, h11b, hB, h11c, h9g, rfl⟩
    · exact block_there h11c (Nat.le_refl 3)
  · rintro V w6 ⟨w0, b, A', c', h11, h11b, hB0, hb0, hg0, rfl⟩
    have e11 : V (0 + 1 + 1 + 1 + 1 + 1 + 1 + 1 + 1 + 1 + 1 + 1) = .pointer (some ⟨b, 0, none⟩) := h11
    rw [e11]
    generalize V (0 + 1 + 1 + 1 + 1 + 1 + 1 + 1 + 1 + 1) = g9
    generalize V (0 + 1 + 1 + 1 + 1 + 1 + 1 + 1 + 1 + 1 + 1) = g10
    clear e11 h11 V
    obtain ⟨yb, yo, rfl, hyb, hy0⟩ := GrI.cell hg0 (j := 0) (by omega)
    obtain ⟨ycs, hyc⟩ := hg0.block (b := yb) rfl
    have hne : yb ≠ b := fun e => by
      subst e
      rw [hyc] at hb0
      injection hb0 with hb0; injection hb0 with _ hb0; exact absurd hb0 (by decide)
    refine nameQ ?_
    intro w6 hw6
    have hm6 : w6.heap[b]? = some (.cells #[.int .i64 R, .int .i64 C, .slice (some ⟨yb, yo, none⟩) ph.length c'] 24 (0, 0)) := by
      rw [hw6]
      have s1 := heap_setCell_same w0 b 0 _ _ (.int .i64 R) hb0
      have s2 := heap_setCell_same _ b 1 _ _ (.int .i64 C) s1
      exact heap_setCell_same _ b 2 _ _ (.slice (some ⟨yb, yo, none⟩) ph.length c') s2
    have hB6 : Below w5.heap.size w5 w6 := by rw [hw6]; exact below_setCells h11b _ _ _ hB0
    have hbl6 : ∀ b', b' ≠ b → w6.heap[b']? = w0.heap[b']? := fun b' hb' => by
      rw [hw6]
      exact (Below.heap_setCell _ _ _ b' hb').trans ((Below.heap_setCell _ _ _ b' hb').trans (Below.heap_setCell _ _ _ b' hb'))
    have hG6 : GrI w6 w5.heap.size (some ⟨yb, yo, none⟩) c' ph := hg0.move fun b' hb' => hbl6 b' (fun e => hne ((show yb = b' by simpa using hb').trans e))
    have hyc6 := (hbl6 yb hne).trans hyc
    have hcs6 : ∀ j, j < n → w6.cell? ⟨yb, yo + j, none⟩ = some (.int .i64 (gi ph j)) := fun j hj => by
      obtain ⟨b', o', e1, _, e2⟩ := GrI.cell hG6 (j := j) (by omega)
      injection e1 with e1; injection e1 with e1 e3
      subst e1 e3
      exact e2
    have hfz6 : ∀ i, w6.frozen? ⟨yb, i, none⟩ = false := fun i => by simp [World.frozen?, hyc6]
    have hyl6 := (Array.getElem?_eq_some_iff.1 hyc6).1
    have hz6 := hB6.size
    obtain ⟨hB05, hT5, hR5, hN5, hE5, hS, hSo⟩ := H5.out
    have hvS : v.S < w5.heap.size := (Array.getElem?_eq_some_iff.1 hS.blk).1
    have hvp : v.p < w5.heap.size := hS.tu.lt
    have hvx : v.x < w5.heap.size := hS.fl.lt
    have hwl := hB05.size
    have hbd := hSo.bound
    have hS6 := (hB6.block _ hvS).trans hS.blk
    have hp6 := hS.tu.keep hB6
    have s3 : w6.cell? ⟨v.S, 3, none⟩ = some (.slice (some ⟨v.p, 0, none⟩) n n) := block_cell hS6 (j := 3) (by simp)
    have HH := Lib.hid (And.intro hB05 (And.intro hT5 (And.intro hR5 (And.intro hN5 (And.intro hE5 (And.intro hS hSo))))))
    have H6 := Lib.hid (And.intro hm6 (And.intro hB6 (And.intro hcs6 (And.intro hfz6 (And.intro hS6 hp6)))))
    have HBD := Lib.hid hbd
    have HPH := Lib.hid HN.out.ph
    have HLQ := Lib.hid hS.lq
    clear hw6 hbl6 hG6 hyc6 hcs6 hfz6 hm6 hB6 hS6 hp6 hbd hB05 hT5 hR5 hN5 hE5 hS hSo H5 hyc hb0 hB0 hg0 hy0 t0 t1 t2
    go_wp2_with fail
    go_loopw [39] (fun v39 wr => ∃ k : Nat, v39 = .int .i64 k ∧ k ≤ n ∧ UnwI w6 yb yo n ph q k wr) (fun v39 _ => n - (intOf v39).toNat)
    case atStart => exact ⟨0, rfl, Nat.zero_le _, Tch.refl _ _, fun j hj => by rw [if_neg (by omega)]; exact H6.out.2.2.1 j hj, H6.out.2.2.2.1⟩
    case round =>
      obtain ⟨k, rfl, hk, hI⟩ := hrel
      have hIt := hI.1
      have HI := Lib.hid hI; clear hI
      have m2 : wr.cell? ⟨b, 2, none⟩ = some (.slice (some ⟨yb, yo, none⟩) ph.length c') := hIt.cell (by simpa using Ne.symm hne) (block_cell H6.out.1 (j := 2) (by simp))
      clear hIt
      by_cases hlt : k < n
      · have pk : wr.cell? ⟨v.p, k, none⟩ = some (.int .i64 (gi q k)) := HI.out.1.cell (by simp; omega) (H6.out.2.2.2.2.2.cell (by rw [HLQ.out]; exact hlt))
        have yk := HI.out.2.1 k hlt
        rw [if_neg (Nat.lt_irrefl k)] at yk
        have fk := HI.out.2.2 (yo + k)
        have hbk := HBD.out k hlt
        have hsg := shift_get (ph := ph) (q := q) (k := k) (by omega)
        have hph := HPH.out k (by omega)
        have hnx : ∀ (w' : World), Tch [yb] wr w' → w'.cell? ⟨yb, yo + k, none⟩ = some (.int .i64 (gi (shift ph q) k)) → (∀ j, j ≠ k → w'.cell? ⟨yb, yo + j, none⟩ = wr.cell? ⟨yb, yo + j, none⟩) → (∀ i, w'.frozen? ⟨yb, i, none⟩ = false) → UnwI w6 yb yo n ph q (k + 1) w' := fun w' h1 h2 h3 h4 => by
          refine ⟨HI.out.1.trans (h1.mono fun b hb => .inl hb), fun j hj => ?_, h4⟩
          by_cases e : j = k
          · subst e; rw [if_pos (by omega)]; exact h2
          · rw [h3 j e, HI.out.2.1 j hj]
            by_cases hjk : j < k
            · rw [if_pos hjk, if_pos (by omega)]
            · rw [if_neg hjk, if_neg (by omega)]
        have HNX := Lib.hid hnx; clear hnx
        obtain ⟨qk, hqk⟩ : ∃ qk, qk = gi q k := ⟨_, rfl⟩
        obtain ⟨pk1, hpk⟩ : ∃ pk1, pk1 = gi ph k := ⟨_, rfl⟩
        rw [← hqk] at pk hbk hsg
        rw [← hpk] at yk hph hsg
        have HSG := Lib.hid hsg
        clear hsg hqk hpk
        by_cases hv : pk1 = void
        · have hv1 : (pk1 == 1000000000000) = true := by rw [hv]; rfl
          have HV := Lib.hid hv; clear hv
          go_wp2_with (refine (isVoid_c _ _).mono ?_; rintro e w' ⟨rfl, rfl⟩; dsimp only; rw [hv1])
          go_roundw
          case rel =>
            refine ⟨k + 1, by go_num, by omega, HNX.out _ (Tch.refl _ _) ?_ (fun _ _ => rfl) HI.out.2.2⟩
            rw [HSG.out, if_pos HV.out, ← HV.out]; exact yk
          case measure => simp [intOf]; omega
        · have hv1 : (pk1 == 1000000000000) = false := by simpa [void] using hv
          have hpb := hph.resolve_left (by simpa [void] using hv)
          go_wp2_with (refine (isVoid_c _ _).mono ?_; rintro e w' ⟨rfl, rfl⟩; dsimp only; rw [hv1])
          go_roundw
          case rel =>
            refine ⟨k + 1, by go_num, by omega, HNX.out _ ((Tch.refl _ _).set (.inl (by simp)) _) ?_ (fun j hj => ?_) (fun i => ?_)⟩
            · rw [HSG.out, if_neg hv]
              exact World.cell?_setCell_same (h := yk) ..
            · exact World.cell?_setCell_other (h := fun e => by injection e with _ e; omega) ..
            · rw [World.frozen?_setCell]; exact HI.out.2.2 i
          case measure => simp [intOf]; omega
      · have : k = n := by omega
        subst this
        have hT := HI.out.1
        have hz := hT.size
        have hyR : RdI wr (some ⟨yb, yo, none⟩) (shift ph q) := fun j hj => by
          have := HI.out.2.1 j (by rw [shift_len] at hj; omega)
          rw [if_pos (by rw [shift_len] at hj; omega)] at this
          exact ⟨yb, yo, rfl, this⟩
        obtain ⟨hB05, hT5, hR5, hN5, hE5, hS, hSo⟩ := HH.out
        obtain ⟨hm6, hB6, hcs6, hfz6, hS6, hp6⟩ := H6.out
        have hBw : Below w5.heap.size w5 wr := ⟨hT.os.trans hB6.os, hT.tape.trans hB6.tape, hT.output.trans hB6.output, by omega, fun b hb => (hT.block b (by omega) (by simp; omega)).trans (hB6.block b hb)⟩
        have hRr := (hBw.block _ (by omega)).trans hR5
        have hNr := (hBw.block _ (by omega)).trans hN5
        have hSr := (hT.block v.S (by omega) (by simp; omega)).trans hS6
        have hbr := (hT.block b (Array.getElem?_eq_some_iff.1 hm6).1 (by simp; exact fun e => hne e.symm)).trans hm6
        have s2 : wr.cell? ⟨v.S, 2, none⟩ = some (.slice (some ⟨v.x, 0, none⟩) es.length es.length) := block_cell hSr (j := 2) (by simp)
        have s3 : wr.cell? ⟨v.S, 3, none⟩ = some (.slice (some ⟨v.p, 0, none⟩) k k) := block_cell hSr (j := 3) (by simp)
        have hEr := hE5.keep hBw
        have hpr := hS.tu.rd.keep hBw
        have hxr := hS.fl.keep hBw
        have HF := Lib.hid (And.intro hRr (And.intro hNr (And.intro hbr (And.intro hEr (And.intro hpr (And.intro hxr (And.intro (hB05.trans (hBw.mono hB05.size)) (And.intro hSo hyR))))))))
        clear hRr hNr hbr hEr hpr hxr hB05 hSo hyR hT5 hR5 hN5 hE5 hS hm6 hB6 hcs6 hfz6 hS6 hp6 hBw hSr hT m2 HI H6 HH
        go_wp2_with fail
        refine region_rel (by kernel_rfl) (by kernel_rfl) (by kernel_rfl) (StC 11 wr (w.heap.size + 1) [.int .i64 R, .int .i64 C, .slice (some ⟨yb, yo, none⟩) ph.length c']) ((Below.refl _ _).drew) ?_
        refine relk_val rfl (.agg #[.int .i64 R, .int .i64 C, .slice (some ⟨yb, yo, none⟩) ph.length c']) (fun _ _ _ h => Lst.up (by decide) h) (fun V L w' h1 h2 h3 hC => ex_loadN 24 _ rfl b 0 rfl [.int .i64 R, .int .i64 C, .slice (some ⟨yb, yo, none⟩) ph.length c'] _ (fun j v hj => by
          have hD := StC.early hC (h3.not (by kernel_rfl) h1)
          have hb := (hD.block _ (Array.getElem?_eq_some_iff.1 HF.out.2.2.1).1).trans HF.out.2.2.1
          obtain ⟨j1, j2⟩ := List.getElem?_eq_some_iff.1 hj
          rw [Nat.zero_add, block_cell hb (j := j) (by simpa using j1)]
          simp [← j2]) Try.underlying24 rfl (by kernel_rfl)) (fun K hK => ?_)
        simp only [Act.put, List.setIfInBounds_toArray, List.set_cons_succ, List.set_cons_zero]
        refine hK _ ?_
        clear hK K
        (repeat (first | (refine relq rfl rfl (by (first | (exact fun _ _ _ h => GrC.up (fun L => upd_ne _ (by decide)) (fun _ _ => trivial) h) | (exact fun _ _ _ h => GrC.up (fun L => rfl) (fun _ _ => trivial) h) | (exact fun _ _ _ h => Lst.up (by decide) h) | (exact fun _ _ _ h => h))) (fun K hK => ?_); go_big_quiet_op; (refine hK _ ?_; clear hK K)) | (refine relk_nil rfl _ rfl _ rfl (by (first | (exact fun _ _ _ h => GrC.up (fun L => upd_ne _ (by decide)) (fun _ _ => trivial) h) | (exact fun _ _ _ h => GrC.up (fun L => rfl) (fun _ _ => trivial) h) | (exact fun _ _ _ h => Lst.up (by decide) h) | (exact fun _ _ _ h => h))) (fun K hK => ?_); simp only [Act.put, List.setIfInBounds_toArray, List.set_cons_succ, List.set_cons_zero]; (refine hK _ ?_; clear hK K))))
        (refine relk_val rfl _ (fun _ _ _ h => Lst.up (by decide) h) (fun V L w' h1 h2 h3 hC => ex_load1 _ _ rfl _ rfl (StC.cell hC s2 (by exact (show v.S ≠ w.heap.size + 1 by have := HS1.out.1; omega))) _ Try.underlying22 rfl) (fun K hK => ?_); simp only [Act.put, List.setIfInBounds_toArray, List.set_cons_succ, List.set_cons_zero]; (refine hK _ ?_; clear hK K); (repeat (first | (refine relq rfl rfl (by (first | (exact fun _ _ _ h => GrC.up (fun L => upd_ne _ (by decide)) (fun _ _ => trivial) h) | (exact fun _ _ _ h => GrC.up (fun L => rfl) (fun _ _ => trivial) h) | (exact fun _ _ _ h => Lst.up (by decide) h) | (exact fun _ _ _ h => h))) (fun K hK => ?_); go_big_quiet_op; (refine hK _ ?_; clear hK K)) | (refine relk_nil rfl _ rfl _ rfl (by (first | (exact fun _ _ _ h => GrC.up (fun L => upd_ne _ (by decide)) (fun _ _ => trivial) h) | (exact fun _ _ _ h => GrC.up (fun L => rfl) (fun _ _ => trivial) h) | (exact fun _ _ _ h => Lst.up (by decide) h) | (exact fun _ _ _ h => h))) (fun K hK => ?_); simp only [Act.put, List.setIfInBounds_toArray, List.set_cons_succ, List.set_cons_zero]; (refine hK _ ?_; clear hK K)))))
        refine relk_val rfl (.agg #[.int .i64 k, .slice E es.length ce]) (fun _ _ _ h => Lst.up (by decide) h) (fun V L w' h1 h2 h3 hC => ex_loadN 56 _ rfl w3.heap.size 0 rfl [.int .i64 k, .slice E es.length ce] _ (fun j v hj => by
          have hD := StC.early hC (h3.not (i := 10) (by kernel_rfl) (h3.not (by kernel_rfl) h1))
          have hb := (hD.block _ (Array.getElem?_eq_some_iff.1 HF.out.2.1).1).trans HF.out.2.1
          obtain ⟨j1, j2⟩ := List.getElem?_eq_some_iff.1 hj
          rw [Nat.zero_add, block_cell hb (j := j) (by simpa using j1)]
          simp [← j2]) Try.underlying56 rfl (by kernel_rfl)) (fun K hK => ?_)
        simp only [Act.put, List.setIfInBounds_toArray, List.set_cons_succ, List.set_cons_zero]
        refine hK _ ?_
        clear hK K
        (repeat (first | (refine relq rfl rfl (by (first | (exact fun _ _ _ h => GrC.up (fun L => upd_ne _ (by decide)) (fun _ _ => trivial) h) | (exact fun _ _ _ h => GrC.up (fun L => rfl) (fun _ _ => trivial) h) | (exact fun _ _ _ h => Lst.up (by decide) h) | (exact fun _ _ _ h => h))) (fun K hK => ?_); go_big_quiet_op; (refine hK _ ?_; clear hK K)) | (refine relk_nil rfl _ rfl _ rfl (by (first | (exact fun _ _ _ h => GrC.up (fun L => upd_ne _ (by decide)) (fun _ _ => trivial) h) | (exact fun _ _ _ h => GrC.up (fun L => rfl) (fun _ _ => trivial) h) | (exact fun _ _ _ h => Lst.up (by decide) h) | (exact fun _ _ _ h => h))) (fun K hK => ?_); simp only [Act.put, List.setIfInBounds_toArray, List.set_cons_succ, List.set_cons_zero]; (refine hK _ ?_; clear hK K))))
        (refine relk_val rfl _ (fun _ _ _ h => Lst.up (by decide) h) (fun V L w' h1 h2 h3 hC => ex_load1 _ _ rfl _ rfl (StC.cell hC s3 (by exact (show v.S ≠ w.heap.size + 1 by have := HS1.out.1; omega))) _ Try.underlying22 rfl) (fun K hK => ?_); simp only [Act.put, List.setIfInBounds_toArray, List.set_cons_succ, List.set_cons_zero]; (refine hK _ ?_; clear hK K); (repeat (first | (refine relq rfl rfl (by (first | (exact fun _ _ _ h => GrC.up (fun L => upd_ne _ (by decide)) (fun _ _ => trivial) h) | (exact fun _ _ _ h => GrC.up (fun L => rfl) (fun _ _ => trivial) h) | (exact fun _ _ _ h => Lst.up (by decide) h) | (exact fun _ _ _ h => h))) (fun K hK => ?_); go_big_quiet_op; (refine hK _ ?_; clear hK K)) | (refine relk_nil rfl _ rfl _ rfl (by (first | (exact fun _ _ _ h => GrC.up (fun L => upd_ne _ (by decide)) (fun _ _ => trivial) h) | (exact fun _ _ _ h => GrC.up (fun L => rfl) (fun _ _ => trivial) h) | (exact fun _ _ _ h => Lst.up (by decide) h) | (exact fun _ _ _ h => h))) (fun K hK => ?_); simp only [Act.put, List.setIfInBounds_toArray, List.set_cons_succ, List.set_cons_zero]; (refine hK _ ?_; clear hK K)))))
        refine relk_fix rfl (.int .i64 (cost es q)) (fun V L w4x h1 h2 h3 hC => ?_) (fun K hK => ?_)
        · have hD := StC.early hC (h3.not (by kernel_rfl) h1)
          rw [ex_call2 24 (.tmp 66) (.tmp 70) _ rfl rfl rfl rfl (enters_fn Try.func24 (by kernel_rfl) rfl)]
          refine (cost_c HGD.out (solved_pb HGD.out HF.out.2.2.2.2.2.2.2.1) (HF.out.2.2.2.1.keep hD) (HF.out.2.2.2.2.1.keep hD)).mono ?_
          rintro e w' ⟨rfl, h⟩
          refine ⟨_, rfl, rfl, Lst.up (by decide) ?_⟩
          have hn := h3.not (j := 11) (by kernel_rfl) h1
          unfold Lst
          rw [hn]
          exact hD.trans (h.mono hD.size)
        simp only [Act.put, List.setIfInBounds_toArray, List.set_cons_succ, List.set_cons_zero]
        refine hK _ ?_
        clear hK K
        refine relk_fix rfl undef (fun V L w4x h1 h2 h3 hC => ?_) (fun K hK => ?_)
        · have hD := StC.early hC h1
          have hb := (hD.block _ (Array.getElem?_eq_some_iff.1 HF.out.1).1).trans HF.out.1
          rw [ex_storeN 24 _ _ rfl (w.heap.size + 1) 0 #[.int .i64 R, .int .i64 C, .slice (some ⟨yb, yo, none⟩) ph.length c'] rfl rfl (block_there hb (Nat.le_refl 3)) (by kernel_rfl) (by simp [Value.oneCell'])]
          refine ⟨rfl, (show StC 11 wr (w.heap.size + 1) _ (upd L 11) V _ from ?_)⟩
          unfold StC Lst
          rw [upd_same]
          exact ⟨w4x, hD, rfl⟩
        simp only [Act.put, List.setIfInBounds_toArray, List.set_cons_succ, List.set_cons_zero]
        refine hK _ ?_
        clear hK K
        (repeat (first | (refine relq rfl rfl (by (first | (exact fun _ _ _ h => GrC.up (fun L => upd_ne _ (by decide)) (fun _ _ => trivial) h) | (exact fun _ _ _ h => GrC.up (fun L => rfl) (fun _ _ => trivial) h) | (exact fun _ _ _ h => Lst.up (by decide) h) | (exact fun _ _ _ h => h))) (fun K hK => ?_); go_big_quiet_op; (refine hK _ ?_; clear hK K)) | (refine relk_nil rfl _ rfl _ rfl (by (first | (exact fun _ _ _ h => GrC.up (fun L => upd_ne _ (by decide)) (fun _ _ => trivial) h) | (exact fun _ _ _ h => GrC.up (fun L => rfl) (fun _ _ => trivial) h) | (exact fun _ _ _ h => Lst.up (by decide) h) | (exact fun _ _ _ h => h))) (fun K hK => ?_); simp only [Act.put, List.setIfInBounds_toArray, List.set_cons_succ, List.set_cons_zero]; (refine hK _ ?_; clear hK K))))
        refine relk_end (fun L V w9 hL hC => ?_)
        have hE := hC
        unfold StC Lst at hE
        rw [hL 11 (by decide)] at hE
        obtain ⟨w8, hB8, rfl⟩ : StE wr (w.heap.size + 1) _ w9 := hE
        clear hC hL
        go_wp2_with fail
        obtain ⟨hRr, hNr, hbr, hEr, hpr, hxr, hBr, hSo, hyR⟩ := HF.out
        have hR8 := (hB8.block _ (Array.getElem?_eq_some_iff.1 hRr).1).trans hRr
        have q1 := heap_setCell_same w8 (w.heap.size + 1) 0 _ _ (.int .i64 R) hR8
        have q2 := heap_setCell_same _ (w.heap.size + 1) 1 _ _ (.int .i64 C) q1
        have q3 := heap_setCell_same _ (w.heap.size + 1) 2 _ _ (.slice (some ⟨yb, yo, none⟩) ph.length c') q2
        have hBf : Below w.heap.size w (w8.setCells (w.heap.size + 1) 0 [.int .i64 R, .int .i64 C, .slice (some ⟨yb, yo, none⟩) ph.length c']) := below_setCells (by omega) _ _ _ (hBr.trans (hB8.mono hBr.size))
        have hbk : ∀ b', b' ≠ w.heap.size + 1 → (w8.setCells (w.heap.size + 1) 0 [.int .i64 R, .int .i64 C, .slice (some ⟨yb, yo, none⟩) ph.length c']).heap[b']? = w8.heap[b']? := fun b' hb' =>
          (Below.heap_setCell _ _ _ b' hb').trans ((Below.heap_setCell _ _ _ b' hb').trans (Below.heap_setCell _ _ _ b' hb'))
        generalize hW9 : w8.setCells (w.heap.size + 1) 0 [.int .i64 R, .int .i64 C, .slice (some ⟨yb, yo, none⟩) ph.length c'] = w9 at *
        have q4 : w9.heap[w.heap.size + 1]? = some (.cells #[.int .i64 R, .int .i64 C, .slice (some ⟨yb, yo, none⟩) ph.length c'] 24 (0, 0)) := by rw [← hW9]; exact q3
        have c0 : w9.cell? ⟨w.heap.size + 1, 0, none⟩ = some (.int .i64 R) := block_cell q4 (j := 0) (by simp)
        have c1 : w9.cell? ⟨w.heap.size + 1, 1, none⟩ = some (.int .i64 C) := block_cell q4 (j := 1) (by simp)
        have c2 : w9.cell? ⟨w.heap.size + 1, 2, none⟩ = some (.slice (some ⟨yb, yo, none⟩) ph.length c') := block_cell q4 (j := 2) (by simp)
        refine bodyPost_ret (v := .tuple #[.agg #[.int .i64 R, .int .i64 C, .slice (some ⟨yb, yo, none⟩) ph.length c'], .slice (some ⟨v.x, 0, none⟩) es.length es.length, .int .i64 (cost es q), .int .i64 0]) ?_ rfl ⟨q, x, some ⟨yb, yo, none⟩, c', v.x, ?_, hBf, ?_, ?_, ?_⟩
        · simp [results, Try.results6, go_sem, c0, c1, c2]
        · rw [HES.out]
        · intro j hj
          obtain ⟨b', o', e1, e2⟩ := hyR.keep hB8 j hj
          injection e1 with e1; injection e1 with e1 e3
          subst e1 e3
          exact ⟨yb, yo, rfl, (World.cell?_of_block (hbk yb (by omega))).trans e2⟩
        · exact (hbk v.x (by have := HS1.out.2.1; omega)).trans (hxr.keep hB8)
        · rw [HES.out, HNN.out]; exact hSo
end Go.Proofs.Ytjnpchoinncbnaa
end
