/- Proves parts of the statement, each under the conditions that its theorem states: The reference's CheckCorrections: the contract; The example's stack and task; base.Ints; All pairs joined, in the program; Solved: the sums and the parts. -/
import Derived.Test.YtjnpchoinncbnaaGreatP38
import Derived.Test.YtjnpchoinncbnaaGreatP30
import Derived.Test.YtjnpchoinncbnaaGreatP16
set_option linter.unusedSimpArgs false
set_option linter.unusedVariables false
set_option maxHeartbeats 4000000
set_option maxRecDepth 100000
section
namespace Go.Proofs.YtjnpchoinncbnaaGreat
open Go.RowKit Sw Fam
def GoodK (t : Sk) (ks : List Int) : Prop := ks.length = t.ph.length ∧ (∀ i, i < ks.length → InK (gi ks i)) ∧ ∃ p, Sms t (corr t.ph ks) p ∧ ∀ i, i < t.pr.length → ms t (corr t.ph ks) p i = 0
def CkPost (t : Sk) (ks : List Int) (w : World) (e : Ending) (w' : World) : Prop := ∃ c g : Int, e = .returned (.tuple #[.int .i64 c, .int .i64 g]) ∧ Below w.heap.size w w' ∧ (g = 0 ↔ GoodK t ks) ∧ (GoodK t ks → c = costK t ks)
theorem Sms.of_corr {t : Sk} {ks ph : List Int} {p : Nat → Int} (h : Sms (corrT t ks) ph p) : Sms t ph p := by
  obtain ⟨ys, T, u, h⟩ := h
  exact ⟨ys, T, u, h.perm, h.std, h.kr, h.lab, ⟨h.pot.root, h.pot.edge⟩⟩
theorem corrT_net {t : Sk} {ks : List Int} (h : NetOk t) : NetOk (corrT t ks) := ⟨h.n_le, h.m_le, h.name, h.uniq, h.day, h.bl, h.ends, h.two⟩
theorem ckp_no {t : Sk} {ks : List Int} {w w' : World} {g : Int} (hB : Below w.heap.size w w') (hg : g ≠ 0) (hn : ¬ GoodK t ks) : CkPost t ks w (.returned (.tuple #[.int .i64 0, .int .i64 g])) w' :=
  ⟨0, g, rfl, hB, ⟨fun h => absurd h hg, fun h => absurd h hn⟩, fun h => absurd h hn⟩
theorem rcheck_c {t : Sk} {l : SkL} {w : World} {ks : List Int} {TA : Option Addr} {tc : Nat} (hM : SkM w t l) (ho : RtS t) (hT : RdI w TA ks) (h250 : ks.length ≤ 250) :
    Calls Tryz.prog 9 #[SkV t l, .slice TA ks.length tc] w (CkPost t ks w) := by
  have HM := Lib.hid (And.intro hM (And.intro ho hT)); clear hM hT
  have h200 := ho.net.m_le
  have HL := Lib.hid ho.lph; clear ho
  unfold SkV
  go_enter Tryz.func9, Tryz.ntmps9
  show Code.wp Tryz.prog (.seq (Tryz.f9.sub [0]) (.seq (Tryz.f9.sub [1, 0]) (.seq (.seq (Tryz.f9.sub [1, 1, 0, 0]) (.block 0 (.loop (Tryz.f9.sub [1, 1, 0, 1, 0, 0])))) (.seq (Tryz.f9.sub [1, 1, 1, 0]) (.seq (Tryz.f9.sub [1, 1, 1, 1, 0]) (.seq (.seq (Tryz.f9.sub [1, 1, 1, 1, 1, 0, 0]) (.block 2 (.loop (Tryz.f9.sub [1, 1, 1, 1, 1, 0, 1, 0, 0])))) (Tryz.f9.sub [1, 1, 1, 1, 1, 1]))))))) _ _ _
  refine wp_seq ?_
  conv => arg 2; whnf
  go_wp2_with fail
  refine nameC ?_
  intro W1 hW1
  obtain ⟨hB1, e1⟩ := alloc1 w _ hW1
  clear hW1
  obtain ⟨G, hG⟩ : ∃ G, w.heap.size = G := ⟨_, rfl⟩
  rw [hG] at e1
  rw [hG]
  have g2 : W1.cell? ⟨G, 2, none⟩ = some (.slice l.H t.ph.length l.ch) := block_cell e1 (j := 2) (by simp)
  have HB := Lib.hid (And.intro hB1 (And.intro e1 hG)); clear hB1 e1 hG
  by_cases hlen : ks.length = t.ph.length
  · have hle : ((ks.length : Int) != (t.ph.length : Int)) = false := by simp [hlen]
    have HLE := Lib.hid hlen; clear hlen
    conv => arg 2; whnf
    go_wp2_with fail
    conv => arg 2; whnf
    go_wp2_with fail
    refine wp_loop (LoopRk W1 ks TA tc (.pointer (some ⟨G, 0, none⟩))) (fun a _ => ks.length - (intOf (a.tmps.getD 6 undef)).toNat) ⟨0, Nat.zero_le _, fun i hi => absurd hi (Nat.not_lt_zero _), rfl, by (refine ⟨rfl, rfl, ?_⟩; repeat (first | exact trivial | refine ⟨rfl, ?_⟩))⟩ ?_
    intro a wr hI
    refine rk_first h250 (HM.out.2.2.keep HB.out.1) ?_ ?_ hI
    · intro a' hin hfr
      rename_i K6 hK6
      obtain ⟨v, rfl⟩ := hfr.open
      clear hfr hI
      refine hK6 _ _ ?_
      clear hK6
      have HIN := Lib.hid hin; clear hin
      show Code.wp Tryz.prog (.seq (Tryz.f9.sub [1, 1, 1, 0]) (.seq (Tryz.f9.sub [1, 1, 1, 1, 0]) (.seq (.seq (Tryz.f9.sub [1, 1, 1, 1, 1, 0, 0]) (.block 2 (.loop (Tryz.f9.sub [1, 1, 1, 1, 1, 0, 1, 0, 0])))) (Tryz.f9.sub [1, 1, 1, 1, 1, 1])))) _ ⟨#[(v 0), .slice TA ks.length tc, .pointer (some ⟨G, 0, none⟩), (v 3), (v 4), (v 5), (v 6), (v 7), (v 8), (v 9), (v 10), (v 11), (v 12), (v 13), (v 14), (v 15), (v 16), (v 17), (v 18), (v 19), (v 20), (v 21), (v 22), (v 23), (v 24), (v 25), (v 26), (v 27), (v 28), (v 29), (v 30), (v 31), (v 32), (v 33), (v 34), (v 35), (v 36), (v 37), (v 38), (v 39), (v 40), (v 41), (v 42), (v 43), (v 44), (v 45), (v 46), (v 47), (v 48), (v 49), (v 50), (v 51), (v 52), (v 53), (v 54), (v 55), (v 56)], []⟩ _
      have g0 : W1.cell? ⟨G, 0, none⟩ = some (.slice l.S t.sc.length l.cs) := block_cell HB.out.2.1 (j := 0) (by simp)
      have g1 : W1.cell? ⟨G, 1, none⟩ = some (.slice l.P t.pr.length l.cp) := block_cell HB.out.2.1 (j := 1) (by simp)
      have g3 : W1.cell? ⟨G, 3, none⟩ = some (.slice l.W t.ws.length l.cw) := block_cell HB.out.2.1 (j := 3) (by simp)
      have hlen := HLE.out
      have hco := corrected_c (tc := tc) (HM.out.1.keep HB.out.1) HM.out.2.1 (HM.out.2.2.keep HB.out.1) hlen (fun i hi => HIN.out i (by omega))
      rw [← hlen] at hco
      unfold SkV at hco
      have HCO := Lib.hid hco; clear hco hlen
      refine wp_seq ?_
      conv => arg 2; whnf
      try dsimp only
      go_wp2_with fail
      refine HCO.out.mono ?_
      rintro e W2 ⟨l', rfl, hB2, hN2, hH2⟩
      have hcl : (corrT t ks).ph.length = (corrT t ks).pr.length := by show (corr t.ph ks).length = t.pr.length; rw [corr_len]; exact HL.out
      have hms := rmisses_c (M := 10000000000) hN2 (corrT_net HM.out.2.1.net) hH2 hcl (by omega) (fun i hi => by
        have hi2 : i < t.ph.length := by rw [HL.out]; exact hi
        have h1 := HM.out.2.1.ph i hi2
        have h2 := HIN.out i (by rw [HLE.out]; exact hi2)
        unfold InK at h2
        show _ ≤ gi (corr t.ph ks) i ∧ gi (corr t.ph ks) i ≤ _
        rw [corr_get hi2]
        omega)
      have HMS := Lib.hid hms; clear hms hcl
      generalize SkV (corrT t ks) l' = tv at *
      have H2 := Lib.hid (And.intro (HB.out.1.trans (hB2.mono HB.out.1.size)) hB2); clear hB2 hN2 hH2 HCO g0 g1 g2 g3
      go_wp2_with fail
      refine HMS.out.mono ?_
      rintro e W3 ⟨MA, mc, p, rfl, hB3, hSm, hGr, _⟩
      rw [show (corrT t ks).pr.length = t.pr.length from rfl]
      have hSm' : Sms t (corr t.ph ks) p := Sms.of_corr hSm
      have hR3 : RdI W3 MA (msL t (corr t.ph ks) p) := GrI.rd hGr
      have hb3 := H2.out.1.trans (hB3.mono H2.out.1.size)
      have e3 := ((H2.out.2.trans (hB3.mono H2.out.2.size)).block _ (Array.getElem?_eq_some_iff.1 HB.out.2.1).1).trans HB.out.2.1
      have H3 := Lib.hid (And.intro hSm' (And.intro hR3 (And.intro hb3 e3))); clear hSm hSm' hR3 hb3 e3 hGr hB3 HMS
      go_wp2_with fail
      conv => arg 2; whnf
      go_wp2_with fail
      conv => arg 2; whnf
      go_wp2_with fail
      refine wp_loop (LoopRj W3 t ks (corr t.ph ks) p MA TA mc tc G) (fun a _ => t.pr.length - (intOf (a.tmps.getD 9 undef)).toNat) ⟨0, Nat.zero_le _, fun i hi => absurd hi (Nat.not_lt_zero _), Below.refl _ _, by (refine ⟨rfl, rfl, ?_⟩; repeat (first | exact trivial | refine ⟨rfl, ?_⟩))⟩ ?_
      intro a wr hI
      refine rk_second (l := l) HM.out.2.1 HLE.out HIN.out H3.out.2.1 (HM.out.2.2.keep H3.out.2.2.1) (HM.out.1.ws.keep H3.out.2.2.1) H3.out.2.2.2 ?_ ?_ hI
      · intro a' w' hz hBl hfr
        rename_i K6 hK6
        obtain ⟨v, rfl⟩ := hfr.open
        clear hfr hI
        refine hK6 _ _ ?_
        clear hK6
        have HZ := Lib.hid (And.intro hz hBl); clear hz hBl
        show Code.wp Tryz.prog (Tryz.f9.sub [1, 1, 1, 1, 1, 1]) _ ⟨#[(v 0), (v 1), (v 2), (v 3), (v 4), (v 5), (v 6), (v 7), .int .i64 (costK t ks), (v 9), (v 10), (v 11), (v 12), (v 13), (v 14), (v 15), (v 16), (v 17), (v 18), (v 19), (v 20), (v 21), (v 22), (v 23), (v 24), (v 25), (v 26), (v 27), (v 28), (v 29), (v 30), (v 31), (v 32), (v 33), (v 34), (v 35), (v 36), (v 37), (v 38), (v 39), (v 40), (v 41), (v 42), (v 43), (v 44), (v 45), (v 46), (v 47), (v 48), (v 49), (v 50), (v 51), (v 52), (v 53), (v 54), (v 55), (v 56)], []⟩ _
        conv => arg 2; whnf
        try dsimp only
        generalize hcc : costK t ks = cc
        go_wp2_with fail
        go_ret2
        have hg : GoodK t ks := ⟨HLE.out, HIN.out, p, H3.out.1, HZ.out.1⟩
        exact ⟨cc, 0, rfl, H3.out.2.2.1.trans (HZ.out.2.mono H3.out.2.2.1.size), ⟨fun _ => hg, fun _ => rfl⟩, fun _ => hcc.symm⟩
      · intro a' w' i hi hne hBl hfr
        obtain ⟨v, rfl⟩ := hfr.open
        go_ret2
        refine ckp_no (g := 26) (H3.out.2.2.1.trans (hBl.mono H3.out.2.2.1.size)) (by decide) (fun hg => ?_)
        obtain ⟨_, _, p', hp1, hp2⟩ := hg
        have := hp2 i hi
        rw [ms_congr HM.out.2.1.net (hp1.uniq HM.out.2.1.net H3.out.1) hi] at this
        exact hne this
    · intro a' i hi hn hfr
      obtain ⟨v, rfl⟩ := hfr.open
      go_ret2
      exact ckp_no (g := 2) HB.out.1 (by decide) (fun hg => hn (hg.2.1 i hi))
  · have hle : ((ks.length : Int) != (t.ph.length : Int)) = true := by simp; omega
    have HLE := Lib.hid hlen; clear hlen
    conv => arg 2; whnf
    go_wp2_with fail
    go_ret2
    exact ckp_no (g := 10) HB.out.1 (by decide) (fun hg => HLE.out hg.1)
theorem alloc3 (w : World) (o0 o1 o2 : Obj) {W : World} (h : W = ((w.alloc o0).alloc o1).alloc o2) :
    W.heap.size = w.heap.size + 3 ∧ W.heap[w.heap.size]? = some o0 ∧ W.heap[w.heap.size + 1]? = some o1 ∧ W.heap[w.heap.size + 1 + 1]? = some o2 ∧ Below w.heap.size w W := by
  obtain ⟨h1, h2, h3, h4⟩ := alloc2 w o0 o1 (W := (w.alloc o0).alloc o1) rfl
  have hB : Below ((w.alloc o0).alloc o1).heap.size ((w.alloc o0).alloc o1) W := by rw [h]; exact (Below.refl _ _).alloc (Nat.le_refl _) _
  refine ⟨by rw [h]; simp, (hB.block _ (by omega)).trans h2, (hB.block _ (by omega)).trans h3, ?_, h4.trans (hB.mono (by omega))⟩
  rw [h]
  have := World.alloc_heap_new ((w.alloc o0).alloc o1) o2
  rw [h1] at this
  exact this
theorem RdS.tch {w w' : World} {A : Option Addr} {xs : List Sc} {S : List Nat} (h : RdS w A xs) (hT : Tch S w w') (hn : ∀ b o, A = some ⟨b, o, none⟩ → b ∉ S) : RdS w' A xs := fun j hj => by
  obtain ⟨b, o, h1, h2, h3, h4, h5⟩ := h j hj
  have := hn b o h1
  exact ⟨b, o, h1, hT.cell this h2, hT.cell this h3, hT.cell this h4, h5⟩
theorem RdP.tch {w w' : World} {A : Option Addr} {xs : List Rp} {S : List Nat} (h : RdP w A xs) (hT : Tch S w w') (hn : ∀ b o, A = some ⟨b, o, none⟩ → b ∉ S) : RdP w' A xs := fun j hj => by
  obtain ⟨b, o, h1, h2, h3⟩ := h j hj
  have := hn b o h1
  exact ⟨b, o, h1, hT.cell this h2, hT.cell this h3⟩
theorem nameQ' {P : Program} {fn : Func} {Post : Ending → World → Prop} {a : Act} {W : World} (h : ∀ w2, w2 = W → bodyPost P fn Post .ret a w2) : bodyPost P fn Post .ret a W := h W rfl
theorem four_c (w : World) : Calls Tryz.prog 24 #[] w fun e w' => ∃ b c, e = .returned (.agg #[.slice (some ⟨b, 0, none⟩) 4 4, .slice (some ⟨c, 0, none⟩) 4 4]) ∧ w.heap.size < b ∧ w.heap.size < c ∧ Below w.heap.size w w' ∧ RdS w' (some ⟨b, 0, none⟩) sc4 ∧ RdP w' (some ⟨c, 0, none⟩) pr4 := by
  go_enter Tryz.func24, Tryz.ntmps24
  go_wp2_with fail
  refine nameQ' ?_
  intro w2 hw2
  obtain ⟨hz, h0, h1, h2, hB⟩ := alloc3 w _ _ _ hw2
  clear hw2
  have c0 : w2.cell? ⟨w.heap.size, 0, none⟩ = some (.slice (some ⟨w.heap.size + 1, 0, none⟩) 4 4) := block_cell h0 (j := 0) (by simp)
  have c1 : w2.cell? ⟨w.heap.size, 1, none⟩ = some (.slice (some ⟨w.heap.size + 1 + 1, 0, none⟩) 4 4) := block_cell h0 (j := 1) (by simp)
  refine bodyPost_ret (v := .agg #[.slice (some ⟨w.heap.size + 1, 0, none⟩) 4 4, .slice (some ⟨w.heap.size + 1 + 1, 0, none⟩) 4 4]) ?_ rfl ⟨_, _, rfl, by omega, by omega, hB, ?_, ?_⟩
  · simp [results, Tryz.results24, go_sem, c0, c1]
  · intro j hj
    have hj4 : j < 4 := hj
    refine ⟨_, 0, rfl, ?_⟩
    match j, hj4 with
    | 0, _ => exact ⟨block_cell h1 (j := 0) (by simp), block_cell h1 (j := 1) (by simp), block_cell h1 (j := 2) (by simp), by show 1 ≤ maxLen; simp [maxLen]⟩
    | 1, _ => exact ⟨block_cell h1 (j := 3) (by simp), block_cell h1 (j := 4) (by simp), block_cell h1 (j := 5) (by simp), by show 1 ≤ maxLen; simp [maxLen]⟩
    | 2, _ => exact ⟨block_cell h1 (j := 6) (by simp), block_cell h1 (j := 7) (by simp), block_cell h1 (j := 8) (by simp), by show 1 ≤ maxLen; simp [maxLen]⟩
    | 3, _ => exact ⟨block_cell h1 (j := 9) (by simp), block_cell h1 (j := 10) (by simp), block_cell h1 (j := 11) (by simp), by show 1 ≤ maxLen; simp [maxLen]⟩
  · intro j hj
    have hj4 : j < 4 := hj
    refine ⟨_, 0, rfl, ?_⟩
    match j, hj4 with
    | 0, _ => exact ⟨block_cell h2 (j := 0) (by simp), block_cell h2 (j := 1) (by simp)⟩
    | 1, _ => exact ⟨block_cell h2 (j := 2) (by simp), block_cell h2 (j := 3) (by simp)⟩
    | 2, _ => exact ⟨block_cell h2 (j := 4) (by simp), block_cell h2 (j := 5) (by simp)⟩
    | 3, _ => exact ⟨block_cell h2 (j := 6) (by simp), block_cell h2 (j := 7) (by simp)⟩
theorem task4_c {x a b c d : Int} {WA : Option Addr} {wc : Nat} {w : World} (hW : RdI w WA [a, b, c, d]) : Calls Tryz.prog 11 #[.int .i64 x, .slice WA 4 wc] w fun e w' => ∃ l, e = .returned (SkV (tk4 x [a, b, c, d]) l) ∧ Below w.heap.size w w' ∧ SkM w' (tk4 x [a, b, c, d]) l ∧ 4 ≤ l.cs := by
  have HW := Lib.hid hW; clear hW
  go_enter Tryz.func11, Tryz.ntmps11
  go_wp2_with fail
  refine nameCl ?_
  intro w1 hw1
  obtain ⟨hB1, hR1⟩ := alloc1 w _ hw1
  clear hw1
  refine (four_c w1).mono ?_
  rintro e w2 ⟨sb, pb, rfl, hsb, hpb, hB2, hS, hP⟩
  have hRl := (Array.getElem?_eq_some_iff.1 hR1).1
  have hR2 := (hB2.block _ hRl).trans hR1
  have hz2 := hB2.size
  have HM := Lib.hid (And.intro hS (And.intro hP (And.intro (hB1.trans (hB2.mono hB1.size)) hR2))); clear hS hP hB2 hB1 hR1
  have r0 : w2.cell? ⟨w.heap.size, 0, none⟩ = some (.slice none 0 0) := block_cell hR2 (j := 0) (by simp)
  have r1 : w2.cell? ⟨w.heap.size, 1, none⟩ = some (.slice none 0 0) := block_cell hR2 (j := 1) (by simp)
  have r2 : w2.cell? ⟨w.heap.size, 2, none⟩ = some (.slice none 0 0) := block_cell hR2 (j := 2) (by simp)
  have r3 : w2.cell? ⟨w.heap.size, 3, none⟩ = some (.slice none 0 0) := block_cell hR2 (j := 3) (by simp)
  have f0 : w2.frozen? ⟨w.heap.size, 0, none⟩ = false := by simp [World.frozen?, hR2]
  have f1 : w2.frozen? ⟨w.heap.size, 1, none⟩ = false := by simp [World.frozen?, hR2]
  have f2 : w2.frozen? ⟨w.heap.size, 2, none⟩ = false := by simp [World.frozen?, hR2]
  have f3 : w2.frozen? ⟨w.heap.size, 3, none⟩ = false := by simp [World.frozen?, hR2]
  have hlt : w.heap.size < w2.heap.size := by omega
  clear hR2
  go_wp2_with fail
  refine nameQ' ?_
  intro w3 hw3
  have q1 := heap_setCell_same w2 w.heap.size 0 _ _ (.slice (some ⟨sb, 0, none⟩) 4 4) HM.out.2.2.2
  have q2 := heap_setCell_same _ w.heap.size 1 _ _ (.slice (some ⟨pb, 0, none⟩) 4 4) q1
  have q3 := heap_setCell_same _ w.heap.size 2 _ _ (.slice (some ⟨w2.heap.size, 0, none⟩) 4 4) q2
  have q4 := heap_setCell_same _ w.heap.size 3 _ _ (.slice WA 4 wc) q3
  obtain ⟨w2', hw2'⟩ : ∃ w2', w2' = ((((w2.setCell ⟨w.heap.size, 0, none⟩ (Value.slice (some ⟨sb, 0, none⟩) 4 4)).setCell ⟨w.heap.size, 1, none⟩ (Value.slice (some ⟨pb, 0, none⟩) 4 4)).setCell ⟨w.heap.size, 2, none⟩ (Value.slice (some ⟨w2.heap.size, 0, none⟩) 4 4)).setCell ⟨w.heap.size, 3, none⟩ (Value.slice WA 4 wc)) := ⟨_, rfl⟩
  have hz2' : w2'.heap.size = w2.heap.size := by rw [hw2']; simp
  have hT2 : Tch [w.heap.size] w2 w2' := by rw [hw2']; exact ((((Tch.refl _ _).set (.inl (by simp)) _).set (.inl (by simp)) _).set (.inl (by simp)) _).set (.inl (by simp)) _
  rw [← hw2'] at hw3 q4
  clear hw2' q1 q2 q3
  obtain ⟨hB3, hH3⟩ := alloc1 w2' _ hw3
  clear hw3
  rw [hz2'] at hH3
  have hT3 : Tch [w.heap.size] w2 w3 := hT2.trans (Tch.of_below hB3)
  have hR3 := (hB3.block _ (by omega)).trans q4
  have hB03 : Below w.heap.size w w3 := hT3.below HM.out.2.2.1 (Nat.le_refl _) (fun b hb => by simp at hb; omega)
  have d0 : w3.cell? ⟨w.heap.size, 0, none⟩ = some (.slice (some ⟨sb, 0, none⟩) 4 4) := block_cell hR3 (j := 0) (by simp)
  have d1 : w3.cell? ⟨w.heap.size, 1, none⟩ = some (.slice (some ⟨pb, 0, none⟩) 4 4) := block_cell hR3 (j := 1) (by simp)
  have d2 : w3.cell? ⟨w.heap.size, 2, none⟩ = some (.slice (some ⟨w2.heap.size, 0, none⟩) 4 4) := block_cell hR3 (j := 2) (by simp)
  have d3 : w3.cell? ⟨w.heap.size, 3, none⟩ = some (.slice WA 4 wc) := block_cell hR3 (j := 3) (by simp)
  refine bodyPost_ret (v := SkV (tk4 x [a, b, c, d]) ⟨some ⟨sb, 0, none⟩, some ⟨pb, 0, none⟩, some ⟨w2.heap.size, 0, none⟩, WA, 4, 4, 4, wc⟩) ?_ rfl ⟨_, rfl, hB03, ⟨⟨?_, ?_⟩, ?_, ?_⟩, Nat.le_refl _⟩
  · simp [results, Tryz.results11, go_sem, d0, d1, d2, d3, SkV, tk4, sc4, pr4]
  · exact RdS.tch HM.out.1 hT3 (fun b o e h => by cases e; simp at h; omega)
  · exact RdP.tch HM.out.2.1 hT3 (fun b o e h => by cases e; simp at h; omega)
  · intro j hj
    have hj4 : j < 4 := hj
    refine ⟨_, 0, rfl, ?_⟩
    match j, hj4 with
    | 0, _ => exact block_cell hH3 (j := 0) (by simp)
    | 1, _ => exact block_cell hH3 (j := 1) (by simp)
    | 2, _ => exact block_cell hH3 (j := 2) (by simp)
    | 3, _ => exact block_cell hH3 (j := 3) (by simp)
  · exact HW.out.keep hB03
theorem ints_c {xs : List Int} {A B : Option Addr} {ca cb : Nat} {w : World} (hA : RdI w A xs) (hB : RdI w B xs) (hl : xs.length ≤ 1000) : Calls Tryz.prog 13 #[.slice A xs.length ca, .slice B xs.length cb] w fun e w' => e = .returned (.bool true) ∧ ∃ n, w' = w.drewN n := by
  have HA := Lib.hid hA; clear hA
  have HB := Lib.hid hB; clear hB
  have hb : ((xs.length : Int) != (xs.length : Int)) = false := by simp
  go_enter Tryz.func13, Tryz.ntmps13
  go_wp2_with fail
  go_loopw [5] (fun v5 wr => ∃ k n : Nat, v5 = .int .i64 k ∧ k ≤ xs.length ∧ wr = w.drewN n) (fun v5 _ => xs.length - (intOf v5).toNat)
  case atStart => exact ⟨0, 0, rfl, Nat.zero_le _, rfl⟩
  case round =>
    obtain ⟨k, n, rfl, hk, rfl⟩ := hrel
    by_cases hlt : k < xs.length
    · obtain ⟨b, o, rfl, hc⟩ := HA.out k hlt
      obtain ⟨b2, o2, rfl, hc2⟩ := HB.out k hlt
      have hne : (gi xs k != gi xs k) = false := by simp
      generalize gi xs k = x at *
      go_wp2_with fail
      go_quiet (fail)
      go_wp2_with fail
      go_roundw
      case rel => exact ⟨k + 1, n + nq, by go_num, by omega, rfl⟩
      case measure => simp [intOf]; omega
    · go_wp2_with fail
      go_ret
      exact ⟨rfl, n, rfl⟩
def GjPost (t : Sk) (w : World) (e : Ending) (w' : World) : Prop := ∃ b o c u, e = .returned (.slice (some ⟨b, o, none⟩) t.sc.length c) ∧ Below w.heap.size w w' ∧ w.heap.size ≤ b ∧ DatM w' b o c u ∧ Lab t.sc.length (prs t) (List.range t.pr.length) u
theorem gjoined_c {t : Sk} {l : SkL} {w : World} (hM : NetM w t l) (ho : NetOk t) (hn : 0 < t.sc.length) : Calls Tryz.prog 29 #[NetV t l, .int .i64 (-1)] w (GjPost t w) := by
  have h60 := ho.n_le
  have h200 := ho.m_le
  have HM := Lib.hid hM; clear hM
  have HO := Lib.hid ho; clear ho
  unfold NetV
  go_enter Tryz.func29, Tryz.ntmps29
  go_wp2_with fail
  refine nameCl ?_
  intro W1 hW1
  obtain ⟨hB1, e1⟩ := alloc1 w _ hW1
  clear hW1
  obtain ⟨G, hG⟩ : ∃ G, w.heap.size = G := ⟨_, rfl⟩
  rw [hG] at e1
  rw [hG]
  have HB := Lib.hid (And.intro hB1 (And.intro e1 hG)); clear hB1 e1 hG
  refine (newUnion_c t.sc.length h60 W1).mono ?_
  rintro e W2 ⟨A, c, rfl, hB2, hGr⟩
  obtain ⟨b, o, hAe, hbB, hcc⟩ := GrI.cell hGr (j := 0) (by rw [rng_len]; exact hn)
  clear hcc
  subst hAe
  have hD2 : DatM W2 b o c (rng t.sc.length) := GrF.low hGr (Nat.zero_le _)
  have e2 := (hB2.block _ (Array.getElem?_eq_some_iff.1 HB.out.2.1).1).trans HB.out.2.1
  have g1 : W2.cell? ⟨G, 1, none⟩ = some (.slice l.P t.pr.length l.cp) := block_cell e2 (j := 1) (by simp)
  have hB02 : Below w.heap.size w W2 := HB.out.1.trans (hB2.mono HB.out.1.size)
  have hz1 := HB.out.1.size
  have hGl := (Array.getElem?_eq_some_iff.1 HB.out.2.1).1
  have H2 := Lib.hid (And.intro hB02 (And.intro hD2 (And.intro hbB e2))); clear hB02 hD2 hbB e2 hGr hB2
  have HZ := Lib.hid (And.intro hz1 hGl); clear hz1 hGl
  go_wp2_with fail
  go_loopw [17] (fun v17 wr => ∃ (k : Nat) (u : List Int), v17 = .int .i64 k ∧ k ≤ t.pr.length ∧ Tch [b] W2 wr ∧ DatM wr b o c u ∧ Lab t.sc.length (prs t) (List.range k) u) (fun v17 _ => t.pr.length - (intOf v17).toNat)
  case atStart => exact ⟨0, rng t.sc.length, rfl, Nat.zero_le _, Tch.refl _ _, H2.out.2.1, Lab.start _ _⟩
  case round =>
    obtain ⟨k, u, rfl, hk, hT, hD, hL⟩ := hrel
    have K := Lib.hid (And.intro hT (And.intro hD hL)); clear hT hD hL
    by_cases hlt : k < t.pr.length
    · have hklt : (k : Int) < t.pr.length := by omega
      obtain ⟨b2, o2, hP2, p0', p1'⟩ := ((HM.out.keep H2.out.1).rdq HO.out) k (by rw [prs_len]; exact hlt)
      have hb2 : b2 < w.heap.size := by
        obtain ⟨b3, o3, h3, h4, _⟩ := (HM.out.rdq HO.out) k (by rw [prs_len]; exact hlt)
        rw [hP2] at h3
        injection h3 with h3; injection h3 with h3
        subst h3
        exact World.block_lt_of_cell? _ _ h4
      have hne : b2 ∉ [b] := by have := H2.out.2.2.1; have := HZ.out.1; simp; omega
      have p0 := K.out.1.cell (by exact hne) p0'
      have p1 := K.out.1.cell (by exact hne) p1'
      obtain ⟨f1, f2, f3⟩ := prs_lt HO.out hlt
      rw [hP2]
      have HP := Lib.hid (And.intro hP2 (And.intro f1 f2)); clear hP2 f1 f2 f3 p0' p1' hne hb2
      have hm1 : ((k : Int) != -1) = true := bne_iff_ne.2 (by omega)
      go_wp2_with fail
      refine nameCl ?_
      intro W3 hW3
      have hb3 : Below wr.heap.size wr W3 := by rw [hW3]; exact (Below.refl _ _).alloc (Nat.le_refl _) _
      clear hW3
      refine (join_c (DatM.keep K.out.2.1 hb3) K.out.2.2.len h60 HP.out.2.1 HP.out.2.2).mono ?_
      rintro e W4 ⟨rfl, hT4, hD4⟩
      have J := Lib.hid (And.intro ((K.out.1.trans (Tch.of_below hb3)).trans hT4) hD4); clear hT4 hD4 hb3
      go_wp2_with fail
      go_roundw
      case rel => exact ⟨k + 1, _, by go_num, by omega, J.out.1, J.out.2, by rw [List.range_succ]; exact K.out.2.2.join HP.out.2.1 HP.out.2.2⟩
      case measure => simp [intOf]; omega
    · obtain rfl : k = t.pr.length := by omega
      go_wp2_with fail
      go_ret
      have := H2.out.2.2.1
      have := HZ.out.1
      exact ⟨b, o, c, u, rfl, K.out.1.below H2.out.1 (Nat.le_refl _) (fun q hq => by simp at hq; omega), by omega, K.out.2.1, K.out.2.2⟩
structure SvC (W1 : World) (t : Sk) (L : Nat → Bool) (V : Nat → Value) (w : World) : Prop where
  bel : Below W1.heap.size W1 w
  a : L 3 = true → ∃ b out p, V 3 = .slice (some ⟨b, 0, none⟩) t.sc.length t.sc.length ∧ IntB w b out ∧ out.length = t.sc.length ∧ Sms t t.ph p ∧ ∀ v, v < t.sc.length → gi out v = p v ∧ -1000000000000 ≤ p v ∧ p v ≤ 1000000000000
  j : L 5 = true → ∃ b o c u, V 5 = .slice (some ⟨b, o, none⟩) t.sc.length c ∧ DatM w b o c u ∧ Lab t.sc.length (prs t) (List.range t.pr.length) u
  g : L 6 = true → V 6 = V 3
  h : L 7 = true → V 7 = V 5
section
variable {W w w' : World} {t : Sk} {L : Nat → Bool} {V : Nat → Value} {l : Array Oper}
theorem SvC.start (W : World) (t : Sk) : SvC W t (fun _ => false) (fun _ => undef) W.drew := ⟨(Below.refl _ _).drew, fun h => (by cases h), fun h => (by cases h), fun h => (by cases h), fun h => by cases h⟩
theorem SvC.up {i : Nat} (h3 : i ≠ 3) (h5 : i ≠ 5) (h6 : i ≠ 6) (h7 : i ≠ 7) (h : SvC W t L V w) : SvC W t (upd L i) V w :=
  ⟨h.bel, by rw [upd_ne _ h3.symm]; exact h.a, by rw [upd_ne _ h5.symm]; exact h.j, by rw [upd_ne _ h6.symm]; exact h.g, by rw [upd_ne _ h7.symm]; exact h.h⟩
theorem SvC.sums (h : SvC W t L V w) (hb : Below w.heap.size w w') (hL6 : L 6 = false) {b : Nat} {out : List Int} {p : Nat → Int} (k1 : IntB w' b out) (k2 : out.length = t.sc.length) (k3 : Sms t t.ph p) (k4 : ∀ v, v < t.sc.length → gi out v = p v ∧ -1000000000000 ≤ p v ∧ p v ≤ 1000000000000) :
    SvC W t (upd L 3) (setV V 3 (.slice (some ⟨b, 0, none⟩) t.sc.length t.sc.length)) w' :=
  ⟨h.bel.trans (hb.mono h.bel.size), fun _ => ⟨b, out, p, setV_same _ _ _, k1, k2, k3, k4⟩, fun h5 => (by
    rw [upd_ne _ (by decide)] at h5
    obtain ⟨b, o, c, u, h1, h2, h3⟩ := h.j h5
    exact ⟨b, o, c, u, by rw [setV_ne _ _ (by decide)]; exact h1, h2.keep hb, h3⟩), fun h6 => (by rw [upd_ne _ (by decide), hL6] at h6; cases h6), by rw [upd_ne _ (by decide), setV_ne _ _ (by decide), setV_ne _ _ (by decide)]; exact h.h⟩
theorem SvC.jn (h : SvC W t L V w) (hb : Below w.heap.size w w') (hL7 : L 7 = false) {b o c : Nat} {u : List Int} (k1 : DatM w' b o c u) (k2 : Lab t.sc.length (prs t) (List.range t.pr.length) u) :
    SvC W t (upd L 5) (setV V 5 (.slice (some ⟨b, o, none⟩) t.sc.length c)) w' :=
  ⟨h.bel.trans (hb.mono h.bel.size), fun h3 => (by
    rw [upd_ne _ (by decide)] at h3
    obtain ⟨b, out, p, h1, h2, h4⟩ := h.a h3
    exact ⟨b, out, p, by rw [setV_ne _ _ (by decide)]; exact h1, h2.keep hb, h4⟩), fun _ => ⟨b, o, c, u, setV_same _ _ _, k1, k2⟩, by rw [upd_ne _ (by decide), setV_ne _ _ (by decide), setV_ne _ _ (by decide)]; exact h.g, fun h7 => (by rw [upd_ne _ (by decide), hL7] at h7; cases h7)⟩
theorem SvC.asg6 (h : SvC W t L V w) : SvC W t (upd L 6) (setV V 6 (V 3)) w :=
  ⟨h.bel, by rw [upd_ne _ (by decide), setV_ne _ _ (by decide)]; exact h.a, by rw [upd_ne _ (by decide), setV_ne _ _ (by decide)]; exact h.j, fun _ => by rw [setV_same, setV_ne _ _ (by decide)], by rw [upd_ne _ (by decide), setV_ne _ _ (by decide), setV_ne _ _ (by decide)]; exact h.h⟩
theorem SvC.asg7 (h : SvC W t L V w) : SvC W t (upd L 7) (setV V 7 (V 5)) w :=
  ⟨h.bel, by rw [upd_ne _ (by decide), setV_ne _ _ (by decide)]; exact h.a, by rw [upd_ne _ (by decide), setV_ne _ _ (by decide)]; exact h.j, by rw [upd_ne _ (by decide), setV_ne _ _ (by decide), setV_ne _ _ (by decide)]; exact h.g, fun _ => by rw [setV_same, setV_ne _ _ (by decide)]⟩
end
theorem sv_two {W1 : World} {t : Sk} {l : SkL} {G G2 : Nat} {v1 : Value} {M : Int} (hN : NetM W1 t l) (ho : NetOk t) (hH : RdI W1 l.H t.ph) (hl : t.ph.length = t.pr.length) (hM : 0 ≤ M ∧ M ≤ 10000000000) (hb : ∀ i, i < t.pr.length → -M ≤ gi t.ph i ∧ gi t.ph i ≤ M) (hn : 0 < t.sc.length) {u0 u3 u4 u5 u6 u7 u9 u10 u11 u12 u13 u14 u15 u16 u17 u18 u19 u20 u21 u22 u23 u24 u25 u26 u27 u28 u29 u30 u31 u32 u33 u34 u35 u36 u37 u38 u39 u40 u41 u42 u43 u44 u45 u46 u47 u48 u49 u50 u51 u52 u53 u54 u55 u56 u57 u58 u59 u60 u61 u62 u63 u64 u65 u66 u67 u68 u69 u70 u71 u72 u73 u74 u75 u76 u77 u78 u79 u80 u81 u82 u83 u84 u85 u86 u87 u88 u89 : Value} {Q : Exit → Act → World → Prop}
    (c2 : W1.cell? ⟨G, 2, none⟩ = some (.slice l.H t.ph.length l.ch)) (d0 : W1.cell? ⟨G2, 0, none⟩ = some (.slice l.S t.sc.length l.cs)) (d1 : W1.cell? ⟨G2, 1, none⟩ = some (.slice l.P t.pr.length l.cp))
    (hQ : ∀ a' w' b out p b2 o2 c u, Below W1.heap.size W1 w' → IntB w' b out → out.length = t.sc.length → Sms t t.ph p → (∀ v, v < t.sc.length → gi out v = p v ∧ -1000000000000 ≤ p v ∧ p v ≤ 1000000000000) → DatM w' b2 o2 c u → Lab t.sc.length (prs t) (List.range t.pr.length) u →
      Fr 90 [(1, v1), (12, .slice (some ⟨b, 0, none⟩) t.sc.length t.sc.length), (13, .slice (some ⟨b2, o2, none⟩) t.sc.length c)] a' → Q .normal a' w') :
    Code.wp Tryz.prog (Tryz.f12.sub [1, 1, 1, 1, 1, 1, 1, 0]) Q ⟨#[u0, v1, .pointer (some ⟨G, 0, none⟩), u3, u4, u5, u6, u7, .pointer (some ⟨G2, 0, none⟩), u9, u10, u11, u12, u13, u14, u15, u16, u17, u18, u19, u20, u21, u22, u23, u24, u25, u26, u27, u28, u29, u30, u31, u32, u33, u34, u35, u36, u37, u38, u39, u40, u41, u42, u43, u44, u45, u46, u47, u48, u49, u50, u51, u52, u53, u54, u55, u56, u57, u58, u59, u60, u61, u62, u63, u64, u65, u66, u67, u68, u69, u70, u71, u72, u73, u74, u75, u76, u77, u78, u79, u80, u81, u82, u83, u84, u85, u86, u87, u88, u89], []⟩ W1 := by
  have HN := Lib.hid (And.intro hN (And.intro ho (And.intro hH (And.intro hl (And.intro hM (And.intro hb hn)))))); clear hN ho hH hl hM hb hn
  have HQ := Lib.hid hQ; clear hQ
  conv => arg 2; whnf
  try dsimp only
  refine region_rel (by kernel_rfl) (by kernel_rfl) (by kernel_rfl) (SvC W1 t) (SvC.start W1 t) ?_
  refine rel_val rfl (NetV t l) (fun _ _ _ h => SvC.up (by decide) (by decide) (by decide) (by decide) h) (fun V L w h1 h2 h3 hC => ex_loadN 66 _ rfl G2 0 rfl [.slice l.S t.sc.length l.cs, .slice l.P t.pr.length l.cp] _ (rangeAt2 (cellB hC.bel d0) (cellB hC.bel d1)) Tryz.underlying66 rfl (by kernel_rfl)) ?_
  simp only [Fam.pt]
  refine rel_val rfl (.pointer (some ⟨G, 2, none⟩)) (fun _ _ _ h => SvC.up (by decide) (by decide) (by decide) (by decide) h) (fun V L w h1 h2 h3 hC => by unfold execOp; go_simp) ?_
  simp only [Fam.pt]
  refine rel_val rfl (.slice l.H t.ph.length l.ch) (fun _ _ _ h => SvC.up (by decide) (by decide) (by decide) (by decide) h) (fun V L w h1 h2 h3 hC => ex_load1 _ _ rfl _ rfl (cellB hC.bel c2) _ Tryz.underlying26 rfl) ?_
  simp only [Fam.pt]
  refine rel_free rfl (fun V L w h1 h2 h3 hC => ?_) ?_
  · rw [ex_call2 28 (.tmp 54) (.tmp 56) _ rfl rfl rfl rfl (enters_fn Tryz.func28 (by kernel_rfl) rfl)]
    refine (sums_c (HN.out.1.keep hC.bel) HN.out.2.1 (HN.out.2.2.1.keep hC.bel) HN.out.2.2.2.1 HN.out.2.2.2.2.1 HN.out.2.2.2.2.2.1).mono ?_
    rintro e w' ⟨b, out, p, rfl, hE⟩
    exact ⟨_, rfl, hC.sums hE.bel (h3.not (by kernel_rfl) h1) hE.mem hE.len hE.sms fun v hv => by have h5 := hE.val v hv; have := HN.out.2.2.2.2.1; exact ⟨h5.1, by omega, by omega⟩⟩
  simp only [Fam.pt]
  refine rel_val rfl (NetV t l) (fun _ _ _ h => SvC.up (by decide) (by decide) (by decide) (by decide) h) (fun V L w h1 h2 h3 hC => ex_loadN 66 _ rfl G2 0 rfl [.slice l.S t.sc.length l.cs, .slice l.P t.pr.length l.cp] _ (rangeAt2 (cellB hC.bel d0) (cellB hC.bel d1)) Tryz.underlying66 rfl (by kernel_rfl)) ?_
  simp only [Fam.pt]
  refine rel_free rfl (fun V L w h1 h2 h3 hC => ?_) ?_
  · rw [ex_call2 29 (.tmp 58) (.const (.int .i64 (-1))) _ rfl rfl rfl rfl (enters_fn Tryz.func29 (by kernel_rfl) rfl)]
    refine (gjoined_c (HN.out.1.keep hC.bel) HN.out.2.1 HN.out.2.2.2.2.2.2).mono ?_
    rintro e w' ⟨b, o, c, u, rfl, hB, _, hD, hu⟩
    exact ⟨_, rfl, hC.jn hB (h3.not (by kernel_rfl) h1) hD hu⟩
  simp only [Fam.pt]
  refine rel_free rfl (fun V L w h1 h2 h3 hC => ?_) ?_
  · rw [ex_asg _ rfl]
    exact hC.asg6
  simp only [Fam.pt]
  refine rel_free rfl (fun V L w h1 h2 h3 hC => ?_) ?_
  · rw [ex_asg _ rfl]
    exact hC.asg7
  simp only [Fam.pt]
  intro V L w' hL hC
  obtain ⟨b, out, p, k1, k2, k3, k4, k5⟩ := hC.a (hL 3 (by decide))
  obtain ⟨b2, o2, c, u, j1, j2, j3⟩ := hC.j (hL 5 (by decide))
  exact HQ.out _ w' b out p b2 o2 c u hC.bel k2 k3 k4 k5 j2 j3 ⟨rfl, rfl, rfl, (hC.g (hL 6 (by decide))).trans k1, (hC.h (hL 7 (by decide))).trans j1, trivial⟩
end Go.Proofs.YtjnpchoinncbnaaGreat
end
