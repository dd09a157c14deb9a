/- Proves parts of the statement, each under the conditions that its theorem states: The net of a stack: the contract; NetOf; Corrections: one is put behind; Corrections. -/
import Derived.Test.YtjnpchoinncbnaaGreatP28
import Derived.Test.YtjnpchoinncbnaaGreatP17
import Derived.Test.YtjnpchoinncbnaaGreatP11
import Derived.Test.YtjnpchoinncbnaaGreatP23
set_option linter.unusedSimpArgs false
set_option linter.unusedVariables false
set_option maxHeartbeats 4000000
set_option maxRecDepth 100000
section
namespace Go.Proofs.YtjnpchoinncbnaaGreat
open Go.RowKit Sw Fam
def CodeS (t : Sk) (p : Nat → Int) (x : Int) : Prop := (x = 27 ∧ ∃ i, i < t.pr.length ∧ ¬ (4096 : Int) ∣ ms t t.ph p i) ∨ (x = 8 ∧ (∀ i, i < t.pr.length → (4096 : Int) ∣ ms t t.ph p i) ∧ ∃ i, i < t.pr.length ∧ ¬ SmallJ (jS t p i)) ∨
  (x = 0 ∧ (∀ i, i < t.pr.length → (4096 : Int) ∣ ms t t.ph p i) ∧ ∀ i, i < t.pr.length → SmallJ (jS t p i))
def NetR (t : Sk) (A : Option Addr) (c : Nat) (x : Int) : Value := if x = 0 then .agg #[.int .i64 t.sc.length, .slice A t.pr.length c] else .agg #[.int .i64 0, .slice none 0 0]
def Snd3Post (t : Sk) (w : World) (e : Ending) (w' : World) : Prop := ∃ A c p x, e = .returned (.tuple #[NetR t A c x, .int .i64 x]) ∧ Below w.heap.size w w' ∧ Sms t t.ph p ∧ CodeS t p x ∧ (x = 0 → GrE w' w.heap.size A c (edS t p))
theorem unit_c (n : Int) (w : World) : Calls Tryz.prog 48 #[.int .i64 n] w fun e w' => e = .returned (.bool (!decide ((4096 : Int) ∣ n))) ∧ w = w' := by
  go_enter Tryz.func48, Tryz.ntmps48
  go_wp2_with fail
  go_ret
  refine ⟨?_, rfl⟩
  show Ending.returned (.bool (n.tmod 4096 != 0)) = _
  have : (n.tmod 4096 != 0) = !decide ((4096 : Int) ∣ n) := by
    by_cases h : (4096 : Int) ∣ n
    · have h2 := Int.tmod_eq_zero_of_dvd h
      simp [h, h2]
    · have h2 : n.tmod 4096 ≠ 0 := fun e => h (Int.dvd_of_tmod_eq_zero e)
      simp [h, h2]
  rw [this]
theorem snet_c {t : Sk} {l : SkL} {w : World} (hM : SkM w t l) (ho : RtS t) : Calls Tryz.prog 31 #[SkV t l] w (Snd3Post t w) := by
  have HM := Lib.hid (And.intro hM ho); clear hM
  have hln := ho.net.m_le
  clear ho
  unfold SkV
  go_enter Tryz.func31, Tryz.ntmps31
  show Code.wp Tryz.prog (.seq (Tryz.f31.sub [0]) (.seq (Tryz.f31.sub [1, 0]) (.seq (Tryz.f31.sub [1, 1, 0]) (.seq (Tryz.f31.sub [1, 1, 1, 0]) (.seq (.seq (Tryz.f31.sub [1, 1, 1, 1, 0, 0]) (.block 0 (.loop (Tryz.f31.sub [1, 1, 1, 1, 0, 1, 0, 0])))) (Tryz.f31.sub [1, 1, 1, 1, 1])))))) _ _ _
  refine wp_seq ?_
  conv => arg 2; whnf
  go_wp2_with fail
  refine nameC ?_
  intro W1 hW1
  obtain ⟨hz1, e1, e2, hB1⟩ := alloc2 w _ _ hW1
  clear hW1
  obtain ⟨G, hG⟩ : ∃ G, w.heap.size = G := ⟨_, rfl⟩
  rw [hG] at e1 e2 hz1
  rw [hG]
  have g0 : W1.cell? ⟨G, 0, none⟩ = some (.slice l.S t.sc.length l.cs) := block_cell e1 (j := 0) (by simp)
  have g1 : W1.cell? ⟨G, 1, none⟩ = some (.slice l.P t.pr.length l.cp) := block_cell e1 (j := 1) (by simp)
  have g2 : W1.cell? ⟨G, 2, none⟩ = some (.slice l.H t.ph.length l.ch) := block_cell e1 (j := 2) (by simp)
  have HS := Lib.hid (misses_c (M := 100000000) (l := l) (H := l.H) (ch := l.ch) (ph := t.ph) (HM.out.1.net.keep hB1) HM.out.2.net (HM.out.1.ph.keep hB1) HM.out.2.lph (by omega) (fun i hi => HM.out.2.ph i (by rw [HM.out.2.lph]; exact hi)))
  unfold NetV at HS
  have HB := Lib.hid (And.intro hB1 (And.intro e1 (And.intro e2 hG))); clear hB1 e1 e2 hG
  conv => arg 2; whnf
  go_wp2_with fail
  refine HS.out.mono ?_
  rintro e W2 ⟨MA, mc, p, rfl, hB2, hSm, hGr, hbd⟩
  have hEn : Enters 48 := enters_fn Tryz.func48 (by kernel_rfl) rfl
  have hCF := containsFunc_c 48 hEn #[] (fun n => !decide ((4096 : Int) ∣ n)) (msL t t.ph p) MA mc W2 (by rw [msL_len]; omega) hGr.rd (fun j hj n => (unit_c _ _).mono (by rintro e w' ⟨rfl, rfl⟩; exact ⟨rfl, 0, rfl⟩))
  rw [msL_len] at hCF
  have HCF := Lib.hid hCF; clear hCF hEn
  have hB02 : Below w.heap.size w W2 := HB.out.1.trans (hB2.mono HB.out.1.size)
  have e1 := (hB2.block _ (Array.getElem?_eq_some_iff.1 HB.out.2.1).1).trans HB.out.2.1
  have e2 := (hB2.block _ (Array.getElem?_eq_some_iff.1 HB.out.2.2.1).1).trans HB.out.2.2.1
  have HM2 := Lib.hid (And.intro hB02 (And.intro e1 (And.intro e2 (And.intro hSm (And.intro hGr hbd)))))
  clear hB2 hB02 e1 e2 hSm hGr hbd HS g0 g1 g2
  go_wp2_with fail
  conv => arg 2; whnf
  go_wp2_with fail
  refine HCF.out.mono ?_
  rintro e W3 ⟨r, hr, rfl, n, hW3⟩
  have hB23 : Below W2.heap.size W2 W3 := by rw [hW3]; exact below_drewN (Below.refl _ _) n
  have e1 : W3.heap[G]? = _ := (hB23.block _ (Array.getElem?_eq_some_iff.1 HM2.out.2.1).1).trans HM2.out.2.1
  have e2 : W3.heap[G + 1]? = _ := (hB23.block _ (Array.getElem?_eq_some_iff.1 HM2.out.2.2.1).1).trans HM2.out.2.2.1
  have hB03 : Below w.heap.size w W3 := HM2.out.1.trans (hB23.mono HM2.out.1.size)
  have hGr3 := HM2.out.2.2.2.2.1.keep hB23
  have r0 : W3.cell? ⟨G + 1, 0, none⟩ = some (.int .i64 0) := block_cell e2 (j := 0) (by simp)
  have r1 : W3.cell? ⟨G + 1, 1, none⟩ = some (.slice none 0 0) := block_cell e2 (j := 1) (by simp)
  have f0 : W3.frozen? ⟨G + 1, 0, none⟩ = false := by simp [World.frozen?, e2]
  have f1 : W3.frozen? ⟨G + 1, 1, none⟩ = false := by simp [World.frozen?, e2]
  have g0 : W3.cell? ⟨G, 0, none⟩ = some (.slice l.S t.sc.length l.cs) := block_cell e1 (j := 0) (by simp)
  have g1 : W3.cell? ⟨G, 1, none⟩ = some (.slice l.P t.pr.length l.cp) := block_cell e1 (j := 1) (by simp)
  have g2 : W3.cell? ⟨G, 2, none⟩ = some (.slice l.H t.ph.length l.ch) := block_cell e1 (j := 2) (by simp)
  have hms : ∀ i, i < t.pr.length → gi (msL t t.ph p) i = ms t t.ph p i := fun i hi => msL_get hi
  have H3 := Lib.hid (And.intro hB03 (And.intro e1 (And.intro e2 (And.intro hGr3 (And.intro hms hr)))))
  clear hB23 hB03 e1 e2 hGr3 hms hr hW3 HCF
  cases r with
  | true =>
    go_wp2_with fail
    obtain ⟨j, hj, hv⟩ := H3.out.2.2.2.2.2.1 (by trivial)
    rw [msL_len] at hj
    simp only [H3.out.2.2.2.2.1 j hj] at hv
    refine net_ret (R := G + 1) (x := .int .i64 0) (y := .slice none 0 0) (e := 27) Tryz.results31 rfl rfl rfl (heap_setCell_same _ (G + 1) 1 _ _ _ (heap_setCell_same W3 (G + 1) 0 _ _ _ H3.out.2.2.1)) ⟨none, 0, p, 27, rfl, ?_, HM2.out.2.2.2.1, .inl ⟨rfl, j, hj, by simpa using hv⟩, fun h => by omega⟩
    have := HB.out.2.2.2
    exact (H3.out.1.setCell (by simp only; omega) _).setCell (by simp only; omega) _
  | false =>
    go_wp2_with fail
    have hdv : ∀ i, i < t.pr.length → (4096 : Int) ∣ ms t t.ph p i := fun i hi => by
      have h := H3.out.2.2.2.2.2
      have h2 : ¬ ∃ j, j < (msL t t.ph p).length ∧ (fun n => !decide ((4096 : Int) ∣ n)) (gi (msL t t.ph p) j) = true := fun h3 => by simpa using h.2 h3
      apply Classical.byContradiction
      intro hc
      exact h2 ⟨i, by rw [msL_len]; exact hi, by simp only [H3.out.2.2.2.2.1 i hi]; simpa using hc⟩
    have HDV := Lib.hid hdv; clear hdv
    conv => arg 2; whnf
    go_wp2_with fail
    refine nameC ?_
    intro W4 hW4
    have hB34 : Below W3.heap.size W3 W4 := by rw [hW4]; exact (Below.refl _ _).alloc (Nat.le_refl _) _
    have hN4 : W4.heap[W3.heap.size]? = some (.cells #[.int .i64 t.sc.length, .slice none 0 0] 37 (0, 0)) := by rw [hW4]; exact heap_alloc_new W3 _
    have g1' := cell_keep hB34 g1
    have hGw := HB.out.2.2.2
    have hGl : G + 1 < W3.heap.size := (Array.getElem?_eq_some_iff.1 H3.out.2.2.1).1
    have H4 := Lib.hid (And.intro hB34 hN4); clear hB34 hN4 hW4 g0 g1 g2 r0 r1 f0 f1
    conv => arg 2; whnf
    go_wp2_with fail
    have hSd : SdM W3 t l p (G + 1) G MA := ⟨H3.out.2.1, H3.out.2.2.1, (HM.out.1.net.rdq HM.out.2.net).keep H3.out.1, HM.out.1.ws.keep H3.out.1, GrI.rd H3.out.2.2.2.1⟩
    have hbnd : ∀ i, i < t.pr.length → (4096 : Int) ∣ ms t t.ph p i ∧ -100000000000000 ≤ ms t t.ph p i ∧ ms t t.ph p i ≤ 100000000000000 := fun i hi => by
      obtain ⟨q1, q2, q3⟩ := prs_lt HM.out.2.net hi
      have p1 := HM2.out.2.2.2.2.2 _ q1
      have p2 := HM2.out.2.2.2.2.2 _ q2
      have p3 := HM.out.2.ph i (by rw [HM.out.2.lph]; exact hi)
      refine ⟨HDV.out i hi, ?_, ?_⟩ <;> (unfold ms; omega)
    refine wp_loop (LoopSd W3 t l p (G + 1) G mc MA) (fun a _ => t.pr.length - (intOf (a.tmps.getD 27 undef)).toNat) ⟨0, none, 0, Nat.zero_le _, fun i hi => absurd hi (Nat.not_lt_zero _), H4.out.2, GrF.start _ _, H4.out.1, by (refine ⟨rfl, rfl, ?_⟩; repeat (first | exact trivial | refine ⟨rfl, ?_⟩))⟩ ?_
    intro a wr hI
    refine snd_loop HM.out.2 hSd hbnd ?_ ?_ hI
    · intro a' w' A c hsm hNb hGr hBl hfr
      rename_i K6 hK6
      obtain ⟨v, rfl⟩ := hfr.open
      clear hfr hI
      refine hK6 _ _ ?_
      clear hK6
      have n0 : w'.cell? ⟨W3.heap.size, 0, none⟩ = some (.int .i64 t.sc.length) := block_cell hNb (j := 0) (by simp)
      have n1 : w'.cell? ⟨W3.heap.size, 1, none⟩ = some (.slice A t.pr.length c) := block_cell hNb (j := 1) (by simp)
      have e3 := (hBl.block _ hGl).trans H3.out.2.2.1
      have r0 : w'.cell? ⟨G + 1, 0, none⟩ = some (.int .i64 0) := block_cell e3 (j := 0) (by simp)
      have r1 : w'.cell? ⟨G + 1, 1, none⟩ = some (.slice none 0 0) := block_cell e3 (j := 1) (by simp)
      have f0 : w'.frozen? ⟨G + 1, 0, none⟩ = false := by simp [World.frozen?, e3]
      have f1 : w'.frozen? ⟨G + 1, 1, none⟩ = false := by simp [World.frozen?, e3]
      have HZ := Lib.hid (And.intro hsm (And.intro hNb (And.intro hGr (And.intro hBl e3)))); clear hsm hNb hGr hBl e3 hSd hbnd
      show Code.wp Tryz.prog (Tryz.f31.sub [1, 1, 1, 1, 1]) _ ⟨#[(v 0), (v 1), .pointer (some ⟨G + 1, 0, none⟩), (v 3), (v 4), .pointer (some ⟨W3.heap.size, 0, none⟩), (v 6), (v 7), (v 8), (v 9), (v 10), (v 11), (v 12), (v 13), (v 14), (v 15), (v 16), (v 17), (v 18), (v 19), (v 20), (v 21), (v 22), (v 23), (v 24), (v 25), (v 26), (v 27), (v 28), (v 29), (v 30), (v 31), (v 32), (v 33), (v 34), (v 35), (v 36), (v 37), (v 38), (v 39), (v 40), (v 41), (v 42), (v 43), (v 44), (v 45), (v 46), (v 47), (v 48), (v 49), (v 50), (v 51), (v 52), (v 53), (v 54), (v 55), (v 56), (v 57), (v 58)], []⟩ _
      conv => arg 2; whnf
      dsimp only
      go_wp2_with fail
      refine net_ret (R := G + 1) (x := .int .i64 t.sc.length) (y := .slice A t.pr.length c) (e := 0) Tryz.results31 rfl rfl rfl (heap_setCell_same _ (G + 1) 1 _ _ _ (heap_setCell_same w' (G + 1) 0 _ _ _ HZ.out.2.2.2.2)) ⟨A, c, p, 0, rfl, ?_, HM2.out.2.2.2.1, .inr (.inr ⟨rfl, HDV.out, HZ.out.1⟩), fun _ => ?_⟩
      · have := H3.out.1.trans (HZ.out.2.2.2.1.mono H3.out.1.size)
        exact (this.setCell (by simp only; omega) _).setCell (by simp only; omega) _
      · refine GrF.move (HZ.out.2.2.1.low (by have := H3.out.1.size; omega)) fun b hb => ?_
        have hlt := (HZ.out.2.2.1.lt hb).1
        exact (Below.heap_setCell _ _ _ b (by simp only; omega)).trans (Below.heap_setCell _ _ _ b (by simp only; omega))
    · intro a' w' i hi hns hT hR hfr
      obtain ⟨v, rfl⟩ := hfr.open
      refine net_ret (R := G + 1) (e := 8) Tryz.results31 rfl rfl rfl hR ⟨none, 0, p, 8, rfl, ?_, HM2.out.2.2.2.1, .inr (.inl ⟨rfl, HDV.out, i, hi, hns⟩), fun h => by omega⟩
      exact hT.below H3.out.1 (Nat.le_refl _) (fun b hb => by simp at hb; omega)
theorem netOf_c {t : Sk} {l : SkL} {w : World} (hM : SkM w t l) (ho : RtS t) (hcs : t.sc.length ≤ l.cs) : Calls Tryz.prog 16 #[SkV t l] w (Snd3Post t w) := by
  have HM := Lib.hid (And.intro hM (And.intro ho hcs)); clear hM ho hcs
  unfold SkV
  go_enter Tryz.func16, Tryz.ntmps16
  show Code.wp Tryz.prog (.seq (Tryz.f16.sub [0]) (Tryz.f16.sub [1])) _ _ _
  refine wp_seq ?_
  conv => arg 2; whnf
  go_wp2_with fail
  refine nameC ?_
  intro W1 hW1
  obtain ⟨hz1, e1, e2, hB1⟩ := alloc2 w _ _ hW1
  clear hW1
  obtain ⟨G, hG⟩ : ∃ G, w.heap.size = G := ⟨_, rfl⟩
  rw [hG] at e1 e2 hz1
  rw [hG]
  have g0 : W1.cell? ⟨G, 0, none⟩ = some (.slice l.S t.sc.length l.cs) := block_cell e1 (j := 0) (by simp)
  have g1 : W1.cell? ⟨G, 1, none⟩ = some (.slice l.P t.pr.length l.cp) := block_cell e1 (j := 1) (by simp)
  have g2 : W1.cell? ⟨G, 2, none⟩ = some (.slice l.H t.ph.length l.ch) := block_cell e1 (j := 2) (by simp)
  have g3 : W1.cell? ⟨G, 3, none⟩ = some (.slice l.W t.ws.length l.cw) := block_cell e1 (j := 3) (by simp)
  have HC := Lib.hid (ctask7_c (HM.out.1.keep hB1) HM.out.2.1 HM.out.2.2)
  unfold SkV at HC
  have HB := Lib.hid (And.intro hB1 (And.intro e1 (And.intro e2 hG))); clear hB1 e1 e2 hG
  conv => arg 2; whnf
  go_wp2_with fail
  refine HC.out.mono ?_
  rintro e W2 ⟨rfl, hB2⟩
  have e1 := (hB2.block _ (Array.getElem?_eq_some_iff.1 HB.out.2.1).1).trans HB.out.2.1
  have e2 := (hB2.block _ (Array.getElem?_eq_some_iff.1 HB.out.2.2.1).1).trans HB.out.2.2.1
  have hB02 : Below w.heap.size w W2 := HB.out.1.trans (hB2.mono HB.out.1.size)
  have g0 : W2.cell? ⟨G, 0, none⟩ = some (.slice l.S t.sc.length l.cs) := block_cell e1 (j := 0) (by simp)
  have g1 : W2.cell? ⟨G, 1, none⟩ = some (.slice l.P t.pr.length l.cp) := block_cell e1 (j := 1) (by simp)
  have g2 : W2.cell? ⟨G, 2, none⟩ = some (.slice l.H t.ph.length l.ch) := block_cell e1 (j := 2) (by simp)
  have g3 : W2.cell? ⟨G, 3, none⟩ = some (.slice l.W t.ws.length l.cw) := block_cell e1 (j := 3) (by simp)
  have HN := Lib.hid (snet_c (HM.out.1.keep hB02) HM.out.2.1)
  unfold SkV at HN
  have H2 := Lib.hid (And.intro hB02 (And.intro e1 e2)); clear hB2 hB02 e1 e2 HC
  go_wp2_with fail
  refine HN.out.mono ?_
  rintro e W3 ⟨A, c, p, x, rfl, hB3, hSm, hCo, hGr⟩
  have e3 := (hB3.block _ (Array.getElem?_eq_some_iff.1 H2.out.2.2).1).trans H2.out.2.2
  have r0 : W3.cell? ⟨G + 1, 0, none⟩ = some (.int .i64 0) := block_cell e3 (j := 0) (by simp)
  have r1 : W3.cell? ⟨G + 1, 1, none⟩ = some (.slice none 0 0) := block_cell e3 (j := 1) (by simp)
  have f0 : W3.frozen? ⟨G + 1, 0, none⟩ = false := by simp [World.frozen?, e3]
  have f1 : W3.frozen? ⟨G + 1, 1, none⟩ = false := by simp [World.frozen?, e3]
  have hB03 : Below w.heap.size w W3 := H2.out.1.trans (hB3.mono H2.out.1.size)
  have hGw := HB.out.2.2.2
  have h23 := H2.out.1.size
  have H3 := Lib.hid (And.intro hB03 (And.intro e3 (And.intro hSm (And.intro hCo hGr)))); clear hB3 hB03 e3 hSm hCo hGr HN g0 g1 g2 g3
  have hmv : ∀ (u v : Value), x = 0 → GrE ((W3.setCell ⟨G + 1, 0, none⟩ u).setCell ⟨G + 1, 1, none⟩ v) w.heap.size A c (edS t p) := fun u v hx => by
    have h := H3.out.2.2.2.2 hx
    have hG2 : G + 1 < W2.heap.size := (Array.getElem?_eq_some_iff.1 H2.out.2.2).1
    refine GrF.move (h.low h23) fun b hb => ?_
    have hlt := (h.lt hb).1
    exact (Below.heap_setCell _ _ _ b (by simp only; omega)).trans (Below.heap_setCell _ _ _ b (by simp only; omega))
  have HMV := Lib.hid hmv; clear hmv
  by_cases hx : x = 0
  · subst hx
    unfold NetR
    rw [if_pos rfl]
    go_wp2_with fail
    refine net_ret (R := G + 1) (x := .int .i64 t.sc.length) (y := .slice A t.pr.length c) (e := 0) Tryz.results16 rfl rfl rfl (heap_setCell_same _ (G + 1) 1 _ _ _ (heap_setCell_same W3 (G + 1) 0 _ _ _ H3.out.2.1)) ⟨A, c, p, 0, by unfold NetR; rw [if_pos rfl], ?_, H3.out.2.2.1, H3.out.2.2.2.1, fun _ => HMV.out _ _ (by trivial)⟩
    exact (H3.out.1.setCell (by simp only; omega) _).setCell (by simp only; omega) _
  · have hnr : NetR t A c x = .agg #[.int .i64 0, .slice none 0 0] := by unfold NetR; rw [if_neg hx]
    rw [hnr]
    have HX := Lib.hid (And.intro hx hnr); clear hx hnr
    go_wp2_with fail
    refine net_ret (R := G + 1) (x := .int .i64 0) (y := .slice none 0 0) (e := x) Tryz.results16 rfl rfl rfl (heap_setCell_same _ (G + 1) 1 _ _ _ (heap_setCell_same W3 (G + 1) 0 _ _ _ H3.out.2.1)) ⟨A, c, p, x, by rw [HX.out.2], ?_, H3.out.2.2.1, H3.out.2.2.2.1, fun h => absurd h HX.out.1⟩
    exact (H3.out.1.setCell (by simp only; omega) _).setCell (by simp only; omega) _
theorem cor_add {B c xb f s n Pb q : Nat} {A : Option Addr} {xs : List Int} {a b j : Int} {v1 v9 v10 v33 v34 v35 : Value} {W : World} {Q : Exit → Act → World → Prop} {u0 u2 u3 u4 u5 u6 u7 u12 u14 u15 u16 u17 u18 u19 u20 u21 u22 u23 u24 u25 u26 u27 u28 u29 u30 u31 u32 u36 u37 u38 u39 u40 u41 u42 u43 u44 u45 u46 u47 u48 u49 u50 u51 u52 u53 u54 u55 u56 u57 u58 u59 : Value}
    (hq : xs.length = q) (hok : ApD.ok ⟨B, A, c, xs, a - b + j⟩ W) (hn : n ≤ 200) (hf : f < n) (hs : s < n)
    (x0 : W.cell? ⟨xb, 0, none⟩ = some (.int .i64 f)) (x1 : W.cell? ⟨xb, 1, none⟩ = some (.int .i64 s)) (x2 : W.cell? ⟨xb, 2, none⟩ = some (.int .i64 j))
    (of : W.cell? ⟨Pb, f, none⟩ = some (.int .i64 b)) (os : W.cell? ⟨Pb, s, none⟩ = some (.int .i64 a)) (hbd : (-1000 ≤ j ∧ j ≤ 1000) ∧ (-1000000000000 ≤ a ∧ a ≤ 1000000000000) ∧ (-1000000000000 ≤ b ∧ b ≤ 1000000000000))
    (n2 : xb ∉ ApD.S ⟨B, A, c, xs, a - b + j⟩) (n3 : Pb ∉ ApD.S ⟨B, A, c, xs, a - b + j⟩)
    (hQ : ∀ a' A' c' w', Tch (A.map (·.block)).toList W w' → GrI w' B A' c' (xs ++ [a - b + j]) → Fr 60 [(1, v1), (8, .slice (some ⟨Pb, 0, none⟩) n n), (9, v9), (10, v10), (11, .slice A' (q + 1) c'), (33, v33), (34, v34), (35, v35)] a' → Q .normal a' w') :
    Code.wp Tryz.prog (Tryz.f6.sub [1, 1, 1, 1, 1, 1, 0, 1, 0, 0, 1, 1, 0, 0, 1]) Q ⟨#[u0, v1, u2, u3, u4, u5, u6, u7, .slice (some ⟨Pb, 0, none⟩) n n, v9, v10, .slice A q c, u12, .pointer (some ⟨xb, 0, none⟩), u14, u15, u16, u17, u18, u19, u20, u21, u22, u23, u24, u25, u26, u27, u28, u29, u30, u31, u32, v33, v34, v35, u36, u37, u38, u39, u40, u41, u42, u43, u44, u45, u46, u47, u48, u49, u50, u51, u52, u53, u54, u55, u56, u57, u58, u59], []⟩ W := by
  subst hq
  have HK := Lib.hid hok; clear hok
  have HQ := Lib.hid hQ; clear hQ
  obtain ⟨⟨j1, j2⟩, ⟨a1, a2⟩, ⟨b1, b2⟩⟩ := hbd
  have hfn : (f : Int) < n := by omega
  have hsn : (s : Int) < n := by omega
  conv => arg 2; whnf
  dsimp only
  refine region_rel (by kernel_rfl) (by kernel_rfl) (by kernel_rfl) (ApG W ⟨B, A, c, xs, a - b + j⟩ 15 16 17) (ApG.start HK.out) ?_
  (refine rel_val rfl (.slice A xs.length c) (fun _ _ _ h => ApG.up rfl h) (fun V L w h1 h2 h3 hC => by unfold execOp; go_simp; try exact IntWalk.i64_in _ (by omega)) ?_; simp only [Fam.pt])
  (refine rel_val rfl (.slice (some ⟨Pb, 0, none⟩) n n) (fun _ _ _ h => ApG.up rfl h) (fun V L w h1 h2 h3 hC => by unfold execOp; go_simp; try exact IntWalk.i64_in _ (by omega)) ?_; simp only [Fam.pt])
  (refine rel_val rfl (.pointer (some ⟨xb, 1, none⟩)) (fun _ _ _ h => ApG.up rfl h) (fun V L w h1 h2 h3 hC => by unfold execOp; go_simp; try exact IntWalk.i64_in _ (by omega)) ?_; simp only [Fam.pt])
  (refine rel_val rfl _ (fun _ _ _ h => ApG.up rfl h) (fun V L w h1 h2 h3 hC => ex_load1 _ _ rfl _ rfl (ApG.far hC (by exact n2) x1) _ Tryz.underlying3 rfl) ?_; simp only [Fam.pt])
  (refine rel_val rfl (.pointer (some ⟨Pb, s, none⟩)) (fun _ _ _ h => ApG.up rfl h) (fun V L w h1 h2 h3 hC => by unfold execOp; go_simp; try exact IntWalk.i64_in _ (by omega)) ?_; simp only [Fam.pt])
  (refine rel_val rfl _ (fun _ _ _ h => ApG.up rfl h) (fun V L w h1 h2 h3 hC => ex_load1 _ _ rfl _ rfl (ApG.far hC (by exact n3) os) _ Tryz.underlying3 rfl) ?_; simp only [Fam.pt])
  (refine rel_val rfl (.slice (some ⟨Pb, 0, none⟩) n n) (fun _ _ _ h => ApG.up rfl h) (fun V L w h1 h2 h3 hC => by unfold execOp; go_simp; try exact IntWalk.i64_in _ (by omega)) ?_; simp only [Fam.pt])
  (refine rel_val rfl (.pointer (some ⟨xb, 0, none⟩)) (fun _ _ _ h => ApG.up rfl h) (fun V L w h1 h2 h3 hC => by unfold execOp; go_simp; try exact IntWalk.i64_in _ (by omega)) ?_; simp only [Fam.pt])
  (refine rel_val rfl _ (fun _ _ _ h => ApG.up rfl h) (fun V L w h1 h2 h3 hC => ex_load1 _ _ rfl _ rfl (ApG.far hC (by exact n2) x0) _ Tryz.underlying3 rfl) ?_; simp only [Fam.pt])
  (refine rel_val rfl (.pointer (some ⟨Pb, f, none⟩)) (fun _ _ _ h => ApG.up rfl h) (fun V L w h1 h2 h3 hC => by unfold execOp; go_simp; try exact IntWalk.i64_in _ (by omega)) ?_; simp only [Fam.pt])
  (refine rel_val rfl _ (fun _ _ _ h => ApG.up rfl h) (fun V L w h1 h2 h3 hC => ex_load1 _ _ rfl _ rfl (ApG.far hC (by exact n3) of) _ Tryz.underlying3 rfl) ?_; simp only [Fam.pt])
  (refine rel_val rfl (.int .i64 (a - b)) (fun _ _ _ h => ApG.up rfl h) (fun V L w h1 h2 h3 hC => by unfold execOp; go_simp; try exact IntWalk.i64_in _ (by omega)) ?_; simp only [Fam.pt])
  (refine rel_val rfl (.pointer (some ⟨xb, 2, none⟩)) (fun _ _ _ h => ApG.up rfl h) (fun V L w h1 h2 h3 hC => by unfold execOp; go_simp; try exact IntWalk.i64_in _ (by omega)) ?_; simp only [Fam.pt])
  (refine rel_val rfl _ (fun _ _ _ h => ApG.up rfl h) (fun V L w h1 h2 h3 hC => ex_load1 _ _ rfl _ rfl (ApG.far hC (by exact n2) x2) _ Tryz.underlying3 rfl) ?_; simp only [Fam.pt])
  (refine rel_val rfl (.int .i64 (a - b + j)) (fun _ _ _ h => ApG.up rfl h) (fun V L w h1 h2 h3 hC => by unfold execOp; go_simp; try exact IntWalk.i64_in _ (by omega)) ?_; simp only [Fam.pt])
  refine rel_free rfl (fun V L w h1 h2 h3 hC => ?_) ?_
  · rw [ex_sliceI _ rfl (a - b + j) rfl]
    exact ApG.ev_made (by decide) (by kernel_rfl) h1 h3 hC
  simp only [Fam.pt]
  refine rel_free rfl (fun V L w h1 h2 h3 hC => ?_) ?_
  · obtain ⟨v, w', k1, k2⟩ := ApG.ev_app (by decide) HK.out hC h1 (by kernel_rfl) h3 h2 (by kernel_rfl) _
    rw [ex_append _ _ _ rfl rfl rfl k1]
    exact k2
  simp only [Fam.pt]
  refine rel_free rfl (fun V L w h1 h2 h3 hC => ?_) ?_
  · rw [ex_asg _ rfl]
    exact ApG.ev_asg (by decide) hC
  simp only [Fam.pt]
  intro V L w' hL hC
  have h1 := hC.f.a1
  rw [if_pos (hL 16 (by decide))] at h1
  obtain ⟨A', c', e, hg⟩ := h1
  refine HQ.out _ A' c' w' hC.f.tch hg ⟨rfl, rfl, rfl, rfl, rfl, rfl, (hC.g (hL 17 (by decide))).trans e, rfl, rfl, rfl, trivial⟩
theorem edS_ge {t : Sk} {p : Nat → Int} {i : Nat} (h : i < t.pr.length) : ge (edS t p) i = eS t p i := by
  unfold ge edS
  simp [List.getD_eq_getElem?_getD, h]
theorem edS_gd {t : Sk} {p : Nat → Int} (ho : RtS t) (hs : ∀ i, i < t.pr.length → SmallJ (jS t p i)) : Gd t.sc.length 1000 (edS t p) := by
  refine ⟨by have := ho.net.n_le; omega, Nat.le_refl _, by rw [edS_len]; have := ho.net.m_le; omega, fun i hi => ?_, fun i hi => ?_, fun i hi => ?_⟩
  · rw [edS_len] at hi
    rw [edS_ge hi]
    obtain ⟨h1, h2, h3⟩ := prs_lt ho.net hi
    exact ⟨h1, h2, Nat.ne_of_lt h3⟩
  · rw [edS_len] at hi
    rw [edS_ge hi]
    exact hs i hi
  · rw [edS_len] at hi
    rw [edS_ge hi]
    have := ho.ws i (by rw [ho.lws]; exact hi)
    show (gi t.ws i).toNat ≤ 1000
    omega
def kL (es : List Ed) (q : List Int) : List Int := (List.range es.length).map fun i => exc (ge es i) q
theorem kL_len (es : List Ed) (q : List Int) : (kL es q).length = es.length := by simp [kL]
theorem kL_get {es : List Ed} {q : List Int} {k : Nat} (hk : k < es.length) : gi (kL es q) k = exc (ge es k) q := by
  unfold kL gi
  simp [List.getD_eq_getElem?_getD, hk]
theorem kL_snoc {es : List Ed} {q : List Int} {k : Nat} (hk : k < es.length) : (kL es q).take k ++ [exc (ge es k) q] = (kL es q).take (k + 1) := by
  rw [take_snoc_i (by rw [kL_len]; exact hk), kL_get hk]
theorem kL_take {es : List Ed} {q : List Int} {k : Nat} (hk : k ≤ es.length) : ((kL es q).take k).length = k := by rw [List.length_take, kL_len]; omega
def LoopCr (W3 : World) (es : List Ed) (q : List Int) (n Pb ca : Nat) (A : Option Addr) (v9 v10 : Value) (a : Act) (w : World) : Prop :=
  ∃ (k : Nat) (K : Option Addr) (kc : Nat), k ≤ es.length ∧ GrI w W3.heap.size K kc ((kL es q).take k) ∧ Below W3.heap.size W3 w ∧
    Fr 60 [(8, .slice (some ⟨Pb, 0, none⟩) n n), (9, v9), (10, v10), (11, .slice K k kc), (33, .slice A es.length ca), (34, .int .i64 es.length), (35, .int .i64 k)] a
theorem cor_loop {es : List Ed} {q : List Int} {n Pb ca : Nat} {A : Option Addr} {v9 v10 : Value} {W3 : World} (hg : Gd n 1000 es) (hP : IntB W3 Pb q) (hq : q.length = n) (hb : ∀ v, v < n → -1000000 ≤ gi q v ∧ gi q v ≤ 1000000) (hE : RdE W3 A es) {Q : Exit → Act → World → Prop}
    (hQ : ∀ a w K kc, GrI w W3.heap.size K kc (kL es q) → Below W3.heap.size W3 w → Fr 60 [(9, v9), (10, v10), (11, .slice K es.length kc)] a → Q (.exit 0) a w) {a : Act} {w : World} (hI : LoopCr W3 es q n Pb ca A v9 v10 a w) :
    Code.wp Tryz.prog (Tryz.f6.sub [1, 1, 1, 1, 1, 1, 0, 1, 0, 0]) (Exit.then (fun a' w' => LoopCr W3 es q n Pb ca A v9 v10 a' w' ∧ es.length - (intOf (a'.tmps.getD 35 undef)).toNat < es.length - (intOf (a.tmps.getD 35 undef)).toNat) Q) a w := by
  obtain ⟨k, K, kc, hk, hG, hB, hfr⟩ := hI
  obtain ⟨v, rfl⟩ := hfr.open
  clear hfr
  generalize hmu : es.length - (intOf ((⟨frL 60 _ v, []⟩ : Act).tmps.getD 35 undef)).toNat = mu
  have hmu' : es.length - k = mu := by rw [← hmu]; rfl
  clear hmu
  have hn := hg.n_le
  have hm := hg.m_le
  have HX := Lib.hid (And.intro hg (And.intro hP (And.intro hq (And.intro hb hE))))
  clear hg hP hq hb hE
  have HQ := Lib.hid hQ; clear hQ
  have HG := Lib.hid (And.intro hG hB); clear hG hB
  show Code.wp Tryz.prog (.seq (Tryz.f6.sub [1, 1, 1, 1, 1, 1, 0, 1, 0, 0, 0]) (.seq (Tryz.f6.sub [1, 1, 1, 1, 1, 1, 0, 1, 0, 0, 1, 0]) (.seq (.block 1 (.seq (Tryz.f6.sub [1, 1, 1, 1, 1, 1, 0, 1, 0, 0, 1, 1, 0, 0, 0]) (Tryz.f6.sub [1, 1, 1, 1, 1, 1, 0, 1, 0, 0, 1, 1, 0, 0, 1]))) (Tryz.f6.sub [1, 1, 1, 1, 1, 1, 0, 1, 0, 0, 1, 1, 1])))) _
    ⟨#[(v 0), (v 1), (v 2), (v 3), (v 4), (v 5), (v 6), (v 7), .slice (some ⟨Pb, 0, none⟩) n n, v9, v10, .slice K k kc, (v 12), (v 13), (v 14), (v 15), (v 16), (v 17), (v 18), (v 19), (v 20), (v 21), (v 22), (v 23), (v 24), (v 25), (v 26), (v 27), (v 28), (v 29), (v 30), (v 31), (v 32), .slice A es.length ca, .int .i64 es.length, .int .i64 k, (v 36), (v 37), (v 38), (v 39), (v 40), (v 41), (v 42), (v 43), (v 44), (v 45), (v 46), (v 47), (v 48), (v 49), (v 50), (v 51), (v 52), (v 53), (v 54), (v 55), (v 56), (v 57), (v 58), (v 59)], []⟩ _
  refine wp_seq ?_
  conv => arg 2; whnf
  dsimp only
  by_cases hlt : k < es.length
  · obtain ⟨b, o, hA, p0, p1, p2, p3⟩ := (HX.out.2.2.2.2.keep HG.out.2) k hlt
    rw [hA]
    have HA := Lib.hid hA; clear hA
    have hklt : (k : Int) < es.length := by omega
    obtain ⟨f1, f2, f3⟩ := HX.out.1.ends k hlt
    obtain ⟨j1, j2⟩ := HX.out.1.jump k hlt
    have of := (HX.out.2.1.keep HG.out.2).cell (j := (ge es k).f) (by rw [HX.out.2.2.1]; exact f1)
    have os := (HX.out.2.1.keep HG.out.2).cell (j := (ge es k).t) (by rw [HX.out.2.2.1]; exact f2)
    have b1 := HX.out.2.2.2.1 _ f1
    have b2 := HX.out.2.2.2.1 _ f2
    have hBl := HG.out.2.size
    have obl := (HX.out.2.1).lt
    go_wp2_with fail
    conv => arg 2; whnf
    go_wp2_with fail
    conv => arg 2; whnf
    go_wp2_with fail
    refine nameC ?_
    intro W4 hW4
    have hb3 : Below w.heap.size w W4 := by rw [hW4]; exact (Below.refl _ _).alloc (Nat.le_refl _) _
    have hx3 : W4.heap[w.heap.size]? = some (.cells #[.int .i64 (ge es k).f, .int .i64 (ge es k).t, .int .i64 (ge es k).j, .int .i64 (ge es k).k] 54 (0, 0)) := by rw [hW4]; exact heap_alloc_new w _
    clear hW4
    have hS : ∀ q', q' ∈ ApD.S ⟨W3.heap.size, K, kc, (kL es q).take k, gi q (ge es k).t - gi q (ge es k).f + (ge es k).j⟩ → W3.heap.size ≤ q' ∧ q' < w.heap.size := fun q' hq' => by
      unfold ApD.S at hq'
      rw [Option.mem_toList] at hq'
      exact HG.out.1.lt hq'
    refine cor_add (B := W3.heap.size) (xs := (kL es q).take k) (v1 := v 1) (v33 := .slice (some ⟨b, o, none⟩) es.length ca) (kL_take hk) ⟨HG.out.1.keep hb3, Nat.le_trans hBl hb3.size, by rw [kL_take hk]; omega⟩ hn f1 f2 (block_cell hx3 (j := 0) (by simp)) (block_cell hx3 (j := 1) (by simp)) (block_cell hx3 (j := 2) (by simp)) (cell_keep hb3 of) (cell_keep hb3 os) (by omega) ?_ ?_ ?_
    · exact fun h => by have := (hS _ h).2; omega
    · exact fun h => by have := (hS _ h).1; omega
    intro a' A' c' w' hT hG' hfr
    rename_i Q6 K6 hK6
    obtain ⟨v', rfl⟩ := hfr.open
    clear hfr
    refine hK6 _ _ ?_
    clear hK6
    have hG2 : GrI w' W3.heap.size A' c' ((kL es q).take (k + 1)) := by rw [← kL_snoc hlt]; exact hG'
    have hbw : Below W3.heap.size W3 w' := by
      refine hT.below (HG.out.2.trans (hb3.mono hBl)) (Nat.le_refl _) (fun q hq => ?_)
      rw [Option.mem_toList] at hq
      exact (HG.out.1.lt hq).1
    have HJ := Lib.hid (And.intro hG2 hbw); clear hG2 hG' hbw hT hS
    show Code.wp Tryz.prog (Tryz.f6.sub [1, 1, 1, 1, 1, 1, 0, 1, 0, 0, 1, 1, 1]) _ ⟨#[(v' 0), v 1, (v' 2), (v' 3), (v' 4), (v' 5), (v' 6), (v' 7), .slice (some ⟨Pb, 0, none⟩) n n, v9, v10, .slice A' (k + 1) c', (v' 12), (v' 13), (v' 14), (v' 15), (v' 16), (v' 17), (v' 18), (v' 19), (v' 20), (v' 21), (v' 22), (v' 23), (v' 24), (v' 25), (v' 26), (v' 27), (v' 28), (v' 29), (v' 30), (v' 31), (v' 32), .slice (some ⟨b, o, none⟩) es.length ca, .int .i64 es.length, .int .i64 k, (v' 36), (v' 37), (v' 38), (v' 39), (v' 40), (v' 41), (v' 42), (v' 43), (v' 44), (v' 45), (v' 46), (v' 47), (v' 48), (v' 49), (v' 50), (v' 51), (v' 52), (v' 53), (v' 54), (v' 55), (v' 56), (v' 57), (v' 58), (v' 59)], []⟩ _
    conv => arg 2; whnf
    dsimp only
    go_wp2_with fail
    refine ⟨⟨k + 1, A', c', by omega, HJ.out.1, HJ.out.2, ?_⟩, ?_⟩
    · refine ⟨rfl, rfl, rfl, rfl, rfl, rfl, ?_, rfl, ?_, trivial⟩
      · rfl
      · show Value.int .i64 ((k : Int) + 1) = _; go_num
    · show es.length - ((k : Int) + 1).toNat < mu
      omega
  · obtain rfl : k = es.length := by omega
    go_wp2_with fail
    conv => arg 2; whnf
    go_wp2_with fail
    refine HQ.out _ _ K kc ?_ HG.out.2 (by (refine ⟨rfl, rfl, ?_⟩; repeat (first | exact trivial | refine ⟨rfl, ?_⟩)))
    have := HG.out.1
    rwa [List.take_of_length_le (by rw [kL_len]; omega)] at this
theorem results_tmp4 {fn : Func} {a b c d : Tmp} (h : fn.results = #[.tmp a, .tmp b, .tmp c, .tmp d]) (tmps : Array Value) (P : Program) (w : World) :
    (results fn tmps).run P w = .ok (.tuple #[tmps.getD a undef, tmps.getD b undef, tmps.getD c undef, tmps.getD d undef]) w := by
  simp [results, h]
def CorPost (t : Sk) (w : World) (e : Ending) (w' : World) : Prop := ∃ p x, Below w.heap.size w w' ∧ Sms t t.ph p ∧ CodeS t p x ∧
  ((x ≠ 0 ∧ e = .returned (.tuple #[.slice none 0 0, .slice none 0 0, .int .i64 0, .int .i64 x])) ∨
   (x = 0 ∧ ∃ K kc X q xs, e = .returned (.tuple #[.slice K t.pr.length kc, .slice (some ⟨X, 0, none⟩) t.pr.length t.pr.length, .int .i64 (cost (edS t p) q), .int .i64 0]) ∧ GrI w' w.heap.size K kc (kL (edS t p) q) ∧ IntB w' X xs ∧ Solved t.sc.length 1000 (edS t p) q xs (cost (edS t p) q)))
theorem corrections_c {t : Sk} {l : SkL} {w : World} (hM : SkM w t l) (ho : RtS t) (hcs : t.sc.length ≤ l.cs) : Calls Tryz.prog 6 #[SkV t l] w (CorPost t w) := by
  have HM := Lib.hid (And.intro hM (And.intro ho hcs)); clear hM ho hcs
  unfold SkV
  go_enter Tryz.func6, Tryz.ntmps6
  show Code.wp Tryz.prog (.seq (Tryz.f6.sub [0]) (.seq (Tryz.f6.sub [1, 0]) (.seq (Tryz.f6.sub [1, 1, 0]) (.seq (Tryz.f6.sub [1, 1, 1, 0]) (.seq (Tryz.f6.sub [1, 1, 1, 1, 0]) (.seq (Tryz.f6.sub [1, 1, 1, 1, 1, 0]) (.seq (.seq (Tryz.f6.sub [1, 1, 1, 1, 1, 1, 0, 0]) (.block 0 (.loop (Tryz.f6.sub [1, 1, 1, 1, 1, 1, 0, 1, 0, 0])))) (Tryz.f6.sub [1, 1, 1, 1, 1, 1, 1])))))))) _ _ _
  refine wp_seq ?_
  conv => arg 2; whnf
  go_wp2_with fail
  refine nameC ?_
  intro W1 hW1
  obtain ⟨hB1, e1⟩ := alloc1 w _ hW1
  clear hW1
  obtain ⟨G, hG⟩ : ∃ G, w.heap.size = G := ⟨_, rfl⟩
  rw [hG] at e1
  rw [hG]
  have g0 : W1.cell? ⟨G, 0, none⟩ = some (.slice l.S t.sc.length l.cs) := block_cell e1 (j := 0) (by simp)
  have g1 : W1.cell? ⟨G, 1, none⟩ = some (.slice l.P t.pr.length l.cp) := block_cell e1 (j := 1) (by simp)
  have g2 : W1.cell? ⟨G, 2, none⟩ = some (.slice l.H t.ph.length l.ch) := block_cell e1 (j := 2) (by simp)
  have g3 : W1.cell? ⟨G, 3, none⟩ = some (.slice l.W t.ws.length l.cw) := block_cell e1 (j := 3) (by simp)
  have HN := Lib.hid (netOf_c (HM.out.1.keep hB1) HM.out.2.1 HM.out.2.2)
  unfold SkV at HN
  have HB := Lib.hid (And.intro hB1 hG); clear hB1 hG e1
  conv => arg 2; whnf
  go_wp2_with fail
  refine HN.out.mono ?_
  rintro e W2 ⟨A, c, p, x, rfl, hB2, hSm, hCo, hGr⟩
  have hB02 : Below w.heap.size w W2 := HB.out.1.trans (hB2.mono HB.out.1.size)
  have hz2 := hB2.size
  have H2 := Lib.hid (And.intro hB02 (And.intro hSm (And.intro hCo hGr))); clear hB2 hB02 hSm hCo hGr HN g0 g1 g2 g3
  by_cases hx : x = 0
  · subst hx
    have hgr := H2.out.2.2.2 rfl
    have hsm : ∀ i, i < t.pr.length → SmallJ (jS t p i) := by
      rcases H2.out.2.2.1 with ⟨h, _⟩ | ⟨h, _⟩ | ⟨_, _, h⟩
      · omega
      · omega
      · exact h
    have hgd := edS_gd HM.out.2.1 hsm
    unfold NetR
    rw [if_pos rfl]
    have HK := Lib.hid (And.intro hgr hgd); clear hgr hsm hgd
    go_wp2_with fail
    refine nameC ?_
    intro W3 hW3
    have hB3 : Below W2.heap.size W2 W3 := by rw [hW3]; exact (Below.refl _ _).alloc (Nat.le_refl _) _
    have hN3 : W3.heap[W2.heap.size]? = some (.cells #[.int .i64 t.sc.length, .slice A t.pr.length c] 37 (0, 0)) := by rw [hW3]; exact heap_alloc_new W2 _
    have n0 : W3.cell? ⟨W2.heap.size, 0, none⟩ = some (.int .i64 t.sc.length) := block_cell hN3 (j := 0) (by simp)
    have n1 : W3.cell? ⟨W2.heap.size, 1, none⟩ = some (.slice A t.pr.length c) := block_cell hN3 (j := 1) (by simp)
    have HSN := solveNet_c HK.out.2 (Nat.zero_le _) (A := A) (ca := c) (GrF.rdE (HK.out.1.keep hB3))
    rw [edS_len] at HSN
    have HSN := Lib.hid HSN
    have H3 := Lib.hid (And.intro hB3 hN3); clear hB3 hN3 hW3
    conv => arg 2; whnf
    go_wp2_with fail
    conv => arg 2; whnf
    go_wp2_with fail
    refine HSN.out.mono ?_
    rintro e W4 ⟨q, xs, Pb, X, rfl, hB4, hP, hX, hso⟩
    rw [edS_len]
    have hN4 := (hB4.block _ (Array.getElem?_eq_some_iff.1 H3.out.2).1).trans H3.out.2
    have n1 : W4.cell? ⟨W2.heap.size, 1, none⟩ = some (.slice A t.pr.length c) := block_cell hN4 (j := 1) (by simp)
    obtain ⟨cst, hcst⟩ : ∃ cst, cost (edS t p) q = cst := ⟨_, rfl⟩
    rw [hcst] at hso ⊢
    have hB04 : Below w.heap.size w W4 := H2.out.1.trans ((H3.out.1.trans (hB4.mono H3.out.1.size)).mono H2.out.1.size)
    have hE4 := (GrF.rdE (HK.out.1.keep H3.out.1)).keep hB4
    have H4 := Lib.hid (And.intro hB04 (And.intro hP (And.intro hX (And.intro hso (And.intro hcst hE4))))); clear hB4 hB04 hP hX hso hcst hN4 HSN n0 hE4
    go_wp2_with fail
    conv => arg 2; whnf
    go_wp2_with fail
    conv => arg 2; whnf
    go_wp2_with fail
    conv => arg 2; whnf
    go_wp2_with fail
    have h60 := HM.out.2.1.net.n_le
    have hlr := edS_len t p
    refine wp_loop (LoopCr W4 (edS t p) q t.sc.length Pb c A (.slice (some ⟨X, 0, none⟩) t.pr.length t.pr.length) (.int .i64 cst)) (fun a _ => (edS t p).length - (intOf (a.tmps.getD 35 undef)).toNat) ⟨0, none, 0, Nat.zero_le _, GrF.start _ _, Below.refl _ _, ?_⟩ ?_
    · rw [hlr]; (refine ⟨rfl, rfl, ?_⟩; repeat (first | exact trivial | refine ⟨rfl, ?_⟩))
    intro a wr hI
    refine cor_loop HK.out.2 H4.out.2.1 H4.out.2.2.2.1.lenq (fun v hv => ?_) H4.out.2.2.2.2.2 ?_ hI
    · have := H4.out.2.2.2.1.bound v hv
      omega
    intro a' w' K kc hGK hBl hfr
    rw [hlr] at hfr
    rename_i K6 hK6
    obtain ⟨v, rfl⟩ := hfr.open
    clear hfr hI
    refine hK6 _ _ ?_
    clear hK6
    have HZ := Lib.hid (And.intro hGK hBl); clear hGK hBl hlr
    show Code.wp Tryz.prog (Tryz.f6.sub [1, 1, 1, 1, 1, 1, 1]) _ ⟨#[(v 0), (v 1), (v 2), (v 3), (v 4), (v 5), (v 6), (v 7), (v 8), .slice (some ⟨X, 0, none⟩) t.pr.length t.pr.length, .int .i64 cst, .slice K t.pr.length kc, (v 12), (v 13), (v 14), (v 15), (v 16), (v 17), (v 18), (v 19), (v 20), (v 21), (v 22), (v 23), (v 24), (v 25), (v 26), (v 27), (v 28), (v 29), (v 30), (v 31), (v 32), (v 33), (v 34), (v 35), (v 36), (v 37), (v 38), (v 39), (v 40), (v 41), (v 42), (v 43), (v 44), (v 45), (v 46), (v 47), (v 48), (v 49), (v 50), (v 51), (v 52), (v 53), (v 54), (v 55), (v 56), (v 57), (v 58), (v 59)], []⟩ _
    conv => arg 2; whnf
    dsimp only
    go_wp2_with fail
    refine bodyPost_ret (results_tmp4 Tryz.results6 _ _ _) rfl ?_
    refine ⟨p, 0, H4.out.1.trans (HZ.out.2.mono H4.out.1.size), H2.out.2.1, H2.out.2.2.1, .inr ⟨rfl, K, kc, X, q, xs, by rw [H4.out.2.2.2.2.1]; rfl, HZ.out.1.low H4.out.1.size, H4.out.2.2.1.keep HZ.out.2, by rw [H4.out.2.2.2.2.1]; exact H4.out.2.2.2.1⟩⟩
  · have hnr : NetR t A c x = .agg #[.int .i64 0, .slice none 0 0] := by unfold NetR; rw [if_neg hx]
    rw [hnr]
    have hxb : (x != 0) = true := by simpa using hx
    have HX := Lib.hid (And.intro hx hnr); clear hx hnr
    go_wp2_with fail
    conv => arg 2; whnf
    go_wp2_with fail
    refine bodyPost_ret (results_tmp4 Tryz.results6 _ _ _) rfl ?_
    exact ⟨p, x, H2.out.1.alloc H2.out.1.size _, H2.out.2.1, H2.out.2.2.1, .inl ⟨HX.out.1, rfl⟩⟩
end Go.Proofs.YtjnpchoinncbnaaGreat
end
