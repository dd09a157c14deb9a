/- Proves parts of the statement, each under the conditions that its theorem states: The reference's TurnsOf; The reference's CheckField; The two examples: plain; base.Ints; Loop; Square; The examples' net and task. -/
import Derived.Test.YtjnpchoinncbnaaP19
section
set_option linter.unusedSimpArgs false
set_option linter.unusedVariables false
namespace Sw
open Go.Proofs.Ytjnpchoinncbnaa
def okT (x y : Int) : Prop := (x = 1000000000000 ↔ y = 1000000000000) ∧ (x ≠ 1000000000000 → (-100000000 ≤ y ∧ y ≤ 100000000) ∧ (y - x) % 4096 = 0)
def tn (x y : Int) : Int := if x = 1000000000000 then 0 else Int.tdiv (y - x) 4096
def turnsL (ph ys : List Int) : List Int := (List.range ph.length).map fun i => tn (gi ph i) (gi ys i)
theorem turnsL_len (ph ys : List Int) : (turnsL ph ys).length = ph.length := by simp [turnsL]
theorem turnsL_get {ph ys : List Int} {k : Nat} (hk : k < ph.length) : gi (turnsL ph ys) k = tn (gi ph k) (gi ys k) := by
  unfold turnsL gi
  simp [List.getD_eq_getElem?_getD, hk]
theorem turnsL_snoc {ph ys : List Int} {k : Nat} (hk : k < ph.length) : (turnsL ph ys).take k ++ [tn (gi ph k) (gi ys k)] = (turnsL ph ys).take (k + 1) := by
  have h : k < (turnsL ph ys).length := by rw [turnsL_len]; exact hk
  rw [List.take_succ_eq_append_getElem h]
  congr 1
  have := turnsL_get (ph := ph) (ys := ys) hk
  unfold gi at this
  simp [List.getD_eq_getElem?_getD, h] at this
  simp [gi, List.getD_eq_getElem?_getD, this]
end Sw
namespace Go.Proofs.Ytjnpchoinncbnaa
open Go.RowKit Sw Fam
theorem isPhase_c (k : Int) (w : World) : Calls Try.prog 48 #[.int .i64 k] w fun e w' => e = .returned (.bool (decide (-100000000 ≤ k) && decide (k ≤ 100000000))) ∧ w = w' := by
  go_enter Try.func48, Try.ntmps48
  go_wp2_with (refine (bwithin_c _ _ _ (decide (-100000000 ≤ k) && decide (k ≤ 100000000)) (by simp) _).mono ?_; rintro e w' ⟨rfl, rfl⟩)
  go_ret
  exact ⟨rfl, rfl⟩
def TOk (R C : Nat) (ph : List Int) (R' C' : Int) (ys : List Int) : Prop := R' = R ∧ C' = C ∧ ys.length = ph.length ∧ ∀ i, i < ph.length → okT (gi ph i) (gi ys i)
def TurnPost (R C : Nat) (ph : List Int) (R' C' : Int) (ys : List Int) (w : World) (r : Ending) (w' : World) : Prop :=
  ∃ A n c e, r = .returned (.tuple #[.slice A n c, .int .i64 e]) ∧ Below w.heap.size w w' ∧ (e = 0 ↔ TOk R C ph R' C' ys) ∧ (e = 0 → n = ph.length ∧ RdI w' A (turnsL ph ys))
set_option maxHeartbeats 2000000 in
set_option maxRecDepth 100000 in
theorem turnsOf_c {R C : Nat} {ph ac dn : List Int} {P A D Y : Option Addr} {cp ca cd cy : Nat} {R' C' : Int} {ys : List Int} {w : World} (hP : RdI w P ph) (hY : RdI w Y ys) (hn : RtN R C ph ac dn) (hl : ys.length ≤ 1000) :
    Calls Try.prog 28 #[.agg #[.int .i64 R, .int .i64 C, .slice P ph.length cp, .slice A ac.length ca, .slice D dn.length cd], .agg #[.int .i64 R', .int .i64 C', .slice Y ys.length cy]] w (TurnPost R C ph R' C' ys w) := by
  have HP := Lib.hid hP; clear hP
  have HY := Lib.hid hY; clear hY
  have HN := Lib.hid hn
  have hpl : ph.length ≤ 144 := by rw [hn.lp]; exact hn.few
  clear hn
  have hB : Below w.heap.size w ((w.alloc (.cells #[.int .i64 R, .int .i64 C, .slice P ph.length cp, .slice A ac.length ca, .slice D dn.length cd] 26)).alloc (.cells #[.int .i64 R', .int .i64 C', .slice Y ys.length cy] 24)) := ((Below.refl _ _).alloc (Nat.le_refl _) _).alloc (by simp) _
  by_cases h1 : R' = R
  · by_cases h2 : C' = C
    · by_cases h3 : ys.length = ph.length
      · subst h1 h2
        have hl1 : ((ys.length : Int) != (ph.length : Int)) = false := by simp [h3]
        have H3 := Lib.hid h3; clear h3
        clear hB
        go_enter Try.func28, Try.ntmps28
        go_wp2_with fail
        obtain ⟨w1, hw1⟩ : ∃ w1, w1 = (w.alloc (.cells #[.int .i64 R, .int .i64 C, .slice P ph.length cp, .slice A ac.length ca, .slice D dn.length cd] 26)).alloc (.cells #[.int .i64 R, .int .i64 C, .slice Y ys.length cy] 24) := ⟨_, rfl⟩
        rw [← hw1]
        obtain ⟨hz1, hT1, hY1, hB1⟩ := alloc2 w _ _ hw1
        clear hw1
        have t2 : w1.cell? ⟨w.heap.size, 2, none⟩ = some (.slice P ph.length cp) := block_cell hT1 (j := 2) (by simp)
        have y2 : w1.cell? ⟨w.heap.size + 1, 2, none⟩ = some (.slice Y ys.length cy) := block_cell hY1 (j := 2) (by simp)
        have HB1 := Lib.hid (And.intro hB1 (And.intro t2 y2)); clear hB1 hT1 hY1 t2 y2
        go_loopw [6, 7] (fun v6 v7 wr => ∃ (k : Nat) (G : Option Addr) (c : Nat), v7 = .int .i64 k ∧ v6 = .slice G k c ∧ k ≤ ph.length ∧ GrI wr w1.heap.size G c ((turnsL ph ys).take k) ∧ Below w1.heap.size w1 wr ∧ ∀ i, i < k → okT (gi ph i) (gi ys i)) (fun _ v7 _ => ph.length - (intOf v7).toNat)
        case atStart => exact ⟨0, none, 0, rfl, rfl, Nat.zero_le _, GrF.start _ _, Below.refl _ _, fun i hi => by omega⟩
        case round =>
          obtain ⟨k, G, c, rfl, rfl, hk, hG, hB, hall⟩ := hrel
          have t2 := cellB hB HB1.out.2.1
          have y2 := cellB hB HB1.out.2.2
          have H := Lib.hid (And.intro hG (And.intro hB hall)); clear hG hB hall
          by_cases hlt : k < ph.length
          · obtain ⟨b, o, rfl, hc⟩ := ((HP.out.keep HB1.out.1).keep H.out.2.1) k hlt
            obtain ⟨b2, o2, rfl, hc2⟩ := ((HY.out.keep HB1.out.1).keep H.out.2.1) k (by rw [H3.out]; exact hlt)
            have hyl : k < ys.length := by rw [H3.out]; exact hlt
            have hph := HN.out.ph k hlt
            have hsn := turnsL_snoc (ph := ph) (ys := ys) hlt
            have hfl : ∀ j, j = k → ¬ okT (gi ph j) (gi ys j) → ¬ TOk R C ph R C ys := fun j hj h hh => h (hh.2.2.2 j (by omega))
            have hfl := hfl k rfl
            obtain ⟨x, hx⟩ : ∃ x, x = gi ph k := ⟨_, rfl⟩
            obtain ⟨y, hy⟩ : ∃ y, y = gi ys k := ⟨_, rfl⟩
            have hnx : okT x y → ∀ i, i < k + 1 → okT (gi ph i) (gi ys i) := fun h i hi => by
              by_cases e : i = k
              · subst e; rw [← hx, ← hy]; exact h
              · exact H.out.2.2 i (by omega)
            rw [← hx] at hc hph hsn hfl
            rw [← hy] at hc2 hsn hfl
            have HX := Lib.hid (And.intro hfl (And.intro hsn hnx)); clear hfl hsn hnx hx hy
            go_wp2_with fail
            go_quiet (fail)
            generalize hwx : wr.drewN nq = wx
            have HW := Lib.hid (show GrI wx w1.heap.size G c ((turnsL ph ys).take k) ∧ Below w1.heap.size w1 wx from by rw [← hwx]; exact ⟨H.out.1.drewN nq, below_drewN H.out.2.1 nq⟩)
            have hwz := HW.out.2.size
            have htk : ((turnsL ph ys).take k).length = k := by rw [List.length_take, turnsL_len]; omega
            clear hwx H hc hc2 t2 y2
            by_cases hx : x = 1000000000000
            · by_cases hy : y = 1000000000000
              · have htn : tn x y = 0 := by unfold tn; rw [if_pos hx]
                have hot : okT x y := ⟨⟨fun _ => hy, fun _ => hx⟩, fun h => absurd hx h⟩
                have hx1 : (x == 1000000000000) = true := by simpa using hx
                have hy1 : (y == 1000000000000) = true := by simpa using hy
                clear hx hy
                go_wp2_with (at_builtin; refine wpList_append_int rfl _ _ rfl (HW.out.1.keep ((Below.refl _ _).alloc (Nat.le_refl _) (.cells #[.int .i64 0] 3))) 0 _ _ (by rw [htk]; rfl) rfl (block_cell (World.alloc_heap_new wx _) (j := 0) (by simp)) (by omega) (by simp; omega) ?_)
                intro A' c' w' g1 g2 a' e3 g3
                subst e3
                have HG := Lib.hid (And.intro g1 g2); clear g1 g2 g3
                go_wp2_with fail
                go_roundw
                case rel =>
                  obtain ⟨g1, g2⟩ := HG.out
                  have hB' : Below w1.heap.size w1 w' := HW.out.2.trans ⟨g2.os, g2.tape, g2.output, by have := g2.size; simp at this; omega, fun b hb => (g2.block b (by simp; omega) (fun e => by have := (HW.out.1.lt e.symm).1; omega)).trans (Below.heap_alloc _ _ _ (by omega))⟩
                  refine ⟨k + 1, some a', c', by go_num, rfl, by omega, ?_, hB', ?_⟩
                  · have h := HX.out.2.1
                    rw [htn] at h
                    rw [← h, hz1]; exact g1
                  · exact HX.out.2.2 hot
                case measure => simp [intOf]; omega
              · have hno : ¬ okT x y := fun h => hy (h.1.1 hx)
                have hx1 : (x == 1000000000000) = true := by simpa using hx
                have hy1 : (y == 1000000000000) = false := by simpa using hy
                clear hx hy
                go_wp2_with fail
                go_ret2
                exact ⟨none, 0, 0, 31, rfl, HB1.out.1.trans (HW.out.2.mono HB1.out.1.size), ⟨fun h => by omega, fun h => absurd h (HX.out.1 hno)⟩, fun h => by omega⟩
            · by_cases hy : y = 1000000000000
              · have hno : ¬ okT x y := fun h => hx (h.1.2 hy)
                have hx1 : (x == 1000000000000) = false := by simpa using hx
                have hy1 : (y == 1000000000000) = true := by simpa using hy
                clear hx hy
                go_wp2_with fail
                go_ret2
                exact ⟨none, 0, 0, 31, rfl, HB1.out.1.trans (HW.out.2.mono HB1.out.1.size), ⟨fun h => by omega, fun h => absurd h (HX.out.1 hno)⟩, fun h => by omega⟩
              · have hpx := hph.resolve_left hx
                have hx1 : (x == 1000000000000) = false := by simpa using hx
                have hy1 : (y == 1000000000000) = false := by simpa using hy
                have htn : tn x y = Int.tdiv (y - x) 4096 := by unfold tn; rw [if_neg hx]
                by_cases hp : -100000000 ≤ y ∧ y ≤ 100000000
                · have hp1 : (decide (-100000000 ≤ y) && decide (y ≤ 100000000)) = true := by simp; exact hp
                  by_cases hm : (y - x) % 4096 = 0
                  · have hm1 : ((y - x) % 4096 != 0) = false := by simpa using hm
                    have hot : okT x y := ⟨⟨fun h => absurd h hx, fun h => absurd h hy⟩, fun _ => ⟨hp, hm⟩⟩
                    have hjb : -30000 ≤ Int.tdiv (y - x) 4096 ∧ Int.tdiv (y - x) 4096 ≤ 30000 := by
                      obtain ⟨q, hq⟩ := Int.dvd_of_emod_eq_zero hm
                      rw [hq, Int.mul_tdiv_cancel_left _ (by decide)]
                      omega
                    have HTN := Lib.hid htn
                    have HOT := Lib.hid hot
                    clear hx hy hm htn hot
                    go_wp2_with fail
                    refine (isPhase_c _ _).mono ?_
                    rintro e w' ⟨rfl, rfl⟩
                    rw [hp1]
                    go_wp2_with fail
                    refine (mod_c _ _).mono ?_
                    rintro e w' ⟨rfl, rfl⟩
                    go_wp2_with (at_builtin; refine wpList_append_int rfl _ _ rfl (HW.out.1.keep ((Below.refl _ _).alloc (Nat.le_refl _) (.cells #[.int .i64 (Int.tdiv (y - x) 4096)] 3))) (Int.tdiv (y - x) 4096) _ _ (by rw [htk]; rfl) rfl (block_cell (World.alloc_heap_new wx _) (j := 0) (by simp)) (by omega) (by simp; omega) ?_)
                    intro A' c' w' g1 g2 a' e3 g3
                    subst e3
                    have HG := Lib.hid (And.intro g1 g2); clear g1 g2 g3
                    go_wp2_with fail
                    go_roundw
                    case rel =>
                      obtain ⟨g1, g2⟩ := HG.out
                      have hB' : Below w1.heap.size w1 w' := HW.out.2.trans ⟨g2.os, g2.tape, g2.output, by have := g2.size; simp at this; omega, fun b hb => (g2.block b (by simp; omega) (fun e => by have := (HW.out.1.lt e.symm).1; omega)).trans (Below.heap_alloc _ _ _ (by omega))⟩
                      refine ⟨k + 1, some a', c', by go_num, rfl, by omega, ?_, hB', ?_⟩
                      · have h := HX.out.2.1
                        rw [HTN.out] at h
                        rw [← h, hz1]; exact g1
                      · exact HX.out.2.2 HOT.out
                    case measure => simp [intOf]; omega
                  · have hm1 : ((y - x) % 4096 != 0) = true := by simpa using hm
                    have hno : ¬ okT x y := fun h => hm (h.2 hx).2
                    clear hx hy hm htn
                    go_wp2_with fail
                    refine (isPhase_c _ _).mono ?_
                    rintro e w' ⟨rfl, rfl⟩
                    rw [hp1]
                    go_wp2_with fail
                    refine (mod_c _ _).mono ?_
                    rintro e w' ⟨rfl, rfl⟩
                    go_wp2_with fail
                    go_ret2
                    exact ⟨none, 0, 0, 27, rfl, HB1.out.1.trans (HW.out.2.mono HB1.out.1.size), ⟨fun h => by omega, fun h => absurd h (HX.out.1 hno)⟩, fun h => by omega⟩
                · have hp1 : (decide (-100000000 ≤ y) && decide (y ≤ 100000000)) = false := by simp; omega
                  have hno : ¬ okT x y := fun h => hp (h.2 hx).1
                  clear hx hy htn hp
                  go_wp2_with fail
                  refine (isPhase_c _ _).mono ?_
                  rintro e w' ⟨rfl, rfl⟩
                  rw [hp1]
                  go_wp2_with fail
                  go_ret2
                  exact ⟨none, 0, 0, 2, rfl, HB1.out.1.trans (HW.out.2.mono HB1.out.1.size), ⟨fun h => by omega, fun h => absurd h (HX.out.1 hno)⟩, fun h => by omega⟩
          · have : k = ph.length := by omega
            subst this
            have hyl : ¬ ph.length < ys.length := by rw [H3.out]; omega
            go_wp2_with fail
            go_ret2
            refine ⟨G, ph.length, c, 0, rfl, HB1.out.1.trans (H.out.2.1.mono HB1.out.1.size), ⟨fun _ => ⟨rfl, rfl, H3.out, H.out.2.2⟩, fun _ => rfl⟩, fun _ => ⟨rfl, ?_⟩⟩
            have hg := H.out.1.rd
            rw [List.take_of_length_le (by rw [turnsL_len]; omega)] at hg
            exact hg
      · subst h1 h2
        have hl1 : ((ys.length : Int) != (ph.length : Int)) = true := by simp; omega
        have H3 := Lib.hid h3; clear h3
        have HBB := Lib.hid hB; clear hB
        go_enter Try.func28, Try.ntmps28
        go_wp2_with fail
        go_ret2
        exact ⟨none, 0, 0, 10, rfl, HBB.out, ⟨fun h => by omega, fun h => absurd h.2.2.1 H3.out⟩, fun h => by omega⟩
    · subst h1
      have h2b : (C' != (C : Int)) = true := by simpa using h2
      have H3 := Lib.hid h2; clear h2
      have HBB := Lib.hid hB; clear hB
      go_enter Try.func28, Try.ntmps28
      go_wp2_with fail
      go_ret2
      exact ⟨none, 0, 0, 10, rfl, HBB.out, ⟨fun h => by omega, fun h => absurd h.2.1 H3.out⟩, fun h => by omega⟩
  · have h1b : (R' != (R : Int)) = true := by simpa using h1
    have H3 := Lib.hid h1; clear h1
    have HBB := Lib.hid hB; clear hB
    go_enter Try.func28, Try.ntmps28
    go_wp2_with fail
    go_ret2
    exact ⟨none, 0, 0, 10, rfl, HBB.out, ⟨fun h => by omega, fun h => absurd h.1 H3.out⟩, fun h => by omega⟩
end Go.Proofs.Ytjnpchoinncbnaa
end

section
set_option linter.unusedSimpArgs false
set_option linter.unusedVariables false
namespace Go.Proofs.Ytjnpchoinncbnaa
open Go.RowKit Sw Fam
theorem turns_pb {R C : Nat} {ph ac dn ys : List Int} {R' C' : Int} (hn : RtN R C ph ac dn) (h : TOk R C ph R' C' ys) : PB (R * C) (turnsL ph ys) := by
  refine ⟨by rw [turnsL_len, hn.lp], fun v hv => ?_⟩
  have hv' : v < ph.length := by rw [hn.lp]; exact hv
  rw [turnsL_get hv']
  have hk := h.2.2.2 v hv'
  unfold tn
  split
  · decide
  · rename_i hx
    have h1 := (hn.ph v hv').resolve_left hx
    obtain ⟨h2, h3⟩ := hk.2 hx
    obtain ⟨q, hq⟩ := Int.dvd_of_emod_eq_zero h3
    rw [hq, Int.mul_tdiv_cancel_left _ (by decide)]
    omega
def FieldPost (R C : Nat) (es : List Ed) (ph : List Int) (R' C' : Int) (ys : List Int) (w : World) (r : Ending) (w' : World) : Prop :=
  ∃ c e, r = .returned (.tuple #[.int .i64 c, .int .i64 e]) ∧ Below w.heap.size w w' ∧ (e = 0 ↔ TOk R C ph R' C' ys) ∧ (e = 0 → c = cost es (turnsL ph ys))
set_option maxHeartbeats 2000000 in
set_option maxRecDepth 100000 in
theorem checkField_c {t : Tk} {l : TkL} {R C : Nat} {Y : Option Addr} {cy : Nat} {R' C' : Int} {ys : List Int} {w : World} (hM : TkM w t l) (hR : t.rows = R) (hC : t.cols = C) (hY : RdI w Y ys) (hn : RtN R C t.ph t.ac t.dn) (hl : ys.length ≤ 1000) :
    Calls Try.prog 9 #[TkV t l, .agg #[.int .i64 R', .int .i64 C', .slice Y ys.length cy]] w (FieldPost R C (netOf t R C) t.ph R' C' ys w) := by
  have HM := Lib.hid hM; clear hM
  have HN := Lib.hid hn; clear hn
  have hno : ∀ w', Below w.heap.size w w' → Calls Try.prog 8 #[TkV t l] w' _ := fun w' hb => bnetOf_c (HM.out.keep hb) hR hC HN.out
  obtain ⟨Ri, Ci, ph, ac, dn⟩ := t
  obtain ⟨P, A, D, cp, ca, cd⟩ := l
  unfold TkV at *
  dsimp only at *
  subst hR hC
  have HY := Lib.hid hY; clear hY
  have HNO := Lib.hid hno; clear hno
  go_enter Try.func9, Try.ntmps9
  go_wp2_with fail
  refine nameCalls ?_
  intro w1 hw1
  obtain ⟨hz1, hT1, hY1, hB1⟩ := alloc2 w _ _ hw1
  clear hw1
  refine (turnsOf_c (HM.out.p.keep hB1) (HY.out.keep hB1) HN.out hl).mono ?_
  rintro r w2 ⟨G, n, c, e, rfl, hB2, he, hg⟩
  dsimp only
  have hB12 := hB1.trans (hB2.mono (by omega))
  have hT2 := (hB2.block _ (by omega)).trans hT1
  have t0 : w2.cell? ⟨w.heap.size, 0, none⟩ = some (.int .i64 R) := block_cell hT2 (j := 0) (by simp)
  have t1 : w2.cell? ⟨w.heap.size, 1, none⟩ = some (.int .i64 C) := block_cell hT2 (j := 1) (by simp)
  have t2 : w2.cell? ⟨w.heap.size, 2, none⟩ = some (.slice P ph.length cp) := block_cell hT2 (j := 2) (by simp)
  have t3 : w2.cell? ⟨w.heap.size, 3, none⟩ = some (.slice A ac.length ca) := block_cell hT2 (j := 3) (by simp)
  have t4 : w2.cell? ⟨w.heap.size, 4, none⟩ = some (.slice D dn.length cd) := block_cell hT2 (j := 4) (by simp)
  have hz2 := hB2.size
  have H := Lib.hid (And.intro hB12 (And.intro he hg))
  clear hB12 he hg hT2 hT1 hY1 hB1 hB2
  by_cases h0 : e = 0
  · subst h0
    obtain ⟨hn', hrd⟩ := H.out.2.2 rfl
    subst hn'
    have HRD := Lib.hid hrd; clear hrd
    go_wp2_with fail
    refine (HNO.out w2 H.out.1).mono ?_
    rintro r w3 ⟨E, ce, rfl, hB3, hG3⟩
    dsimp only
    have hlp := HN.out.lp
    have HG := Lib.hid (And.intro hB3 hG3); clear hB3 hG3
    rw [show ph.length = R * C from hlp]
    generalize hne : R * C = n at *
    have HNE := Lib.hid hne; clear hne
    go_wp2_with fail
    refine (bcost_c (n := n) (by rw [← HNE.out]; exact HN.out.gd) (by rw [← HNE.out]; exact turns_pb HN.out (H.out.2.1.1 trivial)) HG.out.2.rdE (HRD.out.keep HG.out.1)).mono ?_
    rintro r w4 ⟨rfl, hB4⟩
    dsimp only
    have HB4 := Lib.hid hB4; clear hB4
    go_wp2_with fail
    go_ret2
    refine ⟨_, 0, rfl, (H.out.1.trans (HG.out.1.mono H.out.1.size)).trans (HB4.out.mono (by have := H.out.1.size; have := HG.out.1.size; omega)), ⟨fun _ => H.out.2.1.1 trivial, fun _ => rfl⟩, fun _ => rfl⟩
  · have h0b : (e != 0) = true := by simpa using h0
    have H0 := Lib.hid h0; clear h0
    go_wp2_with fail
    go_ret2
    exact ⟨0, e, rfl, H.out.1, H.out.2.1, fun h => absurd h H0.out⟩
end Go.Proofs.Ytjnpchoinncbnaa
end

section
set_option linter.unusedSimpArgs false
set_option linter.unusedVariables false
namespace Sw
open Go.Proofs.Ytjnpchoinncbnaa
def loopE : List Ed := [⟨0, 1, 1, 5⟩, ⟨1, 2, 0, 3⟩, ⟨2, 0, 0, 2⟩]
theorem loop_gd : Gd 3 1 loopE := by
  refine ⟨by decide, by decide, by decide, ?_, ?_, ?_⟩ <;> (intro i hi; have : i < 3 := hi; match i, this with | 0, _ => decide | 1, _ => decide | 2, _ => decide)
theorem loop_two {q x : List Int} {c : Int} (h : Solved 3 1 loopE q x c) : c = 2 ∧ x = [2, 2, 2] := by
  have hc := h.cost
  have hv := h.value
  have l := h.right.len
  have b0 := h.right.bal 0 (by decide)
  have b1 := h.right.bal 1 (by decide)
  have f2 := h.right.fit 2 (by decide)
  match x, l with
  | [x0, x1, x2], _ =>
    simp [cost, value, net, sm, loopE, ge, gi, exc, ab] at hc hv b0 b1 f2
    have e1 : x0 = 2 := by omega
    have e2 : x1 = 2 := by omega
    have e3 : x2 = 2 := by omega
    exact ⟨by omega, by rw [e1, e2, e3]⟩
def squareT : Tk := ⟨2, 2, [0, 1500, -1500, -1096], [5, 4], [3, 2]⟩
theorem square_rt : RtN 2 2 squareT.ph squareT.ac squareT.dn := by
  refine ⟨by decide, by decide, by decide, rfl, rfl, rfl, ?_, ?_, ?_⟩
  · intro i hi; have : i < 4 := hi; match i, this with | 0, _ => decide | 1, _ => decide | 2, _ => decide | 3, _ => decide
  · intro i hi; have : i < 2 := hi; match i, this with | 0, _ => decide | 1, _ => decide
  · intro i hi; have : i < 2 := hi; match i, this with | 0, _ => decide | 1, _ => decide
theorem square_net : netOf squareT 2 2 = [⟨0, 1, 0, 5⟩, ⟨2, 3, 0, 4⟩, ⟨0, 2, 0, 3⟩, ⟨1, 3, -1, 2⟩] := by kernel_rfl
theorem square_two {q x : List Int} {c : Int} (h : Solved (2 * 2) 1 (netOf squareT 2 2) q x c) : c = 2 := by
  rw [square_net] at h
  have hc := h.cost
  have hv := h.value
  have l := h.right.len
  have f3 := h.right.fit 3 (by decide)
  match x, l with
  | [x0, x1, x2, x3], _ =>
    simp [cost, value, sm, ge, gi, exc, ab] at hc hv f3
    omega
end Sw
namespace Go.Proofs.Ytjnpchoinncbnaa
open Go.RowKit Sw Fam
set_option maxRecDepth 100000 in
theorem ints_c {xs : List Int} {A B : Option Addr} {ca cb : Nat} {w : World} (hA : RdI w A xs) (hB : RdI w B xs) (hl : xs.length ≤ 1000) : Calls Try.prog 15 #[.slice A xs.length ca, .slice B xs.length cb] w fun e w' => e = .returned (.bool true) ∧ ∃ n, w' = w.drewN n := by
  have HA := Lib.hid hA; clear hA
  have HB := Lib.hid hB; clear hB
  have hb : ((xs.length : Int) != (xs.length : Int)) = false := by simp
  go_enter Try.func15, Try.ntmps15
  go_wp2_with fail
  go_loopw [5] (fun v5 wr => ∃ k n : Nat, v5 = .int .i64 k ∧ k ≤ xs.length ∧ wr = w.drewN n) (fun v5 _ => xs.length - (intOf v5).toNat)
  case atStart => exact ⟨0, 0, rfl, Nat.zero_le _, rfl⟩
  case round =>
    obtain ⟨k, n, rfl, hk, rfl⟩ := hrel
    by_cases hlt : k < xs.length
    · obtain ⟨b, o, rfl, hc⟩ := HA.out k hlt
      obtain ⟨b2, o2, rfl, hc2⟩ := HB.out k hlt
      have hne : (gi xs k != gi xs k) = false := by simp
      generalize gi xs k = x at *
      go_wp2_with fail
      go_quiet (fail)
      go_wp2_with fail
      go_roundw
      case rel => exact ⟨k + 1, n + nq, by go_num, by omega, rfl⟩
      case measure => simp [intOf]; omega
    · go_wp2_with fail
      go_ret
      exact ⟨rfl, n, rfl⟩
end Go.Proofs.Ytjnpchoinncbnaa
end

section
set_option linter.unusedSimpArgs false
set_option linter.unusedVariables false
namespace Go.Proofs.Ytjnpchoinncbnaa
open Go.RowKit Sw Fam
set_option maxHeartbeats 1000000 in
set_option maxRecDepth 100000 in
theorem loop_c (w : World) : Calls Try.prog 13 #[.int .i64 2] w fun e w' => ∃ b, e = .returned (.agg #[.int .i64 3, .slice (some ⟨b, 0, none⟩) 3 3]) ∧ Below w.heap.size w w' ∧ RdE w' (some ⟨b, 0, none⟩) loopE := by
  go_enter Try.func13, Try.ntmps13
  go_wp2_with fail
  refine nameQ ?_
  intro w2 hw2
  obtain ⟨hz, h0, h1, hB⟩ := alloc2 w _ _ hw2
  clear hw2
  have c0 : w2.cell? ⟨w.heap.size, 0, none⟩ = some (.int .i64 3) := block_cell h0 (j := 0) (by simp)
  have c1 : w2.cell? ⟨w.heap.size, 1, none⟩ = some (.slice (some ⟨w.heap.size + 1, 0, none⟩) 3 3) := block_cell h0 (j := 1) (by simp)
  refine bodyPost_ret (v := .agg #[.int .i64 3, .slice (some ⟨w.heap.size + 1, 0, none⟩) 3 3]) ?_ rfl ⟨w.heap.size + 1, rfl, hB, ?_⟩
  · simp [results, Try.results13, go_sem, c0, c1]
  · intro j hj
    have hj3 : j < 3 := hj
    refine ⟨w.heap.size + 1, 0, rfl, ?_⟩
    match j, hj3 with
    | 0, _ => exact ⟨block_cell h1 (j := 0) (by simp), block_cell h1 (j := 1) (by simp), block_cell h1 (j := 2) (by simp), block_cell h1 (j := 3) (by simp)⟩
    | 1, _ => exact ⟨block_cell h1 (j := 4) (by simp), block_cell h1 (j := 5) (by simp), block_cell h1 (j := 6) (by simp), block_cell h1 (j := 7) (by simp)⟩
    | 2, _ => exact ⟨block_cell h1 (j := 8) (by simp), block_cell h1 (j := 9) (by simp), block_cell h1 (j := 10) (by simp), block_cell h1 (j := 11) (by simp)⟩
set_option maxHeartbeats 1000000 in
set_option maxRecDepth 100000 in
theorem square_c (w : World) : Calls Try.prog 14 #[.int .i64 0] w fun e w' => ∃ l, e = .returned (TkV squareT l) ∧ Below w.heap.size w w' ∧ TkM w' squareT l := by
  go_enter Try.func14, Try.ntmps14
  go_wp2_with fail
  refine nameQ ?_
  intro w2 hw2
  obtain ⟨hz, h0, h1, h2, h3, h4, hB⟩ := alloc5 w _ _ _ _ _ hw2
  clear hw2
  have c0 : w2.cell? ⟨w.heap.size, 0, none⟩ = some (.int .i64 2) := block_cell h0 (j := 0) (by simp)
  have c1 : w2.cell? ⟨w.heap.size, 1, none⟩ = some (.int .i64 2) := block_cell h0 (j := 1) (by simp)
  have c2 : w2.cell? ⟨w.heap.size, 2, none⟩ = some (.slice (some ⟨w.heap.size + 1, 0, none⟩) 4 4) := block_cell h0 (j := 2) (by simp)
  have c3 : w2.cell? ⟨w.heap.size, 3, none⟩ = some (.slice (some ⟨w.heap.size + 1 + 1, 0, none⟩) 2 2) := block_cell h0 (j := 3) (by simp)
  have c4 : w2.cell? ⟨w.heap.size, 4, none⟩ = some (.slice (some ⟨w.heap.size + 1 + 1 + 1, 0, none⟩) 2 2) := block_cell h0 (j := 4) (by simp)
  refine bodyPost_ret (v := TkV squareT ⟨some ⟨w.heap.size + 1, 0, none⟩, some ⟨w.heap.size + 2, 0, none⟩, some ⟨w.heap.size + 3, 0, none⟩, 4, 2, 2⟩) ?_ rfl ⟨_, rfl, hB, ⟨?_, ?_, ?_⟩⟩
  · simp [results, Try.results14, go_sem, c0, c1, c2, c3, c4, TkV, squareT]
  · intro j hj
    have hj3 : j < 4 := hj
    refine ⟨w.heap.size + 1, 0, rfl, ?_⟩
    match j, hj3 with
    | 0, _ => exact block_cell h1 (j := 0) (by simp)
    | 1, _ => exact block_cell h1 (j := 1) (by simp)
    | 2, _ => exact block_cell h1 (j := 2) (by simp)
    | 3, _ => exact block_cell h1 (j := 3) (by simp)
  · intro j hj
    have hj3 : j < 2 := hj
    refine ⟨w.heap.size + 2, 0, rfl, ?_⟩
    match j, hj3 with
    | 0, _ => exact block_cell h2 (j := 0) (by simp)
    | 1, _ => exact block_cell h2 (j := 1) (by simp)
  · intro j hj
    have hj3 : j < 2 := hj
    refine ⟨w.heap.size + 3, 0, rfl, ?_⟩
    match j, hj3 with
    | 0, _ => exact block_cell h3 (j := 0) (by simp)
    | 1, _ => exact block_cell h3 (j := 1) (by simp)
theorem square_rt' : Rt squareT := by
  obtain ⟨⟨r1, r2⟩, ⟨c1, c2⟩, hf, lp, la, ld, hp, ha, hd⟩ := square_rt
  exact ⟨⟨by decide, by decide, by decide, by decide, by decide⟩, by decide, hp, by decide, by decide, ha, hd⟩
set_option maxHeartbeats 1000000 in
set_option maxRecDepth 100000 in
theorem unwrapped_c (w : World) : Calls Try.prog 4 #[] w fun e w' => e = .returned (.bool true) ∧ Below w.heap.size w w' := by
  go_enter Try.func4, Try.ntmps4
  go_wp2_with fail
  refine (loop_c w).mono ?_
  rintro e w1 ⟨b, rfl, hB1, hE1⟩
  have HB1 := Lib.hid hB1; clear hB1
  have HE1 := Lib.hid hE1; clear hE1
  go_wp2_with fail
  have hs := solveNet_c loop_gd (by decide) (ca := 3) HE1.out
  refine hs.mono ?_
  clear hs
  rintro e w2 ⟨q, x, Pb, X, rfl, hB2, hP, hX, hSo⟩
  obtain ⟨hc2, hx2⟩ := loop_two hSo
  rw [hc2]
  subst hx2
  have H2 := Lib.hid (And.intro (HB1.out.trans (hB2.mono HB1.out.size)) hX)
  clear hB2 hP hX hSo hc2
  dsimp only
  rw [show loopE.length = 3 from rfl]
  go_wp2_with fail
  refine (square_c w2).mono ?_
  rintro e w3 ⟨l, rfl, hB3, hM⟩
  have H3 := Lib.hid (And.intro (H2.out.1.trans (hB3.mono H2.out.1.size)) (And.intro (H2.out.2.keep hB3) hM))
  clear hB3 hM H2
  generalize hTV : TkV squareT l = tv at *
  have HTV := Lib.hid hTV; clear hTV
  go_wp2_with fail
  have hu := unwrap_c H3.out.2.2 (R := 2) (C := 2) rfl rfl square_rt square_rt'
  rw [HTV.out] at hu
  refine hu.mono ?_
  clear hu
  rintro e w4 ⟨q, x, A, c, X2, rfl, hB4, hrd, hx4, hSo⟩
  have hc2 := square_two hSo
  rw [hc2]
  have H4 := Lib.hid (And.intro (H3.out.1.trans (hB4.mono H3.out.1.size)) (H3.out.2.1.keep hB4))
  clear hB4 hrd hx4 hSo hc2 H3
  dsimp only
  go_wp2_with fail
  refine nameCalls ?_
  intro w5 hw5
  obtain ⟨hz5, h50, h51, hB5⟩ := alloc2 w4 _ _ hw5
  clear hw5
  have hY : RdI w5 (some ⟨w4.heap.size + 1, 0, none⟩) [2, 2, 2] := by
    intro j hj
    have hj3 : j < 3 := hj
    refine ⟨w4.heap.size + 1, 0, rfl, ?_⟩
    match j, hj3 with
    | 0, _ => exact block_cell h51 (j := 0) (by simp)
    | 1, _ => exact block_cell h51 (j := 1) (by simp)
    | 2, _ => exact block_cell h51 (j := 2) (by simp)
  refine (ints_c (xs := [2, 2, 2]) ((H4.out.2.keep hB5).rd) hY (by decide)).mono ?_
  rintro e w6 ⟨rfl, n, rfl⟩
  have H5 := Lib.hid (H4.out.1.trans (hB5.mono H4.out.1.size)); clear hB5 hY h50 h51
  dsimp only
  go_wp2_with fail
  go_ret
  exact ⟨rfl, below_drewN H5.out n⟩
end Go.Proofs.Ytjnpchoinncbnaa
end
