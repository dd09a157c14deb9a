/- Proves parts of the statement, each under the conditions that its theorem states: The reference's CheckNet and CheckTask of a stack: what they let by; The reference's CheckTask of a stack: the tasks that it lets by are right; checkScenes of the stack, at right scenes; A set of pairs that the call made: what is not in it is not found, and what is put in lies behind. -/
import Derived.Test.YtjnpchoinncbnaaGreatP09
import Derived.MapKept
set_option linter.unusedSimpArgs false
set_option linter.unusedVariables false
set_option maxHeartbeats 4000000
set_option maxRecDepth 100000
section
namespace Go.Proofs.YtjnpchoinncbnaaGreat
open Go.RowKit Sw Fam
structure PrK (n : Nat) (xs : List Rp) (k : Nat) : Prop where
  ends : ∀ i, i < k → 0 ≤ (grp xs i).a ∧ (grp xs i).a < (grp xs i).b ∧ (grp xs i).b < n
  two : ∀ i j, i < k → j < i → grp xs j ≠ grp xs i
theorem PrK.next {n : Nat} {xs : List Rp} {k : Nat} (h : PrK n xs k) (h1 : 0 ≤ (grp xs k).a ∧ (grp xs k).a < (grp xs k).b ∧ (grp xs k).b < n) (h2 : ∀ j, j < k → grp xs j ≠ grp xs k) : PrK n xs (k + 1) := by
  refine ⟨fun i hi => ?_, fun i j hi hj => ?_⟩ <;> by_cases e : i = k
  · subst e; exact h1
  · exact h.ends i (by omega)
  · subst e; exact h2 j hj
  · exact h.two i j (by omega) hj
theorem pair_ne {x y : Rp} (h : x ≠ y) : (x.a == y.a && x.b == y.b) = false := by
  rw [Bool.eq_false_iff]
  intro e
  simp at e
  exact h (by cases x; cases y; simp_all)
def BNetPost (t : Sk) (w : World) (e : Ending) (w' : World) : Prop := ∃ i g : Int, e = .returned (.tuple #[.int .i64 i, .int .i64 g]) ∧ Below w.heap.size w w' ∧ (g = 0 → NetOk t)
theorem bnet7_c {t : Sk} {l : SkL} {w : World} (hM : NetM w t l) (hl1 : t.sc.length ≤ 100000) (hl2 : t.pr.length ≤ 100000) : Calls Tryz.prog 30 #[NetV t l] w (BNetPost t w) := by
  have HM := Lib.hid hM; clear hM
  unfold NetV
  go_enter Tryz.func30, Tryz.ntmps30
  go_wp2_with fail
  generalize hW1 : w.alloc _ = W1
  have hB1 : Below w.heap.size w W1 := by rw [← hW1]; exact (Below.refl _ _).alloc (Nat.le_refl _) _
  refine (bscenes_c (HM.out.sc.keep hB1) hl1).mono ?_
  have hN1 : W1.heap[w.heap.size]? = some (.cells #[.slice l.S t.sc.length l.cs, .slice l.P t.pr.length l.cp] 25 (0, 0)) := by rw [← hW1]; exact World.alloc_heap_new w _
  clear hW1
  rintro e W2 ⟨i, g, rfl, hB2, hsc⟩
  have hN2 := (hB2.block _ (Array.getElem?_eq_some_iff.1 hN1).1).trans hN1
  have n0 : W2.cell? ⟨w.heap.size, 0, none⟩ = some (.slice l.S t.sc.length l.cs) := block_cell hN2 (j := 0) (by simp)
  have n1 : W2.cell? ⟨w.heap.size, 1, none⟩ = some (.slice l.P t.pr.length l.cp) := block_cell hN2 (j := 1) (by simp)
  have HB2 := Lib.hid (And.intro (hB1.trans (hB2.mono hB1.size)) hN2); clear hB1 hB2 hN1 hN2
  have HS := Lib.hid hsc; clear hsc
  by_cases hg : g = 0
  · subst hg
    have hok := HS.out rfl
    have h60 := hok.1
    have HOK := Lib.hid hok.2
    clear hok HS
    by_cases h200 : 200 < t.pr.length
    · go_wp2_with fail
      go_ret2
      exact ⟨0, 8, rfl, HB2.out.1, fun h => by omega⟩
    go_wp2_with fail
    go_loopw [6] (fun v6 wr => ∃ k : Nat, v6 = .int .i64 k ∧ k ≤ t.pr.length ∧ Below w.heap.size w wr ∧ wr.heap[w.heap.size]? = some (.cells #[.slice l.S t.sc.length l.cs, .slice l.P t.pr.length l.cp] 25 (0, 0)) ∧ PrK t.sc.length t.pr k) (fun v6 _ => t.pr.length - (intOf v6).toNat)
    case atStart => exact ⟨0, rfl, Nat.zero_le _, HB2.out.1, HB2.out.2, ⟨fun i h => by omega, fun i j h => by omega⟩⟩
    case round =>
      obtain ⟨k, rfl, hk, hB, hN, hK⟩ := hrel
      have HK := Lib.hid hK; clear hK
      have n0 : wr.cell? ⟨w.heap.size, 0, none⟩ = some (.slice l.S t.sc.length l.cs) := block_cell hN (j := 0) (by simp)
      have n1 : wr.cell? ⟨w.heap.size, 1, none⟩ = some (.slice l.P t.pr.length l.cp) := block_cell hN (j := 1) (by simp)
      have HN := Lib.hid (And.intro hN hB)
      by_cases hlt : k < t.pr.length
      · obtain ⟨b, o, hA, c0, c1⟩ := (HM.out.pr.keep hB) k hlt
        rw [hA] at n1
        have hwl : w.heap.size < wr.heap.size := World.block_lt_of_cell? _ _ n0
        clear hN hB
        have HA := Lib.hid hA; clear hA
        have bal := Lib.hid (HN.out.2.trans ((Below.refl wr.heap.size wr).alloc (Nat.le_refl _) (.cells #[.int .i64 (grp t.pr k).a, .int .i64 (grp t.pr k).b] 60)|>.mono HN.out.2.size))
        by_cases ha : 0 ≤ (grp t.pr k).a ∧ (grp t.pr k).a ≤ (t.sc.length : Int) - 1
        · by_cases hb : 0 ≤ (grp t.pr k).b ∧ (grp t.pr k).b ≤ (t.sc.length : Int) - 1
          · have w1 := Lib.hid (fun w => bwithin_c (grp t.pr k).a 0 ((t.sc.length : Int) - 1) true (by simpa using ha) w)
            have w2 := Lib.hid (fun w => bwithin_c (grp t.pr k).b 0 ((t.sc.length : Int) - 1) true (by simpa using hb) w)
            have HAB := Lib.hid (And.intro ha hb)
            clear ha hb
            by_cases hab : (grp t.pr k).a < (grp t.pr k).b
            · go_wp2_with fail
              refine (w1.out _).mono ?_
              rintro e w' ⟨rfl, rfl⟩
              go_wp2_with fail
              refine (w2.out _).mono ?_
              rintro e w' ⟨rfl, rfl⟩
              go_wp2_with fail
              have e1 : PrK t.sc.length t.pr k ∧ (∀ j, j < k → grp t.pr j ≠ grp t.pr k) → PrK t.sc.length t.pr (k + 1) := fun h => h.1.next ⟨by have := HAB.out; omega, hab, by have := HAB.out; omega⟩ h.2
              have NX := Lib.hid e1; clear e1
              clear hab c0 c1 n0 n1
              refine nameC ?_
              intro W3 hW3
              have hB3 : Below wr.heap.size wr W3 := by rw [hW3]; exact (Below.refl _ _).alloc (Nat.le_refl _) _
              have hP3 : W3.heap[wr.heap.size]? = some (.cells #[.int .i64 (grp t.pr k).a, .int .i64 (grp t.pr k).b] 60 (0, 0)) := by rw [hW3]; exact World.alloc_heap_new wr _
              rw [← hW3] at bal
              clear hW3
              have hN3 := (hB3.block _ (Array.getElem?_eq_some_iff.1 HN.out.1).1).trans HN.out.1
              have p0 : W3.cell? ⟨wr.heap.size, 0, none⟩ = some (.int .i64 (grp t.pr k).a) := block_cell hP3 (j := 0) (by simp)
              have p1 : W3.cell? ⟨wr.heap.size, 1, none⟩ = some (.int .i64 (grp t.pr k).b) := block_cell hP3 (j := 1) (by simp)
              have m1 : W3.cell? ⟨w.heap.size, 1, none⟩ = some (.slice (some ⟨b, o, none⟩) t.pr.length l.cp) := by rw [← HA.out]; exact block_cell hN3 (j := 1) (by simp)
              have H3 := Lib.hid hN3
              clear hN3 hP3 hB3 hwl
              generalize wr.heap.size = B at *
              go_loopw [8] (fun v8 wr => ∃ j n : Nat, v8 = .int .i64 j ∧ j ≤ k ∧ wr = W3.drewN n ∧ ∀ i, i < j → grp t.pr i ≠ grp t.pr k) (fun v8 _ => k - (intOf v8).toNat)
              case atStart => exact ⟨0, 0, rfl, Nat.zero_le _, rfl, fun i hi => by omega⟩
              case round =>
                obtain ⟨j, n, rfl, hj, rfl, hne⟩ := hrel
                have HNE := Lib.hid hne; clear hne
                by_cases hjk : j < k
                · obtain ⟨b', o', e', d0, d1⟩ := (HM.out.pr.keep bal.out) j (by omega)
                  rw [HA.out] at e'
                  cases e'
                  have hjl : (j : Int) < t.pr.length := by omega
                  have gp := guard_pair
                  by_cases heq : grp t.pr j = grp t.pr k
                  · have re := fun w => run_eq_pair (grp t.pr j).a (grp t.pr j).b (grp t.pr k).a (grp t.pr k).b w
                    rw [heq] at d0 d1 re
                    simp only [beq_self_eq_true, Bool.and_self] at re
                    clear heq
                    go_wp2_with fail
                    go_quiet (fail)
                    go_wp2_with fail
                    go_ret2
                    exact ⟨_, 28, rfl, below_drewN (below_drewN bal.out n) nq, fun h => by omega⟩
                  · have re := fun w => run_eq_pair (grp t.pr j).a (grp t.pr j).b (grp t.pr k).a (grp t.pr k).b w
                    rw [pair_ne heq] at re
                    have HQ := Lib.hid heq; clear heq
                    go_wp2_with fail
                    go_quiet (fail)
                    go_wp2_with fail
                    go_roundw
                    case rel => exact ⟨j + 1, n + nq, by go_num, by omega, rfl, fun i hi => by
                      by_cases e : i = j
                      · subst e; exact HQ.out
                      · exact HNE.out i (by omega)⟩
                    case measure => simp [intOf]; omega
                · have hjk' : j = k := by omega
                  subst hjk'
                  clear p0 p1 m1
                  go_wp2_with fail
                  go_roundw
                  case rel => exact ⟨j + 1, by go_num, by omega, below_drewN bal.out n, H3.out, NX.out ⟨HK.out, HNE.out⟩⟩
                  case measure => simp [intOf]; omega
            · have HAB2 := Lib.hid hab
              have hab2 : (grp t.pr k).b ≤ (grp t.pr k).a := by omega
              clear hab
              go_wp2_with fail
              refine (w1.out _).mono ?_
              rintro e w' ⟨rfl, rfl⟩
              go_wp2_with fail
              refine (w2.out _).mono ?_
              rintro e w' ⟨rfl, rfl⟩
              go_wp2_with fail
              go_ret2
              exact ⟨_, 9, rfl, bal.out, fun h => by omega⟩
          · have w1 := Lib.hid (fun w => bwithin_c (grp t.pr k).a 0 ((t.sc.length : Int) - 1) true (by simpa using ha) w)
            have w2 := Lib.hid (fun w => bwithin_c (grp t.pr k).b 0 ((t.sc.length : Int) - 1) false (by simpa using hb) w)
            clear ha hb
            go_wp2_with fail
            refine (w1.out _).mono ?_
            rintro e w' ⟨rfl, rfl⟩
            go_wp2_with fail
            refine (w2.out _).mono ?_
            rintro e w' ⟨rfl, rfl⟩
            go_wp2_with fail
            go_ret2
            exact ⟨_, 6, rfl, bal.out, fun h => by omega⟩
        · have w1 := Lib.hid (fun w => bwithin_c (grp t.pr k).a 0 ((t.sc.length : Int) - 1) false (by simpa using ha) w)
          clear ha
          go_wp2_with fail
          refine (w1.out _).mono ?_
          rintro e w' ⟨rfl, rfl⟩
          go_wp2_with fail
          go_ret2
          exact ⟨_, 6, rfl, bal.out, fun h => by omega⟩
      · have : k = t.pr.length := by omega
        subst this
        clear hN
        go_wp2_with fail
        go_ret2
        exact ⟨_, _, rfl, hB, fun _ => ⟨h60, by omega, HOK.out.name, HOK.out.uniq, HOK.out.day, HOK.out.bl, HK.out.ends, HK.out.two⟩⟩
  · have hg1 : (g != 0) = true := by simp; exact hg
    have HG := Lib.hid hg; clear hg
    go_wp2_with fail
    go_ret2
    exact ⟨_, _, rfl, HB2.out.1, fun h => absurd h HG.out⟩
def ErrPost (t : Sk) (w : World) (e : Ending) (w' : World) : Prop := ∃ g : Int, e = .returned (.int .i64 g) ∧ Below w.heap.size w w' ∧ (g = 0 → NetOk t)
theorem err7_c {t : Sk} {l : SkL} {w : World} (hM : NetM w t l) (hl1 : t.sc.length ≤ 100000) (hl2 : t.pr.length ≤ 100000) : Calls Tryz.prog 14 #[NetV t l] w (ErrPost t w) := by
  have hb0 : Below w.heap.size w (w.alloc (.cells #[.slice l.S t.sc.length l.cs, .slice l.P t.pr.length l.cp] 25)) := (Below.refl _ _).alloc (Nat.le_refl _) _
  have H := Lib.hid (bnet7_c (hM.keep hb0) hl1 hl2)
  have HB := Lib.hid hb0; clear hb0
  clear hM
  unfold NetV at H ⊢
  go_enter Tryz.func14, Tryz.ntmps14
  go_wp2_with fail
  refine H.out.mono ?_
  rintro e w' ⟨i, g, rfl, hB, hg⟩
  have HG := Lib.hid hg; clear hg
  have HB2 := Lib.hid hB; clear hB
  go_wp2_with fail
  go_ret
  exact ⟨g, rfl, HB.out.trans (HB2.out.mono HB.out.size), HG.out⟩
def BTaskPost (t : Sk) (w : World) (e : Ending) (w' : World) : Prop := ∃ g : Int, e = .returned (.int .i64 g) ∧ Below w.heap.size w w' ∧ (g = 0 → RtS t)
theorem alloc1 (w : World) (o : Obj) {W : World} (h : W = w.alloc o) : Below w.heap.size w W ∧ W.heap[w.heap.size]? = some o := by
  subst h; exact ⟨(Below.refl _ _).alloc (Nat.le_refl _) _, World.alloc_heap_new w _⟩
theorem nameCl {P : Program} {Q : Ending → World → Prop} {f : FuncId} {a : Array Value} {w : World} (h : ∀ W1, W1 = w → Calls P f a W1 Q) : Calls P f a w Q := h w rfl
theorem btask7_c {t : Sk} {l : SkL} {w : World} (hM : SkM w t l) (h1 : t.sc.length ≤ 100000) (h2 : t.pr.length ≤ 100000) (h3 : t.ph.length ≤ 100000) (h4 : t.ws.length ≤ 100000) : Calls Tryz.prog 5 #[SkV t l] w (BTaskPost t w) := by
  have HM := Lib.hid hM; clear hM
  unfold SkV
  go_enter Tryz.func5, Tryz.ntmps5
  go_wp2_with fail
  refine nameCl ?_
  intro W1 hW1
  obtain ⟨hB1, hN1⟩ := alloc1 w _ hW1
  clear hW1
  refine (err7_c (t := t) (l := l) (HM.out.net.keep hB1) h1 h2).mono ?_
  rintro e W2 ⟨g, rfl, hB2, hg⟩
  have hN2 := (hB2.block _ (Array.getElem?_eq_some_iff.1 hN1).1).trans hN1
  have hB02 := hB1.trans (hB2.mono hB1.size)
  have n1 : W2.cell? ⟨w.heap.size, 1, none⟩ = some (.slice l.P t.pr.length l.cp) := block_cell hN2 (j := 1) (by simp)
  have n2 : W2.cell? ⟨w.heap.size, 2, none⟩ = some (.slice l.H t.ph.length l.ch) := block_cell hN2 (j := 2) (by simp)
  have n3 : W2.cell? ⟨w.heap.size, 3, none⟩ = some (.slice l.W t.ws.length l.cw) := block_cell hN2 (j := 3) (by simp)
  have HB := Lib.hid hB02
  clear hB1 hN1 hB2 hN2 hB02
  have HG := Lib.hid hg; clear hg
  by_cases hz : g = 0
  · have HOK := Lib.hid (HG.out hz)
    clear HG
    subst hz
    by_cases e1 : t.ph.length = t.pr.length
    · by_cases e2 : t.ws.length = t.pr.length
      · have b1 : ((t.ph.length : Int) != (t.pr.length : Int)) = false := by simp [e1]
        have b2 : ((t.ws.length : Int) != (t.pr.length : Int)) = false := by simp [e2]
        have HE := Lib.hid (And.intro e1 e2)
        clear e1 e2
        go_wp2_with fail
        go_loop [4] (fun v4 => ∃ k : Nat, v4 = .int .i64 k ∧ k ≤ t.ph.length ∧ ∀ i, i < k → -100000000 ≤ gi t.ph i ∧ gi t.ph i ≤ 100000000) (fun v4 => t.ph.length - (intOf v4).toNat)
        case atStart => exact ⟨0, rfl, Nat.zero_le _, fun i hi => by omega⟩
        case round =>
          obtain ⟨k, rfl, hk, hP⟩ := hrel
          have HP := Lib.hid hP; clear hP
          by_cases hlt : k < t.ph.length
          · obtain ⟨b, o, hA, c⟩ := (HM.out.ph.keep HB.out) k hlt
            rw [hA] at n2
            by_cases hr : -100000000 ≤ gi t.ph k ∧ gi t.ph k ≤ 100000000
            · have w1 := Lib.hid (fun w => bwithin_c (gi t.ph k) (-100000000) 100000000 true (by simpa using hr) w)
              have HR := Lib.hid hr; clear hr
              have HA := Lib.hid hA; clear hA
              go_wp2_with fail
              refine (w1.out _).mono ?_
              rintro e w' ⟨rfl, rfl⟩
              go_wp2_with fail
              go_round
              case rel => exact ⟨k + 1, by go_num, by omega, fun i hi => by
                by_cases e : i = k
                · subst e; exact HR.out
                · exact HP.out i (by omega)⟩
              case measure => simp [intOf]; omega
            · have w1 := Lib.hid (fun w => bwithin_c (gi t.ph k) (-100000000) 100000000 false (by simpa using hr) w)
              clear hr hA
              go_wp2_with fail
              refine (w1.out _).mono ?_
              rintro e w' ⟨rfl, rfl⟩
              go_wp2_with fail
              go_ret
              exact ⟨2, rfl, HB.out, fun h => by omega⟩
          · have : k = t.ph.length := by omega
            subst this
            go_wp2_with fail
            go_loop [5] (fun v5 => ∃ k : Nat, v5 = .int .i64 k ∧ k ≤ t.ws.length ∧ ∀ i, i < k → 0 ≤ gi t.ws i ∧ gi t.ws i ≤ 1000) (fun v5 => t.ws.length - (intOf v5).toNat)
            case atStart => exact ⟨0, rfl, Nat.zero_le _, fun i hi => by omega⟩
            case round =>
              obtain ⟨k, rfl, hk, hQ⟩ := hrel
              have HQ := Lib.hid hQ; clear hQ
              by_cases hlt : k < t.ws.length
              · obtain ⟨b, o, hA, c⟩ := (HM.out.ws.keep HB.out) k hlt
                rw [hA] at n3
                by_cases hr : 0 ≤ gi t.ws k ∧ gi t.ws k ≤ 1000
                · have w1 := Lib.hid (fun w => bwithin_c (gi t.ws k) 0 1000 true (by simpa using hr) w)
                  have HR := Lib.hid hr; clear hr
                  have HA := Lib.hid hA; clear hA
                  go_wp2_with fail
                  refine (w1.out _).mono ?_
                  rintro e w' ⟨rfl, rfl⟩
                  go_wp2_with fail
                  go_round
                  case rel => exact ⟨k + 1, by go_num, by omega, fun i hi => by
                    by_cases e : i = k
                    · subst e; exact HR.out
                    · exact HQ.out i (by omega)⟩
                  case measure => simp [intOf]; omega
                · have w1 := Lib.hid (fun w => bwithin_c (gi t.ws k) 0 1000 false (by simpa using hr) w)
                  clear hr hA
                  go_wp2_with fail
                  refine (w1.out _).mono ?_
                  rintro e w' ⟨rfl, rfl⟩
                  go_wp2_with fail
                  go_ret
                  exact ⟨2, rfl, HB.out, fun h => by omega⟩
              · have : k = t.ws.length := by omega
                subst this
                go_wp2_with fail
                go_ret
                exact ⟨0, rfl, HB.out, fun _ => ⟨HOK.out, HE.out.1, HE.out.2, HP.out, HQ.out⟩⟩
      · have b1 : ((t.ph.length : Int) != (t.pr.length : Int)) = false := by simp [e1]
        have b2 : ((t.ws.length : Int) != (t.pr.length : Int)) = true := by simp; omega
        clear e1 e2
        go_wp2_with fail
        go_ret
        exact ⟨10, rfl, HB.out, fun h => by omega⟩
    · have b1 : ((t.ph.length : Int) != (t.pr.length : Int)) = true := by simp; omega
      clear e1
      go_wp2_with fail
      go_ret
      exact ⟨10, rfl, HB.out, fun h => by omega⟩
  · have hg1 : (g != 0) = true := by simp; exact hz
    have HZ := Lib.hid hz; clear hz
    go_wp2_with fail
    go_ret
    exact ⟨_, rfl, HB.out, fun h => absurd h HZ.out⟩
def scV (s : Sc) : Value := .agg #[.string s.nm, .int .i64 s.day, .int .i64 s.bl]
theorem sameName_c (y : Sc) (X : Nat) (nm : ByteArray) (w : World) (hx : w.cell? ⟨X, 0, none⟩ = some (.string nm)) (hne : y.nm ≠ nm) : Calls Tryz.prog 87 #[scV y, .pointer (some ⟨X, 0, none⟩)] w fun e w' => e = .returned (.bool false) ∧ Below w.heap.size w w' := by
  have h := str_ne hne
  clear hne
  have hlt : X < w.heap.size := World.block_lt_of_cell? _ _ hx
  unfold scV
  go_enter Tryz.func87, Tryz.ntmps87
  go_wp2_with fail
  go_ret
  exact ⟨rfl, (Below.refl _ _).alloc (Nat.le_refl _) _⟩
theorem noScene_c {xs : List Sc} {A : Option Addr} {ca n : Nat} (X : Nat) (nm : ByteArray) {w : World} (hA : RdS w A xs) (hn : n ≤ xs.length) (hl : xs.length ≤ 60) (hx : w.cell? ⟨X, 0, none⟩ = some (.string nm)) (hne : ∀ j, j < n → (gsc xs j).nm ≠ nm) :
    Calls Tryz.prog 103 #[.slice A n ca, .func (.func 87) #[] #[.pointer (some ⟨X, 0, none⟩)]] w fun e w' => e = .returned (.int .i64 (-1)) ∧ Below w.heap.size w w' := by
  have HA := Lib.hid hA; clear hA
  have HX := Lib.hid hx; clear hx
  have HN := Lib.hid hne; clear hne
  go_enter Tryz.func103, Tryz.ntmps103
  go_wp2_with fail
  go_loopw [8] (fun v8 wr => ∃ k : Nat, v8 = .int .i64 k ∧ k ≤ n ∧ Below w.heap.size w wr) (fun v8 _ => n - (intOf v8).toNat)
  case atStart => exact ⟨0, rfl, Nat.zero_le _, Below.refl _ _⟩
  case round =>
    obtain ⟨k, rfl, hk, hB⟩ := hrel
    by_cases hlt : k < n
    · obtain ⟨b, o, rfl, c0, c1, c2, hz⟩ := (HA.out.keep hB) k (by omega)
      have hc := sameName_c (gsc xs k) X nm wr (cell_keep hB HX.out) (HN.out k hlt)
      unfold scV at hc
      have HC := Lib.hid hc; clear hc
      have HB := Lib.hid hB; clear hB
      go_wp2_with fail
      refine HC.out.mono ?_
      rintro e w' ⟨rfl, hB2⟩
      have HB2 := Lib.hid hB2; clear hB2
      go_wp2_with fail
      go_roundw
      case rel => exact ⟨k + 1, by go_num, by omega, HB.out.trans (HB2.out.mono HB.out.size)⟩
      case measure => simp [intOf]; omega
    · have HB := Lib.hid hB; clear hB
      go_wp2_with fail
      go_ret
      exact ⟨rfl, HB.out⟩
theorem hasScene_c {xs : List Sc} {A : Option Addr} {ca n : Nat} (X : Nat) (nm : ByteArray) {w : World} (hA : RdS w A xs) (hn : n ≤ xs.length) (hl : xs.length ≤ 60) (hx : w.cell? ⟨X, 0, none⟩ = some (.string nm)) (hne : ∀ j, j < n → (gsc xs j).nm ≠ nm) :
    Calls Tryz.prog 86 #[.slice A n ca, .func (.func 87) #[] #[.pointer (some ⟨X, 0, none⟩)]] w fun e w' => e = .returned (.bool false) ∧ Below w.heap.size w w' := by
  have H := Lib.hid (noScene_c (ca := ca) X nm hA hn hl hx hne)
  clear hA hx hne
  go_enter Tryz.func86, Tryz.ntmps86
  go_wp2_with fail
  refine H.out.mono ?_
  rintro e w' ⟨rfl, hB⟩
  have HB := Lib.hid hB; clear hB
  go_wp2_with fail
  go_ret
  exact ⟨rfl, HB.out⟩
theorem scenes_c {xs : List Sc} {A : Option Addr} {ca : Nat} {w : World} (hA : RdS w A xs) (hok : ScOk xs) (hca : xs.length ≤ ca) : Calls Tryz.prog 77 #[.slice A xs.length ca] w fun e w' => e = .returned (.tuple #[.int .i64 0, .int .i64 0]) ∧ Below w.heap.size w w' := by
  have h60 := hok.1
  have HA := Lib.hid hA; clear hA
  have HO := Lib.hid hok.2; clear hok
  go_enter Tryz.func77, Tryz.ntmps77
  go_wp2_with fail
  go_loopw [11] (fun v11 wr => ∃ k : Nat, v11 = .int .i64 k ∧ k ≤ xs.length ∧ Below w.heap.size w wr) (fun v11 _ => xs.length - (intOf v11).toNat)
  case atStart => exact ⟨0, rfl, Nat.zero_le _, Below.refl _ _⟩
  case round =>
    obtain ⟨k, rfl, hk, hB⟩ := hrel
    by_cases hlt : k < xs.length
    · obtain ⟨b, o, hA, c0, c1, c2, hz⟩ := (HA.out.keep hB) k hlt
      have HB := Lib.hid hB; clear hB
      subst hA
      go_wp2_with fail
      refine nameCl ?_
      intro W1 hW1
      obtain ⟨hB1, hN1⟩ := alloc1 wr _ hW1
      clear hW1
      have HB1 := Lib.hid (HB.out.trans (hB1.mono HB.out.size))
      refine (name_c _ _ (HO.out.name k hlt)).mono ?_
      rintro e W2 ⟨rfl, hB2⟩
      have hN2 := (hB2.block _ (Array.getElem?_eq_some_iff.1 hN1).1).trans hN1
      have HB2 := Lib.hid (HB1.out.trans (hB2.mono HB1.out.size))
      have HN2 := Lib.hid hN2
      have s0 : W2.cell? ⟨wr.heap.size, 0, none⟩ = some (.string (gsc xs k).nm) := block_cell hN2 (j := 0) (by simp)
      clear hB1 hN1 hB2 hN2 HB1 c0 c1 c2
      go_wp2_with fail
      refine (hasScene_c (xs := xs) _ _ (HA.out.keep HB2.out) (by omega) h60 s0 (fun j hj => HO.out.uniq k j hlt hj)).mono ?_
      rintro e W3 ⟨rfl, hB3⟩
      have HB3 := Lib.hid (HB2.out.trans (hB3.mono HB2.out.size))
      have hN3 := (hB3.block _ (Array.getElem?_eq_some_iff.1 HN2.out).1).trans HN2.out
      have s1 : W3.cell? ⟨wr.heap.size, 1, none⟩ = some (.int .i64 (gsc xs k).day) := block_cell hN3 (j := 1) (by simp)
      have s2 : W3.cell? ⟨wr.heap.size, 2, none⟩ = some (.int .i64 (gsc xs k).bl) := block_cell hN3 (j := 2) (by simp)
      clear hB3 hN3 s0
      have w1 := Lib.hid (fun w => swithin_c (gsc xs k).day 0 100000 true (by simpa using HO.out.day k hlt) w)
      have w2 := Lib.hid (fun w => small_c (gsc xs k).bl 100000 true (by omega) (by simpa using HO.out.bl k hlt) w)
      go_wp2_with fail
      refine (w1.out _).mono ?_
      rintro e w' ⟨rfl, rfl⟩
      go_wp2_with fail
      refine (w2.out _).mono ?_
      rintro e w' ⟨rfl, rfl⟩
      go_wp2_with fail
      go_roundw
      case rel => exact ⟨k + 1, by go_num, by omega, HB3.out⟩
      case measure => simp [intOf]; omega
    · have HB := Lib.hid hB; clear hB
      go_wp2_with fail
      go_ret2
      exact ⟨rfl, HB.out⟩
def rpV (r : Rp) : Value := .agg #[.int .i64 r.a, .int .i64 r.b]
def MapP (w : World) (b : Nat) (ks : List Rp) : Prop := ∃ es clock, w.heap[b]? = some (.map es clock) ∧ es.toList.map (·.key) = ks.map rpV
theorem MapP.move {w w' : World} {b : Nat} {ks : List Rp} (h : MapP w b ks) (hb : w'.heap[b]? = w.heap[b]?) : MapP w' b ks := by
  obtain ⟨es, clock, h1, h2⟩ := h
  exact ⟨es, clock, hb.trans h1, h2⟩
theorem MapP.lt {w : World} {b : Nat} {ks : List Rp} (h : MapP w b ks) : b < w.heap.size := by
  obtain ⟨es, clock, h1, h2⟩ := h
  exact (Array.getElem?_eq_some_iff.1 h1).1
theorem MapP.made (w : World) : MapP (w.alloc (.map #[] 0)) w.heap.size [] := ⟨_, _, World.alloc_heap_new w _, rfl⟩
theorem run_check_int (n : Nat) (x : Int) (em : Bool) (w : World) : (Instr.checkKey em (n + 1) 3 (.int .i64 x)).run Tryz.prog w = .ok () w := by
  simp [Instr.checkKey, run_underlying Tryz.underlying3]
theorem run_check_pair' (n : Nat) (r : Rp) (em : Bool) (w : World) : (Instr.checkKey em (n + 2) 60 (rpV r)).run Tryz.prog w = .ok () w := by
  have h := fun x => run_check_int n x em w
  unfold rpV Instr.checkKey
  simp [run_underlying Tryz.underlying60, part, isAgg, run_underlying Tryz.underlying3, Result.andThen, h]
theorem run_check_pair (r : Rp) (em : Bool) (w : World) : (Instr.checkKey em 10000 60 (rpV r)).run Tryz.prog w = .ok () w := run_check_pair' 9998 r em w
theorem run_asking (r : Rp) (w : World) : ∀ (l : List MapEntry) (ks : List Rp) (i : Nat), l.map (·.key) = ks.map rpV → (∀ k, k ∈ ks → k ≠ r) → (Instr.findAsking 60 (rpV r) l i).run Tryz.prog w = .ok none w := by
  intro l
  induction l with
  | nil => intro ks i _ _; simp [Instr.findAsking]
  | cons e l ih =>
    intro ks i h hne
    cases ks with
    | nil => simp at h
    | cons k ks =>
      simp only [List.map_cons, List.cons.injEq] at h
      have hk : k ≠ r := hne k (by simp)
      have he : (Op.equal 60 (rpV r) e.key).run Tryz.prog w = .ok false w := by
        rw [h.1]
        unfold rpV
        show (Op.equalIn 10000 60 _ _).run Tryz.prog w = _
        rw [run_equal_pair]
        congr 1
        rw [Bool.eq_false_iff]
        intro e
        simp at e
        exact hk (by cases k; cases r; simp_all)
      simp [Instr.findAsking, he, ih ks (i + 1) h.2 (fun k hk => hne k (by simp [hk]))]
theorem run_find_pair {r : Rp} {w : World} {l : List MapEntry} {ks : List Rp} (h : l.map (·.key) = ks.map rpV) (hne : ∀ k, k ∈ ks → k ≠ r) : (Instr.findKey 60 (rpV r) l).run Tryz.prog w = .ok none w := by
  cases l with
  | nil => simp [Instr.findKey, run_underlying Tryz.underlying60, Instr.findNow]
  | cons e l =>
    have := run_asking r w (e :: l) ks 0 h hne
    have hs : ∀ d, Instr.sameNow (.struct d) (rpV r) e.key = none := fun d => by simp [Instr.sameNow]
    simp [Instr.findKey, run_underlying Tryz.underlying60, Instr.findNow, hs, this]
theorem run_lookup_pair {w : World} {b : Nat} {ks : List Rp} {r : Rp} (h : MapP w b ks) (hne : ∀ k, k ∈ ks → k ≠ r) : (Instr.lookup 129 (.map (some b)) (rpV r) false).run Tryz.prog w = .ok (.bool false) w := by
  obtain ⟨es, clock, h1, h2⟩ := h
  have hz : (zeroValue 4).run Tryz.prog w = .ok (.bool false) w := by kernel_rfl
  simp [Instr.lookup, run_underlying Tryz.underlying129, MapKept.run_getObj_map h1, run_check_pair, run_find_pair h2 hne, Result.andThen, hz]
theorem run_update_pair {w : World} {b : Nat} {ks : List Rp} {r : Rp} (v : Value) (h : MapP w b ks) (hne : ∀ k, k ∈ ks → k ≠ r) :
    ∃ o, (Instr.mapUpdate 129 (.map (some b)) (rpV r) v).run Tryz.prog w = .ok () (w.putObj b o) ∧ MapP (w.putObj b o) b (ks ++ [r]) := by
  obtain ⟨es, clock, h1, h2⟩ := h
  have hlt : b < w.heap.size := (Array.getElem?_eq_some_iff.1 h1).1
  refine ⟨.map (es.push { key := rpV r, val := v, born := clock }) (clock + 1), ?_, ⟨_, _, World.putObj_heap_same hlt, by simp [h2]⟩⟩
  simp [Instr.mapUpdate, run_underlying Tryz.underlying129, MapKept.run_getObj_map h1, run_check_pair, run_find_pair h2 hne, MapKept.run_setObj_map _ h1, Result.andThen]
  rfl
end Go.Proofs.YtjnpchoinncbnaaGreat
end
