/- Proves parts of the statement, each under the conditions that its theorem states: The reference's Parts: the contract; The law: plain; The law: the walk; The row. -/
import Derived.Test.YtjnpchoinncbnaaP21
import Derived.Test.YtjnpchoinncbnaaP18
import Derived.Test.YtjnpchoinncbnaaP13
import Derived.Test.YtjnpchoinncbnaaRows
import Derived.WalkKit
import Derived.ProofKit
import Derived.OpenShut
import Derived.ShutString
import Derived.ChangeOld
import Derived.Below
import Derived.Lib.SmallJoins
section
set_option linter.unusedSimpArgs false
set_option linter.unusedVariables false
namespace Go.Proofs.Ytjnpchoinncbnaa
open Go.RowKit Sw Fam
def PartPost (n : Nat) (es : List Ed) (w : World) (e : Ending) (w' : World) : Prop :=
  ∃ o out, e = .returned (.slice (some ⟨o, 0, none⟩) n n) ∧ out.length = n ∧ Below w.heap.size w w' ∧ IntB w' o out ∧ ∀ u v, u < n → v < n → Cn es u v → gi out u = gi out v
set_option maxHeartbeats 4000000 in
set_option maxRecDepth 100000 in
theorem bparts_c {n J : Nat} {es : List Ed} (hg : Gd n J es) {A : Option Addr} {ca : Nat} {w : World} (hE : RdE w A es) :
    Calls Try.prog 11 #[.agg #[.int .i64 n, .slice A es.length ca]] w (PartPost n es w) := by
  refine callsIn_wide.1 (callsIn_of_wp_marks (n := 0) Try.func11 rfl trivial ?_ rfl)
  simp only [Try.ntmps11, List.size_toArray, List.length_cons, List.length_nil, Nat.reduceAdd, Nat.reduceSub, Array.replicate_succ, Array.replicate_zero, List.push_toArray, List.append_toArray, List.nil_append, List.cons_append]
  have HE := Lib.hid hE; clear hE
  have HG := Lib.hid hg
  have hn2 := hg.n_le
  clear hg
  obtain ⟨w1, hw1⟩ : ∃ w1, w1 = w.alloc (.cells #[.int .i64 n, .slice A es.length ca] 37) := ⟨_, rfl⟩
  have hmk := run_make_ints n (by omega) w1
  rw [hw1] at hmk
  show Code.wpIn Fence.wide 0 Try.prog (.seq (Try.f11.sub [0]) (.seq (Try.f11.sub [1, 0]) (.seq (.seq (Try.f11.sub [1, 1, 0, 0]) (.block 0 (.loop (Try.f11.sub [1, 1, 0, 1, 0, 0])))) (.seq (.seq (Try.f11.sub [1, 1, 1, 0, 0]) (.block 2 (.loop (Try.f11.sub [1, 1, 1, 0, 1, 0, 0])))) (Try.f11.sub [1, 1, 1, 1]))))) _ _ _
  refine wpIn_seq ?_
  conv => arg 4; whnf
  gi_wp2_with fail
  conv => arg 4; whnf
  gi_wp2_with fail
  conv => arg 4; whnf
  gi_wp2_with fail
  clear hmk
  refine nameW ?_
  intro w2 hw2
  rw [← hw1] at hw2
  have hz1 : w1.heap.size = w.heap.size + 1 := by rw [hw1]; simp only [World.size_alloc]
  have hB1 : Below w.heap.size w w1 := by rw [hw1]; exact (Below.refl _ _).alloc (Nat.le_refl _) _
  have hT1 : w1.heap[w.heap.size]? = some (.cells #[.int .i64 n, .slice A es.length ca] 37 (0, 0)) := by rw [hw1]; exact World.alloc_heap_new w _
  have hB2 : Below w1.heap.size w1 w2 := by rw [hw2]; exact (Below.refl _ _).alloc (Nat.le_refl _) _
  have hI2 : IntB w2 w1.heap.size (List.replicate n 0) := by rw [hw2]; exact FlB.new w1 encI _ _
  have hz2 : w2.heap.size = w.heap.size + 2 := by rw [hw2]; simp only [World.size_alloc]; omega
  have hT2 := (hB2.block _ (by omega)).trans hT1
  have hB02 := hB1.trans (hB2.mono (by omega))
  rw [hz1] at hI2
  clear hw1 hw2 hT1 hB2 hB1
  have hok : POk w2 w.heap.size (w.heap.size + 1) n J ca A es := by
    refine ⟨HG.out, block_cell hT2 (j := 0) (by simp), block_cell hT2 (j := 1) (by simp), HE.out.keep hB02, by omega, fun b o hm hA => ?_⟩
    obtain ⟨b', o', e1, e2, _⟩ := HE.out 0 hm
    rw [hA] at e1
    injection e1 with e1; injection e1 with e1 e3
    have := World.block_lt_of_cell? _ _ e2
    simp only at this
    omega
  have HOK := Lib.hid hok; clear hok
  have H2 := Lib.hid hB02; clear hB02 hT2
  simp only [hz1] at *
  refine bpt_init (T0 := w.heap.size) HOK.out ⟨0, _, Nat.zero_le _, by simp, fun v hv => by omega, hI2, Tch.refl _ _, by unfold PFr; (refine ⟨rfl, rfl, ?_⟩; repeat (first | exact trivial | refine ⟨rfl, ?_⟩))⟩ ?_
  clear hI2
  intro a3 w3 p3 hI3 hl3 hp3 hT3 hfr3
  obtain ⟨s1, s2⟩ := lab_start es hl3 hp3
  have H3 := Lib.hid (And.intro s1 (And.intro s2 (And.intro hI3 hT3))); clear s1 s2 hI3 hT3 hl3 hp3
  unfold PFr at hfr3
  obtain ⟨u3, rfl⟩ := hfr3.open
  clear hfr3
  rename_i K hK
  refine hK _ _ ?_
  clear hK K
  show Code.wpIn Fence.wide 0 Try.prog (.seq (.seq (Try.f11.sub [1, 1, 1, 0, 0]) (.block 2 (.loop (Try.f11.sub [1, 1, 1, 0, 1, 0, 0])))) (Try.f11.sub [1, 1, 1, 1])) _ ⟨#[(u3 0), .pointer (some ⟨w.heap.size, 0, none⟩), (u3 2), .slice (some ⟨w.heap.size + 1, 0, none⟩) n n, (u3 4), (u3 5), (u3 6), (u3 7), (u3 8), (u3 9), (u3 10), (u3 11), (u3 12), (u3 13), (u3 14), (u3 15), (u3 16), (u3 17), (u3 18), (u3 19), (u3 20), (u3 21), (u3 22), (u3 23), (u3 24), (u3 25), (u3 26), (u3 27), (u3 28), (u3 29), (u3 30), (u3 31), (u3 32), (u3 33), (u3 34), (u3 35), (u3 36), (u3 37), (u3 38), (u3 39), (u3 40), (u3 41), (u3 42), (u3 43), (u3 44), (u3 45), (u3 46), (u3 47), (u3 48), (u3 49), (u3 50), (u3 51), (u3 52), (u3 53), (u3 54), (u3 55), (u3 56), (u3 57), (u3 58), (u3 59), (u3 60), (u3 61), (u3 62), (u3 63), (u3 64), (u3 65), (u3 66), (u3 67), (u3 68), (u3 69), (u3 70), (u3 71), (u3 72), (u3 73), (u3 74), (u3 75), (u3 76), (u3 77), (u3 78), (u3 79), (u3 80), (u3 81)], []⟩ _
  refine wpIn_seq ?_
  refine wpIn_seq ?_
  conv => arg 4; whnf
  dsimp only
  gi_wp2_with fail
  refine bpt_out (T0 := w.heap.size) HOK.out ⟨0, p3, Nat.zero_le _, H3.out.1, H3.out.2.1, H3.out.2.2.1, H3.out.2.2.2, by unfold PFr; (refine ⟨rfl, rfl, ?_⟩; repeat (first | exact trivial | refine ⟨rfl, ?_⟩))⟩ ?_
  intro a4 w4 p hI4 hL4 hS4 hT4 hfr4
  clear H3
  have hz4 := hT4.size
  have hB4 : Below w.heap.size w w4 := ⟨hT4.os.trans H2.out.os, hT4.tape.trans H2.out.tape, hT4.output.trans H2.out.output, by omega, fun b hb => (hT4.block b (by omega) (by simp; omega)).trans (H2.out.block b hb)⟩
  have H4 := Lib.hid (And.intro hI4 (And.intro hL4 (And.intro hS4 hB4))); clear hI4 hL4 hS4 hT4 hB4
  unfold PFr at hfr4
  obtain ⟨u4, rfl⟩ := hfr4.open
  clear hfr4
  show Code.wpIn Fence.wide 0 Try.prog (Try.f11.sub [1, 1, 1, 1]) _ ⟨#[(u4 0), .pointer (some ⟨w.heap.size, 0, none⟩), (u4 2), .slice (some ⟨w.heap.size + 1, 0, none⟩) n n, (u4 4), (u4 5), (u4 6), (u4 7), (u4 8), (u4 9), (u4 10), (u4 11), (u4 12), (u4 13), (u4 14), (u4 15), (u4 16), (u4 17), (u4 18), (u4 19), (u4 20), (u4 21), (u4 22), (u4 23), (u4 24), (u4 25), (u4 26), (u4 27), (u4 28), (u4 29), (u4 30), (u4 31), (u4 32), (u4 33), (u4 34), (u4 35), (u4 36), (u4 37), (u4 38), (u4 39), (u4 40), (u4 41), (u4 42), (u4 43), (u4 44), (u4 45), (u4 46), (u4 47), (u4 48), (u4 49), (u4 50), (u4 51), (u4 52), (u4 53), (u4 54), (u4 55), (u4 56), (u4 57), (u4 58), (u4 59), (u4 60), (u4 61), (u4 62), (u4 63), (u4 64), (u4 65), (u4 66), (u4 67), (u4 68), (u4 69), (u4 70), (u4 71), (u4 72), (u4 73), (u4 74), (u4 75), (u4 76), (u4 77), (u4 78), (u4 79), (u4 80), (u4 81)], []⟩ _
  conv => arg 4; whnf
  dsimp only
  gi_wp2_with fail
  refine ⟨trivial, rfl, (callsIn_wide.2 (bnumbered_c (n := n) (H4.out.1.rd) H4.out.2.1.len (by omega) (fun i hi => by have := H4.out.2.1.at_ i hi; omega))).mono ?_⟩
  rintro e w5 ⟨o, out, rfl, hlo, hB5, hI5, hout⟩
  have hprop : ∀ u v, u < n → v < n → Cn es u v → gi out u = gi out v := fun u v hu hv hc => by
    have h1 := H4.out.2.2.1.cn hc
    obtain ⟨k, hk⟩ := Int.eq_ofNat_of_zero_le (H4.out.2.1.at_ u hu).1
    rw [hout u k hu hk, hout v k hv (by rw [← h1]; exact hk)]
  have H5 := Lib.hid (And.intro hprop (And.intro hlo (And.intro (H4.out.2.2.2.trans (hB5.mono H4.out.2.2.2.size)) hI5))); clear hprop hlo hB5 hI5 hout
  dsimp only
  gi_wp2_with fail
  show LeavesInM Fence.wide 0 Try.prog _ _ _ (([] : List Nat).map rfMark) .returning w5
  refine leaves_marks [] w5 ⟨by simp, fun D hD => by cases hD⟩ ?_
  intro w' k1 k2 k3 k4 k5
  have hB5 := H5.out.2.2.1
  refine ⟨.slice (some ⟨o, 0, none⟩) n n, ?_, o, out, rfl, H5.out.2.1, ⟨k3.trans hB5.os, k4.trans hB5.tape, k5.trans hB5.output, by rw [k2]; exact hB5.size, fun b hb => (k1 b (by simp)).trans (hB5.block b hb)⟩, (k1 o (by simp)).trans H5.out.2.2.2, H5.out.1⟩
  simp [results, Try.results11, go_sem]
end Go.Proofs.Ytjnpchoinncbnaa
end

section
set_option linter.unusedSimpArgs false
set_option linter.unusedVariables false
namespace Sw
open Go.Proofs.Ytjnpchoinncbnaa
theorem void_zero {R C : Nat} {ph ac dn : List Int} (hn : RtN R C ph ac dn) {J : Nat} {q x : List Int} {c : Int} (hs : Solved (R * C) J (eds ph (sdl R C) (ac ++ dn)) q x c) {v : Nat} (hv : v < R * C) (hp : gi ph v = void) : gi q v = 0 := by
  refine hs.first v hv fun u hu hc => ?_
  obtain ⟨i, hi, _, he⟩ := hc.isolated (by omega)
  have h := ed_of hn (ge_mem hi)
  rcases he with he | he
  · rw [he] at h; exact h.2.2.2.2.2.2.1 hp
  · rw [he] at h; exact h.2.2.2.2.2.2.2.1 hp
theorem gi_ext {a b : List Int} (hl : a.length = b.length) (h : ∀ i, i < a.length → gi a i = gi b i) : a = b := by
  refine List.ext_getElem hl fun i h1 h2 => ?_
  have := h i h1
  unfold gi at this
  simpa [List.getD_eq_getElem?_getD, h1, h2] using this
theorem shift_ok {R C : Nat} {ph ac dn : List Int} (hn : RtN R C ph ac dn) {q x : List Int} {c : Int} (hs : Solved (R * C) 1 (eds ph (sdl R C) (ac ++ dn)) q x c) :
    TOk R C ph R C (shift ph q) ∧ turnsL ph (shift ph q) = q := by
  have hfew := hn.few
  have key : ∀ i, i < ph.length → okT (gi ph i) (gi (shift ph q) i) ∧ tn (gi ph i) (gi (shift ph q) i) = gi q i := by
    intro i hi
    have hi' : i < R * C := by rw [← hn.lp]; exact hi
    rw [shift_get hi]
    by_cases hv : gi ph i = void
    · rw [if_pos hv]
      have hv' : gi ph i = 1000000000000 := hv
      exact ⟨⟨⟨fun _ => rfl, fun _ => hv'⟩, fun h => absurd hv' h⟩, by unfold tn; rw [if_pos hv', void_zero hn hs hi' hv]⟩
    · rw [if_neg hv]
      have hv' : ¬ gi ph i = 1000000000000 := hv
      have h1 := (hn.ph i hi).resolve_left hv'
      have h2 := hs.bound i hi'
      have h3 : gi ph i + gi q i * 4096 - gi ph i = 4096 * gi q i := by omega
      refine ⟨⟨⟨fun h => absurd h hv', fun h => by omega⟩, fun _ => ⟨by omega, by rw [h3]; exact Int.mul_emod_right _ _⟩⟩, ?_⟩
      unfold tn
      rw [if_neg hv', h3, Int.mul_tdiv_cancel_left _ (by decide)]
  refine ⟨⟨rfl, rfl, by rw [shift_len], fun i hi => (key i hi).1⟩, ?_⟩
  refine gi_ext (by rw [turnsL_len, hs.lenq, hn.lp]) fun i hi => ?_
  rw [turnsL_len] at hi
  rw [turnsL_get hi]
  exact (key i hi).2
end Sw
end

section
set_option linter.unusedSimpArgs false
set_option linter.unusedVariables false
namespace Go.Proofs.Ytjnpchoinncbnaa
open Go.RowKit Sw Fam
theorem run_maps_0 (a b : Int) (A : Option Addr) (n c : Nat) (a2 b2 : Int) (A2 : Option Addr) (n2 c2 : Nat) (W : World) : (Instr.index 44 (.agg #[.int .i64 a, .int .i64 b, .slice A n c, .int .i64 a2, .int .i64 b2, .slice A2 n2 c2]) (.int .i64 0)).run Try.prog W = .ok (.agg #[.int .i64 a, .int .i64 b, .slice A n c]) W := by
  simp [Instr.index, go_sem, Try.underlying44]
theorem run_maps_1 (a b : Int) (A : Option Addr) (n c : Nat) (a2 b2 : Int) (A2 : Option Addr) (n2 c2 : Nat) (W : World) : (Instr.index 44 (.agg #[.int .i64 a, .int .i64 b, .slice A n c, .int .i64 a2, .int .i64 b2, .slice A2 n2 c2]) (.int .i64 1)).run Try.prog W = .ok (.agg #[.int .i64 a2, .int .i64 b2, .slice A2 n2 c2]) W := by
  simp [Instr.index, go_sem, Try.underlying44]
theorem zero_bool (w : World) : (zeroValue 4).run Try.prog w = .ok (.bool false) w := by kernel_rfl
structure Gfd where
  r1 : Int
  c1 : Int
  m1 : List Int
  r2 : Int
  c2 : Int
  m2 : List Int
  fl : List Int
structure GfL where
  A : Option Addr
  B : Option Addr
  F : Option Addr
  ca : Nat
  cb : Nat
  cf : Nat
def GfV (g : Gfd) (l : GfL) : Value := .agg #[.int .i64 g.r1, .int .i64 g.c1, .slice l.A g.m1.length l.ca, .int .i64 g.r2, .int .i64 g.c2, .slice l.B g.m2.length l.cb, .slice l.F g.fl.length l.cf]
structure GfM (w : World) (g : Gfd) (l : GfL) : Prop where
  a : RdI w l.A g.m1
  b : RdI w l.B g.m2
  f : RdI w l.F g.fl
theorem GfM.keep {w w' : World} {g : Gfd} {l : GfL} (h : GfM w g l) (hb : Below w.heap.size w w') : GfM w' g l := ⟨h.a.keep hb, h.b.keep hb, h.f.keep hb⟩
set_option maxHeartbeats 4000000 in
set_option maxRecDepth 100000 in
theorem law_c {t : Tk} {l : TkL} {g : Gfd} {k : GfL} {w : World} (hM : TkM w t l) (hG : GfM w g k) :
    Calls Try.prog 3 #[TkV t l, GfV g k] w fun e w' => e = .returned (.bool true) ∧ Below w.heap.size w w' := by
  have HM := Lib.hid hM; clear hM
  have HG := Lib.hid hG; clear hG
  have hck : ∀ w', Below w.heap.size w w' → Calls Try.prog 5 #[TkV t l] w' _ := fun w' hb => bcheckTask_c t l w' (HM.out.keep hb)
  have HCK := Lib.hid hck; clear hck
  obtain ⟨Ri, Ci, ph, ac, dn⟩ := t
  obtain ⟨P, A, D, cp, ca, cd⟩ := l
  obtain ⟨r1, c1, m1, r2, c2, m2, fl⟩ := g
  obtain ⟨G1, G2, F, q1, q2, q3⟩ := k
  unfold TkV GfV at *
  dsimp only at *
  go_enter Try.func3, Try.ntmps3
  go_wp2_with fail
  refine nameCalls ?_
  intro w1 hw1
  obtain ⟨hz1, hT1, hG1, hB1⟩ := alloc2 w _ _ hw1
  have H1 := Lib.hid (And.intro hB1 (And.intro hT1 hG1)); clear hw1 hT1 hG1 hB1
  refine (unwrapped_c w1).mono ?_
  rintro e w2 ⟨rfl, hB2⟩
  dsimp only
  have hz2 := hB2.size
  have hT2 := (hB2.block _ (by omega)).trans H1.out.2.1
  have hG2 := (hB2.block _ (by omega)).trans H1.out.2.2
  have H2 := Lib.hid (And.intro (H1.out.1.trans (hB2.mono (by omega))) (And.intro hT2 hG2)); clear hB2 H1
  have t0 : w2.cell? ⟨w.heap.size, 0, none⟩ = some (.int .i64 Ri) := block_cell hT2 (j := 0) (by simp)
  have t1 : w2.cell? ⟨w.heap.size, 1, none⟩ = some (.int .i64 Ci) := block_cell hT2 (j := 1) (by simp)
  have t2 : w2.cell? ⟨w.heap.size, 2, none⟩ = some (.slice P ph.length cp) := block_cell hT2 (j := 2) (by simp)
  have t3 : w2.cell? ⟨w.heap.size, 3, none⟩ = some (.slice A ac.length ca) := block_cell hT2 (j := 3) (by simp)
  have t4 : w2.cell? ⟨w.heap.size, 4, none⟩ = some (.slice D dn.length cd) := block_cell hT2 (j := 4) (by simp)
  clear hT2 hG2
  go_wp2_with fail
  refine (HCK.out w2 H2.out.1).mono ?_
  rintro e w3 ⟨g0, rfl, hg0, hB3⟩
  dsimp only
  clear t0 t1 t2 t3 t4
  have hz3 := hB3.size
  have hT3 := (hB3.block _ (by omega)).trans H2.out.2.1
  have hG3 := (hB3.block _ (by omega)).trans H2.out.2.2
  have H3 := Lib.hid (And.intro (H2.out.1.trans (hB3.mono H2.out.1.size)) (And.intro hT3 hG3)); clear hB3 H2
  have s2 : w3.cell? ⟨w.heap.size + 1, 2, none⟩ = some (.slice G1 m1.length q1) := block_cell hG3 (j := 2) (by simp)
  have s5 : w3.cell? ⟨w.heap.size + 1, 5, none⟩ = some (.slice G2 m2.length q2) := block_cell hG3 (j := 5) (by simp)
  have s6 : w3.cell? ⟨w.heap.size + 1, 6, none⟩ = some (.slice F fl.length q3) := block_cell hG3 (j := 6) (by simp)
  have hg1 : w.heap.size + 1 < w3.heap.size := by omega
  have HG0 := Lib.hid hg0; clear hg0
  clear hT3 hG3
  by_cases h0 : g0 = 0
  · by_cases h1 : m1.length ≤ 200
    · by_cases h2 : m2.length ≤ 200
      · by_cases h3 : fl.length ≤ 400
        · have hb0 : (g0 != 0) = false := by simp [h0]
          have d1 : decide ((200 : Int) < (m1.length : Int)) = false := by simp; omega
          have d2 : decide ((200 : Int) < (m2.length : Int)) = false := by simp; omega
          have d3 : decide ((400 : Int) < (fl.length : Int)) = false := by simp; omega
          have hRT := HG0.out h0
          have HRT := Lib.hid hRT
          obtain ⟨R, C, hR, hC, hN⟩ := hRT.nat
          dsimp only at hR hC hN
          subst hR hC
          have HN := Lib.hid hN; clear hN hRT HG0 h0
          have t0 : w3.cell? ⟨w.heap.size, 0, none⟩ = some (.int .i64 R) := block_cell H3.out.2.1 (j := 0) (by simp)
          have t1 : w3.cell? ⟨w.heap.size, 1, none⟩ = some (.int .i64 C) := block_cell H3.out.2.1 (j := 1) (by simp)
          have t2 : w3.cell? ⟨w.heap.size, 2, none⟩ = some (.slice P ph.length cp) := block_cell H3.out.2.1 (j := 2) (by simp)
          have t3 : w3.cell? ⟨w.heap.size, 3, none⟩ = some (.slice A ac.length ca) := block_cell H3.out.2.1 (j := 3) (by simp)
          have t4 : w3.cell? ⟨w.heap.size, 4, none⟩ = some (.slice D dn.length cd) := block_cell H3.out.2.1 (j := 4) (by simp)
          have hct : ∀ w', Below w.heap.size w w' → Calls Try.prog 7 #[.agg #[.int .i64 R, .int .i64 C, .slice P ph.length cp, .slice A ac.length ca, .slice D dn.length cd]] w' (CTPost ⟨R, C, ph, ac, dn⟩ w') := fun w' hb =>
            copyTask_c (t := ⟨R, C, ph, ac, dn⟩) (l := ⟨P, A, D, cp, ca, cd⟩) (HM.out.keep hb) (by have := HN.out.lp; have := HN.out.few; dsimp only; omega) (by have := HN.out.la; have := Nat.mul_le_mul HN.out.hR.2 (show C - 1 ≤ 64 by have := HN.out.hC.2; omega); dsimp only; omega) (by have := HN.out.ld; have := Nat.mul_le_mul (show R - 1 ≤ 64 by have := HN.out.hR.2; omega) HN.out.hC.2; dsimp only; omega)
          have HCT := Lib.hid hct; clear hct HCK
          have hu : ∀ w' l', TkM w' ⟨R, C, ph, ac, dn⟩ l' → Calls Try.prog 6 #[TkV ⟨R, C, ph, ac, dn⟩ l'] w' _ := fun w' l' h => unwrap_c h rfl rfl HN.out HRT.out
          have HU := Lib.hid hu; clear hu
          have hno : ∀ w', Below w.heap.size w w' → Calls Try.prog 8 #[.agg #[.int .i64 R, .int .i64 C, .slice P ph.length cp, .slice A ac.length ca, .slice D dn.length cd]] w' _ := fun w' hb => bnetOf_c (t := ⟨R, C, ph, ac, dn⟩) (l := ⟨P, A, D, cp, ca, cd⟩) (HM.out.keep hb) rfl rfl HN.out
          have HNO := Lib.hid hno; clear hno
          have hcf : ∀ w' Y cy R' C' ys, Below w.heap.size w w' → RdI w' Y ys → ys.length ≤ 1000 → Calls Try.prog 9 #[.agg #[.int .i64 R, .int .i64 C, .slice P ph.length cp, .slice A ac.length ca, .slice D dn.length cd], .agg #[.int .i64 R', .int .i64 C', .slice Y ys.length cy]] w' _ := fun w' Y cy R' C' ys hb hy hl => checkField_c (t := ⟨R, C, ph, ac, dn⟩) (l := ⟨P, A, D, cp, ca, cd⟩) (HM.out.keep hb) rfl rfl hy HN.out hl
          have HCF := Lib.hid hcf; clear hcf
          have hgd : Gd (R * C) 1 (netOf ⟨R, C, ph, ac, dn⟩ R C) := HN.out.gd
          have HGD := Lib.hid hgd; clear hgd
          have hso : ∀ q x c, Solved (R * C) 1 (netOf ⟨R, C, ph, ac, dn⟩ R C) q x c → TOk R C ph R C (shift ph q) ∧ turnsL ph (shift ph q) = q := fun q x c h => shift_ok HN.out h
          have HSO := Lib.hid hso; clear hso
          have hpb : ∀ R' C' ys, TOk R C ph R' C' ys → PB (R * C) (turnsL ph ys) := fun R' C' ys h => turns_pb HN.out h
          have HPB := Lib.hid hpb; clear hpb
          generalize hes : netOf ⟨R, C, ph, ac, dn⟩ R C = es at *
          generalize hnn : R * C = n at *
          have HE := Lib.hid (And.intro hes hnn); clear hes hnn
          go_wp2_with fail
          refine (HCT.out w3 H3.out.1).mono ?_
          rintro e w4 ⟨l', rfl, hB4, hM4⟩
          dsimp only
          have HU4 := Lib.hid (HU.out w4 l' hM4)
          generalize TkV ⟨R, C, ph, ac, dn⟩ l' = tv at *
          clear t0 t1 t2 t3 t4 s2 s5 s6 HU hM4
          have H4 := Lib.hid (And.intro (H3.out.1.trans (hB4.mono H3.out.1.size)) (And.intro ((hB4.block _ (by omega)).trans H3.out.2.1) ((hB4.block _ (by omega)).trans H3.out.2.2)))
          have hz4 := hB4.size
          clear hB4 H3 HCT
          go_wp2_with fail
          refine HU4.out.mono ?_
          clear HU4
          rintro e w5 ⟨q, x, Y, cY, X, rfl, hB5, hY5, hX5, hS5⟩
          have hz5 := hB5.size
          have H5 := Lib.hid (And.intro (H4.out.1.trans (hB5.mono H4.out.1.size)) (And.intro ((hB5.block _ (by omega)).trans H4.out.2.1) (And.intro ((hB5.block _ (by omega)).trans H4.out.2.2) (And.intro hY5 (And.intro hX5 hS5)))))
          clear hB5 hY5 hX5 hS5 H4
          dsimp only
          have t0 : w5.cell? ⟨w.heap.size, 0, none⟩ = some (.int .i64 R) := block_cell H5.out.2.1 (j := 0) (by simp)
          have t1 : w5.cell? ⟨w.heap.size, 1, none⟩ = some (.int .i64 C) := block_cell H5.out.2.1 (j := 1) (by simp)
          have t2 : w5.cell? ⟨w.heap.size, 2, none⟩ = some (.slice P ph.length cp) := block_cell H5.out.2.1 (j := 2) (by simp)
          have t3 : w5.cell? ⟨w.heap.size, 3, none⟩ = some (.slice A ac.length ca) := block_cell H5.out.2.1 (j := 3) (by simp)
          have t4 : w5.cell? ⟨w.heap.size, 4, none⟩ = some (.slice D dn.length cd) := block_cell H5.out.2.1 (j := 4) (by simp)
          have hws5 : w.heap.size < w5.heap.size := by omega
          have HLM := Lib.hid (And.intro h1 (And.intro h2 h3))
          clear d1 d2 d3 h1 h2 h3
          go_wp2_with fail
          refine nameCalls ?_
          intro w6 hw6
          have hB6 : Below w5.heap.size w5 w6 := by rw [hw6]; exact (Below.refl _ _).alloc (Nat.le_refl _) _
          have hM6 : w6.heap[w5.heap.size]? = some (.cells #[.int .i64 R, .int .i64 C, .slice Y ph.length cY] 24 (0, 0)) := by rw [hw6]; exact World.alloc_heap_new w5 _
          have hz6 : w6.heap.size = w5.heap.size + 1 := by rw [hw6]; simp only [World.size_alloc]
          have H6 := Lib.hid (And.intro hB6 hM6); clear hw6 hB6 hM6 t0 t1 t2 t3 t4
          refine (HNO.out w6 (H5.out.1.trans (H6.out.1.mono H5.out.1.size))).mono ?_
          rintro e w7 ⟨E, cE, rfl, hB7, hE7⟩
          dsimp only
          have hz7 := hB7.size
          have hB57 := H6.out.1.trans (hB7.mono H6.out.1.size)
          have hM7 := (hB7.block _ (by omega)).trans H6.out.2
          have H7 := Lib.hid (And.intro hB57 (And.intro hM7 hE7.rdE)); clear hB7 hE7 hB57 hM7 H6
          have t0 : w7.cell? ⟨w.heap.size, 0, none⟩ = some (.int .i64 R) := block_cell ((H7.out.1.block _ (by omega)).trans H5.out.2.1) (j := 0) (by simp)
          have t1 : w7.cell? ⟨w.heap.size, 1, none⟩ = some (.int .i64 C) := block_cell ((H7.out.1.block _ (by omega)).trans H5.out.2.1) (j := 1) (by simp)
          have t2 : w7.cell? ⟨w.heap.size, 2, none⟩ = some (.slice P ph.length cp) := block_cell ((H7.out.1.block _ (by omega)).trans H5.out.2.1) (j := 2) (by simp)
          have t3 : w7.cell? ⟨w.heap.size, 3, none⟩ = some (.slice A ac.length ca) := block_cell ((H7.out.1.block _ (by omega)).trans H5.out.2.1) (j := 3) (by simp)
          have t4 : w7.cell? ⟨w.heap.size, 4, none⟩ = some (.slice D dn.length cd) := block_cell ((H7.out.1.block _ (by omega)).trans H5.out.2.1) (j := 4) (by simp)
          have m0 : w7.cell? ⟨w5.heap.size, 0, none⟩ = some (.int .i64 R) := block_cell H7.out.2.1 (j := 0) (by simp)
          have m1' : w7.cell? ⟨w5.heap.size, 1, none⟩ = some (.int .i64 C) := block_cell H7.out.2.1 (j := 1) (by simp)
          have m2' : w7.cell? ⟨w5.heap.size, 2, none⟩ = some (.slice Y ph.length cY) := block_cell H7.out.2.1 (j := 2) (by simp)
          have hws7 : w.heap.size < w7.heap.size ∧ w5.heap.size < w7.heap.size := by omega
          obtain ⟨hws7a, hws7b⟩ := hws7
          go_wp2_with fail
          refine nameCalls ?_
          intro w8 hw8
          have hB8 : Below w7.heap.size w7 w8 := by rw [hw8]; exact (Below.refl _ _).alloc (Nat.le_refl _) _
          have hN8 : w8.heap[w7.heap.size]? = some (.cells #[.int .i64 n, .slice E es.length cE] 37 (0, 0)) := by rw [hw8]; exact World.alloc_heap_new w7 _
          have hz8 : w8.heap.size = w7.heap.size + 1 := by rw [hw8]; simp only [World.size_alloc]
          have hB58 := H7.out.1.trans (hB8.mono H7.out.1.size)
          have hM8 := (hB8.block _ (by omega)).trans H7.out.2.1
          have hE8 := H7.out.2.2.keep hB8
          have hcf := HCF.out w8 Y cY R C (shift ph q) (H5.out.1.trans (hB58.mono H5.out.1.size)) (H5.out.2.2.2.1.keep hB58) (by rw [shift_len, HN.out.lp]; have := HN.out.few; omega)
          rw [shift_len] at hcf
          have H8 := Lib.hid (And.intro hB58 (And.intro hM8 (And.intro hE8 hN8))); clear hw8 hB8 hN8 hB58 hM8 hE8 H7 t0 t1 t2 t3 t4 m0 m1' m2'
          refine hcf.mono ?_
          clear hcf
          rintro e w9 ⟨cc, ee, rfl, hB9, he9, hc9⟩
          obtain ⟨ho1, ho2⟩ := HSO.out q x _ H5.out.2.2.2.2.2
          have hee := he9.2 ho1
          subst hee
          have hcc := hc9 rfl
          rw [ho2] at hcc
          subst hcc
          dsimp only
          have hz9 := hB9.size
          have H9 := Lib.hid (And.intro (H8.out.1.trans (hB9.mono H8.out.1.size)) (And.intro ((hB9.block _ (by omega)).trans H8.out.2.1) (And.intro (H8.out.2.2.1.keep hB9) ((hB9.block _ (by omega)).trans H8.out.2.2.2))))
          clear hB9 he9 hc9 ho1 ho2 H8
          have n0 : w9.cell? ⟨w7.heap.size, 0, none⟩ = some (.int .i64 n) := block_cell H9.out.2.2.2 (j := 0) (by simp)
          have n1 : w9.cell? ⟨w7.heap.size, 1, none⟩ = some (.slice E es.length cE) := block_cell H9.out.2.2.2 (j := 1) (by simp)
          have hws9 : w7.heap.size < w9.heap.size := by omega
          go_wp2_with fail
          have hR5 := H5.out.2.2.2.2.2.right
          have hfl := flow_c n 1 es HGD.out x E (some ⟨X, 0, none⟩) cE es.length w9 (by rw [hR5.len]; have := HGD.out.m_le; omega) H9.out.2.2.1 ((H5.out.2.2.2.2.1.keep H9.out.1).rd)
          rw [hR5.len] at hfl
          refine hfl.mono ?_
          clear hfl
          rintro e w10 ⟨vv, gg, rfl, hg1', hg2', hB10⟩
          have hgg := hg2' hR5
          subst hgg
          have hvv := (hg1' rfl).2
          rw [H5.out.2.2.2.2.2.value] at hvv
          subst hvv
          clear hg1' hg2' hR5 n0 n1
          have hz10 := hB10.size
          have H10 := Lib.hid (And.intro (H9.out.1.trans (hB10.mono H9.out.1.size)) (And.intro ((hB10.block _ (by omega)).trans H9.out.2.1) (And.intro (H9.out.2.2.1.keep hB10) ((hB10.block _ (by omega)).trans H9.out.2.2.2))))
          clear hB10 H9
          have n0 : w10.cell? ⟨w7.heap.size, 0, none⟩ = some (.int .i64 n) := block_cell H10.out.2.2.2 (j := 0) (by simp)
          have n1 : w10.cell? ⟨w7.heap.size, 1, none⟩ = some (.slice E es.length cE) := block_cell H10.out.2.2.2 (j := 1) (by simp)
          have hws10 : w7.heap.size < w10.heap.size := by omega
          have hcne : (cost es q != cost es q) = false := by simp
          have hmm := @run_makeMap Try.prog
          dsimp only
          go_wp2_with fail
          clear hmm
          refine nameCalls ?_
          intro w11 hw11
          have hB11 : Below w10.heap.size w10 w11 := by rw [hw11]; exact (Below.refl _ _).alloc (Nat.le_refl _) _
          have hMp : MapI w11 w10.heap.size (fun _ => none) := by rw [hw11]; exact MapI.made w10
          have hz11 : w11.heap.size = w10.heap.size + 1 := by rw [hw11]; simp only [World.size_alloc]
          have H11 := Lib.hid (And.intro hB11 hMp); clear hw11 hB11 hMp
          refine (bparts_c HGD.out (H10.out.2.2.1.keep H11.out.1)).mono ?_
          rintro e w12 ⟨po, out, rfl, hlo, hB12, hO12, hout⟩
          dsimp only
          have hz12 := hB12.size
          have hB10 := H11.out.1.trans (hB12.mono H11.out.1.size)
          have hB5 := H10.out.1.trans (hB10.mono H10.out.1.size)
          have H12 := Lib.hid (And.intro hB5 (And.intro ((hB10.block _ (by omega)).trans H10.out.2.1) (And.intro (H10.out.2.2.1.keep hB10) (And.intro ((hB10.block _ (by omega)).trans H10.out.2.2.2) (And.intro (H11.out.2.move (hB12.block _ (by omega))) (And.intro hO12 hout))))))
          clear hB10 hB5 hB12 hO12 hout H11 H10 n0 n1
          go_wp2_with fail
          have hlh : ph.length = n := by rw [HN.out.lp, HE.out.2]
          have HLH := Lib.hid hlh; clear hlh
          have hmbd : ∀ b cs ty rr, w12.heap[b]? = some (.cells cs ty rr) → b ≠ w10.heap.size := fun b cs ty rr h => H12.out.2.2.2.2.1.ne h
          have HMB := Lib.hid hmbd; clear hmbd
          go_loopw [92] (fun v92 wr => ∃ (k : Nat) (m : Int → Option Value), v92 = .int .i64 k ∧ k ≤ n ∧ Tch [w10.heap.size] w12 wr ∧ MapI wr w10.heap.size m ∧ (∀ v, v < k → gi ph v ≠ void → m (gi out v) = some (.bool true)) ∧ ∀ a y, m a = some y → y = .bool true) (fun v92 _ => n - (intOf v92).toNat)
          case atStart => exact ⟨0, _, rfl, Nat.zero_le _, Tch.refl _ _, H12.out.2.2.2.2.1, fun v hv => by omega, fun a y h => by cases h⟩
          case round =>
            obtain ⟨k, m, rfl, hk, hT, hMp, hseen, hval⟩ := hrel
            have hTz := hT.size
            have hk200 : k ≤ 200 := by have := HGD.out.n_le; omega
            by_cases hlt : k < n
            · have cO := hT.cell (by simpa using HMB.out po _ _ _ H12.out.2.2.2.2.2.1) (H12.out.2.2.2.2.2.1.cell (j := k) (by rw [hlo]; exact hlt))
              have hck : ∀ (b o : Nat) (v : Value), b < w10.heap.size → w12.cell? ⟨b, o, none⟩ = some v → wr.cell? ⟨b, o, none⟩ = some v := fun b o v hb h => hT.cell (by simp; omega) h
              have cT := hck _ _ _ (by omega) (cellB H12.out.1 (show w5.cell? ⟨w.heap.size, 2, none⟩ = some (.slice P ph.length cp) from block_cell H5.out.2.1 (j := 2) (by simp)))
              have cM := hck _ _ _ (by omega) (show w12.cell? ⟨w5.heap.size, 2, none⟩ = some (.slice Y ph.length cY) from block_cell H12.out.2.1 (j := 2) (by simp))
              obtain ⟨pb, po1, rfl, hpc⟩ := HM.out.p k (by dsimp only; rw [HLH.out]; exact hlt)
              have hpl := World.block_lt_of_cell? _ _ hpc
              have cP := hck _ _ _ (by simp only at hpl; omega) (cellB H12.out.1 (cellB H5.out.1 hpc))
              obtain ⟨yb, yo1, rfl, hyc⟩ := H5.out.2.2.2.1 k (by rw [shift_len, HLH.out]; exact hlt)
              have hyl := World.block_lt_of_cell? _ _ hyc
              have cY := hck _ _ _ (by simp only at hyl; omega) (cellB H12.out.1 hyc)
              have hkl : k < ph.length := by rw [HLH.out]; exact hlt
              have hsg := shift_get (ph := ph) (q := q) hkl
              have hph := HN.out.ph k hkl
              have hqb := H5.out.2.2.2.2.2.bound k hlt
              have hfirst : gi ph k ≠ void → m (gi out k) = none → gi q k = 0 := fun hnv hno => by
                refine H5.out.2.2.2.2.2.first k hlt fun u hu hc => ?_
                have h1 := H12.out.2.2.2.2.2.2 u k (by omega) hlt hc
                by_cases hv : gi ph u = void
                · obtain ⟨i, hi, _, he⟩ := hc.symm.isolated (by omega)
                  have h := ed_of HN.out (ge_mem (es := eds ph (sdl R C) (ac ++ dn)) (i := i) (by have := HE.out.1; unfold netOf at this; dsimp only at this; rw [this]; exact hi))
                  have hes2 : eds ph (sdl R C) (ac ++ dn) = es := HE.out.1
                  rw [hes2] at h
                  rcases he with he | he
                  · rw [he] at h; exact h.2.2.2.2.2.2.1 hv
                  · rw [he] at h; exact h.2.2.2.2.2.2.2.1 hv
                · have h2 := hseen u hu hv
                  rw [h1, hno] at h2
                  cases h2
              obtain ⟨pt, hpt⟩ : ∃ pt, pt = gi out k := ⟨_, rfl⟩
              obtain ⟨x1, hx1⟩ : ∃ x1, x1 = gi ph k := ⟨_, rfl⟩
              obtain ⟨y1, hy1⟩ : ∃ y1, y1 = gi (shift ph q) k := ⟨_, rfl⟩
              rw [← hpt] at cO hfirst
              rw [← hx1] at cP hsg hph hfirst
              rw [← hy1] at cY hsg
              have hnext : ∀ m' : Int → Option Value, (∀ a y, m' a = some y → y = .bool true) → (∀ a, m a = some (.bool true) → m' a = some (.bool true)) → (x1 ≠ void → m' pt = some (.bool true)) → ∀ v, v < k + 1 → gi ph v ≠ void → m' (gi out v) = some (.bool true) := fun m' _ h2 h3 v hv hnv => by
                by_cases e : v = k
                · subst e; rw [← hpt]; exact h3 (by rw [hx1]; exact hnv)
                · exact h2 _ (hseen v (by omega) hnv)
              have HNX := Lib.hid hnext; clear hnext
              have HFI := Lib.hid hfirst; clear hfirst
              have HSG := Lib.hid hsg; clear hsg
              have HST := Lib.hid (And.intro hT (And.intro hMp hval)); clear hT hseen hval hck hpc hyc
              have hlk : ∀ j, (Instr.lookup 42 (.map (some w10.heap.size)) (.int .i64 pt) false).run Try.prog (wr.drewN j) = .ok ((m pt).getD (.bool false)) (wr.drewN j) := fun j => by
                have := run_lookup_i (hMp.drewN j) Try.underlying42 Try.underlying3 (zero_bool _) pt false
                simpa using this
              clear hMp hpt hx1 hy1
              by_cases hv : x1 = void
              · have hx2 : (x1 == 1000000000000) = true := by rw [hv]; rfl
                have HV := Lib.hid hv; clear hv hlk
                go_wp2_with fail
                go_roundw
                case rel => exact ⟨k + 1, m, by go_num, by omega, HST.out.1, HST.out.2.1, HNX.out m HST.out.2.2 (fun a h => h) (fun h => absurd HV.out h), HST.out.2.2⟩
                case measure => simp [intOf]; omega
              · have hx2 : (x1 == 1000000000000) = false := by simpa [void] using hv
                have HV := Lib.hid hv; clear hv
                cases hm : m pt with
                | none =>
                  rw [hm] at hlk
                  have hq0 := HFI.out HV.out hm
                  have hyx : (y1 != x1) = false := by have := HSG.out; rw [if_neg HV.out, hq0] at this; simp; omega
                  go_wp2_with fail
                  go_quiet (fail)
                  obtain ⟨oo, hup, hM2⟩ := run_update_i (HST.out.2.1.drewN nq) Try.underlying42 Try.underlying3 pt (.bool true)
                  have HM2 := Lib.hid hM2; clear hM2
                  go_wp2_with fail
                  go_roundw
                  case rel =>
                    refine ⟨k + 1, (fun a => if a = pt then some (.bool true) else m a), by go_num, by omega, (HST.out.1.drewN nq).put (.inl (by simp)) _, HM2.out, HNX.out (fun a => if a = pt then some (.bool true) else m a) (fun a y h => ?_) (fun a h => ?_) (fun _ => if_pos rfl), fun a y h => ?_⟩
                    · split at h
                      · cases h; rfl
                      · exact HST.out.2.2 _ _ h
                    · split
                      · rfl
                      · exact h
                    · have h' : (if a = pt then some (Value.bool true) else m a) = some y := h
                      split at h'
                      · cases h'; rfl
                      · exact HST.out.2.2 _ _ h'
                  case measure => simp [intOf]; omega
                | some z =>
                  have hz := HST.out.2.2 _ _ hm
                  subst hz
                  rw [hm] at hlk
                  go_wp2_with fail
                  go_quiet (fail)
                  obtain ⟨oo, hup, hM2⟩ := run_update_i (HST.out.2.1.drewN nq) Try.underlying42 Try.underlying3 pt (.bool true)
                  have HM2 := Lib.hid hM2; clear hM2
                  go_wp2_with fail
                  go_roundw
                  case rel =>
                    refine ⟨k + 1, (fun a => if a = pt then some (.bool true) else m a), by go_num, by omega, (HST.out.1.drewN nq).put (.inl (by simp)) _, HM2.out, HNX.out (fun a => if a = pt then some (.bool true) else m a) (fun a y h => ?_) (fun a h => ?_) (fun _ => if_pos rfl), fun a y h => ?_⟩
                    · split at h
                      · cases h; rfl
                      · exact HST.out.2.2 _ _ h
                    · split
                      · rfl
                      · exact h
                    · have h' : (if a = pt then some (Value.bool true) else m a) = some y := h
                      split at h'
                      · cases h'; rfl
                      · exact HST.out.2.2 _ _ h'
                  case measure => simp [intOf]; omega
            · have HT := Lib.hid hT; clear hT hMp hseen hval
              have g0c : wr.cell? ⟨w.heap.size + 1, 0, none⟩ = some (.int .i64 r1) := HT.out.cell (by simp; omega) (cellB H12.out.1 (block_cell H5.out.2.2.1 (j := 0) (by simp)))
              have g1c : wr.cell? ⟨w.heap.size + 1, 1, none⟩ = some (.int .i64 c1) := HT.out.cell (by simp; omega) (cellB H12.out.1 (block_cell H5.out.2.2.1 (j := 1) (by simp)))
              have g2c : wr.cell? ⟨w.heap.size + 1, 2, none⟩ = some (.slice G1 m1.length q1) := HT.out.cell (by simp; omega) (cellB H12.out.1 (block_cell H5.out.2.2.1 (j := 2) (by simp)))
              have g3c : wr.cell? ⟨w.heap.size + 1, 3, none⟩ = some (.int .i64 r2) := HT.out.cell (by simp; omega) (cellB H12.out.1 (block_cell H5.out.2.2.1 (j := 3) (by simp)))
              have g4c : wr.cell? ⟨w.heap.size + 1, 4, none⟩ = some (.int .i64 c2) := HT.out.cell (by simp; omega) (cellB H12.out.1 (block_cell H5.out.2.2.1 (j := 4) (by simp)))
              have g5c : wr.cell? ⟨w.heap.size + 1, 5, none⟩ = some (.slice G2 m2.length q2) := HT.out.cell (by simp; omega) (cellB H12.out.1 (block_cell H5.out.2.2.1 (j := 5) (by simp)))
              have hwg : w.heap.size + 1 < wr.heap.size := by omega
              have hbw : ∀ W, Tch [w10.heap.size] w12 W → Below w.heap.size w W := fun W h => by
                have h1 := H5.out.1.trans (H12.out.1.mono H5.out.1.size)
                exact ⟨h.os.trans h1.os, h.tape.trans h1.tape, h.output.trans h1.output, Nat.le_trans h1.size h.size, fun b hb => (h.block b (by omega) (by simp; omega)).trans (h1.block b hb)⟩
              have HBW := Lib.hid hbw; clear hbw
              go_wp2_with fail
              clear g0c g1c g2c g3c g4c g5c hwg
              go_loopw [130] (fun v130 wr2 => ∃ j : Nat, v130 = .int .i64 j ∧ j ≤ 2 ∧ Tch [w10.heap.size] w12 wr2) (fun v130 _ => 2 - (intOf v130).toNat)
              case atStart => exact ⟨0, rfl, by omega, HT.out⟩
              case round =>
                obtain ⟨j, rfl, hj, hT2⟩ := hrel
                have t0 : wr.cell? ⟨w.heap.size, 0, none⟩ = some (.int .i64 R) := hT2.cell (by simp; omega) (cellB H12.out.1 (block_cell H5.out.2.1 (j := 0) (by simp)))
                have t1 : wr.cell? ⟨w.heap.size, 1, none⟩ = some (.int .i64 C) := hT2.cell (by simp; omega) (cellB H12.out.1 (block_cell H5.out.2.1 (j := 1) (by simp)))
                have t2 : wr.cell? ⟨w.heap.size, 2, none⟩ = some (.slice P ph.length cp) := hT2.cell (by simp; omega) (cellB H12.out.1 (block_cell H5.out.2.1 (j := 2) (by simp)))
                have t3 : wr.cell? ⟨w.heap.size, 3, none⟩ = some (.slice A ac.length ca) := hT2.cell (by simp; omega) (cellB H12.out.1 (block_cell H5.out.2.1 (j := 3) (by simp)))
                have t4 : wr.cell? ⟨w.heap.size, 4, none⟩ = some (.slice D dn.length cd) := hT2.cell (by simp; omega) (cellB H12.out.1 (block_cell H5.out.2.1 (j := 4) (by simp)))
                have hz2r := hT2.size
                have hwg2 : w.heap.size < wr.heap.size := by omega
                have HT2 := Lib.hid hT2; clear hT2
                rcases (show j = 0 ∨ j = 1 ∨ j = 2 by omega) with rfl | rfl | rfl
                · have hix := run_maps_0 r1 c1 G1 m1.length q1 r2 c2 G2 m2.length q2 wr
                  go_wp2_with fail
                  refine nameCalls ?_
                  intro w13 hw13
                  have hB13 : Below wr.heap.size wr w13 := by rw [hw13]; exact (Below.refl _ _).alloc (Nat.le_refl _) _
                  have hbel : Below w.heap.size w w13 := (HBW.out wr HT2.out).trans (hB13.mono (HBW.out wr HT2.out).size)
                  clear hw13 hix
                  refine (HCF.out w13 _ _ _ _ m1 hbel (HG.out.a.keep hbel) (by have := HLM.out; omega)).mono ?_
                  rintro e w14 ⟨cc, ee, rfl, hB14, he14, hc14⟩
                  dsimp only
                  have hT14 : Tch [w10.heap.size] w12 w14 := HT2.out.trans (Tch.of_below (hB13.trans (hB14.mono hB13.size)))
                  by_cases he0 : ee = 0
                  · have hcge : decide (cc < cost es q) = false := by
                      have h1 := hc14 he0
                      have h2 := weak n es x (turnsL ph m1) (fun i hi => HGD.out.ends i hi) H5.out.2.2.2.2.2.right
                      rw [H5.out.2.2.2.2.2.value] at h2
                      simp; omega
                    have hee0 : (ee == 0) = true := by simp [he0]
                    have HT14 := Lib.hid hT14; clear hT14 he14 hc14 he0 hB14 hB13 hbel
                    go_wp2_with fail
                    go_roundw
                    case rel => exact ⟨1, rfl, by omega, HT14.out⟩
                    case measure => simp [intOf]
                  · have hee0 : (ee == 0) = false := by simpa using he0
                    have HT14 := Lib.hid hT14; clear hT14 he14 hc14 he0 hB14 hB13 hbel
                    go_wp2_with fail
                    go_roundw
                    case rel => exact ⟨1, rfl, by omega, HT14.out⟩
                    case measure => simp [intOf]
                · have hix := run_maps_1 r1 c1 G1 m1.length q1 r2 c2 G2 m2.length q2 wr
                  go_wp2_with fail
                  refine nameCalls ?_
                  intro w13 hw13
                  have hB13 : Below wr.heap.size wr w13 := by rw [hw13]; exact (Below.refl _ _).alloc (Nat.le_refl _) _
                  have hbel : Below w.heap.size w w13 := (HBW.out wr HT2.out).trans (hB13.mono (HBW.out wr HT2.out).size)
                  clear hw13 hix
                  refine (HCF.out w13 _ _ _ _ m2 hbel (HG.out.b.keep hbel) (by have := HLM.out; omega)).mono ?_
                  rintro e w14 ⟨cc, ee, rfl, hB14, he14, hc14⟩
                  dsimp only
                  have hT14 : Tch [w10.heap.size] w12 w14 := HT2.out.trans (Tch.of_below (hB13.trans (hB14.mono hB13.size)))
                  by_cases he0 : ee = 0
                  · have hcge : decide (cc < cost es q) = false := by
                      have h1 := hc14 he0
                      have h2 := weak n es x (turnsL ph m2) (fun i hi => HGD.out.ends i hi) H5.out.2.2.2.2.2.right
                      rw [H5.out.2.2.2.2.2.value] at h2
                      simp; omega
                    have hee0 : (ee == 0) = true := by simp [he0]
                    have HT14 := Lib.hid hT14; clear hT14 he14 hc14 he0 hB14 hB13 hbel
                    go_wp2_with fail
                    go_roundw
                    case rel => exact ⟨2, rfl, by omega, HT14.out⟩
                    case measure => simp [intOf]
                  · have hee0 : (ee == 0) = false := by simpa using he0
                    have HT14 := Lib.hid hT14; clear hT14 he14 hc14 he0 hB14 hB13 hbel
                    go_wp2_with fail
                    go_roundw
                    case rel => exact ⟨2, rfl, by omega, HT14.out⟩
                    case measure => simp [intOf]
                · have n0 : wr.cell? ⟨w7.heap.size, 0, none⟩ = some (.int .i64 n) := HT2.out.cell (by simp; omega) (block_cell H12.out.2.2.2.1 (j := 0) (by simp))
                  have n1 : wr.cell? ⟨w7.heap.size, 1, none⟩ = some (.slice E es.length cE) := HT2.out.cell (by simp; omega) (block_cell H12.out.2.2.2.1 (j := 1) (by simp))
                  have g6c : wr.cell? ⟨w.heap.size + 1, 6, none⟩ = some (.slice F fl.length q3) := HT2.out.cell (by simp; omega) (cellB H12.out.1 (block_cell H5.out.2.2.1 (j := 6) (by simp)))
                  have hwg3 : w.heap.size + 1 < wr.heap.size ∧ w7.heap.size < wr.heap.size := by omega
                  obtain ⟨hwg3a, hwg3b⟩ := hwg3
                  clear t0 t1 t2 t3 t4
                  go_wp2_with fail
                  have hbw := HBW.out wr HT2.out
                  have hE2 : RdE wr E es := fun j hj => by
                    obtain ⟨b, o, e1, e2, e3, e4, e5⟩ := H12.out.2.2.1 j hj
                    have hbn : b ≠ w10.heap.size := fun e => by
                      subst e
                      obtain ⟨es2, ck, hmp, _⟩ := H12.out.2.2.2.2.1.ex
                      simp [World.cell?, hmp] at e2
                    exact ⟨b, o, e1, HT2.out.cell (by simpa using hbn) e2, HT2.out.cell (by simpa using hbn) e3, HT2.out.cell (by simpa using hbn) e4, HT2.out.cell (by simpa using hbn) e5⟩
                  refine (flow_c n 1 es HGD.out fl E F cE q3 wr (by have := HLM.out; omega) hE2 (HG.out.f.keep hbw)).mono ?_
                  rintro e w20 ⟨vv, gg, rfl, hg1', hg2', hB20⟩
                  dsimp only
                  have HEND := Lib.hid (show Below w.heap.size w w20 from hbw.trans (hB20.mono hbw.size)); clear hB20 hbw hE2 n0 n1 g6c
                  by_cases hgz : gg = 0
                  · have hR := (hg1' hgz).1
                    have hv := (hg1' hgz).2
                    have hle : decide (vv ≤ cost es q) = true := by
                      have h2 := weak n es fl q (fun i hi => HGD.out.ends i hi) hR
                      simp; omega
                    have hgz1 : (gg != 0) = false := by simp [hgz]
                    clear hR hv hgz hg1' hg2'
                    go_wp2_with fail
                    go_ret
                    exact ⟨rfl, HEND.out⟩
                  · have hgz1 : (gg != 0) = true := by simpa using hgz
                    clear hgz hg1' hg2'
                    go_wp2_with fail
                    go_ret
                    exact ⟨rfl, HEND.out⟩
        · have hb0 : (g0 != 0) = false := by simp [h0]
          have HH := Lib.hid h0; clear h0
          go_wp2_with fail
          go_ret
          exact ⟨rfl, H3.out.1⟩
      · have hb0 : (g0 != 0) = false := by simp [h0]
        have HH := Lib.hid h0; clear h0
        go_wp2_with fail
        go_ret
        exact ⟨rfl, H3.out.1⟩
    · have hb0 : (g0 != 0) = false := by simp [h0]
      have HH := Lib.hid h0; clear h0
      go_wp2_with fail
      go_ret
      exact ⟨rfl, H3.out.1⟩
  · have hb0 : (g0 != 0) = true := by simp [h0]
    have HH := Lib.hid h0; clear h0
    go_wp2_with fail
    go_ret
    exact ⟨rfl, H3.out.1⟩
end Go.Proofs.Ytjnpchoinncbnaa
end

section
set_option linter.unusedVariables false
namespace Go.Proofs.Ytjnpchoinncbnaa.topProvedField
open Go.ChangeShapes Go.WideShapes Go.ChangeAt Go.RowKit Sw
theorem own : ownKnob Try.prog.godebug = none := by kernel_rfl
theorem laidOut : laidOutB Try.prog = true := by kernel_rfl
section
variable {H : Type} {enc : TypeId × Value → H} {w : World}
theorem ints_rd {n : Nat} {c : Value} {y : DataW H × List MemPlace} (h : DataW.trod enc Try.prog w 0 (fun _ => true) true n 22 [c] = some y) : ∃ (A : Option Addr) (xs : List Int) (cap : Nat), c = .slice A xs.length cap ∧ RdI w A xs := by
  rcases open_ints Try.underlying22 Try.underlying3 (by kernel_rfl) h with ⟨hcs, _⟩ | ⟨a, len, cap, zs, hcs, _, hl, hm, hz, _, hcell, hwz⟩
  · simp at hcs
    exact ⟨none, [], 0, hcs, RdI.nil _ _⟩
  · simp at hcs
    have hz' : zs.length = cap := by simpa using hz
    have hlen : (zs.take len).length = len := by rw [List.length_take]; omega
    refine ⟨some a, zs.take len, cap, by rw [hlen]; exact hcs, fun j hj => ?_⟩
    rw [hlen] at hj
    obtain ⟨b, off, e, hc⟩ := ints_at hcell (by omega)
    subst e
    refine ⟨b, off, rfl, ?_⟩
    have : gi (zs.take len) j = zs.getD j 0 := by unfold gi; simp [List.getD_eq_getElem?_getD, hj]
    rw [this]
    exact hc j (by omega)
theorem map_rd {n : Nat} {c0 c1 c2 : Value} {y : DataW H × List MemPlace} (h : DataW.trod enc Try.prog w 0 (fun _ => true) true n 24 [c0, c1, c2] = some y) : ∃ (r k : Int) (A : Option Addr) (xs : List Int) (cap : Nat), c0 = .int .i64 r ∧ c1 = .int .i64 k ∧ c2 = .slice A xs.length cap ∧ RdI w A xs := by
  obtain ⟨y0, y1, y2, m, _, _, h0, h1, h2⟩ := Go.Deep.trod_struct3 Try.underlying24 h
  have k3 : Try.prog.cellsOf 3 = 1 := by kernel_rfl
  have k22 : Try.prog.cellsOf 22 = 1 := by kernel_rfl
  dsimp only at h0 h1 h2
  rw [k3] at h0 h1
  rw [k22] at h2
  simp only [List.drop_zero, List.drop_succ_cons, List.take_succ_cons, List.take_zero] at h0 h1 h2
  obtain ⟨r, e0, _, _⟩ := DataW.trod_int Try.underlying3 h0
  obtain ⟨k, e1, _, _⟩ := DataW.trod_int Try.underlying3 h1
  obtain ⟨A, xs, cap, e2, hr⟩ := ints_rd h2
  exact ⟨r, k, A, xs, cap, by simpa using e0, by simpa using e1, e2, hr⟩
set_option maxRecDepth 100000 in
theorem task_rd {v : Value} {d : DataW H} {p : List MemPlace} {r : Reach} {b0 : Nat} (hv : Value.okWide Try.prog w r b0 26 v) (h : DataW.Trod enc Try.prog w 0 (fun _ => true) true 26 v d p) : ∃ (t : Tk) (l : TkL), v = TkV t l ∧ TkM w t l := by
  obtain ⟨cs, rfl, hsz⟩ := okWide_struct Try.underlying26 hv
  have k26 : Try.prog.cellsOf 26 = 5 := by kernel_rfl
  have k24 : Try.prog.cellsOf 24 = 3 := by kernel_rfl
  have k22 : Try.prog.cellsOf 22 = 1 := by kernel_rfl
  rw [k26] at hsz
  obtain ⟨cl⟩ := cs
  match cl, hsz with
  | [c0, c1, c2, c3, c4], _ =>
    obtain ⟨fuel, hf⟩ := h
    obtain ⟨y0, y1, y2, m, _, _, h0, h1, h2⟩ := Go.Deep.trod_struct3 Try.underlying26 hf
    dsimp only at h0 h1 h2
    rw [k24] at h0
    rw [k22] at h1 h2
    simp only [Value.cells, List.drop_zero, List.drop_succ_cons, List.take_succ_cons, List.take_zero] at h0 h1 h2
    obtain ⟨r, k, A, xs, cap, rfl, rfl, rfl, hr⟩ := map_rd h0
    obtain ⟨A1, xs1, cap1, rfl, hr1⟩ := ints_rd h1
    obtain ⟨A2, xs2, cap2, rfl, hr2⟩ := ints_rd h2
    exact ⟨⟨r, k, xs, xs1, xs2⟩, ⟨A, A1, A2, cap, cap1, cap2⟩, rfl, ⟨hr, hr1, hr2⟩⟩
set_option maxRecDepth 100000 in
theorem good_rd {v : Value} {d : DataW H} {p : List MemPlace} {r : Reach} {b0 : Nat} (hv : Value.okWide Try.prog w r b0 28 v) (h : DataW.Trod enc Try.prog w 0 (fun _ => true) true 28 v d p) : ∃ (t : Gfd) (l : GfL), v = GfV t l ∧ GfM w t l := by
  obtain ⟨cs, rfl, hsz⟩ := okWide_struct Try.underlying28 hv
  have k28 : Try.prog.cellsOf 28 = 7 := by kernel_rfl
  have k24 : Try.prog.cellsOf 24 = 3 := by kernel_rfl
  have k22 : Try.prog.cellsOf 22 = 1 := by kernel_rfl
  rw [k28] at hsz
  obtain ⟨cl⟩ := cs
  match cl, hsz with
  | [c0, c1, c2, c3, c4, c5, c6], _ =>
    obtain ⟨fuel, hf⟩ := h
    obtain ⟨y0, y1, y2, m, _, _, h0, h1, h2⟩ := Go.Deep.trod_struct3 Try.underlying28 hf
    dsimp only at h0 h1 h2
    rw [k24] at h0 h1
    rw [k22] at h2
    simp only [Value.cells, List.drop_zero, List.drop_succ_cons, List.take_succ_cons, List.take_zero] at h0 h1 h2
    obtain ⟨r, k, A, xs, cap, rfl, rfl, rfl, hr⟩ := map_rd h0
    obtain ⟨r1, k1, A1, xs1, cap1, rfl, rfl, rfl, hr1⟩ := map_rd h1
    obtain ⟨A2, xs2, cap2, rfl, hr2⟩ := ints_rd h2
    exact ⟨⟨r, k, xs, r1, k1, xs1, xs2⟩, ⟨A, A1, A2, cap, cap1, cap2⟩, rfl, ⟨hr, hr1, hr2⟩⟩
end
set_option maxRecDepth 100000 in
theorem lifted (os : Os) (started : os.Started) (H : Type) (enc : TypeId × Value → H) :
    ReturnsInHanded {} Try.checked os 3 .any (Rows.topProvedFieldSpec.pre6 enc Try.prog Try.f3 Rows.topProvedFieldRow.domain false) (Rows.topProvedFieldSpec.post enc Try.prog Try.f3 false true false false) := by
  refine returnsInHanded_of_change (C := Try.checked) own started (by kernel_rfl) Try.func3
    (ChangeSpec.witness6 (enc := enc) (C := Try.checked) false ⟨#[], #[.agg #[.int .i64 0, .int .i64 0, .slice none 0 0, .slice none 0 0, .slice none 0 0], .agg #[.int .i64 0, .int .i64 0, .slice none 0 0, .int .i64 0, .int .i64 0, .slice none 0 0, .slice none 0 0]], []⟩ 8 (by kernel_rfl) (by kernel_rfl) (by kernel_rfl) (by kernel_rfl)) ?_
  intro W base args ds gs before hval0 hW hcnd _
  have hval : ∀ (j : Nat) t v, Try.f3.params[j]? = some t → args[j]? = some v → Value.okWide Try.prog W .any base t v := hval0
  have hW' := hW
  obtain ⟨p, q, hA0, hV, rfl, hfz, hnd⟩ := hW
  have hA : DataW.TrodAll enc Try.prog W 0 (fun _ => true) true Try.f3.params.toList args.toList ds p := hA0
  rw [Try.params3] at hA hval
  obtain ⟨v0, vs0, d0, ds0, p0, q0, hargs, rfl, rfl, h0, r0⟩ := trodAll_cons hA
  obtain ⟨v1, vs1, d1, ds1, p1, q1, rfl, rfl, rfl, h1, r1⟩ := trodAll_cons r0
  obtain ⟨rfl, rfl, rfl⟩ := trodAll_nil r1
  obtain rfl : args = #[v0, v1] := by cases args; simp_all
  obtain ⟨rfl, rfl⟩ := trodVars_none hV
  have k0 := h0
  have k1 := h1
  have lt0 : ∀ x ∈ p0, x.block < W.heap.size := by obtain ⟨m, hm⟩ := k0; exact DataW.trod_lt m _ _ _ hm
  have lt1 : ∀ x ∈ p1, x.block < W.heap.size := by obtain ⟨m, hm⟩ := k1; exact DataW.trod_lt m _ _ _ hm
  obtain ⟨t, l, rfl, hM⟩ := task_rd (hval 0 26 v0 rfl rfl) h0
  obtain ⟨g, gl, rfl, hG⟩ := good_rd (hval 1 28 v1 rfl rfl) h1
  clear hA0 hval0
  refine (law_c hM hG).mono fun e W' ⟨he, bel⟩ => ?_
  subst he
  exact ⟨_, rfl, _, _, _, [], _, [], hW', trodAll_mk1 (shut_bool Try.underlying4 _), (trodAll_cons_mk (Below.trod laidOut (by kernel_rfl) (of_decide_eq_true (by kernel_rfl)) k0 bel lt0) (trodAll_cons_mk (Below.trod laidOut (by kernel_rfl) (of_decide_eq_true (by kernel_rfl)) k1 bel lt1) trodAll_mk0)), rfl, bel.frame _, fun h => by cases h⟩
theorem over : Rows.topProvedFieldRow.holds Try.pinned (OpenSpec.ofChange Rows.topProvedFieldSpec) :=
  OpenClaim.holds_of_wide 3 Try.f3 rfl rfl rfl rfl rfl rfl rfl ⟨rfl, rfl, rfl, rfl, rfl⟩ rfl rfl rfl rfl rfl (by kernel_rfl) Try.func3 (by kernel_rfl)
    (of_decide_eq_true (by kernel_rfl)) (by unfold Func.isWrapper; first | (rw [if_pos (by decide +kernel)]; kernel_rfl) | (rw [if_neg (by decide +kernel)]; exact ⟨rfl, rfl⟩))
    (fun os started H enc _ => lifted os started H enc)
theorem proved : Rows.TopProvedFieldSaid := over
end Go.Proofs.Ytjnpchoinncbnaa.topProvedField
end
