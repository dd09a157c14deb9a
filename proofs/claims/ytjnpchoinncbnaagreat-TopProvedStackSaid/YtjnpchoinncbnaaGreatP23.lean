/- Proves parts of the statement, each under the conditions that its theorem states: Contracts of CheckNet, open, and SolveNet, at a right net; A way along a forest, in plain words; A way along a forest, in plain words: rounds; Slices of anything that are appended whole. -/
import Derived.Test.YtjnpchoinncbnaaGreatP22
import Derived.Test.YtjnpchoinncbnaaGreatP07
import Derived.Test.YtjnpchoinncbnaaGreatP12
import Derived.Test.YtjnpchoinncbnaaGreatP08
set_option linter.unusedSimpArgs false
set_option linter.unusedVariables false
set_option maxHeartbeats 4000000
set_option maxRecDepth 100000
section
namespace Go.Proofs.YtjnpchoinncbnaaGreat
open Go.RowKit Sw Fam
theorem isWeight_c (k : Int) (hk : 0 ≤ k ∧ k ≤ 1000) (w : World) : Calls Tryz.prog 72 #[.int .i64 k] w fun e w' => e = .returned (.bool true) ∧ w = w' := by
  go_enter Tryz.func72, Tryz.ntmps72
  go_wp2_with (refine (within_c _ _ _ true (by simp; omega) _).mono ?_; rintro e w' ⟨rfl, rfl⟩)
  go_ret
  exact ⟨rfl, rfl⟩
theorem checkNet_c {n J : Nat} {es : List Ed} (hg : Gd n J es) {A : Option Addr} {ca : Nat} {w : World} (hE : RdE w A es) :
    Calls Tryz.prog 49 #[.agg #[.int .i64 n, .slice A es.length ca]] w fun r w' => r = .returned (.tuple #[.int .i64 0, .int .i64 0]) ∧ Below w.heap.size w w' := by
  have hm := hg.m_le
  have hn := hg.n_le
  have HG := Lib.hid hg; clear hg
  have HE := Lib.hid hE; clear hE
  go_enter Tryz.func49, Tryz.ntmps49
  go_wp2_with (refine (within_c _ _ _ true (by simp; omega) _).mono ?_; rintro e w' ⟨rfl, rfl⟩)
  go_loopw [19] (fun v19 wr => ∃ k : Nat, v19 = .int .i64 k ∧ k ≤ es.length ∧ Below w.heap.size w wr ∧ wr.heap[w.heap.size]? = some (.cells #[.int .i64 n, .slice A es.length ca] 37 (0, 0))) (fun v19 _ => es.length - (intOf v19).toNat)
  case atStart => exact ⟨0, rfl, Nat.zero_le _, (Below.refl _ _).alloc (Nat.le_refl _) _, World.alloc_heap_new w _⟩
  case round =>
    obtain ⟨k, rfl, hk, hB, hN⟩ := hrel
    have n0 : wr.cell? ⟨w.heap.size, 0, none⟩ = some (.int .i64 n) := block_cell hN (j := 0) (by simp)
    have HN := Lib.hid hN; clear hN
    by_cases hlt : k < es.length
    · obtain ⟨b, o, rfl, c0, c1, c2, c3⟩ := (HE.out.keep hB) k hlt
      obtain ⟨e1, e2, e3⟩ := HG.out.ends k hlt
      obtain ⟨j1, j2⟩ := HG.out.jump k hlt
      have hJ := HG.out.J_le
      have hwt := HG.out.wt k hlt
      have HBe := Lib.hid hB; clear hB
      have hwl : w.heap.size < wr.heap.size := World.block_lt_of_cell? _ _ n0
      go_wp2_with (first | (refine (within_c _ _ _ true (by simp; omega) _).mono ?_; rintro e w' ⟨rfl, rfl⟩) | (refine (isWeight_c _ (by omega) _).mono ?_; rintro e w' ⟨rfl, rfl⟩))
      go_roundw
      case rel => exact ⟨k + 1, by go_num, by omega, HBe.out.trans ((Below.refl _ _).alloc (Nat.le_of_lt hwl) _), (Below.heap_alloc _ _ _ hwl).trans HN.out⟩
      case measure => simp [intOf]; omega
    · have : k = es.length := by omega
      subst this
      go_wp2_with fail
      go_ret2
      exact ⟨rfl, hB⟩
theorem open_c {n J : Nat} {es : List Ed} (hg : Gd n J es) {A : Option Addr} {ca : Nat} {w : World} (hE : RdE w A es) :
    Calls Tryz.prog 32 #[.agg #[.int .i64 n, .slice A es.length ca]] w fun r w' => r = .returned (.tuple #[.agg #[.int .i64 n, .slice A es.length ca], .int .i64 0]) ∧ Below w.heap.size w w' := by
  have HC : ∀ w', Below w.heap.size w w' → Calls Tryz.prog 49 #[.agg #[.int .i64 n, .slice A es.length ca]] w' _ := fun w' hb => checkNet_c hg (hE.keep hb)
  have H := Lib.hid (HC _ (((Below.refl _ _).alloc (Nat.le_refl _) (.cells #[.int .i64 n, .slice A es.length ca] 37)).alloc (by simp) (.cells #[.int .i64 0, .slice none 0 0] 71)))
  clear HC hE hg
  go_enter Tryz.func32, Tryz.ntmps32
  go_wp2_with fail
  refine H.out.mono ?_
  rintro e w' ⟨rfl, hB⟩
  have HB := Lib.hid hB
  have h1 := (hB.block w.heap.size (by simp; omega)).trans ((Below.heap_alloc _ _ _ (by simp)).trans (World.alloc_heap_new w _))
  have e2 := World.alloc_heap_new (w.alloc (.cells #[.int .i64 n, .slice A es.length ca] 37)) (.cells #[.int .i64 0, .slice none 0 0] 71)
  rw [World.size_alloc] at e2
  have h2 := (hB.block (w.heap.size + 1) (by simp)).trans e2
  have a0 : w'.cell? ⟨w.heap.size, 0, none⟩ = some (.int .i64 n) := block_cell h1 (j := 0) (by simp)
  have a1 : w'.cell? ⟨w.heap.size, 1, none⟩ = some (.slice A es.length ca) := block_cell h1 (j := 1) (by simp)
  have b0 : w'.cell? ⟨w.heap.size + 1, 0, none⟩ = some (.int .i64 0) := block_cell h2 (j := 0) (by simp)
  have b1 : w'.cell? ⟨w.heap.size + 1, 1, none⟩ = some (.slice none 0 0) := block_cell h2 (j := 1) (by simp)
  have f0 : w'.frozen? ⟨w.heap.size + 1, 0, none⟩ = false := by simp [World.frozen?, h2]
  have f1 : w'.frozen? ⟨w.heap.size + 1, 1, none⟩ = false := by simp [World.frozen?, h2]
  clear hB h1 h2 e2
  go_wp2_with fail
  refine bodyPost_ret (v := .tuple #[.agg #[.int .i64 n, .slice A es.length ca], .int .i64 0]) ?_ rfl ⟨rfl, ?_⟩
  · simp [results, Tryz.results32, go_sem, a0, a1, b0, b1, f0, f1]
  · have b3 := (((Below.refl w.heap.size w).alloc (Nat.le_refl _) (.cells #[.int .i64 n, .slice A es.length ca] 37)).alloc (by simp) (.cells #[.int .i64 0, .slice none 0 0] 71)).trans (HB.out.mono (by simp; omega))
    exact (b3.setCell (by simp) _).setCell (by simp) _
def SolveNetPost (n J : Nat) (es : List Ed) (w : World) (e : Ending) (w' : World) : Prop :=
  ∃ (q x : List Int) (P X : Nat), e = .returned (.tuple #[.slice (some ⟨P, 0, none⟩) n n, .slice (some ⟨X, 0, none⟩) es.length es.length, .int .i64 (cost es q), .int .i64 0]) ∧ Below w.heap.size w w' ∧ IntB w' P q ∧ IntB w' X x ∧ Solved n J es q x (cost es q)
theorem solved_pb {n J : Nat} {es : List Ed} (hg : Gd n J es) {q x : List Int} {c : Int} (h : Solved n J es q x c) : PB n q := by
  refine ⟨h.lenq, fun v hv => ?_⟩
  have := h.bound v hv
  have := nJ_le hg
  omega
theorem solveNet_c {n J : Nat} {es : List Ed} (hg : Gd n J es) (hn1 : 0 ≤ n) {A : Option Addr} {ca : Nat} {w : World} (hE : RdE w A es) :
    Calls Tryz.prog 17 #[.agg #[.int .i64 n, .slice A es.length ca]] w (SolveNetPost n J es w) := by
  have HO : ∀ w', Below w.heap.size w w' → Calls Tryz.prog 32 #[.agg #[.int .i64 n, .slice A es.length ca]] w' _ := fun w' hb => open_c hg (hE.keep hb)
  have H := Lib.hid (HO _ ((Below.refl _ _).alloc (Nat.le_refl _) (.cells #[.int .i64 n, .slice A es.length ca] 37)))
  clear HO
  have HG := Lib.hid hg; clear hg
  have HE := Lib.hid hE; clear hE
  go_enter Tryz.func17, Tryz.ntmps17
  go_wp2_with fail
  refine H.out.mono ?_
  rintro e w1 ⟨rfl, hB⟩
  have hB1 : Below w.heap.size w w1 := ((Below.refl _ _).alloc (Nat.le_refl _) _).trans (hB.mono (by simp))
  have HB1 := Lib.hid hB1
  clear hB hB1 H
  go_wp2_with fail
  generalize hW2 : w1.alloc _ = w2
  have hb2 : Below w1.heap.size w1 w2 := by rw [← hW2]; exact (Below.refl _ _).alloc (Nat.le_refl _) _
  have hN2 : w2.heap[w1.heap.size]? = some (.cells #[.int .i64 n, .slice A es.length ca] 71 (0, 0)) := by rw [← hW2]; exact World.alloc_heap_new w1 _
  clear hW2
  have hB2 : Below w.heap.size w w2 := HB1.out.trans (hb2.mono HB1.out.size)
  have HB2 := Lib.hid hB2
  have HN2 := Lib.hid hN2
  refine (solve_c HG.out hn1 (ca := ca) (HE.out.keep hB2)).mono ?_
  rintro e w3 ⟨v, x, q, rfl, hB3, k1, k2, k3, hS, hSo⟩
  have HB3 := Lib.hid hB3
  have hN3 := (hB3.block _ (Array.getElem?_eq_some_iff.1 HN2.out).1).trans HN2.out
  have HN3 := Lib.hid hN3
  have n0 : w3.cell? ⟨w1.heap.size, 0, none⟩ = some (.int .i64 n) := block_cell hN3 (j := 0) (by simp)
  have n1 : w3.cell? ⟨w1.heap.size, 1, none⟩ = some (.slice A es.length ca) := block_cell hN3 (j := 1) (by simp)
  have s2 : w3.cell? ⟨v.S, 2, none⟩ = some (.slice (some ⟨v.x, 0, none⟩) es.length es.length) := block_cell hS.blk (j := 2) (by simp)
  have s3 : w3.cell? ⟨v.S, 3, none⟩ = some (.slice (some ⟨v.p, 0, none⟩) n n) := block_cell hS.blk (j := 3) (by simp)
  have HS := Lib.hid (And.intro hS hSo)
  clear hb2 hN2 hB2 hB3 hN3 hS hSo
  go_wp2_with fail
  refine region_rel (by kernel_rfl) (by kernel_rfl) (by kernel_rfl) (fun _ _ w' => Below w3.heap.size w3 w') ((Below.refl _ _).drew) ?_
  (repeat (refine relq rfl rfl (fun _ _ _ h => h) (fun K hK => ?_); go_big_quiet_op; (refine hK _ ?_; clear hK K)))
  (refine relk_nil rfl _ rfl _ rfl (fun _ _ _ h => h) (fun K hK => ?_); simp only [Fam.pt]; (refine hK _ ?_; clear hK K))
  (repeat (refine relq rfl rfl (fun _ _ _ h => h) (fun K hK => ?_); go_big_quiet_op; (refine hK _ ?_; clear hK K)))
  (refine relk_val rfl _ (fun _ _ _ h => h) (fun V L w' h1 h2 h3 hC => ex_load1 _ _ rfl _ rfl (cellB hC s3) _ Tryz.underlying26 rfl) (fun K hK => ?_); simp only [Fam.pt]; (refine hK _ ?_; clear hK K))
  (repeat (refine relq rfl rfl (fun _ _ _ h => h) (fun K hK => ?_); go_big_quiet_op; (refine hK _ ?_; clear hK K)))
  (refine relk_nil rfl _ rfl _ rfl (fun _ _ _ h => h) (fun K hK => ?_); simp only [Fam.pt]; (refine hK _ ?_; clear hK K))
  (repeat (refine relq rfl rfl (fun _ _ _ h => h) (fun K hK => ?_); go_big_quiet_op; (refine hK _ ?_; clear hK K)))
  (refine relk_val rfl _ (fun _ _ _ h => h) (fun V L w' h1 h2 h3 hC => ex_load1 _ _ rfl _ rfl (cellB hC s2) _ Tryz.underlying26 rfl) (fun K hK => ?_); simp only [Fam.pt]; (refine hK _ ?_; clear hK K))
  refine relk_val rfl (.agg #[.int .i64 n, .slice A es.length ca]) (fun _ _ _ h => h) (fun V L w' h1 h2 h3 hC => ex_loadN 71 _ rfl w1.heap.size 0 rfl [.int .i64 n, .slice A es.length ca] _ (fun j v hj => by
    have hb := (hC.block _ (Array.getElem?_eq_some_iff.1 HN3.out).1).trans HN3.out
    obtain ⟨j1, j2⟩ := List.getElem?_eq_some_iff.1 hj
    rw [Nat.zero_add, block_cell hb (j := j) (by simpa using j1)]
    simp [← j2]) Tryz.underlying71 rfl (by kernel_rfl)) (fun K hK => ?_)
  simp only [Fam.pt]
  refine hK _ ?_
  clear hK K
  (repeat (refine relq rfl rfl (fun _ _ _ h => h) (fun K hK => ?_); go_big_quiet_op; (refine hK _ ?_; clear hK K)))
  (refine relk_nil rfl _ rfl _ rfl (fun _ _ _ h => h) (fun K hK => ?_); simp only [Fam.pt]; (refine hK _ ?_; clear hK K))
  (repeat (refine relq rfl rfl (fun _ _ _ h => h) (fun K hK => ?_); go_big_quiet_op; (refine hK _ ?_; clear hK K)))
  (refine relk_val rfl _ (fun _ _ _ h => h) (fun V L w' h1 h2 h3 hC => ex_load1 _ _ rfl _ rfl (cellB hC s3) _ Tryz.underlying26 rfl) (fun K hK => ?_); simp only [Fam.pt]; (refine hK _ ?_; clear hK K))
  refine relk_fix rfl (.int .i64 (cost es q)) (fun V L w4 h1 h2 h3 hC => ?_) (fun K hK => ?_)
  · rw [ex_call2 34 (.tmp 27) (.tmp 31) _ rfl rfl rfl rfl (enters_fn Tryz.func34 (by kernel_rfl) rfl)]
    have hbw : Below w.heap.size w w4 := (HB2.out.trans (HB3.out.mono HB2.out.size)).trans (hC.mono (by have := HB2.out.size; have := HB3.out.size; omega))
    refine (cost_c HG.out (solved_pb HG.out HS.out.2) (HE.out.keep hbw) (HS.out.1.tu.rd.keep hC)).mono ?_
    rintro e w' ⟨rfl, h⟩
    exact ⟨_, rfl, rfl, hC.trans (h.mono hC.size)⟩
  simp only [Fam.pt]
  refine hK _ ?_
  clear hK K
  (repeat (refine relq rfl rfl (fun _ _ _ h => h) (fun K hK => ?_); go_big_quiet_op; (refine hK _ ?_; clear hK K)))
  refine relk_end (fun L V w4 hL hC => ?_)
  go_wp2_with fail
  have hbw : Below w.heap.size w w4 := (HB2.out.trans (HB3.out.mono HB2.out.size)).trans (hC.mono (by have := HB2.out.size; have := HB3.out.size; omega))
  refine bodyPost_ret (v := .tuple #[.slice (some ⟨v.p, 0, none⟩) n n, .slice (some ⟨v.x, 0, none⟩) es.length es.length, .int .i64 (cost es q), .int .i64 0]) ?_ rfl ⟨q, x, v.p, v.x, rfl, hbw, HS.out.1.tu.keep hC, HS.out.1.fl.keep hC, HS.out.2⟩
  simp [results, Tryz.results17, go_sem]
end Go.Proofs.YtjnpchoinncbnaaGreat
end
section
namespace Sw
structure St2 where
  i : Nat
  sg : Int
def gst (l : List St2) (k : Nat) : St2 := l.getD k ⟨0, 0⟩
def stS (ps : List Pr) (x : St2) : Nat := if x.sg = 1 then (gq ps x.i).f else (gq ps x.i).s
def stE (ps : List Pr) (x : St2) : Nat := if x.sg = 1 then (gq ps x.i).s else (gq ps x.i).f
inductive Chn (ps : List Pr) (F : List Int) : Nat → Nat → List St2 → Prop
  | nil (v : Nat) : Chn ps F v v []
  | cons {x : St2} {to : Nat} {l : List St2} : (x.i : Int) ∈ F → (x.sg = 1 ∨ x.sg = -1) → Chn ps F (stE ps x) to l → Chn ps F (stS ps x) to (x :: l)
def sumP (ph : List Int) : List St2 → Int
  | [] => 0
  | x :: l => x.sg * gi ph x.i + sumP ph l
theorem Chn.sum {ps : List Pr} {F ph : List Int} {p : Nat → Int} (hp : ∀ i : Nat, (i : Int) ∈ F → p (gq ps i).s - p (gq ps i).f = gi ph i) : ∀ {a b : Nat} {l : List St2}, Chn ps F a b l → p b = p a + sumP ph l := by
  intro a b l h
  induction h with
  | nil v => simp [sumP]
  | @cons x to l h1 h2 h3 ih =>
    have := hp x.i h1
    unfold sumP stS
    unfold stE at ih
    rcases h2 with h2 | h2
    · rw [h2] at ih ⊢
      simp at ih ⊢
      omega
    · rw [h2] at ih ⊢
      simp at ih ⊢
      omega
structure WayS (n : Nat) (ps : List Pr) (F : List Int) (src : Nat) (seen : List Bool) (by_ : List St2) (rk : Nat → Nat) : Prop where
  ls : seen.length = n
  lb : by_.length = n
  sr : gb seen src = true
  st : ∀ b, b < n → gb seen b = true → b ≠ src → ((gst by_ b).i : Int) ∈ F ∧ ((gst by_ b).sg = 1 ∨ (gst by_ b).sg = -1) ∧ stE ps (gst by_ b) = b ∧ stS ps (gst by_ b) < n ∧ gb seen (stS ps (gst by_ b)) = true ∧ rk (stS ps (gst by_ b)) < rk b
  rkn : ∀ b, b < n → gb seen b = true → rk b < cnt seen
section
variable {n : Nat} {ps : List Pr} {F : List Int} {src : Nat} {seen : List Bool} {by_ : List St2} {rk : Nat → Nat}
theorem gst_set {l : List St2} {i j : Nat} {x : St2} (hi : i < l.length) : gst (l.set i x) j = if i = j then x else gst l j := by
  unfold gst
  by_cases h : i = j
  · subst h; simp [hi]
  · simp [h]
theorem WayS.start (n : Nat) (ps : List Pr) (F : List Int) {src : Nat} (h : src < n) : WayS n ps F src ((List.replicate n false).set src true) (List.replicate n ⟨0, 0⟩) (fun _ => 0) := by
  have hu : ∀ b, gb ((List.replicate n false).set src true) b = true → b = src := fun b hb => by
    rw [gb_put _ _ _ (by simpa using h)] at hb
    by_cases e : src = b
    · exact e.symm
    · rw [if_neg e] at hb
      by_cases hbn : b < n <;> simp [gb, hbn] at hb
  refine ⟨by simp, by simp, by rw [gb_put _ _ _ (by simpa using h), if_pos rfl], fun b _ hb hne => absurd (hu b hb) hne, fun b _ hb => ?_⟩
  have := cnt_set (List.replicate n false) src (by simpa using h) (by simp [gb, h])
  omega
theorem WayS.add (h : WayS n ps F src seen by_ rk) {x : St2} (hF : (x.i : Int) ∈ F) (hs : x.sg = 1 ∨ x.sg = -1) (ha : stS ps x < n) (hb : stE ps x < n) (h1 : gb seen (stS ps x) = true) (h2 : gb seen (stE ps x) = false) :
    WayS n ps F src (seen.set (stE ps x) true) (by_.set (stE ps x) x) (fun v => if v = stE ps x then cnt seen else rk v) := by
  have hl : stE ps x < seen.length := by rw [h.ls]; exact hb
  have hl2 : stE ps x < by_.length := by rw [h.lb]; exact hb
  have hc := cnt_set seen (stE ps x) hl h2
  have hne : stS ps x ≠ stE ps x := fun e => by rw [e, h2] at h1; cases h1
  refine ⟨by rw [List.length_set]; exact h.ls, by rw [List.length_set]; exact h.lb, ?_, fun b hbn hg hbs => ?_, fun b hbn hg => ?_⟩
  · rw [gb_put _ _ _ hl]; split
    · rfl
    · exact h.sr
  · rw [gst_set hl2]
    rw [gb_put _ _ _ hl] at hg
    by_cases e : stE ps x = b
    · rw [if_pos e]
      refine ⟨hF, hs, e, ha, ?_, ?_⟩
      · rw [gb_put _ _ _ hl]; split
        · rfl
        · exact h1
      · rw [if_neg hne, if_pos e.symm]
        exact h.rkn _ ha h1
    · rw [if_neg e] at hg ⊢
      obtain ⟨k1, k2, k3, k4, k5, k6⟩ := h.st b hbn hg hbs
      refine ⟨k1, k2, k3, k4, ?_, ?_⟩
      · rw [gb_put _ _ _ hl]; split
        · rfl
        · exact k5
      · have e2 : stS ps (gst by_ b) ≠ stE ps x := fun e3 => by rw [e3, h2] at k5; cases k5
        rw [if_neg e2, if_neg (fun e3 => e e3.symm)]
        exact k6
  · rw [hc]
    rw [gb_put _ _ _ hl] at hg
    by_cases e : b = stE ps x
    · simp only [if_pos e]; omega
    · rw [if_neg (fun e3 => e e3.symm)] at hg
      simp only [if_neg e]
      have := h.rkn b hbn hg
      omega
end
end Sw
end
section
namespace Sw
def stK (F : List Int) (k : Nat) : St2 := ⟨(gi F (k / 2)).toNat, if k % 2 = 0 then -1 else 1⟩
def ClA (ps : List Pr) (F : List Int) (seen : List Bool) : Prop := ∀ j, j < 2 * F.length → gb seen (stS ps (stK F j)) = true → gb seen (stE ps (stK F j)) = true
def Rd (ps : List Pr) (F : List Int) (seen0 seen : List Bool) (k : Nat) : Prop := (cnt seen0 + 1 ≤ cnt seen ∧ ¬ ClA ps F seen0) ∨ (seen = seen0 ∧ ∀ j, j < k → gb seen (stS ps (stK F j)) = true → gb seen (stE ps (stK F j)) = true)
def Ou (ps : List Pr) (F : List Int) (seen : List Bool) (r : Nat) : Prop := r + 1 ≤ cnt seen ∨ ClA ps F seen
section
variable {ps : List Pr} {F : List Int} {seen0 seen : List Bool} {k r : Nat}
theorem Rd.start : Rd ps F seen0 seen0 0 := .inr ⟨rfl, fun j hj => absurd hj (Nat.not_lt_zero _)⟩
theorem Rd.skip (h : Rd ps F seen0 seen k) (hk : gb seen (stS ps (stK F k)) = true → gb seen (stE ps (stK F k)) = true) : Rd ps F seen0 seen (k + 1) := by
  rcases h with h | ⟨h1, h2⟩
  · exact .inl h
  · refine .inr ⟨h1, fun j hj => ?_⟩
    by_cases e : j = k
    · subst e; exact hk
    · exact h2 j (by omega)
theorem Rd.add (h : Rd ps F seen0 seen k) (hk : k < 2 * F.length) {b : Nat} (hb : b < seen.length) (h1 : gb seen (stS ps (stK F k)) = true) (h2 : gb seen b = false) (he : stE ps (stK F k) = b) : Rd ps F seen0 (seen.set b true) (k + 1) := by
  have hc := cnt_set seen b hb h2
  rcases h with ⟨k1, k2⟩ | ⟨k1, k2⟩
  · exact .inl ⟨by omega, k2⟩
  · refine .inl ⟨by rw [hc, k1]; omega, fun hcl => ?_⟩
    rw [← k1] at hcl
    have := hcl k hk h1
    rw [he, h2] at this
    cases this
theorem Rd.fin (h : Rd ps F seen0 seen (2 * F.length)) (ho : Ou ps F seen0 r) : Ou ps F seen (r + 1) := by
  rcases h with ⟨k1, k2⟩ | ⟨k1, k2⟩
  · rcases ho with ho | ho
    · exact .inl (by omega)
    · exact absurd ho k2
  · exact .inr k2
theorem Ou.closed {n : Nat} (h : Ou ps F seen n) (hl : seen.length = n) : ClA ps F seen := by
  rcases h with h | h
  · have := cnt_le seen; omega
  · exact h
theorem ClA.reach {n : Nat} (h : ClA ps F seen) (hF : ∀ j, j < F.length → 0 ≤ gi F j) {a b : Nat} (hcl : ∀ d : Nat → Int, (∀ i : Nat, (i : Int) ∈ F → d (gq ps i).f = d (gq ps i).s) → d a = d b) (ha : gb seen a = true) : gb seen b = true := by
  have h1 := hcl (fun v => if gb seen v = true then 1 else 0) (fun i hi => by
    obtain ⟨j, hj, e⟩ := List.mem_iff_getElem.1 hi
    have e0 : gi F j = (i : Int) := by simp [gi, hj, e]
    have e1 : (gi F j).toNat = i := by omega
    have k0 : stK F (2 * j) = ⟨i, -1⟩ := by unfold stK; rw [show 2 * j / 2 = j by omega, e1, if_pos (by omega)]
    have k1 : stK F (2 * j + 1) = ⟨i, 1⟩ := by unfold stK; rw [show (2 * j + 1) / 2 = j by omega, e1, if_neg (by omega)]
    have c0 := h (2 * j) (by omega)
    have c1 := h (2 * j + 1) (by omega)
    rw [k0] at c0
    rw [k1] at c1
    unfold stS stE at c0 c1
    simp at c0 c1
    by_cases hf : gb seen (gq ps i).f = true
    · simp [hf, c1 hf]
    · by_cases hs : gb seen (gq ps i).s = true
      · exact absurd (c0 hs) hf
      · simp [hf, hs])
  by_cases hb : gb seen b = true
  · exact hb
  · simp [ha, hb] at h1
end
end Sw
end
section
namespace Go.Proofs.YtjnpchoinncbnaaGreat
open Go.RowKit Sw Fam
section
variable {P : Program} {α : Type} {enc : α → List Value} {e t : TypeId} {k : Nat}
theorem run_append_zero {w : World} {i : TypeInfo} {A Y : Option Addr} {n c c2 : Nat} (ht : P.underlying t = some (.slice e)) (hi : P.info? e = some i) (ty : TypeId) (hc : n ≤ c) (hn : A = none → n = 0) : (Builtin.append_ #[t, t] ty #[.slice A n c, .slice Y 0 c2]).run P w = .ok (.slice A n c) w := by
  cases A with
  | none =>
    obtain rfl := hn rfl
    cases Y <;> simp [Builtin.append_, run_underlying ht, sizeOf, typeInfo, hi, Builtin.lenOf, Builtin.firstCells, loadCells, loadCellsFrom]
  | some a =>
    cases Y <;> simp [Builtin.append_, run_underlying ht, sizeOf, typeInfo, hi, Builtin.lenOf, Builtin.firstCells, loadCells, loadCellsFrom, hc, storeCells]
def RdG (enc : α → List Value) (k : Nat) (w : World) (Y : Option Addr) (ys : List α) : Prop := ∀ j (hj : j < ys.length), ∃ b o, Y = some ⟨b, o, none⟩ ∧ ∀ i, i < k → w.cell? ⟨b, o + j * k + i, none⟩ = (enc ys[j])[i]?
theorem RdG.keep {w w' : World} {Y : Option Addr} {ys : List α} (hk : ∀ x, (enc x).length = k) (h : RdG enc k w Y ys) (hb : Below w.heap.size w w') : RdG enc k w' Y ys := fun j hj => by
  obtain ⟨b, o, h1, h2⟩ := h j hj
  refine ⟨b, o, h1, fun i hi => ?_⟩
  have h3 := h2 i hi
  have h4 : i < (enc ys[j]).length := by rw [hk]; exact hi
  rw [List.getElem?_eq_getElem h4] at h3 ⊢
  exact cell_keep hb h3
theorem GrF.rdG {w : World} {B c : Nat} {A : Option Addr} {xs : List α} (hk : ∀ x, (enc x).length = k) (hk0 : 0 < k) (h : GrF enc e k w B A c xs) : RdG enc k w A xs := fun j hj => by
  obtain ⟨b, o, h1, _, _⟩ := GrF.cell hk h (i := 0) hk0 hj
  refine ⟨b, o, h1, fun i hi => ?_⟩
  obtain ⟨b', o', h1', _, h2⟩ := GrF.cell hk h hi hj
  rw [h1] at h1'
  injection h1' with h1'; injection h1' with e1 e2
  subst e1 e2
  exact h2
theorem run_append_rd {w : World} {i : TypeInfo} {z : Value} {bytes : Nat} (ht : P.underlying t = some (.slice e)) (hi : P.info? e = some i) (hz : i.zero = some z) (hsz : i.size = k) (hby : i.bytes = bytes) (hzs : z.cells.size = k) (hbm : bytes ≤ 1000)
    (hk : ∀ x, (enc x).length = k) (hk0 : 0 < k) (h1 : ∀ x, ∀ u ∈ enc x, u.oneCell' = true) {B c c2 : Nat} {A Y : Option Addr} {xs ys : List α} (h : GrF enc e k w B A c xs) (ty : TypeId) (hy : RdG enc k w Y ys) (hlen : xs.length + ys.length ≤ 1000000) (hB : B ≤ w.heap.size) :
    ∃ A' c' w', (Builtin.append_ #[t, t] ty #[.slice A xs.length c, .slice Y ys.length c2]).run P w = .ok (.slice A' (xs.length + ys.length) c') w' ∧ GrF enc e k w' B A' c' (xs ++ ys) ∧ w.grownBy w' (A.map (·.block)) := by
  by_cases h0 : ys.length = 0
  · have e : ys = [] := List.eq_nil_of_length_eq_zero h0
    subst e
    have hr := run_append_zero (w := w) (Y := Y) (c2 := c2) ht hi ty h.le (fun e => by have := h.non e; have := h.le; omega)
    exact ⟨A, c, w, hr, by rw [List.append_nil]; exact h, ⟨rfl, rfl, rfl, Nat.le_refl _, fun _ _ _ => rfl⟩⟩
  · obtain ⟨b, o, rfl, _⟩ := hy 0 (by omega)
    obtain ⟨A', c', w', k1, k2, k3, _⟩ := run_append_gr (P := P) (ty := ty) ht hi hz hsz hby hzs hk h1 h ys ⟨b, o, none⟩ c2 (fun j u hj => by
      have hjl := (List.getElem?_eq_some_iff.1 hj).1
      rw [flat_len hk] at hjl
      have hq : j / k < ys.length := Nat.div_lt_of_lt_mul (by rw [Nat.mul_comm]; exact hjl)
      have hr : j % k < k := Nat.mod_lt _ hk0
      have h6 := flat_get hk ys (j / k) (j % k) hr hq
      have e : j / k * k + j % k = j := by rw [Nat.mul_comm]; exact Nat.div_add_mod j k
      rw [e, hj, List.getElem?_eq_getElem hq, Option.bind_some] at h6
      obtain ⟨b', o', e2, hc⟩ := hy (j / k) hq
      cases e2
      have := hc (j % k) hr
      rw [← h6] at this
      rw [← this]
      simp only [Addr.add_lit]
      rw [Nat.add_assoc, e]) (by omega) hlen hbm hB
    exact ⟨_, c', w', k1, k2, k3⟩
end
end Go.Proofs.YtjnpchoinncbnaaGreat
end
