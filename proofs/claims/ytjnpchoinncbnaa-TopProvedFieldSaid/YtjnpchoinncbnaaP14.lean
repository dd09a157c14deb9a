/- Proves parts of the statement, each under the conditions that its theorem states: Contracts of excess and cost, and of the reference's Excess and Cost; Contracts of CheckNet, open, and SolveNet, at a right net; Right tasks, and the reference's CheckTask; The reference's CheckTask. -/
import Derived.Test.YtjnpchoinncbnaaP07
import Derived.Test.YtjnpchoinncbnaaP04
import Derived.IntWalk
import Derived.Test.YtjnpchoinncbnaaP13
import Derived.Test.YtjnpchoinncbnaaP02
import Derived.Test.YtjnpchoinncbnaaP03
section
set_option linter.unusedSimpArgs false
set_option linter.unusedVariables false
namespace Go.Fam
end Go.Fam
namespace Go.Proofs.Ytjnpchoinncbnaa
open Go.RowKit Sw Fam
def costk (es : List Ed) (p : List Int) (k : Nat) : Int := sm k fun i => (ge es i).k * ab (exc (ge es i) p)
def edV (e : Ed) : Value := .agg #[.int .i64 e.f, .int .i64 e.t, .int .i64 e.j, .int .i64 e.k]
def PB (n : Nat) (p : List Int) : Prop := p.length = n ∧ ∀ v, v < n → -1000000000 ≤ gi p v ∧ gi p v ≤ 1000000000
theorem exc_bound {n J : Nat} {es : List Ed} (hg : Gd n J es) {p : List Int} (hp : PB n p) {k : Nat} (hk : k < es.length) : -2000001000 ≤ exc (ge es k) p ∧ exc (ge es k) p ≤ 2000001000 := by
  obtain ⟨e1, e2, _⟩ := hg.ends k hk
  have := hp.2 _ e1
  have := hp.2 _ e2
  have := hg.jump k hk
  have := hg.J_le
  unfold exc; omega
theorem costk_bound {n J : Nat} {es : List Ed} (hg : Gd n J es) {p : List Int} (hp : PB n p) {k : Nat} (hk : k ≤ es.length) : 0 ≤ costk es p k ∧ costk es p k ≤ 2000001000000 * (k : Int) := by
  induction k with
  | zero => simp [costk, sm]
  | succ k ih =>
    have h1 := ih (by omega)
    have h2 := exc_bound hg hp (show k < es.length by omega)
    have h3 := hg.wt k (by omega)
    have e : costk es p (k + 1) = costk es p k + (ge es k).k * ab (exc (ge es k) p) := rfl
    rw [e]
    have h4 : 0 ≤ ab (exc (ge es k) p) ∧ ab (exc (ge es k) p) ≤ 2000001000 := by unfold ab; omega
    have h5 : ((ge es k).k : Int) * ab (exc (ge es k) p) ≤ 1000 * 2000001000 := Int.mul_le_mul (by omega) h4.2 h4.1 (by omega)
    have h6 : 0 ≤ ((ge es k).k : Int) * ab (exc (ge es k) p) := Int.mul_nonneg (by omega) h4.1
    omega
set_option maxRecDepth 100000 in
theorem excess_c {n : Nat} {e : Ed} {p : List Int} {A : Option Addr} {c : Nat} {w : World} (hn : n ≤ 100000) (hp : PB n p) (hr : RdI w A p) (h1 : e.f < n) (h2 : e.t < n) (hj : -1000 ≤ e.j ∧ e.j ≤ 1000) :
    Calls Try.prog 46 #[edV e, .slice A n c] w fun r w' => r = .returned (.int .i64 (exc e p)) ∧ Below w.heap.size w w' := by
  obtain ⟨b, o, rfl, c1⟩ := hr e.f (by rw [hp.1]; exact h1)
  obtain ⟨b', o', e', c2⟩ := hr e.t (by rw [hp.1]; exact h2)
  cases e'
  have b1 := hp.2 _ h1
  have b2 := hp.2 _ h2
  clear hr hp
  obtain ⟨b11, b12⟩ := b1
  obtain ⟨b21, b22⟩ := b2
  obtain ⟨j1, j2⟩ := hj
  unfold edV exc
  have hlt : b < w.heap.size := World.block_lt_of_cell? _ _ c1
  go_enter Try.func46, Try.ntmps46
  go_wp2_with fail
  go_quiet (fail)
  go_wp2_with fail
  go_ret
  exact ⟨rfl, below_drewN ((Below.refl _ _).alloc (Nat.le_refl _) _) _⟩
set_option maxRecDepth 100000 in
theorem bexcess_c {n : Nat} {e : Ed} {p : List Int} {A : Option Addr} {c : Nat} {w : World} (hn : n ≤ 100000) (hp : PB n p) (hr : RdI w A p) (h1 : e.f < n) (h2 : e.t < n) (hj : -1000 ≤ e.j ∧ e.j ≤ 1000) :
    Calls Try.prog 51 #[edV e, .slice A n c] w fun r w' => r = .returned (.int .i64 (exc e p)) ∧ Below w.heap.size w w' := by
  obtain ⟨b, o, rfl, c1⟩ := hr e.f (by rw [hp.1]; exact h1)
  obtain ⟨b', o', e', c2⟩ := hr e.t (by rw [hp.1]; exact h2)
  cases e'
  have b1 := hp.2 _ h1
  have b2 := hp.2 _ h2
  clear hr hp
  obtain ⟨b11, b12⟩ := b1
  obtain ⟨b21, b22⟩ := b2
  obtain ⟨j1, j2⟩ := hj
  unfold edV exc
  have hlt : b < w.heap.size := World.block_lt_of_cell? _ _ c1
  go_enter Try.func51, Try.ntmps51
  go_wp2_with fail
  go_quiet (fail)
  go_wp2_with fail
  go_ret
  exact ⟨rfl, below_drewN ((Below.refl _ _).alloc (Nat.le_refl _) _) _⟩
set_option maxHeartbeats 1000000 in
set_option maxRecDepth 100000 in
theorem cost_c {n J : Nat} {es : List Ed} (hg : Gd n J es) {p : List Int} {A B : Option Addr} {ca cb : Nat} {w : World} (hp : PB n p) (hE : RdE w A es) (hP : RdI w B p) :
    Calls Try.prog 24 #[.agg #[.int .i64 n, .slice A es.length ca], .slice B n cb] w fun r w' => r = .returned (.int .i64 (cost es p)) ∧ Below w.heap.size w w' := by
  have hm := hg.m_le
  have hn := hg.n_le
  have HG := Lib.hid hg; clear hg
  have HE := Lib.hid hE; clear hE
  have HP := Lib.hid hP; clear hP
  have HPB := Lib.hid hp; clear hp
  go_enter Try.func24, Try.ntmps24
  go_wp2_with fail
  go_loopw [5, 12] (fun v5 v12 wr => ∃ k : Nat, v12 = .int .i64 k ∧ v5 = .int .i64 (costk es p k) ∧ k ≤ es.length ∧ Below w.heap.size w wr) (fun _ v12 _ => es.length - (intOf v12).toNat)
  case atStart => exact ⟨0, rfl, rfl, Nat.zero_le _, (Below.refl _ _).alloc (Nat.le_refl _) _⟩
  case round =>
    obtain ⟨k, rfl, rfl, hk, hB⟩ := hrel
    by_cases hlt : k < es.length
    · obtain ⟨b, o, rfl, c0, c1, c2, c3⟩ := (HE.out.keep hB) k hlt
      obtain ⟨e1, e2, e3⟩ := HG.out.ends k hlt
      obtain ⟨j1, j2⟩ := HG.out.jump k hlt
      have hJ := HG.out.J_le
      have hwt := HG.out.wt k hlt
      have hex := exc_bound HG.out HPB.out hlt
      have hck := costk_bound HG.out HPB.out (show k ≤ es.length by omega)
      have hck1 := costk_bound HG.out HPB.out (show k + 1 ≤ es.length by omega)
      have HBe := Lib.hid hB; clear hB
      go_wp2_with fail
      generalize hW1 : wr.alloc _ = W1
      have hb1 : Below wr.heap.size wr W1 := by rw [← hW1]; exact (Below.refl _ _).alloc (Nat.le_refl _) _
      have heb : W1.heap[wr.heap.size]? = some (.cells #[.int .i64 (ge es k).f, .int .i64 (ge es k).t, .int .i64 (ge es k).j, .int .i64 (ge es k).k] 66 (0, 0)) := by rw [← hW1]; exact World.alloc_heap_new wr _
      clear hW1
      have x3 : W1.cell? ⟨wr.heap.size, 3, none⟩ = some (.int .i64 (ge es k).k) := block_cell heb (j := 3) (by simp)
      have hBW : Below w.heap.size w W1 := HBe.out.trans (hb1.mono HBe.out.size)
      obtain ⟨y, hy⟩ : ∃ y, y = ab (exc (ge es k) p) := ⟨_, rfl⟩
      have hyb : 0 ≤ y ∧ y ≤ 2000001000 := by rw [hy]; unfold ab; omega
      obtain ⟨z, hz⟩ : ∃ z : Int, z = (ge es k).k * y := ⟨_, rfl⟩
      have hzb : 0 ≤ z ∧ z ≤ 2000001000000 := by
        have h5 : ((ge es k).k : Int) * y ≤ 1000 * 2000001000 := Int.mul_le_mul (by omega) hyb.2 hyb.1 (by omega)
        have h6 : 0 ≤ ((ge es k).k : Int) * y := Int.mul_nonneg (by omega) hyb.1
        rw [hz]; omega
      obtain ⟨z1, z2⟩ := hzb
      have hcs : costk es p (k + 1) = costk es p k + z := by rw [hz, hy]; rfl
      have HCS := Lib.hid hcs
      have HZ := Lib.hid (And.intro hy hz)
      have HEB := Lib.hid heb
      have HBW := Lib.hid hBW
      rw [hcs] at hck1
      obtain ⟨q1, q2⟩ := hck
      clear hcs heb hBW hb1 c0 c1 c2 c3 hy hz
      refine region_rel (by kernel_rfl) (by kernel_rfl) (by kernel_rfl) (fun _ _ w' => Below W1.heap.size W1 w') ((Below.refl _ _).drew) ?_
      (repeat (refine relq rfl rfl (fun _ _ _ h => h) (fun K hK => ?_); go_big_quiet_op; (refine hK _ ?_; clear hK K)))
      (refine relk_val rfl _ (fun _ _ _ h => h) (fun V L w' h1 h2 h3 hC => ex_load1 _ _ rfl _ rfl (cellB hC x3) _ Try.underlying3 rfl) (fun K hK => ?_); simp only [Act.put, List.setIfInBounds_toArray, List.set_cons_succ, List.set_cons_zero]; (refine hK _ ?_; clear hK K))
      refine relk_val rfl (edV (ge es k)) (fun _ _ _ h => h) (fun V L w' h1 h2 h3 hC => ex_loadN 66 _ rfl wr.heap.size 0 rfl [.int .i64 (ge es k).f, .int .i64 (ge es k).t, .int .i64 (ge es k).j, .int .i64 (ge es k).k] _ (fun j v hj => by
        have hb := (hC.block _ (Array.getElem?_eq_some_iff.1 HEB.out).1).trans HEB.out
        obtain ⟨j1, j2⟩ := List.getElem?_eq_some_iff.1 hj
        rw [Nat.zero_add, block_cell hb (j := j) (by simpa using j1)]
        simp [← j2]) Try.underlying66 rfl (by kernel_rfl)) (fun K hK => ?_)
      simp only [Act.put, List.setIfInBounds_toArray, List.set_cons_succ, List.set_cons_zero]
      refine hK _ ?_
      clear hK K
      (repeat (refine relq rfl rfl (fun _ _ _ h => h) (fun K hK => ?_); go_big_quiet_op; (refine hK _ ?_; clear hK K)))
      refine relk_fix rfl (.int .i64 (exc (ge es k) p)) (fun V L w2 h1 h2 h3 hC => ?_) (fun K hK => ?_)
      · rw [ex_call2 46 (.tmp 19) (.tmp 20) _ rfl rfl rfl rfl (enters_fn Try.func46 (by kernel_rfl) rfl)]
        refine (excess_c (e := ge es k) (by omega) HPB.out ((HP.out.keep HBW.out).keep hC) e1 e2 ⟨by omega, by omega⟩).mono ?_
        rintro e w' ⟨rfl, h⟩
        exact ⟨_, rfl, rfl, hC.trans (h.mono hC.size)⟩
      simp only [Act.put, List.setIfInBounds_toArray, List.set_cons_succ, List.set_cons_zero]
      refine hK _ ?_
      clear hK K
      refine relk_fix rfl (.int .i64 y) (fun V L w2 h1 h2 h3 hC => ?_) (fun K hK => ?_)
      · rw [ex_call1 45 (.tmp 21) _ rfl rfl rfl (enters_fn Try.func45 (by kernel_rfl) rfl)]
        refine (size_c _ (by omega) _).mono ?_
        rintro e w' ⟨rfl, rfl⟩
        exact ⟨_, rfl, by rw [← HZ.out.1], hC⟩
      simp only [Act.put, List.setIfInBounds_toArray, List.set_cons_succ, List.set_cons_zero]
      refine hK _ ?_
      clear hK K
      refine relk_val rfl (.int .i64 z) (fun _ _ _ h => h) (fun V L w2 h1 h2 h3 hC => ?_) (fun K hK => ?_)
      · unfold execOp
        go_simp
        rw [← HZ.out.2]
        exact IntWalk.i64_in z (by omega)
      simp only [Act.put, List.setIfInBounds_toArray, List.set_cons_succ, List.set_cons_zero]
      refine hK _ ?_
      clear hK K
      (repeat (refine relq rfl rfl (fun _ _ _ h => h) (fun K hK => ?_); go_big_quiet_op; (refine hK _ ?_; clear hK K)))
      refine relk_end (fun L V W2 hL hC => ?_)
      go_wp2_with fail
      go_roundw
      case rel => exact ⟨k + 1, by go_num, by rw [HCS.out], by omega, HBW.out.trans (hC.mono HBW.out.size)⟩
      case measure => simp [intOf]; omega
    · have : k = es.length := by omega
      subst this
      go_wp2_with fail
      go_ret
      exact ⟨rfl, hB⟩
set_option maxHeartbeats 1000000 in
set_option maxRecDepth 100000 in
theorem bcost_c {n J : Nat} {es : List Ed} (hg : Gd n J es) {p : List Int} {A B : Option Addr} {ca cb : Nat} {w : World} (hp : PB n p) (hE : RdE w A es) (hP : RdI w B p) :
    Calls Try.prog 29 #[.agg #[.int .i64 n, .slice A es.length ca], .slice B n cb] w fun r w' => r = .returned (.int .i64 (cost es p)) ∧ Below w.heap.size w w' := by
  have hm := hg.m_le
  have hn := hg.n_le
  have HG := Lib.hid hg; clear hg
  have HE := Lib.hid hE; clear hE
  have HP := Lib.hid hP; clear hP
  have HPB := Lib.hid hp; clear hp
  go_enter Try.func29, Try.ntmps29
  go_wp2_with fail
  go_loopw [5, 6] (fun v5 v6 wr => ∃ k : Nat, v6 = .int .i64 k ∧ v5 = .int .i64 (costk es p k) ∧ k ≤ es.length ∧ Below w.heap.size w wr ∧ wr.heap[w.heap.size]? = some (.cells #[.int .i64 n, .slice A es.length ca] 37 (0, 0))) (fun _ v6 _ => es.length - (intOf v6).toNat)
  case atStart => exact ⟨0, rfl, rfl, Nat.zero_le _, (Below.refl _ _).alloc (Nat.le_refl _) _, World.alloc_heap_new w _⟩
  case round =>
    obtain ⟨k, rfl, rfl, hk, hB, hN⟩ := hrel
    have n0 : wr.cell? ⟨w.heap.size, 0, none⟩ = some (.int .i64 n) := block_cell hN (j := 0) (by simp)
    have n1 : wr.cell? ⟨w.heap.size, 1, none⟩ = some (.slice A es.length ca) := block_cell hN (j := 1) (by simp)
    have HN := Lib.hid hN; clear hN
    by_cases hlt : k < es.length
    · obtain ⟨b, o, rfl, c0, c1, c2, c3⟩ := (HE.out.keep hB) k hlt
      obtain ⟨e1, e2, e3⟩ := HG.out.ends k hlt
      obtain ⟨j1, j2⟩ := HG.out.jump k hlt
      have hJ := HG.out.J_le
      have hwt := HG.out.wt k hlt
      have hex := exc_bound HG.out HPB.out hlt
      have hck := costk_bound HG.out HPB.out (show k ≤ es.length by omega)
      have hck1 := costk_bound HG.out HPB.out (show k + 1 ≤ es.length by omega)
      have HBW := Lib.hid hB; clear hB
      go_wp2_with fail
      obtain ⟨y, hy⟩ : ∃ y, y = ab (exc (ge es k) p) := ⟨_, rfl⟩
      have hyb : 0 ≤ y ∧ y ≤ 2000001000 := by rw [hy]; unfold ab; omega
      obtain ⟨z, hz⟩ : ∃ z : Int, z = (ge es k).k * y := ⟨_, rfl⟩
      have hzb : 0 ≤ z ∧ z ≤ 2000001000000 := by
        have h5 : ((ge es k).k : Int) * y ≤ 1000 * 2000001000 := Int.mul_le_mul (by omega) hyb.2 hyb.1 (by omega)
        have h6 : 0 ≤ ((ge es k).k : Int) * y := Int.mul_nonneg (by omega) hyb.1
        rw [hz]; omega
      obtain ⟨z1, z2⟩ := hzb
      have hcs : costk es p (k + 1) = costk es p k + z := by rw [hz, hy]; rfl
      have HCS := Lib.hid hcs
      have HZ := Lib.hid (And.intro hy hz)
      rw [hcs] at hck1
      obtain ⟨q1, q2⟩ := hck
      have HC := Lib.hid (And.intro c0 (And.intro c1 (And.intro c2 c3)))
      clear hcs hy hz c0 c1 c2
      refine region_rel (by kernel_rfl) (by kernel_rfl) (by kernel_rfl) (fun _ _ w' => Below wr.heap.size wr w') ((Below.refl _ _).drew) ?_
      (repeat (refine relq rfl rfl (fun _ _ _ h => h) (fun K hK => ?_); go_big_quiet_op; (refine hK _ ?_; clear hK K)))
      (refine relk_val rfl _ (fun _ _ _ h => h) (fun V L w' h1 h2 h3 hC => ex_load1 _ _ rfl _ rfl (cellB hC n1) _ Try.underlying35 rfl) (fun K hK => ?_); simp only [Act.put, List.setIfInBounds_toArray, List.set_cons_succ, List.set_cons_zero]; (refine hK _ ?_; clear hK K))
      (repeat (refine relq rfl rfl (fun _ _ _ h => h) (fun K hK => ?_); go_big_quiet_op; (refine hK _ ?_; clear hK K)))
      (refine relk_val rfl _ (fun _ _ _ h => h) (fun V L w' h1 h2 h3 hC => ex_load1 _ _ rfl _ rfl (cellB hC c3) _ Try.underlying3 rfl) (fun K hK => ?_); simp only [Act.put, List.setIfInBounds_toArray, List.set_cons_succ, List.set_cons_zero]; (refine hK _ ?_; clear hK K))
      (repeat (refine relq rfl rfl (fun _ _ _ h => h) (fun K hK => ?_); go_big_quiet_op; (refine hK _ ?_; clear hK K)))
      (refine relk_val rfl _ (fun _ _ _ h => h) (fun V L w' h1 h2 h3 hC => ex_load1 _ _ rfl _ rfl (cellB hC n1) _ Try.underlying35 rfl) (fun K hK => ?_); simp only [Act.put, List.setIfInBounds_toArray, List.set_cons_succ, List.set_cons_zero]; (refine hK _ ?_; clear hK K))
      (repeat (refine relq rfl rfl (fun _ _ _ h => h) (fun K hK => ?_); go_big_quiet_op; (refine hK _ ?_; clear hK K)))
      refine relk_val rfl (edV (ge es k)) (fun _ _ _ h => h) (fun V L w' h1 h2 h3 hC => ex_loadN 66 _ rfl b (o + k * 4) rfl [.int .i64 (ge es k).f, .int .i64 (ge es k).t, .int .i64 (ge es k).j, .int .i64 (ge es k).k] _ (fun j v hj => by
        obtain ⟨d0, d1, d2, d3⟩ := HC.out
        match j, hj with
        | 0, hj => cases hj; exact cell_keep hC d0
        | 1, hj => cases hj; exact cell_keep hC d1
        | 2, hj => cases hj; exact cell_keep hC d2
        | 3, hj => cases hj; exact cell_keep hC d3
        | j + 4, hj => simp at hj) Try.underlying66 rfl (by kernel_rfl)) (fun K hK => ?_)
      simp only [Act.put, List.setIfInBounds_toArray, List.set_cons_succ, List.set_cons_zero]
      refine hK _ ?_
      clear hK K
      (repeat (refine relq rfl rfl (fun _ _ _ h => h) (fun K hK => ?_); go_big_quiet_op; (refine hK _ ?_; clear hK K)))
      refine relk_fix rfl (.int .i64 (exc (ge es k) p)) (fun V L w2 h1 h2 h3 hC => ?_) (fun K hK => ?_)
      · rw [ex_call2 51 (.tmp 25) (.tmp 26) _ rfl rfl rfl rfl (enters_fn Try.func51 (by kernel_rfl) rfl)]
        refine (bexcess_c (e := ge es k) (by omega) HPB.out ((HP.out.keep HBW.out).keep hC) e1 e2 ⟨by omega, by omega⟩).mono ?_
        rintro e w' ⟨rfl, h⟩
        exact ⟨_, rfl, rfl, hC.trans (h.mono hC.size)⟩
      simp only [Act.put, List.setIfInBounds_toArray, List.set_cons_succ, List.set_cons_zero]
      refine hK _ ?_
      clear hK K
      refine relk_fix rfl (.int .i64 y) (fun V L w2 h1 h2 h3 hC => ?_) (fun K hK => ?_)
      · rw [ex_call1 50 (.tmp 27) _ rfl rfl rfl (enters_fn Try.func50 (by kernel_rfl) rfl)]
        refine (bsize_c _ (by omega) _).mono ?_
        rintro e w' ⟨rfl, rfl⟩
        exact ⟨_, rfl, by rw [← HZ.out.1], hC⟩
      simp only [Act.put, List.setIfInBounds_toArray, List.set_cons_succ, List.set_cons_zero]
      refine hK _ ?_
      clear hK K
      refine relk_val rfl (.int .i64 z) (fun _ _ _ h => h) (fun V L w2 h1 h2 h3 hC => ?_) (fun K hK => ?_)
      · unfold execOp
        go_simp
        rw [← HZ.out.2]
        exact IntWalk.i64_in z (by omega)
      simp only [Act.put, List.setIfInBounds_toArray, List.set_cons_succ, List.set_cons_zero]
      refine hK _ ?_
      clear hK K
      (repeat (refine relq rfl rfl (fun _ _ _ h => h) (fun K hK => ?_); go_big_quiet_op; (refine hK _ ?_; clear hK K)))
      refine relk_end (fun L V W2 hL hC => ?_)
      go_wp2_with fail
      go_roundw
      case rel => exact ⟨k + 1, by go_num, by rw [HCS.out], by omega, HBW.out.trans (hC.mono HBW.out.size), (hC.block _ (Array.getElem?_eq_some_iff.1 HN.out).1).trans HN.out⟩
      case measure => simp [intOf]; omega
    · have : k = es.length := by omega
      subst this
      go_wp2_with fail
      go_ret
      exact ⟨rfl, hB⟩
end Go.Proofs.Ytjnpchoinncbnaa
end

section
set_option linter.unusedSimpArgs false
set_option linter.unusedVariables false
namespace Go.Proofs.Ytjnpchoinncbnaa
open Go.RowKit Sw Fam
theorem isWeight_c (k : Int) (hk : 0 ≤ k ∧ k ≤ 1000) (w : World) : Calls Try.prog 37 #[.int .i64 k] w fun e w' => e = .returned (.bool true) ∧ w = w' := by
  go_enter Try.func37, Try.ntmps37
  go_wp2_with (refine (within_c _ _ _ true (by simp; omega) _).mono ?_; rintro e w' ⟨rfl, rfl⟩)
  go_ret
  exact ⟨rfl, rfl⟩
set_option maxHeartbeats 1000000 in
set_option maxRecDepth 100000 in
theorem checkNet_c {n J : Nat} {es : List Ed} (hg : Gd n J es) {A : Option Addr} {ca : Nat} {w : World} (hE : RdE w A es) :
    Calls Try.prog 52 #[.agg #[.int .i64 n, .slice A es.length ca]] w fun r w' => r = .returned (.tuple #[.int .i64 0, .int .i64 0]) ∧ Below w.heap.size w w' := by
  have hm := hg.m_le
  have hn := hg.n_le
  have HG := Lib.hid hg; clear hg
  have HE := Lib.hid hE; clear hE
  go_enter Try.func52, Try.ntmps52
  go_wp2_with (refine (within_c _ _ _ true (by simp; omega) _).mono ?_; rintro e w' ⟨rfl, rfl⟩)
  go_loopw [19] (fun v19 wr => ∃ k : Nat, v19 = .int .i64 k ∧ k ≤ es.length ∧ Below w.heap.size w wr ∧ wr.heap[w.heap.size]? = some (.cells #[.int .i64 n, .slice A es.length ca] 37 (0, 0))) (fun v19 _ => es.length - (intOf v19).toNat)
  case atStart => exact ⟨0, rfl, Nat.zero_le _, (Below.refl _ _).alloc (Nat.le_refl _) _, World.alloc_heap_new w _⟩
  case round =>
    obtain ⟨k, rfl, hk, hB, hN⟩ := hrel
    have n0 : wr.cell? ⟨w.heap.size, 0, none⟩ = some (.int .i64 n) := block_cell hN (j := 0) (by simp)
    have HN := Lib.hid hN; clear hN
    by_cases hlt : k < es.length
    · obtain ⟨b, o, rfl, c0, c1, c2, c3⟩ := (HE.out.keep hB) k hlt
      obtain ⟨e1, e2, e3⟩ := HG.out.ends k hlt
      obtain ⟨j1, j2⟩ := HG.out.jump k hlt
      have hJ := HG.out.J_le
      have hwt := HG.out.wt k hlt
      have HBe := Lib.hid hB; clear hB
      have hwl : w.heap.size < wr.heap.size := World.block_lt_of_cell? _ _ n0
      go_wp2_with (first | (refine (within_c _ _ _ true (by simp; omega) _).mono ?_; rintro e w' ⟨rfl, rfl⟩) | (refine (isWeight_c _ (by omega) _).mono ?_; rintro e w' ⟨rfl, rfl⟩))
      go_roundw
      case rel => exact ⟨k + 1, by go_num, by omega, HBe.out.trans ((Below.refl _ _).alloc (Nat.le_of_lt hwl) _), (Below.heap_alloc _ _ _ hwl).trans HN.out⟩
      case measure => simp [intOf]; omega
    · have : k = es.length := by omega
      subst this
      go_wp2_with fail
      go_ret2
      exact ⟨rfl, hB⟩
set_option maxHeartbeats 1000000 in
set_option maxRecDepth 100000 in
theorem open_c {n J : Nat} {es : List Ed} (hg : Gd n J es) {A : Option Addr} {ca : Nat} {w : World} (hE : RdE w A es) :
    Calls Try.prog 31 #[.agg #[.int .i64 n, .slice A es.length ca]] w fun r w' => r = .returned (.tuple #[.agg #[.int .i64 n, .slice A es.length ca], .int .i64 0]) ∧ Below w.heap.size w w' := by
  have HC : ∀ w', Below w.heap.size w w' → Calls Try.prog 52 #[.agg #[.int .i64 n, .slice A es.length ca]] w' _ := fun w' hb => checkNet_c hg (hE.keep hb)
  have H := Lib.hid (HC _ (((Below.refl _ _).alloc (Nat.le_refl _) (.cells #[.int .i64 n, .slice A es.length ca] 37)).alloc (by simp) (.cells #[.int .i64 0, .slice none 0 0] 56)))
  clear HC hE hg
  go_enter Try.func31, Try.ntmps31
  go_wp2_with fail
  refine H.out.mono ?_
  rintro e w' ⟨rfl, hB⟩
  have HB := Lib.hid hB
  have h1 := (hB.block w.heap.size (by simp; omega)).trans ((Below.heap_alloc _ _ _ (by simp)).trans (World.alloc_heap_new w _))
  have e2 := World.alloc_heap_new (w.alloc (.cells #[.int .i64 n, .slice A es.length ca] 37)) (.cells #[.int .i64 0, .slice none 0 0] 56)
  rw [World.size_alloc] at e2
  have h2 := (hB.block (w.heap.size + 1) (by simp)).trans e2
  have a0 : w'.cell? ⟨w.heap.size, 0, none⟩ = some (.int .i64 n) := block_cell h1 (j := 0) (by simp)
  have a1 : w'.cell? ⟨w.heap.size, 1, none⟩ = some (.slice A es.length ca) := block_cell h1 (j := 1) (by simp)
  have b0 : w'.cell? ⟨w.heap.size + 1, 0, none⟩ = some (.int .i64 0) := block_cell h2 (j := 0) (by simp)
  have b1 : w'.cell? ⟨w.heap.size + 1, 1, none⟩ = some (.slice none 0 0) := block_cell h2 (j := 1) (by simp)
  have f0 : w'.frozen? ⟨w.heap.size + 1, 0, none⟩ = false := by simp [World.frozen?, h2]
  have f1 : w'.frozen? ⟨w.heap.size + 1, 1, none⟩ = false := by simp [World.frozen?, h2]
  clear hB h1 h2 e2
  go_wp2_with fail
  refine bodyPost_ret (v := .tuple #[.agg #[.int .i64 n, .slice A es.length ca], .int .i64 0]) ?_ rfl ⟨rfl, ?_⟩
  · simp [results, Try.results31, go_sem, a0, a1, b0, b1, f0, f1]
  · have b3 := (((Below.refl w.heap.size w).alloc (Nat.le_refl _) (.cells #[.int .i64 n, .slice A es.length ca] 37)).alloc (by simp) (.cells #[.int .i64 0, .slice none 0 0] 56)).trans (HB.out.mono (by simp; omega))
    exact (b3.setCell (by simp) _).setCell (by simp) _
def SolveNetPost (n J : Nat) (es : List Ed) (w : World) (e : Ending) (w' : World) : Prop :=
  ∃ (q x : List Int) (P X : Nat), e = .returned (.tuple #[.slice (some ⟨P, 0, none⟩) n n, .slice (some ⟨X, 0, none⟩) es.length es.length, .int .i64 (cost es q), .int .i64 0]) ∧ Below w.heap.size w w' ∧ IntB w' P q ∧ IntB w' X x ∧ Solved n J es q x (cost es q)
theorem solved_pb {n J : Nat} {es : List Ed} (hg : Gd n J es) {q x : List Int} {c : Int} (h : Solved n J es q x c) : PB n q := by
  refine ⟨h.lenq, fun v hv => ?_⟩
  have := h.bound v hv
  have := nJ_le hg
  omega
set_option maxHeartbeats 1000000 in
set_option maxRecDepth 100000 in
theorem solveNet_c {n J : Nat} {es : List Ed} (hg : Gd n J es) (hn1 : 1 ≤ n) {A : Option Addr} {ca : Nat} {w : World} (hE : RdE w A es) :
    Calls Try.prog 12 #[.agg #[.int .i64 n, .slice A es.length ca]] w (SolveNetPost n J es w) := by
  have HO : ∀ w', Below w.heap.size w w' → Calls Try.prog 31 #[.agg #[.int .i64 n, .slice A es.length ca]] w' _ := fun w' hb => open_c hg (hE.keep hb)
  have H := Lib.hid (HO _ ((Below.refl _ _).alloc (Nat.le_refl _) (.cells #[.int .i64 n, .slice A es.length ca] 37)))
  clear HO
  have HG := Lib.hid hg; clear hg
  have HE := Lib.hid hE; clear hE
  go_enter Try.func12, Try.ntmps12
  go_wp2_with fail
  refine H.out.mono ?_
  rintro e w1 ⟨rfl, hB⟩
  have hB1 : Below w.heap.size w w1 := ((Below.refl _ _).alloc (Nat.le_refl _) _).trans (hB.mono (by simp))
  have HB1 := Lib.hid hB1
  clear hB hB1 H
  go_wp2_with fail
  generalize hW2 : w1.alloc _ = w2
  have hb2 : Below w1.heap.size w1 w2 := by rw [← hW2]; exact (Below.refl _ _).alloc (Nat.le_refl _) _
  have hN2 : w2.heap[w1.heap.size]? = some (.cells #[.int .i64 n, .slice A es.length ca] 56 (0, 0)) := by rw [← hW2]; exact World.alloc_heap_new w1 _
  clear hW2
  have hB2 : Below w.heap.size w w2 := HB1.out.trans (hb2.mono HB1.out.size)
  have HB2 := Lib.hid hB2
  have HN2 := Lib.hid hN2
  refine (solve_c HG.out hn1 (ca := ca) (HE.out.keep hB2)).mono ?_
  rintro e w3 ⟨v, x, q, rfl, hB3, k1, k2, k3, hS, hSo⟩
  have HB3 := Lib.hid hB3
  have hN3 := (hB3.block _ (Array.getElem?_eq_some_iff.1 HN2.out).1).trans HN2.out
  have HN3 := Lib.hid hN3
  have n0 : w3.cell? ⟨w1.heap.size, 0, none⟩ = some (.int .i64 n) := block_cell hN3 (j := 0) (by simp)
  have n1 : w3.cell? ⟨w1.heap.size, 1, none⟩ = some (.slice A es.length ca) := block_cell hN3 (j := 1) (by simp)
  have s2 : w3.cell? ⟨v.S, 2, none⟩ = some (.slice (some ⟨v.x, 0, none⟩) es.length es.length) := block_cell hS.blk (j := 2) (by simp)
  have s3 : w3.cell? ⟨v.S, 3, none⟩ = some (.slice (some ⟨v.p, 0, none⟩) n n) := block_cell hS.blk (j := 3) (by simp)
  have HS := Lib.hid (And.intro hS hSo)
  clear hb2 hN2 hB2 hB3 hN3 hS hSo
  go_wp2_with fail
  refine region_rel (by kernel_rfl) (by kernel_rfl) (by kernel_rfl) (fun _ _ w' => Below w3.heap.size w3 w') ((Below.refl _ _).drew) ?_
  (repeat (refine relq rfl rfl (fun _ _ _ h => h) (fun K hK => ?_); go_big_quiet_op; (refine hK _ ?_; clear hK K)))
  (refine relk_nil rfl _ rfl _ rfl (fun _ _ _ h => h) (fun K hK => ?_); simp only [Act.put, List.setIfInBounds_toArray, List.set_cons_succ, List.set_cons_zero]; (refine hK _ ?_; clear hK K))
  (repeat (refine relq rfl rfl (fun _ _ _ h => h) (fun K hK => ?_); go_big_quiet_op; (refine hK _ ?_; clear hK K)))
  (refine relk_val rfl _ (fun _ _ _ h => h) (fun V L w' h1 h2 h3 hC => ex_load1 _ _ rfl _ rfl (cellB hC s3) _ Try.underlying22 rfl) (fun K hK => ?_); simp only [Act.put, List.setIfInBounds_toArray, List.set_cons_succ, List.set_cons_zero]; (refine hK _ ?_; clear hK K))
  (repeat (refine relq rfl rfl (fun _ _ _ h => h) (fun K hK => ?_); go_big_quiet_op; (refine hK _ ?_; clear hK K)))
  (refine relk_nil rfl _ rfl _ rfl (fun _ _ _ h => h) (fun K hK => ?_); simp only [Act.put, List.setIfInBounds_toArray, List.set_cons_succ, List.set_cons_zero]; (refine hK _ ?_; clear hK K))
  (repeat (refine relq rfl rfl (fun _ _ _ h => h) (fun K hK => ?_); go_big_quiet_op; (refine hK _ ?_; clear hK K)))
  (refine relk_val rfl _ (fun _ _ _ h => h) (fun V L w' h1 h2 h3 hC => ex_load1 _ _ rfl _ rfl (cellB hC s2) _ Try.underlying22 rfl) (fun K hK => ?_); simp only [Act.put, List.setIfInBounds_toArray, List.set_cons_succ, List.set_cons_zero]; (refine hK _ ?_; clear hK K))
  refine relk_val rfl (.agg #[.int .i64 n, .slice A es.length ca]) (fun _ _ _ h => h) (fun V L w' h1 h2 h3 hC => ex_loadN 56 _ rfl w1.heap.size 0 rfl [.int .i64 n, .slice A es.length ca] _ (fun j v hj => by
    have hb := (hC.block _ (Array.getElem?_eq_some_iff.1 HN3.out).1).trans HN3.out
    obtain ⟨j1, j2⟩ := List.getElem?_eq_some_iff.1 hj
    rw [Nat.zero_add, block_cell hb (j := j) (by simpa using j1)]
    simp [← j2]) Try.underlying56 rfl (by kernel_rfl)) (fun K hK => ?_)
  simp only [Act.put, List.setIfInBounds_toArray, List.set_cons_succ, List.set_cons_zero]
  refine hK _ ?_
  clear hK K
  (repeat (refine relq rfl rfl (fun _ _ _ h => h) (fun K hK => ?_); go_big_quiet_op; (refine hK _ ?_; clear hK K)))
  (refine relk_nil rfl _ rfl _ rfl (fun _ _ _ h => h) (fun K hK => ?_); simp only [Act.put, List.setIfInBounds_toArray, List.set_cons_succ, List.set_cons_zero]; (refine hK _ ?_; clear hK K))
  (repeat (refine relq rfl rfl (fun _ _ _ h => h) (fun K hK => ?_); go_big_quiet_op; (refine hK _ ?_; clear hK K)))
  (refine relk_val rfl _ (fun _ _ _ h => h) (fun V L w' h1 h2 h3 hC => ex_load1 _ _ rfl _ rfl (cellB hC s3) _ Try.underlying22 rfl) (fun K hK => ?_); simp only [Act.put, List.setIfInBounds_toArray, List.set_cons_succ, List.set_cons_zero]; (refine hK _ ?_; clear hK K))
  refine relk_fix rfl (.int .i64 (cost es q)) (fun V L w4 h1 h2 h3 hC => ?_) (fun K hK => ?_)
  · rw [ex_call2 24 (.tmp 27) (.tmp 31) _ rfl rfl rfl rfl (enters_fn Try.func24 (by kernel_rfl) rfl)]
    have hbw : Below w.heap.size w w4 := (HB2.out.trans (HB3.out.mono HB2.out.size)).trans (hC.mono (by have := HB2.out.size; have := HB3.out.size; omega))
    refine (cost_c HG.out (solved_pb HG.out HS.out.2) (HE.out.keep hbw) (HS.out.1.tu.rd.keep hC)).mono ?_
    rintro e w' ⟨rfl, h⟩
    exact ⟨_, rfl, rfl, hC.trans (h.mono hC.size)⟩
  simp only [Act.put, List.setIfInBounds_toArray, List.set_cons_succ, List.set_cons_zero]
  refine hK _ ?_
  clear hK K
  (repeat (refine relq rfl rfl (fun _ _ _ h => h) (fun K hK => ?_); go_big_quiet_op; (refine hK _ ?_; clear hK K)))
  refine relk_end (fun L V w4 hL hC => ?_)
  go_wp2_with fail
  have hbw : Below w.heap.size w w4 := (HB2.out.trans (HB3.out.mono HB2.out.size)).trans (hC.mono (by have := HB2.out.size; have := HB3.out.size; omega))
  refine bodyPost_ret (v := .tuple #[.slice (some ⟨v.p, 0, none⟩) n n, .slice (some ⟨v.x, 0, none⟩) es.length es.length, .int .i64 (cost es q), .int .i64 0]) ?_ rfl ⟨q, x, v.p, v.x, rfl, hbw, HS.out.1.tu.keep hC, HS.out.1.fl.keep hC, HS.out.2⟩
  simp [results, Try.results12, go_sem]
end Go.Proofs.Ytjnpchoinncbnaa
end

section
set_option linter.unusedSimpArgs false
set_option linter.unusedVariables false
namespace Sw
structure Tk where
  rows : Int
  cols : Int
  ph : List Int
  ac : List Int
  dn : List Int
def SizeOk (r c k : Int) : Prop := 1 ≤ r ∧ r ≤ 64 ∧ 1 ≤ c ∧ c ≤ 64 ∧ k = r * c
def PhOk (ph : List Int) : Prop := ∀ i, i < ph.length → gi ph i = 1000000000000 ∨ (-2048 ≤ gi ph i ∧ gi ph i ≤ 2047)
def WtOk (ws : List Int) : Prop := ∀ i, i < ws.length → 0 ≤ gi ws i ∧ gi ws i ≤ 1000
structure Rt (t : Tk) : Prop where
  size : SizeOk t.rows t.cols t.ph.length
  few : t.rows * t.cols ≤ 144
  ph : PhOk t.ph
  la : (t.ac.length : Int) = t.rows * (t.cols - 1)
  ld : (t.dn.length : Int) = (t.rows - 1) * t.cols
  wa : WtOk t.ac
  wd : WtOk t.dn
theorem mul_64 {r c : Int} (h1 : 0 ≤ r ∧ r ≤ 64) (h2 : 0 ≤ c ∧ c ≤ 64) : 0 ≤ r * c ∧ r * c ≤ 4096 :=
  ⟨Int.mul_nonneg h1.1 h2.1, Int.mul_le_mul h1.2 h2.2 h2.1 (by omega)⟩
end Sw
namespace Go.Proofs.Ytjnpchoinncbnaa
open Go.RowKit Sw Fam
def SizePost (r c k : Int) (w : World) (e : Ending) (w' : World) : Prop := ∃ g : Int, e = .returned (.int .i64 g) ∧ w = w' ∧ (g = 0 ↔ SizeOk r c k)
set_option maxRecDepth 100000 in
theorem bsizeErr_c (r c k : Int) (w : World) : Calls Try.prog 16 #[.int .i64 r, .int .i64 c, .int .i64 k] w (SizePost r c k w) := by
  by_cases h1 : 1 ≤ r ∧ r ≤ 64
  · by_cases h2 : 1 ≤ c ∧ c ≤ 64
    · have hm := mul_64 (r := r) (c := c) (by omega) (by omega)
      obtain ⟨a1, a2⟩ := h1
      obtain ⟨b1, b2⟩ := h2
      by_cases h3 : k = r * c
      · have h4 : (k != r * c) = false := by simp [h3]
        have H3 := Lib.hid h3; clear h3
        go_enter Try.func16, Try.ntmps16
        go_wp2_with (refine (bwithin_c _ _ _ true (by simp; omega) _).mono ?_; rintro e w' ⟨rfl, rfl⟩)
        go_ret
        exact ⟨0, rfl, rfl, by simp only [SizeOk, a1, a2, b1, b2, H3.out]; simp⟩
      · have h4 : (k != r * c) = true := by simpa using h3
        have H3 := Lib.hid h3; clear h3
        go_enter Try.func16, Try.ntmps16
        go_wp2_with (refine (bwithin_c _ _ _ true (by simp; omega) _).mono ?_; rintro e w' ⟨rfl, rfl⟩)
        go_ret
        exact ⟨10, rfl, rfl, by simp [SizeOk]; intro _ _ _ _; exact H3.out⟩
    · have H2 := Lib.hid h2; clear h2
      go_enter Try.func16, Try.ntmps16
      go_wp2_with (first | (refine (bwithin_c _ _ _ true (by simp; omega) _).mono ?_; rintro e w' ⟨rfl, rfl⟩) | (refine (bwithin_c _ _ _ false (by simp; have := H2.out; omega) _).mono ?_; rintro e w' ⟨rfl, rfl⟩))
      go_ret
      exact ⟨2, rfl, rfl, by simp [SizeOk]; intro _ _ h h'; exact absurd ⟨h, h'⟩ H2.out⟩
  · have H1 := Lib.hid h1; clear h1
    go_enter Try.func16, Try.ntmps16
    go_wp2_with (first | (refine (bwithin_c _ _ _ false (by simp; have := H1.out; omega) _).mono ?_; rintro e w' ⟨rfl, rfl⟩))
    go_ret
    exact ⟨2, rfl, rfl, by simp [SizeOk]; intro h h'; exact absurd ⟨h, h'⟩ H1.out⟩
set_option maxRecDepth 100000 in
theorem sizeErr_c (r c k : Int) (w : World) : Calls Try.prog 33 #[.int .i64 r, .int .i64 c, .int .i64 k] w (SizePost r c k w) := by
  by_cases h1 : 1 ≤ r ∧ r ≤ 64
  · by_cases h2 : 1 ≤ c ∧ c ≤ 64
    · have hm := mul_64 (r := r) (c := c) (by omega) (by omega)
      obtain ⟨a1, a2⟩ := h1
      obtain ⟨b1, b2⟩ := h2
      by_cases h3 : k = r * c
      · have h4 : (k != r * c) = false := by simp [h3]
        have H3 := Lib.hid h3; clear h3
        go_enter Try.func33, Try.ntmps33
        go_wp2_with (refine (within_c _ _ _ true (by simp; omega) _).mono ?_; rintro e w' ⟨rfl, rfl⟩)
        go_ret
        exact ⟨0, rfl, rfl, by simp only [SizeOk, a1, a2, b1, b2, H3.out]; simp⟩
      · have h4 : (k != r * c) = true := by simpa using h3
        have H3 := Lib.hid h3; clear h3
        go_enter Try.func33, Try.ntmps33
        go_wp2_with (refine (within_c _ _ _ true (by simp; omega) _).mono ?_; rintro e w' ⟨rfl, rfl⟩)
        go_ret
        exact ⟨10, rfl, rfl, by simp [SizeOk]; intro _ _ _ _; exact H3.out⟩
    · have H2 := Lib.hid h2; clear h2
      go_enter Try.func33, Try.ntmps33
      go_wp2_with (first | (refine (within_c _ _ _ true (by simp; omega) _).mono ?_; rintro e w' ⟨rfl, rfl⟩) | (refine (within_c _ _ _ false (by simp; have := H2.out; omega) _).mono ?_; rintro e w' ⟨rfl, rfl⟩))
      go_ret
      exact ⟨2, rfl, rfl, by simp [SizeOk]; intro _ _ h h'; exact absurd ⟨h, h'⟩ H2.out⟩
  · have H1 := Lib.hid h1; clear h1
    go_enter Try.func33, Try.ntmps33
    go_wp2_with (first | (refine (within_c _ _ _ false (by simp; have := H1.out; omega) _).mono ?_; rintro e w' ⟨rfl, rfl⟩))
    go_ret
    exact ⟨2, rfl, rfl, by simp [SizeOk]; intro h h'; exact absurd ⟨h, h'⟩ H1.out⟩
theorem bIsWrapped_c (k : Int) (r : Bool) (hr : (-2048 ≤ k ∧ k ≤ 2047) ↔ r = true) (w : World) : Calls Try.prog 32 #[.int .i64 k] w fun e w' => e = .returned (.bool r) ∧ w = w' := by
  have H := Lib.hid hr; clear hr
  go_enter Try.func32, Try.ntmps32
  go_wp2_with (refine (bwithin_c _ _ _ r H.out _).mono ?_; rintro e w' ⟨rfl, rfl⟩)
  go_ret
  exact ⟨rfl, rfl⟩
def PhPost (ph : List Int) (w : World) (e : Ending) (w' : World) : Prop := ∃ g : Int, e = .returned (.int .i64 g) ∧ w = w' ∧ (g = 0 ↔ PhOk ph)
set_option maxRecDepth 100000 in
theorem bwrappedErr_c (ph : List Int) (A : Option Addr) (c : Nat) (hl : ph.length ≤ 100000) (w : World) (hr : RdI w A ph) : Calls Try.prog 17 #[.slice A ph.length c] w (PhPost ph w) := by
  have HR := Lib.hid hr; clear hr
  go_enter Try.func17, Try.ntmps17
  go_wp2_with fail
  go_loop [3] (fun v3 => ∃ k : Nat, v3 = .int .i64 k ∧ k ≤ ph.length ∧ ∀ i, i < k → gi ph i = 1000000000000 ∨ (-2048 ≤ gi ph i ∧ gi ph i ≤ 2047)) (fun v3 => ph.length - (intOf v3).toNat)
  case atStart => exact ⟨0, rfl, Nat.zero_le _, fun i hi => by omega⟩
  case round =>
    obtain ⟨k, rfl, hk, hall⟩ := hrel
    have HA := Lib.hid hall; clear hall
    by_cases hlt : k < ph.length
    · obtain ⟨b, o, rfl, hc⟩ := HR.out k hlt
      obtain ⟨x, hx⟩ : ∃ x, x = gi ph k := ⟨_, rfl⟩
      rw [← hx] at hc
      have HX := Lib.hid hx; clear hx
      by_cases hv : x = 1000000000000
      · have h1 : (x != 1000000000000) = false := by simp [hv]
        have HV := Lib.hid hv; clear hv
        go_wp2_with fail
        go_round
        case rel => exact ⟨k + 1, by go_num, by omega, fun i hi => by
          by_cases e : i = k
          · subst e; left; rw [← HX.out]; exact HV.out
          · exact HA.out i (by omega)⟩
        case measure => simp [intOf]; omega
      · have h1 : (x != 1000000000000) = true := by simpa using hv
        have HV := Lib.hid hv; clear hv
        by_cases hw : -2048 ≤ x ∧ x ≤ 2047
        · have HW := Lib.hid hw; clear hw
          go_wp2_with (refine (bIsWrapped_c _ true (by simp; have := HW.out; omega) _).mono ?_; rintro e w' ⟨rfl, rfl⟩)
          go_round
          case rel => exact ⟨k + 1, by go_num, by omega, fun i hi => by
            by_cases e : i = k
            · subst e; right; rw [← HX.out]; exact HW.out
            · exact HA.out i (by omega)⟩
          case measure => simp [intOf]; omega
        · have HW := Lib.hid hw; clear hw
          go_wp2_with (refine (bIsWrapped_c _ false (by simp; have := HW.out; omega) _).mono ?_; rintro e w' ⟨rfl, rfl⟩)
          go_ret
          refine ⟨2, rfl, rfl, ⟨fun h => by omega, fun h => ?_⟩⟩
          rcases h k hlt with h | h
          · rw [← HX.out] at h; exact absurd h HV.out
          · rw [← HX.out] at h; exact absurd h HW.out
    · go_wp2_with fail
      go_ret
      exact ⟨0, rfl, rfl, ⟨fun _ i hi => HA.out i (by omega), fun _ => rfl⟩⟩
end Go.Proofs.Ytjnpchoinncbnaa
end

section
set_option linter.unusedSimpArgs false
set_option linter.unusedVariables false
namespace Go.Proofs.Ytjnpchoinncbnaa
open Go.RowKit Sw Fam
structure TkL where
  P : Option Addr
  A : Option Addr
  D : Option Addr
  cp : Nat
  ca : Nat
  cd : Nat
def TkV (t : Tk) (l : TkL) : Value := .agg #[.int .i64 t.rows, .int .i64 t.cols, .slice l.P t.ph.length l.cp, .slice l.A t.ac.length l.ca, .slice l.D t.dn.length l.cd]
structure TkM (w : World) (t : Tk) (l : TkL) : Prop where
  p : RdI w l.P t.ph
  a : RdI w l.A t.ac
  d : RdI w l.D t.dn
theorem TkM.keep {w w' : World} {t : Tk} {l : TkL} (h : TkM w t l) (hb : Below w.heap.size w w') : TkM w' t l := ⟨h.p.keep hb, h.a.keep hb, h.d.keep hb⟩
def ChkPost (t : Tk) (w : World) (e : Ending) (w' : World) : Prop := ∃ g : Int, e = .returned (.int .i64 g) ∧ (g = 0 → Rt t) ∧ Below w.heap.size w w'
set_option maxHeartbeats 1000000 in
set_option maxRecDepth 100000 in
theorem bcheckTask_c (t : Tk) (l : TkL) (w : World) (hM : TkM w t l) : Calls Try.prog 5 #[TkV t l] w (ChkPost t w) := by
  obtain ⟨R, C, ph, ac, dn⟩ := t
  obtain ⟨P, A, D, cp, ca, cd⟩ := l
  have HM := Lib.hid hM; clear hM
  unfold TkV
  go_enter Try.func5, Try.ntmps5
  go_wp2_with fail
  refine (bsizeErr_c _ _ _ _).mono ?_
  rintro e w' ⟨g, rfl, rfl, hg⟩
  have HS := Lib.hid hg; clear hg
  have hB : Below w.heap.size w ((w.alloc (.cells #[.int .i64 R, .int .i64 C, .slice P ph.length cp, .slice A ac.length ca, .slice D dn.length cd] 26)).alloc (.cells #[.int .i64 R, .int .i64 C, .slice P ph.length cp] 24)) := ((Below.refl _ _).alloc (Nat.le_refl _) _).alloc (by simp) _
  have HB := Lib.hid hB; clear hB
  by_cases hg0 : g = 0
  · subst hg0
    obtain ⟨r1, r2, c1, c2, hk⟩ := HS.out.1 rfl
    have HK := Lib.hid hk; clear hk
    have hm := mul_64 (r := R) (c := C) (by omega) (by omega)
    have hm1 := mul_64 (r := R) (c := C - 1) (by omega) (by omega)
    have hm2 := mul_64 (r := R - 1) (c := C) (by omega) (by omega)
    have hlp : ph.length ≤ 4096 := by have := HK.out; omega
    by_cases hf : R * C ≤ 144
    · go_wp2_with fail
      refine (bwrappedErr_c ph P cp (by omega) _ (HM.out.p.keep HB.out)).mono ?_
      rintro e w' ⟨g, rfl, rfl, hg⟩
      have HP := Lib.hid hg; clear hg
      by_cases hg0 : g = 0
      · subst hg0
        by_cases ha : (ac.length : Int) = R * (C - 1)
        · have ha1 : ((ac.length : Int) != R * (C - 1)) = false := by simp [ha]
          have HA := Lib.hid ha; clear ha
          by_cases hd : (dn.length : Int) = (R - 1) * C
          · have hd1 : ((dn.length : Int) != (R - 1) * C) = false := by simp [hd]
            have HD := Lib.hid hd; clear hd
            go_wp2_with fail
            have hla : ac.length ≤ 4096 := by have := HA.out; omega
            have hld : dn.length ≤ 4096 := by have := HD.out; omega
            go_loop [6] (fun v6 => ∃ k : Nat, v6 = .int .i64 k ∧ k ≤ ac.length ∧ ∀ i, i < k → 0 ≤ gi ac i ∧ gi ac i ≤ 1000) (fun v6 => ac.length - (intOf v6).toNat)
            case atStart => exact ⟨0, rfl, Nat.zero_le _, fun i hi => by omega⟩
            case round =>
              obtain ⟨k, rfl, hk, hall⟩ := hrel
              have HW := Lib.hid hall; clear hall
              by_cases hlt : k < ac.length
              · obtain ⟨b, o, rfl, hc⟩ := (HM.out.a.keep HB.out) k hlt
                obtain ⟨x, hx⟩ : ∃ x, x = gi ac k := ⟨_, rfl⟩
                rw [← hx] at hc
                have HX := Lib.hid hx; clear hx
                have hbl := World.block_lt_of_cell? _ _ hc
                by_cases hw : 0 ≤ x ∧ x ≤ 1000
                · have HXW := Lib.hid hw; clear hw
                  go_wp2_with (refine (bwithin_c _ _ _ true (by simp; have := HXW.out; omega) _).mono ?_; rintro e w' ⟨rfl, rfl⟩)
                  go_round
                  case rel => exact ⟨k + 1, by go_num, by omega, fun i hi => by
                    by_cases e : i = k
                    · subst e; rw [← HX.out]; exact HXW.out
                    · exact HW.out i (by omega)⟩
                  case measure => simp [intOf]; omega
                · have HXW := Lib.hid hw; clear hw
                  go_wp2_with (refine (bwithin_c _ _ _ false (by simp; have := HXW.out; omega) _).mono ?_; rintro e w' ⟨rfl, rfl⟩)
                  go_ret
                  exact ⟨2, rfl, fun h => by omega, HB.out⟩
              · have HWA := Lib.hid (show WtOk ac from fun i hi => HW.out i (by omega))
                clear HW
                go_wp2_with fail
                go_loop [7] (fun v7 => ∃ k : Nat, v7 = .int .i64 k ∧ k ≤ dn.length ∧ ∀ i, i < k → 0 ≤ gi dn i ∧ gi dn i ≤ 1000) (fun v7 => dn.length - (intOf v7).toNat)
                case atStart => exact ⟨0, rfl, Nat.zero_le _, fun i hi => by omega⟩
                case round =>
                  obtain ⟨k, rfl, hk, hall⟩ := hrel
                  have HW := Lib.hid hall; clear hall
                  by_cases hlt : k < dn.length
                  · obtain ⟨b, o, rfl, hc⟩ := (HM.out.d.keep HB.out) k hlt
                    obtain ⟨x, hx⟩ : ∃ x, x = gi dn k := ⟨_, rfl⟩
                    rw [← hx] at hc
                    have HX := Lib.hid hx; clear hx
                    have hbl := World.block_lt_of_cell? _ _ hc
                    by_cases hw : 0 ≤ x ∧ x ≤ 1000
                    · have HXW := Lib.hid hw; clear hw
                      go_wp2_with (refine (bwithin_c _ _ _ true (by simp; have := HXW.out; omega) _).mono ?_; rintro e w' ⟨rfl, rfl⟩)
                      go_round
                      case rel => exact ⟨k + 1, by go_num, by omega, fun i hi => by
                        by_cases e : i = k
                        · subst e; rw [← HX.out]; exact HXW.out
                        · exact HW.out i (by omega)⟩
                      case measure => simp [intOf]; omega
                    · have HXW := Lib.hid hw; clear hw
                      go_wp2_with (refine (bwithin_c _ _ _ false (by simp; have := HXW.out; omega) _).mono ?_; rintro e w' ⟨rfl, rfl⟩)
                      go_ret
                      exact ⟨2, rfl, fun h => by omega, HB.out⟩
                  · go_wp2_with fail
                    go_ret
                    exact ⟨0, rfl, fun _ => ⟨⟨r1, r2, c1, c2, HK.out⟩, hf, HP.out.1 trivial, HA.out, HD.out, HWA.out, fun i hi => HW.out i (by have : i < dn.length := hi; omega)⟩, HB.out⟩
          · have hd1 : ((dn.length : Int) != (R - 1) * C) = true := by simpa using hd
            clear hd
            go_wp2_with fail
            go_ret
            exact ⟨10, rfl, fun h => by omega, HB.out⟩
        · have ha1 : ((ac.length : Int) != R * (C - 1)) = true := by simpa using ha
          clear ha
          go_wp2_with fail
          go_ret
          exact ⟨10, rfl, fun h => by omega, HB.out⟩
      · have hg1 : (g != 0) = true := by simpa using hg0
        have HG0 := Lib.hid hg0; clear hg0
        go_wp2_with fail
        go_ret
        exact ⟨g, rfl, fun h => absurd h HG0.out, HB.out⟩
    · go_wp2_with fail
      go_ret
      exact ⟨8, rfl, fun h => by omega, HB.out⟩
  · have hg1 : (g != 0) = true := by simpa using hg0
    have HG0 := Lib.hid hg0; clear hg0
    go_wp2_with fail
    go_ret
    exact ⟨g, rfl, fun h => absurd h HG0.out, HB.out⟩
end Go.Proofs.Ytjnpchoinncbnaa
end
