/- Proves parts of the statement, each under the conditions that its theorem states: slices.Repeat of one number; Where a solver lies in memory, and how its arcs are yielded; The arcs of a node, one after the other: its parts; SolC. -/
import Derived.Test.YtjnpchoinncbnaaP02
import Derived.Test.YtjnpchoinncbnaaP03
import Derived.OwnWalk
import Derived.Laws.IdiomCopy
import Derived.Test.YtjnpchoinncbnaaP04
import Derived.RangeFuncNested
import Derived.RangeFuncBound
import Derived.RangeFuncCalls
import Derived.RangeFuncLeaves
import Derived.OwnWalkIn
import Derived.TacticsInMore
import Derived.LoopNIn
import Derived.LoopIn
import Derived.BigRegionIn
section
set_option linter.unusedSimpArgs false
set_option linter.unusedVariables false
namespace Go.Proofs.Ytjnpchoinncbnaa
open Go.RowKit Sw Fam
theorem bit_and (n : Nat) (hn : n ≤ 1000) : bits .and .u64 n 4294967295 = n := by
  have : ∀ m : Fin 1001, bits .and .u64 (m.val : Int) 4294967295 = m.val := by decide +kernel
  exact this ⟨n, by omega⟩
theorem u64_ok {x : Int} (h1 : 0 ≤ x) (h2 : x ≤ 1000) : IntKind.u64.wrap x = x := by
  simp only [IntKind.wrap]
  have : x % (2 ^ IntKind.u64.bits : Int) = x := Int.emod_eq_of_lt h1 (by show x < 18446744073709551616; omega)
  rw [this]
  rfl
theorem mul64_c (n : Nat) (hn : n ≤ 1000) (w : World) : Calls Try.prog 67 #[.int .u64 1, .int .u64 n] w fun e w' => e = .returned (.tuple #[.int .u64 0, .int .u64 n]) ∧ w = w' := by
  go_enter Try.func67, Try.ntmps67
  have b1 : bits .and .u64 1 4294967295 = 1 := by decide +kernel
  have b2 : bits .and .u64 n 4294967295 = n := bit_and n hn
  have b3 : bits .and .u64 0 4294967295 = 0 := by decide +kernel
  have u0 : IntKind.u64.wrap 0 = 0 := by decide
  have u1 : IntKind.u64.wrap n = n := u64_ok (by omega) (by omega)
  have d1 : (n : Int) / 4294967296 = 0 := by omega
  go_wp2_with fail
  go_ret2
  exact ⟨rfl, rfl⟩
theorem mul_c (n : Nat) (hn : n ≤ 1000) (w : World) : Calls Try.prog 64 #[.int .u64 1, .int .u64 n] w fun e w' => e = .returned (.tuple #[.int .u64 0, .int .u64 n]) ∧ w = w' := by
  go_enter Try.func64, Try.ntmps64
  have u1 : IntKind.u64.wrap n = n := u64_ok (by omega) (by omega)
  go_wp2_with fail
  refine (mul64_c n hn _).mono ?_
  rintro e w' ⟨rfl, rfl⟩
  go_wp2_with fail
  go_ret2
  exact ⟨rfl, rfl⟩
def rp (n : Nat) (c : Int) (k : Nat) : List Int := List.replicate k c ++ List.replicate (n - k) 0
theorem rp_len {n : Nat} {c : Int} {k : Nat} (h : k ≤ n) : (rp n c k).length = n := by unfold rp; simp; omega
theorem rp_set {n : Nat} {c : Int} {k : Nat} (h : k < n) : (rp n c k).set k c = rp n c (k + 1) := by
  unfold rp
  rw [List.set_append_right _ _ (by simp)]
  have e : n - k = (n - (k + 1)) + 1 := by omega
  rw [List.length_replicate, Nat.sub_self, e, List.replicate_succ, List.set_cons_zero, List.replicate_succ', List.append_assoc]
  rfl
theorem rp_all (n : Nat) (c : Int) : rp n c n = List.replicate n c := by unfold rp; simp
theorem rp_none (n : Nat) (c : Int) : rp n c 0 = List.replicate n 0 := by unfold rp; simp
theorem IntB.fill {n : Nat} {c : Int} {b : Nat} : ∀ (m k : Nat) (w : World), k + m ≤ n → IntB w b (rp n c k) → IntB (w.setCells b k (List.replicate m (.int .i64 c))) b (rp n c (k + m)) := by
  intro m
  induction m with
  | zero => intro k w _ h; exact h
  | succ m ih =>
    intro k w hk h
    rw [List.replicate_succ, World.setCells]
    have h1 := h.set (j := k) (by rw [rp_len (by omega)]; omega) c
    rw [rp_set (by omega)] at h1
    have := ih (k + 1) _ (by omega) h1
    rwa [show k + 1 + m = k + (m + 1) by omega] at this
theorem gi_rp {n : Nat} {c : Int} {k j : Nat} (h : j < k) : gi (rp n c k) j = c := by
  unfold gi rp
  simp [List.getD_eq_getElem?_getD, List.getElem?_append, h]

theorem exec_copy {ρ : Operand → Value} {o : Oper} {w w' : World} (x y : Operand) {d s : TypeId} (ho : o.op = .call { callee := .builtin .copy, args := #[x, y], argTypes := #[d, s] }) {dv sv v : Value} (hx : ρ x = dv) (hy : ρ y = sv)
    (h : ∀ ty, (Builtin.copy_ #[d, s] ty #[dv, sv]).run Try.prog w = .ok v w') : (execOp ρ o).run Try.prog w = .ok (.value v) w' := by
  unfold execOp
  simp only [ho, resolve, List.map_toArray, List.map_cons, List.map_nil, hx, hy]
  simp only [Sem.run_bind, Sem.run_pure, Result.andThen_ok, invoke, builtin, h]
theorem copy_fill {W : World} {n : Nat} {c : Int} {B k m dl dc sl sc : Nat} {a : Addr} {dT sT ty : TypeId} (hd : dT = 22) (h : IntB W B (rp n c k)) (hm : m = Nat.min sl dl) (hk : k + m ≤ n) (hs : ∀ j, j < m → W.cell? (a.add j) = some (.int .i64 c)) :
    (Builtin.copy_ #[dT, sT] ty #[.slice (some ⟨B, k, none⟩) dl dc, .slice (some a) sl sc]).run Try.prog W = .ok (goInt m) (W.setCells B k (List.replicate m (.int .i64 c))) := by
  subst hd
  have hl := rp_len (n := n) (c := c) (k := k) (by omega)
  have := run_copy_cells (P := Try.prog) W 22 sT ty 3 B k dl dc a sl sc (List.replicate m (.int .i64 c)) Try.underlying22 (by kernel_rfl) (by rw [List.length_replicate]; exact hm)
    (fun j v hj => by
      obtain ⟨h1, h2⟩ := List.getElem?_eq_some_iff.1 hj
      rw [List.length_replicate] at h1
      rw [List.getElem_replicate] at h2
      rw [← h2]
      exact hs j h1)
    (fun j hj => by
      rw [List.length_replicate] at hj
      rw [h.cell (by rw [hl]; omega)]
      rfl)
    (fun j hj => h.frozen _) (fun v hv => by rw [List.eq_of_mem_replicate hv]; rfl)
  rwa [List.length_replicate] at this

set_option maxHeartbeats 4000000 in
set_option maxRecDepth 100000 in
theorem repeat_c (n : Nat) (hn : 1 ≤ n ∧ n ≤ 1000) (c : Int) (b : Nat) (w : World) (hb : w.cell? ⟨b, 0, none⟩ = some (.int .i64 c)) :
    Calls Try.prog 61 #[.slice (some ⟨b, 0, none⟩) 1 1, .int .i64 n] w fun e w' => ∃ B, e = .returned (.slice (some ⟨B, 0, none⟩) n n) ∧ Below w.heap.size w w' ∧ w.heap.size ≤ B ∧ IntB w' B (List.replicate n c) := by
  obtain ⟨hn1, hn2⟩ := hn
  go_enter Try.func61, Try.ntmps61
  have u1 : IntKind.u64.wrap n = n := u64_ok (by omega) (by omega)
  go_wp2_with fail
  refine (mul_c n hn2 _).mono ?_
  rintro e w' ⟨rfl, rfl⟩
  have hmk := run_make_ints n (by omega) w
  obtain ⟨W1, hW1⟩ : ∃ W1, w.alloc (.cells ((List.replicate n (0:Int)).flatMap encI).toArray 3) = W1 := ⟨_, rfl⟩
  rw [hW1] at hmk
  have hB1 : Below w.heap.size w W1 := by rw [← hW1]; exact (Below.refl _ _).alloc (Nat.le_refl _) _
  have hI1 : IntB W1 w.heap.size (rp n c 0) := by rw [← hW1, rp_none]; exact FlB.new w encI _ _
  have hcp : ∀ ty, _ := fun ty => copy_fill (ty := ty) (sT := 22) (dl := n) (dc := n) (sl := 1) (sc := 1) (m := 1) (a := ⟨b, 0, none⟩) rfl hI1 (show (1 : Nat) = Nat.min 1 n from (Nat.min_eq_left hn1).symm) (by omega) (fun j hj => by
    have : j = 0 := by omega
    subst this
    exact cell_keep hB1 hb)
  obtain ⟨W2, hW2⟩ : ∃ W2, W1.setCells w.heap.size 0 (List.replicate 1 (.int .i64 c)) = W2 := ⟨_, rfl⟩
  rw [hW2] at hcp
  have hB2 : Below w.heap.size w W2 := by rw [← hW2]; exact below_setCells (Nat.le_refl _) _ _ _ hB1
  have hI2 : IntB W2 w.heap.size (rp n c 1) := by rw [← hW2]; exact IntB.fill 1 0 _ (by omega) hI1
  clear hW1 hW2 hb
  have HB2 := Lib.hid hB2; clear hB2 hB1 hI1
  have HI2 := Lib.hid hI2; clear hI2
  go_wp2_with fail
  go_loopw [8] (fun v8 wr => ∃ k : Nat, v8 = .int .i64 k ∧ 1 ≤ k ∧ k ≤ n ∧ Below w.heap.size w wr ∧ IntB wr w.heap.size (rp n c k)) (fun v8 _ => n - (intOf v8).toNat)
  case atStart => exact ⟨1, rfl, Nat.le_refl _, hn1, HB2.out, HI2.out⟩
  case round =>
    obtain ⟨k, rfl, hk1, hk2, hB, hI⟩ := hrel
    have HB := Lib.hid hB; clear hB
    have HI := Lib.hid hI; clear hI
    by_cases hlt : k < n
    · obtain ⟨m, hm⟩ : ∃ m, Nat.min k (n - k) = m := ⟨_, rfl⟩
      have hm1 : 1 ≤ m := by rw [← hm]; exact Nat.le_min.2 ⟨hk1, by omega⟩
      obtain ⟨hm3, hm4⟩ : m ≤ k ∧ m ≤ n - k := by rw [← hm]; exact ⟨Nat.min_le_left _ _, Nat.min_le_right _ _⟩
      have hm2 : k + m ≤ n := by omega
      go_wp2_with fail
      refine region_rel (by kernel_rfl) (by kernel_rfl) (by kernel_rfl) (Lst 7 (fun w' => ∃ q, w' = wr.drewN q) (fun w' => ∃ q, w' = (wr.drewN q).setCells w.heap.size k (List.replicate m (.int .i64 c)))) ⟨1, rfl⟩ ?_
      repeat (refine relq rfl rfl (fun _ _ _ h => Lst.up (by decide) h) (fun K hK => ?_); go_big_quiet_op; (refine hK _ ?_; clear hK K))
      refine relk_fix rfl (goInt m) (fun V L w' h1 h2 h3 hC => ?_) (fun K hK => ?_)
      · unfold Lst at hC
        rw [h1] at hC
        obtain ⟨q, rfl⟩ : ∃ q, w' = wr.drewN q := by simpa using hC
        rw [exec_copy (.tmp 41) (.tmp 44) rfl rfl rfl (fun ty => copy_fill rfl (HI.out.drewN q) hm.symm hm2 (fun j hj => by
          have h9 := HI.out.cell (j := j) (by rw [rp_len hk2]; omega)
          rw [gi_rp (by omega)] at h9
          have e9 : (⟨w.heap.size, 0, none⟩ : Addr).add j = ⟨w.heap.size, j, none⟩ := by unfold Addr.add; by_cases h0 : j = 0 <;> simp [h0]
          rw [e9]
          exact h9))]
        refine ⟨rfl, ?_⟩
        unfold Lst
        rw [upd_same, if_pos rfl]
        exact ⟨q, rfl⟩
      simp only [Act.put, List.setIfInBounds_toArray, List.set_cons_succ, List.set_cons_zero]; (refine hK _ ?_; clear hK K)
      repeat (refine relq rfl rfl (fun _ _ _ h => Lst.up (by decide) h) (fun K hK => ?_); go_big_quiet_op; (refine hK _ ?_; clear hK K))
      refine relk_end (n := 10) fun L V w' hL hC => ?_
      unfold Lst at hC
      rw [hL 7 (by decide)] at hC
      obtain ⟨q, hw⟩ : ∃ q, w' = (wr.drewN q).setCells w.heap.size k (List.replicate m (.int .i64 c)) := by simpa using hC
      have HB3 : Below w.heap.size w w' := by rw [hw]; exact below_setCells (Nat.le_refl _) _ _ _ (below_drewN HB.out q)
      have HI3 : IntB w' w.heap.size (rp n c (k + m)) := by rw [hw]; exact IntB.fill m k _ hm2 (HI.out.drewN q)
      clear hw hC
      go_wp2_with fail
      go_roundw
      case rel => exact ⟨k + m, by simp, by omega, hm2, HB3, HI3⟩
      case measure => simp only [intOf]; omega
    · go_wp2_with fail
      go_ret
      have : k = n := by omega
      subst this
      refine ⟨w.heap.size, rfl, HB.out, Nat.le_refl _, ?_⟩
      rw [← rp_all]; exact HI.out
end Go.Proofs.Ytjnpchoinncbnaa
end

section
set_option linter.unusedSimpArgs false
set_option linter.unusedVariables false
namespace Go.Proofs.Ytjnpchoinncbnaa
open Go.RowKit Sw Fam

structure Loc where
  S : Nat
  x : Nat
  p : Nat
  e : Nat
  a : Nat
  A : Option Addr
  c : Nat
  row : Nat → Option Addr
  rcap : Nat → Nat
def Loc.ok (v : Loc) (b : Nat) : Prop := b ≠ v.x ∧ b ≠ v.p ∧ b ≠ v.e
structure SvM (w : World) (v : Loc) (n : Nat) (es : List Ed) (x p ex : List Int) : Prop where
  blk : w.heap[v.S]? = some (.cells #[.int .i64 n, .slice v.A es.length v.c, .slice (some ⟨v.x, 0, none⟩) es.length es.length, .slice (some ⟨v.p, 0, none⟩) n n, .slice (some ⟨v.e, 0, none⟩) n n, .slice (some ⟨v.a, 0, none⟩) n n] 62 (0, 0))
  fl : IntB w v.x x
  tu : IntB w v.p p
  em : IntB w v.e ex
  ed : ∀ j, j < es.length → ∃ b o, v.A = some ⟨b, o, none⟩ ∧ v.ok b ∧ w.cell? ⟨b, o + j * 4, none⟩ = some (.int .i64 (ge es j).f) ∧
    w.cell? ⟨b, o + j * 4 + 1, none⟩ = some (.int .i64 (ge es j).t) ∧ w.cell? ⟨b, o + j * 4 + 2, none⟩ = some (.int .i64 (ge es j).j) ∧ w.cell? ⟨b, o + j * 4 + 3, none⟩ = some (.int .i64 (ge es j).k)
  rows : ∀ u, u < n → w.cell? ⟨v.a, u, none⟩ = some (.slice (v.row u) (adj es u).length (v.rcap u)) ∧ ∀ j, j < (adj es u).length → ∃ b o, v.row u = some ⟨b, o, none⟩ ∧ v.ok b ∧ w.cell? ⟨b, o + j, none⟩ = some (.int .i64 (gn (adj es u) j))
  okS : v.ok v.S
  okA : v.ok v.a
  xp : v.x ≠ v.p
  xe : v.x ≠ v.e
  pe : v.p ≠ v.e
  lenx : es.length = x.length
  lenp : n = p.length
  lene : n = ex.length
section
variable {w : World} {v : Loc} {n : Nat} {es : List Ed} {x p ex : List Int}
theorem SvM.keep {w' : World} (h : SvM w v n es x p ex) (hb : Below w.heap.size w w') : SvM w' v n es x p ex := by
  refine ⟨(hb.block _ (Array.getElem?_eq_some_iff.1 h.blk).1).trans h.blk, h.fl.keep hb, h.tu.keep hb, h.em.keep hb, fun j hj => ?_, fun u hu => ?_, h.okS, h.okA, h.xp, h.xe, h.pe, h.lenx, h.lenp, h.lene⟩
  · obtain ⟨b, o, h1, h2, h3, h4, h5, h6⟩ := h.ed j hj
    exact ⟨b, o, h1, h2, cell_keep hb h3, cell_keep hb h4, cell_keep hb h5, cell_keep hb h6⟩
  · obtain ⟨h1, h2⟩ := h.rows u hu
    refine ⟨cell_keep hb h1, fun j hj => ?_⟩
    obtain ⟨b, o, h3, h4, h5⟩ := h2 j hj
    exact ⟨b, o, h3, h4, cell_keep hb h5⟩
theorem SvM.set {i b : Nat} {y : Value} (h : SvM w v n es x p ex) (hb : b = v.x ∨ b = v.p ∨ b = v.e) {x' p' ex' : List Int} (l1 : es.length = x'.length) (l2 : n = p'.length) (l3 : n = ex'.length)
    (h1 : IntB (w.setCell ⟨b, i, none⟩ y) v.x x') (h2 : IntB (w.setCell ⟨b, i, none⟩ y) v.p p') (h3 : IntB (w.setCell ⟨b, i, none⟩ y) v.e ex') : SvM (w.setCell ⟨b, i, none⟩ y) v n es x' p' ex' := by
  have hne : ∀ b', v.ok b' → b' ≠ b := fun b' hh e => by
    obtain ⟨a1, a2, a3⟩ := hh
    rcases hb with rfl | rfl | rfl
    · exact a1 e
    · exact a2 e
    · exact a3 e
  have hc : ∀ (b' o' : Nat), v.ok b' → ∀ u, w.cell? ⟨b', o', none⟩ = some u → (w.setCell ⟨b, i, none⟩ y).cell? ⟨b', o', none⟩ = some u := fun b' o' hh u hu => by
    rw [← hu]; exact World.cell?_of_block (w := w) (Below.heap_setCell _ _ _ _ (hne b' hh))
  refine ⟨(Below.heap_setCell _ _ _ _ (hne _ h.okS)).trans h.blk, h1, h2, h3, fun j hj => ?_, fun u hu => ?_, h.okS, h.okA, h.xp, h.xe, h.pe, l1, l2, l3⟩
  · obtain ⟨b', o, g1, g2, g3, g4, g5, g6⟩ := h.ed j hj
    exact ⟨b', o, g1, g2, hc _ _ g2 _ g3, hc _ _ g2 _ g4, hc _ _ g2 _ g5, hc _ _ g2 _ g6⟩
  · obtain ⟨g1, g2⟩ := h.rows u hu
    refine ⟨hc _ _ h.okA _ g1, fun j hj => ?_⟩
    obtain ⟨b', o, g3, g4, g5⟩ := g2 j hj
    exact ⟨b', o, g3, g4, hc _ _ g4 _ g5⟩
theorem SvM.setx (h : SvM w v n es x p ex) {i : Nat} (hi : i < x.length) (y : Int) : SvM (w.setCell ⟨v.x, i, none⟩ (.int .i64 y)) v n es (x.set i y) p ex :=
  h.set (.inl rfl) (by rw [List.length_set]; exact h.lenx) h.lenp h.lene (h.fl.set hi y) (h.tu.other (fun e => h.xp e.symm) _) (h.em.other (fun e => h.xe e.symm) _)
theorem SvM.setp (h : SvM w v n es x p ex) {i : Nat} (hi : i < p.length) (y : Int) : SvM (w.setCell ⟨v.p, i, none⟩ (.int .i64 y)) v n es x (p.set i y) ex :=
  h.set (.inr (.inl rfl)) h.lenx (by rw [List.length_set]; exact h.lenp) h.lene (h.fl.other h.xp _) (h.tu.set hi y) (h.em.other (fun e => h.pe e.symm) _)
theorem SvM.sete (h : SvM w v n es x p ex) {i : Nat} (hi : i < ex.length) (y : Int) : SvM (w.setCell ⟨v.e, i, none⟩ (.int .i64 y)) v n es x p (ex.set i y) :=
  h.set (.inr (.inr rfl)) h.lenx h.lenp (by rw [List.length_set]; exact h.lene) (h.fl.other h.xe _) (h.tu.other h.pe _) (h.em.set hi y)
theorem SvM.c0 (h : SvM w v n es x p ex) : w.cell? ⟨v.S, 0, none⟩ = some (.int .i64 n) := by simp [World.cell?, h.blk]
theorem SvM.c1 (h : SvM w v n es x p ex) : w.cell? ⟨v.S, 1, none⟩ = some (.slice v.A es.length v.c) := by simp [World.cell?, h.blk]
theorem SvM.c2 (h : SvM w v n es x p ex) : w.cell? ⟨v.S, 2, none⟩ = some (.slice (some ⟨v.x, 0, none⟩) es.length es.length) := by simp [World.cell?, h.blk]
theorem SvM.c3 (h : SvM w v n es x p ex) : w.cell? ⟨v.S, 3, none⟩ = some (.slice (some ⟨v.p, 0, none⟩) n n) := by simp [World.cell?, h.blk]
theorem SvM.c4 (h : SvM w v n es x p ex) : w.cell? ⟨v.S, 4, none⟩ = some (.slice (some ⟨v.e, 0, none⟩) n n) := by simp [World.cell?, h.blk]
theorem SvM.c5 (h : SvM w v n es x p ex) : w.cell? ⟨v.S, 5, none⟩ = some (.slice (some ⟨v.a, 0, none⟩) n n) := by simp [World.cell?, h.blk]
end

theorem nameW {F : Fence} {m : Nat} {P : Program} {Q : Exit → Act → World → Prop} {c : Code} {a : Act} {w : World} (h : ∀ W1, W1 = w → Code.wpIn F m P c Q a W1) : Code.wpIn F m P c Q a w := h w rfl
theorem nameQ {Q : Exit → Act → World → Prop} {e : Exit} {a : Act} {w : World} (h : ∀ W1, W1 = w → Q e a W1) : Q e a w := h w rfl
def encA (a : Ar) : List Value := [.int .i64 a.e, .int .i64 a.to, .int .i64 a.s, .int .i64 a.room, .int .i64 a.cost]
theorem encA_len (a : Ar) : (encA a).length = 5 := rfl

def RoundA (l : Nat) (a : Ar) (W : World) (R : World → Prop) : Prop :=
  ∃ rec : Loop, W.heap[l]? = some (.loop rec) ∧ rec.params.size = 1 ∧ ∀ m,
    RoundIn Fence.wide m Try.prog l rec.fn ((rec.params.zip #[.agg (encA a).toArray]).foldl (fun tmps (t, a) => tmps.setIfInBounds t a) rec.tmps) rec.assign rec.body W (fun e W' => e = .returned (.bool true) ∧ R W')

theorem RoundA.use {l : Nat} {ar : Ar} {W : World} {R : World → Prop} (h : RoundA l ar W R) {o : Oper} {m : Nat} {a : Act} {next : Act → World → Prop} {Q : Exit → Act → World → Prop}
    (hn : ∀ w', R w' → next (a.put o.dst (.bool true)) w') :
    Oper.uponIn Fence.wide m Try.prog o a next Q ((Instr.yield l #[.agg (encA ar).toArray]).run Try.prog W) := by
  obtain ⟨rec, h1, h2, h3⟩ := h
  have hr := run_yield (P := Try.prog) (args := #[.agg (encA ar).toArray]) h1 (by simp [h2])
  rw [hr, Oper.uponIn_round]
  refine ⟨fun h => by simp [Fence.wide] at h, (h3 (m - 1)).mono ?_⟩
  rintro e w' ⟨rfl, hR⟩
  exact hn _ hR

theorem set5 {W : World} {B : Nat} {y0 y1 y2 y3 y4 u0 u1 u2 u3 u4 : Value} (h0 : W.cell? ⟨B, 0, none⟩ = some y0) (h1 : W.cell? ⟨B, 1, none⟩ = some y1) (h2 : W.cell? ⟨B, 2, none⟩ = some y2) (h3 : W.cell? ⟨B, 3, none⟩ = some y3) (h4 : W.cell? ⟨B, 4, none⟩ = some y4) {W2 : World}
    (e : W2 = ((((W.setCell ⟨B, 0, none⟩ u0).setCell ⟨B, 1, none⟩ u1).setCell ⟨B, 2, none⟩ u2).setCell ⟨B, 3, none⟩ u3).setCell ⟨B, 4, none⟩ u4) :
    W2.cell? ⟨B, 0, none⟩ = some u0 ∧ W2.cell? ⟨B, 1, none⟩ = some u1 ∧ W2.cell? ⟨B, 2, none⟩ = some u2 ∧ W2.cell? ⟨B, 3, none⟩ = some u3 ∧ W2.cell? ⟨B, 4, none⟩ = some u4 := by
  subst e
  refine ⟨?_, ?_, ?_, ?_, ?_⟩ <;> go_simp

def arcsK (es : List Ed) (x : List Int) (u i : Nat) : List Ar := (((adj es u).take i).map (arcAt es x u)).filter fun a => 0 < a.room
theorem arcsK_zero (es : List Ed) (x : List Int) (u : Nat) : arcsK es x u 0 = [] := rfl
theorem arcsK_all (es : List Ed) (x : List Int) (u : Nat) : arcsK es x u (adj es u).length = arcs es x u := by unfold arcsK arcs; rw [List.take_length]
theorem gn_get {xs : List Nat} {i : Nat} (h : i < xs.length) : gn xs i = xs[i] := by unfold gn; simp [List.getD_eq_getElem?_getD, h]
theorem arcsK_succ {es : List Ed} {x : List Int} {u i : Nat} (h : i < (adj es u).length) :
    arcsK es x u (i + 1) = arcsK es x u i ++ if 0 < (arcAt es x u (gn (adj es u) i)).room then [arcAt es x u (gn (adj es u) i)] else [] := by
  unfold arcsK
  rw [List.take_succ_eq_append_getElem h, List.map_append, List.filter_append, gn_get h]
  by_cases hr : 0 < (arcAt es x u ((adj es u)[i])).room
  · simp [hr]
  · simp [hr]
theorem arcsK_pre (es : List Ed) (x : List Int) (u i : Nat) : arcsK es x u i <+: arcs es x u := by
  unfold arcsK arcs
  exact List.IsPrefix.filter _ (List.IsPrefix.map _ (List.take_prefix i _))
theorem arcsK_here {es : List Ed} {x : List Int} {u i : Nat} (h : i < (adj es u).length) (hr : 0 < (arcAt es x u (gn (adj es u) i)).room) :
    (arcsK es x u i).length < (arcs es x u).length ∧ ga (arcs es x u) (arcsK es x u i).length = arcAt es x u (gn (adj es u) i) := by
  obtain ⟨t, ht⟩ := arcsK_pre es x u (i + 1)
  rw [arcsK_succ h, if_pos hr] at ht
  rw [← ht]
  constructor
  · simp only [List.length_append, List.length_cons]; omega
  · unfold ga
    simp [List.getD_eq_getElem?_getD]
theorem adj_edge {es : List Ed} {u i : Nat} (h : i < (adj es u).length) : gn (adj es u) i < es.length ∧ ((ge es (gn (adj es u) i)).f = u ∨ (ge es (gn (adj es u) i)).t = u) := by
  rw [gn_get h]
  exact mem_adj.1 (List.getElem_mem h)

end Go.Proofs.Ytjnpchoinncbnaa
end

section
set_option linter.unusedSimpArgs false
set_option linter.unusedVariables false
namespace Go.Proofs.Ytjnpchoinncbnaa
open Go.RowKit Sw Fam
set_option maxHeartbeats 4000000 in
set_option maxRecDepth 100000 in
theorem arcs1_tail {m l B : Nat} {ar : Ar} {W : World} {R : World → Prop} {Q : Exit → Act → World → Prop} {u1 u2 u3 u4 u5 u6 u8 u9 u10 u11 u12 u13 u14 u15 u16 u17 u18 u19 u20 u21 u22 u23 u24 u25 u26 u27 u28 u29 u30 u31 u32 u33 u34 u35 u36 u37 u38 u39 u40 u41 u42 u43 u44 u45 u46 u47 u48 u49 u50 u51 u52 u53 u54 u55 u56 u57 u58 u59 u60 u61 u62 u63 u64 u65 u66 u67 u68 u69 u70 u71 u72 u73 u74 u75 : Value}
    (c0 : W.cell? ⟨B, 0, none⟩ = some (.int .i64 ar.e)) (c1 : W.cell? ⟨B, 1, none⟩ = some (.int .i64 ar.to)) (c2 : W.cell? ⟨B, 2, none⟩ = some (.int .i64 ar.s)) (c3 : W.cell? ⟨B, 3, none⟩ = some (.int .i64 ar.room)) (c4 : W.cell? ⟨B, 4, none⟩ = some (.int .i64 ar.cost))
    (hR : 0 < ar.room → RoundA l ar W R) (hN : ¬ 0 < ar.room → R W)
    (hQ : ∀ v66 v67 v68 v69 v70 v71 v72 v73 v74 w', R w' → Q .normal ⟨#[.func (.yield l) #[] #[], u1, u2, u3, u4, u5, u6, .pointer (some ⟨B, 0, none⟩), u8, u9, u10, u11, u12, u13, u14, u15, u16, u17, u18, u19, u20, u21, u22, u23, u24, u25, u26, u27, u28, u29, u30, u31, u32, u33, u34, u35, u36, u37, u38, u39, u40, u41, u42, u43, u44, u45, u46, u47, u48, u49, u50, u51, u52, u53, u54, u55, u56, u57, u58, u59, u60, u61, u62, u63, u64, u65, v66, v67, v68, v69, v70, v71, v72, v73, v74, u75], []⟩ w') :
    Code.wpIn Fence.wide m Try.prog (Try.f65.sub [1, 0, 0, 1, 1, 0, 0, 1, 1, 1, 1]) Q ⟨#[.func (.yield l) #[] #[], u1, u2, u3, u4, u5, u6, .pointer (some ⟨B, 0, none⟩), u8, u9, u10, u11, u12, u13, u14, u15, u16, u17, u18, u19, u20, u21, u22, u23, u24, u25, u26, u27, u28, u29, u30, u31, u32, u33, u34, u35, u36, u37, u38, u39, u40, u41, u42, u43, u44, u45, u46, u47, u48, u49, u50, u51, u52, u53, u54, u55, u56, u57, u58, u59, u60, u61, u62, u63, u64, u65, u66, u67, u68, u69, u70, u71, u72, u73, u74, u75], []⟩ W := by
  conv => arg 4; whnf
  by_cases hr : 0 < ar.room
  · have HR := Lib.hid (hR hr)
    have HQ := Lib.hid hQ; clear hQ hR hN
    gi_wp2_with fail
    refine RoundA.use HR.out ?_
    intro w3 hJ3
    have HJ3 := Lib.hid hJ3; clear hJ3
    gi_wp2_with fail
    exact HQ.out _ _ _ _ _ _ _ _ _ _ HJ3.out
  · have HN := Lib.hid (hN hr)
    have HQ := Lib.hid hQ; clear hQ hR hN
    gi_wp2_with fail
    refine ⟨fun f h => (nomatch h), ?_⟩
    gi_wp2_with fail
    exact HQ.out _ _ _ _ _ _ _ _ _ _ HN.out

set_option maxHeartbeats 4000000 in
set_option maxRecDepth 100000 in
theorem arcs1_turn {m B C sb nb S X i u ef et M : Nat} {ej xi : Int} {ek : Nat} {W : World} {Q : Exit → Act → World → Prop} {u0 u3 u4 u8 u9 u10 u11 u12 u13 u14 u15 u16 u17 u18 u19 u20 u21 u22 u23 u24 u25 u26 u27 u28 u29 u30 u31 u32 u33 u34 u35 u36 u37 u38 u39 u40 u41 u42 u43 u44 u45 u46 u47 u48 u49 u50 u51 u52 u53 u54 u55 u56 u57 u58 u59 u60 u61 u62 u63 u64 u65 u66 u67 u68 u69 u70 u71 u72 u73 u74 u75 : Value}
    (bC : B ≠ C) (bs : sb ≠ B ∧ nb ≠ B ∧ S ≠ B ∧ X ≠ B)
    (s0 : W.cell? ⟨sb, 0, none⟩ = some (.pointer (some ⟨S, 0, none⟩))) (n0 : W.cell? ⟨nb, 0, none⟩ = some (.int .i64 u))
    (s1 : W.cell? ⟨S, 1 + 1, none⟩ = some (.slice (some ⟨X, 0, none⟩) M M)) (hi : i < M) (xc : W.cell? ⟨X, i, none⟩ = some (.int .i64 xi)) (xb : -1000 ≤ xi ∧ xi ≤ 1000) (kb : ek ≤ 1000)
    (t0 : W.cell? ⟨C, 0, none⟩ = some (.int .i64 ef)) (t1 : W.cell? ⟨C, 1, none⟩ = some (.int .i64 et)) (t2 : W.cell? ⟨C, 2, none⟩ = some (.int .i64 ej)) (t3 : W.cell? ⟨C, 3, none⟩ = some (.int .i64 ek))
    (af : ∀ i, W.frozen? ⟨B, i, none⟩ = false)
    (a0 : W.cell? ⟨B, 0, none⟩ = some (.int .i64 i)) (a1 : W.cell? ⟨B, 1, none⟩ = some (.int .i64 et)) (a2 : W.cell? ⟨B, 2, none⟩ = some (.int .i64 1)) (a3 : W.cell? ⟨B, 3, none⟩ = some (.int .i64 (ek - xi))) (a4 : W.cell? ⟨B, 4, none⟩ = some (.int .i64 (-ej)))
    (hQ : ∀ v46 v47 v48 v49 v50 v51 v52 v53 v54 v55 v56 v57 v58 v59 v60 v61 v62 v63 v64 v65 w' (ar : Ar), ar = (if et = u then ⟨i, ef, -1, ek + xi, ej⟩ else ⟨i, et, 1, ek - xi, -ej⟩) → Below B W w' →
      w'.cell? ⟨B, 0, none⟩ = some (.int .i64 ar.e) → w'.cell? ⟨B, 1, none⟩ = some (.int .i64 ar.to) → w'.cell? ⟨B, 2, none⟩ = some (.int .i64 ar.s) → w'.cell? ⟨B, 3, none⟩ = some (.int .i64 ar.room) → w'.cell? ⟨B, 4, none⟩ = some (.int .i64 ar.cost) →
      Q .normal ⟨#[u0, .pointer (some ⟨sb, 0, none⟩), .pointer (some ⟨nb, 0, none⟩), u3, u4, .int .i64 i, .pointer (some ⟨C, 0, none⟩), .pointer (some ⟨B, 0, none⟩), u8, u9, u10, u11, u12, u13, u14, u15, u16, u17, u18, u19, u20, u21, u22, u23, u24, u25, u26, u27, u28, u29, u30, u31, u32, u33, u34, u35, u36, u37, u38, u39, u40, u41, u42, u43, u44, u45, v46, v47, v48, v49, v50, v51, v52, v53, v54, v55, v56, v57, v58, v59, v60, v61, v62, v63, v64, v65, u66, u67, u68, u69, u70, u71, u72, u73, u74, u75], []⟩ w') :
    Code.wpIn Fence.wide m Try.prog (Try.f65.sub [1, 0, 0, 1, 1, 0, 0, 1, 1, 1, 0]) Q ⟨#[u0, .pointer (some ⟨sb, 0, none⟩), .pointer (some ⟨nb, 0, none⟩), u3, u4, .int .i64 i, .pointer (some ⟨C, 0, none⟩), .pointer (some ⟨B, 0, none⟩), u8, u9, u10, u11, u12, u13, u14, u15, u16, u17, u18, u19, u20, u21, u22, u23, u24, u25, u26, u27, u28, u29, u30, u31, u32, u33, u34, u35, u36, u37, u38, u39, u40, u41, u42, u43, u44, u45, u46, u47, u48, u49, u50, u51, u52, u53, u54, u55, u56, u57, u58, u59, u60, u61, u62, u63, u64, u65, u66, u67, u68, u69, u70, u71, u72, u73, u74, u75], []⟩ W := by
  conv => arg 4; whnf
  have HF := Lib.hid af; clear af
  have HQ := Lib.hid hQ; clear hQ
  obtain ⟨xb1, xb2⟩ := xb
  obtain ⟨bs1, bs2, bs3, bs4⟩ := bs
  by_cases ht : et = u
  · subst ht
    gi_wp2_with fail
    refine regionIn_last (.inl rfl) (by kernel_rfl) (by kernel_rfl) (by kernel_rfl) cut_last (by kernel_rfl) (by kernel_rfl) (by kernel_rfl) ?_
    dsimp only [List.dropLast, List.getLast]
    repeat (go_big_quiet_step (fail))
    refine wpQuiet_nil ?_
    obtain ⟨g0, g1, g2, g3, g4⟩ : (W.frozen? ⟨B, 0, none⟩ = false) ∧ (W.frozen? ⟨B, 1, none⟩ = false) ∧ (W.frozen? ⟨B, 2, none⟩ = false) ∧ (W.frozen? ⟨B, 3, none⟩ = false) ∧ (W.frozen? ⟨B, 4, none⟩ = false) := ⟨HF.out 0, HF.out 1, HF.out 2, HF.out 3, HF.out 4⟩
    refine ⟨fun w => ((((w.setCell ⟨B, 0, none⟩ (.int .i64 i)).setCell ⟨B, 1, none⟩ (.int .i64 ef)).setCell ⟨B, 2, none⟩ (.int .i64 (-1))).setCell ⟨B, 3, none⟩ (.int .i64 (ek + xi))).setCell ⟨B, 4, none⟩ (.int .i64 ej), fun n => ?_, fun n => ?_⟩
    · unfold execOp
      go_simp
    refine nameQ (Q := Q) ?_
    intro W2 hW2
    have hB2 : Below B W W2 := by
      rw [hW2]
      have hle : B ≤ B := Nat.le_refl _
      exact (((((below_drewN (Below.refl _ _) n).setCell hle _).setCell hle _).setCell hle _).setCell hle _).setCell hle _
    obtain ⟨b0, b1, b2, b3, b4⟩ := set5 (W := W.drewN n) a0 a1 a2 a3 a4 hW2
    have HB := Lib.hid hB2
    have H0 := Lib.hid (And.intro b0 (And.intro b1 (And.intro b2 (And.intro b3 b4))))
    clear hW2 a0 a1 a2 a3 a4 b0 b1 b2 b3 b4 hB2
    obtain ⟨b0, b1, b2, b3, b4⟩ := H0.out
    exact HQ.out _ _ _ _ _ _ _ _ _ _ _ _ _ _ _ _ _ _ _ _ W2 _ rfl HB.out (by first | exact b0 | simpa using b0 | simpa [ht] using b0) (by first | exact b1 | simpa using b1 | simpa [ht] using b1) (by first | exact b2 | simpa using b2 | simpa [ht] using b2) (by first | exact b3 | simpa using b3 | simpa [ht] using b3) (by first | exact b4 | simpa using b4 | simpa [ht] using b4)
  · have ht1 : ¬ ((et : Int) = u) := by omega
    have H0 := Lib.hid (And.intro a0 (And.intro a1 (And.intro a2 (And.intro a3 a4))))
    clear a0 a1 a2 a3 a4
    gi_wp2_with fail
    obtain ⟨b0, b1, b2, b3, b4⟩ := H0.out
    exact HQ.out _ _ _ _ _ _ _ _ _ _ _ _ _ _ _ _ _ _ _ _ W _ rfl (Below.refl _ _) (by first | exact b0 | simpa using b0 | simpa [ht] using b0) (by first | exact b1 | simpa using b1 | simpa [ht] using b1) (by first | exact b2 | simpa using b2 | simpa [ht] using b2) (by first | exact b3 | simpa using b3 | simpa [ht] using b3) (by first | exact b4 | simpa using b4 | simpa [ht] using b4)
end Go.Proofs.Ytjnpchoinncbnaa
end

section
set_option linter.unusedSimpArgs false
set_option linter.unusedVariables false
namespace Go.Proofs.Ytjnpchoinncbnaa
open Go.RowKit Sw Fam
def T1 (B : Nat) (V : Nat → Value) : Nat → World → Prop
  | 17, w => ∃ b, V 17 = .pointer (some ⟨b, 0, none⟩) ∧ B ≤ b ∧ w.heap[b]? = some (.cells #[.int .i64 0, .int .i64 0, .int .i64 0, .int .i64 0, .int .i64 0] 99 (0, 0))
  | _, _ => True
theorem T1_ok (B : Nat) (ops : Array Oper) : GrT ops (T1 B) := by
  constructor
  · intro V j w w' h hb
    unfold T1 at h ⊢
    split
    · obtain ⟨b, h1, h2, h3⟩ := h
      exact ⟨b, h1, h2, (hb.block b (Array.getElem?_eq_some_iff.1 h3).1).trans h3⟩
    · trivial
  · intro L V w i u j hi hc hj h
    unfold T1 at h ⊢
    split
    · obtain ⟨b, h1, h2⟩ := h
      have : (17 : Nat) ≠ i := fun e => by rw [← e, hj] at hi; cases hi
      exact ⟨b, by rw [setV_ne _ _ this]; exact h1, h2⟩
    · trivial
set_option maxHeartbeats 4000000 in
set_option maxRecDepth 100000 in
theorem arcs1_make {m C sb S X i et M : Nat} {ej xi : Int} {ek : Nat} {W : World} {Q : Exit → Act → World → Prop} {u0 u2 u3 u4 u7 u8 u9 u10 u11 u12 u13 u14 u15 u16 u17 u18 u19 u20 u21 u22 u23 u24 u25 u26 u27 u28 u29 u30 u31 u32 u33 u34 u35 u36 u37 u38 u39 u40 u41 u42 u43 u44 u45 u46 u47 u48 u49 u50 u51 u52 u53 u54 u55 u56 u57 u58 u59 u60 u61 u62 u63 u64 u65 u66 u67 u68 u69 u70 u71 u72 u73 u74 u75 : Value}
    (s0 : W.cell? ⟨sb, 0, none⟩ = some (.pointer (some ⟨S, 0, none⟩)))
    (s1 : W.cell? ⟨S, 2, none⟩ = some (.slice (some ⟨X, 0, none⟩) M M)) (hi : i < M) (xc : W.cell? ⟨X, i, none⟩ = some (.int .i64 xi)) (xb : -1000 ≤ xi ∧ xi ≤ 1000) (kb : ek ≤ 1000) (jb : -1000 ≤ ej ∧ ej ≤ 1000)
    (t1 : W.cell? ⟨C, 1, none⟩ = some (.int .i64 et)) (t2 : W.cell? ⟨C, 2, none⟩ = some (.int .i64 ej)) (t3 : W.cell? ⟨C, 3, none⟩ = some (.int .i64 ek))
    (hQ : ∀ B v29 v30 v31 v32 v33 v34 v35 v36 v37 v38 v39 v40 v41 v42 v43 v44 v45 w', W.heap.size ≤ B → Below W.heap.size W w' → (∀ i, w'.frozen? ⟨B, i, none⟩ = false) →
      w'.cell? ⟨B, 0, none⟩ = some (.int .i64 i) → w'.cell? ⟨B, 1, none⟩ = some (.int .i64 et) → w'.cell? ⟨B, 2, none⟩ = some (.int .i64 1) → w'.cell? ⟨B, 3, none⟩ = some (.int .i64 (ek - xi)) → w'.cell? ⟨B, 4, none⟩ = some (.int .i64 (-ej)) →
      Q .normal ⟨#[u0, .pointer (some ⟨sb, 0, none⟩), u2, u3, u4, .int .i64 i, .pointer (some ⟨C, 0, none⟩), .pointer (some ⟨B, 0, none⟩), u8, u9, u10, u11, u12, u13, u14, u15, u16, u17, u18, u19, u20, u21, u22, u23, u24, u25, u26, u27, u28, v29, v30, v31, v32, v33, v34, v35, v36, v37, v38, v39, v40, v41, v42, v43, v44, v45, u46, u47, u48, u49, u50, u51, u52, u53, u54, u55, u56, u57, u58, u59, u60, u61, u62, u63, u64, u65, u66, u67, u68, u69, u70, u71, u72, u73, u74, u75], []⟩ w') :
    Code.wpIn Fence.wide m Try.prog (Try.f65.sub [1, 0, 0, 1, 1, 0, 0, 1, 1, 0]) Q ⟨#[u0, .pointer (some ⟨sb, 0, none⟩), u2, u3, u4, .int .i64 i, .pointer (some ⟨C, 0, none⟩), u7, u8, u9, u10, u11, u12, u13, u14, u15, u16, u17, u18, u19, u20, u21, u22, u23, u24, u25, u26, u27, u28, u29, u30, u31, u32, u33, u34, u35, u36, u37, u38, u39, u40, u41, u42, u43, u44, u45, u46, u47, u48, u49, u50, u51, u52, u53, u54, u55, u56, u57, u58, u59, u60, u61, u62, u63, u64, u65, u66, u67, u68, u69, u70, u71, u72, u73, u74, u75], []⟩ W := by
  conv => arg 4; whnf
  dsimp only
  have HQ := Lib.hid hQ; clear hQ
  obtain ⟨xb1, xb2⟩ := xb
  obtain ⟨jb1, jb2⟩ := jb
  refine regionIn_rel (.inl rfl) (by kernel_rfl) (by kernel_rfl) (by kernel_rfl) (GrC W.heap.size W (fun L => L 18) (T1 W.heap.size) (fun V w' => ∃ w0 b, V 17 = .pointer (some ⟨b, 0, none⟩) ∧ W.heap.size ≤ b ∧ Below W.heap.size W w0 ∧ w0.heap[b]? = some (.cells #[.int .i64 0, .int .i64 0, .int .i64 0, .int .i64 0, .int .i64 0] 99 (0, 0)) ∧ w' = w0.setCells b 0 [.int .i64 i, .int .i64 et, .int .i64 1, .int .i64 (ek - xi), .int .i64 (-ej)])) (GrC.start rfl (Below.refl _ _).drew) ?_
  (repeat (first | (refine relq rfl rfl (by (first | (exact fun _ _ _ h => GrC.up (fun L => upd_ne _ (by decide)) (fun _ _ => trivial) h) | (exact fun _ _ _ h => GrC.up (fun L => rfl) (fun _ _ => trivial) h) | (exact fun _ _ _ h => Lst.up (by decide) h) | (exact fun _ _ _ h => h))) (fun K hK => ?_); go_big_quiet_op; (refine hK _ ?_; clear hK K)) | (refine relk_nil rfl _ rfl _ rfl (by (first | (exact fun _ _ _ h => GrC.up (fun L => upd_ne _ (by decide)) (fun _ _ => trivial) h) | (exact fun _ _ _ h => GrC.up (fun L => rfl) (fun _ _ => trivial) h) | (exact fun _ _ _ h => Lst.up (by decide) h) | (exact fun _ _ _ h => h))) (fun K hK => ?_); simp only [Act.put, List.setIfInBounds_toArray, List.set_cons_succ, List.set_cons_zero]; (refine hK _ ?_; clear hK K))))
  (refine relk_val rfl _ (by (first | (exact fun _ _ _ h => GrC.up (fun L => upd_ne _ (by decide)) (fun _ _ => trivial) h) | (exact fun _ _ _ h => GrC.up (fun L => rfl) (fun _ _ => trivial) h) | (exact fun _ _ _ h => Lst.up (by decide) h) | (exact fun _ _ _ h => h))) (fun V L w' h1 h2 h3 hC => ex_load1 _ _ rfl _ rfl (cellB (hC.before ((ahead_last (by kernel_rfl)).1 L h1 h3)).1 t1) _ Try.underlying3 rfl) (fun K hK => ?_); simp only [Act.put, List.setIfInBounds_toArray, List.set_cons_succ, List.set_cons_zero]; (refine hK _ ?_; clear hK K); (repeat (first | (refine relq rfl rfl (by (first | (exact fun _ _ _ h => GrC.up (fun L => upd_ne _ (by decide)) (fun _ _ => trivial) h) | (exact fun _ _ _ h => GrC.up (fun L => rfl) (fun _ _ => trivial) h) | (exact fun _ _ _ h => Lst.up (by decide) h) | (exact fun _ _ _ h => h))) (fun K hK => ?_); go_big_quiet_op; (refine hK _ ?_; clear hK K)) | (refine relk_nil rfl _ rfl _ rfl (by (first | (exact fun _ _ _ h => GrC.up (fun L => upd_ne _ (by decide)) (fun _ _ => trivial) h) | (exact fun _ _ _ h => GrC.up (fun L => rfl) (fun _ _ => trivial) h) | (exact fun _ _ _ h => Lst.up (by decide) h) | (exact fun _ _ _ h => h))) (fun K hK => ?_); simp only [Act.put, List.setIfInBounds_toArray, List.set_cons_succ, List.set_cons_zero]; (refine hK _ ?_; clear hK K)))))
  (refine relk_val rfl _ (by (first | (exact fun _ _ _ h => GrC.up (fun L => upd_ne _ (by decide)) (fun _ _ => trivial) h) | (exact fun _ _ _ h => GrC.up (fun L => rfl) (fun _ _ => trivial) h) | (exact fun _ _ _ h => Lst.up (by decide) h) | (exact fun _ _ _ h => h))) (fun V L w' h1 h2 h3 hC => ex_load1 _ _ rfl _ rfl (cellB (hC.before ((ahead_last (by kernel_rfl)).1 L h1 h3)).1 t3) _ Try.underlying3 rfl) (fun K hK => ?_); simp only [Act.put, List.setIfInBounds_toArray, List.set_cons_succ, List.set_cons_zero]; (refine hK _ ?_; clear hK K); (repeat (first | (refine relq rfl rfl (by (first | (exact fun _ _ _ h => GrC.up (fun L => upd_ne _ (by decide)) (fun _ _ => trivial) h) | (exact fun _ _ _ h => GrC.up (fun L => rfl) (fun _ _ => trivial) h) | (exact fun _ _ _ h => Lst.up (by decide) h) | (exact fun _ _ _ h => h))) (fun K hK => ?_); go_big_quiet_op; (refine hK _ ?_; clear hK K)) | (refine relk_nil rfl _ rfl _ rfl (by (first | (exact fun _ _ _ h => GrC.up (fun L => upd_ne _ (by decide)) (fun _ _ => trivial) h) | (exact fun _ _ _ h => GrC.up (fun L => rfl) (fun _ _ => trivial) h) | (exact fun _ _ _ h => Lst.up (by decide) h) | (exact fun _ _ _ h => h))) (fun K hK => ?_); simp only [Act.put, List.setIfInBounds_toArray, List.set_cons_succ, List.set_cons_zero]; (refine hK _ ?_; clear hK K)))))
  (refine relk_val rfl _ (by (first | (exact fun _ _ _ h => GrC.up (fun L => upd_ne _ (by decide)) (fun _ _ => trivial) h) | (exact fun _ _ _ h => GrC.up (fun L => rfl) (fun _ _ => trivial) h) | (exact fun _ _ _ h => Lst.up (by decide) h) | (exact fun _ _ _ h => h))) (fun V L w' h1 h2 h3 hC => ex_load1 _ _ rfl _ rfl (cellB (hC.before ((ahead_last (by kernel_rfl)).1 L h1 h3)).1 s0) _ Try.underlying57 rfl) (fun K hK => ?_); simp only [Act.put, List.setIfInBounds_toArray, List.set_cons_succ, List.set_cons_zero]; (refine hK _ ?_; clear hK K); (repeat (first | (refine relq rfl rfl (by (first | (exact fun _ _ _ h => GrC.up (fun L => upd_ne _ (by decide)) (fun _ _ => trivial) h) | (exact fun _ _ _ h => GrC.up (fun L => rfl) (fun _ _ => trivial) h) | (exact fun _ _ _ h => Lst.up (by decide) h) | (exact fun _ _ _ h => h))) (fun K hK => ?_); go_big_quiet_op; (refine hK _ ?_; clear hK K)) | (refine relk_nil rfl _ rfl _ rfl (by (first | (exact fun _ _ _ h => GrC.up (fun L => upd_ne _ (by decide)) (fun _ _ => trivial) h) | (exact fun _ _ _ h => GrC.up (fun L => rfl) (fun _ _ => trivial) h) | (exact fun _ _ _ h => Lst.up (by decide) h) | (exact fun _ _ _ h => h))) (fun K hK => ?_); simp only [Act.put, List.setIfInBounds_toArray, List.set_cons_succ, List.set_cons_zero]; (refine hK _ ?_; clear hK K)))))
  (refine relk_val rfl _ (by (first | (exact fun _ _ _ h => GrC.up (fun L => upd_ne _ (by decide)) (fun _ _ => trivial) h) | (exact fun _ _ _ h => GrC.up (fun L => rfl) (fun _ _ => trivial) h) | (exact fun _ _ _ h => Lst.up (by decide) h) | (exact fun _ _ _ h => h))) (fun V L w' h1 h2 h3 hC => ex_load1 _ _ rfl _ rfl (cellB (hC.before ((ahead_last (by kernel_rfl)).1 L h1 h3)).1 s1) _ Try.underlying22 rfl) (fun K hK => ?_); simp only [Act.put, List.setIfInBounds_toArray, List.set_cons_succ, List.set_cons_zero]; (refine hK _ ?_; clear hK K); (repeat (first | (refine relq rfl rfl (by (first | (exact fun _ _ _ h => GrC.up (fun L => upd_ne _ (by decide)) (fun _ _ => trivial) h) | (exact fun _ _ _ h => GrC.up (fun L => rfl) (fun _ _ => trivial) h) | (exact fun _ _ _ h => Lst.up (by decide) h) | (exact fun _ _ _ h => h))) (fun K hK => ?_); go_big_quiet_op; (refine hK _ ?_; clear hK K)) | (refine relk_nil rfl _ rfl _ rfl (by (first | (exact fun _ _ _ h => GrC.up (fun L => upd_ne _ (by decide)) (fun _ _ => trivial) h) | (exact fun _ _ _ h => GrC.up (fun L => rfl) (fun _ _ => trivial) h) | (exact fun _ _ _ h => Lst.up (by decide) h) | (exact fun _ _ _ h => h))) (fun K hK => ?_); simp only [Act.put, List.setIfInBounds_toArray, List.set_cons_succ, List.set_cons_zero]; (refine hK _ ?_; clear hK K)))))
  (refine relk_val rfl _ (by (first | (exact fun _ _ _ h => GrC.up (fun L => upd_ne _ (by decide)) (fun _ _ => trivial) h) | (exact fun _ _ _ h => GrC.up (fun L => rfl) (fun _ _ => trivial) h) | (exact fun _ _ _ h => Lst.up (by decide) h) | (exact fun _ _ _ h => h))) (fun V L w' h1 h2 h3 hC => ex_load1 _ _ rfl _ rfl (cellB (hC.before ((ahead_last (by kernel_rfl)).1 L h1 h3)).1 xc) _ Try.underlying3 rfl) (fun K hK => ?_); simp only [Act.put, List.setIfInBounds_toArray, List.set_cons_succ, List.set_cons_zero]; (refine hK _ ?_; clear hK K); (repeat (first | (refine relq rfl rfl (by (first | (exact fun _ _ _ h => GrC.up (fun L => upd_ne _ (by decide)) (fun _ _ => trivial) h) | (exact fun _ _ _ h => GrC.up (fun L => rfl) (fun _ _ => trivial) h) | (exact fun _ _ _ h => Lst.up (by decide) h) | (exact fun _ _ _ h => h))) (fun K hK => ?_); go_big_quiet_op; (refine hK _ ?_; clear hK K)) | (refine relk_nil rfl _ rfl _ rfl (by (first | (exact fun _ _ _ h => GrC.up (fun L => upd_ne _ (by decide)) (fun _ _ => trivial) h) | (exact fun _ _ _ h => GrC.up (fun L => rfl) (fun _ _ => trivial) h) | (exact fun _ _ _ h => Lst.up (by decide) h) | (exact fun _ _ _ h => h))) (fun K hK => ?_); simp only [Act.put, List.setIfInBounds_toArray, List.set_cons_succ, List.set_cons_zero]; (refine hK _ ?_; clear hK K)))))
  (refine relk_val rfl _ (by (first | (exact fun _ _ _ h => GrC.up (fun L => upd_ne _ (by decide)) (fun _ _ => trivial) h) | (exact fun _ _ _ h => GrC.up (fun L => rfl) (fun _ _ => trivial) h) | (exact fun _ _ _ h => Lst.up (by decide) h) | (exact fun _ _ _ h => h))) (fun V L w' h1 h2 h3 hC => ex_load1 _ _ rfl _ rfl (cellB (hC.before ((ahead_last (by kernel_rfl)).1 L h1 h3)).1 t2) _ Try.underlying3 rfl) (fun K hK => ?_); simp only [Act.put, List.setIfInBounds_toArray, List.set_cons_succ, List.set_cons_zero]; (refine hK _ ?_; clear hK K); (repeat (first | (refine relq rfl rfl (by (first | (exact fun _ _ _ h => GrC.up (fun L => upd_ne _ (by decide)) (fun _ _ => trivial) h) | (exact fun _ _ _ h => GrC.up (fun L => rfl) (fun _ _ => trivial) h) | (exact fun _ _ _ h => Lst.up (by decide) h) | (exact fun _ _ _ h => h))) (fun K hK => ?_); go_big_quiet_op; (refine hK _ ?_; clear hK K)) | (refine relk_nil rfl _ rfl _ rfl (by (first | (exact fun _ _ _ h => GrC.up (fun L => upd_ne _ (by decide)) (fun _ _ => trivial) h) | (exact fun _ _ _ h => GrC.up (fun L => rfl) (fun _ _ => trivial) h) | (exact fun _ _ _ h => Lst.up (by decide) h) | (exact fun _ _ _ h => h))) (fun K hK => ?_); simp only [Act.put, List.setIfInBounds_toArray, List.set_cons_succ, List.set_cons_zero]; (refine hK _ ?_; clear hK K)))))
  refine gr_free (T1_ok _ _) (ahead_last (by kernel_rfl)) (Nat.le_refl _) rfl (fun V L w hB _ _ => ?_) ?_
  · rw [ex_alloc 99 rfl (z := .agg #[.int .i64 0, .int .i64 0, .int .i64 0, .int .i64 0, .int .i64 0]) (by kernel_rfl)]
    exact ⟨(Below.refl _ _).alloc (Nat.le_refl _) _, fun V' _ h => ⟨w.heap.size, h, hB.size, heap_alloc_new w _⟩⟩
  refine gr_last rfl rfl (fun V w hB hT => ?_) (fun j hj => by revert j; decide +kernel) rfl ?_ (by decide)
  · obtain ⟨b, h1, h2, h3⟩ := hT 17 (by decide)
    rw [ex_storeN 99 (.tmp 7) (.tmp 45) rfl b 0 #[.int .i64 i, .int .i64 et, .int .i64 1, .int .i64 (ek - xi), .int .i64 (-ej)] h1 rfl ?_ (by kernel_rfl) (by simp [Value.oneCell'])]
    · exact ⟨rfl, w, b, h1, h2, hB, h3, rfl⟩
    · exact block_there h3 (Nat.le_refl 5)
  · rintro V w' ⟨w0, b, h1, h2, h3, h4, rfl⟩
    have hc := rangeAt_setCells (w := w0) (b := b) (k := 0) (vs := [.int .i64 i, .int .i64 et, .int .i64 1, .int .i64 (ek - xi), .int .i64 (-ej)]) (fun j hj => (block_there h4 (n := 5) (by decide) j hj).1)
    rw [h1]
    refine HQ.out b _ _ _ _ _ _ _ _ _ _ _ _ _ _ _ _ _ _ h2 ?_ (fun j => ?_) (hc 0 _ rfl) (hc 1 _ rfl) (hc 2 _ rfl) (hc 3 _ rfl) (hc 4 _ rfl)
    · exact below_setCells h2 _ _ _ h3
    · rw [World.frozen?_setCells]; simp [World.frozen?, h4]
end Go.Proofs.Ytjnpchoinncbnaa
end
