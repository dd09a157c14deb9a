/- Proves parts of the statement, each under the conditions that its theorem states: The reference's way: the contract; The reference's Along: one phase is put behind; The reference's Along: the phase of one scene is put behind the others; The reference's Along: the loop. -/
import Derived.Test.YtjnpchoinncbnaaGreatP34
import Derived.Test.YtjnpchoinncbnaaGreatP30
import Derived.Test.YtjnpchoinncbnaaGreatP31
set_option linter.unusedSimpArgs false
set_option linter.unusedVariables false
set_option maxHeartbeats 4000000
set_option maxRecDepth 100000
section
namespace Go.Proofs.YtjnpchoinncbnaaGreat
open Go.RowKit Sw Fam
theorem run_make_steps (n : Nat) (hn : n ≤ 1000) (W : World) : (Instr.makeSlice 110 (.int .i64 (n : Int)) (.int .i64 (n : Int))).run Tryz.prog W = .ok (.slice (some ⟨W.heap.size, 0, none⟩) n n) (W.alloc (.cells ((List.replicate n (⟨0, 0⟩ : St2)).flatMap encT).toArray 95)) :=
  run_make_flat encT_len (by decide) ⟨0, 0⟩ _ _ (.agg #[.int .i64 0, .int .i64 0]) 16 Tryz.underlying110 (by kernel_rfl) rfl n hn (by decide) W
def WayPost (t : Sk) (F : List Int) (src to : Nat) (w : World) (e : Ending) (w' : World) : Prop := ∃ A c out, e = .returned (.slice A out.length c) ∧ Below w.heap.size w w' ∧ GrT2 w' w.heap.size A c out ∧ Chn (prs t) F src to out ∧ out.length ≤ 60
theorem way_c {t : Sk} {l : SkL} {w : World} {F : List Int} {FA : Option Addr} {fc src to : Nat} (hM : NetM w t l) (ho : NetOk t) (hF : RdI w FA F) (hfr : ∀ j, j < F.length → 0 ≤ gi F j ∧ gi F j < t.pr.length) (hfl : F.length ≤ 200) (hsrc : src < t.sc.length) (hto : to < t.sc.length)
    (hcl : ∀ d : Nat → Int, (∀ i : Nat, (i : Int) ∈ F → d (gq (prs t) i).f = d (gq (prs t) i).s) → d src = d to) : Calls Tryz.prog 62 #[NetV t l, .slice FA F.length fc, .int .i64 src, .int .i64 to] w (WayPost t F src to w) := by
  have h60 := ho.n_le
  have HM := Lib.hid (And.intro hM (And.intro ho (And.intro hF (And.intro hfr (And.intro hfl hcl))))); clear hM ho hF hfr hfl hcl
  unfold NetV
  go_enter Tryz.func62, Tryz.ntmps62
  show Code.wp Tryz.prog (.seq (Tryz.f62.sub [0]) (.seq (Tryz.f62.sub [1, 0]) (.seq (Tryz.f62.sub [1, 1, 0]) (.seq (Tryz.f62.sub [1, 1, 1, 0]) (.seq (.seq (Tryz.f62.sub [1, 1, 1, 1, 0, 0]) (.block 0 (.loop (Tryz.f62.sub [1, 1, 1, 1, 0, 1, 0, 0])))) (.seq (Tryz.f62.sub [1, 1, 1, 1, 1, 0]) (.seq (.seq (Tryz.f62.sub [1, 1, 1, 1, 1, 1, 0, 0]) (.block 6 (.loop (Tryz.f62.sub [1, 1, 1, 1, 1, 1, 0, 1, 0, 0])))) (Tryz.f62.sub [1, 1, 1, 1, 1, 1, 1])))))))) _ _ _
  refine wp_seq ?_
  conv => arg 2; whnf
  go_wp2_with fail
  refine nameC ?_
  intro W1 hW1
  obtain ⟨hB1, e1⟩ := alloc1 w _ hW1
  clear hW1
  obtain ⟨G, hG⟩ : ∃ G, w.heap.size = G := ⟨_, rfl⟩
  rw [hG] at e1
  rw [hG]
  have g0 : W1.cell? ⟨G, 0, none⟩ = some (.slice l.S t.sc.length l.cs) := block_cell e1 (j := 0) (by simp)
  have HB := Lib.hid (And.intro hB1 (And.intro e1 hG)); clear hB1 e1 hG
  have hmk := run_make_steps t.sc.length (by omega) W1
  conv => arg 2; whnf
  go_wp2_with fail
  refine nameC ?_
  intro W2 hW2
  have hB2 : Below W1.heap.size W1 W2 := by rw [hW2]; exact (Below.refl _ _).alloc (Nat.le_refl _) _
  have hY2 : FlB encT 95 W2 W1.heap.size (List.replicate t.sc.length ⟨0, 0⟩) := by rw [hW2]; exact FlB.new W1 encT _ _
  have hz2 : W2.heap.size = W1.heap.size + 1 := by rw [hW2]; simp
  have g0' := cell_keep hB2 g0
  clear hmk hW2 g0
  have hmk := run_make_bools t.sc.length (by omega) W2
  conv => arg 2; whnf
  go_wp2_with fail
  rw [show W1.heap.size + 1 = W2.heap.size by omega]
  have HZ2 := Lib.hid hz2; clear hz2
  refine nameC ?_
  intro W3 hW3
  have hB3 : Below W2.heap.size W2 W3 := by rw [hW3]; exact (Below.refl _ _).alloc (Nat.le_refl _) _
  have hs3 : BoolB W3 W2.heap.size (List.replicate t.sc.length false) := by rw [hW3]; exact FlB.new W2 encB _ _
  have sc0 := hs3.cell (j := src) (by simpa using hsrc)
  have sf0 := FlB.frozen hs3 src
  have g0'' := cell_keep hB3 g0'
  have hsl : (src : Int) < t.sc.length := by omega
  have H3 := Lib.hid (And.intro hB2 (And.intro hY2 (And.intro hB3 hs3))); clear hB2 hY2 hB3 hs3 hW3 hmk g0'
  conv => arg 2; whnf
  go_wp2_with fail
  refine nameC ?_
  intro W4 hW4
  have hB13 : Below W1.heap.size W1 W3 := H3.out.1.trans (H3.out.2.2.1.mono (by have := HZ2.out; omega))
  have hs1 := HB.out.1.size
  have hgs : W1.heap.size ≤ W2.heap.size := by have := HZ2.out; omega
  have hB14 : Below W1.heap.size W1 W4 := by rw [hW4]; exact hB13.setCell hgs _
  have hM4 : WyM W1 W1.heap.size W2.heap.size (List.replicate t.sc.length ⟨0, 0⟩) ((List.replicate t.sc.length false).set src true) W4 := by
    refine ⟨hB14, ?_, ?_⟩
    · rw [hW4]; exact FlB.other (FlB.keep H3.out.2.1 H3.out.2.2.1) (by show W1.heap.size ≠ W2.heap.size; have := HZ2.out; omega) _
    · rw [hW4]; exact BoolB.set H3.out.2.2.2 (by simpa using hsrc) true
  have hWS : WyS W1 t l F FA G W1.heap.size W2.heap.size := ⟨HM.out.1.keep HB.out.1, HM.out.2.1, HM.out.2.2.1.keep HB.out.1, HM.out.2.2.2.1, HM.out.2.2.2.2.1, HB.out.2.1, Nat.le_refl _, hgs⟩
  have g4 : W4.cell? ⟨G, 0, none⟩ = some (.slice l.S t.sc.length l.cs) := block_cell ((hB14.block _ (Array.getElem?_eq_some_iff.1 HB.out.2.1).1).trans HB.out.2.1) (j := 0) (by simp)
  have H4 := Lib.hid (And.intro hM4 hWS); clear hM4 hWS hB13 hB14 hW4 sc0 sf0 g0''
  conv => arg 2; whnf
  go_wp2_with fail
  have hst := WayS.start t.sc.length (prs t) F hsrc
  have hc1 : 1 ≤ cnt ((List.replicate t.sc.length false).set src true) := by
    have := cnt_set (List.replicate t.sc.length false) src (by simpa using hsrc) (by simp [gb, hsrc])
    omega
  refine wp_loop (LoopRd W1 t F W1.heap.size W2.heap.size src (.slice FA F.length fc) (.int .i64 src) (.int .i64 to) (.pointer (some ⟨G, 0, none⟩))) (fun a _ => t.sc.length - (intOf (a.tmps.getD 32 undef)).toNat) ⟨0, _, _, _, Nat.zero_le _, H4.out.1, hst, .inl (by omega), by (refine ⟨rfl, rfl, ?_⟩; repeat (first | exact trivial | refine ⟨rfl, ?_⟩))⟩ ?_
  intro a5 w5 hI5
  refine wy_rounds rfl H4.out.2 ?_ hI5
  intro a6 w6 by6 seen6 rk6 hM6 hW6 hC6 hfr6
  rename_i K6 hK6
  obtain ⟨v6, rfl⟩ := hfr6.open
  clear hfr6 hI5 hst hc1
  refine hK6 _ _ ?_
  clear hK6
  have hreach := hC6.reach (n := 0) (fun j hj => (HM.out.2.2.2.1 j hj).1) HM.out.2.2.2.2.2 hW6.sr
  have hrk := hW6.rkn to hto hreach
  have hcl := cnt_le seen6
  rw [hW6.ls] at hcl
  have H6 := Lib.hid (And.intro hM6 (And.intro hW6 hreach)); clear hM6 hW6 hC6 hreach
  show Code.wp Tryz.prog (.seq (Tryz.f62.sub [1, 1, 1, 1, 1, 0]) (.seq (.seq (Tryz.f62.sub [1, 1, 1, 1, 1, 1, 0, 0]) (.block 6 (.loop (Tryz.f62.sub [1, 1, 1, 1, 1, 1, 0, 1, 0, 0])))) (Tryz.f62.sub [1, 1, 1, 1, 1, 1, 1]))) _ ⟨#[(v6 0), (v6 1), .int .i64 src, .int .i64 to, .pointer (some ⟨G, 0, none⟩), (v6 5), (v6 6), (v6 7), (v6 8), .slice (some ⟨W1.heap.size, 0, none⟩) t.sc.length t.sc.length, (v6 10), (v6 11), (v6 12), (v6 13), (v6 14), (v6 15), (v6 16), (v6 17), (v6 18), (v6 19), (v6 20), (v6 21), (v6 22), (v6 23), (v6 24), (v6 25), (v6 26), (v6 27), (v6 28), (v6 29), (v6 30), (v6 31), (v6 32), (v6 33), (v6 34), (v6 35), (v6 36), (v6 37), (v6 38), (v6 39), (v6 40), (v6 41), (v6 42), (v6 43), (v6 44), (v6 45), (v6 46), (v6 47), (v6 48), (v6 49), (v6 50), (v6 51), (v6 52), (v6 53), (v6 54), (v6 55), (v6 56), (v6 57), (v6 58), (v6 59), (v6 60), (v6 61), (v6 62), (v6 63), (v6 64), (v6 65), (v6 66), (v6 67), (v6 68), (v6 69), (v6 70), (v6 71), (v6 72), (v6 73), (v6 74), (v6 75), (v6 76), (v6 77), (v6 78), (v6 79), (v6 80), (v6 81), (v6 82), (v6 83), (v6 84), (v6 85), (v6 86), (v6 87), (v6 88), (v6 89), (v6 90), (v6 91), (v6 92), (v6 93), (v6 94), (v6 95)], []⟩ _
  refine wp_seq ?_
  conv => arg 2; whnf
  dsimp only
  go_wp2_with fail
  conv => arg 2; whnf
  go_wp2_with fail
  refine wp_loop (LoopBk w6 t F G W1.heap.size src to rk6 seen6) (fun a _ => rk6 (intOf (a.tmps.getD 17 undef)).toNat) ⟨to, [], none, 0, hto, H6.out.2.2, Chn.nil _, by simp, Below.refl _ _, GrF.start _ _, by (refine ⟨rfl, rfl, ?_⟩; repeat (first | exact trivial | refine ⟨rfl, ?_⟩))⟩ ?_
  intro a7 w7 hI7
  refine wy_back H4.out.2 H6.out.1 H6.out.2.1 (by omega) ?_ hI7
  intro a8 w8 out A c hch hle hB8 hG8 hfr8
  rename_i K8 hK8
  obtain ⟨v8, rfl⟩ := hfr8.open
  clear hfr8 hI7
  refine hK8 _ _ ?_
  clear hK8
  have H8 := Lib.hid (And.intro hch (And.intro hB8 hG8)); clear hch hB8 hG8
  show Code.wp Tryz.prog (Tryz.f62.sub [1, 1, 1, 1, 1, 1, 1]) _ ⟨#[(v8 0), (v8 1), (v8 2), (v8 3), (v8 4), (v8 5), (v8 6), (v8 7), (v8 8), (v8 9), (v8 10), (v8 11), (v8 12), (v8 13), (v8 14), (v8 15), .slice A out.length c, (v8 17), (v8 18), (v8 19), (v8 20), (v8 21), (v8 22), (v8 23), (v8 24), (v8 25), (v8 26), (v8 27), (v8 28), (v8 29), (v8 30), (v8 31), (v8 32), (v8 33), (v8 34), (v8 35), (v8 36), (v8 37), (v8 38), (v8 39), (v8 40), (v8 41), (v8 42), (v8 43), (v8 44), (v8 45), (v8 46), (v8 47), (v8 48), (v8 49), (v8 50), (v8 51), (v8 52), (v8 53), (v8 54), (v8 55), (v8 56), (v8 57), (v8 58), (v8 59), (v8 60), (v8 61), (v8 62), (v8 63), (v8 64), (v8 65), (v8 66), (v8 67), (v8 68), (v8 69), (v8 70), (v8 71), (v8 72), (v8 73), (v8 74), (v8 75), (v8 76), (v8 77), (v8 78), (v8 79), (v8 80), (v8 81), (v8 82), (v8 83), (v8 84), (v8 85), (v8 86), (v8 87), (v8 88), (v8 89), (v8 90), (v8 91), (v8 92), (v8 93), (v8 94), (v8 95)], []⟩ _
  conv => arg 2; whnf
  dsimp only
  go_wp2_with fail
  go_ret
  have hbw : Below w.heap.size w w6 := HB.out.1.trans (H6.out.1.bel.mono hs1)
  exact ⟨A, c, out, rfl, hbw.trans (H8.out.2.1.mono hbw.size), H8.out.2.2.low hbw.size, H8.out.1, by omega⟩
def WyF (t : Sk) (F : List Int) (src to B : Nat) (v : Value) (w : World) : Prop := ∃ A c out, v = .slice A out.length c ∧ GrT2 w B A c out ∧ Chn (prs t) F src to out ∧ out.length ≤ 60
structure AlC (W : World) (d : ApD) (t : Sk) (F : List Int) (src to : Nat) (L : Nat → Bool) (V : Nat → Value) (w : World) : Prop where
  g : ApG W d 13 14 15 L V w
  y : L 11 = true → L 12 = false → WyF t F src to W.heap.size (V 11) w
  x : L 11 = true → ∃ out, Chn (prs t) F src to out ∧ out.length ≤ 60
section
variable {W w w' : World} {d : ApD} {t : Sk} {F : List Int} {src to i : Nat} {l : Array Oper} {o : Oper} {L : Nat → Bool} {V : Nat → Value}
theorem ApG.setO {a1 a2 a3 : Nat} {u : Value} (h : ApG W d a1 a2 a3 L V w) (h1 : a1 ≠ i) (h2 : a2 ≠ i) (h3 : a3 ≠ i) : ApG W d a1 a2 a3 L (setV V i u) w := by
  refine ⟨?_, ?_⟩
  · have := h.f
    unfold ApF at this ⊢
    rw [setV_ne _ _ h1, setV_ne _ _ h2]; exact this
  · rw [setV_ne _ _ h3, setV_ne _ _ h2]; exact h.g
theorem AlC.start (h : d.ok W) : AlC W d t F src to (fun _ => false) (fun _ => undef) W.drew := ⟨ApG.start h, fun h => (by cases h), fun h => by cases h⟩
theorem AlC.up (hi : (Nat.beq 13 i || Nat.beq 14 i || Nat.beq 15 i) = false) (h11 : i ≠ 11) (h12 : i ≠ 12) (h : AlC W d t F src to L V w) : AlC W d t F src to (upd L i) V w := by
  refine ⟨ApG.up hi h.g, ?_, ?_⟩
  · rw [upd_ne _ h11.symm, upd_ne _ h12.symm]
    exact h.y
  · rw [upd_ne _ h11.symm]
    exact h.x
theorem AlC.way (h : AlC W d t F src to L V w) (hb : Below w.heap.size w w') {u : Value} (hy : WyF t F src to w.heap.size u w') : AlC W d t F src to (upd L 11) (setV V 11 u) w' := by
  refine ⟨((ApG.up (by decide) h.g).keepB hb).setO (by decide) (by decide) (by decide), fun _ _ => ?_, fun _ => ?_⟩
  · rw [setV_same]
    obtain ⟨A, c, out, h1, h2, h3⟩ := hy
    exact ⟨A, c, out, h1, h2.low h.g.f.tch.size, h3⟩
  · obtain ⟨A, c, out, h1, h2, h3, h4⟩ := hy
    exact ⟨out, h3, h4⟩
theorem AlC.sum (h : AlC W d t F src to L V w) (hb : Below w.heap.size w w') : AlC W d t F src to (upd L 12) V w' :=
  ⟨(ApG.up (by decide) h.g).keepB hb, fun _ hl => (by rw [upd_same] at hl; cases hl), by rw [upd_ne _ (by decide)]; exact h.x⟩
theorem AlC.made (hd : dep l 14 13 = true) (hL : L 13 = false) (hc : Cl l L) (h12 : L 12 = true) (h : AlC W d t F src to L V w) :
    AlC W d t F src to (upd L 13) (setV V 13 (.slice (some ⟨w.heap.size, 0, none⟩) 1 1)) (w.alloc (.cells #[.int .i64 d.y] 3)) :=
  ⟨ApG.ev_made (by decide) hd hL hc h.g, fun _ hl => (by rw [upd_ne _ (by decide), h12] at hl; cases hl), by rw [upd_ne _ (by decide)]; exact h.x⟩
theorem AlC.app (hok : d.ok W) (h : AlC W d t F src to L V w) (hL : L 14 = false) (hd : dep l 15 14 = true) (hc : Cl l L) (hw : Waits o L) (h1 : (o.after.any fun e => Region.binds .any e && e.on == 13) = true) (h12 : L 12 = true) (ty : TypeId) :
    ∃ v w', (Builtin.append_ #[26, 26] ty #[.slice d.A d.xs.length d.c, V 13]).run Tryz.prog w = .ok v w' ∧ AlC W d t F src to (upd L 14) (setV V 14 v) w' := by
  obtain ⟨v, w', k1, k2⟩ := ApG.ev_app (by decide) hok h.g hL hd hc hw h1 ty
  exact ⟨v, w', k1, k2, fun _ hl => (by rw [upd_ne _ (by decide), h12] at hl; cases hl), by rw [upd_ne _ (by decide)]; exact h.x⟩
theorem AlC.asg (h : AlC W d t F src to L V w) (h12 : L 12 = true) : AlC W d t F src to (upd L 15) (setV V 15 (V 14)) w :=
  ⟨ApG.ev_asg (by decide) h.g, fun _ hl => (by rw [upd_ne _ (by decide), h12] at hl; cases hl), by rw [upd_ne _ (by decide)]; exact h.x⟩
end
theorem ex_call4 {P : Program} {ρ : Operand → Value} {o : Oper} {w : World} (f : FuncId) (x y z u : Operand) (ts : Array TypeId) (ho : o.op = .call { callee := .value (.func f), args := #[x, y, z, u], argTypes := ts }) {a b c d : Value} (hx : ρ x = a) (hy : ρ y = b) (hz : ρ z = c) (hu : ρ u = d) (hf : ρ (.func f) = .func (.func f) #[] #[])
    (he : ∀ args w, (callFunc f args).run P w = .ok (.enter f args) w) : (execOp ρ o).run P w = .ok (.enter f #[a, b, c, d]) w := by
  unfold execOp
  simp only [ho, resolve, List.map_toArray, List.map_cons, List.map_nil, hx, hy, hz, hu, hf, Deferred.ofValue, Sem.run_bind, Sem.run_pure, Result.andThen_ok, invoke]
  simp [he]
theorem Chn.steps {ps : List Pr} {F : List Int} {a b : Nat} {l : List St2} (h : Chn ps F a b l) : ∀ j, j < l.length → ((gst l j).i : Int) ∈ F ∧ ((gst l j).sg = 1 ∨ (gst l j).sg = -1) := by
  induction h with
  | nil v => intro j hj; simp at hj
  | @cons x to l h1 h2 h3 ih =>
    intro j hj
    match j, hj with
    | 0, _ => exact ⟨h1, h2⟩
    | j + 1, hj => exact ih j (by simpa using hj)
theorem sumP_bd {ph : List Int} {M : Int} {m : Nat} (hb : ∀ i, i < m → -M ≤ gi ph i ∧ gi ph i ≤ M) : ∀ {l : List St2}, (∀ j, j < l.length → (gst l j).i < m ∧ ((gst l j).sg = 1 ∨ (gst l j).sg = -1)) → -(M * (l.length : Int)) ≤ sumP ph l ∧ sumP ph l ≤ M * (l.length : Int) := by
  intro l
  induction l with
  | nil => intro _; simp [sumP]
  | cons x l ih =>
    intro h
    obtain ⟨h1, h2⟩ := h 0 (by simp)
    have h1 : x.i < m := h1
    have h2 : x.sg = 1 ∨ x.sg = -1 := h2
    have ih := ih (fun j hj => h (j + 1) (by simpa using hj))
    have hx := hb _ h1
    have e : M * (((x :: l).length : Nat) : Int) = M * (l.length : Int) + M := by rw [List.length_cons, Int.natCast_add, Int.mul_add]; simp
    rw [e]
    unfold sumP
    rcases h2 with h2 | h2 <;> (rw [h2]; omega)
theorem GrT2.rdT {w : World} {B c : Nat} {A : Option Addr} {xs : List St2} (h : GrT2 w B A c xs) : RdT w A xs := fun j hj => by
  obtain ⟨b, o, h1, _, h2⟩ := GrF.cell encT_len h (i := 0) (by omega) hj
  obtain ⟨b', o', h1', _, h2'⟩ := GrF.cell encT_len h (i := 1) (by omega) hj
  rw [h1] at h1'
  injection h1' with h1'; injection h1' with e1 e2
  subst e1 e2
  have hg : gst xs j = xs[j] := by simp [gst, hj]
  rw [hg]
  exact ⟨b, o, h1, h2, h2'⟩
theorem AlC.bel {W0 W w : World} {A : Option Addr} {c : Nat} {xs : List Int} {y : Int} {t : Sk} {F : List Int} {src to : Nat} {L : Nat → Bool} {V : Nat → Value} (h : AlC W ⟨W0.heap.size, A, c, xs, y⟩ t F src to L V w) (hB : Below W0.heap.size W0 W) (hG : GrI W W0.heap.size A c xs) : Below W0.heap.size W0 w :=
  h.g.f.tch.below hB (Nat.le_refl _) (fun q hq => by unfold ApD.S at hq; rw [Option.mem_toList] at hq; exact (GrF.lt hG hq).1)
theorem al_add {W0 W : World} {t : Sk} {l : SkL} {F : List Int} {FA : Option Addr} {G c q lb lo lc i src fc : Nat} {A : Option Addr} {xs : List Int} {y M : Int} {Q : Exit → Act → World → Prop} {u0 u3 u4 u8 u9 u10 u11 u12 u13 u14 u15 u16 u17 u18 u19 u20 u21 u22 u23 u24 u25 u26 u27 u28 u29 u30 u31 u32 u33 u34 u35 : Value}
    (hq : xs.length = q) (hok : ApD.ok ⟨W0.heap.size, A, c, xs, y⟩ W) (hB : Below W0.heap.size W0 W) (hN : NetM W0 t l) (ho : NetOk t) (hH : RdI W0 l.H t.ph) (hl : t.ph.length = t.pr.length) (hM : 0 ≤ M ∧ M ≤ 10000000000) (hb : ∀ i, i < t.pr.length → -M ≤ gi t.ph i ∧ gi t.ph i ≤ M)
    (hF : RdI W0 FA F) (hfr : ∀ j, j < F.length → 0 ≤ gi F j ∧ gi F j < t.pr.length) (hfl : F.length ≤ 200) (hi : i < t.sc.length) (hsrc : src < t.sc.length) (hcl : ∀ d : Nat → Int, (∀ i : Nat, (i : Int) ∈ F → d (gq (prs t) i).f = d (gq (prs t) i).s) → d src = d i)
    (hG : W0.heap[G]? = some (.cells #[.slice l.S t.sc.length l.cs, .slice l.P t.pr.length l.cp, .slice l.H t.ph.length l.ch, .slice l.W t.ws.length l.cw] 28 (0, 0))) (hls : W0.cell? ⟨lb, lo + i, none⟩ = some (.int .i64 (src : Nat))) (hy : ∀ out, Chn (prs t) F src i out → sumP t.ph out = y)
    (hQ : ∀ a' A' c' w', (∃ out, Chn (prs t) F src i out ∧ out.length ≤ 60) → Below W0.heap.size W0 w' → GrI w' W0.heap.size A' c' (xs ++ [y]) → Fr 36 [(1, .slice FA F.length fc), (2, .pointer (some ⟨G, 0, none⟩)), (5, .slice (some ⟨lb, lo, none⟩) t.sc.length lc), (6, .slice A' (q + 1) c'), (7, .int .i64 i)] a' → Q .normal a' w') :
    Code.wp Tryz.prog (Tryz.f36.sub [1, 1, 1, 0, 1, 0, 0, 1, 0, 0]) Q ⟨#[u0, .slice FA F.length fc, .pointer (some ⟨G, 0, none⟩), u3, u4, .slice (some ⟨lb, lo, none⟩) t.sc.length lc, .slice A q c, .int .i64 i, u8, u9, u10, u11, u12, u13, u14, u15, u16, u17, u18, u19, u20, u21, u22, u23, u24, u25, u26, u27, u28, u29, u30, u31, u32, u33, u34, u35], []⟩ W := by
  subst hq
  have h200 := ho.m_le
  have h60 := ho.n_le
  have c0 : W0.cell? ⟨G, 0, none⟩ = some (.slice l.S t.sc.length l.cs) := block_cell hG (j := 0) (by simp)
  have c1 : W0.cell? ⟨G, 1, none⟩ = some (.slice l.P t.pr.length l.cp) := block_cell hG (j := 1) (by simp)
  have c2 : W0.cell? ⟨G, 2, none⟩ = some (.slice l.H t.ph.length l.ch) := block_cell hG (j := 2) (by simp)
  have HS := Lib.hid (And.intro (show t.ph.length ≤ 200 by omega) (fun i (hi : i < t.ph.length) => hb i (by omega)))
  have HK := Lib.hid (And.intro hok (And.intro hB (And.intro hN (And.intro ho (And.intro hH (And.intro hl (And.intro hM (And.intro hb (And.intro hF (And.intro hfr (And.intro hfl (And.intro hsrc (And.intro hcl hy)))))))))))))
  have HBL := Lib.hid (fun (L : Nat → Bool) (V : Nat → Value) (w : World) (h : AlC W ⟨W0.heap.size, A, c, xs, y⟩ t F src i L V w) => h.bel hB hok.g)
  clear hok hB hN ho hH hl hM hb hF hfr hfl hsrc hcl hy hG
  have HQ := Lib.hid hQ; clear hQ
  have hil : (i : Int) < t.sc.length := by omega
  conv => arg 2; whnf
  dsimp only
  refine region_rel (by kernel_rfl) (by kernel_rfl) (by kernel_rfl) (AlC W ⟨W0.heap.size, A, c, xs, y⟩ t F src i) (AlC.start HK.out.1) ?_
  (refine rel_val rfl (.slice A xs.length c) (fun _ _ _ h => AlC.up rfl (by decide) (by decide) h) (fun V L w h1 h2 h3 hC => by unfold execOp; go_simp; try exact IntWalk.i64_in _ (by omega)) ?_; simp only [Fam.pt])
  (refine rel_val rfl (.pointer (some ⟨G, 2, none⟩)) (fun _ _ _ h => AlC.up rfl (by decide) (by decide) h) (fun V L w h1 h2 h3 hC => by unfold execOp; go_simp; try exact IntWalk.i64_in _ (by omega)) ?_; simp only [Fam.pt])
  refine rel_val rfl (.slice l.H t.ph.length l.ch) (fun _ _ _ h => AlC.up rfl (by decide) (by decide) h) (fun V L w h1 h2 h3 hC => ex_load1 _ _ rfl _ rfl (cellB (HBL.out L V w hC) c2) _ Tryz.underlying26 rfl) ?_
  simp only [Fam.pt]
  (refine rel_val rfl (.pointer (some ⟨G, 0, none⟩)) (fun _ _ _ h => AlC.up rfl (by decide) (by decide) h) (fun V L w h1 h2 h3 hC => by unfold execOp; go_simp; try exact IntWalk.i64_in _ (by omega)) ?_; simp only [Fam.pt])
  refine rel_val rfl (NetV t l) (fun _ _ _ h => AlC.up rfl (by decide) (by decide) h) (fun V L w h1 h2 h3 hC => ex_loadN 25 _ rfl G 0 rfl [.slice l.S t.sc.length l.cs, .slice l.P t.pr.length l.cp] _ (rangeAt2 (cellB (HBL.out L V w hC) c0) (cellB (HBL.out L V w hC) c1)) Tryz.underlying25 rfl (by kernel_rfl)) ?_
  simp only [Fam.pt]
  (refine rel_val rfl (.slice FA F.length fc) (fun _ _ _ h => AlC.up rfl (by decide) (by decide) h) (fun V L w h1 h2 h3 hC => by unfold execOp; go_simp; try exact IntWalk.i64_in _ (by omega)) ?_; simp only [Fam.pt])
  (refine rel_val rfl (.slice (some ⟨lb, lo, none⟩) t.sc.length lc) (fun _ _ _ h => AlC.up rfl (by decide) (by decide) h) (fun V L w h1 h2 h3 hC => by unfold execOp; go_simp; try exact IntWalk.i64_in _ (by omega)) ?_; simp only [Fam.pt])
  (refine rel_val rfl (.int .i64 i) (fun _ _ _ h => AlC.up rfl (by decide) (by decide) h) (fun V L w h1 h2 h3 hC => by unfold execOp; go_simp; try exact IntWalk.i64_in _ (by omega)) ?_; simp only [Fam.pt])
  (refine rel_val rfl (.pointer (some ⟨lb, lo + i, none⟩)) (fun _ _ _ h => AlC.up rfl (by decide) (by decide) h) (fun V L w h1 h2 h3 hC => by unfold execOp; go_simp; try exact IntWalk.i64_in _ (by omega)) ?_; simp only [Fam.pt])
  refine rel_val rfl (.int .i64 (src : Nat)) (fun _ _ _ h => AlC.up rfl (by decide) (by decide) h) (fun V L w h1 h2 h3 hC => ex_load1 _ _ rfl _ rfl (cellB (HBL.out L V w hC) hls) _ Tryz.underlying3 rfl) ?_
  simp only [Fam.pt]
  (refine rel_val rfl (.int .i64 i) (fun _ _ _ h => AlC.up rfl (by decide) (by decide) h) (fun V L w h1 h2 h3 hC => by unfold execOp; go_simp; try exact IntWalk.i64_in _ (by omega)) ?_; simp only [Fam.pt])
  refine rel_free rfl (fun V L w h1 h2 h3 hC => ?_) ?_
  · rw [ex_call4 62 (.tmp 24) (.tmp 25) (.tmp 29) (.tmp 30) _ rfl rfl rfl rfl rfl rfl (enters_fn Tryz.func62 (by kernel_rfl) rfl)]
    have hbw := HBL.out L V w hC
    refine (way_c (HK.out.2.2.1.keep hbw) HK.out.2.2.2.1 (HK.out.2.2.2.2.2.2.2.2.1.keep hbw) HK.out.2.2.2.2.2.2.2.2.2.1 HK.out.2.2.2.2.2.2.2.2.2.2.1 HK.out.2.2.2.2.2.2.2.2.2.2.2.1 hi HK.out.2.2.2.2.2.2.2.2.2.2.2.2.1).mono ?_
    rintro e w' ⟨A', c', out, rfl, hb', hg', hch, hle⟩
    exact ⟨_, rfl, hC.way hb' ⟨A', c', out, rfl, hg', hch, hle⟩⟩
  simp only [Fam.pt]
  refine rel_fix rfl (.int .i64 y) (fun V L w h1 h2 h3 hC => ?_) ?_
  · obtain ⟨A', c', out, e, hg', hch, hle⟩ := hC.y (waits_at h2 (by kernel_rfl)) h1
    rw [ex_call2 61 (.tmp 22) (.tmp 31) _ rfl rfl (by exact e) rfl (enters_fn Tryz.func61 (by kernel_rfl) rfl)]
    have hbw := HBL.out L V w hC
    refine (rsum_c (M := M) (HK.out.2.2.2.2.1.keep hbw) hg'.rdT rfl HS.out.1 (by omega) HK.out.2.2.2.2.2.2.1 HS.out.2 (fun j hj => ?_)).mono ?_
    · obtain ⟨m1, m2⟩ := Chn.steps hch j hj
      obtain ⟨k, hk, hke⟩ := mem_gi m1
      have := HK.out.2.2.2.2.2.2.2.2.2.1 k hk
      exact ⟨by rw [HK.out.2.2.2.2.2.1]; omega, m2⟩
    · rintro e w' ⟨rfl, n, rfl⟩
      rw [HK.out.2.2.2.2.2.2.2.2.2.2.2.2.2 out hch]
      exact ⟨_, rfl, rfl, hC.sum (below_drewN (Below.refl _ _) n)⟩
  simp only [Fam.pt]
  refine rel_free rfl (fun V L w h1 h2 h3 hC => ?_) ?_
  · rw [ex_sliceI _ rfl y rfl]
    exact AlC.made (by kernel_rfl) h1 h3 (waits_at h2 (by kernel_rfl)) hC
  simp only [Fam.pt]
  refine rel_free rfl (fun V L w h1 h2 h3 hC => ?_) ?_
  · obtain ⟨v, w', k1, k2⟩ := AlC.app HK.out.1 hC h1 (by kernel_rfl) h3 h2 (by kernel_rfl) (waits_at h2 (by kernel_rfl)) _
    rw [ex_append _ _ _ rfl rfl rfl k1]
    exact k2
  simp only [Fam.pt]
  refine rel_free rfl (fun V L w h1 h2 h3 hC => ?_) ?_
  · rw [ex_asg _ rfl]
    exact AlC.asg hC (waits_at h2 (by kernel_rfl))
  simp only [Fam.pt]
  intro V L w' hL hC
  have h1 := hC.g.f.a1
  rw [if_pos (hL 14 (by decide))] at h1
  obtain ⟨A', c', e, hg⟩ := h1
  refine HQ.out _ A' c' w' (hC.x (hL 11 (by decide))) (HBL.out L V w' hC) hg ⟨rfl, rfl, rfl, rfl, rfl, (hC.g.g (hL 15 (by decide))).trans e, rfl, trivial⟩
def alL (t : Sk) (p : Nat → Int) : List Int := (List.range t.sc.length).map p
theorem alL_len (t : Sk) (p : Nat → Int) : (alL t p).length = t.sc.length := by simp [alL]
theorem alL_get {t : Sk} {p : Nat → Int} {k : Nat} (hk : k < t.sc.length) : gi (alL t p) k = p k := by
  unfold alL gi
  simp [List.getD_eq_getElem?_getD, hk]
theorem alL_snoc {t : Sk} {p : Nat → Int} {k : Nat} (hk : k < t.sc.length) : (alL t p).take k ++ [p k] = (alL t p).take (k + 1) := by
  rw [take_snoc_i (by rw [alL_len]; exact hk), alL_get hk]
theorem alL_take {t : Sk} {p : Nat → Int} {k : Nat} (hk : k ≤ t.sc.length) : ((alL t p).take k).length = k := by rw [List.length_take, alL_len]; omega
def LoopAl (W0 : World) (t : Sk) (p : Nat → Int) (M : Int) (F : List Int) (FA D : Option Addr) (G fc lc : Nat) (a : Act) (w : World) : Prop :=
  ∃ (k : Nat) (A : Option Addr) (c : Nat), k ≤ t.sc.length ∧ (∀ v, v < k → -(M * 60) ≤ p v ∧ p v ≤ M * 60) ∧ Below W0.heap.size W0 w ∧ GrI w W0.heap.size A c ((alL t p).take k) ∧
    Fr 36 [(1, .slice FA F.length fc), (2, .pointer (some ⟨G, 0, none⟩)), (5, .slice D t.sc.length lc), (6, .slice A k c), (7, .int .i64 k)] a
theorem Smt.way {t : Sk} {F ph ys : List Int} {T : List Nat} {u : List Int} {p : Nat → Int} (ho : NetOk t) (h : Smt t ph ys T u p) (hF : ∀ i : Int, i ∈ F ↔ ∃ k : Nat, k ∈ T ∧ i = k) {i : Nat} (hi : i < t.sc.length) :
    rt u i < t.sc.length ∧ (∀ d : Nat → Int, (∀ i : Nat, (i : Int) ∈ F → d (gq (prs t) i).f = d (gq (prs t) i).s) → d (rt u i) = d i) ∧ ∀ out, Chn (prs t) F (rt u i) i out → sumP ph out = p i := by
  have hr : rt u i < t.sc.length := Nat.lt_of_le_of_lt (h.lab.rt_le hi) hi
  refine ⟨hr, fun d hd => ?_, fun out hc => ?_⟩
  · exact ((h.labT ho).cl d (fun k hk => hd k ((hF k).2 ⟨k, hk, rfl⟩)) i hi).symm
  · have hs := hc.sum (ph := ph) (p := p) (fun k hk => by
      obtain ⟨k', h1, h2⟩ := (hF k).1 hk
      have : k = k' := by omega
      subst this
      exact h.pot.edge k h1)
    have h0 := h.pot.root _ hr (by rw [h.lab.idem i hi, h.lab.rt_eq hi])
    omega
theorem al_loop {W0 : World} {t : Sk} {l : SkL} {F ys : List Int} {T : List Nat} {u : List Int} {p : Nat → Int} {FA D : Option Addr} {G lc fc : Nat} {M : Int} (hN : NetM W0 t l) (ho : NetOk t) (hH : RdI W0 l.H t.ph) (hl : t.ph.length = t.pr.length) (hM : 0 ≤ M ∧ M ≤ 10000000000) (hb : ∀ i, i < t.pr.length → -M ≤ gi t.ph i ∧ gi t.ph i ≤ M)
    (hF : RdI W0 FA F) (hfl : F.length ≤ 200) (hm : Smt t t.ph ys T u p) (hFT : ∀ i : Int, i ∈ F ↔ ∃ k : Nat, k ∈ T ∧ i = k)
    (hG : W0.heap[G]? = some (.cells #[.slice l.S t.sc.length l.cs, .slice l.P t.pr.length l.cp, .slice l.H t.ph.length l.ch, .slice l.W t.ws.length l.cw] 28 (0, 0))) (hD : RdI W0 D u) {Q : Exit → Act → World → Prop}
    (hQ : ∀ a w A c, (∀ v, v < t.sc.length → -(M * 60) ≤ p v ∧ p v ≤ M * 60) → Below W0.heap.size W0 w → GrI w W0.heap.size A c (alL t p) → Fr 36 [(6, .slice A t.sc.length c)] a → Q (.exit 0) a w) {a : Act} {w : World} (hI : LoopAl W0 t p M F FA D G fc lc a w) :
    Code.wp Tryz.prog (Tryz.f36.sub [1, 1, 1, 0, 1, 0, 0]) (Exit.then (fun a' w' => LoopAl W0 t p M F FA D G fc lc a' w' ∧ t.sc.length - (intOf (a'.tmps.getD 7 undef)).toNat < t.sc.length - (intOf (a.tmps.getD 7 undef)).toNat) Q) a w := by
  obtain ⟨k, A, c, hk, hbd, hB, hGr, hfr⟩ := hI
  obtain ⟨v, rfl⟩ := hfr.open
  clear hfr
  generalize hmu : t.sc.length - (intOf ((⟨frL 36 _ v, []⟩ : Act).tmps.getD 7 undef)).toNat = mu
  have hmu' : t.sc.length - k = mu := by rw [← hmu]; rfl
  clear hmu
  have h60 := ho.n_le
  have HQ := Lib.hid hQ; clear hQ
  have HBD := Lib.hid hbd; clear hbd
  have H := Lib.hid (And.intro hB (And.intro hGr (And.intro hm (And.intro hFT hD)))); clear hB hGr hm hFT hD
  have HX := Lib.hid (And.intro hN (And.intro ho (And.intro hH (And.intro hl (And.intro hM (And.intro hb (And.intro hF (And.intro hfl hG)))))))); clear hN ho hH hl hM hb hF hfl hG
  show Code.wp Tryz.prog (.seq (Tryz.f36.sub [1, 1, 1, 0, 1, 0, 0, 0]) (.seq (.block 1 (Tryz.f36.sub [1, 1, 1, 0, 1, 0, 0, 1, 0, 0])) (Tryz.f36.sub [1, 1, 1, 0, 1, 0, 0, 1, 1]))) _
    ⟨#[(v 0), .slice FA F.length fc, .pointer (some ⟨G, 0, none⟩), (v 3), (v 4), .slice D t.sc.length lc, .slice A k c, .int .i64 k, (v 8), (v 9), (v 10), (v 11), (v 12), (v 13), (v 14), (v 15), (v 16), (v 17), (v 18), (v 19), (v 20), (v 21), (v 22), (v 23), (v 24), (v 25), (v 26), (v 27), (v 28), (v 29), (v 30), (v 31), (v 32), (v 33), (v 34), (v 35)], []⟩ _
  refine wp_seq ?_
  conv => arg 2; whnf
  dsimp only
  by_cases hlt : k < t.sc.length
  · have hklt : (k : Int) < t.sc.length := by omega
    obtain ⟨lb, lo, hDe, hls⟩ := H.out.2.2.2.2 k (by rw [H.out.2.2.1.lab.len]; exact hlt)
    rw [← H.out.2.2.1.lab.rt_eq hlt] at hls
    rw [hDe]
    obtain ⟨s1, s2, s3⟩ := H.out.2.2.1.way HX.out.2.1 H.out.2.2.2.1 hlt
    have HD := Lib.hid (And.intro hDe (And.intro hls (And.intro s1 (And.intro s2 s3)))); clear hDe hls s1 s2 s3
    go_wp2_with fail
    refine al_add (t := t) (l := l) (F := F) (M := M) (src := rt u k) (alL_take hk) ⟨H.out.2.1, H.out.1.size, by rw [alL_take hk]; omega⟩ H.out.1 HX.out.1 HX.out.2.1 HX.out.2.2.1 HX.out.2.2.2.1 HX.out.2.2.2.2.1 HX.out.2.2.2.2.2.1 HX.out.2.2.2.2.2.2.1 (H.out.2.2.1.fr HX.out.2.1 H.out.2.2.2.1) HX.out.2.2.2.2.2.2.2.1 hlt HD.out.2.2.1 HD.out.2.2.2.1 HX.out.2.2.2.2.2.2.2.2 HD.out.2.1 HD.out.2.2.2.2 ?_
    intro a' A' c' w' hout hB' hG' hfr
    have hpk : -(M * 60) ≤ p k ∧ p k ≤ M * 60 := by
      obtain ⟨out, ho1, ho2⟩ := hout
      have hs := sumP_bd HX.out.2.2.2.2.2.1 (l := out) (fun j hj => by
        obtain ⟨m1, m2⟩ := Chn.steps ho1 j hj
        obtain ⟨q, hq, hqe⟩ := mem_gi m1
        have := (H.out.2.2.1.fr HX.out.2.1 H.out.2.2.2.1) q hq
        exact ⟨by omega, m2⟩)
      rw [HD.out.2.2.2.2 out ho1] at hs
      have hm2 : M * (out.length : Int) ≤ M * 60 := Int.mul_le_mul_of_nonneg_left (by omega) HX.out.2.2.2.2.1.1
      omega
    have HP := Lib.hid hpk; clear hpk hout
    rename_i Q6 K6 hK6
    obtain ⟨v', rfl⟩ := hfr.open
    clear hfr
    refine hK6 _ _ ?_
    clear hK6
    rw [alL_snoc hlt] at hG'
    have HJ := Lib.hid (And.intro hB' hG'); clear hB' hG'
    show Code.wp Tryz.prog (Tryz.f36.sub [1, 1, 1, 0, 1, 0, 0, 1, 1]) _ ⟨#[(v' 0), .slice FA F.length fc, .pointer (some ⟨G, 0, none⟩), (v' 3), (v' 4), .slice (some ⟨lb, lo, none⟩) t.sc.length lc, .slice A' (k + 1) c', .int .i64 k, (v' 8), (v' 9), (v' 10), (v' 11), (v' 12), (v' 13), (v' 14), (v' 15), (v' 16), (v' 17), (v' 18), (v' 19), (v' 20), (v' 21), (v' 22), (v' 23), (v' 24), (v' 25), (v' 26), (v' 27), (v' 28), (v' 29), (v' 30), (v' 31), (v' 32), (v' 33), (v' 34), (v' 35)], []⟩ _
    conv => arg 2; whnf
    dsimp only
    go_wp2_with fail
    refine ⟨⟨k + 1, A', c', by omega, fun v hv => if e : v = k then (by rw [e]; exact HP.out) else HBD.out v (by omega), HJ.out.1, HJ.out.2, ?_⟩, ?_⟩
    · refine ⟨rfl, rfl, rfl, rfl, ?_, rfl, ?_, trivial⟩
      · rfl
      · show Value.int .i64 ((k : Int) + 1) = _; go_num
    · show t.sc.length - ((k : Int) + 1).toNat < mu
      omega
  · obtain rfl : k = t.sc.length := by omega
    go_wp2_with fail
    refine HQ.out _ _ A c HBD.out H.out.1 ?_ (by (refine ⟨rfl, rfl, ?_⟩; repeat (first | exact trivial | refine ⟨rfl, ?_⟩)))
    have := H.out.2.1
    rwa [List.take_of_length_le (by rw [alL_len]; omega)] at this
def JnaPost (t : Sk) (xs : List Int) (w : World) (e : Ending) (w' : World) : Prop := ∃ D c u, e = .returned (.slice D t.sc.length c) ∧ Below w.heap.size w w' ∧ RdI w' D u ∧ Lab t.sc.length (prs t) (xs.map Int.toNat) u
theorem joined_0 {S P A : Option Addr} {m cs cp ca : Nat} {w : World} (hm : m ≤ 200) : Calls Tryz.prog 58 #[.agg #[.slice S 0 cs, .slice P m cp], .slice A 0 ca] w fun e w' => e = .returned (.slice none 0 0) ∧ Below w.heap.size w w' := by
  go_enter Tryz.func58, Tryz.ntmps58
  go_wp2_with fail
  refine nameC ?_
  intro W1 hW1
  obtain ⟨hB1, e1⟩ := alloc1 w _ hW1
  clear hW1
  have g0 : W1.cell? ⟨w.heap.size, 0, none⟩ = some (.slice S 0 cs) := block_cell e1 (j := 0) (by simp)
  have HB := Lib.hid hB1; clear hB1 e1
  go_loopw [5, 6] (fun v5 v6 wr => v5 = .slice none 0 0 ∧ v6 = .int .i64 0 ∧ ∃ n, wr = W1.drewN n) (fun _ _ _ => 0)
  case atStart => exact ⟨rfl, rfl, 0, rfl⟩
  case round =>
    obtain ⟨rfl, rfl, n, rfl⟩ := hrel
    go_wp2_with fail
    go_loopw [7] (fun v7 wr => v7 = .int .i64 0 ∧ ∃ n, wr = W1.drewN n) (fun _ _ => 0)
    case atStart => exact ⟨rfl, n, rfl⟩
    case round =>
      obtain ⟨rfl, n, rfl⟩ := hrel
      go_wp2_with fail
      go_ret
      exact ⟨rfl, below_drewN HB.out n⟩
theorem joined_any {t : Sk} {l : SkL} {w : World} {xs : List Int} {A : Option Addr} {ca : Nat} (hM : NetM w t l) (ho : NetOk t) (hA : RdI w A xs) (hx : ∀ j, j < xs.length → 0 ≤ gi xs j ∧ gi xs j < t.pr.length) (hl : xs.length ≤ 200) :
    Calls Tryz.prog 58 #[NetV t l, .slice A xs.length ca] w (JnaPost t xs w) := by
  rcases Nat.eq_zero_or_pos t.sc.length with h0 | h0
  · have hp : t.pr.length = 0 := by
      rcases Nat.eq_zero_or_pos t.pr.length with h | h
      · exact h
      · have := ho.ends 0 h; omega
    have hxl : xs.length = 0 := by
      rcases Nat.eq_zero_or_pos xs.length with h | h
      · exact h
      · have := hx 0 h; omega
    have hxe : xs = [] := List.eq_nil_of_length_eq_zero hxl
    subst hxe
    unfold NetV
    rw [h0]
    refine (joined_0 (by omega)).mono ?_
    rintro e w' ⟨rfl, hB⟩
    refine ⟨none, 0, [], by rw [h0], hB, fun j hj => absurd hj (Nat.not_lt_zero _), ?_⟩
    rw [h0]
    exact Lab.start 0 _
  · refine (joined_c hM ho h0 hA hx hl).mono ?_
    rintro e w' ⟨b, o, c, u, rfl, hB, _, hD, hL⟩
    exact ⟨_, c, u, rfl, hB, fun j hj => ⟨b, o, rfl, hD.cell hj⟩, hL⟩
end Go.Proofs.YtjnpchoinncbnaaGreat
end
