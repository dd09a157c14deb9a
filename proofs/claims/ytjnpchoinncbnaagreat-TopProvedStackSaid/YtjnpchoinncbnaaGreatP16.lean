/- Proves parts of the statement, each under the conditions that its theorem states: The comparison of two pairs by their lengths; Unions: made, and joined; A pair of scenes is joined; The shortest ways: a round of the search. -/
import Derived.Test.YtjnpchoinncbnaaGreatP13
import Derived.Test.YtjnpchoinncbnaaGreatP15
import Derived.Test.YtjnpchoinncbnaaGreatP11
import Derived.Test.YtjnpchoinncbnaaGreatP08
import Derived.Test.YtjnpchoinncbnaaGreatP07
set_option linter.unusedSimpArgs false
set_option linter.unusedVariables false
set_option maxHeartbeats 4000000
set_option maxRecDepth 100000
section
namespace Go.Proofs.YtjnpchoinncbnaaGreat
open Go.RowKit Sw Fam
theorem lenP_bd {t : Sk} (ho : NetOk t) {i : Int} (h0 : 0 ≤ i) (hi : i < t.pr.length) : 0 ≤ lenP t i ∧ lenP t i ≤ 1000000 := by
  obtain ⟨a1, a2, a3⟩ := prs_lt ho (i := i.toNat) (by omega)
  have d1 := ho.day _ a1
  have d2 := ho.day _ a2
  have b1 := ho.bl _ a1
  have b2 := ho.bl _ a2
  unfold lenP ab
  omega
theorem length_c {t : Sk} {l : SkL} {w : World} (hM : NetM w t l) (ho : NetOk t) {i : Int} (h0 : 0 ≤ i) (hi : i < t.pr.length) :
    Calls Tryz.prog 66 #[NetV t l, .int .i64 i] w fun e w' => e = .returned (.int .i64 (lenP t i)) ∧ Below w.heap.size w w' := by
  obtain ⟨k, rfl⟩ : ∃ k : Nat, i = k := ⟨i.toNat, by omega⟩
  have hk : k < t.pr.length := by omega
  obtain ⟨a1, a2, a3⟩ := prs_lt ho hk
  have d1 := ho.day _ a1
  have d2 := ho.day _ a2
  have b1 := ho.bl _ a1
  have b2 := ho.bl _ a2
  obtain ⟨B2, O2, hP, p0, p1⟩ := hM.rdq ho k (by rw [prs_len]; exact hk)
  obtain ⟨B1, O1, hS, f0, f1, f2, _⟩ := hM.sc _ a1
  obtain ⟨B1', O1', hS', s0, s1, s2, _⟩ := hM.sc _ a2
  rw [hS] at hS'
  cases hS'
  unfold NetV
  rw [hP, hS]
  exact slength_c hk a1 a2 ho.n_le ho.m_le p0 p1 f0 f1 f2 s0 s1 s2 ⟨d1.1, d1.2, d2.1, d2.2, b1.1, b1.2, b2.1, b2.2⟩
theorem cmp_c {t : Sk} {l : SkL} {w : World} {G : Nat} (hM : NetM w t l) (ho : NetOk t) (hG : w.heap[G]? = some (.cells #[.slice l.S t.sc.length l.cs, .slice l.P t.pr.length l.cp] 66 (0, 0))) {x y : Int} (x0 : 0 ≤ x) (x1 : x < t.pr.length) (y0 : 0 ≤ y) (y1 : y < t.pr.length) :
    Calls Tryz.prog 65 #[.int .i64 x, .int .i64 y, .pointer (some ⟨G, 0, none⟩)] w fun e w' => e = .returned (.int .i64 (lenP t x - lenP t y)) ∧ Below w.heap.size w w' := by
  obtain ⟨bx1, bx2⟩ := lenP_bd ho x0 x1
  obtain ⟨by1, by2⟩ := lenP_bd ho y0 y1
  have HX := Lib.hid (fun W (hb : Below w.heap.size w W) => length_c (hM.keep hb) ho x0 x1)
  have HY := Lib.hid (fun W (hb : Below w.heap.size w W) => length_c (hM.keep hb) ho y0 y1)
  have HG := Lib.hid hG; clear hG hM ho
  unfold NetV at HX HY
  generalize lenP t x = LX at *
  generalize lenP t y = LY at *
  have j3 : IntKind.i64.wrap (LX - LY) = LX - LY := IntWalk.i64_in _ (by omega)
  have ld : ∀ W, Below w.heap.size w W → W.rangeAt G 0 [.slice l.S t.sc.length l.cs, .slice l.P t.pr.length l.cp] := fun W hb j v hj => by
    have hc := (hb.block _ (Array.getElem?_eq_some_iff.1 HG.out).1).trans HG.out
    obtain ⟨j1, j2⟩ := List.getElem?_eq_some_iff.1 hj
    rw [Nat.zero_add, block_cell hc (j := j) (by simpa using j1)]
    simp [← j2]
  have LD := Lib.hid ld; clear ld
  go_enter Tryz.func65, Tryz.ntmps65
  go_wp2_with fail
  refine region_rel (by kernel_rfl) (by kernel_rfl) (by kernel_rfl) (fun _ _ w' => Below w.heap.size w w') ((Below.refl _ _).drew) ?_
  (repeat (refine relq rfl rfl (fun _ _ _ h => h) (fun K hK => ?_); go_big_quiet_op; (refine hK _ ?_; clear hK K)))
  refine relk_val rfl (.agg #[.slice l.S t.sc.length l.cs, .slice l.P t.pr.length l.cp]) (fun _ _ _ h => h) (fun V L w' h1 h2 h3 hC => ex_loadN 66 _ rfl G 0 rfl _ _ (LD.out w' hC) Tryz.underlying66 rfl (by kernel_rfl)) (fun K hK => ?_)
  simp only [Fam.pt]
  refine hK _ ?_
  clear hK K
  (repeat (refine relq rfl rfl (fun _ _ _ h => h) (fun K hK => ?_); go_big_quiet_op; (refine hK _ ?_; clear hK K)))
  refine relk_fix rfl (.int .i64 LX) (fun V L w2 h1 h2 h3 hC => ?_) (fun K hK => ?_)
  · rw [ex_call2 66 (.tmp 6) (.tmp 7) _ rfl rfl rfl rfl (enters_fn Tryz.func66 (by kernel_rfl) rfl)]
    refine (HX.out w2 hC).mono ?_
    rintro e w' ⟨rfl, h⟩
    exact ⟨_, rfl, rfl, hC.trans (h.mono hC.size)⟩
  simp only [Fam.pt]
  refine hK _ ?_
  clear hK K
  (repeat (refine relq rfl rfl (fun _ _ _ h => h) (fun K hK => ?_); go_big_quiet_op; (refine hK _ ?_; clear hK K)))
  refine relk_val rfl (.agg #[.slice l.S t.sc.length l.cs, .slice l.P t.pr.length l.cp]) (fun _ _ _ h => h) (fun V L w' h1 h2 h3 hC => ex_loadN 66 _ rfl G 0 rfl _ _ (LD.out w' hC) Tryz.underlying66 rfl (by kernel_rfl)) (fun K hK => ?_)
  simp only [Fam.pt]
  refine hK _ ?_
  clear hK K
  (repeat (refine relq rfl rfl (fun _ _ _ h => h) (fun K hK => ?_); go_big_quiet_op; (refine hK _ ?_; clear hK K)))
  refine relk_fix rfl (.int .i64 LY) (fun V L w2 h1 h2 h3 hC => ?_) (fun K hK => ?_)
  · rw [ex_call2 66 (.tmp 9) (.tmp 10) _ rfl rfl rfl rfl (enters_fn Tryz.func66 (by kernel_rfl) rfl)]
    refine (HY.out w2 hC).mono ?_
    rintro e w' ⟨rfl, h⟩
    exact ⟨_, rfl, rfl, hC.trans (h.mono hC.size)⟩
  simp only [Fam.pt]
  refine hK _ ?_
  clear hK K
  (repeat (refine relq rfl rfl (fun _ _ _ h => h) (fun K hK => ?_); go_big_quiet_op; (refine hK _ ?_; clear hK K)))
  refine relk_end (fun L V w4 hL hC => ?_)
  have H := Lib.hid hC; clear hC hL L V
  go_wp2_with fail
  go_ret
  exact ⟨rfl, H.out⟩
theorem wpList_append_t {t : TypeId} (ht : Tryz.prog.underlying t = some (.slice 3)) {w : World} {B : Nat} {A : Option Addr} {c : Nat} {xs : List Int} {ops : Array Oper} {rest : List Oper} {o : Oper} {a : Act} {Q : Exit → Act → World → Prop} (hgd : o.guard = none) (s x : Operand)
    (ho : o.op = .call { callee := .builtin .append, args := #[s, x], argTypes := #[t, t] }) (h : GrI w B A c xs) (y : Int) (sb c2 : Nat) (hs : a.eval s = .slice A xs.length c) (hx : a.eval x = .slice (some ⟨sb, 0, none⟩) 1 c2)
    (hc : w.cell? ⟨sb, 0, none⟩ = some (.int .i64 y)) (hlen : xs.length < 1000000) (hB : B ≤ w.heap.size)
    (hk : ∀ A' c' w', GrI w' B A' c' (xs ++ [y]) → w.grownBy w' (A.map (·.block)) → wpList Tryz.prog ops Q rest (a.put o.dst (.slice A' (xs.length + 1) c')) w') : wpList Tryz.prog ops Q (o :: rest) a w := by
  have hinfo := infoInt
  obtain ⟨i, hi, hzz⟩ := Option.map_eq_some_iff.1 hinfo
  simp only [Prod.mk.injEq] at hzz
  obtain ⟨hz, hsz, hby⟩ := hzz
  refine wpList_plain hgd fun K hK => ?_
  obtain ⟨A', c', w', hr, h2, h3, h4⟩ := run_append_gr (P := Tryz.prog) (ty := o.type) ht hi hz hsz hby rfl encI_len (fun x u hu => by simp [encI] at hu; subst hu; rfl) h [y] ⟨sb, 0, none⟩ c2 (fun j u hj => by
    have : j = 0 := by
      have := (List.getElem?_eq_some_iff.1 hj).1
      simp [encI] at this; exact this
    subst this
    have e : (⟨sb, 0, none⟩ : Addr).add 0 = ⟨sb, 0, none⟩ := by simp [Addr.add]
    rw [e, hc]
    simpa [encI] using hj) (by simp) (by simp only [List.length_cons, List.length_nil]; omega) (by decide) hB
  unfold Oper.wp execOp
  simp only [ho, resolve, invoke, builtin, Sem.run_bind, Sem.run_pure, Result.andThen_ok, List.map_toArray, List.map_cons, List.map_nil, hs, hx]
  simp only [List.length_cons, List.length_nil, Nat.zero_add] at hr
  rw [hr]
  exact hK _ _ (hk A' c' w' h2 h3)
theorem grown_below {B c : Nat} {w0 w w' : World} {A : Option Addr} {xs : List Int} (hb : Below B w0 w) (hB : B ≤ w0.heap.size) (h : GrI w B A c xs) (g : w.grownBy w' (A.map (·.block))) : Below B w0 w' :=
  hb.trans ⟨g.os, g.tape, g.output, g.size, fun b hlt => g.block b (Nat.lt_of_lt_of_le hlt (Nat.le_trans hB hb.size)) (fun e => absurd hlt (Nat.not_lt.2 (GrF.lt h (e.symm ▸ rfl)).1))⟩
def rng (n : Nat) : List Int := (List.range n).map Int.ofNat
theorem rng_len (n : Nat) : (rng n).length = n := by simp [rng]
theorem gi_rng {n i : Nat} (h : i < n) : gi (rng n) i = i := by simp [gi, rng, h]
theorem rng_succ (n : Nat) : rng (n + 1) = rng n ++ [(n : Int)] := by simp [rng, List.range_succ]
def GrPost (n : Nat) (xs : List Int) (w : World) (e : Ending) (w' : World) : Prop := ∃ A c, e = .returned (.slice A n c) ∧ Below w.heap.size w w' ∧ GrI w' w.heap.size A c xs
theorem newUnion_c (n : Nat) (hn : n ≤ 60) (w : World) : Calls Tryz.prog 45 #[.int .i64 n] w (GrPost n (rng n) w) := by
  go_enter Tryz.func45, Tryz.ntmps45
  go_wp2_with fail
  go_loopw [3, 6] (fun v3 v6 wr => ∃ (k : Nat) (A : Option Addr) (c : Nat), v6 = .int .i64 k ∧ v3 = .slice A k c ∧ k ≤ n ∧ Below w.heap.size w wr ∧ GrI wr w.heap.size A c (rng k)) (fun _ v6 _ => n - (intOf v6).toNat)
  case atStart => exact ⟨0, none, 0, rfl, rfl, Nat.zero_le _, Below.refl _ _, GrF.start w _⟩
  case round =>
    obtain ⟨k, A, c, rfl, rfl, hk, hB, hG⟩ := hrel
    have hsz := hB.size
    have hkl := rng_len k
    have H := Lib.hid (And.intro hB hG); clear hB hG
    by_cases hlt : k < n
    · have HL := Lib.hid hkl; clear hkl
      go_wp2_with (at_builtin; refine wpList_append_t Tryz.underlying67 rfl _ _ rfl (GrF.keep H.out.2 ((Below.refl _ _).alloc (Nat.le_refl _) (.cells #[.int .i64 (k : Int)] 3))) (k : Int) _ _ (by rw [HL.out]; rfl) rfl (block_cell (World.alloc_heap_new wr _) (j := 0) (by simp)) (by rw [HL.out]; omega) (by simp; omega) ?_)
      intro A' c' w' g1 g2
      have hb0 : Below w.heap.size w (wr.alloc (.cells #[.int .i64 (k : Int)] 3)) := H.out.1.trans ((Below.refl _ _).alloc hsz _)
      have g3 := grown_below hb0 (Nat.le_refl _) (GrF.keep H.out.2 ((Below.refl _ _).alloc (Nat.le_refl _) (.cells #[.int .i64 (k : Int)] 3))) g2
      rw [HL.out]
      have J := Lib.hid (And.intro g1 g3); clear g1 g2 g3 hb0
      go_wp2_with fail
      go_roundw
      case rel => exact ⟨k + 1, A', c', by go_num, rfl, by omega, J.out.2, by rw [rng_succ]; exact J.out.1⟩
      case measure => simp [intOf]; omega
    · obtain rfl : k = n := by omega
      clear hkl
      go_wp2_with fail
      go_ret
      exact ⟨A, c, rfl, H.out.1, H.out.2⟩
def jnk (u : List Int) (a b : Int) (k j : Nat) : Int := if j < k then gi (jn u a b) j else gi u j
def JoinPost (b o c : Nat) (u : List Int) (x y : Int) (w : World) (e : Ending) (w' : World) : Prop := e = .returned (.bool (!(x == y))) ∧ Tch [b] w w' ∧ DatM w' b o c (jn u x y)
theorem join_c {n f s b o c : Nat} {u : List Int} {w : World} (hD : DatM w b o c u) (hn : u.length = n) (hn60 : n ≤ 60) (hf : f < n) (hs : s < n) :
    Calls Tryz.prog 46 #[.slice (some ⟨b, o, none⟩) n c, .agg #[.int .i64 f, .int .i64 s]] w (JoinPost b o c u (gi u f) (gi u s) w) := by
  have fl : (f : Int) < n := by omega
  have sl : (s : Int) < n := by omega
  have c0 := hD.cell (j := f) (by omega)
  have c1 := hD.cell (j := s) (by omega)
  have hlt := hD.lt
  have HD := Lib.hid hD; clear hD
  have HN := Lib.hid hn; clear hn
  obtain ⟨x, hx⟩ : ∃ x, gi u f = x := ⟨_, rfl⟩
  obtain ⟨y, hy⟩ : ∃ y, gi u s = y := ⟨_, rfl⟩
  rw [hx] at c0
  rw [hy] at c1
  rw [hx, hy]
  clear hx hy
  go_enter Tryz.func46, Tryz.ntmps46
  go_wp2_with fail
  go_quiet (fail)
  go_wp2_with fail
  refine nameC ?_
  intro W1 hW1
  have hT1 : Tch [b] w W1 := by rw [hW1]; exact ((Tch.refl _ _).alloc _).drewN _
  have hD1 : DatM W1 b o c u := by rw [hW1]; exact DatM.drewN (GrF.keep HD.out ((Below.refl _ _).alloc (Nat.le_refl _) _)) _
  have H1 := Lib.hid (And.intro hT1 hD1)
  clear hT1 hD1 hW1 c0 c1
  go_loopw [7, 8, 21] (fun v7 v8 v21 wr => ∃ (k : Nat) (zs : List Int), v21 = .int .i64 k ∧ k ≤ n ∧ Tch [b] w wr ∧ DatM wr b o c zs ∧ zs.length = n ∧ ∀ j, j < n → gi zs j = jnk u x y k j) (fun _ _ v21 _ => n - (intOf v21).toNat)
  case atStart => exact ⟨0, u, rfl, Nat.zero_le _, H1.out.1, H1.out.2, HN.out, fun j hj => by unfold jnk; rw [if_neg (by omega)]⟩
  case round =>
    obtain ⟨k, zs, rfl, hk, hT, hZ, hl, hall⟩ := hrel
    have K := Lib.hid (And.intro hT (And.intro hZ (And.intro hl hall)))
    by_cases hlt' : k < n
    · have kl : (k : Int) < n := by omega
      have ck := hZ.cell (j := k) (by omega)
      have fk := hZ.free (o + k)
      have hzk : gi zs k = gi u k := by rw [hall k hlt']; unfold jnk; rw [if_neg (by omega)]
      have hjk : gi (jn u x y) k = if gi u k = x ∨ gi u k = y then min x y else gi u k := gi_jn (by rw [HN.out]; exact hlt')
      rw [hzk] at ck
      clear hT hZ hl hall hzk
      have fin : ∀ z, gi (jn u x y) k = z → ∀ j, j < n → gi (zs.set k z) j = jnk u x y (k + 1) j := fun z hz j hj => by
        rw [gi_set _ _ _ _ (by rw [K.out.2.2.1]; exact hlt')]
        by_cases e : k = j
        · subst e; rw [if_pos rfl]; unfold jnk; rw [if_pos (by omega), hz]
        · rw [if_neg e, K.out.2.2.2 j hj]
          unfold jnk
          by_cases e2 : j < k
          · rw [if_pos e2, if_pos (by omega)]
          · rw [if_neg e2, if_neg (by omega)]
      have fin2 : gi (jn u x y) k = gi u k → ∀ j, j < n → gi zs j = jnk u x y (k + 1) j := fun hz j hj => by
        rw [K.out.2.2.2 j hj]
        unfold jnk
        by_cases e2 : j < k
        · rw [if_pos e2, if_pos (by omega)]
        · rw [if_neg e2]
          by_cases e3 : j = k
          · subst e3; rw [if_pos (by omega), hz]
          · rw [if_neg (by omega)]
      have F1 := Lib.hid (And.intro fin fin2); clear fin fin2
      have HJ := Lib.hid hjk; clear hjk
      generalize gi u k = z at *
      by_cases e1 : z = x
      · have d1 : (z == x) = true := by simp [e1]
        have E := Lib.hid ((HJ.out.trans (if_pos (.inl e1))).trans (show min x y = if y < x then y else x by split <;> omega)); clear e1
        go_wp2_with fail
        go_roundw
        case rel => exact ⟨k + 1, zs.set k (if y < x then y else x), by go_num, by omega, K.out.1.set (.inl (by simp)) _, K.out.2.1.set (by rw [K.out.2.2.1]; exact hlt') _, by rw [List.length_set]; exact K.out.2.2.1, F1.out.1 _ E.out⟩
        case measure => simp [intOf]; omega
      · by_cases e2 : z = y
        · have d1 : (z == x) = false := by simp [e1]
          have d2 : (z == y) = true := by simp [e2]
          have E := Lib.hid ((HJ.out.trans (if_pos (.inr e2))).trans (show min x y = if y < x then y else x by split <;> omega)); clear e1 e2
          go_wp2_with fail
          go_roundw
          case rel => exact ⟨k + 1, zs.set k (if y < x then y else x), by go_num, by omega, K.out.1.set (.inl (by simp)) _, K.out.2.1.set (by rw [K.out.2.2.1]; exact hlt') _, by rw [List.length_set]; exact K.out.2.2.1, F1.out.1 _ E.out⟩
          case measure => simp [intOf]; omega
        · have d1 : (z == x) = false := by simp [e1]
          have d2 : (z == y) = false := by simp [e2]
          have E := Lib.hid (HJ.out.trans (if_neg (fun h => h.elim e1 e2))); clear e1 e2
          go_wp2_with fail
          go_roundw
          case rel => exact ⟨k + 1, zs, by go_num, by omega, K.out.1, K.out.2.1, K.out.2.2.1, F1.out.2 E.out⟩
          case measure => simp [intOf]; omega
    · obtain rfl : k = n := by omega
      clear hT hZ hl hall
      go_wp2_with fail
      go_ret
      refine ⟨rfl, K.out.1, ?_⟩
      have : zs = jn u x y := ext_gi (by rw [K.out.2.2.1]; simp [jn, HN.out]) fun j hj => by
        rw [K.out.2.2.1] at hj
        rw [K.out.2.2.2 j hj]; unfold jnk; rw [if_pos hj]
      rw [← this]; exact K.out.2.1
structure WLoc where
  sb : Nat
  rb : Nat
  tb : Nat
  lb : Nat
  ab : Nat
  bb : Nat
  db : Nat
structure WLoc.ok (z : WLoc) (B : Nat) : Prop where
  le : B ≤ z.sb ∧ B ≤ z.rb ∧ B ≤ z.tb ∧ B ≤ z.lb ∧ B ≤ z.ab ∧ B ≤ z.bb ∧ B ≤ z.db
  ne : z.lb ≠ z.ab ∧ z.ab ≠ z.bb ∧ z.lb ≠ z.bb ∧ z.lb ≠ z.tb ∧ z.ab ≠ z.tb ∧ z.bb ≠ z.tb ∧ z.db ≠ z.lb ∧ z.db ≠ z.ab ∧ z.db ≠ z.bb ∧ z.db ≠ z.tb
  sb : z.sb ≠ z.lb ∧ z.sb ≠ z.ab ∧ z.sb ≠ z.bb ∧ z.sb ≠ z.db ∧ z.sb ≠ z.tb ∧ z.sb ≠ z.rb
  rb : z.rb ≠ z.lb ∧ z.rb ≠ z.ab ∧ z.rb ≠ z.bb ∧ z.rb ≠ z.db ∧ z.rb ≠ z.tb
structure WMem (W0 w : World) (z : WLoc) (S n : Nat) (l : List Int) (last : List Ar) (bef : List Nat) (done : List Bool) (Ds : List Nat) : Prop where
  bel : Below W0.heap.size W0 w
  tour : TourM w z.tb z.lb z.ab z.bb z.db n l last bef done
  sbc : w.cell? ⟨z.sb, 0, none⟩ = some (.pointer (some ⟨S, 0, none⟩))
  rbc : ∃ a b c, w.heap[z.rb]? = some (.cells #[a, b, c] 121 (0, 0))
  op : Opn w Ds
  ge : ∀ D, D ∈ Ds → W0.heap.size ≤ D
theorem WMem.keep {W0 w w' : World} {z : WLoc} {S n : Nat} {l : List Int} {last : List Ar} {bef : List Nat} {done : List Bool} {Ds : List Nat} (h : WMem W0 w z S n l last bef done Ds) (hb : Below w.heap.size w w') : WMem W0 w' z S n l last bef done Ds := by
  obtain ⟨h1, h2, h3, ⟨a, b, c, h4⟩, h6, h7⟩ := h
  exact ⟨h1.trans (hb.mono h1.size), h2.keep hb, cellB hb h3, ⟨a, b, c, (hb.block _ (Array.getElem?_eq_some_iff.1 h4).1).trans h4⟩, ⟨h6.nd, fun D hD => (hb.block _ (Array.getElem?_eq_some_iff.1 (h6.op D hD)).1).trans (h6.op D hD)⟩, h7⟩
theorem Opn.ne_cells {w : World} {Ds : List Nat} (h : Opn w Ds) {b : Nat} {cs : Array Value} {t : TypeId} {r : Nat × Nat} (hb : w.heap[b]? = some (.cells cs t r)) : b ∉ Ds := fun hm => by
  have := hb.symm.trans (h.op b hm)
  injection this with this
  cases this
def WJ (W0 : World) (z : WLoc) (S n : Nat) (es : List Ed) (x p : List Int) (src u : Nat) (done : List Bool) (rk : Nat → Nat) (Ds : List Nat) (at' nb l : Nat) (rec : Loop) (k : Nat) (w : World) : Prop :=
  ∃ len last bef, WMem W0 w z S n len last bef done Ds ∧ Dij n es x p src len last bef done rk (gi len u) (fun v a => v = u ∧ a ∈ (arcs es x u).drop k) ∧
    w.cell? ⟨at', 0, none⟩ = some (.int .i64 u) ∧ w.cell? ⟨nb, 0, none⟩ = some (.int .i64 u) ∧ w.cell? ⟨nb - 1, 0, none⟩ = some (.pointer (some ⟨S, 0, none⟩)) ∧ w.heap[l]? = some (.loop rec) ∧ gb done u = true
theorem roundA_mono {l : Nat} {ar : Ar} {W : World} {R R' : World → Prop} (h : RoundA l ar W R) (hR : ∀ w, R w → R' w) : RoundA l ar W R' := by
  obtain ⟨rec, h1, h2, h3⟩ := h
  exact ⟨rec, h1, h2, fun m => (h3 m).mono fun e w ⟨e1, e2⟩ => ⟨e1, hR w e2⟩⟩
theorem drop_cons {xs : List Ar} {k : Nat} (h : k < xs.length) : xs.drop k = ga xs k :: xs.drop (k + 1) := by
  rw [List.drop_eq_getElem_cons h]
  congr 1
  unfold ga
  simp [h]
theorem WJ.keep {W0 : World} {z : WLoc} {S n : Nat} {es : List Ed} {x p : List Int} {src u : Nat} {done : List Bool} {rk : Nat → Nat} {Ds : List Nat} {at' nb l : Nat} {rec : Loop} {k : Nat} {w w' : World}
    (h : WJ W0 z S n es x p src u done rk Ds at' nb l rec k w) (hb : Below w.heap.size w w') : WJ W0 z S n es x p src u done rk Ds at' nb l rec k w' := by
  obtain ⟨len, last, bef, h1, h2, h3, h4, h5, h6, h7⟩ := h
  exact ⟨len, last, bef, h1.keep hb, h2, cellB hb h3, cellB hb h4, cellB hb h5, (hb.block _ (Array.getElem?_eq_some_iff.1 h6).1).trans h6, h7⟩
theorem WJ.step {W0 : World} {z : WLoc} {n J0 : Nat} {es : List Ed} (hg : Gd n J0 es) {x p ex : List Int} {v : Loc} (hx : Fits es x p) (hS : SvM W0 v n es x p ex) (hpb : ∀ i, i < n → 0 ≤ gi p i ∧ gi p i ≤ 1000000000000) (hz : z.ok W0.heap.size)
    {src u : Nat} (hu : u < n) {done : List Bool} {rk : Nat → Nat} {Ds : List Nat} {at' nb l D fn : Nat} {rec : Loop} {u0 u1 u3 u4 u6 u8 u9 u10 u11 u12 u13 u14 u15 u16 u17 u18 u19 u20 u21 u22 u23 u24 u25 u26 u27 u28 u29 u30 u31 u32 u33 u34 u35 u36 u37 u38 u39 u40 u41 u42 u43 u44 u45 u46 u47 u48 u49 u50 u51 u52 u53 u54 u55 u56 u57 u58 u59 u60 u61 u62 u63 u64 u65 u66 u67 u68 u69 u70 u71 u72 u73 u74 u75 u76 u77 u78 u79 u80 u81 u82 u83 u84 u85 u86 u87 u88 u89 u90 u91 u92 u93 u94 u95 u96 u97 u98 u99 u100 u101 u102 u103 u104 u105 u106 u107 u108 u109 u110 u111 u112 u113 u114 u115 u116 u117 u118 u119 u120 u121 u122 u123 u124 u125 u126 u127 u128 u129 u130 u131 u132 u133 u134 u135 u136 u137 u138 : Value}
    (hrec : rec = recOf fn #[u0, u1, .pointer (some ⟨z.sb, 0, none⟩), u3, u4, .pointer (some ⟨z.tb, 0, none⟩), u6, .pointer (some ⟨at', 0, none⟩), u8, u9, u10, u11, u12, u13, u14, u15, u16, u17, u18, u19, u20, u21, u22, u23, u24, u25, u26, u27, u28, u29, u30, u31, u32, u33, u34, u35, u36, u37, u38, u39, u40, u41, u42, u43, u44, u45, u46, u47, u48, u49, u50, u51, u52, u53, u54, u55, u56, u57, u58, u59, u60, u61, u62, u63, u64, u65, u66, u67, u68, u69, u70, u71, u72, u73, u74, u75, u76, u77, u78, u79, u80, u81, u82, u83, u84, u85, u86, u87, u88, u89, u90, u91, u92, u93, u94, u95, u96, u97, u98, u99, u100, u101, u102, u103, u104, u105, u106, u107, u108, u109, u110, u111, u112, u113, u114, u115, u116, u117, u118, u119, u120, u121, u122, u123, u124, u125, u126, u127, u128, u129, u130, u131, u132, u133, u134, u135, u136, u137, u138] #[87] (Tryz.f73.sub [1, 1, 1, 1, 0, 0, 0, 1, 1, 1, 1, 1, 0, 0]) (Tryz.f73.sub [1, 1, 1, 1, 0, 0, 0, 1, 1, 1, 1, 1, 0, 1]) D .ready)
    (hn : ∀ b, b = at' ∨ b = nb ∨ b = nb - 1 ∨ b = l → W0.heap.size ≤ b ∧ b ≠ z.sb ∧ b ≠ z.rb ∧ b ≠ z.tb ∧ b ≠ z.lb ∧ b ≠ z.ab ∧ b ≠ z.bb ∧ b ≠ z.db) (hl : l ≠ at' ∧ l ≠ nb ∧ l ≠ nb - 1)
    {k : Nat} {w : World} (hk : k < (arcs es x u).length) (h : WJ W0 z v.S n es x p src u done rk Ds at' nb l rec k w) :
    RoundA l (ga (arcs es x u) k) w (WJ W0 z v.S n es x p src u done rk Ds at' nb l rec (k + 1)) := by
  obtain ⟨len, last, bef, h1, h2, h3, h4, h5, h6, h7⟩ := h
  have ha : IsArc es x u (ga (arcs es x u) k) := (isArc_iff hg).2 (by unfold ga; simp [hk])
  obtain ⟨a1, _, _, _, a5, a6⟩ := arc_to_lt hg ha
  have hJ := hg.J_le
  have hn2 := hg.n_le
  have hS1 : SvM w v n es x p ex := hS.keep h1.bel
  have hlo := h2.lo u hu
  obtain ⟨⟨z1, z2, z3, z4, z5, z6, z7⟩, ⟨n1, n2, n3, n4, n5, n6, n7, n8, n9, n10⟩, ⟨s1, s2, s3, s4, s5, s6⟩, ⟨r1, r2, r3, r4, r5⟩⟩ := hz
  obtain ⟨q1, q2, q3, q4, q5, q6, q7, q8⟩ := hn l (by simp)
  obtain ⟨t1, t2, t3, t4, t5, t6, t7, t8⟩ := hn at' (by simp)
  obtain ⟨b1, b2, b3, b4, b5, b6, b7, b8⟩ := hn nb (by simp)
  obtain ⟨c1, c2, c3, c4, c5, c6, c7, c8⟩ := hn (nb - 1) (by simp)
  obtain ⟨m1, m2, m3⟩ := hl
  have hSlt : v.S < W0.heap.size := (Array.getElem?_eq_some_iff.1 hS.blk).1
  have hplt : v.p < W0.heap.size := hS.tu.lt
  rw [hrec] at h6
  refine roundA_mono (ways_round h6 h1.tour (by omega) hu a1 h3 h1.sbc hS1.c3 hS1.tu hS.lenp.symm hlo (hpb u hu) (hpb _ a1) ⟨by omega, by omega⟩ ⟨n1, n2, t5.symm, t6.symm, t7.symm, n4, n5, n6, n7, n8, n9⟩ ⟨q4, q5, q6, q7, q8, m1, q2, by omega, by omega⟩) ?_
  rintro W' ⟨l', last', bef', k1, k2, k3, k4⟩
  have hcell : ∀ b, b ≠ z.lb → b ≠ z.ab → b ≠ z.bb → b ≠ l → b ∉ [z.lb, z.ab, z.bb, l] := fun b e1 e2 e3 e4 => by simp [e1, e2, e3, e4]
  have hpend : ∀ v b, ((v = u ∧ b ∈ (arcs es x u).drop k) ∧ ¬ (v = u ∧ b = ga (arcs es x u) k)) → v = u ∧ b ∈ (arcs es x u).drop (k + 1) := by
    rintro v b ⟨⟨e1, e2⟩, e3⟩
    refine ⟨e1, ?_⟩
    rw [drop_cons hk, List.mem_cons] at e2
    rcases e2 with e2 | e2
    · exact absurd ⟨e1, e2⟩ e3
    · exact e2
  have hmem : WMem W0 W' z v.S n l' last' bef' done Ds := by
    refine ⟨k2.below h1.bel (Nat.le_refl _) (fun b hb => ?_), k1, k2.cell (hcell _ s1 s2 s3 q2.symm) h1.sbc, ?_, ⟨h1.op.nd, fun E hE => ?_⟩, h1.ge⟩
    · simp only [List.mem_cons, List.not_mem_nil, or_false] at hb
      rcases hb with rfl | rfl | rfl | rfl <;> assumption
    · obtain ⟨a, b, c, e1⟩ := h1.rbc
      exact ⟨a, b, c, (k2.block _ (Array.getElem?_eq_some_iff.1 e1).1 (hcell _ r1 r2 r3 q3.symm)).trans e1⟩
    · have hE2 := h1.op.op E hE
      refine (k2.block _ (Array.getElem?_eq_some_iff.1 hE2).1 (hcell _ (fun e => ?_) (fun e => ?_) (fun e => ?_) (fun e => ?_))).trans hE2
      · exact Opn.ne_cells h1.op h1.tour.len (e ▸ hE)
      · exact Opn.ne_cells h1.op h1.tour.lst (e ▸ hE)
      · exact Opn.ne_cells h1.op h1.tour.bfr (e ▸ hE)
      · rw [e] at hE2; have := hE2.symm.trans h6; injection this with this; cases this
  refine ⟨l', last', bef', hmem, ?_, k2.cell (hcell _ t5 t6 t7 m1.symm) h3, k2.cell (hcell _ b5 b6 b7 m2.symm) h4, k2.cell (hcell _ c5 c6 c7 m3.symm) h5, k3.trans (by rw [hrec]; exact h6), h7⟩
  rcases k4 with ⟨e1, rfl, rfl, rfl⟩ | ⟨e1, rfl, rfl, rfl⟩
  · exact (h2.better hg hx h7 ha e1).pend fun v b _ hb => hpend v b hb
  · exact (h2.worse e1).pend fun v b _ hb => hpend v b hb
end Go.Proofs.YtjnpchoinncbnaaGreat
end
