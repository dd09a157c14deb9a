/- Proves parts of the statement, each under the conditions that its theorem states: The lightest forest, in plain words; The lightest forest; The lightest forest when there are no pairs; The function over the steps that begin at a scene. -/
import Derived.Test.YtjnpchoinncbnaaGreatP16
import Derived.Test.YtjnpchoinncbnaaGreatP24
import Derived.Test.YtjnpchoinncbnaaGreatP12
set_option linter.unusedSimpArgs false
set_option linter.unusedVariables false
set_option maxHeartbeats 4000000
set_option maxRecDepth 100000
section
namespace Go.Proofs.YtjnpchoinncbnaaGreat
open Go.RowKit Sw Fam
def Frs (t : Sk) (F : List Int) : Prop := ∃ (ys : List Int) (T : List Nat), ys.Perm (rng t.pr.length) ∧ Std (lenP t) ys 0 t.pr.length ∧ Kr t.sc.length (prs t) (ys.map Int.toNat) T ∧ ∀ i : Int, i ∈ F ↔ ∃ k : Nat, k ∈ T ∧ i = k
theorem std_uniq {L : Int → Int} : ∀ {n : Nat} {xs ys : List Int}, xs.length = n → ys.Perm xs → Std L xs 0 n → Std L ys 0 n → xs = ys := by
  intro n xs ys hn hp h1 h2
  have p1 : xs.Pairwise (lx L) := by
    rw [List.pairwise_iff_getElem]
    intro i j hi hj hij
    have := h1 i j (Nat.zero_le _) hij (by omega)
    simpa [gi, hi, hj] using this
  have p2 : ys.Pairwise (lx L) := by
    rw [List.pairwise_iff_getElem]
    intro i j hi hj hij
    have := h2 i j (Nat.zero_le _) hij (by have := hp.length_eq; omega)
    simpa [gi, hi, hj] using this
  exact List.Perm.eq_of_pairwise (fun a b _ _ h k => absurd (lx_trans h k) lx_irr) p1 p2 hp.symm
theorem mem_rng {n : Nat} {x : Int} : x ∈ rng n ↔ 0 ≤ x ∧ x < n := by
  unfold rng
  simp only [List.mem_map, List.mem_range]
  constructor
  · rintro ⟨k, hk, rfl⟩; constructor
    · exact Int.natCast_nonneg k
    · show (k : Int) < n; omega
  · rintro ⟨h1, h2⟩
    exact ⟨x.toNat, by omega, by show ((x.toNat : Nat) : Int) = x; omega⟩
theorem perm_rng {n : Nat} {ys : List Int} (h : ys.Perm (rng n)) {k : Nat} (hk : k < n) : 0 ≤ gi ys k ∧ gi ys k < n := by
  have hl := h.length_eq
  rw [rng_len] at hl
  have : gi ys k ∈ ys := by simp [gi, show k < ys.length by omega]
  exact mem_rng.1 (h.subset this)
theorem take_snoc_i {ys : List Int} {k : Nat} (h : k < ys.length) : ys.take (k + 1) = ys.take k ++ [gi ys k] := by
  rw [List.take_succ_eq_append_getElem h]; simp [gi, h]
theorem tch_grown {S : List Nat} {w0 w w' : World} {row : Option Nat} (h : Tch S w0 w) (g : w.grownBy w' row) (hr : ∀ b, row = some b → w0.heap.size ≤ b) : Tch S w0 w' :=
  ⟨g.os.trans h.os, g.tape.trans h.tape, g.output.trans h.output, Nat.le_trans h.size g.size, fun b hb hn => (g.block b (Nat.lt_of_lt_of_le hb h.size) (fun e => absurd hb (Nat.not_lt.2 (hr b e.symm)))).trans (h.block b hb hn)⟩
def LightPost (t : Sk) (w : World) (e : Ending) (w' : World) : Prop := ∃ A c F, e = .returned (.slice A F.length c) ∧ Below w.heap.size w w' ∧ RdI w' A F ∧ Frs t F ∧ F.length ≤ t.pr.length ∧ ∀ b o, A = some ⟨b, o, none⟩ → w.heap.size ≤ b
theorem lightest_c {t : Sk} {l : SkL} {w : World} (hM : NetM w t l) (ho : NetOk t) (hm : 0 < t.pr.length) : Calls Tryz.prog 42 #[NetV t l] w (LightPost t w) := by
  have h60 := ho.n_le
  have h200 := ho.m_le
  have HM := Lib.hid hM; clear hM
  have HO := Lib.hid ho; clear ho
  unfold NetV
  go_enter Tryz.func42, Tryz.ntmps42
  go_wp2_with fail
  refine nameC ?_
  intro W1 hW1
  obtain ⟨hB1, hG1⟩ := alloc1 w _ hW1
  clear hW1
  have H1 := Lib.hid (And.intro hB1 hG1); clear hB1 hG1
  obtain ⟨G, hGe⟩ : ∃ G, w.heap.size = G := ⟨_, rfl⟩
  obtain ⟨m, hme⟩ : ∃ m, t.pr.length = m := ⟨_, rfl⟩
  rw [hGe, hme]
  rw [hme] at hm h200 
  have HE := Lib.hid (And.intro hGe hme); clear hGe hme
  go_loopw [3, 5, 13] (fun v3 v5 v13 wr => ∃ (k : Nat) (A : Option Addr) (c : Nat), v13 = .int .i64 k ∧ v3 = .slice A k c ∧ k ≤ m ∧ Below W1.heap.size W1 wr ∧ GrI wr W1.heap.size A c (rng k)) (fun _ _ v13 _ => m - (intOf v13).toNat)
  case atStart => exact ⟨0, none, 0, rfl, rfl, Nat.zero_le _, Below.refl _ _, GrF.start W1 _⟩
  case round =>
    obtain ⟨k, A, c, rfl, rfl, hk, hB, hG⟩ := hrel
    have hsz := hB.size
    have H := Lib.hid (And.intro hB hG); clear hB hG
    by_cases hlt : k < m
    · have HL := Lib.hid (rng_len k)
      go_wp2_with (at_builtin; refine wpList_append_t Tryz.underlying26 rfl _ _ rfl (GrF.keep H.out.2 ((Below.refl _ _).alloc (Nat.le_refl _) (.cells #[.int .i64 (k : Int)] 3))) (k : Int) _ _ (by rw [HL.out]; rfl) rfl (block_cell (World.alloc_heap_new wr _) (j := 0) (by simp)) (by rw [HL.out]; omega) (by simp; omega) ?_)
      intro A' c' w' g1 g2
      have hb0 : Below W1.heap.size W1 (wr.alloc (.cells #[.int .i64 (k : Int)] 3)) := H.out.1.trans ((Below.refl _ _).alloc hsz _)
      have g3 := grown_below hb0 (Nat.le_refl _) (GrF.keep H.out.2 ((Below.refl _ _).alloc (Nat.le_refl _) (.cells #[.int .i64 (k : Int)] 3))) g2
      rw [HL.out]
      have J := Lib.hid (And.intro g1 g3); clear g1 g2 g3 hb0
      go_wp2_with fail
      go_roundw
      case rel => exact ⟨k + 1, A', c', by go_num, rfl, by omega, J.out.2, by rw [rng_succ]; exact J.out.1⟩
      case measure => simp [intOf]; omega
    · obtain rfl : k = m := by omega
      obtain ⟨b, o, hA, hbB, _⟩ := GrI.cell H.out.2 (j := 0) (by rw [rng_len]; exact hm)
      subst hA
      have hD : DatM wr b o c (rng k) := GrF.low H.out.2 (Nat.zero_le _)
      have hbl := hD.lt
      have hBw : Below w.heap.size w wr := H1.out.1.trans (H.out.1.mono H1.out.1.size)
      have hG1l : w.heap.size < W1.heap.size := (Array.getElem?_eq_some_iff.1 H1.out.2).1
      have hGr : wr.heap[w.heap.size]? = some (.cells #[.slice l.S t.sc.length l.cs, .slice l.P t.pr.length l.cp] 66 (0, 0)) := (H.out.1.block _ hG1l).trans H1.out.2
      have keepW : ∀ W, Tch [b] wr W → Below w.heap.size w W ∧ W.heap[w.heap.size]? = some (.cells #[.slice l.S t.sc.length l.cs, .slice l.P t.pr.length l.cp] 66 (0, 0)) := fun W hT =>
        ⟨hT.below hBw (Nat.le_refl _) (fun x hx => by simp at hx; omega), (hT.block _ (by have := H.out.1.size; omega) (by simp; omega)).trans hGr⟩
      have hc : CmpOk 65 #[.pointer (some ⟨G, 0, none⟩)] (lenP t) k b wr := by
        refine ⟨fun x x0 x1 => ?_, enters_fn Tryz.func65 (by kernel_rfl) rfl, fun W x y hT x0 x1 y0 y1 => ?_⟩
        · have := lenP_bd HO.out x0 (by rw [HE.out.2]; exact x1)
          omega
        · obtain ⟨k1, k2⟩ := keepW W hT
          have := cmp_c (HM.out.keep k1) HO.out k2 x0 (by rw [HE.out.2]; exact x1) y0 (by rw [HE.out.2]; exact y1)
          rw [HE.out.1] at this
          exact this
      have KW := Lib.hid keepW; clear keepW
      have HS := Lib.hid (sortStable_c hc hD (rng_len k) (fun i hi => gi_rng hi) h200)
      clear hc hD hBw hGr
      have HH := Lib.hid (And.intro hbB (And.intro hG1l hbl)); clear hbB hG1l hbl
      go_wp2_with fail
      refine HS.out.mono ?_
      rintro e W2 ⟨⟨r, rfl⟩, hT2, ys, hY, hP, hSt⟩
      obtain ⟨hB2, hG2⟩ := KW.out W2 hT2
      have hyl : ys.length = k := by rw [hP.length_eq, rng_len]
      rw [HE.out.1, HE.out.2] at hG2
      have g0 : W2.cell? ⟨G, 0, none⟩ = some (.slice l.S t.sc.length l.cs) := block_cell hG2 (j := 0) (by simp)
      have J := Lib.hid (And.intro hB2 (And.intro hG2 (And.intro hY (And.intro hP (And.intro hSt (And.intro hT2 hyl))))))
      clear hB2 hG2 hT2 hY hP hSt HS hyl
      go_wp2_with fail
      refine (newUnion_c t.sc.length h60 W2).mono ?_
      rintro e W3 ⟨A3, c3, rfl, hB3, hU3⟩
      have hn0 : 0 < t.sc.length := by
        have := prs_lt HO.out (i := 0) (by rw [HE.out.2]; exact hm)
        omega
      obtain ⟨ub, uo, hA3, hub, _⟩ := GrI.cell hU3 (j := 0) (by rw [rng_len]; exact hn0)
      subst hA3
      have hDu : DatM W3 ub uo c3 (rng t.sc.length) := GrF.low hU3 (Nat.zero_le _)
      have hbe := (GrF.lt J.out.2.2.1 (b := b) rfl).2
      have U := Lib.hid (And.intro hB3 (And.intro hDu (And.intro hub hbe))); clear hB3 hDu hub hU3 hbe g0
      have hW23 := U.out.1.size
      go_wp2_with fail
      go_loopw [4, 8, 31] (fun v4 v8 v31 wr => ∃ (q : Nat) (A : Option Addr) (c' : Nat) (T : List Nat) (u : List Int), v31 = .int .i64 q ∧ v4 = .slice A T.length c' ∧ q ≤ k ∧ T.length ≤ q ∧ Tch [ub] W3 wr ∧ DatM wr ub uo c3 u ∧ GrI wr W3.heap.size A c' (T.map Int.ofNat) ∧ Kr t.sc.length (prs t) ((ys.take q).map Int.toNat) T ∧ Lab t.sc.length (prs t) ((ys.take q).map Int.toNat) u) (fun _ _ v31 _ => k - (intOf v31).toNat)
      case atStart => exact ⟨0, none, 0, [], _, rfl, rfl, Nat.zero_le _, Nat.le_refl _, Tch.refl _ _, U.out.2.1, GrF.start W3 _, Kr.nil, Lab.start _ _⟩
      case round =>
        obtain ⟨q, A, c', T, u, rfl, rfl, hq, hTq, hT, hU, hO, hKr, hLab⟩ := hrel
        have hsz := hT.size
        have K := Lib.hid (And.intro hT (And.intro hU (And.intro hO (And.intro hKr hLab)))); clear hT hU hO hKr hLab
        have keepR : ∀ W, Tch [ub] W3 W → Below w.heap.size w W ∧ W.heap[G]? = some (.cells #[.slice l.S t.sc.length l.cs, .slice l.P k l.cp] 66 (0, 0)) ∧ DatM W b o c ys := fun W hT => by
          have hbW : Below w.heap.size w W3 := J.out.1.trans (U.out.1.mono J.out.1.size)
          have hsz0 := J.out.1.size
          have hGl : G < W2.heap.size := (Array.getElem?_eq_some_iff.1 J.out.2.1).1
          have hub := U.out.2.2.1
          refine ⟨hT.below hbW (Nat.le_refl _) (fun x hx => by simp at hx; omega), (hT.block _ (by omega) (by simp; omega)).trans ((U.out.1.block _ hGl).trans J.out.2.1), ?_⟩
          refine GrF.move (DatM.keep J.out.2.2.1 U.out.1) fun b' hb' => hT.block b' ?_ ?_
          · have := (GrF.lt (DatM.keep J.out.2.2.1 U.out.1) hb').2; exact this
          · simp at hb'; subst hb'; simp; have := U.out.2.2.2; omega
        have KR := Lib.hid keepR; clear keepR
        by_cases hlt : q < k
        · obtain ⟨kB, kG, kD⟩ := KR.out wr K.out.1
          obtain ⟨i0, i1⟩ := perm_rng J.out.2.2.2.1 hlt
          obtain ⟨i, hi⟩ : ∃ i : Nat, gi ys q = (i : Int) := ⟨(gi ys q).toNat, by omega⟩
          have hik : i < k := by omega
          have hyl := J.out.2.2.2.2.2.2
          have cq := kD.cell (j := q) (by rw [hyl]; exact hlt)
          rw [hi] at cq
          have g1 : wr.cell? ⟨G, 1, none⟩ = some (.slice l.P k l.cp) := block_cell kG (j := 1) (by simp)
          obtain ⟨b2, o2, hP2, p0, p1⟩ := ((HM.out.keep kB).rdq HO.out) i (by rw [prs_len, HE.out.2]; exact hik)
          obtain ⟨f1, f2, f3⟩ := prs_lt HO.out (i := i) (by rw [HE.out.2]; exact hik)
          have hik2 : (i : Int) < k := by omega
          have htk : (ys.take (q + 1)).map Int.toNat = (ys.take q).map Int.toNat ++ [i] := by rw [take_snoc_i (by rw [hyl]; exact hlt), List.map_append, hi]; simp
          have X := Lib.hid (And.intro htk (And.intro f1 (And.intro f2 hi)))
          have HJ := Lib.hid (join_c K.out.2.1 K.out.2.2.2.2.len h60 f1 f2)
          rw [hP2] at g1
          have HP2 := Lib.hid hP2; clear hP2
          clear kB kG kD i0 i1 hi hyl htk f1 f2 f3
          obtain ⟨x, hx⟩ : ∃ x, gi u (gq (prs t) i).f = x := ⟨_, rfl⟩
          obtain ⟨y, hy⟩ : ∃ y, gi u (gq (prs t) i).s = y := ⟨_, rfl⟩
          rw [hx, hy] at HJ
          have HXY := Lib.hid (And.intro hx hy); clear hx hy
          by_cases hxy : x = y
          · have hj : Calls Tryz.prog 46 #[.slice (some ⟨ub, uo, none⟩) t.sc.length c3, .agg #[.int .i64 ((gq (prs t) i).f : Nat), .int .i64 ((gq (prs t) i).s : Nat)]] wr fun e w' => e = .returned (.bool false) ∧ Tch [ub] wr w' ∧ DatM w' ub uo c3 (jn u x y) :=
              HJ.out.mono fun e w' h => ⟨by rw [h.1]; simp [hxy], h.2⟩
            have HJ2 := Lib.hid hj; clear hj HJ
            have HE2 := Lib.hid hxy; clear hxy
            go_wp2_with fail
            refine HJ2.out.mono ?_
            rintro e W4 ⟨rfl, hT4, hU4⟩
            have V := Lib.hid (And.intro hT4 hU4); clear hT4 hU4
            go_wp2_with fail
            go_roundw
            case rel =>
              have e1 : gi u (gq (prs t) i).f = gi u (gq (prs t) i).s := by rw [HXY.out.1, HXY.out.2, HE2.out]
              refine ⟨q + 1, A, c', T, u, by go_num, rfl, by omega, by omega, K.out.1.trans V.out.1, ?_, ?_, ?_, ?_⟩
              · have := V.out.2; rwa [HE2.out, jn_self] at this
              · refine GrF.move K.out.2.2.1 fun b' hb' => V.out.1.block b' (GrF.lt K.out.2.2.1 hb').2 ?_
                have := (GrF.lt K.out.2.2.1 hb').1
                have h5 := U.out.2.1.lt
                simp; omega
              · rw [X.out.1]; exact .skip K.out.2.2.2.1 K.out.2.2.2.2 e1
              · rw [X.out.1]; exact K.out.2.2.2.2.skip X.out.2.1 X.out.2.2.1 e1
            case measure => simp [intOf]; omega
          · have hj : Calls Tryz.prog 46 #[.slice (some ⟨ub, uo, none⟩) t.sc.length c3, .agg #[.int .i64 ((gq (prs t) i).f : Nat), .int .i64 ((gq (prs t) i).s : Nat)]] wr fun e w' => e = .returned (.bool true) ∧ Tch [ub] wr w' ∧ DatM w' ub uo c3 (jn u x y) :=
              HJ.out.mono fun e w' h => ⟨by rw [h.1]; simp [hxy], h.2⟩
            have HJ2 := Lib.hid hj; clear hj HJ
            have HE2 := Lib.hid hxy; clear hxy
            go_wp2_with fail
            refine HJ2.out.mono ?_
            rintro e W4 ⟨rfl, hT4, hU4⟩
            have hO4 : GrI W4 W3.heap.size A c' (T.map Int.ofNat) := GrF.move K.out.2.2.1 fun b' hb' => hT4.block b' (GrF.lt K.out.2.2.1 hb').2 (by
                have := (GrF.lt K.out.2.2.1 hb').1
                have h5 := U.out.2.1.lt
                simp; omega)
            have hs4 := hT4.size
            have V := Lib.hid (And.intro hT4 (And.intro hU4 hO4)); clear hT4 hU4 hO4
            have HTL := Lib.hid (show (T.map Int.ofNat).length = T.length by simp)
            go_wp2_with (at_builtin; refine wpList_append_t Tryz.underlying26 rfl _ _ rfl (GrF.keep V.out.2.2 ((Below.refl _ _).alloc (Nat.le_refl _) (.cells #[.int .i64 (i : Int)] 3))) (i : Int) _ _ (by rw [HTL.out]; rfl) rfl (block_cell (World.alloc_heap_new W4 _) (j := 0) (by simp)) (by rw [HTL.out]; omega) (by simp; omega) ?_)
            intro A' c2 w' g1 g2
            have hT5 : Tch [ub] W3 w' := tch_grown ((K.out.1.trans V.out.1).alloc _) g2 (fun b' hb' => (GrF.lt V.out.2.2 hb').1)
            have hU5 : DatM w' ub uo c3 (jn u x y) := by
              refine GrF.move V.out.2.1 fun b' hb' => ?_
              simp at hb'
              subst hb'
              have h5 := V.out.2.1.lt
              have h6 := U.out.2.1.lt
              refine (g2.block _ (by simp; omega) (fun e => ?_)).trans (Below.heap_alloc _ _ _ h5)
              have := (GrF.lt V.out.2.2 e.symm).1
              omega
            try rw [HTL.out]
            have Y := Lib.hid (And.intro g1 (And.intro hT5 hU5)); clear g1 g2 hT5 hU5
            go_wp2_with fail
            go_roundw
            case rel =>
              have e1 : gi u (gq (prs t) i).f ≠ gi u (gq (prs t) i).s := by rw [HXY.out.1, HXY.out.2]; exact HE2.out
              refine ⟨q + 1, A', c2, T ++ [i], jn u x y, by go_num, by simp, by omega, by simp; omega, Y.out.2.1, Y.out.2.2, ?_, ?_, ?_⟩
              · have := Y.out.1; rw [List.map_append]; exact this
              · rw [X.out.1]; exact .take K.out.2.2.2.1 K.out.2.2.2.2 e1
              · rw [X.out.1]
                have := K.out.2.2.2.2.join X.out.2.1 X.out.2.2.1
                rw [HXY.out.1, HXY.out.2] at this
                exact this
            case measure => simp [intOf]; omega
        · obtain rfl : q = k := by omega
          obtain ⟨kB, kG, kD⟩ := KR.out wr K.out.1
          have hty : ys.take q = ys := List.take_of_length_le (by rw [J.out.2.2.2.2.2.2]; omega)
          have hfr : ∀ F : List Int, F.Perm (T.map Int.ofNat) → Frs t F := fun F hF => by
            refine ⟨ys, T, by rw [HE.out.2]; exact J.out.2.2.2.1, by rw [HE.out.2]; exact J.out.2.2.2.2.1, by have := K.out.2.2.2.1; rwa [hty] at this, fun i => ?_⟩
            rw [hF.mem_iff, List.mem_map]
            constructor
            · rintro ⟨k, h1, rfl⟩; exact ⟨k, h1, rfl⟩
            · rintro ⟨k, h1, rfl⟩; exact ⟨k, h1, rfl⟩
          have FR := Lib.hid hfr; clear hfr hty
          have KB := Lib.hid kB; clear kB kG kD
          cases hA : A with
          | none =>
            have hT0 : T = [] := by
              have h1 := K.out.2.2.1.non hA
              have h2 := K.out.2.2.1.le
              simp at h2
              exact List.eq_nil_of_length_eq_zero (by omega)
            subst hT0
            subst hA
            go_wp2_with fail
            refine (sort_nil _ _ _).mono ?_
            rintro e w' ⟨⟨r, rfl⟩, rfl⟩
            go_wp2_with fail
            go_ret
            exact ⟨none, c', [], rfl, KB.out, RdI.nil _ _, FR.out [] (List.Perm.refl _), Nat.zero_le _, fun b o h => by cases h⟩
          | some ad =>
            obtain ⟨fb, fo, cs, rfl, _⟩ := K.out.2.2.1.at_ ad hA
            subst hA
            have hDf : DatM wr fb fo c' (T.map Int.ofNat) := GrF.low K.out.2.2.1 (Nat.zero_le _)
            have HSo := Lib.hid (sort_c hDf (by simp; omega))
            have hfb := (GrF.lt K.out.2.2.1 (b := fb) rfl).1
            have hfb2 : w.heap.size ≤ fb := by
              have h1 := J.out.1.size
              omega
            rw [List.length_map] at HSo
            clear hDf
            go_wp2_with fail
            refine HSo.out.mono ?_
            rintro e W5 ⟨⟨r, rfl⟩, hT5, F, hF, hR⟩
            have Z := Lib.hid (And.intro hT5 (And.intro hF hR)); clear hT5 hF hR
            go_wp2_with fail
            go_ret
            refine ⟨some ⟨fb, fo, none⟩, c', F, by rw [show F.length = T.length by rw [Z.out.2.1.length_eq, List.length_map]]; rfl, Z.out.1.below KB.out (Nat.le_refl _) (fun x hx => by simp at hx; omega), Z.out.2.2, FR.out F Z.out.2.1, by rw [show F.length = T.length by rw [Z.out.2.1.length_eq, List.length_map], HE.out.2]; exact hTq, fun b o h => by injection h with h; injection h with h; subst h; exact hfb2⟩
theorem lightest_nil {t : Sk} {l : SkL} {w : World} (ho : NetOk t) (hm : t.pr.length = 0) : Calls Tryz.prog 42 #[NetV t l] w (LightPost t w) := by
  have h60 := ho.n_le
  unfold NetV
  obtain ⟨S, P, H, W, cs, cp, ch, cw⟩ := l
  go_enter Tryz.func42, Tryz.ntmps42
  go_wp2_with fail
  refine nameC ?_
  intro W1 hW1
  obtain ⟨hB1, hG1⟩ := alloc1 w _ hW1
  clear hW1
  have H1 := Lib.hid (And.intro hB1 hG1); clear hB1 hG1
  rw [hm]
  have HM := Lib.hid hm; clear hm
  go_loopw [3, 5, 13] (fun v3 v5 v13 wr => v13 = .int .i64 0 ∧ v3 = .slice none 0 0 ∧ wr = W1) (fun _ _ v13 _ => 0)
  case atStart => exact ⟨rfl, rfl, rfl⟩
  case round =>
    obtain ⟨rfl, rfl, rfl⟩ := hrel
    go_wp2_with fail
    have SN := Lib.hid (@sortStable_nil)
    refine Calls.mono (sortStable_nil _ _) ?_
    rintro e W2 ⟨⟨r, rfl⟩, hW2⟩
    subst hW2
    have g0 : wr.cell? ⟨w.heap.size, 0, none⟩ = some (.slice S t.sc.length cs) := block_cell H1.out.2 (j := 0) (by simp)
    go_wp2_with fail
    refine Calls.mono (newUnion_c t.sc.length h60 wr) ?_
    rintro e W3 ⟨A3, c3, rfl, hB3, hU3⟩
    have U := Lib.hid hB3; clear hB3 hU3 g0
    go_wp2_with fail
    go_loopw [4, 8, 31] (fun v4 v8 v31 wr => v31 = .int .i64 0 ∧ v4 = .slice none 0 0 ∧ wr = W3) (fun _ _ v31 _ => 0)
    case atStart => exact ⟨rfl, rfl, rfl⟩
    case round =>
      obtain ⟨rfl, rfl, rfl⟩ := hrel
      go_wp2_with fail
      refine Calls.mono (sort_nil _ _ _) ?_
      rintro e w' ⟨⟨r, rfl⟩, rfl⟩
      go_wp2_with fail
      go_ret
      refine ⟨none, 0, [], rfl, H1.out.1.trans (U.out.mono H1.out.1.size), RdI.nil _ _, ⟨[], [], by rw [HM.out]; exact List.Perm.refl _, fun i j h1 h2 h3 => by rw [HM.out] at h3; omega, Kr.nil, fun i => by simp⟩, Nat.zero_le _, fun b o h => by cases h⟩
theorem light_c {t : Sk} {l : SkL} {w : World} (hM : NetM w t l) (ho : NetOk t) : Calls Tryz.prog 42 #[NetV t l] w (LightPost t w) := by
  by_cases h : 0 < t.pr.length
  · exact lightest_c hM ho h
  · exact lightest_nil ho (by omega)
def fromV (N : Nat) : Value := .func (.func 68) #[] #[.pointer (some ⟨N + 2, 0, none⟩), .pointer (some ⟨N, 0, none⟩), .pointer (some ⟨N + 1, 0, none⟩)]
theorem from_c {S P A : Option Addr} {n m k cs cp c sc : Nat} {W : World} : Calls Tryz.prog 44 #[.agg #[.slice S n cs, .slice P m cp], .int .i64 sc, .slice A k c] W fun e W' => e = .returned (fromV W.heap.size) ∧
    Below W.heap.size W W' ∧ W'.heap[W.heap.size]? = some (.cells #[.slice S n cs, .slice P m cp] 66 (0, 0)) ∧ W'.cell? ⟨W.heap.size + 1, 0, none⟩ = some (.int .i64 sc) ∧ W'.cell? ⟨W.heap.size + 2, 0, none⟩ = some (.slice A k c) ∧ W'.heap.size = W.heap.size + 3 := by
  go_enter Tryz.func44, Tryz.ntmps44
  go_wp2_with fail
  go_ret
  obtain ⟨W1, h1⟩ : ∃ W1, W.alloc (.cells #[.slice S n cs, .slice P m cp] 66) = W1 := ⟨_, rfl⟩
  obtain ⟨W2, h2⟩ : ∃ W2, W1.alloc (.cells #[.int .i64 sc] 3) = W2 := ⟨_, rfl⟩
  obtain ⟨W3, h3⟩ : ∃ W3, W2.alloc (.cells #[.slice A k c] 26) = W3 := ⟨_, rfl⟩
  rw [h1, h2, h3]
  have s1 : W1.heap.size = W.heap.size + 1 := by rw [← h1]; simp
  have s2 : W2.heap.size = W.heap.size + 2 := by rw [← h2, World.size_alloc, s1]
  have b1 : Below W.heap.size W W1 := by rw [← h1]; exact (Below.refl _ _).alloc (Nat.le_refl _) _
  have b2 : Below W1.heap.size W1 W2 := by rw [← h2]; exact (Below.refl _ _).alloc (Nat.le_refl _) _
  have b3 : Below W2.heap.size W2 W3 := by rw [← h3]; exact (Below.refl _ _).alloc (Nat.le_refl _) _
  have e1 : W1.heap[W.heap.size]? = some (.cells #[.slice S n cs, .slice P m cp] 66 (0, 0)) := by rw [← h1]; exact heap_alloc_new W _
  have e2 : W2.heap[W.heap.size + 1]? = some (.cells #[.int .i64 sc] 3 (0, 0)) := by rw [← h2, ← s1]; exact heap_alloc_new W1 _
  have e3 : W3.heap[W.heap.size + 2]? = some (.cells #[.slice A k c] 26 (0, 0)) := by rw [← h3, ← s2]; exact heap_alloc_new W2 _
  refine ⟨rfl, (b1.trans (b2.mono (by omega))).trans (b3.mono (by omega)), ?_, ?_, ?_, by rw [← h3, World.size_alloc, s2]⟩
  · exact (b3.block _ (by omega)).trans ((b2.block _ (by omega)).trans e1)
  · exact block_cell ((b3.block _ (by omega)).trans e2) (j := 0) (by simp)
  · exact block_cell e3 (j := 0) (by simp)
end Go.Proofs.YtjnpchoinncbnaaGreat
end
