/- Proves parts of the statement, each under the conditions that its theorem states: The reference's joined: one pair is joined; The reference's joined: a pair's round; The reference's joined: the contract; The reference's Length: both scenes. -/
import Derived.Test.YtjnpchoinncbnaaGreatP30
import Derived.Test.YtjnpchoinncbnaaGreatP13
set_option linter.unusedSimpArgs false
set_option linter.unusedVariables false
set_option maxHeartbeats 4000000
set_option maxRecDepth 100000
section
namespace Go.Proofs.YtjnpchoinncbnaaGreat
open Go.RowKit Sw Fam
def LoopJ (W0 : World) (b o c n : Nat) (u : List Int) (x y : Int) (v1 v2 v7 : Value) (a : Act) (w : World) : Prop :=
  ∃ (k : Nat) (zs : List Int), k ≤ n ∧ Tch [b] W0 w ∧ DatM w b o c zs ∧ zs.length = n ∧ (∀ j, j < n → gi zs j = jnk u x y k j) ∧
    Fr 68 [(1, v1), (2, v2), (5, .slice (some ⟨b, o, none⟩) n c), (7, v7), (9, .int .i64 x), (10, .int .i64 y), (11, .int .i64 k)] a
theorem jn_round {W0 : World} {b o c n : Nat} {u : List Int} {x y : Int} {v1 v2 v7 : Value} (hu : u.length = n) (hn : n ≤ 60) {Q : Exit → Act → World → Prop}
    (hQ : ∀ a w, Tch [b] W0 w → DatM w b o c (jn u x y) → Fr 68 [(1, v1), (2, v2), (5, .slice (some ⟨b, o, none⟩) n c), (7, v7)] a → Q (.exit 4) a w) {a : Act} {w : World} (hI : LoopJ W0 b o c n u x y v1 v2 v7 a w) :
    Code.wp Tryz.prog (Tryz.f58.sub [1, 1, 1, 0, 1, 0, 0, 1, 0, 0, 1, 1, 1, 0, 0]) (Exit.then (fun a' w' => LoopJ W0 b o c n u x y v1 v2 v7 a' w' ∧ n - (intOf (a'.tmps.getD 11 undef)).toNat < n - (intOf (a.tmps.getD 11 undef)).toNat) Q) a w := by
  obtain ⟨k, zs, hk, hT, hZ, hl, hall, hfr⟩ := hI
  obtain ⟨v, rfl⟩ := hfr.open
  clear hfr
  generalize hmu : n - (intOf ((⟨frL 68 _ v, []⟩ : Act).tmps.getD 11 undef)).toNat = mu
  have hmu' : n - k = mu := by rw [← hmu]; rfl
  clear hmu
  have HQ := Lib.hid hQ; clear hQ
  have K := Lib.hid (And.intro hT (And.intro hZ (And.intro hl (And.intro hall hu))))
  show Code.wp Tryz.prog (Tryz.f58.sub [1, 1, 1, 0, 1, 0, 0, 1, 0, 0, 1, 1, 1, 0, 0]) _ ⟨#[(v 0), v1, v2, (v 3), (v 4), .slice (some ⟨b, o, none⟩) n c, (v 6), v7, (v 8), .int .i64 x, .int .i64 y, .int .i64 k, (v 12), (v 13), (v 14), (v 15), (v 16), (v 17), (v 18), (v 19), (v 20), (v 21), (v 22), (v 23), (v 24), (v 25), (v 26), (v 27), (v 28), (v 29), (v 30), (v 31), (v 32), (v 33), (v 34), (v 35), (v 36), (v 37), (v 38), (v 39), (v 40), (v 41), (v 42), (v 43), (v 44), (v 45), (v 46), (v 47), (v 48), (v 49), (v 50), (v 51), (v 52), (v 53), (v 54), (v 55), (v 56), (v 57), (v 58), (v 59), (v 60), (v 61), (v 62), (v 63), (v 64), (v 65), (v 66), (v 67)], []⟩ _
  by_cases hlt' : k < n
  · have kl : (k : Int) < n := by omega
    have ck := hZ.cell (j := k) (by omega)
    have fk := hZ.free (o + k)
    have hzk : gi zs k = gi u k := by rw [hall k hlt']; unfold jnk; rw [if_neg (by omega)]
    have hjk : gi (jn u x y) k = if gi u k = max x y then min x y else gi u k := by rw [← jn_max]; exact gi_map (f := fun z => if z = max x y then min x y else z) (by rw [hu]; exact hlt')
    rw [hzk] at ck
    clear hT hZ hl hall hzk hu
    have fin : ∀ z, gi (jn u x y) k = z → ∀ j, j < n → gi (zs.set k z) j = jnk u x y (k + 1) j := fun z hz j hj => by
      rw [gi_set _ _ _ _ (by rw [K.out.2.2.1]; exact hlt')]
      by_cases e : k = j
      · subst e; rw [if_pos rfl]; unfold jnk; rw [if_pos (by omega), hz]
      · rw [if_neg e, K.out.2.2.2.1 j hj]
        unfold jnk
        by_cases e2 : j < k
        · rw [if_pos e2, if_pos (by omega)]
        · rw [if_neg e2, if_neg (by omega)]
    have fin2 : gi (jn u x y) k = gi u k → ∀ j, j < n → gi zs j = jnk u x y (k + 1) j := fun hz j hj => by
      rw [K.out.2.2.2.1 j hj]
      unfold jnk
      by_cases e2 : j < k
      · rw [if_pos e2, if_pos (by omega)]
      · rw [if_neg e2]
        by_cases e3 : j = k
        · subst e3; rw [if_pos (by omega), hz]
        · rw [if_neg (by omega)]
    have F1 := Lib.hid (And.intro fin fin2); clear fin fin2
    have HJ := Lib.hid hjk; clear hjk
    generalize gi u k = z at *
    by_cases e1 : z = max x y
    · have d1 : (z == max x y) = true := by simpa using e1
      have E := Lib.hid (HJ.out.trans (if_pos e1)); clear e1
      conv => arg 2; whnf
      dsimp only
      go_wp2_with fail
      refine ⟨⟨k + 1, zs.set k (min x y), by omega, K.out.1.set (.inl (by simp)) _, K.out.2.1.set (by rw [K.out.2.2.1]; exact hlt') _, by rw [List.length_set]; exact K.out.2.2.1, F1.out.1 _ E.out, by (refine ⟨rfl, rfl, ?_⟩; repeat (first | exact trivial | refine ⟨rfl, ?_⟩))⟩, ?_⟩
      show n - ((k : Int) + 1).toNat < mu
      omega
    · have d1 : (z == max x y) = false := by simpa using e1
      have E := Lib.hid (HJ.out.trans (if_neg e1)); clear e1
      conv => arg 2; whnf
      dsimp only
      go_wp2_with fail
      refine ⟨⟨k + 1, zs, by omega, K.out.1, K.out.2.1, K.out.2.2.1, F1.out.2 E.out, by (refine ⟨rfl, rfl, ?_⟩; repeat (first | exact trivial | refine ⟨rfl, ?_⟩))⟩, ?_⟩
      show n - ((k : Int) + 1).toNat < mu
      omega
  · obtain rfl : k = n := by omega
    clear hT hZ hl hall hu
    conv => arg 2; whnf
    dsimp only
    go_wp2_with fail
    refine HQ.out _ _ K.out.1 ?_ (by (refine ⟨rfl, rfl, ?_⟩; repeat (first | exact trivial | refine ⟨rfl, ?_⟩)))
    have : zs = jn u x y := ext_gi (by rw [K.out.2.2.1]; simp [jn, K.out.2.2.2.2]) fun j hj => by
      rw [K.out.2.2.1] at hj
      rw [K.out.2.2.2.1 j hj]; unfold jnk; rw [if_pos hj]
    rw [← this]; exact K.out.2.1
def LoopK (W1 : World) (t : Sk) (l : SkL) (xs : List Int) (A : Option Addr) (ca G b o c : Nat) (a : Act) (w : World) : Prop :=
  ∃ (k : Nat) (u : List Int), k ≤ xs.length ∧ Tch [b] W1 w ∧ DatM w b o c u ∧ Lab t.sc.length (prs t) ((xs.take k).map Int.toNat) u ∧
    Fr 68 [(1, .slice A xs.length ca), (2, .pointer (some ⟨G, 0, none⟩)), (5, .slice (some ⟨b, o, none⟩) t.sc.length c), (7, .int .i64 k)] a
theorem jn_outer {W1 : World} {t : Sk} {l : SkL} {xs : List Int} {A : Option Addr} {ca G b o c : Nat} (ho : NetOk t) (hP : RdQ W1 l.P (prs t)) (hA : RdI W1 A xs) (hG : W1.heap[G]? = some (.cells #[.slice l.S t.sc.length l.cs, .slice l.P t.pr.length l.cp] 25 (0, 0)))
    (hx : ∀ j, j < xs.length → 0 ≤ gi xs j ∧ gi xs j < t.pr.length) (hl : xs.length ≤ 200) (hbA : ∀ q r, 0 < xs.length → A = some ⟨q, r, none⟩ → q ≠ b) (hbP : ∀ q r, 0 < t.pr.length → l.P = some ⟨q, r, none⟩ → q ≠ b) (hbG : G ≠ b) {Q : Exit → Act → World → Prop}
    (hQ : ∀ a w u, Tch [b] W1 w → DatM w b o c u → Lab t.sc.length (prs t) (xs.map Int.toNat) u → Fr 68 [(5, .slice (some ⟨b, o, none⟩) t.sc.length c)] a → Q (.exit 2) a w) {a : Act} {w : World} (hI : LoopK W1 t l xs A ca G b o c a w) :
    Code.wp Tryz.prog (Tryz.f58.sub [1, 1, 1, 0, 1, 0, 0]) (Exit.then (fun a' w' => LoopK W1 t l xs A ca G b o c a' w' ∧ xs.length - (intOf (a'.tmps.getD 7 undef)).toNat < xs.length - (intOf (a.tmps.getD 7 undef)).toNat) Q) a w := by
  obtain ⟨k, u, hk, hT, hD, hL, hfr⟩ := hI
  obtain ⟨v, rfl⟩ := hfr.open
  clear hfr
  generalize hmu : xs.length - (intOf ((⟨frL 68 _ v, []⟩ : Act).tmps.getD 7 undef)).toNat = mu
  have hmu' : xs.length - k = mu := by rw [← hmu]; rfl
  clear hmu
  have HQ := Lib.hid hQ; clear hQ
  have h60 := ho.n_le
  have h200 := ho.m_le
  have hul := hL.len
  have HO := Lib.hid (And.intro ho (And.intro hP (And.intro hA (And.intro hG (And.intro hx (And.intro hbA hbP)))))); clear ho hP hA hG hx hbA hbP
  have K := Lib.hid (And.intro hT (And.intro hD hL)); clear hT hD hL
  show Code.wp Tryz.prog (.seq (.seq (Tryz.f58.sub [1, 1, 1, 0, 1, 0, 0, 0, 0]) (Tryz.f58.sub [1, 1, 1, 0, 1, 0, 0, 0, 1])) (.seq (.block 3 (.seq (Tryz.f58.sub [1, 1, 1, 0, 1, 0, 0, 1, 0, 0, 0]) (.seq (Tryz.f58.sub [1, 1, 1, 0, 1, 0, 0, 1, 0, 0, 1, 0]) (.seq (Tryz.f58.sub [1, 1, 1, 0, 1, 0, 0, 1, 0, 0, 1, 1, 0]) (.block 4 (.loop (Tryz.f58.sub [1, 1, 1, 0, 1, 0, 0, 1, 0, 0, 1, 1, 1, 0, 0]))))))) (Tryz.f58.sub [1, 1, 1, 0, 1, 0, 0, 1, 1]))) _
    ⟨#[(v 0), .slice A xs.length ca, .pointer (some ⟨G, 0, none⟩), (v 3), (v 4), .slice (some ⟨b, o, none⟩) t.sc.length c, (v 6), .int .i64 k, (v 8), (v 9), (v 10), (v 11), (v 12), (v 13), (v 14), (v 15), (v 16), (v 17), (v 18), (v 19), (v 20), (v 21), (v 22), (v 23), (v 24), (v 25), (v 26), (v 27), (v 28), (v 29), (v 30), (v 31), (v 32), (v 33), (v 34), (v 35), (v 36), (v 37), (v 38), (v 39), (v 40), (v 41), (v 42), (v 43), (v 44), (v 45), (v 46), (v 47), (v 48), (v 49), (v 50), (v 51), (v 52), (v 53), (v 54), (v 55), (v 56), (v 57), (v 58), (v 59), (v 60), (v 61), (v 62), (v 63), (v 64), (v 65), (v 66), (v 67)], []⟩ _
  refine wp_seq ?_
  refine wp_seq ?_
  conv => arg 2; whnf
  dsimp only
  by_cases hlt : k < xs.length
  · have hklt : (k : Int) < xs.length := by omega
    go_wp2_with fail
    conv => arg 2; whnf
    go_wp2_with fail
    obtain ⟨ab, ao, hAe, hac⟩ := HO.out.2.2.1 k hlt
    have hab := HO.out.2.2.2.2.2.1 ab ao (by omega) hAe
    obtain ⟨x0, x1⟩ := HO.out.2.2.2.2.1 k hlt
    obtain ⟨i, hi⟩ : ∃ i : Nat, gi xs k = (i : Int) := ⟨(gi xs k).toNat, by omega⟩
    have him : i < t.pr.length := by omega
    obtain ⟨pb, po, hPe, p0, p1⟩ := HO.out.2.1 i (by rw [prs_len]; exact him)
    have hpb := HO.out.2.2.2.2.2.2 pb po (by omega) hPe
    have hGw := (K.out.1.block _ (Array.getElem?_eq_some_iff.1 HO.out.2.2.2.1).1 (by simpa using hbG)).trans HO.out.2.2.2.1
    rw [hPe] at hGw
    rw [hi] at hac
    obtain ⟨q1, q2, q3⟩ := prs_lt HO.out.1 him
    rw [hAe]
    refine jn_pair (v5 := .slice (some ⟨b, o, none⟩) t.sc.length c) (block_cell hGw (j := 1) (by simp)) (K.out.1.cell (by simpa using hab) hac) hlt hl him h200 (K.out.1.cell (by simpa using hpb) p0) (K.out.1.cell (by simpa using hpb) p1) ?_
    intro a' w' xb hB1 hxb hxc hfr
    rename_i K6 hK6
    obtain ⟨v', rfl⟩ := hfr.open
    clear hfr
    refine hK6 _ _ ?_
    clear hK6
    have xc0 : w'.cell? ⟨xb, 0, none⟩ = some (.int .i64 (gq (prs t) i).f) := block_cell hxc (j := 0) (by simp)
    have xc1 : w'.cell? ⟨xb, 1, none⟩ = some (.int .i64 (gq (prs t) i).s) := block_cell hxc (j := 1) (by simp)
    have hD2 : DatM w' b o c u := K.out.2.1.keep hB1
    have uc0 := hD2.cell (j := (gq (prs t) i).f) (by rw [hul]; exact q1)
    have uc1 := hD2.cell (j := (gq (prs t) i).s) (by rw [hul]; exact q2)
    have htk : (xs.take (k + 1)).map Int.toNat = (xs.take k).map Int.toNat ++ [i] := by rw [take_snoc_i hlt, List.map_append, hi]; simp
    have hT2 : Tch [b] W1 w' := K.out.1.trans (Tch.of_below hB1)
    obtain ⟨f, hf⟩ : ∃ f, (gq (prs t) i).f = f := ⟨_, rfl⟩
    obtain ⟨s, hs⟩ : ∃ s, (gq (prs t) i).s = s := ⟨_, rfl⟩
    rw [hf] at xc0 uc0 q1
    rw [hs] at xc1 uc1 q2
    obtain ⟨x, hx⟩ : ∃ x, gi u f = x := ⟨_, rfl⟩
    obtain ⟨y, hy⟩ : ∃ y, gi u s = y := ⟨_, rfl⟩
    rw [hx] at uc0
    rw [hy] at uc1
    have hfl : (f : Int) < t.sc.length := by omega
    have hsl : (s : Int) < t.sc.length := by omega
    have H2 := Lib.hid (And.intro hD2 (And.intro htk (And.intro hT2 (And.intro hf (And.intro hs (And.intro hx (And.intro hy hAe)))))))
    clear hD2 htk hT2 hf hs hx hy hxc hGw hac p0 p1 q3 hi x0 x1 hab hpb hAe hPe him
    show Code.wp Tryz.prog (.seq (Tryz.f58.sub [1, 1, 1, 0, 1, 0, 0, 1, 0, 0, 1, 0]) (.seq (Tryz.f58.sub [1, 1, 1, 0, 1, 0, 0, 1, 0, 0, 1, 1, 0]) (.block 4 (.loop (Tryz.f58.sub [1, 1, 1, 0, 1, 0, 0, 1, 0, 0, 1, 1, 1, 0, 0]))))) _ ⟨#[(v' 0), .slice (some ⟨ab, ao, none⟩) xs.length ca, .pointer (some ⟨G, 0, none⟩), (v' 3), (v' 4), .slice (some ⟨b, o, none⟩) t.sc.length c, (v' 6), .int .i64 k, .pointer (some ⟨xb, 0, none⟩), (v' 9), (v' 10), (v' 11), (v' 12), (v' 13), (v' 14), (v' 15), (v' 16), (v' 17), (v' 18), (v' 19), (v' 20), (v' 21), (v' 22), (v' 23), (v' 24), (v' 25), (v' 26), (v' 27), (v' 28), (v' 29), (v' 30), (v' 31), (v' 32), (v' 33), (v' 34), (v' 35), (v' 36), (v' 37), (v' 38), (v' 39), (v' 40), (v' 41), (v' 42), (v' 43), (v' 44), (v' 45), (v' 46), (v' 47), (v' 48), (v' 49), (v' 50), (v' 51), (v' 52), (v' 53), (v' 54), (v' 55), (v' 56), (v' 57), (v' 58), (v' 59), (v' 60), (v' 61), (v' 62), (v' 63), (v' 64), (v' 65), (v' 66), (v' 67)], []⟩ _
    refine wp_seq ?_
    conv => arg 2; whnf
    dsimp only
    go_quiet (fail)
    rename_i K7 hK7
    refine nameQ ?_
    intro w3 hw3
    have hT3 : Tch [b] W1 w3 := by rw [hw3]; exact H2.out.2.2.1.drewN nq
    have hD3 : DatM w3 b o c u := by rw [hw3]; exact DatM.drewN H2.out.1 nq
    have H3 := Lib.hid (And.intro hT3 hD3); clear hT3 hD3 hw3 xc0 xc1 uc0 uc1 hB1 hxb
    dsimp only [Exit.then]
    refine wp_seq ?_
    conv => arg 2; whnf
    go_wp2_with fail
    refine wp_loop (LoopJ w3 b o c t.sc.length u x y (.slice (some ⟨ab, ao, none⟩) xs.length ca) (.pointer (some ⟨G, 0, none⟩)) (.int .i64 k)) (fun a _ => t.sc.length - (intOf (a.tmps.getD 11 undef)).toNat) ⟨0, u, Nat.zero_le _, Tch.refl _ _, H3.out.2, hul, fun j hj => by unfold jnk; rw [if_neg (Nat.not_lt_zero _)], by (refine ⟨rfl, rfl, ?_⟩; repeat (first | exact trivial | refine ⟨rfl, ?_⟩))⟩ ?_
    intro a4 w4 hI4
    refine jn_round hul h60 ?_ hI4
    intro a5 w5 hT5 hD5 hfr5
    obtain ⟨v5, rfl⟩ := hfr5.open
    clear hfr5 hI4
    refine hK7 _ _ ?_
    clear hK7
    have H5 := Lib.hid (And.intro hT5 hD5); clear hT5 hD5
    show Code.wp Tryz.prog (Tryz.f58.sub [1, 1, 1, 0, 1, 0, 0, 1, 1]) _ ⟨#[(v5 0), .slice (some ⟨ab, ao, none⟩) xs.length ca, .pointer (some ⟨G, 0, none⟩), (v5 3), (v5 4), .slice (some ⟨b, o, none⟩) t.sc.length c, (v5 6), .int .i64 k, (v5 8), (v5 9), (v5 10), (v5 11), (v5 12), (v5 13), (v5 14), (v5 15), (v5 16), (v5 17), (v5 18), (v5 19), (v5 20), (v5 21), (v5 22), (v5 23), (v5 24), (v5 25), (v5 26), (v5 27), (v5 28), (v5 29), (v5 30), (v5 31), (v5 32), (v5 33), (v5 34), (v5 35), (v5 36), (v5 37), (v5 38), (v5 39), (v5 40), (v5 41), (v5 42), (v5 43), (v5 44), (v5 45), (v5 46), (v5 47), (v5 48), (v5 49), (v5 50), (v5 51), (v5 52), (v5 53), (v5 54), (v5 55), (v5 56), (v5 57), (v5 58), (v5 59), (v5 60), (v5 61), (v5 62), (v5 63), (v5 64), (v5 65), (v5 66), (v5 67)], []⟩ _
    conv => arg 2; whnf
    dsimp only
    go_wp2_with fail
    refine ⟨⟨k + 1, jn u x y, by omega, H3.out.1.trans H5.out.1, H5.out.2, ?_, ?_⟩, ?_⟩
    · rw [H2.out.2.1]
      have := K.out.2.2.join (i := i) (by rw [H2.out.2.2.2.1]; exact q1) (by rw [H2.out.2.2.2.2.1]; exact q2)
      rw [H2.out.2.2.2.1, H2.out.2.2.2.2.1, H2.out.2.2.2.2.2.1, H2.out.2.2.2.2.2.2.1] at this
      exact this
    · refine ⟨rfl, rfl, ?_, rfl, rfl, ?_, trivial⟩
      · first | rfl | (rw [H2.out.2.2.2.2.2.2.2]; rfl)
      · show Value.int .i64 ((k : Int) + 1) = _; go_num
    · show xs.length - ((k : Int) + 1).toNat < mu
      omega
  · obtain rfl : k = xs.length := by omega
    go_wp2_with fail
    conv => arg 2; whnf
    go_wp2_with fail
    refine HQ.out _ _ u K.out.1 K.out.2.1 ?_ (by (refine ⟨rfl, rfl, ?_⟩; repeat (first | exact trivial | refine ⟨rfl, ?_⟩)))
    have := K.out.2.2
    rwa [List.take_of_length_le (Nat.le_refl _)] at this
def LoopI (W1 : World) (n m cp cs G : Nat) (S P : Option Addr) (v1 : Value) (a : Act) (w : World) : Prop :=
  ∃ (k : Nat) (A : Option Addr) (c : Nat), k ≤ n ∧ Below W1.heap.size W1 w ∧ GrI w W1.heap.size A c (rng k) ∧ Fr 68 [(1, v1), (2, .pointer (some ⟨G, 0, none⟩)), (5, .slice A k c), (6, .int .i64 k)] a
theorem jn_first {W1 : World} {n m cp cs G : Nat} {S P : Option Addr} {v1 : Value} (hn : n ≤ 60) (hG : W1.heap[G]? = some (.cells #[.slice S n cs, .slice P m cp] 25 (0, 0))) {Q : Exit → Act → World → Prop}
    (hQ : ∀ a w A c, Below W1.heap.size W1 w → GrI w W1.heap.size A c (rng n) → Fr 68 [(1, v1), (2, .pointer (some ⟨G, 0, none⟩)), (5, .slice A n c)] a → Q (.exit 0) a w) {a : Act} {w : World} (hI : LoopI W1 n m cp cs G S P v1 a w) :
    Code.wp Tryz.prog (Tryz.f58.sub [1, 1, 0, 1, 0, 0]) (Exit.then (fun a' w' => LoopI W1 n m cp cs G S P v1 a' w' ∧ n - (intOf (a'.tmps.getD 6 undef)).toNat < n - (intOf (a.tmps.getD 6 undef)).toNat) Q) a w := by
  obtain ⟨k, A, c, hk, hB, hGr, hfr⟩ := hI
  obtain ⟨v, rfl⟩ := hfr.open
  clear hfr
  generalize hmu : n - (intOf ((⟨frL 68 _ v, []⟩ : Act).tmps.getD 6 undef)).toNat = mu
  have hmu' : n - k = mu := by rw [← hmu]; rfl
  clear hmu
  have HQ := Lib.hid hQ; clear hQ
  have g0 : w.cell? ⟨G, 0, none⟩ = some (.slice S n cs) := block_cell ((hB.block _ (Array.getElem?_eq_some_iff.1 hG).1).trans hG) (j := 0) (by simp)
  have hsz := hB.size
  have H := Lib.hid (And.intro hB hGr); clear hB hGr hG
  show Code.wp Tryz.prog (Tryz.f58.sub [1, 1, 0, 1, 0, 0]) _ ⟨#[(v 0), v1, .pointer (some ⟨G, 0, none⟩), (v 3), (v 4), .slice A k c, .int .i64 k, (v 7), (v 8), (v 9), (v 10), (v 11), (v 12), (v 13), (v 14), (v 15), (v 16), (v 17), (v 18), (v 19), (v 20), (v 21), (v 22), (v 23), (v 24), (v 25), (v 26), (v 27), (v 28), (v 29), (v 30), (v 31), (v 32), (v 33), (v 34), (v 35), (v 36), (v 37), (v 38), (v 39), (v 40), (v 41), (v 42), (v 43), (v 44), (v 45), (v 46), (v 47), (v 48), (v 49), (v 50), (v 51), (v 52), (v 53), (v 54), (v 55), (v 56), (v 57), (v 58), (v 59), (v 60), (v 61), (v 62), (v 63), (v 64), (v 65), (v 66), (v 67)], []⟩ _
  conv => arg 2; whnf
  dsimp only
  by_cases hlt : k < n
  · have hklt : (k : Int) < n := by omega
    have HL := Lib.hid (rng_len k)
    go_wp2_with (at_builtin; refine wpList_append_t Tryz.underlying26 rfl _ _ rfl (GrF.keep H.out.2 ((Below.refl _ _).alloc (Nat.le_refl _) (.cells #[.int .i64 (k : Int)] 3))) (k : Int) _ _ (by rw [HL.out]; rfl) rfl (block_cell (World.alloc_heap_new w _) (j := 0) (by simp)) (by rw [HL.out]; omega) (by simp; omega) ?_)
    intro A' c' w' g1 g2
    have hb0 : Below W1.heap.size W1 (w.alloc (.cells #[.int .i64 (k : Int)] 3)) := H.out.1.trans ((Below.refl _ _).alloc hsz _)
    have g3 := grown_below hb0 (Nat.le_refl _) (GrF.keep H.out.2 ((Below.refl _ _).alloc (Nat.le_refl _) (.cells #[.int .i64 (k : Int)] 3))) g2
    rw [HL.out]
    have J := Lib.hid (And.intro g1 g3); clear g1 g2 g3 hb0
    go_wp2_with fail
    refine ⟨⟨k + 1, A', c', by omega, J.out.2, by rw [rng_succ]; exact J.out.1, by (refine ⟨rfl, rfl, ?_⟩; repeat (first | exact trivial | refine ⟨rfl, ?_⟩))⟩, ?_⟩
    show n - ((k : Int) + 1).toNat < mu
    omega
  · obtain rfl : k = n := by omega
    go_wp2_with fail
    exact HQ.out _ _ A c H.out.1 H.out.2 (by (refine ⟨rfl, rfl, ?_⟩; repeat (first | exact trivial | refine ⟨rfl, ?_⟩)))
def JndPost (t : Sk) (xs : List Int) (w : World) (e : Ending) (w' : World) : Prop := ∃ b o c u, e = .returned (.slice (some ⟨b, o, none⟩) t.sc.length c) ∧ Below w.heap.size w w' ∧ w.heap.size ≤ b ∧ DatM w' b o c u ∧ Lab t.sc.length (prs t) (xs.map Int.toNat) u
theorem joined_c {t : Sk} {l : SkL} {w : World} {xs : List Int} {A : Option Addr} {ca : Nat} (hM : NetM w t l) (ho : NetOk t) (hn : 0 < t.sc.length) (hA : RdI w A xs) (hx : ∀ j, j < xs.length → 0 ≤ gi xs j ∧ gi xs j < t.pr.length) (hl : xs.length ≤ 200) :
    Calls Tryz.prog 58 #[NetV t l, .slice A xs.length ca] w (JndPost t xs w) := by
  have h60 := ho.n_le
  have HM := Lib.hid (And.intro hM (And.intro ho (And.intro hA hx))); clear hM ho hA hx
  unfold NetV
  go_enter Tryz.func58, Tryz.ntmps58
  show Code.wp Tryz.prog (.seq (Tryz.f58.sub [0]) (.seq (Tryz.f58.sub [1, 0]) (.seq (.seq (Tryz.f58.sub [1, 1, 0, 0]) (.block 0 (.loop (Tryz.f58.sub [1, 1, 0, 1, 0, 0])))) (.seq (.seq (Tryz.f58.sub [1, 1, 1, 0, 0]) (.block 2 (.loop (Tryz.f58.sub [1, 1, 1, 0, 1, 0, 0])))) (Tryz.f58.sub [1, 1, 1, 1]))))) _ _ _
  refine wp_seq ?_
  conv => arg 2; whnf
  go_wp2_with fail
  refine nameC ?_
  intro W1 hW1
  obtain ⟨hB1, e1⟩ := alloc1 w _ hW1
  clear hW1
  obtain ⟨G, hG⟩ : ∃ G, w.heap.size = G := ⟨_, rfl⟩
  rw [hG] at e1
  rw [hG]
  have HB := Lib.hid (And.intro hB1 (And.intro e1 hG)); clear hB1 e1 hG
  conv => arg 2; whnf
  go_wp2_with fail
  conv => arg 2; whnf
  go_wp2_with fail
  refine wp_loop (LoopI W1 t.sc.length t.pr.length l.cp l.cs G l.S l.P (.slice A xs.length ca)) (fun a _ => t.sc.length - (intOf (a.tmps.getD 6 undef)).toNat) ⟨0, none, 0, Nat.zero_le _, Below.refl _ _, GrF.start W1 _, by (refine ⟨rfl, rfl, ?_⟩; repeat (first | exact trivial | refine ⟨rfl, ?_⟩))⟩ ?_
  intro a2 w2 hI2
  refine jn_first h60 HB.out.2.1 ?_ hI2
  intro a3 w3 D cd hB3 hG3 hfr
  rename_i K5 hK5
  obtain ⟨b, o, hDe, hbB, hcc⟩ := GrI.cell hG3 (j := 0) (by rw [rng_len]; exact hn)
  clear hcc
  subst hDe
  have hD3 : DatM w3 b o cd (rng t.sc.length) := GrF.low hG3 (Nat.zero_le _)
  obtain ⟨v, rfl⟩ := hfr.open
  clear hfr hI2
  refine hK5 _ _ ?_
  clear hK5
  have hz1 := HB.out.1.size
  have hGw := HB.out.2.2
  have hB03 : Below w.heap.size w w3 := HB.out.1.trans (hB3.mono hz1)
  have hG3 := (hB3.block _ (Array.getElem?_eq_some_iff.1 HB.out.2.1).1).trans HB.out.2.1
  have hGl : G < W1.heap.size := (Array.getElem?_eq_some_iff.1 HB.out.2.1).1
  have H3 := Lib.hid (And.intro hB03 (And.intro hG3 hD3)); clear hB03 hG3 hD3 hB3
  show Code.wp Tryz.prog (.seq (.seq (Tryz.f58.sub [1, 1, 1, 0, 0]) (.block 2 (.loop (Tryz.f58.sub [1, 1, 1, 0, 1, 0, 0])))) (Tryz.f58.sub [1, 1, 1, 1])) _ ⟨#[(v 0), .slice A xs.length ca, .pointer (some ⟨G, 0, none⟩), (v 3), (v 4), .slice (some ⟨b, o, none⟩) t.sc.length cd, (v 6), (v 7), (v 8), (v 9), (v 10), (v 11), (v 12), (v 13), (v 14), (v 15), (v 16), (v 17), (v 18), (v 19), (v 20), (v 21), (v 22), (v 23), (v 24), (v 25), (v 26), (v 27), (v 28), (v 29), (v 30), (v 31), (v 32), (v 33), (v 34), (v 35), (v 36), (v 37), (v 38), (v 39), (v 40), (v 41), (v 42), (v 43), (v 44), (v 45), (v 46), (v 47), (v 48), (v 49), (v 50), (v 51), (v 52), (v 53), (v 54), (v 55), (v 56), (v 57), (v 58), (v 59), (v 60), (v 61), (v 62), (v 63), (v 64), (v 65), (v 66), (v 67)], []⟩ _
  refine wp_seq ?_
  refine wp_seq ?_
  conv => arg 2; whnf
  dsimp only
  go_wp2_with fail
  refine wp_loop (LoopK w3 t l xs A ca G b o cd) (fun a _ => xs.length - (intOf (a.tmps.getD 7 undef)).toNat) ⟨0, _, Nat.zero_le _, Tch.refl _ _, H3.out.2.2, Lab.start _ _, by (refine ⟨rfl, rfl, ?_⟩; repeat (first | exact trivial | refine ⟨rfl, ?_⟩))⟩ ?_
  intro a4 w4 hI4
  refine jn_outer HM.out.2.1 ((HM.out.1.rdq HM.out.2.1).keep H3.out.1) (HM.out.2.2.1.keep H3.out.1) H3.out.2.1 HM.out.2.2.2 hl ?_ ?_ (by omega) ?_ hI4
  · intro q r hp hAe
    obtain ⟨q', r', h1, h2⟩ := HM.out.2.2.1 0 hp
    rw [hAe] at h1
    have hbl : q' < w.heap.size := World.block_lt_of_cell? _ _ h2
    injection h1 with h1; injection h1 with h1
    omega
  · intro q r hp hPe
    obtain ⟨q', r', h1, h2, _⟩ := (HM.out.1.rdq HM.out.2.1) 0 (by rw [prs_len]; exact hp)
    rw [hPe] at h1
    have hbl : q' < w.heap.size := World.block_lt_of_cell? _ _ h2
    injection h1 with h1; injection h1 with h1
    omega
  intro a5 w5 u hT5 hD5 hL5 hfr5
  obtain ⟨v5, rfl⟩ := hfr5.open
  clear hfr5 hI4
  have H5 := Lib.hid (And.intro hT5 (And.intro hD5 hL5)); clear hT5 hD5 hL5
  show Code.wp Tryz.prog (Tryz.f58.sub [1, 1, 1, 1]) _ ⟨#[(v5 0), (v5 1), (v5 2), (v5 3), (v5 4), .slice (some ⟨b, o, none⟩) t.sc.length cd, (v5 6), (v5 7), (v5 8), (v5 9), (v5 10), (v5 11), (v5 12), (v5 13), (v5 14), (v5 15), (v5 16), (v5 17), (v5 18), (v5 19), (v5 20), (v5 21), (v5 22), (v5 23), (v5 24), (v5 25), (v5 26), (v5 27), (v5 28), (v5 29), (v5 30), (v5 31), (v5 32), (v5 33), (v5 34), (v5 35), (v5 36), (v5 37), (v5 38), (v5 39), (v5 40), (v5 41), (v5 42), (v5 43), (v5 44), (v5 45), (v5 46), (v5 47), (v5 48), (v5 49), (v5 50), (v5 51), (v5 52), (v5 53), (v5 54), (v5 55), (v5 56), (v5 57), (v5 58), (v5 59), (v5 60), (v5 61), (v5 62), (v5 63), (v5 64), (v5 65), (v5 66), (v5 67)], []⟩ _
  conv => arg 2; whnf
  dsimp only
  go_wp2_with fail
  go_ret
  exact ⟨b, o, cd, u, rfl, H5.out.1.below H3.out.1 (Nat.le_refl _) (fun q hq => by simp at hq; omega), by omega, H5.out.2.1, H5.out.2.2⟩
abbrev zSc : Array Value := #[.string ⟨#[]⟩, .int .i64 0, .int .i64 0]
structure LnC (W : World) (x y : Array Value) (L : Nat → Bool) (V : Nat → Value) (w : World) : Prop where
  bel : Below W.heap.size W w
  a : L 20 = true → ∃ b, V 20 = .pointer (some ⟨b, 0, none⟩) ∧ W.heap.size ≤ b ∧ w.heap[b]? = some (.cells (if L 22 = true then x else zSc) 84 (0, 0))
  b : L 21 = true → ∃ b, V 21 = .pointer (some ⟨b, 0, none⟩) ∧ W.heap.size ≤ b ∧ w.heap[b]? = some (.cells (if L 23 = true then y else zSc) 84 (0, 0))
  ne : L 20 = true → L 21 = true → V 20 ≠ V 21
section
variable {W w w' : World} {x y : Array Value} {L : Nat → Bool} {V : Nat → Value}
theorem LnC.up {i : Nat} (h20 : i ≠ 20) (h21 : i ≠ 21) (h22 : i ≠ 22) (h23 : i ≠ 23) (h : LnC W x y L V w) : LnC W x y (upd L i) V w := by
  obtain ⟨a, b, c, d⟩ := h
  constructor
  · exact a
  · rw [upd_ne _ h20.symm, upd_ne _ h22.symm]; exact b
  · rw [upd_ne _ h21.symm, upd_ne _ h23.symm]; exact c
  · rw [upd_ne _ h20.symm, upd_ne _ h21.symm]; exact d
theorem LnC.mk20 (h : LnC W x y L V w) (hL : L 22 = false) : LnC W x y (upd L 20) (setV V 20 (.pointer (some ⟨w.heap.size, 0, none⟩))) (w.alloc (.cells zSc 84)) := by
  have hb : Below w.heap.size w (w.alloc (.cells zSc 84)) := (Below.refl _ _).alloc (Nat.le_refl _) _
  refine ⟨h.bel.trans (hb.mono h.bel.size), fun _ => ⟨w.heap.size, setV_same _ _ _, h.bel.size, ?_⟩, ?_, ?_⟩
  · rw [upd_ne _ (by decide), hL]; exact heap_alloc_new w _
  · rw [upd_ne _ (by decide), upd_ne _ (by decide), setV_ne _ _ (by decide)]
    intro hl
    obtain ⟨b, h1, h2, h3⟩ := h.b hl
    exact ⟨b, h1, h2, (hb.block _ (Array.getElem?_eq_some_iff.1 h3).1).trans h3⟩
  · rw [upd_ne _ (by decide : (21 : Nat) ≠ 20), setV_same, setV_ne _ _ (by decide : (21 : Nat) ≠ 20)]
    intro _ hl e
    obtain ⟨b, h1, h2, h3⟩ := h.b hl
    rw [h1] at e
    injection e with e; injection e with e; injection e with e
    have := (Array.getElem?_eq_some_iff.1 h3).1
    omega
theorem LnC.mk21 (h : LnC W x y L V w) (hL : L 23 = false) : LnC W x y (upd L 21) (setV V 21 (.pointer (some ⟨w.heap.size, 0, none⟩))) (w.alloc (.cells zSc 84)) := by
  have hb : Below w.heap.size w (w.alloc (.cells zSc 84)) := (Below.refl _ _).alloc (Nat.le_refl _) _
  refine ⟨h.bel.trans (hb.mono h.bel.size), ?_, fun _ => ⟨w.heap.size, setV_same _ _ _, h.bel.size, ?_⟩, ?_⟩
  · rw [upd_ne _ (by decide), upd_ne _ (by decide), setV_ne _ _ (by decide)]
    intro hl
    obtain ⟨b, h1, h2, h3⟩ := h.a hl
    exact ⟨b, h1, h2, (hb.block _ (Array.getElem?_eq_some_iff.1 h3).1).trans h3⟩
  · rw [upd_ne _ (by decide), hL]; exact heap_alloc_new w _
  · rw [upd_ne _ (by decide : (20 : Nat) ≠ 21), setV_same, setV_ne _ _ (by decide : (20 : Nat) ≠ 21)]
    intro hl _ e
    obtain ⟨b, h1, h2, h3⟩ := h.a hl
    rw [h1] at e
    injection e with e; injection e with e; injection e with e
    have := (Array.getElem?_eq_some_iff.1 h3).1
    omega
theorem set3 {w : World} {b : Nat} {z : Array Value} {ty : TypeId} {p q r : Value} (hz : w.heap[b]? = some (.cells z ty (0, 0))) (h3 : z.size = 3) : (w.setCells b 0 [p, q, r]).heap[b]? = some (.cells #[p, q, r] ty (0, 0)) := by
  have s1 := heap_setCell_same w b 0 _ _ p hz
  have s2 := heap_setCell_same _ b 1 _ _ q s1
  have s3 := heap_setCell_same _ b 2 _ _ r s2
  refine s3.trans ?_
  match z, h3 with
  | ⟨[a, b, c]⟩, _ => rfl
theorem LnC.st22 {p q r : Value} (h : LnC W #[p, q, r] y L V w) (hL : L 22 = false) (h20 : L 20 = true) (b : Nat) (hb : V 20 = .pointer (some ⟨b, 0, none⟩)) : LnC W #[p, q, r] y (upd L 22) V (w.setCells b 0 [p, q, r]) := by
  obtain ⟨b', e1, e2, e3⟩ := h.a h20
  rw [hb] at e1
  injection e1 with e1; injection e1 with e1; injection e1 with e1
  subst e1
  rw [hL] at e3
  refine ⟨below_setCells e2 _ _ _ h.bel, fun _ => ⟨b, hb, e2, ?_⟩, ?_, ?_⟩
  · rw [if_pos (upd_same L 22)]; exact set3 e3 rfl
  · rw [upd_ne _ (by decide), upd_ne _ (by decide)]
    intro hl
    obtain ⟨c, k1, k2, k3⟩ := h.b hl
    have hne : c ≠ b := fun e => h.ne h20 hl (by rw [hb, k1, e])
    refine ⟨c, k1, k2, ?_⟩
    exact (Below.heap_setCell _ _ _ _ hne).trans ((Below.heap_setCell _ _ _ _ hne).trans ((Below.heap_setCell _ _ _ _ hne).trans k3))
  · rw [upd_ne _ (by decide), upd_ne _ (by decide)]; exact h.ne
theorem LnC.st23 {p q r : Value} (h : LnC W x #[p, q, r] L V w) (hL : L 23 = false) (h21 : L 21 = true) (b : Nat) (hb : V 21 = .pointer (some ⟨b, 0, none⟩)) : LnC W x #[p, q, r] (upd L 23) V (w.setCells b 0 [p, q, r]) := by
  obtain ⟨b', e1, e2, e3⟩ := h.b h21
  rw [hb] at e1
  injection e1 with e1; injection e1 with e1; injection e1 with e1
  subst e1
  rw [hL] at e3
  refine ⟨below_setCells e2 _ _ _ h.bel, ?_, fun _ => ⟨b, hb, e2, ?_⟩, ?_⟩
  · rw [upd_ne _ (by decide), upd_ne _ (by decide)]
    intro hl
    obtain ⟨c, k1, k2, k3⟩ := h.a hl
    have hne : c ≠ b := fun e => h.ne hl h21 (by rw [hb, k1, e])
    refine ⟨c, k1, k2, ?_⟩
    exact (Below.heap_setCell _ _ _ _ hne).trans ((Below.heap_setCell _ _ _ _ hne).trans ((Below.heap_setCell _ _ _ _ hne).trans k3))
  · rw [if_pos (upd_same L 23)]; exact set3 e3 rfl
  · rw [upd_ne _ (by decide), upd_ne _ (by decide)]; exact h.ne
end
end Go.Proofs.YtjnpchoinncbnaaGreat
end
