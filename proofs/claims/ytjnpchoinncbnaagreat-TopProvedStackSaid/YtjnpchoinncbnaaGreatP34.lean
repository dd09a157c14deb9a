/- Proves parts of the statement, each under the conditions that its theorem states: The reference's Sum; The reference's way: a step is looked at; The reference's way: the rounds; The reference's way: the walk back. -/
import Derived.Test.YtjnpchoinncbnaaGreatP33
import Derived.Test.YtjnpchoinncbnaaGreatP23
set_option linter.unusedSimpArgs false
set_option linter.unusedVariables false
set_option maxHeartbeats 4000000
set_option maxRecDepth 100000
section
namespace Go.Proofs.YtjnpchoinncbnaaGreat
open Go.RowKit Sw Fam
def encT (x : St2) : List Value := [.int .i64 x.i, .int .i64 x.sg]
theorem encT_len (x : St2) : (encT x).length = 2 := rfl
def RdT (w : World) (A : Option Addr) (xs : List St2) : Prop := ∀ j, j < xs.length → ∃ b o, A = some ⟨b, o, none⟩ ∧ w.cell? ⟨b, o + j * 2, none⟩ = some (.int .i64 (gst xs j).i) ∧ w.cell? ⟨b, o + j * 2 + 1, none⟩ = some (.int .i64 (gst xs j).sg)
theorem sumP_app (ph : List Int) (l : List St2) (x : St2) : sumP ph (l ++ [x]) = sumP ph l + x.sg * gi ph x.i := by
  induction l with
  | nil => simp [sumP]
  | cons y l ih => simp only [List.cons_append, sumP, ih]; omega
theorem gst_take {l : List St2} {k : Nat} (h : k < l.length) : l.take (k + 1) = l.take k ++ [gst l k] := by
  rw [List.take_succ_eq_append_getElem h]; simp [gst, h]
theorem rsum_c {H L : Option Addr} {ch cl m : Nat} {ph : List Int} {l : List St2} {M : Int} {w : World} (hH : RdI w H ph) (hL : RdT w L l) (hm : ph.length = m) (hm2 : m ≤ 200) (hl : l.length ≤ 100) (hM : 0 ≤ M ∧ M ≤ 10000000000) (hb : ∀ i, i < m → -M ≤ gi ph i ∧ gi ph i ≤ M)
    (hs : ∀ j, j < l.length → (gst l j).i < m ∧ ((gst l j).sg = 1 ∨ (gst l j).sg = -1)) : Calls Tryz.prog 61 #[.slice H m ch, .slice L l.length cl] w fun e w' => e = .returned (.int .i64 (sumP ph l)) ∧ ∃ n, w' = w.drewN n := by
  have HX := Lib.hid (And.intro hH (And.intro hL (And.intro hm (And.intro hM (And.intro hb hs))))); clear hH hL hm hM hb hs
  go_enter Tryz.func61, Tryz.ntmps61
  go_wp2_with fail
  go_loopw [5, 6] (fun v5 v6 wr => ∃ (k q : Nat) (s : Int), v6 = .int .i64 k ∧ v5 = .int .i64 s ∧ k ≤ l.length ∧ wr = w.drewN q ∧ s = sumP ph (l.take k) ∧ -(M * k) ≤ s ∧ s ≤ M * k) (fun _ v6 _ => l.length - (intOf v6).toNat)
  case atStart => exact ⟨0, 0, 0, rfl, rfl, Nat.zero_le _, rfl, rfl, by simp, by simp⟩
  case round =>
    obtain ⟨k, q, s, rfl, rfl, hk, rfl, hsum, hs1, hs2⟩ := hrel
    by_cases hlt : k < l.length
    · obtain ⟨M1, M2⟩ := HX.out.2.2.2.1
      obtain ⟨b, o, rfl, c0, c1⟩ := HX.out.2.1 k hlt
      obtain ⟨hi, hsg⟩ := HX.out.2.2.2.2.2 k hlt
      obtain ⟨hb2, ho2, rfl, hc⟩ := HX.out.1 (gst l k).i (by rw [HX.out.2.2.1]; exact hi)
      obtain ⟨y1, y2⟩ := HX.out.2.2.2.2.1 _ hi
      have hkM : M * (k : Int) ≤ 10000000000 * 100 := Int.mul_le_mul M2 (by omega) (by omega) (by omega)
      have hkS : M * ((k + 1 : Nat) : Int) = M * (k : Int) + M := by rw [Int.natCast_add, Int.mul_add]; simp
      have hsn : sumP ph (l.take (k + 1)) = s + (gst l k).sg * gi ph (gst l k).i := by rw [gst_take hlt, sumP_app, hsum]
      have hil : ((gst l k).i : Int) < m := by omega
      have hkl : (k : Int) < l.length := by omega
      generalize (gst l k).sg = sg at *
      generalize hii : (gst l k).i = i at *
      generalize hyy : gi ph i = y at *
      generalize hMk : M * (k : Int) = Mk at *
      have HS := Lib.hid (And.intro hsn hkS); clear hsn hkS hsum hii hyy hMk
      rcases hsg with rfl | rfl
      · go_wp2_with fail
        go_quiet (fail)
        go_wp2_with fail
        go_roundw
        case rel => exact ⟨k + 1, _, s + y, by go_num, rfl, by omega, by first | rfl | (rw [World.drewN_drewN]), by rw [HS.out.1]; omega, by rw [HS.out.2]; omega, by rw [HS.out.2]; omega⟩
        case measure => simp [intOf]; omega
      · go_wp2_with fail
        go_quiet (fail)
        go_wp2_with fail
        go_roundw
        case rel => exact ⟨k + 1, _, s + -y, by go_num, rfl, by omega, by first | rfl | (rw [World.drewN_drewN]), by rw [HS.out.1]; omega, by rw [HS.out.2]; omega, by rw [HS.out.2]; omega⟩
        case measure => simp [intOf]; omega
    · obtain rfl : k = l.length := by omega
      go_wp2_with fail
      go_ret
      refine ⟨?_, q, rfl⟩
      rw [List.take_of_length_le (Nat.le_refl _)] at hsum
      show Ending.returned (.int .i64 s) = _
      rw [hsum]
structure WyM (W0 : World) (bb sb : Nat) (by_ : List St2) (seen : List Bool) (w : World) : Prop where
  bel : Below W0.heap.size W0 w
  hb : FlB encT 95 w bb by_
  hs : BoolB w sb seen
theorem WyM.keep {W0 w w' : World} {bb sb : Nat} {by_ : List St2} {seen : List Bool} (h : WyM W0 bb sb by_ seen w) (hb : Below w.heap.size w w') : WyM W0 bb sb by_ seen w' :=
  ⟨h.bel.trans (hb.mono h.bel.size), FlB.keep h.hb hb, FlB.keep h.hs hb⟩
structure WyS (W0 : World) (t : Sk) (l : SkL) (F : List Int) (FA : Option Addr) (G bb sb : Nat) : Prop where
  net : NetM W0 t l
  ok : NetOk t
  hF : RdI W0 FA F
  fr : ∀ j, j < F.length → 0 ≤ gi F j ∧ gi F j < t.pr.length
  fl : F.length ≤ 200
  hG : W0.heap[G]? = some (.cells #[.slice l.S t.sc.length l.cs, .slice l.P t.pr.length l.cp] 25 (0, 0))
  gb : W0.heap.size ≤ bb
  gs : W0.heap.size ≤ sb
def LoopSg (W0 : World) (t : Sk) (F : List Int) (bb sb src i : Nat) (seen0 : List Bool) (v1 v2 v3 v4 v31 v32 : Value) (a : Act) (w : World) : Prop :=
  ∃ (s : Nat) (by_ : List St2) (seen : List Bool) (rk : Nat → Nat), s ≤ 2 ∧ WyM W0 bb sb by_ seen w ∧ WayS t.sc.length (prs t) F src seen by_ rk ∧ Rd (prs t) F seen0 seen (2 * i + s) ∧
    Fr 96 [(1, v1), (2, v2), (3, v3), (4, v4), (9, .slice (some ⟨bb, 0, none⟩) t.sc.length t.sc.length), (10, .slice (some ⟨sb, 0, none⟩) t.sc.length t.sc.length), (11, .int .i64 i), (12, .int .i64 (2 * (s : Int) - 1)), (31, v31), (32, v32)] a
theorem stB_set {w : World} {b : Nat} {xs : List St2} {e : TypeId} (h : FlB encT e w b xs) {j : Nat} (hj : j < xs.length) (y : St2) : FlB encT e ((w.setCell ⟨b, j * 2, none⟩ (.int .i64 y.i)).setCell ⟨b, j * 2 + 1, none⟩ (.int .i64 y.sg)) b (xs.set j y) := by
  have h0 := FlB.set encT_len h (j := j) (i := 0) (y := ⟨y.i, xs[j].sg⟩) (v := .int .i64 y.i) (by omega) hj rfl
  have h1 := FlB.set encT_len h0 (j := j) (i := 1) (y := y) (v := .int .i64 y.sg) (by omega) (by simpa using hj) (by simp [encT])
  rw [List.set_set] at h1
  exact h1
theorem wy_sign {W0 : World} {t : Sk} {l : SkL} {F : List Int} {FA : Option Addr} {G bb sb src i fc q : Nat} {seen0 : List Bool} {v2 v3 v31 v32 : Value} (hq : F.length = q) (hS : WyS W0 t l F FA G bb sb) (hi : i < F.length) {Q : Exit → Act → World → Prop}
    (hQ : ∀ a w by_ seen rk, WyM W0 bb sb by_ seen w → WayS t.sc.length (prs t) F src seen by_ rk → Rd (prs t) F seen0 seen (2 * i + 2) →
      Fr 96 [(1, .slice FA q fc), (2, v2), (3, v3), (4, .pointer (some ⟨G, 0, none⟩)), (9, .slice (some ⟨bb, 0, none⟩) t.sc.length t.sc.length), (10, .slice (some ⟨sb, 0, none⟩) t.sc.length t.sc.length), (11, .int .i64 i), (31, v31), (32, v32)] a → Q (.exit 4) a w)
    {a : Act} {w : World} (hI : LoopSg W0 t F bb sb src i seen0 (.slice FA q fc) v2 v3 (.pointer (some ⟨G, 0, none⟩)) v31 v32 a w) :
    Code.wp Tryz.prog (Tryz.f62.sub [1, 1, 1, 1, 0, 1, 0, 0, 1, 1, 0, 0, 1, 0, 0, 1, 0, 0, 1, 0, 0]) (Exit.then (fun a' w' => LoopSg W0 t F bb sb src i seen0 (.slice FA q fc) v2 v3 (.pointer (some ⟨G, 0, none⟩)) v31 v32 a' w' ∧ 5 - (intOf (a'.tmps.getD 12 undef) + 1).toNat < 5 - (intOf (a.tmps.getD 12 undef) + 1).toNat) Q) a w := by
  subst hq
  obtain ⟨s, by_, seen, rk, hs, hM, hW, hR, hfr⟩ := hI
  obtain ⟨v, rfl⟩ := hfr.open
  clear hfr
  generalize hmu : 5 - (intOf ((⟨frL 96 _ v, []⟩ : Act).tmps.getD 12 undef) + 1).toNat = mu
  have hmu' : 5 - (2 * (s : Int) - 1 + 1).toNat = mu := by rw [← hmu]; rfl
  clear hmu
  have HQ := Lib.hid hQ; clear hQ
  have hn60 := hS.ok.n_le
  have hm200 := hS.ok.m_le
  obtain ⟨x0, x1⟩ := hS.fr i hi
  obtain ⟨pi, hpi⟩ : ∃ pi : Nat, gi F i = (pi : Int) := ⟨(gi F i).toNat, by omega⟩
  have hpm : pi < t.pr.length := by omega
  obtain ⟨fb, fo, hFA, hfc⟩ := (hS.hF.keep hM.bel) i hi
  rw [hpi] at hfc
  have hGw := (hM.bel.block _ (Array.getElem?_eq_some_iff.1 hS.hG).1).trans hS.hG
  obtain ⟨pb, po, hPe, p0, p1⟩ := ((hS.net.rdq hS.ok).keep hM.bel) pi (by rw [prs_len]; exact hpm)
  obtain ⟨q1, q2, q3⟩ := prs_lt hS.ok hpm
  rw [hPe] at hGw
  have hil : (i : Int) < F.length := by omega
  have H := Lib.hid (And.intro hM (And.intro hW (And.intro hR (And.intro hS (And.intro hpi (And.intro hFA hPe)))))); clear hM hW hR hS hpi x0 x1 q3
  rw [hFA]
  show Code.wp Tryz.prog (Tryz.f62.sub [1, 1, 1, 1, 0, 1, 0, 0, 1, 1, 0, 0, 1, 0, 0, 1, 0, 0, 1, 0, 0]) _ ⟨#[(v 0), .slice (some ⟨fb, fo, none⟩) F.length fc, v2, v3, .pointer (some ⟨G, 0, none⟩), (v 5), (v 6), (v 7), (v 8), .slice (some ⟨bb, 0, none⟩) t.sc.length t.sc.length, .slice (some ⟨sb, 0, none⟩) t.sc.length t.sc.length, .int .i64 i, .int .i64 (2 * (s : Int) - 1), (v 13), (v 14), (v 15), (v 16), (v 17), (v 18), (v 19), (v 20), (v 21), (v 22), (v 23), (v 24), (v 25), (v 26), (v 27), (v 28), (v 29), (v 30), v31, v32, (v 33), (v 34), (v 35), (v 36), (v 37), (v 38), (v 39), (v 40), (v 41), (v 42), (v 43), (v 44), (v 45), (v 46), (v 47), (v 48), (v 49), (v 50), (v 51), (v 52), (v 53), (v 54), (v 55), (v 56), (v 57), (v 58), (v 59), (v 60), (v 61), (v 62), (v 63), (v 64), (v 65), (v 66), (v 67), (v 68), (v 69), (v 70), (v 71), (v 72), (v 73), (v 74), (v 75), (v 76), (v 77), (v 78), (v 79), (v 80), (v 81), (v 82), (v 83), (v 84), (v 85), (v 86), (v 87), (v 88), (v 89), (v 90), (v 91), (v 92), (v 93), (v 94), (v 95)], []⟩ _
  have hs3 : s = 0 ∨ s = 1 ∨ s = 2 := by omega
  have main : ∀ sg : Int, sg = 2 * (s : Int) - 1 → (sg = 1 ∨ sg = -1) → s < 2 → Code.wp Tryz.prog (Tryz.f62.sub [1, 1, 1, 1, 0, 1, 0, 0, 1, 1, 0, 0, 1, 0, 0, 1, 0, 0, 1, 0, 0]) (Exit.then (fun a' w' => LoopSg W0 t F bb sb src i seen0 (.slice (some ⟨fb, fo, none⟩) F.length fc) v2 v3 (.pointer (some ⟨G, 0, none⟩)) v31 v32 a' w' ∧ 5 - (intOf (a'.tmps.getD 12 undef) + 1).toNat < mu) Q)
      ⟨#[(v 0), .slice (some ⟨fb, fo, none⟩) F.length fc, v2, v3, .pointer (some ⟨G, 0, none⟩), (v 5), (v 6), (v 7), (v 8), .slice (some ⟨bb, 0, none⟩) t.sc.length t.sc.length, .slice (some ⟨sb, 0, none⟩) t.sc.length t.sc.length, .int .i64 i, .int .i64 sg, (v 13), (v 14), (v 15), (v 16), (v 17), (v 18), (v 19), (v 20), (v 21), (v 22), (v 23), (v 24), (v 25), (v 26), (v 27), (v 28), (v 29), (v 30), v31, v32, (v 33), (v 34), (v 35), (v 36), (v 37), (v 38), (v 39), (v 40), (v 41), (v 42), (v 43), (v 44), (v 45), (v 46), (v 47), (v 48), (v 49), (v 50), (v 51), (v 52), (v 53), (v 54), (v 55), (v 56), (v 57), (v 58), (v 59), (v 60), (v 61), (v 62), (v 63), (v 64), (v 65), (v 66), (v 67), (v 68), (v 69), (v 70), (v 71), (v 72), (v 73), (v 74), (v 75), (v 76), (v 77), (v 78), (v 79), (v 80), (v 81), (v 82), (v 83), (v 84), (v 85), (v 86), (v 87), (v 88), (v 89), (v 90), (v 91), (v 92), (v 93), (v 94), (v 95)], []⟩ w := by
    intro sg hsg hsg1 hs2
    have hle : decide (sg ≤ 1) = true := by simp; omega
    have hg1 : -1 ≤ sg ∧ sg ≤ 1 := by omega
    obtain ⟨hg2, hg3⟩ := hg1
    have g0 : w.cell? ⟨G, 0, none⟩ = some (.slice l.S t.sc.length l.cs) := block_cell hGw (j := 0) (by simp)
    have g1 : w.cell? ⟨G, 1, none⟩ = some (.slice (some ⟨pb, po, none⟩) t.pr.length l.cp) := block_cell hGw (j := 1) (by simp)
    obtain ⟨W1, hW1⟩ : ∃ W1, W1 = w.alloc (.cells #[.int .i64 pi, .int .i64 sg] 95) := ⟨_, rfl⟩
    obtain ⟨hB1, hX1⟩ := alloc1 w _ hW1
    have HE := Lib.hid (rends_c (S := l.S) (n := t.sc.length) (cs := l.cs) (cp := l.cp) hsg1 hpm hm200 (cell_keep hB1 p0) (cell_keep hB1 p1))
    have hfc' := cell_keep hB1 hfc
    have g0' := cell_keep hB1 g0
    have g1' := cell_keep hB1 g1
    have x0 : W1.cell? ⟨w.heap.size, 0, none⟩ = some (.int .i64 pi) := block_cell hX1 (j := 0) (by simp)
    have x1 : W1.cell? ⟨w.heap.size, 1, none⟩ = some (.int .i64 sg) := block_cell hX1 (j := 1) (by simp)
    have H1 := Lib.hid (And.intro hB1 (And.intro hX1 (And.intro hsg1 hsg)))
    have HW1 := Lib.hid hW1
    clear hB1 hX1 hW1 hsg1 hsg p0 p1 g0 g1 hGw
    show Code.wp Tryz.prog (.seq (Tryz.f62.sub [1, 1, 1, 1, 0, 1, 0, 0, 1, 1, 0, 0, 1, 0, 0, 1, 0, 0, 1, 0, 0, 0]) (.seq (.block 5 (.seq (Tryz.f62.sub [1, 1, 1, 1, 0, 1, 0, 0, 1, 1, 0, 0, 1, 0, 0, 1, 0, 0, 1, 0, 0, 1, 0, 0, 0]) (.seq (Tryz.f62.sub [1, 1, 1, 1, 0, 1, 0, 0, 1, 1, 0, 0, 1, 0, 0, 1, 0, 0, 1, 0, 0, 1, 0, 0, 1, 0]) (.seq (Tryz.f62.sub [1, 1, 1, 1, 0, 1, 0, 0, 1, 1, 0, 0, 1, 0, 0, 1, 0, 0, 1, 0, 0, 1, 0, 0, 1, 1, 0]) (Tryz.f62.sub [1, 1, 1, 1, 0, 1, 0, 0, 1, 1, 0, 0, 1, 0, 0, 1, 0, 0, 1, 0, 0, 1, 0, 0, 1, 1, 1]))))) (Tryz.f62.sub [1, 1, 1, 1, 0, 1, 0, 0, 1, 1, 0, 0, 1, 0, 0, 1, 0, 0, 1, 0, 0, 1, 1]))) _ _ _
    refine wp_seq ?_
    conv => arg 2; whnf
    dsimp only
    go_wp2_with fail
    conv => arg 2; whnf
    go_wp2_with fail
    rw [← HW1.out]
    clear hfc'
    conv => arg 2; whnf
    go_wp2_with fail
    refine HE.out.mono ?_
    rintro e W2 ⟨rfl, hB2⟩
    obtain ⟨A0, hA0⟩ : ∃ A0, (if sg = 1 then (gq (prs t) pi).f else (gq (prs t) pi).s) = A0 := ⟨_, rfl⟩
    obtain ⟨A1, hA1⟩ : ∃ A1, (if sg = 1 then (gq (prs t) pi).s else (gq (prs t) pi).f) = A1 := ⟨_, rfl⟩
    rw [hA0, hA1]
    have hS0 : stS (prs t) ⟨pi, sg⟩ = A0 := hA0
    have hE0 : stE (prs t) ⟨pi, sg⟩ = A1 := hA1
    have l0 : A0 < t.sc.length := by rw [← hA0]; split <;> assumption
    have l1 : A1 < t.sc.length := by rw [← hA1]; split <;> assumption
    have hs1 := H1.out.1.size
    have hM2 : WyM W0 bb sb by_ seen W2 := (H.out.1.keep H1.out.1).keep hB2
    have hX2 := (hB2.block _ (Array.getElem?_eq_some_iff.1 H1.out.2.1).1).trans H1.out.2.1
    have x0 : W2.cell? ⟨w.heap.size, 0, none⟩ = some (.int .i64 pi) := block_cell hX2 (j := 0) (by simp)
    have x1 : W2.cell? ⟨w.heap.size, 1, none⟩ = some (.int .i64 sg) := block_cell hX2 (j := 1) (by simp)
    have c0 := hM2.hs.cell (j := A0) (by rw [H.out.2.1.ls]; exact l0)
    have c1 := hM2.hs.cell (j := A1) (by rw [H.out.2.1.ls]; exact l1)
    have cf := FlB.frozen hM2.hs A1
    have b0 := FlB.cell encT_len hM2.hb (j := A1) (i := 0) (by omega) (by rw [H.out.2.1.lb]; exact l1)
    have b1 := FlB.cell encT_len hM2.hb (j := A1) (i := 1) (by omega) (by rw [H.out.2.1.lb]; exact l1)
    have bf0 := FlB.frozen hM2.hb (A1 * 2)
    have bf1 := FlB.frozen hM2.hb (A1 * 2 + 1)
    rw [Nat.add_zero] at b0
    have b0' : ∃ z, W2.cell? ⟨bb, A1 * 2, none⟩ = some z := ⟨_, by rw [b0]; rfl⟩
    have b1' : ∃ z, W2.cell? ⟨bb, A1 * 2 + 1, none⟩ = some z := ⟨_, by rw [b1]; rfl⟩
    clear b0 b1
    obtain ⟨z0, b0⟩ := b0'
    obtain ⟨z1, b1⟩ := b1'
    have hne : bb ≠ sb := ne_ty hM2.hb hM2.hs (by decide)
    have hne2 : sb ≠ bb := fun e => hne e.symm
    have l0' : (A0 : Int) < t.sc.length := by omega
    have l1' : (A1 : Int) < t.sc.length := by omega
    have hstk : stK F (2 * i + s) = ⟨pi, sg⟩ := by
      unfold stK
      rw [show (2 * i + s) / 2 = i by omega, H.out.2.2.2.2.1, show (2 * i + s) % 2 = s by omega]
      have := H1.out.2.2.2
      congr 1
      split <;> omega
    have hinF : (pi : Int) ∈ F := by rw [← H.out.2.2.2.2.1]; exact gi_mem hi
    have H2 := Lib.hid (And.intro hM2 (And.intro hS0 (And.intro hE0 (And.intro hstk hinF))))
    clear hM2 hX2 hS0 hE0 hstk hinF hB2 hA0 hA1 HE g0' g1'
    have hsg5 := H1.out.2.2.2
    have fin0 : ∀ by' seen' rk' (a : Act) (W' : World), WyM W0 bb sb by' seen' W' → WayS t.sc.length (prs t) F src seen' by' rk' → Rd (prs t) F seen0 seen' (2 * i + (s + 1)) →
      Fr 96 [(1, .slice (some ⟨fb, fo, none⟩) F.length fc), (2, v2), (3, v3), (4, .pointer (some ⟨G, 0, none⟩)), (9, .slice (some ⟨bb, 0, none⟩) t.sc.length t.sc.length), (10, .slice (some ⟨sb, 0, none⟩) t.sc.length t.sc.length), (11, .int .i64 i), (12, .int .i64 (sg + 2)), (31, v31), (32, v32)] a →
      LoopSg W0 t F bb sb src i seen0 (.slice (some ⟨fb, fo, none⟩) F.length fc) v2 v3 (.pointer (some ⟨G, 0, none⟩)) v31 v32 a W' ∧ 5 - (intOf (a.tmps.getD 12 undef) + 1).toNat < mu := by
      intro by' seen' rk' a W' k1 k2 k3 k4
      have e12 := k4.2.2.2.2.2.2.2.2.2.1
      refine ⟨⟨s + 1, by', seen', rk', by omega, k1, k2, k3, ?_⟩, ?_⟩
      · rw [show 2 * ((s + 1 : Nat) : Int) - 1 = sg + 2 by omega]; exact k4
      · rw [e12]; show 5 - (sg + 2 + 1).toNat < mu; omega
    have FIN := Lib.hid fin0; clear fin0
    obtain ⟨d0, hd0⟩ : ∃ d0, gb seen A0 = d0 := ⟨_, rfl⟩
    obtain ⟨d1, hd1⟩ : ∃ d1, gb seen A1 = d1 := ⟨_, rfl⟩
    rw [hd0] at c0
    rw [hd1] at c1
    have HD := Lib.hid (And.intro hd0 hd1); clear hd0 hd1 hsg5 hmu'
    have hskip : ¬ (d0 = true ∧ d1 = false) → Rd (prs t) F seen0 seen (2 * i + (s + 1)) := fun hh => by
      refine H.out.2.2.1.skip (k := 2 * i + s) (fun h => ?_)
      rw [H2.out.2.2.2.1, H2.out.2.1, HD.out.1] at h
      rw [H2.out.2.2.2.1, H2.out.2.2.1, HD.out.2]
      cases d1 with
      | true => rfl
      | false => exact absurd ⟨h, rfl⟩ hh
    have HSK := Lib.hid hskip; clear hskip
    cases d0 with
    | true =>
      cases d1 with
      | true =>
        go_wp2_with fail
        conv => arg 2; whnf
        go_wp2_with fail
        conv => arg 2; whnf
        go_wp2_with fail
        conv => arg 2; whnf
        go_wp2_with fail
        exact FIN.out _ _ _ _ _ H2.out.1 H.out.2.1 (HSK.out (by simp)) (by (refine ⟨rfl, rfl, ?_⟩; repeat (first | exact trivial | refine ⟨rfl, ?_⟩)))
      | false =>
        go_wp2_with fail
        conv => arg 2; whnf
        go_wp2_with fail
        conv => arg 2; whnf
        go_wp2_with fail
        conv => arg 2; whnf
        go_wp2_with fail
        have hlen1 : A1 < by_.length := by rw [H.out.2.1.lb]; exact l1
        have hlen2 : A1 < seen.length := by rw [H.out.2.1.ls]; exact l1
        have hadd := H.out.2.1.add (x := ⟨pi, sg⟩) H2.out.2.2.2.2 H1.out.2.2.1 (by rw [H2.out.2.1]; exact l0) (by rw [H2.out.2.2.1]; exact l1) (by rw [H2.out.2.1]; exact HD.out.1) (by rw [H2.out.2.2.1]; exact HD.out.2)
        rw [H2.out.2.2.1] at hadd
        have hrd := H.out.2.2.1.add (k := 2 * i + s) (by omega) hlen2 (by rw [H2.out.2.2.2.1, H2.out.2.1]; exact HD.out.1) HD.out.2 (by rw [H2.out.2.2.2.1]; exact H2.out.2.2.1)
        have hgb := H.out.2.2.2.1.gb
        have hgs := H.out.2.2.2.1.gs
        refine FIN.out _ _ _ _ _ ⟨?_, ?_, ?_⟩ hadd hrd (by (refine ⟨rfl, rfl, ?_⟩; repeat (first | exact trivial | refine ⟨rfl, ?_⟩)))
        · exact ((H2.out.1.bel.setCell hgb _).setCell hgb _).setCell hgs _
        · exact FlB.other (stB_set H2.out.1.hb hlen1 ⟨pi, sg⟩) hne _
        · exact BoolB.set (FlB.other (FlB.other H2.out.1.hs hne2 _) hne2 _) hlen2 true
    | false =>
      go_wp2_with fail
      conv => arg 2; whnf
      go_wp2_with fail
      conv => arg 2; whnf
      go_wp2_with fail
      conv => arg 2; whnf
      go_wp2_with fail
      exact FIN.out _ _ _ _ _ H2.out.1 H.out.2.1 (HSK.out (by simp)) (by (refine ⟨rfl, rfl, ?_⟩; repeat (first | exact trivial | refine ⟨rfl, ?_⟩)))
  have hA2 := H.out.2.2.2.2.2.1
  rcases hs3 with rfl | rfl | rfl
  · have := main (-1) (by omega) (.inr rfl) (by omega)
    rw [show (2 * ((0 : Nat) : Int) - 1) = -1 by omega]
    exact this
  · have := main 1 (by omega) (.inl rfl) (by omega)
    rw [show (2 * ((1 : Nat) : Int) - 1) = 1 by omega]
    exact this
  · clear main
    rw [show (2 * ((2 : Nat) : Int) - 1) = 3 by omega]
    conv => arg 2; whnf
    dsimp only
    go_wp2_with fail
    refine HQ.out _ _ by_ seen rk H.out.1 H.out.2.1 H.out.2.2.1 ?_
    rw [hA2]
    (refine ⟨rfl, rfl, ?_⟩; repeat (first | exact trivial | refine ⟨rfl, ?_⟩))
def LoopFi (W0 : World) (t : Sk) (F : List Int) (bb sb src : Nat) (seen0 : List Bool) (v1 v2 v3 v4 v31 v32 : Value) (a : Act) (w : World) : Prop :=
  ∃ (i : Nat) (by_ : List St2) (seen : List Bool) (rk : Nat → Nat), i ≤ F.length ∧ WyM W0 bb sb by_ seen w ∧ WayS t.sc.length (prs t) F src seen by_ rk ∧ Rd (prs t) F seen0 seen (2 * i) ∧
    Fr 96 [(1, v1), (2, v2), (3, v3), (4, v4), (9, .slice (some ⟨bb, 0, none⟩) t.sc.length t.sc.length), (10, .slice (some ⟨sb, 0, none⟩) t.sc.length t.sc.length), (11, .int .i64 i), (31, v31), (32, v32)] a
theorem wy_pairs {W0 : World} {t : Sk} {l : SkL} {F : List Int} {FA : Option Addr} {G bb sb src fc q : Nat} {seen0 : List Bool} {v2 v3 v31 v32 : Value} (hq : F.length = q) (hS : WyS W0 t l F FA G bb sb) {Q : Exit → Act → World → Prop}
    (hQ : ∀ a w by_ seen rk, WyM W0 bb sb by_ seen w → WayS t.sc.length (prs t) F src seen by_ rk → Rd (prs t) F seen0 seen (2 * F.length) →
      Fr 96 [(1, .slice FA q fc), (2, v2), (3, v3), (4, .pointer (some ⟨G, 0, none⟩)), (9, .slice (some ⟨bb, 0, none⟩) t.sc.length t.sc.length), (10, .slice (some ⟨sb, 0, none⟩) t.sc.length t.sc.length), (31, v31), (32, v32)] a → Q (.exit 2) a w)
    {a : Act} {w : World} (hI : LoopFi W0 t F bb sb src seen0 (.slice FA q fc) v2 v3 (.pointer (some ⟨G, 0, none⟩)) v31 v32 a w) :
    Code.wp Tryz.prog (Tryz.f62.sub [1, 1, 1, 1, 0, 1, 0, 0, 1, 1, 0, 0, 1, 0, 0]) (Exit.then (fun a' w' => LoopFi W0 t F bb sb src seen0 (.slice FA q fc) v2 v3 (.pointer (some ⟨G, 0, none⟩)) v31 v32 a' w' ∧ F.length - (intOf (a'.tmps.getD 11 undef)).toNat < F.length - (intOf (a.tmps.getD 11 undef)).toNat) Q) a w := by
  subst hq
  obtain ⟨i, by_, seen, rk, hi, hM, hW, hR, hfr⟩ := hI
  obtain ⟨v, rfl⟩ := hfr.open
  clear hfr
  generalize hmu : F.length - (intOf ((⟨frL 96 _ v, []⟩ : Act).tmps.getD 11 undef)).toNat = mu
  have hmu' : F.length - i = mu := by rw [← hmu]; rfl
  clear hmu
  have HQ := Lib.hid hQ; clear hQ
  have hfl := hS.fl
  have H := Lib.hid (And.intro hM (And.intro hW (And.intro hR hS))); clear hM hW hR hS
  show Code.wp Tryz.prog (.seq (Tryz.f62.sub [1, 1, 1, 1, 0, 1, 0, 0, 1, 1, 0, 0, 1, 0, 0, 0]) (.seq (.block 3 (.seq (Tryz.f62.sub [1, 1, 1, 1, 0, 1, 0, 0, 1, 1, 0, 0, 1, 0, 0, 1, 0, 0, 0]) (.block 4 (.loop (Tryz.f62.sub [1, 1, 1, 1, 0, 1, 0, 0, 1, 1, 0, 0, 1, 0, 0, 1, 0, 0, 1, 0, 0]))))) (Tryz.f62.sub [1, 1, 1, 1, 0, 1, 0, 0, 1, 1, 0, 0, 1, 0, 0, 1, 1]))) _
    ⟨#[(v 0), .slice FA F.length fc, v2, v3, .pointer (some ⟨G, 0, none⟩), (v 5), (v 6), (v 7), (v 8), .slice (some ⟨bb, 0, none⟩) t.sc.length t.sc.length, .slice (some ⟨sb, 0, none⟩) t.sc.length t.sc.length, .int .i64 i, (v 12), (v 13), (v 14), (v 15), (v 16), (v 17), (v 18), (v 19), (v 20), (v 21), (v 22), (v 23), (v 24), (v 25), (v 26), (v 27), (v 28), (v 29), (v 30), v31, v32, (v 33), (v 34), (v 35), (v 36), (v 37), (v 38), (v 39), (v 40), (v 41), (v 42), (v 43), (v 44), (v 45), (v 46), (v 47), (v 48), (v 49), (v 50), (v 51), (v 52), (v 53), (v 54), (v 55), (v 56), (v 57), (v 58), (v 59), (v 60), (v 61), (v 62), (v 63), (v 64), (v 65), (v 66), (v 67), (v 68), (v 69), (v 70), (v 71), (v 72), (v 73), (v 74), (v 75), (v 76), (v 77), (v 78), (v 79), (v 80), (v 81), (v 82), (v 83), (v 84), (v 85), (v 86), (v 87), (v 88), (v 89), (v 90), (v 91), (v 92), (v 93), (v 94), (v 95)], []⟩ _
  refine wp_seq ?_
  conv => arg 2; whnf
  dsimp only
  by_cases hlt : i < F.length
  · have hilt : (i : Int) < F.length := by omega
    go_wp2_with fail
    conv => arg 2; whnf
    go_wp2_with fail
    refine wp_loop (LoopSg W0 t F bb sb src i seen0 (.slice FA F.length fc) v2 v3 (.pointer (some ⟨G, 0, none⟩)) v31 v32) (fun a _ => 5 - (intOf (a.tmps.getD 12 undef) + 1).toNat) ⟨0, by_, seen, rk, by omega, H.out.1, H.out.2.1, H.out.2.2.1, by (refine ⟨rfl, rfl, ?_⟩; repeat (first | exact trivial | refine ⟨rfl, ?_⟩))⟩ ?_
    intro a1 w1 hI1
    refine wy_sign rfl H.out.2.2.2 hlt ?_ hI1
    intro a2 w2 by2 seen2 rk2 hM2 hW2 hR2 hfr2
    rename_i K6 hK6
    obtain ⟨v2', rfl⟩ := hfr2.open
    clear hfr2 hI1
    refine hK6 _ _ ?_
    clear hK6
    have H2 := Lib.hid (And.intro hM2 (And.intro hW2 hR2)); clear hM2 hW2 hR2
    show Code.wp Tryz.prog (Tryz.f62.sub [1, 1, 1, 1, 0, 1, 0, 0, 1, 1, 0, 0, 1, 0, 0, 1, 1]) _ ⟨#[(v2' 0), .slice FA F.length fc, v2, v3, .pointer (some ⟨G, 0, none⟩), (v2' 5), (v2' 6), (v2' 7), (v2' 8), .slice (some ⟨bb, 0, none⟩) t.sc.length t.sc.length, .slice (some ⟨sb, 0, none⟩) t.sc.length t.sc.length, .int .i64 i, (v2' 12), (v2' 13), (v2' 14), (v2' 15), (v2' 16), (v2' 17), (v2' 18), (v2' 19), (v2' 20), (v2' 21), (v2' 22), (v2' 23), (v2' 24), (v2' 25), (v2' 26), (v2' 27), (v2' 28), (v2' 29), (v2' 30), v31, v32, (v2' 33), (v2' 34), (v2' 35), (v2' 36), (v2' 37), (v2' 38), (v2' 39), (v2' 40), (v2' 41), (v2' 42), (v2' 43), (v2' 44), (v2' 45), (v2' 46), (v2' 47), (v2' 48), (v2' 49), (v2' 50), (v2' 51), (v2' 52), (v2' 53), (v2' 54), (v2' 55), (v2' 56), (v2' 57), (v2' 58), (v2' 59), (v2' 60), (v2' 61), (v2' 62), (v2' 63), (v2' 64), (v2' 65), (v2' 66), (v2' 67), (v2' 68), (v2' 69), (v2' 70), (v2' 71), (v2' 72), (v2' 73), (v2' 74), (v2' 75), (v2' 76), (v2' 77), (v2' 78), (v2' 79), (v2' 80), (v2' 81), (v2' 82), (v2' 83), (v2' 84), (v2' 85), (v2' 86), (v2' 87), (v2' 88), (v2' 89), (v2' 90), (v2' 91), (v2' 92), (v2' 93), (v2' 94), (v2' 95)], []⟩ _
    conv => arg 2; whnf
    dsimp only
    go_wp2_with fail
    refine ⟨⟨i + 1, by2, seen2, rk2, by omega, H2.out.1, H2.out.2.1, by have := H2.out.2.2; rwa [show 2 * (i + 1) = 2 * i + 2 by omega], by (refine ⟨rfl, rfl, ?_⟩; repeat (first | exact trivial | refine ⟨rfl, ?_⟩))⟩, ?_⟩
    show F.length - ((i : Int) + 1).toNat < mu
    omega
  · obtain rfl : i = F.length := by omega
    go_wp2_with fail
    exact HQ.out _ _ by_ seen rk H.out.1 H.out.2.1 H.out.2.2.1 (by (refine ⟨rfl, rfl, ?_⟩; repeat (first | exact trivial | refine ⟨rfl, ?_⟩)))
def LoopRd (W0 : World) (t : Sk) (F : List Int) (bb sb src : Nat) (v1 v2 v3 v4 : Value) (a : Act) (w : World) : Prop :=
  ∃ (r : Nat) (by_ : List St2) (seen : List Bool) (rk : Nat → Nat), r ≤ t.sc.length ∧ WyM W0 bb sb by_ seen w ∧ WayS t.sc.length (prs t) F src seen by_ rk ∧ Ou (prs t) F seen r ∧
    Fr 96 [(1, v1), (2, v2), (3, v3), (4, v4), (9, .slice (some ⟨bb, 0, none⟩) t.sc.length t.sc.length), (10, .slice (some ⟨sb, 0, none⟩) t.sc.length t.sc.length), (31, .int .i64 t.sc.length), (32, .int .i64 r)] a
theorem wy_rounds {W0 : World} {t : Sk} {l : SkL} {F : List Int} {FA : Option Addr} {G bb sb src fc q : Nat} {v2 v3 : Value} (hq : F.length = q) (hS : WyS W0 t l F FA G bb sb) {Q : Exit → Act → World → Prop}
    (hQ : ∀ a w by_ seen rk, WyM W0 bb sb by_ seen w → WayS t.sc.length (prs t) F src seen by_ rk → ClA (prs t) F seen →
      Fr 96 [(2, v2), (3, v3), (4, .pointer (some ⟨G, 0, none⟩)), (9, .slice (some ⟨bb, 0, none⟩) t.sc.length t.sc.length)] a → Q (.exit 0) a w)
    {a : Act} {w : World} (hI : LoopRd W0 t F bb sb src (.slice FA q fc) v2 v3 (.pointer (some ⟨G, 0, none⟩)) a w) :
    Code.wp Tryz.prog (Tryz.f62.sub [1, 1, 1, 1, 0, 1, 0, 0]) (Exit.then (fun a' w' => LoopRd W0 t F bb sb src (.slice FA q fc) v2 v3 (.pointer (some ⟨G, 0, none⟩)) a' w' ∧ t.sc.length - (intOf (a'.tmps.getD 32 undef)).toNat < t.sc.length - (intOf (a.tmps.getD 32 undef)).toNat) Q) a w := by
  subst hq
  obtain ⟨r, by_, seen, rk, hr, hM, hW, hO, hfr⟩ := hI
  obtain ⟨v, rfl⟩ := hfr.open
  clear hfr
  generalize hmu : t.sc.length - (intOf ((⟨frL 96 _ v, []⟩ : Act).tmps.getD 32 undef)).toNat = mu
  have hmu' : t.sc.length - r = mu := by rw [← hmu]; rfl
  clear hmu
  have HQ := Lib.hid hQ; clear hQ
  have h60 := hS.ok.n_le
  have H := Lib.hid (And.intro hM (And.intro hW (And.intro hO hS))); clear hM hW hO hS
  show Code.wp Tryz.prog (.seq (Tryz.f62.sub [1, 1, 1, 1, 0, 1, 0, 0, 0]) (.seq (Tryz.f62.sub [1, 1, 1, 1, 0, 1, 0, 0, 1, 0]) (.seq (.block 1 (.seq (Tryz.f62.sub [1, 1, 1, 1, 0, 1, 0, 0, 1, 1, 0, 0, 0]) (.block 2 (.loop (Tryz.f62.sub [1, 1, 1, 1, 0, 1, 0, 0, 1, 1, 0, 0, 1, 0, 0]))))) (Tryz.f62.sub [1, 1, 1, 1, 0, 1, 0, 0, 1, 1, 1])))) _
    ⟨#[(v 0), .slice FA F.length fc, v2, v3, .pointer (some ⟨G, 0, none⟩), (v 5), (v 6), (v 7), (v 8), .slice (some ⟨bb, 0, none⟩) t.sc.length t.sc.length, .slice (some ⟨sb, 0, none⟩) t.sc.length t.sc.length, (v 11), (v 12), (v 13), (v 14), (v 15), (v 16), (v 17), (v 18), (v 19), (v 20), (v 21), (v 22), (v 23), (v 24), (v 25), (v 26), (v 27), (v 28), (v 29), (v 30), .int .i64 t.sc.length, .int .i64 r, (v 33), (v 34), (v 35), (v 36), (v 37), (v 38), (v 39), (v 40), (v 41), (v 42), (v 43), (v 44), (v 45), (v 46), (v 47), (v 48), (v 49), (v 50), (v 51), (v 52), (v 53), (v 54), (v 55), (v 56), (v 57), (v 58), (v 59), (v 60), (v 61), (v 62), (v 63), (v 64), (v 65), (v 66), (v 67), (v 68), (v 69), (v 70), (v 71), (v 72), (v 73), (v 74), (v 75), (v 76), (v 77), (v 78), (v 79), (v 80), (v 81), (v 82), (v 83), (v 84), (v 85), (v 86), (v 87), (v 88), (v 89), (v 90), (v 91), (v 92), (v 93), (v 94), (v 95)], []⟩ _
  refine wp_seq ?_
  conv => arg 2; whnf
  dsimp only
  by_cases hlt : r < t.sc.length
  · have hrlt : (r : Int) < t.sc.length := by omega
    go_wp2_with fail
    conv => arg 2; whnf
    go_wp2_with fail
    conv => arg 2; whnf
    go_wp2_with fail
    refine wp_loop (LoopFi W0 t F bb sb src seen (.slice FA F.length fc) v2 v3 (.pointer (some ⟨G, 0, none⟩)) (.int .i64 t.sc.length) (.int .i64 r)) (fun a _ => F.length - (intOf (a.tmps.getD 11 undef)).toNat) ⟨0, by_, seen, rk, Nat.zero_le _, H.out.1, H.out.2.1, Rd.start, by (refine ⟨rfl, rfl, ?_⟩; repeat (first | exact trivial | refine ⟨rfl, ?_⟩))⟩ ?_
    intro a1 w1 hI1
    refine wy_pairs rfl H.out.2.2.2 ?_ hI1
    intro a2 w2 by2 seen2 rk2 hM2 hW2 hR2 hfr2
    rename_i K6 hK6
    obtain ⟨v2', rfl⟩ := hfr2.open
    clear hfr2 hI1
    refine hK6 _ _ ?_
    clear hK6
    have H2 := Lib.hid (And.intro hM2 (And.intro hW2 (hR2.fin H.out.2.2.1))); clear hM2 hW2 hR2
    show Code.wp Tryz.prog (Tryz.f62.sub [1, 1, 1, 1, 0, 1, 0, 0, 1, 1, 1]) _ ⟨#[(v2' 0), .slice FA F.length fc, v2, v3, .pointer (some ⟨G, 0, none⟩), (v2' 5), (v2' 6), (v2' 7), (v2' 8), .slice (some ⟨bb, 0, none⟩) t.sc.length t.sc.length, .slice (some ⟨sb, 0, none⟩) t.sc.length t.sc.length, (v2' 11), (v2' 12), (v2' 13), (v2' 14), (v2' 15), (v2' 16), (v2' 17), (v2' 18), (v2' 19), (v2' 20), (v2' 21), (v2' 22), (v2' 23), (v2' 24), (v2' 25), (v2' 26), (v2' 27), (v2' 28), (v2' 29), (v2' 30), .int .i64 t.sc.length, .int .i64 r, (v2' 33), (v2' 34), (v2' 35), (v2' 36), (v2' 37), (v2' 38), (v2' 39), (v2' 40), (v2' 41), (v2' 42), (v2' 43), (v2' 44), (v2' 45), (v2' 46), (v2' 47), (v2' 48), (v2' 49), (v2' 50), (v2' 51), (v2' 52), (v2' 53), (v2' 54), (v2' 55), (v2' 56), (v2' 57), (v2' 58), (v2' 59), (v2' 60), (v2' 61), (v2' 62), (v2' 63), (v2' 64), (v2' 65), (v2' 66), (v2' 67), (v2' 68), (v2' 69), (v2' 70), (v2' 71), (v2' 72), (v2' 73), (v2' 74), (v2' 75), (v2' 76), (v2' 77), (v2' 78), (v2' 79), (v2' 80), (v2' 81), (v2' 82), (v2' 83), (v2' 84), (v2' 85), (v2' 86), (v2' 87), (v2' 88), (v2' 89), (v2' 90), (v2' 91), (v2' 92), (v2' 93), (v2' 94), (v2' 95)], []⟩ _
    conv => arg 2; whnf
    dsimp only
    go_wp2_with fail
    refine ⟨⟨r + 1, by2, seen2, rk2, by omega, H2.out.1, H2.out.2.1, H2.out.2.2, by (refine ⟨rfl, rfl, ?_⟩; repeat (first | exact trivial | refine ⟨rfl, ?_⟩))⟩, ?_⟩
    show t.sc.length - ((r : Int) + 1).toNat < mu
    omega
  · obtain rfl : r = t.sc.length := by omega
    go_wp2_with fail
    conv => arg 2; whnf
    go_wp2_with fail
    exact HQ.out _ _ by_ seen rk H.out.1 H.out.2.1 (H.out.2.2.1.closed H.out.2.1.ls) (by (refine ⟨rfl, rfl, ?_⟩; repeat (first | exact trivial | refine ⟨rfl, ?_⟩)))
abbrev GrT2 (w : World) (B : Nat) (A : Option Addr) (c : Nat) (xs : List St2) : Prop := GrF encT 95 2 w B A c xs
theorem infoStep : (Tryz.prog.info? 95).map (fun i => (i.zero, i.size, i.bytes)) = some (some (.agg #[.int .i64 0, .int .i64 0]), 2, 16) := by kernel_rfl
theorem run_append_st {w : World} {B c c2 : Nat} {A Y : Option Addr} {xs ys : List St2} (h : GrT2 w B A c xs) (ty : TypeId) (hy : RdG encT 2 w Y ys) (hlen : xs.length + ys.length ≤ 1000000) (hB : B ≤ w.heap.size) :
    ∃ A' c' w', (Builtin.append_ #[110, 110] ty #[.slice A xs.length c, .slice Y ys.length c2]).run Tryz.prog w = .ok (.slice A' (xs.length + ys.length) c') w' ∧ GrT2 w' B A' c' (xs ++ ys) ∧ w.grownBy w' (A.map (·.block)) := by
  obtain ⟨i, hi, hzz⟩ := Option.map_eq_some_iff.1 infoStep
  simp only [Prod.mk.injEq] at hzz
  obtain ⟨hz, hsz, hby⟩ := hzz
  exact run_append_rd (P := Tryz.prog) Tryz.underlying110 hi hz hsz hby rfl (by decide) encT_len (by decide) (fun x u hu => by simp [encT] at hu; rcases hu with rfl | rfl <;> rfl) h ty hy hlen hB
theorem wpList_append_st {w : World} {B c c2 : Nat} {A Y : Option Addr} {xs ys : List St2} {ops : Array Oper} {rest : List Oper} {o : Oper} {a : Act} {Q : Exit → Act → World → Prop} (hgd : o.guard = none) (s x : Operand)
    (ho : o.op = .call { callee := .builtin .append, args := #[s, x], argTypes := #[110, 110] }) (h : GrT2 w B A c xs) (hy : RdG encT 2 w Y ys) (hs : a.eval s = .slice A xs.length c) (hx : a.eval x = .slice Y ys.length c2)
    (hlen : xs.length + ys.length ≤ 1000000) (hB : B ≤ w.heap.size)
    (hk : ∀ A' c' w', GrT2 w' B A' c' (xs ++ ys) → w.grownBy w' (A.map (·.block)) → wpList Tryz.prog ops Q rest (a.put o.dst (.slice A' (xs.length + ys.length) c')) w') : wpList Tryz.prog ops Q (o :: rest) a w := by
  refine wpList_plain hgd fun K hK => ?_
  obtain ⟨A', c', w', hr, h2, h3⟩ := run_append_st (c2 := c2) h o.type hy hlen hB
  unfold Oper.wp execOp
  simp only [ho, resolve, invoke, builtin, Sem.run_bind, Sem.run_pure, Result.andThen_ok, List.map_toArray, List.map_cons, List.map_nil, hs, hx, hr]
  exact hK _ _ (hk A' c' w' h2 h3)
theorem GrT2.one (w : World) {B : Nat} (hB : B ≤ w.heap.size) (x : St2) : GrT2 (w.alloc (.cells #[.int .i64 x.i, .int .i64 x.sg] 95)) B (some ⟨w.heap.size, 0, none⟩) 1 [x] :=
  ⟨Nat.le_refl _, by decide, fun h => (by cases h), fun a ha => by
    cases ha
    refine ⟨w.heap.size, 0, _, rfl, hB, World.alloc_heap_new w _, by simp, fun j u hj => ?_⟩
    match j, hj with
    | 0, hj => simpa [encT] using hj
    | 1, hj => simpa [encT] using hj
    | j + 2, hj => simp [encT] at hj⟩
def LoopBk (W1 : World) (t : Sk) (F : List Int) (G bb src to : Nat) (rk : Nat → Nat) (seen : List Bool) (a : Act) (w : World) : Prop :=
  ∃ (at' : Nat) (out : List St2) (A : Option Addr) (c : Nat), at' < t.sc.length ∧ gb seen at' = true ∧ Chn (prs t) F at' to out ∧ out.length + rk at' ≤ rk to ∧ Below W1.heap.size W1 w ∧ GrT2 w W1.heap.size A c out ∧
    Fr 96 [(2, .int .i64 src), (4, .pointer (some ⟨G, 0, none⟩)), (9, .slice (some ⟨bb, 0, none⟩) t.sc.length t.sc.length), (16, .slice A out.length c), (17, .int .i64 at')] a
theorem wy_back {W0 W1 : World} {t : Sk} {l : SkL} {F : List Int} {FA : Option Addr} {G bb sb src to : Nat} {by_ : List St2} {seen : List Bool} {rk : Nat → Nat} (hS : WyS W0 t l F FA G bb sb) (hM : WyM W0 bb sb by_ seen W1) (hW : WayS t.sc.length (prs t) F src seen by_ rk) (hto : rk to < 100) {Q : Exit → Act → World → Prop}
    (hQ : ∀ a w out A c, Chn (prs t) F src to out → out.length ≤ rk to → Below W1.heap.size W1 w → GrT2 w W1.heap.size A c out → Fr 96 [(16, .slice A out.length c)] a → Q (.exit 6) a w)
    {a : Act} {w : World} (hI : LoopBk W1 t F G bb src to rk seen a w) :
    Code.wp Tryz.prog (Tryz.f62.sub [1, 1, 1, 1, 1, 1, 0, 1, 0, 0]) (Exit.then (fun a' w' => LoopBk W1 t F G bb src to rk seen a' w' ∧ rk (intOf (a'.tmps.getD 17 undef)).toNat < rk (intOf (a.tmps.getD 17 undef)).toNat) Q) a w := by
  obtain ⟨at', out, A, c, hat, hsee, hch, hlen, hB, hGr, hfr⟩ := hI
  obtain ⟨v, rfl⟩ := hfr.open
  clear hfr
  generalize hmu : rk (intOf ((⟨frL 96 _ v, []⟩ : Act).tmps.getD 17 undef)).toNat = mu
  have hmu' : rk at' = mu := by rw [← hmu]; rfl
  clear hmu
  have HQ := Lib.hid hQ; clear hQ
  have hn60 := hS.ok.n_le
  have hm200 := hS.ok.m_le
  have hatl : (at' : Int) < t.sc.length := by omega
  have hsz := hB.size
  have hol : out.length < 100 := by omega
  have H := Lib.hid (And.intro hsee (And.intro hch (And.intro hlen (And.intro hB (And.intro hGr (And.intro hS (And.intro hM (And.intro hW hmu')))))))); clear hsee hch hlen hB hGr hS hM hW hmu'
  show Code.wp Tryz.prog (.seq (Tryz.f62.sub [1, 1, 1, 1, 1, 1, 0, 1, 0, 0, 0]) (.block 7 (.seq (Tryz.f62.sub [1, 1, 1, 1, 1, 1, 0, 1, 0, 0, 1, 0, 0]) (Tryz.f62.sub [1, 1, 1, 1, 1, 1, 0, 1, 0, 0, 1, 0, 1])))) _ ⟨#[(v 0), (v 1), .int .i64 src, (v 3), .pointer (some ⟨G, 0, none⟩), (v 5), (v 6), (v 7), (v 8), .slice (some ⟨bb, 0, none⟩) t.sc.length t.sc.length, (v 10), (v 11), (v 12), (v 13), (v 14), (v 15), .slice A out.length c, .int .i64 at', (v 18), (v 19), (v 20), (v 21), (v 22), (v 23), (v 24), (v 25), (v 26), (v 27), (v 28), (v 29), (v 30), (v 31), (v 32), (v 33), (v 34), (v 35), (v 36), (v 37), (v 38), (v 39), (v 40), (v 41), (v 42), (v 43), (v 44), (v 45), (v 46), (v 47), (v 48), (v 49), (v 50), (v 51), (v 52), (v 53), (v 54), (v 55), (v 56), (v 57), (v 58), (v 59), (v 60), (v 61), (v 62), (v 63), (v 64), (v 65), (v 66), (v 67), (v 68), (v 69), (v 70), (v 71), (v 72), (v 73), (v 74), (v 75), (v 76), (v 77), (v 78), (v 79), (v 80), (v 81), (v 82), (v 83), (v 84), (v 85), (v 86), (v 87), (v 88), (v 89), (v 90), (v 91), (v 92), (v 93), (v 94), (v 95)], []⟩ _
  refine wp_seq ?_
  conv => arg 2; whnf
  dsimp only
  by_cases he : at' = src
  · have hd : ((at' : Int) != (src : Int)) = false := by simp [he]
    go_wp2_with fail
    refine HQ.out _ _ out A c ?_ (by have := H.out.2.2.1; omega) H.out.2.2.2.1 H.out.2.2.2.2.1 (by (refine ⟨rfl, rfl, ?_⟩; repeat (first | exact trivial | refine ⟨rfl, ?_⟩)))
    have := H.out.2.1
    rwa [he] at this
  · have hd : ((at' : Int) != (src : Int)) = true := by simp; omega
    obtain ⟨k1, k2, k3, k4, k5, k6⟩ := H.out.2.2.2.2.2.2.2.1.st at' hat H.out.1 he
    have hbw := FlB.keep H.out.2.2.2.2.2.2.1.hb H.out.2.2.2.1
    have hbl : at' < by_.length := by rw [H.out.2.2.2.2.2.2.2.1.lb]; exact hat
    have hge : by_[at'] = gst by_ at' := by simp [gst, hbl]
    have b0 := FlB.cell encT_len hbw (j := at') (i := 0) (by omega) hbl
    have b1 := FlB.cell encT_len hbw (j := at') (i := 1) (by omega) hbl
    rw [hge, Nat.add_zero] at b0
    rw [hge] at b1
    obtain ⟨y, hy⟩ : ∃ y, gst by_ at' = y := ⟨_, rfl⟩
    rw [hy] at k1 k2 k3 k4 k5 k6 b0 b1
    have b0' : w.cell? ⟨bb, at' * 2, none⟩ = some (.int .i64 y.i) := b0
    have b1' : w.cell? ⟨bb, at' * 2 + 1, none⟩ = some (.int .i64 y.sg) := b1
    have HY := Lib.hid (And.intro k1 (And.intro k2 (And.intro k3 (And.intro k4 (And.intro k5 k6))))); clear k1 k2 k3 k4 k5 k6 b0 b1 hy hge hbw
    go_wp2_with fail
    conv => arg 2; whnf
    go_wp2_with (at_builtin; refine wpList_append_st rfl _ _ rfl (GrT2.one w hsz y) ((GrF.rdG encT_len (by decide) H.out.2.2.2.2.1).keep encT_len ((Below.refl _ _).alloc (Nat.le_refl _) _)) rfl rfl (by simp; omega) (by simp; omega) ?_)
    intro A' c' w' g1 g2
    have hb0 : Below W1.heap.size W1 (w.alloc (.cells #[.int .i64 y.i, .int .i64 y.sg] 95)) := H.out.2.2.2.1.alloc hsz _
    have hb2 : Below W1.heap.size W1 w' := ⟨g2.os.trans hb0.os, g2.tape.trans hb0.tape, g2.output.trans hb0.output, Nat.le_trans hb0.size g2.size, fun b hb => (g2.block b (by have := hb0.size; omega) (fun e => by injection e with e; omega)).trans (hb0.block b hb)⟩
    have hM' := H.out.2.2.2.2.2.2.1.keep hb2
    have hS' := H.out.2.2.2.2.2.1
    have hGw := (hM'.bel.block _ (Array.getElem?_eq_some_iff.1 hS'.hG).1).trans hS'.hG
    obtain ⟨j, hj, hjF⟩ := mem_gi HY.out.1
    have hfr := hS'.fr j hj
    have hyl : y.i < t.pr.length := by omega
    obtain ⟨pb, po, hPe, p0, p1⟩ := ((hS'.net.rdq hS'.ok).keep hM'.bel) y.i (by rw [prs_len]; exact hyl)
    rw [hPe] at hGw
    have d0 := FlB.cell encT_len hM'.hb (j := at') (i := 0) (by omega) hbl
    have d1 := FlB.cell encT_len hM'.hb (j := at') (i := 1) (by omega) hbl
    have b0w : w'.cell? ⟨bb, at' * 2, none⟩ = some (.int .i64 y.i) := by
      have h1 := FlB.cell encT_len (FlB.keep H.out.2.2.2.2.2.2.1.hb H.out.2.2.2.1) (j := at') (i := 0) (by omega) hbl
      rw [← h1, Nat.add_zero] at d0
      rw [d0]; exact b0'
    have b1w : w'.cell? ⟨bb, at' * 2 + 1, none⟩ = some (.int .i64 y.sg) := by
      have h1 := FlB.cell encT_len (FlB.keep H.out.2.2.2.2.2.2.1.hb H.out.2.2.2.1) (j := at') (i := 1) (by omega) hbl
      rw [← h1] at d1
      rw [d1]; exact b1'
    have g0 : w'.cell? ⟨G, 0, none⟩ = some (.slice l.S t.sc.length l.cs) := block_cell hGw (j := 0) (by simp)
    have g1' : w'.cell? ⟨G, 1, none⟩ = some (.slice (some ⟨pb, po, none⟩) t.pr.length l.cp) := block_cell hGw (j := 1) (by simp)
    have H2 := Lib.hid (And.intro g1 (And.intro hb2 (And.intro p0 p1))); clear g1 g2 hb0 hb2 hM' hS' hGw hj hjF hfr p0 p1 d0 d1 b0' b1' hPe
    go_wp2_with fail
    conv => arg 2; whnf
    refine region_rel (by kernel_rfl) (by kernel_rfl) (by kernel_rfl) (fun _ _ w2 => Below w'.heap.size w' w2) ((Below.refl _ _).drew) ?_
    refine relg_val rfl (.agg #[.slice l.S t.sc.length l.cs, .slice (some ⟨pb, po, none⟩) t.pr.length l.cp]) (fun _ _ _ h => h) (fun V L w' h1 h2 h3 hC => ex_loadN 25 _ rfl G 0 rfl [.slice l.S t.sc.length l.cs, .slice (some ⟨pb, po, none⟩) t.pr.length l.cp] _ (rangeAt2 (cellB hC g0) (cellB hC g1')) Tryz.underlying25 rfl (by kernel_rfl)) (fun K hK => ?_)
    simp only [Fam.pt]
    refine hK _ ?_
    clear hK K
    (repeat (refine relq rfl rfl (fun _ _ _ h => h) (fun K hK => ?_); go_big_quiet_op; (refine hK _ ?_; clear hK K)))
    refine relg_val rfl (.agg #[.int .i64 y.i, .int .i64 y.sg]) (fun _ _ _ h => h) (fun V L w' h1 h2 h3 hC => ex_loadN 95 _ rfl bb (at' * 2) rfl [.int .i64 y.i, .int .i64 y.sg] _ (rangeAt2 (cellB hC b0w) (cellB hC b1w)) Tryz.underlying95 rfl (by kernel_rfl)) (fun K hK => ?_)
    simp only [Fam.pt]
    refine hK _ ?_
    clear hK K
    refine relg_fix rfl (.tuple #[.int .i64 ((stS (prs t) y : Nat) : Int), .int .i64 ((stE (prs t) y : Nat) : Int)]) (fun V L' w2 h1 h2 h3 hB => ?_) (fun K hK => ?_)
    · rw [ex_call2 76 (.tmp 87) (.tmp 91) _ rfl rfl rfl rfl (enters_fn Tryz.func76 (by kernel_rfl) rfl)]
      refine (rends_c (S := l.S) (n := t.sc.length) (cs := l.cs) (cp := l.cp) HY.out.2.1 hyl hm200 (cellB hB H2.out.2.2.1) (cellB hB H2.out.2.2.2)).mono ?_
      rintro e w3 ⟨rfl, hB2⟩
      exact ⟨_, rfl, rfl, hB.trans (hB2.mono hB.size)⟩
    simp only [Fam.pt]
    refine hK _ ?_
    clear hK K
    (repeat (refine relq rfl rfl (fun _ _ _ h => h) (fun K hK => ?_); go_big_quiet_op; (refine hK _ ?_; clear hK K)))
    refine relk_end (fun L' V w3 hL hC => ?_)
    have hs2 := H2.out.2.1.size
    refine ⟨⟨stS (prs t) y, y :: out, A', c', HY.out.2.2.2.1, HY.out.2.2.2.2.1, ?_, ?_, H2.out.2.1.trans (hC.mono hs2), H2.out.1.keep hC, by rw [show (y :: out).length = 1 + out.length by rw [List.length_cons]; omega]; (refine ⟨rfl, rfl, ?_⟩; repeat (first | exact trivial | refine ⟨rfl, ?_⟩))⟩, ?_⟩
    · refine .cons HY.out.1 HY.out.2.1 ?_
      rw [HY.out.2.2.1]; exact H.out.2.1
    · have h1 := HY.out.2.2.2.2.2
      have h2 := H.out.2.2.1
      rw [List.length_cons]; omega
    · show rk (((stS (prs t) y : Nat) : Int)).toNat < mu
      rw [Int.toNat_natCast, ← H.out.2.2.2.2.2.2.2.2]
      exact HY.out.2.2.2.2.2
end Go.Proofs.YtjnpchoinncbnaaGreat
end
