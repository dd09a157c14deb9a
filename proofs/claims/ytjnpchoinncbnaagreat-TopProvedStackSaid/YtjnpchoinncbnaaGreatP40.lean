/- Proves parts of the statement, each under the conditions that its theorem states: Solved: the loops; Solved: the contract (all pairs close, all scenes joined, the datum the first scene); The examples of chapter 7 hold; The law: the right tasks. -/
import Derived.Test.YtjnpchoinncbnaaGreatP39
import Derived.Test.YtjnpchoinncbnaaGreatP11
import Derived.Test.YtjnpchoinncbnaaGreatP07
import Derived.Test.YtjnpchoinncbnaaGreatP10
set_option linter.unusedSimpArgs false
set_option linter.unusedVariables false
set_option maxHeartbeats 4000000
set_option maxRecDepth 100000
section
namespace Go.Proofs.YtjnpchoinncbnaaGreat
open Go.RowKit Sw Fam
def LoopS1 (W1 : World) (m mc : Nat) (MA : Option Addr) (v1 v2 v8 : Value) (a : Act) (w : World) : Prop :=
  ∃ (k : Nat), k ≤ m ∧ w = W1 ∧ Fr 90 [(1, v1), (2, v2), (8, v8), (9, .slice none 0 0), (36, .slice MA m mc), (37, .int .i64 m), (38, .int .i64 k)] a
theorem sv_first {W1 : World} {m mc : Nat} {MA : Option Addr} {zs : List Int} {v1 v2 v8 : Value} (hm : m ≤ 200) (hl : zs.length = m) (hz : ∀ i, i < m → gi zs i = 0) (hR : RdI W1 MA zs) {Q : Exit → Act → World → Prop}
    (hQ : ∀ a, Fr 90 [(1, v1), (2, v2), (8, v8), (9, .slice none 0 0)] a → Q (.exit 0) a W1) {a : Act} {w : World} (hI : LoopS1 W1 m mc MA v1 v2 v8 a w) :
    Code.wp Tryz.prog (Tryz.f12.sub [1, 1, 1, 1, 1, 0, 1, 0, 0]) (Exit.then (fun a' w' => LoopS1 W1 m mc MA v1 v2 v8 a' w' ∧ m - (intOf (a'.tmps.getD 38 undef)).toNat < m - (intOf (a.tmps.getD 38 undef)).toNat) Q) a w := by
  obtain ⟨k, hk, rfl, hfr⟩ := hI
  obtain ⟨v, rfl⟩ := hfr.open
  clear hfr
  generalize hmu : m - (intOf ((⟨frL 90 _ v, []⟩ : Act).tmps.getD 38 undef)).toNat = mu
  have hmu' : m - k = mu := by rw [← hmu]; rfl
  clear hmu
  have HQ := Lib.hid hQ; clear hQ
  have H := Lib.hid (And.intro hl (And.intro hz hR)); clear hl hz hR
  show Code.wp Tryz.prog (.seq (Tryz.f12.sub [1, 1, 1, 1, 1, 0, 1, 0, 0, 0]) (.seq (Tryz.f12.sub [1, 1, 1, 1, 1, 0, 1, 0, 0, 1, 0]) (.seq (.block 1 (Tryz.f12.sub [1, 1, 1, 1, 1, 0, 1, 0, 0, 1, 1, 0, 0])) (Tryz.f12.sub [1, 1, 1, 1, 1, 0, 1, 0, 0, 1, 1, 1])))) _
    ⟨#[(v 0), v1, v2, (v 3), (v 4), (v 5), (v 6), (v 7), v8, .slice none 0 0, (v 10), (v 11), (v 12), (v 13), (v 14), (v 15), (v 16), (v 17), (v 18), (v 19), (v 20), (v 21), (v 22), (v 23), (v 24), (v 25), (v 26), (v 27), (v 28), (v 29), (v 30), (v 31), (v 32), (v 33), (v 34), (v 35), .slice MA m mc, .int .i64 m, .int .i64 k, (v 39), (v 40), (v 41), (v 42), (v 43), (v 44), (v 45), (v 46), (v 47), (v 48), (v 49), (v 50), (v 51), (v 52), (v 53), (v 54), (v 55), (v 56), (v 57), (v 58), (v 59), (v 60), (v 61), (v 62), (v 63), (v 64), (v 65), (v 66), (v 67), (v 68), (v 69), (v 70), (v 71), (v 72), (v 73), (v 74), (v 75), (v 76), (v 77), (v 78), (v 79), (v 80), (v 81), (v 82), (v 83), (v 84), (v 85), (v 86), (v 87), (v 88), (v 89)], []⟩ _
  refine wp_seq ?_
  conv => arg 2; whnf
  try dsimp only
  by_cases hlt : k < m
  · have hklt : (k : Int) < m := by omega
    obtain ⟨mb, mo, hMA, hc0⟩ := H.out.2.2 k (by rw [H.out.1]; exact hlt)
    rw [H.out.2.1 k hlt] at hc0
    rw [hMA]
    clear hMA
    go_wp2_with fail
    conv => arg 2; whnf
    go_wp2_with fail
    conv => arg 2; whnf
    go_wp2_with fail
    conv => arg 2; whnf
    go_wp2_with fail
    refine ⟨⟨k + 1, by omega, rfl, ?_⟩, ?_⟩
    · refine ⟨rfl, rfl, rfl, rfl, rfl, rfl, rfl, rfl, ?_, trivial⟩
      show Value.int .i64 ((k : Int) + 1) = _; go_num
    · show m - ((k : Int) + 1).toNat < mu
      omega
  · obtain rfl : k = m := by omega
    go_wp2_with fail
    conv => arg 2; whnf
    go_wp2_with fail
    exact HQ.out _ (by (refine ⟨rfl, rfl, ?_⟩; repeat (first | exact trivial | refine ⟨rfl, ?_⟩)))
def soL (t : Sk) (p : Nat → Int) : List Int := (List.range t.sc.length).map fun v => p v - p 0
theorem soL_len (t : Sk) (p : Nat → Int) : (soL t p).length = t.sc.length := by simp [soL]
theorem soL_get {t : Sk} {p : Nat → Int} {k : Nat} (hk : k < t.sc.length) : gi (soL t p) k = p k - p 0 := by
  unfold soL gi
  simp [List.getD_eq_getElem?_getD, hk]
theorem soL_snoc {t : Sk} {p : Nat → Int} {k : Nat} (hk : k < t.sc.length) : (soL t p).take k ++ [p k - p 0] = (soL t p).take (k + 1) := by
  rw [take_snoc_i (by rw [soL_len]; exact hk), soL_get hk]
theorem soL_take {t : Sk} {p : Nat → Int} {k : Nat} (hk : k ≤ t.sc.length) : ((soL t p).take k).length = k := by rw [List.length_take, soL_len]; omega
def LoopS2 (W3 : World) (t : Sk) (p : Nat → Int) (b b2 o2 c2 : Nat) (a : Act) (w : World) : Prop :=
  ∃ (k : Nat) (A : Option Addr) (c : Nat), k ≤ t.sc.length ∧ Below W3.heap.size W3 w ∧ GrI w W3.heap.size A c ((soL t p).take k) ∧
    Fr 90 [(1, .int .i64 0), (12, .slice (some ⟨b, 0, none⟩) t.sc.length t.sc.length), (13, .slice (some ⟨b2, o2, none⟩) t.sc.length c2), (14, .slice A k c), (60, .slice (some ⟨b, 0, none⟩) t.sc.length t.sc.length), (61, .int .i64 t.sc.length), (62, .int .i64 k)] a
theorem sv_second {W3 : World} {t : Sk} {p : Nat → Int} {out u : List Int} {b b2 o2 c2 : Nat} (h60 : t.sc.length ≤ 60) (hO : IntB W3 b out) (hol : out.length = t.sc.length) (hv : ∀ v, v < t.sc.length → gi out v = p v ∧ -1000000000000 ≤ p v ∧ p v ≤ 1000000000000) (hD : DatM W3 b2 o2 c2 u) (hul : u.length = t.sc.length) (hu : ∀ i, i < t.sc.length → gi u i = gi u 0) {Q : Exit → Act → World → Prop}
    (hQ : ∀ a w A c, Below W3.heap.size W3 w → GrI w W3.heap.size A c (soL t p) → Fr 90 [(14, .slice A t.sc.length c)] a → Q (.exit 2) a w) {a : Act} {w : World} (hI : LoopS2 W3 t p b b2 o2 c2 a w) :
    Code.wp Tryz.prog (Tryz.f12.sub [1, 1, 1, 1, 1, 1, 1, 1, 1, 0, 1, 0, 0]) (Exit.then (fun a' w' => LoopS2 W3 t p b b2 o2 c2 a' w' ∧ t.sc.length - (intOf (a'.tmps.getD 62 undef)).toNat < t.sc.length - (intOf (a.tmps.getD 62 undef)).toNat) Q) a w := by
  obtain ⟨k, A, c, hk, hB, hGr, hfr⟩ := hI
  obtain ⟨v, rfl⟩ := hfr.open
  clear hfr
  generalize hmu : t.sc.length - (intOf ((⟨frL 90 _ v, []⟩ : Act).tmps.getD 62 undef)).toNat = mu
  have hmu' : t.sc.length - k = mu := by rw [← hmu]; rfl
  clear hmu
  have HQ := Lib.hid hQ; clear hQ
  have H := Lib.hid (And.intro hO (And.intro hol (And.intro hv (And.intro hD (And.intro hul (And.intro hu (And.intro hB hGr))))))); clear hO hol hv hD hul hu hB hGr
  show Code.wp Tryz.prog (.seq (Tryz.f12.sub [1, 1, 1, 1, 1, 1, 1, 1, 1, 0, 1, 0, 0, 0]) (.seq (Tryz.f12.sub [1, 1, 1, 1, 1, 1, 1, 1, 1, 0, 1, 0, 0, 1, 0]) (.seq (.block 3 (.seq (Tryz.f12.sub [1, 1, 1, 1, 1, 1, 1, 1, 1, 0, 1, 0, 0, 1, 1, 0, 0, 0]) (Tryz.f12.sub [1, 1, 1, 1, 1, 1, 1, 1, 1, 0, 1, 0, 0, 1, 1, 0, 0, 1]))) (Tryz.f12.sub [1, 1, 1, 1, 1, 1, 1, 1, 1, 0, 1, 0, 0, 1, 1, 1])))) _
    ⟨#[(v 0), .int .i64 0, (v 2), (v 3), (v 4), (v 5), (v 6), (v 7), (v 8), (v 9), (v 10), (v 11), .slice (some ⟨b, 0, none⟩) t.sc.length t.sc.length, .slice (some ⟨b2, o2, none⟩) t.sc.length c2, .slice A k c, (v 15), (v 16), (v 17), (v 18), (v 19), (v 20), (v 21), (v 22), (v 23), (v 24), (v 25), (v 26), (v 27), (v 28), (v 29), (v 30), (v 31), (v 32), (v 33), (v 34), (v 35), (v 36), (v 37), (v 38), (v 39), (v 40), (v 41), (v 42), (v 43), (v 44), (v 45), (v 46), (v 47), (v 48), (v 49), (v 50), (v 51), (v 52), (v 53), (v 54), (v 55), (v 56), (v 57), (v 58), (v 59), .slice (some ⟨b, 0, none⟩) t.sc.length t.sc.length, .int .i64 t.sc.length, .int .i64 k, (v 63), (v 64), (v 65), (v 66), (v 67), (v 68), (v 69), (v 70), (v 71), (v 72), (v 73), (v 74), (v 75), (v 76), (v 77), (v 78), (v 79), (v 80), (v 81), (v 82), (v 83), (v 84), (v 85), (v 86), (v 87), (v 88), (v 89)], []⟩ _
  refine wp_seq ?_
  conv => arg 2; whnf
  try dsimp only
  by_cases hlt : k < t.sc.length
  · have hklt : (k : Int) < t.sc.length := by omega
    have h0lt : (0 : Int) < t.sc.length := by omega
    have hb := H.out.2.2.2.2.2.2.1
    have s0 := (H.out.1.keep hb).cell (j := 0) (by rw [H.out.2.1]; omega)
    have s1 := (H.out.1.keep hb).cell (j := k) (by rw [H.out.2.1]; exact hlt)
    have u0 := (DatM.keep H.out.2.2.2.1 hb).cell (j := 0) (by rw [H.out.2.2.2.2.1]; omega)
    have u1 := (DatM.keep H.out.2.2.2.1 hb).cell (j := k) (by rw [H.out.2.2.2.2.1]; exact hlt)
    rw [H.out.2.2.2.2.2.1 k hlt] at u1
    obtain ⟨q1, q2, q3⟩ := H.out.2.2.1 0 (by omega)
    obtain ⟨q4, q5, q6⟩ := H.out.2.2.1 k hlt
    rw [q1] at s0
    rw [q4] at s1
    rw [Nat.add_zero] at u0
    obtain ⟨x0, hx0⟩ : ∃ x, p 0 = x := ⟨_, rfl⟩
    obtain ⟨x1, hx1⟩ : ∃ x, p k = x := ⟨_, rfl⟩
    rw [hx0] at s0 q2 q3
    rw [hx1] at s1 q5 q6
    have hee : (gi u 0 == gi u 0) = true := by simp
    generalize gi u 0 = y at *
    have HS := Lib.hid (show x1 - x0 = p k - p 0 by rw [hx0, hx1])
    have htl := soL_take (t := t) (p := p) hk
    have hgr := H.out.2.2.2.2.2.2.2
    obtain ⟨xs, hxs⟩ : ∃ xs, (soL t p).take k = xs := ⟨_, rfl⟩
    rw [hxs] at htl hgr
    have HT := Lib.hid htl; clear htl hx0 hx1 q1 q4 hb
    have HXS := Lib.hid hxs; clear hxs
    have hWw := H.out.2.2.2.2.2.2.1.size
    have HGR := Lib.hid hgr; clear hgr
    go_wp2_with fail
    conv => arg 2; whnf
    go_wp2_with fail
    conv => arg 2; whnf
    go_wp2_with fail
    conv => arg 2; whnf
    go_wp2_with fail
    go_quiet (fail)
    refine nameQ ?_
    intro W4 hW4
    have hB4 : Below w.heap.size w W4 := by rw [hW4]; exact below_drewN (Below.refl _ _) nq
    have b0 := cell_keep hB4 s0
    clear hW4
    have hb34 := H.out.2.2.2.2.2.2.1.trans (hB4.mono hWw)
    have hs4 := hb34.size
    have H4 := Lib.hid (And.intro hb34 (GrF.keep HGR.out hB4)); clear hb34 hB4 s0
    go_wp2_with (at_builtin; refine wpList_append_int rfl _ _ rfl (GrF.keep H4.out.2 ((Below.refl _ _).alloc (Nat.le_refl _) (.cells #[.int .i64 (x1 - x0)] 3))) (x1 - x0) _ _ (by rw [HT.out]; rfl) rfl (block_cell (World.alloc_heap_new W4 _) (j := 0) (by simp)) (by rw [HT.out]; omega) (by simp; omega) ?_)
    intro A' c' w' g1 g2 g3 g4 g5
    clear g3 g4 g5
    try rw [HT.out]
    rw [HS.out, ← HXS.out, soL_snoc hlt] at g1
    have hb' : Below W3.heap.size W3 w' := grown_below (H4.out.1.alloc hs4 _) (Nat.le_refl _) (GrF.keep H4.out.2 ((Below.refl _ _).alloc (Nat.le_refl _) _)) g2
    have H5 := Lib.hid (And.intro g1 hb'); clear g1 g2 hb'
    go_wp2_with fail
    conv => arg 2; whnf
    go_wp2_with fail
    refine ⟨⟨k + 1, A', c', by omega, H5.out.2, H5.out.1, ?_⟩, ?_⟩
    · refine ⟨rfl, rfl, rfl, rfl, rfl, rfl, rfl, rfl, ?_, trivial⟩
      show Value.int .i64 ((k : Int) + 1) = _; go_num
    · show t.sc.length - ((k : Int) + 1).toNat < mu
      omega
  · obtain rfl : k = t.sc.length := by omega
    go_wp2_with fail
    conv => arg 2; whnf
    go_wp2_with fail
    refine HQ.out _ _ A c H.out.2.2.2.2.2.2.1 ?_ (by (refine ⟨rfl, rfl, ?_⟩; repeat (first | exact trivial | refine ⟨rfl, ?_⟩)))
    have := H.out.2.2.2.2.2.2.2
    rwa [List.take_of_length_le (by rw [soL_len]; omega)] at this
theorem results_tmp3 {fn : Func} {a b c : Tmp} (h : fn.results = #[.tmp a, .tmp b, .tmp c]) (tmps : Array Value) (P : Program) (w : World) :
    (results fn tmps).run P w = .ok (.tuple #[tmps.getD a undef, tmps.getD b undef, tmps.getD c undef]) w := by
  simp [results, h]
def SvPost (t : Sk) (w : World) (e : Ending) (w' : World) : Prop := ∃ A c p, e = .returned (.tuple #[.slice A t.sc.length c, .slice none 0 0, .int .i64 0]) ∧ Below w.heap.size w w' ∧ Sms t t.ph p ∧ GrI w' w.heap.size A c (soL t p)
theorem solved_c {t : Sk} {l : SkL} {w : World} (hM : SkM w t l) (ho : RtS t) (hcs : t.sc.length ≤ l.cs) (hn : 0 < t.sc.length) (hz : ∀ p, Sms t t.ph p → ∀ i, i < t.pr.length → ms t t.ph p i = 0) (hu : ∀ u, Lab t.sc.length (prs t) (List.range t.pr.length) u → ∀ i, i < t.sc.length → gi u i = gi u 0) :
    Calls Tryz.prog 12 #[SkV t l, .int .i64 0] w (SvPost t w) := by
  have hm := ho.net.m_le
  have h60 := ho.net.n_le
  have HM := Lib.hid (And.intro hM (And.intro ho (And.intro hcs (And.intro hz hu)))); clear hM ho hcs hz hu
  have HCK := Lib.hid (fun W (hB : Below w.heap.size w W) => ctask7_c (HM.out.1.keep hB) HM.out.2.1 HM.out.2.2.1)
  have HMS := Lib.hid (fun W (hB : Below w.heap.size w W) => misses_c (M := 100000000) (l := l) (H := l.H) (ch := l.ch) (ph := t.ph) (HM.out.1.net.keep hB) HM.out.2.1.net (HM.out.1.ph.keep hB) HM.out.2.1.lph (by omega) (fun i hi => HM.out.2.1.ph i (by rw [HM.out.2.1.lph]; exact hi)))
  unfold SkV at *
  unfold NetV at *
  go_enter Tryz.func12, Tryz.ntmps12
  show Code.wp Tryz.prog (.seq (Tryz.f12.sub [0]) (.seq (Tryz.f12.sub [1, 0]) (.seq (Tryz.f12.sub [1, 1, 0]) (.seq (Tryz.f12.sub [1, 1, 1, 0]) (.seq (Tryz.f12.sub [1, 1, 1, 1, 0]) (.seq (.seq (Tryz.f12.sub [1, 1, 1, 1, 1, 0, 0]) (.block 0 (.loop (Tryz.f12.sub [1, 1, 1, 1, 1, 0, 1, 0, 0])))) (.seq (Tryz.f12.sub [1, 1, 1, 1, 1, 1, 0]) (.seq (Tryz.f12.sub [1, 1, 1, 1, 1, 1, 1, 0]) (.seq (Tryz.f12.sub [1, 1, 1, 1, 1, 1, 1, 1, 0]) (.seq (.seq (Tryz.f12.sub [1, 1, 1, 1, 1, 1, 1, 1, 1, 0, 0]) (.block 2 (.loop (Tryz.f12.sub [1, 1, 1, 1, 1, 1, 1, 1, 1, 0, 1, 0, 0])))) (Tryz.f12.sub [1, 1, 1, 1, 1, 1, 1, 1, 1, 1]))))))))))) _ _ _
  refine wp_seq ?_
  conv => arg 2; whnf
  go_wp2_with fail
  refine nameC ?_
  intro W1 hW1
  obtain ⟨hB1, e1⟩ := alloc1 w _ hW1
  clear hW1
  obtain ⟨G, hG⟩ : ∃ G, w.heap.size = G := ⟨_, rfl⟩
  rw [hG] at e1
  rw [hG]
  have g0 : W1.cell? ⟨G, 0, none⟩ = some (.slice l.S t.sc.length l.cs) := block_cell e1 (j := 0) (by simp)
  have g1 : W1.cell? ⟨G, 1, none⟩ = some (.slice l.P t.pr.length l.cp) := block_cell e1 (j := 1) (by simp)
  have g2 : W1.cell? ⟨G, 2, none⟩ = some (.slice l.H t.ph.length l.ch) := block_cell e1 (j := 2) (by simp)
  have g3 : W1.cell? ⟨G, 3, none⟩ = some (.slice l.W t.ws.length l.cw) := block_cell e1 (j := 3) (by simp)
  have HB := Lib.hid (And.intro hB1 e1); clear hB1 e1
  have HG := Lib.hid hG; clear hG
  conv => arg 2; whnf
  go_wp2_with fail
  refine (HCK.out W1 HB.out.1).mono ?_
  rintro e W2 ⟨rfl, hB2⟩
  have hB02 := HB.out.1.trans (hB2.mono HB.out.1.size)
  have e2 := (hB2.block _ (Array.getElem?_eq_some_iff.1 HB.out.2).1).trans HB.out.2
  have H2 := Lib.hid (And.intro hB02 e2); clear hB02 e2 hB2 g0 g1 g2 g3 HCK
  have g0 : W2.cell? ⟨G, 0, none⟩ = some (.slice l.S t.sc.length l.cs) := block_cell H2.out.2 (j := 0) (by simp)
  have g1 : W2.cell? ⟨G, 1, none⟩ = some (.slice l.P t.pr.length l.cp) := block_cell H2.out.2 (j := 1) (by simp)
  go_wp2_with fail
  conv => arg 2; whnf
  go_wp2_with fail
  refine nameC ?_
  intro W3 hW3
  obtain ⟨hB3, e3⟩ := alloc1 W2 _ hW3
  clear hW3
  have hB03 := H2.out.1.trans (hB3.mono H2.out.1.size)
  have e2' := (hB3.block _ (Array.getElem?_eq_some_iff.1 H2.out.2).1).trans H2.out.2
  obtain ⟨G2, hG2⟩ : ∃ G2, W2.heap.size = G2 := ⟨_, rfl⟩
  rw [hG2] at e3
  rw [hG2]
  have H3 := Lib.hid (And.intro hB03 (And.intro e2' e3)); clear hB03 e2' e3 hB3 hG2 g0 g1 H2
  have d0 : W3.cell? ⟨G2, 0, none⟩ = some (.slice l.S t.sc.length l.cs) := block_cell H3.out.2.2 (j := 0) (by simp)
  have d1 : W3.cell? ⟨G2, 1, none⟩ = some (.slice l.P t.pr.length l.cp) := block_cell H3.out.2.2 (j := 1) (by simp)
  have g2 : W3.cell? ⟨G, 2, none⟩ = some (.slice l.H t.ph.length l.ch) := block_cell H3.out.2.1 (j := 2) (by simp)
  have HWI := Lib.hid (fun W => swithin_c 0 0 ((t.sc.length : Int) - 1) true (by simp; omega) W)
  conv => arg 2; whnf
  go_wp2_with fail
  refine (HWI.out W3).mono ?_
  rintro e W3' ⟨rfl, rfl⟩
  go_wp2_with fail
  conv => arg 2; whnf
  go_wp2_with fail
  conv => arg 2; whnf
  go_wp2_with fail
  refine (HMS.out W3 H3.out.1).mono ?_
  rintro e W4 ⟨MA, mc, p, rfl, hB4, hSm, hGr, hbd⟩
  have hB04 := H3.out.1.trans (hB4.mono H3.out.1.size)
  have e4 := (hB4.block _ (Array.getElem?_eq_some_iff.1 H3.out.2.1).1).trans H3.out.2.1
  have e4' := (hB4.block _ (Array.getElem?_eq_some_iff.1 H3.out.2.2).1).trans H3.out.2.2
  have hms : ∀ i, i < t.pr.length → gi (msL t t.ph p) i = 0 := fun i hi => by rw [msL_get hi]; exact HM.out.2.2.2.1 p hSm i hi
  have H4 := Lib.hid (And.intro hB04 (And.intro e4 (And.intro e4' (And.intro hms (GrI.rd hGr))))); clear hB04 e4 e4' hms hGr hB4 hSm hbd HMS d0 d1 g2
  go_wp2_with fail
  conv => arg 2; whnf
  go_wp2_with fail
  refine wp_loop (LoopS1 W4 t.pr.length mc MA (.int .i64 0) (.pointer (some ⟨G, 0, none⟩)) (.pointer (some ⟨G2, 0, none⟩))) (fun a _ => t.pr.length - (intOf (a.tmps.getD 38 undef)).toNat) ⟨0, Nat.zero_le _, rfl, by (refine ⟨rfl, rfl, ?_⟩; repeat (first | exact trivial | refine ⟨rfl, ?_⟩))⟩ ?_
  intro a wr hI
  refine sv_first hm (msL_len t t.ph p) H4.out.2.2.2.1 H4.out.2.2.2.2 ?_ hI
  intro a' hfr
  rename_i K6 hK6
  obtain ⟨v, rfl⟩ := hfr.open
  clear hfr hI
  refine hK6 _ _ ?_
  clear hK6
  have d0 : W4.cell? ⟨G2, 0, none⟩ = some (.slice l.S t.sc.length l.cs) := block_cell H4.out.2.2.1 (j := 0) (by simp)
  have d1 : W4.cell? ⟨G2, 1, none⟩ = some (.slice l.P t.pr.length l.cp) := block_cell H4.out.2.2.1 (j := 1) (by simp)
  have g2 : W4.cell? ⟨G, 2, none⟩ = some (.slice l.H t.ph.length l.ch) := block_cell H4.out.2.1 (j := 2) (by simp)
  show Code.wp Tryz.prog (.seq (Tryz.f12.sub [1, 1, 1, 1, 1, 1, 0]) (.seq (Tryz.f12.sub [1, 1, 1, 1, 1, 1, 1, 0]) (.seq (Tryz.f12.sub [1, 1, 1, 1, 1, 1, 1, 1, 0]) (.seq (.seq (Tryz.f12.sub [1, 1, 1, 1, 1, 1, 1, 1, 1, 0, 0]) (.block 2 (.loop (Tryz.f12.sub [1, 1, 1, 1, 1, 1, 1, 1, 1, 0, 1, 0, 0])))) (Tryz.f12.sub [1, 1, 1, 1, 1, 1, 1, 1, 1, 1]))))) _ ⟨#[(v 0), .int .i64 0, .pointer (some ⟨G, 0, none⟩), (v 3), (v 4), (v 5), (v 6), (v 7), .pointer (some ⟨G2, 0, none⟩), .slice none 0 0, (v 10), (v 11), (v 12), (v 13), (v 14), (v 15), (v 16), (v 17), (v 18), (v 19), (v 20), (v 21), (v 22), (v 23), (v 24), (v 25), (v 26), (v 27), (v 28), (v 29), (v 30), (v 31), (v 32), (v 33), (v 34), (v 35), (v 36), (v 37), (v 38), (v 39), (v 40), (v 41), (v 42), (v 43), (v 44), (v 45), (v 46), (v 47), (v 48), (v 49), (v 50), (v 51), (v 52), (v 53), (v 54), (v 55), (v 56), (v 57), (v 58), (v 59), (v 60), (v 61), (v 62), (v 63), (v 64), (v 65), (v 66), (v 67), (v 68), (v 69), (v 70), (v 71), (v 72), (v 73), (v 74), (v 75), (v 76), (v 77), (v 78), (v 79), (v 80), (v 81), (v 82), (v 83), (v 84), (v 85), (v 86), (v 87), (v 88), (v 89)], []⟩ _
  refine wp_seq ?_
  conv => arg 2; whnf
  try dsimp only
  go_wp2_with fail
  refine sv_two (M := 100000000) (l := l) (HM.out.1.net.keep H4.out.1) HM.out.2.1.net (HM.out.1.ph.keep H4.out.1) HM.out.2.1.lph (by omega) (fun i hi => HM.out.2.1.ph i (by rw [HM.out.2.1.lph]; exact hi)) hn g2 d0 d1 ?_
  intro a5 W5 b out p' b2 o2 c u hB5 hO hol hSm' hv hD hL hfr
  rename_i K7 hK7
  obtain ⟨v', rfl⟩ := hfr.open
  clear hfr
  refine hK7 _ _ ?_
  clear hK7
  have H5 := Lib.hid (And.intro (H4.out.1.trans (hB5.mono H4.out.1.size)) (And.intro hO (And.intro hol (And.intro hSm' (And.intro hv (And.intro hD (And.intro hL.len (HM.out.2.2.2.2 u hL)))))))); clear hB5 hO hol hSm' hv hD hL d0 d1 g2
  show Code.wp Tryz.prog (.seq (Tryz.f12.sub [1, 1, 1, 1, 1, 1, 1, 1, 0]) (.seq (.seq (Tryz.f12.sub [1, 1, 1, 1, 1, 1, 1, 1, 1, 0, 0]) (.block 2 (.loop (Tryz.f12.sub [1, 1, 1, 1, 1, 1, 1, 1, 1, 0, 1, 0, 0])))) (Tryz.f12.sub [1, 1, 1, 1, 1, 1, 1, 1, 1, 1]))) _ ⟨#[(v' 0), .int .i64 0, (v' 2), (v' 3), (v' 4), (v' 5), (v' 6), (v' 7), (v' 8), (v' 9), (v' 10), (v' 11), .slice (some ⟨b, 0, none⟩) t.sc.length t.sc.length, .slice (some ⟨b2, o2, none⟩) t.sc.length c, (v' 14), (v' 15), (v' 16), (v' 17), (v' 18), (v' 19), (v' 20), (v' 21), (v' 22), (v' 23), (v' 24), (v' 25), (v' 26), (v' 27), (v' 28), (v' 29), (v' 30), (v' 31), (v' 32), (v' 33), (v' 34), (v' 35), (v' 36), (v' 37), (v' 38), (v' 39), (v' 40), (v' 41), (v' 42), (v' 43), (v' 44), (v' 45), (v' 46), (v' 47), (v' 48), (v' 49), (v' 50), (v' 51), (v' 52), (v' 53), (v' 54), (v' 55), (v' 56), (v' 57), (v' 58), (v' 59), (v' 60), (v' 61), (v' 62), (v' 63), (v' 64), (v' 65), (v' 66), (v' 67), (v' 68), (v' 69), (v' 70), (v' 71), (v' 72), (v' 73), (v' 74), (v' 75), (v' 76), (v' 77), (v' 78), (v' 79), (v' 80), (v' 81), (v' 82), (v' 83), (v' 84), (v' 85), (v' 86), (v' 87), (v' 88), (v' 89)], []⟩ _
  refine wp_seq ?_
  conv => arg 2; whnf
  try dsimp only
  go_wp2_with fail
  conv => arg 2; whnf
  go_wp2_with fail
  refine wp_loop (LoopS2 W5 t p' b b2 o2 c) (fun a _ => t.sc.length - (intOf (a.tmps.getD 62 undef)).toNat) ⟨0, none, 0, Nat.zero_le _, Below.refl _ _, GrF.start _ _, by (refine ⟨rfl, rfl, ?_⟩; repeat (first | exact trivial | refine ⟨rfl, ?_⟩))⟩ ?_
  intro a6 w6 hI
  refine sv_second h60 H5.out.2.1 H5.out.2.2.1 H5.out.2.2.2.2.1 H5.out.2.2.2.2.2.1 H5.out.2.2.2.2.2.2.1 H5.out.2.2.2.2.2.2.2 ?_ hI
  intro a7 w7 A c' hB7 hG7 hfr
  rename_i K8 hK8
  obtain ⟨v7, rfl⟩ := hfr.open
  clear hfr hI
  refine hK8 _ _ ?_
  clear hK8
  have HZ := Lib.hid (And.intro hB7 hG7); clear hB7 hG7
  show Code.wp Tryz.prog (Tryz.f12.sub [1, 1, 1, 1, 1, 1, 1, 1, 1, 1]) _ ⟨#[(v7 0), (v7 1), (v7 2), (v7 3), (v7 4), (v7 5), (v7 6), (v7 7), (v7 8), (v7 9), (v7 10), (v7 11), (v7 12), (v7 13), .slice A t.sc.length c', (v7 15), (v7 16), (v7 17), (v7 18), (v7 19), (v7 20), (v7 21), (v7 22), (v7 23), (v7 24), (v7 25), (v7 26), (v7 27), (v7 28), (v7 29), (v7 30), (v7 31), (v7 32), (v7 33), (v7 34), (v7 35), (v7 36), (v7 37), (v7 38), (v7 39), (v7 40), (v7 41), (v7 42), (v7 43), (v7 44), (v7 45), (v7 46), (v7 47), (v7 48), (v7 49), (v7 50), (v7 51), (v7 52), (v7 53), (v7 54), (v7 55), (v7 56), (v7 57), (v7 58), (v7 59), (v7 60), (v7 61), (v7 62), (v7 63), (v7 64), (v7 65), (v7 66), (v7 67), (v7 68), (v7 69), (v7 70), (v7 71), (v7 72), (v7 73), (v7 74), (v7 75), (v7 76), (v7 77), (v7 78), (v7 79), (v7 80), (v7 81), (v7 82), (v7 83), (v7 84), (v7 85), (v7 86), (v7 87), (v7 88), (v7 89)], []⟩ _
  conv => arg 2; whnf
  try dsimp only
  go_wp2_with fail
  refine bodyPost_ret (results_tmp3 Tryz.results12 _ _ _) rfl ?_
  exact ⟨A, c', p', rfl, H5.out.1.trans (HZ.out.1.mono H5.out.1.size), H5.out.2.2.2.1, HZ.out.2.low H5.out.1.size⟩
theorem rd4 {w : World} {b : Nat} {x y z u : Int} (h : w.heap[b]? = some (.cells #[.int .i64 x, .int .i64 y, .int .i64 z, .int .i64 u] 3 (0, 0))) : RdI w (some ⟨b, 0, none⟩) [x, y, z, u] := by
  intro j hj
  have hj4 : j < 4 := hj
  refine ⟨b, 0, rfl, ?_⟩
  match j, hj4 with
  | 0, _ => exact block_cell h (j := 0) (by simp)
  | 1, _ => exact block_cell h (j := 1) (by simp)
  | 2, _ => exact block_cell h (j := 2) (by simp)
  | 3, _ => exact block_cell h (j := 3) (by simp)
theorem lab4 (ws : List Int) (x : Int) : ∀ u, Lab (tk4 x ws).sc.length (prs (tk4 x ws)) (List.range (tk4 x ws).pr.length) u → ∀ i, i < (tk4 x ws).sc.length → gi u i = gi u 0 := by
  intro u hu i hi
  have hu' : Lab 4 ps4 (List.range 4) u := hu
  have e := hu'.uniq_mem kr4.2 (fun i => by simp [List.mem_range]; omega)
  subst e
  have : i < 4 := hi
  match i, this with
  | 0, _ => rfl
  | 1, _ => rfl
  | 2, _ => rfl
  | 3, _ => rfl
theorem so4 (ws : List Int) {p : Nat → Int} (h : Sms (tk4 1500 ws) (tk4 1500 ws).ph p) : soL (tk4 1500 ws) p = [0, 1000, 1500, 1200] := by
  obtain ⟨p0, p1, p2, p3⟩ := pot4 ws h
  show [p 0 - p 0, p 1 - p 0, p 2 - p 0, p 3 - p 0] = _
  rw [p0, p1, p2, p3]
  rfl
def E4Post (w : World) (e : Ending) (w' : World) : Prop := ∃ K kc X, e = .returned (.tuple #[.slice K 4 kc, X, .int .i64 1, .int .i64 0]) ∧ Below w.heap.size w w' ∧ RdI w' K [0, 0, 1, 0]
theorem ex_cor4 {l : SkL} {w : World} (hM : SkM w (tk4 5596 [3, 2, 1, 5]) l) (hcs : 4 ≤ l.cs) : Calls Tryz.prog 6 #[SkV (tk4 5596 [3, 2, 1, 5]) l] w (E4Post w) := by
  refine (corrections_c hM (rt4 (by omega) (by omega) (by omega) (by omega) (by omega)) hcs).mono ?_
  rintro e w' ⟨p, x, hB, hS, hC, h | ⟨rfl, K, kc, X, q, xs, rfl, hK, hX, hSo⟩⟩
  · exact absurd (code4 _ hS hC) h.1
  · obtain ⟨h1, h2⟩ := cor4 hS hSo
    rw [h1]
    rw [h2] at hK
    exact ⟨K, kc, _, rfl, hB, GrI.rd hK⟩
def F4Post (w : World) (e : Ending) (w' : World) : Prop := ∃ A c, e = .returned (.tuple #[.slice A 4 c, .slice none 0 0, .int .i64 0]) ∧ Below w.heap.size w w' ∧ RdI w' A [0, 1000, 1500, 1200]
theorem ex_sol4 {l : SkL} {w : World} (hM : SkM w (tk4 1500 [1, 1, 1, 1]) l) (hcs : 4 ≤ l.cs) : Calls Tryz.prog 12 #[SkV (tk4 1500 [1, 1, 1, 1]) l, .int .i64 0] w (F4Post w) := by
  refine (solved_c hM (rt4 (by omega) (by omega) (by omega) (by omega) (by omega)) hcs (show 0 < 4 by decide) (fun p hp i hi => miss4 _ hp hi) (lab4 _ _)).mono ?_
  rintro e w' ⟨A, c, p, rfl, hB, hS, hG⟩
  rw [so4 _ hS] at hG
  exact ⟨A, c, rfl, hB, GrI.rd hG⟩
theorem stacked_c (w : World) : Calls Tryz.prog 4 #[] w fun e w' => e = .returned (.bool true) ∧ Below w.heap.size w w' := by
  go_enter Tryz.func4, Tryz.ntmps4
  go_wp2_with fail
  refine nameCl ?_
  intro w1 hw1
  obtain ⟨hB1, hX1⟩ := alloc1 w _ hw1
  clear hw1
  refine (task4_c (rd4 hX1)).mono ?_
  rintro e w2 ⟨l, rfl, hB2, hM2, hcs⟩
  have HE := Lib.hid (ex_cor4 hM2 hcs)
  generalize SkV (tk4 5596 [3, 2, 1, 5]) l = tv at *
  have H2 := Lib.hid (hB1.trans (hB2.mono hB1.size)); clear hB1 hB2 hX1 hM2 hcs
  go_wp2_with fail
  refine HE.out.mono ?_
  rintro e w3 ⟨K, kc, X, rfl, hB3, hK⟩
  have H3 := Lib.hid (And.intro (H2.out.trans (hB3.mono H2.out.size)) hK); clear hB3 hK HE H2
  go_wp2_with fail
  refine nameCl ?_
  intro w4 hw4
  obtain ⟨hB4, hX4⟩ := alloc1 w3 _ hw4
  clear hw4
  refine (task4_c (rd4 hX4)).mono ?_
  rintro e w5 ⟨l', rfl, hB5, hM5, hcs'⟩
  have HE := Lib.hid (ex_sol4 hM5 hcs')
  generalize SkV (tk4 1500 [1, 1, 1, 1]) l' = tv' at *
  have hB35 := hB4.trans (hB5.mono hB4.size)
  have H5 := Lib.hid (And.intro (H3.out.1.trans (hB35.mono H3.out.1.size)) (H3.out.2.keep hB35)); clear hB4 hB5 hX4 hM5 hcs' hB35 H3
  go_wp2_with fail
  refine HE.out.mono ?_
  rintro e w6 ⟨A, c, rfl, hB6, hA⟩
  have H6 := Lib.hid (And.intro (H5.out.1.trans (hB6.mono H5.out.1.size)) (And.intro (H5.out.2.keep hB6) hA)); clear hB6 hA HE H5
  go_wp2_with fail
  refine nameCl ?_
  intro w7 hw7
  obtain ⟨hB7, hX7⟩ := alloc1 w6 _ hw7
  clear hw7
  refine (ints_c (xs := [0, 0, 1, 0]) (H6.out.2.1.keep hB7) (rd4 hX7) (by decide)).mono ?_
  rintro e w8 ⟨rfl, n, rfl⟩
  have H8 := Lib.hid (And.intro (H6.out.1.trans (hB7.mono H6.out.1.size)) (H6.out.2.2.keep hB7)); clear hB7 hX7 H6
  go_wp2_with fail
  refine nameCl ?_
  intro w9 hw9
  obtain ⟨hB9, hX9⟩ := alloc1 (w7.drewN n) _ hw9
  clear hw9
  have hBn : Below w7.heap.size w7 (w7.drewN n) := below_drewN (Below.refl _ _) n
  have hB79 := hBn.trans (hB9.mono hBn.size)
  refine (ints_c (xs := [0, 1000, 1500, 1200]) (H8.out.2.keep hB79) (rd4 hX9) (by decide)).mono ?_
  rintro e w10 ⟨rfl, n', rfl⟩
  have H9 := Lib.hid (H8.out.1.trans (hB79.mono H8.out.1.size)); clear hB9 hX9 hBn hB79
  go_wp2_with fail
  go_ret
  exact ⟨rfl, below_drewN H9.out n'⟩
theorem Sms.ex {t : Sk} (ho : NetOk t) {ph : List Int} {p : Nat → Int} (h : Sms t ph p) (ph' : List Int) : ∃ p', Sms t ph' p' := by
  obtain ⟨ys, T, u, h⟩ := h
  obtain ⟨p', hp⟩ := h.kr.pot ph' (fun i hi => (perm_bd ho h.perm i hi).2) u h.lab
  exact ⟨p', ys, T, u, h.perm, h.std, h.kr, h.lab, hp⟩
theorem CodeS.ok {t : Sk} {p : Nat → Int} (h : CodeS t p 0) : (∀ i, i < t.pr.length → (4096 : Int) ∣ ms t t.ph p i) ∧ ∀ i, i < t.pr.length → SmallJ (jS t p i) := by
  rcases h with ⟨h, _⟩ | ⟨h, _⟩ | ⟨_, h⟩
  · omega
  · omega
  · exact h
theorem kL_good {t : Sk} (ho : RtS t) {p : Nat → Int} (h : Sms t t.ph p) (hc : CodeS t p 0) {q xs : List Int} {c : Int} (hs : Solved t.sc.length 1000 (edS t p) q xs c) : GoodK t (kL (edS t p) q) := by
  obtain ⟨h1, h2⟩ := hc.ok
  obtain ⟨p', hp⟩ := h.ex ho.net (corr t.ph (kL (edS t p) q))
  refine ⟨by rw [kL_len, edS_len, ho.lph], fun i hi => ?_, p', hp, fun i hi => kL_closes ho h h1 hp hi⟩
  rw [kL_len, edS_len] at hi
  exact kL_bd ho h2 hs hi
theorem good_least {t : Sk} (ho : RtS t) {p : Nat → Int} (h : Sms t t.ph p) (hc : CodeS t p 0) {q xs ks : List Int} (hs : Solved t.sc.length 1000 (edS t p) q xs (cost (edS t p) q)) (hg : GoodK t ks) : cost (edS t p) q ≤ costK t ks := by
  obtain ⟨h1, h2⟩ := hc.ok
  obtain ⟨_, _, p', hp, hz⟩ := hg
  have := least ho h h1 h2 hp hz hs.right
  rw [hs.value] at this
  exact this
def CopyP (t : Sk) (w : World) (e : Ending) (w' : World) : Prop := ∃ l, e = .returned (SkV t l) ∧ Below w.heap.size w w' ∧ SkM w' t l ∧ t.sc.length ≤ l.cs
theorem copyTask7_c {t : Sk} {l : SkL} {w : World} (hM : SkM w t l) (ho : RtS t) : Calls Tryz.prog 7 #[SkV t l] w (CopyP t w) := by
  have h60 := ho.net.n_le
  have h200 := ho.net.m_le
  have h1 := ho.lph
  have h2 := ho.lws
  refine (copyTask_c hM (by omega) (by omega) (by omega) (by omega)).mono ?_
  rintro e w' ⟨l', rfl, hB, g1, g2, g3, g4⟩
  refine ⟨l', rfl, hB, ⟨⟨GrSc.rdS g1 fun j hj => ?_, GrRp.rdP g2⟩, GrI.rd g3, GrI.rd g4⟩, g1.le⟩
  have h := (ho.net.name j hj).hi
  simp only [maxLen]
  omega
theorem law_tail {t : Sk} {l : SkL} {ks : List Int} {TA : Option Addr} {tc G : Nat} {w W : World} (hM : SkM W t l) (ho : RtS t) (hT : RdI W TA ks) (h250 : ks.length ≤ 250) (hB : Below w.heap.size w W)
    (hG : W.heap[G]? = some (.cells #[.slice l.S t.sc.length l.cs, .slice l.P t.pr.length l.cp, .slice l.H t.ph.length l.ch, .slice l.W t.ws.length l.cw] 28 (0, 0))) {u0 u3 u5 u6 u7 u8 u9 u10 u11 u12 u13 u14 u15 u16 u17 u18 u19 u20 u21 u22 u23 u24 u25 u26 u27 u28 u29 u30 u31 u32 u33 u34 u35 u36 u37 u38 u39 u40 u41 u42 u43 u44 u45 u46 u47 u48 u49 u50 u51 u52 u53 u54 u55 u56 u57 u58 u59 u60 u61 u62 u63 u64 u65 u66 u67 u68 u69 u70 u71 u72 u73 u74 u75 u76 u77 u78 u79 u80 u81 u82 u83 u84 u85 u86 u87 u88 u89 u90 u91 u92 u93 u94 u95 u96 u97 u98 u99 u100 u101 u102 u103 u104 u105 u106 u107 u108 u109 u110 u111 u112 u113 u114 u115 u116 u117 u118 u119 u120 u121 u122 u123 u124 : Value} :
    Code.wp Tryz.prog (Tryz.f3.sub [1, 1, 1]) (bodyPost Tryz.prog Tryz.f3 (fun e w' => e = .returned (.bool true) ∧ Below w.heap.size w w')) ⟨#[u0, .slice TA ks.length tc, .pointer (some ⟨G, 0, none⟩), u3, .bool false, u5, u6, u7, u8, u9, u10, u11, u12, u13, u14, u15, u16, u17, u18, u19, u20, u21, u22, u23, u24, u25, u26, u27, u28, u29, u30, u31, u32, u33, u34, u35, u36, u37, u38, u39, u40, u41, u42, u43, u44, u45, u46, u47, u48, u49, u50, u51, u52, u53, u54, u55, u56, u57, u58, u59, u60, u61, u62, u63, u64, u65, u66, u67, u68, u69, u70, u71, u72, u73, u74, u75, u76, u77, u78, u79, u80, u81, u82, u83, u84, u85, u86, u87, u88, u89, u90, u91, u92, u93, u94, u95, u96, u97, u98, u99, u100, u101, u102, u103, u104, u105, u106, u107, u108, u109, u110, u111, u112, u113, u114, u115, u116, u117, u118, u119, u120, u121, u122, u123, u124], []⟩ W := by
  have HCP := Lib.hid (copyTask7_c hM ho)
  have HNO := Lib.hid (fun W' (hb : Below W.heap.size W W') => rnetOf_c (hM.keep hb) ho)
  have HCK := Lib.hid (fun W' xs A c (hb : Below W.heap.size W W') (hr : RdI W' A xs) (hx : xs.length ≤ 250) => rcheck_c (TA := A) (tc := c) (hM.keep hb) ho hr hx)
  unfold SkV at HCP HNO HCK
  have H := Lib.hid (And.intro ho (And.intro hT (And.intro hB hG)))
  have c0 : W.cell? ⟨G, 0, none⟩ = some (.slice l.S t.sc.length l.cs) := block_cell hG (j := 0) (by simp)
  have c1 : W.cell? ⟨G, 1, none⟩ = some (.slice l.P t.pr.length l.cp) := block_cell hG (j := 1) (by simp)
  have c2 : W.cell? ⟨G, 2, none⟩ = some (.slice l.H t.ph.length l.ch) := block_cell hG (j := 2) (by simp)
  have c3 : W.cell? ⟨G, 3, none⟩ = some (.slice l.W t.ws.length l.cw) := block_cell hG (j := 3) (by simp)
  clear hM ho hT hB hG
  show Code.wp Tryz.prog (.seq (Tryz.f3.sub [1, 1, 1, 0]) (.seq (Tryz.f3.sub [1, 1, 1, 1, 0]) (.seq (Tryz.f3.sub [1, 1, 1, 1, 1, 0]) (.seq (Tryz.f3.sub [1, 1, 1, 1, 1, 1, 0]) (.seq (Tryz.f3.sub [1, 1, 1, 1, 1, 1, 1, 0]) (.seq (Tryz.f3.sub [1, 1, 1, 1, 1, 1, 1, 1, 0]) (.seq (Tryz.f3.sub [1, 1, 1, 1, 1, 1, 1, 1, 1, 0]) (Tryz.f3.sub [1, 1, 1, 1, 1, 1, 1, 1, 1, 1])))))))) _ _ _
  refine wp_seq ?_
  conv => arg 2; whnf
  try dsimp only
  go_wp2_with fail
  refine HCP.out.mono ?_
  rintro e W1 ⟨l', rfl, hB1, hM1, hcs⟩
  have HCO := Lib.hid (corrections_c hM1 H.out.1 hcs)
  generalize SkV t l' = tv at *
  have H1 := Lib.hid hB1; clear hB1 hM1 hcs HCP c0 c1 c2 c3
  go_wp2_with fail
  refine HCO.out.mono ?_
  rintro e W2 ⟨p, x, hB2, hS, hC, hx⟩
  have hB02 := H1.out.trans (hB2.mono H1.out.size)
  have hG2 := (hB02.block _ (Array.getElem?_eq_some_iff.1 H.out.2.2.2).1).trans H.out.2.2.2
  have c0 : W2.cell? ⟨G, 0, none⟩ = some (.slice l.S t.sc.length l.cs) := block_cell hG2 (j := 0) (by simp)
  have c1 : W2.cell? ⟨G, 1, none⟩ = some (.slice l.P t.pr.length l.cp) := block_cell hG2 (j := 1) (by simp)
  have c2 : W2.cell? ⟨G, 2, none⟩ = some (.slice l.H t.ph.length l.ch) := block_cell hG2 (j := 2) (by simp)
  have c3 : W2.cell? ⟨G, 3, none⟩ = some (.slice l.W t.ws.length l.cw) := block_cell hG2 (j := 3) (by simp)
  have HNO2 := Lib.hid (HNO.out W2 hB02)
  have H2 := Lib.hid (And.intro hB02 (And.intro hG2 (And.intro hS hC))); clear hB02 hG2 hS hC hB2 HCO HNO H1
  rcases hx with ⟨hx, rfl⟩ | ⟨rfl, K, kc, X, q, xs, rfl, hK, hX, hSo⟩
  · have hx1 : (x != x) = false := by simp
    have hx2 : (x != 0) = true := by simpa using hx
    have hx3 : (x == x) = true := by simp
    have HX := Lib.hid hx; clear hx
    go_wp2_with fail
    conv => arg 2; whnf
    go_wp2_with fail
    refine HNO2.out.mono ?_
    rintro e W3 ⟨A, c, p', y, rfl, hB3, hS', hC', hE⟩
    have hxy : x = y := (H2.out.2.2.2.congr H.out.1.net (H2.out.2.2.1.uniq H.out.1.net hS')).uniq hC'
    subst hxy
    unfold NetR
    rw [if_neg HX.out]
    have H3 := Lib.hid (H.out.2.2.1.trans ((H2.out.1.trans (hB3.mono H2.out.1.size)).mono H.out.2.2.1.size)); clear hB3 hS' hC' hE
    go_wp2_with fail
    conv => arg 2; whnf
    go_wp2_with fail
    go_ret
    exact ⟨rfl, H3.out.alloc H3.out.size _⟩
  · have hgood := kL_good H.out.1 H2.out.2.2.1 H2.out.2.2.2 hSo
    have hleast := fun ks hg => good_least (ks := ks) H.out.1 H2.out.2.2.1 H2.out.2.2.2 hSo hg
    have hcl := cost_kL (p := p) H.out.1 q
    have hval := hSo.value
    have hright := hSo.right
    have hgd := edS_gd (p := p) H.out.1 (CodeS.ok H2.out.2.2.2).2
    obtain ⟨cc, hcc⟩ : ∃ cc, cost (edS t p) q = cc := ⟨_, rfl⟩
    rw [hcc] at hleast hcl hval ⊢
    have hkl : (kL (edS t p) q).length = t.pr.length := by rw [kL_len, edS_len]
    obtain ⟨kl, hkl'⟩ : ∃ kl, kL (edS t p) q = kl := ⟨_, rfl⟩
    rw [hkl'] at hK hgood hcl hkl
    have hel := edS_len t p
    have hxl := hright.len
    rw [hel] at hxl
    have HP := Lib.hid (And.intro hgood (And.intro hleast (And.intro hcl (And.intro hval (And.intro hright (And.intro hgd (And.intro hkl (And.intro hel hxl))))))))
    have HK := Lib.hid (And.intro (GrI.rd hK) hX)
    have h200 := H.out.1.net.m_le
    clear hgood hleast hcl hval hright hgd hkl hel hxl hSo hK hX hcc hkl'
    go_wp2_with fail
    conv => arg 2; whnf
    go_wp2_with fail
    refine HNO2.out.mono ?_
    rintro e W3 ⟨A, c, p', y, rfl, hB3, hS', hC', hE⟩
    have hpp := H2.out.2.2.1.uniq H.out.1.net hS'
    have hy : (0 : Int) = y := (H2.out.2.2.2.congr H.out.1.net hpp).uniq hC'
    subst hy
    have hE' := hE rfl
    rw [← edS_congr H.out.1.net hpp] at hE'
    unfold NetR
    rw [if_pos rfl]
    have hB03 := H2.out.1.trans (hB3.mono H2.out.1.size)
    have hG3 := (hB3.block _ (Array.getElem?_eq_some_iff.1 H2.out.2.1).1).trans H2.out.2.1
    have H3 := Lib.hid (And.intro hB03 (And.intro hG3 (And.intro (GrF.rdE hE') (And.intro (HK.out.1.keep hB3) (IntB.rd (HK.out.2.keep hB3)))))); clear hB03 hG3 hE' hE hB3 hS' hC' hpp HK HNO2 c0 c1 c2 c3
    go_wp2_with fail
    refine nameC ?_
    intro W4 hW4
    obtain ⟨hB4, hN4⟩ := alloc1 W3 _ hW4
    clear hW4
    have hB04 := H3.out.1.trans (hB4.mono H3.out.1.size)
    have hG4 := (hB4.block _ (Array.getElem?_eq_some_iff.1 H3.out.2.1).1).trans H3.out.2.1
    have c0 : W4.cell? ⟨G, 0, none⟩ = some (.slice l.S t.sc.length l.cs) := block_cell hG4 (j := 0) (by simp)
    have c1 : W4.cell? ⟨G, 1, none⟩ = some (.slice l.P t.pr.length l.cp) := block_cell hG4 (j := 1) (by simp)
    have c2 : W4.cell? ⟨G, 2, none⟩ = some (.slice l.H t.ph.length l.ch) := block_cell hG4 (j := 2) (by simp)
    have c3 : W4.cell? ⟨G, 3, none⟩ = some (.slice l.W t.ws.length l.cw) := block_cell hG4 (j := 3) (by simp)
    obtain ⟨N, hN⟩ : ∃ N, W3.heap.size = N := ⟨_, rfl⟩
    rw [hN] at hN4
    rw [hN]
    have HN := Lib.hid hN; clear hN
    have hck := HCK.out W4 kl K kc hB04 (H3.out.2.2.2.1.keep hB4) (by rw [HP.out.2.2.2.2.2.2.1]; omega)
    rw [HP.out.2.2.2.2.2.2.1] at hck
    have HK4 := Lib.hid hck
    have H4 := Lib.hid (And.intro hB04 (And.intro hG4 (And.intro hN4 (And.intro (H3.out.2.2.1.keep hB4) (H3.out.2.2.2.2.keep hB4))))); clear hB04 hG4 hN4 hB4 hck H3 H2
    conv => arg 2; whnf
    go_wp2_with fail
    conv => arg 2; whnf
    go_wp2_with fail
    refine HK4.out.mono ?_
    rintro e W5 ⟨cv, g, rfl, hB5, hg1, hg2⟩
    obtain rfl : g = 0 := hg1.2 HP.out.1
    obtain rfl : cv = cc := (hg2 HP.out.1).trans HP.out.2.2.1.symm
    have hB05 := H4.out.1.trans (hB5.mono H4.out.1.size)
    have hG5 := (hB5.block _ (Array.getElem?_eq_some_iff.1 H4.out.2.1).1).trans H4.out.2.1
    have hN5 := (hB5.block _ (Array.getElem?_eq_some_iff.1 H4.out.2.2.1).1).trans H4.out.2.2.1
    have n0 : W5.cell? ⟨N, 0, none⟩ = some (.int .i64 t.sc.length) := block_cell hN5 (j := 0) (by simp)
    have n1 : W5.cell? ⟨N, 1, none⟩ = some (.slice A t.pr.length c) := block_cell hN5 (j := 1) (by simp)
    have hfl := flow_c t.sc.length 1000 (edS t p) HP.out.2.2.2.2.2.1 xs A (some ⟨X, 0, none⟩) c t.pr.length W5 (by rw [HP.out.2.2.2.2.2.2.2.2]; omega) (H4.out.2.2.2.1.keep hB5) (H4.out.2.2.2.2.keep hB5)
    rw [HP.out.2.2.2.2.2.2.2.1, HP.out.2.2.2.2.2.2.2.2] at hfl
    have HF := Lib.hid hfl
    have H5 := Lib.hid (And.intro hB05 hG5); clear hB05 hG5 hN5 hB5 hg1 hg2 HK4 H4 hfl c0 c1 c2 c3
    go_wp2_with fail
    conv => arg 2; whnf
    go_wp2_with fail
    refine HF.out.mono ?_
    rintro e W6 ⟨vv, gg, rfl, hf1, hf2, hB6⟩
    obtain rfl : gg = 0 := hf2 HP.out.2.2.2.2.1
    obtain rfl : vv = cv := (hf1 rfl).2.trans HP.out.2.2.2.1
    have hB06 := H5.out.1.trans (hB6.mono H5.out.1.size)
    have hG6 := (hB6.block _ (Array.getElem?_eq_some_iff.1 H5.out.2).1).trans H5.out.2
    have c0 : W6.cell? ⟨G, 0, none⟩ = some (.slice l.S t.sc.length l.cs) := block_cell hG6 (j := 0) (by simp)
    have c1 : W6.cell? ⟨G, 1, none⟩ = some (.slice l.P t.pr.length l.cp) := block_cell hG6 (j := 1) (by simp)
    have c2 : W6.cell? ⟨G, 2, none⟩ = some (.slice l.H t.ph.length l.ch) := block_cell hG6 (j := 2) (by simp)
    have c3 : W6.cell? ⟨G, 3, none⟩ = some (.slice l.W t.ws.length l.cw) := block_cell hG6 (j := 3) (by simp)
    have HCK6 := Lib.hid (HCK.out W6 ks TA tc hB06 (H.out.2.1.keep hB06) h250)
    have hvv : (vv != vv) = false := by simp
    have H6 := Lib.hid hB06; clear hB06 hG6 hB6 hf1 hf2 HF H5 n0 n1
    go_wp2_with fail
    conv => arg 2; whnf
    go_wp2_with fail
    conv => arg 2; whnf
    go_wp2_with fail
    refine HCK6.out.mono ?_
    rintro e W7 ⟨c7, g7, rfl, hB7, hg1, hg2⟩
    have hge : g7 = 0 → vv ≤ c7 := fun h => by rw [hg2 (hg1.1 h)]; exact HP.out.2.1 ks (hg1.1 h)
    have H7 := Lib.hid (H.out.2.2.1.trans ((H6.out.trans (hB7.mono H6.out.size)).mono H.out.2.2.1.size)); clear hB7 hg1 hg2 HCK6 c0 c1 c2 c3
    by_cases h7 : g7 = 0
    · have hge7 := hge h7
      subst h7
      have hd : decide (vv ≤ c7) = true := by simpa using hge7
      clear hge
      go_wp2_with fail
      conv => arg 2; whnf
      go_wp2_with fail
      go_ret
      exact ⟨rfl, H7.out⟩
    · have hb7 : (g7 != 0) = true := by simpa using h7
      clear hge h7
      go_wp2_with fail
      conv => arg 2; whnf
      go_wp2_with fail
      go_ret
      exact ⟨rfl, H7.out⟩
end Go.Proofs.YtjnpchoinncbnaaGreat
end
