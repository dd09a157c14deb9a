/- Proves parts of the statement, each under the conditions that its theorem states: The reference's NetOf: the loops; The reference's NetOf: the contract; Slices of structs that are appended to an empty literal; The reference's copy of a stack. -/
import Derived.Test.YtjnpchoinncbnaaGreatP36
set_option linter.unusedSimpArgs false
set_option linter.unusedVariables false
set_option maxHeartbeats 4000000
set_option maxRecDepth 100000
section
namespace Go.Proofs.YtjnpchoinncbnaaGreat
open Go.RowKit Sw Fam
def LoopRm (W3 : World) (t : Sk) (p : Nat → Int) (MA : Option Addr) (mc : Nat) (v1 v2 v4 : Value) (a : Act) (w : World) : Prop :=
  ∃ (k : Nat), k ≤ t.pr.length ∧ (∀ i, i < k → (4096 : Int) ∣ ms t t.ph p i) ∧ w = W3 ∧ Fr 70 [(1, v1), (2, v2), (4, v4), (5, .slice MA t.pr.length mc), (6, .int .i64 k)] a
theorem rn_first {W3 : World} {t : Sk} {p : Nat → Int} {MA : Option Addr} {mc R : Nat} {v1 v4 : Value} (h200 : t.pr.length ≤ 200) (hM : RdI W3 MA (msL t t.ph p)) (hR : W3.heap[R]? = some (.cells #[.int .i64 0, .slice none 0 0] 37 (0, 0))) {Q : Exit → Act → World → Prop}
    (hQ1 : ∀ a, (∀ i, i < t.pr.length → (4096 : Int) ∣ ms t t.ph p i) → Fr 70 [(1, v1), (2, .pointer (some ⟨R, 0, none⟩)), (4, v4), (5, .slice MA t.pr.length mc)] a → Q (.exit 0) a W3)
    (hQ2 : ∀ a w i, i < t.pr.length → ¬ (4096 : Int) ∣ ms t t.ph p i → Tch [R] W3 w → w.heap[R]? = some (.cells #[.int .i64 0, .slice none 0 0] 37 (0, 0)) → Fr 70 [(2, .pointer (some ⟨R, 0, none⟩)), (3, .int .i64 27)] a → Q .ret a w)
    {a : Act} {w : World} (hI : LoopRm W3 t p MA mc v1 (.pointer (some ⟨R, 0, none⟩)) v4 a w) :
    Code.wp Tryz.prog (Tryz.f8.sub [1, 1, 1, 0, 1, 0, 0]) (Exit.then (fun a' w' => LoopRm W3 t p MA mc v1 (.pointer (some ⟨R, 0, none⟩)) v4 a' w' ∧ t.pr.length - (intOf (a'.tmps.getD 6 undef)).toNat < t.pr.length - (intOf (a.tmps.getD 6 undef)).toNat) Q) a w := by
  obtain ⟨k, hk, hdv, rfl, hfr⟩ := hI
  obtain ⟨v, rfl⟩ := hfr.open
  clear hfr
  generalize hmu : t.pr.length - (intOf ((⟨frL 70 _ v, []⟩ : Act).tmps.getD 6 undef)).toNat = mu
  have hmu' : t.pr.length - k = mu := by rw [← hmu]; rfl
  clear hmu
  have HQ := Lib.hid (And.intro hQ1 hQ2); clear hQ1 hQ2
  have H := Lib.hid (And.intro hdv (And.intro hM hR)); clear hdv hM
  show Code.wp Tryz.prog (.seq (Tryz.f8.sub [1, 1, 1, 0, 1, 0, 0, 0]) (.seq (.block 1 (Tryz.f8.sub [1, 1, 1, 0, 1, 0, 0, 1, 0, 0])) (Tryz.f8.sub [1, 1, 1, 0, 1, 0, 0, 1, 1]))) _
    ⟨#[(v 0), v1, .pointer (some ⟨R, 0, none⟩), (v 3), v4, .slice MA t.pr.length mc, .int .i64 k, (v 7), (v 8), (v 9), (v 10), (v 11), (v 12), (v 13), (v 14), (v 15), (v 16), (v 17), (v 18), (v 19), (v 20), (v 21), (v 22), (v 23), (v 24), (v 25), (v 26), (v 27), (v 28), (v 29), (v 30), (v 31), (v 32), (v 33), (v 34), (v 35), (v 36), (v 37), (v 38), (v 39), (v 40), (v 41), (v 42), (v 43), (v 44), (v 45), (v 46), (v 47), (v 48), (v 49), (v 50), (v 51), (v 52), (v 53), (v 54), (v 55), (v 56), (v 57), (v 58), (v 59), (v 60), (v 61), (v 62), (v 63), (v 64), (v 65), (v 66), (v 67), (v 68), (v 69)], []⟩ _
  refine wp_seq ?_
  conv => arg 2; whnf
  dsimp only
  by_cases hlt : k < t.pr.length
  · have hklt : (k : Int) < t.pr.length := by omega
    obtain ⟨mb, mo, hMA, hc0⟩ := H.out.2.1 k (by rw [msL_len]; exact hlt)
    rw [msL_get hlt] at hc0
    rw [hMA]
    have HA := Lib.hid hMA; clear hMA
    have r0 : w.cell? ⟨R, 0, none⟩ = some (.int .i64 0) := block_cell hR (j := 0) (by simp)
    have r1 : w.cell? ⟨R, 1, none⟩ = some (.slice none 0 0) := block_cell hR (j := 1) (by simp)
    have r2 : w.frozen? ⟨R, 0, none⟩ = false := by simp [World.frozen?, hR]
    have r3 : w.frozen? ⟨R, 1, none⟩ = false := by simp [World.frozen?, hR]
    clear hR
    by_cases hd : (4096 : Int) ∣ ms t t.ph p k
    · have hr : ms t t.ph p k % 4096 = 0 := Int.emod_eq_zero_of_dvd hd
      have HD := Lib.hid hd; clear hd
      obtain ⟨z, hz⟩ : ∃ z, ms t t.ph p k = z := ⟨_, rfl⟩
      rw [hz] at hc0 hr
      clear hz
      have hmod := mod_c z w
      rw [hr] at hmod
      have HM := Lib.hid hmod; clear hmod hr
      go_wp2_with fail
      conv => arg 2; whnf
      go_wp2_with fail
      refine HM.out.mono ?_
      rintro e w' ⟨rfl, rfl⟩
      go_wp2_with fail
      conv => arg 2; whnf
      go_wp2_with fail
      refine ⟨⟨k + 1, by omega, fun i hi => ?_, rfl, ?_⟩, ?_⟩
      · by_cases e : i = k
        · rw [e]; exact HD.out
        · exact H.out.1 i (by omega)
      · refine ⟨rfl, rfl, rfl, rfl, rfl, ?_, ?_, trivial⟩
        · rfl
        · show Value.int .i64 ((k : Int) + 1) = _; go_num
      · show t.pr.length - ((k : Int) + 1).toNat < mu
        omega
    · have hr : ms t t.ph p k % 4096 ≠ 0 := fun e => hd (Int.dvd_of_emod_eq_zero e)
      have HD := Lib.hid hd; clear hd
      obtain ⟨z, hz⟩ : ∃ z, ms t t.ph p k = z := ⟨_, rfl⟩
      rw [hz] at hc0 hr
      clear hz
      obtain ⟨r, hre⟩ : ∃ r, z % 4096 = r := ⟨_, rfl⟩
      have hmod := mod_c z w
      rw [hre] at hmod hr
      have hrb : (r != 0) = true := by simpa using hr
      have HM := Lib.hid hmod; clear hmod hr hre
      go_wp2_with fail
      conv => arg 2; whnf
      go_wp2_with fail
      refine HM.out.mono ?_
      rintro e w' ⟨rfl, rfl⟩
      go_wp2_with fail
      refine HQ.out.2 _ _ k hlt HD.out ?_ ?_ (by (refine ⟨rfl, rfl, ?_⟩; repeat (first | exact trivial | refine ⟨rfl, ?_⟩)))
      · exact ((Tch.refl _ _).set (.inl (by simp)) _).set (.inl (by simp)) _
      · have s1 := heap_setCell_same w R 0 _ _ (.int .i64 0) H.out.2.2
        exact heap_setCell_same _ R 1 _ _ (.slice none 0 0) s1
  · obtain rfl : k = t.pr.length := by omega
    go_wp2_with fail
    exact HQ.out.1 _ H.out.1 (by (refine ⟨rfl, rfl, ?_⟩; repeat (first | exact trivial | refine ⟨rfl, ?_⟩)))
structure RnM (W3 : World) (t : Sk) (l : SkL) (p : Nat → Int) (R G N B : Nat) (MA : Option Addr) : Prop where
  hG : W3.heap[G]? = some (.cells #[.slice l.S t.sc.length l.cs, .slice l.P t.pr.length l.cp, .slice l.H t.ph.length l.ch, .slice l.W t.ws.length l.cw] 28 (0, 0))
  hR : W3.heap[R]? = some (.cells #[.int .i64 0, .slice none 0 0] 37 (0, 0))
  hP : RdQ W3 l.P (prs t)
  hW : RdI W3 l.W t.ws
  hM : RdI W3 MA (msL t t.ph p)
  nG : G < N
  nR : R < N
  nP : ∀ b o, l.P = some ⟨b, o, none⟩ → 0 < t.pr.length → b < N
  nW : ∀ b o, l.W = some ⟨b, o, none⟩ → 0 < t.ws.length → b < N
  nM : ∀ b o, MA = some ⟨b, o, none⟩ → N < b
  nN : N < W3.heap.size
def LoopRn (W3 : World) (t : Sk) (p : Nat → Int) (R G N mc : Nat) (MA : Option Addr) (a : Act) (w : World) : Prop :=
  ∃ (k : Nat) (A : Option Addr) (c : Nat), k ≤ t.pr.length ∧ (∀ i, i < k → SmallJ (jS t p i)) ∧ w.heap[N]? = some (.cells #[.int .i64 t.sc.length, .slice A k c] 37 (0, 0)) ∧ GrE w W3.heap.size A c ((edS t p).take k) ∧ Tch [N] W3 w ∧
    Fr 70 [(1, .pointer (some ⟨G, 0, none⟩)), (2, .pointer (some ⟨R, 0, none⟩)), (4, .pointer (some ⟨N, 0, none⟩)), (5, .slice MA t.pr.length mc), (7, .int .i64 k)] a
theorem rn_loop {t : Sk} {l : SkL} {p : Nat → Int} {R G N B mc : Nat} {MA : Option Addr} {W3 : World} (ho : RtS t) (hS : RnM W3 t l p R G N B MA) (hb : ∀ i, i < t.pr.length → (4096 : Int) ∣ ms t t.ph p i ∧ -100000000000000 ≤ ms t t.ph p i ∧ ms t t.ph p i ≤ 100000000000000) {Q : Exit → Act → World → Prop}
    (hQ1 : ∀ a w A c, (∀ i, i < t.pr.length → SmallJ (jS t p i)) → w.heap[N]? = some (.cells #[.int .i64 t.sc.length, .slice A t.pr.length c] 37 (0, 0)) → GrE w W3.heap.size A c (edS t p) → Tch [N] W3 w → Fr 70 [(2, .pointer (some ⟨R, 0, none⟩)), (4, .pointer (some ⟨N, 0, none⟩))] a → Q (.exit 2) a w)
    (hQ2 : ∀ a w i, i < t.pr.length → ¬ SmallJ (jS t p i) → Tch [R, N] W3 w → w.heap[R]? = some (.cells #[.int .i64 0, .slice none 0 0] 37 (0, 0)) → Fr 70 [(2, .pointer (some ⟨R, 0, none⟩)), (3, .int .i64 8)] a → Q .ret a w)
    {a : Act} {w : World} (hI : LoopRn W3 t p R G N mc MA a w) :
    Code.wp Tryz.prog (Tryz.f8.sub [1, 1, 1, 1, 0, 1, 0, 0]) (Exit.then (fun a' w' => LoopRn W3 t p R G N mc MA a' w' ∧ t.pr.length - (intOf (a'.tmps.getD 7 undef)).toNat < t.pr.length - (intOf (a.tmps.getD 7 undef)).toNat) Q) a w := by
  obtain ⟨k, A, c, hk, hsm, hNb, hG, hT, hfr⟩ := hI
  obtain ⟨v, rfl⟩ := hfr.open
  clear hfr
  generalize hmu : t.pr.length - (intOf ((⟨frL 70 _ v, []⟩ : Act).tmps.getD 7 undef)).toNat = mu
  have hmu' : t.pr.length - k = mu := by rw [← hmu]; rfl
  clear hmu
  have h200 := ho.net.m_le
  have hGw := (hT.block G (by have := hS.nG; have := hS.nN; omega) (by have := hS.nG; simp; omega)).trans hS.hG
  have hRw := (hT.block R (by have := hS.nR; have := hS.nN; omega) (by have := hS.nR; simp; omega)).trans hS.hR
  have HO := Lib.hid (And.intro ho (And.intro hS hb)); clear ho hS hb
  have HQ := Lib.hid (And.intro hQ1 hQ2); clear hQ1 hQ2
  have HG := Lib.hid (And.intro hsm (And.intro hNb (And.intro hG (And.intro hT (And.intro hGw hRw))))); clear hsm hNb hG hT
  show Code.wp Tryz.prog (.seq (Tryz.f8.sub [1, 1, 1, 1, 0, 1, 0, 0, 0]) (.seq (.block 3 (.seq (Tryz.f8.sub [1, 1, 1, 1, 0, 1, 0, 0, 1, 0, 0, 0]) (.seq (Tryz.f8.sub [1, 1, 1, 1, 0, 1, 0, 0, 1, 0, 0, 1, 0]) (Tryz.f8.sub [1, 1, 1, 1, 0, 1, 0, 0, 1, 0, 0, 1, 1])))) (Tryz.f8.sub [1, 1, 1, 1, 0, 1, 0, 0, 1, 1]))) _
    ⟨#[(v 0), .pointer (some ⟨G, 0, none⟩), .pointer (some ⟨R, 0, none⟩), (v 3), .pointer (some ⟨N, 0, none⟩), .slice MA t.pr.length mc, (v 6), .int .i64 k, (v 8), (v 9), (v 10), (v 11), (v 12), (v 13), (v 14), (v 15), (v 16), (v 17), (v 18), (v 19), (v 20), (v 21), (v 22), (v 23), (v 24), (v 25), (v 26), (v 27), (v 28), (v 29), (v 30), (v 31), (v 32), (v 33), (v 34), (v 35), (v 36), (v 37), (v 38), (v 39), (v 40), (v 41), (v 42), (v 43), (v 44), (v 45), (v 46), (v 47), (v 48), (v 49), (v 50), (v 51), (v 52), (v 53), (v 54), (v 55), (v 56), (v 57), (v 58), (v 59), (v 60), (v 61), (v 62), (v 63), (v 64), (v 65), (v 66), (v 67), (v 68), (v 69)], []⟩ _
  refine wp_seq ?_
  conv => arg 2; whnf
  dsimp only
  by_cases hlt : k < t.pr.length
  · obtain ⟨b, o, hA, p0', p1'⟩ := HO.out.2.1.hP k (by rw [prs_len]; exact hlt)
    obtain ⟨mb, mo, hMA, hc0'⟩ := HO.out.2.1.hM k (by rw [msL_len]; exact hlt)
    obtain ⟨wb, wo, hWa, hwc'⟩ := HO.out.2.1.hW k (by rw [HO.out.1.lws]; exact hlt)
    have nP := HO.out.2.1.nP b o hA (by omega)
    have nW := HO.out.2.1.nW wb wo hWa (by have := HO.out.1.lws; omega)
    have nM := HO.out.2.1.nM mb mo hMA
    have p0 := HG.out.2.2.2.1.cell (by simp; omega) p0'
    have p1 := HG.out.2.2.2.1.cell (by simp; omega) p1'
    have hc0 := HG.out.2.2.2.1.cell (by simp; omega) hc0'
    have hwc := HG.out.2.2.2.1.cell (by simp; omega) hwc'
    have mblt : mb < W3.heap.size := World.block_lt_of_cell? _ _ hc0'
    clear p0' p1' hc0' hwc'
    rw [msL_get hlt] at hc0
    rw [hA, HO.out.1.lph, hWa, HO.out.1.lws] at hGw
    rw [hMA]
    have HA := Lib.hid (And.intro hA (And.intro hMA hWa)); clear hA hMA hWa
    have hklt : (k : Int) < t.pr.length := by omega
    obtain ⟨hd, m1, m2⟩ := HO.out.2.2 k hlt
    obtain ⟨x, hx⟩ : ∃ x, (gq (prs t) k).f = x := ⟨_, rfl⟩
    obtain ⟨y, hy⟩ : ∃ y, (gq (prs t) k).s = y := ⟨_, rfl⟩
    rw [hx] at p0
    rw [hy] at p1
    have hjb : -100000000000000 ≤ jS t p k ∧ jS t p k ≤ 100000000000000 := by
      obtain ⟨q, hq⟩ := hd
      unfold jS
      rw [hq, Int.mul_tdiv_cancel_left _ (by decide)]
      omega
    have HJ := Lib.hid (show Int.tdiv (ms t t.ph p k) 4096 = jS t p k from rfl)
    have HN := Lib.hid (And.intro hx hy); clear hx hy hd
    obtain ⟨z, hz⟩ : ∃ z, ms t t.ph p k = z := ⟨_, rfl⟩
    rw [hz] at m1 m2 hc0 HJ
    have hzb : -100000000000000 ≤ Int.tdiv z 4096 ∧ Int.tdiv z 4096 ≤ 100000000000000 := by rw [HJ.out]; exact hjb
    clear hz
    have g1 : w.cell? ⟨G, 1, none⟩ = some (.slice (some ⟨b, o, none⟩) t.pr.length l.cp) := block_cell hGw (j := 1) (by simp)
    have g3 : w.cell? ⟨G, 3, none⟩ = some (.slice (some ⟨wb, wo, none⟩) t.pr.length l.cw) := block_cell hGw (j := 3) (by simp)
    have nG := HO.out.2.1.nG
    have nN := HO.out.2.1.nN
    have nNw : N < w.heap.size := (Array.getElem?_eq_some_iff.1 HG.out.2.1).1
    have hWw := HG.out.2.2.2.1.size
    by_cases hsm : SmallJ (jS t p k)
    · have HSC := Lib.hid (fun W => bwithin_c (Int.tdiv z 4096) (-1000) 1000 true (by rw [HJ.out]; simp; exact hsm) W)
      have HSM := Lib.hid hsm; clear hsm hRw hjb
      have HGW := Lib.hid hGw; clear hGw
      go_wp2_with fail
      conv => arg 2; whnf
      go_wp2_with fail
      refine (HSC.out _).mono ?_
      rintro e W4 ⟨rfl, rfl⟩
      go_wp2_with fail
      conv => arg 2; whnf
      go_wp2_with fail
      refine nameC ?_
      intro W4 hW4
      have hb3 : Below w.heap.size w W4 := by rw [hW4]; exact (Below.refl _ _).alloc (Nat.le_refl _) _
      have hx3 : W4.heap[w.heap.size]? = some (.cells #[.int .i64 x, .int .i64 y] 60 (0, 0)) := by rw [hW4]; exact heap_alloc_new w _
      clear hW4
      have hwb := HO.out.1.ws k (by rw [HO.out.1.lws]; exact hlt)
      have hNb := (hb3.block _ nNw).trans HG.out.2.1
      have hz3 := hb3.size
      have hEy : (⟨x, y, Int.tdiv z 4096, (gi t.ws k).toNat⟩ : Ed) = eS t p k := by unfold eS; rw [HN.out.1, HN.out.2, HJ.out]
      have HEY := Lib.hid hEy; clear hEy
      have hok : OneD.ok ⟨W3.heap.size, N, t.sc.length, A, c, (edS t p).take k, ⟨x, y, Int.tdiv z 4096, (gi t.ws k).toNat⟩⟩ W4 := by
        refine ⟨?_, HG.out.2.2.1.keep hb3, fun e => ?_, ?_, ?_⟩
        · show W4.heap[N]? = some (.cells #[.int .i64 t.sc.length, .slice A ((edS t p).take k).length c] 37 (0, 0))
          rw [edS_take hk]; exact hNb
        · have := (HG.out.2.2.1.lt e).1
          simp only at this
          omega
        · show W3.heap.size ≤ W4.heap.size; omega
        · show ((edS t p).take k).length < 10000; rw [edS_take hk]; omega
      have hSb : ∀ q, q ∈ OneD.S ⟨W3.heap.size, N, t.sc.length, A, c, (edS t p).take k, ⟨x, y, Int.tdiv z 4096, (gi t.ws k).toNat⟩⟩ → q = N ∨ (W3.heap.size ≤ q ∧ q < w.heap.size) := fun q hq => by
        unfold OneD.S at hq
        rw [List.mem_cons, Option.mem_toList] at hq
        rcases hq with rfl | hq
        · exact .inl rfl
        · exact .inr (HG.out.2.2.1.lt hq)
      refine rnet_add (Gb := G) (Wb := wb) (Wo := wo) (lw := t.pr.length) (cw := l.cw) (mm := t.pr.length) (mc := mc) (v2 := .pointer (some ⟨R, 0, none⟩)) (v3 := v 3) hok (block_cell hx3 (j := 0) (by simp)) (block_cell hx3 (j := 1) (by simp)) (fun h => by have := hSb _ h; omega) (cell_keep hb3 g3) (fun h => by have := hSb _ h; omega) (cell_keep hb3 hwc) (fun h => by have := hSb _ h; omega) (cell_keep hb3 hc0) (fun h => by have := hSb _ h; omega) hlt hlt (by omega) (by omega) hwb ⟨m1, m2⟩ hzb ?_
      intro a' w' v1 v2' hC hfr
      rename_i Q6 K6 hK6
      obtain ⟨v', rfl⟩ := hfr.open
      clear hfr
      refine hK6 _ _ ?_
      clear hK6
      have hNd := hC.hd
      have hGr := hC.a1
      rw [if_pos rfl] at hNd hGr
      obtain ⟨A', c', e, hGr, _⟩ := hGr
      subst e
      simp only at hNd hGr
      rw [edS_take hk] at hNd
      rw [HEY.out, edS_snoc hlt] at hGr
      have hbw : Tch [N] W3 w' := by
        refine Tch.mono (S := OneD.S ⟨W3.heap.size, N, t.sc.length, A, c, (edS t p).take k, ⟨x, y, Int.tdiv z 4096, (gi t.ws k).toNat⟩⟩) ((((HG.out.2.2.2.1.mono (fun q hq => .inl ?_)).trans (Tch.of_below hb3)).trans hC.tch)) (fun q hq => ?_)
        · unfold OneD.S; simp at hq; simp [hq]
        · rcases hSb q hq with h | h
          · exact .inl (by simp [h])
          · exact .inr h.1
      have HJ2 := Lib.hid (And.intro hNd (And.intro hGr hbw)); clear hNd hGr hbw hC hSb hok hNb
      show Code.wp Tryz.prog (Tryz.f8.sub [1, 1, 1, 1, 0, 1, 0, 0, 1, 1]) _ ⟨#[(v' 0), .pointer (some ⟨G, 0, none⟩), .pointer (some ⟨R, 0, none⟩), v 3, .pointer (some ⟨N, 0, none⟩), .slice (some ⟨mb, mo, none⟩) t.pr.length mc, (v' 6), .int .i64 k, (v' 8), (v' 9), (v' 10), (v' 11), (v' 12), (v' 13), (v' 14), (v' 15), (v' 16), (v' 17), (v' 18), (v' 19), (v' 20), (v' 21), (v' 22), (v' 23), (v' 24), (v' 25), (v' 26), (v' 27), (v' 28), (v' 29), (v' 30), (v' 31), (v' 32), (v' 33), (v' 34), (v' 35), (v' 36), (v' 37), (v' 38), (v' 39), (v' 40), (v' 41), (v' 42), (v' 43), (v' 44), (v' 45), (v' 46), (v' 47), (v' 48), (v' 49), (v' 50), (v' 51), (v' 52), (v' 53), (v' 54), (v' 55), (v' 56), (v' 57), (v' 58), (v' 59), (v' 60), (v' 61), (v' 62), (v' 63), (v' 64), (v' 65), (v' 66), (v' 67), (v' 68), (v' 69)], []⟩ _
      conv => arg 2; whnf
      dsimp only
      go_wp2_with fail
      refine ⟨⟨k + 1, A', c', by omega, fun i hi => ?_, HJ2.out.1, HJ2.out.2.1, HJ2.out.2.2, ?_⟩, ?_⟩
      · by_cases e : i = k
        · rw [e]; exact HSM.out
        · exact HG.out.1 i (by omega)
      · refine ⟨rfl, rfl, rfl, rfl, rfl, ?_, ?_, trivial⟩
        · rfl
        · show Value.int .i64 ((k : Int) + 1) = _; go_num
      · show t.pr.length - ((k : Int) + 1).toNat < mu
        omega
    · have HSC := Lib.hid (fun W => bwithin_c (Int.tdiv z 4096) (-1000) 1000 false (by rw [HJ.out]; simp; unfold SmallJ at hsm; omega) W)
      have HSM := Lib.hid hsm; clear hsm hjb
      have r0 : w.cell? ⟨R, 0, none⟩ = some (.int .i64 0) := block_cell hRw (j := 0) (by simp)
      have r1 : w.cell? ⟨R, 1, none⟩ = some (.slice none 0 0) := block_cell hRw (j := 1) (by simp)
      have r2 : w.frozen? ⟨R, 0, none⟩ = false := by simp [World.frozen?, hRw]
      have r3 : w.frozen? ⟨R, 1, none⟩ = false := by simp [World.frozen?, hRw]
      have HGW := Lib.hid (And.intro hGw hRw); clear hGw hRw
      go_wp2_with fail
      conv => arg 2; whnf
      go_wp2_with fail
      refine (HSC.out _).mono ?_
      rintro e W4 ⟨rfl, rfl⟩
      go_wp2_with fail
      refine HQ.out.2 _ _ k hlt HSM.out ?_ ?_ (by (refine ⟨rfl, rfl, ?_⟩; repeat (first | exact trivial | refine ⟨rfl, ?_⟩)))
      · exact ((HG.out.2.2.2.1.mono (fun q hq => .inl (by simp at hq; simp [hq]))).set (.inl (by simp)) _).set (.inl (by simp)) _
      · have s1 := heap_setCell_same w R 0 _ _ (.int .i64 0) HG.out.2.2.2.2.2
        exact heap_setCell_same _ R 1 _ _ (.slice none 0 0) s1
  · obtain rfl : k = t.pr.length := by omega
    go_wp2_with fail
    refine HQ.out.1 _ _ A c (fun i hi => HG.out.1 i hi) HG.out.2.1 ?_ HG.out.2.2.2.1 (by (refine ⟨rfl, rfl, ?_⟩; repeat (first | exact trivial | refine ⟨rfl, ?_⟩)))
    have := HG.out.2.2.1
    rwa [List.take_of_length_le (by rw [edS_len]; omega)] at this
theorem rnetOf_c {t : Sk} {l : SkL} {w : World} (hM : SkM w t l) (ho : RtS t) : Calls Tryz.prog 8 #[SkV t l] w (Snd3Post t w) := by
  have HM := Lib.hid (And.intro hM ho); clear hM
  have hln := ho.net.m_le
  clear ho
  unfold SkV
  go_enter Tryz.func8, Tryz.ntmps8
  show Code.wp Tryz.prog (.seq (Tryz.f8.sub [0]) (.seq (Tryz.f8.sub [1, 0]) (.seq (Tryz.f8.sub [1, 1, 0]) (.seq (.seq (Tryz.f8.sub [1, 1, 1, 0, 0]) (.block 0 (.loop (Tryz.f8.sub [1, 1, 1, 0, 1, 0, 0])))) (.seq (.seq (Tryz.f8.sub [1, 1, 1, 1, 0, 0]) (.block 2 (.loop (Tryz.f8.sub [1, 1, 1, 1, 0, 1, 0, 0])))) (Tryz.f8.sub [1, 1, 1, 1, 1])))))) _ _ _
  refine wp_seq ?_
  conv => arg 2; whnf
  go_wp2_with fail
  refine nameC ?_
  intro W1 hW1
  obtain ⟨hz1, e1, e2, hB1⟩ := alloc2 w _ _ hW1
  clear hW1
  obtain ⟨G, hG⟩ : ∃ G, w.heap.size = G := ⟨_, rfl⟩
  rw [hG] at e1 e2 hz1
  rw [hG]
  have g0 : W1.cell? ⟨G, 0, none⟩ = some (.slice l.S t.sc.length l.cs) := block_cell e1 (j := 0) (by simp)
  have HB := Lib.hid (And.intro hB1 (And.intro e1 (And.intro e2 (And.intro hG hz1)))); clear hB1 e1 e2 hG hz1
  conv => arg 2; whnf
  go_wp2_with fail
  refine nameC ?_
  intro W2 hW2
  have hB12 : Below W1.heap.size W1 W2 := by rw [hW2]; exact (Below.refl _ _).alloc (Nat.le_refl _) _
  have hN2 : W2.heap[W1.heap.size]? = some (.cells #[.int .i64 t.sc.length, .slice none 0 0] 37 (0, 0)) := by rw [hW2]; exact heap_alloc_new W1 _
  clear hW2
  have hB02 : Below w.heap.size w W2 := HB.out.1.trans (hB12.mono HB.out.1.size)
  have e1 := (hB12.block _ (Array.getElem?_eq_some_iff.1 HB.out.2.1).1).trans HB.out.2.1
  have e2 := (hB12.block _ (Array.getElem?_eq_some_iff.1 HB.out.2.2.1).1).trans HB.out.2.2.1
  have g0 : W2.cell? ⟨G, 0, none⟩ = some (.slice l.S t.sc.length l.cs) := block_cell e1 (j := 0) (by simp)
  have g1 : W2.cell? ⟨G, 1, none⟩ = some (.slice l.P t.pr.length l.cp) := block_cell e1 (j := 1) (by simp)
  have g2 : W2.cell? ⟨G, 2, none⟩ = some (.slice l.H t.ph.length l.ch) := block_cell e1 (j := 2) (by simp)
  have g3 : W2.cell? ⟨G, 3, none⟩ = some (.slice l.W t.ws.length l.cw) := block_cell e1 (j := 3) (by simp)
  have HS := Lib.hid (rmisses_c (M := 100000000) (HM.out.1.net.keep hB02) HM.out.2.net (HM.out.1.ph.keep hB02) HM.out.2.lph (by omega) (fun i hi => HM.out.2.ph i (by rw [HM.out.2.lph]; exact hi)))
  unfold SkV at HS
  have H2 := Lib.hid (And.intro hB02 (And.intro e1 (And.intro e2 hN2))); clear hB02 e1 e2 hN2 hB12
  conv => arg 2; whnf
  go_wp2_with fail
  refine HS.out.mono ?_
  rintro e W3 ⟨MA, mc, p, rfl, hB3, hSm, hGr, hbd⟩
  have hB03 : Below w.heap.size w W3 := H2.out.1.trans (hB3.mono H2.out.1.size)
  have nl := (Array.getElem?_eq_some_iff.1 H2.out.2.2.2).1
  have e1 := (hB3.block _ (Array.getElem?_eq_some_iff.1 H2.out.2.1).1).trans H2.out.2.1
  have e2 := (hB3.block _ (Array.getElem?_eq_some_iff.1 H2.out.2.2.1).1).trans H2.out.2.2.1
  have e3 := (hB3.block _ nl).trans H2.out.2.2.2
  have hz3 := hB3.size
  have hGw := HB.out.2.2.2.1
  have hz1 := HB.out.2.2.2.2
  have HM3 := Lib.hid (And.intro hB03 (And.intro e1 (And.intro e2 (And.intro e3 (And.intro hSm (And.intro hGr hbd))))))
  have hSd : RnM W3 t l p (G + 1) G W1.heap.size 0 MA := ⟨e1, e2, (HM.out.1.net.rdq HM.out.2.net).keep hB03, HM.out.1.ws.keep hB03, GrI.rd hGr, by omega, by omega, fun b o hb h0 => by
      obtain ⟨b', o', h1, h2, _⟩ := (HM.out.1.net.rdq HM.out.2.net) 0 (by rw [prs_len]; exact h0)
      have hl := World.block_lt_of_cell? _ _ h2
      rw [hb] at h1
      injection h1 with h1; injection h1 with h1
      subst h1
      simp only at hl
      omega, fun b o hb h0 => by
      obtain ⟨b', o', h1, h2⟩ := HM.out.1.ws 0 h0
      have hl := World.block_lt_of_cell? _ _ h2
      rw [hb] at h1
      injection h1 with h1; injection h1 with h1
      subst h1
      simp only at hl
      omega, fun b o hb => by
      have := (GrF.lt hGr (b := b) (by rw [hb]; rfl)).1
      omega, by omega⟩
  have HSD := Lib.hid hSd; clear hz1; clear hSd hB3 hB03 e1 e2 e3 hSm hGr hbd HS g0 g1 g2 g3
  go_wp2_with fail
  conv => arg 2; whnf
  go_wp2_with fail
  refine wp_loop (LoopRm W3 t p MA mc (.pointer (some ⟨G, 0, none⟩)) (.pointer (some ⟨G + 1, 0, none⟩)) (.pointer (some ⟨W1.heap.size, 0, none⟩))) (fun a _ => t.pr.length - (intOf (a.tmps.getD 6 undef)).toNat) ⟨0, Nat.zero_le _, fun i hi => absurd hi (Nat.not_lt_zero _), rfl, by (refine ⟨rfl, rfl, ?_⟩; repeat (first | exact trivial | refine ⟨rfl, ?_⟩))⟩ ?_
  intro a wr hI
  refine rn_first hln HSD.out.hM HSD.out.hR ?_ ?_ hI
  · intro a' hdv hfr
    rename_i K6 hK6
    obtain ⟨v, rfl⟩ := hfr.open
    clear hfr hI
    refine hK6 _ _ ?_
    clear hK6
    have HDV := Lib.hid hdv; clear hdv
    show Code.wp Tryz.prog (.seq (.seq (Tryz.f8.sub [1, 1, 1, 1, 0, 0]) (.block 2 (.loop (Tryz.f8.sub [1, 1, 1, 1, 0, 1, 0, 0])))) (Tryz.f8.sub [1, 1, 1, 1, 1])) _ ⟨#[(v 0), .pointer (some ⟨G, 0, none⟩), .pointer (some ⟨G + 1, 0, none⟩), (v 3), .pointer (some ⟨W1.heap.size, 0, none⟩), .slice MA t.pr.length mc, (v 6), (v 7), (v 8), (v 9), (v 10), (v 11), (v 12), (v 13), (v 14), (v 15), (v 16), (v 17), (v 18), (v 19), (v 20), (v 21), (v 22), (v 23), (v 24), (v 25), (v 26), (v 27), (v 28), (v 29), (v 30), (v 31), (v 32), (v 33), (v 34), (v 35), (v 36), (v 37), (v 38), (v 39), (v 40), (v 41), (v 42), (v 43), (v 44), (v 45), (v 46), (v 47), (v 48), (v 49), (v 50), (v 51), (v 52), (v 53), (v 54), (v 55), (v 56), (v 57), (v 58), (v 59), (v 60), (v 61), (v 62), (v 63), (v 64), (v 65), (v 66), (v 67), (v 68), (v 69)], []⟩ _
    refine wp_seq ?_
    refine wp_seq ?_
    conv => arg 2; whnf
    dsimp only
    go_wp2_with fail
    have hbnd : ∀ i, i < t.pr.length → (4096 : Int) ∣ ms t t.ph p i ∧ -100000000000000 ≤ ms t t.ph p i ∧ ms t t.ph p i ≤ 100000000000000 := fun i hi => by
      obtain ⟨q1, q2, q3⟩ := prs_lt HM.out.2.net hi
      have p1 := HM3.out.2.2.2.2.2.2 _ q1
      have p2 := HM3.out.2.2.2.2.2.2 _ q2
      have p3 := HM.out.2.ph i (by rw [HM.out.2.lph]; exact hi)
      refine ⟨HDV.out i hi, ?_, ?_⟩ <;> (unfold ms; omega)
    refine wp_loop (LoopRn W3 t p (G + 1) G W1.heap.size mc MA) (fun a _ => t.pr.length - (intOf (a.tmps.getD 7 undef)).toNat) ⟨0, none, 0, Nat.zero_le _, fun i hi => absurd hi (Nat.not_lt_zero _), HM3.out.2.2.2.1, GrF.start _ _, Tch.refl _ _, by (refine ⟨rfl, rfl, ?_⟩; repeat (first | exact trivial | refine ⟨rfl, ?_⟩))⟩ ?_
    intro a wr hI
    refine rn_loop HM.out.2 HSD.out hbnd ?_ ?_ hI
    · intro a' w' A c hsm hNb hGr hT hfr
      have hz1 := HB.out.2.2.2.2
      obtain ⟨v, rfl⟩ := hfr.open
      clear hfr hI
      have n0 : w'.cell? ⟨W1.heap.size, 0, none⟩ = some (.int .i64 t.sc.length) := block_cell hNb (j := 0) (by simp)
      have n1 : w'.cell? ⟨W1.heap.size, 1, none⟩ = some (.slice A t.pr.length c) := block_cell hNb (j := 1) (by simp)
      have e3 := (hT.block (G + 1) (by omega) (by simp; omega)).trans HM3.out.2.2.1
      have r0 : w'.cell? ⟨G + 1, 0, none⟩ = some (.int .i64 0) := block_cell e3 (j := 0) (by simp)
      have r1 : w'.cell? ⟨G + 1, 1, none⟩ = some (.slice none 0 0) := block_cell e3 (j := 1) (by simp)
      have f0 : w'.frozen? ⟨G + 1, 0, none⟩ = false := by simp [World.frozen?, e3]
      have f1 : w'.frozen? ⟨G + 1, 1, none⟩ = false := by simp [World.frozen?, e3]
      have hBl : Below w.heap.size w w' := hT.below HM3.out.1 (Nat.le_refl _) (fun b hb => by simp at hb; omega)
      have HZ := Lib.hid (And.intro hsm (And.intro hGr (And.intro hBl e3))); clear hsm hNb hGr hBl e3 hT hbnd hz1
      show Code.wp Tryz.prog (Tryz.f8.sub [1, 1, 1, 1, 1]) _ ⟨#[(v 0), (v 1), .pointer (some ⟨G + 1, 0, none⟩), (v 3), .pointer (some ⟨W1.heap.size, 0, none⟩), (v 5), (v 6), (v 7), (v 8), (v 9), (v 10), (v 11), (v 12), (v 13), (v 14), (v 15), (v 16), (v 17), (v 18), (v 19), (v 20), (v 21), (v 22), (v 23), (v 24), (v 25), (v 26), (v 27), (v 28), (v 29), (v 30), (v 31), (v 32), (v 33), (v 34), (v 35), (v 36), (v 37), (v 38), (v 39), (v 40), (v 41), (v 42), (v 43), (v 44), (v 45), (v 46), (v 47), (v 48), (v 49), (v 50), (v 51), (v 52), (v 53), (v 54), (v 55), (v 56), (v 57), (v 58), (v 59), (v 60), (v 61), (v 62), (v 63), (v 64), (v 65), (v 66), (v 67), (v 68), (v 69)], []⟩ _
      conv => arg 2; whnf
      dsimp only
      go_wp2_with fail
      have hz1 := HB.out.2.2.2.2
      refine net_ret (R := G + 1) (x := .int .i64 t.sc.length) (y := .slice A t.pr.length c) (e := 0) Tryz.results8 rfl rfl rfl (heap_setCell_same _ (G + 1) 1 _ _ _ (heap_setCell_same w' (G + 1) 0 _ _ _ HZ.out.2.2.2)) ⟨A, c, p, 0, rfl, ?_, HM3.out.2.2.2.2.1, .inr (.inr ⟨rfl, HDV.out, HZ.out.1⟩), fun _ => ?_⟩
      · exact (HZ.out.2.2.1.setCell (by simp only; omega) _).setCell (by simp only; omega) _
      · refine GrF.move (HZ.out.2.1.low (by omega)) fun b hb => ?_
        have hlt := (HZ.out.2.1.lt hb).1
        exact (Below.heap_setCell _ _ _ b (by simp only; omega)).trans (Below.heap_setCell _ _ _ b (by simp only; omega))
    · intro a' w' i hi hns hT hR hfr
      have hz1 := HB.out.2.2.2.2
      obtain ⟨v, rfl⟩ := hfr.open
      refine net_ret (R := G + 1) (e := 8) Tryz.results8 rfl rfl rfl hR ⟨none, 0, p, 8, rfl, ?_, HM3.out.2.2.2.2.1, .inr (.inl ⟨rfl, HDV.out, i, hi, hns⟩), fun h => by omega⟩
      exact hT.below HM3.out.1 (Nat.le_refl _) (fun b hb => by simp at hb; omega)
  · intro a' w' i hi hns hT hR hfr
    obtain ⟨v, rfl⟩ := hfr.open
    refine net_ret (R := G + 1) (e := 27) Tryz.results8 rfl rfl rfl hR ⟨none, 0, p, 27, rfl, ?_, HM3.out.2.2.2.2.1, .inl ⟨rfl, i, hi, hns⟩, fun h => by omega⟩
    exact hT.below HM3.out.1 (Nat.le_refl _) (fun b hb => by simp at hb; omega)
section
variable {P : Program} {α : Type} {enc : α → List Value} {e t : TypeId} {k : Nat}
theorem run_append_fresh {w : World} {i : TypeInfo} {z : Value} {bytes : Nat} (ht : P.underlying t = some (.slice e)) (hi : P.info? e = some i) (hz : i.zero = some z) (hsz : i.size = k) (hby : i.bytes = bytes) (hzs : z.cells.size = k) (hbm : bytes ≤ 1000)
    (hk : ∀ x, (enc x).length = k) (hk0 : 0 < k) (h1 : ∀ x, ∀ u ∈ enc x, u.oneCell' = true) {B b c2 : Nat} {Y : Option Addr} {ys : List α} (h : GrF enc e k w B (some ⟨b, 0, none⟩) 0 []) (ty : TypeId) (hy : RdG enc k w Y ys) (hlen : ys.length ≤ 1000000) (hB : B ≤ w.heap.size) :
    ∃ A' c' w', (Builtin.append_ #[t, t] ty #[.slice (some ⟨b, 0, none⟩) 0 0, .slice Y ys.length c2]).run P w = .ok (.slice A' ys.length c') w' ∧ GrF enc e k w' B A' c' ys ∧ Below w.heap.size w w' := by
  by_cases h0 : ys.length = 0
  · have e : ys = [] := List.eq_nil_of_length_eq_zero h0
    subst e
    have hr := run_append_zero (w := w) (A := some ⟨b, 0, none⟩) (n := 0) (c := 0) (Y := Y) (c2 := c2) ht hi ty (Nat.le_refl _) (fun e => by cases e)
    exact ⟨_, 0, w, hr, h, Below.refl _ _⟩
  · obtain ⟨A', c', w', k1, k2, _⟩ := run_append_rd ht hi hz hsz hby hzs hbm hk hk0 h1 (c2 := c2) h ty hy (by simpa using hlen) hB
    simp only [List.length_nil, Nat.zero_add, List.nil_append] at k1 k2
    refine ⟨A', c', w', k1, k2, ?_⟩
    obtain ⟨yb, yo, rfl, _⟩ := hy 0 (by omega)
    subst hsz hby
    have hr := run_append_grow (P := P) w t ty e i z ht hi hz ⟨b, 0, none⟩ 0 0 [] (by simp) (fun j v hj => by simp at hj) ⟨yb, yo, none⟩ ys.length c2 (ys.flatMap enc) (flat_len hk ys) (fun j u hj => by
      have hjl := (List.getElem?_eq_some_iff.1 hj).1
      rw [flat_len hk] at hjl
      have hq : j / i.size < ys.length := Nat.div_lt_of_lt_mul (by rw [Nat.mul_comm]; exact hjl)
      have hr := Nat.mod_lt j hk0
      have h6 := flat_get hk ys (j / i.size) (j % i.size) hr hq
      have e : j / i.size * i.size + j % i.size = j := by rw [Nat.mul_comm]; exact Nat.div_add_mod j i.size
      rw [e, hj, List.getElem?_eq_getElem hq, Option.bind_some] at h6
      obtain ⟨b', o', e2, hc⟩ := hy (j / i.size) hq
      cases e2
      have := hc (j % i.size) hr
      rw [← h6] at this
      rw [← this]
      simp only [Addr.add_lit]
      rw [Nat.add_assoc, e]) (by omega) (by omega) (growslice_fits (by omega) (by
        simp only [Nat.zero_add]
        exact Nat.le_trans (Nat.mul_le_mul hlen hbm) (by decide)))
    rw [hr] at k1
    injection k1 with _ k1
    subst k1
    exact (Below.refl w.heap.size w).drew.alloc (by simp) _
end
def encSc (x : Sc) : List Value := [.string x.nm, .int .i64 x.day, .int .i64 x.bl]
theorem encSc_len (x : Sc) : (encSc x).length = 3 := rfl
def encRp (x : Rp) : List Value := [.int .i64 x.a, .int .i64 x.b]
theorem encRp_len (x : Rp) : (encRp x).length = 2 := rfl
theorem infoScene : (Tryz.prog.info? 84).map (fun i => (i.zero, i.size, i.bytes)) = some (some (.agg #[.string ⟨#[]⟩, .int .i64 0, .int .i64 0]), 3, 32) := by kernel_rfl
theorem infoPair : (Tryz.prog.info? 60).map (fun i => (i.zero, i.size, i.bytes)) = some (some (.agg #[.int .i64 0, .int .i64 0]), 2, 16) := by kernel_rfl
theorem RdS.rdG {w : World} {A : Option Addr} {xs : List Sc} (h : RdS w A xs) : RdG encSc 3 w A xs := fun j hj => by
  obtain ⟨b, o, h1, h2, h3, h4, _⟩ := h j hj
  have hg : gsc xs j = xs[j] := by simp [gsc, hj]
  rw [hg] at h2 h3 h4
  refine ⟨b, o, h1, fun i hi => ?_⟩
  match i, hi with
  | 0, _ => exact h2
  | 1, _ => exact h3
  | 2, _ => exact h4
theorem RdP.rdG {w : World} {A : Option Addr} {xs : List Rp} (h : RdP w A xs) : RdG encRp 2 w A xs := fun j hj => by
  obtain ⟨b, o, h1, h2, h3⟩ := h j hj
  have hg : grp xs j = xs[j] := by simp [grp, hj]
  rw [hg] at h2 h3
  refine ⟨b, o, h1, fun i hi => ?_⟩
  match i, hi with
  | 0, _ => exact h2
  | 1, _ => exact h3
abbrev GrSc (w : World) (B : Nat) (A : Option Addr) (c : Nat) (xs : List Sc) : Prop := GrF encSc 84 3 w B A c xs
abbrev GrRp (w : World) (B : Nat) (A : Option Addr) (c : Nat) (xs : List Rp) : Prop := GrF encRp 60 2 w B A c xs
theorem GrSc.rdS {w : World} {B c : Nat} {A : Option Addr} {xs : List Sc} (h : GrSc w B A c xs) (hn : ∀ j, j < xs.length → (gsc xs j).nm.size ≤ maxLen) : RdS w A xs := fun j hj => by
  obtain ⟨b, o, h1, h2⟩ := GrF.rdG encSc_len (by decide) h j hj
  have hg : gsc xs j = xs[j] := by simp [gsc, hj]
  have hn := hn j hj
  rw [hg] at hn ⊢
  exact ⟨b, o, h1, h2 0 (by decide), h2 1 (by decide), h2 2 (by decide), hn⟩
theorem GrRp.rdP {w : World} {B c : Nat} {A : Option Addr} {xs : List Rp} (h : GrRp w B A c xs) : RdP w A xs := fun j hj => by
  obtain ⟨b, o, h1, h2⟩ := GrF.rdG encRp_len (by decide) h j hj
  have hg : grp xs j = xs[j] := by simp [grp, hj]
  rw [hg]
  exact ⟨b, o, h1, h2 0 (by decide), h2 1 (by decide)⟩
theorem run_copy_scenes {w : World} {B b c2 : Nat} {Y : Option Addr} {ys : List Sc} (h : GrSc w B (some ⟨b, 0, none⟩) 0 []) (ty : TypeId) (hy : RdG encSc 3 w Y ys) (hlen : ys.length ≤ 1000000) (hB : B ≤ w.heap.size) :
    ∃ A' c' w', (Builtin.append_ #[22, 22] ty #[.slice (some ⟨b, 0, none⟩) 0 0, .slice Y ys.length c2]).run Tryz.prog w = .ok (.slice A' ys.length c') w' ∧ GrSc w' B A' c' ys ∧ Below w.heap.size w w' := by
  obtain ⟨i, hi, hzz⟩ := Option.map_eq_some_iff.1 infoScene
  simp only [Prod.mk.injEq] at hzz
  obtain ⟨hz, hsz, hby⟩ := hzz
  exact run_append_fresh (P := Tryz.prog) Tryz.underlying22 hi hz hsz hby rfl (by decide) encSc_len (by decide) (fun x u hu => by simp [encSc] at hu; rcases hu with rfl | rfl | rfl <;> rfl) h ty hy hlen hB
theorem run_copy_pairs {w : World} {B b c2 : Nat} {Y : Option Addr} {ys : List Rp} (h : GrRp w B (some ⟨b, 0, none⟩) 0 []) (ty : TypeId) (hy : RdG encRp 2 w Y ys) (hlen : ys.length ≤ 1000000) (hB : B ≤ w.heap.size) :
    ∃ A' c' w', (Builtin.append_ #[23, 23] ty #[.slice (some ⟨b, 0, none⟩) 0 0, .slice Y ys.length c2]).run Tryz.prog w = .ok (.slice A' ys.length c') w' ∧ GrRp w' B A' c' ys ∧ Below w.heap.size w w' := by
  obtain ⟨i, hi, hzz⟩ := Option.map_eq_some_iff.1 infoPair
  simp only [Prod.mk.injEq] at hzz
  obtain ⟨hz, hsz, hby⟩ := hzz
  exact run_append_fresh (P := Tryz.prog) Tryz.underlying23 hi hz hsz hby rfl (by decide) encRp_len (by decide) (fun x u hu => by simp [encRp] at hu; rcases hu with rfl | rfl <;> rfl) h ty hy hlen hB
theorem GrF.empty {α : Type} {enc : α → List Value} {e : TypeId} {k : Nat} (w : World) {B : Nat} (hB : B ≤ w.heap.size) : GrF enc e k (w.alloc (.cells #[] e)) B (some ⟨w.heap.size, 0, none⟩) 0 [] :=
  ⟨Nat.le_refl _, Nat.zero_le _, fun h => (by cases h), fun a ha => by
    cases ha
    exact ⟨w.heap.size, 0, _, rfl, hB, World.alloc_heap_new w _, by simp, fun j u hj => by simp at hj⟩⟩
theorem ex_empty {t e : TypeId} {ρ : Operand → Value} {o : Oper} {w : World} {i : TypeInfo} (ht : Tryz.prog.underlying t = some (.slice e)) (hi : Tryz.prog.info? e = some i) (ho : o.op = .buildSlice t 0 #[]) : (execOp ρ o).run Tryz.prog w = .ok (.value (.slice (some ⟨w.heap.size, 0, none⟩) 0 0)) (w.alloc (.cells #[] e)) := by
  unfold execOp
  simp only [ho, List.map_toArray, List.map_nil]
  have h : (Instr.buildSlice t 0 #[]).run Tryz.prog w = .ok (.slice (some ⟨w.heap.size, 0, none⟩) 0 0) (w.alloc (.cells #[] e)) := by
    simp [Instr.buildSlice, go_sem, run_underlying ht, sizeOf, typeInfo, hi]
  simp [h]
def TCn (B : Nat) (t : Sk) (V : Nat → Value) : Nat → World → Prop
  | 0, w => ∃ b, V 0 = .slice (some ⟨b, 0, none⟩) 0 0 ∧ GrSc w B (some ⟨b, 0, none⟩) 0 []
  | 3, w => ∃ A c, V 3 = .slice A t.sc.length c ∧ GrSc w B A c t.sc
  | 4, w => ∃ b, V 4 = .slice (some ⟨b, 0, none⟩) 0 0 ∧ GrRp w B (some ⟨b, 0, none⟩) 0 []
  | 7, w => ∃ A c, V 7 = .slice A t.pr.length c ∧ GrRp w B A c t.pr
  | 8, w => ∃ A c A2 c2, V 3 = .slice A t.sc.length c ∧ V 7 = .slice A2 t.pr.length c2 ∧ V 8 = .agg #[.slice A t.sc.length c, .slice A2 t.pr.length c2]
  | _, _ => True
theorem TCn_ok (B : Nat) (t : Sk) {ops : Array Oper} (hd : (dep ops 8 3 && dep ops 8 7) = true) : GrT ops (TCn B t) := by
  simp only [Bool.and_eq_true] at hd
  obtain ⟨d1, d2⟩ := hd
  constructor
  · intro V j w w' h hb
    unfold TCn at h ⊢
    split
    · obtain ⟨b, h1, h2⟩ := h; exact ⟨b, h1, GrF.keep h2 hb⟩
    · obtain ⟨A, c, h1, h2⟩ := h; exact ⟨A, c, h1, GrF.keep h2 hb⟩
    · obtain ⟨b, h1, h2⟩ := h; exact ⟨b, h1, GrF.keep h2 hb⟩
    · obtain ⟨A, c, h1, h2⟩ := h; exact ⟨A, c, h1, GrF.keep h2 hb⟩
    · exact h
    · trivial
  · intro L V w i u j hi hc hj h
    have hne : j ≠ i := fun e => by rw [← e, hj] at hi; cases hi
    have key : ∀ k, dep ops j k = true → k ≠ i := fun k hk e => by subst e; rw [hc.not hk hi] at hj; cases hj
    unfold TCn at h ⊢
    split
    · rw [setV_ne _ _ hne]; exact h
    · rw [setV_ne _ _ hne]; exact h
    · rw [setV_ne _ _ hne]; exact h
    · rw [setV_ne _ _ hne]; exact h
    · rw [setV_ne _ _ hne, setV_ne _ _ (key 3 d1), setV_ne _ _ (key 7 d2)]; exact h
    · trivial
theorem ex_build_net {ρ : Operand → Value} {o : Oper} {w : World} (x0 x1 : Operand) (ho : o.op = .build 25 #[(0, x0), (1, x1)]) {A A2 : Option Addr} {n c n2 c2 : Nat}
    (h0 : ρ x0 = .slice A n c) (h1 : ρ x1 = .slice A2 n2 c2) :
    (execOp ρ o).run Tryz.prog w = .ok (.value (.agg #[.slice A n c, .slice A2 n2 c2])) w := by
  unfold execOp
  simp only [ho, h0, h1, List.map_toArray, List.map_cons, List.map_nil]
  go_simp
theorem GrF.sets {α : Type} {enc : α → List Value} {e : TypeId} {k : Nat} {B c r j : Nat} {w : World} {A : Option Addr} {xs : List α} (h : GrF enc e k w B A c xs) (hr : r < B) (vs : List Value) : GrF enc e k (w.setCells r j vs) B A c xs := by
  refine GrF.move h fun b hb => ?_
  have hlt := (GrF.lt h hb).1
  have hl2 := (GrF.lt h hb).2
  exact (Tch.sets (S := [r]) (.inl (by simp)) vs j w (Tch.refl _ _)).block b hl2 (by simp; omega)
def CnPost (t : Sk) (w : World) (e : Ending) (w' : World) : Prop := ∃ l, e = .returned (NetV t l) ∧ Below w.heap.size w w' ∧ GrSc w' w.heap.size l.S l.cs t.sc ∧ GrRp w' w.heap.size l.P l.cp t.pr
theorem copyNet_c {t : Sk} {l : SkL} {w : World} (hM : NetM w t l) (hn : t.sc.length ≤ 1000) (hm : t.pr.length ≤ 1000) : Calls Tryz.prog 18 #[NetV t l] w (CnPost t w) := by
  have HM := Lib.hid hM; clear hM
  obtain ⟨is1, hi1, _⟩ := Option.map_eq_some_iff.1 infoScene
  obtain ⟨ip1, hi2, _⟩ := Option.map_eq_some_iff.1 infoPair
  have HI := Lib.hid (And.intro hi1 hi2); clear hi1 hi2
  unfold NetV
  go_enter Tryz.func18, Tryz.ntmps18
  go_wp2_with fail
  obtain ⟨w1, hw1⟩ : ∃ w1, w1 = (w.alloc (.cells #[.slice l.S t.sc.length l.cs, .slice l.P t.pr.length l.cp] 25)).alloc (.cells #[.slice none 0 0, .slice none 0 0] 25) := ⟨_, rfl⟩
  rw [← hw1]
  obtain ⟨hz1, hT1, hR1, hB1⟩ := alloc2 w _ _ hw1
  clear hw1
  have t0 : w1.cell? ⟨w.heap.size, 0, none⟩ = some (.slice l.S t.sc.length l.cs) := block_cell hT1 (j := 0) (by simp)
  have t1 : w1.cell? ⟨w.heap.size, 1, none⟩ = some (.slice l.P t.pr.length l.cp) := block_cell hT1 (j := 1) (by simp)
  refine region_rel (by kernel_rfl) (by kernel_rfl) (by kernel_rfl) (GrC w1.heap.size w1 (fun L => L 9) (TCn w1.heap.size t) (fun V w' => ∃ w0 A c A2 c2, Below w1.heap.size w1 w0 ∧ GrSc w0 w1.heap.size A c t.sc ∧ GrRp w0 w1.heap.size A2 c2 t.pr ∧ w' = w0.setCells (w.heap.size + 1) 0 [.slice A t.sc.length c, .slice A2 t.pr.length c2])) (GrC.start rfl (Below.refl _ _).drew) ?_
  refine gr_free (TCn_ok _ _ (by kernel_rfl)) (ahead_last (by kernel_rfl)) (Nat.le_refl _) rfl (fun V L wx hB hT hw => ?_) ?_
  · rw [ex_empty Tryz.underlying22 HI.out.1 rfl]
    exact ⟨(Below.refl _ _).alloc (Nat.le_refl _) _, fun V' hV h => ⟨wx.heap.size, h, GrF.empty wx hB.size⟩⟩
  simp only [Fam.pt]
  (refine gr_fix (ahead_last (by kernel_rfl)) rfl (.pointer (some ⟨w.heap.size, 0, none⟩)) (fun _ _ => trivial) (fun V w hB => by unfold execOp; go_simp) ?_; simp only [Fam.pt])
  (refine gr_fix (ahead_last (by kernel_rfl)) rfl _ (fun _ _ => trivial) (fun V w hB => ex_load1 _ _ rfl _ rfl (cellB hB t0) _ Tryz.underlying22 rfl) ?_; simp only [Fam.pt])
  refine gr_free (TCn_ok _ _ (by kernel_rfl)) (ahead_last (by kernel_rfl)) (Nat.le_refl _) rfl (fun V L wx hB hT hw => ?_) ?_
  · obtain ⟨b, k1, k2⟩ := hT 0 (waits_at hw (by kernel_rfl))
    have hr : RdG encSc 3 wx l.S t.sc := ((HM.out.sc.rdG.keep encSc_len hB1).keep encSc_len hB)
    obtain ⟨A', c', w', r1, r2, r3⟩ := run_copy_scenes (c2 := l.cs) k2 _ hr (by omega) hB.size
    rw [ex_append _ _ _ rfl k1 rfl r1]
    exact ⟨r3, fun V' hV h => ⟨A', c', h, r2⟩⟩
  simp only [Fam.pt]
  refine gr_free (TCn_ok _ _ (by kernel_rfl)) (ahead_last (by kernel_rfl)) (Nat.le_refl _) rfl (fun V L wx hB hT hw => ?_) ?_
  · rw [ex_empty Tryz.underlying23 HI.out.2 rfl]
    exact ⟨(Below.refl _ _).alloc (Nat.le_refl _) _, fun V' hV h => ⟨wx.heap.size, h, GrF.empty wx hB.size⟩⟩
  simp only [Fam.pt]
  (refine gr_fix (ahead_last (by kernel_rfl)) rfl (.pointer (some ⟨w.heap.size, 1, none⟩)) (fun _ _ => trivial) (fun V w hB => by unfold execOp; go_simp) ?_; simp only [Fam.pt])
  (refine gr_fix (ahead_last (by kernel_rfl)) rfl _ (fun _ _ => trivial) (fun V w hB => ex_load1 _ _ rfl _ rfl (cellB hB t1) _ Tryz.underlying23 rfl) ?_; simp only [Fam.pt])
  refine gr_free (TCn_ok _ _ (by kernel_rfl)) (ahead_last (by kernel_rfl)) (Nat.le_refl _) rfl (fun V L wx hB hT hw => ?_) ?_
  · obtain ⟨b, k1, k2⟩ := hT 4 (waits_at hw (by kernel_rfl))
    have hr : RdG encRp 2 wx l.P t.pr := ((HM.out.pr.rdG.keep encRp_len hB1).keep encRp_len hB)
    obtain ⟨A', c', w', r1, r2, r3⟩ := run_copy_pairs (c2 := l.cp) k2 _ hr (by omega) hB.size
    rw [ex_append _ _ _ rfl k1 rfl r1]
    exact ⟨r3, fun V' hV h => ⟨A', c', h, r2⟩⟩
  simp only [Fam.pt]
  refine gr_free (TCn_ok _ _ (by kernel_rfl)) (ahead_last (by kernel_rfl)) (Nat.le_refl _) rfl (fun V L wx hB hT hw => ?_) ?_
  · obtain ⟨A1, c1, k1, _⟩ := hT 3 (waits_at hw (by kernel_rfl))
    obtain ⟨A2, c2, k2, _⟩ := hT 7 (waits_at hw (by kernel_rfl))
    rw [ex_build_net _ _ rfl k1 k2]
    exact ⟨Below.refl _ _, fun V' hV h => ⟨A1, c1, A2, c2, by rw [hV 3 (by decide)]; exact k1, by rw [hV 7 (by decide)]; exact k2, h⟩⟩
  simp only [Fam.pt]
  refine gr_last rfl rfl (fun V wx hB hT => ?_) (fun j hj => by revert j; decide +kernel) rfl ?_ (by decide)
  · obtain ⟨A1, c1, k1, m1⟩ := hT 3 (by decide)
    obtain ⟨A2, c2, k2, m2⟩ := hT 7 (by decide)
    obtain ⟨A1', c1', A2', c2', n1, n2, n4⟩ := hT 8 (by decide)
    rw [k1] at n1
    rw [k2] at n2
    injection n1 with e1 _ e3
    injection n2 with e4 _ e6
    subst e1 e3 e4 e6
    rw [ex_storeN 25 _ _ rfl (w.heap.size + 1) 0 #[.slice A1 t.sc.length c1, .slice A2 t.pr.length c2] rfl n4 ?_ (by kernel_rfl) (by simp [Value.oneCell'])]
    · exact ⟨rfl, wx, A1, c1, A2, c2, hB, m1, m2, rfl⟩
    · exact block_there ((hB.block _ (Array.getElem?_eq_some_iff.1 hR1).1).trans hR1) (Nat.le_refl 2)
  · rintro V w6 ⟨w0, A1, c1, A2, c2, hB0, m1, m2, rfl⟩
    generalize V _ = g1
    generalize V _ = g2
    generalize V _ = g3
    generalize V _ = g4
    generalize V _ = g5
    go_wp2_with fail
    have hR0 := (hB0.block _ (Array.getElem?_eq_some_iff.1 hR1).1).trans hR1
    have q1 := heap_setCell_same w0 (w.heap.size + 1) 0 _ _ (.slice A1 t.sc.length c1) hR0
    have q2 := heap_setCell_same _ (w.heap.size + 1) 1 _ _ (.slice A2 t.pr.length c2) q1
    have hBf : Below w.heap.size w (w0.setCells (w.heap.size + 1) 0 [.slice A1 t.sc.length c1, .slice A2 t.pr.length c2]) := below_setCells (by omega) _ _ _ (hB1.trans (hB0.mono (by omega)))
    have n1 := (GrF.sets (r := w.heap.size + 1) (j := 0) m1 (by omega) [.slice A1 t.sc.length c1, .slice A2 t.pr.length c2]).low (B' := w.heap.size) (by omega)
    have n2 := (GrF.sets (r := w.heap.size + 1) (j := 0) m2 (by omega) [.slice A1 t.sc.length c1, .slice A2 t.pr.length c2]).low (B' := w.heap.size) (by omega)
    generalize hW9 : w0.setCells (w.heap.size + 1) 0 [.slice A1 t.sc.length c1, .slice A2 t.pr.length c2] = w9 at *
    have q4 : w9.heap[w.heap.size + 1]? = some (.cells #[.slice A1 t.sc.length c1, .slice A2 t.pr.length c2] 25 (0, 0)) := by rw [← hW9]; exact q2
    have d0 : w9.cell? ⟨w.heap.size + 1, 0, none⟩ = some (.slice A1 t.sc.length c1) := block_cell q4 (j := 0) (by simp)
    have d1 : w9.cell? ⟨w.heap.size + 1, 1, none⟩ = some (.slice A2 t.pr.length c2) := block_cell q4 (j := 1) (by simp)
    refine bodyPost_ret (v := NetV t ⟨A1, A2, none, none, c1, c2, 0, 0⟩) ?_ rfl ⟨⟨A1, A2, none, none, c1, c2, 0, 0⟩, rfl, hBf, n1, n2⟩
    simp [results, Tryz.results18, go_sem, d0, d1, NetV]
end Go.Proofs.YtjnpchoinncbnaaGreat
end
