/- Proves parts of the statement, each under the conditions that its theorem states: The shortest ways: the search; The shortest ways: the contract; Results: a variable in memory, and a number; The parts: two neighbours are noted. -/
import Derived.Test.YtjnpchoinncbnaaGreatP16
import Derived.Test.YtjnpchoinncbnaaGreatP07
set_option linter.unusedSimpArgs false
set_option linter.unusedVariables false
set_option maxHeartbeats 4000000
set_option maxRecDepth 100000
section
namespace Go.Proofs.YtjnpchoinncbnaaGreat
open Go.RowKit Sw Fam
def LoopW (W0 : World) (z : WLoc) (S n : Nat) (es : List Ed) (x p : List Int) (src : Nat) (a : Act) (w : World) : Prop :=
  ∃ len last bef done rk m Ds, WMem W0 w z S n len last bef done Ds ∧ Dij n es x p src len last bef done rk m (fun _ _ => False) ∧ Ds.length = cnt done ∧
    FrD 139 (Ds.map rfMark) [(2, .pointer (some ⟨z.sb, 0, none⟩)), (4, .pointer (some ⟨z.rb, 0, none⟩)), (5, .pointer (some ⟨z.tb, 0, none⟩)), (6, .slice (some ⟨z.db, 0, none⟩) n n)] a
def WEnd (W0 : World) (z : WLoc) (n : Nat) (es : List Ed) (x p : List Int) (src : Nat) (a : Act) (w : World) : Prop :=
  ∃ len last bef rk Ds, a.defers = Ds.map rfMark ∧ a.tmps.getD 4 undef = .pointer (some ⟨z.rb, 0, none⟩) ∧ Opn w Ds ∧ (∀ D, D ∈ Ds → W0.heap.size ≤ D) ∧ Below W0.heap.size W0 w ∧ IntB w z.lb len ∧ FlB encA 124 w z.ab last ∧ IntB w z.bb (bef.map Int.ofNat) ∧
    w.heap[z.rb]? = some (.cells #[.slice (some ⟨z.lb, 0, none⟩) n n, .slice (some ⟨z.ab, 0, none⟩) n n, .slice (some ⟨z.bb, 0, none⟩) n n] 121 (0, 0)) ∧ Tour n es x p src len last bef rk
theorem ways_search {mm : Nat} {W0 : World} {z : WLoc} {n J0 : Nat} {es : List Ed} (hg : Gd n J0 es) {x p ex : List Int} {v : Loc} (hx : Fits es x p) (hS : SvM W0 v n es x p ex) (hpb : ∀ i, i < n → 0 ≤ gi p i ∧ gi p i ≤ 1000000000000) (hz : z.ok W0.heap.size)
    {src : Nat} {Q : Exit → Act → World → Prop} (hQ : ∀ a w, WEnd W0 z n es x p src a w → Q .ret a w) {a : Act} {w : World} (hI : LoopW W0 z v.S n es x p src a w) :
    Code.wpIn Fence.wide mm Tryz.prog (Tryz.f73.sub [1, 1, 1, 1, 0, 0, 0]) (Exit.then (fun a' w' => LoopW W0 z v.S n es x p src a' w' ∧ n - a'.defers.length < n - a.defers.length) Q) a w := by
  obtain ⟨len, last, bef, done, rk, m, Ds, hM, hD, hlen, hfr⟩ := hI
  obtain ⟨t, rfl⟩ := hfr.open
  clear hfr
  have hcn := cnt_le done
  have hld := hM.tour.ld
  show Code.wpIn Fence.wide mm Tryz.prog (.seq (Tryz.f73.sub [1, 1, 1, 1, 0, 0, 0, 0]) (.seq (Tryz.f73.sub [1, 1, 1, 1, 0, 0, 0, 1, 0]) (Tryz.f73.sub [1, 1, 1, 1, 0, 0, 0, 1, 1]))) _
    ⟨#[(t 0), (t 1), .pointer (some ⟨z.sb, 0, none⟩), (t 3), .pointer (some ⟨z.rb, 0, none⟩), .pointer (some ⟨z.tb, 0, none⟩), .slice (some ⟨z.db, 0, none⟩) n n, (t 7), (t 8), (t 9), (t 10), (t 11), (t 12), (t 13), (t 14), (t 15), (t 16), (t 17), (t 18), (t 19), (t 20), (t 21), (t 22), (t 23), (t 24), (t 25), (t 26), (t 27), (t 28), (t 29), (t 30), (t 31), (t 32), (t 33), (t 34), (t 35), (t 36), (t 37), (t 38), (t 39), (t 40), (t 41), (t 42), (t 43), (t 44), (t 45), (t 46), (t 47), (t 48), (t 49), (t 50), (t 51), (t 52), (t 53), (t 54), (t 55), (t 56), (t 57), (t 58), (t 59), (t 60), (t 61), (t 62), (t 63), (t 64), (t 65), (t 66), (t 67), (t 68), (t 69), (t 70), (t 71), (t 72), (t 73), (t 74), (t 75), (t 76), (t 77), (t 78), (t 79), (t 80), (t 81), (t 82), (t 83), (t 84), (t 85), (t 86), (t 87), (t 88), (t 89), (t 90), (t 91), (t 92), (t 93), (t 94), (t 95), (t 96), (t 97), (t 98), (t 99), (t 100), (t 101), (t 102), (t 103), (t 104), (t 105), (t 106), (t 107), (t 108), (t 109), (t 110), (t 111), (t 112), (t 113), (t 114), (t 115), (t 116), (t 117), (t 118), (t 119), (t 120), (t 121), (t 122), (t 123), (t 124), (t 125), (t 126), (t 127), (t 128), (t 129), (t 130), (t 131), (t 132), (t 133), (t 134), (t 135), (t 136), (t 137), (t 138)], (Ds.map rfMark)⟩ _
  have hn := hg.n_le
  have HG := Lib.hid hg; clear hg
  have HX := Lib.hid hx; clear hx
  have HS := Lib.hid hS; clear hS
  have HP := Lib.hid hpb; clear hpb
  have HZ := Lib.hid hz; clear hz
  have HQ := Lib.hid hQ; clear hQ
  have HD := Lib.hid hD; clear hD
  have HM := Lib.hid hM; clear hM
  refine wpIn_seq ?_
  conv => arg 4; whnf
  dsimp only
  gi_wp2_with fail
  refine nameW ?_
  intro W1 hW1
  have hat : W1.cell? ⟨w.heap.size, 0, none⟩ = some (.int .i64 (-1)) := by rw [hW1]; simp
  have haf : W1.frozen? ⟨w.heap.size, 0, none⟩ = false := by rw [hW1]; simp
  have hB1 : Below w.heap.size w W1 := by rw [hW1]; exact (Below.refl _ _).alloc (Nat.le_refl _) _
  have hz1 : W1.heap.size = w.heap.size + 1 := by rw [hW1]; simp
  have HM1 := Lib.hid (HM.out.keep hB1)
  have tlt : z.tb < w.heap.size := (Array.getElem?_eq_some_iff.1 HM.out.tour.blk).1
  have llt : z.lb < w.heap.size := HM.out.tour.len.lt
  have dlt : z.db < w.heap.size := FlB.lt HM.out.tour.dn
  clear hW1
  refine ways_min HM1.out.tour (by omega) hat haf ⟨tlt, llt, dlt⟩ ?_
  intro a2 W2 k hk hB2 hat2 haf2 hfr2
  obtain ⟨t2, rfl⟩ := hfr2.open
  clear hfr2
  have hB02 : Below w.heap.size w W2 := hB1.trans hB2
  have hz2 := hB2.size
  have HM2 := Lib.hid (HM.out.keep hB02)
  rename_i K3 hK3
  refine hK3 _ _ ?_
  clear hK3 K3
  show Code.wpIn Fence.wide mm Tryz.prog (.seq (.seq (Tryz.f73.sub [1, 1, 1, 1, 0, 0, 0, 1, 1, 0, 0]) (Tryz.f73.sub [1, 1, 1, 1, 0, 0, 0, 1, 1, 0, 1])) (.seq (Tryz.f73.sub [1, 1, 1, 1, 0, 0, 0, 1, 1, 1, 0]) (.seq (Tryz.f73.sub [1, 1, 1, 1, 0, 0, 0, 1, 1, 1, 1, 0]) (.block 4 (Tryz.f73.sub [1, 1, 1, 1, 0, 0, 0, 1, 1, 1, 1, 1, 0]))))) _
    ⟨#[t 0, t 1, .pointer (some ⟨z.sb, 0, none⟩), (t2 3), .pointer (some ⟨z.rb, 0, none⟩), .pointer (some ⟨z.tb, 0, none⟩), .slice (some ⟨z.db, 0, none⟩) n n, .pointer (some ⟨w.heap.size, 0, none⟩), (t2 8), (t2 9), (t2 10), (t2 11), (t2 12), (t2 13), (t2 14), (t2 15), (t2 16), (t2 17), (t2 18), (t2 19), (t2 20), (t2 21), (t2 22), (t2 23), (t2 24), (t2 25), (t2 26), (t2 27), (t2 28), (t2 29), (t2 30), (t2 31), (t2 32), (t2 33), (t2 34), (t2 35), (t2 36), (t2 37), (t2 38), (t2 39), (t2 40), (t2 41), (t2 42), (t2 43), (t2 44), (t2 45), (t2 46), (t2 47), (t2 48), (t2 49), (t2 50), (t2 51), (t2 52), (t2 53), (t2 54), (t2 55), (t2 56), (t2 57), (t2 58), (t2 59), (t2 60), (t2 61), (t2 62), (t2 63), (t2 64), (t2 65), (t2 66), (t2 67), (t2 68), (t2 69), (t2 70), (t2 71), (t2 72), (t2 73), (t2 74), (t2 75), (t2 76), (t2 77), (t2 78), (t2 79), (t2 80), (t2 81), (t2 82), (t2 83), (t2 84), (t2 85), (t2 86), (t2 87), (t2 88), (t2 89), (t2 90), (t2 91), (t2 92), (t2 93), (t2 94), (t2 95), (t2 96), (t2 97), (t2 98), (t2 99), (t2 100), (t2 101), (t2 102), (t2 103), (t2 104), (t2 105), (t2 106), (t2 107), (t2 108), (t2 109), (t2 110), (t2 111), (t2 112), (t2 113), (t2 114), (t2 115), (t2 116), (t2 117), (t2 118), (t2 119), (t2 120), (t2 121), (t2 122), (t2 123), (t2 124), (t2 125), (t2 126), (t2 127), (t2 128), (t2 129), (t2 130), (t2 131), (t2 132), (t2 133), (t2 134), (t2 135), (t2 136), (t2 137), (t2 138)], (Ds.map rfMark)⟩ _
  have HK := Lib.hid hk
  obtain ⟨klo, khi⟩ : -1 ≤ k ∧ k < n := ⟨hk.lo, hk.hi⟩
  clear hk
  refine wpIn_seq ?_
  refine wpIn_seq ?_
  conv => arg 4; whnf
  dsimp only
  by_cases hneg : k < 0
  · have h1 : k = -1 := by omega
    subst h1
    have t0 := HM2.out.tour.c0
    have t1 := HM2.out.tour.c1
    have t22 := HM2.out.tour.c2
    obtain ⟨ra, rb, rcc, rc⟩ := HM2.out.rbc
    have r0 : W2.cell? ⟨z.rb, 0, none⟩ = some ra := by simp [World.cell?, rc]
    have r1 : W2.cell? ⟨z.rb, 1, none⟩ = some rb := by simp [World.cell?, rc]
    have r2 : W2.cell? ⟨z.rb, 2, none⟩ = some rcc := by simp [World.cell?, rc]
    have f1 : W2.frozen? ⟨z.rb, 0, none⟩ = false := by simp [World.frozen?, rc]
    have f2 : W2.frozen? ⟨z.rb, 1, none⟩ = false := by simp [World.frozen?, rc]
    have f3 : W2.frozen? ⟨z.rb, 2, none⟩ = false := by simp [World.frozen?, rc]
    have RC := Lib.hid rc
    clear rc
    gi_wp2_with fail
    conv => arg 4; whnf
    gi_wp2_with fail
    obtain ⟨⟨z1, z2, z3, z4, z5, z6, z7⟩, _, _, ⟨y1, y2, y3, y4, y5⟩⟩ := HZ.out
    have hM := HM2.out
    have hrb : ∀ b, b ≠ z.rb → (((W2.setCell ⟨z.rb, 0, none⟩ (.slice (some ⟨z.lb, 0, none⟩) n n)).setCell ⟨z.rb, 1, none⟩ (.slice (some ⟨z.ab, 0, none⟩) n n)).setCell ⟨z.rb, 2, none⟩ (.slice (some ⟨z.bb, 0, none⟩) n n)).heap[b]? = W2.heap[b]? := fun b hb =>
      (Below.heap_setCell _ _ _ b hb).trans ((Below.heap_setCell _ _ _ b hb).trans (Below.heap_setCell _ _ _ b hb))
    refine HQ.out _ _ ⟨len, last, bef, _, Ds, rfl, rfl, ⟨hM.op.nd, fun E hE => (hrb E (fun e => Opn.ne_cells hM.op RC.out (e ▸ hE))).trans (hM.op.op E hE)⟩, hM.ge, ((hM.bel.setCell z2 _).setCell z2 _).setCell z2 _, (hrb _ y1.symm).trans hM.tour.len, (hrb _ y2.symm).trans hM.tour.lst, (hrb _ y3.symm).trans hM.tour.bfr, ?_, HD.out.tour (HK.out.none rfl)⟩
    have s1 := heap_setCell_same W2 z.rb 0 _ _ (.slice (some ⟨z.lb, 0, none⟩) n n) RC.out
    have s2 := heap_setCell_same _ z.rb 1 _ _ (.slice (some ⟨z.ab, 0, none⟩) n n) s1
    exact heap_setCell_same _ z.rb 2 _ _ (.slice (some ⟨z.bb, 0, none⟩) n n) s2
  · obtain ⟨u, rfl⟩ : ∃ u : Nat, k = u := ⟨k.toNat, by omega⟩
    have hun : u < n := by omega
    obtain ⟨m1, m2, m3⟩ := HK.out.some (by omega)
    rw [Int.toNat_natCast] at m1 m2 m3
    have hM := HM2.out
    have hdu := hM.tour.dn.cell (j := u) (by rw [hld]; exact hun)
    have hdf := FlB.frozen hM.tour.dn u
    have hsb := hM.sbc
    have hsz : z.sb < W2.heap.size := World.block_lt_of_cell? _ _ hsb
    have halt : w.heap.size < W2.heap.size := by omega
    have HLN := Lib.hid (And.intro hlen (cnt_set done u (by rw [hld]; exact hun) m1))
    clear hM hlen hcn
    gi_wp2_with fail
    conv => arg 4; whnf
    gi_wp2_with fail
    conv => arg 4; whnf
    gi_wp2_with fail
    refine nameW ?_
    intro W3 hW3
    obtain ⟨⟨z1, z2, z3, z4, z5, z6, z7⟩, ⟨n1, n2, n3, n4, n5, n6, n7, n8, n9, n10⟩, ⟨s1, s2, s3, s4, s5, s6⟩, ⟨y1, y2, y3, y4, y5⟩⟩ := HZ.out
    have hb3 : ∀ b, b ≠ z.db → W3.heap[b]? = W2.heap[b]? := fun b hb => by rw [hW3]; exact Below.heap_setCell _ _ _ b hb
    have hM3 : WMem W0 W3 z v.S n len last bef (done.set u true) Ds := by
      have h := HM2.out
      obtain ⟨ra, rb, rcc, rc⟩ := h.rbc
      refine ⟨by rw [hW3]; exact h.bel.setCell z7 _, ⟨(hb3 _ n10.symm).trans h.tour.blk, (hb3 _ n7.symm).trans h.tour.len, (hb3 _ n8.symm).trans h.tour.lst, (hb3 _ n9.symm).trans h.tour.bfr, by rw [hW3]; exact BoolB.set h.tour.dn (by rw [hld]; exact hun) true, h.tour.ll, h.tour.la, h.tour.lb', by rw [List.length_set]; exact hld, n3⟩, (World.cell?_of_block (hb3 _ s4)).trans h.sbc, ⟨ra, rb, rcc, (hb3 _ y4).trans rc⟩, ⟨h.op.nd, fun E hE => (hb3 E (fun e => Opn.ne_cells h.op h.tour.dn (e ▸ hE))).trans (h.op.op E hE)⟩, h.ge⟩
    have hat3 : W3.cell? ⟨w.heap.size, 0, none⟩ = some (.int .i64 u) := (World.cell?_of_block (hb3 _ (show w.heap.size ≠ z.db by omega))).trans hat2
    have hz3 : W3.heap.size = W2.heap.size := by rw [hW3]; simp
    have hD3 := HD.out.mark hun m1 m2 m3
    have hsb3 := hM3.sbc
    have HZ3 := Lib.hid hz3
    clear hz3
    have HM3 := Lib.hid hM3
    have HD3 := Lib.hid hD3
    clear hW3 hb3 hM3 hD3 hdu hdf hat2 haf2 m1 m2 m3 hsb
    conv => arg 4; whnf
    gi_wp2_with fail
    refine ⟨trivial, fun hh => by simp [Fence.wide] at hh, (callsIn_wide.2 (arcs_c v.S u W3)).mono ?_⟩
    rintro e W4 ⟨rfl, hW4⟩
    gi_wp2_with fail
    rw [← hW4]
    have hz4 : W4.heap.size = W3.heap.size + 2 := by rw [hW4]; simp
    have hB4 : Below W3.heap.size W3 W4 := by rw [hW4]; exact ((Below.refl _ _).alloc (Nat.le_refl _) _).alloc (by simp) _
    have hc4 : W4.cell? ⟨W3.heap.size, 0, none⟩ = some (.pointer (some ⟨v.S, 0, none⟩)) := by rw [hW4]; simp
    have hd4 : W4.cell? ⟨W3.heap.size + 1, 0, none⟩ = some (.int .i64 u) := by rw [hW4]; simp
    clear hW4
    show Code.wpIn Fence.wide mm Tryz.prog (.rangeFunc (.tmp 86) #[87] (Tryz.f73.sub [1, 1, 1, 1, 0, 0, 0, 1, 1, 1, 1, 1, 0, 0]) (Tryz.f73.sub [1, 1, 1, 1, 0, 0, 0, 1, 1, 1, 1, 1, 0, 1])) _ _ _
    refine wpIn_over 102 #[.pointer (some ⟨W3.heap.size, 0, none⟩), .pointer (some ⟨W3.heap.size + 1, 0, none⟩)] rfl (enters_fn Tryz.func102 (by kernel_rfl) rfl) ?_
    intro fn
    generalize hrec : recOf fn _ _ _ _ W4.heap.size .ready = rec
    obtain ⟨W5, hW5⟩ : ∃ W5, (W4.alloc (.deferred (some []))).alloc (.loop rec) = W5 := ⟨_, rfl⟩
    rw [hW5]
    have hz5 : W5.heap.size = W4.heap.size + 2 := by rw [← hW5]; simp
    have hB5 : Below W4.heap.size W4 W5 := by rw [← hW5]; exact ((Below.refl _ _).alloc (Nat.le_refl _) _).alloc (by simp) _
    have hD5 : W5.heap[W4.heap.size]? = some (.deferred (some [])) := by rw [← hW5]; exact (Below.heap_alloc _ _ _ (by simp)).trans (World.alloc_heap_new W4 _)
    have hL5 : W5.heap[W4.heap.size + 1]? = some (.loop rec) := by rw [← hW5]; have := World.alloc_heap_new (W4.alloc (.deferred (some []))) (.loop rec); rwa [World.size_alloc] at this
    have hz3 := HZ3.out
    have hM5 := (HM3.out.keep hB4).keep hB5
    have hlt5 : ∀ b cs t r, w.heap[b]? = some (.cells cs t r) → b < w.heap.size := fun b cs t r h => (Array.getElem?_eq_some_iff.1 h).1
    obtain ⟨ra, rb, rcc, rc⟩ := HM.out.rbc
    have lt1 : z.tb < w.heap.size := hlt5 _ _ _ _ HM.out.tour.blk
    have lt2 : z.lb < w.heap.size := hlt5 _ _ _ _ HM.out.tour.len
    have lt3 : z.ab < w.heap.size := hlt5 _ _ _ _ HM.out.tour.lst
    have lt4 : z.bb < w.heap.size := hlt5 _ _ _ _ HM.out.tour.bfr
    have lt5 : z.db < w.heap.size := hlt5 _ _ _ _ HM.out.tour.dn
    have lt6 : z.rb < w.heap.size := hlt5 _ _ _ _ rc
    have lt7 : z.sb < w.heap.size := World.block_lt_of_cell? _ _ HM.out.sbc
    have lt8 : W0.heap.size ≤ w.heap.size := HM.out.bel.size
    clear hlt5 rc
    have hDs : ∀ D, D ∈ Ds → D < W4.heap.size := fun D hD => (Array.getElem?_eq_some_iff.1 (((HM3.out.keep hB4).op.op D hD))).1
    have hM6 : WMem W0 W5 z v.S n len last bef (done.set u true) (W4.heap.size :: Ds) :=
      ⟨hM5.bel, hM5.tour, hM5.sbc, hM5.rbc, ⟨List.nodup_cons.2 ⟨fun hm => absurd (hDs _ hm) (Nat.lt_irrefl _), hM5.op.nd⟩, fun D hD => by
        rcases List.mem_cons.1 hD with rfl | hD
        · exact hD5
        · exact hM5.op.op D hD⟩, fun D hD => by
        rcases List.mem_cons.1 hD with rfl | hD
        · omega
        · exact hM5.ge D hD⟩
    have hdn : gb (done.set u true) u = true := by rw [gb_set _ _ _ _ (by rw [hld]; exact hun), if_pos rfl]
    have h0 : WJ W0 z v.S n es x p src u (done.set u true) (fun v => if v = u then cnt done else rk v) (W4.heap.size :: Ds) w.heap.size (W3.heap.size + 1) (W4.heap.size + 1) rec 0 W5 := by
      refine ⟨len, last, bef, hM6, HD3.out.pend (fun u' a ha hp => ?_), cellB hB5 (cellB hB4 hat3), cellB hB5 hd4, cellB hB5 hc4, hL5, hdn⟩
      subst hp
      exact ⟨rfl, by rw [List.drop_zero]; exact (isArc_iff HG.out).1 ha⟩
    refine (callsIn_wide.2 (callsIn_wide.1 (arcs1_in (v := v) (ex := ex) (W4.heap.size + 1) HG.out HX.out u hun W3.heap.size (W3.heap.size + 1) (WJ W0 z v.S n es x p src u (done.set u true) (fun v => if v = u then cnt done else rk v) (W4.heap.size :: Ds) w.heap.size (W3.heap.size + 1) (W4.heap.size + 1) rec)
      (fun k W W' h hb => h.keep hb) (fun k W h => ?_) (fun k W hk h => ?_) W5 h0))).mono ?_
    · obtain ⟨_, _, _, k1, k2, k3, k4, k5, k6, k7⟩ := h
      exact ⟨HS.out.keep k1.bel, k5, k4⟩
    · exact WJ.step HG.out HX.out HS.out HP.out HZ.out hun hrec.symm (fun b hb => by omega) (by omega) hk h
    · rintro e W6 ⟨hr, l6, last6, bef6, k1, k2, k3, k4, k5, k6, k7⟩
      refine ⟨hr, k6, ?_⟩
      have hp : ∀ b, b ≠ W4.heap.size + 1 → ∀ o, (W6.putObj (W4.heap.size + 1) o).heap[b]? = W6.heap[b]? := fun b hb o => World.putObj_heap_other hb
      obtain ⟨ya, yb, yc, yd⟩ := k1.rbc
      refine ⟨⟨l6, last6, bef6, done.set u true, _, _, W4.heap.size :: Ds, ⟨?_, ⟨(hp _ (by omega) _).trans k1.tour.blk, (hp _ (by omega) _).trans k1.tour.len, (hp _ (by omega) _).trans k1.tour.lst, (hp _ (by omega) _).trans k1.tour.bfr, (hp _ (by omega) _).trans k1.tour.dn, k1.tour.ll, k1.tour.la, k1.tour.lb', k1.tour.ld, k1.tour.lbb⟩, (World.cell?_of_block (hp _ (show z.sb ≠ W4.heap.size + 1 by omega) _)).trans k1.sbc, ⟨ya, yb, yc, (hp _ (by omega) _).trans yd⟩, ⟨k1.op.nd, fun E hE => (hp _ (fun e => ?_) _).trans (k1.op.op E hE)⟩, k1.ge⟩, k2.pend (fun v b _ hh => ?_), ?_, by (refine ⟨rfl, rfl, ?_⟩; repeat (first | exact trivial | refine ⟨rfl, ?_⟩))⟩, ?_⟩
      · have e := k1.bel
        exact ⟨e.os, e.tape, e.output, by simpa [World.putObj] using e.size, fun b hb => (hp b (by omega) _).trans (e.block b hb)⟩
      · have h1 := k1.op.op E hE
        rw [e, k6] at h1
        injection h1 with h1; cases h1
      · have := hh.2
        rw [List.drop_length] at this
        cases this
      · rw [List.length_cons, HLN.out.2, HLN.out.1]
      · have h1 := HLN.out
        have h2 := cnt_le (done.set u true)
        rw [List.length_set, hld, h1.2] at h2
        show n - (rfMark W4.heap.size :: Ds.map rfMark).length < n - (Ds.map rfMark).length
        simp only [List.length_cons, List.length_map]
        omega
theorem results_cellN {P : Program} {fn : Func} {t : Tmp} {ty : TypeId} (hr : fn.results = #[.cell t ty]) {tm : Array Value} {b : Nat} {w : World} (ht : tm.getD t undef = .pointer (some ⟨b, 0, none⟩)) {cs : List Value} (hc : w.rangeAt b 0 cs)
    {d : TypeDesc} (hu : P.underlying ty = some d) (hd : d.isRow = true) (hi : (P.info? ty).map (·.size) = some cs.length) : (results fn tm).run P w = .ok (.agg cs.toArray) w := by
  have h1 := run_loadVar_mid w b 0 ty cs d hc hu hd hi
  simp only [results, hr]
  rw [Array.getD_eq_getD_getElem?] at ht
  simp [ht, asAddr, h1]
theorem ways_c {n J0 : Nat} {es : List Ed} (hg : Gd n J0 es) {x p ex : List Int} {v : Loc} (hx : Fits es x p) {W : World} (hS : SvM W v n es x p ex) (hpb : ∀ i, i < n → 0 ≤ gi p i ∧ gi p i ≤ 1000000000000) {src : Nat} (hs : src < n) :
    Calls Tryz.prog 73 #[.pointer (some ⟨v.S, 0, none⟩), .int .i64 src] W fun e w' => ∃ lb ab bb l last bef rk,
      e = .returned (.agg #[.slice (some ⟨lb, 0, none⟩) n n, .slice (some ⟨ab, 0, none⟩) n n, .slice (some ⟨bb, 0, none⟩) n n]) ∧ Below W.heap.size W w' ∧ W.heap.size ≤ lb ∧ W.heap.size ≤ ab ∧ W.heap.size ≤ bb ∧
      IntB w' lb l ∧ FlB encA 124 w' ab last ∧ IntB w' bb (bef.map Int.ofNat) ∧ Tour n es x p src l last bef rk := by
  refine callsIn_wide.1 (callsIn_of_wp_marks (n := 0) Tryz.func73 rfl trivial ?_ rfl)
  simp only [Tryz.ntmps73, List.size_toArray, List.length_cons, List.length_nil, Nat.reduceAdd, Nat.reduceSub, Array.replicate_succ, Array.replicate_zero, List.push_toArray, List.append_toArray, List.nil_append, List.cons_append]
  have HG := Lib.hid hg; clear hg
  have HX := Lib.hid hx; clear hx
  have HS := Lib.hid hS; clear hS
  have HP := Lib.hid hpb; clear hpb
  show Code.wpIn Fence.wide 0 Tryz.prog (.seq (Tryz.f73.sub [0]) (.seq (Tryz.f73.sub [1, 0]) (.seq (Tryz.f73.sub [1, 1, 0]) (.seq (Tryz.f73.sub [1, 1, 1, 0]) (.block 0 (.loop (.block 1 (Tryz.f73.sub [1, 1, 1, 1, 0, 0, 0])))))))) _ _ _
  refine wpIn_seq ?_
  conv => arg 4; whnf
  gi_wp2_with fail
  refine nameW ?_
  intro W1 hW1
  have hB1 : Below W.heap.size W W1 := by rw [hW1]; exact ((Below.refl _ _).alloc (Nat.le_refl _) _).alloc (by simp) _
  have hz1 : W1.heap.size = W.heap.size + 2 := by rw [hW1]; simp
  have hsb : W1.cell? ⟨W.heap.size, 0, none⟩ = some (.pointer (some ⟨v.S, 0, none⟩)) := by rw [hW1]; simp
  have hrb : W1.heap[W.heap.size + 1]? = some (.cells #[.slice none 0 0, .slice none 0 0, .slice none 0 0] 121 (0, 0)) := by
    rw [hW1]; have := World.alloc_heap_new (W.alloc (.cells #[.pointer (some ⟨v.S, 0, none⟩)] 74)) (.cells #[.slice none 0 0, .slice none 0 0, .slice none 0 0] 121); rwa [World.size_alloc] at this
  clear hW1
  have hnn := HG.out.n_le
  refine ways_make ⟨by omega, by omega⟩ hsb (cellB hB1 HS.out.c0) ?_
  intro v12 v13 v14 v15 v16 v17 v18 v19 v20 v21 v22 v23 v24 v25 v26 v27 v28 v29 v30 v31 v32 v33 v34 W2 tb lb ab bb hB2 g1 g2 g3 g4 htb hlb hab hbb
  have nlab : lb ≠ ab := fun e => by subst e; have := hlb.symm.trans hab; injection this with this; injection this with _ h _; exact absurd h (by decide)
  have nabb : ab ≠ bb := fun e => by subst e; have := hab.symm.trans hbb; injection this with this; injection this with _ h _; exact absurd h (by decide)
  have nltb : lb ≠ tb := fun e => by subst e; have := hlb.symm.trans htb; injection this with this; injection this with _ h _; exact absurd h (by decide)
  have natb : ab ≠ tb := fun e => by subst e; have := hab.symm.trans htb; injection this with this; injection this with _ h _; exact absurd h (by decide)
  have nbtb : bb ≠ tb := fun e => by subst e; have := hbb.symm.trans htb; injection this with this; injection this with _ h _; exact absurd h (by decide)
  have nlbb : lb ≠ bb := fun e => by
    subst e
    have h1 := hlb.cell (j := 0) (by simp; omega)
    have h2 := hbb.cell (j := 0) (by simp; omega)
    rw [h1, gi_rep n _ _ (by omega), gi_rep n _ _ (by omega)] at h2
    simp [far] at h2
  have ltb : tb < W2.heap.size := (Array.getElem?_eq_some_iff.1 htb).1
  have llb : lb < W2.heap.size := hlb.lt
  have lab : ab < W2.heap.size := FlB.lt hab
  have lbb : bb < W2.heap.size := hbb.lt
  have NE := Lib.hid (And.intro nlab (And.intro nabb (And.intro nltb (And.intro natb (And.intro nbtb nlbb)))))
  clear nlab nabb nltb natb nbtb nlbb
  rename_i K2 hK2
  refine hK2 _ _ ?_
  clear hK2 K2
  refine wpIn_seq ?_
  conv => arg 4; whnf
  dsimp only
  have c0 : W2.cell? ⟨W.heap.size, 0, none⟩ = some (.pointer (some ⟨v.S, 0, none⟩)) := cellB hB2 hsb
  have hB02 : Below W.heap.size W W2 := hB1.trans (hB2.mono (by omega))
  have cS : W2.cell? ⟨v.S, 0, none⟩ = some (.int .i64 n) := cellB hB02 HS.out.c0
  have hmk := run_make_bools n (by omega) W2
  gi_wp2_with fail
  refine nameW ?_
  intro W3 hW3
  have hB3 : Below W2.heap.size W2 W3 := by rw [hW3]; exact (Below.refl _ _).alloc (Nat.le_refl _) _
  have hdb : BoolB W3 W2.heap.size (List.replicate n false) := by rw [hW3]; exact FlB.new W2 encB _ _
  have htb3 := (hB3.block tb (Array.getElem?_eq_some_iff.1 htb).1).trans htb
  have hlb3 := hlb.keep hB3
  have hab3 := FlB.keep hab hB3
  have hbb3 := hbb.keep hB3
  have hrb3 := (hB3.block _ (by have := hB2.size; omega)).trans ((hB2.block _ (by omega)).trans hrb)
  have c03 := cellB hB3 c0
  have t0 : W3.cell? ⟨tb, 0, none⟩ = some (.slice (some ⟨lb, 0, none⟩) n n) := by simp [World.cell?, htb3]
  have l0 := hlb3.cell (j := src) (by simpa using hs)
  have lf := FlB.frozen hlb3 src
  have HB := Lib.hid (And.intro htb3 (And.intro hlb3 (And.intro hab3 (And.intro hbb3 (And.intro hdb hrb3)))))
  clear htb3 hlb3 hab3 hbb3 hdb hrb3 hW3 htb hlb hab hbb hrb hmk
  conv => arg 4; whnf
  gi_wp2_with fail
  refine nameW ?_
  intro W4 hW4
  obtain ⟨htb3, hlb3, hab3, hbb3, hdb, hrb3⟩ := HB.out
  have hz2 := hB2.size
  obtain ⟨nlab, nabb, nltb, natb, nbtb, nlbb⟩ := NE.out
  have hb4 : ∀ b, b ≠ lb → W4.heap[b]? = W3.heap[b]? := fun b hb => by rw [hW4]; exact Below.heap_setCell _ _ _ b hb
  have hM : WMem W W4 ⟨W.heap.size, W.heap.size + 1, tb, lb, ab, bb, W2.heap.size⟩ v.S n ((List.replicate n far).set src 0) (List.replicate n ⟨0, 0, 0, 0, 0⟩) (List.replicate n 0) (List.replicate n false) [] := by
    refine ⟨?_, ⟨(hb4 _ nltb.symm).trans htb3, by rw [hW4]; exact hlb3.set (by simpa using hs) 0, (hb4 _ nlab.symm).trans hab3, (hb4 _ nlbb.symm).trans (by rw [List.map_replicate]; exact hbb3), (hb4 _ (by show W2.heap.size ≠ lb; omega)).trans hdb, by simp, by simp, by simp, by simp, nlbb⟩, (World.cell?_of_block (hb4 _ (by show W.heap.size ≠ lb; omega))).trans c03, ⟨_, _, _, (hb4 _ (by show W.heap.size + 1 ≠ lb; omega)).trans hrb3⟩, ⟨List.nodup_nil, fun D hD => by cases hD⟩, fun D hD => by cases hD⟩
    rw [hW4]
    exact (hB02.trans (hB3.mono (by omega))).setCell (show W.heap.size ≤ lb by omega) _
  have hok : (⟨W.heap.size, W.heap.size + 1, tb, lb, ab, bb, W2.heap.size⟩ : WLoc).ok W.heap.size := by
    refine ⟨⟨?_, ?_, ?_, ?_, ?_, ?_, ?_⟩, ⟨nlab, nabb, nlbb, nltb, natb, nbtb, ?_, ?_, ?_, ?_⟩, ⟨?_, ?_, ?_, ?_, ?_, ?_⟩, ⟨?_, ?_, ?_, ?_, ?_⟩⟩ <;> (simp only; omega)
  refine wpIn_loop (LoopW W ⟨W.heap.size, W.heap.size + 1, tb, lb, ab, bb, W2.heap.size⟩ v.S n es x p src) (fun a _ => n - a.defers.length) ⟨_, _, _, _, _, _, [], hM, Dij.start n es x p src hs, by unfold cnt; rw [List.countP_replicate]; rfl, by (refine ⟨rfl, rfl, ?_⟩; repeat (first | exact trivial | refine ⟨rfl, ?_⟩))⟩ ?_
  rintro a w hI
  refine wpIn_block ?_
  refine wpIn_mono (ways_search HG.out HX.out HS.out HP.out hok (Q := fun e a w => e = .ret ∧ WEnd W ⟨W.heap.size, W.heap.size + 1, tb, lb, ab, bb, W2.heap.size⟩ n es x p src a w) (fun a w h => ⟨rfl, h⟩) hI) ?_
  intro e a w h
  cases e with
  | normal => exact h
  | ret =>
    obtain ⟨_, len, last, bef, rk, Ds, h1, h1b, h2, h3, h4, h5, h6, h7, h8, h9⟩ := h
    show LeavesInM Fence.wide 0 Tryz.prog _ a.tmps _ a.defers .returning w
    rw [h1]
    refine leaves_marks Ds w h2 ?_
    intro w' k1 k2 k3 k4 k5
    have b8 := (k1 _ (Opn.ne_cells h2 h8)).trans h8
    refine ⟨.agg #[.slice (some ⟨lb, 0, none⟩) n n, .slice (some ⟨ab, 0, none⟩) n n, .slice (some ⟨bb, 0, none⟩) n n], ?_, lb, ab, bb, len, last, bef, rk, rfl, ?_, by omega, by omega, by omega, (k1 _ (Opn.ne_cells h2 h5)).trans h5, (k1 _ (Opn.ne_cells h2 h6)).trans h6, (k1 _ (Opn.ne_cells h2 h7)).trans h7, h9⟩
    · refine results_cellN (cs := [.slice (some ⟨lb, 0, none⟩) n n, .slice (some ⟨ab, 0, none⟩) n n, .slice (some ⟨bb, 0, none⟩) n n]) Tryz.results73 h1b (fun j u hj => ?_) Tryz.underlying121 rfl (by kernel_rfl)
      obtain ⟨j1, j2⟩ := List.getElem?_eq_some_iff.1 hj
      rw [Nat.zero_add, block_cell b8 (j := j) (by simpa using j1)]
      simp [← j2]
    · exact ⟨k3.trans h4.os, k4.trans h4.tape, k5.trans h4.output, by rw [k2]; exact h4.size, fun b hb => (k1 b (fun hm => absurd hb (Nat.not_lt.2 (h3 b hm)))).trans (h4.block b hb)⟩
  | _ => exact (by obtain ⟨h, _⟩ := h; cases h)
theorem results_cell_tmp {P : Program} {fn : Func} {t r : Tmp} {ty : TypeId} (hr : fn.results = #[.cell t ty, .tmp r]) {tm : Array Value} {b : Nat} {w : World} (ht : tm.getD t undef = .pointer (some ⟨b, 0, none⟩)) {cs : List Value} (hc : w.rangeAt b 0 cs)
    {d : TypeDesc} (hu : P.underlying ty = some d) (hd : d.isRow = true) (hi : (P.info? ty).map (·.size) = some cs.length) {v : Value} (hv : tm.getD r undef = v) : (results fn tm).run P w = .ok (.tuple #[.agg cs.toArray, v]) w := by
  have h1 := run_loadVar_mid w b 0 ty cs d hc hu hd hi
  simp only [results, hr]
  rw [Array.getD_eq_getD_getElem?] at ht hv
  simp [ht, hv, asAddr, h1]
theorem net_ret {fn : Func} (hr : fn.results = #[.cell 2 37, .tmp 3]) {w : World} {R : Nat} {x y : Value} {e : Int} {a : Act} {Post : Ending → World → Prop} (h2 : a.tmps.getD 2 undef = .pointer (some ⟨R, 0, none⟩)) (h3 : a.tmps.getD 3 undef = .int .i64 e) (hd : a.defers = [])
    (hb : w.heap[R]? = some (.cells #[x, y] 37 (0, 0))) (hp : Post (.returned (.tuple #[.agg #[x, y], .int .i64 e])) w) : bodyPost Tryz.prog fn Post .ret a w := by
  refine bodyPost_ret (v := .tuple #[.agg #[x, y], .int .i64 e]) (results_cell_tmp (cs := [x, y]) hr h2 (fun j u hj => ?_) Tryz.underlying37 rfl (by kernel_rfl) h3) hd hp
  obtain ⟨j1, j2⟩ := List.getElem?_eq_some_iff.1 hj
  rw [Nat.zero_add, block_cell hb (j := j) (by simpa using j1)]
  simp [← j2]
theorem part_grow {m tb eb : Nat} {W : World} {d : TwoD} {Q : Exit → Act → World → Prop} {u0 u1 u2 u4 u6 u7 u8 u9 u10 u11 u12 u13 u14 u15 u16 u17 u18 u19 u20 u21 u22 u23 u24 u25 u26 u27 u28 u29 u30 u31 u32 u33 u34 u35 u36 u37 u38 u39 u40 u41 u42 u43 u44 u45 u46 u47 u48 u49 u50 u51 u52 : Value}
    (hok : d.ok W) (hy : d.y1 = d.t ∧ d.y2 = d.f) (hn : d.n ≤ 1000) (ht : W.cell? ⟨tb, 0, none⟩ = some (.slice (some ⟨d.R, 0, none⟩) d.n d.n)) (htS : tb ∉ d.S) (heS : eb ∉ d.S)
    (e0 : W.cell? ⟨eb, 0, none⟩ = some (.int .i64 d.f)) (e1 : W.cell? ⟨eb, 1, none⟩ = some (.int .i64 d.t))
    (hQ : ∀ v21 v22 v23 v24 v25 v26 v27 v28 v29 v30 v31 v32 v33 v34 v35 v36 v37 v38 v39 v40 v41 v42 v43 v44 v45 v46 w' a1 a2 a3 a4, TwoC W d true true true true true true a1 a2 a3 a4 w' → Q .normal ⟨#[u0, u1, u2, .pointer (some ⟨tb, 0, none⟩), u4, .pointer (some ⟨eb, 0, none⟩), u6, u7, u8, u9, u10, u11, u12, u13, u14, u15, u16, u17, u18, u19, u20, v21, v22, v23, v24, v25, v26, v27, v28, v29, v30, v31, v32, v33, v34, v35, v36, v37, v38, v39, v40, v41, v42, v43, v44, v45, v46, u47, u48, u49, u50, u51, u52], []⟩ w') :
    Code.wpIn Fence.wide m Tryz.prog (Tryz.f54.sub [1, 1, 0, 1, 0, 0, 1, 1, 0, 0, 1, 1, 0]) Q ⟨#[u0, u1, u2, .pointer (some ⟨tb, 0, none⟩), u4, .pointer (some ⟨eb, 0, none⟩), u6, u7, u8, u9, u10, u11, u12, u13, u14, u15, u16, u17, u18, u19, u20, u21, u22, u23, u24, u25, u26, u27, u28, u29, u30, u31, u32, u33, u34, u35, u36, u37, u38, u39, u40, u41, u42, u43, u44, u45, u46, u47, u48, u49, u50, u51, u52], []⟩ W := by
  conv => arg 4; whnf
  dsimp only
  have HQ := Lib.hid hQ; clear hQ
  have lf := hok.lf
  have lt := hok.lt
  have HK := Lib.hid hok; clear hok
  have HY := Lib.hid hy; clear hy
  obtain ⟨dB, dR, dn, df, dt, y1, y2, dA, dc, drows, dcs⟩ := d
  dsimp only at *
  refine regionIn_rel (.inl rfl) (by kernel_rfl) (by kernel_rfl) (by kernel_rfl) (fun L V w' => TwoC W ⟨dB, dR, dn, df, dt, y1, y2, dA, dc, drows, dcs⟩ (L 13) (L 14) (L 22) (L 23) (L 25) (L 27) (V 13) (V 14) (V 22) (V 23) w') (TwoC.start HK.out _ rfl) ?_
  (refine rel_val rfl _ (fun _ _ _ h => TwoC.up rfl h) (fun V L w h1 h2 h3 hC => ex_load1 _ _ rfl _ rfl (TwoC.far hC htS ht) _ Tryz.underlying76 rfl) ?_; simp only [Fam.pt])
  (refine rel_val rfl (.pointer (some ⟨eb, 0, none⟩)) (fun _ _ _ h => TwoC.up rfl h) (fun V L w h1 h2 h3 hC => by unfold execOp; go_simp) ?_; simp only [Fam.pt])
  (refine rel_val rfl _ (fun _ _ _ h => TwoC.up rfl h) (fun V L w h1 h2 h3 hC => ex_load1 _ _ rfl _ rfl (TwoC.far hC heS e0) _ Tryz.underlying3 rfl) ?_; simp only [Fam.pt])
  (refine rel_val rfl _ (fun _ _ _ h => TwoC.up rfl h) (fun V L w h1 h2 h3 hC => ex_load1 _ _ rfl _ rfl (TwoC.far hC htS ht) _ Tryz.underlying76 rfl) ?_; simp only [Fam.pt])
  (refine rel_val rfl (.pointer (some ⟨eb, 1, none⟩)) (fun _ _ _ h => TwoC.up rfl h) (fun V L w h1 h2 h3 hC => by unfold execOp; go_simp) ?_; simp only [Fam.pt])
  (refine rel_val rfl _ (fun _ _ _ h => TwoC.up rfl h) (fun V L w h1 h2 h3 hC => ex_load1 _ _ rfl _ rfl (TwoC.far hC heS e1) _ Tryz.underlying3 rfl) ?_; simp only [Fam.pt])
  (refine rel_val rfl _ (fun _ _ _ h => TwoC.up rfl h) (fun V L w h1 h2 h3 hC => ex_load1 _ _ rfl _ rfl (TwoC.far hC htS ht) _ Tryz.underlying76 rfl) ?_; simp only [Fam.pt])
  (refine rel_val rfl (.pointer (some ⟨eb, 0, none⟩)) (fun _ _ _ h => TwoC.up rfl h) (fun V L w h1 h2 h3 hC => by unfold execOp; go_simp) ?_; simp only [Fam.pt])
  (refine rel_val rfl _ (fun _ _ _ h => TwoC.up rfl h) (fun V L w h1 h2 h3 hC => ex_load1 _ _ rfl _ rfl (TwoC.far hC heS e0) _ Tryz.underlying3 rfl) ?_; simp only [Fam.pt])
  (refine rel_val rfl (.pointer (some ⟨dR, df, none⟩)) (fun _ _ _ h => TwoC.up rfl h) (fun V L w h1 h2 h3 hC => by unfold execOp; go_simp) ?_; simp only [Fam.pt])
  refine rel_val rfl (.slice (dA df) (drows df).length (dc df)) (fun _ _ _ h => TwoC.up rfl h) (fun V L w h1 h2 h3 hC => ex_load1 _ _ rfl _ rfl (TwoC.ev_row (by kernel_rfl) h1 h3 hC HK.out.hf) _ Tryz.underlying26 rfl) ?_
  simp only [Fam.pt]
  (refine rel_val rfl (.pointer (some ⟨eb, 1, none⟩)) (fun _ _ _ h => TwoC.up rfl h) (fun V L w h1 h2 h3 hC => by unfold execOp; go_simp) ?_; simp only [Fam.pt])
  (refine rel_val rfl _ (fun _ _ _ h => TwoC.up rfl h) (fun V L w h1 h2 h3 hC => ex_load1 _ _ rfl _ rfl (TwoC.far hC heS e1) _ Tryz.underlying3 rfl) ?_; simp only [Fam.pt])
  refine rel_free rfl (fun V L w h1 h2 h3 hC => ?_) ?_
  · rw [ex_slice1i _ rfl (dt : Int) rfl, ← HY.out.1]
    exact TwoC.ev_made1 (by decide) HK.out hC
  simp only [Fam.pt]
  refine rel_free rfl (fun V L w h1 h2 h3 hC => ?_) ?_
  · obtain ⟨v, w', k1, k2⟩ := TwoC.ev_app1 (by decide) HK.out hC h1 h3 (by kernel_rfl) h2 (by kernel_rfl) _
    rw [ex_append _ _ _ rfl rfl rfl k1]
    exact k2
  simp only [Fam.pt]
  (refine rel_val rfl _ (fun _ _ _ h => TwoC.up rfl h) (fun V L w h1 h2 h3 hC => ex_load1 _ _ rfl _ rfl (TwoC.far hC htS ht) _ Tryz.underlying76 rfl) ?_; simp only [Fam.pt])
  (refine rel_val rfl (.pointer (some ⟨eb, 1, none⟩)) (fun _ _ _ h => TwoC.up rfl h) (fun V L w h1 h2 h3 hC => by unfold execOp; go_simp) ?_; simp only [Fam.pt])
  (refine rel_val rfl _ (fun _ _ _ h => TwoC.up rfl h) (fun V L w h1 h2 h3 hC => ex_load1 _ _ rfl _ rfl (TwoC.far hC heS e1) _ Tryz.underlying3 rfl) ?_; simp only [Fam.pt])
  (refine rel_val rfl (.pointer (some ⟨dR, dt, none⟩)) (fun _ _ _ h => TwoC.up rfl h) (fun V L w h1 h2 h3 hC => by unfold execOp; go_simp) ?_; simp only [Fam.pt])
  refine rel_val rfl (.slice (dA dt) (drows dt).length (dc dt)) (fun _ _ _ h => TwoC.up rfl h) (fun V L w h1 h2 h3 hC => ex_load1 _ _ rfl _ rfl (TwoC.ev_row (by kernel_rfl) h1 h3 hC HK.out.ht) _ Tryz.underlying26 rfl) ?_
  simp only [Fam.pt]
  (refine rel_val rfl (.pointer (some ⟨eb, 0, none⟩)) (fun _ _ _ h => TwoC.up rfl h) (fun V L w h1 h2 h3 hC => by unfold execOp; go_simp) ?_; simp only [Fam.pt])
  (refine rel_val rfl _ (fun _ _ _ h => TwoC.up rfl h) (fun V L w h1 h2 h3 hC => ex_load1 _ _ rfl _ rfl (TwoC.far hC heS e0) _ Tryz.underlying3 rfl) ?_; simp only [Fam.pt])
  refine rel_free rfl (fun V L w h1 h2 h3 hC => ?_) ?_
  · rw [ex_slice1i _ rfl (df : Int) rfl, ← HY.out.2]
    exact TwoC.ev_made2 (by decide) HK.out hC
  simp only [Fam.pt]
  refine rel_free rfl (fun V L w h1 h2 h3 hC => ?_) ?_
  · obtain ⟨v, w', k1, k2⟩ := TwoC.ev_app2 (by decide) HK.out hC h1 h3 (by kernel_rfl) h2 (by kernel_rfl) (by kernel_rfl) _
    rw [ex_append _ _ _ rfl rfl rfl k1]
    exact k2
  simp only [Fam.pt]
  (refine rel_val rfl (.pointer (some ⟨dR, df, none⟩)) (fun _ _ _ h => TwoC.up rfl h) (fun V L w h1 h2 h3 hC => by unfold execOp; go_simp) ?_; simp only [Fam.pt])
  refine rel_fix rfl undef (fun V L w h1 h2 h3 hC => ?_) ?_
  · obtain ⟨⟨A1, c1, k1⟩, ⟨⟨x, k2⟩, k3⟩, k4⟩ := TwoC.ev_put1 (by decide) HK.out hC h1 h3 (by kernel_rfl) h2 (by kernel_rfl) (by kernel_rfl)
    rw [ex_store1 26 _ _ rfl dR df _ rfl rfl k2 k3 (by kernel_rfl) (by rw [k1]; rfl) (by rw [k1]; rfl)]
    exact ⟨rfl, k4⟩
  simp only [Fam.pt]
  (refine rel_val rfl (.pointer (some ⟨dR, dt, none⟩)) (fun _ _ _ h => TwoC.up rfl h) (fun V L w h1 h2 h3 hC => by unfold execOp; go_simp) ?_; simp only [Fam.pt])
  refine rel_fix rfl undef (fun V L w h1 h2 h3 hC => ?_) ?_
  · obtain ⟨⟨A1, c1, k1⟩, ⟨⟨x, k2⟩, k3⟩, k4⟩ := TwoC.ev_put2 (by decide) HK.out hC h1 h2 (by kernel_rfl) (by kernel_rfl) (by kernel_rfl)
    rw [ex_store1 26 _ _ rfl dR dt _ rfl rfl k2 k3 (by kernel_rfl) (by rw [k1]; rfl) (by rw [k1]; rfl)]
    exact ⟨rfl, k4⟩
  simp only [Fam.pt]
  intro V L w' hL hC
  rw [hL 13 (by decide), hL 14 (by decide), hL 22 (by decide), hL 23 (by decide), hL 25 (by decide), hL 27 (by decide)] at hC
  exact HQ.out _ _ _ _ _ _ _ _ _ _ _ _ _ _ _ _ _ _ _ _ _ _ _ _ _ _ w' _ _ _ _ hC
end Go.Proofs.YtjnpchoinncbnaaGreat
end
