/- Proves parts of the statement, each under the conditions that its theorem states: Numbers of groups: the search from one node; Numbers of groups: a search from each node that has no number yet; The parts: the rows of neighbours, and the contract; The parts: the contract. -/
import Derived.Test.YtjnpchoinncbnaaGreatP18
import Derived.Deep.LoopGhost
import Derived.Test.YtjnpchoinncbnaaGreatP17
set_option linter.unusedSimpArgs false
set_option linter.unusedVariables false
set_option maxHeartbeats 4000000
set_option maxRecDepth 100000
section
namespace Go.Proofs.YtjnpchoinncbnaaGreat
open Go.RowKit Sw Fam
theorem wpIn_loop_ghost {F : Fence} {m : Nat} {P : Program} {Q : Exit → Act → World → Prop} {a : Act} {w : World} {c : Code} (I : Nat → Act → World → Prop) (n₀ : Nat) (h₀ : I n₀ a w)
    (round : ∀ n a w, I n a w → c.wpIn F m P (Exit.then (fun a' w' => ∃ n', n' < n ∧ I n' a' w') Q) a w) : (Code.loop c).wpIn F m P Q a w := by
  refine wpIn_loop (fun a w => ∃ n, I n a w) (fun a w => leastOf (fun n => I n a w)) ⟨n₀, h₀⟩ ?_
  intro a w hI
  refine Code.wpIn_mono ?_ (round _ a w (leastOf_spec hI).1)
  intro e a' w' hq
  cases e with
  | normal =>
    obtain ⟨n', hlt, hI'⟩ := hq
    exact ⟨⟨n', hI'⟩, Nat.lt_of_le_of_lt ((leastOf_spec ⟨n', hI'⟩).2 n' hI') hlt⟩
  | _ => exact hq
structure RowsOk (n : Nat) (es : List Ed) (rows : Nat → List Nat) : Prop where
  mem : ∀ u v, u < n → (v ∈ rows u ↔ (v < n ∧ Nb es u v))
  len : ∀ u, u < n → (rows u).length ≤ 2000
def NumI (W0 : World) (z : NLoc) (n nb : Nat) (es : List Ed) (g root : Nat) (fr : List (Nat × Value)) (m : Nat) (a : Act) (w : World) : Prop :=
  ∃ out A c q, BfsI n es out g root q ∧ unl out + q.length = m ∧ m ≤ n ∧ (∀ v, v < root → 0 ≤ gi out v) ∧ Below W0.heap.size W0 w ∧ NumM w W0.heap.size z n out g A c q ∧
    FrD 45 [] ((1, .func (.func 75) #[] #[.pointer (some ⟨nb, 0, none⟩)]) :: (5, .pointer (some ⟨z.ob, 0, none⟩)) :: (6, .pointer (some ⟨z.gb, 0, none⟩)) :: (8, .pointer (some ⟨z.qb, 0, none⟩)) :: fr) a
theorem num_round {mm : Nat} {W0 : World} {z : NLoc} {n nb : Nat} {es : List Ed} {g root : Nat} {rows : Nat → List Nat} {fr : List (Nat × Value)} {v14 v15 : Value} (hf : fr = [(14, v14), (15, v15)]) (hR : RowsM W0 nb n rows) (hok : RowsOk n es rows) (ok : z.ok W0.heap.size) (hn : n ≤ 1000)
    {Q : Exit → Act → World → Prop} (hQ : ∀ a w out A c, BfsI n es out g root [] → (∀ v, v < root → 0 ≤ gi out v) → Below W0.heap.size W0 w → NumM w W0.heap.size z n out g A c [] →
      FrD 45 [] ((1, .func (.func 75) #[] #[.pointer (some ⟨nb, 0, none⟩)]) :: (5, .pointer (some ⟨z.ob, 0, none⟩)) :: (6, .pointer (some ⟨z.gb, 0, none⟩)) :: (8, .pointer (some ⟨z.qb, 0, none⟩)) :: fr) a → Q (.exit 2) a w)
    (m : Nat) (a : Act) (w : World) (hI : NumI W0 z n nb es g root fr m a w) :
    Code.wpIn Fence.wide mm Tryz.prog (Tryz.f74.sub [1, 1, 1, 0, 1, 0, 0, 1, 1, 0, 0, 1, 1, 1, 1, 0, 0, 0]) (Exit.then (fun a' w' => ∃ n', n' < m ∧ NumI W0 z n nb es g root fr n' a' w') Q) a w := by
  subst hf
  have hcf : ∀ args w, (callFunc 75 args).run Tryz.prog w = .ok (.enter 75 args) w := enters_fn Tryz.func75 (by kernel_rfl) rfl
  obtain ⟨out, A, c, q, hB, hm, hmn, hlow, hbel, hN, hfr⟩ := hI
  have HLOW := Lib.hid hlow; clear hlow
  obtain ⟨t, rfl⟩ := hfr.open
  clear hfr
  have HQ := Lib.hid hQ; clear hQ
  have HR := Lib.hid hR; clear hR
  have HK := Lib.hid hok; clear hok
  have OK := Lib.hid ok; clear ok
  have HB := Lib.hid hB; clear hB
  have HM := Lib.hid hm; clear hm
  have HBel := Lib.hid hbel; clear hbel
  show Code.wpIn Fence.wide mm Tryz.prog (.seq (.seq (Tryz.f74.sub [1, 1, 1, 0, 1, 0, 0, 1, 1, 0, 0, 1, 1, 1, 1, 0, 0, 0, 0, 0]) (Tryz.f74.sub [1, 1, 1, 0, 1, 0, 0, 1, 1, 0, 0, 1, 1, 1, 1, 0, 0, 0, 0, 1])) (.block 3 (Tryz.f74.sub [1, 1, 1, 0, 1, 0, 0, 1, 1, 0, 0, 1, 1, 1, 1, 0, 0, 0, 1, 0]))) _
    ⟨#[(t 0), .func (.func 75) #[] #[.pointer (some ⟨nb, 0, none⟩)], (t 2), (t 3), (t 4), .pointer (some ⟨z.ob, 0, none⟩), .pointer (some ⟨z.gb, 0, none⟩), (t 7), .pointer (some ⟨z.qb, 0, none⟩), (t 9), (t 10), (t 11), (t 12), (t 13), v14, v15, (t 16), (t 17), (t 18), (t 19), (t 20), (t 21), (t 22), (t 23), (t 24), (t 25), (t 26), (t 27), (t 28), (t 29), (t 30), (t 31), (t 32), (t 33), (t 34), (t 35), (t 36), (t 37), (t 38), (t 39), (t 40), (t 41), (t 42), (t 43), (t 44)], []⟩ _
  have c2 := hN.c2
  have f2 := hN.f2
  have hle := hN.gr.le
  refine wpIn_seq ?_
  refine wpIn_seq ?_
  conv => arg 4; whnf
  dsimp only
  cases q with
  | nil =>
    have HN := Lib.hid hN; clear hN
    gi_wp2_with fail
    conv => arg 4; whnf
    gi_wp2_with fail
    exact HQ.out _ _ out A c HB.out HLOW.out HBel.out HN.out (by (refine ⟨rfl, rfl, ?_⟩; repeat (first | exact trivial | refine ⟨rfl, ?_⟩)))
  | cons a q =>
    obtain ⟨b, o, rfl, hBb, hc⟩ := GrI.cell hN.gr (j := 0) (by simp)
    obtain ⟨u, hu, hau, hgu⟩ := HB.out.qu a (List.mem_cons_self ..)
    subst hau
    rw [show gi ((u : Int) :: q) 0 = (u : Int) from rfl, Nat.add_zero] at hc
    have HT := Lib.hid (GrF.tail encI_len hN.gr)
    have HN := Lib.hid hN; clear hN
    have HU := Lib.hid hgu; clear hgu
    simp only [List.length_cons] at c2 hle
    have hcq := HM.out
    rw [List.length_cons] at hcq
    have FIN : ∀ (A1 : Option Addr) (c1 : Nat), A1 = some (if c = 1 then ⟨b, o, none⟩ else ⟨b, o + 1, none⟩) → c1 = c - 1 →
        Calls Tryz.prog 75 #[.int .i64 u, .func (.func 84) #[] #[.pointer (some ⟨z.ob, 0, none⟩), .pointer (some ⟨z.gb, 0, none⟩), .pointer (some ⟨z.qb, 0, none⟩)], .pointer (some ⟨nb, 0, none⟩)] (w.setCell ⟨z.qb, 0, none⟩ (.slice A1 q.length c1))
          (fun e w' => e = .returned (.tuple #[]) ∧ ∀ a, FrD 45 [] ((1, .func (.func 75) #[] #[.pointer (some ⟨nb, 0, none⟩)]) :: (5, .pointer (some ⟨z.ob, 0, none⟩)) :: (6, .pointer (some ⟨z.gb, 0, none⟩)) :: (8, .pointer (some ⟨z.qb, 0, none⟩)) :: [(14, v14), (15, v15)]) a →
            ∃ n', n' < m ∧ NumI W0 z n nb es g root [(14, v14), (15, v15)] n' a w') := by
      intro A1 c1 hA1 hc1
      have hN1 := HN.out.setq (q' := q) (A' := A1) (c' := c1) OK.out ⟨rfl, rfl, rfl, Nat.le_refl _, fun _ _ _ => rfl⟩ (by rw [hA1, hc1]; exact HT.out) ⟨_, hA1, .inl ⟨_, rfl, by split <;> rfl⟩⟩
      have hb1 : Below W0.heap.size W0 (w.setCell ⟨z.qb, 0, none⟩ (.slice A1 q.length c1)) := HBel.out.setCell OK.out.le.2.2.1 _
      have hrow := HK.out.mem u
      have hlr := HK.out.len u hu
      refine (num2_c HR.out hb1 hN1 OK.out hu (by omega) (by omega) (fun b hb => ((hrow b hu).1 hb).1)).mono ?_
      rintro e w' ⟨rfl, k1, A2, c2', k2⟩
      refine ⟨rfl, fun a hfr => ?_⟩
      have hst := HB.out.step (row := rows u) (by rw [Int.toNat_natCast]; exact fun v => hrow v hu)
      have hv := (visit_fold (g := (g : Int)) (by omega) (rows u) out q HB.out.len (fun b hb => ((hrow b hu).1 hb).1)).2.2.2
      refine ⟨_, by omega, _, A2, c2', _, hst, rfl, by omega, fun v hv => ?_, hb1.trans k1, k2, hfr⟩
      have hvn : v < n := Nat.lt_trans hv HB.out.rt.1
      have h0 := HLOW.out v hv
      rw [(visit_fold (g := (g : Int)) (by omega) (rows u) out q HB.out.len (fun b hb => ((hrow b hu).1 hb).1)).2.1 v hvn, if_neg (fun hh => by omega)]
      exact h0
    have HFIN := Lib.hid FIN; clear FIN
    by_cases hc1 : c = 1
    · have hq0 : q = [] := List.eq_nil_of_length_eq_zero (by omega)
      subst hc1 hq0
      gi_wp2_with fail
      conv => arg 4; whnf
      gi_wp2_with fail
      conv => arg 4; whnf
      gi_wp2_with fail
      refine ⟨trivial, fun hh => (by simp [Fence.wide] at hh), (callsIn_wide.2 (HFIN.out (some ⟨b, o, none⟩) 0 rfl rfl)).mono ?_⟩
      rintro e w' ⟨rfl, h⟩
      have H := Lib.hid h; clear h
      gi_wp2_with fail
      refine H.out _ ?_
      (refine ⟨rfl, rfl, ?_⟩; repeat (first | exact trivial | refine ⟨rfl, ?_⟩))
    · gi_wp2_with fail
      conv => arg 4; whnf
      gi_wp2_with fail
      conv => arg 4; whnf
      gi_wp2_with fail
      refine ⟨trivial, fun hh => (by simp [Fence.wide] at hh), (callsIn_wide.2 (HFIN.out (some ⟨b, o + 1, none⟩) (c - 1) (by rw [if_neg hc1]) rfl)).mono ?_⟩
      rintro e w' ⟨rfl, h⟩
      have H := Lib.hid h; clear h
      gi_wp2_with fail
      refine H.out _ ?_
      (refine ⟨rfl, rfl, ?_⟩; repeat (first | exact trivial | refine ⟨rfl, ?_⟩))
structure NumO (w : World) (B ob gb O n : Nat) (out : List Int) (g : Int) : Prop where
  bo : w.heap[ob]? = some (.cells #[.slice (some ⟨O, 0, none⟩) n n] 26 (0, 0))
  bg : w.heap[gb]? = some (.cells #[.int .i64 g] 3 (0, 0))
  bO : IntB w O out
  lo : out.length = n
  le : B ≤ ob ∧ B ≤ gb ∧ B ≤ O
  ne : ob ≠ gb ∧ ob ≠ O ∧ gb ≠ O
def LoopNum (W0 : World) (ob gb O n nb : Nat) (es : List Ed) (v4 : Value) (a : Act) (w : World) : Prop :=
  ∃ (i g : Nat) (out : List Int), i ≤ n ∧ g ≤ i ∧ BfsO n es out g ∧ (∀ v, v < i → 0 ≤ gi out v) ∧ Below W0.heap.size W0 w ∧ NumO w W0.heap.size ob gb O n out g ∧
    FrD 45 [] [(1, .func (.func 75) #[] #[.pointer (some ⟨nb, 0, none⟩)]), (5, .pointer (some ⟨ob, 0, none⟩)), (6, .pointer (some ⟨gb, 0, none⟩)), (14, .int .i64 n), (15, .int .i64 i)] a
theorem hbelle {W0 w : World} (h : Below W0.heap.size W0 w) : W0.heap.size ≤ w.heap.size := h.size
theorem num_outer {mm : Nat} {W0 : World} {ob gb O n nb : Nat} {es : List Ed} {rows : Nat → List Nat} {v4 : Value} (hR : RowsM W0 nb n rows) (hok : RowsOk n es rows) (hn : n ≤ 1000)
    {Q : Exit → Act → World → Prop} (hQ : ∀ a w out g, BfsO n es out g → (∀ v, v < n → 0 ≤ gi out v) → Below W0.heap.size W0 w → NumO w W0.heap.size ob gb O n out g → FrD 45 [] [(5, .pointer (some ⟨ob, 0, none⟩))] a → Q (.exit 0) a w)
    (a : Act) (w : World) (hI : LoopNum W0 ob gb O n nb es v4 a w) :
    Code.wpIn Fence.wide mm Tryz.prog (Tryz.f74.sub [1, 1, 1, 0, 1, 0, 0]) (Exit.then (fun a' w' => LoopNum W0 ob gb O n nb es v4 a' w' ∧ n - (intOf (a'.tmps.getD 15 undef)).toNat < n - (intOf (a.tmps.getD 15 undef)).toNat) Q) a w := by
  obtain ⟨i, g, out, hi, hgi, hB, hlow, hbel, hN, hfr⟩ := hI
  obtain ⟨t, rfl⟩ := hfr.open
  clear hfr
  generalize hmu : n - (intOf ((⟨frL 45 _ t, []⟩ : Act).tmps.getD 15 undef)).toNat = mu
  have hmu' : n - i = mu := by rw [← hmu]; rfl
  clear hmu
  have HQ := Lib.hid hQ; clear hQ
  have HR := Lib.hid hR; clear hR
  have HK := Lib.hid hok; clear hok
  have HB := Lib.hid hB; clear hB
  have HLOW := Lib.hid hlow; clear hlow
  have HBel := Lib.hid hbel; clear hbel
  have c0 : w.cell? ⟨ob, 0, none⟩ = some (.slice (some ⟨O, 0, none⟩) n n) := by simp [World.cell?, hN.bo]
  have c1 : w.cell? ⟨gb, 0, none⟩ = some (.int .i64 g) := by simp [World.cell?, hN.bg]
  have f1 : w.frozen? ⟨gb, 0, none⟩ = false := by simp [World.frozen?, hN.bg]
  have HN := Lib.hid hN; clear hN
  show Code.wpIn Fence.wide mm Tryz.prog (.seq (Tryz.f74.sub [1, 1, 1, 0, 1, 0, 0, 0]) (.seq (Tryz.f74.sub [1, 1, 1, 0, 1, 0, 0, 1, 0]) (.seq (.block 1 (.seq (Tryz.f74.sub [1, 1, 1, 0, 1, 0, 0, 1, 1, 0, 0, 0]) (.seq (Tryz.f74.sub [1, 1, 1, 0, 1, 0, 0, 1, 1, 0, 0, 1, 0]) (.seq (Tryz.f74.sub [1, 1, 1, 0, 1, 0, 0, 1, 1, 0, 0, 1, 1, 0]) (.seq (Tryz.f74.sub [1, 1, 1, 0, 1, 0, 0, 1, 1, 0, 0, 1, 1, 1, 0]) (.seq (.block 2 (.loop (Tryz.f74.sub [1, 1, 1, 0, 1, 0, 0, 1, 1, 0, 0, 1, 1, 1, 1, 0, 0, 0]))) (Tryz.f74.sub [1, 1, 1, 0, 1, 0, 0, 1, 1, 0, 0, 1, 1, 1, 1, 1]))))))) (Tryz.f74.sub [1, 1, 1, 0, 1, 0, 0, 1, 1, 1])))) _
    ⟨#[(t 0), .func (.func 75) #[] #[.pointer (some ⟨nb, 0, none⟩)], (t 2), (t 3), (t 4), .pointer (some ⟨ob, 0, none⟩), .pointer (some ⟨gb, 0, none⟩), (t 7), (t 8), (t 9), (t 10), (t 11), (t 12), (t 13), .int .i64 n, .int .i64 i, (t 16), (t 17), (t 18), (t 19), (t 20), (t 21), (t 22), (t 23), (t 24), (t 25), (t 26), (t 27), (t 28), (t 29), (t 30), (t 31), (t 32), (t 33), (t 34), (t 35), (t 36), (t 37), (t 38), (t 39), (t 40), (t 41), (t 42), (t 43), (t 44)], []⟩ _
  refine wpIn_seq ?_
  conv => arg 4; whnf
  dsimp only
  by_cases hlt : i < n
  · have co := HN.out.bO.cell (j := i) (by rw [HN.out.lo]; exact hlt)
    have fo := HN.out.bO.frozen i
    gi_wp2_with fail
    conv => arg 4; whnf
    gi_wp2_with fail
    conv => arg 4; whnf
    gi_wp2_with fail
    conv => arg 4; whnf
    by_cases hneg : gi out i < 0
    · have hlt0 : O < w.heap.size := HN.out.bO.lt
      have hge := hbelle HBel.out
      have olt : ob < w.heap.size := World.block_lt_of_cell? _ _ c0
      have glt : gb < w.heap.size := World.block_lt_of_cell? _ _ c1
      gi_wp2_with fail
      rename_i K4 hK4
      conv => arg 4; whnf
      gi_wp2_with fail
      conv => arg 4; whnf
      gi_wp2_with fail
      refine nameW ?_
      intro W1 hW1
      rename_i K5 hK5
      have hs0 : W1.heap.size = w.heap.size + 2 := by rw [hW1]; simp
      have hq : W1.heap[w.heap.size + 1]? = some (.cells #[.slice (some ⟨w.heap.size, 0, none⟩) 1 1] 26 (0, 0)) := by
        rw [hW1]
        have e := World.alloc_heap_new ((w.setCell ⟨O, i, none⟩ (.int .i64 g)).alloc (.cells #[.int .i64 i] 3)) (.cells #[.slice (some ⟨w.heap.size, 0, none⟩) 1 1] 26)
        rwa [World.size_alloc, World.size_setCell] at e
      have hb1 : Below w.heap.size (w.setCell ⟨O, i, none⟩ (.int .i64 g)) W1 := by
        rw [hW1]; exact ((Below.refl _ _).alloc (by simp) _).alloc (by simp) _
      have hq0 : W1.heap[w.heap.size]? = some (.cells #[.int .i64 i] 3 (0, 0)) := by
        rw [hW1]
        have e := World.alloc_heap_new (w.setCell ⟨O, i, none⟩ (.int .i64 g)) (.cells #[.int .i64 i] 3)
        rw [World.size_setCell] at e
        exact (Below.heap_alloc _ _ _ (by simp)).trans e
      clear hW1
      have hO := HN.out.bO.set (j := i) (by rw [HN.out.lo]; exact hlt) (g : Int)
      obtain ⟨le1, le2, le3⟩ := HN.out.le
      obtain ⟨ne1, ne2, ne3⟩ := HN.out.ne
      have e1 : W1.heap[ob]? = some (.cells #[.slice (some ⟨O, 0, none⟩) n n] 26 (0, 0)) := (hb1.block ob olt).trans ((Below.heap_setCell _ _ _ _ ne2).trans HN.out.bo)
      have e2 : W1.heap[gb]? = some (.cells #[.int .i64 g] 3 (0, 0)) := (hb1.block gb glt).trans ((Below.heap_setCell _ _ _ _ ne3).trans HN.out.bg)
      have e3 : IntB W1 O (out.set i g) := (hb1.block O hlt0).trans hO
      have hbel1 : Below W0.heap.size W0 W1 := (HBel.out.setCell le3 _).trans (hb1.mono hge)
      have ok : (⟨ob, gb, w.heap.size + 1, O⟩ : NLoc).ok W0.heap.size := by
        refine ⟨⟨le1, le2, ?_, le3⟩, ⟨ne1, ?_, ne2, ?_, ne3, ?_⟩⟩ <;> (simp only; omega)
      have hGr : GrI W1 W0.heap.size (some ⟨w.heap.size, 0, none⟩) 1 [(i : Int)] := ⟨by simp, by simp [maxLen], fun h => (by cases h), fun a ha => by
        cases ha
        exact ⟨w.heap.size, 0, _, rfl, hge, hq0, by simp, fun j u hj => by
          have : j = 0 := by have := (List.getElem?_eq_some_iff.1 hj).1; simp [encI] at this; exact this
          subst this
          simpa [encI] using hj⟩⟩
      have hNM : NumM W1 W0.heap.size ⟨ob, gb, w.heap.size + 1, O⟩ n (out.set i g) g (some ⟨w.heap.size, 0, none⟩) 1 [(i : Int)] :=
        ⟨e1, e2, hq, e3, by rw [List.length_set]; exact HN.out.lo, hGr, fun b hb => by
          obtain rfl : w.heap.size = b := by simpa using hb
          refine ⟨?_, ?_, ?_, ?_⟩ <;> (simp only; omega)⟩
      have hun := unl_set out i g (by rw [HN.out.lo]; exact hlt) hneg (by omega)
      have hul : unl out ≤ n := by have := List.countP_le_length (p := fun x : Int => decide (x < 0)) (l := out); rw [HN.out.lo] at this; exact this
      refine wpIn_loop_ghost (NumI W0 ⟨ob, gb, w.heap.size + 1, O⟩ n nb es g i [(14, .int .i64 n), (15, .int .i64 i)]) _ ⟨_, _, _, _, HB.out.root hlt hneg, rfl, by simp only [List.length_singleton]; omega, fun v hv => ?_, hbel1, hNM, by (refine ⟨rfl, rfl, ?_⟩; repeat (first | exact trivial | refine ⟨rfl, ?_⟩))⟩ (num_round rfl HR.out HK.out ok hn ?_)
      · rw [gi_set _ _ _ _ (by rw [HN.out.lo]; exact hlt), if_neg (by omega)]
        exact HLOW.out v hv
      intro a2 w2 out2 A2 c2 hB2 hl2 hbel2 hN2 hfr2
      refine hK5 _ _ ?_
      obtain ⟨t2, rfl⟩ := hfr2.open
      have hg2 := hN2.c1
      have hgf := hN2.f1
      have HB2 := Lib.hid hB2.done
      have HRT := Lib.hid hB2.rt
      have HL2 := Lib.hid hl2
      have hb5 : Below W0.heap.size W0 (w2.setCell ⟨gb, 0, none⟩ (.int .i64 ((g : Int) + 1))) := hbel2.setCell le2 _
      have HBL2 := Lib.hid hb5
      have HN2 := Lib.hid (hN2.setg ok ((g : Int) + 1))
      clear hb5 hB2 hl2 hbel2 hN2 hNM hGr hq hq0 e1 e2 e3 hO hb1 hbel1 ok c0 c1 f1 co fo hs0 hun hul
      clear hfr2
      show Code.wpIn Fence.wide mm Tryz.prog (Tryz.f74.sub [1, 1, 1, 0, 1, 0, 0, 1, 1, 0, 0, 1, 1, 1, 1, 1]) _ ⟨#[(t2 0), .func (.func 75) #[] #[.pointer (some ⟨nb, 0, none⟩)], (t2 2), (t2 3), (t2 4), .pointer (some ⟨ob, 0, none⟩), .pointer (some ⟨gb, 0, none⟩), (t2 7), .pointer (some ⟨w.heap.size + 1, 0, none⟩), (t2 9), (t2 10), (t2 11), (t2 12), (t2 13), .int .i64 n, .int .i64 i, (t2 16), (t2 17), (t2 18), (t2 19), (t2 20), (t2 21), (t2 22), (t2 23), (t2 24), (t2 25), (t2 26), (t2 27), (t2 28), (t2 29), (t2 30), (t2 31), (t2 32), (t2 33), (t2 34), (t2 35), (t2 36), (t2 37), (t2 38), (t2 39), (t2 40), (t2 41), (t2 42), (t2 43), (t2 44)], []⟩ _
      conv => arg 4; whnf
      dsimp only
      gi_wp2_with fail
      conv => arg 4; whnf
      gi_wp2_with fail
      refine ⟨⟨i + 1, g + 1, out2, by omega, by omega, HB2.out, fun v hv => ?_, HBL2.out, ⟨HN2.out.bo, HN2.out.bg, HN2.out.bO, HN2.out.lo, ⟨le1, le2, le3⟩, ⟨ne1, ne2, ne3⟩⟩, by (refine ⟨rfl, rfl, ?_⟩; repeat (first | exact trivial | refine ⟨rfl, ?_⟩))⟩, ?_⟩
      · by_cases e : v = i
        · subst e; have := HRT.out.2; omega
        · exact HL2.out v (by omega)
      · show n - ((i : Int) + 1).toNat < mu
        omega
    · have hneg' : 0 ≤ gi out i := by omega
      gi_wp2_with fail
      conv => arg 4; whnf
      gi_wp2_with fail
      refine ⟨⟨i + 1, g, out, by omega, by omega, HB.out, fun v hv => ?_, HBel.out, HN.out, by (refine ⟨rfl, rfl, ?_⟩; repeat (first | exact trivial | refine ⟨rfl, ?_⟩))⟩, ?_⟩
      · by_cases e : v = i
        · subst e; exact hneg'
        · exact HLOW.out v (by omega)
      · show n - ((i : Int) + 1).toNat < mu
        omega
  · gi_wp2_with fail
    conv => arg 4; whnf
    gi_wp2_with fail
    have : i = n := by omega
    subst this
    exact HQ.out _ _ out g HB.out HLOW.out HBel.out HN.out (by (refine ⟨rfl, rfl, ?_⟩; repeat (first | exact trivial | refine ⟨rfl, ?_⟩)))
theorem numbered_c {n J nb : Nat} {es : List Ed} (hg : Gd n J es) (hn1 : 0 ≤ n) {rows : Nat → List Nat} {W : World} (hR : RowsM W nb n rows) (hok : RowsOk n es rows) :
    Calls Tryz.prog 74 #[.int .i64 n, .func (.func 75) #[] #[.pointer (some ⟨nb, 0, none⟩)]] W fun e w' => ∃ lb pt, e = .returned (.slice (some ⟨lb, 0, none⟩) n n) ∧ Below W.heap.size W w' ∧ W.heap.size ≤ lb ∧ IntB w' lb (pt.map Int.ofNat) ∧ Labels n es pt := by
  refine callsIn_wide.1 (callsIn_of_wp_marks (n := 0) Tryz.func74 rfl trivial ?_ rfl)
  simp only [Tryz.ntmps74, List.size_toArray, List.length_cons, List.length_nil, Nat.reduceAdd, Nat.reduceSub, Array.replicate_succ, Array.replicate_zero, List.push_toArray, List.append_toArray, List.nil_append, List.cons_append]
  have hn := hg.n_le
  have HG := Lib.hid hg; clear hg
  have HR := Lib.hid hR; clear hR
  have HK := Lib.hid hok; clear hok
  show Code.wpIn Fence.wide 0 Tryz.prog (.seq (Tryz.f74.sub [0]) (.seq (Tryz.f74.sub [1, 0]) (.seq (Tryz.f74.sub [1, 1, 0]) (.seq (.seq (Tryz.f74.sub [1, 1, 1, 0, 0]) (.block 0 (.loop (Tryz.f74.sub [1, 1, 1, 0, 1, 0, 0])))) (.seq (Tryz.f74.sub [1, 1, 1, 1, 0]) .ret))))) _ _ _
  refine wpIn_seq ?_
  conv => arg 4; whnf
  gi_wp2_with fail
  conv => arg 4; whnf
  gi_wp2_with fail
  refine ⟨trivial, rfl, (callsIn_wide.2 (repeat_g n (by omega) (-1) W.heap.size _ (by simp))).mono ?_⟩
  rintro e W1 ⟨O, rfl, hB1, hO, hI⟩
  have hz1 := hB1.size
  rw [World.size_alloc] at hz1 hO
  have HB1 := Lib.hid hB1; clear hB1
  have olt : O < W1.heap.size := hI.lt
  have HI := Lib.hid hI; clear hI
  gi_wp2_with fail
  conv => arg 4; whnf
  gi_wp2_with fail
  conv => arg 4; whnf
  gi_wp2_with fail
  refine nameW ?_
  intro W2 hW2
  have e1 : W2.heap[W1.heap.size]? = some (.cells #[.slice (some ⟨O, 0, none⟩) n n] 26 (0, 0)) := by
    rw [hW2]; exact (Below.heap_alloc _ _ _ (by simp)).trans (World.alloc_heap_new W1 _)
  have e2 : W2.heap[W1.heap.size + 1]? = some (.cells #[.int .i64 0] 3 (0, 0)) := by
    rw [hW2]
    have e := World.alloc_heap_new (W1.alloc (.cells #[.slice (some ⟨O, 0, none⟩) n n] 26)) (.cells #[.int .i64 0] 3)
    rwa [World.size_alloc] at e
  have hb2 : Below W1.heap.size W1 W2 := by rw [hW2]; exact ((Below.refl _ _).alloc (Nat.le_refl _) _).alloc (by simp) _
  clear hW2
  have hbel : Below W.heap.size W W2 := by
    have b0 : Below W.heap.size W (W.alloc (.cells #[.int .i64 (-1)] 3)) := (Below.refl _ _).alloc (Nat.le_refl _) _
    exact (b0.trans (HB1.out.mono (by simp))).trans (hb2.mono (by omega))
  have hN : NumO W2 W.heap.size W1.heap.size (W1.heap.size + 1) O n (List.replicate n (-1)) 0 :=
    ⟨e1, e2, HI.out.keep hb2, by simp, ⟨by omega, by omega, by omega⟩, ⟨by omega, by omega, by omega⟩⟩
  rename_i K hK
  refine wpIn_loop (LoopNum W W1.heap.size (W1.heap.size + 1) O n nb es undef) (fun a _ => n - (intOf (a.tmps.getD 15 undef)).toNat) ⟨0, 0, _, Nat.zero_le _, Nat.le_refl _, BfsO.start n es, fun v hv => by omega, hbel, hN, by (refine ⟨rfl, rfl, ?_⟩; repeat (first | exact trivial | refine ⟨rfl, ?_⟩))⟩ (num_outer HR.out HK.out (by omega) ?_)
  intro a3 w3 out3 g3 hB3 hall hbel3 hN3 hfr3
  refine hK _ _ ?_
  obtain ⟨t3, rfl⟩ := hfr3.open
  clear hfr3
  have c3 : w3.cell? ⟨W1.heap.size, 0, none⟩ = some (.slice (some ⟨O, 0, none⟩) n n) := by simp [World.cell?, hN3.bo]
  have H3 := Lib.hid (And.intro hB3 (And.intro hall (And.intro hbel3 hN3)))
  clear hB3 hall hbel3 hN3 hN hbel e1 e2 hb2
  show Code.wpIn Fence.wide 0 Tryz.prog (.seq (Tryz.f74.sub [1, 1, 1, 1, 0]) .ret) _ ⟨#[(t3 0), (t3 1), (t3 2), (t3 3), (t3 4), .pointer (some ⟨W1.heap.size, 0, none⟩), (t3 6), (t3 7), (t3 8), (t3 9), (t3 10), (t3 11), (t3 12), (t3 13), (t3 14), (t3 15), (t3 16), (t3 17), (t3 18), (t3 19), (t3 20), (t3 21), (t3 22), (t3 23), (t3 24), (t3 25), (t3 26), (t3 27), (t3 28), (t3 29), (t3 30), (t3 31), (t3 32), (t3 33), (t3 34), (t3 35), (t3 36), (t3 37), (t3 38), (t3 39), (t3 40), (t3 41), (t3 42), (t3 43), (t3 44)], []⟩ _
  refine wpIn_seq ?_
  conv => arg 4; whnf
  dsimp only
  gi_wp2_with fail
  obtain ⟨hB3, hall, hbel3, hN3⟩ := H3.out
  show LeavesInM Fence.wide 0 Tryz.prog _ _ _ [] .returning w3
  refine ⟨.slice (some ⟨O, 0, none⟩) n n, ?_, O, out3.map Int.toNat, rfl, hbel3, by omega, ?_, hB3.labels HG.out hall⟩
  · exact results_tmp Tryz.results74 _ _ _
  · have e : (out3.map Int.toNat).map Int.ofNat = out3 := by
      apply List.ext_getElem
      · simp
      · intro i h1 h2
        have := hall i (by rw [← hN3.lo]; simpa using h2)
        unfold gi at this
        simp only [List.getElem_map]
        rw [List.getD_eq_getElem?_getD, List.getElem?_eq_getElem h2, Option.getD_some] at this
        exact Int.toNat_of_nonneg this
    rw [e]; exact hN3.bO
def nbN (es : List Ed) : Nat → Nat → List Nat
  | 0, _ => []
  | k + 1, u => if 0 < (ge es k).k then (if u = (ge es k).f then nbN es k u ++ [(ge es k).t] else if u = (ge es k).t then nbN es k u ++ [(ge es k).f] else nbN es k u) else nbN es k u
def nbI (es : List Ed) (k u : Nat) : List Int := (nbN es k u).map Int.ofNat
theorem nbN_len (es : List Ed) : ∀ k u, (nbN es k u).length ≤ k := by
  intro k
  induction k with
  | zero => intro u; simp [nbN]
  | succ k ih =>
    intro u
    have := ih u
    unfold nbN
    split
    · split
      · simp; omega
      · split
        · simp; omega
        · omega
    · omega
theorem nbN_mem {n J : Nat} {es : List Ed} (hg : Gd n J es) (u v : Nat) : ∀ k, k ≤ es.length → (v ∈ nbN es k u ↔ ∃ i, i < k ∧ 0 < (ge es i).k ∧ (((ge es i).f = u ∧ (ge es i).t = v) ∨ ((ge es i).t = u ∧ (ge es i).f = v))) := by
  intro k
  induction k with
  | zero => intro _; simp [nbN]
  | succ k ih =>
    intro hk
    have h := ih (by omega)
    have hne := (hg.ends k (by omega)).2.2
    have hsplit : (∃ i, i < k + 1 ∧ 0 < (ge es i).k ∧ (((ge es i).f = u ∧ (ge es i).t = v) ∨ ((ge es i).t = u ∧ (ge es i).f = v))) ↔ (v ∈ nbN es k u ∨ (0 < (ge es k).k ∧ (((ge es k).f = u ∧ (ge es k).t = v) ∨ ((ge es k).t = u ∧ (ge es k).f = v)))) := by
      rw [h]
      constructor
      · rintro ⟨i, hi, hr⟩
        by_cases e : i = k
        · subst e; exact .inr hr
        · exact .inl ⟨i, by omega, hr⟩
      · rintro (⟨i, hi, hr⟩ | hr)
        · exact ⟨i, by omega, hr⟩
        · exact ⟨k, by omega, hr⟩
    rw [hsplit]
    show v ∈ (if 0 < (ge es k).k then (if u = (ge es k).f then nbN es k u ++ [(ge es k).t] else if u = (ge es k).t then nbN es k u ++ [(ge es k).f] else nbN es k u) else nbN es k u) ↔ _
    by_cases hk0 : 0 < (ge es k).k
    · rw [if_pos hk0]
      by_cases h1 : u = (ge es k).f
      · rw [if_pos h1, List.mem_append, List.mem_singleton]
        constructor
        · rintro (h | h)
          · exact .inl h
          · exact .inr ⟨hk0, .inl ⟨h1.symm, h.symm⟩⟩
        · rintro (h | ⟨_, ⟨_, h⟩ | ⟨h, _⟩⟩)
          · exact .inl h
          · exact .inr h.symm
          · exact absurd (h1.symm.trans h.symm) hne
      · rw [if_neg h1]
        by_cases h2 : u = (ge es k).t
        · rw [if_pos h2, List.mem_append, List.mem_singleton]
          constructor
          · rintro (h | h)
            · exact .inl h
            · exact .inr ⟨hk0, .inr ⟨h2.symm, h.symm⟩⟩
          · rintro (h | ⟨_, ⟨h, _⟩ | ⟨_, h⟩⟩)
            · exact .inl h
            · exact absurd h.symm h1
            · exact .inr h.symm
        · rw [if_neg h2]
          constructor
          · exact .inl
          · rintro (h | ⟨_, ⟨h, _⟩ | ⟨h, _⟩⟩)
            · exact h
            · exact absurd h.symm h1
            · exact absurd h.symm h2
    · rw [if_neg hk0]
      constructor
      · exact .inl
      · rintro (h | ⟨h, _⟩)
        · exact h
        · exact absurd h hk0
theorem nbN_ok {n J : Nat} {es : List Ed} (hg : Gd n J es) : RowsOk n es (nbN es es.length) := by
  refine ⟨fun u v hu => ?_, fun u hu => by have := nbN_len es es.length u; have := hg.m_le; omega⟩
  rw [nbN_mem hg u v es.length (Nat.le_refl _)]
  constructor
  · rintro ⟨i, hi, hk, h⟩
    obtain ⟨e1, e2, _⟩ := hg.ends i hi
    refine ⟨?_, i, hi, hk, h⟩
    rcases h with ⟨_, rfl⟩ | ⟨_, rfl⟩
    · exact e2
    · exact e1
  · rintro ⟨_, i, hi, hk, h⟩
    exact ⟨i, hi, hk, h⟩
theorem nbI_grow {es : List Ed} {k : Nat} (hk : 0 < (ge es k).k) : grow2 (nbI es k) (ge es k).f (ge es k).t (ge es k).t (ge es k).f = nbI es (k + 1) := by
  funext u
  unfold grow2 nbI
  rw [nbN, if_pos hk]
  split
  · simp
  · split <;> simp
theorem nbI_same {es : List Ed} {k : Nat} (hk : ¬ 0 < (ge es k).k) : nbI es k = nbI es (k + 1) := by
  funext u
  unfold nbI
  rw [nbN, if_neg hk]
def LoopPart (W0 : World) (tb xb R n : Nat) (es : List Ed) (A : Option Addr) (ca : Nat) (a : Act) (w : World) : Prop :=
  ∃ k Ar c, k ≤ es.length ∧ RowsG w W0.heap.size R n (nbI es k) Ar c ∧ Below W0.heap.size W0 w ∧ w.heap[tb]? = some (.cells #[.slice (some ⟨R, 0, none⟩) n n] 76 (0, 0)) ∧
    w.heap[xb]? = some (.cells #[.int .i64 n, .slice A es.length ca] 71 (0, 0)) ∧
    FrD 53 [] [(1, .pointer (some ⟨xb, 0, none⟩)), (3, .pointer (some ⟨tb, 0, none⟩)), (12, .slice A es.length ca), (13, .int .i64 es.length), (14, .int .i64 k)] a
theorem TwoD.ok.other {d : TwoD} {W : World} (h : d.ok W) {b : Nat} {cs : Array Value} {t : TypeId} (hb : W.heap[b]? = some (.cells cs t (0, 0))) (h1 : t ≠ 26) (h2 : t ≠ 3) : b ∉ d.S := by
  intro hm
  simp only [TwoD.S, List.mem_cons, List.mem_append, Option.mem_toList] at hm
  rcases hm with rfl | hm | hm
  · have := hb.symm.trans h.hd
    injection this with this; injection this with _ e _; exact h1 e
  · obtain ⟨cs', h3⟩ := h.gf.block hm
    have := hb.symm.trans h3
    injection this with this; injection this with _ e _; exact h2 e
  · obtain ⟨cs', h3⟩ := h.gt.block hm
    have := hb.symm.trans h3
    injection this with this; injection this with _ e _; exact h2 e
theorem TwoD.ok.ge {d : TwoD} {W : World} (h : d.ok W) : ∀ b, b ∈ d.S → d.B ≤ b := by
  intro b hm
  simp only [TwoD.S, List.mem_cons, List.mem_append, Option.mem_toList] at hm
  rcases hm with rfl | hm | hm
  · exact h.le.1
  · exact (h.gf.lt hm).1
  · exact (h.gt.lt hm).1
theorem part_round {mm n J tb xb R : Nat} {W0 : World} {es : List Ed} (hg : Gd n J es) {A : Option Addr} {ca : Nat} (hE : RdE W0 A es)
    {Q : Exit → Act → World → Prop} (hQ : ∀ a w Ar c, RowsG w W0.heap.size R n (nbI es es.length) Ar c → Below W0.heap.size W0 w → w.heap[tb]? = some (.cells #[.slice (some ⟨R, 0, none⟩) n n] 76 (0, 0)) →
      w.heap[xb]? = some (.cells #[.int .i64 n, .slice A es.length ca] 71 (0, 0)) → FrD 53 [] [(1, .pointer (some ⟨xb, 0, none⟩)), (3, .pointer (some ⟨tb, 0, none⟩))] a → Q (.exit 0) a w)
    (a : Act) (w : World) (hI : LoopPart W0 tb xb R n es A ca a w) :
    Code.wpIn Fence.wide mm Tryz.prog (Tryz.f54.sub [1, 1, 0, 1, 0, 0]) (Exit.then (fun a' w' => LoopPart W0 tb xb R n es A ca a' w' ∧ es.length - (intOf (a'.tmps.getD 14 undef)).toNat < es.length - (intOf (a.tmps.getD 14 undef)).toNat) Q) a w := by
  obtain ⟨k, Ar, c, hk, hRG, hbel, htb, hxb, hfr⟩ := hI
  obtain ⟨t, rfl⟩ := hfr.open
  clear hfr
  generalize hmu : es.length - (intOf ((⟨frL 53 _ t, []⟩ : Act).tmps.getD 14 undef)).toNat = mu
  have hmu' : es.length - k = mu := by rw [← hmu]; rfl
  clear hmu
  have HG := Lib.hid hg; clear hg
  have HQ := Lib.hid hQ; clear hQ
  have HRG := Lib.hid hRG; clear hRG
  have HBel := Lib.hid hbel; clear hbel
  have HT := Lib.hid htb; clear htb
  have HX := Lib.hid hxb; clear hxb
  have HE := Lib.hid hE; clear hE
  have hmm := HG.out.m_le
  have hnn := HG.out.n_le
  show Code.wpIn Fence.wide mm Tryz.prog (.seq (Tryz.f54.sub [1, 1, 0, 1, 0, 0, 0]) (.seq (Tryz.f54.sub [1, 1, 0, 1, 0, 0, 1, 0]) (.seq (.block 1 (.seq (Tryz.f54.sub [1, 1, 0, 1, 0, 0, 1, 1, 0, 0, 0]) (.seq (Tryz.f54.sub [1, 1, 0, 1, 0, 0, 1, 1, 0, 0, 1, 0]) (.cond (.tmp 20) (Tryz.f54.sub [1, 1, 0, 1, 0, 0, 1, 1, 0, 0, 1, 1, 0]) .skip)))) (Tryz.f54.sub [1, 1, 0, 1, 0, 0, 1, 1, 1])))) _
    ⟨#[(t 0), .pointer (some ⟨xb, 0, none⟩), (t 2), .pointer (some ⟨tb, 0, none⟩), (t 4), (t 5), (t 6), (t 7), (t 8), (t 9), (t 10), (t 11), .slice A es.length ca, .int .i64 es.length, .int .i64 k, (t 15), (t 16), (t 17), (t 18), (t 19), (t 20), (t 21), (t 22), (t 23), (t 24), (t 25), (t 26), (t 27), (t 28), (t 29), (t 30), (t 31), (t 32), (t 33), (t 34), (t 35), (t 36), (t 37), (t 38), (t 39), (t 40), (t 41), (t 42), (t 43), (t 44), (t 45), (t 46), (t 47), (t 48), (t 49), (t 50), (t 51), (t 52)], []⟩ _
  refine wpIn_seq ?_
  conv => arg 4; whnf
  dsimp only
  by_cases hlt : k < es.length
  · obtain ⟨b, o, rfl, c0, c1, c2, c3⟩ := (HE.out.keep HBel.out) k hlt
    obtain ⟨ef, et, ne⟩ := HG.out.ends k hlt
    have hwt := HG.out.wt k hlt
    gi_wp2_with fail
    conv => arg 4; whnf
    gi_wp2_with fail
    conv => arg 4; whnf
    gi_wp2_with fail
    refine nameW ?_
    intro W1 hW1
    have hb1 : Below w.heap.size w W1 := by rw [hW1]; exact (Below.refl _ _).alloc (Nat.le_refl _) _
    have heb : W1.heap[w.heap.size]? = some (.cells #[.int .i64 (ge es k).f, .int .i64 (ge es k).t, .int .i64 (ge es k).j, .int .i64 (ge es k).k] 54 (0, 0)) := by rw [hW1]; exact World.alloc_heap_new w _
    have hz1 : W1.heap.size = w.heap.size + 1 := by rw [hW1]; simp
    clear hW1
    have x0 : W1.cell? ⟨w.heap.size, 0, none⟩ = some (.int .i64 (ge es k).f) := block_cell heb (j := 0) (by simp)
    have x1 : W1.cell? ⟨w.heap.size, 1, none⟩ = some (.int .i64 (ge es k).t) := block_cell heb (j := 1) (by simp)
    have x3 : W1.cell? ⟨w.heap.size, 3, none⟩ = some (.int .i64 (ge es k).k) := block_cell heb (j := 3) (by simp)
    have hge := hbelle HBel.out
    have hRG1 := HRG.out.keep hb1
    have htb1 := (hb1.block _ (Array.getElem?_eq_some_iff.1 HT.out).1).trans HT.out
    have hxb1 := (hb1.block _ (Array.getElem?_eq_some_iff.1 HX.out).1).trans HX.out
    have hbel1 : Below W0.heap.size W0 W1 := HBel.out.trans (hb1.mono hge)
    have H1 := Lib.hid (And.intro hRG1 (And.intro htb1 (And.intro hxb1 (And.intro hbel1 heb))))
    clear hRG1 htb1 hxb1 hbel1 heb c0 c1 c2 c3 hb1
    have FIN : ∀ (a : Act) (w3 : World) Ar' c', RowsG w3 W0.heap.size R n (nbI es (k + 1)) Ar' c' → Below W0.heap.size W0 w3 → w3.heap[tb]? = some (.cells #[.slice (some ⟨R, 0, none⟩) n n] 76 (0, 0)) → w3.heap[xb]? = some (.cells #[.int .i64 n, .slice (some ⟨b, o, none⟩) es.length ca] 71 (0, 0)) →
        FrD 53 [] [(1, .pointer (some ⟨xb, 0, none⟩)), (3, .pointer (some ⟨tb, 0, none⟩)), (12, .slice (some ⟨b, o, none⟩) es.length ca), (13, .int .i64 es.length), (14, .int .i64 k)] a →
        Code.wpIn Fence.wide mm Tryz.prog (Tryz.f54.sub [1, 1, 0, 1, 0, 0, 1, 1, 1]) (Exit.then (fun a' w' => LoopPart W0 tb xb R n es (some ⟨b, o, none⟩) ca a' w' ∧ es.length - (intOf (a'.tmps.getD 14 undef)).toNat < mu) Q) a w3 := by
      intro a w3 Ar' c' k1 k2 k3 k4 k5
      obtain ⟨t5, rfl⟩ := k5.open
      have K := Lib.hid (And.intro k1 (And.intro k2 (And.intro k3 k4)))
      clear k1 k2 k3 k4 k5
      show Code.wpIn Fence.wide mm Tryz.prog _ _ ⟨#[(t5 0), .pointer (some ⟨xb, 0, none⟩), (t5 2), .pointer (some ⟨tb, 0, none⟩), (t5 4), (t5 5), (t5 6), (t5 7), (t5 8), (t5 9), (t5 10), (t5 11), .slice (some ⟨b, o, none⟩) es.length ca, .int .i64 es.length, .int .i64 k, (t5 15), (t5 16), (t5 17), (t5 18), (t5 19), (t5 20), (t5 21), (t5 22), (t5 23), (t5 24), (t5 25), (t5 26), (t5 27), (t5 28), (t5 29), (t5 30), (t5 31), (t5 32), (t5 33), (t5 34), (t5 35), (t5 36), (t5 37), (t5 38), (t5 39), (t5 40), (t5 41), (t5 42), (t5 43), (t5 44), (t5 45), (t5 46), (t5 47), (t5 48), (t5 49), (t5 50), (t5 51), (t5 52)], []⟩ _
      conv => arg 4; whnf
      dsimp only
      gi_wp2_with fail
      obtain ⟨k1, k2, k3, k4⟩ := K.out
      refine ⟨⟨k + 1, Ar', c', by omega, k1, k2, k3, k4, by (refine ⟨rfl, rfl, ?_⟩; repeat (first | exact trivial | refine ⟨rfl, ?_⟩))⟩, ?_⟩
      show es.length - ((k : Int) + 1).toNat < mu
      omega
    have HFIN := Lib.hid FIN; clear FIN
    rename_i K1 hK1 K2 hK2
    have HK1 := Lib.hid hK1; clear hK1
    conv => arg 4; whnf
    by_cases hw : 0 < (ge es k).k
    · gi_wp2_with fail
      obtain ⟨hRG1, htb1, hxb1, hbel1, heb⟩ := H1.out
      obtain ⟨cs, hok⟩ := hRG1.ok ef et ne (by omega) (fun u hu => by unfold nbI; rw [List.length_map]; have := nbN_len es k u; omega) (ge es k).t (ge es k).f
      refine part_grow (tb := tb) (eb := w.heap.size) hok ⟨rfl, rfl⟩ (by simp only; omega) (by simp [World.cell?, htb1]) (hok.other htb1 (by decide) (by decide)) (hok.other heb (by decide) (by decide)) x0 x1 ?_
      intro v21 v22 v23 v24 v25 v26 v27 v28 v29 v30 v31 v32 v33 v34 v35 v36 v37 v38 v39 v40 v41 v42 v43 v44 v45 v46 w3 a1 a2 a3 a4 hC
      obtain ⟨Ar', c', hR3, _⟩ := hC.done hRG1 hok
      rw [nbI_grow hw] at hR3
      refine HK1.out _ _ ?_
      refine HFIN.out _ w3 Ar' c' hR3 (hC.tch.below hbel1 (by omega) hok.ge) ?_ ?_ (by (refine ⟨rfl, rfl, ?_⟩; repeat (first | exact trivial | refine ⟨rfl, ?_⟩)))
      · exact (hC.tch.block tb (Array.getElem?_eq_some_iff.1 htb1).1 (hok.other htb1 (by decide) (by decide))).trans htb1
      · exact (hC.tch.block xb (Array.getElem?_eq_some_iff.1 hxb1).1 (hok.other hxb1 (by decide) (by decide))).trans hxb1
    · gi_wp2_with fail
      obtain ⟨hRG1, htb1, hxb1, hbel1, heb⟩ := H1.out
      refine HK1.out _ _ ?_
      rw [nbI_same hw] at hRG1
      exact HFIN.out _ W1 Ar c hRG1 hbel1 htb1 hxb1 (by (refine ⟨rfl, rfl, ?_⟩; repeat (first | exact trivial | refine ⟨rfl, ?_⟩)))
  · gi_wp2_with fail
    conv => arg 4; whnf
    gi_wp2_with fail
    have : k = es.length := by omega
    subst this
    exact HQ.out _ _ Ar c HRG.out HBel.out HT.out HX.out (by (refine ⟨rfl, rfl, ?_⟩; repeat (first | exact trivial | refine ⟨rfl, ?_⟩)))
def encZ (_ : Unit) : List Value := [.slice none 0 0]
theorem encZ_len (x : Unit) : (encZ x).length = 1 := rfl
theorem run_make_rows (n : Nat) (hn : n ≤ 1000) (W : World) : (Instr.makeSlice 76 (.int .i64 (n : Int)) (.int .i64 (n : Int))).run Tryz.prog W = .ok (.slice (some ⟨W.heap.size, 0, none⟩) n n) (W.alloc (.cells ((List.replicate n ()).flatMap encZ).toArray 26)) :=
  run_make_flat encZ_len (by decide) () _ _ (.slice none 0 0) 24 Tryz.underlying76 (by kernel_rfl) rfl n hn (by decide) W
theorem RowsG.start {w : World} {R B n : Nat} {rows : Nat → List Int} (h : w.heap[R]? = some (.cells ((List.replicate n ()).flatMap encZ).toArray 26 (0, 0))) (hB : B ≤ R) (hr : ∀ u, rows u = []) : RowsG w B R n rows (fun _ => none) (fun _ => 0) := by
  refine ⟨⟨_, h, ?_, fun u hu => ?_⟩, fun u hu => (by rw [hr u]; exact GrF.start w B), fun u v _ _ _ b hb => (by cases hb), fun u _ hb => (by cases hb), hB⟩
  · rw [List.size_toArray, flat_len encZ_len]; simp
  · have h6 := flat_get encZ_len (List.replicate n ()) u 0 (by omega) (by simpa using hu)
    rw [Nat.mul_one, Nat.add_zero] at h6
    rw [List.getElem?_toArray, h6, hr u]
    simp [hu, encZ]
theorem parts_c {n J : Nat} {es : List Ed} (hg : Gd n J es) (hn1 : 0 ≤ n) {W : World} {A : Option Addr} {ca : Nat} (hE : RdE W A es) :
    Calls Tryz.prog 54 #[.agg #[.int .i64 n, .slice A es.length ca]] W fun e w' => ∃ lb pt, e = .returned (.slice (some ⟨lb, 0, none⟩) n n) ∧ Below W.heap.size W w' ∧ W.heap.size ≤ lb ∧ IntB w' lb (pt.map Int.ofNat) ∧ Labels n es pt := by
  refine callsIn_wide.1 (callsIn_of_wp_marks (n := 0) Tryz.func54 rfl trivial ?_ rfl)
  simp only [Tryz.ntmps54, List.size_toArray, List.length_cons, List.length_nil, Nat.reduceAdd, Nat.reduceSub, Array.replicate_succ, Array.replicate_zero, List.push_toArray, List.append_toArray, List.nil_append, List.cons_append]
  have hn := hg.n_le
  have hm := hg.m_le
  have HG := Lib.hid hg; clear hg
  have HE := Lib.hid hE; clear hE
  have hmk := run_make_rows n (by omega)
  show Code.wpIn Fence.wide 0 Tryz.prog (.seq (Tryz.f54.sub [0]) (.seq (Tryz.f54.sub [1, 0]) (.seq (.seq (Tryz.f54.sub [1, 1, 0, 0]) (.block 0 (.loop (Tryz.f54.sub [1, 1, 0, 1, 0, 0])))) (.seq (Tryz.f54.sub [1, 1, 1, 0]) .ret)))) _ _ _
  refine wpIn_seq ?_
  conv => arg 4; whnf
  gi_wp2_with fail
  conv => arg 4; whnf
  gi_wp2_with fail
  conv => arg 4; whnf
  gi_wp2_with fail
  refine nameW ?_
  intro W1 hW1
  have hb1 : Below W.heap.size W W1 := by rw [hW1]; exact (((Below.refl _ _).alloc (Nat.le_refl _) _).alloc (by simp) _).alloc (by simp; omega) _
  have hxb : W1.heap[W.heap.size]? = some (.cells #[.int .i64 n, .slice A es.length ca] 71 (0, 0)) := by
    rw [hW1]; exact (Below.heap_alloc _ _ _ (by simp; omega)).trans ((Below.heap_alloc _ _ _ (by simp)).trans (World.alloc_heap_new W _))
  have hR : W1.heap[W.heap.size + 1]? = some (.cells ((List.replicate n ()).flatMap encZ).toArray 26 (0, 0)) := by
    rw [hW1]
    have e := World.alloc_heap_new (W.alloc (.cells #[.int .i64 n, .slice A es.length ca] 71)) (.cells ((List.replicate n ()).flatMap encZ).toArray 26)
    rw [World.size_alloc] at e
    exact (Below.heap_alloc _ _ _ (by simp)).trans e
  have htb : W1.heap[W.heap.size + 2]? = some (.cells #[.slice (some ⟨W.heap.size + 1, 0, none⟩) n n] 76 (0, 0)) := by
    rw [hW1]
    have e := World.alloc_heap_new ((W.alloc (.cells #[.int .i64 n, .slice A es.length ca] 71)).alloc (.cells ((List.replicate n ()).flatMap encZ).toArray 26)) (.cells #[.slice (some ⟨W.heap.size + 1, 0, none⟩) n n] 76)
    rwa [World.size_alloc, World.size_alloc] at e
  clear hW1 hmk
  have hRG : RowsG W1 W.heap.size (W.heap.size + 1) n (nbI es 0) (fun _ => none) (fun _ => 0) := RowsG.start hR (by omega) (fun u => rfl)
  rename_i K hK
  refine wpIn_loop (LoopPart W (W.heap.size + 2) W.heap.size (W.heap.size + 1) n es A ca) (fun a _ => es.length - (intOf (a.tmps.getD 14 undef)).toNat) ⟨0, _, _, Nat.zero_le _, hRG, hb1, htb, hxb, by (refine ⟨rfl, rfl, ?_⟩; repeat (first | exact trivial | refine ⟨rfl, ?_⟩))⟩ (part_round HG.out HE.out ?_)
  clear hRG hb1 hxb hR htb
  intro a3 w3 Ar c hRG3 hbel3 htb3 hxb3 hfr3
  refine hK _ _ ?_
  obtain ⟨t3, rfl⟩ := hfr3.open
  clear hfr3
  have x0 : w3.cell? ⟨W.heap.size, 0, none⟩ = some (.int .i64 n) := by simp [World.cell?, hxb3]
  have t0 : w3.cell? ⟨W.heap.size + 2, 0, none⟩ = some (.slice (some ⟨W.heap.size + 1, 0, none⟩) n n) := by simp [World.cell?, htb3]
  have hRM : RowsM w3 (W.heap.size + 2) n (nbN es es.length) := by
    obtain ⟨⟨cs, q1, q2, q3⟩, q4, _, _, _⟩ := hRG3
    refine ⟨W.heap.size + 1, t0, fun u hu => ⟨Ar u, c u, ?_, (q4 u hu).rd⟩⟩
    have := q3 u hu
    unfold nbI at this
    rw [List.length_map] at this
    simp [World.cell?, q1, this]
  have HC := Lib.hid (numbered_c HG.out hn1 hRM (nbN_ok HG.out))
  have hs3 := hbel3.size
  have HB3 := Lib.hid hbel3
  clear hRG3 hbel3 htb3 hxb3 hRM t0
  show Code.wpIn Fence.wide 0 Tryz.prog (.seq (Tryz.f54.sub [1, 1, 1, 0]) .ret) _ ⟨#[(t3 0), .pointer (some ⟨W.heap.size, 0, none⟩), (t3 2), .pointer (some ⟨W.heap.size + 2, 0, none⟩), (t3 4), (t3 5), (t3 6), (t3 7), (t3 8), (t3 9), (t3 10), (t3 11), (t3 12), (t3 13), (t3 14), (t3 15), (t3 16), (t3 17), (t3 18), (t3 19), (t3 20), (t3 21), (t3 22), (t3 23), (t3 24), (t3 25), (t3 26), (t3 27), (t3 28), (t3 29), (t3 30), (t3 31), (t3 32), (t3 33), (t3 34), (t3 35), (t3 36), (t3 37), (t3 38), (t3 39), (t3 40), (t3 41), (t3 42), (t3 43), (t3 44), (t3 45), (t3 46), (t3 47), (t3 48), (t3 49), (t3 50), (t3 51), (t3 52)], []⟩ _
  refine wpIn_seq ?_
  conv => arg 4; whnf
  dsimp only
  gi_wp2_with fail
  refine ⟨trivial, rfl, (callsIn_wide.2 HC.out).mono ?_⟩
  rintro e w4 ⟨lb, pt, rfl, k1, k2, k3, k4⟩
  have K := Lib.hid (And.intro k1 (And.intro k3 k4))
  clear k1 k3 k4
  gi_wp2_with fail
  obtain ⟨k1, k3, k4⟩ := K.out
  show LeavesInM Fence.wide 0 Tryz.prog _ _ _ [] .returning w4
  exact ⟨.slice (some ⟨lb, 0, none⟩) n n, results_tmp Tryz.results54 _ _ _, lb, pt, rfl, HB3.out.trans (k1.mono hs3), by omega, k3, k4⟩
end Go.Proofs.YtjnpchoinncbnaaGreat
end
