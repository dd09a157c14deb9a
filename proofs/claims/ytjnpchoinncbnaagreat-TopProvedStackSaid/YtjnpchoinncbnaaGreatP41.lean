/- Proves parts of the statement, each under the conditions that its theorem states: The law: the walk; The row. -/
import Derived.Test.YtjnpchoinncbnaaGreatP40
import Derived.Test.YtjnpchoinncbnaaGreatRows
import Derived.WalkKit
import Derived.ProofKit
import Derived.OpenShut
import Derived.ShutString
import Derived.ChangeOld
import Derived.Below
import Derived.Lib.SmallJoins
import Derived.Deep.Slices
import Derived.ChangeSame
set_option linter.unusedSimpArgs false
set_option linter.unusedVariables false
set_option maxHeartbeats 4000000
set_option maxRecDepth 100000
section
namespace Go.Proofs.YtjnpchoinncbnaaGreat
open Go.RowKit Sw Fam
theorem law_c {t : Sk} {l : SkL} {ks : List Int} {TA : Option Addr} {tc : Nat} {w : World} (hM : SkM w t l) (hT : RdI w TA ks) :
    Calls Tryz.prog 3 #[SkV t l, .slice TA ks.length tc] w fun e w' => e = .returned (.bool true) ∧ Below w.heap.size w w' := by
  have HM := Lib.hid (And.intro hM hT); clear hM hT
  unfold SkV
  go_enter Tryz.func3, Tryz.ntmps3
  show Code.wp Tryz.prog (.seq (Tryz.f3.sub [0]) (.seq (Tryz.f3.sub [1, 0]) (.seq (Tryz.f3.sub [1, 1, 0]) (Tryz.f3.sub [1, 1, 1])))) _ _ _
  refine wp_seq ?_
  conv => arg 2; whnf
  go_wp2_with fail
  refine nameC ?_
  intro W1 hW1
  obtain ⟨hB1, e1⟩ := alloc1 w _ hW1
  clear hW1
  obtain ⟨G, hG⟩ : ∃ G, w.heap.size = G := ⟨_, rfl⟩
  rw [hG] at e1
  rw [hG]
  have HB := Lib.hid (And.intro hB1 (And.intro e1 hG)); clear hB1 e1 hG
  conv => arg 2; whnf
  go_wp2_with fail
  refine (stacked_c W1).mono ?_
  rintro e W2 ⟨rfl, hB2⟩
  have hB02 := HB.out.1.trans (hB2.mono HB.out.1.size)
  have e2 := (hB2.block _ (Array.getElem?_eq_some_iff.1 HB.out.2.1).1).trans HB.out.2.1
  have g0 : W2.cell? ⟨G, 0, none⟩ = some (.slice l.S t.sc.length l.cs) := block_cell e2 (j := 0) (by simp)
  have g1 : W2.cell? ⟨G, 1, none⟩ = some (.slice l.P t.pr.length l.cp) := block_cell e2 (j := 1) (by simp)
  have g2 : W2.cell? ⟨G, 2, none⟩ = some (.slice l.H t.ph.length l.ch) := block_cell e2 (j := 2) (by simp)
  have g3 : W2.cell? ⟨G, 3, none⟩ = some (.slice l.W t.ws.length l.cw) := block_cell e2 (j := 3) (by simp)
  have H2 := Lib.hid (And.intro hB02 e2); clear hB02 e2 hB2 HB
  go_wp2_with fail
  by_cases h1 : t.sc.length ≤ 60
  · have d1 : decide ((60 : Int) < (t.sc.length : Int)) = false := by simp; omega
    by_cases h2 : t.pr.length ≤ 200
    · have d2 : decide ((200 : Int) < (t.pr.length : Int)) = false := by simp; omega
      by_cases h3 : t.ph.length ≤ 200
      · have d3 : decide ((200 : Int) < (t.ph.length : Int)) = false := by simp; omega
        by_cases h4 : t.ws.length ≤ 200
        · have d4 : decide ((200 : Int) < (t.ws.length : Int)) = false := by simp; omega
          by_cases h5 : ks.length ≤ 250
          · have d5 : decide ((250 : Int) < (ks.length : Int)) = false := by simp; omega
            have hck := btask7_c (HM.out.1.keep H2.out.1) (by omega) (by omega) (by omega) (by omega)
            unfold SkV at hck
            have HCK := Lib.hid hck; clear hck
            have HL := Lib.hid h5; clear h1 h2 h3 h4 h5
            conv => arg 2; whnf
            go_wp2_with fail
            refine HCK.out.mono ?_
            rintro e W3 ⟨g, rfl, hB3, hg⟩
            have hB03 := H2.out.1.trans (hB3.mono H2.out.1.size)
            have e3 := (hB3.block _ (Array.getElem?_eq_some_iff.1 H2.out.2).1).trans H2.out.2
            have H3 := Lib.hid (And.intro hB03 (And.intro e3 hg)); clear hB03 e3 hg hB3 g0 g1 g2 g3 HCK d1 d2 d3 d4 d5
            by_cases h0 : g = 0
            · subst h0
              have HRT := Lib.hid (H3.out.2.2 rfl)
              go_wp2_with fail
              exact law_tail (HM.out.1.keep H3.out.1) HRT.out (HM.out.2.keep H3.out.1) HL.out H3.out.1 H3.out.2.1
            · have hb0 : (g != 0) = true := by simpa using h0
              clear h0
              go_wp2_with fail
              go_ret
              exact ⟨rfl, H3.out.1⟩
          · have d5 : decide ((250 : Int) < (ks.length : Int)) = true := by simp; omega
            clear h1 h2 h3 h4 h5
            conv => arg 2; whnf
            go_wp2_with fail
            go_ret
            exact ⟨rfl, H2.out.1⟩
        · have d4 : decide ((200 : Int) < (t.ws.length : Int)) = true := by simp; omega
          clear h1 h2 h3 h4
          conv => arg 2; whnf
          go_wp2_with fail
          go_ret
          exact ⟨rfl, H2.out.1⟩
      · have d3 : decide ((200 : Int) < (t.ph.length : Int)) = true := by simp; omega
        clear h1 h2 h3
        conv => arg 2; whnf
        go_wp2_with fail
        go_ret
        exact ⟨rfl, H2.out.1⟩
    · have d2 : decide ((200 : Int) < (t.pr.length : Int)) = true := by simp; omega
      clear h1 h2
      conv => arg 2; whnf
      go_wp2_with fail
      go_ret
      exact ⟨rfl, H2.out.1⟩
  · have d1 : decide ((60 : Int) < (t.sc.length : Int)) = true := by simp; omega
    clear h1
    conv => arg 2; whnf
    go_wp2_with fail
    go_ret
    exact ⟨rfl, H2.out.1⟩
end Go.Proofs.YtjnpchoinncbnaaGreat
end
section
namespace Go.Proofs.YtjnpchoinncbnaaGreat.topProvedStack
open Go.ChangeShapes Go.WideShapes Go.ChangeAt Go.RowKit Sw
theorem own : ownKnob Tryz.prog.godebug = none := by kernel_rfl
theorem laidOut : laidOutB Tryz.prog = true := by kernel_rfl
theorem pick {α : Type} [Inhabited α] {n : Nat} {q : Nat → α → Prop} (h : ∀ i, i < n → ∃ x, q i x) : ∃ xs : List α, xs.length = n ∧ ∀ i, i < n → q i (xs.getD i default) := by
  obtain ⟨f, hf⟩ := Go.Deep.choose_lt h
  refine ⟨(List.range n).map f, by simp, fun i hi => ?_⟩
  have := hf i hi
  simpa [List.getD_eq_getElem?_getD, hi] using this
instance : Inhabited Sc := ⟨⟨⟨#[]⟩, 0, 0⟩⟩
instance : Inhabited Rp := ⟨⟨0, 0⟩⟩
section
variable {H : Type} {enc : TypeId × Value → H} {w : World}
theorem ints_rd {n : Nat} {c : Value} {y : DataW H × List MemPlace} (h : DataW.trod enc Tryz.prog w 0 (fun _ => true) true n 26 [c] = some y) : ∃ (A : Option Addr) (xs : List Int) (cap : Nat), c = .slice A xs.length cap ∧ RdI w A xs := by
  rcases open_ints Tryz.underlying26 Tryz.underlying3 (by kernel_rfl) h with ⟨hcs, _⟩ | ⟨a, len, cap, zs, hcs, _, hl, hm, hz, _, hcell, hwz⟩
  · simp at hcs
    exact ⟨none, [], 0, hcs, RdI.nil _ _⟩
  · simp at hcs
    have hz' : zs.length = cap := by simpa using hz
    have hlen : (zs.take len).length = len := by rw [List.length_take]; omega
    refine ⟨some a, zs.take len, cap, by rw [hlen]; exact hcs, fun j hj => ?_⟩
    rw [hlen] at hj
    obtain ⟨b, off, e, hc⟩ := ints_at hcell (by omega)
    subst e
    refine ⟨b, off, rfl, ?_⟩
    have : gi (zs.take len) j = zs.getD j 0 := by unfold gi; simp [List.getD_eq_getElem?_getD, hj]
    rw [this]
    exact hc j (by omega)
theorem plain_addr {a : Addr} {v : Value} (h : w.cell? (a.add 0) = some v) : ∃ b o, a = ⟨b, o, none⟩ := by
  obtain ⟨b, off, spot⟩ := a
  have hspot : spot = none := by simpa [Addr.add] using World.cell?_spot h
  subst hspot
  exact ⟨b, off, rfl⟩
theorem scenes_rd {n : Nat} {c : Value} {y : DataW H × List MemPlace} (h : DataW.trod enc Tryz.prog w 0 (fun _ => true) true n 22 [c] = some y) : ∃ (A : Option Addr) (xs : List Sc) (cap : Nat), c = .slice A xs.length cap ∧ RdS w A xs := by
  have k84 : Tryz.prog.cellsOf 84 = 3 := by kernel_rfl
  have kst : Tryz.prog.cellsOf 9 = 1 := by kernel_rfl
  have kin : Tryz.prog.cellsOf 3 = 1 := by kernel_rfl
  rcases Go.Deep.open_slice Tryz.underlying22 h with ⟨hcs, _⟩ | ⟨a, len, cap, m, n', D, Pl, hcs, _, hl, hm, hmm, _, hx⟩
  · simp at hcs
    exact ⟨none, [], 0, hcs, fun j hj => absurd hj (Nat.not_lt_zero _)⟩
  · simp at hcs
    have hmm' : m = cap := by simpa using hmm
    obtain ⟨xs, hxl, hxs⟩ := pick (α := Sc) (n := len) (q := fun i x => w.cell? (a.add (i * 3)) = some (.string x.nm) ∧ w.cell? (a.add (i * 3 + 1)) = some (.int .i64 x.day) ∧ w.cell? (a.add (i * 3 + 2)) = some (.int .i64 x.bl) ∧ x.nm.size ≤ maxLen) (fun i hi => by
      obtain ⟨cs', h1, h2⟩ := hx i (by omega)
      rw [k84] at h1
      obtain ⟨_, hlen, hcell⟩ := World.cells?_some h1
      match cs', hlen with
      | [v0, v1, v2], _ =>
        obtain ⟨y0, y1, y2, m', _, _, g0, g1, g2⟩ := Go.Deep.trod_struct3 Tryz.underlying84 h2
        dsimp only at g0 g1 g2
        rw [kst] at g0
        rw [kin] at g1 g2
        simp only [List.drop_zero, List.drop_succ_cons, List.take_succ_cons, List.take_zero] at g0 g1 g2
        obtain ⟨s, e0, _, hs⟩ := DataW.trod_string Tryz.underlying9 g0
        obtain ⟨d, e1, _, _⟩ := DataW.trod_int Tryz.underlying3 g1
        obtain ⟨b, e2, _, _⟩ := DataW.trod_int Tryz.underlying3 g2
        have c0 := hcell 0 (by omega)
        have c1 := hcell 1 (by omega)
        have c2 := hcell 2 (by omega)
        rw [Go.Deep.add_add] at c0 c1 c2
        simp at e0 e1 e2
        subst e0 e1 e2
        exact ⟨⟨s, d, b⟩, by simpa using c0, by simpa using c1, by simpa using c2, hs⟩)
    refine ⟨some a, xs, cap, by rw [hxl]; exact hcs, fun j hj => ?_⟩
    obtain ⟨h0, h1, h2, h3⟩ := hxs j (by omega)
    obtain ⟨b, o, rfl⟩ := plain_addr (by simpa using (hxs 0 (by omega)).1)
    rw [Go.WideShapes.add_plain] at h0 h1 h2
    exact ⟨b, o, rfl, h0, h1, h2, h3⟩
theorem pairs_rd {n : Nat} {c : Value} {y : DataW H × List MemPlace} (h : DataW.trod enc Tryz.prog w 0 (fun _ => true) true n 23 [c] = some y) : ∃ (A : Option Addr) (xs : List Rp) (cap : Nat), c = .slice A xs.length cap ∧ RdP w A xs := by
  have k60 : Tryz.prog.cellsOf 60 = 2 := by kernel_rfl
  have kin : Tryz.prog.cellsOf 3 = 1 := by kernel_rfl
  rcases Go.Deep.open_slice Tryz.underlying23 h with ⟨hcs, _⟩ | ⟨a, len, cap, m, n', D, Pl, hcs, _, hl, hm, hmm, _, hx⟩
  · simp at hcs
    exact ⟨none, [], 0, hcs, fun j hj => absurd hj (Nat.not_lt_zero _)⟩
  · simp at hcs
    have hmm' : m = cap := by simpa using hmm
    obtain ⟨xs, hxl, hxs⟩ := pick (α := Rp) (n := len) (q := fun i x => w.cell? (a.add (i * 2)) = some (.int .i64 x.a) ∧ w.cell? (a.add (i * 2 + 1)) = some (.int .i64 x.b)) (fun i hi => by
      obtain ⟨cs', h1, h2⟩ := hx i (by omega)
      rw [k60] at h1
      obtain ⟨_, hlen, hcell⟩ := World.cells?_some h1
      match cs', hlen with
      | [v0, v1], _ =>
        obtain ⟨y0, y1, m', _, _, g0, g1⟩ := trod_struct2 Tryz.underlying60 h2
        dsimp only at g0 g1
        rw [kin] at g0 g1
        simp only [List.drop_zero, List.drop_succ_cons, List.take_succ_cons, List.take_zero] at g0 g1
        obtain ⟨d, e1, _, _⟩ := DataW.trod_int Tryz.underlying3 g0
        obtain ⟨b, e2, _, _⟩ := DataW.trod_int Tryz.underlying3 g1
        have c0 := hcell 0 (by omega)
        have c1 := hcell 1 (by omega)
        rw [Go.Deep.add_add] at c0 c1
        simp at e1 e2
        subst e1 e2
        exact ⟨⟨d, b⟩, by simpa using c0, by simpa using c1⟩)
    refine ⟨some a, xs, cap, by rw [hxl]; exact hcs, fun j hj => ?_⟩
    obtain ⟨h0, h1⟩ := hxs j (by omega)
    obtain ⟨b, o, rfl⟩ := plain_addr (by simpa using (hxs 0 (by omega)).1)
    rw [Go.WideShapes.add_plain] at h0 h1
    exact ⟨b, o, rfl, h0, h1⟩
theorem net_rd {n : Nat} {c0 c1 : Value} {y : DataW H × List MemPlace} (h : DataW.trod enc Tryz.prog w 0 (fun _ => true) true n 25 [c0, c1] = some y) : ∃ (A : Option Addr) (xs : List Sc) (cap : Nat) (B : Option Addr) (ys : List Rp) (cap' : Nat), c0 = .slice A xs.length cap ∧ c1 = .slice B ys.length cap' ∧ RdS w A xs ∧ RdP w B ys := by
  obtain ⟨y0, y1, m, _, _, h0, h1⟩ := trod_struct2 Tryz.underlying25 h
  have k1 : Tryz.prog.cellsOf 22 = 1 := by kernel_rfl
  have k2 : Tryz.prog.cellsOf 23 = 1 := by kernel_rfl
  dsimp only at h0 h1
  rw [k1] at h0
  rw [k2] at h1
  simp only [List.drop_zero, List.drop_succ_cons, List.take_succ_cons, List.take_zero] at h0 h1
  obtain ⟨A, xs, cap, e0, hr⟩ := scenes_rd h0
  obtain ⟨B, ys, cap', e1, hr'⟩ := pairs_rd h1
  exact ⟨A, xs, cap, B, ys, cap', e0, e1, hr, hr'⟩
theorem task_rd {v : Value} {d : DataW H} {p : List MemPlace} {r : Reach} {b0 : Nat} (hv : Value.okWide Tryz.prog w r b0 28 v) (h : DataW.Trod enc Tryz.prog w 0 (fun _ => true) true 28 v d p) : ∃ (t : Sk) (l : SkL), v = SkV t l ∧ SkM w t l := by
  obtain ⟨cs, rfl, hsz⟩ := okWide_struct Tryz.underlying28 hv
  have k28 : Tryz.prog.cellsOf 28 = 4 := by kernel_rfl
  have k25 : Tryz.prog.cellsOf 25 = 2 := by kernel_rfl
  have k26 : Tryz.prog.cellsOf 26 = 1 := by kernel_rfl
  rw [k28] at hsz
  obtain ⟨cl⟩ := cs
  match cl, hsz with
  | [c0, c1, c2, c3], _ =>
    obtain ⟨fuel, hf⟩ := h
    obtain ⟨y0, y1, y2, m, _, _, h0, h1, h2⟩ := Go.Deep.trod_struct3 Tryz.underlying28 hf
    dsimp only at h0 h1 h2
    rw [k25] at h0
    rw [k26] at h1 h2
    simp only [Value.cells, List.drop_zero, List.drop_succ_cons, List.take_succ_cons, List.take_zero] at h0 h1 h2
    obtain ⟨A, xs, cap, B, ys, cap', rfl, rfl, hr, hr'⟩ := net_rd h0
    obtain ⟨A1, xs1, cap1, rfl, hr1⟩ := ints_rd h1
    obtain ⟨A2, xs2, cap2, rfl, hr2⟩ := ints_rd h2
    exact ⟨⟨xs, ys, xs1, xs2⟩, ⟨A, B, A1, A2, cap, cap', cap1, cap2⟩, rfl, ⟨⟨hr, hr'⟩, hr1, hr2⟩⟩
end
theorem lifted (os : Os) (started : os.Started) (H : Type) (enc : TypeId × Value → H) :
    ReturnsInHanded {} Tryz.checked os 3 .any (Rows.topProvedStackSpec.pre6 enc Tryz.prog Tryz.f3 Rows.topProvedStackRow.domain false) (Rows.topProvedStackSpec.post enc Tryz.prog Tryz.f3 false true false false) := by
  refine returnsInHanded_of_change (C := Tryz.checked) own started (by kernel_rfl) Tryz.func3
    (ChangeSpec.witness6 (enc := enc) (C := Tryz.checked) false ⟨#[], #[.agg #[.slice none 0 0, .slice none 0 0, .slice none 0 0, .slice none 0 0], .slice none 0 0], []⟩ 8 (by kernel_rfl) (by kernel_rfl) (by kernel_rfl) (by kernel_rfl)) ?_
  intro W base args ds gs before hval0 hW hcnd _
  have hval : ∀ (j : Nat) t v, Tryz.f3.params[j]? = some t → args[j]? = some v → Value.okWide Tryz.prog W .any base t v := hval0
  have hW' := hW
  obtain ⟨p, q, hA0, hV, rfl, hfz, hnd⟩ := hW
  have hA : DataW.TrodAll enc Tryz.prog W 0 (fun _ => true) true Tryz.f3.params.toList args.toList ds p := hA0
  rw [Tryz.params3] at hA hval
  obtain ⟨v0, vs0, d0, ds0, p0, q0, hargs, rfl, rfl, h0, r0⟩ := trodAll_cons hA
  obtain ⟨v1, vs1, d1, ds1, p1, q1, rfl, rfl, rfl, h1, r1⟩ := trodAll_cons r0
  obtain ⟨rfl, rfl, rfl⟩ := trodAll_nil r1
  obtain rfl : args = #[v0, v1] := by cases args; simp_all
  obtain ⟨rfl, rfl⟩ := trodVars_none hV
  have k0 := h0
  have k1 := h1
  have lt0 : ∀ x ∈ p0, x.block < W.heap.size := by obtain ⟨m, hm⟩ := k0; exact DataW.trod_lt m _ _ _ hm
  have lt1 : ∀ x ∈ p1, x.block < W.heap.size := by obtain ⟨m, hm⟩ := k1; exact DataW.trod_lt m _ _ _ hm
  obtain ⟨t, l, rfl, hM⟩ := task_rd (hval 0 28 v0 rfl rfl) h0
  obtain ⟨A, xs, cap, rfl, hT⟩ : ∃ (A : Option Addr) (xs : List Int) (cap : Nat), v1 = .slice A xs.length cap ∧ RdI W A xs := by
    obtain ⟨a, len, cap, rfl⟩ := okWide_slice Tryz.underlying26 (hval 1 26 v1 rfl rfl)
    obtain ⟨fuel, hf⟩ := h1
    exact ints_rd hf
  clear hA0 hval0
  refine (law_c hM hT).mono fun e W' ⟨he, bel⟩ => ?_
  subst he
  exact ⟨_, rfl, _, _, _, [], _, [], hW', trodAll_mk1 (shut_bool Tryz.underlying4 _), (trodAll_cons_mk (Below.trod laidOut (by kernel_rfl) (of_decide_eq_true (by kernel_rfl)) k0 bel lt0) (trodAll_cons_mk (Below.trod laidOut (by kernel_rfl) (of_decide_eq_true (by kernel_rfl)) k1 bel lt1) trodAll_mk0)), rfl, bel.frame _, fun h => by cases h⟩
theorem over : Rows.topProvedStackRow.holds Tryz.pinned (OpenSpec.ofChange Rows.topProvedStackSpec) :=
  OpenClaim.holds_of_wide 3 Tryz.f3 rfl rfl rfl rfl rfl rfl rfl ⟨rfl, rfl, rfl, rfl, rfl⟩ rfl rfl rfl rfl rfl (by kernel_rfl) Tryz.func3 (by kernel_rfl)
    (of_decide_eq_true (by kernel_rfl)) (by unfold Func.isWrapper; first | (rw [if_pos (by decide +kernel)]; kernel_rfl) | (rw [if_neg (by decide +kernel)]; exact ⟨rfl, rfl⟩))
    (fun os started H enc _ => lifted os started H enc)
theorem proved : Rows.TopProvedStackSaid := over
end Go.Proofs.YtjnpchoinncbnaaGreat.topProvedStack
end
