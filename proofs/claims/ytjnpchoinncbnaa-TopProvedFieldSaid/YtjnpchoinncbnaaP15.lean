/- Proves parts of the statement, each under the conditions that its theorem states: Slices of numbers that are appended whole: CopyInts, slices.Clone, slices.Grow, slices.Concat; slices.Grow of nil, and slices.Concat of two; The program's phasesErr; Plain: the sides of a field and the net of a task. -/
import Derived.Test.YtjnpchoinncbnaaP09
import Derived.Test.YtjnpchoinncbnaaP07
import Derived.Laws.Cover3
import Derived.Lib.AppendZeros
import Derived.Test.YtjnpchoinncbnaaP14
import Derived.Test.YtjnpchoinncbnaaP04
section
set_option linter.unusedSimpArgs false
set_option linter.unusedVariables false
namespace Go.Proofs.Ytjnpchoinncbnaa
open Go.RowKit Sw Fam
theorem flat_encI (xs : List Int) (j : Nat) (u : Value) (h : (xs.flatMap encI)[j]? = some u) : j < xs.length ∧ u = .int .i64 (gi xs j) := by
  have hj : j < xs.length := by
    have := (List.getElem?_eq_some_iff.1 h).1
    rwa [flat_len encI_len, Nat.mul_one] at this
  have h6 := flat_get encI_len xs j 0 (by omega) hj
  rw [Nat.mul_one, Nat.add_zero, h] at h6
  refine ⟨hj, ?_⟩
  simp [hj, encI] at h6
  rw [h6]
  simp [gi, hj]
theorem run_append_none {w : World} {A Y : Option Addr} {n c c2 : Nat} (ty : TypeId) (hc : n ≤ c) (hn : A = none → n = 0) : (Builtin.append_ #[22, 22] ty #[.slice A n c, .slice Y 0 c2]).run Try.prog w = .ok (.slice A n c) w := by
  have hinfo := infoInt
  obtain ⟨i, hi, hzz⟩ := Option.map_eq_some_iff.1 hinfo
  cases A with
  | none =>
    obtain rfl := hn rfl
    cases Y <;> simp [Builtin.append_, run_underlying Try.underlying22, sizeOf, typeInfo, hi, Builtin.lenOf, Builtin.firstCells, loadCells, loadCellsFrom]
  | some a =>
    cases Y <;> simp [Builtin.append_, run_underlying Try.underlying22, sizeOf, typeInfo, hi, Builtin.lenOf, Builtin.firstCells, loadCells, loadCellsFrom, hc, storeCells]
theorem run_append_ints {w : World} {B : Nat} {A Y : Option Addr} {c c2 : Nat} {xs ys : List Int} (h : GrI w B A c xs) (ty : TypeId) (hy : RdI w Y ys) (hlen : xs.length + ys.length ≤ 1000000) (hB : B ≤ w.heap.size) :
    ∃ A' c' w', (Builtin.append_ #[22, 22] ty #[.slice A xs.length c, .slice Y ys.length c2]).run Try.prog w = .ok (.slice A' (xs.length + ys.length) c') w' ∧ GrI w' B A' c' (xs ++ ys) ∧ w.grownBy w' (A.map (·.block)) ∧
      ((A' = A) ∨ ∃ a', A' = some a' ∧ a'.block = w.heap.size) := by
  by_cases h0 : ys.length = 0
  · have e : ys = [] := List.eq_nil_of_length_eq_zero h0
    subst e
    have hr := run_append_none (w := w) (Y := Y) (c2 := c2) ty h.le (fun e => by have := h.non e; have := h.le; omega)
    exact ⟨A, c, w, hr, by rw [List.append_nil]; exact h, ⟨rfl, rfl, rfl, Nat.le_refl _, fun _ _ _ => rfl⟩, .inl rfl⟩
  · obtain ⟨b, o, rfl, _⟩ := hy 0 (by omega)
    have hinfo := infoInt
    obtain ⟨i, hi, hzz⟩ := Option.map_eq_some_iff.1 hinfo
    simp only [Prod.mk.injEq] at hzz
    obtain ⟨hz, hsz, hby⟩ := hzz
    obtain ⟨A', c', w', k1, k2, k3, a', rfl, k4⟩ := run_append_gr (P := Try.prog) (ty := ty) Try.underlying22 hi hz hsz hby rfl encI_len (fun x u hu => by simp [encI] at hu; subst hu; rfl) h ys ⟨b, o, none⟩ c2 (fun j u hj => by
      obtain ⟨hlt, rfl⟩ := flat_encI ys j u hj
      obtain ⟨b', o', e, hc⟩ := hy j hlt
      cases e
      rw [← hc]
      simp only [Addr.add_lit]) (by omega) hlen (by decide) hB
    refine ⟨_, c', w', k1, k2, k3, ?_⟩
    rcases k4 with e | e
    · exact .inl e.symm
    · exact .inr ⟨a', rfl, e⟩
theorem wpList_append_ints {w : World} {B : Nat} {A Y : Option Addr} {c c2 : Nat} {xs ys : List Int} {ops : Array Oper} {rest : List Oper} {o : Oper} {a : Act} {Q : Exit → Act → World → Prop} (hgd : o.guard = none) (s x : Operand)
    (ho : o.op = .call { callee := .builtin .append, args := #[s, x], argTypes := #[22, 22] }) (h : GrI w B A c xs) (hy : RdI w Y ys) (hs : a.eval s = .slice A xs.length c) (hx : a.eval x = .slice Y ys.length c2)
    (hlen : xs.length + ys.length ≤ 1000000) (hB : B ≤ w.heap.size)
    (hk : ∀ A' c' w', GrI w' B A' c' (xs ++ ys) → w.grownBy w' (A.map (·.block)) → ((A' = A) ∨ ∃ a', A' = some a' ∧ a'.block = w.heap.size) → wpList Try.prog ops Q rest (a.put o.dst (.slice A' (xs.length + ys.length) c')) w') : wpList Try.prog ops Q (o :: rest) a w := by
  refine wpList_plain hgd fun K hK => ?_
  obtain ⟨A', c', w', hr, h2, h3, h4⟩ := run_append_ints (c2 := c2) h o.type hy hlen hB
  unfold Oper.wp execOp
  simp only [ho, resolve, invoke, builtin, Sem.run_bind, Sem.run_pure, Result.andThen_ok, List.map_toArray, List.map_cons, List.map_nil, hs, hx, hr]
  exact hK _ _ (hk A' c' w' h2 h3 h4)
theorem GrI.empty (w : World) {B : Nat} (hB : B ≤ w.heap.size) : GrI (w.alloc (.cells #[] 3)) B (some ⟨w.heap.size, 0, none⟩) 0 [] :=
  ⟨Nat.le_refl _, Nat.zero_le _, fun h => (by cases h), fun a ha => by
    cases ha
    exact ⟨w.heap.size, 0, _, rfl, hB, World.alloc_heap_new w _, by simp, fun j u hj => by simp at hj⟩⟩
def CopyPost (xs : List Int) (w : World) (e : Ending) (w' : World) : Prop := ∃ A c, e = .returned (.slice A xs.length c) ∧ Below w.heap.size w w' ∧ GrI w' w.heap.size A c xs
theorem copyInts_c {A : Option Addr} {c : Nat} {xs : List Int} {w : World} (h : RdI w A xs) (hl : xs.length ≤ 100000) : Calls Try.prog 26 #[.slice A xs.length c] w (CopyPost xs w) := by
  have H := Lib.hid h; clear h
  go_enter Try.func26, Try.ntmps26
  go_wp2_with (at_builtin; refine wpList_append_ints rfl _ _ rfl (GrI.empty w (Nat.le_refl _)) (H.out.keep ((Below.refl _ _).alloc (Nat.le_refl _) _)) rfl rfl (by simp; omega) (by simp) ?_)
  intro A' c' w' g1 g2 g3
  have G := Lib.hid (And.intro g1 (And.intro g2 g3)); clear g1 g2 g3
  go_wp2_with fail
  go_ret
  obtain ⟨g1, g2, g3⟩ := G.out
  refine ⟨A', c', rfl, ?_, g1⟩
  have hb : Below w.heap.size w (w.alloc (.cells #[] 3)) := (Below.refl _ _).alloc (Nat.le_refl _) _
  exact hb.trans ⟨g2.os, g2.tape, g2.output, g2.size, fun b hb' => g2.block b (by simp; omega) (fun e => by injection e with e; omega)⟩
theorem eql_nil (w : World) (a : Addr) (n c : Nat) : (binOp .eql 22 (.slice (some a) n c) (.slice none 0 0)).run Try.prog w = .ok (.bool false) w := by
  have h := run_equal_slice_nil (P := Try.prog) w 22 3 (some a) n c Try.underlying22
  simp [binOp, h]
set_option maxRecDepth 100000 in
theorem clone_c {A : Option Addr} {c : Nat} {xs : List Int} {w : World} (h : RdI w A xs) (hl : xs.length ≤ 100000) (hpos : 0 < xs.length) : Calls Try.prog 22 #[.slice A xs.length c] w (CopyPost xs w) := by
  obtain ⟨b, o, rfl, _⟩ := h 0 hpos
  have H := Lib.hid h; clear h
  have heq := eql_nil w ⟨b, o, none⟩ xs.length c
  go_enter Try.func22, Try.ntmps22
  go_wp2_with (at_builtin; refine wpList_append_ints rfl _ _ rfl (GrI.empty w (Nat.le_refl _)) (H.out.keep ((Below.refl _ _).alloc (Nat.le_refl _) _)) rfl rfl (by simp; omega) (by simp) ?_)
  intro A' c' w' g1 g2 g3
  have G := Lib.hid (And.intro g1 (And.intro g2 g3)); clear g1 g2 g3
  go_wp2_with fail
  go_ret
  obtain ⟨g1, g2, g3⟩ := G.out
  refine ⟨A', c', rfl, ?_, g1⟩
  have hb : Below w.heap.size w (w.alloc (.cells #[] 3)) := (Below.refl _ _).alloc (Nat.le_refl _) _
  exact hb.trans ⟨g2.os, g2.tape, g2.output, g2.size, fun b hb' => g2.block b (by simp; omega) (fun e => by injection e with e; omega)⟩
end Go.Proofs.Ytjnpchoinncbnaa
end

section
set_option linter.unusedSimpArgs false
set_option linter.unusedVariables false
namespace Go.Proofs.Ytjnpchoinncbnaa
open Go.RowKit Sw Fam
def GrowPost (w : World) (e : Ending) (w' : World) : Prop := ∃ A c, e = .returned (.slice A 0 c) ∧ Below w.heap.size w w' ∧ GrI w' w.heap.size A c []
set_option maxRecDepth 100000 in
theorem grow_c (n : Nat) (hn : n ≤ 100000) (w : World) : Calls Try.prog 56 #[.slice none 0 0, .int .i64 n] w (GrowPost w) := by
  by_cases h0 : n = 0
  · subst h0
    go_enter Try.func56, Try.ntmps56
    go_wp2_with fail
    go_ret
    exact ⟨none, 0, rfl, Below.refl _ _, GrF.start _ _⟩
  · have hinfo := infoInt
    obtain ⟨i, hi, hzz⟩ := Option.map_eq_some_iff.1 hinfo
    simp only [Prod.mk.injEq] at hzz
    obtain ⟨hz, hsz, hby⟩ := hzz
    have hr := fun ty => Lib.run_append_nil_zeros (P := Try.prog) w 22 3 ty 3 i _ .i64 .i64 Try.underlying22 Try.underlying3 hi hz n (by omega) (by omega) (by omega) (by rw [hby]; omega)
    have hge := grownCap_ge w n 0 3
    have hle := grownCap_le_maxLen w n 0 3 (by simp only [maxLen]; omega)
    have hg : GrI (w.drew.alloc (.cells (Builtin.zeroCells (Value.int .i64 0).cells n ++ Builtin.zeroCells (Value.int .i64 0).cells (grownCap w n 0 3 - n)) 3)) w.heap.size (some ⟨w.heap.size, 0, none⟩) (grownCap w n 0 3) [] :=
      ⟨Nat.zero_le _, hle, fun h => (by cases h), fun a ha => by
        cases ha
        exact ⟨w.heap.size, 0, _, rfl, Nat.le_refl _, World.alloc_heap_new w.drew _, by
          have e1 : (Value.int .i64 0).cells.size = 1 := rfl
          simp only [Array.size_append, size_zeroCells, e1]; omega, fun j u hj => by simp at hj⟩⟩
    have hb : Below w.heap.size w (w.drew.alloc (.cells (Builtin.zeroCells (Value.int .i64 0).cells n ++ Builtin.zeroCells (Value.int .i64 0).cells (grownCap w n 0 3 - n)) 3)) := (Below.refl _ _).drew.alloc (Nat.le_refl _) _
    generalize hc : grownCap w n 0 3 = cp at *
    generalize hW : w.drew.alloc _ = W1 at *
    have H := Lib.hid (And.intro hg hb)
    have HR := Lib.hid hr
    have hn0 : 0 < n := by omega
    have HH := Lib.hid (And.intro hc hW)
    clear hg hb hr hc hW hinfo hi hz hsz hby h0
    go_enter Try.func56, Try.ntmps56
    go_wp2_with (at_builtin; refine Lib.wpList_append_run _ rfl _ _ _ _ rfl _ _ rfl rfl _ _ (HR.out _) ?_)
    go_ret
    exact ⟨_, cp, rfl, H.out.2, H.out.1⟩
def CatI (w0 : World) (ac dn : List Int) (v6 v27 : Value) (w : World) : Prop :=
  Below w0.heap.size w0 w ∧ ∃ A c, ((v27 = .int .i64 0 ∧ v6 = .slice A 0 c ∧ GrI w w0.heap.size A c []) ∨ (v27 = .int .i64 1 ∧ v6 = .slice A ac.length c ∧ GrI w w0.heap.size A c ac) ∨ (v27 = .int .i64 2 ∧ v6 = .slice A (ac ++ dn).length c ∧ GrI w w0.heap.size A c (ac ++ dn)))
set_option maxHeartbeats 1000000 in
set_option maxRecDepth 100000 in
theorem concat_c {ac dn : List Int} {b : Nat} {A D : Option Addr} {ca cd : Nat} {w : World} (h0 : w.cell? ⟨b, 0, none⟩ = some (.slice A ac.length ca)) (h1 : w.cell? ⟨b, 1, none⟩ = some (.slice D dn.length cd)) (ha : RdI w A ac) (hd : RdI w D dn) (la : ac.length ≤ 10000) (ld : dn.length ≤ 10000) :
    Calls Try.prog 36 #[.slice (some ⟨b, 0, none⟩) 2 2] w (CopyPost (ac ++ dn) w) := by
  have HA := Lib.hid ha; clear ha
  have HD := Lib.hid hd; clear hd
  have hbl := World.block_lt_of_cell? _ _ h0
  have H01 := Lib.hid (And.intro h0 h1)
  go_enter Try.func36, Try.ntmps36
  go_wp2_with fail
  go_loop [3, 11] (fun v3 v11 => (v11 = .int .i64 0 ∧ v3 = .int .i64 0) ∨ (v11 = .int .i64 1 ∧ v3 = .int .i64 ac.length) ∨ (v11 = .int .i64 2 ∧ v3 = .int .i64 ((ac.length : Int) + dn.length))) (fun _ v11 => 2 - (intOf v11).toNat)
  case atStart => exact .inl ⟨rfl, rfl⟩
  case round =>
    rcases hrel with ⟨rfl, rfl⟩ | ⟨rfl, rfl⟩ | ⟨rfl, rfl⟩
    · go_wp2_with fail
      go_round
      case rel => exact .inr (.inl ⟨rfl, rfl⟩)
      case measure => simp [intOf]
    · go_wp2_with fail
      go_round
      case rel => exact .inr (.inr ⟨rfl, rfl⟩)
      case measure => simp [intOf]
    · have hgr := grow_c (ac.length + dn.length) (by omega) w
      rw [show ((ac.length + dn.length : Nat) : Int) = (ac.length : Int) + dn.length by omega] at hgr
      have HGR := Lib.hid hgr; clear hgr
      go_wp2_with fail
      refine HGR.out.mono ?_
      rintro e w1 ⟨A1, c1, rfl, k1, k2⟩
      have K := Lib.hid (And.intro k1 k2); clear k1 k2
      go_wp2_with fail
      go_loopw [6, 27] (fun v6 v27 wr => CatI w ac dn v6 v27 wr) (fun _ v27 _ => 2 - (intOf v27).toNat)
      case atStart => exact ⟨K.out.1, A1, c1, .inl ⟨rfl, rfl, K.out.2⟩⟩
      case round =>
        obtain ⟨hB, A2, c2, ⟨rfl, rfl, hG⟩ | ⟨rfl, rfl, hG⟩ | ⟨rfl, rfl, hG⟩⟩ := hrel
        · have d0 := cell_keep hB H01.out.1
          have hsz := hB.size
          have H2 := Lib.hid (And.intro hB hG); clear hB hG
          go_wp2_with (at_builtin; refine wpList_append_ints rfl _ _ rfl H2.out.2 (HA.out.keep H2.out.1) rfl rfl (by simp; omega) hsz ?_)
          intro A' c' w' g1 g2 g3
          have G := Lib.hid (And.intro g1 (And.intro g2 g3)); clear g1 g2 g3
          go_wp2_with fail
          go_roundw
          case rel =>
            obtain ⟨g1, g2, g3⟩ := G.out
            refine ⟨H2.out.1.trans ⟨g2.os, g2.tape, g2.output, g2.size, fun q hq => g2.block q (by omega) (fun e => by have := (H2.out.2.lt e.symm).1; omega)⟩, A', c', .inr (.inl ⟨rfl, by simp, by simpa using g1⟩)⟩
          case measure => simp [intOf]
        · have d1 := cell_keep hB H01.out.2
          have hsz := hB.size
          have H2 := Lib.hid (And.intro hB hG); clear hB hG
          go_wp2_with (at_builtin; refine wpList_append_ints rfl _ _ rfl H2.out.2 (HD.out.keep H2.out.1) rfl rfl (by omega) hsz ?_)
          intro A' c' w' g1 g2 g3
          have G := Lib.hid (And.intro g1 (And.intro g2 g3)); clear g1 g2 g3
          go_wp2_with fail
          go_roundw
          case rel =>
            obtain ⟨g1, g2, g3⟩ := G.out
            refine ⟨H2.out.1.trans ⟨g2.os, g2.tape, g2.output, g2.size, fun q hq => g2.block q (by omega) (fun e => by have := (H2.out.2.lt e.symm).1; omega)⟩, A', c', .inr (.inr ⟨rfl, by simp, g1⟩)⟩
          case measure => simp [intOf]
        · have H2 := Lib.hid (And.intro hB hG); clear hB hG
          go_wp2_with fail
          go_ret
          exact ⟨A2, c2, rfl, H2.out.1, H2.out.2⟩
end Go.Proofs.Ytjnpchoinncbnaa
end

section
set_option linter.unusedSimpArgs false
set_option linter.unusedVariables false
namespace Go.Proofs.Ytjnpchoinncbnaa
open Go.RowKit Sw Fam
theorem isWrapped_c (k : Int) (w : World) : Calls Try.prog 35 #[.int .i64 k] w fun e w' => e = .returned (.bool (k == wrp k)) ∧ w = w' := by
  go_enter Try.func35, Try.ntmps35
  go_wp2_with fail
  refine (wrapped_c _ _).mono ?_
  rintro e w' ⟨rfl, rfl⟩
  go_wp2_with fail
  go_ret
  exact ⟨rfl, rfl⟩
set_option maxRecDepth 100000 in
theorem phasesErr1_c (k : Int) (b : Nat) (w : World) (hk : k = 1000000000000 ∨ (-2048 ≤ k ∧ k ≤ 2047)) (hc : w.cell? ⟨b, 0, none⟩ = some (.func (.func 35) #[] #[])) :
    Calls Try.prog 55 #[.int .i64 k, .pointer (some ⟨b, 0, none⟩)] w fun e w' => e = .returned (.bool false) ∧ w = w' := by
  have HK := Lib.hid hk
  by_cases hv : k = 1000000000000
  · subst hv
    clear hk
    go_enter Try.func55, Try.ntmps55
    go_wp2_with fail
    refine (isVoid_c _ _).mono ?_
    rintro e w' ⟨rfl, rfl⟩
    go_wp2_with fail
    go_ret
    exact ⟨rfl, rfl⟩
  · have hv1 : (k == 1000000000000) = false := by simpa using hv
    have hw1 : (k == wrp k) = true := by simp [wrp]; omega
    clear hv hk
    go_enter Try.func55, Try.ntmps55
    go_wp2_with fail
    refine (isVoid_c _ _).mono ?_
    rintro e w' ⟨rfl, rfl⟩
    go_wp2_with fail
    refine (isWrapped_c _ _).mono ?_
    rintro e w' ⟨rfl, rfl⟩
    go_wp2_with fail
    go_ret
    exact ⟨rfl, rfl⟩
theorem enters_phasesErr1 : Enters 55 := enters_fn Try.func55 (by kernel_rfl) rfl
set_option maxRecDepth 100000 in
theorem phasesErr_c (r c : Int) (ph : List Int) (P : Option Addr) (cp : Nat) (hl : ph.length ≤ 100000) (hph : PhOk ph) (w : World) (hr : RdI w P ph) :
    Calls Try.prog 34 #[.agg #[.int .i64 r, .int .i64 c, .slice P ph.length cp], .func (.func 35) #[] #[]] w fun e w' => e = .returned (.int .i64 0) ∧ Below w.heap.size w w' := by
  have HR := Lib.hid hr; clear hr
  have HP := Lib.hid hph; clear hph
  go_enter Try.func34, Try.ntmps34
  go_wp2_with fail
  generalize hW : (w.alloc _).alloc _ = w1
  have hB : Below w.heap.size w w1 := by rw [← hW]; exact ((Below.refl _ _).alloc (Nat.le_refl _) _).alloc (by simp) _
  have hc : w1.cell? ⟨w.heap.size + 1, 0, none⟩ = some (.func (.func 35) #[] #[]) := by
    rw [← hW]; exact block_cell (by have := World.alloc_heap_new (w.alloc (.cells #[.int .i64 r, .int .i64 c, .slice P ph.length cp] 24)) (.cells #[.func (.func 35) #[] #[]] 63); rw [World.size_alloc] at this; exact this) (j := 0) (by simp)
  clear hW
  have HB := Lib.hid hB; clear hB
  refine (containsFunc_c _ enters_phasesErr1 #[.pointer (some ⟨w.heap.size + 1, 0, none⟩)] (fun _ => false) ph P cp w1 hl (HR.out.keep HB.out) ?_).mono ?_
  · intro j hj n
    refine (phasesErr1_c (gi ph j) _ _ (HP.out j hj) (by simpa using hc)).mono ?_
    rintro e w' ⟨rfl, rfl⟩
    exact ⟨rfl, 0, by simp⟩
  rintro e w' ⟨b, hb, rfl, n, rfl⟩
  have : b = false := by
    cases b with
    | false => rfl
    | true => obtain ⟨j, _, h⟩ := hb.1 rfl; simp at h
  subst this
  clear hb
  go_wp2_with fail
  go_ret
  exact ⟨rfl, below_drewN HB.out n⟩
theorem wt_append {a d : List Int} (ha : WtOk a) (hd : WtOk d) : WtOk (a ++ d) := fun i hi => by
  by_cases h : i < a.length
  · have := ha i h
    simpa [gi, List.getElem?_append_left h] using this
  · have := hd (i - a.length) (by simp at hi; omega)
    simpa [gi, List.getElem?_append_right (Nat.le_of_not_lt h)] using this
set_option maxHeartbeats 1000000 in
set_option maxRecDepth 100000 in
theorem checkTask_c (t : Tk) (l : TkL) (w : World) (hM : TkM w t l) (hR : Rt t) : Calls Try.prog 19 #[TkV t l] w fun e w' => e = .returned (.int .i64 0) ∧ Below w.heap.size w w' := by
  obtain ⟨R, C, ph, ac, dn⟩ := t
  obtain ⟨P, A, D, cp, ca, cd⟩ := l
  have HM := Lib.hid hM; clear hM
  obtain ⟨⟨r1, r2, c1, c2, hk⟩, hf, hph, hla, hld, hwa, hwd⟩ := hR
  unfold TkV
  dsimp only at *
  have HS := Lib.hid (show SizeOk R C ph.length from ⟨r1, r2, c1, c2, hk⟩)
  have HK := Lib.hid hk; clear hk
  have HPh := Lib.hid hph; clear hph
  have HW := Lib.hid (And.intro hwa hwd); clear hwa hwd
  have hm := mul_64 (r := R) (c := C) (by omega) (by omega)
  have hm1 := mul_64 (r := R) (c := C - 1) (by omega) (by omega)
  have hm2 := mul_64 (r := R - 1) (c := C) (by omega) (by omega)
  have hlp : ph.length ≤ 4096 := by have := HK.out; omega
  have la : ac.length ≤ 4096 := by omega
  have ld : dn.length ≤ 4096 := by omega
  have ha1 : ((ac.length : Int) != R * (C - 1)) = false := by simp [hla]
  have hd1 : ((dn.length : Int) != (R - 1) * C) = false := by simp [hld]
  have hf1 : decide ((ph.length : Int) > 144) = false := by have := HK.out; simp; omega
  have HL := Lib.hid (And.intro hla hld); clear hla hld
  go_enter Try.func19, Try.ntmps19
  go_wp2_with fail
  refine (sizeErr_c _ _ _ _).mono ?_
  rintro e w' ⟨g, rfl, rfl, hg⟩
  have hg0 := hg.2 HS.out
  subst hg0
  clear hg
  go_wp2_with fail
  generalize hW : (w.alloc _).alloc _ = w1
  have hB : Below w.heap.size w w1 := by rw [← hW]; exact ((Below.refl _ _).alloc (Nat.le_refl _) _).alloc (by simp) _
  have hb0 : w1.heap[w.heap.size]? = some (.cells #[.int .i64 R, .int .i64 C, .slice P ph.length cp, .slice A ac.length ca, .slice D dn.length cd] 26 (0, 0)) := by
    rw [← hW]; exact (Below.heap_alloc _ _ _ (by simp)).trans (World.alloc_heap_new w _)
  have hb1 : w1.heap[w.heap.size + 1]? = some (.cells #[.int .i64 R, .int .i64 C, .slice P ph.length cp] 24 (0, 0)) := by
    rw [← hW]
    have := World.alloc_heap_new (w.alloc (.cells #[.int .i64 R, .int .i64 C, .slice P ph.length cp, .slice A ac.length ca, .slice D dn.length cd] 26)) (.cells #[.int .i64 R, .int .i64 C, .slice P ph.length cp] 24)
    rw [World.size_alloc] at this
    exact this
  have hz1 := (Array.getElem?_eq_some_iff.1 hb1).1
  clear hW
  refine (phasesErr_c R C ph P cp (by omega) HPh.out _ (HM.out.p.keep hB)).mono ?_
  rintro e w2 ⟨rfl, hB2⟩
  have hc0 := (hB2.block _ (by omega)).trans hb0
  have hc1 := (hB2.block _ hz1).trans hb1
  have hBB := hB.trans (hB2.mono hB.size)
  have hz2 := hB2.size
  have t0 : w2.cell? ⟨w.heap.size, 0, none⟩ = some (.int .i64 R) := block_cell hc0 (j := 0) (by simp)
  have t1 : w2.cell? ⟨w.heap.size, 1, none⟩ = some (.int .i64 C) := block_cell hc0 (j := 1) (by simp)
  have t2 : w2.cell? ⟨w.heap.size, 2, none⟩ = some (.slice P ph.length cp) := block_cell hc0 (j := 2) (by simp)
  have t3 : w2.cell? ⟨w.heap.size, 3, none⟩ = some (.slice A ac.length ca) := block_cell hc0 (j := 3) (by simp)
  have t4 : w2.cell? ⟨w.heap.size, 4, none⟩ = some (.slice D dn.length cd) := block_cell hc0 (j := 4) (by simp)
  have m0 : w2.cell? ⟨w.heap.size + 1, 0, none⟩ = some (.int .i64 R) := block_cell hc1 (j := 0) (by simp)
  have m1 : w2.cell? ⟨w.heap.size + 1, 1, none⟩ = some (.int .i64 C) := block_cell hc1 (j := 1) (by simp)
  have m2 : w2.cell? ⟨w.heap.size + 1, 2, none⟩ = some (.slice P ph.length cp) := block_cell hc1 (j := 2) (by simp)
  have hlt0 : w.heap.size < w2.heap.size := by omega
  have hlt1 : w.heap.size + 1 < w2.heap.size := by omega
  have HB := Lib.hid (And.intro hBB (And.intro hc0 hc1))
  have HZ := Lib.hid (And.intro hlt0 hlt1)
  clear hb0 hb1 hB hB2 hBB hz1 hz2 hlt0 hlt1 hc0 hc1
  go_wp2_with fail
  generalize hW : w2.alloc _ = w3
  have e0 : w3.heap[w2.heap.size]? = some (.cells #[.slice A ac.length ca, .slice D dn.length cd] 22 (0, 0)) := by rw [← hW]; exact World.alloc_heap_new w2 _
  have hB3 : Below w2.heap.size w2 w3 := by rw [← hW]; exact (Below.refl _ _).alloc (Nat.le_refl _) _
  have hB3' : Below w.heap.size w w3 := HB.out.1.trans (hB3.mono HB.out.1.size)
  clear hW
  refine (concat_c (ac := ac) (dn := dn) (b := w2.heap.size) (A := A) (D := D) (ca := ca) (cd := cd) (block_cell e0 (j := 0) (by simp)) (block_cell e0 (j := 1) (by simp)) (HM.out.a.keep hB3') (HM.out.d.keep hB3') (by omega) (by omega)).mono ?_
  rintro e w4 ⟨Y, cy, rfl, hB4, hG⟩
  have HB4 := Lib.hid (hB3'.trans (hB4.mono hB3'.size))
  have HY := Lib.hid hG.rd
  clear hB3 hB3' hB4 hG e0
  have HWW := Lib.hid (show WtOk (ac ++ dn) from wt_append HW.out.1 HW.out.2)
  have hly : (ac ++ dn).length ≤ 10000 := by simp; omega
  generalize ac ++ dn = ys at *
  go_wp2_with fail
  go_loop [59] (fun v59 => ∃ k : Nat, v59 = .int .i64 k ∧ k ≤ ys.length) (fun v59 => ys.length - (intOf v59).toNat)
  case atStart => exact ⟨0, rfl, Nat.zero_le _⟩
  case round =>
    obtain ⟨k, rfl, hk⟩ := hrel
    by_cases hlt : k < ys.length
    · obtain ⟨b, o, rfl, hc⟩ := HY.out k hlt
      have hbl := World.block_lt_of_cell? _ _ hc
      go_wp2_with (refine (isWeight_c _ (HWW.out k hlt) _).mono ?_; rintro e w' ⟨rfl, rfl⟩)
      go_round
      case rel => exact ⟨k + 1, by go_num, by omega⟩
      case measure => simp [intOf]; omega
    · go_wp2_with fail
      go_ret
      exact ⟨rfl, HB4.out⟩
end Go.Proofs.Ytjnpchoinncbnaa
end

section
set_option linter.unusedSimpArgs false
set_option linter.unusedVariables false
namespace Sw
open Go.Proofs.Ytjnpchoinncbnaa
def sdA (C n : Nat) : List (Nat × Nat) := ((List.range n).filter fun a => decide (a % C ≠ C - 1)).map fun a => (a, a + 1)
def sdD (R C n : Nat) : List (Nat × Nat) := ((List.range n).filter fun a => decide (a / C ≠ R - 1)).map fun a => (a, a + C)
def sdl (R C : Nat) : List (Nat × Nat) := sdA C (R * C) ++ sdD R C (R * C)
def gp (P : List (Nat × Nat)) (i : Nat) : Nat × Nat := P.getD i (0, 0)
theorem sdA_zero (C : Nat) : sdA C 0 = [] := rfl
theorem sdD_zero (R C : Nat) : sdD R C 0 = [] := rfl
theorem sdA_succ (C n : Nat) : sdA C (n + 1) = sdA C n ++ if n % C ≠ C - 1 then [(n, n + 1)] else [] := by
  unfold sdA
  rw [List.range_succ, List.filter_append, List.map_append]
  by_cases h : n % C = C - 1 <;> simp [h]
theorem sdD_succ (R C n : Nat) : sdD R C (n + 1) = sdD R C n ++ if n / C ≠ R - 1 then [(n, n + C)] else [] := by
  unfold sdD
  rw [List.range_succ, List.filter_append, List.map_append]
  by_cases h : n / C = R - 1 <;> simp [h]
theorem pre_of_step {f : Nat → List (Nat × Nat)} (h : ∀ n, f n <+: f (n + 1)) (n : Nat) : ∀ d, f n <+: f (n + d) := by
  intro d
  induction d with
  | zero => exact List.prefix_rfl
  | succ d ih => exact ih.trans (h (n + d))
theorem sdA_pre {C n N : Nat} (h : n ≤ N) : sdA C n <+: sdA C N := by
  obtain ⟨d, rfl⟩ := Nat.le.dest h
  exact pre_of_step (fun k => by rw [sdA_succ]; exact List.prefix_append _ _) n d
theorem sdD_pre {R C n N : Nat} (h : n ≤ N) : sdD R C n <+: sdD R C N := by
  obtain ⟨d, rfl⟩ := Nat.le.dest h
  exact pre_of_step (fun k => by rw [sdD_succ]; exact List.prefix_append _ _) n d
theorem gp_pre {A B : List (Nat × Nat)} {q : Nat × Nat} (h : A ++ [q] <+: B) : A.length < B.length ∧ gp B A.length = q := by
  obtain ⟨t, rfl⟩ := h
  constructor
  · simp only [List.length_append, List.length_cons]; omega
  · unfold gp; simp [List.getD_eq_getElem?_getD]
theorem sdl_across {R C a : Nat} (ha : a < R * C) (h : a % C ≠ C - 1) : (sdA C a).length < (sdl R C).length ∧ gp (sdl R C) (sdA C a).length = (a, a + 1) := by
  have hp : sdA C a ++ [(a, a + 1)] <+: sdl R C := by
    have h1 := sdA_succ C a
    rw [if_pos h] at h1
    rw [← h1]
    exact (sdA_pre (show a + 1 ≤ R * C from ha)).trans (List.prefix_append _ _)
  exact gp_pre hp
theorem sdl_down {R C a : Nat} (ha : a < R * C) (h : a / C ≠ R - 1) : (sdA C (R * C) ++ sdD R C a).length < (sdl R C).length ∧ gp (sdl R C) (sdA C (R * C) ++ sdD R C a).length = (a, a + C) := by
  have hp : (sdA C (R * C) ++ sdD R C a) ++ [(a, a + C)] <+: sdl R C := by
    have h1 := sdD_succ R C a
    rw [if_pos h] at h1
    rw [List.append_assoc, ← h1]
    unfold sdl
    exact (List.prefix_append_right_inj _).2 (sdD_pre (show a + 1 ≤ R * C from ha))
  exact gp_pre hp
theorem sdA_row {C r c : Nat} (hc : c < C) : sdA C (r * C + c + 1) = sdA C (r * C + c) ++ if c + 1 < C then [(r * C + c, r * C + c + 1)] else [] := by
  rw [sdA_succ]
  have : (r * C + c) % C = c := by rw [Nat.mul_comm, Nat.mul_add_mod]; exact Nat.mod_eq_of_lt hc
  rw [this]
  by_cases h : c + 1 < C
  · rw [if_pos h, if_pos (by omega)]
  · rw [if_neg h, if_neg (by omega)]
theorem sdD_row {R C r c : Nat} (hc : c < C) : sdD R C (r * C + c + 1) = sdD R C (r * C + c) ++ if r ≠ R - 1 then [(r * C + c, r * C + c + C)] else [] := by
  rw [sdD_succ]
  have : (r * C + c) / C = r := by rw [Nat.mul_comm, Nat.mul_add_div (by omega)]; simp [Nat.div_eq_of_lt hc]
  rw [this]
theorem sdA_len {C : Nat} (hC : 1 ≤ C) (r : Nat) : ∀ c, c ≤ C - 1 → (sdA C (r * C + c)).length = r * (C - 1) + c := by
  induction r with
  | zero =>
    intro c
    induction c with
    | zero => intro _; simp [sdA_zero]
    | succ c ih =>
      intro hc
      have h1 := ih (by omega)
      have h2 := sdA_row (C := C) (r := 0) (c := c) (by omega)
      rw [if_pos (by omega)] at h2
      rw [← Nat.add_assoc, h2, List.length_append, h1]
      simp <;> omega
  | succ r ihr =>
    have h0 : (sdA C ((r + 1) * C)).length = (r + 1) * (C - 1) := by
      have h1 := ihr (C - 1) (Nat.le_refl _)
      have h2 := sdA_row (C := C) (r := r) (c := C - 1) (by omega)
      rw [if_neg (by omega), List.append_nil] at h2
      rw [show (r + 1) * C = r * C + (C - 1) + 1 by rw [Nat.add_mul]; omega, h2, h1, Nat.add_mul]
      omega
    intro c
    induction c with
    | zero => intro _; simpa using h0
    | succ c ih =>
      intro hc
      have h1 := ih (by omega)
      have h2 := sdA_row (C := C) (r := r + 1) (c := c) (by omega)
      rw [if_pos (by omega)] at h2
      rw [← Nat.add_assoc, h2, List.length_append, h1]
      simp <;> omega
theorem sdA_end {C r : Nat} (hC : 1 ≤ C) : sdA C (r * C + (C - 1)) = sdA C ((r + 1) * C) := by
  have h2 := sdA_row (C := C) (r := r) (c := C - 1) (by omega)
  rw [if_neg (by omega), List.append_nil] at h2
  rw [show (r + 1) * C = r * C + (C - 1) + 1 by rw [Nat.add_mul]; omega, h2]
theorem sdA_all {R C : Nat} (hC : 1 ≤ C) : (sdA C (R * C)).length = R * (C - 1) := by simpa using sdA_len hC R 0 (by omega)
theorem sdD_len {R C : Nat} (hC : 1 ≤ C) : ∀ n, n ≤ (R - 1) * C → (sdD R C n).length = n := by
  intro n
  induction n with
  | zero => intro _; rfl
  | succ n ih =>
    intro hn
    rw [sdD_succ, if_pos, List.length_append, ih (by omega)]
    · rfl
    · have : n / C < R - 1 := (Nat.div_lt_iff_lt_mul hC).2 (by omega)
      omega
theorem sdD_end {R C : Nat} (hC : 1 ≤ C) (hR : 1 ≤ R) : sdD R C ((R - 1) * C) = sdD R C (R * C) := by
  have h : ∀ c, c ≤ C → sdD R C ((R - 1) * C + c) = sdD R C ((R - 1) * C) := by
    intro c
    induction c with
    | zero => intro _; rfl
    | succ c ih =>
      intro hc
      rw [← Nat.add_assoc, sdD_row (by omega), if_neg (by omega), List.append_nil, ih (by omega)]
  have h1 := h C (Nat.le_refl _)
  rw [← h1]
  congr 1
  have : R = (R - 1) + 1 := by omega
  conv => rhs; rw [this, Nat.add_mul]
  omega
theorem sdl_len {R C : Nat} (hC : 1 ≤ C) (hR : 1 ≤ R) : (sdl R C).length = R * (C - 1) + (R - 1) * C := by
  unfold sdl
  rw [List.length_append, sdA_all hC, ← sdD_end hC hR, sdD_len hC _ (Nat.le_refl _)]
theorem mem_sdl {R C : Nat} (hC : 1 ≤ C) {q : Nat × Nat} (h : q ∈ sdl R C) : q.1 < R * C ∧ q.2 < R * C ∧ q.1 < q.2 := by
  unfold sdl at h
  rw [List.mem_append] at h
  rcases h with h | h
  · unfold sdA at h
    rw [List.mem_map] at h
    obtain ⟨a, ha, rfl⟩ := h
    rw [List.mem_filter, List.mem_range] at ha
    obtain ⟨h1, h2⟩ := ha
    have h2 : a % C ≠ C - 1 := by simpa using h2
    refine ⟨h1, ?_, by simp⟩
    have h3 := Nat.mod_lt a (show 0 < C by omega)
    have h4 := Nat.div_add_mod a C
    have h5 : a / C < R := (Nat.div_lt_iff_lt_mul hC).2 (by omega)
    have h6 : (a / C + 1) * C ≤ R * C := Nat.mul_le_mul_right C h5
    rw [Nat.add_mul, Nat.one_mul, Nat.mul_comm] at h6
    simp only; omega
  · unfold sdD at h
    rw [List.mem_map] at h
    obtain ⟨a, ha, rfl⟩ := h
    rw [List.mem_filter, List.mem_range] at ha
    obtain ⟨h1, h2⟩ := ha
    have h2 : a / C ≠ R - 1 := by simpa using h2
    refine ⟨h1, ?_, by simp; omega⟩
    have h3 := Nat.mod_lt a (show 0 < C by omega)
    have h4 := Nat.div_add_mod a C
    have h5 : a / C < R := (Nat.div_lt_iff_lt_mul hC).2 (by omega)
    generalize a / C = q at *
    have h6 : (q + 1 + 1) * C ≤ R * C := Nat.mul_le_mul_right C (by omega)
    rw [Nat.add_mul, Nat.add_mul, Nat.one_mul, Nat.mul_comm] at h6
    simp only; omega
theorem gp_mem {P : List (Nat × Nat)} {i : Nat} (h : i < P.length) : gp P i ∈ P := by
  unfold gp; simp [List.getD_eq_getElem?_getD, h]
def void : Int := 1000000000000
def edg (ph : List Int) (q : Nat × Nat) (k : Int) : Option Ed := if gi ph q.1 = void ∨ gi ph q.2 = void then none else some ⟨q.1, q.2, Int.tdiv (gi ph q.2 - gi ph q.1 - wrp (gi ph q.2 - gi ph q.1)) 4096, k.toNat⟩
def eds (ph : List Int) (P : List (Nat × Nat)) (ws : List Int) : List Ed := (List.range P.length).filterMap fun j => edg ph (gp P j) (gi ws j)
theorem eds_nil (ph ws : List Int) : eds ph [] ws = [] := rfl
theorem filterMap_same {α β : Type} {f g : α → Option β} : ∀ {l : List α}, (∀ a, a ∈ l → f a = g a) → l.filterMap f = l.filterMap g
  | [], _ => rfl
  | a :: l, h => by
    rw [List.filterMap_cons, List.filterMap_cons, h a (List.mem_cons_self ..), filterMap_same fun b hb => h b (List.mem_cons_of_mem _ hb)]
theorem eds_snoc (ph : List Int) (P : List (Nat × Nat)) (q : Nat × Nat) (ws : List Int) : eds ph (P ++ [q]) ws = eds ph P ws ++ (edg ph q (gi ws P.length)).toList := by
  unfold eds
  rw [List.length_append, List.length_singleton, List.range_succ, List.filterMap_append]
  congr 1
  · refine filterMap_same fun j hj => ?_
    rw [List.mem_range] at hj
    unfold gp
    simp [List.getD_eq_getElem?_getD, List.getElem?_append_left hj]
  · have : gp (P ++ [q]) P.length = q := by unfold gp; simp [List.getD_eq_getElem?_getD]
    simp only [List.filterMap_cons, List.filterMap_nil, this]
    cases edg ph q (gi ws P.length) <;> rfl
theorem eds_len (ph : List Int) (P : List (Nat × Nat)) (ws : List Int) : (eds ph P ws).length ≤ P.length := by
  unfold eds
  exact Nat.le_trans (List.length_filterMap_le _ _) (by simp)
theorem take_snoc {P : List (Nat × Nat)} {k : Nat} (h : k < P.length) : P.take (k + 1) = P.take k ++ [gp P k] := by
  rw [List.take_succ_eq_append_getElem h]; unfold gp; simp [List.getD_eq_getElem?_getD, h]
theorem jump_le {d : Int} (h : -4095 ≤ d ∧ d ≤ 4095) : -1 ≤ Int.tdiv (d - wrp d) 4096 ∧ Int.tdiv (d - wrp d) 4096 ≤ 1 := by
  unfold wrp
  have h1 : (d - ((d + 2048) % 4096 - 2048)) % 4096 = 0 := by omega
  obtain ⟨k, hk⟩ := Int.dvd_of_emod_eq_zero h1
  rw [hk, Int.mul_tdiv_cancel_left _ (by decide)]
  omega
theorem ge_mem {es : List Ed} {i : Nat} (h : i < es.length) : ge es i ∈ es := by
  unfold ge; simp [List.getD_eq_getElem?_getD, h]
structure RtN (R C : Nat) (ph ac dn : List Int) : Prop where
  hR : 1 ≤ R ∧ R ≤ 64
  hC : 1 ≤ C ∧ C ≤ 64
  few : R * C ≤ 144
  lp : ph.length = R * C
  la : ac.length = R * (C - 1)
  ld : dn.length = (R - 1) * C
  ph : PhOk ph
  wa : WtOk ac
  wd : WtOk dn
theorem Rt.nat {t : Tk} (h : Rt t) : ∃ R C : Nat, t.rows = R ∧ t.cols = C ∧ RtN R C t.ph t.ac t.dn := by
  obtain ⟨⟨r1, r2, c1, c2, hk⟩, hf, hph, hla, hld, hwa, hwd⟩ := h
  obtain ⟨R, hR⟩ := Int.eq_ofNat_of_zero_le (show 0 ≤ t.rows by omega)
  obtain ⟨C, hC⟩ := Int.eq_ofNat_of_zero_le (show 0 ≤ t.cols by omega)
  rw [hR] at r1 r2 hf hk hla hld
  rw [hC] at c1 c2 hf hk hla hld
  refine ⟨R, C, hR, hC, ⟨by omega, by omega⟩, ⟨by omega, by omega⟩, by exact_mod_cast hf, by exact_mod_cast hk, ?_, ?_, hph, hwa, hwd⟩
  · have : ((C : Int) - 1) = ((C - 1 : Nat) : Int) := by omega
    rw [this] at hla
    exact_mod_cast hla
  · have : ((R : Int) - 1) = ((R - 1 : Nat) : Int) := by omega
    rw [this] at hld
    exact_mod_cast hld
theorem ed_of {R C : Nat} {ph ac dn : List Int} (h : RtN R C ph ac dn) {e : Ed} (he : e ∈ eds ph (sdl R C) (ac ++ dn)) :
    e.f < R * C ∧ e.t < R * C ∧ e.f ≠ e.t ∧ -1 ≤ e.j ∧ e.j ≤ 1 ∧ e.k ≤ 1000 ∧ gi ph e.f ≠ void ∧ gi ph e.t ≠ void ∧ e.j = Int.tdiv (gi ph e.t - gi ph e.f - wrp (gi ph e.t - gi ph e.f)) 4096 := by
  unfold eds at he
  rw [List.mem_filterMap] at he
  obtain ⟨j, hj, he⟩ := he
  rw [List.mem_range] at hj
  obtain ⟨h1, h2, h3⟩ := mem_sdl h.hC.1 (gp_mem hj)
  unfold edg at he
  split at he
  · cases he
  · rename_i hv
    injection he with he
    subst he
    simp only [not_or] at hv
    have hlen := sdl_len h.hC.1 h.hR.1
    have hw : 0 ≤ gi (ac ++ dn) j ∧ gi (ac ++ dn) j ≤ 1000 := by
      by_cases hja : j < ac.length
      · have := h.wa j hja
        simpa [gi, List.getElem?_append_left hja] using this
      · have := h.wd (j - ac.length) (by rw [h.ld]; rw [h.la] at *; omega)
        simpa [gi, List.getElem?_append_right (Nat.le_of_not_lt hja)] using this
    have p1 := (h.ph (gp (sdl R C) j).1 (by rw [h.lp]; exact h1)).resolve_left hv.1
    have p2 := (h.ph (gp (sdl R C) j).2 (by rw [h.lp]; exact h2)).resolve_left hv.2
    have hj1 := jump_le (d := gi ph (gp (sdl R C) j).2 - gi ph (gp (sdl R C) j).1) (by omega)
    exact ⟨h1, h2, by simp only; omega, hj1.1, hj1.2, by simp only; omega, hv.1, hv.2, rfl⟩
theorem RtN.few_sides {R C : Nat} {ph ac dn : List Int} (h : RtN R C ph ac dn) : (sdl R C).length ≤ 288 := by
  rw [sdl_len h.hC.1 h.hR.1]
  have h1 : R * (C - 1) ≤ R * C := Nat.mul_le_mul_left R (by omega)
  have h2 : (R - 1) * C ≤ R * C := Nat.mul_le_mul_right C (by omega)
  have := h.few
  omega
theorem RtN.gd {R C : Nat} {ph ac dn : List Int} (h : RtN R C ph ac dn) : Gd (R * C) 1 (eds ph (sdl R C) (ac ++ dn)) := by
  have hf := h.few
  have hl := eds_len ph (sdl R C) (ac ++ dn)
  have hs := h.few_sides
  refine ⟨by omega, by omega, by omega, fun i hi => ?_, fun i hi => ?_, fun i hi => ?_⟩
  · have := ed_of h (ge_mem hi); exact ⟨this.1, this.2.1, this.2.2.1⟩
  · have := ed_of h (ge_mem hi); omega
  · have := ed_of h (ge_mem hi); omega
end Sw
end
