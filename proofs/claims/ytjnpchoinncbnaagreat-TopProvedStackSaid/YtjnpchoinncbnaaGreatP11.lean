/- Proves parts of the statement, each under the conditions that its theorem states: CheckNet and netErr of the stack, at right nets; Contracts of slices.IndexFunc and slices.ContainsFunc at []int, whatever the predicate; CheckTask of the stack, at right tasks; Where a step begins and ends. -/
import Derived.Test.YtjnpchoinncbnaaGreatP10
import Derived.Test.YtjnpchoinncbnaaGreatP04
import Derived.Test.YtjnpchoinncbnaaGreatP07
set_option linter.unusedSimpArgs false
set_option linter.unusedVariables false
set_option maxHeartbeats 4000000
set_option maxRecDepth 100000
section
namespace Go.Proofs.YtjnpchoinncbnaaGreat
open Go.RowKit Sw Fam
theorem take_snoc_rp {xs : List Rp} {k : Nat} (h : k < xs.length) : xs.take (k + 1) = xs.take k ++ [grp xs k] := by
  rw [List.take_succ_eq_append_getElem h]; simp [grp, h]
theorem take_ne {t : Sk} (ho : NetOk t) {k : Nat} (h : k < t.pr.length) : ∀ x, x ∈ t.pr.take k → x ≠ grp t.pr k := by
  intro x hx
  obtain ⟨j, hj, rfl⟩ := List.mem_take_iff_getElem.1 hx
  have := ho.two k j h (by omega)
  simpa [grp, show j < t.pr.length by omega] using this
theorem net7_c {t : Sk} {l : SkL} {w : World} (hM : NetM w t l) (ho : NetOk t) (hcs : t.sc.length ≤ l.cs) : Calls Tryz.prog 63 #[NetV t l] w fun e w' => e = .returned (.tuple #[.int .i64 0, .int .i64 0]) ∧ Below w.heap.size w w' := by
  obtain ⟨lS, lP, lH, lW, lcs, lcp, lch, lcw⟩ := l
  have h60 := ho.n_le
  have h200 := ho.m_le
  have hsc : ScOk t.sc := ⟨h60, ho.name, ho.uniq, ho.day, ho.bl⟩
  have HM := Lib.hid hM; clear hM
  have HO := Lib.hid ho; clear ho
  have HSC := Lib.hid hsc; clear hsc
  unfold NetV
  go_enter Tryz.func63, Tryz.ntmps63
  go_wp2_with fail
  refine nameCl ?_
  intro W1 hW1
  obtain ⟨hB1, hN1⟩ := alloc1 w _ hW1
  clear hW1
  refine (scenes_c (HM.out.sc.keep hB1) HSC.out hcs).mono ?_
  rintro e W2 ⟨rfl, hB2⟩
  have hN2 := (hB2.block _ (Array.getElem?_eq_some_iff.1 hN1).1).trans hN1
  have hB02 := hB1.trans (hB2.mono hB1.size)
  have n0 : W2.cell? ⟨w.heap.size, 0, none⟩ = some (.slice lS t.sc.length lcs) := block_cell hN2 (j := 0) (by simp)
  have n1 : W2.cell? ⟨w.heap.size, 1, none⟩ = some (.slice lP t.pr.length lcp) := block_cell hN2 (j := 1) (by simp)
  have HB := Lib.hid (And.intro hB02 hN2)
  clear hB1 hN1 hB2 hN2 hB02
  have hwl : w.heap.size < W2.heap.size := World.block_lt_of_cell? _ _ n0
  have hmm := @run_makeMap Tryz.prog
  go_wp2_with fail
  go_loopw [28] (fun v28 wr => ∃ k : Nat, v28 = .int .i64 k ∧ k ≤ t.pr.length ∧ Below w.heap.size w wr ∧ wr.heap[w.heap.size]? = some (.cells #[.slice lS t.sc.length lcs, .slice lP t.pr.length lcp] 25 (0, 0)) ∧ MapP wr W2.heap.size (t.pr.take k)) (fun v28 _ => t.pr.length - (intOf v28).toNat)
  case atStart => exact ⟨0, rfl, Nat.zero_le _, HB.out.1.trans ((Below.refl _ _).alloc HB.out.1.size _), (Below.heap_alloc _ _ _ hwl).trans HB.out.2, MapP.made W2⟩
  case round =>
    obtain ⟨k, rfl, hk, hB, hN, hMp⟩ := hrel
    have n0 : wr.cell? ⟨w.heap.size, 0, none⟩ = some (.slice lS t.sc.length lcs) := block_cell hN (j := 0) (by simp)
    have n1 : wr.cell? ⟨w.heap.size, 1, none⟩ = some (.slice lP t.pr.length lcp) := block_cell hN (j := 1) (by simp)
    by_cases hlt : k < t.pr.length
    · obtain ⟨b, o, hA, c0, c1⟩ := (HM.out.pr.keep hB) k hlt
      dsimp only at hA
      subst hA
      have hwl2 : w.heap.size < wr.heap.size := World.block_lt_of_cell? _ _ n0
      have hml := hMp.lt
      have H := Lib.hid (And.intro hB (And.intro hN hMp))
      clear hB hN hMp hmm
      go_wp2_with fail
      refine nameCl ?_
      intro W3 hW3
      obtain ⟨hB3, hP3⟩ := alloc1 wr _ hW3
      clear hW3
      have p0 : W3.cell? ⟨wr.heap.size, 0, none⟩ = some (.int .i64 (grp t.pr k).a) := block_cell hP3 (j := 0) (by simp)
      have p1 : W3.cell? ⟨wr.heap.size, 1, none⟩ = some (.int .i64 (grp t.pr k).b) := block_cell hP3 (j := 1) (by simp)
      have hM3 := H.out.2.2.move (hB3.block _ hml)
      have hN3 := (hB3.block _ hwl2).trans H.out.2.1
      have hB03 := H.out.1.trans (hB3.mono H.out.1.size)
      have hlk := run_lookup_pair hM3 (take_ne HO.out hlt)
      obtain ⟨ob, hup, hM4⟩ := run_update_pair (.bool true) hM3 (take_ne HO.out hlt)
      unfold rpV at hlk hup
      obtain ⟨e1, e2, e3⟩ := HO.out.ends k hlt
      have hle := HB.out.1.size
      have hMN : w.heap.size ≠ W2.heap.size := by omega
      have H3 := Lib.hid (And.intro hB03 (And.intro hN3 (And.intro hM4 hMN)))
      clear hB3 hP3 hM3 hN3 hB03 hM4 c0 c1 n0 n1 hwl2 hml hMN hwl
      have w1 := Lib.hid (fun w => swithin_c (grp t.pr k).a 0 ((t.sc.length : Int) - 1) true (by simp; omega) w)
      have w2 := Lib.hid (fun w => swithin_c (grp t.pr k).b 0 ((t.sc.length : Int) - 1) true (by simp; omega) w)
      refine (w1.out _).mono ?_
      rintro e w' ⟨rfl, rfl⟩
      go_wp2_with fail
      refine (w2.out _).mono ?_
      rintro e w' ⟨rfl, rfl⟩
      go_wp2_with fail
      go_roundw
      case rel => exact ⟨k + 1, by go_num, by omega, (H3.out.1.trans ⟨rfl, rfl, rfl, by simp [World.putObj], fun b hb => World.putObj_heap_other (by omega)⟩), (World.putObj_heap_other H3.out.2.2.2).trans H3.out.2.1, by rw [take_snoc_rp hlt]; exact H3.out.2.2.1⟩
      case measure => simp [intOf]; omega
    · have H := Lib.hid hB; clear hB hN hMp hmm
      go_wp2_with fail
      go_ret2
      exact ⟨rfl, H.out⟩
theorem netErr7_c {t : Sk} {l : SkL} {w : World} (hM : NetM w t l) (ho : NetOk t) (hcs : t.sc.length ≤ l.cs) : Calls Tryz.prog 37 #[NetV t l] w fun e w' => e = .returned (.int .i64 0) ∧ Below w.heap.size w w' := by
  have hb0 : Below w.heap.size w (w.alloc (.cells #[.slice l.S t.sc.length l.cs, .slice l.P t.pr.length l.cp] 25)) := (Below.refl _ _).alloc (Nat.le_refl _) _
  have H := Lib.hid (net7_c (hM.keep hb0) ho hcs)
  have HB := Lib.hid hb0; clear hb0
  clear hM ho
  unfold NetV at H ⊢
  go_enter Tryz.func37, Tryz.ntmps37
  go_wp2_with fail
  refine H.out.mono ?_
  rintro e w' ⟨rfl, hB⟩
  have HB2 := Lib.hid hB; clear hB
  go_wp2_with fail
  go_ret
  exact ⟨rfl, HB.out.trans (HB2.out.mono HB.out.size)⟩
end Go.Proofs.YtjnpchoinncbnaaGreat
end
section
namespace Go.Proofs.YtjnpchoinncbnaaGreat
open Go.RowKit Sw
def Enters (g : FuncId) : Prop := ∀ args w, (callFunc g args).run Tryz.prog w = .ok (.enter g args) w
def PredI (g : FuncId) (cap : Array Value) (p : Int → Bool) (xs : List Int) (w : World) : Prop :=
  ∀ j, j < xs.length → ∀ n, Calls Tryz.prog g (#[.int .i64 (gi xs j)] ++ cap) (w.drewN n) fun e w' => e = .returned (.bool (p (gi xs j))) ∧ ∃ m, w' = (w.drewN n).drewN m
def FirstAt (p : Int → Bool) (xs : List Int) (r : Int) : Prop := (r = -1 ∧ ∀ j, j < xs.length → p (gi xs j) = false) ∨ (∃ k, k < xs.length ∧ r = k ∧ p (gi xs k) = true ∧ ∀ j, j < k → p (gi xs j) = false)
def IdxPost (p : Int → Bool) (xs : List Int) (w : World) (e : Ending) (w' : World) : Prop := ∃ r, FirstAt p xs r ∧ e = .returned (.int .i64 r) ∧ ∃ n, w' = w.drewN n
theorem indexFunc_c (g : FuncId) (hcf : Enters g) (cap : Array Value) (p : Int → Bool) (xs : List Int) (A : Option Addr) (c : Nat) (w : World) (hl : xs.length ≤ 100000) (hr : RdI w A xs) (hp : PredI g cap p xs w) :
    Calls Tryz.prog 51 #[.slice A xs.length c, .func (.func g) #[] cap] w (IdxPost p xs w) := by
  have HR := Lib.hid hr; clear hr
  have HP := Lib.hid hp; clear hp
  unfold Enters at hcf
  go_enter Tryz.func51, Tryz.ntmps51
  go_wp2_with fail
  go_loopw [8] (fun v8 wr => ∃ k : Nat, v8 = .int .i64 k ∧ k ≤ xs.length ∧ (∀ j, j < k → p (gi xs j) = false) ∧ ∃ n, wr = w.drewN n) (fun v8 _ => xs.length - (intOf v8).toNat)
  case atStart => exact ⟨0, rfl, Nat.zero_le _, fun j hj => by omega, 0, rfl⟩
  case round =>
    obtain ⟨k, rfl, hk, hno, n, rfl⟩ := hrel
    have HN := Lib.hid hno; clear hno
    by_cases hlt : k < xs.length
    · obtain ⟨b, o, rfl, hc⟩ := HR.out k hlt
      go_wp2_with fail
      refine (HP.out k hlt n).mono ?_
      rintro e w' ⟨rfl, m, rfl⟩
      cases hpk : p (gi xs k) with
      | true =>
        go_wp2_with fail
        go_ret
        exact ⟨k, .inr ⟨k, hlt, rfl, hpk, HN.out⟩, rfl, n + m, rfl⟩
      | false =>
        go_wp2_with fail
        go_roundw
        case rel => exact ⟨k + 1, by go_num, by omega, fun j hj => by
          by_cases e : j = k
          · subst e; exact hpk
          · exact HN.out j (by omega), n + m, rfl⟩
        case measure => simp [intOf]; omega
    · go_wp2_with fail
      go_ret
      exact ⟨-1, .inl ⟨rfl, fun j hj => HN.out j (by omega)⟩, rfl, n, rfl⟩
def ConPost (p : Int → Bool) (xs : List Int) (w : World) (e : Ending) (w' : World) : Prop := ∃ r : Bool, (r = true ↔ ∃ j, j < xs.length ∧ p (gi xs j) = true) ∧ e = .returned (.bool r) ∧ ∃ n, w' = w.drewN n
theorem containsFunc_c (g : FuncId) (hcf : Enters g) (cap : Array Value) (p : Int → Bool) (xs : List Int) (A : Option Addr) (c : Nat) (w : World) (hl : xs.length ≤ 100000) (hr : RdI w A xs) (hp : PredI g cap p xs w) :
    Calls Tryz.prog 38 #[.slice A xs.length c, .func (.func g) #[] cap] w (ConPost p xs w) := by
  have H := Lib.hid (indexFunc_c g hcf cap p xs A c w hl hr hp)
  clear hr hp hcf
  go_enter Tryz.func38, Tryz.ntmps38
  go_wp2_with fail
  refine H.out.mono ?_
  rintro e w' ⟨r, hr, rfl, n, rfl⟩
  have HF := Lib.hid hr; clear hr
  go_wp2_with fail
  go_ret
  refine ⟨_, ?_, rfl, n, rfl⟩
  rcases HF.out with ⟨rfl, h⟩ | ⟨k, hk, rfl, hpk, h⟩
  · simp
    exact fun j hj => by rw [h j hj]
  · simp
    exact ⟨k, hk, hpk⟩
end Go.Proofs.YtjnpchoinncbnaaGreat
end
section
namespace Go.Proofs.YtjnpchoinncbnaaGreat
open Go.RowKit Sw Fam
theorem ct1_c (x : Int) (h : -100000000 ≤ x ∧ x ≤ 100000000) (w : World) : Calls Tryz.prog 39 #[.int .i64 x] w fun e w' => e = .returned (.bool false) ∧ w = w' := by
  have H := Lib.hid (small_c x 100000000 true (by omega) (by simpa using h) w); clear h
  go_enter Tryz.func39, Tryz.ntmps39
  go_wp2_with fail
  refine H.out.mono ?_
  rintro e w' ⟨rfl, rfl⟩
  go_wp2_with fail
  go_ret
  exact ⟨rfl, rfl⟩
theorem ct2_c (x : Int) (h : 0 ≤ x ∧ x ≤ 1000) (w : World) : Calls Tryz.prog 41 #[.int .i64 x] w fun e w' => e = .returned (.bool false) ∧ w = w' := by
  have H := Lib.hid (swithin_c x 0 1000 true (by simpa using h) w); clear h
  go_enter Tryz.func41, Tryz.ntmps41
  go_wp2_with fail
  refine H.out.mono ?_
  rintro e w' ⟨rfl, rfl⟩
  go_wp2_with fail
  go_ret
  exact ⟨rfl, rfl⟩
theorem none_con {xs : List Int} {w w' : World} {e : Ending} (h : ConPost (fun _ => false) xs w e w') : e = .returned (.bool false) ∧ ∃ n, w' = w.drewN n := by
  obtain ⟨r, hr, rfl, h⟩ := h
  refine ⟨?_, h⟩
  cases r with
  | false => rfl
  | true => have := hr.1 rfl; simp at this
theorem ctask7_c {t : Sk} {l : SkL} {w : World} (hM : SkM w t l) (ho : RtS t) (hcs : t.sc.length ≤ l.cs) : Calls Tryz.prog 25 #[SkV t l] w fun e w' => e = .returned (.int .i64 0) ∧ Below w.heap.size w w' := by
  have h1 := ho.lph
  have h2 := ho.lws
  have h200 := ho.net.m_le
  have HM := Lib.hid hM; clear hM
  have HO := Lib.hid ho; clear ho
  have b1 : ((t.ph.length : Int) != (t.pr.length : Int)) = false := by simp [h1]
  have b2 : ((t.ws.length : Int) != (t.pr.length : Int)) = false := by simp [h2]
  have HL := Lib.hid (And.intro h1 h2); clear h1 h2
  unfold SkV
  go_enter Tryz.func25, Tryz.ntmps25
  go_wp2_with fail
  refine nameCl ?_
  intro W1 hW1
  obtain ⟨hB1, hN1⟩ := alloc1 w _ hW1
  clear hW1
  refine (netErr7_c (t := t) (l := l) (HM.out.net.keep hB1) HO.out.net hcs).mono ?_
  rintro e W2 ⟨rfl, hB2⟩
  have hN2 := (hB2.block _ (Array.getElem?_eq_some_iff.1 hN1).1).trans hN1
  have hB02 := hB1.trans (hB2.mono hB1.size)
  have n1 : W2.cell? ⟨w.heap.size, 1, none⟩ = some (.slice l.P t.pr.length l.cp) := block_cell hN2 (j := 1) (by simp)
  have n2 : W2.cell? ⟨w.heap.size, 2, none⟩ = some (.slice l.H t.ph.length l.ch) := block_cell hN2 (j := 2) (by simp)
  have n3 : W2.cell? ⟨w.heap.size, 3, none⟩ = some (.slice l.W t.ws.length l.cw) := block_cell hN2 (j := 3) (by simp)
  have HB := Lib.hid hB02
  clear hB1 hN1 hB2 hN2 hB02
  have p1 := containsFunc_c 39 (enters_fn Tryz.func39 (by kernel_rfl) rfl) #[] (fun _ => false) t.ph l.H l.ch W2 (by have := HL.out; omega) (HM.out.ph.keep HB.out)
    (fun j hj n => by
      refine (ct1_c _ (HO.out.ph j hj) _).mono ?_
      rintro e w' ⟨rfl, rfl⟩
      exact ⟨rfl, 0, rfl⟩)
  have P1 := Lib.hid p1; clear p1
  have p2 : ∀ n, Calls Tryz.prog _ _ (W2.drewN n) _ := fun n => containsFunc_c 41 (enters_fn Tryz.func41 (by kernel_rfl) rfl) #[] (fun _ => false) t.ws l.W l.cw (W2.drewN n) (by have := HL.out; omega) (HM.out.ws.keep (below_drewN HB.out n) |> fun h => h)
    (fun j hj n => by
      refine (ct2_c _ (HO.out.ws j hj) _).mono ?_
      rintro e w' ⟨rfl, rfl⟩
      exact ⟨rfl, 0, rfl⟩)
  have P2 := Lib.hid p2; clear p2
  go_wp2_with fail
  refine P1.out.mono ?_
  intro e w' hp
  obtain ⟨rfl, n, rfl⟩ := none_con hp
  clear hp
  go_wp2_with fail
  refine (P2.out n).mono ?_
  intro e w' hp
  obtain ⟨rfl, n2, rfl⟩ := none_con hp
  clear hp
  go_wp2_with fail
  go_ret
  exact ⟨rfl, below_drewN HB.out (n + n2)⟩
theorem ends_c {b o m i f s n cs cp : Nat} {S : Option Addr} {sg : Int} {w : World} (hsg : sg = 1 ∨ sg = -1) (hi : i < m) (hm : m ≤ 200)
    (p0 : w.cell? ⟨b, o + i * 2, none⟩ = some (.int .i64 (f : Nat))) (p1 : w.cell? ⟨b, o + i * 2 + 1, none⟩ = some (.int .i64 (s : Nat))) :
    Calls Tryz.prog 69 #[.agg #[.slice S n cs, .slice (some ⟨b, o, none⟩) m cp], .agg #[.int .i64 i, .int .i64 sg]] w fun e w' => e = .returned (.tuple #[.int .i64 ((if sg = 1 then f else s : Nat) : Int), .int .i64 ((if sg = 1 then s else f : Nat) : Int)]) ∧ Below w.heap.size w w' := by
  have hil : (i : Int) < m := by omega
  have hbl : b < w.heap.size := World.block_lt_of_cell? _ _ p0
  rcases hsg with rfl | rfl
  · rw [if_pos rfl, if_pos rfl]
    have hb0 := ((((Below.refl w.heap.size w).alloc (Nat.le_refl _) (.cells #[.slice S n cs, .slice (some ⟨b, o, none⟩) m cp] 66)).alloc (by simp) (.cells #[.int .i64 i, .int .i64 1] 95)).alloc (by simp; omega) (.cells #[.int .i64 (f : Nat), .int .i64 (s : Nat)] 60))
    have HB := Lib.hid hb0; clear hb0
    go_enter Tryz.func69, Tryz.ntmps69
    go_wp2_with fail
    go_quiet (fail)
    go_wp2_with fail
    go_ret2
    exact ⟨rfl, below_drewN HB.out _⟩
  · rw [if_neg (by decide), if_neg (by decide)]
    have hb0 := ((((Below.refl w.heap.size w).alloc (Nat.le_refl _) (.cells #[.slice S n cs, .slice (some ⟨b, o, none⟩) m cp] 66)).alloc (by simp) (.cells #[.int .i64 i, .int .i64 (-1)] 95)).alloc (by simp; omega) (.cells #[.int .i64 (f : Nat), .int .i64 (s : Nat)] 60))
    have HB := Lib.hid hb0; clear hb0
    go_enter Tryz.func69, Tryz.ntmps69
    go_wp2_with fail
    go_quiet (fail)
    go_wp2_with fail
    go_ret2
    exact ⟨rfl, below_drewN HB.out _⟩
end Go.Proofs.YtjnpchoinncbnaaGreat
end
