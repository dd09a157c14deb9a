/- Proves parts of the statement, each under the conditions that its theorem states: Maps whose keys are numbers; Solving: pushes, as long as a node has too much; Solving: the turns less those of the first node of a part; Solving: the contract. -/
import Derived.Test.YtjnpchoinncbnaaGreatP03
import Derived.MapKept
import Derived.Test.YtjnpchoinncbnaaGreatP21
import Derived.Test.YtjnpchoinncbnaaGreatP11
set_option linter.unusedSimpArgs false
set_option linter.unusedVariables false
set_option maxHeartbeats 4000000
set_option maxRecDepth 100000
section
namespace Go
namespace Fam
open RowKit
structure MapI (w : World) (b : Nat) (m : Int → Option Value) : Prop where
  ex : ∃ es clock, w.heap[b]? = some (.map es clock) ∧ (∀ (j : Nat) (e : MapEntry), es[j]? = some e → ∃ a, e.key = .int .i64 a ∧ m a = some e.val) ∧ (∀ a v, m a = some v → ∃ (j : Nat) (e : MapEntry), es[j]? = some e ∧ e.key = .int .i64 a) ∧
    ∀ (i j : Nat) (e e' : MapEntry), es[i]? = some e → es[j]? = some e' → e.key = e'.key → i = j
section
variable {P : Program} {w : World} {b : Nat} {m : Int → Option Value}
theorem MapI.made (w : World) : MapI (w.alloc (.map #[] 0)) w.heap.size (fun _ => none) :=
  ⟨⟨#[], 0, World.alloc_heap_new w _, fun j e h => by simp at h, fun a v h => by simp at h, fun i j e e' h => by simp at h⟩⟩
theorem MapI.move {w' : World} (h : MapI w b m) (hb : w'.heap[b]? = w.heap[b]?) : MapI w' b m := by
  obtain ⟨es, clock, h1, h2⟩ := h.ex
  exact ⟨⟨es, clock, hb.trans h1, h2⟩⟩
theorem MapI.drewN (h : MapI w b m) (n : Nat) : MapI (w.drewN n) b m := h.move rfl
theorem MapI.ne (h : MapI w b m) {b' : Nat} {cs : Array Value} {t : TypeId} {r : Nat × Nat} (hb : w.heap[b']? = some (.cells cs t r)) : b' ≠ b := fun e => by
  obtain ⟨es, clock, h1, h2⟩ := h.ex
  subst e
  have := hb.symm.trans h1
  injection this with this; cases this
theorem MapI.find (h : MapI w b m) (k : Int) : ∃ es clock, w.heap[b]? = some (.map es clock) ∧
    ((Instr.findNow (.int .i64) (.int .i64 k) es.toList 0 = some none ∧ m k = none) ∨ ∃ (j : Nat) (e : MapEntry), Instr.findNow (.int .i64) (.int .i64 k) es.toList 0 = some (some (j, e.val)) ∧ es[j]? = some e ∧ e.key = .int .i64 k ∧ m k = some e.val) := by
  obtain ⟨es, clock, h1, h2, h3, h4⟩ := h.ex
  refine ⟨es, clock, h1, ?_⟩
  have hk : MapKept.IsKey (.int .i64) (.int .i64 k) := by simp [MapKept.IsKey]
  have hall : ∀ x ∈ es.toList, MapKept.IsKey (.int .i64) x.key := fun x hx => by
    obtain ⟨j, hj, e⟩ := List.mem_iff_getElem.1 hx
    obtain ⟨a, e1, _⟩ := h2 j x (by rw [← Array.getElem?_toList, List.getElem?_eq_getElem hj, e])
    rw [e1]; simp [MapKept.IsKey]
  rcases MapKept.findNow_spec hk es.toList 0 hall with ⟨g1, g2⟩ | ⟨j, e, g1, g2, g3⟩
  · left
    refine ⟨g1, ?_⟩
    cases hm : m k with
    | none => rfl
    | some v =>
      obtain ⟨j, e, e1, e2⟩ := h3 k v hm
      exact absurd e2 (g2 e (by rw [← Array.getElem?_toList] at e1; exact List.mem_of_getElem? e1))
  · right
    have g2' : es[j]? = some e := by rw [← Array.getElem?_toList]; exact g2
    obtain ⟨a, e1, e2⟩ := h2 j e g2'
    rw [g3] at e1
    injection e1 with _ e1
    subst e1
    exact ⟨j, e, by rw [g1, Nat.zero_add], g2', g3, e2⟩
theorem run_lookup_i {t kt et : TypeId} {z : Value} (h : MapI w b m) (ht : P.underlying t = some (.map kt et)) (hk : P.underlying kt = some (.int .i64)) (hz : (zeroValue et).run P w = .ok z w) (k : Int) (c : Bool) :
    (Instr.lookup t (.map (some b)) (.int .i64 k) c).run P w = .ok (if c then .tuple #[(m k).getD z, .bool (m k).isSome] else (m k).getD z) w := by
  obtain ⟨es, clock, h1, h2⟩ := h.find k
  have hkk : MapKept.IsKey (.int .i64) (.int .i64 k) := by simp [MapKept.IsKey]
  have hc : ∀ em, (Instr.checkKey em 10000 kt (.int .i64 k)).run P w = .ok () w := fun em => MapKept.run_checkKey hk hkk em 9999
  rcases h2 with ⟨g1, g2⟩ | ⟨j, e, g1, g2, g3, g4⟩
  · cases c <;> simp [Instr.lookup, run_underlying ht, MapKept.run_getObj_map h1, hc, MapKept.run_findKey hk g1, Result.andThen, hz, g2]
  · cases c <;> simp [Instr.lookup, run_underlying ht, MapKept.run_getObj_map h1, hc, MapKept.run_findKey hk g1, Result.andThen, g4]
theorem run_update_i {t kt et : TypeId} (h : MapI w b m) (ht : P.underlying t = some (.map kt et)) (hk : P.underlying kt = some (.int .i64)) (k : Int) (v : Value) :
    ∃ o, (Instr.mapUpdate t (.map (some b)) (.int .i64 k) v).run P w = .ok () (w.putObj b o) ∧ MapI (w.putObj b o) b (fun a => if a = k then some v else m a) := by
  obtain ⟨es, clock, h1, h2⟩ := h.find k
  obtain ⟨es', clock', q1, q2, q3, q4⟩ := h.ex
  have e0 : es' = es := by
    have := q1.symm.trans h1
    injection this with this; injection this
  subst e0
  have hkk : MapKept.IsKey (.int .i64) (.int .i64 k) := by simp [MapKept.IsKey]
  have hc : ∀ em, (Instr.checkKey em 10000 kt (.int .i64 k)).run P w = .ok () w := fun em => MapKept.run_checkKey hk hkk em 9999
  have hlt : b < w.heap.size := (Array.getElem?_eq_some_iff.1 h1).1
  rcases h2 with ⟨g1, g2⟩ | ⟨j, e, g1, g2, g3, g4⟩
  · refine ⟨.map (es'.push { key := .int .i64 k, val := v, born := clock }) (clock + 1), ?_, ⟨⟨_, _, World.putObj_heap_same hlt, fun i x hx => ?_, fun a u hu => ?_, fun i i' x x' hx hx' hxx => ?_⟩⟩⟩
    · simp [Instr.mapUpdate, run_underlying ht, MapKept.run_getObj_map h1, hc, MapKept.run_findKey hk g1, MapKept.run_setObj_map _ h1, Result.andThen]
      rfl
    · rw [Array.getElem?_push] at hx
      split at hx
      · cases hx; exact ⟨k, rfl, by rw [if_pos rfl]⟩
      · obtain ⟨a, e1, e2⟩ := q2 i x hx
        refine ⟨a, e1, ?_⟩
        rw [if_neg (fun e => ?_)]
        · exact e2
        · subst e; rw [g2] at e2; cases e2
    · by_cases hak : a = k
      · subst hak
        exact ⟨es'.size, _, by rw [Array.getElem?_push, if_pos rfl], rfl⟩
      · rw [if_neg hak] at hu
        obtain ⟨i, x, e1, e2⟩ := q3 a u hu
        have := (Array.getElem?_eq_some_iff.1 e1).1
        exact ⟨i, x, by rw [Array.getElem?_push, if_neg (by omega)]; exact e1, e2⟩
    · have old : ∀ (i : Nat) (x : MapEntry), es'[i]? = some x → x.key ≠ .int .i64 k := fun i x hx e => by
        obtain ⟨a, e1, e2⟩ := q2 i x hx
        rw [e] at e1
        injection e1 with _ e1
        subst e1
        rw [g2] at e2; cases e2
      rw [Array.getElem?_push] at hx hx'
      split at hx
      · split at hx'
        · omega
        · cases hx; exact absurd hxx.symm (old i' x' hx')
      · split at hx'
        · cases hx'; exact absurd hxx (old i x hx)
        · exact q4 i i' x x' hx hx' hxx
  · refine ⟨.map (es'.modify j fun e => { e with key := .int .i64 k, val := v }) clock, ?_, ⟨⟨_, _, World.putObj_heap_same hlt, fun i x hx => ?_, fun a u hu => ?_, fun i i' x x' hx hx' hxx => ?_⟩⟩⟩
    · simp [Instr.mapUpdate, run_underlying ht, MapKept.run_getObj_map h1, hc, MapKept.run_findKey hk g1, g2, g3, MapKept.run_keyThatStays hkk, MapKept.run_setObj_map _ h1, Result.andThen]
      rfl
    · rw [Array.getElem?_modify] at hx
      split at hx
      · rename_i hji
        subst hji
        rw [g2] at hx
        cases hx
        exact ⟨k, rfl, by rw [if_pos rfl]⟩
      · rename_i hji
        obtain ⟨a, e1, e2⟩ := q2 i x hx
        refine ⟨a, e1, ?_⟩
        rw [if_neg (fun e => ?_)]
        · exact e2
        · subst e; exact hji (q4 j i _ x g2 hx (g3.trans e1.symm))
    · by_cases hak : a = k
      · subst hak
        exact ⟨j, _, by rw [Array.getElem?_modify, if_pos rfl, g2]; rfl, rfl⟩
      · rw [if_neg hak] at hu
        obtain ⟨i, x, e1, e2⟩ := q3 a u hu
        refine ⟨i, x, ?_, e2⟩
        rw [Array.getElem?_modify, if_neg (fun e => ?_)]
        · exact e1
        · subst e
          rw [g2] at e1; cases e1
          rw [g3] at e2; injection e2 with _ e2; exact hak e2.symm
    · have key : ∀ (i : Nat) (x : MapEntry), (es'.modify j fun e => { e with key := .int .i64 k, val := v })[i]? = some x → ∃ y, es'[i]? = some y ∧ y.key = x.key := fun i x hx => by
        rw [Array.getElem?_modify] at hx
        split at hx
        · rename_i hji
          subst hji
          rw [g2] at hx
          cases hx
          exact ⟨e, g2, g3⟩
        · exact ⟨x, hx, rfl⟩
      obtain ⟨y, y1, y2⟩ := key i x hx
      obtain ⟨y', y3, y4⟩ := key i' x' hx'
      exact q4 i i' y y' y1 y3 (by rw [y2, y4]; exact hxx)
end
end Fam
end Go
end
section
namespace Go.Proofs.YtjnpchoinncbnaaGreat
open Go.RowKit Sw Fam
theorem gt0_c (k : Int) (w : World) : Calls Tryz.prog 52 #[.int .i64 k] w fun e w' => e = .returned (.bool (decide (0 < k))) ∧ w = w' := by
  go_enter Tryz.func52, Tryz.ntmps52
  go_wp2
  go_ret
  exact ⟨rfl, rfl⟩
def LoopSolve (W0 : World) (v : Loc) (n J xb ca : Nat) (es : List Ed) (m : Nat) (a : Act) (w : World) : Prop :=
  ∃ x p ex D, SvM w v n es x p ex ∧ Inv n J es x p ex D ∧ (pos n ex).toNat = m ∧ Below W0.heap.size W0 w ∧ w.heap[xb]? = some (.cells #[.int .i64 n, .slice v.A es.length ca] 71 (0, 0)) ∧
    FrD 64 [] [(1, .pointer (some ⟨xb, 0, none⟩)), (3, .pointer (some ⟨v.S, 0, none⟩))] a
theorem solve_round {mm n J xb ca : Nat} {W0 : World} {v : Loc} {es : List Ed} (hg : Gd n J es) (hv : W0.heap.size ≤ v.x ∧ W0.heap.size ≤ v.p ∧ W0.heap.size ≤ v.e)
    {Q : Exit → Act → World → Prop} (hQ : ∀ a w x p ex D, SvM w v n es x p ex → Inv n J es x p ex D → (∀ u, u < n → gi ex u ≤ 0) → Below W0.heap.size W0 w → w.heap[xb]? = some (.cells #[.int .i64 n, .slice v.A es.length ca] 71 (0, 0)) →
      FrD 64 [] [(1, .pointer (some ⟨xb, 0, none⟩)), (3, .pointer (some ⟨v.S, 0, none⟩))] a → Q (.exit 0) a w)
    (m : Nat) (a : Act) (w : World) (hI : LoopSolve W0 v n J xb ca es m a w) :
    Code.wpIn Fence.wide mm Tryz.prog (Tryz.f33.sub [1, 1, 0, 0, 0, 0]) (Exit.then (fun a' w' => ∃ m', m' < m ∧ LoopSolve W0 v n J xb ca es m' a' w') Q) a w := by
  obtain ⟨x, p, ex, D, hS, hInv, hm, hbel, hxb, hfr⟩ := hI
  obtain ⟨t, rfl⟩ := hfr.open
  clear hfr
  have HG := Lib.hid hg; clear hg
  have HQ := Lib.hid hQ; clear hQ
  have HS := Lib.hid hS; clear hS
  have HI := Lib.hid hInv; clear hInv
  have HBel := Lib.hid hbel; clear hbel
  have HX := Lib.hid hxb; clear hxb
  have HM := Lib.hid hm; clear hm
  have hnn := HG.out.n_le
  have c4 := HS.out.c4
  have hle := HS.out.lene
  show Code.wpIn Fence.wide mm Tryz.prog (.seq (Tryz.f33.sub [1, 1, 0, 0, 0, 0, 0]) (.seq (.seq (Tryz.f33.sub [1, 1, 0, 0, 0, 0, 1, 0, 0]) (Tryz.f33.sub [1, 1, 0, 0, 0, 0, 1, 0, 1])) (Tryz.f33.sub [1, 1, 0, 0, 0, 0, 1, 1]))) _
    ⟨#[(t 0), .pointer (some ⟨xb, 0, none⟩), (t 2), .pointer (some ⟨v.S, 0, none⟩), (t 4), (t 5), (t 6), (t 7), (t 8), (t 9), (t 10), (t 11), (t 12), (t 13), (t 14), (t 15), (t 16), (t 17), (t 18), (t 19), (t 20), (t 21), (t 22), (t 23), (t 24), (t 25), (t 26), (t 27), (t 28), (t 29), (t 30), (t 31), (t 32), (t 33), (t 34), (t 35), (t 36), (t 37), (t 38), (t 39), (t 40), (t 41), (t 42), (t 43), (t 44), (t 45), (t 46), (t 47), (t 48), (t 49), (t 50), (t 51), (t 52), (t 53), (t 54), (t 55), (t 56), (t 57), (t 58), (t 59), (t 60), (t 61), (t 62), (t 63)], []⟩ _
  have hidx := indexFunc_c 52 (enters_fn Tryz.func52 (by kernel_rfl) rfl) #[] (fun k => decide (0 < k)) ex (some ⟨v.e, 0, none⟩) n w (by omega) HS.out.em.rd (fun j hj k => by
    refine (gt0_c _ _).mono ?_
    rintro e w' ⟨rfl, rfl⟩
    exact ⟨rfl, 0, by simp [World.drewN]⟩)
  rw [← hle] at hidx
  have HIdx := Lib.hid hidx; clear hidx
  have HLE := Lib.hid hle; clear hle
  refine wpIn_seq ?_
  conv => arg 4; whnf
  dsimp only
  gi_wp2_with fail
  refine ⟨trivial, fun hh => by simp [Fence.wide] at hh, (callsIn_wide.2 HIdx.out).mono ?_⟩
  rintro e w1 ⟨r, hr, rfl, q, hw1⟩
  have HR := Lib.hid hr; clear hr
  have hS1 : SvM w1 v n es x p ex := by rw [hw1]; exact HS.out.drewN q
  have hB1 : Below W0.heap.size W0 w1 := by rw [hw1]; exact below_drewN HBel.out q
  have hX1 : w1.heap[xb]? = some (.cells #[.int .i64 n, .slice v.A es.length ca] 71 (0, 0)) := by rw [hw1]; exact HX.out
  clear hw1 c4
  have H1 := Lib.hid (And.intro hS1 (And.intro hB1 hX1))
  clear hS1 hB1 hX1
  rcases HR.out with ⟨rfl, hno⟩ | ⟨u, hu, rfl, hpos, _⟩
  · have HNO := Lib.hid hno; clear hno
    gi_wp2_with fail
    conv => arg 4; whnf
    gi_wp2_with fail
    conv => arg 4; whnf
    gi_wp2_with fail
    obtain ⟨hS1, hB1, hX1⟩ := H1.out
    refine HQ.out _ w1 x p ex D hS1 HI.out (fun u hu => ?_) hB1 hX1 (by (refine ⟨rfl, rfl, ?_⟩; repeat (first | exact trivial | refine ⟨rfl, ?_⟩)))
    have := HNO.out u (by rw [← HLE.out]; exact hu)
    simpa using this
  · have hun : u < n := by rw [HLE.out]; exact hu
    have hpos' : 0 < gi ex u := by simpa using hpos
    have HP := Lib.hid (push_c HG.out HI.out H1.out.1 hun hpos')
    clear hpos hpos' hu
    gi_wp2_with fail
    conv => arg 4; whnf
    gi_wp2_with fail
    conv => arg 4; whnf
    gi_wp2_with fail
    conv => arg 4; whnf
    gi_wp2_with fail
    refine ⟨trivial, fun hh => by simp [Fence.wide] at hh, (callsIn_wide.2 HP.out).mono ?_⟩
    rintro e w2 ⟨rfl, k1, k2⟩
    have K := Lib.hid (And.intro k1 k2); clear k1 k2
    gi_wp2_with fail
    obtain ⟨k1, x', p', ex', D', k2, k3, k4⟩ := K.out
    obtain ⟨hS1, hB1, hX1⟩ := H1.out
    have h0 := pos_nonneg n ex'
    have hb : ∀ b, b ∈ [v.x, v.p, v.e] → W0.heap.size ≤ b := fun b hb => by
      simp only [List.mem_cons, List.not_mem_nil, or_false] at hb
      rcases hb with rfl | rfl | rfl
      · exact hv.1
      · exact hv.2.1
      · exact hv.2.2
    refine ⟨(pos n ex').toNat, by have := HM.out; omega, x', p', ex', D', k2, k3, rfl, k1.below hB1 (Nat.le_refl _) hb, ?_, by (refine ⟨rfl, rfl, ?_⟩; repeat (first | exact trivial | refine ⟨rfl, ?_⟩))⟩
    refine (k1.block xb (Array.getElem?_eq_some_iff.1 hX1).1 (fun hm => ?_)).trans hX1
    simp only [List.mem_cons, List.not_mem_nil, or_false] at hm
    rcases hm with e | e | e
    · exact ne_of_types hX1 (show w1.heap[v.x]? = _ from hS1.fl) (by decide) e
    · exact ne_of_types hX1 (show w1.heap[v.p]? = _ from hS1.tu) (by decide) e
    · exact ne_of_types hX1 (show w1.heap[v.e]? = _ from hS1.em) (by decide) e
structure FirstM (n : Nat) (pt : List Nat) (p q : List Int) (i : Nat) (m : Int → Option Value) : Prop where
  no : ∀ a : Nat, (∀ u, u < i → gn pt u ≠ a) → m a = none
  yes : ∀ u, u < i → (∀ w, w < u → gn pt w ≠ gn pt u) → m (gn pt u) = some (.int .i64 (gi p u))
  done : ∀ v, v < i → ∃ u, u ≤ v ∧ gn pt u = gn pt v ∧ (∀ w, w < u → gn pt w ≠ gn pt v) ∧ gi q v = gi p v - gi p u
  rest : ∀ v, v < n → i ≤ v → gi q v = gi p v
theorem FirstM.start (n : Nat) (pt : List Nat) (p : List Int) : FirstM n pt p p 0 (fun _ => none) := ⟨fun _ _ => rfl, fun u hu => by omega, fun v hv => by omega, fun _ _ _ => rfl⟩
theorem FirstM.cases {n : Nat} {pt : List Nat} {p q : List Int} {i : Nat} {m : Int → Option Value} (h : FirstM n pt p q i m) : m (gn pt i) = none ∧ (∀ u, u < i → gn pt u ≠ gn pt i) ∨ ∃ u, u < i ∧ gn pt u = gn pt i ∧ (∀ w, w < u → gn pt w ≠ gn pt i) ∧ m (gn pt i) = some (.int .i64 (gi p u)) := by
  by_cases hh : ∃ u, u < i ∧ gn pt u = gn pt i
  · obtain ⟨u, hu, he⟩ := hh
    obtain ⟨u', h1, h2, h3⟩ := exists_first (P := fun u => gn pt u = gn pt i) u he
    right
    refine ⟨u', by omega, h2, fun w hw => h3 w hw, ?_⟩
    rw [← h2]
    exact h.yes u' (by omega) (fun w hw => by rw [h2]; exact h3 w hw)
  · left
    have h1 : ∀ u, u < i → gn pt u ≠ gn pt i := fun u hu e => hh ⟨u, hu, e⟩
    exact ⟨h.no _ h1, h1⟩
theorem FirstM.new {n : Nat} {pt : List Nat} {p q : List Int} {i : Nat} {m : Int → Option Value} (h : FirstM n pt p q i m) (hi : i < n) (lq : q.length = n) (hn : ∀ u, u < i → gn pt u ≠ gn pt i) :
    FirstM n pt p (q.set i 0) (i + 1) (fun a => if a = gn pt i then some (.int .i64 (gi p i)) else m a) := by
  have hs : ∀ v, gi (q.set i 0) v = if i = v then 0 else gi q v := fun v => gi_set _ _ _ _ (by omega)
  refine ⟨fun a ha => ?_, fun u hu hw => ?_, fun v hv => ?_, fun v hv hiv => ?_⟩
  · rw [if_neg (fun e => ha i (by omega) (by omega))]
    exact h.no a fun u hu => ha u (by omega)
  · by_cases e : u = i
    · subst e; rw [if_pos rfl]
    · rw [if_neg (fun e' => hn u (by omega) (by omega))]
      exact h.yes u (by omega) hw
  · by_cases e : v = i
    · subst e
      exact ⟨v, Nat.le_refl _, rfl, fun w hw => hn w hw, by rw [hs, if_pos rfl]; omega⟩
    · obtain ⟨u, h1, h2, h3, h4⟩ := h.done v (by omega)
      exact ⟨u, h1, h2, h3, by rw [hs, if_neg (fun e' => e e'.symm)]; exact h4⟩
  · rw [hs, if_neg (by omega)]; exact h.rest v hv (by omega)
theorem FirstM.old {n : Nat} {pt : List Nat} {p q : List Int} {i : Nat} {m : Int → Option Value} (h : FirstM n pt p q i m) (hi : i < n) (lq : q.length = n) {u : Nat} (hu : u < i) (he : gn pt u = gn pt i) (hf : ∀ w, w < u → gn pt w ≠ gn pt i) :
    FirstM n pt p (q.set i (gi p i - gi p u)) (i + 1) m := by
  have hs : ∀ v, gi (q.set i (gi p i - gi p u)) v = if i = v then gi p i - gi p u else gi q v := fun v => gi_set _ _ _ _ (by omega)
  refine ⟨fun a ha => h.no a fun u hu => ha u (by omega), fun w hw hww => ?_, fun v hv => ?_, fun v hv hiv => ?_⟩
  · by_cases e : w = i
    · subst e; exact absurd he (hww u hu)
    · exact h.yes w (by omega) hww
  · by_cases e : v = i
    · subst e
      exact ⟨u, by omega, he, hf, by rw [hs, if_pos rfl]⟩
    · obtain ⟨u', h1, h2, h3, h4⟩ := h.done v (by omega)
      exact ⟨u', h1, h2, h3, by rw [hs, if_neg (fun e' => e e'.symm)]; exact h4⟩
  · rw [hs, if_neg (by omega)]; exact h.rest v hv (by omega)
structure SolM (w : World) (v : Loc) (n : Nat) (es : List Ed) (x q : List Int) : Prop where
  blk : w.heap[v.S]? = some (.cells #[.int .i64 n, .slice v.A es.length v.c, .slice (some ⟨v.x, 0, none⟩) es.length es.length, .slice (some ⟨v.p, 0, none⟩) n n, .slice (some ⟨v.e, 0, none⟩) n n, .slice (some ⟨v.a, 0, none⟩) n n] 78 (0, 0))
  fl : IntB w v.x x
  tu : IntB w v.p q
  lx : x.length = es.length
  lq : q.length = n
  ne : v.x ≠ v.p ∧ v.S ≠ v.p ∧ v.S ≠ v.x
def LoopFirst (W0 : World) (v : Loc) (n mb lb : Nat) (es : List Ed) (x p : List Int) (pt : List Nat) (a : Act) (w : World) : Prop :=
  ∃ i q m, i ≤ n ∧ FirstM n pt p q i m ∧ SolM w v n es x q ∧ MapI w mb m ∧ Below W0.heap.size W0 w ∧ IntB w lb (pt.map Int.ofNat) ∧
    FrD 64 [] [(3, .pointer (some ⟨v.S, 0, none⟩)), (6, .map (some mb)), (26, .slice (some ⟨lb, 0, none⟩) n n), (27, .int .i64 n), (28, .int .i64 i)] a
theorem zero_int (w : World) : (zeroValue 3).run Tryz.prog w = .ok (.int .i64 0) w := by kernel_rfl
theorem first_sub {mm n mb i c : Nat} {v : Loc} {es : List Ed} {x q : List Int} {m : Int → Option Value} {y : Int} {v26 v27 v28 : Value} {W : World} {Q : Exit → Act → World → Prop} {u0 u1 u2 u4 u5 u9 u10 u11 u12 u13 u14 u15 u16 u17 u18 u19 u20 u21 u22 u23 u24 u25 u29 u30 u31 u32 u33 u34 u35 u36 u37 u38 u39 u40 u41 u42 u43 u44 u45 u46 u47 u48 u49 u50 u51 u52 u53 u54 u55 u56 u57 u58 u59 u60 u61 u62 u63 : Value}
    (hS : SolM W v n es x q) (hM : MapI W mb m) (hn : n ≤ 1000) (hi : i < n) (hy : m c = some (.int .i64 y)) (b1 : 0 ≤ gi q i ∧ gi q i ≤ 1000000000000) (b2 : 0 ≤ y ∧ y ≤ 1000000000000)
    (hQ : ∀ a k, FrD 64 [] [(3, .pointer (some ⟨v.S, 0, none⟩)), (6, .map (some mb)), (26, v26), (27, v27), (28, v28)] a → Q .normal a ((W.drewN k).setCell ⟨v.p, i, none⟩ (.int .i64 (gi q i - y)))) :
    Code.wpIn Fence.wide mm Tryz.prog (Tryz.f33.sub [1, 1, 1, 1, 1, 0, 1, 0, 0, 1, 1, 0, 0, 1, 1]) Q ⟨#[u0, u1, u2, .pointer (some ⟨v.S, 0, none⟩), u4, u5, .map (some mb), .int .i64 i, .int .i64 c, u9, u10, u11, u12, u13, u14, u15, u16, u17, u18, u19, u20, u21, u22, u23, u24, u25, v26, v27, v28, u29, u30, u31, u32, u33, u34, u35, u36, u37, u38, u39, u40, u41, u42, u43, u44, u45, u46, u47, u48, u49, u50, u51, u52, u53, u54, u55, u56, u57, u58, u59, u60, u61, u62, u63], []⟩ W := by
  have s3 : W.cell? ⟨v.S, 3, none⟩ = some (.slice (some ⟨v.p, 0, none⟩) n n) := by simp [World.cell?, hS.blk]
  have pc := hS.tu.cell (j := i) (by rw [hS.lq]; exact hi)
  have pf := hS.tu.frozen i
  have hl : ∀ k, (Instr.lookup 102 (.map (some mb)) (.int .i64 c) false).run Tryz.prog (W.drewN k) = .ok (.int .i64 y) (W.drewN k) := fun k => by
    have := run_lookup_i (hM.drewN k) Tryz.underlying102 Tryz.underlying3 (zero_int _) c false
    rw [hy] at this; exact this
  have HQ := Lib.hid hQ; clear hQ
  clear hS hM hy
  obtain ⟨b11, b12⟩ := b1
  obtain ⟨b21, b22⟩ := b2
  conv => arg 4; whnf
  dsimp only
  refine regionIn_last (.inl rfl) (by kernel_rfl) (by kernel_rfl) (by kernel_rfl) cut_last (by kernel_rfl) (by kernel_rfl) (by kernel_rfl) ?_
  dsimp only [List.dropLast, List.getLast]
  repeat (go_big_quiet_step (fail))
  refine wpQuiet_nil ?_
  refine ⟨fun w => w.setCell ⟨v.p, i, none⟩ (.int .i64 (gi q i - y)), fun k => ?_, fun k => ?_⟩
  · clear hl
    unfold execOp
    go_simp
  exact HQ.out _ k (by (refine ⟨rfl, rfl, ?_⟩; repeat (first | exact trivial | refine ⟨rfl, ?_⟩)))
theorem SolM.setq {w : World} {v : Loc} {n : Nat} {es : List Ed} {x q : List Int} (h : SolM w v n es x q) {i : Nat} (hi : i < n) (y : Int) : SolM (w.setCell ⟨v.p, i, none⟩ (.int .i64 y)) v n es x (q.set i y) :=
  ⟨(Below.heap_setCell _ _ _ _ h.ne.2.1).trans h.blk, h.fl.other h.ne.1 _, h.tu.set (by rw [h.lq]; exact hi) y, h.lx, by rw [List.length_set]; exact h.lq, h.ne⟩
theorem SolM.move {w w' : World} {v : Loc} {n : Nat} {es : List Ed} {x q : List Int} (h : SolM w v n es x q) (h1 : w'.heap[v.S]? = w.heap[v.S]?) (h2 : w'.heap[v.x]? = w.heap[v.x]?) (h3 : w'.heap[v.p]? = w.heap[v.p]?) : SolM w' v n es x q :=
  ⟨h1.trans h.blk, h2.trans h.fl, h3.trans h.tu, h.lx, h.lq, h.ne⟩
theorem below_putObj {B b : Nat} {a w : World} (h : Below B a w) (hb : B ≤ b) (o : Obj) : Below B a (w.putObj b o) :=
  ⟨h.os, h.tape, h.output, by simpa [World.putObj] using h.size, fun c hc => (World.putObj_heap_other (by omega)).trans (h.block c hc)⟩
theorem first_round {mm n mb lb : Nat} {W0 : World} {v : Loc} {es : List Ed} {x p : List Int} {pt : List Nat} (hn : n ≤ 1000) (hp : p.length = n) (hpb : ∀ v, v < n → 0 ≤ gi p v ∧ gi p v ≤ 1000000000000) (lpt : pt.length = n) (hv : W0.heap.size ≤ v.p ∧ W0.heap.size ≤ mb) (hlb : lb ≠ v.p)
    {Q : Exit → Act → World → Prop} (hQ : ∀ a w q, (∀ v, v < n → ∃ u, u ≤ v ∧ gn pt u = gn pt v ∧ (∀ w, w < u → gn pt w ≠ gn pt v) ∧ gi q v = gi p v - gi p u) → SolM w v n es x q → Below W0.heap.size W0 w →
      FrD 64 [] [(3, .pointer (some ⟨v.S, 0, none⟩))] a → Q (.exit 2) a w)
    (a : Act) (w : World) (hI : LoopFirst W0 v n mb lb es x p pt a w) :
    Code.wpIn Fence.wide mm Tryz.prog (Tryz.f33.sub [1, 1, 1, 1, 1, 0, 1, 0, 0]) (Exit.then (fun a' w' => LoopFirst W0 v n mb lb es x p pt a' w' ∧ n - (intOf (a'.tmps.getD 28 undef)).toNat < n - (intOf (a.tmps.getD 28 undef)).toNat) Q) a w := by
  obtain ⟨i, q, m, hi, hF, hS, hMp, hbel, hL, hfr⟩ := hI
  obtain ⟨t, rfl⟩ := hfr.open
  clear hfr
  generalize hmu : n - (intOf ((⟨frL 64 _ t, []⟩ : Act).tmps.getD 28 undef)).toNat = mu
  have hmu' : n - i = mu := by rw [← hmu]; rfl
  clear hmu
  have HQ := Lib.hid hQ; clear hQ
  have HF := Lib.hid hF; clear hF
  have HS := Lib.hid hS; clear hS
  have HMp := Lib.hid hMp; clear hMp
  have HBel := Lib.hid hbel; clear hbel
  have HL := Lib.hid hL; clear hL
  have HPB := Lib.hid hpb; clear hpb
  have HLP := Lib.hid (And.intro hp lpt); clear hp lpt
  show Code.wpIn Fence.wide mm Tryz.prog (.seq (Tryz.f33.sub [1, 1, 1, 1, 1, 0, 1, 0, 0, 0]) (.seq (Tryz.f33.sub [1, 1, 1, 1, 1, 0, 1, 0, 0, 1, 0]) (.seq (.block 3 (.seq (Tryz.f33.sub [1, 1, 1, 1, 1, 0, 1, 0, 0, 1, 1, 0, 0, 0]) (.seq (Tryz.f33.sub [1, 1, 1, 1, 1, 0, 1, 0, 0, 1, 1, 0, 0, 1, 0]) (Tryz.f33.sub [1, 1, 1, 1, 1, 0, 1, 0, 0, 1, 1, 0, 0, 1, 1])))) (Tryz.f33.sub [1, 1, 1, 1, 1, 0, 1, 0, 0, 1, 1, 1])))) _
    ⟨#[(t 0), (t 1), (t 2), .pointer (some ⟨v.S, 0, none⟩), (t 4), (t 5), .map (some mb), (t 7), (t 8), (t 9), (t 10), (t 11), (t 12), (t 13), (t 14), (t 15), (t 16), (t 17), (t 18), (t 19), (t 20), (t 21), (t 22), (t 23), (t 24), (t 25), .slice (some ⟨lb, 0, none⟩) n n, .int .i64 n, .int .i64 i, (t 29), (t 30), (t 31), (t 32), (t 33), (t 34), (t 35), (t 36), (t 37), (t 38), (t 39), (t 40), (t 41), (t 42), (t 43), (t 44), (t 45), (t 46), (t 47), (t 48), (t 49), (t 50), (t 51), (t 52), (t 53), (t 54), (t 55), (t 56), (t 57), (t 58), (t 59), (t 60), (t 61), (t 62), (t 63)], []⟩ _
  refine wpIn_seq ?_
  conv => arg 4; whnf
  dsimp only
  by_cases hlt : i < n
  · have lc := HL.out.cell (j := i) (by rw [List.length_map, HLP.out.2]; exact hlt)
    rw [gi_ofNat] at lc
    have s3 : w.cell? ⟨v.S, 3, none⟩ = some (.slice (some ⟨v.p, 0, none⟩) n n) := by simp [World.cell?, HS.out.blk]
    have pc := HS.out.tu.cell (j := i) (by rw [HS.out.lq]; exact hlt)
    rw [HF.out.rest i hlt (Nat.le_refl _)] at pc
    have pf := HS.out.tu.frozen i
    obtain ⟨pi1, pi2⟩ := HPB.out i hlt
    have FIN : ∀ (a : Act) (w3 : World) (q3 : List Int) (m3 : Int → Option Value), FirstM n pt p q3 (i + 1) m3 → SolM w3 v n es x q3 → MapI w3 mb m3 → Below W0.heap.size W0 w3 → IntB w3 lb (pt.map Int.ofNat) →
        FrD 64 [] [(3, .pointer (some ⟨v.S, 0, none⟩)), (6, .map (some mb)), (26, .slice (some ⟨lb, 0, none⟩) n n), (27, .int .i64 n), (28, .int .i64 i)] a →
        Code.wpIn Fence.wide mm Tryz.prog (Tryz.f33.sub [1, 1, 1, 1, 1, 0, 1, 0, 0, 1, 1, 1]) (Exit.then (fun a' w' => LoopFirst W0 v n mb lb es x p pt a' w' ∧ n - (intOf (a'.tmps.getD 28 undef)).toNat < mu) Q) a w3 := by
      intro a w3 q3 m3 k1 k2 k3 k4 k5 k6
      obtain ⟨t5, rfl⟩ := k6.open
      have K := Lib.hid (And.intro k1 (And.intro k2 (And.intro k3 (And.intro k4 k5))))
      clear k1 k2 k3 k4 k5 k6
      show Code.wpIn Fence.wide mm Tryz.prog _ _ ⟨#[(t5 0), (t5 1), (t5 2), .pointer (some ⟨v.S, 0, none⟩), (t5 4), (t5 5), .map (some mb), (t5 7), (t5 8), (t5 9), (t5 10), (t5 11), (t5 12), (t5 13), (t5 14), (t5 15), (t5 16), (t5 17), (t5 18), (t5 19), (t5 20), (t5 21), (t5 22), (t5 23), (t5 24), (t5 25), .slice (some ⟨lb, 0, none⟩) n n, .int .i64 n, .int .i64 i, (t5 29), (t5 30), (t5 31), (t5 32), (t5 33), (t5 34), (t5 35), (t5 36), (t5 37), (t5 38), (t5 39), (t5 40), (t5 41), (t5 42), (t5 43), (t5 44), (t5 45), (t5 46), (t5 47), (t5 48), (t5 49), (t5 50), (t5 51), (t5 52), (t5 53), (t5 54), (t5 55), (t5 56), (t5 57), (t5 58), (t5 59), (t5 60), (t5 61), (t5 62), (t5 63)], []⟩ _
      conv => arg 4; whnf
      dsimp only
      gi_wp2_with fail
      obtain ⟨k1, k2, k3, k4, k5⟩ := K.out
      refine ⟨⟨i + 1, q3, m3, by omega, k1, k2, k3, k4, k5, by (refine ⟨rfl, rfl, ?_⟩; repeat (first | exact trivial | refine ⟨rfl, ?_⟩))⟩, ?_⟩
      show n - ((i : Int) + 1).toNat < mu
      omega
    have HFIN := Lib.hid FIN; clear FIN
    have hMn : v.p ≠ mb := HMp.out.ne (show w.heap[v.p]? = _ from HS.out.tu)
    have hLn : lb ≠ mb := HMp.out.ne (show w.heap[lb]? = _ from HL.out)
    have hS2 : ∀ o, SolM (w.putObj mb o) v n es x q := fun o => HS.out.move (World.putObj_heap_other (HMp.out.ne HS.out.blk)) (World.putObj_heap_other (HMp.out.ne (show w.heap[v.x]? = _ from HS.out.fl))) (World.putObj_heap_other hMn)
    have HS2 := Lib.hid hS2; clear hS2
    rcases HF.out.cases with ⟨hno, hnw⟩ | ⟨u, hu, hue, huf, hum⟩
    · have hl := run_lookup_i HMp.out Tryz.underlying102 Tryz.underlying3 (zero_int w) (gn pt i) true
      rw [hno] at hl
      simp only [if_true, Option.getD_none, Option.isSome_none] at hl
      obtain ⟨o, hup, hM2⟩ := run_update_i HMp.out Tryz.underlying102 Tryz.underlying3 (gn pt i) (.int .i64 (gi p i))
      have HM2 := Lib.hid hM2
      have HNW := Lib.hid hnw
      clear hno hnw hM2
      gi_wp2_with fail
      conv => arg 4; whnf
      gi_wp2_with fail
      conv => arg 4; whnf
      gi_wp2_with fail
      conv => arg 4; whnf
      gi_wp2_with fail
      rename_i K4 hK4
      refine first_sub (v26 := .slice (some ⟨lb, 0, none⟩) n n) (v27 := .int .i64 n) (v28 := .int .i64 i) (HS2.out o) HM2.out hn hlt (y := gi p i) (if_pos rfl) (by rw [HF.out.rest i hlt (Nat.le_refl _)]; omega) ⟨pi1, pi2⟩ ?_
      intro a3 k3 hfr3
      refine hK4 _ _ ?_
      refine HFIN.out _ _ _ (fun a => if a = ((gn pt i : Nat) : Int) then some (.int .i64 (gi p i)) else m a) ?_ (((HS2.out o).move (w' := (w.putObj mb o).drewN k3) rfl rfl rfl).setq hlt _) ?_ ?_ ?_ hfr3
      · rw [HF.out.rest i hlt (Nat.le_refl _), Int.sub_self]
        exact HF.out.new hlt HS.out.lq HNW.out
      · exact (HM2.out.drewN k3).move (Below.heap_setCell _ _ _ _ hMn.symm)
      · exact (below_drewN (below_putObj HBel.out hv.2 o) k3).setCell hv.1 _
      · exact IntB.other (w := (w.putObj mb o).drewN k3) ((World.putObj_heap_other hLn).trans HL.out) hlb _
    · have hl := run_lookup_i HMp.out Tryz.underlying102 Tryz.underlying3 (zero_int w) (gn pt i) true
      rw [hum] at hl
      simp only [if_true, Option.getD_some, Option.isSome_some] at hl
      have HUM := Lib.hid (And.intro hum (And.intro hue huf))
      clear hum hue huf
      gi_wp2_with fail
      conv => arg 4; whnf
      gi_wp2_with fail
      conv => arg 4; whnf
      gi_wp2_with fail
      conv => arg 4; whnf
      gi_wp2_with fail
      rename_i K4 hK4
      have hun : u < n := by omega
      refine first_sub (v26 := .slice (some ⟨lb, 0, none⟩) n n) (v27 := .int .i64 n) (v28 := .int .i64 i) HS.out HMp.out hn hlt HUM.out.1 (by rw [HF.out.rest i hlt (Nat.le_refl _)]; omega) (HPB.out u hun) ?_
      intro a3 k3 hfr3
      refine hK4 _ _ ?_
      refine HFIN.out _ _ _ m ?_ ((HS.out.move (w' := w.drewN k3) rfl rfl rfl).setq hlt _) ?_ ?_ ?_ hfr3
      · rw [HF.out.rest i hlt (Nat.le_refl _)]
        exact HF.out.old hlt HS.out.lq hu HUM.out.2.1 HUM.out.2.2
      · exact (HMp.out.drewN k3).move (Below.heap_setCell _ _ _ _ hMn.symm)
      · exact (below_drewN HBel.out k3).setCell hv.1 _
      · exact IntB.other (w := w.drewN k3) HL.out hlb _
  · gi_wp2_with fail
    conv => arg 4; whnf
    gi_wp2_with fail
    have : i = n := by omega
    subst this
    exact HQ.out _ _ q HF.out.done HS.out HBel.out (by (refine ⟨rfl, rfl, ?_⟩; repeat (first | exact trivial | refine ⟨rfl, ?_⟩)))
def SolvePost (n J : Nat) (es : List Ed) (W : World) (e : Ending) (w' : World) : Prop :=
  ∃ (v : Loc) (x q : List Int), e = .returned (.pointer (some ⟨v.S, 0, none⟩)) ∧ Below W.heap.size W w' ∧ W.heap.size ≤ v.S ∧ W.heap.size ≤ v.x ∧ W.heap.size ≤ v.p ∧ SolM w' v n es x q ∧ Solved n J es q x (cost es q)
theorem solve_c {n J : Nat} {es : List Ed} (hg : Gd n J es) (hn1 : 0 ≤ n) {W : World} {A : Option Addr} {ca : Nat} (hE : RdE W A es) :
    Calls Tryz.prog 33 #[.agg #[.int .i64 n, .slice A es.length ca]] W (SolvePost n J es W) := by
  refine callsIn_wide.1 (callsIn_of_wp_marks (n := 0) Tryz.func33 rfl trivial ?_ rfl)
  simp only [Tryz.ntmps33, List.size_toArray, List.length_cons, List.length_nil, Nat.reduceAdd, Nat.reduceSub, Array.replicate_succ, Array.replicate_zero, List.push_toArray, List.append_toArray, List.nil_append, List.cons_append]
  have hn := hg.n_le
  have hm := hg.m_le
  have HG := Lib.hid hg; clear hg
  have HE := Lib.hid hE; clear hE
  show Code.wpIn Fence.wide 0 Tryz.prog (.seq (Tryz.f33.sub [0]) (.seq (Tryz.f33.sub [1, 0]) (.seq (.block 0 (.loop (.block 1 (Tryz.f33.sub [1, 1, 0, 0, 0, 0])))) (.seq (Tryz.f33.sub [1, 1, 1, 0]) (.seq (Tryz.f33.sub [1, 1, 1, 1, 0]) (.seq (.seq (Tryz.f33.sub [1, 1, 1, 1, 1, 0, 0]) (.block 2 (.loop (Tryz.f33.sub [1, 1, 1, 1, 1, 0, 1, 0, 0])))) (.seq (Tryz.f33.sub [1, 1, 1, 1, 1, 1, 0]) .ret))))))) _ _ _
  refine wpIn_seq ?_
  conv => arg 4; whnf
  gi_wp2_with fail
  refine nameW ?_
  intro W1 hW1
  have hb1 : Below W.heap.size W W1 := by rw [hW1]; exact (Below.refl _ _).alloc (Nat.le_refl _) _
  have hz1 : W1.heap.size = W.heap.size + 1 := by rw [hW1]; simp
  have hxb : W1.heap[W.heap.size]? = some (.cells #[.int .i64 n, .slice A es.length ca] 71 (0, 0)) := by rw [hW1]; exact World.alloc_heap_new W _
  clear hW1
  have x0' : W1.cell? ⟨W.heap.size, 0, none⟩ = some (.int .i64 n) := block_cell hxb (j := 0) (by simp)
  have x1' : W1.cell? ⟨W.heap.size, 1, none⟩ = some (.slice A es.length ca) := block_cell hxb (j := 1) (by simp)
  have HB1 := Lib.hid hb1; clear hb1
  have HX := Lib.hid hxb; clear hxb
  have HN := Lib.hid (new_c (ca := ca) HG.out (HE.out.keep HB1.out))
  conv => arg 4; whnf
  gi_wp2_with fail
  refine ⟨trivial, rfl, (callsIn_wide.2 HN.out).mono ?_⟩
  rintro e W2 ⟨v, x, p, ex, D, rfl, k1, k2, k3, k4, k5, k6, k7, k8, k9⟩
  have hbel2 : Below W.heap.size W W2 := HB1.out.trans (k1.mono (by omega))
  have hxb2 := (k1.block _ (by omega)).trans HX.out
  have K := Lib.hid (And.intro k2 (And.intro k3 (And.intro hbel2 hxb2)))
  have H4 := Lib.hid (And.intro k4 k5)
  clear k1 k2 k3 k4 k5 hbel2 hxb2 x0' x1'
  gi_wp2_with fail
  rename_i K5 hK5
  have hb2 := hbelle K.out.2.2.1
  have hX2 : W2.heap[W.heap.size]? = some (.cells #[.int .i64 n, .slice v.A es.length ca] 71 (0, 0)) := by rw [H4.out.1]; exact K.out.2.2.2
  refine wpIn_loop_ghost (LoopSolve W v n J W.heap.size ca es) _ ⟨x, p, ex, D, K.out.1, K.out.2.1, rfl, K.out.2.2.1, hX2, by (refine ⟨rfl, rfl, ?_⟩; repeat (first | exact trivial | refine ⟨rfl, ?_⟩))⟩ ?_
  clear hX2
  intro m a3 w3 hI3
  refine wpIn_block ?_
  refine wpIn_mono (solve_round (Q := fun e a w => e = .exit 0 ∧ K5 a w) HG.out ⟨by omega, by omega, by omega⟩ ?_ m a3 w3 hI3) ?_
  rotate_left
  · intro e a w h
    cases e with
    | normal => exact h
    | exit k => obtain ⟨h1, h2⟩ := h; cases h1; exact h2
    | _ => exact (by obtain ⟨h, _⟩ := h; cases h)
  clear hI3 a3 w3 m
  intro a3 w3 x p ex D hS3 hI3 hno hbel3 hX3 hfr3
  refine ⟨rfl, hK5 _ _ ?_⟩
  obtain ⟨t3, rfl⟩ := hfr3.open
  clear hfr3
  have x0 : w3.cell? ⟨W.heap.size, 0, none⟩ = some (.int .i64 n) := block_cell hX3 (j := 0) (by simp)
  have x1 : w3.cell? ⟨W.heap.size, 1, none⟩ = some (.slice v.A es.length ca) := block_cell hX3 (j := 1) (by simp)
  have HPA := Lib.hid (parts_c (ca := ca) HG.out hn1 (A := v.A) (by rw [H4.out.1]; exact HE.out.keep hbel3))
  have hz3 := hbel3.size
  have H3 := Lib.hid (And.intro hS3 (And.intro hI3 (And.intro hno hbel3)))
  clear hS3 hI3 hno hbel3 hX3
  show Code.wpIn Fence.wide 0 Tryz.prog (.seq (Tryz.f33.sub [1, 1, 1, 0]) (.seq (Tryz.f33.sub [1, 1, 1, 1, 0]) (.seq (.seq (Tryz.f33.sub [1, 1, 1, 1, 1, 0, 0]) (.block 2 (.loop (Tryz.f33.sub [1, 1, 1, 1, 1, 0, 1, 0, 0])))) (.seq (Tryz.f33.sub [1, 1, 1, 1, 1, 1, 0]) .ret)))) _
    ⟨#[(t3 0), .pointer (some ⟨W.heap.size, 0, none⟩), (t3 2), .pointer (some ⟨v.S, 0, none⟩), (t3 4), (t3 5), (t3 6), (t3 7), (t3 8), (t3 9), (t3 10), (t3 11), (t3 12), (t3 13), (t3 14), (t3 15), (t3 16), (t3 17), (t3 18), (t3 19), (t3 20), (t3 21), (t3 22), (t3 23), (t3 24), (t3 25), (t3 26), (t3 27), (t3 28), (t3 29), (t3 30), (t3 31), (t3 32), (t3 33), (t3 34), (t3 35), (t3 36), (t3 37), (t3 38), (t3 39), (t3 40), (t3 41), (t3 42), (t3 43), (t3 44), (t3 45), (t3 46), (t3 47), (t3 48), (t3 49), (t3 50), (t3 51), (t3 52), (t3 53), (t3 54), (t3 55), (t3 56), (t3 57), (t3 58), (t3 59), (t3 60), (t3 61), (t3 62), (t3 63)], []⟩ _
  refine wpIn_seq ?_
  conv => arg 4; whnf
  dsimp only
  gi_wp2_with fail
  refine ⟨trivial, rfl, (callsIn_wide.2 HPA.out).mono ?_⟩
  rintro e w4 ⟨lb, pt, rfl, k1, k2, k3, k4⟩
  have HP := Lib.hid (And.intro k1 (And.intro k3 k4))
  clear k1 k3 k4 x0 x1
  have hmm := @run_makeMap Tryz.prog
  gi_wp2_with fail
  conv => arg 4; whnf
  gi_wp2_with fail
  conv => arg 4; whnf
  gi_wp2_with fail
  rename_i K6 hK6
  obtain ⟨hS3, hI3, hno, hbel3⟩ := H3.out
  obtain ⟨q1, q2, q3⟩ := HP.out
  have hz4 := q1.size
  have hb5 : Below w3.heap.size w3 (w4.alloc (.map #[] 0)) := q1.alloc (by omega) _
  have hS5 := hS3.keep hb5
  have xlt := hS3.fl.lt
  have plt := hS3.tu.lt
  have hM : SolM (w4.alloc (.map #[] 0)) v n es x p := ⟨hS5.blk, hS5.fl, hS5.tu, hI3.lenx, hI3.lenp, ⟨hS5.xp, hS5.okS.2.1, hS5.okS.1⟩⟩
  refine wpIn_loop (LoopFirst W v n w4.heap.size lb es x p pt) (fun a _ => n - (intOf (a.tmps.getD 28 undef)).toNat) ⟨0, p, _, Nat.zero_le _, FirstM.start n pt p, hM, MapI.made w4, hbel3.trans (hb5.mono hz3), q2.keep ((Below.refl _ _).alloc (Nat.le_refl _) _), by (refine ⟨rfl, rfl, ?_⟩; repeat (first | exact trivial | refine ⟨rfl, ?_⟩))⟩
    (first_round (by omega) hI3.lenp (fun u hu => by have := hI3.p_le HG.out u hu; omega) q3.len ⟨by omega, by omega⟩ (by omega) ?_)
  intro a6 w6 q hq hM6 hbel6 hfr6
  refine hK6 _ _ ?_
  obtain ⟨t6, rfl⟩ := hfr6.open
  have hso := solved HG.out hI3 hno q3 hM6.lq hq
  have H6 := Lib.hid (And.intro hso (And.intro hM6 hbel6))
  clear hso hM6 hbel6 hfr6 hM hS5 hb5 hq
  show Code.wpIn Fence.wide 0 Tryz.prog (.seq (Tryz.f33.sub [1, 1, 1, 1, 1, 1, 0]) .ret) _ ⟨#[(t6 0), (t6 1), (t6 2), .pointer (some ⟨v.S, 0, none⟩), (t6 4), (t6 5), (t6 6), (t6 7), (t6 8), (t6 9), (t6 10), (t6 11), (t6 12), (t6 13), (t6 14), (t6 15), (t6 16), (t6 17), (t6 18), (t6 19), (t6 20), (t6 21), (t6 22), (t6 23), (t6 24), (t6 25), (t6 26), (t6 27), (t6 28), (t6 29), (t6 30), (t6 31), (t6 32), (t6 33), (t6 34), (t6 35), (t6 36), (t6 37), (t6 38), (t6 39), (t6 40), (t6 41), (t6 42), (t6 43), (t6 44), (t6 45), (t6 46), (t6 47), (t6 48), (t6 49), (t6 50), (t6 51), (t6 52), (t6 53), (t6 54), (t6 55), (t6 56), (t6 57), (t6 58), (t6 59), (t6 60), (t6 61), (t6 62), (t6 63)], []⟩ _
  refine wpIn_seq ?_
  conv => arg 4; whnf
  dsimp only
  gi_wp2_with fail
  obtain ⟨hso, hM6, hbel6⟩ := H6.out
  show LeavesInM Fence.wide 0 Tryz.prog _ _ _ [] .returning w6
  exact ⟨.pointer (some ⟨v.S, 0, none⟩), results_tmp Tryz.results33 _ _ _, v, x, q, rfl, hbel6, by omega, by omega, by omega, hM6, hso⟩
end Go.Proofs.YtjnpchoinncbnaaGreat
end
