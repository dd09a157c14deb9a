/- Proves parts of the statement, each under the conditions that its theorem states: Plain facts on the solver: how it begins, what it comes to, and the turns with 0 at the first node of each part; Laws on a statement that leaves its order open: an invariant that speaks of the operations that have come up; and operations each of which has one value, whatever came before, over a family of worlds; Words on memory: blocks of numbers, and slices that read as a list; Steps of a walk through a statement that leaves its order open. -/
import Derived.Test.YtjnpchoinncbnaaGreatP01
import Derived.Orders
import Derived.OrdersIn
import Derived.Deep.Draws
import Derived.Below
import Derived.Test.YtjnpchoinncbnaaGreatProg
import Derived.WalkKit
import Derived.BigQuiet
import Derived.KernelRfl
import Derived.Lib.Hide
import Derived.Deep.OwnRows
set_option linter.unusedSimpArgs false
set_option linter.unusedVariables false
set_option maxHeartbeats 4000000
set_option maxRecDepth 100000
section
namespace Sw
def x0 (e : Ed) : Int := if 0 < e.j then e.k else if e.j < 0 then -e.k else 0
def flow0 (es : List Ed) : List Int := es.map x0
theorem gi_flow0 {es : List Ed} {i : Nat} (h : i < es.length) : gi (flow0 es) i = x0 (ge es i) := by
  unfold gi ge flow0; simp [List.getD_eq_getElem?_getD, h]
theorem x0_abs (e : Ed) : -(e.k : Int) ≤ x0 e ∧ x0 e ≤ e.k := by
  unfold x0; split
  · omega
  · split <;> omega
theorem pos_net_le (m n : Nat) (t f : Nat → Nat) (x : Nat → Int) (c : Int) (h : ∀ i, i < m → t i < n ∧ f i < n) (hx : ∀ i, i < m → -c ≤ x i ∧ x i ≤ c) :
    sm n (fun v => max (sm m (fun i => (if t i = v then x i else 0) - (if f i = v then x i else 0))) 0) ≤ m * (2 * c) := by
  induction m with
  | zero => rw [sm_zero (fun _ _ => by simp [sm])]; simp
  | succ m ih =>
    have h1 := ih (fun i hi => h i (by omega)) (fun i hi => hx i (by omega))
    obtain ⟨ht, hf⟩ := h m (by omega)
    obtain ⟨hx1, hx2⟩ := hx m (by omega)
    have h2 : sm n (fun v => max (sm (m+1) (fun i => (if t i = v then x i else 0) - (if f i = v then x i else 0))) 0) ≤
        sm n (fun v => max (sm m (fun i => (if t i = v then x i else 0) - (if f i = v then x i else 0))) 0 + ((if t m = v then c else 0) + (if f m = v then c else 0))) := sm_le fun v _ => by
      show max (_ + ((if t m = v then x m else 0) - (if f m = v then x m else 0))) 0 ≤ _
      by_cases a : t m = v <;> by_cases b : f m = v <;> simp only [a, b, if_true, if_false] <;> omega
    rw [sm_add, sm_add, sm_one _ ht, sm_one _ hf] at h2
    have : ((m + 1 : Nat) : Int) * (2 * c) = m * (2 * c) + 2 * c := by grind
    omega
theorem Inv.start {n J : Nat} {es : List Ed} (hg : Gd n J es) {ex : List Int} (le : ex.length = n) (hex : ∀ v, v < n → gi ex v = net es (flow0 es) v) :
    Inv n J es (flow0 es) (List.replicate n 0) ex 0 := by
  have hp : ∀ v, gi (List.replicate n 0) v = 0 := gi_replicate n
  refine ⟨by simp [flow0], by simp, le, fun i hi => ?_, hex, fun v _ => by rw [hp]; omega, fun v _ _ => hp v, fun v _ => by rw [hp]; omega, Int.le_refl _, ?_⟩
  · rw [gi_flow0 hi]
    refine ⟨x0_abs _, ?_, ?_⟩
    · intro h
      unfold exc; rw [hp, hp]; unfold x0 at h
      split at h
      · omega
      · split at h <;> omega
    · intro h
      unfold exc; rw [hp, hp]; unfold x0 at h
      split at h
      · omega
      · split at h <;> omega
  · rw [Int.zero_add]
    refine Int.mul_le_mul_of_nonneg_right ?_ (Int.natCast_nonneg _)
    have h1 := pos_net_le es.length n (fun i => (ge es i).t) (fun i => (ge es i).f) (fun i => gi (flow0 es) i) 1000 (fun i hi => ⟨(hg.ends i hi).2.1, (hg.ends i hi).1⟩) (fun i hi => by
      show -1000 ≤ gi (flow0 es) i ∧ gi (flow0 es) i ≤ 1000
      rw [gi_flow0 hi]; have := x0_abs (ge es i); have := hg.wt i hi; omega)
    have h2 : pos n ex = sm n (fun v => max (net es (flow0 es) v) 0) := sm_congr fun v hv => by
      show max (gi ex v) 0 = _
      rw [hex v hv]
    rw [h2]
    have := hg.m_le
    unfold net
    omega
theorem Inv.done {n J : Nat} {es : List Ed} (hg : Gd n J es) {x p ex : List Int} {D : Int} (h : Inv n J es x p ex D) (hno : ∀ v, v < n → gi ex v ≤ 0) : Right n es x := by
  refine ⟨h.lenx, fun i hi => (h.fits i hi).1, fun v hv => ?_⟩
  have hx := exch_net n es x (fun _ => 1) hg.ends
  rw [sm_zero (fun i _ => by simp)] at hx
  have h1 : sm n (fun v => 1 * net es x v) = -sm n (fun v => - net es x v) := by
    have := sm_mul n (-1) (fun v => net es x v)
    have e : (fun v => -1 * net es x v) = fun v => - net es x v := by funext v; omega
    rw [e] at this
    have e2 : (fun v => 1 * net es x v) = fun v => net es x v := by funext v; omega
    rw [e2, this]; omega
  have h2 := sm_ge_one (n := n) (f := fun v => - net es x v) (fun i hi => by
    show 0 ≤ - net es x i
    rw [← h.exq i hi]; have := hno i hi; omega) v hv
  have h3 := hno v hv
  rw [h.exq v hv] at h3
  have h4 : (fun v => - net es x v) v = - net es x v := rfl
  omega
inductive Cn (es : List Ed) : Nat → Nat → Prop
  | refl (a : Nat) : Cn es a a
  | fw {a : Nat} (i : Nat) (hi : i < es.length) (hk : 0 < (ge es i).k) (h : Cn es a (ge es i).f) : Cn es a (ge es i).t
  | bw {a : Nat} (i : Nat) (hi : i < es.length) (hk : 0 < (ge es i).k) (h : Cn es a (ge es i).t) : Cn es a (ge es i).f
theorem Cn.trans {es : List Ed} {a b c : Nat} (h : Cn es a b) (k : Cn es b c) : Cn es a c := by
  induction k with
  | refl => exact h
  | fw i hi hk _ ih => exact .fw i hi hk ih
  | bw i hi hk _ ih => exact .bw i hi hk ih
theorem Cn.symm {es : List Ed} {a b : Nat} (h : Cn es a b) : Cn es b a := by
  induction h with
  | refl => exact .refl _
  | fw i hi hk _ ih => exact (Cn.bw i hi hk (.refl _)).trans ih
  | bw i hi hk _ ih => exact (Cn.fw i hi hk (.refl _)).trans ih
structure Labels (n : Nat) (es : List Ed) (pt : List Nat) : Prop where
  len : pt.length = n
  edge : ∀ i, i < es.length → 0 < (ge es i).k → gn pt (ge es i).f = gn pt (ge es i).t
  sound : ∀ a b, a < n → b < n → gn pt a = gn pt b → Cn es a b
structure Solved (n J : Nat) (es : List Ed) (q x : List Int) (c : Int) : Prop where
  lenq : q.length = n
  right : Right n es x
  value : value es x = c
  cost : cost es q = c
  bound : ∀ v, v < n → -(2 * (n * J : Nat) : Int) ≤ gi q v ∧ gi q v ≤ 2 * (n * J : Nat)
  first : ∀ v, v < n → (∀ u, u < v → ¬ Cn es u v) → gi q v = 0
theorem exists_first {P : Nat → Prop} (v : Nat) (h : P v) : ∃ u, u ≤ v ∧ P u ∧ ∀ w, w < u → ¬ P w := by
  induction v using Nat.strongRecOn with
  | _ v ih =>
    by_cases hh : ∃ w, w < v ∧ P w
    · obtain ⟨w, hw, hp⟩ := hh
      obtain ⟨u, h1, h2, h3⟩ := ih w hw hp
      exact ⟨u, by omega, h2, h3⟩
    · exact ⟨v, Nat.le_refl _, h, fun w hw hp => hh ⟨w, hw, hp⟩⟩
theorem solved {n J : Nat} {es : List Ed} (hg : Gd n J es) {x p ex : List Int} {D : Int} (h : Inv n J es x p ex D) (hno : ∀ v, v < n → gi ex v ≤ 0)
    {pt : List Nat} (hl : Labels n es pt) {q : List Int} (lq : q.length = n)
    (hq : ∀ v, v < n → ∃ u, u ≤ v ∧ gn pt u = gn pt v ∧ (∀ w, w < u → gn pt w ≠ gn pt v) ∧ gi q v = gi p v - gi p u) :
    Solved n J es q x (cost es q) := by
  have hr := h.done hg hno
  have hc : cost es q = cost es p := by
    unfold cost
    refine sm_congr fun i hi => ?_
    by_cases hk : 0 < (ge es i).k
    · obtain ⟨e1, e2, _⟩ := hg.ends i hi
      obtain ⟨u, u1, u2, u3, u4⟩ := hq _ e1
      obtain ⟨w, w1, w2, w3, w4⟩ := hq _ e2
      have he := hl.edge i hi hk
      have huw : u = w := by
        rcases Nat.lt_trichotomy u w with hlt | heq | hgt
        · exact absurd (u2.trans he) (w3 u hlt)
        · exact heq
        · exact absurd (w2.trans he.symm) (u3 w hgt)
      subst huw
      have : exc (ge es i) q = exc (ge es i) p := by unfold exc; omega
      rw [this]
    · have : (ge es i).k = 0 := by omega
      rw [this]; simp
  refine ⟨lq, hr, ?_, rfl, fun v hv => ?_, fun v hv hfirst => ?_⟩
  · rw [hc]; exact strong n es x p hg.ends hr.bal h.fits
  · obtain ⟨u, u1, u2, u3, u4⟩ := hq v hv
    have a1 := h.lo v hv
    have a2 := h.lo u (by omega)
    have a3 := h.spread v hv
    have a4 := h.spread u (by omega)
    omega
  · obtain ⟨u, u1, u2, u3, u4⟩ := hq v hv
    by_cases e : u = v
    · subst e; omega
    · exact absurd (hl.sound u v (by omega) hv u2) (hfirst u (by omega))
end Sw
end
section
namespace Go
namespace Fam
open Go.RowKit
def lst (l : Array Bool) (i : Nat) : Bool := l.getD i false
def upd (L : Nat → Bool) (i : Nat) : Nat → Bool := fun j => bif Nat.beq j i then true else L j
theorem upd_same (L : Nat → Bool) (i : Nat) : upd L i i = true := by simp [upd]
theorem upd_ne (L : Nat → Bool) {i j : Nat} (h : j ≠ i) : upd L i j = L j := by
  have : Nat.beq j i = false := by
    cases hh : Nat.beq j i with
    | false => rfl
    | true => exact absurd (Nat.eq_of_beq_eq_true hh) h
  simp [upd, this]
def Waits (o : Oper) (L : Nat → Bool) : Prop := ∀ e ∈ o.after, Region.binds .any e = true → L e.on = true
def Cl (ops : Array Oper) (L : Nat → Bool) : Prop := ∀ (j : Nat) (o : Oper), ops[j]? = some o → L j = true → Waits o L
def early (ops : Array Oper) : Bool := (List.range ops.size).all fun i => ((ops[i]?).map fun o => o.after.all fun e => !Region.binds .any e || decide (e.on < i)).getD true
theorem early_spec {ops : Array Oper} (h : early ops = true) {i : Nat} {o : Oper} (ho : ops[i]? = some o) {e : Edge} (he : e ∈ o.after) (hb : Region.binds .any e = true) : e.on < i := by
  have hi : i < ops.size := (Array.getElem?_eq_some_iff.1 ho).1
  unfold early at h
  rw [List.all_eq_true] at h
  have h1 := h i (List.mem_range.2 hi)
  rw [ho] at h1
  simp only [Option.map_some, Option.getD_some, Array.all_eq_true_iff_forall_mem, Bool.or_eq_true] at h1
  rcases h1 e he with h2 | h2
  · rw [hb] at h2; cases h2
  · simpa using h2
theorem lst_set (l : Array Bool) (i : Nat) (hi : i < l.size) : lst (l.setIfInBounds i true) = upd (lst l) i := by
  funext j
  unfold lst
  by_cases h : j = i
  · subst h; rw [upd_same]; simp [hi]
  · rw [upd_ne _ h]; simp [Array.getElem?_setIfInBounds_ne (Ne.symm h)]
def open_ (l : Array Bool) : Nat := l.toList.countP (· == false)
theorem open_set (l : Array Bool) (i : Nat) (hi : i < l.size) (h : lst l i = false) : open_ (l.setIfInBounds i true) + 1 = open_ l := by
  unfold open_
  have h1 : (l.setIfInBounds i true).toList = l.toList.set i true := by simp
  rw [h1]
  have h2 : l.toList[i]? = some false := by
    have : l[i]? = some false := by
      unfold lst at h
      rw [Array.getElem?_eq_getElem hi]
      simp [hi] at h
      rw [h]
    simpa using this
  generalize l.toList = xs at *
  clear h h1 hi l
  induction xs generalizing i with
  | nil => simp at h2
  | cons b xs ih =>
    cases i with
    | zero => simp at h2; subst h2; simp
    | succ i =>
      have := ih i (by simpa using h2)
      simp only [List.set_cons_succ, List.countP_cons]
      omega
theorem open_zero {l : Array Bool} (h : open_ l = 0) {i : Nat} (hi : i < l.size) : lst l i = true := by
  unfold open_ at h
  rw [List.countP_eq_zero] at h
  have := h l[i] (by simp)
  unfold lst
  simp [hi]
  simpa using this
variable {P : Program} {ops : Array Oper} {Q : Exit → Act → World → Prop}
def Keeps (P : Program) (ops : Array Oper) (Q : Exit → Act → World → Prop) (I : (Nat → Bool) → Act → World → Prop) : Prop :=
  ∀ (L : Nat → Bool) (i : Nat) (o : Oper), ops[i]? = some o → L i = false → Waits o L → Cl ops L → ∀ a w, I L a w → wpOp P ops Q i (I (upd L i)) a w
theorem all_done (hE : early ops = true) {l : Array Bool} (hs : l.size = ops.size) (hr : Region.ready .any ops l = []) : ∀ i, i < ops.size → lst l i = true := by
  intro i
  induction i using Nat.strongRecOn with
  | _ i ih =>
    intro hi
    apply Classical.byContradiction
    intro hne
    have hf : lst l i = false := by simpa using hne
    have ho : ops[i]? = some ops[i] := Array.getElem?_eq_getElem hi
    have : i ∈ Region.ready .any ops l := mem_ready.2 ⟨by
      unfold lst at hf
      have hi' : i < l.size := by omega
      simp [hi'] at hf ⊢
      exact hf, ops[i], ho, fun e he hb => by
      have hlt := early_spec hE ho he hb
      exact ih e.on hlt (by omega)⟩
    rw [hr] at this
    cases this
theorem any_of_inv (hE : early ops = true) {I : (Nat → Bool) → Act → World → Prop} (hK : Keeps P ops Q I) (hend : ∀ L a w, (∀ i, i < ops.size → L i = true) → I L a w → Q .normal a w) :
    ∀ (fuel : Nat) (l : Array Bool) (a : Act) (w : World), l.size = ops.size → Cl ops (lst l) → open_ l ≤ fuel → I (lst l) a w → wpAny P .any ops Q fuel l a w := by
  intro fuel
  induction fuel with
  | zero =>
    intro l a w hs hc ho hI
    have hall : ∀ i, i < ops.size → lst l i = true := fun i hi => open_zero (by omega) (by omega)
    refine ⟨?_, hend _ _ _ hall hI⟩
    apply List.eq_nil_iff_forall_not_mem.2
    intro i hi
    obtain ⟨h1, o, h2, _⟩ := mem_ready.1 hi
    have hlt := (Array.getElem?_eq_some_iff.1 h2).1
    have := hall i hlt
    unfold lst at this
    simp [show i < l.size by omega] at h1 this
    rw [h1] at this; cases this
  | succ fuel ih =>
    intro l a w hs hc ho hI
    refine ⟨fun hr => hend _ _ _ (all_done hE hs hr) hI, fun i hi => ?_⟩
    obtain ⟨h1, o, h2, h3⟩ := mem_ready.1 hi
    have hlt := (Array.getElem?_eq_some_iff.1 h2).1
    have hf : lst l i = false := by
      unfold lst
      simp [show i < l.size by omega] at h1 ⊢
      exact h1
    have hw : Waits o (lst l) := h3
    refine wpOp_mono (fun a' w' hI' => ?_) (hK (lst l) i o h2 hf hw hc a w hI)
    rw [← lst_set l i (by omega)] at hI'
    refine ih _ _ _ (by simpa using hs) ?_ (by have := open_set l i (by omega) hf; omega) hI'
    rw [lst_set l i (by omega)]
    intro j oj hj hL e he hb
    by_cases hji : j = i
    · subst hji
      rw [h2] at hj; cases hj
      have := hw e he hb
      by_cases hx : e.on = j
      · rw [hx, upd_same]
      · rw [upd_ne _ hx]; exact this
    · rw [upd_ne _ hji] at hL
      have := hc j oj hj hL e he hb
      by_cases hx : e.on = i
      · rw [hx, upd_same]
      · rw [upd_ne _ hx]; exact this
theorem open_rep (n : Nat) : open_ (Array.replicate n false) = n := by
  unfold open_
  rw [Array.toList_replicate]
  induction n with
  | zero => rfl
  | succ n ih => rw [List.replicate_succ, List.countP_cons, ih]; rfl
theorem lst_rep (n : Nat) : lst (Array.replicate n false) = fun _ => false := by
  funext i; unfold lst
  by_cases h : i < n <;> simp [h]
theorem region_inv {id : Nat} {a : Act} {w : World} (hm : P.follows .mixedOrders = true) (hE : early ops = true) (I : (Nat → Bool) → Act → World → Prop) (h0 : I (fun _ => false) a w.drew)
    (hK : Keeps P ops Q I) (hend : ∀ L a w, (∀ i, i < ops.size → L i = true) → I L a w → Q .normal a w) : (Code.region id ops true).wp P Q a w := by
  refine wp_region_any hm (any_of_inv hE hK hend _ _ _ _ (by simp) ?_ (by rw [open_rep]; exact Nat.le_refl _) (by rw [lst_rep]; exact h0))
  rw [lst_rep]
  intro j o _ h
  cases h
def upon (P : Program) (R : Value → World → Prop) : Result Next → Prop
  | .ok (.value u) w => R u w
  | .ok .skip w => R undef w
  | .ok (.enter f args) w => Calls P f args w (fun e w' => ∃ u, e = .returned u ∧ R u w')
  | _ => False
def setV (V : Nat → Value) (i : Nat) (u : Value) : Nat → Value := fun j => bif Nat.beq j i then u else V j
theorem setV_same (V : Nat → Value) (i : Nat) (u : Value) : setV V i u i = u := by simp [setV]
theorem setV_ne (V : Nat → Value) {i j : Nat} (u : Value) (h : j ≠ i) : setV V i u j = V j := by
  have : Nat.beq j i = false := by
    cases hh : Nat.beq j i with
    | false => rfl
    | true => exact absurd (Nat.eq_of_beq_eq_true hh) h
  simp [setV, this]
def fixAt (P : Program) (ops : Array Oper) (C : (Nat → Bool) → (Nat → Value) → World → Prop) (i : Nat) (o : Oper) (A : (Nat → Value) → Act) (v : Value) : Prop :=
  ∀ V L w, L i = false → Waits o L → Cl ops L → C L V w → upon P (fun u w' => u = v ∧ C (upd L i) V w') ((execOp (A V).eval o).run P w)
def freeAt (P : Program) (ops : Array Oper) (C : (Nat → Bool) → (Nat → Value) → World → Prop) (i : Nat) (o : Oper) (A : (Nat → Value) → Act) : Prop :=
  ∀ V L w, L i = false → Waits o L → Cl ops L → C L V w → upon P (fun u w' => C (upd L i) (setV V i u) w') ((execOp (A V).eval o).run P w)
def wpRel (P : Program) (ops : Array Oper) (C : (Nat → Bool) → (Nat → Value) → World → Prop) (R : ((Nat → Value) → Act) → Prop) : List Oper → Nat → ((Nat → Value) → Act) → Prop
  | [], _, A => R A
  | o :: rest, i, A =>
    ((∀ V, Region.wanted o (yielded ops (A V).tmps) = true) ∧
      ((∃ v, fixAt P ops C i o A v ∧ wpRel P ops C R rest (i + 1) (fun V => (A V).put o.dst v)) ∨
       (freeAt P ops C i o A ∧ wpRel P ops C R rest (i + 1) (fun V => (A V).put o.dst (V i))))) ∨
    ((∀ V, Region.wanted o (yielded ops (A V).tmps) = false) ∧ (∀ V L w, L i = false → C L V w → C (upd L i) V w) ∧ wpRel P ops C R rest (i + 1) (fun V => (A V).put o.dst undef))
def apartOk (ops : Array Oper) : Bool :=
  Region.noSelect ops && (List.range ops.size).all fun j => (List.range j).all fun i => match ops[i]?, ops[j]? with
    | some oi, some oj => oj.after.any (fun e => Region.binds .any e && e.on == i) || oi.apart ops oj
    | _, _ => true
theorem apartOk_spec (h : apartOk ops = true) {i j : Nat} (hij : i < j) {oi oj : Oper} (hi : ops[i]? = some oi) (hj : ops[j]? = some oj) {L : Nat → Bool} (hw : Waits oj L) (hL : L i = false) : oi.apart ops oj = true := by
  unfold apartOk at h
  rw [Bool.and_eq_true, List.all_eq_true] at h
  have h1 := h.2 j (List.mem_range.2 (Array.getElem?_eq_some_iff.1 hj).1)
  rw [List.all_eq_true] at h1
  have h2 := h1 i (List.mem_range.2 hij)
  rw [hi, hj] at h2
  simp only [Bool.or_eq_true] at h2
  rcases h2 with h2 | h2
  · obtain ⟨e, he, hb⟩ := Array.any_eq_true'.1 h2
    simp only [Bool.and_eq_true, beq_iff_eq] at hb
    have := hw e he hb.1
    rw [hb.2, hL] at this
    cases this
  · exact h2
def frame (ops : Array Oper) (V : Nat → Value) (a : Act) (L : Nat → Bool) : Nat → Act
  | 0 => a
  | k + 1 => if L k then (frame ops V a L k).put ((ops[k]?).bind (·.dst)) (V k) else frame ops V a L k
def Agr (ops : Array Oper) (o : Oper) (a a' : Act) : Prop := ∀ t ∈ o.looksAt ops, a.tmps[t]? = a'.tmps[t]?
theorem Agr.exec {o : Oper} (hs : ∀ cs b, o.op ≠ .select cs b) {a a' : Act} (h : Agr ops o a a') : execOp a.eval o = execOp a'.eval o :=
  execOp_congr o hs fun x hx => by
    cases x with
    | tmp t =>
      have := h t (List.mem_append_left _ (List.mem_filterMap.2 ⟨.tmp t, by simpa using hx, rfl⟩))
      simp [Act.eval, this]
    | _ => rfl
theorem Agr.wanted {o : Oper} {a a' : Act} (h : Agr ops o a a') : Region.wanted o (yielded ops a.tmps) = Region.wanted o (yielded ops a'.tmps) := by
  unfold Region.wanted
  cases hg : o.guard with
  | none => rfl
  | some gw =>
    obtain ⟨g, want⟩ := gw
    have hy : yielded ops a.tmps g = yielded ops a'.tmps g := by
      unfold yielded
      cases ht : (ops[g]?).bind (·.dst) with
      | none => rfl
      | some t =>
        have := h t (by simp [Oper.looksAt, hg, ht])
        simp [this]
    simp only [hy]
theorem Agr.put_both {o : Oper} {a a' : Act} (h : Agr ops o a a') (hs : a.tmps.size = a'.tmps.size) (d : Option Tmp) (v : Value) : Agr ops o (a.put d v) (a'.put d v) := by
  intro t ht
  cases d with
  | none => exact h t ht
  | some d =>
    by_cases e : d = t
    · subst e
      simp only [Act.put, Array.getElem?_setIfInBounds_self]
      rw [hs]
    · simp only [Act.put, Array.getElem?_setIfInBounds_ne e]; exact h t ht
theorem Agr.put_left {o : Oper} {a a' : Act} (h : Agr ops o a a') (d : Option Tmp) (v : Value) (hd : ∀ t, d = some t → t ∉ o.looksAt ops) : Agr ops o (a.put d v) a' := by
  intro t ht
  cases d with
  | none => exact h t ht
  | some d =>
    have e : d ≠ t := fun e => hd d rfl (e ▸ ht)
    simp only [Act.put, Array.getElem?_setIfInBounds_ne e]; exact h t ht
theorem put_size (a : Act) (d : Option Tmp) (v : Value) : (a.put d v).tmps.size = a.tmps.size := by cases d <;> simp [Act.put]
theorem frame_size (V : Nat → Value) (a : Act) (L : Nat → Bool) (k : Nat) : (frame ops V a L k).tmps.size = a.tmps.size := by
  induction k with
  | zero => rfl
  | succ k ih => unfold frame; split
                 · rw [put_size]; exact ih
                 · exact ih
theorem frame_agr (hA : apartOk ops = true) {V : Nat → Value} {a : Act} {L : Nat → Bool} {i : Nat} {o : Oper} (hi : ops[i]? = some o) (hLi : L i = false) (hw : Waits o L) (hc : Cl ops L) :
    Agr ops o (frame ops V a L ops.size) (frame ops V a (fun _ => true) i) := by
  have h1 : ∀ k, k ≤ i → Agr ops o (frame ops V a L k) (frame ops V a (fun _ => true) k) := by
    intro k
    induction k with
    | zero => intro _ t _; rfl
    | succ k ih =>
      intro hk
      have h2 := ih (by omega)
      show Agr ops o (if L k then (frame ops V a L k).put _ (V k) else frame ops V a L k) ((frame ops V a (fun _ => true) k).put _ (V k))
      by_cases hL : L k = true
      · rw [if_pos hL]
        exact h2.put_both (by rw [frame_size, frame_size]) _ _
      · rw [if_neg hL]
        have hL' : L k = false := by simpa using hL
        have hk' : k < ops.size := by have := (Array.getElem?_eq_some_iff.1 hi).1; omega
        have ho : ops[k]? = some ops[k] := Array.getElem?_eq_getElem hk'
        have hap := Oper.apart_spec (apartOk_spec hA (show k < i by omega) ho hi hw hL')
        intro t ht
        have := (Agr.put_left (a := frame ops V a (fun _ => true) k) (a' := frame ops V a (fun _ => true) k) (o := o) (ops := ops) (fun _ _ => rfl) ((ops[k]?).bind (·.dst)) (V k) (fun d hd => by
          rw [ho] at hd
          exact hap.1 d hd)) t ht
        rw [this]
        exact h2 t ht
  have h2 : ∀ k, i ≤ k → k ≤ ops.size → Agr ops o (frame ops V a L k) (frame ops V a (fun _ => true) i) := by
    intro k hik
    induction k with
    | zero => intro _; obtain rfl : i = 0 := by omega
              exact h1 0 (Nat.le_refl _)
    | succ k ih =>
      intro hk
      by_cases e : i = k + 1
      · subst e; exact h1 _ (Nat.le_refl _)
      · have h3 := ih (by omega) (by omega)
        show Agr ops o (if L k then (frame ops V a L k).put _ (V k) else frame ops V a L k) _
        by_cases hL : L k = true
        · rw [if_pos hL]
          have hki : k ≠ i := fun x => by rw [x, hLi] at hL; cases hL
          have ho : ops[k]? = some ops[k] := Array.getElem?_eq_getElem (by omega)
          have hap := Oper.apart_spec (apartOk_spec hA (show i < k by omega) hi ho (hc k _ ho hL) hLi)
          exact h3.put_left _ _ (fun d hd => by rw [ho] at hd; exact hap.2.2 d hd)
        · rw [if_neg hL]; exact h3
  exact h2 _ (Nat.le_of_lt (Array.getElem?_eq_some_iff.1 hi).1) (Nat.le_refl _)
theorem frame_upd (hA : apartOk ops = true) {V : Nat → Value} {a : Act} {L : Nat → Bool} {i : Nat} {o : Oper} (hi : ops[i]? = some o) (hLi : L i = false) (hc : Cl ops L) :
    frame ops V a (upd L i) ops.size = (frame ops V a L ops.size).put o.dst (V i) := by
  have h0 : ∀ k, k ≤ i → frame ops V a (upd L i) k = frame ops V a L k := by
    intro k
    induction k with
    | zero => intro _; rfl
    | succ k ih =>
      intro hk
      unfold frame
      rw [ih (by omega), upd_ne _ (show k ≠ i by omega)]
  have h1 : ∀ k, i < k → k ≤ ops.size → frame ops V a (upd L i) k = (frame ops V a L k).put o.dst (V i) := by
    intro k hik
    induction k with
    | zero => omega
    | succ k ih =>
      intro hk
      by_cases e : k = i
      · subst e
        unfold frame
        rw [upd_same, if_pos rfl, hLi, if_neg (by simp), h0 k (Nat.le_refl _), hi]
        rfl
      · have h3 := ih (by omega) (by omega)
        unfold frame
        rw [h3, upd_ne _ e]
        by_cases hL : L k = true
        · rw [if_pos hL, if_pos hL]
          have ho : ops[k]? = some ops[k] := Array.getElem?_eq_getElem (by omega)
          have hap := Oper.apart_spec (apartOk_spec hA (show i < k by omega) hi ho (hc k _ ho hL) hLi)
          rw [ho]
          exact Act.put_comm _ _ _ (fun d hd => hap.2.1 d hd)
        · rw [if_neg hL, if_neg hL]
  exact h1 _ (Array.getElem?_eq_some_iff.1 hi).1 (Nat.le_refl _)
theorem foldl_same {α β : Type} {f g : α → β → α} : ∀ (l : List β) (a : α), (∀ b, ∀ i ∈ l, f b i = g b i) → l.foldl f a = l.foldl g a
  | [], _, _ => rfl
  | i :: l, a, h => by
    rw [List.foldl_cons, List.foldl_cons, h a i (by simp)]
    exact foldl_same l _ fun b j hj => h b j (by simp [hj])
theorem frame_fold (V : Nat → Value) (a : Act) (k : Nat) : frame ops V a (fun _ => true) k = (List.range' 0 k).foldl (fun a i => a.put ((ops[i]?).bind (·.dst)) (V i)) a := by
  induction k with
  | zero => rfl
  | succ k ih =>
    rw [List.range'_concat, List.foldl_append]
    show (if (fun _ => true) k = true then _ else _) = _
    rw [if_pos rfl, ih]
    simp
def lit (X : Nat → Option Value) (V : Nat → Value) (j : Nat) : Value := (X j).getD (V j)
def foldA (ops : Array Oper) (X : Nat → Option Value) (k m : Nat) (A : (Nat → Value) → Act) : (Nat → Value) → Act :=
  fun V => (List.range' k m).foldl (fun a i => a.put ((ops[i]?).bind (·.dst)) (lit X V i)) (A V)
theorem wpRel_spec {C : (Nat → Bool) → (Nat → Value) → World → Prop} {R : ((Nat → Value) → Act) → Prop} : ∀ (l : List Oper) (k : Nat) (A : (Nat → Value) → Act), (∀ j, l[j]? = ops[k + j]?) → wpRel P ops C R l k A →
    ∃ X : Nat → Option Value, R (foldA ops X k l.length A) ∧
      ∀ j o, l[j]? = some o → (
        ((∀ V, Region.wanted o (yielded ops (foldA ops X k j A V).tmps) = true) ∧ ((∃ v, X (k + j) = some v ∧ fixAt P ops C (k + j) o (foldA ops X k j A) v) ∨ (X (k + j) = none ∧ freeAt P ops C (k + j) o (foldA ops X k j A)))) ∨
        ((∀ V, Region.wanted o (yielded ops (foldA ops X k j A V).tmps) = false) ∧ X (k + j) = some undef ∧ ∀ V L w, L (k + j) = false → C L V w → C (upd L (k + j)) V w)) := by
  intro l
  induction l with
  | nil => intro k A _ h; exact ⟨fun _ => none, h, fun j o hj => by simp at hj⟩
  | cons o l ih =>
    intro k A hl h
    have h0 : ops[k]? = some o := by simpa using (hl 0).symm
    have hl' : ∀ j, l[j]? = ops[k + 1 + j]? := fun j => by have := hl (j + 1); simpa [Nat.add_assoc, Nat.add_comm 1 j] using this
    have key : ∀ ov : Option Value, wpRel P ops C R l (k + 1) (fun V => (A V).put o.dst (ov.getD (V k))) →
        (((∀ V, Region.wanted o (yielded ops (A V).tmps) = true) ∧ ((∃ v, ov = some v ∧ fixAt P ops C k o A v) ∨ (ov = none ∧ freeAt P ops C k o A))) ∨
        ((∀ V, Region.wanted o (yielded ops (A V).tmps) = false) ∧ ov = some undef ∧ ∀ V L w, L k = false → C L V w → C (upd L k) V w)) →
        ∃ X : Nat → Option Value, R (foldA ops X k (o :: l).length A) ∧
      ∀ j o', (o :: l)[j]? = some o' → (
        ((∀ V, Region.wanted o' (yielded ops (foldA ops X k j A V).tmps) = true) ∧ ((∃ v, X (k + j) = some v ∧ fixAt P ops C (k + j) o' (foldA ops X k j A) v) ∨ (X (k + j) = none ∧ freeAt P ops C (k + j) o' (foldA ops X k j A)))) ∨
        ((∀ V, Region.wanted o' (yielded ops (foldA ops X k j A V).tmps) = false) ∧ X (k + j) = some undef ∧ ∀ V L w, L (k + j) = false → C L V w → C (upd L (k + j)) V w)) := by
      intro ov hr hv
      obtain ⟨X, hR, hX⟩ := ih (k + 1) _ hl' hr
      have hfold : ∀ m, foldA ops (fun i => if i = k then ov else X i) k (m + 1) A = foldA ops X (k + 1) m (fun V => (A V).put o.dst (ov.getD (V k))) := fun m => by
        funext V
        unfold foldA
        rw [List.range'_succ, List.foldl_cons]
        have e : lit (fun i => if i = k then ov else X i) V k = ov.getD (V k) := by simp [lit]
        rw [e, h0]
        simp only [Option.bind_some]
        apply foldl_same
        intro b i hi
        have : i ≠ k := by have := List.mem_range'.1 hi; omega
        simp [lit, this]
      refine ⟨fun i => if i = k then ov else X i, ?_, fun j o' hj => ?_⟩
      · rw [List.length_cons, hfold]; exact hR
      · cases j with
        | zero =>
          simp only [List.getElem?_cons_zero, Option.some.injEq] at hj
          subst hj
          have e : foldA ops (fun i => if i = k then ov else X i) k 0 A = A := rfl
          rw [e]
          simpa using hv
        | succ j =>
          have := hX j o' (by simpa using hj)
          rw [hfold]
          have e : k + (j + 1) = k + 1 + j := by omega
          rw [e]
          have e2 : ¬ (k + 1 + j = k) := by omega
          simp only [e2, if_false]
          exact this
    unfold wpRel at h
    rcases h with ⟨hw, ⟨v, h1, h2⟩ | ⟨h1, h2⟩⟩ | ⟨hw, h1, h2⟩
    · exact key (some v) h2 (.inl ⟨hw, .inl ⟨v, rfl, h1⟩⟩)
    · exact key none h2 (.inl ⟨hw, .inr ⟨rfl, h1⟩⟩)
    · exact key (some undef) h2 (.inr ⟨hw, rfl, h1⟩)
theorem upon_wp {o : Oper} {a : Act} {w : World} {R : Value → World → Prop} {K : Act → World → Prop} (h : upon P R ((execOp a.eval o).run P w)) (hK : ∀ u w', R u w' → K (a.put o.dst u) w') : o.wp P a w K Q := by
  unfold Oper.wp
  generalize (execOp a.eval o).run P w = r at *
  cases r with
  | halt x w' => exact h.elim
  | ok n w' =>
    cases n <;> simp only [upon] at h <;> simp only [Oper.upon] <;> first
      | exact h.elim
      | exact hK _ _ h
      | exact h.mono fun e w'' ⟨u, he, hc⟩ => by subst he; exact hK _ _ hc
theorem upon_mono {R R' : Value → World → Prop} (hR : ∀ u w, R u w → R' u w) {r : Result Next} (h : upon P R r) : upon P R' r := by
  cases r with
  | halt x w' => exact h.elim
  | ok n w' =>
    cases n <;> simp only [upon] at h ⊢ <;> first
      | exact h.elim
      | exact hR _ _ h
      | exact h.mono fun e w'' ⟨u, he, hc⟩ => ⟨u, he, hR _ _ hc⟩
theorem frame_all (V : Nat → Value) (a : Act) (L : Nat → Bool) (k : Nat) (h : ∀ i, i < k → L i = true) : frame ops V a L k = frame ops V a (fun _ => true) k := by
  induction k with
  | zero => rfl
  | succ k ih =>
    unfold frame
    rw [ih (fun i hi => h i (by omega)), h k (by omega)]
theorem frame_congr {V V' : Nat → Value} (a : Act) (L : Nat → Bool) (k : Nat) (h : ∀ i, i < k → L i = true → V i = V' i) : frame ops V a L k = frame ops V' a L k := by
  induction k with
  | zero => rfl
  | succ k ih =>
    unfold frame
    rw [ih (fun i hi => h i (by omega))]
    by_cases hL : L k = true
    · rw [if_pos hL, if_pos hL, h k (by omega) hL]
    · rw [if_neg hL, if_neg hL]
def St (ops : Array Oper) (C : (Nat → Bool) → (Nat → Value) → World → Prop) (X : Nat → Option Value) (a : Act) (L : Nat → Bool) (a' : Act) (w : World) : Prop :=
  ∃ V, a' = frame ops (lit X V) a L ops.size ∧ C L V w
theorem St.next {C : (Nat → Bool) → (Nat → Value) → World → Prop} {X : Nat → Option Value} {a : Act} (hA : apartOk ops = true)
    {i : Nat} {o : Oper} (hi : ops[i]? = some o) {L : Nat → Bool} (hLi : L i = false) (hc : Cl ops L) {V : Nat → Value} {u : Value} {w' : World}
    (h : (∃ v, X i = some v ∧ u = v ∧ C (upd L i) V w') ∨ (X i = none ∧ C (upd L i) (setV V i u) w')) :
    St ops C X a (upd L i) ((frame ops (lit X V) a L ops.size).put o.dst u) w' := by
  rcases h with ⟨v, hX, rfl, hC⟩ | ⟨hX, hC⟩
  · refine ⟨V, ?_, hC⟩
    rw [frame_upd hA hi hLi hc]
    have : lit X V i = u := by simp [lit, hX]
    rw [this]
  · refine ⟨setV V i u, ?_, hC⟩
    rw [frame_upd hA hi hLi hc]
    have h1 : lit X (setV V i u) i = u := by simp [lit, hX, setV_same]
    rw [h1, frame_congr (V := lit X (setV V i u)) (V' := lit X V) a L ops.size (fun j _ hj => by
      have : j ≠ i := fun e => by subst e; rw [hLi] at hj; cases hj
      simp [lit, setV_ne V u this])]
theorem region_rel_keeps {C : (Nat → Bool) → (Nat → Value) → World → Prop} (hA : apartOk ops = true) {X : Nat → Option Value} {a : Act}
    (hX : ∀ j o, ops[j]? = some o → (
        ((∀ V, Region.wanted o (yielded ops (frame ops (lit X V) a (fun _ => true) j).tmps) = true) ∧ ((∃ v, X j = some v ∧ fixAt P ops C j o (fun V => frame ops (lit X V) a (fun _ => true) j) v) ∨ (X j = none ∧ freeAt P ops C j o (fun V => frame ops (lit X V) a (fun _ => true) j)))) ∨
        ((∀ V, Region.wanted o (yielded ops (frame ops (lit X V) a (fun _ => true) j).tmps) = false) ∧ X j = some undef ∧ ∀ V L w, L j = false → C L V w → C (upd L j) V w))) :
    ∀ (L : Nat → Bool) (i : Nat) (o : Oper), ops[i]? = some o → L i = false → Waits o L → Cl ops L → ∀ a' w, St ops C X a L a' w →
      (Region.wanted o (yielded ops a'.tmps) = true ∧ upon P (fun u w' => St ops C X a (upd L i) (a'.put o.dst u) w') ((execOp a'.eval o).run P w)) ∨
      (Region.wanted o (yielded ops a'.tmps) = false ∧ St ops C X a (upd L i) (a'.put o.dst undef) w) := by
  intro L i o ho hL hw hc a' w ⟨V, ha, hC⟩
  subst ha
  have hag := frame_agr (V := lit X V) (a := a) hA ho hL hw hc
  have hsel : ∀ cs b, o.op ≠ .select cs b := by
    have h1 := hA
    unfold apartOk at h1
    rw [Bool.and_eq_true] at h1
    exact fun cs b => Region.noSelect_spec h1.1 i o cs b ho
  have hex := hag.exec hsel
  have hwa := hag.wanted
  rcases hX i o ho with ⟨h1, h2⟩ | ⟨h1, h2, h3⟩
  · left
    refine ⟨by rw [hwa]; exact h1 V, ?_⟩
    rw [hex]
    rcases h2 with ⟨v, hv, hf⟩ | ⟨hv, hf⟩
    · exact upon_mono (fun u w' ⟨e1, e2⟩ => St.next hA ho hL hc (.inl ⟨v, hv, e1, e2⟩)) (hf V L w hL hw hc hC)
    · exact upon_mono (fun u w' e2 => St.next hA ho hL hc (.inr ⟨hv, e2⟩)) (hf V L w hL hw hc hC)
  · right
    refine ⟨by rw [hwa]; exact h1 V, St.next hA ho hL hc (.inl ⟨undef, h2, rfl, h3 V L w hL hC⟩)⟩
theorem St.zero {C : (Nat → Bool) → (Nat → Value) → World → Prop} {X : Nat → Option Value} {a : Act} {w : World} (V : Nat → Value) (h : C (fun _ => false) V w) : St ops C X a (fun _ => false) a w := by
  refine ⟨V, ?_, h⟩
  generalize ops.size = k
  induction k with
  | zero => rfl
  | succ k ih => unfold frame; simpa using ih
theorem rel_spec {l : List Oper} {a : Act} {C : (Nat → Bool) → (Nat → Value) → World → Prop} {R : ((Nat → Value) → Act) → Prop} (h : wpRel P l.toArray C R l 0 (fun _ => a)) :
    ∃ X : Nat → Option Value, R (fun V => frame l.toArray (lit X V) a (fun _ => true) l.length) ∧ ∀ j o, l.toArray[j]? = some o → (
        ((∀ V, Region.wanted o (yielded l.toArray (frame l.toArray (lit X V) a (fun _ => true) j).tmps) = true) ∧ ((∃ v, X j = some v ∧ fixAt P l.toArray C j o (fun V => frame l.toArray (lit X V) a (fun _ => true) j) v) ∨ (X j = none ∧ freeAt P l.toArray C j o (fun V => frame l.toArray (lit X V) a (fun _ => true) j)))) ∨
        ((∀ V, Region.wanted o (yielded l.toArray (frame l.toArray (lit X V) a (fun _ => true) j).tmps) = false) ∧ X j = some undef ∧ ∀ V L w, L j = false → C L V w → C (upd L j) V w)) := by
  obtain ⟨X, hR, hX⟩ := wpRel_spec l 0 _ (fun j => by simp) h
  have e : ∀ j, foldA l.toArray X 0 j (fun _ => a) = fun V => frame l.toArray (lit X V) a (fun _ => true) j := fun j => by
    funext V; rw [frame_fold]; rfl
  refine ⟨X, by rw [e] at hR; exact hR, fun j o ho => ?_⟩
  have := hX j o (by simpa using ho)
  simp only [Nat.zero_add, e] at this
  exact this
theorem region_rel {id : Nat} {l : List Oper} {a : Act} {w : World} (hm : P.follows .mixedOrders = true) (hE : early l.toArray = true) (hA : apartOk l.toArray = true) (C : (Nat → Bool) → (Nat → Value) → World → Prop)
    (h0 : C (fun _ => false) (fun _ => undef) w.drew) (h : wpRel P l.toArray C (fun A => ∀ V L w', (∀ i, i < l.length → L i = true) → C L V w' → Q .normal (A V) w') l 0 (fun _ => a)) :
    (Code.region id l.toArray true).wp P Q a w := by
  obtain ⟨X, hR, hX⟩ := rel_spec h
  refine region_inv hm hE (St l.toArray C X a) (St.zero _ h0) (fun L i o ho hL hw hc a' w' hS => ?_) (fun L a' w' hL hI => ?_)
  · unfold wpOp
    rw [ho]
    simp only []
    rcases region_rel_keeps hA hX L i o ho hL hw hc a' w' hS with ⟨h1, h2⟩ | ⟨h1, h2⟩
    · rw [if_pos h1]
      exact .inl (upon_wp h2 fun u w'' h => h)
    · rw [if_neg (by rw [h1]; simp)]
      exact h2
  · obtain ⟨V, rfl, hC⟩ := hI
    have h1 : l.toArray.size = l.length := by simp
    rw [frame_all _ a L _ hL, h1]
    exact hR V L w' (by simpa using hL) hC
def Wide (F : Fence) : Prop := F = Fence.wide ∨ ∃ l, F = Fence.wide.inRound l
theorem Wide.fn {F : Fence} (h : Wide F) (f : FuncId) : F.fn f := by rcases h with rfl | ⟨l, rfl⟩ <;> trivial
theorem Wide.deep {F : Fence} (h : Wide F) : F.depth = none := by rcases h with rfl | ⟨l, rfl⟩ <;> rfl
theorem Wide.calls {F : Fence} (h : Wide F) {n : Nat} {f : FuncId} {args : Array Value} {w : World} {R : Ending → World → Prop} (hc : Calls P f args w R) : CallsIn F n P f args w R := by
  have h1 : CallsIn Fence.wide n P f args w R := callsIn_wide.2 hc
  rcases h with rfl | ⟨l, rfl⟩
  · exact h1
  · exact h1
theorem upon_wpIn {F : Fence} (hF : Wide F) {n : Nat} {o : Oper} {a : Act} {w : World} {R : Value → World → Prop} {K : Act → World → Prop} (h : upon P R ((execOp a.eval o).run P w)) (hK : ∀ u w', R u w' → K (a.put o.dst u) w') : o.wpIn F n P a w K Q := by
  refine ⟨fun f _ => hF.fn f, ?_⟩
  have hs : o.semAt F.round a.eval = execOp a.eval o := by
    rcases hF with rfl | ⟨l, rfl⟩
    · rfl
    · show o.semAt (some l) a.eval = _
      unfold Oper.semAt
      split
      · rename_i _ c _ hc
        exfalso
        rw [show execOp a.eval o = _ from by unfold execOp; rw [hc]] at h
        cases hr : (resolve a.eval c o.type).run P w with
        | ok d w' => simp [Sem.run_bind, hr, Result.andThen, upon] at h
        | halt x w' => simp [Sem.run_bind, hr, Result.andThen, upon] at h
      · rfl
  rw [hs]
  have hd := hF.deep
  generalize (execOp a.eval o).run P w = r at *
  cases r with
  | halt x w' => exact h.elim
  | ok m w' =>
    cases m <;> simp only [upon] at h <;> simp only [Oper.uponIn] <;> first
      | exact h.elim
      | exact hK _ _ h
      | (refine ⟨fun hh => (by rw [hd] at hh; cases hh), ?_⟩
         exact hF.calls (h.mono fun e w'' ⟨u, he, hc⟩ => by subst he; exact hK _ _ hc))
theorem anyIn_of_inv {F : Fence} (hF : Wide F) {n : Nat} (hE : early ops = true) {I : (Nat → Bool) → Act → World → Prop}
    (hK : ∀ (L : Nat → Bool) (i : Nat) (o : Oper), ops[i]? = some o → L i = false → Waits o L → Cl ops L → ∀ a w, I L a w →
      (Region.wanted o (yielded ops a.tmps) = true ∧ upon P (fun u w' => I (upd L i) (a.put o.dst u) w') ((execOp a.eval o).run P w)) ∨
      (Region.wanted o (yielded ops a.tmps) = false ∧ I (upd L i) (a.put o.dst undef) w))
    (hend : ∀ L a w, (∀ i, i < ops.size → L i = true) → I L a w → Q .normal a w) :
    ∀ (fuel : Nat) (l : Array Bool) (a : Act) (w : World), l.size = ops.size → Cl ops (lst l) → open_ l ≤ fuel → I (lst l) a w → wpAnyIn F n P .any ops Q fuel l a w := by
  intro fuel
  induction fuel with
  | zero =>
    intro l a w hs hc ho hI
    have hall : ∀ i, i < ops.size → lst l i = true := fun i hi => open_zero (by omega) (by omega)
    refine ⟨?_, hend _ _ _ hall hI⟩
    apply List.eq_nil_iff_forall_not_mem.2
    intro i hi
    obtain ⟨h1, o, h2, _⟩ := mem_ready.1 hi
    have hlt := (Array.getElem?_eq_some_iff.1 h2).1
    have := hall i hlt
    unfold lst at this
    simp [show i < l.size by omega] at h1 this
    rw [h1] at this; cases this
  | succ fuel ih =>
    intro l a w hs hc ho hI
    refine ⟨fun hr => hend _ _ _ (all_done hE hs hr) hI, fun i hi => ?_⟩
    obtain ⟨h1, o, h2, h3⟩ := mem_ready.1 hi
    have hlt := (Array.getElem?_eq_some_iff.1 h2).1
    have hf : lst l i = false := by
      unfold lst
      simp [show i < l.size by omega] at h1 ⊢
      exact h1
    have hw : Waits o (lst l) := h3
    have hgo : ∀ a' w', I (upd (lst l) i) a' w' → wpAnyIn F n P .any ops Q fuel (l.setIfInBounds i true) a' w' := fun a' w' hI' => by
      rw [← lst_set l i (by omega)] at hI'
      refine ih _ _ _ (by simpa using hs) ?_ (by have := open_set l i (by omega) hf; omega) hI'
      rw [lst_set l i (by omega)]
      intro j oj hj hL e he hb
      by_cases hji : j = i
      · subst hji
        rw [h2] at hj; cases hj
        have := hw e he hb
        by_cases hx : e.on = j
        · rw [hx, upd_same]
        · rw [upd_ne _ hx]; exact this
      · rw [upd_ne _ hji] at hL
        have := hc j oj hj hL e he hb
        by_cases hx : e.on = i
        · rw [hx, upd_same]
        · rw [upd_ne _ hx]; exact this
    unfold wpOpIn
    rw [h2]
    simp only []
    rcases hK (lst l) i o h2 hf hw hc a w hI with ⟨k1, k2⟩ | ⟨k1, k2⟩
    · rw [if_pos k1]
      exact upon_wpIn hF k2 fun u w' h => hgo _ _ h
    · rw [if_neg (by rw [k1]; simp)]
      exact ⟨fun f _ => hF.fn f, hgo _ _ k2⟩
theorem regionIn_rel {F : Fence} (hF : Wide F) {n : Nat} {id : Nat} {l : List Oper} {a : Act} {w : World} (hm : P.follows .mixedOrders = true) (hE : early l.toArray = true) (hA : apartOk l.toArray = true) (C : (Nat → Bool) → (Nat → Value) → World → Prop)
    (h0 : C (fun _ => false) (fun _ => undef) w.drew) (h : wpRel P l.toArray C (fun A => ∀ V L w', (∀ i, i < l.length → L i = true) → C L V w' → Q .normal (A V) w') l 0 (fun _ => a)) :
    (Code.region id l.toArray true).wpIn F n P Q a w := by
  obtain ⟨X, hR, hX⟩ := rel_spec h
  refine wpIn_region_any hm (anyIn_of_inv hF hE (I := St l.toArray C X a) (region_rel_keeps hA hX) (fun L a' w' hL hI => ?_) _ _ _ _ (by simp) ?_ (by rw [open_rep]; exact Nat.le_refl _) (by rw [lst_rep]; exact St.zero _ h0))
  · obtain ⟨V, rfl, hC⟩ := hI
    have h1 : l.toArray.size = l.length := by simp
    rw [frame_all _ a L _ hL, h1]
    exact hR V L w' (by simpa using hL) hC
  · rw [lst_rep]
    intro j o _ h
    cases h
end Fam
end Go
end
section
namespace Go.Proofs.YtjnpchoinncbnaaGreat
open Go.RowKit Sw
theorem infoInt : (Tryz.prog.info? 3).map (fun i => (i.zero, i.size, i.bytes)) = some (some (.int .i64 0), 1, 8) := by kernel_rfl
def FlB {α : Type} (enc : α → List Value) (e : TypeId) (w : World) (b : Nat) (xs : List α) : Prop := w.heap[b]? = some (.cells (xs.flatMap enc).toArray e (0, 0))
section
variable {α : Type} {enc : α → List Value} {e : TypeId} {w : World} {b : Nat} {xs : List α}
theorem FlB.lt (h : FlB enc e w b xs) : b < w.heap.size := (Array.getElem?_eq_some_iff.1 h).1
theorem FlB.alloc (h : FlB enc e w b xs) (o : Obj) : FlB enc e (w.alloc o) b xs := (Below.heap_alloc w o b h.lt).trans h
theorem FlB.drewN (h : FlB enc e w b xs) (n : Nat) : FlB enc e (w.drewN n) b xs := h
theorem FlB.other (h : FlB enc e w b xs) {a : Addr} (hne : b ≠ a.block) (u : Value) : FlB enc e (w.setCell a u) b xs := (Below.heap_setCell w a u b hne).trans h
theorem FlB.below {w' : World} {B : Nat} (h : FlB enc e w b xs) (hb : Below B w w') (hlt : b < B) : FlB enc e w' b xs := (hb.block b hlt).trans h
theorem FlB.keep {w' : World} (h : FlB enc e w b xs) (hb : Below w.heap.size w w') : FlB enc e w' b xs := h.below hb h.lt
theorem FlB.frozen (h : FlB enc e w b xs) (j : Nat) : w.frozen? ⟨b, j, none⟩ = false := by
  simp [World.frozen?, show w.heap[b]? = _ from h]
theorem FlB.new (w : World) (enc : α → List Value) (e : TypeId) (xs : List α) : FlB enc e (w.alloc (.cells (xs.flatMap enc).toArray e)) w.heap.size xs := heap_alloc_new w _
theorem flat_get {k : Nat} (hk : ∀ x, (enc x).length = k) : ∀ (xs : List α) (j i : Nat), i < k → j < xs.length → (xs.flatMap enc)[j * k + i]? = (xs[j]?).bind fun x => (enc x)[i]? := by
  intro xs
  induction xs with
  | nil => intro j i _ hj; simp at hj
  | cons x xs ih =>
    intro j i hi hj
    rw [List.flatMap_cons]
    cases j with
    | zero =>
      rw [Nat.zero_mul, Nat.zero_add, List.getElem?_append_left (by rw [hk]; exact hi)]
      rfl
    | succ j =>
      rw [List.getElem?_append_right (by rw [hk, Nat.succ_mul]; omega), hk, show (j + 1) * k + i - k = j * k + i by rw [Nat.succ_mul]; omega, ih j i hi (by simpa using hj)]
      simp
theorem flat_len {k : Nat} (hk : ∀ x, (enc x).length = k) (xs : List α) : (xs.flatMap enc).length = xs.length * k := by
  induction xs with
  | nil => simp
  | cons x xs ih => rw [List.flatMap_cons, List.length_append, hk, ih, List.length_cons, Nat.succ_mul]; omega
theorem FlB.cell {k : Nat} (hk : ∀ x, (enc x).length = k) (h : FlB enc e w b xs) {j i : Nat} (hi : i < k) (hj : j < xs.length) : w.cell? ⟨b, j * k + i, none⟩ = (enc xs[j])[i]? := by
  have h1 := flat_get hk xs j i hi hj
  simp only [World.cell?, show w.heap[b]? = _ from h]
  simp only [Option.isSome_none, Bool.false_eq_true, if_false]
  rw [List.getElem?_toArray, h1, List.getElem?_eq_getElem hj]
  rfl
theorem flat_set {k : Nat} (hk : ∀ x, (enc x).length = k) : ∀ (xs : List α) (j i : Nat) (y : α) (v : Value), i < k → (hj : j < xs.length) → enc y = (enc xs[j]).set i v → (xs.flatMap enc).set (j * k + i) v = (xs.set j y).flatMap enc := by
  intro xs
  induction xs with
  | nil => intro j i y v _ hj; simp at hj
  | cons x xs ih =>
    intro j i y v hi hj he
    cases j with
    | zero =>
      simp only [List.flatMap_cons, Nat.zero_mul, Nat.zero_add, List.set_cons_zero]
      rw [List.set_append_left _ _ (by rw [hk]; exact hi), he]
      rfl
    | succ j =>
      simp only [List.flatMap_cons, List.set_cons_succ]
      rw [List.set_append_right _ _ (by rw [hk, Nat.succ_mul]; omega), hk, show (j + 1) * k + i - k = j * k + i by rw [Nat.succ_mul]; omega, ih j i y v hi (by simpa using hj) (by simpa using he)]
theorem FlB.set {k : Nat} (hk : ∀ x, (enc x).length = k) (h : FlB enc e w b xs) {j i : Nat} {y : α} {v : Value} (hi : i < k) (hj : j < xs.length) (he : enc y = (enc xs[j]).set i v) :
    FlB enc e (w.setCell ⟨b, j * k + i, none⟩ v) b (xs.set j y) := by
  have h1 := heap_setCell_same w b (j * k + i) _ e v h
  unfold FlB
  rw [h1]
  have h2 := flat_set hk xs j i y v hi hj he
  simp [h2]
end
def encI (x : Int) : List Value := [.int .i64 x]
def encB (x : Bool) : List Value := [.bool x]
theorem encI_len (x : Int) : (encI x).length = 1 := rfl
theorem encB_len (x : Bool) : (encB x).length = 1 := rfl
def IntB (w : World) (b : Nat) (xs : List Int) : Prop := FlB encI 3 w b xs
def BoolB (w : World) (b : Nat) (xs : List Bool) : Prop := FlB encB 4 w b xs
section
variable {w : World} {b : Nat} {xs : List Int}
theorem IntB.lt (h : IntB w b xs) : b < w.heap.size := FlB.lt h
theorem IntB.alloc (h : IntB w b xs) (o : Obj) : IntB (w.alloc o) b xs := FlB.alloc h o
theorem IntB.drew (h : IntB w b xs) : IntB w.drew b xs := h
theorem IntB.drewN (h : IntB w b xs) (n : Nat) : IntB (w.drewN n) b xs := h
theorem IntB.other (h : IntB w b xs) {a : Addr} (hne : b ≠ a.block) (u : Value) : IntB (w.setCell a u) b xs := FlB.other h hne u
theorem IntB.keep {w' : World} (h : IntB w b xs) (hb : Below w.heap.size w w') : IntB w' b xs := FlB.keep h hb
theorem IntB.frozen (h : IntB w b xs) (j : Nat) : w.frozen? ⟨b, j, none⟩ = false := FlB.frozen h j
theorem IntB.cell (h : IntB w b xs) {j : Nat} (hj : j < xs.length) : w.cell? ⟨b, j, none⟩ = some (.int .i64 (gi xs j)) := by
  have := FlB.cell encI_len h (j := j) (i := 0) (by omega) hj
  rw [Nat.mul_one, Nat.add_zero] at this
  rw [this]
  simp [encI, gi, hj]
theorem IntB.set (h : IntB w b xs) {j : Nat} (hj : j < xs.length) (v : Int) : IntB (w.setCell ⟨b, j, none⟩ (.int .i64 v)) b (xs.set j v) := by
  have := FlB.set encI_len h (j := j) (i := 0) (y := v) (v := .int .i64 v) (by omega) hj rfl
  rw [Nat.mul_one, Nat.add_zero] at this
  exact this
end
section
variable {w : World} {b : Nat} {xs : List Bool}
theorem BoolB.cell (h : BoolB w b xs) {j : Nat} (hj : j < xs.length) : w.cell? ⟨b, j, none⟩ = some (.bool (gb xs j)) := by
  have := FlB.cell encB_len h (j := j) (i := 0) (by omega) hj
  rw [Nat.mul_one, Nat.add_zero] at this
  rw [this]
  simp [encB, gb, hj]
theorem BoolB.set (h : BoolB w b xs) {j : Nat} (hj : j < xs.length) (v : Bool) : BoolB (w.setCell ⟨b, j, none⟩ (.bool v)) b (xs.set j v) := by
  have := FlB.set encB_len h (j := j) (i := 0) (y := v) (v := .bool v) (by omega) hj rfl
  rw [Nat.mul_one, Nat.add_zero] at this
  exact this
end
def RdI (w : World) (A : Option Addr) (xs : List Int) : Prop := ∀ j, j < xs.length → ∃ b o, A = some ⟨b, o, none⟩ ∧ w.cell? ⟨b, o + j, none⟩ = some (.int .i64 (gi xs j))
def RdE (w : World) (A : Option Addr) (xs : List Ed) : Prop := ∀ j, j < xs.length → ∃ b o, A = some ⟨b, o, none⟩ ∧ w.cell? ⟨b, o + j * 4, none⟩ = some (.int .i64 (ge xs j).f) ∧
  w.cell? ⟨b, o + j * 4 + 1, none⟩ = some (.int .i64 (ge xs j).t) ∧ w.cell? ⟨b, o + j * 4 + 2, none⟩ = some (.int .i64 (ge xs j).j) ∧ w.cell? ⟨b, o + j * 4 + 3, none⟩ = some (.int .i64 (ge xs j).k)
theorem cell_keep {w w' : World} (hb : Below w.heap.size w w') {a : Addr} {v : Value} (h : w.cell? a = some v) : w'.cell? a = some v := (hb.cell (World.block_lt_of_cell? w a h)).trans h
theorem RdI.keep {w w' : World} {A : Option Addr} {xs : List Int} (h : RdI w A xs) (hb : Below w.heap.size w w') : RdI w' A xs := fun j hj => by
  obtain ⟨b, o, h1, h2⟩ := h j hj
  exact ⟨b, o, h1, cell_keep hb h2⟩
theorem RdE.keep {w w' : World} {A : Option Addr} {xs : List Ed} (h : RdE w A xs) (hb : Below w.heap.size w w') : RdE w' A xs := fun j hj => by
  obtain ⟨b, o, h1, h2, h3, h4, h5⟩ := h j hj
  exact ⟨b, o, h1, cell_keep hb h2, cell_keep hb h3, cell_keep hb h4, cell_keep hb h5⟩
theorem IntB.rd {w : World} {b : Nat} {xs : List Int} (h : IntB w b xs) : RdI w (some ⟨b, 0, none⟩) xs := fun j hj => ⟨b, 0, rfl, by rw [Nat.zero_add]; exact h.cell hj⟩
theorem RdI.nil (w : World) (A : Option Addr) : RdI w A [] := fun j hj => by simp at hj
def encE (x : Ed) : List Value := [.int .i64 x.f, .int .i64 x.t, .int .i64 x.j, .int .i64 x.k]
theorem encE_len (x : Ed) : (encE x).length = 4 := rfl
theorem made_ints (n : Nat) : madeCells #[Value.int .i64 0] n = ((List.replicate n (0 : Int)).flatMap encI).toArray := by
  apply Array.ext'
  simp [madeCells]
  apply List.ext_getElem
  · simp [flat_len encI_len]
  · intro i h1 h2
    have : ((List.replicate n (0 : Int)).flatMap encI)[i]? = some (.int .i64 0) := by
      have h3 := flat_get encI_len (List.replicate n (0 : Int)) i 0 (by omega) (by simpa using h1)
      rw [Nat.mul_one, Nat.add_zero] at h3
      rw [h3]
      have h4 : i < n := by simpa using h1
      simp [encI, h4]
    rw [List.getElem?_eq_getElem h2] at this
    have h5 := Option.some.inj this
    rw [h5]
    simp [Nat.mod_one]
theorem run_make_ints (n : Nat) (hn : n ≤ 1000000) (W : World) : (Instr.makeSlice 26 (.int .i64 (n : Int)) (.int .i64 (n : Int))).run Tryz.prog W = .ok (.slice (some ⟨W.heap.size, 0, none⟩) n n) (W.alloc (.cells ((List.replicate n (0:Int)).flatMap encI).toArray 3)) := by
  rw [← made_ints]
  exact run_make_row' 26 3 (.int .i64 0) 8 Tryz.underlying26 infoInt rfl .i64 .i64 n (by omega) (by omega) W
theorem w64 {x : Int} (h1 : -9223372036854775808 ≤ x) (h2 : x ≤ 9223372036854775807) : wrap64 x = x := by unfold wrap64; omega
theorem below_drewN {B : Nat} {w W : World} (h : Below B w W) (n : Nat) : Below B w (W.drewN n) := ⟨h.os, h.tape, h.output, h.size, h.block⟩
theorem grown_trans {w1 w2 w3 : World} {r : Option Nat} (h : w1.grownBy w2 r) (k : w2.grownBy w3 r) : w1.grownBy w3 r :=
  ⟨k.os.trans h.os, k.tape.trans h.tape, k.output.trans h.output, Nat.le_trans h.size k.size, fun i hi hne => (k.block i (Nat.lt_of_lt_of_le hi h.size) hne).trans (h.block i hi hne)⟩
theorem grown_set {w : World} {b i : Nat} {u : Value} : w.grownBy (w.setCell ⟨b, i, none⟩ u) (some b) :=
  ⟨rfl, rfl, rfl, by simp, fun k hk hne => Below.heap_setCell _ _ _ k (fun e => hne (by rw [e]))⟩
end Go.Proofs.YtjnpchoinncbnaaGreat
end
section
namespace Go
namespace Fam
theorem pt : (∀ (a : Act) v, a.put none v = a) ∧ (∀ (a : Act) t v, a.put (some t) v = { a with tmps := a.tmps.setIfInBounds t v }) ∧ (∀ (l : List Value) i v, l.toArray.setIfInBounds i v = (l.set i v).toArray) ∧ (∀ (l : List Value) x n v, (x :: l).set (n + 1) v = x :: l.set n v) ∧ ∀ (l : List Value) x v, (x :: l).set 0 v = v :: l :=
  ⟨fun _ _ => rfl, fun _ _ _ => rfl, fun _ _ _ => by simp, fun _ _ _ _ => rfl, fun _ _ _ => rfl⟩
def noCall : Op → Bool
  | .call { callee := .builtin .len, .. } => true
  | .call { callee := .builtin .min, .. } => true
  | .call { callee := .builtin .max, .. } => true
  | .nilCheck _ | .call _ | .go _ | .defer _ | .recv .. | .send .. | .select .. => false
  | _ => true
theorem value_no_enter {P : Program} {s : Sem Value} {w w' : World} {f : FuncId} {args : Array Value} (h : (do pure (Next.value (← s)) : Sem Next).run P w = .ok (.enter f args) w') : False := by
  rw [Sem.run_bind] at h
  cases hs : s.run P w with
  | ok v w1 => simp [hs, Result.andThen] at h
  | halt x w1 => simp [hs, Result.andThen] at h
theorem unit_no_enter {P : Program} {s : Sem Unit} {w w' : World} {f : FuncId} {args : Array Value} (h : (do s; pure Next.skip : Sem Next).run P w = .ok (.enter f args) w') : False := by
  rw [Sem.run_bind] at h
  cases hs : s.run P w with
  | ok v w1 => simp [hs, Result.andThen] at h
  | halt x w1 => simp [hs, Result.andThen] at h
theorem then_no_enter {r : Result Value} {w' : World} {f : FuncId} {args : Array Value} (h : (r.andThen fun a w => Result.ok (Next.value a) w) = .ok (.enter f args) w') : False := by
  cases r <;> simp [Result.andThen] at h
theorem exec_no_enter {P : Program} {o : Oper} (hc : noCall o.op = true) {ρ : Operand → Value} {w w' : World} {f : FuncId} {args : Array Value} (h : (execOp ρ o).run P w = .ok (.enter f args) w') : False := by
  obtain ⟨dst, op, ty, pos, after, guard⟩ := o
  cases op with
  | nilCheck x => simp [noCall] at hc
  | call c =>
    obtain ⟨callee, xs, ts⟩ := c
    cases callee with
    | builtin b =>
      cases b <;> simp [noCall] at hc <;> simp only [execOp, resolve, invoke, builtin, Sem.run_bind, Sem.run_pure, Result.andThen_ok] at h <;> exact then_no_enter h
    | _ => simp [noCall] at hc
  | go c => simp [noCall] at hc
  | defer c => simp [noCall] at hc
  | send c x => simp [noCall] at hc
  | recv c x y => simp [noCall] at hc
  | select c x => simp [noCall] at hc
  | move x => simp [execOp] at h
  | assign x => simp [execOp] at h
  | pick c a b =>
    simp only [execOp, Sem.run_bind] at h
    cases hb : (asBool (ρ c)).run P w with
    | ok v w1 => simp [hb, Result.andThen] at h
    | halt x w1 => simp [hb, Result.andThen] at h
  | _ => first | exact value_no_enter h | exact unit_no_enter h
variable {P : Program} {ops : Array Oper} {C : (Nat → Bool) → (Nat → Value) → World → Prop} {R : ((Nat → Value) → Act) → Prop} {o : Oper} {rest : List Oper} {i : Nat}
theorem rel_quiet {a : Act} (hn : noCall o.op = true) (hC : ∀ L V w, C L V w → C (upd L i) V w)
    (h : ∀ K : Act → Prop, (∀ a', wpRel P ops C R rest (i + 1) (fun _ => a') → K a') → if Region.wanted o (yielded ops a.tmps) then o.quiet P a (fun _ => True) K else K (a.put o.dst undef)) :
    wpRel P ops C R (o :: rest) i (fun _ => a) := by
  have := h _ (fun _ h => h)
  unfold wpRel
  by_cases hw : Region.wanted o (yielded ops a.tmps) = true
  · rw [if_pos hw] at this
    obtain ⟨v, h1, h2⟩ := this
    refine .inl ⟨fun _ => hw, .inl ⟨v, fun V L w _ _ _ hc => ?_, h2⟩⟩
    have h3 := h1 w trivial
    unfold Oper.quietAt at h3
    cases hr : (execOp a.eval o).run P w with
    | halt x w' => rw [hr] at h3; exact h3.elim
    | ok n w' =>
      rw [hr] at h3
      cases n <;> simp only [Oper.quietUpon] at h3 <;> simp only [upon]
      case value u => obtain ⟨rfl, e⟩ := h3; exact ⟨e, hC _ _ _ hc⟩
      case skip => obtain ⟨rfl, e⟩ := h3; exact ⟨e.symm, hC _ _ _ hc⟩
      case enter f args => exact (exec_no_enter hn hr).elim
  · rw [if_neg hw] at this
    exact .inr ⟨fun _ => by simpa using hw, fun V L w _ hc => hC _ _ _ hc, this⟩
theorem rel_fix {A : (Nat → Value) → Act} (hg : o.guard = none) (v : Value) (hx : fixAt P ops C i o A v) (h : wpRel P ops C R rest (i + 1) (fun V => (A V).put o.dst v)) : wpRel P ops C R (o :: rest) i A := by
  unfold wpRel
  exact .inl ⟨fun V => by simp [Region.wanted, hg], .inl ⟨v, hx, h⟩⟩
theorem rel_free {A : (Nat → Value) → Act} (hg : o.guard = none) (hx : freeAt P ops C i o A) (h : wpRel P ops C R rest (i + 1) (fun V => (A V).put o.dst (V i))) : wpRel P ops C R (o :: rest) i A := by
  unfold wpRel
  exact .inl ⟨fun V => by simp [Region.wanted, hg], .inr ⟨hx, h⟩⟩
theorem rel_val {A : (Nat → Value) → Act} (hg : o.guard = none) (v : Value) (hC : ∀ L V w, C L V w → C (upd L i) V w)
    (hx : ∀ V L w, L i = false → Waits o L → Cl ops L → C L V w → (execOp (A V).eval o).run P w = .ok (.value v) w) (h : wpRel P ops C R rest (i + 1) (fun V => (A V).put o.dst v)) : wpRel P ops C R (o :: rest) i A :=
  rel_fix hg v (fun V L w h1 h2 h3 h4 => by rw [hx V L w h1 h2 h3 h4]; exact ⟨rfl, hC _ _ _ h4⟩) h
theorem rel_nilCheck {a : Act} (hg : o.guard = none) (x : Operand) (ho : o.op = .nilCheck x) (ad : Addr) (hx : a.eval x = .pointer (some ad)) (hC : ∀ L V w, C L V w → C (upd L i) V w)
    (h : wpRel P ops C R rest (i + 1) (fun _ => a.put o.dst (.pointer (some ad)))) : wpRel P ops C R (o :: rest) i (fun _ => a) :=
  rel_val hg _ hC (fun _ _ w _ _ _ _ => by unfold execOp; simp [ho, hx]) h
theorem relq {a : Act} (hn : noCall o.op = true) (hw : Region.wanted o (yielded ops a.tmps) = true) (hC : ∀ L V w, C L V w → C (upd L i) V w)
    (h : ∀ K : Act → Prop, (∀ a', wpRel P ops C R rest (i + 1) (fun _ => a') → K a') → o.quiet P a (fun _ => True) K) : wpRel P ops C R (o :: rest) i (fun _ => a) :=
  rel_quiet hn hC fun K hK => by rw [if_pos hw]; exact h K hK
theorem relk_end {Q : Exit → Act → World → Prop} {n : Nat} {a : Act} (h : ∀ L V w', (∀ i, i < n → L i = true) → C L V w' → Q .normal a w') :
    wpRel P ops C (fun A => ∀ V L w', (∀ i, i < n → L i = true) → C L V w' → Q .normal (A V) w') [] i (fun _ => a) := fun V L w' h1 h2 => h L V w' h1 h2
theorem rel_of_reads {D : World → Prop} {Qa : Act → Prop} {n : Nat} {Q : Exit → Act → World → Prop} (hQ : ∀ a, Qa a → ∀ w', D w' → Q .normal a w') : ∀ (l : List Oper) (i : Nat) (a : Act), wpQuiet P ops D Qa l a →
    wpRel P ops (fun _ _ w' => D w') (fun A => ∀ V (L : Nat → Bool) w', (∀ i, i < n → L i = true) → D w' → Q .normal (A V) w') l i (fun _ => a) := by
  intro l
  induction l with
  | nil => exact fun i a h V L w' _ hD => hQ _ h _ hD
  | cons o l ih =>
    intro i a h
    unfold wpQuiet at h
    unfold wpRel
    by_cases hw : Region.wanted o (yielded ops a.tmps) = true
    · rw [if_pos hw] at h
      obtain ⟨v, h1, h2⟩ := h
      refine .inl ⟨fun _ => hw, .inl ⟨v, fun V L w _ _ _ hc => ?_, ih _ _ h2⟩⟩
      have h3 := h1 w hc
      unfold Oper.quietAt at h3
      cases hr : (execOp a.eval o).run P w with
      | halt x w' => rw [hr] at h3; exact h3.elim
      | ok n w' =>
        rw [hr] at h3
        cases n <;> simp only [Oper.quietUpon] at h3 <;> simp only [upon]
        case value u => obtain ⟨rfl, e⟩ := h3; exact ⟨e, hc⟩
        case skip => obtain ⟨rfl, e⟩ := h3; exact ⟨e.symm, hc⟩
        case enter f args =>
          obtain ⟨rfl, hcall⟩ := h3
          exact hcall.mono fun e w'' ⟨e1, e2⟩ => ⟨v, e1, rfl, e2⟩
    · rw [if_neg hw] at h
      exact .inr ⟨fun _ => by simpa using hw, fun V L w _ hc => hc, ih _ _ h⟩
theorem regionIn_reads {F : Fence} (hF : Wide F) {Q : Exit → Act → World → Prop} {m : Nat} {id : Nat} {l : List Oper} {a : Act} {w : World} (hm : P.follows .mixedOrders = true) (hE : early l.toArray = true) (hA : apartOk l.toArray = true)
    (h : wpQuiet P l.toArray (fun w' => ∃ n, w' = w.drewN n) (fun a' => ∀ w', (∃ n, w' = w.drewN n) → Q .normal a' w') l a) : (Code.region id l.toArray true).wpIn F m P Q a w :=
  regionIn_rel hF hm hE hA (fun _ _ w' => ∃ n, w' = w.drewN n) ⟨1, rfl⟩ (rel_of_reads (fun _ h => h) l 0 a h)
def dep (ops : Array Oper) (j i : Nat) : Bool := ((ops[j]?).map fun o => o.after.any fun e => Region.binds .any e && e.on == i).getD false
theorem Cl.not {L : Nat → Bool} (hc : Cl ops L) {j i : Nat} (h : dep ops j i = true) (hi : L i = false) : L j = false := by
  cases hj : L j with
  | false => rfl
  | true =>
    unfold dep at h
    cases ho : ops[j]? with
    | none => rw [ho] at h; simp at h
    | some o =>
      rw [ho] at h
      simp only [Option.map_some, Option.getD_some] at h
      obtain ⟨e, he, hb⟩ := Array.any_eq_true'.1 h
      simp only [Bool.and_eq_true, beq_iff_eq] at hb
      have := hc j o ho hj e he hb.1
      rw [hb.2, hi] at this
      cases this
def Lst (n : Nat) (D E : World → Prop) (L : Nat → Bool) (_ : Nat → Value) (w : World) : Prop := if L n then E w else D w
theorem Lst.up {n : Nat} {D E : World → Prop} {L : Nat → Bool} {V : Nat → Value} {w : World} {i : Nat} (hi : i ≠ n) (h : Lst n D E L V w) : Lst n D E (upd L i) V w := by
  unfold Lst at *
  rw [upd_ne _ (fun e => hi e.symm)]
  exact h
theorem wpQuiet_last {D E : World → Prop} {Qa : Act → Prop} {R : ((Nat → Value) → Act) → Prop} {o : Oper} (n : Nat) (hdep : ∀ i, i < n → dep ops n i = true)
    (hQ : ∀ a, Qa a → wpRel P ops (Lst n D E) R [o] n (fun _ => a)) : ∀ (l : List Oper) (i : Nat) (a : Act), i + l.length = n → wpQuiet P ops D Qa l a → wpRel P ops (Lst n D E) R (l ++ [o]) i (fun _ => a) := by
  intro l
  induction l with
  | nil =>
    intro i a hi h
    have : i = n := by simpa using hi
    subst this
    exact hQ _ h
  | cons o' l ih =>
    intro i a hi h
    simp only [List.length_cons] at hi
    unfold wpQuiet at h
    rw [List.cons_append]
    unfold wpRel
    by_cases hw : Region.wanted o' (yielded ops a.tmps) = true
    · rw [if_pos hw] at h
      obtain ⟨v, h1, h2⟩ := h
      refine .inl ⟨fun _ => hw, .inl ⟨v, fun V L w hL _ hc hc2 => ?_, ih _ _ (by omega) h2⟩⟩
      have hn := hc.not (hdep i (by omega)) hL
      have hd : D w := by unfold Lst at hc2; rw [hn] at hc2; simpa using hc2
      have hd2 : ∀ w', D w' → Lst n D E (upd L i) V w' := fun w' h => by
        unfold Lst; rw [upd_ne _ (show n ≠ i by omega), hn]; simpa using h
      have h3 := h1 w hd
      unfold Oper.quietAt at h3
      cases hr : (execOp a.eval o').run P w with
      | halt x w' => rw [hr] at h3; exact h3.elim
      | ok n w' =>
        rw [hr] at h3
        cases n <;> simp only [Oper.quietUpon] at h3 <;> simp only [upon]
        case value u => obtain ⟨rfl, e⟩ := h3; exact ⟨e, hd2 _ hd⟩
        case skip => obtain ⟨rfl, e⟩ := h3; exact ⟨e.symm, hd2 _ hd⟩
        case enter f args =>
          obtain ⟨rfl, hcall⟩ := h3
          exact hcall.mono fun e w'' ⟨e1, e2⟩ => ⟨v, e1, rfl, hd2 _ e2⟩
    · rw [if_neg hw] at h
      exact .inr ⟨fun _ => by simpa using hw, fun V L w hL hc => hc.up (by omega), ih _ _ (by omega) h⟩
theorem relk_val {a : Act} (hg : o.guard = none) (v : Value) (hC : ∀ L V w, C L V w → C (upd L i) V w)
    (hx : ∀ V L w, L i = false → Waits o L → Cl ops L → C L V w → (execOp a.eval o).run P w = .ok (.value v) w) (h : ∀ K : Act → Prop, (∀ a', wpRel P ops C R rest (i + 1) (fun _ => a') → K a') → K (a.put o.dst v)) :
    wpRel P ops C R (o :: rest) i (fun _ => a) := rel_val hg v hC hx (h _ fun _ h => h)
theorem relk_fix {a : Act} (hg : o.guard = none) (v : Value) (hx : fixAt P ops C i o (fun _ => a) v) (h : ∀ K : Act → Prop, (∀ a', wpRel P ops C R rest (i + 1) (fun _ => a') → K a') → K (a.put o.dst v)) :
    wpRel P ops C R (o :: rest) i (fun _ => a) := rel_fix hg v hx (h _ fun _ h => h)
theorem relk_nil {a : Act} (hg : o.guard = none) (x : Operand) (ho : o.op = .nilCheck x) (ad : Addr) (hx : a.eval x = .pointer (some ad)) (hC : ∀ L V w, C L V w → C (upd L i) V w)
    (h : ∀ K : Act → Prop, (∀ a', wpRel P ops C R rest (i + 1) (fun _ => a') → K a') → K (a.put o.dst (.pointer (some ad)))) : wpRel P ops C R (o :: rest) i (fun _ => a) := rel_nilCheck hg x ho ad hx hC (h _ fun _ h => h)
theorem relk_do {a : Act} (hg : o.guard = none) (hd : o.dst = none) (f : World → World) (hx : ∀ V L w, L i = false → Waits o L → Cl ops L → C L V w → (execOp a.eval o).run P w = .ok .skip (f w) ∧ C (upd L i) V (f w))
    (h : wpRel P ops C R rest (i + 1) (fun _ => a)) : wpRel P ops C R (o :: rest) i (fun _ => a) := by
  refine rel_fix hg undef (fun V L w h1 h2 h3 h4 => ?_) (by simpa [hd, Act.put] using h)
  obtain ⟨e1, e2⟩ := hx V L w h1 h2 h3 h4
  rw [e1]
  exact ⟨rfl, e2⟩
theorem wpQuiet_one {D : World → Prop} {Qa : Act → Prop} : ∀ (l : List Oper) (a : Act), wpQuiet P ops D Qa l a → ∃ a0, Qa a0 ∧ wpQuiet P ops D (fun a' => a' = a0) l a := by
  intro l
  induction l with
  | nil => intro a h; exact ⟨a, h, rfl⟩
  | cons o l ih =>
    intro a h
    unfold wpQuiet at h
    by_cases hw : Region.wanted o (yielded ops a.tmps) = true
    · rw [if_pos hw] at h
      obtain ⟨v, h1, h2⟩ := h
      obtain ⟨a0, h3, h4⟩ := ih _ h2
      refine ⟨a0, h3, ?_⟩
      unfold wpQuiet
      rw [if_pos hw]
      exact ⟨v, h1, h4⟩
    · rw [if_neg hw] at h
      obtain ⟨a0, h3, h4⟩ := ih _ h
      refine ⟨a0, h3, ?_⟩
      unfold wpQuiet
      rw [if_neg hw]
      exact h4
theorem rel_last {Q : Exit → Act → World → Prop} {l : List Oper} {o : Oper} {a : Act} {w : World}
    (hdep : ((List.range l.length).all fun i => dep (l ++ [o]).toArray l.length i) = true) (hg : o.guard = none) (hd : o.dst = none)
    (h : wpQuiet P (l ++ [o]).toArray (fun w' => ∃ n, w' = w.drewN n) (fun a' => ∃ f : World → World, (∀ n, (execOp a'.eval o).run P (w.drewN n) = .ok .skip (f (w.drewN n))) ∧ ∀ n, Q .normal a' (f (w.drewN n))) l a) :
    ∃ C, C (fun _ => false) (fun _ => undef) w.drew ∧ wpRel P (l ++ [o]).toArray C (fun A => ∀ V L w', (∀ i, i < (l ++ [o]).length → L i = true) → C L V w' → Q .normal (A V) w') (l ++ [o]) 0 (fun _ => a) := by
  obtain ⟨a0, ⟨f, h1, h2⟩, h3⟩ := wpQuiet_one _ _ h
  refine ⟨Lst l.length (fun w' => ∃ n, w' = w.drewN n) (fun w' => ∃ n, w' = f (w.drewN n)), ⟨1, rfl⟩, ?_⟩
  refine wpQuiet_last l.length (fun i hi => List.all_eq_true.1 hdep i (List.mem_range.2 hi)) ?_ l 0 a (by simp) h3
  rintro a' rfl
  refine relk_do hg hd f (fun V L w' hL _ _ hc => ?_) (relk_end (n := (l ++ [o]).length) fun L V w' hL hc => ?_)
  · unfold Lst at hc ⊢
    rw [hL] at hc
    obtain ⟨n, rfl⟩ := (by simpa using hc : ∃ n, w' = w.drewN n)
    rw [upd_same]
    exact ⟨h1 n, ⟨n, rfl⟩⟩
  · unfold Lst at hc
    rw [hL l.length (by simp)] at hc
    obtain ⟨n, rfl⟩ := (by simpa using hc : ∃ n, w' = f (w.drewN n))
    exact h2 n
theorem cut_last {x : Oper} {ls : List Oper} : x :: ls = (x :: ls).dropLast ++ [(x :: ls).getLast (by simp)] := (List.dropLast_concat_getLast _).symm
theorem regionIn_last {F : Fence} (hF : Wide F) {Q : Exit → Act → World → Prop} {m : Nat} {id : Nat} {ls l : List Oper} {o : Oper} {a : Act} {w : World} (hm : P.follows .mixedOrders = true) (hE : early ls.toArray = true) (hA : apartOk ls.toArray = true) (hl : ls = l ++ [o])
    (hdep : ((List.range l.length).all fun i => dep ls.toArray l.length i) = true) (hg : o.guard = none) (hd : o.dst = none)
    (h : wpQuiet P ls.toArray (fun w' => ∃ n, w' = w.drewN n) (fun a' => ∃ f : World → World, (∀ n, (execOp a'.eval o).run P (w.drewN n) = .ok .skip (f (w.drewN n))) ∧ ∀ n, Q .normal a' (f (w.drewN n))) l a) :
    (Code.region id ls.toArray true).wpIn F m P Q a w := by
  subst hl
  obtain ⟨C, h0, h1⟩ := rel_last hdep hg hd h
  exact regionIn_rel hF hm hE hA C h0 (by simpa using h1)
theorem region_last {Q : Exit → Act → World → Prop} {id : Nat} {ls l : List Oper} {o : Oper} {a : Act} {w : World} (hm : P.follows .mixedOrders = true) (hE : early ls.toArray = true) (hA : apartOk ls.toArray = true) (hl : ls = l ++ [o])
    (hdep : ((List.range l.length).all fun i => dep ls.toArray l.length i) = true) (hg : o.guard = none) (hd : o.dst = none)
    (h : wpQuiet P ls.toArray (fun w' => ∃ n, w' = w.drewN n) (fun a' => ∃ f : World → World, (∀ n, (execOp a'.eval o).run P (w.drewN n) = .ok .skip (f (w.drewN n))) ∧ ∀ n, Q .normal a' (f (w.drewN n))) l a) :
    (Code.region id ls.toArray true).wp P Q a w := by
  subst hl
  obtain ⟨C, h0, h1⟩ := rel_last hdep hg hd h
  exact region_rel hm hE hA C h0 (by simpa using h1)
end Fam
end Go
namespace Go.Proofs.YtjnpchoinncbnaaGreat
open Go.RowKit Sw Fam
section
variable {ρ : Operand → Value} {o : Oper} {w : World}
theorem exec_load_int (x : Operand) (ho : o.op = .load 3 x) (ad : Addr) (hx : ρ x = .pointer (some ad)) {v : Value} (hc : w.cell? ad = some v) : (execOp ρ o).run Tryz.prog w = .ok (.value v) w := by
  unfold execOp
  simp only [ho, hx]
  go_simp
theorem exec_store_int (x y : Operand) (ho : o.op = .store 3 x y) (ad : Addr) (hx : ρ x = .pointer (some ad)) (z : Int) (hy : ρ y = .int .i64 z) {v : Value} (hc : w.cell? ad = some v) (hf : w.frozen? ad = false) : (execOp ρ o).run Tryz.prog w = .ok .skip (w.setCell ad (.int .i64 z)) := by
  unfold execOp
  simp only [ho, hx, hy]
  go_simp
end
end Go.Proofs.YtjnpchoinncbnaaGreat
end
