/- Proves parts of the statement, each under the conditions that its theorem states: Steps of a walk through a statement that leaves its order open; Regions of an open order that make several things: what each one made is found by its slot's value; Single operations, each as a law on its run; Frames by the slots that matter. -/
import Derived.Test.YtjnpchoinncbnaaP02
import Derived.Deep.MidRow
import Derived.Laws.IdiomCopy
import Derived.RangeFuncBound
section
set_option linter.unusedSimpArgs false
set_option linter.unusedVariables false
namespace Go
namespace Fam
def noCall : Op → Bool
  | .call { callee := .builtin .len, .. } => true
  | .call { callee := .builtin .min, .. } => true
  | .call { callee := .builtin .max, .. } => true
  | .nilCheck _ | .call _ | .go _ | .defer _ | .recv .. | .send .. | .select .. => false
  | _ => true
theorem value_no_enter {P : Program} {s : Sem Value} {w w' : World} {f : FuncId} {args : Array Value} (h : (do pure (Next.value (← s)) : Sem Next).run P w = .ok (.enter f args) w') : False := by
  rw [Sem.run_bind] at h
  cases hs : s.run P w with
  | ok v w1 => simp [hs, Result.andThen] at h
  | halt x w1 => simp [hs, Result.andThen] at h
theorem unit_no_enter {P : Program} {s : Sem Unit} {w w' : World} {f : FuncId} {args : Array Value} (h : (do s; pure Next.skip : Sem Next).run P w = .ok (.enter f args) w') : False := by
  rw [Sem.run_bind] at h
  cases hs : s.run P w with
  | ok v w1 => simp [hs, Result.andThen] at h
  | halt x w1 => simp [hs, Result.andThen] at h
theorem then_no_enter {r : Result Value} {w' : World} {f : FuncId} {args : Array Value} (h : (r.andThen fun a w => Result.ok (Next.value a) w) = .ok (.enter f args) w') : False := by
  cases r <;> simp [Result.andThen] at h
theorem exec_no_enter {P : Program} {o : Oper} (hc : noCall o.op = true) {ρ : Operand → Value} {w w' : World} {f : FuncId} {args : Array Value} (h : (execOp ρ o).run P w = .ok (.enter f args) w') : False := by
  obtain ⟨dst, op, ty, pos, after, guard⟩ := o
  cases op with
  | nilCheck x => simp [noCall] at hc
  | call c =>
    obtain ⟨callee, xs, ts⟩ := c
    cases callee with
    | builtin b =>
      cases b <;> simp [noCall] at hc <;> simp only [execOp, resolve, invoke, builtin, Sem.run_bind, Sem.run_pure, Result.andThen_ok] at h <;> exact then_no_enter h
    | _ => simp [noCall] at hc
  | go c => simp [noCall] at hc
  | defer c => simp [noCall] at hc
  | send c x => simp [noCall] at hc
  | recv c x y => simp [noCall] at hc
  | select c x => simp [noCall] at hc
  | move x => simp [execOp] at h
  | assign x => simp [execOp] at h
  | pick c a b =>
    simp only [execOp, Sem.run_bind] at h
    cases hb : (asBool (ρ c)).run P w with
    | ok v w1 => simp [hb, Result.andThen] at h
    | halt x w1 => simp [hb, Result.andThen] at h
  | _ => first | exact value_no_enter h | exact unit_no_enter h

variable {P : Program} {ops : Array Oper} {C : (Nat → Bool) → (Nat → Value) → World → Prop} {R : ((Nat → Value) → Act) → Prop} {o : Oper} {rest : List Oper} {i : Nat}
theorem rel_quiet {a : Act} (hn : noCall o.op = true) (hC : ∀ L V w, C L V w → C (upd L i) V w)
    (h : ∀ K : Act → Prop, (∀ a', wpRel P ops C R rest (i + 1) (fun _ => a') → K a') → if Region.wanted o (yielded ops a.tmps) then o.quiet P a (fun _ => True) K else K (a.put o.dst undef)) :
    wpRel P ops C R (o :: rest) i (fun _ => a) := by
  have := h _ (fun _ h => h)
  unfold wpRel
  by_cases hw : Region.wanted o (yielded ops a.tmps) = true
  · rw [if_pos hw] at this
    obtain ⟨v, h1, h2⟩ := this
    refine .inl ⟨fun _ => hw, .inl ⟨v, fun V L w _ _ _ hc => ?_, h2⟩⟩
    have h3 := h1 w trivial
    unfold Oper.quietAt at h3
    cases hr : (execOp a.eval o).run P w with
    | halt x w' => rw [hr] at h3; exact h3.elim
    | ok n w' =>
      rw [hr] at h3
      cases n <;> simp only [Oper.quietUpon] at h3 <;> simp only [upon]
      case value u => obtain ⟨rfl, e⟩ := h3; exact ⟨e, hC _ _ _ hc⟩
      case skip => obtain ⟨rfl, e⟩ := h3; exact ⟨e.symm, hC _ _ _ hc⟩
      case enter f args => exact (exec_no_enter hn hr).elim
  · rw [if_neg hw] at this
    exact .inr ⟨fun _ => by simpa using hw, fun V L w _ hc => hC _ _ _ hc, this⟩
theorem rel_fix {A : (Nat → Value) → Act} (hg : o.guard = none) (v : Value) (hx : fixAt P ops C i o A v) (h : wpRel P ops C R rest (i + 1) (fun V => (A V).put o.dst v)) : wpRel P ops C R (o :: rest) i A := by
  unfold wpRel
  exact .inl ⟨fun V => by simp [Region.wanted, hg], .inl ⟨v, hx, h⟩⟩
theorem rel_free {A : (Nat → Value) → Act} (hg : o.guard = none) (hx : freeAt P ops C i o A) (h : wpRel P ops C R rest (i + 1) (fun V => (A V).put o.dst (V i))) : wpRel P ops C R (o :: rest) i A := by
  unfold wpRel
  exact .inl ⟨fun V => by simp [Region.wanted, hg], .inr ⟨hx, h⟩⟩
theorem rel_val {A : (Nat → Value) → Act} (hg : o.guard = none) (v : Value) (hC : ∀ L V w, C L V w → C (upd L i) V w)
    (hx : ∀ V L w, L i = false → Waits o L → Cl ops L → C L V w → (execOp (A V).eval o).run P w = .ok (.value v) w) (h : wpRel P ops C R rest (i + 1) (fun V => (A V).put o.dst v)) : wpRel P ops C R (o :: rest) i A :=
  rel_fix hg v (fun V L w h1 h2 h3 h4 => by rw [hx V L w h1 h2 h3 h4]; exact ⟨rfl, hC _ _ _ h4⟩) h
theorem rel_nilCheck {a : Act} (hg : o.guard = none) (x : Operand) (ho : o.op = .nilCheck x) (ad : Addr) (hx : a.eval x = .pointer (some ad)) (hC : ∀ L V w, C L V w → C (upd L i) V w)
    (h : wpRel P ops C R rest (i + 1) (fun _ => a.put o.dst (.pointer (some ad)))) : wpRel P ops C R (o :: rest) i (fun _ => a) :=
  rel_val hg _ hC (fun _ _ w _ _ _ _ => by unfold execOp; simp [ho, hx]) h
theorem relq {a : Act} (hn : noCall o.op = true) (hw : Region.wanted o (yielded ops a.tmps) = true) (hC : ∀ L V w, C L V w → C (upd L i) V w)
    (h : ∀ K : Act → Prop, (∀ a', wpRel P ops C R rest (i + 1) (fun _ => a') → K a') → o.quiet P a (fun _ => True) K) : wpRel P ops C R (o :: rest) i (fun _ => a) :=
  rel_quiet hn hC fun K hK => by rw [if_pos hw]; exact h K hK
theorem relskip {a : Act} (hn : noCall o.op = true) (hw : Region.wanted o (yielded ops a.tmps) = false) (hC : ∀ L V w, C L V w → C (upd L i) V w)
    (h : ∀ K : Act → Prop, (∀ a', wpRel P ops C R rest (i + 1) (fun _ => a') → K a') → K (a.put o.dst undef)) : wpRel P ops C R (o :: rest) i (fun _ => a) :=
  rel_quiet hn hC fun K hK => by rw [if_neg (by rw [hw]; simp)]; exact h K hK
theorem relk_end {Q : Exit → Act → World → Prop} {n : Nat} {a : Act} (h : ∀ L V w', (∀ i, i < n → L i = true) → C L V w' → Q .normal a w') :
    wpRel P ops C (fun A => ∀ V L w', (∀ i, i < n → L i = true) → C L V w' → Q .normal (A V) w') [] i (fun _ => a) := fun V L w' h1 h2 => h L V w' h1 h2
theorem rel_of_reads {D : World → Prop} {Qa : Act → Prop} {n : Nat} {Q : Exit → Act → World → Prop} (hQ : ∀ a, Qa a → ∀ w', D w' → Q .normal a w') : ∀ (l : List Oper) (i : Nat) (a : Act), wpQuiet P ops D Qa l a →
    wpRel P ops (fun _ _ w' => D w') (fun A => ∀ V (L : Nat → Bool) w', (∀ i, i < n → L i = true) → D w' → Q .normal (A V) w') l i (fun _ => a) := by
  intro l
  induction l with
  | nil => exact fun i a h V L w' _ hD => hQ _ h _ hD
  | cons o l ih =>
    intro i a h
    unfold wpQuiet at h
    unfold wpRel
    by_cases hw : Region.wanted o (yielded ops a.tmps) = true
    · rw [if_pos hw] at h
      obtain ⟨v, h1, h2⟩ := h
      refine .inl ⟨fun _ => hw, .inl ⟨v, fun V L w _ _ _ hc => ?_, ih _ _ h2⟩⟩
      have h3 := h1 w hc
      unfold Oper.quietAt at h3
      cases hr : (execOp a.eval o).run P w with
      | halt x w' => rw [hr] at h3; exact h3.elim
      | ok n w' =>
        rw [hr] at h3
        cases n <;> simp only [Oper.quietUpon] at h3 <;> simp only [upon]
        case value u => obtain ⟨rfl, e⟩ := h3; exact ⟨e, hc⟩
        case skip => obtain ⟨rfl, e⟩ := h3; exact ⟨e.symm, hc⟩
        case enter f args =>
          obtain ⟨rfl, hcall⟩ := h3
          exact hcall.mono fun e w'' ⟨e1, e2⟩ => ⟨v, e1, rfl, e2⟩
    · rw [if_neg hw] at h
      exact .inr ⟨fun _ => by simpa using hw, fun V L w _ hc => hc, ih _ _ h⟩
theorem regionIn_reads {F : Fence} (hF : Wide F) {Q : Exit → Act → World → Prop} {m : Nat} {id : Nat} {l : List Oper} {a : Act} {w : World} (hm : P.follows .mixedOrders = true) (hE : early l.toArray = true) (hA : apartOk l.toArray = true)
    (h : wpQuiet P l.toArray (fun w' => ∃ n, w' = w.drewN n) (fun a' => ∀ w', (∃ n, w' = w.drewN n) → Q .normal a' w') l a) : (Code.region id l.toArray true).wpIn F m P Q a w :=
  regionIn_rel hF hm hE hA (fun _ _ w' => ∃ n, w' = w.drewN n) ⟨1, rfl⟩ (rel_of_reads (fun _ h => h) l 0 a h)
def dep (ops : Array Oper) (j i : Nat) : Bool := ((ops[j]?).map fun o => o.after.any fun e => Region.binds .any e && e.on == i).getD false
theorem Cl.not {L : Nat → Bool} (hc : Cl ops L) {j i : Nat} (h : dep ops j i = true) (hi : L i = false) : L j = false := by
  cases hj : L j with
  | false => rfl
  | true =>
    unfold dep at h
    cases ho : ops[j]? with
    | none => rw [ho] at h; simp at h
    | some o =>
      rw [ho] at h
      simp only [Option.map_some, Option.getD_some] at h
      obtain ⟨e, he, hb⟩ := Array.any_eq_true'.1 h
      simp only [Bool.and_eq_true, beq_iff_eq] at hb
      have := hc j o ho hj e he hb.1
      rw [hb.2, hi] at this
      cases this
def Lst (n : Nat) (D E : World → Prop) (L : Nat → Bool) (_ : Nat → Value) (w : World) : Prop := if L n then E w else D w
theorem Lst.up {n : Nat} {D E : World → Prop} {L : Nat → Bool} {V : Nat → Value} {w : World} {i : Nat} (hi : i ≠ n) (h : Lst n D E L V w) : Lst n D E (upd L i) V w := by
  unfold Lst at *
  rw [upd_ne _ (fun e => hi e.symm)]
  exact h
theorem wpQuiet_last {D E : World → Prop} {Qa : Act → Prop} {R : ((Nat → Value) → Act) → Prop} {o : Oper} (n : Nat) (hdep : ∀ i, i < n → dep ops n i = true)
    (hQ : ∀ a, Qa a → wpRel P ops (Lst n D E) R [o] n (fun _ => a)) : ∀ (l : List Oper) (i : Nat) (a : Act), i + l.length = n → wpQuiet P ops D Qa l a → wpRel P ops (Lst n D E) R (l ++ [o]) i (fun _ => a) := by
  intro l
  induction l with
  | nil =>
    intro i a hi h
    have : i = n := by simpa using hi
    subst this
    exact hQ _ h
  | cons o' l ih =>
    intro i a hi h
    simp only [List.length_cons] at hi
    unfold wpQuiet at h
    rw [List.cons_append]
    unfold wpRel
    by_cases hw : Region.wanted o' (yielded ops a.tmps) = true
    · rw [if_pos hw] at h
      obtain ⟨v, h1, h2⟩ := h
      refine .inl ⟨fun _ => hw, .inl ⟨v, fun V L w hL _ hc hc2 => ?_, ih _ _ (by omega) h2⟩⟩
      have hn := hc.not (hdep i (by omega)) hL
      have hd : D w := by unfold Lst at hc2; rw [hn] at hc2; simpa using hc2
      have hd2 : ∀ w', D w' → Lst n D E (upd L i) V w' := fun w' h => by
        unfold Lst; rw [upd_ne _ (show n ≠ i by omega), hn]; simpa using h
      have h3 := h1 w hd
      unfold Oper.quietAt at h3
      cases hr : (execOp a.eval o').run P w with
      | halt x w' => rw [hr] at h3; exact h3.elim
      | ok n w' =>
        rw [hr] at h3
        cases n <;> simp only [Oper.quietUpon] at h3 <;> simp only [upon]
        case value u => obtain ⟨rfl, e⟩ := h3; exact ⟨e, hd2 _ hd⟩
        case skip => obtain ⟨rfl, e⟩ := h3; exact ⟨e.symm, hd2 _ hd⟩
        case enter f args =>
          obtain ⟨rfl, hcall⟩ := h3
          exact hcall.mono fun e w'' ⟨e1, e2⟩ => ⟨v, e1, rfl, hd2 _ e2⟩
    · rw [if_neg hw] at h
      exact .inr ⟨fun _ => by simpa using hw, fun V L w hL hc => hc.up (by omega), ih _ _ (by omega) h⟩
theorem relk_val {a : Act} (hg : o.guard = none) (v : Value) (hC : ∀ L V w, C L V w → C (upd L i) V w)
    (hx : ∀ V L w, L i = false → Waits o L → Cl ops L → C L V w → (execOp a.eval o).run P w = .ok (.value v) w) (h : ∀ K : Act → Prop, (∀ a', wpRel P ops C R rest (i + 1) (fun _ => a') → K a') → K (a.put o.dst v)) :
    wpRel P ops C R (o :: rest) i (fun _ => a) := rel_val hg v hC hx (h _ fun _ h => h)
theorem relk_fix {a : Act} (hg : o.guard = none) (v : Value) (hx : fixAt P ops C i o (fun _ => a) v) (h : ∀ K : Act → Prop, (∀ a', wpRel P ops C R rest (i + 1) (fun _ => a') → K a') → K (a.put o.dst v)) :
    wpRel P ops C R (o :: rest) i (fun _ => a) := rel_fix hg v hx (h _ fun _ h => h)
theorem relk_nil {a : Act} (hg : o.guard = none) (x : Operand) (ho : o.op = .nilCheck x) (ad : Addr) (hx : a.eval x = .pointer (some ad)) (hC : ∀ L V w, C L V w → C (upd L i) V w)
    (h : ∀ K : Act → Prop, (∀ a', wpRel P ops C R rest (i + 1) (fun _ => a') → K a') → K (a.put o.dst (.pointer (some ad)))) : wpRel P ops C R (o :: rest) i (fun _ => a) := rel_nilCheck hg x ho ad hx hC (h _ fun _ h => h)
theorem relk_do {a : Act} (hg : o.guard = none) (hd : o.dst = none) (f : World → World) (hx : ∀ V L w, L i = false → Waits o L → Cl ops L → C L V w → (execOp a.eval o).run P w = .ok .skip (f w) ∧ C (upd L i) V (f w))
    (h : wpRel P ops C R rest (i + 1) (fun _ => a)) : wpRel P ops C R (o :: rest) i (fun _ => a) := by
  refine rel_fix hg undef (fun V L w h1 h2 h3 h4 => ?_) (by simpa [hd, Act.put] using h)
  obtain ⟨e1, e2⟩ := hx V L w h1 h2 h3 h4
  rw [e1]
  exact ⟨rfl, e2⟩
theorem wpQuiet_one {D : World → Prop} {Qa : Act → Prop} : ∀ (l : List Oper) (a : Act), wpQuiet P ops D Qa l a → ∃ a0, Qa a0 ∧ wpQuiet P ops D (fun a' => a' = a0) l a := by
  intro l
  induction l with
  | nil => intro a h; exact ⟨a, h, rfl⟩
  | cons o l ih =>
    intro a h
    unfold wpQuiet at h
    by_cases hw : Region.wanted o (yielded ops a.tmps) = true
    · rw [if_pos hw] at h
      obtain ⟨v, h1, h2⟩ := h
      obtain ⟨a0, h3, h4⟩ := ih _ h2
      refine ⟨a0, h3, ?_⟩
      unfold wpQuiet
      rw [if_pos hw]
      exact ⟨v, h1, h4⟩
    · rw [if_neg hw] at h
      obtain ⟨a0, h3, h4⟩ := ih _ h
      refine ⟨a0, h3, ?_⟩
      unfold wpQuiet
      rw [if_neg hw]
      exact h4
theorem rel_last {Q : Exit → Act → World → Prop} {l : List Oper} {o : Oper} {a : Act} {w : World}
    (hdep : ((List.range l.length).all fun i => dep (l ++ [o]).toArray l.length i) = true) (hg : o.guard = none) (hd : o.dst = none)
    (h : wpQuiet P (l ++ [o]).toArray (fun w' => ∃ n, w' = w.drewN n) (fun a' => ∃ f : World → World, (∀ n, (execOp a'.eval o).run P (w.drewN n) = .ok .skip (f (w.drewN n))) ∧ ∀ n, Q .normal a' (f (w.drewN n))) l a) :
    ∃ C, C (fun _ => false) (fun _ => undef) w.drew ∧ wpRel P (l ++ [o]).toArray C (fun A => ∀ V L w', (∀ i, i < (l ++ [o]).length → L i = true) → C L V w' → Q .normal (A V) w') (l ++ [o]) 0 (fun _ => a) := by
  obtain ⟨a0, ⟨f, h1, h2⟩, h3⟩ := wpQuiet_one _ _ h
  refine ⟨Lst l.length (fun w' => ∃ n, w' = w.drewN n) (fun w' => ∃ n, w' = f (w.drewN n)), ⟨1, rfl⟩, ?_⟩
  refine wpQuiet_last l.length (fun i hi => List.all_eq_true.1 hdep i (List.mem_range.2 hi)) ?_ l 0 a (by simp) h3
  rintro a' rfl
  refine relk_do hg hd f (fun V L w' hL _ _ hc => ?_) (relk_end (n := (l ++ [o]).length) fun L V w' hL hc => ?_)
  · unfold Lst at hc ⊢
    rw [hL] at hc
    obtain ⟨n, rfl⟩ := (by simpa using hc : ∃ n, w' = w.drewN n)
    rw [upd_same]
    exact ⟨h1 n, ⟨n, rfl⟩⟩
  · unfold Lst at hc
    rw [hL l.length (by simp)] at hc
    obtain ⟨n, rfl⟩ := (by simpa using hc : ∃ n, w' = f (w.drewN n))
    exact h2 n
theorem cut_last {x : Oper} {ls : List Oper} : x :: ls = (x :: ls).dropLast ++ [(x :: ls).getLast (by simp)] := (List.dropLast_concat_getLast _).symm
theorem regionIn_last {F : Fence} (hF : Wide F) {Q : Exit → Act → World → Prop} {m : Nat} {id : Nat} {ls l : List Oper} {o : Oper} {a : Act} {w : World} (hm : P.follows .mixedOrders = true) (hE : early ls.toArray = true) (hA : apartOk ls.toArray = true) (hl : ls = l ++ [o])
    (hdep : ((List.range l.length).all fun i => dep ls.toArray l.length i) = true) (hg : o.guard = none) (hd : o.dst = none)
    (h : wpQuiet P ls.toArray (fun w' => ∃ n, w' = w.drewN n) (fun a' => ∃ f : World → World, (∀ n, (execOp a'.eval o).run P (w.drewN n) = .ok .skip (f (w.drewN n))) ∧ ∀ n, Q .normal a' (f (w.drewN n))) l a) :
    (Code.region id ls.toArray true).wpIn F m P Q a w := by
  subst hl
  obtain ⟨C, h0, h1⟩ := rel_last hdep hg hd h
  exact regionIn_rel hF hm hE hA C h0 (by simpa using h1)
theorem region_last {Q : Exit → Act → World → Prop} {id : Nat} {ls l : List Oper} {o : Oper} {a : Act} {w : World} (hm : P.follows .mixedOrders = true) (hE : early ls.toArray = true) (hA : apartOk ls.toArray = true) (hl : ls = l ++ [o])
    (hdep : ((List.range l.length).all fun i => dep ls.toArray l.length i) = true) (hg : o.guard = none) (hd : o.dst = none)
    (h : wpQuiet P ls.toArray (fun w' => ∃ n, w' = w.drewN n) (fun a' => ∃ f : World → World, (∀ n, (execOp a'.eval o).run P (w.drewN n) = .ok .skip (f (w.drewN n))) ∧ ∀ n, Q .normal a' (f (w.drewN n))) l a) :
    (Code.region id ls.toArray true).wp P Q a w := by
  subst hl
  obtain ⟨C, h0, h1⟩ := rel_last hdep hg hd h
  exact region_rel hm hE hA C h0 (by simpa using h1)
end Fam
end Go
namespace Go.Proofs.Ytjnpchoinncbnaa
open Go.RowKit Sw Fam
section
variable {ρ : Operand → Value} {o : Oper} {w : World}
theorem exec_load_int (x : Operand) (ho : o.op = .load 3 x) (ad : Addr) (hx : ρ x = .pointer (some ad)) {v : Value} (hc : w.cell? ad = some v) : (execOp ρ o).run Try.prog w = .ok (.value v) w := by
  unfold execOp
  simp only [ho, hx]
  go_simp
theorem exec_load_slice (x : Operand) (ho : o.op = .load 22 x) (ad : Addr) (hx : ρ x = .pointer (some ad)) {v : Value} (hc : w.cell? ad = some v) : (execOp ρ o).run Try.prog w = .ok (.value v) w := by
  unfold execOp
  simp only [ho, hx]
  go_simp
theorem exec_store_int (x y : Operand) (ho : o.op = .store 3 x y) (ad : Addr) (hx : ρ x = .pointer (some ad)) (z : Int) (hy : ρ y = .int .i64 z) {v : Value} (hc : w.cell? ad = some v) (hf : w.frozen? ad = false) : (execOp ρ o).run Try.prog w = .ok .skip (w.setCell ad (.int .i64 z)) := by
  unfold execOp
  simp only [ho, hx, hy]
  go_simp
end
end Go.Proofs.Ytjnpchoinncbnaa
end

section
set_option linter.unusedSimpArgs false
set_option linter.unusedVariables false
namespace Go
namespace Fam
open RowKit
variable {P : Program} {ops : Array Oper} {o : Oper} {rest : List Oper} {i : Nat}
structure GrT (ops : Array Oper) (T : (Nat → Value) → Nat → World → Prop) : Prop where
  keep : ∀ V j w w', T V j w → Below w.heap.size w w' → T V j w'
  set : ∀ L V w i u j, L i = false → Cl ops L → L j = true → T V j w → T (setV V i u) j w
def Ahead (ops : Array Oper) (fin : (Nat → Bool) → Bool) (i : Nat) : Prop := (∀ L, L i = false → Cl ops L → fin L = false) ∧ ∀ L, fin (upd L i) = fin L
theorem ahead_none (i : Nat) : Ahead ops (fun _ => false) i := ⟨fun _ _ _ => rfl, fun _ => rfl⟩
theorem ahead_last {n : Nat} (h : (dep ops n i && decide (i ≠ n)) = true) : Ahead ops (fun L => L n) i := by
  rw [Bool.and_eq_true, decide_eq_true_eq] at h
  exact ⟨fun L hL hc => hc.not h.1 hL, fun L => upd_ne _ (fun e => h.2 e.symm)⟩
def GrC (B : Nat) (w0 : World) (fin : (Nat → Bool) → Bool) (T : (Nat → Value) → Nat → World → Prop) (E : (Nat → Value) → World → Prop) (L : Nat → Bool) (V : Nat → Value) (w : World) : Prop :=
  if fin L = true then E V w else Below B w0 w ∧ ∀ j, L j = true → T V j w
section
variable {B : Nat} {w0 : World} {fin : (Nat → Bool) → Bool} {T : (Nat → Value) → Nat → World → Prop} {E : (Nat → Value) → World → Prop} {R : ((Nat → Value) → Act) → Prop} {A : (Nat → Value) → Act}
theorem GrC.before {L : Nat → Bool} {V : Nat → Value} {w : World} (hn : fin L = false) (h : GrC B w0 fin T E L V w) : Below B w0 w ∧ ∀ j, L j = true → T V j w := by
  unfold GrC at h; rw [hn] at h; simpa using h
theorem GrC.start {V : Nat → Value} (hn : fin (fun _ => false) = false) {w : World} (h : Below B w0 w) : GrC B w0 fin T E (fun _ => false) V w := by
  unfold GrC; rw [hn, if_neg (by simp)]; exact ⟨h, fun _ h => by cases h⟩
theorem GrC.up {L : Nat → Bool} {V : Nat → Value} {w : World} (hi : ∀ L, fin (upd L i) = fin L) (hT : ∀ V w, T V i w) (h : GrC B w0 fin T E L V w) : GrC B w0 fin T E (upd L i) V w := by
  unfold GrC at *
  rw [hi]
  split
  · rename_i hl; rw [if_pos hl] at h; exact h
  · rename_i hl
    rw [if_neg hl] at h
    refine ⟨h.1, fun j hj => ?_⟩
    by_cases e : j = i
    · subst e; exact hT _ _
    · rw [upd_ne _ e] at hj; exact h.2 j hj
theorem gr_fix (hi : Ahead ops fin i) (hg : o.guard = none) (v : Value) (hT : ∀ V w, T V i w) (hx : ∀ V w, Below B w0 w → (execOp (A V).eval o).run P w = .ok (.value v) w)
    (h : wpRel P ops (GrC B w0 fin T E) R rest (i + 1) (fun V => (A V).put o.dst v)) : wpRel P ops (GrC B w0 fin T E) R (o :: rest) i A :=
  rel_fix hg v (fun V L w hL _ hc hC => by
    have hn := hi.1 L hL hc
    rw [hx V w (hC.before hn).1]
    exact ⟨rfl, hC.up hi.2 hT⟩) h
theorem gr_free (hG : GrT ops T) (hi : Ahead ops fin i) (hB : B ≤ w0.heap.size) (hg : o.guard = none)
    (hx : ∀ V L w, Below B w0 w → (∀ j, L j = true → T V j w) → Waits o L → upon P (fun u w' => Below w.heap.size w w' ∧ ∀ V', (∀ j, j ≠ i → V' j = V j) → V' i = u → T V' i w') ((execOp (A V).eval o).run P w))
    (h : wpRel P ops (GrC B w0 fin T E) R rest (i + 1) (fun V => (A V).put o.dst (V i))) : wpRel P ops (GrC B w0 fin T E) R (o :: rest) i A := by
  refine rel_free hg (fun V L w hL hw hc hC => ?_) h
  have hn := hi.1 L hL hc
  obtain ⟨h1, h2⟩ := hC.before hn
  refine upon_mono (fun u w' ⟨k1, k2⟩ => ?_) (hx V L w h1 h2 hw)
  unfold GrC
  rw [hi.2, hn, if_neg (by simp)]
  refine ⟨h1.trans (k1.mono (Nat.le_trans hB h1.size)), fun j hj => ?_⟩
  by_cases e : j = i
  · subst e
    exact k2 _ (fun j hj => setV_ne _ _ hj) (setV_same _ _ _)
  · rw [upd_ne _ e] at hj
    exact hG.keep _ _ _ _ (hG.set L V w i u j hL hc hj (h2 j hj)) k1
theorem gr_last {n : Nat} (hg : o.guard = none) (hd : o.dst = none)
    (hx : ∀ V w, Below B w0 w → (∀ j, j < n → T V j w) → upon P (fun u w' => u = undef ∧ E V w') ((execOp (A V).eval o).run P w))
    (hw : ∀ j, j < n → dep ops n j = true) (ho : ops[n]? = some o) {Q : Exit → Act → World → Prop} (hE : ∀ V w, E V w → Q .normal (A V) w) {m : Nat} (hm : n < m) :
    wpRel P ops (GrC B w0 (fun L => L n) T E) (fun A => ∀ V (L : Nat → Bool) w', (∀ i, i < m → L i = true) → GrC B w0 (fun L => L n) T E L V w' → Q .normal (A V) w') [o] n A := by
  refine rel_fix hg undef (fun V L w hL hwt hc hC => ?_) ?_
  · obtain ⟨h1, h2⟩ := hC.before hL
    have hall : ∀ j, j < n → T V j w := fun j hj => by
      refine h2 j ?_
      cases hLj : L j with
      | true => rfl
      | false =>
        have := hw j hj
        unfold dep at this
        rw [ho] at this
        simp only [Option.map_some, Option.getD_some] at this
        obtain ⟨e, he, hb⟩ := Array.any_eq_true'.1 this
        simp only [Bool.and_eq_true, beq_iff_eq] at hb
        have := hwt e he hb.1
        rw [hb.2, hLj] at this
        cases this
    refine upon_mono (fun u w' ⟨k1, k2⟩ => ⟨k1, ?_⟩) (hx V w h1 hall)
    unfold GrC
    rw [if_pos (upd_same L n)]
    exact k2
  · intro V L w' hL hC
    unfold GrC at hC
    rw [if_pos (hL n hm)] at hC
    have := hE V w' hC
    rw [hd]
    exact this
theorem gr_end {Q : Exit → Act → World → Prop} {n m : Nat} (h : ∀ V w, Below B w0 w → (∀ j, j < m → T V j w) → Q .normal (A V) w) :
    wpRel P ops (GrC B w0 (fun _ => false) T E) (fun A => ∀ V (L : Nat → Bool) w', (∀ i, i < m → L i = true) → GrC B w0 (fun _ => false) T E L V w' → Q .normal (A V) w') [] n A := by
  intro V L w' hL hC
  obtain ⟨h1, h2⟩ := hC.before rfl
  exact h V w' h1 fun j hj => h2 j (hL j hj)
end
end Fam
end Go
end

section
set_option linter.unusedSimpArgs false
set_option linter.unusedVariables false
namespace Go
namespace Fam
open RowKit
variable {P : Program} {ρ : Operand → Value} {o : Oper} {w : World}
theorem ex_loadN (ty : TypeId) (x : Operand) (ho : o.op = .load ty x) (b k : Nat) (hx : ρ x = .pointer (some ⟨b, k, none⟩)) (cs : List Value) (d : TypeDesc) (hc : w.rangeAt b k cs)
    (hu : P.underlying ty = some d) (hd : d.isRow = true) (hi : (P.info? ty).map (·.size) = some cs.length) : (execOp ρ o).run P w = .ok (.value (.agg cs.toArray)) w := by
  unfold execOp
  simp only [ho, hx, Sem.run_bind, run_loadAt_mid w b k ty cs d hc hu hd hi, Result.andThen_ok, Sem.run_pure]
theorem ex_load1 (ty : TypeId) (x : Operand) (ho : o.op = .load ty x) (ad : Addr) (hx : ρ x = .pointer (some ad)) {v : Value} (hc : w.cell? ad = some v) (d : TypeDesc)
    (hu : P.underlying ty = some d) (hd : d.isRow = false) : (execOp ρ o).run P w = .ok (.value v) w := by
  have hagg : (isAgg ty).run P w = .ok false w := by
    unfold isAgg
    rw [Sem.run_bind, run_underlying hu w]
    cases d <;> simp_all
  unfold execOp
  simp only [ho, hx, Instr.loadAt, Instr.sureAddr, Sem.run_bind, Sem.run_pure, Result.andThen_ok, loadVar, hagg]
  simp [hc]
theorem ex_storeN (ty : TypeId) (x y : Operand) (ho : o.op = .store ty x y) (b k : Nat) (cells : Array Value) (hx : ρ x = .pointer (some ⟨b, k, none⟩)) (hy : ρ y = .agg cells)
    (ht : w.there b k cells.size) (hi : (P.info? ty).map (·.size) = some cells.size) (h1 : cells.all (·.oneCell') = true) : (execOp ρ o).run P w = .ok .skip (w.setCells b k cells.toList) := by
  unfold execOp
  simp only [ho, hx, hy, Sem.run_bind, run_storeAt_mid w b k ty cells ht hi h1, Result.andThen_ok, Sem.run_pure]
theorem ex_store1 (ty : TypeId) (x y : Operand) (ho : o.op = .store ty x y) (b k : Nat) (v : Value) (hx : ρ x = .pointer (some ⟨b, k, none⟩)) (hy : ρ y = v)
    {u : Value} (hc : w.cell? ⟨b, k, none⟩ = some u) (hf : w.frozen? ⟨b, k, none⟩ = false) (hi : (P.info? ty).map (·.size) = some 1) (h1 : v.oneCell' = true) (h2 : v.cells = #[v]) : (execOp ρ o).run P w = .ok .skip (w.setCell ⟨b, k, none⟩ v) := by
  have hst := run_storeCells_cells (P := P) b k [v] 0 w (fun j hj => by
    have : j = 0 := by simpa using hj
    subst this; simp [hc]) (fun j hj => by
    have : j = 0 := by simpa using hj
    subst this; simpa using hf) (fun v' hv => by simp at hv; subst hv; exact h1)
  cases hq : P.info? ty with
  | none => simp [hq] at hi
  | some i =>
    have hs : i.size = 1 := by simpa [hq] using hi
    unfold execOp
    simp only [ho, hx, hy, Instr.storeAt, Instr.sureAddr, Sem.run_bind, Sem.run_pure, Result.andThen_ok]
    simp only [Nat.add_zero] at hst
    simp [storeVar, sizeOf, typeInfo, hq, h2, hs, hst, World.setCells]
theorem ex_alloc (ty : TypeId) (ho : o.op = .alloc ty) {z : Value} (hz : (P.info? ty).map (·.zero) = some (some z)) : (execOp ρ o).run P w = .ok (.value (.pointer (some ⟨w.heap.size, 0, none⟩))) (w.alloc (.cells z.cells ty)) := by
  unfold execOp
  simp only [ho, Sem.run_bind]
  cases hq : P.info? ty with
  | none => simp [hq] at hz
  | some i =>
    have hs : i.zero = some z := by simpa [hq] using hz
    simp [Instr.alloc, zeroValue, typeInfo, hq, hs, newVar, newRow]
theorem ex_box (ty : TypeId) (x : Operand) (ho : o.op = .box ty x) {v : Value} (hx : ρ x = v) : (execOp ρ o).run P w = .ok (.value (.pointer (some ⟨w.heap.size, 0, none⟩))) (w.alloc (.cells v.cells ty)) := by
  unfold execOp
  simp only [ho, hx, Sem.run_bind]
  simp [Instr.box, newVar, newRow]
theorem ex_make (ty : TypeId) (x y : Operand) (ho : o.op = .makeSlice ty x y) {a b v : Value} {w' : World} (hx : ρ x = a) (hy : ρ y = b) (h : (Instr.makeSlice ty a b).run P w = .ok v w') : (execOp ρ o).run P w = .ok (.value v) w' := by
  unfold execOp
  simp only [ho, hx, hy, Sem.run_bind, h, Result.andThen_ok, Sem.run_pure]
theorem cellB {w0 w : World} (hb : Below w0.heap.size w0 w) {ad : Addr} {v : Value} (h : w0.cell? ad = some v) : w.cell? ad = some v := (hb.cell (World.block_lt_of_cell? w0 ad h)).trans h
theorem below_setCells {B b : Nat} {a : World} (hb : B ≤ b) : ∀ (vs : List Value) (o : Nat) (w : World), Below B a w → Below B a (w.setCells b o vs) := by
  intro vs
  induction vs with
  | nil => intro o w h; exact h
  | cons v vs ih => intro o w h; rw [World.setCells]; exact ih _ _ (h.setCell hb _)
theorem rangeAt_setCells {b k : Nat} {vs : List Value} {w : World} (h : ∀ j, j < vs.length → (w.cell? ⟨b, k + j, none⟩).isSome = true) : (w.setCells b k vs).rangeAt b k vs := fun j v hj => by
  obtain ⟨h1, h2⟩ := List.getElem?_eq_some_iff.1 hj
  rw [World.cell?_setCells_in b vs k w h j h1, h2]
theorem block_cell {w : World} {b : Nat} {cs : Array Value} {t : TypeId} (h : w.heap[b]? = some (.cells cs t (0, 0))) {j : Nat} (hj : j < cs.size) : w.cell? ⟨b, j, none⟩ = some cs[j] := by
  simp [World.cell?, h, hj]
theorem block_there {w : World} {b : Nat} {cs : Array Value} {t : TypeId} (h : w.heap[b]? = some (.cells cs t (0, 0))) {n : Nat} (hn : n ≤ cs.size) : w.there b 0 n := fun j hj => by
  rw [Nat.zero_add]
  exact ⟨by rw [block_cell h (by omega)]; rfl, by simp [World.frozen?, h]⟩
theorem rangeAt_keep {w w' : World} {b k : Nat} {cs : List Value} (h : w.rangeAt b k cs) (hb : Below w.heap.size w w') : w'.rangeAt b k cs := fun j v hj => by
  have h1 := h j v hj
  exact (hb.cell (World.block_lt_of_cell? w _ h1)).trans h1
end Fam
end Go
end

section
namespace Go
namespace Fam
def frAll : List (Nat × Value) → Act → Prop
  | [], _ => True
  | (j, v) :: r, a => a.tmps.getD j undef = v ∧ frAll r a
def FrD (n : Nat) (ds : List Deferred) (l : List (Nat × Value)) (a : Act) : Prop := a.tmps.size = n ∧ a.defers = ds ∧ frAll l a
abbrev Fr (n : Nat) (l : List (Nat × Value)) (a : Act) : Prop := FrD n [] l a
def look (l : List (Nat × Value)) (j : Nat) (d : Value) : Value := match l with
  | [] => d
  | (k, v) :: r => bif Nat.beq k j then v else look r j d
def frL (n : Nat) (l : List (Nat × Value)) (u : Nat → Value) : Array Value := ((List.range n).map fun j => look l j (u j)).toArray
theorem look_eq {l : List (Nat × Value)} {a : Act} (h : frAll l a) (j : Nat) : look l j (a.tmps.getD j undef) = a.tmps.getD j undef := by
  induction l with
  | nil => rfl
  | cons p r ih =>
    obtain ⟨k, v⟩ := p
    obtain ⟨h1, h2⟩ := h
    unfold look
    cases hb : Nat.beq k j with
    | true =>
      have := Nat.eq_of_beq_eq_true hb
      subst this
      exact h1.symm
    | false => exact ih h2
theorem FrD.open {n : Nat} {ds : List Deferred} {l : List (Nat × Value)} {a : Act} (h : FrD n ds l a) : ∃ u, a = ⟨frL n l u, ds⟩ := by
  refine ⟨fun j => a.tmps.getD j undef, ?_⟩
  obtain ⟨h1, h2, h3⟩ := h
  obtain ⟨t, d⟩ := a
  simp only at h1 h2
  subst h2
  congr 1
  apply Array.ext
  · simp [frL, h1]
  · intro i hi1 hi2
    have hlk := look_eq h3 i
    simp only [frL, List.getElem_toArray, List.getElem_map, List.getElem_range]
    rw [hlk]
    simp [Array.getD, hi1]
structure Tch (S : List Nat) (w w' : World) : Prop where
  os : w'.os = w.os
  tape : w'.tape = w.tape
  output : w'.output = w.output
  size : w.heap.size ≤ w'.heap.size
  block : ∀ b, b < w.heap.size → b ∉ S → w'.heap[b]? = w.heap[b]?
section
open RowKit
variable {S : List Nat} {w w1 w2 : World}
theorem Tch.refl (S : List Nat) (w : World) : Tch S w w := ⟨rfl, rfl, rfl, Nat.le_refl _, fun _ _ _ => rfl⟩
theorem Tch.trans (h : Tch S w w1) (k : Tch S w1 w2) : Tch S w w2 :=
  ⟨k.os.trans h.os, k.tape.trans h.tape, k.output.trans h.output, Nat.le_trans h.size k.size, fun b hb hn => (k.block b (Nat.lt_of_lt_of_le hb h.size) hn).trans (h.block b hb hn)⟩
theorem Tch.mono {S' : List Nat} (h : Tch S w w1) (hs : ∀ b, b ∈ S → b ∈ S' ∨ w.heap.size ≤ b) : Tch S' w w1 :=
  ⟨h.os, h.tape, h.output, h.size, fun b hb hn => h.block b hb fun hm => (hs b hm).elim hn (fun hle => by omega)⟩
theorem Tch.of_below (h : Below w.heap.size w w1) : Tch S w w1 := ⟨h.os, h.tape, h.output, h.size, fun b hb _ => h.block b hb⟩
theorem Tch.set (h : Tch S w w1) {b i : Nat} (hb : b ∈ S ∨ w.heap.size ≤ b) (u : Value) : Tch S w (w1.setCell ⟨b, i, none⟩ u) :=
  ⟨h.os, h.tape, h.output, by simpa using h.size, fun c hc hn => (Below.heap_setCell _ _ _ c (fun e => by
    rcases hb with hb | hb
    · exact hn (by rw [e]; exact hb)
    · rw [e] at hc; exact absurd hc (Nat.not_lt.2 hb))).trans (h.block c hc hn)⟩
theorem Tch.sets {b : Nat} (hb : b ∈ S ∨ w.heap.size ≤ b) : ∀ (vs : List Value) (o : Nat) (w1 : World), Tch S w w1 → Tch S w (w1.setCells b o vs)
  | [], _, _, h => h
  | v :: vs, o, w1, h => by rw [World.setCells]; exact Tch.sets hb vs _ _ (h.set hb v)
theorem Tch.put (h : Tch S w w1) {b : Nat} (hb : b ∈ S ∨ w.heap.size ≤ b) (o : Obj) : Tch S w (w1.putObj b o) :=
  ⟨h.os, h.tape, h.output, by simpa [World.putObj] using h.size, fun c hc hn => (World.putObj_heap_other (fun e => by
    rcases hb with hb | hb
    · exact hn (by rw [e]; exact hb)
    · rw [e] at hc; exact absurd hc (Nat.not_lt.2 hb))).trans (h.block c hc hn)⟩
theorem Tch.alloc (h : Tch S w w1) (o : Obj) : Tch S w (w1.alloc o) := h.trans (Tch.of_below ((Below.refl _ _).alloc (Nat.le_refl _) _))
theorem Tch.drewN (h : Tch S w w1) (n : Nat) : Tch S w (w1.drewN n) := ⟨h.os, h.tape, h.output, h.size, h.block⟩
theorem Tch.below {B : Nat} {w0 : World} (h : Tch S w w1) (k : Below B w0 w) (hB : B ≤ w0.heap.size) (hs : ∀ b, b ∈ S → B ≤ b) : Below B w0 w1 :=
  ⟨h.os.trans k.os, h.tape.trans k.tape, h.output.trans k.output, Nat.le_trans k.size h.size, fun b hb => (h.block b (Nat.lt_of_lt_of_le (Nat.lt_of_lt_of_le hb hB) k.size) (fun hm => absurd hb (Nat.not_lt.2 (hs b hm)))).trans (k.block b hb)⟩
theorem Tch.cell (h : Tch S w w1) {ad : Addr} {v : Value} (hn : ad.block ∉ S) (hc : w.cell? ad = some v) : w1.cell? ad = some v :=
  (World.cell?_of_block (h.block _ (World.block_lt_of_cell? w ad hc) hn)).trans hc
end
end Fam
end Go
end
