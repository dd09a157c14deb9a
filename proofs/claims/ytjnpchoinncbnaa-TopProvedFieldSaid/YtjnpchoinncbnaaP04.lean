/- Proves parts of the statement, each under the conditions that its theorem states: Parts of a function's code, by paths; A loop over a function whose body neither breaks nor returns; the marks it leaves; Contracts of slices.IndexFunc and slices.ContainsFunc at []int, whatever the predicate; Contract of the reference's CheckFlowOf: the value of a flow that is right, or an error. -/
import Derived.Test.YtjnpchoinncbnaaProg
import Derived.Test.YtjnpchoinncbnaaP03
import Derived.RangeFuncNested
import Derived.RangeFuncBound
import Derived.RangeFuncCalls
import Derived.RangeFuncLeaves
import Derived.OwnWalkIn
import Derived.TacticsInMore
import Derived.LoopNIn
import Derived.LoopIn
import Derived.BigRegionIn
import Derived.Test.YtjnpchoinncbnaaP02
section
namespace Go
def Code.sub : Code → List Nat → Code
  | c, [] => c
  | .seq a b, i :: p => if i = 0 then a.sub p else b.sub p
  | .cond _ a b, i :: p => if i = 0 then a.sub p else b.sub p
  | .block _ c, _ :: p => c.sub p
  | .loop c, _ :: p => c.sub p
  | .scope c, _ :: p => c.sub p
  | .rangeFunc _ _ a b, i :: p => if i = 0 then a.sub p else b.sub p
  | c, _ => c
def Func.sub (f : Func) (p : List Nat) : Code := ((f.body.map fun c => c.sub p).getD .skip)
end Go
end

section
set_option linter.unusedSimpArgs false
set_option linter.unusedVariables false
namespace Go
namespace Fam
open RowKit
variable {P : Program}
def recOf (fn : FuncId) (tmps : Array Value) (ps : Array Tmp) (assign body : Code) (D : Nat) (st : LoopState) : Loop := { state := st, pending := none, fn, tmps, params := ps, assign, body, defers := D }
def rfMark (D : Nat) : Deferred := { target := .collected D, args := #[] }
theorem wpIn_over {m : Nat} {g : Operand} {ps : Array Tmp} {assign body : Code} {Q : Exit → Act → World → Prop} {a : Act} {w : World} (f : FuncId) (cap : Array Value) (hg : a.eval g = .func (.func f) #[] cap)
    (hinv : ∀ args w, (callFunc f args).run P w = .ok (.enter f args) w)
    (h : ∀ fn, CallsIn Fence.wide (m - 1) P f (#[.func (.yield (w.heap.size + 1)) #[] #[]] ++ cap) ((w.alloc (.deferred (some []))).alloc (.loop (recOf fn a.tmps ps assign body w.heap.size .ready)))
      (fun e W' => (∃ r, e = .returned r) ∧ W'.heap[w.heap.size + 1]? = some (.loop (recOf fn a.tmps ps assign body w.heap.size .ready)) ∧
        Q .normal { a with defers := rfMark w.heap.size :: a.defers } (W'.putObj (w.heap.size + 1) (.loop (recOf fn a.tmps ps assign body w.heap.size .exhausted))))) :
    (Code.rangeFunc g ps assign body).wpIn Fence.wide m P Q a w := by
  refine wpIn_rangeFunc ?_
  intro fn _
  obtain ⟨W1, hW1⟩ : ∃ W1, (w.alloc (.deferred (some []))).alloc (.loop (recOf fn a.tmps ps assign body w.heap.size .ready)) = W1 := ⟨_, rfl⟩
  have hc := h fn
  rw [hW1] at hc
  refine ⟨w.heap.size + 1, [rfMark w.heap.size], W1, { target := .fn (.func f) cap, args := #[.func (.yield (w.heap.size + 1)) #[] #[]] }, W1, f, #[.func (.yield (w.heap.size + 1)) #[] #[]] ++ cap, W1, ?_, ?_, ?_, ?_, fun hh => by simp [Fence.wide] at hh, ?_⟩
  · rw [← hW1]; exact run_enterLoop_outer _ _ _ _ _
  · have he : a.eval (.const (.func (.yield (w.heap.size + 1)) #[] #[])) = .func (.yield (w.heap.size + 1)) #[] #[] := rfl
    simp only [resolve, rangeCall, List.map_toArray, List.map_cons, List.map_nil, hg, he, Deferred.ofValue]
    rfl
  · intro f' _; trivial
  · unfold invoke
    simp only
    exact hinv _ _
  · refine hc.mono ?_
    rintro e W' ⟨⟨r, rfl⟩, h1, h2⟩
    exact ⟨none, _, run_endLoop h1 (by simp [recOf]), h2⟩
structure Opn (w : World) (Ds : List Nat) : Prop where
  nd : Ds.Nodup
  op : ∀ D, D ∈ Ds → w.heap[D]? = some (.deferred (some []))
theorem Opn.cons {w : World} {D : Nat} {Ds : List Nat} (h : Opn w (D :: Ds)) : Opn (w.putObj D (.deferred none)) Ds := by
  obtain ⟨h1, h2⟩ := h
  rw [List.nodup_cons] at h1
  refine ⟨h1.2, fun E hE => ?_⟩
  have hne : E ≠ D := fun e => h1.1 (e ▸ hE)
  exact (World.putObj_heap_other hne).trans (h2 E (List.mem_cons_of_mem _ hE))
theorem leaves_marks {F : Fence} {n : Nat} {fn : Func} {tmps : Array Value} {R : Ending → World → Prop} : ∀ (Ds : List Nat) (w : World), Opn w Ds →
    (∀ w', (∀ b, b ∉ Ds → w'.heap[b]? = w.heap[b]?) → w'.heap.size = w.heap.size → w'.os = w.os → w'.tape = w.tape → w'.output = w.output → LeavesIn F n P fn tmps R [] .returning w') → LeavesInM F n P fn tmps R (Ds.map rfMark) .returning w := by
  intro Ds
  induction Ds with
  | nil => intro w _ h; exact h w (fun _ _ => rfl) rfl rfl rfl rfl
  | cons D Ds ih =>
    intro w ho h
    refine ⟨by simp, .inl ⟨D, w.putObj D (.deferred none), rfl, run_takeDeferred (ho.op D (List.mem_cons_self ..)), ?_⟩⟩
    refine ih _ ho.cons fun w' h1 h2 h3 h4 h5 => h w' (fun b hb => ?_) (by rw [h2]; simp [World.putObj]) (by rw [h3]; rfl) (by rw [h4]; rfl) (by rw [h5]; rfl)
    rw [List.mem_cons, not_or] at hb
    rw [h1 b hb.2]
    exact World.putObj_heap_other hb.1
end Fam
end Go
end

section
set_option linter.unusedSimpArgs false
set_option linter.unusedVariables false
namespace Go.Proofs.Ytjnpchoinncbnaa
open Go.RowKit Sw

def Enters (g : FuncId) : Prop := ∀ args w, (callFunc g args).run Try.prog w = .ok (.enter g args) w
def PredI (g : FuncId) (cap : Array Value) (p : Int → Bool) (xs : List Int) (w : World) : Prop :=
  ∀ j, j < xs.length → ∀ n, Calls Try.prog g (#[.int .i64 (gi xs j)] ++ cap) (w.drewN n) fun e w' => e = .returned (.bool (p (gi xs j))) ∧ ∃ m, w' = (w.drewN n).drewN m
def FirstAt (p : Int → Bool) (xs : List Int) (r : Int) : Prop := (r = -1 ∧ ∀ j, j < xs.length → p (gi xs j) = false) ∨ (∃ k, k < xs.length ∧ r = k ∧ p (gi xs k) = true ∧ ∀ j, j < k → p (gi xs j) = false)
def IdxPost (p : Int → Bool) (xs : List Int) (w : World) (e : Ending) (w' : World) : Prop := ∃ r, FirstAt p xs r ∧ e = .returned (.int .i64 r) ∧ ∃ n, w' = w.drewN n
set_option maxRecDepth 100000 in
theorem indexFunc_c (g : FuncId) (hcf : Enters g) (cap : Array Value) (p : Int → Bool) (xs : List Int) (A : Option Addr) (c : Nat) (w : World) (hl : xs.length ≤ 100000) (hr : RdI w A xs) (hp : PredI g cap p xs w) :
    Calls Try.prog 41 #[.slice A xs.length c, .func (.func g) #[] cap] w (IdxPost p xs w) := by
  have HR := Lib.hid hr; clear hr
  have HP := Lib.hid hp; clear hp
  unfold Enters at hcf
  go_enter Try.func41, Try.ntmps41
  go_wp2_with fail
  go_loopw [8] (fun v8 wr => ∃ k : Nat, v8 = .int .i64 k ∧ k ≤ xs.length ∧ (∀ j, j < k → p (gi xs j) = false) ∧ ∃ n, wr = w.drewN n) (fun v8 _ => xs.length - (intOf v8).toNat)
  case atStart => exact ⟨0, rfl, Nat.zero_le _, fun j hj => by omega, 0, rfl⟩
  case round =>
    obtain ⟨k, rfl, hk, hno, n, rfl⟩ := hrel
    have HN := Lib.hid hno; clear hno
    by_cases hlt : k < xs.length
    · obtain ⟨b, o, rfl, hc⟩ := HR.out k hlt
      go_wp2_with fail
      refine (HP.out k hlt n).mono ?_
      rintro e w' ⟨rfl, m, rfl⟩
      cases hpk : p (gi xs k) with
      | true =>
        go_wp2_with fail
        go_ret
        exact ⟨k, .inr ⟨k, hlt, rfl, hpk, HN.out⟩, rfl, n + m, rfl⟩
      | false =>
        go_wp2_with fail
        go_roundw
        case rel => exact ⟨k + 1, by go_num, by omega, fun j hj => by
          by_cases e : j = k
          · subst e; exact hpk
          · exact HN.out j (by omega), n + m, rfl⟩
        case measure => simp [intOf]; omega
    · go_wp2_with fail
      go_ret
      exact ⟨-1, .inl ⟨rfl, fun j hj => HN.out j (by omega)⟩, rfl, n, rfl⟩

def ConPost (p : Int → Bool) (xs : List Int) (w : World) (e : Ending) (w' : World) : Prop := ∃ r : Bool, (r = true ↔ ∃ j, j < xs.length ∧ p (gi xs j) = true) ∧ e = .returned (.bool r) ∧ ∃ n, w' = w.drewN n
set_option maxRecDepth 100000 in
theorem containsFunc_c (g : FuncId) (hcf : Enters g) (cap : Array Value) (p : Int → Bool) (xs : List Int) (A : Option Addr) (c : Nat) (w : World) (hl : xs.length ≤ 100000) (hr : RdI w A xs) (hp : PredI g cap p xs w) :
    Calls Try.prog 54 #[.slice A xs.length c, .func (.func g) #[] cap] w (ConPost p xs w) := by
  have H := Lib.hid (indexFunc_c g hcf cap p xs A c w hl hr hp)
  clear hr hp hcf
  go_enter Try.func54, Try.ntmps54
  go_wp2_with fail
  refine H.out.mono ?_
  rintro e w' ⟨r, hr, rfl, n, rfl⟩
  have HF := Lib.hid hr; clear hr
  go_wp2_with fail
  go_ret
  refine ⟨_, ?_, rfl, n, rfl⟩
  rcases HF.out with ⟨rfl, h⟩ | ⟨k, hk, rfl, hpk, h⟩
  · simp
    exact fun j hj => by rw [h j hj]
  · simp
    exact ⟨k, hk, hpk⟩
end Go.Proofs.Ytjnpchoinncbnaa
end

section
set_option linter.unusedSimpArgs false
set_option linter.unusedVariables false
namespace Go.Proofs.Ytjnpchoinncbnaa
open Go.RowKit Sw Fam

def netk (es : List Ed) (x : List Int) (k v : Nat) : Int := sm k fun i => (if (ge es i).t = v then gi x i else 0) - (if (ge es i).f = v then gi x i else 0)
def valk (es : List Ed) (x : List Int) (k : Nat) : Int := sm k fun i => gi x i * (ge es i).j
def FitK (es : List Ed) (x : List Int) (k : Nat) : Prop := ∀ i, i < k → -((ge es i).k : Int) ≤ gi x i ∧ gi x i ≤ (ge es i).k
theorem netk_bound {n J : Nat} {es : List Ed} (hg : Gd n J es) {x : List Int} {k : Nat} (hk : k ≤ es.length) (hf : FitK es x k) (v : Nat) : -(1000 * (k : Int)) ≤ netk es x k v ∧ netk es x k v ≤ 1000 * (k : Int) := by
  induction k with
  | zero => simp [netk, sm]
  | succ k ih =>
    have h1 := ih (by omega) (fun i hi => hf i (by omega))
    have h2 := hf k (by omega)
    have h3 := hg.wt k (by omega)
    have h4 := (hg.ends k (by omega)).2.2
    unfold netk sm
    have e : sm k (fun i => (if (ge es i).t = v then gi x i else 0) - (if (ge es i).f = v then gi x i else 0)) = netk es x k v := rfl
    rw [e]
    by_cases a : (ge es k).t = v <;> by_cases b : (ge es k).f = v
    · exact absurd (b.trans a.symm) h4
    · simp only [a, b, if_true, if_false]; omega
    · simp only [a, b, if_true, if_false]; omega
    · simp only [a, b, if_false]; omega
theorem valk_bound {n J : Nat} {es : List Ed} (hg : Gd n J es) {x : List Int} {k : Nat} (hk : k ≤ es.length) (hf : FitK es x k) : -(1000000 * (k : Int)) ≤ valk es x k ∧ valk es x k ≤ 1000000 * (k : Int) := by
  induction k with
  | zero => simp [valk, sm]
  | succ k ih =>
    have h1 := ih (by omega) (fun i hi => hf i (by omega))
    have h2 := hf k (by omega)
    have h3 := hg.wt k (by omega)
    have h4 := hg.jump k (by omega)
    have h5 := hg.J_le
    have h6 := mul_ab_le (gi x k) (ge es k).j 1000 (by omega)
    have h7 := mul_ab_le (-gi x k) (ge es k).j 1000 (by omega)
    have h8 : ab (ge es k).j ≤ 1000 := by unfold ab; omega
    rw [Int.neg_mul] at h7
    have e : valk es x (k + 1) = valk es x k + gi x k * (ge es k).j := rfl
    rw [e]
    omega

def FlowPost (n : Nat) (es : List Ed) (fs : List Int) (w : World) (e : Ending) (w' : World) : Prop :=
  ∃ v g : Int, e = .returned (.tuple #[.int .i64 v, .int .i64 g]) ∧ (g = 0 → Right n es fs ∧ v = value es fs) ∧ (Right n es fs → g = 0) ∧ Below w.heap.size w w'

def Row3 (w : World) (W : World) (b : Nat) (old : List Int) (t f : Nat) (vt vf : Int) (d1 d2 : Bool) : Prop :=
  W.grownBy w (some b) ∧ ∃ ys, IntB w b ys ∧ ys.length = old.length ∧ gi ys t = (if d1 then vt else gi old t) ∧ gi ys f = (if d2 then vf else gi old f) ∧ ∀ j, j ≠ t → j ≠ f → gi ys j = gi old j
theorem Row3.start {W w : World} {b : Nat} {old : List Int} {t f : Nat} {vt vf : Int} (hg : W.grownBy w (some b)) (h : IntB w b old) : Row3 w W b old t f vt vf false false :=
  ⟨hg, old, h, rfl, by simp, by simp, fun _ _ _ => rfl⟩
theorem Row3.set1 {W w : World} {b : Nat} {old : List Int} {t f : Nat} {vt vf : Int} {d1 d2 : Bool} (h : Row3 w W b old t f vt vf d1 d2) (ht : t < old.length) (htf : t ≠ f) : Row3 (w.setCell ⟨b, t, none⟩ (.int .i64 vt)) W b old t f vt vf true d2 := by
  obtain ⟨h1, ys, h2, h3, h4, h5, h6⟩ := h
  refine ⟨grown_trans h1 grown_set, ys.set t vt, h2.set (by omega) vt, by simpa using h3, ?_, ?_, fun j a b => ?_⟩
  · rw [gi_set _ _ _ _ (by omega)]; simp
  · rw [gi_set _ _ _ _ (by omega), if_neg htf]; exact h5
  · rw [gi_set _ _ _ _ (by omega), if_neg (fun e => a e.symm)]; exact h6 j a b
theorem Row3.set2 {W w : World} {b : Nat} {old : List Int} {t f : Nat} {vt vf : Int} {d1 d2 : Bool} (h : Row3 w W b old t f vt vf d1 d2) (hf : f < old.length) (htf : t ≠ f) : Row3 (w.setCell ⟨b, f, none⟩ (.int .i64 vf)) W b old t f vt vf d1 true := by
  obtain ⟨h1, ys, h2, h3, h4, h5, h6⟩ := h
  refine ⟨grown_trans h1 grown_set, ys.set f vf, h2.set (by omega) vf, by simpa using h3, ?_, ?_, fun j a b => ?_⟩
  · rw [gi_set _ _ _ _ (by omega), if_neg (fun e => htf e.symm)]; exact h4
  · rw [gi_set _ _ _ _ (by omega)]; simp
  · rw [gi_set _ _ _ _ (by omega), if_neg (fun e => b e.symm)]; exact h6 j a b
theorem Row3.cell {W w : World} {b : Nat} {old : List Int} {t f : Nat} {vt vf : Int} {d1 d2 : Bool} (h : Row3 w W b old t f vt vf d1 d2) {a : Addr} {v : Value} (hc : W.cell? a = some v) (hne : a.block ≠ b) : w.cell? a = some v := by
  rw [← hc]
  exact World.cell?_of_block (w := W) (h.1.block a.block (World.block_lt_of_cell? W a hc) (fun e => hne (by injection e)))
theorem Row3.own {W w : World} {b : Nat} {old : List Int} {t f : Nat} {vt vf : Int} {d1 d2 : Bool} (h : Row3 w W b old t f vt vf d1 d2) {j : Nat} (hj : j < old.length) : ∃ y, w.cell? ⟨b, j, none⟩ = some (.int .i64 y) ∧ w.frozen? ⟨b, j, none⟩ = false ∧
    (j = t → y = if d1 then vt else gi old t) ∧ (j = f → y = if d2 then vf else gi old f) := by
  obtain ⟨h1, ys, h2, h3, h4, h5, h6⟩ := h
  exact ⟨gi ys j, h2.cell (by omega), h2.frozen j, fun e => by subst e; exact h4, fun e => by subst e; exact h5⟩

def FlowLoop (n : Nat) (es : List Ed) (fs : List Int) (N : Nat) (w1 : World) (k : Nat) (s : Int) (wr : World) : Prop :=
  FitK es fs k ∧ s = valk es fs k ∧ Below (N + 1) w1 wr ∧ ∃ ys, IntB wr (N + 1) ys ∧ ys.length = n ∧ ∀ v, v < n → gi ys v = netk es fs k v
set_option maxHeartbeats 4000000 in
set_option maxRecDepth 100000 in
theorem flow_c (n J : Nat) (es : List Ed) (hg : Gd n J es) (fs : List Int) (A B : Option Addr) (ca cb : Nat) (w : World) (hl : fs.length ≤ 100000) (hE : RdE w A es) (hF : RdI w B fs) :
    Calls Try.prog 10 #[.agg #[.int .i64 n, .slice A es.length ca], .slice B fs.length cb] w (FlowPost n es fs w) := by
  have hm := hg.m_le
  have hn := hg.n_le
  have HG := Lib.hid hg; clear hg
  have HE := Lib.hid hE; clear hE
  have HF := Lib.hid hF; clear hF
  by_cases hlen : fs.length = es.length
  · have hq : ((fs.length:Int) != (es.length:Int)) = false := by simp [hlen]
    have HL := Lib.hid hlen; clear hlen
    have hmk := run_make_ints n (by omega)
    go_enter Try.func10, Try.ntmps10
    go_wp2_with fail
    generalize hw1 : ((w.alloc (Obj.cells #[Value.int IntKind.i64 ↑n, Value.slice A es.length ca] 37)).alloc (.cells ((List.replicate n (0:Int)).flatMap encI).toArray 3)) = w1
    have hB1 : Below w.heap.size w w1 := by subst hw1; exact ((Below.refl _ _).alloc (Nat.le_refl _) _).alloc (by simp) _
    have hz : w1.heap.size = w.heap.size + 2 := by subst hw1; simp
    have hI1 : IntB w1 (w.heap.size + 1) (List.replicate n 0) := by
      subst hw1
      have := FlB.new (w.alloc (Obj.cells #[Value.int IntKind.i64 ↑n, Value.slice A es.length ca] 37)) encI 3 (List.replicate n 0)
      rw [World.size_alloc] at this
      exact this
    have hN1 : w1.heap[w.heap.size]? = some (Obj.cells #[Value.int IntKind.i64 ↑n, Value.slice A es.length ca] 37) := by
      subst hw1; rw [Below.heap_alloc _ _ _ (by simp)]; exact heap_alloc_new _ _
    clear hw1 hmk
    have HB1 := Lib.hid hB1; clear hB1
    have HI1 := Lib.hid hI1; clear hI1
    have HN1 := Lib.hid hN1; clear hN1
    have HZ := Lib.hid hz; clear hz
    go_loopw [7, 8] (fun v7 v8 wr => ∃ (s : Int) (k : Nat), v7 = .int .i64 s ∧ v8 = .int .i64 k ∧ k ≤ es.length ∧ FlowLoop n es fs w.heap.size w1 k s wr) (fun _ v8 _ => es.length - (intOf v8).toNat)
    case atStart =>
      refine ⟨0, 0, rfl, rfl, Nat.zero_le _, fun i hi => by omega, rfl, Below.refl _ _, List.replicate n 0, HI1.out, by simp, fun v _ => by rw [gi_replicate]; rfl⟩
    case round =>
      obtain ⟨s, k, rfl, rfl, hk, hL⟩ := hrel
      obtain ⟨hfit, hval, hBr, ys, hys, hyl, hyv⟩ := hL
      have HFit := Lib.hid hfit; clear hfit
      have HVal := Lib.hid hval; clear hval
      have HBr := Lib.hid hBr; clear hBr
      have HYs := Lib.hid hys; clear hys
      have HYl := Lib.hid hyl; clear hyl
      have HYv := Lib.hid hyv; clear hyv
      have hNr : wr.heap[w.heap.size]? = some (Obj.cells #[Value.int IntKind.i64 ↑n, Value.slice A es.length ca] 37) := (HBr.out.block _ (by omega)).trans HN1.out
      have hn0 : wr.cell? ⟨w.heap.size, 0, none⟩ = some (Value.int .i64 n) := by simp [World.cell?, hNr]
      have hn1 : wr.cell? ⟨w.heap.size, 1, none⟩ = some (Value.slice A es.length ca) := by simp [World.cell?, hNr]
      clear hNr
      have hlt1 : w.heap.size + 1 < wr.heap.size := HYs.out.lt
      by_cases hlt : k < es.length
      · obtain ⟨b, o, rfl, c0, c1, c2, c3⟩ := (HE.out.keep (HB1.out.trans (HBr.out.mono (by omega)))) k hlt
        obtain ⟨b', o', rfl, d0w⟩ := HF.out k (by rw [HL.out]; exact hlt)
        have hbw : b' < w.heap.size := World.block_lt_of_cell? _ _ d0w
        have d0 := cell_keep (HB1.out.trans (HBr.out.mono (by omega))) d0w
        clear d0w
        have hlt' : k < fs.length := by rw [HL.out]; exact hlt
        obtain ⟨e1, e2, e3⟩ := HG.out.ends k hlt
        obtain ⟨j1, j2⟩ := HG.out.jump k hlt
        have w1' := HG.out.wt k hlt
        have hJ := HG.out.J_le
        have hb1 : b < wr.heap.size := World.block_lt_of_cell? _ _ c0
        have hb2 : b' < wr.heap.size := World.block_lt_of_cell? _ _ d0
        obtain ⟨x, hx⟩ : ∃ x, x = ge es k := ⟨_, rfl⟩
        obtain ⟨y, hy⟩ : ∃ y, y = gi fs k := ⟨_, rfl⟩
        rw [← hx] at c0 c1 c2 c3 e1 e2 e3 j1 j2 w1'
        rw [← hy] at d0
        obtain ⟨xf, xt, xj, xk⟩ := x
        dsimp only at *
        have HX := Lib.hid hx; clear hx
        have HY := Lib.hid hy; clear hy
        by_cases hfity : -(xk:Int) ≤ y ∧ y ≤ xk
        · obtain ⟨y1, y2⟩ := hfity
          go_wp2_with fail
          go_quiet ((go_at_call 18; exact Calls.quiet_of_same (by refine (bwithin_c _ _ _ true (by simp; omega) _).mono ?_; rintro e w' ⟨rfl, rfl⟩; exact ⟨rfl, rfl⟩)))
          go_wp2_with fail
          obtain ⟨X, hX⟩ : ∃ X, X = wr.heap.size := ⟨_, rfl⟩
          obtain ⟨W, hW⟩ : ∃ W, W = (wr.alloc (Obj.cells #[Value.int IntKind.i64 ↑xf, Value.int IntKind.i64 ↑xt, Value.int IntKind.i64 xj, Value.int IntKind.i64 ↑xk] 66)).drewN nq := ⟨_, rfl⟩
          have x0 : W.cell? ⟨wr.heap.size, 0, none⟩ = some (.int .i64 xf) := by rw [hW]; simp
          have x1 : W.cell? ⟨wr.heap.size, 1, none⟩ = some (.int .i64 xt) := by rw [hW]; simp
          have x2 : W.cell? ⟨wr.heap.size, 2, none⟩ = some (.int .i64 xj) := by rw [hW]; simp
          have xd : W.cell? ⟨b', o' + k, none⟩ = some (.int .i64 y) := by rw [hW]; exact (World.cell?_alloc_lt _ _ ⟨b', o' + k, none⟩ hb2).trans d0
          have xI : IntB W (w.heap.size + 1) ys := by rw [hW]; exact (HYs.out.alloc _).drewN _
          rw [← hW]
          rw [← hX] at x0 x1 x2 ⊢
          have hXW : X ≠ w.heap.size + 1 := by omega
          have hb1n : b' ≠ w.heap.size + 1 := by omega
          obtain ⟨vt, hvt⟩ : ∃ v, v = gi ys xt := ⟨_, rfl⟩
          obtain ⟨vf, hvf⟩ : ∃ v, v = gi ys xf := ⟨_, rfl⟩
          have bt : -600000 ≤ vt ∧ vt ≤ 600000 := by
            have := netk_bound HG.out hk HFit.out xt; rw [hvt, HYv.out xt e2]; omega
          have bf : -600000 ≤ vf ∧ vf ≤ 600000 := by
            have := netk_bound HG.out hk HFit.out xf; rw [hvf, HYv.out xf e1]; omega
          obtain ⟨bt1, bt2⟩ := bt
          obtain ⟨bf1, bf2⟩ := bf
          have HVt := Lib.hid hvt; clear hvt
          have HVf := Lib.hid hvf; clear hvf
          have HXW := Lib.hid hX; clear hX
          have HWW := Lib.hid hW; clear hW
          have hyl := HYl.out
          refine region_rel (by kernel_rfl) (by kernel_rfl) (by kernel_rfl) (fun L _ w' => Row3 w' W (w.heap.size + 1) ys xt xf (vt + y) (vf - y) (L 36) (L 38)) (Row3.start ⟨rfl, rfl, rfl, Nat.le_refl _, fun _ _ _ => rfl⟩ xI.drew) ?_
          repeat (refine relq rfl rfl (fun _ _ _ h => h) (fun K hK => ?_); go_big_quiet_op; (refine hK _ ?_; clear hK K))
          refine relk_val rfl (.int .i64 xt) (fun _ _ _ h => h) (fun V L w' h1 h2 h3 hC => exec_load_int (.tmp 43) rfl ⟨X, 1, none⟩ rfl (hC.cell x1 (by show X ≠ _; omega))) (fun K hK => ?_)
          simp only [Act.put, List.setIfInBounds_toArray, List.set_cons_succ, List.set_cons_zero]; (refine hK _ ?_; clear hK K)
          repeat (refine relq rfl rfl (fun _ _ _ h => h) (fun K hK => ?_); go_big_quiet_op; (refine hK _ ?_; clear hK K))
          refine relk_val rfl (.int .i64 xf) (fun _ _ _ h => h) (fun V L w' h1 h2 h3 hC => exec_load_int (.tmp 46) rfl ⟨X, 0, none⟩ rfl (hC.cell x0 (by show X ≠ _; omega))) (fun K hK => ?_)
          simp only [Act.put, List.setIfInBounds_toArray, List.set_cons_succ, List.set_cons_zero]; (refine hK _ ?_; clear hK K)
          repeat (refine relq rfl rfl (fun _ _ _ h => h) (fun K hK => ?_); go_big_quiet_op; (refine hK _ ?_; clear hK K))
          refine relk_val rfl (.int .i64 xt) (fun _ _ _ h => h) (fun V L w' h1 h2 h3 hC => exec_load_int (.tmp 49) rfl ⟨X, 1, none⟩ rfl (hC.cell x1 (by show X ≠ _; omega))) (fun K hK => ?_)
          simp only [Act.put, List.setIfInBounds_toArray, List.set_cons_succ, List.set_cons_zero]; (refine hK _ ?_; clear hK K)
          repeat (refine relq rfl rfl (fun _ _ _ h => h) (fun K hK => ?_); go_big_quiet_op; (refine hK _ ?_; clear hK K))
          refine relk_val rfl (.int .i64 vt) (fun _ _ _ h => h) (fun V L w' h1 h2 h3 hC => exec_load_int (.tmp 51) rfl ⟨w.heap.size + 1, xt, none⟩ rfl (by
            obtain ⟨z, z1, _, z2, _⟩ := hC.own (j := xt) (by omega)
            rw [z1, z2 rfl, if_neg (by rw [h3.not (j := 36) (by kernel_rfl) h1]; simp), HVt.out])) (fun K hK => ?_)
          simp only [Act.put, List.setIfInBounds_toArray, List.set_cons_succ, List.set_cons_zero]; (refine hK _ ?_; clear hK K)
          repeat (refine relq rfl rfl (fun _ _ _ h => h) (fun K hK => ?_); go_big_quiet_op; (refine hK _ ?_; clear hK K))
          refine relk_val rfl (.int .i64 y) (fun _ _ _ h => h) (fun V L w' h1 h2 h3 hC => exec_load_int (.tmp 55) rfl ⟨b', o' + k, none⟩ rfl (hC.cell xd (by show b' ≠ _; omega))) (fun K hK => ?_)
          simp only [Act.put, List.setIfInBounds_toArray, List.set_cons_succ, List.set_cons_zero]; (refine hK _ ?_; clear hK K)
          repeat (refine relq rfl rfl (fun _ _ _ h => h) (fun K hK => ?_); go_big_quiet_op; (refine hK _ ?_; clear hK K))
          refine relk_val rfl (.int .i64 xf) (fun _ _ _ h => h) (fun V L w' h1 h2 h3 hC => exec_load_int (.tmp 59) rfl ⟨X, 0, none⟩ rfl (hC.cell x0 (by show X ≠ _; omega))) (fun K hK => ?_)
          simp only [Act.put, List.setIfInBounds_toArray, List.set_cons_succ, List.set_cons_zero]; (refine hK _ ?_; clear hK K)
          repeat (refine relq rfl rfl (fun _ _ _ h => h) (fun K hK => ?_); go_big_quiet_op; (refine hK _ ?_; clear hK K))
          refine relk_val rfl (.int .i64 vf) (fun _ _ _ h => h) (fun V L w' h1 h2 h3 hC => exec_load_int (.tmp 61) rfl ⟨w.heap.size + 1, xf, none⟩ rfl (by
            obtain ⟨z, z1, _, _, z2⟩ := hC.own (j := xf) (by omega)
            rw [z1, z2 rfl, if_neg (by rw [h3.not (j := 38) (by kernel_rfl) h1]; simp), HVf.out])) (fun K hK => ?_)
          simp only [Act.put, List.setIfInBounds_toArray, List.set_cons_succ, List.set_cons_zero]; (refine hK _ ?_; clear hK K)
          repeat (refine relq rfl rfl (fun _ _ _ h => h) (fun K hK => ?_); go_big_quiet_op; (refine hK _ ?_; clear hK K))
          refine relk_val rfl (.int .i64 y) (fun _ _ _ h => h) (fun V L w' h1 h2 h3 hC => exec_load_int (.tmp 65) rfl ⟨b', o' + k, none⟩ rfl (hC.cell xd (by show b' ≠ _; omega))) (fun K hK => ?_)
          simp only [Act.put, List.setIfInBounds_toArray, List.set_cons_succ, List.set_cons_zero]; (refine hK _ ?_; clear hK K)
          repeat (refine relq rfl rfl (fun _ _ _ h => h) (fun K hK => ?_); go_big_quiet_op; (refine hK _ ?_; clear hK K))
          refine relk_val rfl (.int .i64 y) (fun _ _ _ h => h) (fun V L w' h1 h2 h3 hC => exec_load_int (.tmp 71) rfl ⟨b', o' + k, none⟩ rfl (hC.cell xd (by show b' ≠ _; omega))) (fun K hK => ?_)
          simp only [Act.put, List.setIfInBounds_toArray, List.set_cons_succ, List.set_cons_zero]; (refine hK _ ?_; clear hK K)
          repeat (refine relq rfl rfl (fun _ _ _ h => h) (fun K hK => ?_); go_big_quiet_op; (refine hK _ ?_; clear hK K))
          refine relk_val rfl (.int .i64 xj) (fun _ _ _ h => h) (fun V L w' h1 h2 h3 hC => exec_load_int (.tmp 73) rfl ⟨X, 2, none⟩ rfl (hC.cell x2 (by show X ≠ _; omega))) (fun K hK => ?_)
          simp only [Act.put, List.setIfInBounds_toArray, List.set_cons_succ, List.set_cons_zero]; (refine hK _ ?_; clear hK K)
          repeat (refine relq rfl rfl (fun _ _ _ h => h) (fun K hK => ?_); go_big_quiet_op; (refine hK _ ?_; clear hK K))
          refine relk_do rfl rfl (fun w' => w'.setCell ⟨w.heap.size + 1, xt, none⟩ (.int .i64 (vt + y))) (fun V L w' h1 h2 h3 hC => ?_) ?_
          · obtain ⟨z, z1, z2, _, _⟩ := hC.own (j := xt) (by omega)
            exact ⟨exec_store_int (.tmp 77) (.tmp 57) rfl _ rfl _ rfl z1 z2, hC.set1 (by omega) (fun e => e3 e.symm)⟩
          repeat (refine relq rfl rfl (fun _ _ _ h => h) (fun K hK => ?_); go_big_quiet_op; (refine hK _ ?_; clear hK K))
          refine relk_do rfl rfl (fun w' => w'.setCell ⟨w.heap.size + 1, xf, none⟩ (.int .i64 (vf - y))) (fun V L w' h1 h2 h3 hC => ?_) ?_
          · obtain ⟨z, z1, z2, _, _⟩ := hC.own (j := xf) (by omega)
            exact ⟨exec_store_int (.tmp 78) (.tmp 67) rfl _ rfl _ rfl z1 z2, hC.set2 (by omega) (fun e => e3 e.symm)⟩
          repeat (refine relq rfl rfl (fun _ _ _ h => h) (fun K hK => ?_); go_big_quiet_op; (refine hK _ ?_; clear hK K))
          refine relk_end (fun L V W2 hL hC => ?_)
          rw [hL 36 (by decide), hL 38 (by decide)] at hC
          clear hL L V
          obtain ⟨r1, ys2, r2, r3, r4, r5, r6⟩ := hC
          have R1 := Lib.hid r1; clear r1
          have R2 := Lib.hid r2; clear r2
          have R3 := Lib.hid r3; clear r3
          have R4 := Lib.hid r4; clear r4
          have R5 := Lib.hid r5; clear r5
          have R6 := Lib.hid r6; clear r6
          go_wp2_with fail
          go_roundw
          case rel =>
            have E1 : FitK es fs (k + 1) := fun i hi => by
              by_cases e : i = k
              · subst e; rw [← HX.out, ← HY.out]; exact ⟨y1, y2⟩
              · exact HFit.out i (by omega)
            have E2 : valk es fs (k + 1) = s + y * xj := by
              have : valk es fs (k + 1) = valk es fs k + gi fs k * (ge es k).j := rfl
              rw [this, ← HVal.out, ← HX.out, ← HY.out]
            have hb := valk_bound HG.out (show k + 1 ≤ es.length by omega) E1
            rw [E2] at hb
            have hxy : wrap64 (y * xj) = y * xj := by
              have h6 := mul_ab_le y xj 1000 (by omega)
              have h7 := mul_ab_le (-y) xj 1000 (by omega)
              have h8 : ab xj ≤ 1000 := by unfold ab; omega
              rw [Int.neg_mul] at h7
              exact w64 (by omega) (by omega)
            refine ⟨s + y * xj, k + 1, ?_, by go_num, by omega, E1, E2.symm, ?_, ys2, R2.out, R3.out.trans HYl.out, fun v hv => ?_⟩
            · rw [hxy, w64 (by omega) (by omega)]
            · have g1 : wr.grownBy W2 (some (w.heap.size + 1)) := by
                have g0 : wr.grownBy W (some (w.heap.size + 1)) := by
                  rw [HWW.out]
                  exact ⟨rfl, rfl, rfl, by simp, fun i hi _ => Below.heap_alloc wr _ i hi⟩
                exact grown_trans g0 R1.out
              exact HBr.out.trans ⟨g1.os, g1.tape, g1.output, g1.size, fun i hi => g1.block i (by omega) (fun e => by injection e; omega)⟩
            · have e : netk es fs (k + 1) v = netk es fs k v + ((if xt = v then y else 0) - (if xf = v then y else 0)) := by
                have : netk es fs (k + 1) v = netk es fs k v + ((if (ge es k).t = v then gi fs k else 0) - (if (ge es k).f = v then gi fs k else 0)) := rfl
                rw [this, ← HX.out, ← HY.out]
              rw [e]
              by_cases a : xt = v
              · subst a
                rw [R4.out, HVt.out, HYv.out _ hv, if_pos rfl, if_neg e3]; simp
              · by_cases c : xf = v
                · subst c
                  rw [R5.out, HVf.out, HYv.out _ hv, if_pos rfl, if_neg a]; simp; omega
                · rw [R6.out v (fun h => a h.symm) (fun h => c h.symm), HYv.out _ hv, if_neg a, if_neg c]; omega
          case measure => simp [intOf]; omega
        · go_wp2_with fail
          go_quiet ((go_at_call 18; exact Calls.quiet_of_same (by refine (bwithin_c _ _ _ false (by simp; omega) _).mono ?_; rintro e w' ⟨rfl, rfl⟩; exact ⟨rfl, rfl⟩)))
          go_wp2_with fail
          go_ret2
          refine ⟨0, 2, rfl, fun h => by simp at h, fun h => ?_, ?_⟩
          · have := h.fit k hlt
            rw [← HX.out, ← HY.out] at this
            exact absurd this hfity
          · exact below_drewN (HB1.out.trans ((HBr.out.mono (by omega)).alloc (by omega) _)) _
      · have hkE : k = es.length := by omega
        have hge : fs.length ≤ k := by rw [HL.out]; omega
        have HkE := Lib.hid hkE; clear hkE
        go_wp2_with fail
        have HBW : Below w.heap.size w wr := HB1.out.trans (HBr.out.mono (by omega))
        have hNl := HYl.out
        have hNet : ∀ v, v < n → gi ys v = net es fs v := fun v hv => by rw [HYv.out v hv, HkE.out]; rfl
        have HNet := Lib.hid hNet; clear hNet
        have HFit' : FitK es fs es.length := by rw [← HkE.out]; exact HFit.out
        have HVal' : s = value es fs := by rw [HVal.out, HkE.out]; rfl
        have HV := Lib.hid HVal'; clear HVal'
        have HW := Lib.hid HBW; clear HBW
        go_loop [10] (fun v10 => ∃ i : Nat, v10 = .int .i64 i ∧ i ≤ n ∧ ∀ v, v < i → gi ys v = 0) (fun v10 => n - (intOf v10).toNat)
        case atStart => exact ⟨0, rfl, Nat.zero_le _, fun v hv => by omega⟩
        case round =>
          obtain ⟨i, rfl, hi, hz⟩ := hrel
          have HZr := Lib.hid hz; clear hz
          by_cases hin : i < n
          · have hc := HYs.out.cell (j := i) (by omega)
            by_cases hg0 : gi ys i = 0
            · have h1 : (gi ys i != 0) = false := by simp [hg0]
              have HG0 := Lib.hid hg0; clear hg0
              go_wp2_with fail
              go_round
              case rel => exact ⟨i + 1, by go_num, by omega, fun v hv => by
                by_cases e : v = i
                · subst e; exact HG0.out
                · exact HZr.out v (by omega)⟩
              case measure => simp [intOf]; omega
            · have h1 : (gi ys i != 0) = true := by simp [hg0]
              have HG0 := Lib.hid hg0; clear hg0
              go_wp2_with fail
              go_ret2
              refine ⟨0, 25, rfl, fun h => by simp at h, fun h => ?_, HW.out⟩
              exact absurd ((HNet.out i hin).trans (h.bal i hin)) HG0.out
          · go_wp2_with fail
            go_ret2
            refine ⟨s, 0, rfl, fun _ => ⟨⟨HL.out, HFit', fun v hv => ?_⟩, HV.out⟩, fun _ => rfl, HW.out⟩
            rw [← HNet.out v hv]
            exact HZr.out v (by omega)
  · have hq : ((fs.length:Int) != (es.length:Int)) = true := by
      rw [bne_iff_ne]; omega
    have HL := Lib.hid hlen; clear hlen
    go_enter Try.func10, Try.ntmps10
    go_wp2_with fail
    go_ret2
    exact ⟨0, 10, rfl, fun h => by simp at h, fun h => absurd h.len HL.out, (Below.refl _ _).alloc (Nat.le_refl _) _⟩
end Go.Proofs.Ytjnpchoinncbnaa
end
