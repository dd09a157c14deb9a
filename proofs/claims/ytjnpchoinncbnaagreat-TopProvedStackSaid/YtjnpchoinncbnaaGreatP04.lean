/- Proves parts of the statement, each under the conditions that its theorem states: Contracts of the small functions: within, size, wrapped, and their kin; Parts of a function's code, by paths; Where a solver lies in memory, and how its arcs are yielded; The arcs of a node, one after the other: its parts. -/
import Derived.Test.YtjnpchoinncbnaaGreatP02
import Derived.Test.YtjnpchoinncbnaaGreatProg
import Derived.RangeFuncNested
import Derived.RangeFuncBound
import Derived.RangeFuncCalls
import Derived.RangeFuncLeaves
import Derived.OwnWalkIn
import Derived.TacticsInMore
import Derived.LoopNIn
import Derived.LoopIn
import Derived.BigRegionIn
set_option linter.unusedSimpArgs false
set_option linter.unusedVariables false
set_option maxHeartbeats 4000000
set_option maxRecDepth 100000
section
namespace Go.Proofs.YtjnpchoinncbnaaGreat
open Go.RowKit Sw
theorem within_c (n lo hi : Int) (r : Bool) (h : (lo ≤ n ∧ n ≤ hi) ↔ r = true) (w : World) : Calls Tryz.prog 71 #[.int .i64 n, .int .i64 lo, .int .i64 hi] w fun e w' => e = .returned (.bool r) ∧ w = w' := by
  have hr : r = (decide (lo ≤ n) && decide (n ≤ hi)) := by
    rw [Bool.eq_iff_iff, ← h]; simp
  clear h; subst hr
  by_cases h : lo ≤ n
  · go_enter Tryz.func71, Tryz.ntmps71
    go_wp2
    all_goals go_ret
    all_goals simp
    all_goals omega
  · go_enter Tryz.func71, Tryz.ntmps71
    go_wp2
    all_goals go_ret
    all_goals simp
    all_goals omega
theorem bwithin_c (n lo hi : Int) (r : Bool) (h : (lo ≤ n ∧ n ≤ hi) ↔ r = true) (w : World) : Calls Tryz.prog 15 #[.int .i64 n, .int .i64 lo, .int .i64 hi] w fun e w' => e = .returned (.bool r) ∧ w = w' := by
  have hr : r = (decide (lo ≤ n) && decide (n ≤ hi)) := by
    rw [Bool.eq_iff_iff, ← h]; simp
  clear h; subst hr
  by_cases h : lo ≤ n
  · go_enter Tryz.func15, Tryz.ntmps15
    go_wp2
    all_goals go_ret
    all_goals simp
    all_goals omega
  · go_enter Tryz.func15, Tryz.ntmps15
    go_wp2
    all_goals go_ret
    all_goals simp
    all_goals omega
theorem ret_i {a b : Int} (h : a = b) : Ending.returned (.int .i64 a) = .returned (.int .i64 b) := by rw [h]
theorem size_c (n : Int) (h : -4611686018427387904 ≤ n ∧ n ≤ 4611686018427387904) (w : World) : Calls Tryz.prog 55 #[.int .i64 n] w fun e w' => e = .returned (.int .i64 (ab n)) ∧ w = w' := by
  obtain ⟨h1, h2⟩ := h
  go_enter Tryz.func55, Tryz.ntmps55
  go_wp2
  all_goals go_ret
  all_goals exact ⟨ret_i (by unfold ab; omega), rfl⟩
theorem bsize_c (n : Int) (h : -4611686018427387904 ≤ n ∧ n ≤ 4611686018427387904) (w : World) : Calls Tryz.prog 23 #[.int .i64 n] w fun e w' => e = .returned (.int .i64 (ab n)) ∧ w = w' := by
  obtain ⟨h1, h2⟩ := h
  go_enter Tryz.func23, Tryz.ntmps23
  go_wp2
  all_goals go_ret
  all_goals exact ⟨ret_i (by unfold ab; omega), rfl⟩
theorem tmod_bounds (n : Int) : -4095 ≤ Int.tmod n 4096 ∧ Int.tmod n 4096 ≤ 4095 := by
  have h1 := Int.tmod_lt_of_pos n (show (0 : Int) < 4096 by decide)
  have h2 := Int.lt_tmod_of_pos n (show (0 : Int) < 4096 by decide)
  omega
theorem tmod_eq (n : Int) : Int.tmod n 4096 = if 0 ≤ n then n % 4096 else -((-n) % 4096) := by
  split
  · rw [Int.tmod_eq_emod_of_nonneg ‹_›]
  · have : n = -(-n) := by omega
    rw [this, Int.neg_tmod, Int.tmod_eq_emod_of_nonneg (by omega)]
    omega
theorem mod_c (n : Int) (w : World) : Calls Tryz.prog 21 #[.int .i64 n, .int .i64 4096] w fun e w' => e = .returned (.int .i64 (n % 4096)) ∧ w = w' := by
  obtain ⟨h1, h2⟩ := tmod_bounds n
  have h3 := Lib.hid (tmod_eq n)
  go_enter Tryz.func21, Tryz.ntmps21
  go_wp2
  all_goals go_ret
  all_goals refine ⟨ret_i ?_, rfl⟩
  all_goals have h4 := h3.out
  all_goals (split at h4 <;> omega)
end Go.Proofs.YtjnpchoinncbnaaGreat
end
section
namespace Go
def Code.sub : Code → List Nat → Code
  | c, [] => c
  | .seq a b, i :: p => if i = 0 then a.sub p else b.sub p
  | .cond _ a b, i :: p => if i = 0 then a.sub p else b.sub p
  | .block _ c, _ :: p => c.sub p
  | .loop c, _ :: p => c.sub p
  | .scope c, _ :: p => c.sub p
  | .rangeFunc _ _ a b, i :: p => if i = 0 then a.sub p else b.sub p
  | c, _ => c
def Func.sub (f : Func) (p : List Nat) : Code := ((f.body.map fun c => c.sub p).getD .skip)
end Go
end
section
namespace Go.Proofs.YtjnpchoinncbnaaGreat
open Go.RowKit Sw Fam
structure Loc where
  S : Nat
  x : Nat
  p : Nat
  e : Nat
  a : Nat
  A : Option Addr
  c : Nat
  row : Nat → Option Addr
  rcap : Nat → Nat
def Loc.ok (v : Loc) (b : Nat) : Prop := b ≠ v.x ∧ b ≠ v.p ∧ b ≠ v.e
structure SvM (w : World) (v : Loc) (n : Nat) (es : List Ed) (x p ex : List Int) : Prop where
  blk : w.heap[v.S]? = some (.cells #[.int .i64 n, .slice v.A es.length v.c, .slice (some ⟨v.x, 0, none⟩) es.length es.length, .slice (some ⟨v.p, 0, none⟩) n n, .slice (some ⟨v.e, 0, none⟩) n n, .slice (some ⟨v.a, 0, none⟩) n n] 78 (0, 0))
  fl : IntB w v.x x
  tu : IntB w v.p p
  em : IntB w v.e ex
  ed : ∀ j, j < es.length → ∃ b o, v.A = some ⟨b, o, none⟩ ∧ v.ok b ∧ w.cell? ⟨b, o + j * 4, none⟩ = some (.int .i64 (ge es j).f) ∧
    w.cell? ⟨b, o + j * 4 + 1, none⟩ = some (.int .i64 (ge es j).t) ∧ w.cell? ⟨b, o + j * 4 + 2, none⟩ = some (.int .i64 (ge es j).j) ∧ w.cell? ⟨b, o + j * 4 + 3, none⟩ = some (.int .i64 (ge es j).k)
  rows : ∀ u, u < n → w.cell? ⟨v.a, u, none⟩ = some (.slice (v.row u) (adj es u).length (v.rcap u)) ∧ ∀ j, j < (adj es u).length → ∃ b o, v.row u = some ⟨b, o, none⟩ ∧ v.ok b ∧ w.cell? ⟨b, o + j, none⟩ = some (.int .i64 (gn (adj es u) j))
  okS : v.ok v.S
  okA : v.ok v.a
  xp : v.x ≠ v.p
  xe : v.x ≠ v.e
  pe : v.p ≠ v.e
  lenx : es.length = x.length
  lenp : n = p.length
  lene : n = ex.length
section
variable {w : World} {v : Loc} {n : Nat} {es : List Ed} {x p ex : List Int}
theorem SvM.keep {w' : World} (h : SvM w v n es x p ex) (hb : Below w.heap.size w w') : SvM w' v n es x p ex := by
  refine ⟨(hb.block _ (Array.getElem?_eq_some_iff.1 h.blk).1).trans h.blk, h.fl.keep hb, h.tu.keep hb, h.em.keep hb, fun j hj => ?_, fun u hu => ?_, h.okS, h.okA, h.xp, h.xe, h.pe, h.lenx, h.lenp, h.lene⟩
  · obtain ⟨b, o, h1, h2, h3, h4, h5, h6⟩ := h.ed j hj
    exact ⟨b, o, h1, h2, cell_keep hb h3, cell_keep hb h4, cell_keep hb h5, cell_keep hb h6⟩
  · obtain ⟨h1, h2⟩ := h.rows u hu
    refine ⟨cell_keep hb h1, fun j hj => ?_⟩
    obtain ⟨b, o, h3, h4, h5⟩ := h2 j hj
    exact ⟨b, o, h3, h4, cell_keep hb h5⟩
theorem SvM.set {i b : Nat} {y : Value} (h : SvM w v n es x p ex) (hb : b = v.x ∨ b = v.p ∨ b = v.e) {x' p' ex' : List Int} (l1 : es.length = x'.length) (l2 : n = p'.length) (l3 : n = ex'.length)
    (h1 : IntB (w.setCell ⟨b, i, none⟩ y) v.x x') (h2 : IntB (w.setCell ⟨b, i, none⟩ y) v.p p') (h3 : IntB (w.setCell ⟨b, i, none⟩ y) v.e ex') : SvM (w.setCell ⟨b, i, none⟩ y) v n es x' p' ex' := by
  have hne : ∀ b', v.ok b' → b' ≠ b := fun b' hh e => by
    obtain ⟨a1, a2, a3⟩ := hh
    rcases hb with rfl | rfl | rfl
    · exact a1 e
    · exact a2 e
    · exact a3 e
  have hc : ∀ (b' o' : Nat), v.ok b' → ∀ u, w.cell? ⟨b', o', none⟩ = some u → (w.setCell ⟨b, i, none⟩ y).cell? ⟨b', o', none⟩ = some u := fun b' o' hh u hu => by
    rw [← hu]; exact World.cell?_of_block (w := w) (Below.heap_setCell _ _ _ _ (hne b' hh))
  refine ⟨(Below.heap_setCell _ _ _ _ (hne _ h.okS)).trans h.blk, h1, h2, h3, fun j hj => ?_, fun u hu => ?_, h.okS, h.okA, h.xp, h.xe, h.pe, l1, l2, l3⟩
  · obtain ⟨b', o, g1, g2, g3, g4, g5, g6⟩ := h.ed j hj
    exact ⟨b', o, g1, g2, hc _ _ g2 _ g3, hc _ _ g2 _ g4, hc _ _ g2 _ g5, hc _ _ g2 _ g6⟩
  · obtain ⟨g1, g2⟩ := h.rows u hu
    refine ⟨hc _ _ h.okA _ g1, fun j hj => ?_⟩
    obtain ⟨b', o, g3, g4, g5⟩ := g2 j hj
    exact ⟨b', o, g3, g4, hc _ _ g4 _ g5⟩
theorem SvM.setx (h : SvM w v n es x p ex) {i : Nat} (hi : i < x.length) (y : Int) : SvM (w.setCell ⟨v.x, i, none⟩ (.int .i64 y)) v n es (x.set i y) p ex :=
  h.set (.inl rfl) (by rw [List.length_set]; exact h.lenx) h.lenp h.lene (h.fl.set hi y) (h.tu.other (fun e => h.xp e.symm) _) (h.em.other (fun e => h.xe e.symm) _)
theorem SvM.setp (h : SvM w v n es x p ex) {i : Nat} (hi : i < p.length) (y : Int) : SvM (w.setCell ⟨v.p, i, none⟩ (.int .i64 y)) v n es x (p.set i y) ex :=
  h.set (.inr (.inl rfl)) h.lenx (by rw [List.length_set]; exact h.lenp) h.lene (h.fl.other h.xp _) (h.tu.set hi y) (h.em.other (fun e => h.pe e.symm) _)
theorem SvM.sete (h : SvM w v n es x p ex) {i : Nat} (hi : i < ex.length) (y : Int) : SvM (w.setCell ⟨v.e, i, none⟩ (.int .i64 y)) v n es x p (ex.set i y) :=
  h.set (.inr (.inr rfl)) h.lenx h.lenp (by rw [List.length_set]; exact h.lene) (h.fl.other h.xe _) (h.tu.other h.pe _) (h.em.set hi y)
theorem SvM.c0 (h : SvM w v n es x p ex) : w.cell? ⟨v.S, 0, none⟩ = some (.int .i64 n) := by simp [World.cell?, h.blk]
theorem SvM.c1 (h : SvM w v n es x p ex) : w.cell? ⟨v.S, 1, none⟩ = some (.slice v.A es.length v.c) := by simp [World.cell?, h.blk]
theorem SvM.c2 (h : SvM w v n es x p ex) : w.cell? ⟨v.S, 2, none⟩ = some (.slice (some ⟨v.x, 0, none⟩) es.length es.length) := by simp [World.cell?, h.blk]
theorem SvM.c3 (h : SvM w v n es x p ex) : w.cell? ⟨v.S, 3, none⟩ = some (.slice (some ⟨v.p, 0, none⟩) n n) := by simp [World.cell?, h.blk]
theorem SvM.c4 (h : SvM w v n es x p ex) : w.cell? ⟨v.S, 4, none⟩ = some (.slice (some ⟨v.e, 0, none⟩) n n) := by simp [World.cell?, h.blk]
theorem SvM.c5 (h : SvM w v n es x p ex) : w.cell? ⟨v.S, 5, none⟩ = some (.slice (some ⟨v.a, 0, none⟩) n n) := by simp [World.cell?, h.blk]
end
theorem nameW {F : Fence} {m : Nat} {P : Program} {Q : Exit → Act → World → Prop} {c : Code} {a : Act} {w : World} (h : ∀ W1, W1 = w → Code.wpIn F m P c Q a W1) : Code.wpIn F m P c Q a w := h w rfl
theorem nameQ {Q : Exit → Act → World → Prop} {e : Exit} {a : Act} {w : World} (h : ∀ W1, W1 = w → Q e a W1) : Q e a w := h w rfl
def encA (a : Ar) : List Value := [.int .i64 a.e, .int .i64 a.to, .int .i64 a.s, .int .i64 a.room, .int .i64 a.cost]
theorem encA_len (a : Ar) : (encA a).length = 5 := rfl
def RoundA (l : Nat) (a : Ar) (W : World) (R : World → Prop) : Prop :=
  ∃ rec : Loop, W.heap[l]? = some (.loop rec) ∧ rec.params.size = 1 ∧ ∀ m,
    RoundIn Fence.wide m Tryz.prog l rec.fn ((rec.params.zip #[.agg (encA a).toArray]).foldl (fun tmps (t, a) => tmps.setIfInBounds t a) rec.tmps) rec.assign rec.body W (fun e W' => e = .returned (.bool true) ∧ R W')
theorem RoundA.use {l : Nat} {ar : Ar} {W : World} {R : World → Prop} (h : RoundA l ar W R) {o : Oper} {m : Nat} {a : Act} {next : Act → World → Prop} {Q : Exit → Act → World → Prop}
    (hn : ∀ w', R w' → next (a.put o.dst (.bool true)) w') :
    Oper.uponIn Fence.wide m Tryz.prog o a next Q ((Instr.yield l #[.agg (encA ar).toArray]).run Tryz.prog W) := by
  obtain ⟨rec, h1, h2, h3⟩ := h
  have hr := run_yield (P := Tryz.prog) (args := #[.agg (encA ar).toArray]) h1 (by simp [h2])
  rw [hr, Oper.uponIn_round]
  refine ⟨fun h => by simp [Fence.wide] at h, (h3 (m - 1)).mono ?_⟩
  rintro e w' ⟨rfl, hR⟩
  exact hn _ hR
theorem set5 {W : World} {B : Nat} {y0 y1 y2 y3 y4 u0 u1 u2 u3 u4 : Value} (h0 : W.cell? ⟨B, 0, none⟩ = some y0) (h1 : W.cell? ⟨B, 1, none⟩ = some y1) (h2 : W.cell? ⟨B, 2, none⟩ = some y2) (h3 : W.cell? ⟨B, 3, none⟩ = some y3) (h4 : W.cell? ⟨B, 4, none⟩ = some y4) {W2 : World}
    (e : W2 = ((((W.setCell ⟨B, 0, none⟩ u0).setCell ⟨B, 1, none⟩ u1).setCell ⟨B, 2, none⟩ u2).setCell ⟨B, 3, none⟩ u3).setCell ⟨B, 4, none⟩ u4) :
    W2.cell? ⟨B, 0, none⟩ = some u0 ∧ W2.cell? ⟨B, 1, none⟩ = some u1 ∧ W2.cell? ⟨B, 2, none⟩ = some u2 ∧ W2.cell? ⟨B, 3, none⟩ = some u3 ∧ W2.cell? ⟨B, 4, none⟩ = some u4 := by
  subst e
  refine ⟨?_, ?_, ?_, ?_, ?_⟩ <;> go_simp
def arcsK (es : List Ed) (x : List Int) (u i : Nat) : List Ar := (((adj es u).take i).map (arcAt es x u)).filter fun a => 0 < a.room
theorem arcsK_all (es : List Ed) (x : List Int) (u : Nat) : arcsK es x u (adj es u).length = arcs es x u := by unfold arcsK arcs; rw [List.take_length]
theorem gn_get {xs : List Nat} {i : Nat} (h : i < xs.length) : gn xs i = xs[i] := by unfold gn; simp [List.getD_eq_getElem?_getD, h]
theorem arcsK_succ {es : List Ed} {x : List Int} {u i : Nat} (h : i < (adj es u).length) :
    arcsK es x u (i + 1) = arcsK es x u i ++ if 0 < (arcAt es x u (gn (adj es u) i)).room then [arcAt es x u (gn (adj es u) i)] else [] := by
  unfold arcsK
  rw [List.take_succ_eq_append_getElem h, List.map_append, List.filter_append, gn_get h]
  by_cases hr : 0 < (arcAt es x u ((adj es u)[i])).room
  · simp [hr]
  · simp [hr]
theorem arcsK_pre (es : List Ed) (x : List Int) (u i : Nat) : arcsK es x u i <+: arcs es x u := by
  unfold arcsK arcs
  exact List.IsPrefix.filter _ (List.IsPrefix.map _ (List.take_prefix i _))
theorem arcsK_here {es : List Ed} {x : List Int} {u i : Nat} (h : i < (adj es u).length) (hr : 0 < (arcAt es x u (gn (adj es u) i)).room) :
    (arcsK es x u i).length < (arcs es x u).length ∧ ga (arcs es x u) (arcsK es x u i).length = arcAt es x u (gn (adj es u) i) := by
  obtain ⟨t, ht⟩ := arcsK_pre es x u (i + 1)
  rw [arcsK_succ h, if_pos hr] at ht
  rw [← ht]
  constructor
  · simp only [List.length_append, List.length_cons]; omega
  · unfold ga
    simp [List.getD_eq_getElem?_getD]
theorem adj_edge {es : List Ed} {u i : Nat} (h : i < (adj es u).length) : gn (adj es u) i < es.length ∧ ((ge es (gn (adj es u) i)).f = u ∨ (ge es (gn (adj es u) i)).t = u) := by
  rw [gn_get h]
  exact mem_adj.1 (List.getElem_mem h)
theorem arcs1_tail {m l B : Nat} {ar : Ar} {W : World} {R : World → Prop} {Q : Exit → Act → World → Prop} {u1 u2 u3 u4 u5 u6 u8 u9 u10 u11 u12 u13 u14 u15 u16 u17 u18 u19 u20 u21 u22 u23 u24 u25 u26 u27 u28 u29 u30 u31 u32 u33 u34 u35 u36 u37 u38 u39 u40 u41 u42 u43 u44 u45 u46 u47 u48 u49 u50 u51 u52 u53 u54 u55 u56 u57 u58 u59 u60 u61 u62 u63 u64 u65 u66 u67 u68 u69 u70 u71 u72 u73 u74 u75 : Value}
    (c0 : W.cell? ⟨B, 0, none⟩ = some (.int .i64 ar.e)) (c1 : W.cell? ⟨B, 1, none⟩ = some (.int .i64 ar.to)) (c2 : W.cell? ⟨B, 2, none⟩ = some (.int .i64 ar.s)) (c3 : W.cell? ⟨B, 3, none⟩ = some (.int .i64 ar.room)) (c4 : W.cell? ⟨B, 4, none⟩ = some (.int .i64 ar.cost))
    (hR : 0 < ar.room → RoundA l ar W R) (hN : ¬ 0 < ar.room → R W)
    (hQ : ∀ v66 v67 v68 v69 v70 v71 v72 v73 v74 w', R w' → Q .normal ⟨#[.func (.yield l) #[] #[], u1, u2, u3, u4, u5, u6, .pointer (some ⟨B, 0, none⟩), u8, u9, u10, u11, u12, u13, u14, u15, u16, u17, u18, u19, u20, u21, u22, u23, u24, u25, u26, u27, u28, u29, u30, u31, u32, u33, u34, u35, u36, u37, u38, u39, u40, u41, u42, u43, u44, u45, u46, u47, u48, u49, u50, u51, u52, u53, u54, u55, u56, u57, u58, u59, u60, u61, u62, u63, u64, u65, v66, v67, v68, v69, v70, v71, v72, v73, v74, u75], []⟩ w') :
    Code.wpIn Fence.wide m Tryz.prog (Tryz.f102.sub [1, 0, 0, 1, 1, 0, 0, 1, 1, 1, 1]) Q ⟨#[.func (.yield l) #[] #[], u1, u2, u3, u4, u5, u6, .pointer (some ⟨B, 0, none⟩), u8, u9, u10, u11, u12, u13, u14, u15, u16, u17, u18, u19, u20, u21, u22, u23, u24, u25, u26, u27, u28, u29, u30, u31, u32, u33, u34, u35, u36, u37, u38, u39, u40, u41, u42, u43, u44, u45, u46, u47, u48, u49, u50, u51, u52, u53, u54, u55, u56, u57, u58, u59, u60, u61, u62, u63, u64, u65, u66, u67, u68, u69, u70, u71, u72, u73, u74, u75], []⟩ W := by
  conv => arg 4; whnf
  by_cases hr : 0 < ar.room
  · have HR := Lib.hid (hR hr)
    have HQ := Lib.hid hQ; clear hQ hR hN
    gi_wp2_with fail
    refine RoundA.use HR.out ?_
    intro w3 hJ3
    have HJ3 := Lib.hid hJ3; clear hJ3
    gi_wp2_with fail
    exact HQ.out _ _ _ _ _ _ _ _ _ _ HJ3.out
  · have HN := Lib.hid (hN hr)
    have HQ := Lib.hid hQ; clear hQ hR hN
    gi_wp2_with fail
    refine ⟨fun f h => (nomatch h), ?_⟩
    gi_wp2_with fail
    exact HQ.out _ _ _ _ _ _ _ _ _ _ HN.out
theorem arcs1_turn {m B C sb nb S X i u ef et M : Nat} {ej xi : Int} {ek : Nat} {W : World} {Q : Exit → Act → World → Prop} {u0 u3 u4 u8 u9 u10 u11 u12 u13 u14 u15 u16 u17 u18 u19 u20 u21 u22 u23 u24 u25 u26 u27 u28 u29 u30 u31 u32 u33 u34 u35 u36 u37 u38 u39 u40 u41 u42 u43 u44 u45 u46 u47 u48 u49 u50 u51 u52 u53 u54 u55 u56 u57 u58 u59 u60 u61 u62 u63 u64 u65 u66 u67 u68 u69 u70 u71 u72 u73 u74 u75 : Value}
    (bC : B ≠ C) (bs : sb ≠ B ∧ nb ≠ B ∧ S ≠ B ∧ X ≠ B)
    (s0 : W.cell? ⟨sb, 0, none⟩ = some (.pointer (some ⟨S, 0, none⟩))) (n0 : W.cell? ⟨nb, 0, none⟩ = some (.int .i64 u))
    (s1 : W.cell? ⟨S, 1 + 1, none⟩ = some (.slice (some ⟨X, 0, none⟩) M M)) (hi : i < M) (xc : W.cell? ⟨X, i, none⟩ = some (.int .i64 xi)) (xb : -1000 ≤ xi ∧ xi ≤ 1000) (kb : ek ≤ 1000)
    (t0 : W.cell? ⟨C, 0, none⟩ = some (.int .i64 ef)) (t1 : W.cell? ⟨C, 1, none⟩ = some (.int .i64 et)) (t2 : W.cell? ⟨C, 2, none⟩ = some (.int .i64 ej)) (t3 : W.cell? ⟨C, 3, none⟩ = some (.int .i64 ek))
    (af : ∀ i, W.frozen? ⟨B, i, none⟩ = false)
    (a0 : W.cell? ⟨B, 0, none⟩ = some (.int .i64 i)) (a1 : W.cell? ⟨B, 1, none⟩ = some (.int .i64 et)) (a2 : W.cell? ⟨B, 2, none⟩ = some (.int .i64 1)) (a3 : W.cell? ⟨B, 3, none⟩ = some (.int .i64 (ek - xi))) (a4 : W.cell? ⟨B, 4, none⟩ = some (.int .i64 (-ej)))
    (hQ : ∀ v46 v47 v48 v49 v50 v51 v52 v53 v54 v55 v56 v57 v58 v59 v60 v61 v62 v63 v64 v65 w' (ar : Ar), ar = (if et = u then ⟨i, ef, -1, ek + xi, ej⟩ else ⟨i, et, 1, ek - xi, -ej⟩) → Below B W w' →
      w'.cell? ⟨B, 0, none⟩ = some (.int .i64 ar.e) → w'.cell? ⟨B, 1, none⟩ = some (.int .i64 ar.to) → w'.cell? ⟨B, 2, none⟩ = some (.int .i64 ar.s) → w'.cell? ⟨B, 3, none⟩ = some (.int .i64 ar.room) → w'.cell? ⟨B, 4, none⟩ = some (.int .i64 ar.cost) →
      Q .normal ⟨#[u0, .pointer (some ⟨sb, 0, none⟩), .pointer (some ⟨nb, 0, none⟩), u3, u4, .int .i64 i, .pointer (some ⟨C, 0, none⟩), .pointer (some ⟨B, 0, none⟩), u8, u9, u10, u11, u12, u13, u14, u15, u16, u17, u18, u19, u20, u21, u22, u23, u24, u25, u26, u27, u28, u29, u30, u31, u32, u33, u34, u35, u36, u37, u38, u39, u40, u41, u42, u43, u44, u45, v46, v47, v48, v49, v50, v51, v52, v53, v54, v55, v56, v57, v58, v59, v60, v61, v62, v63, v64, v65, u66, u67, u68, u69, u70, u71, u72, u73, u74, u75], []⟩ w') :
    Code.wpIn Fence.wide m Tryz.prog (Tryz.f102.sub [1, 0, 0, 1, 1, 0, 0, 1, 1, 1, 0]) Q ⟨#[u0, .pointer (some ⟨sb, 0, none⟩), .pointer (some ⟨nb, 0, none⟩), u3, u4, .int .i64 i, .pointer (some ⟨C, 0, none⟩), .pointer (some ⟨B, 0, none⟩), u8, u9, u10, u11, u12, u13, u14, u15, u16, u17, u18, u19, u20, u21, u22, u23, u24, u25, u26, u27, u28, u29, u30, u31, u32, u33, u34, u35, u36, u37, u38, u39, u40, u41, u42, u43, u44, u45, u46, u47, u48, u49, u50, u51, u52, u53, u54, u55, u56, u57, u58, u59, u60, u61, u62, u63, u64, u65, u66, u67, u68, u69, u70, u71, u72, u73, u74, u75], []⟩ W := by
  conv => arg 4; whnf
  have HF := Lib.hid af; clear af
  have HQ := Lib.hid hQ; clear hQ
  obtain ⟨xb1, xb2⟩ := xb
  obtain ⟨bs1, bs2, bs3, bs4⟩ := bs
  by_cases ht : et = u
  · subst ht
    gi_wp2_with fail
    refine regionIn_last (.inl rfl) (by kernel_rfl) (by kernel_rfl) (by kernel_rfl) cut_last (by kernel_rfl) (by kernel_rfl) (by kernel_rfl) ?_
    dsimp only [List.dropLast, List.getLast]
    repeat (go_big_quiet_step (fail))
    refine wpQuiet_nil ?_
    obtain ⟨g0, g1, g2, g3, g4⟩ : (W.frozen? ⟨B, 0, none⟩ = false) ∧ (W.frozen? ⟨B, 1, none⟩ = false) ∧ (W.frozen? ⟨B, 2, none⟩ = false) ∧ (W.frozen? ⟨B, 3, none⟩ = false) ∧ (W.frozen? ⟨B, 4, none⟩ = false) := ⟨HF.out 0, HF.out 1, HF.out 2, HF.out 3, HF.out 4⟩
    refine ⟨fun w => ((((w.setCell ⟨B, 0, none⟩ (.int .i64 i)).setCell ⟨B, 1, none⟩ (.int .i64 ef)).setCell ⟨B, 2, none⟩ (.int .i64 (-1))).setCell ⟨B, 3, none⟩ (.int .i64 (ek + xi))).setCell ⟨B, 4, none⟩ (.int .i64 ej), fun n => ?_, fun n => ?_⟩
    · unfold execOp
      go_simp
    refine nameQ (Q := Q) ?_
    intro W2 hW2
    have hB2 : Below B W W2 := by
      rw [hW2]
      have hle : B ≤ B := Nat.le_refl _
      exact (((((below_drewN (Below.refl _ _) n).setCell hle _).setCell hle _).setCell hle _).setCell hle _).setCell hle _
    obtain ⟨b0, b1, b2, b3, b4⟩ := set5 (W := W.drewN n) a0 a1 a2 a3 a4 hW2
    have HB := Lib.hid hB2
    have H0 := Lib.hid (And.intro b0 (And.intro b1 (And.intro b2 (And.intro b3 b4))))
    clear hW2 a0 a1 a2 a3 a4 b0 b1 b2 b3 b4 hB2
    obtain ⟨b0, b1, b2, b3, b4⟩ := H0.out
    exact HQ.out _ _ _ _ _ _ _ _ _ _ _ _ _ _ _ _ _ _ _ _ W2 _ rfl HB.out (by first | exact b0 | simpa using b0 | simpa [ht] using b0) (by first | exact b1 | simpa using b1 | simpa [ht] using b1) (by first | exact b2 | simpa using b2 | simpa [ht] using b2) (by first | exact b3 | simpa using b3 | simpa [ht] using b3) (by first | exact b4 | simpa using b4 | simpa [ht] using b4)
  · have ht1 : ¬ ((et : Int) = u) := by omega
    have H0 := Lib.hid (And.intro a0 (And.intro a1 (And.intro a2 (And.intro a3 a4))))
    clear a0 a1 a2 a3 a4
    gi_wp2_with fail
    obtain ⟨b0, b1, b2, b3, b4⟩ := H0.out
    exact HQ.out _ _ _ _ _ _ _ _ _ _ _ _ _ _ _ _ _ _ _ _ W _ rfl (Below.refl _ _) (by first | exact b0 | simpa using b0 | simpa [ht] using b0) (by first | exact b1 | simpa using b1 | simpa [ht] using b1) (by first | exact b2 | simpa using b2 | simpa [ht] using b2) (by first | exact b3 | simpa using b3 | simpa [ht] using b3) (by first | exact b4 | simpa using b4 | simpa [ht] using b4)
end Go.Proofs.YtjnpchoinncbnaaGreat
end
