/- Proves parts of the statement, each under the conditions that its theorem states: The shortest ways: the contract; A push: the nearest node that has too little; A push: how much may go; A push: the flow along the way. -/
import Derived.Test.YtjnpchoinncbnaaP07
section
set_option linter.unusedSimpArgs false
set_option linter.unusedVariables false
namespace Go.Proofs.Ytjnpchoinncbnaa
open Go.RowKit Sw Fam
theorem results_cellN {P : Program} {fn : Func} {t : Tmp} {ty : TypeId} (hr : fn.results = #[.cell t ty]) {tm : Array Value} {b : Nat} {w : World} (ht : tm.getD t undef = .pointer (some ⟨b, 0, none⟩)) {cs : List Value} (hc : w.rangeAt b 0 cs)
    {d : TypeDesc} (hu : P.underlying ty = some d) (hd : d.isRow = true) (hi : (P.info? ty).map (·.size) = some cs.length) : (results fn tm).run P w = .ok (.agg cs.toArray) w := by
  have h1 := run_loadVar_mid w b 0 ty cs d hc hu hd hi
  simp only [results, hr]
  rw [Array.getD_eq_getD_getElem?] at ht
  simp [ht, asAddr, h1]
set_option maxHeartbeats 4000000 in
set_option maxRecDepth 100000 in
theorem ways_c {n J0 : Nat} {es : List Ed} (hg : Gd n J0 es) {x p ex : List Int} {v : Loc} (hx : Fits es x p) {W : World} (hS : SvM W v n es x p ex) (hpb : ∀ i, i < n → 0 ≤ gi p i ∧ gi p i ≤ 1000000000000) {src : Nat} (hs : src < n) :
    Calls Try.prog 58 #[.pointer (some ⟨v.S, 0, none⟩), .int .i64 src] W fun e w' => ∃ lb ab bb l last bef rk,
      e = .returned (.agg #[.slice (some ⟨lb, 0, none⟩) n n, .slice (some ⟨ab, 0, none⟩) n n, .slice (some ⟨bb, 0, none⟩) n n]) ∧ Below W.heap.size W w' ∧ W.heap.size ≤ lb ∧ W.heap.size ≤ ab ∧ W.heap.size ≤ bb ∧
      IntB w' lb l ∧ FlB encA 99 w' ab last ∧ IntB w' bb (bef.map Int.ofNat) ∧ Tour n es x p src l last bef rk := by
  refine callsIn_wide.1 (callsIn_of_wp_marks (n := 0) Try.func58 rfl trivial ?_ rfl)
  simp only [Try.ntmps58, List.size_toArray, List.length_cons, List.length_nil, Nat.reduceAdd, Nat.reduceSub, Array.replicate_succ, Array.replicate_zero, List.push_toArray, List.append_toArray, List.nil_append, List.cons_append]
  have HG := Lib.hid hg; clear hg
  have HX := Lib.hid hx; clear hx
  have HS := Lib.hid hS; clear hS
  have HP := Lib.hid hpb; clear hpb
  show Code.wpIn Fence.wide 0 Try.prog (.seq (Try.f58.sub [0]) (.seq (Try.f58.sub [1, 0]) (.seq (Try.f58.sub [1, 1, 0]) (.seq (Try.f58.sub [1, 1, 1, 0]) (.block 0 (.loop (.block 1 (Try.f58.sub [1, 1, 1, 1, 0, 0, 0])))))))) _ _ _
  refine wpIn_seq ?_
  conv => arg 4; whnf
  gi_wp2_with fail
  refine nameW ?_
  intro W1 hW1
  have hB1 : Below W.heap.size W W1 := by rw [hW1]; exact ((Below.refl _ _).alloc (Nat.le_refl _) _).alloc (by simp) _
  have hz1 : W1.heap.size = W.heap.size + 2 := by rw [hW1]; simp
  have hsb : W1.cell? ⟨W.heap.size, 0, none⟩ = some (.pointer (some ⟨v.S, 0, none⟩)) := by rw [hW1]; simp
  have hrb : W1.heap[W.heap.size + 1]? = some (.cells #[.slice none 0 0, .slice none 0 0, .slice none 0 0] 96 (0, 0)) := by
    rw [hW1]; have := World.alloc_heap_new (W.alloc (.cells #[.pointer (some ⟨v.S, 0, none⟩)] 57)) (.cells #[.slice none 0 0, .slice none 0 0, .slice none 0 0] 96); rwa [World.size_alloc] at this
  clear hW1
  have hnn := HG.out.n_le
  refine ways_make ⟨by omega, by omega⟩ hsb (cellB hB1 HS.out.c0) ?_
  intro v12 v13 v14 v15 v16 v17 v18 v19 v20 v21 v22 v23 v24 v25 v26 v27 v28 v29 v30 v31 v32 v33 v34 W2 tb lb ab bb hB2 g1 g2 g3 g4 htb hlb hab hbb
  have nlab : lb ≠ ab := fun e => by subst e; have := hlb.symm.trans hab; injection this with this; injection this with _ h _; exact absurd h (by decide)
  have nabb : ab ≠ bb := fun e => by subst e; have := hab.symm.trans hbb; injection this with this; injection this with _ h _; exact absurd h (by decide)
  have nltb : lb ≠ tb := fun e => by subst e; have := hlb.symm.trans htb; injection this with this; injection this with _ h _; exact absurd h (by decide)
  have natb : ab ≠ tb := fun e => by subst e; have := hab.symm.trans htb; injection this with this; injection this with _ h _; exact absurd h (by decide)
  have nbtb : bb ≠ tb := fun e => by subst e; have := hbb.symm.trans htb; injection this with this; injection this with _ h _; exact absurd h (by decide)
  have nlbb : lb ≠ bb := fun e => by
    subst e
    have h1 := hlb.cell (j := 0) (by simp; omega)
    have h2 := hbb.cell (j := 0) (by simp; omega)
    rw [h1, gi_rep n _ _ (by omega), gi_rep n _ _ (by omega)] at h2
    simp [far] at h2
  have ltb : tb < W2.heap.size := (Array.getElem?_eq_some_iff.1 htb).1
  have llb : lb < W2.heap.size := hlb.lt
  have lab : ab < W2.heap.size := FlB.lt hab
  have lbb : bb < W2.heap.size := hbb.lt
  have NE := Lib.hid (And.intro nlab (And.intro nabb (And.intro nltb (And.intro natb (And.intro nbtb nlbb)))))
  clear nlab nabb nltb natb nbtb nlbb
  rename_i K2 hK2
  refine hK2 _ _ ?_
  clear hK2 K2
  refine wpIn_seq ?_
  conv => arg 4; whnf
  dsimp only
  have c0 : W2.cell? ⟨W.heap.size, 0, none⟩ = some (.pointer (some ⟨v.S, 0, none⟩)) := cellB hB2 hsb
  have hB02 : Below W.heap.size W W2 := hB1.trans (hB2.mono (by omega))
  have cS : W2.cell? ⟨v.S, 0, none⟩ = some (.int .i64 n) := cellB hB02 HS.out.c0
  have hmk := run_make_bools n (by omega) W2
  gi_wp2_with fail
  refine nameW ?_
  intro W3 hW3
  have hB3 : Below W2.heap.size W2 W3 := by rw [hW3]; exact (Below.refl _ _).alloc (Nat.le_refl _) _
  have hdb : BoolB W3 W2.heap.size (List.replicate n false) := by rw [hW3]; exact FlB.new W2 encB _ _
  have htb3 := (hB3.block tb (Array.getElem?_eq_some_iff.1 htb).1).trans htb
  have hlb3 := hlb.keep hB3
  have hab3 := FlB.keep hab hB3
  have hbb3 := hbb.keep hB3
  have hrb3 := (hB3.block _ (by have := hB2.size; omega)).trans ((hB2.block _ (by omega)).trans hrb)
  have c03 := cellB hB3 c0
  have t0 : W3.cell? ⟨tb, 0, none⟩ = some (.slice (some ⟨lb, 0, none⟩) n n) := by simp [World.cell?, htb3]
  have l0 := hlb3.cell (j := src) (by simpa using hs)
  have lf := FlB.frozen hlb3 src
  have HB := Lib.hid (And.intro htb3 (And.intro hlb3 (And.intro hab3 (And.intro hbb3 (And.intro hdb hrb3)))))
  clear htb3 hlb3 hab3 hbb3 hdb hrb3 hW3 htb hlb hab hbb hrb hmk
  conv => arg 4; whnf
  gi_wp2_with fail
  refine nameW ?_
  intro W4 hW4
  obtain ⟨htb3, hlb3, hab3, hbb3, hdb, hrb3⟩ := HB.out
  have hz2 := hB2.size
  obtain ⟨nlab, nabb, nltb, natb, nbtb, nlbb⟩ := NE.out
  have hb4 : ∀ b, b ≠ lb → W4.heap[b]? = W3.heap[b]? := fun b hb => by rw [hW4]; exact Below.heap_setCell _ _ _ b hb
  have hM : WMem W W4 ⟨W.heap.size, W.heap.size + 1, tb, lb, ab, bb, W2.heap.size⟩ v.S n ((List.replicate n far).set src 0) (List.replicate n ⟨0, 0, 0, 0, 0⟩) (List.replicate n 0) (List.replicate n false) [] := by
    refine ⟨?_, ⟨(hb4 _ nltb.symm).trans htb3, by rw [hW4]; exact hlb3.set (by simpa using hs) 0, (hb4 _ nlab.symm).trans hab3, (hb4 _ nlbb.symm).trans (by rw [List.map_replicate]; exact hbb3), (hb4 _ (by show W2.heap.size ≠ lb; omega)).trans hdb, by simp, by simp, by simp, by simp, nlbb⟩, (World.cell?_of_block (hb4 _ (by show W.heap.size ≠ lb; omega))).trans c03, ⟨_, _, _, (hb4 _ (by show W.heap.size + 1 ≠ lb; omega)).trans hrb3⟩, ⟨List.nodup_nil, fun D hD => by cases hD⟩, fun D hD => by cases hD⟩
    rw [hW4]
    exact (hB02.trans (hB3.mono (by omega))).setCell (show W.heap.size ≤ lb by omega) _
  have hok : (⟨W.heap.size, W.heap.size + 1, tb, lb, ab, bb, W2.heap.size⟩ : WLoc).ok W.heap.size := by
    refine ⟨⟨?_, ?_, ?_, ?_, ?_, ?_, ?_⟩, ⟨nlab, nabb, nlbb, nltb, natb, nbtb, ?_, ?_, ?_, ?_⟩, ⟨?_, ?_, ?_, ?_, ?_, ?_⟩, ⟨?_, ?_, ?_, ?_, ?_⟩⟩ <;> (simp only; omega)
  refine wpIn_loop (LoopW W ⟨W.heap.size, W.heap.size + 1, tb, lb, ab, bb, W2.heap.size⟩ v.S n es x p src) (fun a _ => n - a.defers.length) ⟨_, _, _, _, _, _, [], hM, Dij.start n es x p src hs, by unfold cnt; rw [List.countP_replicate]; rfl, by (refine ⟨rfl, rfl, ?_⟩; repeat (first | exact trivial | refine ⟨rfl, ?_⟩))⟩ ?_
  rintro a w hI
  refine wpIn_block ?_
  refine wpIn_mono (ways_search HG.out HX.out HS.out HP.out hok (Q := fun e a w => e = .ret ∧ WEnd W ⟨W.heap.size, W.heap.size + 1, tb, lb, ab, bb, W2.heap.size⟩ n es x p src a w) (fun a w h => ⟨rfl, h⟩) hI) ?_
  intro e a w h
  cases e with
  | normal => exact h
  | ret =>
    obtain ⟨_, len, last, bef, rk, Ds, h1, h1b, h2, h3, h4, h5, h6, h7, h8, h9⟩ := h
    show LeavesInM Fence.wide 0 Try.prog _ a.tmps _ a.defers .returning w
    rw [h1]
    refine leaves_marks Ds w h2 ?_
    intro w' k1 k2 k3 k4 k5
    have b8 := (k1 _ (Opn.ne_cells h2 h8)).trans h8
    refine ⟨.agg #[.slice (some ⟨lb, 0, none⟩) n n, .slice (some ⟨ab, 0, none⟩) n n, .slice (some ⟨bb, 0, none⟩) n n], ?_, lb, ab, bb, len, last, bef, rk, rfl, ?_, by omega, by omega, by omega, (k1 _ (Opn.ne_cells h2 h5)).trans h5, (k1 _ (Opn.ne_cells h2 h6)).trans h6, (k1 _ (Opn.ne_cells h2 h7)).trans h7, h9⟩
    · refine results_cellN (cs := [.slice (some ⟨lb, 0, none⟩) n n, .slice (some ⟨ab, 0, none⟩) n n, .slice (some ⟨bb, 0, none⟩) n n]) Try.results58 h1b (fun j u hj => ?_) Try.underlying96 rfl (by kernel_rfl)
      obtain ⟨j1, j2⟩ := List.getElem?_eq_some_iff.1 hj
      rw [Nat.zero_add, block_cell b8 (j := j) (by simpa using j1)]
      simp [← j2]
    · exact ⟨k3.trans h4.os, k4.trans h4.tape, k5.trans h4.output, by rw [k2]; exact h4.size, fun b hb => (k1 b (fun hm => absurd hb (Nat.not_lt.2 (h3 b hm)))).trans (h4.block b hb)⟩
  | _ => exact (by obtain ⟨h, _⟩ := h; cases h)
end Go.Proofs.Ytjnpchoinncbnaa
end

section
set_option linter.unusedSimpArgs false
set_option linter.unusedVariables false
namespace Go.Proofs.Ytjnpchoinncbnaa
open Go.RowKit Sw Fam
structure PMem (w : World) (tb lb ab bb n : Nat) (l : List Int) (last : List Ar) (bef : List Nat) : Prop where
  blk : w.heap[tb]? = some (.cells #[.slice (some ⟨lb, 0, none⟩) n n, .slice (some ⟨ab, 0, none⟩) n n, .slice (some ⟨bb, 0, none⟩) n n] 96 (0, 0))
  len : IntB w lb l
  lst : FlB encA 99 w ab last
  bfr : IntB w bb (bef.map Int.ofNat)
  ll : l.length = n
  la : last.length = n
  lb' : bef.length = n
section
variable {w : World} {tb lb ab bb n : Nat} {l : List Int} {last : List Ar} {bef : List Nat}
theorem PMem.keep {w' : World} (h : PMem w tb lb ab bb n l last bef) (hb : Below w.heap.size w w') : PMem w' tb lb ab bb n l last bef :=
  ⟨(hb.block _ (Array.getElem?_eq_some_iff.1 h.blk).1).trans h.blk, h.len.keep hb, FlB.keep h.lst hb, h.bfr.keep hb, h.ll, h.la, h.lb'⟩
theorem PMem.other (h : PMem w tb lb ab bb n l last bef) {b i : Nat} (hb : tb ≠ b ∧ lb ≠ b ∧ ab ≠ b ∧ bb ≠ b) (u : Value) : PMem (w.setCell ⟨b, i, none⟩ u) tb lb ab bb n l last bef :=
  ⟨(Below.heap_setCell _ _ _ _ hb.1).trans h.blk, h.len.other hb.2.1 u, FlB.other h.lst hb.2.2.1 u, h.bfr.other hb.2.2.2 u, h.ll, h.la, h.lb'⟩
theorem PMem.drewN (h : PMem w tb lb ab bb n l last bef) (k : Nat) : PMem (w.drewN k) tb lb ab bb n l last bef := ⟨h.blk, h.len, h.lst, h.bfr, h.ll, h.la, h.lb'⟩
theorem PMem.c0 (h : PMem w tb lb ab bb n l last bef) : w.cell? ⟨tb, 0, none⟩ = some (.slice (some ⟨lb, 0, none⟩) n n) := by simp [World.cell?, h.blk]
theorem PMem.c1 (h : PMem w tb lb ab bb n l last bef) : w.cell? ⟨tb, 1, none⟩ = some (.slice (some ⟨ab, 0, none⟩) n n) := by simp [World.cell?, h.blk]
theorem PMem.c2 (h : PMem w tb lb ab bb n l last bef) : w.cell? ⟨tb, 2, none⟩ = some (.slice (some ⟨bb, 0, none⟩) n n) := by simp [World.cell?, h.blk]
theorem PMem.lc (h : PMem w tb lb ab bb n l last bef) {v : Nat} (hv : v < n) : w.cell? ⟨lb, v, none⟩ = some (.int .i64 (gi l v)) := h.len.cell (by rw [h.ll]; exact hv)
theorem gi_ofNat (xs : List Nat) (i : Nat) : gi (xs.map Int.ofNat) i = (gn xs i : Int) := by
  unfold gi gn
  rw [List.getD_eq_getElem?_getD, List.getD_eq_getElem?_getD, List.getElem?_map]
  cases xs[i]? <;> rfl
theorem PMem.bc (h : PMem w tb lb ab bb n l last bef) {v : Nat} (hv : v < n) : w.cell? ⟨bb, v, none⟩ = some (.int .i64 (gn bef v)) := by
  rw [h.bfr.cell (by rw [List.length_map, h.lb']; exact hv), gi_ofNat]
theorem PMem.ac (h : PMem w tb lb ab bb n l last bef) {v : Nat} (hv : v < n) {i : Nat} (hi : i < 5) : w.cell? ⟨ab, v * 5 + i, none⟩ = (encA (ga last v))[i]? := by
  have hv' : v < last.length := by rw [h.la]; exact hv
  rw [FlB.cell encA_len h.lst hi hv']
  unfold ga
  rw [List.getD_eq_getElem?_getD, List.getElem?_eq_getElem hv']
  rfl
end
def full (ex : List Int) : List Bool := ex.map fun x => decide (0 ≤ x)
theorem gb_full {ex : List Int} {v : Nat} (hv : v < ex.length) : gb (full ex) v = decide (0 ≤ gi ex v) := by
  unfold gb full gi
  simp [List.getD_eq_getElem?_getD, hv]
def LoopSel (w : World) (lb n : Nat) (l ex : List Int) (fr : List (Nat × Value)) (a : Act) (w' : World) : Prop :=
  ∃ (i : Nat) (k : Int), i ≤ n ∧ MinK n l (full ex) i k ∧ w' = w ∧ FrD 160 [] ((17, .slice (some ⟨lb, 0, none⟩) n n) :: (18, .int .i64 n) :: (19, .int .i64 i) :: (5, .int .i64 k) :: fr) a
set_option maxHeartbeats 4000000 in
set_option maxRecDepth 100000 in
theorem push_find {m n tb lb ab bb src : Nat} {v : Loc} {es : List Ed} {x p ex l : List Int} {last : List Ar} {bef : List Nat} {W : World} {Q : Exit → Act → World → Prop} {u2 u3 u6 u7 u8 u9 u10 u11 u12 u13 u14 u15 u16 u17 u18 u19 u20 u21 u22 u23 u24 u25 u26 u27 u28 u29 u30 u31 u32 u33 u34 u35 u36 u37 u38 u39 u40 u41 u42 u43 u44 u45 u46 u47 u48 u49 u50 u51 u52 u53 u54 u55 u56 u57 u58 u59 u60 u61 u62 u63 u64 u65 u66 u67 u68 u69 u70 u71 u72 u73 u74 u75 u76 u77 u78 u79 u80 u81 u82 u83 u84 u85 u86 u87 u88 u89 u90 u91 u92 u93 u94 u95 u96 u97 u98 u99 u100 u101 u102 u103 u104 u105 u106 u107 u108 u109 u110 u111 u112 u113 u114 u115 u116 u117 u118 u119 u120 u121 u122 u123 u124 u125 u126 u127 u128 u129 u130 u131 u132 u133 u134 u135 u136 u137 u138 u139 u140 u141 u142 u143 u144 u145 u146 u147 u148 u149 u150 u151 u152 u153 u154 u155 u156 u157 u158 u159 : Value}
    (hT : PMem W tb lb ab bb n l last bef) (hS : SvM W v n es x p ex) (hn : n ≤ 1000)
    (hQ : ∀ a k, MinK n l (full ex) n k → FrD 160 [] [(0, .pointer (some ⟨v.S, 0, none⟩)), (1, .int .i64 src), (4, .pointer (some ⟨tb, 0, none⟩)), (5, .int .i64 k)] a → Q .normal a W) :
    Code.wpIn Fence.wide m Try.prog (Try.f43.sub [1, 1, 0]) Q ⟨#[.pointer (some ⟨v.S, 0, none⟩), .int .i64 src, u2, u3, .pointer (some ⟨tb, 0, none⟩), .int .i64 (-1), u6, u7, u8, u9, u10, u11, u12, u13, u14, u15, u16, u17, u18, u19, u20, u21, u22, u23, u24, u25, u26, u27, u28, u29, u30, u31, u32, u33, u34, u35, u36, u37, u38, u39, u40, u41, u42, u43, u44, u45, u46, u47, u48, u49, u50, u51, u52, u53, u54, u55, u56, u57, u58, u59, u60, u61, u62, u63, u64, u65, u66, u67, u68, u69, u70, u71, u72, u73, u74, u75, u76, u77, u78, u79, u80, u81, u82, u83, u84, u85, u86, u87, u88, u89, u90, u91, u92, u93, u94, u95, u96, u97, u98, u99, u100, u101, u102, u103, u104, u105, u106, u107, u108, u109, u110, u111, u112, u113, u114, u115, u116, u117, u118, u119, u120, u121, u122, u123, u124, u125, u126, u127, u128, u129, u130, u131, u132, u133, u134, u135, u136, u137, u138, u139, u140, u141, u142, u143, u144, u145, u146, u147, u148, u149, u150, u151, u152, u153, u154, u155, u156, u157, u158, u159], []⟩ W := by
  have HQ := Lib.hid hQ; clear hQ
  have HT := Lib.hid hT; clear hT
  have HS := Lib.hid hS; clear hS
  have c0 := HT.out.c0
  show Code.wpIn Fence.wide m Try.prog (.seq (Try.f43.sub [1, 1, 0, 0]) (.block 0 (.loop (Try.f43.sub [1, 1, 0, 1, 0, 0])))) _ _ _
  refine wpIn_seq ?_
  conv => arg 4; whnf
  dsimp only
  gi_wp2_with fail
  refine wpIn_loop (LoopSel W lb n l ex [(0, .pointer (some ⟨v.S, 0, none⟩)), (1, .int .i64 src), (4, .pointer (some ⟨tb, 0, none⟩))]) (fun a _ => n - (intOf (a.tmps.getD 19 undef)).toNat) ⟨0, -1, Nat.zero_le _, ⟨by omega, by omega, fun _ v hv => by omega, fun h => by omega⟩, rfl, by (refine ⟨rfl, rfl, ?_⟩; repeat (first | exact trivial | refine ⟨rfl, ?_⟩))⟩ ?_
  rintro a wr ⟨i, k, hi, hM, rfl, hfr⟩
  obtain ⟨t, rfl⟩ := hfr.open
  clear hfr
  generalize hmu : n - (intOf ((⟨frL 160 _ t, []⟩ : Act).tmps.getD 19 undef)).toNat = mu
  have hmu' : n - i = mu := by rw [← hmu]; rfl
  clear hmu
  show Code.wpIn Fence.wide m Try.prog (.seq (Try.f43.sub [1, 1, 0, 1, 0, 0, 0]) (.seq (Try.f43.sub [1, 1, 0, 1, 0, 0, 1, 0]) (.seq (.block 1 (Try.f43.sub [1, 1, 0, 1, 0, 0, 1, 1, 0, 0])) (Try.f43.sub [1, 1, 0, 1, 0, 0, 1, 1, 1])))) _ ⟨#[.pointer (some ⟨v.S, 0, none⟩), .int .i64 src, (t 2), (t 3), .pointer (some ⟨tb, 0, none⟩), .int .i64 k, (t 6), (t 7), (t 8), (t 9), (t 10), (t 11), (t 12), (t 13), (t 14), (t 15), (t 16), .slice (some ⟨lb, 0, none⟩) n n, .int .i64 n, .int .i64 i, (t 20), (t 21), (t 22), (t 23), (t 24), (t 25), (t 26), (t 27), (t 28), (t 29), (t 30), (t 31), (t 32), (t 33), (t 34), (t 35), (t 36), (t 37), (t 38), (t 39), (t 40), (t 41), (t 42), (t 43), (t 44), (t 45), (t 46), (t 47), (t 48), (t 49), (t 50), (t 51), (t 52), (t 53), (t 54), (t 55), (t 56), (t 57), (t 58), (t 59), (t 60), (t 61), (t 62), (t 63), (t 64), (t 65), (t 66), (t 67), (t 68), (t 69), (t 70), (t 71), (t 72), (t 73), (t 74), (t 75), (t 76), (t 77), (t 78), (t 79), (t 80), (t 81), (t 82), (t 83), (t 84), (t 85), (t 86), (t 87), (t 88), (t 89), (t 90), (t 91), (t 92), (t 93), (t 94), (t 95), (t 96), (t 97), (t 98), (t 99), (t 100), (t 101), (t 102), (t 103), (t 104), (t 105), (t 106), (t 107), (t 108), (t 109), (t 110), (t 111), (t 112), (t 113), (t 114), (t 115), (t 116), (t 117), (t 118), (t 119), (t 120), (t 121), (t 122), (t 123), (t 124), (t 125), (t 126), (t 127), (t 128), (t 129), (t 130), (t 131), (t 132), (t 133), (t 134), (t 135), (t 136), (t 137), (t 138), (t 139), (t 140), (t 141), (t 142), (t 143), (t 144), (t 145), (t 146), (t 147), (t 148), (t 149), (t 150), (t 151), (t 152), (t 153), (t 154), (t 155), (t 156), (t 157), (t 158), (t 159)], []⟩ _
  refine wpIn_seq ?_
  conv => arg 4; whnf
  dsimp only
  have HM := Lib.hid hM
  obtain ⟨klo, khi⟩ : -1 ≤ k ∧ k < n := ⟨hM.lo, hM.hi⟩
  clear hM
  by_cases hlt : i < n
  · gi_wp2_with fail
    conv => arg 4; whnf
    gi_wp2_with fail
    conv => arg 4; whnf
    have cl := HT.out.lc hlt
    have s4 := HS.out.c4
    have ce := HS.out.em.cell (j := i) (by rw [← HS.out.lene]; exact hlt)
    have hfu := gb_full (ex := ex) (v := i) (by rw [← HS.out.lene]; exact hlt)
    have HFU := Lib.hid hfu; clear hfu
    rename_i K4 hK4
    have done3 : ∀ (k3 : Int) (a3 : Act), MinK n l (full ex) (i + 1) k3 →
        FrD 160 [] ((17, .slice (some ⟨lb, 0, none⟩) n n) :: (18, .int .i64 n) :: (19, .int .i64 i) :: (5, .int .i64 k3) :: [(0, .pointer (some ⟨v.S, 0, none⟩)), (1, .int .i64 src), (4, .pointer (some ⟨tb, 0, none⟩))]) a3 → K4 a3 wr := by
      intro k3 a3 h1 h5
      refine hK4 _ _ ?_
      obtain ⟨t3, rfl⟩ := h5.open
      show Code.wpIn Fence.wide m Try.prog _ _ ⟨#[.pointer (some ⟨v.S, 0, none⟩), .int .i64 src, (t3 2), (t3 3), .pointer (some ⟨tb, 0, none⟩), .int .i64 k3, (t3 6), (t3 7), (t3 8), (t3 9), (t3 10), (t3 11), (t3 12), (t3 13), (t3 14), (t3 15), (t3 16), .slice (some ⟨lb, 0, none⟩) n n, .int .i64 n, .int .i64 i, (t3 20), (t3 21), (t3 22), (t3 23), (t3 24), (t3 25), (t3 26), (t3 27), (t3 28), (t3 29), (t3 30), (t3 31), (t3 32), (t3 33), (t3 34), (t3 35), (t3 36), (t3 37), (t3 38), (t3 39), (t3 40), (t3 41), (t3 42), (t3 43), (t3 44), (t3 45), (t3 46), (t3 47), (t3 48), (t3 49), (t3 50), (t3 51), (t3 52), (t3 53), (t3 54), (t3 55), (t3 56), (t3 57), (t3 58), (t3 59), (t3 60), (t3 61), (t3 62), (t3 63), (t3 64), (t3 65), (t3 66), (t3 67), (t3 68), (t3 69), (t3 70), (t3 71), (t3 72), (t3 73), (t3 74), (t3 75), (t3 76), (t3 77), (t3 78), (t3 79), (t3 80), (t3 81), (t3 82), (t3 83), (t3 84), (t3 85), (t3 86), (t3 87), (t3 88), (t3 89), (t3 90), (t3 91), (t3 92), (t3 93), (t3 94), (t3 95), (t3 96), (t3 97), (t3 98), (t3 99), (t3 100), (t3 101), (t3 102), (t3 103), (t3 104), (t3 105), (t3 106), (t3 107), (t3 108), (t3 109), (t3 110), (t3 111), (t3 112), (t3 113), (t3 114), (t3 115), (t3 116), (t3 117), (t3 118), (t3 119), (t3 120), (t3 121), (t3 122), (t3 123), (t3 124), (t3 125), (t3 126), (t3 127), (t3 128), (t3 129), (t3 130), (t3 131), (t3 132), (t3 133), (t3 134), (t3 135), (t3 136), (t3 137), (t3 138), (t3 139), (t3 140), (t3 141), (t3 142), (t3 143), (t3 144), (t3 145), (t3 146), (t3 147), (t3 148), (t3 149), (t3 150), (t3 151), (t3 152), (t3 153), (t3 154), (t3 155), (t3 156), (t3 157), (t3 158), (t3 159)], []⟩ _
      conv => arg 4; whnf
      dsimp only
      have H1 := Lib.hid h1; clear h1
      gi_wp2_with fail
      refine ⟨⟨i + 1, k3, by omega, H1.out, rfl, by (refine ⟨rfl, rfl, ?_⟩; repeat (first | exact trivial | refine ⟨rfl, ?_⟩))⟩, ?_⟩
      show n - ((i : Int) + 1).toNat < mu
      omega
    have D3 := Lib.hid done3; clear done3 hK4
    by_cases hd : gi ex i < 0
    · have hg := HFU.out
      rw [show decide (0 ≤ gi ex i) = false by simpa using hd] at hg
      have HG := Lib.hid hg; clear hg
      by_cases hf : gi l i < 1152921504606846976
      · by_cases hk : k < 0
        · gi_wp2_with fail
          exact D3.out i _ (HM.out.take hlt HG.out hf (.inl hk)) (by (refine ⟨rfl, rfl, ?_⟩; repeat (first | exact trivial | refine ⟨rfl, ?_⟩)))
        · obtain ⟨k', rfl⟩ : ∃ k' : Nat, k = k' := ⟨k.toNat, by omega⟩
          have hkn : k' < n := by omega
          have ck := HT.out.lc hkn
          by_cases hll : gi l i < gi l k'
          · gi_wp2_with fail
            exact D3.out i _ (HM.out.take hlt HG.out hf (.inr hll)) (by (refine ⟨rfl, rfl, ?_⟩; repeat (first | exact trivial | refine ⟨rfl, ?_⟩)))
          · gi_wp2_with fail
            exact D3.out _ _ (HM.out.skip (.inr (.inr ⟨by omega, by rw [Int.toNat_natCast]; omega⟩))) (by (refine ⟨rfl, rfl, ?_⟩; repeat (first | exact trivial | refine ⟨rfl, ?_⟩)))
      · gi_wp2_with fail
        exact D3.out _ _ (HM.out.skip (.inr (.inl (by unfold far; omega)))) (by (refine ⟨rfl, rfl, ?_⟩; repeat (first | exact trivial | refine ⟨rfl, ?_⟩)))
    · have hg := HFU.out
      rw [show decide (0 ≤ gi ex i) = true by simp; omega] at hg
      have HG := Lib.hid hg; clear hg
      gi_wp2_with fail
      exact D3.out _ _ (HM.out.skip (.inl HG.out)) (by (refine ⟨rfl, rfl, ?_⟩; repeat (first | exact trivial | refine ⟨rfl, ?_⟩)))
  · gi_wp2_with fail
    conv => arg 4; whnf
    gi_wp2_with fail
    have : i = n := by omega
    subst this
    exact HQ.out _ _ HM.out (by (refine ⟨rfl, rfl, ?_⟩; repeat (first | exact trivial | refine ⟨rfl, ?_⟩)))
end Go.Proofs.Ytjnpchoinncbnaa
end

section
set_option linter.unusedSimpArgs false
set_option linter.unusedVariables false
namespace Go.Proofs.Ytjnpchoinncbnaa
open Go.RowKit Sw Fam
set_option maxHeartbeats 4000000 in
set_option maxRecDepth 100000 in
theorem push_amount {m n tb src to : Nat} {v : Loc} {es : List Ed} {x p ex : List Int} {W : World} {Q : Exit → Act → World → Prop} {u2 u3 u6 u7 u8 u9 u10 u11 u12 u13 u14 u15 u16 u17 u18 u19 u20 u21 u22 u23 u24 u25 u26 u27 u28 u29 u30 u31 u32 u33 u34 u35 u36 u37 u38 u39 u40 u41 u42 u43 u44 u45 u46 u47 u48 u49 u50 u51 u52 u53 u54 u55 u56 u57 u58 u59 u60 u61 u62 u63 u64 u65 u66 u67 u68 u69 u70 u71 u72 u73 u74 u75 u76 u77 u78 u79 u80 u81 u82 u83 u84 u85 u86 u87 u88 u89 u90 u91 u92 u93 u94 u95 u96 u97 u98 u99 u100 u101 u102 u103 u104 u105 u106 u107 u108 u109 u110 u111 u112 u113 u114 u115 u116 u117 u118 u119 u120 u121 u122 u123 u124 u125 u126 u127 u128 u129 u130 u131 u132 u133 u134 u135 u136 u137 u138 u139 u140 u141 u142 u143 u144 u145 u146 u147 u148 u149 u150 u151 u152 u153 u154 u155 u156 u157 u158 u159 : Value}
    (hS : SvM W v n es x p ex) (hsrc : src < n) (hto : to < n) (hb : ∀ v, v < n → -1000000000 ≤ gi ex v ∧ gi ex v ≤ 1000000000)
    (hQ : ∀ a k am, am = min (gi ex src) (-gi ex to) → FrD 160 [] [(0, .pointer (some ⟨v.S, 0, none⟩)), (1, .int .i64 src), (4, .pointer (some ⟨tb, 0, none⟩)), (5, .int .i64 to), (8, .int .i64 am)] a → Q .normal a (W.drewN k)) :
    Code.wpIn Fence.wide m Try.prog (Try.f43.sub [1, 1, 1, 0]) Q ⟨#[.pointer (some ⟨v.S, 0, none⟩), .int .i64 src, u2, u3, .pointer (some ⟨tb, 0, none⟩), .int .i64 to, u6, u7, u8, u9, u10, u11, u12, u13, u14, u15, u16, u17, u18, u19, u20, u21, u22, u23, u24, u25, u26, u27, u28, u29, u30, u31, u32, u33, u34, u35, u36, u37, u38, u39, u40, u41, u42, u43, u44, u45, u46, u47, u48, u49, u50, u51, u52, u53, u54, u55, u56, u57, u58, u59, u60, u61, u62, u63, u64, u65, u66, u67, u68, u69, u70, u71, u72, u73, u74, u75, u76, u77, u78, u79, u80, u81, u82, u83, u84, u85, u86, u87, u88, u89, u90, u91, u92, u93, u94, u95, u96, u97, u98, u99, u100, u101, u102, u103, u104, u105, u106, u107, u108, u109, u110, u111, u112, u113, u114, u115, u116, u117, u118, u119, u120, u121, u122, u123, u124, u125, u126, u127, u128, u129, u130, u131, u132, u133, u134, u135, u136, u137, u138, u139, u140, u141, u142, u143, u144, u145, u146, u147, u148, u149, u150, u151, u152, u153, u154, u155, u156, u157, u158, u159], []⟩ W := by
  have HQ := Lib.hid hQ; clear hQ
  have s4 := hS.c4
  have e1 := hS.em.cell (j := src) (by rw [← hS.lene]; exact hsrc)
  have e2 := hS.em.cell (j := to) (by rw [← hS.lene]; exact hto)
  obtain ⟨a1, a2⟩ := hb src hsrc
  obtain ⟨b1, b2⟩ := hb to hto
  clear hS hb
  conv => arg 4; whnf
  dsimp only
  refine regionIn_reads (.inl rfl) (by kernel_rfl) (by kernel_rfl) (by kernel_rfl) ?_
  by_cases hmn : -gi ex to < gi ex src
  all_goals
    repeat (go_big_quiet_step (fail))
    refine wpQuiet_nil ?_
    intro _ hw'
    obtain ⟨nq, rfl⟩ := hw'
    first
    | exact HQ.out _ _ (gi ex src) (by omega) (by (refine ⟨rfl, rfl, ?_⟩; repeat (first | exact trivial | refine ⟨rfl, ?_⟩)))
    | exact HQ.out _ _ (-gi ex to) (by omega) (by (refine ⟨rfl, rfl, ?_⟩; repeat (first | exact trivial | refine ⟨rfl, ?_⟩)))
def LoopRoom (w : World) (n : Nat) (l : List Int) (rk : Nat → Nat) (last : List Ar) (bef : List Nat) (src to : Nat) (am0 : Int) (fr : List (Nat × Value)) (a : Act) (w' : World) : Prop :=
  ∃ (k : Nat) (am : Int), Back n l rk bef src to k ∧ 1 ≤ am ∧ am ≤ am0 ∧ (∀ j, j < k → am ≤ (ga last (itb bef to j)).room) ∧ w' = w ∧ FrD 160 [] ((9, .int .i64 (itb bef to k)) :: (8, .int .i64 am) :: fr) a
set_option maxHeartbeats 4000000 in
set_option maxRecDepth 100000 in
theorem push_room {m n J tb lb ab bb src to : Nat} {S : Value} {es : List Ed} (hg : Gd n J es) {x p l : List Int} {last : List Ar} {bef : List Nat} {rk : Nat → Nat} {am0 : Int} {W : World} {Q : Exit → Act → World → Prop} {u2 u3 u6 u7 u9 u10 u11 u12 u13 u14 u15 u16 u17 u18 u19 u20 u21 u22 u23 u24 u25 u26 u27 u28 u29 u30 u31 u32 u33 u34 u35 u36 u37 u38 u39 u40 u41 u42 u43 u44 u45 u46 u47 u48 u49 u50 u51 u52 u53 u54 u55 u56 u57 u58 u59 u60 u61 u62 u63 u64 u65 u66 u67 u68 u69 u70 u71 u72 u73 u74 u75 u76 u77 u78 u79 u80 u81 u82 u83 u84 u85 u86 u87 u88 u89 u90 u91 u92 u93 u94 u95 u96 u97 u98 u99 u100 u101 u102 u103 u104 u105 u106 u107 u108 u109 u110 u111 u112 u113 u114 u115 u116 u117 u118 u119 u120 u121 u122 u123 u124 u125 u126 u127 u128 u129 u130 u131 u132 u133 u134 u135 u136 u137 u138 u139 u140 u141 u142 u143 u144 u145 u146 u147 u148 u149 u150 u151 u152 u153 u154 u155 u156 u157 u158 u159 : Value}
    (hT : PMem W tb lb ab bb n l last bef) (T : Tour n es x p src l last bef rk) (hf : Fits es x p) (hto : to < n) (hfar : gi l to < far) (ha : 1 ≤ am0 ∧ am0 ≤ 1000000000)
    (hQ : ∀ a k am, Back n l rk bef src to k → itb bef to k = src → 1 ≤ am → am ≤ am0 → (∀ j, j < k → am ≤ (ga last (itb bef to j)).room) →
      FrD 160 [] [(0, S), (1, .int .i64 src), (4, .pointer (some ⟨tb, 0, none⟩)), (5, .int .i64 to), (8, .int .i64 am)] a → Q .normal a W) :
    Code.wpIn Fence.wide m Try.prog (Try.f43.sub [1, 1, 1, 1, 0]) Q ⟨#[S, .int .i64 src, u2, u3, .pointer (some ⟨tb, 0, none⟩), .int .i64 to, u6, u7, .int .i64 am0, u9, u10, u11, u12, u13, u14, u15, u16, u17, u18, u19, u20, u21, u22, u23, u24, u25, u26, u27, u28, u29, u30, u31, u32, u33, u34, u35, u36, u37, u38, u39, u40, u41, u42, u43, u44, u45, u46, u47, u48, u49, u50, u51, u52, u53, u54, u55, u56, u57, u58, u59, u60, u61, u62, u63, u64, u65, u66, u67, u68, u69, u70, u71, u72, u73, u74, u75, u76, u77, u78, u79, u80, u81, u82, u83, u84, u85, u86, u87, u88, u89, u90, u91, u92, u93, u94, u95, u96, u97, u98, u99, u100, u101, u102, u103, u104, u105, u106, u107, u108, u109, u110, u111, u112, u113, u114, u115, u116, u117, u118, u119, u120, u121, u122, u123, u124, u125, u126, u127, u128, u129, u130, u131, u132, u133, u134, u135, u136, u137, u138, u139, u140, u141, u142, u143, u144, u145, u146, u147, u148, u149, u150, u151, u152, u153, u154, u155, u156, u157, u158, u159], []⟩ W := by
  have HQ := Lib.hid hQ; clear hQ
  have HT := Lib.hid hT; clear hT
  have HG := Lib.hid hg; clear hg
  have TT := Lib.hid T; clear T
  have HF := Lib.hid hf; clear hf
  have hnn := HG.out.n_le
  show Code.wpIn Fence.wide m Try.prog (.seq (Try.f43.sub [1, 1, 1, 1, 0, 0]) (.block 2 (.loop (Try.f43.sub [1, 1, 1, 1, 0, 1, 0, 0])))) _ _ _
  refine wpIn_seq ?_
  conv => arg 4; whnf
  gi_wp2_with fail
  obtain ⟨ha1, ha2⟩ := ha
  refine wpIn_loop (LoopRoom W n l rk last bef src to am0 [(0, S), (1, .int .i64 src), (4, .pointer (some ⟨tb, 0, none⟩)), (5, .int .i64 to)]) (fun a _ => rk (intOf (a.tmps.getD 9 undef)).toNat) ⟨0, am0, Back.zero hto hfar, ha1, Int.le_refl _, fun j hj => by omega, rfl, by (refine ⟨rfl, rfl, ?_⟩; repeat (first | exact trivial | refine ⟨rfl, ?_⟩))⟩ ?_
  rintro a wr ⟨k, am, hB, hm1, hm2, hro, rfl, hfr⟩
  obtain ⟨t, rfl⟩ := hfr.open
  clear hfr
  generalize hmu : rk (intOf ((⟨frL 160 _ t, []⟩ : Act).tmps.getD 9 undef)).toNat = mu
  have hmu' : rk (itb bef to k) = mu := by rw [← hmu]; rfl
  clear hmu
  have HB := Lib.hid hB
  have HR := Lib.hid hro; clear hro
  have HMU := Lib.hid hmu'; clear hmu'
  obtain ⟨b1, b2, b3, b4⟩ := hB.at_ k (Nat.le_refl _)
  clear hB b3 b4
  obtain ⟨u, hu⟩ : ∃ u, itb bef to k = u := ⟨_, rfl⟩
  rw [hu] at b1 b2 ⊢
  have HU := Lib.hid hu; clear hu
  have c1 := HT.out.c1
  have c2 := HT.out.c2
  have d1 : wr.cell? ⟨ab, u * 5 + 3, none⟩ = some (.int .i64 (ga last u).room) := HT.out.ac b1 (i := 3) (by omega)
  have d2 := HT.out.bc b1
  show Code.wpIn Fence.wide m Try.prog (.seq (.seq (Try.f43.sub [1, 1, 1, 1, 0, 1, 0, 0, 0, 0]) (Try.f43.sub [1, 1, 1, 1, 0, 1, 0, 0, 0, 1])) (.seq (.block 3 (Try.f43.sub [1, 1, 1, 1, 0, 1, 0, 0, 1, 0, 0])) (Try.f43.sub [1, 1, 1, 1, 0, 1, 0, 0, 1, 1]))) _ ⟨#[S, .int .i64 src, (t 2), (t 3), .pointer (some ⟨tb, 0, none⟩), .int .i64 to, (t 6), (t 7), .int .i64 am, .int .i64 u, (t 10), (t 11), (t 12), (t 13), (t 14), (t 15), (t 16), (t 17), (t 18), (t 19), (t 20), (t 21), (t 22), (t 23), (t 24), (t 25), (t 26), (t 27), (t 28), (t 29), (t 30), (t 31), (t 32), (t 33), (t 34), (t 35), (t 36), (t 37), (t 38), (t 39), (t 40), (t 41), (t 42), (t 43), (t 44), (t 45), (t 46), (t 47), (t 48), (t 49), (t 50), (t 51), (t 52), (t 53), (t 54), (t 55), (t 56), (t 57), (t 58), (t 59), (t 60), (t 61), (t 62), (t 63), (t 64), (t 65), (t 66), (t 67), (t 68), (t 69), (t 70), (t 71), (t 72), (t 73), (t 74), (t 75), (t 76), (t 77), (t 78), (t 79), (t 80), (t 81), (t 82), (t 83), (t 84), (t 85), (t 86), (t 87), (t 88), (t 89), (t 90), (t 91), (t 92), (t 93), (t 94), (t 95), (t 96), (t 97), (t 98), (t 99), (t 100), (t 101), (t 102), (t 103), (t 104), (t 105), (t 106), (t 107), (t 108), (t 109), (t 110), (t 111), (t 112), (t 113), (t 114), (t 115), (t 116), (t 117), (t 118), (t 119), (t 120), (t 121), (t 122), (t 123), (t 124), (t 125), (t 126), (t 127), (t 128), (t 129), (t 130), (t 131), (t 132), (t 133), (t 134), (t 135), (t 136), (t 137), (t 138), (t 139), (t 140), (t 141), (t 142), (t 143), (t 144), (t 145), (t 146), (t 147), (t 148), (t 149), (t 150), (t 151), (t 152), (t 153), (t 154), (t 155), (t 156), (t 157), (t 158), (t 159)], []⟩ _
  refine wpIn_seq ?_
  refine wpIn_seq ?_
  conv => arg 4; whnf
  dsimp only
  by_cases hus : u = src
  · subst hus
    gi_wp2_with fail
    conv => arg 4; whnf
    gi_wp2_with fail
    exact HQ.out _ k am HB.out HU.out hm1 hm2 HR.out (by (refine ⟨rfl, rfl, ?_⟩; repeat (first | exact trivial | refine ⟨rfl, ?_⟩)))
  · obtain ⟨r1, r2, r3, r4, r5, r6⟩ := TT.out.tree u b1 hus b2
    have hroom : 0 < (ga last u).room := by obtain ⟨_, _, _, h⟩ := r3; exact h
    have hus' : ¬ ((u : Int) = src) := by omega
    have hbn : ¬ (n ≤ u) := by omega
    have R6 := Lib.hid r6
    clear r2 r3 r4 r5 r6
    have hne : itb bef to k ≠ src := by rw [HU.out]; exact hus
    have hu2 : itb bef to (k + 1) = gn bef u := by show gn bef (itb bef to k) = _; rw [HU.out]
    have HN := Lib.hid (And.intro hne hu2); clear hne hu2
    by_cases hmn : (ga last u).room < am
    all_goals
      gi_wp2_with fail
      conv => arg 4; whnf
      gi_wp2_with fail
      conv => arg 4; whnf
      gi_wp2_with fail
      conv => arg 4; whnf
      gi_wp2_with fail
      obtain ⟨hne, hu2⟩ := HN.out
      have FIN : ∀ (am' : Int) (a : Act), (1 ≤ am' ∧ am' ≤ am ∧ am' ≤ (ga last u).room) → FrD 160 [] ((9, .int .i64 (gn bef u)) :: (8, .int .i64 am') :: [(0, S), (1, .int .i64 src), (4, .pointer (some ⟨tb, 0, none⟩)), (5, .int .i64 to)]) a →
          (LoopRoom wr n l rk last bef src to am0 [(0, S), (1, .int .i64 src), (4, .pointer (some ⟨tb, 0, none⟩)), (5, .int .i64 to)] a wr ∧ rk (intOf (a.tmps.getD 9 undef)).toNat < mu) := by
        intro am' a ⟨q1, q2, q3⟩ hfr
        refine ⟨⟨k + 1, am', HB.out.step TT.out HF.out hne, q1, by omega, fun j hj => ?_, rfl, by rw [hu2]; exact hfr⟩, ?_⟩
        · by_cases e : j = k
          · subst e; rw [HU.out]; exact q3
          · have := HR.out j (by omega); omega
        · rw [hfr.2.2.1, ← HMU.out, HU.out]
          exact R6.out
      first
      | exact FIN am _ (by omega) (by (refine ⟨rfl, rfl, ?_⟩; repeat (first | exact trivial | refine ⟨rfl, ?_⟩)))
      | exact FIN (ga last u).room _ (by omega) (by (refine ⟨rfl, rfl, ?_⟩; repeat (first | exact trivial | refine ⟨rfl, ?_⟩)))
end Go.Proofs.Ytjnpchoinncbnaa
end

section
set_option linter.unusedSimpArgs false
set_option linter.unusedVariables false
namespace Go.Proofs.Ytjnpchoinncbnaa
open Go.RowKit Sw Fam
structure PW (W w : World) (v : Loc) (tb lb ab bb n : Nat) (es : List Ed) (x p ex l : List Int) (last : List Ar) (bef : List Nat) : Prop where
  sv : SvM w v n es x p ex
  pm : PMem w tb lb ab bb n l last bef
  tch : Tch [v.x, v.p, v.e] W w
structure PApart (v : Loc) (tb lb ab bb : Nat) : Prop where
  x : tb ≠ v.x ∧ lb ≠ v.x ∧ ab ≠ v.x ∧ bb ≠ v.x
  p : tb ≠ v.p ∧ lb ≠ v.p ∧ ab ≠ v.p ∧ bb ≠ v.p
  e : tb ≠ v.e ∧ lb ≠ v.e ∧ ab ≠ v.e ∧ bb ≠ v.e
section
variable {W w : World} {v : Loc} {tb lb ab bb n : Nat} {es : List Ed} {x p ex l : List Int} {last : List Ar} {bef : List Nat}
theorem SvM.drewN (h : SvM w v n es x p ex) (k : Nat) : SvM (w.drewN k) v n es x p ex := h.keep (below_drewN (Below.refl _ _) k)
theorem PW.drewN (h : PW W w v tb lb ab bb n es x p ex l last bef) (k : Nat) : PW W (w.drewN k) v tb lb ab bb n es x p ex l last bef := ⟨h.sv.drewN k, h.pm.drewN k, h.tch.drewN k⟩
theorem PW.setx (h : PW W w v tb lb ab bb n es x p ex l last bef) (ha : PApart v tb lb ab bb) {i : Nat} (hi : i < x.length) (y : Int) : PW W (w.setCell ⟨v.x, i, none⟩ (.int .i64 y)) v tb lb ab bb n es (x.set i y) p ex l last bef :=
  ⟨h.sv.setx hi y, h.pm.other ha.x _, h.tch.set (.inl (by simp)) _⟩
theorem PW.setp (h : PW W w v tb lb ab bb n es x p ex l last bef) (ha : PApart v tb lb ab bb) {i : Nat} (hi : i < p.length) (y : Int) : PW W (w.setCell ⟨v.p, i, none⟩ (.int .i64 y)) v tb lb ab bb n es x (p.set i y) ex l last bef :=
  ⟨h.sv.setp hi y, h.pm.other ha.p _, h.tch.set (.inl (by simp)) _⟩
theorem PW.sete (h : PW W w v tb lb ab bb n es x p ex l last bef) (ha : PApart v tb lb ab bb) {i : Nat} (hi : i < ex.length) (y : Int) : PW W (w.setCell ⟨v.e, i, none⟩ (.int .i64 y)) v tb lb ab bb n es x p (ex.set i y) l last bef :=
  ⟨h.sv.sete hi y, h.pm.other ha.e _, h.tch.set (.inl (by simp)) _⟩
end
def LoopFlow (W : World) (v : Loc) (tb lb ab bb n : Nat) (es : List Ed) (x p ex l : List Int) (last : List Ar) (bef : List Nat) (to K : Nat) (am : Int) (fr : List (Nat × Value)) (a : Act) (w : World) : Prop :=
  ∃ (k : Nat) (y : List Int), k ≤ K ∧ Fl n es x am last bef to k y ∧ PW W w v tb lb ab bb n es y p ex l last bef ∧ FrD 160 [] ((10, .int .i64 (itb bef to k)) :: fr) a
set_option maxHeartbeats 4000000 in
set_option maxRecDepth 100000 in
theorem push_flow {m n J tb lb ab bb src to K : Nat} {es : List Ed} (hg : Gd n J es) {x p ex l : List Int} {v : Loc} {last : List Ar} {bef : List Nat} {rk : Nat → Nat} {am : Int} {W0 W : World} {Q : Exit → Act → World → Prop} {u2 u3 u6 u7 u9 u10 u11 u12 u13 u14 u15 u16 u17 u18 u19 u20 u21 u22 u23 u24 u25 u26 u27 u28 u29 u30 u31 u32 u33 u34 u35 u36 u37 u38 u39 u40 u41 u42 u43 u44 u45 u46 u47 u48 u49 u50 u51 u52 u53 u54 u55 u56 u57 u58 u59 u60 u61 u62 u63 u64 u65 u66 u67 u68 u69 u70 u71 u72 u73 u74 u75 u76 u77 u78 u79 u80 u81 u82 u83 u84 u85 u86 u87 u88 u89 u90 u91 u92 u93 u94 u95 u96 u97 u98 u99 u100 u101 u102 u103 u104 u105 u106 u107 u108 u109 u110 u111 u112 u113 u114 u115 u116 u117 u118 u119 u120 u121 u122 u123 u124 u125 u126 u127 u128 u129 u130 u131 u132 u133 u134 u135 u136 u137 u138 u139 u140 u141 u142 u143 u144 u145 u146 u147 u148 u149 u150 u151 u152 u153 u154 u155 u156 u157 u158 u159 : Value}
    (hP : PW W0 W v tb lb ab bb n es x p ex l last bef) (hA : PApart v tb lb ab bb) (T : Tour n es x p src l last bef rk) (hf : Fits es x p) (hB : Back n l rk bef src to K) (hK : itb bef to K = src) (ha : 1 ≤ am ∧ am ≤ 1000000000)
    (hQ : ∀ a w y, Fl n es x am last bef to K y → PW W0 w v tb lb ab bb n es y p ex l last bef →
      FrD 160 [] [(0, .pointer (some ⟨v.S, 0, none⟩)), (1, .int .i64 src), (4, .pointer (some ⟨tb, 0, none⟩)), (5, .int .i64 to), (8, .int .i64 am)] a → Q .normal a w) :
    Code.wpIn Fence.wide m Try.prog (Try.f43.sub [1, 1, 1, 1, 1, 0]) Q ⟨#[.pointer (some ⟨v.S, 0, none⟩), .int .i64 src, u2, u3, .pointer (some ⟨tb, 0, none⟩), .int .i64 to, u6, u7, .int .i64 am, u9, u10, u11, u12, u13, u14, u15, u16, u17, u18, u19, u20, u21, u22, u23, u24, u25, u26, u27, u28, u29, u30, u31, u32, u33, u34, u35, u36, u37, u38, u39, u40, u41, u42, u43, u44, u45, u46, u47, u48, u49, u50, u51, u52, u53, u54, u55, u56, u57, u58, u59, u60, u61, u62, u63, u64, u65, u66, u67, u68, u69, u70, u71, u72, u73, u74, u75, u76, u77, u78, u79, u80, u81, u82, u83, u84, u85, u86, u87, u88, u89, u90, u91, u92, u93, u94, u95, u96, u97, u98, u99, u100, u101, u102, u103, u104, u105, u106, u107, u108, u109, u110, u111, u112, u113, u114, u115, u116, u117, u118, u119, u120, u121, u122, u123, u124, u125, u126, u127, u128, u129, u130, u131, u132, u133, u134, u135, u136, u137, u138, u139, u140, u141, u142, u143, u144, u145, u146, u147, u148, u149, u150, u151, u152, u153, u154, u155, u156, u157, u158, u159], []⟩ W := by
  have HQ := Lib.hid hQ; clear hQ
  have HA := Lib.hid hA; clear hA
  have HG := Lib.hid hg; clear hg
  have TT := Lib.hid T; clear T
  have HF := Lib.hid hf; clear hf
  have HB := Lib.hid (And.intro hB hK); clear hB hK
  have hnn := HG.out.n_le
  have hmm := HG.out.m_le
  have HX0 := Lib.hid hP.sv.lenx.symm
  show Code.wpIn Fence.wide m Try.prog (.seq (Try.f43.sub [1, 1, 1, 1, 1, 0, 0]) (.block 4 (.loop (Try.f43.sub [1, 1, 1, 1, 1, 0, 1, 0, 0])))) _ _ _
  refine wpIn_seq ?_
  conv => arg 4; whnf
  have HP0 := Lib.hid hP; clear hP
  gi_wp2_with fail
  obtain ⟨ha1, ha2⟩ := ha
  refine wpIn_loop (LoopFlow W0 v tb lb ab bb n es x p ex l last bef to K am [(0, .pointer (some ⟨v.S, 0, none⟩)), (1, .int .i64 src), (4, .pointer (some ⟨tb, 0, none⟩)), (5, .int .i64 to), (8, .int .i64 am)]) (fun a _ => rk (intOf (a.tmps.getD 10 undef)).toNat) ⟨0, x, Nat.zero_le _, Fl.zero HX0.out, HP0.out, by (refine ⟨rfl, rfl, ?_⟩; repeat (first | exact trivial | refine ⟨rfl, ?_⟩))⟩ ?_
  clear HP0 W
  rintro a W ⟨k, y, hkK, hFl, hP, hfr⟩
  obtain ⟨t, rfl⟩ := hfr.open
  clear hfr
  generalize hmu : rk (intOf ((⟨frL 160 _ t, []⟩ : Act).tmps.getD 10 undef)).toNat = mu
  have hmu' : rk (itb bef to k) = mu := by rw [← hmu]; rfl
  clear hmu
  have HMU := Lib.hid hmu'; clear hmu'
  obtain ⟨b1, b2, b3, b4⟩ := HB.out.1.at_ k hkK
  clear b3 b4
  obtain ⟨u, hu⟩ : ∃ u, itb bef to k = u := ⟨_, rfl⟩
  rw [hu] at b1 b2 ⊢
  have HU := Lib.hid hu; clear hu
  have HFl := Lib.hid hFl; clear hFl
  have c1 := hP.pm.c1
  have c2 := hP.pm.c2
  have s1 := hP.sv.c2
  have d0 : W.cell? ⟨ab, u * 5, none⟩ = some (.int .i64 (ga last u).e) := hP.pm.ac b1 (i := 0) (by omega)
  have d2 : W.cell? ⟨ab, u * 5 + 2, none⟩ = some (.int .i64 (ga last u).s) := hP.pm.ac b1 (i := 2) (by omega)
  have d3 := hP.pm.bc b1
  have HP := Lib.hid hP; clear hP
  show Code.wpIn Fence.wide m Try.prog (.seq (.seq (Try.f43.sub [1, 1, 1, 1, 1, 0, 1, 0, 0, 0, 0]) (Try.f43.sub [1, 1, 1, 1, 1, 0, 1, 0, 0, 0, 1])) (.seq (.block 5 (Try.f43.sub [1, 1, 1, 1, 1, 0, 1, 0, 0, 1, 0, 0])) (Try.f43.sub [1, 1, 1, 1, 1, 0, 1, 0, 0, 1, 1]))) _ ⟨#[.pointer (some ⟨v.S, 0, none⟩), .int .i64 src, (t 2), (t 3), .pointer (some ⟨tb, 0, none⟩), .int .i64 to, (t 6), (t 7), .int .i64 am, (t 9), .int .i64 u, (t 11), (t 12), (t 13), (t 14), (t 15), (t 16), (t 17), (t 18), (t 19), (t 20), (t 21), (t 22), (t 23), (t 24), (t 25), (t 26), (t 27), (t 28), (t 29), (t 30), (t 31), (t 32), (t 33), (t 34), (t 35), (t 36), (t 37), (t 38), (t 39), (t 40), (t 41), (t 42), (t 43), (t 44), (t 45), (t 46), (t 47), (t 48), (t 49), (t 50), (t 51), (t 52), (t 53), (t 54), (t 55), (t 56), (t 57), (t 58), (t 59), (t 60), (t 61), (t 62), (t 63), (t 64), (t 65), (t 66), (t 67), (t 68), (t 69), (t 70), (t 71), (t 72), (t 73), (t 74), (t 75), (t 76), (t 77), (t 78), (t 79), (t 80), (t 81), (t 82), (t 83), (t 84), (t 85), (t 86), (t 87), (t 88), (t 89), (t 90), (t 91), (t 92), (t 93), (t 94), (t 95), (t 96), (t 97), (t 98), (t 99), (t 100), (t 101), (t 102), (t 103), (t 104), (t 105), (t 106), (t 107), (t 108), (t 109), (t 110), (t 111), (t 112), (t 113), (t 114), (t 115), (t 116), (t 117), (t 118), (t 119), (t 120), (t 121), (t 122), (t 123), (t 124), (t 125), (t 126), (t 127), (t 128), (t 129), (t 130), (t 131), (t 132), (t 133), (t 134), (t 135), (t 136), (t 137), (t 138), (t 139), (t 140), (t 141), (t 142), (t 143), (t 144), (t 145), (t 146), (t 147), (t 148), (t 149), (t 150), (t 151), (t 152), (t 153), (t 154), (t 155), (t 156), (t 157), (t 158), (t 159)], []⟩ _
  refine wpIn_seq ?_
  refine wpIn_seq ?_
  conv => arg 4; whnf
  dsimp only
  by_cases hus : u = src
  · subst hus
    gi_wp2_with fail
    conv => arg 4; whnf
    gi_wp2_with fail
    have : k = K := by
      apply Classical.byContradiction
      intro hne
      exact HB.out.1.ne k (by omega) HU.out
    subst this
    exact HQ.out _ _ y HFl.out HP.out (by (refine ⟨rfl, rfl, ?_⟩; repeat (first | exact trivial | refine ⟨rfl, ?_⟩)))
  · have hkK' : k < K := by
      apply Classical.byContradiction
      intro hne
      have : k = K := by omega
      subst this
      exact hus (HU.out.symm.trans HB.out.2)
    obtain ⟨r1, r2, r3, r4, r5, r6⟩ := TT.out.tree u b1 hus b2
    have he := (arc_to_lt HG.out r3).2.2.2.1
    have hs : (ga last u).s = 1 ∨ (ga last u).s = -1 := by
      obtain ⟨i, _, hq | hq, _⟩ := r3
      · left; rw [hq.2]; rfl
      · right; rw [hq.2]; rfl
    have hus' : ¬ ((u : Int) = src) := by omega
    have R6 := Lib.hid r6
    clear r2 r3 r4 r5 r6
    have hyb : -2000000000 ≤ gi y (ga last u).e ∧ gi y (ga last u).e ≤ 2000000000 := by
      have hfit := (HF.out _ he).1
      have hwt := HG.out.wt _ he
      rcases HFl.out.old _ he with h1 | ⟨j, hj, _, h1⟩
      · rw [h1]; omega
      · have hsj : (ga last (itb bef to j)).s = 1 ∨ (ga last (itb bef to j)).s = -1 := by
          obtain ⟨q1, q2, _, _⟩ := HB.out.1.at_ j (by omega)
          obtain ⟨_, _, q3, _⟩ := TT.out.tree _ q1 (HB.out.1.ne j (by omega)) q2
          obtain ⟨i, _, hq | hq, _⟩ := q3
          · left; rw [hq.2]; rfl
          · right; rw [hq.2]; rfl
        rcases hsj with hsj | hsj <;> rw [hsj] at h1 <;> omega
    obtain ⟨hyb1, hyb2⟩ := hyb
    have e1 := HP.out.sv.fl.cell (j := (ga last u).e) (by rw [HFl.out.len]; exact he)
    have e2 := HP.out.sv.fl.frozen (ga last u).e
    have hu2 : itb bef to (k + 1) = gn bef u := by show gn bef (itb bef to k) = _; rw [HU.out]
    have HU2 := Lib.hid hu2; clear hu2
    have FIN : ∀ (a : Act) (q : Nat) (z : Int), z = gi y (ga last u).e + (ga last u).s * am → FrD 160 [] ((10, .int .i64 (gn bef u)) :: [(0, .pointer (some ⟨v.S, 0, none⟩)), (1, .int .i64 src), (4, .pointer (some ⟨tb, 0, none⟩)), (5, .int .i64 to), (8, .int .i64 am)]) a →
        (LoopFlow W0 v tb lb ab bb n es x p ex l last bef to K am [(0, .pointer (some ⟨v.S, 0, none⟩)), (1, .int .i64 src), (4, .pointer (some ⟨tb, 0, none⟩)), (5, .int .i64 to), (8, .int .i64 am)] a ((W.drewN q).setCell ⟨v.x, (ga last u).e, none⟩ (.int .i64 z)) ∧ rk (intOf (a.tmps.getD 10 undef)).toNat < mu) := by
      intro a q z hz hfr
      refine ⟨⟨k + 1, y.set (ga last u).e z, by omega, ?_, (HP.out.drewN q).setx HA.out (by rw [HFl.out.len]; exact he) z, by rw [HU2.out]; exact hfr⟩, ?_⟩
      · have hb2 : Back n l rk bef src to (k + 1) := ⟨fun j hj => HB.out.1.ne j (by omega), fun j hj => HB.out.1.at_ j (by omega)⟩
        have := HFl.out.step HG.out TT.out hb2
        rw [HU.out] at this
        rw [hz]; exact this
      · rw [hfr.2.2.1, ← HMU.out, HU.out]
        exact R6.out
    have HFIN := Lib.hid FIN; clear FIN
    obtain ⟨e, hee⟩ : ∃ e, (ga last u).e = e := ⟨_, rfl⟩
    obtain ⟨s, hss⟩ : ∃ s, (ga last u).s = s := ⟨_, rfl⟩
    obtain ⟨g, hgg⟩ : ∃ g, gi y e = g := ⟨_, rfl⟩
    have HFIN2 : Hid (∀ (a : Act) (q : Nat) (z : Int), z = g + s * am → FrD 160 [] ((10, .int .i64 (gn bef u)) :: [(0, .pointer (some ⟨v.S, 0, none⟩)), (1, .int .i64 src), (4, .pointer (some ⟨tb, 0, none⟩)), (5, .int .i64 to), (8, .int .i64 am)]) a →
        (LoopFlow W0 v tb lb ab bb n es x p ex l last bef to K am [(0, .pointer (some ⟨v.S, 0, none⟩)), (1, .int .i64 src), (4, .pointer (some ⟨tb, 0, none⟩)), (5, .int .i64 to), (8, .int .i64 am)] a ((W.drewN q).setCell ⟨v.x, e, none⟩ (.int .i64 z)) ∧ rk (intOf (a.tmps.getD 10 undef)).toNat < mu)) := by
      rw [← hss, ← hgg, ← hee]; exact HFIN
    clear HFIN
    rw [hee] at d0 e1 e2 he hyb1 hyb2
    rw [hgg] at e1 hyb1 hyb2
    rw [hss] at d2 hs
    clear hee hss hgg
    have xlt : v.x < W.heap.size := World.block_lt_of_cell? _ _ e1
    have blt : bb < W.heap.size := World.block_lt_of_cell? _ _ d3
    have tlt : tb < W.heap.size := World.block_lt_of_cell? _ _ c1
    have nbx : bb ≠ v.x := HA.out.x.2.2.2
    have ntx : tb ≠ v.x := HA.out.x.1
    have hbn : ¬ (es.length ≤ e) := by omega
    rcases hs with rfl | rfl
    all_goals
      gi_wp2_with fail
      conv => arg 4; whnf
      gi_wp2_with fail
      conv => arg 4; whnf
      refine regionIn_last (.inl rfl) (by kernel_rfl) (by kernel_rfl) (by kernel_rfl) cut_last (by kernel_rfl) (by kernel_rfl) (by kernel_rfl) ?_
      dsimp only [List.dropLast, List.getLast]
      repeat (go_big_quiet_step (fail))
      refine wpQuiet_nil ?_
    · refine ⟨fun w => w.setCell ⟨v.x, e, none⟩ (.int .i64 (g + am)), fun q => ?_, fun q => ?_⟩
      · unfold execOp
        go_simp
      dsimp only [Exit.then]
      conv => arg 4; whnf
      gi_wp2_with fail
      conv => arg 4; whnf
      gi_wp2_with fail
      refine HFIN2.out _ q (g + am) (by omega) ?_
      (refine ⟨rfl, rfl, ?_⟩; repeat (first | exact trivial | refine ⟨rfl, ?_⟩))
    · refine ⟨fun w => w.setCell ⟨v.x, e, none⟩ (.int .i64 (g + -am)), fun q => ?_, fun q => ?_⟩
      · unfold execOp
        go_simp
      dsimp only [Exit.then]
      conv => arg 4; whnf
      gi_wp2_with fail
      conv => arg 4; whnf
      gi_wp2_with fail
      refine HFIN2.out _ q (g + -am) (by omega) ?_
      (refine ⟨rfl, rfl, ?_⟩; repeat (first | exact trivial | refine ⟨rfl, ?_⟩))
end Go.Proofs.Ytjnpchoinncbnaa
end
