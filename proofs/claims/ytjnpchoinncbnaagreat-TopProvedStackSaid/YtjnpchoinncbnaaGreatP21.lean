/- Proves parts of the statement, each under the conditions that its theorem states: A new solver: the flow, what each node has too much, the edges of each node; A new solver: what each node has too much, and its edges; A push: the contract; A new solver: the contract. -/
import Derived.Test.YtjnpchoinncbnaaGreatP20
import Derived.Test.YtjnpchoinncbnaaGreatP07
set_option linter.unusedSimpArgs false
set_option linter.unusedVariables false
set_option maxHeartbeats 4000000
set_option maxRecDepth 100000
section
namespace Go.Proofs.YtjnpchoinncbnaaGreat
open Go.RowKit Sw Fam
structure NwL where
  B : Nat
  sb : Nat
  fb : Nat
  pb : Nat
  eb : Nat
  rb : Nat
  A : Option Addr
  ca : Nat
structure NewM (w : World) (z : NwL) (n : Nat) (es : List Ed) (x ex : List Int) (rows : Nat → List Int) : Prop where
  blk : w.heap[z.sb]? = some (.cells #[.int .i64 n, .slice z.A es.length z.ca, .slice (some ⟨z.fb, 0, none⟩) es.length es.length, .slice (some ⟨z.pb, 0, none⟩) n n, .slice (some ⟨z.eb, 0, none⟩) n n, .slice (some ⟨z.rb, 0, none⟩) n n] 78 (0, 0))
  fl : IntB w z.fb x
  tu : IntB w z.pb (List.replicate n 0)
  em : IntB w z.eb ex
  rows : ∃ Ar c, RowsG w z.B z.rb n rows Ar c ∧ ∀ u, u < n → ∀ b, (Ar u).map (·.block) = some b → b ≠ z.fb ∧ b ≠ z.pb ∧ b ≠ z.eb
  lx : x.length = es.length
  le : ex.length = n
  ne : z.fb ≠ z.pb ∧ z.fb ≠ z.eb ∧ z.pb ≠ z.eb
  ge : z.B ≤ z.sb ∧ z.B ≤ z.fb ∧ z.B ≤ z.pb ∧ z.B ≤ z.eb
section
variable {w : World} {z : NwL} {n : Nat} {es : List Ed} {x ex : List Int} {rows : Nat → List Int}
theorem NewM.c2 (h : NewM w z n es x ex rows) : w.cell? ⟨z.sb, 2, none⟩ = some (.slice (some ⟨z.fb, 0, none⟩) es.length es.length) := by simp [World.cell?, h.blk]
theorem NewM.c4 (h : NewM w z n es x ex rows) : w.cell? ⟨z.sb, 4, none⟩ = some (.slice (some ⟨z.eb, 0, none⟩) n n) := by simp [World.cell?, h.blk]
theorem NewM.c5 (h : NewM w z n es x ex rows) : w.cell? ⟨z.sb, 5, none⟩ = some (.slice (some ⟨z.rb, 0, none⟩) n n) := by simp [World.cell?, h.blk]
theorem NewM.keep {w' : World} (h : NewM w z n es x ex rows) (hb : Below w.heap.size w w') : NewM w' z n es x ex rows := by
  obtain ⟨h1, h2, h3, h4, ⟨Ar, c, h5, h6⟩, h7, h8, h9, h10⟩ := h
  exact ⟨(hb.block _ (Array.getElem?_eq_some_iff.1 h1).1).trans h1, h2.keep hb, h3.keep hb, h4.keep hb, ⟨Ar, c, h5.keep hb, h6⟩, h7, h8, h9, h10⟩
theorem NewM.drewN (h : NewM w z n es x ex rows) (k : Nat) : NewM (w.drewN k) z n es x ex rows := h.keep (below_drewN (Below.refl _ _) k)
theorem ne_of_types {w : World} {a b : Nat} {cs cs' : Array Value} {t t' : TypeId} {r r' : Nat × Nat} (h : w.heap[a]? = some (.cells cs t r)) (h' : w.heap[b]? = some (.cells cs' t' r')) (hne : t ≠ t') : a ≠ b := fun e => by
  subst e
  have := h.symm.trans h'
  injection this with this; injection this with _ e _; exact hne e
theorem NewM.nS (h : NewM w z n es x ex rows) : z.sb ≠ z.fb ∧ z.sb ≠ z.eb ∧ z.rb ≠ z.fb ∧ z.rb ≠ z.eb ∧ z.rb ≠ z.pb ∧ z.sb ≠ z.pb ∧ z.rb ≠ z.sb := by
  obtain ⟨Ar, c, ⟨⟨cs, g1, _⟩, _⟩, _⟩ := h.rows
  exact ⟨ne_of_types h.blk h.fl (by decide), ne_of_types h.blk h.em (by decide), ne_of_types g1 h.fl (by decide), ne_of_types g1 h.em (by decide), ne_of_types g1 h.tu (by decide), ne_of_types h.blk h.tu (by decide), ne_of_types g1 h.blk (by decide)⟩
theorem NewM.setx (h : NewM w z n es x ex rows) {i : Nat} (hi : i < es.length) (y : Int) : NewM (w.setCell ⟨z.fb, i, none⟩ (.int .i64 y)) z n es (x.set i y) ex rows := by
  obtain ⟨n1, n2, n3, n4, n5, n6, n7⟩ := h.nS
  obtain ⟨h1, h2, h3, h4, ⟨Ar, c, h5, h6⟩, h7, h8, h9, h10⟩ := h
  exact ⟨(Below.heap_setCell _ _ _ _ n1).trans h1, h2.set (by rw [h7]; exact hi) y, h3.other h9.1.symm _, h4.other h9.2.1.symm _, ⟨Ar, c, h5.other n3 (fun u hu e => (h6 u hu _ e).1 rfl) _, h6⟩, by rw [List.length_set]; exact h7, h8, h9, h10⟩
theorem NewM.sete (h : NewM w z n es x ex rows) {i : Nat} (hi : i < n) (y : Int) : NewM (w.setCell ⟨z.eb, i, none⟩ (.int .i64 y)) z n es x (ex.set i y) rows := by
  obtain ⟨n1, n2, n3, n4, n5, n6, n7⟩ := h.nS
  obtain ⟨h1, h2, h3, h4, ⟨Ar, c, h5, h6⟩, h7, h8, h9, h10⟩ := h
  exact ⟨(Below.heap_setCell _ _ _ _ n2).trans h1, h2.other h9.2.1 _, h3.other h9.2.2 _, h4.set (by rw [h8]; exact hi) y, ⟨Ar, c, h5.other n4 (fun u hu e => (h6 u hu _ e).2.2 rfl) _, h6⟩, h7, by rw [List.length_set]; exact h8, h9, h10⟩
end
def EdB (w : World) (tb : Nat) (e : Ed) : Prop := w.heap[tb]? = some (.cells #[.int .i64 e.f, .int .i64 e.t, .int .i64 e.j, .int .i64 e.k] 54 (0, 0))
theorem EdB.c {w : World} {tb : Nat} {e : Ed} (h : EdB w tb e) : w.cell? ⟨tb, 0, none⟩ = some (.int .i64 e.f) ∧ w.cell? ⟨tb, 1, none⟩ = some (.int .i64 e.t) ∧ w.cell? ⟨tb, 2, none⟩ = some (.int .i64 e.j) ∧ w.cell? ⟨tb, 3, none⟩ = some (.int .i64 e.k) :=
  ⟨block_cell h (j := 0) (by simp), block_cell h (j := 1) (by simp), block_cell h (j := 2) (by simp), block_cell h (j := 3) (by simp)⟩
theorem EdB.other {w : World} {tb b i : Nat} {e : Ed} {xs : List Int} (h : EdB w tb e) (hb : IntB w b xs) (v : Value) : EdB (w.setCell ⟨b, i, none⟩ v) tb e := by
  have hne : tb ≠ b := ne_of_types (show w.heap[tb]? = _ from h) (show w.heap[b]? = _ from hb) (by decide)
  exact (Below.heap_setCell _ _ _ _ hne).trans h
theorem set_same {x : List Int} {k : Nat} (h : k < x.length) : x.set k (gi x k) = x := by
  unfold gi
  rw [List.getD_eq_getElem?_getD, List.getElem?_eq_getElem h, Option.getD_some, List.set_getElem_self]
theorem new_flow {m n k tb : Nat} {z : NwL} {es : List Ed} {x ex : List Int} {rows : Nat → List Int} {W : World} {e : Ed} {fr : List (Nat × Value)} {v1 v28 v29 v30 : Value} (hf : fr = [(1, v1), (28, v28), (29, v29), (30, v30)]) {Q : Exit → Act → World → Prop} {u0 u2 u6 u7 u8 u9 u10 u11 u12 u13 u14 u15 u16 u17 u18 u19 u20 u21 u22 u23 u24 u25 u26 u27 u31 u32 u33 u34 u35 u36 u37 u38 u39 u40 u41 u42 u43 u44 u45 u46 u47 u48 u49 u50 u51 u52 u53 u54 u55 u56 u57 u58 u59 u60 u61 u62 u63 u64 u65 u66 u67 u68 u69 u70 u71 u72 u73 u74 u75 u76 u77 u78 u79 u80 u81 u82 u83 u84 u85 u86 u87 u88 u89 u90 u91 u92 u93 u94 u95 u96 u97 u98 u99 u100 u101 u102 u103 u104 u105 u106 u107 u108 u109 u110 u111 u112 u113 u114 u115 u116 u117 u118 u119 u120 u121 u122 u123 u124 u125 u126 u127 u128 u129 u130 u131 : Value}
    (hN : NewM W z n es x ex rows) (hk : k < es.length) (hm : es.length ≤ 600) (hT : EdB W tb e) (h0 : gi x k = 0) (hw : e.k ≤ 1000) (hj : -1000 ≤ e.j ∧ e.j ≤ 1000)
    (hQ : ∀ a w', NewM w' z n es (x.set k (x0 e)) ex rows → EdB w' tb e → Tch [z.fb] W w' → FrD 132 [] ((3, .pointer (some ⟨z.sb, 0, none⟩)) :: (4, .int .i64 k) :: (5, .pointer (some ⟨tb, 0, none⟩)) :: fr) a → Q .normal a w') :
    Code.wpIn Fence.wide m Tryz.prog (Tryz.f50.sub [1, 1, 0, 1, 0, 0, 1, 1, 0, 0, 1, 0, 0]) Q ⟨#[u0, v1, u2, .pointer (some ⟨z.sb, 0, none⟩), .int .i64 k, .pointer (some ⟨tb, 0, none⟩), u6, u7, u8, u9, u10, u11, u12, u13, u14, u15, u16, u17, u18, u19, u20, u21, u22, u23, u24, u25, u26, u27, v28, v29, v30, u31, u32, u33, u34, u35, u36, u37, u38, u39, u40, u41, u42, u43, u44, u45, u46, u47, u48, u49, u50, u51, u52, u53, u54, u55, u56, u57, u58, u59, u60, u61, u62, u63, u64, u65, u66, u67, u68, u69, u70, u71, u72, u73, u74, u75, u76, u77, u78, u79, u80, u81, u82, u83, u84, u85, u86, u87, u88, u89, u90, u91, u92, u93, u94, u95, u96, u97, u98, u99, u100, u101, u102, u103, u104, u105, u106, u107, u108, u109, u110, u111, u112, u113, u114, u115, u116, u117, u118, u119, u120, u121, u122, u123, u124, u125, u126, u127, u128, u129, u130, u131], []⟩ W := by
  subst hf
  have HQ := Lib.hid hQ; clear hQ
  obtain ⟨t0, t1, t2, t3⟩ := hT.c
  have c2 := hN.c2
  have fc := hN.fl.cell (j := k) (by rw [hN.lx]; exact hk)
  have ff := hN.fl.frozen k
  have HN := Lib.hid hN; clear hN
  have HT := Lib.hid hT; clear hT
  obtain ⟨j1, j2⟩ := hj
  rw [h0] at fc
  have H0 := Lib.hid h0; clear h0
  have FIN : ∀ (a : Act) (q : Nat) (y : Int), y = x0 e → FrD 132 [] ((3, .pointer (some ⟨z.sb, 0, none⟩)) :: (4, .int .i64 k) :: (5, .pointer (some ⟨tb, 0, none⟩)) :: [(1, v1), (28, v28), (29, v29), (30, v30)]) a →
      Q .normal a ((W.drewN q).setCell ⟨z.fb, k, none⟩ (.int .i64 y)) := by
    intro a q y hy hfr
    subst hy
    have hN' := HN.out.drewN q
    exact HQ.out _ _ (hN'.setx hk _) (EdB.other (w := W.drewN q) HT.out hN'.fl _) (((Tch.refl _ _).drewN q).set (.inl (by simp)) _) hfr
  have HFIN := Lib.hid FIN; clear FIN
  show Code.wpIn Fence.wide m Tryz.prog (.seq (Tryz.f50.sub [1, 1, 0, 1, 0, 0, 1, 1, 0, 0, 1, 0, 0, 0]) (.cond (.tmp 35) (Tryz.f50.sub [1, 1, 0, 1, 0, 0, 1, 1, 0, 0, 1, 0, 0, 1, 0]) (.seq (Tryz.f50.sub [1, 1, 0, 1, 0, 0, 1, 1, 0, 0, 1, 0, 0, 1, 1, 0]) (.cond (.tmp 47) (Tryz.f50.sub [1, 1, 0, 1, 0, 0, 1, 1, 0, 0, 1, 0, 0, 1, 1, 1, 0]) .skip)))) _ _ _
  refine wpIn_seq ?_
  conv => arg 4; whnf
  dsimp only
  by_cases hp : 0 < e.j
  · gi_wp2_with fail
    conv => arg 4; whnf
    refine regionIn_last (.inl rfl) (by kernel_rfl) (by kernel_rfl) (by kernel_rfl) cut_last (by kernel_rfl) (by kernel_rfl) (by kernel_rfl) ?_
    dsimp only [List.dropLast, List.getLast]
    repeat (go_big_quiet_step (fail))
    refine wpQuiet_nil ?_
    refine ⟨fun w => w.setCell ⟨z.fb, k, none⟩ (.int .i64 e.k), fun q => ?_, fun q => ?_⟩
    · unfold execOp
      go_simp
    refine HFIN.out _ q _ (by unfold x0; rw [if_pos hp]) ?_
    (refine ⟨rfl, rfl, ?_⟩; repeat (first | exact trivial | refine ⟨rfl, ?_⟩))
  · gi_wp2_with fail
    conv => arg 4; whnf
    by_cases hn : e.j < 0
    · gi_wp2_with fail
      conv => arg 4; whnf
      refine regionIn_last (.inl rfl) (by kernel_rfl) (by kernel_rfl) (by kernel_rfl) cut_last (by kernel_rfl) (by kernel_rfl) (by kernel_rfl) ?_
      dsimp only [List.dropLast, List.getLast]
      repeat (go_big_quiet_step (fail))
      refine wpQuiet_nil ?_
      refine ⟨fun w => w.setCell ⟨z.fb, k, none⟩ (.int .i64 (-e.k)), fun q => ?_, fun q => ?_⟩
      · unfold execOp
        go_simp
      refine HFIN.out _ q _ (by unfold x0; rw [if_neg (by omega), if_pos hn]) ?_
      (refine ⟨rfl, rfl, ?_⟩; repeat (first | exact trivial | refine ⟨rfl, ?_⟩))
    · gi_wp2_with fail
      refine HQ.out _ W ?_ HT.out (Tch.refl _ _) (by (refine ⟨rfl, rfl, ?_⟩; repeat (first | exact trivial | refine ⟨rfl, ?_⟩)))
      have e1 : x.set k (x0 e) = x := by
        have := set_same (x := x) (k := k) (by rw [HN.out.lx]; exact hk)
        rw [H0.out] at this
        unfold x0
        rw [if_neg (by omega), if_neg (by omega)]; exact this
      rw [e1]; exact HN.out
theorem new_from {m n k tb : Nat} {z : NwL} {es : List Ed} {x ex : List Int} {rows : Nat → List Int} {W : World} {e : Ed} {fr : List (Nat × Value)} {v1 v28 v29 v30 : Value} (hf : fr = [(1, v1), (28, v28), (29, v29), (30, v30)]) {Q : Exit → Act → World → Prop} {u0 u2 u6 u7 u8 u9 u10 u11 u12 u13 u14 u15 u16 u17 u18 u19 u20 u21 u22 u23 u24 u25 u26 u27 u31 u32 u33 u34 u35 u36 u37 u38 u39 u40 u41 u42 u43 u44 u45 u46 u47 u48 u49 u50 u51 u52 u53 u54 u55 u56 u57 u58 u59 u60 u61 u62 u63 u64 u65 u66 u67 u68 u69 u70 u71 u72 u73 u74 u75 u76 u77 u78 u79 u80 u81 u82 u83 u84 u85 u86 u87 u88 u89 u90 u91 u92 u93 u94 u95 u96 u97 u98 u99 u100 u101 u102 u103 u104 u105 u106 u107 u108 u109 u110 u111 u112 u113 u114 u115 u116 u117 u118 u119 u120 u121 u122 u123 u124 u125 u126 u127 u128 u129 u130 u131 : Value}
    (hN : NewM W z n es x ex rows) (hk : k < es.length) (hm : es.length ≤ 600) (hn : n ≤ 1000) (hT : EdB W tb e) (hu : e.f < n) (hx : -1000 ≤ gi x k ∧ gi x k ≤ 1000) (hex : -1000000000 ≤ gi ex e.f ∧ gi ex e.f ≤ 1000000000)
    (hQ : ∀ a w', NewM w' z n es x (ex.set e.f (gi ex e.f - gi x k)) rows → EdB w' tb e → Tch [z.eb] W w' → FrD 132 [] ((3, .pointer (some ⟨z.sb, 0, none⟩)) :: (4, .int .i64 k) :: (5, .pointer (some ⟨tb, 0, none⟩)) :: fr) a → Q .normal a w') :
    Code.wpIn Fence.wide m Tryz.prog (Tryz.f50.sub [1, 1, 0, 1, 0, 0, 1, 1, 0, 0, 1, 1, 0]) Q ⟨#[u0, v1, u2, .pointer (some ⟨z.sb, 0, none⟩), .int .i64 k, .pointer (some ⟨tb, 0, none⟩), u6, u7, u8, u9, u10, u11, u12, u13, u14, u15, u16, u17, u18, u19, u20, u21, u22, u23, u24, u25, u26, u27, v28, v29, v30, u31, u32, u33, u34, u35, u36, u37, u38, u39, u40, u41, u42, u43, u44, u45, u46, u47, u48, u49, u50, u51, u52, u53, u54, u55, u56, u57, u58, u59, u60, u61, u62, u63, u64, u65, u66, u67, u68, u69, u70, u71, u72, u73, u74, u75, u76, u77, u78, u79, u80, u81, u82, u83, u84, u85, u86, u87, u88, u89, u90, u91, u92, u93, u94, u95, u96, u97, u98, u99, u100, u101, u102, u103, u104, u105, u106, u107, u108, u109, u110, u111, u112, u113, u114, u115, u116, u117, u118, u119, u120, u121, u122, u123, u124, u125, u126, u127, u128, u129, u130, u131], []⟩ W := by
  subst hf
  have HQ := Lib.hid hQ; clear hQ
  obtain ⟨t0, t1, t2, t3⟩ := hT.c
  have c2 := hN.c2
  have c4 := hN.c4
  have fc := hN.fl.cell (j := k) (by rw [hN.lx]; exact hk)
  have ec := hN.em.cell (j := e.f) (by rw [hN.le]; exact hu)
  have ef := hN.em.frozen e.f
  have HN := Lib.hid hN; clear hN
  have HT := Lib.hid hT; clear hT
  obtain ⟨x1, x2⟩ := hx
  obtain ⟨y1, y2⟩ := hex
  conv => arg 4; whnf
  dsimp only
  refine regionIn_last (.inl rfl) (by kernel_rfl) (by kernel_rfl) (by kernel_rfl) cut_last (by kernel_rfl) (by kernel_rfl) (by kernel_rfl) ?_
  dsimp only [List.dropLast, List.getLast]
  repeat (go_big_quiet_step (fail))
  refine wpQuiet_nil ?_
  refine ⟨fun w => w.setCell ⟨z.eb, e.f, none⟩ (.int .i64 (gi ex e.f - gi x k)), fun q => ?_, fun q => ?_⟩
  · unfold execOp
    go_simp
  have hN' := HN.out.drewN q
  exact HQ.out _ _ (hN'.sete hu _) (EdB.other (w := W.drewN q) HT.out hN'.em _) (((Tch.refl _ _).drewN q).set (.inl (by simp)) _) (by (refine ⟨rfl, rfl, ?_⟩; repeat (first | exact trivial | refine ⟨rfl, ?_⟩)))
theorem new_to {m n k tb : Nat} {z : NwL} {es : List Ed} {x ex : List Int} {rows : Nat → List Int} {W : World} {e : Ed} {fr : List (Nat × Value)} {v1 v28 v29 v30 : Value} (hf : fr = [(1, v1), (28, v28), (29, v29), (30, v30)]) {Q : Exit → Act → World → Prop} {u0 u2 u6 u7 u8 u9 u10 u11 u12 u13 u14 u15 u16 u17 u18 u19 u20 u21 u22 u23 u24 u25 u26 u27 u31 u32 u33 u34 u35 u36 u37 u38 u39 u40 u41 u42 u43 u44 u45 u46 u47 u48 u49 u50 u51 u52 u53 u54 u55 u56 u57 u58 u59 u60 u61 u62 u63 u64 u65 u66 u67 u68 u69 u70 u71 u72 u73 u74 u75 u76 u77 u78 u79 u80 u81 u82 u83 u84 u85 u86 u87 u88 u89 u90 u91 u92 u93 u94 u95 u96 u97 u98 u99 u100 u101 u102 u103 u104 u105 u106 u107 u108 u109 u110 u111 u112 u113 u114 u115 u116 u117 u118 u119 u120 u121 u122 u123 u124 u125 u126 u127 u128 u129 u130 u131 : Value}
    (hN : NewM W z n es x ex rows) (hk : k < es.length) (hm : es.length ≤ 600) (hn : n ≤ 1000) (hT : EdB W tb e) (hu : e.t < n) (hx : -1000 ≤ gi x k ∧ gi x k ≤ 1000) (hex : -1000000000 ≤ gi ex e.t ∧ gi ex e.t ≤ 1000000000)
    (hQ : ∀ a w', NewM w' z n es x (ex.set e.t (gi ex e.t + gi x k)) rows → EdB w' tb e → Tch [z.eb] W w' → FrD 132 [] ((3, .pointer (some ⟨z.sb, 0, none⟩)) :: (4, .int .i64 k) :: (5, .pointer (some ⟨tb, 0, none⟩)) :: fr) a → Q .normal a w') :
    Code.wpIn Fence.wide m Tryz.prog (Tryz.f50.sub [1, 1, 0, 1, 0, 0, 1, 1, 0, 0, 1, 1, 1, 0]) Q ⟨#[u0, v1, u2, .pointer (some ⟨z.sb, 0, none⟩), .int .i64 k, .pointer (some ⟨tb, 0, none⟩), u6, u7, u8, u9, u10, u11, u12, u13, u14, u15, u16, u17, u18, u19, u20, u21, u22, u23, u24, u25, u26, u27, v28, v29, v30, u31, u32, u33, u34, u35, u36, u37, u38, u39, u40, u41, u42, u43, u44, u45, u46, u47, u48, u49, u50, u51, u52, u53, u54, u55, u56, u57, u58, u59, u60, u61, u62, u63, u64, u65, u66, u67, u68, u69, u70, u71, u72, u73, u74, u75, u76, u77, u78, u79, u80, u81, u82, u83, u84, u85, u86, u87, u88, u89, u90, u91, u92, u93, u94, u95, u96, u97, u98, u99, u100, u101, u102, u103, u104, u105, u106, u107, u108, u109, u110, u111, u112, u113, u114, u115, u116, u117, u118, u119, u120, u121, u122, u123, u124, u125, u126, u127, u128, u129, u130, u131], []⟩ W := by
  subst hf
  have HQ := Lib.hid hQ; clear hQ
  obtain ⟨t0, t1, t2, t3⟩ := hT.c
  have c2 := hN.c2
  have c4 := hN.c4
  have fc := hN.fl.cell (j := k) (by rw [hN.lx]; exact hk)
  have ec := hN.em.cell (j := e.t) (by rw [hN.le]; exact hu)
  have ef := hN.em.frozen e.t
  have HN := Lib.hid hN; clear hN
  have HT := Lib.hid hT; clear hT
  obtain ⟨x1, x2⟩ := hx
  obtain ⟨y1, y2⟩ := hex
  conv => arg 4; whnf
  dsimp only
  refine regionIn_last (.inl rfl) (by kernel_rfl) (by kernel_rfl) (by kernel_rfl) cut_last (by kernel_rfl) (by kernel_rfl) (by kernel_rfl) ?_
  dsimp only [List.dropLast, List.getLast]
  repeat (go_big_quiet_step (fail))
  refine wpQuiet_nil ?_
  refine ⟨fun w => w.setCell ⟨z.eb, e.t, none⟩ (.int .i64 (gi ex e.t + gi x k)), fun q => ?_, fun q => ?_⟩
  · unfold execOp
    go_simp
  have hN' := HN.out.drewN q
  exact HQ.out _ _ (hN'.sete hu _) (EdB.other (w := W.drewN q) HT.out hN'.em _) (((Tch.refl _ _).drewN q).set (.inl (by simp)) _) (by (refine ⟨rfl, rfl, ?_⟩; repeat (first | exact trivial | refine ⟨rfl, ?_⟩)))
theorem new_rows {m k tb sb : Nat} {W : World} {d : TwoD} {Q : Exit → Act → World → Prop} {fr : List (Nat × Value)} {v1 v28 v29 v30 : Value} (hf : fr = [(1, v1), (28, v28), (29, v29), (30, v30)]) {u0 u2 u6 u7 u8 u9 u10 u11 u12 u13 u14 u15 u16 u17 u18 u19 u20 u21 u22 u23 u24 u25 u26 u27 u31 u32 u33 u34 u35 u36 u37 u38 u39 u40 u41 u42 u43 u44 u45 u46 u47 u48 u49 u50 u51 u52 u53 u54 u55 u56 u57 u58 u59 u60 u61 u62 u63 u64 u65 u66 u67 u68 u69 u70 u71 u72 u73 u74 u75 u76 u77 u78 u79 u80 u81 u82 u83 u84 u85 u86 u87 u88 u89 u90 u91 u92 u93 u94 u95 u96 u97 u98 u99 u100 u101 u102 u103 u104 u105 u106 u107 u108 u109 u110 u111 u112 u113 u114 u115 u116 u117 u118 u119 u120 u121 u122 u123 u124 u125 u126 u127 u128 u129 u130 u131 : Value}
    (hok : d.ok W) (hy : d.y1 = k ∧ d.y2 = k) (hn : d.n ≤ 1000) (c5 : W.cell? ⟨sb, 5, none⟩ = some (.slice (some ⟨d.R, 0, none⟩) d.n d.n)) (hsS : sb ∉ d.S) (htS : tb ∉ d.S)
    (t0 : W.cell? ⟨tb, 0, none⟩ = some (.int .i64 d.f)) (t1 : W.cell? ⟨tb, 1, none⟩ = some (.int .i64 d.t))
    (hQ : ∀ a w' a1 a2 a3 a4, TwoC W d true true true true true true a1 a2 a3 a4 w' → FrD 132 [] ((3, .pointer (some ⟨sb, 0, none⟩)) :: fr) a → Q .normal a w') :
    Code.wpIn Fence.wide m Tryz.prog (Tryz.f50.sub [1, 1, 0, 1, 0, 0, 1, 1, 0, 0, 1, 1, 1, 1]) Q ⟨#[u0, v1, u2, .pointer (some ⟨sb, 0, none⟩), .int .i64 k, .pointer (some ⟨tb, 0, none⟩), u6, u7, u8, u9, u10, u11, u12, u13, u14, u15, u16, u17, u18, u19, u20, u21, u22, u23, u24, u25, u26, u27, v28, v29, v30, u31, u32, u33, u34, u35, u36, u37, u38, u39, u40, u41, u42, u43, u44, u45, u46, u47, u48, u49, u50, u51, u52, u53, u54, u55, u56, u57, u58, u59, u60, u61, u62, u63, u64, u65, u66, u67, u68, u69, u70, u71, u72, u73, u74, u75, u76, u77, u78, u79, u80, u81, u82, u83, u84, u85, u86, u87, u88, u89, u90, u91, u92, u93, u94, u95, u96, u97, u98, u99, u100, u101, u102, u103, u104, u105, u106, u107, u108, u109, u110, u111, u112, u113, u114, u115, u116, u117, u118, u119, u120, u121, u122, u123, u124, u125, u126, u127, u128, u129, u130, u131], []⟩ W := by
  subst hf
  conv => arg 4; whnf
  dsimp only
  have HQ := Lib.hid hQ; clear hQ
  have lf := hok.lf
  have lt := hok.lt
  have HK := Lib.hid hok; clear hok
  have HY := Lib.hid hy; clear hy
  obtain ⟨dB, dR, dn, df, dt, y1, y2, dA, dc, drows, dcs⟩ := d
  dsimp only at *
  refine regionIn_rel (.inl rfl) (by kernel_rfl) (by kernel_rfl) (by kernel_rfl) (fun L V w' => TwoC W ⟨dB, dR, dn, df, dt, y1, y2, dA, dc, drows, dcs⟩ (L 21) (L 22) (L 32) (L 33) (L 35) (L 37) (V 21) (V 22) (V 32) (V 33) w') (TwoC.start HK.out _ rfl) ?_
  (refine rel_val rfl (.pointer (some ⟨sb, 0, none⟩)) (fun _ _ _ h => TwoC.up rfl h) (fun V L w h1 h2 h3 hC => by unfold execOp; go_simp) ?_; simp only [Fam.pt])
  (refine rel_val rfl (.pointer (some ⟨sb, 0, none⟩)) (fun _ _ _ h => TwoC.up rfl h) (fun V L w h1 h2 h3 hC => by unfold execOp; go_simp) ?_; simp only [Fam.pt])
  (refine rel_val rfl (.pointer (some ⟨sb, 5, none⟩)) (fun _ _ _ h => TwoC.up rfl h) (fun V L w h1 h2 h3 hC => by unfold execOp; go_simp) ?_; simp only [Fam.pt])
  (refine rel_val rfl _ (fun _ _ _ h => TwoC.up rfl h) (fun V L w h1 h2 h3 hC => ex_load1 _ _ rfl _ rfl (TwoC.far hC hsS c5) _ Tryz.underlying76 rfl) ?_; simp only [Fam.pt])
  (refine rel_val rfl (.pointer (some ⟨tb, 0, none⟩)) (fun _ _ _ h => TwoC.up rfl h) (fun V L w h1 h2 h3 hC => by unfold execOp; go_simp) ?_; simp only [Fam.pt])
  (refine rel_val rfl _ (fun _ _ _ h => TwoC.up rfl h) (fun V L w h1 h2 h3 hC => ex_load1 _ _ rfl _ rfl (TwoC.far hC htS t0) _ Tryz.underlying3 rfl) ?_; simp only [Fam.pt])
  (refine rel_val rfl (.pointer (some ⟨sb, 0, none⟩)) (fun _ _ _ h => TwoC.up rfl h) (fun V L w h1 h2 h3 hC => by unfold execOp; go_simp) ?_; simp only [Fam.pt])
  (refine rel_val rfl (.pointer (some ⟨sb, 0, none⟩)) (fun _ _ _ h => TwoC.up rfl h) (fun V L w h1 h2 h3 hC => by unfold execOp; go_simp) ?_; simp only [Fam.pt])
  (refine rel_val rfl (.pointer (some ⟨sb, 5, none⟩)) (fun _ _ _ h => TwoC.up rfl h) (fun V L w h1 h2 h3 hC => by unfold execOp; go_simp) ?_; simp only [Fam.pt])
  (refine rel_val rfl _ (fun _ _ _ h => TwoC.up rfl h) (fun V L w h1 h2 h3 hC => ex_load1 _ _ rfl _ rfl (TwoC.far hC hsS c5) _ Tryz.underlying76 rfl) ?_; simp only [Fam.pt])
  (refine rel_val rfl (.pointer (some ⟨tb, 1, none⟩)) (fun _ _ _ h => TwoC.up rfl h) (fun V L w h1 h2 h3 hC => by unfold execOp; go_simp) ?_; simp only [Fam.pt])
  (refine rel_val rfl _ (fun _ _ _ h => TwoC.up rfl h) (fun V L w h1 h2 h3 hC => ex_load1 _ _ rfl _ rfl (TwoC.far hC htS t1) _ Tryz.underlying3 rfl) ?_; simp only [Fam.pt])
  (refine rel_val rfl (.pointer (some ⟨sb, 0, none⟩)) (fun _ _ _ h => TwoC.up rfl h) (fun V L w h1 h2 h3 hC => by unfold execOp; go_simp) ?_; simp only [Fam.pt])
  (refine rel_val rfl (.pointer (some ⟨sb, 0, none⟩)) (fun _ _ _ h => TwoC.up rfl h) (fun V L w h1 h2 h3 hC => by unfold execOp; go_simp) ?_; simp only [Fam.pt])
  (refine rel_val rfl (.pointer (some ⟨sb, 5, none⟩)) (fun _ _ _ h => TwoC.up rfl h) (fun V L w h1 h2 h3 hC => by unfold execOp; go_simp) ?_; simp only [Fam.pt])
  (refine rel_val rfl _ (fun _ _ _ h => TwoC.up rfl h) (fun V L w h1 h2 h3 hC => ex_load1 _ _ rfl _ rfl (TwoC.far hC hsS c5) _ Tryz.underlying76 rfl) ?_; simp only [Fam.pt])
  (refine rel_val rfl (.pointer (some ⟨tb, 0, none⟩)) (fun _ _ _ h => TwoC.up rfl h) (fun V L w h1 h2 h3 hC => by unfold execOp; go_simp) ?_; simp only [Fam.pt])
  (refine rel_val rfl _ (fun _ _ _ h => TwoC.up rfl h) (fun V L w h1 h2 h3 hC => ex_load1 _ _ rfl _ rfl (TwoC.far hC htS t0) _ Tryz.underlying3 rfl) ?_; simp only [Fam.pt])
  (refine rel_val rfl (.pointer (some ⟨dR, df, none⟩)) (fun _ _ _ h => TwoC.up rfl h) (fun V L w h1 h2 h3 hC => by unfold execOp; go_simp) ?_; simp only [Fam.pt])
  refine rel_val rfl (.slice (dA df) (drows df).length (dc df)) (fun _ _ _ h => TwoC.up rfl h) (fun V L w h1 h2 h3 hC => ex_load1 _ _ rfl _ rfl (TwoC.ev_row (by kernel_rfl) h1 h3 hC HK.out.hf) _ Tryz.underlying26 rfl) ?_
  simp only [Fam.pt]
  (refine rel_val rfl (.int .i64 k) (fun _ _ _ h => TwoC.up rfl h) (fun V L w h1 h2 h3 hC => by unfold execOp; go_simp) ?_; simp only [Fam.pt])
  refine rel_free rfl (fun V L w h1 h2 h3 hC => ?_) ?_
  · rw [ex_slice1i _ rfl (k : Int) rfl, ← HY.out.1]
    exact TwoC.ev_made1 (by decide) HK.out hC
  simp only [Fam.pt]
  refine rel_free rfl (fun V L w h1 h2 h3 hC => ?_) ?_
  · obtain ⟨v, w', k1, k2⟩ := TwoC.ev_app1 (by decide) HK.out hC h1 h3 (by kernel_rfl) h2 (by kernel_rfl) _
    rw [ex_append _ _ _ rfl rfl rfl k1]
    exact k2
  simp only [Fam.pt]
  (refine rel_val rfl (.pointer (some ⟨sb, 0, none⟩)) (fun _ _ _ h => TwoC.up rfl h) (fun V L w h1 h2 h3 hC => by unfold execOp; go_simp) ?_; simp only [Fam.pt])
  (refine rel_val rfl (.pointer (some ⟨sb, 0, none⟩)) (fun _ _ _ h => TwoC.up rfl h) (fun V L w h1 h2 h3 hC => by unfold execOp; go_simp) ?_; simp only [Fam.pt])
  (refine rel_val rfl (.pointer (some ⟨sb, 5, none⟩)) (fun _ _ _ h => TwoC.up rfl h) (fun V L w h1 h2 h3 hC => by unfold execOp; go_simp) ?_; simp only [Fam.pt])
  (refine rel_val rfl _ (fun _ _ _ h => TwoC.up rfl h) (fun V L w h1 h2 h3 hC => ex_load1 _ _ rfl _ rfl (TwoC.far hC hsS c5) _ Tryz.underlying76 rfl) ?_; simp only [Fam.pt])
  (refine rel_val rfl (.pointer (some ⟨tb, 1, none⟩)) (fun _ _ _ h => TwoC.up rfl h) (fun V L w h1 h2 h3 hC => by unfold execOp; go_simp) ?_; simp only [Fam.pt])
  (refine rel_val rfl _ (fun _ _ _ h => TwoC.up rfl h) (fun V L w h1 h2 h3 hC => ex_load1 _ _ rfl _ rfl (TwoC.far hC htS t1) _ Tryz.underlying3 rfl) ?_; simp only [Fam.pt])
  (refine rel_val rfl (.pointer (some ⟨dR, dt, none⟩)) (fun _ _ _ h => TwoC.up rfl h) (fun V L w h1 h2 h3 hC => by unfold execOp; go_simp) ?_; simp only [Fam.pt])
  refine rel_val rfl (.slice (dA dt) (drows dt).length (dc dt)) (fun _ _ _ h => TwoC.up rfl h) (fun V L w h1 h2 h3 hC => ex_load1 _ _ rfl _ rfl (TwoC.ev_row (by kernel_rfl) h1 h3 hC HK.out.ht) _ Tryz.underlying26 rfl) ?_
  simp only [Fam.pt]
  (refine rel_val rfl (.int .i64 k) (fun _ _ _ h => TwoC.up rfl h) (fun V L w h1 h2 h3 hC => by unfold execOp; go_simp) ?_; simp only [Fam.pt])
  refine rel_free rfl (fun V L w h1 h2 h3 hC => ?_) ?_
  · rw [ex_slice1i _ rfl (k : Int) rfl, ← HY.out.2]
    exact TwoC.ev_made2 (by decide) HK.out hC
  simp only [Fam.pt]
  refine rel_free rfl (fun V L w h1 h2 h3 hC => ?_) ?_
  · obtain ⟨v, w', k1, k2⟩ := TwoC.ev_app2 (by decide) HK.out hC h1 h3 (by kernel_rfl) h2 (by kernel_rfl) (by kernel_rfl) _
    rw [ex_append _ _ _ rfl rfl rfl k1]
    exact k2
  simp only [Fam.pt]
  (refine rel_val rfl (.pointer (some ⟨dR, df, none⟩)) (fun _ _ _ h => TwoC.up rfl h) (fun V L w h1 h2 h3 hC => by unfold execOp; go_simp) ?_; simp only [Fam.pt])
  refine rel_fix rfl undef (fun V L w h1 h2 h3 hC => ?_) ?_
  · obtain ⟨⟨A1, c1, k1⟩, ⟨⟨x, k2⟩, k3⟩, k4⟩ := TwoC.ev_put1 (by decide) HK.out hC h1 h3 (by kernel_rfl) h2 (by kernel_rfl) (by kernel_rfl)
    rw [ex_store1 26 _ _ rfl dR df _ rfl rfl k2 k3 (by kernel_rfl) (by rw [k1]; rfl) (by rw [k1]; rfl)]
    exact ⟨rfl, k4⟩
  simp only [Fam.pt]
  (refine rel_val rfl (.pointer (some ⟨dR, dt, none⟩)) (fun _ _ _ h => TwoC.up rfl h) (fun V L w h1 h2 h3 hC => by unfold execOp; go_simp) ?_; simp only [Fam.pt])
  refine rel_fix rfl undef (fun V L w h1 h2 h3 hC => ?_) ?_
  · obtain ⟨⟨A1, c1, k1⟩, ⟨⟨x, k2⟩, k3⟩, k4⟩ := TwoC.ev_put2 (by decide) HK.out hC h1 h2 (by kernel_rfl) (by kernel_rfl) (by kernel_rfl)
    rw [ex_store1 26 _ _ rfl dR dt _ rfl rfl k2 k3 (by kernel_rfl) (by rw [k1]; rfl) (by rw [k1]; rfl)]
    exact ⟨rfl, k4⟩
  simp only [Fam.pt]
  intro V L w' hL hC
  rw [hL 21 (by decide), hL 22 (by decide), hL 32 (by decide), hL 33 (by decide), hL 35 (by decide), hL 37 (by decide)] at hC
  exact HQ.out _ w' _ _ _ _ hC (by (refine ⟨rfl, rfl, ?_⟩; repeat (first | exact trivial | refine ⟨rfl, ?_⟩)))
theorem inv_ex_bound {n J : Nat} {es : List Ed} {x p ex : List Int} {D : Int} (hg : Gd n J es) (h : Inv n J es x p ex D) (v : Nat) (hv : v < n) : -1000000000 ≤ gi ex v ∧ gi ex v ≤ 1000000000 := by
  have h1 := netk_bound hg (Nat.le_refl es.length) (x := x) (fun i hi => (h.fits i hi).1) v
  have h2 : netk es x es.length v = net es x v := rfl
  rw [h2, ← h.exq v hv] at h1
  have := hg.m_le
  omega
theorem MinK.sel {n J : Nat} {es : List Ed} {x p ex : List Int} {D : Int} {src : Nat} {l : List Int} {last : List Ar} {bef : List Nat} {rk : Nat → Nat}
    (hg : Gd n J es) (h : Inv n J es x p ex D) (T : Tour n es x p src l last bef rk) (hs : src < n) (hpos : 0 < gi ex src) {k : Int} (hk : MinK n l (full ex) n k) : ∃ to : Nat, k = to ∧ Sel n ex l to := by
  have hlen := h.lenex
  obtain ⟨u, u1, u2, u3⟩ := reach hg h T hs hpos
  have hfu : ∀ v, v < n → (gb (full ex) v = false ↔ gi ex v < 0) := fun v hv => by
    rw [gb_full (by omega)]; simp
  have hk0 : 0 ≤ k := by
    apply Classical.byContradiction
    intro hn
    exact hk.none (by have := hk.lo; omega) u u1 ((hfu u u1).2 u2) u3
  obtain ⟨m1, m2, m3⟩ := hk.some hk0
  have hlt : k.toNat < n := by have := hk.hi; omega
  exact ⟨k.toNat, by omega, hlt, (hfu _ hlt).1 m1, m2, fun v hv hn hl => m3 v hv ((hfu v hv).2 hn) hl⟩
theorem tch_any {S : List Nat} {W w : World} (h : Below W.heap.size W w) : Tch S W w := ⟨h.os, h.tape, h.output, h.size, fun b hb _ => h.block b hb⟩
def PushPost (n J : Nat) (es : List Ed) (v : Loc) (ex : List Int) (W : World) (e : Ending) (w' : World) : Prop :=
  e = .returned (.tuple #[]) ∧ Tch [v.x, v.p, v.e] W w' ∧ ∃ x' p' ex' D', SvM w' v n es x' p' ex' ∧ Inv n J es x' p' ex' D' ∧ pos n ex' < pos n ex
theorem push_c {n J : Nat} {es : List Ed} (hg : Gd n J es) {x p ex : List Int} {D : Int} {v : Loc} {W : World} (hI : Inv n J es x p ex D) (hS : SvM W v n es x p ex) {src : Nat} (hs : src < n) (hpos : 0 < gi ex src) :
    Calls Tryz.prog 53 #[.pointer (some ⟨v.S, 0, none⟩), .int .i64 src] W (PushPost n J es v ex W) := by
  refine callsIn_wide.1 (callsIn_of_wp_marks (n := 0) Tryz.func53 rfl trivial ?_ rfl)
  simp only [Tryz.ntmps53, List.size_toArray, List.length_cons, List.length_nil, Nat.reduceAdd, Nat.reduceSub, Array.replicate_succ, Array.replicate_zero, List.push_toArray, List.append_toArray, List.nil_append, List.cons_append]
  have hw := ways_c hg hI.fits hS (fun i hi => by have := hI.p_le hg i hi; omega) hs
  have HW := Lib.hid hw; clear hw
  have HG := Lib.hid hg; clear hg
  have HI := Lib.hid hI; clear hI
  have HS := Lib.hid hS; clear hS
  have hnn := HG.out.n_le
  show Code.wpIn Fence.wide 0 Tryz.prog (.seq (Tryz.f53.sub [0]) (.seq (Tryz.f53.sub [1, 0]) (.seq (Tryz.f53.sub [1, 1, 0]) (.seq (Tryz.f53.sub [1, 1, 1, 0]) (.seq (Tryz.f53.sub [1, 1, 1, 1, 0]) (.seq (Tryz.f53.sub [1, 1, 1, 1, 1, 0]) (.seq (Tryz.f53.sub [1, 1, 1, 1, 1, 1, 0]) (.seq (Tryz.f53.sub [1, 1, 1, 1, 1, 1, 1, 0]) (Tryz.f53.sub [1, 1, 1, 1, 1, 1, 1, 1]))))))))) _ _ _
  refine wpIn_seq ?_
  conv => arg 4; whnf
  gi_wp2_with fail
  refine ⟨trivial, rfl, (callsIn_wide.2 HW.out).mono ?_⟩
  rintro e W1 ⟨lb, ab, bb, l, last, bef, rk, rfl, hB1, g1, g2, g3, hl, ha, hb, T⟩
  have HB1 := Lib.hid hB1
  have HM := Lib.hid (And.intro hl (And.intro ha (And.intro hb T)))
  have llt : lb < W1.heap.size := hl.lt
  have alt : ab < W1.heap.size := FlB.lt ha
  have blt : bb < W1.heap.size := hb.lt
  clear hl ha hb T hB1
  gi_wp2_with fail
  conv => arg 4; whnf
  gi_wp2_with fail
  refine nameW ?_
  intro W2 hW2
  have htb : W2.heap[W1.heap.size]? = some (.cells #[.slice (some ⟨lb, 0, none⟩) n n, .slice (some ⟨ab, 0, none⟩) n n, .slice (some ⟨bb, 0, none⟩) n n] 121 (0, 0)) := by
    rw [hW2]; exact heap_alloc_new W1 _
  have hB12 : Below W1.heap.size W1 W2 := by rw [hW2]; exact (Below.refl _ _).alloc (Nat.le_refl _) _
  clear hW2
  obtain ⟨hl, ha, hb, T⟩ := HM.out
  have hS2 := (HS.out.keep HB1.out).keep hB12
  have hT : PMem W2 W1.heap.size lb ab bb n l last bef := ⟨htb, hl.keep hB12, FlB.keep ha hB12, hb.keep hB12, T.len1, T.len2, T.len3⟩
  have hWW : W.heap.size ≤ W1.heap.size := HB1.out.size
  have hPW : PW W W2 v W1.heap.size lb ab bb n es x p ex l last bef := ⟨hS2, hT, tch_any (HB1.out.trans (hB12.mono hWW))⟩
  have xlt := HS.out.fl.lt
  have plt := HS.out.tu.lt
  have elt := HS.out.em.lt
  have hA : PApart v W1.heap.size lb ab bb := by
    refine ⟨⟨?_, ?_, ?_, ?_⟩, ⟨?_, ?_, ?_, ?_⟩, ⟨?_, ?_, ?_, ?_⟩⟩ <;> omega
  have hexb := inv_ex_bound HG.out HI.out
  rename_i K1 hK1
  refine push_find (src := src) hT hS2 (by omega) ?_
  intro a3 k hk hf3
  obtain ⟨to, rfl, hsel⟩ := hk.sel HG.out HI.out T hs hpos
  obtain ⟨t3, rfl⟩ := hf3.open
  refine hK1 _ _ ?_
  refine wpIn_seq ?_
  refine push_amount (tb := W1.heap.size) hS2 hs hsel.lt hexb ?_
  intro a4 q4 am0 ham0 hf4
  obtain ⟨t4, rfl⟩ := hf4.open
  have hneg := hsel.neg
  have hto := hsel.lt
  have b1 := hexb src hs
  have hPW4 := hPW.drewN q4
  refine wpIn_seq ?_
  refine push_room HG.out hPW4.pm T HI.out.fits hto hsel.fin ⟨by omega, by omega⟩ ?_
  intro a5 K am hBk hK hm1 hm2 hro hf5
  obtain ⟨t5, rfl⟩ := hf5.open
  refine wpIn_seq ?_
  refine push_flow HG.out hPW4 hA T HI.out.fits hBk hK ⟨hm1, by omega⟩ ?_
  intro a6 W6 y hFl hPW6 hf6
  obtain ⟨t6, rfl⟩ := hf6.open
  have hne : src ≠ to := fun e => by subst e; omega
  refine push_extra hPW6 hA hs hto hne hexb ⟨hm1, by omega⟩ ?_
  intro a7 W7 hPW7 hf7
  obtain ⟨t7, rfl⟩ := hf7.open
  refine push_turns hPW7 hA (by omega) hto T.lo (fun i hi => by have := HI.out.p_le HG.out i hi; omega) ?_
  intro a8 W8 q hd hq hPW8
  show LeavesInM Fence.wide 0 Tryz.prog _ a8.tmps _ a8.defers .returning W8
  rw [hd]
  obtain ⟨hinv, hpos'⟩ := push_inv HG.out HI.out T hs hpos hsel hm1 (by omega) (by omega) hBk hK hro hFl (by have := hPW8.sv.lenp; omega) hq
  exact ⟨.tuple #[], by simp [results, Tryz.results53, go_sem], rfl, hPW8.tch, _, _, _, _, hPW8.sv, hinv, hpos'⟩
def adN (es : List Ed) (k u : Nat) : List Nat := (List.range k).filter fun i => (ge es i).f == u || (ge es i).t == u
def adI (es : List Ed) (k u : Nat) : List Int := (adN es k u).map Int.ofNat
theorem adN_len (es : List Ed) (k u : Nat) : (adN es k u).length ≤ k := by
  have := List.length_filter_le (fun i => (ge es i).f == u || (ge es i).t == u) (List.range k)
  rw [List.length_range] at this; exact this
theorem adI_grow (es : List Ed) (k : Nat) : grow2 (adI es k) (ge es k).f (ge es k).t k k = adI es (k + 1) := by
  funext u
  unfold grow2 adI adN
  rw [List.range_succ, List.filter_append, List.map_append]
  by_cases h1 : u = (ge es k).f
  · rw [if_pos h1]; simp [h1]
  · rw [if_neg h1]
    by_cases h2 : u = (ge es k).t
    · rw [if_pos h2]; simp [h2]
    · rw [if_neg h2]
      simp [show ¬ (ge es k).f = u from fun e => h1 e.symm, show ¬ (ge es k).t = u from fun e => h2 e.symm]
structure NwK (n : Nat) (es : List Ed) (k : Nat) (x ex : List Int) : Prop where
  x : ∀ i, i < es.length → gi x i = if i < k then x0 (ge es i) else 0
  e : ∀ v, v < n → gi ex v = netk es (flow0 es) k v
theorem NwK.step {n J : Nat} {es : List Ed} (hg : Gd n J es) {k : Nat} {x ex : List Int} (h : NwK n es k x ex) (hk : k < es.length) (lx : x.length = es.length) (le : ex.length = n) :
    NwK n es (k + 1) (x.set k (x0 (ge es k))) ((ex.set (ge es k).f (gi ex (ge es k).f - x0 (ge es k))).set (ge es k).t (gi ex (ge es k).t + x0 (ge es k))) := by
  obtain ⟨e1, e2, e3⟩ := hg.ends k hk
  refine ⟨fun i hi => ?_, fun v hv => ?_⟩
  · rw [gi_set _ _ _ _ (by omega)]
    by_cases e : k = i
    · subst e; rw [if_pos rfl, if_pos (by omega)]
    · rw [if_neg e, h.x i hi]
      by_cases e' : i < k
      · rw [if_pos e', if_pos (by omega)]
      · rw [if_neg e', if_neg (by omega)]
  · have hs : netk es (flow0 es) (k + 1) v = netk es (flow0 es) k v + ((if (ge es k).t = v then gi (flow0 es) k else 0) - (if (ge es k).f = v then gi (flow0 es) k else 0)) := rfl
    rw [hs, gi_flow0 hk, gi_set _ _ _ _ (by rw [List.length_set, le]; exact e2), gi_set _ _ _ _ (by rw [le]; exact e1)]
    by_cases a : (ge es k).t = v
    · subst a
      rw [if_pos rfl, if_pos rfl, if_neg e3, h.e _ hv]; omega
    · rw [if_neg a, if_neg a]
      by_cases b : (ge es k).f = v
      · subst b
        rw [if_pos rfl, if_pos rfl, h.e _ hv]; omega
      · rw [if_neg b, if_neg b, h.e _ hv]; omega
theorem fitk0 (es : List Ed) {k : Nat} (hk : k ≤ es.length) : FitK es (flow0 es) k := fun i hi => by
  rw [gi_flow0 (by omega)]
  have := x0_abs (ge es i); omega
theorem NwK.bound {n J : Nat} {es : List Ed} (hg : Gd n J es) {k : Nat} {x ex : List Int} (h : NwK n es k x ex) (hk : k ≤ es.length) {v : Nat} (hv : v < n) : -1000000000 ≤ gi ex v ∧ gi ex v ≤ 1000000000 := by
  have := netk_bound hg hk (fitk0 es hk) v
  have := hg.m_le
  rw [h.e v hv]; omega
def LoopNew (W0 : World) (z : NwL) (n xb : Nat) (es : List Ed) (a : Act) (w : World) : Prop :=
  ∃ k x ex, k ≤ es.length ∧ NwK n es k x ex ∧ NewM w z n es x ex (adI es k) ∧ Below z.B W0 w ∧
    FrD 132 [] [(3, .pointer (some ⟨z.sb, 0, none⟩)), (1, .pointer (some ⟨xb, 0, none⟩)), (28, .slice z.A es.length z.ca), (29, .int .i64 es.length), (30, .int .i64 k)] a
theorem new_round {mm n J xb : Nat} {W0 : World} {z : NwL} {es : List Ed} (hg : Gd n J es) (hE : RdE W0 z.A es) (hB : z.B = W0.heap.size)
    {Q : Exit → Act → World → Prop} (hQ : ∀ a w x ex, NwK n es es.length x ex → NewM w z n es x ex (adI es es.length) → Below z.B W0 w → FrD 132 [] [(3, .pointer (some ⟨z.sb, 0, none⟩))] a → Q (.exit 0) a w)
    (a : Act) (w : World) (hI : LoopNew W0 z n xb es a w) :
    Code.wpIn Fence.wide mm Tryz.prog (Tryz.f50.sub [1, 1, 0, 1, 0, 0]) (Exit.then (fun a' w' => LoopNew W0 z n xb es a' w' ∧ es.length - (intOf (a'.tmps.getD 30 undef)).toNat < es.length - (intOf (a.tmps.getD 30 undef)).toNat) Q) a w := by
  obtain ⟨k, x, ex, hk, hKK, hN, hbel, hfr⟩ := hI
  obtain ⟨t, rfl⟩ := hfr.open
  clear hfr
  generalize hmu : es.length - (intOf ((⟨frL 132 _ t, []⟩ : Act).tmps.getD 30 undef)).toNat = mu
  have hmu' : es.length - k = mu := by rw [← hmu]; rfl
  clear hmu
  have HG := Lib.hid hg; clear hg
  have HQ := Lib.hid hQ; clear hQ
  have HN := Lib.hid hN; clear hN
  have HK := Lib.hid hKK; clear hKK
  have HBel := Lib.hid hbel; clear hbel
  have HE := Lib.hid hE; clear hE
  have HB := Lib.hid hB; clear hB
  have hmm := HG.out.m_le
  have hnn := HG.out.n_le
  show Code.wpIn Fence.wide mm Tryz.prog (.seq (Tryz.f50.sub [1, 1, 0, 1, 0, 0, 0]) (.seq (Tryz.f50.sub [1, 1, 0, 1, 0, 0, 1, 0]) (.seq (.block 1 (.seq (Tryz.f50.sub [1, 1, 0, 1, 0, 0, 1, 1, 0, 0, 0]) (.seq (.block 2 (Tryz.f50.sub [1, 1, 0, 1, 0, 0, 1, 1, 0, 0, 1, 0, 0])) (.seq (Tryz.f50.sub [1, 1, 0, 1, 0, 0, 1, 1, 0, 0, 1, 1, 0]) (.seq (Tryz.f50.sub [1, 1, 0, 1, 0, 0, 1, 1, 0, 0, 1, 1, 1, 0]) (Tryz.f50.sub [1, 1, 0, 1, 0, 0, 1, 1, 0, 0, 1, 1, 1, 1])))))) (Tryz.f50.sub [1, 1, 0, 1, 0, 0, 1, 1, 1])))) _
    ⟨#[(t 0), .pointer (some ⟨xb, 0, none⟩), (t 2), .pointer (some ⟨z.sb, 0, none⟩), (t 4), (t 5), (t 6), (t 7), (t 8), (t 9), (t 10), (t 11), (t 12), (t 13), (t 14), (t 15), (t 16), (t 17), (t 18), (t 19), (t 20), (t 21), (t 22), (t 23), (t 24), (t 25), (t 26), (t 27), .slice z.A es.length z.ca, .int .i64 es.length, .int .i64 k, (t 31), (t 32), (t 33), (t 34), (t 35), (t 36), (t 37), (t 38), (t 39), (t 40), (t 41), (t 42), (t 43), (t 44), (t 45), (t 46), (t 47), (t 48), (t 49), (t 50), (t 51), (t 52), (t 53), (t 54), (t 55), (t 56), (t 57), (t 58), (t 59), (t 60), (t 61), (t 62), (t 63), (t 64), (t 65), (t 66), (t 67), (t 68), (t 69), (t 70), (t 71), (t 72), (t 73), (t 74), (t 75), (t 76), (t 77), (t 78), (t 79), (t 80), (t 81), (t 82), (t 83), (t 84), (t 85), (t 86), (t 87), (t 88), (t 89), (t 90), (t 91), (t 92), (t 93), (t 94), (t 95), (t 96), (t 97), (t 98), (t 99), (t 100), (t 101), (t 102), (t 103), (t 104), (t 105), (t 106), (t 107), (t 108), (t 109), (t 110), (t 111), (t 112), (t 113), (t 114), (t 115), (t 116), (t 117), (t 118), (t 119), (t 120), (t 121), (t 122), (t 123), (t 124), (t 125), (t 126), (t 127), (t 128), (t 129), (t 130), (t 131)], []⟩ _
  refine wpIn_seq ?_
  conv => arg 4; whnf
  dsimp only
  by_cases hlt : k < es.length
  · obtain ⟨b, o, hA, c0, c1, c2, c3⟩ := (HE.out.keep (by rw [← HB.out]; exact HBel.out)) k hlt
    obtain ⟨ef, et, ne⟩ := HG.out.ends k hlt
    have hwt := HG.out.wt k hlt
    obtain ⟨j1, j2⟩ := HG.out.jump k hlt
    have hJ := HG.out.J_le
    have hxk := HK.out.x k hlt
    rw [if_neg (Nat.lt_irrefl k)] at hxk
    have HX := Lib.hid hxk; clear hxk
    gi_wp2_with fail
    conv => arg 4; whnf
    gi_wp2_with fail
    conv => arg 4; whnf
    gi_wp2_with fail
    refine nameW ?_
    intro W1 hW1
    have hb1 : Below w.heap.size w W1 := by rw [hW1]; exact (Below.refl _ _).alloc (Nat.le_refl _) _
    have heb : EdB W1 w.heap.size (ge es k) := by rw [hW1]; exact World.alloc_heap_new w _
    clear hW1
    have hge : z.B ≤ w.heap.size := by have := HBel.out.size; have := HB.out; omega
    have hN1 := HN.out.keep hb1
    have hbel1 : Below z.B W0 W1 := HBel.out.trans (hb1.mono hge)
    rename_i K1 hK1 K2 hK2
    obtain ⟨n1, n2, n3, n4, n5, n6, n7⟩ := hN1.nS
    refine new_flow rfl hN1 hlt hmm heb HX.out hwt ⟨by omega, by omega⟩ ?_
    intro a2 W2 hN2 hT2 hc2 hfr2
    obtain ⟨t2, rfl⟩ := hfr2.open
    refine hK2 _ _ ?_
    have hst := HK.out.step HG.out hlt hN1.lx hN1.le
    have hx2 : gi (x.set k (x0 (ge es k))) k = x0 (ge es k) := by rw [gi_set _ _ _ _ (by rw [hN1.lx]; exact hlt), if_pos rfl]
    have hab := x0_abs (ge es k)
    refine wpIn_seq ?_
    refine new_from rfl hN2 hlt hmm (by omega) hT2 ef (by rw [hx2]; omega) (HK.out.bound HG.out hk ef) ?_
    intro a3 W3 hN3 hT3 hc3 hfr3
    obtain ⟨t3, rfl⟩ := hfr3.open
    rw [hx2] at hN3
    have hx3 : gi (ex.set (ge es k).f (gi ex (ge es k).f - x0 (ge es k))) (ge es k).t = gi ex (ge es k).t := by rw [gi_set _ _ _ _ (by rw [hN1.le]; exact ef), if_neg ne]
    refine wpIn_seq ?_
    refine new_to rfl hN3 hlt hmm (by omega) hT3 et (by rw [hx2]; omega) (by rw [hx3]; exact HK.out.bound HG.out hk et) ?_
    intro a4 W4 hN4 hT4 hc4 hfr4
    obtain ⟨t4, rfl⟩ := hfr4.open
    rw [hx2, hx3] at hN4
    obtain ⟨g1, g2, g3, g4⟩ := hN4.ge
    have hbel4 : Below z.B W0 W4 := by
      have hs0 : z.B ≤ W0.heap.size := by rw [HB.out]; exact Nat.le_refl _
      have b2 := hc2.below hbel1 (by have := hb1.size; omega) (by simpa using g2)
      have b3 := hc3.below b2 (by have := b2.size; omega) (by simpa using g4)
      exact hc4.below b3 (by have := b3.size; omega) (by simpa using g4)
    have hs4 : z.B ≤ W4.heap.size := by have := hbel4.size; have := HB.out; omega
    obtain ⟨Ar, c, hRG, hRb⟩ := hN4.rows
    obtain ⟨cs, hok⟩ := hRG.ok ef et ne hs4 (fun u hu => by unfold adI; rw [List.length_map]; have := adN_len es k u; omega) k k
    have hT4c := hT4.c
    have hsS := hok.other hN4.blk (by decide) (by decide)
    refine new_rows (sb := z.sb) rfl hok ⟨rfl, rfl⟩ (by simp only; omega) hN4.c5 hsS (hok.other hT4 (by decide) (by decide)) hT4c.1 hT4c.2.1 ?_
    intro a5 W5 y1 y2 y3 y4 hC hfr5
    obtain ⟨t5, rfl⟩ := hfr5.open
    obtain ⟨Ar', c', hR5, hfresh⟩ := hC.done hRG hok
    rw [adI_grow] at hR5
    have keep : ∀ b, (∀ u, u < n → ∀ b', (Ar u).map (·.block) = some b' → b' ≠ b) → z.rb ≠ b → b < W4.heap.size → W5.heap[b]? = W4.heap[b]? := fun b h1 h2 h3 => hC.tch.block b h3 (fun hm => by
      simp only [TwoD.S, TwoD.bf, TwoD.bt, List.mem_cons, List.mem_append, Option.mem_toList] at hm
      rcases hm with e | e | e
      · exact h2 e.symm
      · exact h1 _ ef _ e rfl
      · exact h1 _ et _ e rfl)
    obtain ⟨m1, m2, m3, m4, m5, m6, m7⟩ := hN4.nS
    have hN5 : NewM W5 z n es (x.set k (x0 (ge es k))) ((ex.set (ge es k).f (gi ex (ge es k).f - x0 (ge es k))).set (ge es k).t (gi ex (ge es k).t + x0 (ge es k))) (adI es (k + 1)) := by
      have l1 := hN4.fl.lt
      have l2 := hN4.tu.lt
      have l3 := hN4.em.lt
      refine ⟨(hC.tch.block z.sb (Array.getElem?_eq_some_iff.1 hN4.blk).1 hsS).trans hN4.blk, (keep z.fb (fun u hu b hb => (hRb u hu b hb).1) m3 l1).trans hN4.fl, (keep z.pb (fun u hu b hb => (hRb u hu b hb).2.1) m5 l2).trans hN4.tu, (keep z.eb (fun u hu b hb => (hRb u hu b hb).2.2) m4 l3).trans hN4.em,
        ⟨Ar', c', hR5, fun u hu b hb => ?_⟩, hN4.lx, hN4.le, hN4.ne, hN4.ge⟩
      rcases hfresh u hu b hb with h | h
      · exact hRb u hu b h
      · exact ⟨by omega, by omega, by omega⟩
    have hbel5 : Below z.B W0 W5 := hC.tch.below hbel4 (by rw [HB.out]; exact Nat.le_refl _) hok.ge
    refine hK1 _ _ ?_
    have H5 := Lib.hid (And.intro hN5 (And.intro hbel5 hst))
    clear hN5 hbel5 hst hC hok hRG hRb hN4 hN3 hN2 hN1 hT4c hT4 hT3 hT2 hfresh keep hR5 hc2 hc3 hc4 hbel4 hbel1 heb hb1 hx2 hx3 hfr2 hfr3 hfr4 hfr5 hsS
    show Code.wpIn Fence.wide mm Tryz.prog _ _ ⟨#[(t5 0), .pointer (some ⟨xb, 0, none⟩), (t5 2), .pointer (some ⟨z.sb, 0, none⟩), (t5 4), (t5 5), (t5 6), (t5 7), (t5 8), (t5 9), (t5 10), (t5 11), (t5 12), (t5 13), (t5 14), (t5 15), (t5 16), (t5 17), (t5 18), (t5 19), (t5 20), (t5 21), (t5 22), (t5 23), (t5 24), (t5 25), (t5 26), (t5 27), .slice z.A es.length z.ca, .int .i64 es.length, .int .i64 k, (t5 31), (t5 32), (t5 33), (t5 34), (t5 35), (t5 36), (t5 37), (t5 38), (t5 39), (t5 40), (t5 41), (t5 42), (t5 43), (t5 44), (t5 45), (t5 46), (t5 47), (t5 48), (t5 49), (t5 50), (t5 51), (t5 52), (t5 53), (t5 54), (t5 55), (t5 56), (t5 57), (t5 58), (t5 59), (t5 60), (t5 61), (t5 62), (t5 63), (t5 64), (t5 65), (t5 66), (t5 67), (t5 68), (t5 69), (t5 70), (t5 71), (t5 72), (t5 73), (t5 74), (t5 75), (t5 76), (t5 77), (t5 78), (t5 79), (t5 80), (t5 81), (t5 82), (t5 83), (t5 84), (t5 85), (t5 86), (t5 87), (t5 88), (t5 89), (t5 90), (t5 91), (t5 92), (t5 93), (t5 94), (t5 95), (t5 96), (t5 97), (t5 98), (t5 99), (t5 100), (t5 101), (t5 102), (t5 103), (t5 104), (t5 105), (t5 106), (t5 107), (t5 108), (t5 109), (t5 110), (t5 111), (t5 112), (t5 113), (t5 114), (t5 115), (t5 116), (t5 117), (t5 118), (t5 119), (t5 120), (t5 121), (t5 122), (t5 123), (t5 124), (t5 125), (t5 126), (t5 127), (t5 128), (t5 129), (t5 130), (t5 131)], []⟩ _
    conv => arg 4; whnf
    dsimp only
    gi_wp2_with fail
    obtain ⟨hN5, hbel5, hst⟩ := H5.out
    refine ⟨⟨k + 1, _, _, by omega, hst, hN5, hbel5, by (refine ⟨rfl, rfl, ?_⟩; repeat (first | exact trivial | refine ⟨rfl, ?_⟩))⟩, ?_⟩
    show es.length - ((k : Int) + 1).toNat < mu
    omega
  · gi_wp2_with fail
    conv => arg 4; whnf
    gi_wp2_with fail
    have : k = es.length := by omega
    subst this
    exact HQ.out _ _ x ex HK.out HN.out HBel.out (by (refine ⟨rfl, rfl, ?_⟩; repeat (first | exact trivial | refine ⟨rfl, ?_⟩)))
theorem NewM.sv {W0 w : World} {z : NwL} {n : Nat} {es : List Ed} {x ex : List Int} (h : NewM w z n es x ex (adI es es.length)) (hb : Below z.B W0 w) (hB : z.B = W0.heap.size) (hE : RdE W0 z.A es) :
    ∃ v : Loc, SvM w v n es x (List.replicate n 0) ex ∧ v.S = z.sb ∧ v.x = z.fb ∧ v.p = z.pb ∧ v.e = z.eb ∧ v.A = z.A ∧ v.c = z.ca := by
  obtain ⟨n1, n2, n3, n4, n5, n6, n7⟩ := h.nS
  obtain ⟨Ar, c, hRG, hRb⟩ := h.rows
  obtain ⟨g1, g2, g3, g4⟩ := h.ge
  refine ⟨⟨z.sb, z.fb, z.pb, z.eb, z.rb, z.A, z.ca, Ar, c⟩, ⟨h.blk, h.fl, h.tu, h.em, fun j hj => ?_, fun u hu => ?_, ⟨n1, n6, n2⟩, ⟨n3, n5, n4⟩, h.ne.1, h.ne.2.1, h.ne.2.2, h.lx.symm, by simp, h.le.symm⟩, rfl, rfl, rfl, rfl, rfl, rfl⟩
  · obtain ⟨b, o, e1, e2, e3, e4, e5⟩ := hE j hj
    have hlt := World.block_lt_of_cell? _ _ e2
    have hbb : Below W0.heap.size W0 w := by rw [← hB]; exact hb
    simp only at hlt
    exact ⟨b, o, e1, ⟨by simp only; omega, by simp only; omega, by simp only; omega⟩, cell_keep hbb e2, cell_keep hbb e3, cell_keep hbb e4, cell_keep hbb e5⟩
  · obtain ⟨⟨cs, q1, q2, q3⟩, q4, _, _, _⟩ := hRG
    have hq := q3 u hu
    unfold adI at hq
    rw [List.length_map, show adN es es.length u = adj es u from rfl] at hq
    refine ⟨by simp only [World.cell?, q1]; simpa using hq, fun j hj => ?_⟩
    have hj' : j < (adI es es.length u).length := by unfold adI; rw [List.length_map]; exact hj
    obtain ⟨b, o, e1, e2, e3⟩ := GrI.cell (q4 u hu) hj'
    refine ⟨b, o, e1, hRb u hu b (by rw [e1]; rfl), ?_⟩
    rw [e3]
    unfold adI
    rw [gi_ofNat]
    rfl
theorem NwK.flow {n : Nat} {es : List Ed} {x ex : List Int} (h : NwK n es es.length x ex) (lx : x.length = es.length) : x = flow0 es := by
  apply List.ext_getElem
  · unfold flow0; rw [List.length_map]; exact lx
  · intro i h1 h2
    have := h.x i (by omega)
    rw [if_pos (by omega), ← gi_flow0 (by omega)] at this
    unfold gi at this
    simpa [List.getD_eq_getElem?_getD, h1, h2] using this
def NewPost (n J : Nat) (es : List Ed) (A : Option Addr) (ca : Nat) (W : World) (e : Ending) (w' : World) : Prop :=
  ∃ (v : Loc) (x p ex : List Int) (D : Int), e = .returned (.pointer (some ⟨v.S, 0, none⟩)) ∧ Below W.heap.size W w' ∧ SvM w' v n es x p ex ∧ Inv n J es x p ex D ∧ v.A = A ∧ v.c = ca ∧ W.heap.size ≤ v.S ∧ W.heap.size ≤ v.x ∧ W.heap.size ≤ v.p ∧ W.heap.size ≤ v.e
theorem new_c {n J : Nat} {es : List Ed} (hg : Gd n J es) {W : World} {A : Option Addr} {ca : Nat} (hE : RdE W A es) :
    Calls Tryz.prog 50 #[.agg #[.int .i64 n, .slice A es.length ca]] W (NewPost n J es A ca W) := by
  refine callsIn_wide.1 (callsIn_of_wp_marks (n := 0) Tryz.func50 rfl trivial ?_ rfl)
  simp only [Tryz.ntmps50, List.size_toArray, List.length_cons, List.length_nil, Nat.reduceAdd, Nat.reduceSub, Array.replicate_succ, Array.replicate_zero, List.push_toArray, List.append_toArray, List.nil_append, List.cons_append]
  have hn := hg.n_le
  have hm := hg.m_le
  have HG := Lib.hid hg; clear hg
  have HE := Lib.hid hE; clear hE
  show Code.wpIn Fence.wide 0 Tryz.prog (.seq (Tryz.f50.sub [0]) (.seq (Tryz.f50.sub [1, 0]) (.seq (.seq (Tryz.f50.sub [1, 1, 0, 0]) (.block 0 (.loop (Tryz.f50.sub [1, 1, 0, 1, 0, 0])))) (.seq (Tryz.f50.sub [1, 1, 1, 0]) .ret)))) _ _ _
  refine wpIn_seq ?_
  conv => arg 4; whnf
  gi_wp2_with fail
  refine nameW ?_
  intro W1 hW1
  have hb1 : Below W.heap.size W W1 := by rw [hW1]; exact (Below.refl _ _).alloc (Nat.le_refl _) _
  have hz1 : W1.heap.size = W.heap.size + 1 := by rw [hW1]; simp
  have hxb : W1.heap[W.heap.size]? = some (.cells #[.int .i64 n, .slice A es.length ca] 71 (0, 0)) := by rw [hW1]; exact World.alloc_heap_new W _
  clear hW1
  have HX := Lib.hid hxb
  refine new_make (by omega) (by omega) hxb ?_
  intro v6 v7 v8 v9 v10 v11 v12 v13 v14 v15 v16 v17 v18 v19 v20 v21 v22 v23 v24 v25 W2 sb fb pb eb rb hb2 s1 s2 s3 s4 s5 d1 d2 d3 hsb hfb hpb heb hrb
  have hbel2 : Below W.heap.size W W2 := hb1.trans (hb2.mono (by omega))
  have hxb2 := (hb2.block _ (by omega)).trans HX.out
  have hRG : RowsG W2 W.heap.size rb n (adI es 0) (fun _ => none) (fun _ => 0) := RowsG.start hrb (by omega) (fun u => rfl)
  have hN : NewM W2 ⟨W.heap.size, sb, fb, pb, eb, rb, A, ca⟩ n es (List.replicate es.length 0) (List.replicate n 0) (adI es 0) :=
    ⟨hsb, hfb, hpb, heb, ⟨_, _, hRG, fun u hu b hb => (by cases hb)⟩, by simp, by simp, ⟨d1, d2, d3⟩, by simp only; omega⟩
  have c1 : W2.cell? ⟨W.heap.size, 1, none⟩ = some (.slice A es.length ca) := by simp [World.cell?, hxb2]
  have HN := Lib.hid hN; clear hN
  have HB2 := Lib.hid hbel2; clear hbel2
  clear hRG hb2 hxb2 hsb hfb hpb heb hrb hxb
  rename_i K hK
  refine hK _ _ ?_
  refine wpIn_seq ?_
  refine wpIn_seq ?_
  conv => arg 4; whnf
  dsimp only
  gi_wp2_with fail
  refine wpIn_loop (LoopNew W ⟨W.heap.size, sb, fb, pb, eb, rb, A, ca⟩ n W.heap.size es) (fun a _ => es.length - (intOf (a.tmps.getD 30 undef)).toNat) ⟨0, _, _, Nat.zero_le _, ⟨fun i hi => by rw [if_neg (by omega)]; exact gi_replicate _ _, fun v hv => by rw [gi_replicate]; rfl⟩, HN.out, HB2.out, by (refine ⟨rfl, rfl, ?_⟩; repeat (first | exact trivial | refine ⟨rfl, ?_⟩))⟩ (new_round HG.out HE.out rfl ?_)
  intro a3 w3 x ex hK3 hN3 hbel3 hfr3
  obtain ⟨t3, rfl⟩ := hfr3.open
  clear hfr3
  obtain ⟨v, hSv, vs, vx, vp, ve, vA, vc⟩ := hN3.sv hbel3 rfl HE.out
  have hx := hK3.flow hN3.lx
  subst hx
  have hI := Inv.start HG.out hN3.le (ex := ex) (fun v hv => hK3.e v hv)
  have H3 := Lib.hid (And.intro hSv (And.intro hI hbel3))
  clear hSv hI hK3 hN3 hbel3
  show Code.wpIn Fence.wide 0 Tryz.prog (.seq (Tryz.f50.sub [1, 1, 1, 0]) .ret) _ ⟨#[(t3 0), (t3 1), (t3 2), .pointer (some ⟨sb, 0, none⟩), (t3 4), (t3 5), (t3 6), (t3 7), (t3 8), (t3 9), (t3 10), (t3 11), (t3 12), (t3 13), (t3 14), (t3 15), (t3 16), (t3 17), (t3 18), (t3 19), (t3 20), (t3 21), (t3 22), (t3 23), (t3 24), (t3 25), (t3 26), (t3 27), (t3 28), (t3 29), (t3 30), (t3 31), (t3 32), (t3 33), (t3 34), (t3 35), (t3 36), (t3 37), (t3 38), (t3 39), (t3 40), (t3 41), (t3 42), (t3 43), (t3 44), (t3 45), (t3 46), (t3 47), (t3 48), (t3 49), (t3 50), (t3 51), (t3 52), (t3 53), (t3 54), (t3 55), (t3 56), (t3 57), (t3 58), (t3 59), (t3 60), (t3 61), (t3 62), (t3 63), (t3 64), (t3 65), (t3 66), (t3 67), (t3 68), (t3 69), (t3 70), (t3 71), (t3 72), (t3 73), (t3 74), (t3 75), (t3 76), (t3 77), (t3 78), (t3 79), (t3 80), (t3 81), (t3 82), (t3 83), (t3 84), (t3 85), (t3 86), (t3 87), (t3 88), (t3 89), (t3 90), (t3 91), (t3 92), (t3 93), (t3 94), (t3 95), (t3 96), (t3 97), (t3 98), (t3 99), (t3 100), (t3 101), (t3 102), (t3 103), (t3 104), (t3 105), (t3 106), (t3 107), (t3 108), (t3 109), (t3 110), (t3 111), (t3 112), (t3 113), (t3 114), (t3 115), (t3 116), (t3 117), (t3 118), (t3 119), (t3 120), (t3 121), (t3 122), (t3 123), (t3 124), (t3 125), (t3 126), (t3 127), (t3 128), (t3 129), (t3 130), (t3 131)], []⟩ _
  refine wpIn_seq ?_
  conv => arg 4; whnf
  dsimp only
  gi_wp2_with fail
  obtain ⟨hSv, hI, hbel3⟩ := H3.out
  show LeavesInM Fence.wide 0 Tryz.prog _ _ _ [] .returning w3
  refine ⟨.pointer (some ⟨sb, 0, none⟩), results_tmp Tryz.results50 _ _ _, v, _, _, ex, 0, by rw [vs], hbel3, hSv, hI, vA, vc, ?_, ?_, ?_, ?_⟩
  · rw [vs]; omega
  · rw [vx]; omega
  · rw [vp]; omega
  · rw [ve]; omega
end Go.Proofs.YtjnpchoinncbnaaGreat
end
