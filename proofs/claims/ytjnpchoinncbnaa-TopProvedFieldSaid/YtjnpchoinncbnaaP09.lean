/- Proves parts of the statement, each under the conditions that its theorem states: A push: what is left, and the turns; A push: the contract; Slices of the call's own that grow, and are cut at their head; Plain facts on numbering the parts: a search from each node that has no number yet. -/
import Derived.Test.YtjnpchoinncbnaaP08
import Derived.Test.YtjnpchoinncbnaaP04
import Derived.Test.YtjnpchoinncbnaaP03
import Derived.ArgAppend
import Derived.Test.YtjnpchoinncbnaaP02
section
set_option linter.unusedSimpArgs false
set_option linter.unusedVariables false
namespace Go.Proofs.Ytjnpchoinncbnaa
open Go.RowKit Sw Fam
set_option maxHeartbeats 4000000 in
set_option maxRecDepth 100000 in
theorem push_extra {m n tb lb ab bb src to : Nat} {es : List Ed} {x p ex l : List Int} {v : Loc} {last : List Ar} {bef : List Nat} {am : Int} {W0 W : World} {Q : Exit → Act → World → Prop} {c : Code} {u2 u3 u6 u7 u9 u10 u11 u12 u13 u14 u15 u16 u17 u18 u19 u20 u21 u22 u23 u24 u25 u26 u27 u28 u29 u30 u31 u32 u33 u34 u35 u36 u37 u38 u39 u40 u41 u42 u43 u44 u45 u46 u47 u48 u49 u50 u51 u52 u53 u54 u55 u56 u57 u58 u59 u60 u61 u62 u63 u64 u65 u66 u67 u68 u69 u70 u71 u72 u73 u74 u75 u76 u77 u78 u79 u80 u81 u82 u83 u84 u85 u86 u87 u88 u89 u90 u91 u92 u93 u94 u95 u96 u97 u98 u99 u100 u101 u102 u103 u104 u105 u106 u107 u108 u109 u110 u111 u112 u113 u114 u115 u116 u117 u118 u119 u120 u121 u122 u123 u124 u125 u126 u127 u128 u129 u130 u131 u132 u133 u134 u135 u136 u137 u138 u139 u140 u141 u142 u143 u144 u145 u146 u147 u148 u149 u150 u151 u152 u153 u154 u155 u156 u157 u158 u159 : Value}
    (hP : PW W0 W v tb lb ab bb n es x p ex l last bef) (hA : PApart v tb lb ab bb) (hsrc : src < n) (hto : to < n) (hne : src ≠ to) (hb : ∀ v, v < n → -1000000000 ≤ gi ex v ∧ gi ex v ≤ 1000000000) (ha : 1 ≤ am ∧ am ≤ 1000000000)
    (hQ : ∀ a w, PW W0 w v tb lb ab bb n es x p ((ex.set src (gi ex src - am)).set to (gi ex to + am)) l last bef →
      FrD 160 [] [(0, .pointer (some ⟨v.S, 0, none⟩)), (1, .int .i64 src), (4, .pointer (some ⟨tb, 0, none⟩)), (5, .int .i64 to), (8, .int .i64 am)] a → Code.wpIn Fence.wide m Try.prog c Q a w) :
    Code.wpIn Fence.wide m Try.prog (.seq (Try.f43.sub [1, 1, 1, 1, 1, 1, 0]) (.seq (Try.f43.sub [1, 1, 1, 1, 1, 1, 1, 0]) c)) Q ⟨#[.pointer (some ⟨v.S, 0, none⟩), .int .i64 src, u2, u3, .pointer (some ⟨tb, 0, none⟩), .int .i64 to, u6, u7, .int .i64 am, u9, u10, u11, u12, u13, u14, u15, u16, u17, u18, u19, u20, u21, u22, u23, u24, u25, u26, u27, u28, u29, u30, u31, u32, u33, u34, u35, u36, u37, u38, u39, u40, u41, u42, u43, u44, u45, u46, u47, u48, u49, u50, u51, u52, u53, u54, u55, u56, u57, u58, u59, u60, u61, u62, u63, u64, u65, u66, u67, u68, u69, u70, u71, u72, u73, u74, u75, u76, u77, u78, u79, u80, u81, u82, u83, u84, u85, u86, u87, u88, u89, u90, u91, u92, u93, u94, u95, u96, u97, u98, u99, u100, u101, u102, u103, u104, u105, u106, u107, u108, u109, u110, u111, u112, u113, u114, u115, u116, u117, u118, u119, u120, u121, u122, u123, u124, u125, u126, u127, u128, u129, u130, u131, u132, u133, u134, u135, u136, u137, u138, u139, u140, u141, u142, u143, u144, u145, u146, u147, u148, u149, u150, u151, u152, u153, u154, u155, u156, u157, u158, u159], []⟩ W := by
  have HQ := Lib.hid hQ; clear hQ
  have s4 := hP.sv.c4
  have le := hP.sv.lene
  have e1 := hP.sv.em.cell (j := src) (by omega)
  have e2 := hP.sv.em.cell (j := to) (by omega)
  have f1 := hP.sv.em.frozen src
  have f2 := hP.sv.em.frozen to
  have hp := Lib.hid ((hP.sete hA (i := src) (by omega) (gi ex src - am)).sete hA (i := to) (by rw [List.length_set]; omega) (gi ex to + am))
  obtain ⟨a1, a2⟩ := hb src hsrc
  obtain ⟨b1, b2⟩ := hb to hto
  obtain ⟨c1, c2⟩ := ha
  have okS := hP.sv.okS.2.2
  have HL := Lib.hid le
  clear hb hP le
  have hne' : to ≠ src := fun e => hne e.symm
  refine wpIn_seq ?_
  conv => arg 4; whnf
  dsimp only
  gi_wp2_with fail
  conv => arg 4; whnf
  gi_wp2_with fail
  exact HQ.out _ _ hp.out (by (refine ⟨rfl, rfl, ?_⟩; repeat (first | exact trivial | refine ⟨rfl, ?_⟩)))
def LoopTurn (W0 : World) (v : Loc) (tb lb ab bb n : Nat) (es : List Ed) (x p ex l : List Int) (last : List Ar) (bef : List Nat) (to : Nat) (fr : List (Nat × Value)) (a : Act) (w : World) : Prop :=
  ∃ (i : Nat) (q : List Int), i ≤ n ∧ (∀ u, u < n → gi q u = if u < i then gi p u + min (gi l u) (gi l to) else gi p u) ∧ PW W0 w v tb lb ab bb n es x q ex l last bef ∧ FrD 160 [] ((136, .slice (some ⟨lb, 0, none⟩) n n) :: (137, .int .i64 n) :: (138, .int .i64 i) :: fr) a
set_option maxHeartbeats 4000000 in
set_option maxRecDepth 100000 in
theorem push_turns {m n tb lb ab bb to : Nat} {es : List Ed} {x p ex l : List Int} {v : Loc} {last : List Ar} {bef : List Nat} {W0 W : World} {Q : Exit → Act → World → Prop} {u1 u2 u3 u6 u7 u8 u9 u10 u11 u12 u13 u14 u15 u16 u17 u18 u19 u20 u21 u22 u23 u24 u25 u26 u27 u28 u29 u30 u31 u32 u33 u34 u35 u36 u37 u38 u39 u40 u41 u42 u43 u44 u45 u46 u47 u48 u49 u50 u51 u52 u53 u54 u55 u56 u57 u58 u59 u60 u61 u62 u63 u64 u65 u66 u67 u68 u69 u70 u71 u72 u73 u74 u75 u76 u77 u78 u79 u80 u81 u82 u83 u84 u85 u86 u87 u88 u89 u90 u91 u92 u93 u94 u95 u96 u97 u98 u99 u100 u101 u102 u103 u104 u105 u106 u107 u108 u109 u110 u111 u112 u113 u114 u115 u116 u117 u118 u119 u120 u121 u122 u123 u124 u125 u126 u127 u128 u129 u130 u131 u132 u133 u134 u135 u136 u137 u138 u139 u140 u141 u142 u143 u144 u145 u146 u147 u148 u149 u150 u151 u152 u153 u154 u155 u156 u157 u158 u159 : Value}
    (hP : PW W0 W v tb lb ab bb n es x p ex l last bef) (hA : PApart v tb lb ab bb) (hn : n ≤ 1000) (hto : to < n) (hl : ∀ v, v < n → 0 ≤ gi l v ∧ gi l v ≤ far) (hpb : ∀ v, v < n → 0 ≤ gi p v ∧ gi p v ≤ 1000000000000)
    (hQ : ∀ a w q, a.defers = [] → (∀ u, u < n → gi q u = gi p u + min (gi l u) (gi l to)) → PW W0 w v tb lb ab bb n es x q ex l last bef → Q .normal a w) :
    Code.wpIn Fence.wide m Try.prog (Try.f43.sub [1, 1, 1, 1, 1, 1, 1, 1]) Q ⟨#[.pointer (some ⟨v.S, 0, none⟩), u1, u2, u3, .pointer (some ⟨tb, 0, none⟩), .int .i64 to, u6, u7, u8, u9, u10, u11, u12, u13, u14, u15, u16, u17, u18, u19, u20, u21, u22, u23, u24, u25, u26, u27, u28, u29, u30, u31, u32, u33, u34, u35, u36, u37, u38, u39, u40, u41, u42, u43, u44, u45, u46, u47, u48, u49, u50, u51, u52, u53, u54, u55, u56, u57, u58, u59, u60, u61, u62, u63, u64, u65, u66, u67, u68, u69, u70, u71, u72, u73, u74, u75, u76, u77, u78, u79, u80, u81, u82, u83, u84, u85, u86, u87, u88, u89, u90, u91, u92, u93, u94, u95, u96, u97, u98, u99, u100, u101, u102, u103, u104, u105, u106, u107, u108, u109, u110, u111, u112, u113, u114, u115, u116, u117, u118, u119, u120, u121, u122, u123, u124, u125, u126, u127, u128, u129, u130, u131, u132, u133, u134, u135, u136, u137, u138, u139, u140, u141, u142, u143, u144, u145, u146, u147, u148, u149, u150, u151, u152, u153, u154, u155, u156, u157, u158, u159], []⟩ W := by
  have HQ := Lib.hid hQ; clear hQ
  have HA := Lib.hid hA; clear hA
  have HL := Lib.hid hl; clear hl
  have HPB := Lib.hid hpb; clear hpb
  have c0 := hP.pm.c0
  show Code.wpIn Fence.wide m Try.prog (.seq (Try.f43.sub [1, 1, 1, 1, 1, 1, 1, 1, 0]) (.block 6 (.loop (Try.f43.sub [1, 1, 1, 1, 1, 1, 1, 1, 1, 0, 0])))) _ _ _
  refine wpIn_seq ?_
  conv => arg 4; whnf
  dsimp only
  have HP0 := Lib.hid hP; clear hP
  gi_wp2_with fail
  refine wpIn_loop (LoopTurn W0 v tb lb ab bb n es x p ex l last bef to [(0, .pointer (some ⟨v.S, 0, none⟩)), (4, .pointer (some ⟨tb, 0, none⟩)), (5, .int .i64 to)]) (fun a _ => n - (intOf (a.tmps.getD 138 undef)).toNat) ⟨0, p, Nat.zero_le _, fun u _ => by simp, HP0.out, by (refine ⟨rfl, rfl, ?_⟩; repeat (first | exact trivial | refine ⟨rfl, ?_⟩))⟩ ?_
  clear HP0 c0 W
  rintro a W ⟨i, q, hi, hq, hP, hfr⟩
  obtain ⟨t, rfl⟩ := hfr.open
  clear hfr
  generalize hmu : n - (intOf ((⟨frL 160 _ t, []⟩ : Act).tmps.getD 138 undef)).toNat = mu
  have hmu' : n - i = mu := by rw [← hmu]; rfl
  clear hmu
  have HQ' := Lib.hid hq; clear hq
  have c0 := hP.pm.c0
  have s3 := hP.sv.c3
  have lt := hP.pm.lc hto
  have lp := hP.sv.lenp
  have HP := Lib.hid hP; clear hP
  show Code.wpIn Fence.wide m Try.prog (.seq (Try.f43.sub [1, 1, 1, 1, 1, 1, 1, 1, 1, 0, 0, 0]) (.seq (Try.f43.sub [1, 1, 1, 1, 1, 1, 1, 1, 1, 0, 0, 1, 0]) (.seq (.block 7 (Try.f43.sub [1, 1, 1, 1, 1, 1, 1, 1, 1, 0, 0, 1, 1, 0, 0])) (Try.f43.sub [1, 1, 1, 1, 1, 1, 1, 1, 1, 0, 0, 1, 1, 1])))) _ ⟨#[.pointer (some ⟨v.S, 0, none⟩), (t 1), (t 2), (t 3), .pointer (some ⟨tb, 0, none⟩), .int .i64 to, (t 6), (t 7), (t 8), (t 9), (t 10), (t 11), (t 12), (t 13), (t 14), (t 15), (t 16), (t 17), (t 18), (t 19), (t 20), (t 21), (t 22), (t 23), (t 24), (t 25), (t 26), (t 27), (t 28), (t 29), (t 30), (t 31), (t 32), (t 33), (t 34), (t 35), (t 36), (t 37), (t 38), (t 39), (t 40), (t 41), (t 42), (t 43), (t 44), (t 45), (t 46), (t 47), (t 48), (t 49), (t 50), (t 51), (t 52), (t 53), (t 54), (t 55), (t 56), (t 57), (t 58), (t 59), (t 60), (t 61), (t 62), (t 63), (t 64), (t 65), (t 66), (t 67), (t 68), (t 69), (t 70), (t 71), (t 72), (t 73), (t 74), (t 75), (t 76), (t 77), (t 78), (t 79), (t 80), (t 81), (t 82), (t 83), (t 84), (t 85), (t 86), (t 87), (t 88), (t 89), (t 90), (t 91), (t 92), (t 93), (t 94), (t 95), (t 96), (t 97), (t 98), (t 99), (t 100), (t 101), (t 102), (t 103), (t 104), (t 105), (t 106), (t 107), (t 108), (t 109), (t 110), (t 111), (t 112), (t 113), (t 114), (t 115), (t 116), (t 117), (t 118), (t 119), (t 120), (t 121), (t 122), (t 123), (t 124), (t 125), (t 126), (t 127), (t 128), (t 129), (t 130), (t 131), (t 132), (t 133), (t 134), (t 135), .slice (some ⟨lb, 0, none⟩) n n, .int .i64 n, .int .i64 i, (t 139), (t 140), (t 141), (t 142), (t 143), (t 144), (t 145), (t 146), (t 147), (t 148), (t 149), (t 150), (t 151), (t 152), (t 153), (t 154), (t 155), (t 156), (t 157), (t 158), (t 159)], []⟩ _
  refine wpIn_seq ?_
  conv => arg 4; whnf
  dsimp only
  by_cases hlt : i < n
  · have li := HP.out.pm.lc hlt
    have pi := HP.out.sv.tu.cell (j := i) (by omega)
    have pf := HP.out.sv.tu.frozen i
    have hqi := HQ'.out i hlt
    rw [if_neg (by omega)] at hqi
    rw [hqi] at pi
    clear hqi
    obtain ⟨l1, l2⟩ := HL.out i hlt
    obtain ⟨m1, m2⟩ := HL.out to hto
    obtain ⟨p1, p2⟩ := HPB.out i hlt
    unfold far at l2 m2
    have FIN : ∀ (a : Act) (k : Nat) (z : Int), z = gi p i + min (gi l i) (gi l to) → FrD 160 [] ((136, .slice (some ⟨lb, 0, none⟩) n n) :: (137, .int .i64 n) :: (138, .int .i64 ((i : Int) + 1)) :: [(0, .pointer (some ⟨v.S, 0, none⟩)), (4, .pointer (some ⟨tb, 0, none⟩)), (5, .int .i64 to)]) a →
        (LoopTurn W0 v tb lb ab bb n es x p ex l last bef to [(0, .pointer (some ⟨v.S, 0, none⟩)), (4, .pointer (some ⟨tb, 0, none⟩)), (5, .int .i64 to)] a ((W.drewN k).setCell ⟨v.p, i, none⟩ (.int .i64 z)) ∧ n - (intOf (a.tmps.getD 138 undef)).toNat < mu) := by
      intro a k z hz hfr
      refine ⟨⟨i + 1, q.set i z, by omega, fun u hu => ?_, (HP.out.drewN k).setp HA.out (by omega) z, hfr⟩, ?_⟩
      · rw [gi_set _ _ _ _ (by omega)]
        by_cases e : i = u
        · subst e; rw [if_pos rfl, if_pos (by omega)]; exact hz
        · rw [if_neg e, HQ'.out u hu]
          by_cases e2 : u < i
          · rw [if_pos e2, if_pos (by omega)]
          · rw [if_neg e2, if_neg (by omega)]
      · rw [hfr.2.2.2.2.1]
        show n - ((i : Int) + 1).toNat < mu
        omega
    have HFIN := Lib.hid FIN; clear FIN
    have HLP := Lib.hid lp; clear lp
    have hbn : ¬ (n ≤ i) := by omega
    have hbt : ¬ (n ≤ to) := by omega
    have plt : v.p < W.heap.size := World.block_lt_of_cell? _ _ pi
    by_cases hmn : gi l to < gi l i
    all_goals
      gi_wp2_with fail
      conv => arg 4; whnf
      gi_wp2_with fail
      conv => arg 4; whnf
      gi_wp2_with fail
      refine regionIn_last (.inl rfl) (by kernel_rfl) (by kernel_rfl) (by kernel_rfl) cut_last (by kernel_rfl) (by kernel_rfl) (by kernel_rfl) ?_
      dsimp only [List.dropLast, List.getLast]
      repeat (go_big_quiet_step (fail))
      refine wpQuiet_nil ?_
    · refine ⟨fun w => w.setCell ⟨v.p, i, none⟩ (.int .i64 (gi p i + gi l to)), fun q => ?_, fun q => ?_⟩
      · unfold execOp
        go_simp
      dsimp only [Exit.then]
      conv => arg 4; whnf
      gi_wp2_with fail
      conv => arg 4; whnf
      gi_wp2_with fail
      refine HFIN.out _ q _ (by omega) ?_
      (refine ⟨rfl, rfl, ?_⟩; repeat (first | exact trivial | refine ⟨rfl, ?_⟩))
    · refine ⟨fun w => w.setCell ⟨v.p, i, none⟩ (.int .i64 (gi p i + gi l i)), fun q => ?_, fun q => ?_⟩
      · unfold execOp
        go_simp
      dsimp only [Exit.then]
      conv => arg 4; whnf
      gi_wp2_with fail
      conv => arg 4; whnf
      gi_wp2_with fail
      refine HFIN.out _ q _ (by omega) ?_
      (refine ⟨rfl, rfl, ?_⟩; repeat (first | exact trivial | refine ⟨rfl, ?_⟩))
  · gi_wp2_with fail
    conv => arg 4; whnf
    gi_wp2_with fail
    have : i = n := by omega
    subst this
    refine HQ.out _ _ q rfl (fun u hu => ?_) HP.out
    rw [HQ'.out u hu, if_pos hu]
end Go.Proofs.Ytjnpchoinncbnaa
end

section
set_option linter.unusedSimpArgs false
set_option linter.unusedVariables false
namespace Go.Proofs.Ytjnpchoinncbnaa
open Go.RowKit Sw Fam
theorem inv_ex_bound {n J : Nat} {es : List Ed} {x p ex : List Int} {D : Int} (hg : Gd n J es) (h : Inv n J es x p ex D) (v : Nat) (hv : v < n) : -1000000000 ≤ gi ex v ∧ gi ex v ≤ 1000000000 := by
  have h1 := netk_bound hg (Nat.le_refl es.length) (x := x) (fun i hi => (h.fits i hi).1) v
  have h2 : netk es x es.length v = net es x v := rfl
  rw [h2, ← h.exq v hv] at h1
  have := hg.m_le
  omega
theorem MinK.sel {n J : Nat} {es : List Ed} {x p ex : List Int} {D : Int} {src : Nat} {l : List Int} {last : List Ar} {bef : List Nat} {rk : Nat → Nat}
    (hg : Gd n J es) (h : Inv n J es x p ex D) (T : Tour n es x p src l last bef rk) (hs : src < n) (hpos : 0 < gi ex src) {k : Int} (hk : MinK n l (full ex) n k) : ∃ to : Nat, k = to ∧ Sel n ex l to := by
  have hlen := h.lenex
  obtain ⟨u, u1, u2, u3⟩ := reach hg h T hs hpos
  have hfu : ∀ v, v < n → (gb (full ex) v = false ↔ gi ex v < 0) := fun v hv => by
    rw [gb_full (by omega)]; simp
  have hk0 : 0 ≤ k := by
    apply Classical.byContradiction
    intro hn
    exact hk.none (by have := hk.lo; omega) u u1 ((hfu u u1).2 u2) u3
  obtain ⟨m1, m2, m3⟩ := hk.some hk0
  have hlt : k.toNat < n := by have := hk.hi; omega
  exact ⟨k.toNat, by omega, hlt, (hfu _ hlt).1 m1, m2, fun v hv hn hl => m3 v hv ((hfu v hv).2 hn) hl⟩
theorem tch_any {S : List Nat} {W w : World} (h : Below W.heap.size W w) : Tch S W w := ⟨h.os, h.tape, h.output, h.size, fun b hb _ => h.block b hb⟩
def PushPost (n J : Nat) (es : List Ed) (v : Loc) (ex : List Int) (W : World) (e : Ending) (w' : World) : Prop :=
  e = .returned (.tuple #[]) ∧ Tch [v.x, v.p, v.e] W w' ∧ ∃ x' p' ex' D', SvM w' v n es x' p' ex' ∧ Inv n J es x' p' ex' D' ∧ pos n ex' < pos n ex
set_option maxHeartbeats 4000000 in
set_option maxRecDepth 100000 in
theorem push_c {n J : Nat} {es : List Ed} (hg : Gd n J es) {x p ex : List Int} {D : Int} {v : Loc} {W : World} (hI : Inv n J es x p ex D) (hS : SvM W v n es x p ex) {src : Nat} (hs : src < n) (hpos : 0 < gi ex src) :
    Calls Try.prog 43 #[.pointer (some ⟨v.S, 0, none⟩), .int .i64 src] W (PushPost n J es v ex W) := by
  refine callsIn_wide.1 (callsIn_of_wp_marks (n := 0) Try.func43 rfl trivial ?_ rfl)
  simp only [Try.ntmps43, List.size_toArray, List.length_cons, List.length_nil, Nat.reduceAdd, Nat.reduceSub, Array.replicate_succ, Array.replicate_zero, List.push_toArray, List.append_toArray, List.nil_append, List.cons_append]
  have hw := ways_c hg hI.fits hS (fun i hi => by have := hI.p_le hg i hi; omega) hs
  have HW := Lib.hid hw; clear hw
  have HG := Lib.hid hg; clear hg
  have HI := Lib.hid hI; clear hI
  have HS := Lib.hid hS; clear hS
  have hnn := HG.out.n_le
  show Code.wpIn Fence.wide 0 Try.prog (.seq (Try.f43.sub [0]) (.seq (Try.f43.sub [1, 0]) (.seq (Try.f43.sub [1, 1, 0]) (.seq (Try.f43.sub [1, 1, 1, 0]) (.seq (Try.f43.sub [1, 1, 1, 1, 0]) (.seq (Try.f43.sub [1, 1, 1, 1, 1, 0]) (.seq (Try.f43.sub [1, 1, 1, 1, 1, 1, 0]) (.seq (Try.f43.sub [1, 1, 1, 1, 1, 1, 1, 0]) (Try.f43.sub [1, 1, 1, 1, 1, 1, 1, 1]))))))))) _ _ _
  refine wpIn_seq ?_
  conv => arg 4; whnf
  gi_wp2_with fail
  refine ⟨trivial, rfl, (callsIn_wide.2 HW.out).mono ?_⟩
  rintro e W1 ⟨lb, ab, bb, l, last, bef, rk, rfl, hB1, g1, g2, g3, hl, ha, hb, T⟩
  have HB1 := Lib.hid hB1
  have HM := Lib.hid (And.intro hl (And.intro ha (And.intro hb T)))
  have llt : lb < W1.heap.size := hl.lt
  have alt : ab < W1.heap.size := FlB.lt ha
  have blt : bb < W1.heap.size := hb.lt
  clear hl ha hb T hB1
  gi_wp2_with fail
  conv => arg 4; whnf
  gi_wp2_with fail
  refine nameW ?_
  intro W2 hW2
  have htb : W2.heap[W1.heap.size]? = some (.cells #[.slice (some ⟨lb, 0, none⟩) n n, .slice (some ⟨ab, 0, none⟩) n n, .slice (some ⟨bb, 0, none⟩) n n] 96 (0, 0)) := by
    rw [hW2]; exact heap_alloc_new W1 _
  have hB12 : Below W1.heap.size W1 W2 := by rw [hW2]; exact (Below.refl _ _).alloc (Nat.le_refl _) _
  clear hW2
  obtain ⟨hl, ha, hb, T⟩ := HM.out
  have hS2 := (HS.out.keep HB1.out).keep hB12
  have hT : PMem W2 W1.heap.size lb ab bb n l last bef := ⟨htb, hl.keep hB12, FlB.keep ha hB12, hb.keep hB12, T.len1, T.len2, T.len3⟩
  have hWW : W.heap.size ≤ W1.heap.size := HB1.out.size
  have hPW : PW W W2 v W1.heap.size lb ab bb n es x p ex l last bef := ⟨hS2, hT, tch_any (HB1.out.trans (hB12.mono hWW))⟩
  have xlt := HS.out.fl.lt
  have plt := HS.out.tu.lt
  have elt := HS.out.em.lt
  have hA : PApart v W1.heap.size lb ab bb := by
    refine ⟨⟨?_, ?_, ?_, ?_⟩, ⟨?_, ?_, ?_, ?_⟩, ⟨?_, ?_, ?_, ?_⟩⟩ <;> omega
  have hexb := inv_ex_bound HG.out HI.out
  rename_i K1 hK1
  refine push_find (src := src) hT hS2 (by omega) ?_
  intro a3 k hk hf3
  obtain ⟨to, rfl, hsel⟩ := hk.sel HG.out HI.out T hs hpos
  obtain ⟨t3, rfl⟩ := hf3.open
  refine hK1 _ _ ?_
  refine wpIn_seq ?_
  refine push_amount (tb := W1.heap.size) hS2 hs hsel.lt hexb ?_
  intro a4 q4 am0 ham0 hf4
  obtain ⟨t4, rfl⟩ := hf4.open
  have hneg := hsel.neg
  have hto := hsel.lt
  have b1 := hexb src hs
  have hPW4 := hPW.drewN q4
  refine wpIn_seq ?_
  refine push_room HG.out hPW4.pm T HI.out.fits hto hsel.fin ⟨by omega, by omega⟩ ?_
  intro a5 K am hBk hK hm1 hm2 hro hf5
  obtain ⟨t5, rfl⟩ := hf5.open
  refine wpIn_seq ?_
  refine push_flow HG.out hPW4 hA T HI.out.fits hBk hK ⟨hm1, by omega⟩ ?_
  intro a6 W6 y hFl hPW6 hf6
  obtain ⟨t6, rfl⟩ := hf6.open
  have hne : src ≠ to := fun e => by subst e; omega
  refine push_extra hPW6 hA hs hto hne hexb ⟨hm1, by omega⟩ ?_
  intro a7 W7 hPW7 hf7
  obtain ⟨t7, rfl⟩ := hf7.open
  refine push_turns hPW7 hA (by omega) hto T.lo (fun i hi => by have := HI.out.p_le HG.out i hi; omega) ?_
  intro a8 W8 q hd hq hPW8
  show LeavesInM Fence.wide 0 Try.prog _ a8.tmps _ a8.defers .returning W8
  rw [hd]
  obtain ⟨hinv, hpos'⟩ := push_inv HG.out HI.out T hs hpos hsel hm1 (by omega) (by omega) hBk hK hro hFl (by have := hPW8.sv.lenp; omega) hq
  exact ⟨.tuple #[], by simp [results, Try.results43, go_sem], rfl, hPW8.tch, _, _, _, _, hPW8.sv, hinv, hpos'⟩
end Go.Proofs.Ytjnpchoinncbnaa
end

section
set_option linter.unusedSimpArgs false
set_option linter.unusedVariables false
namespace Go.Proofs.Ytjnpchoinncbnaa
open Go.RowKit Sw Fam
structure GrF {α : Type} (enc : α → List Value) (e : TypeId) (k : Nat) (w : World) (B : Nat) (A : Option Addr) (c : Nat) (xs : List α) : Prop where
  le : xs.length ≤ c
  cm : c ≤ maxLen
  non : A = none → c = 0
  at_ : ∀ a, A = some a → ∃ b o cs, a = ⟨b, o, none⟩ ∧ B ≤ b ∧ w.heap[b]? = some (.cells cs e (0, 0)) ∧ o + c * k ≤ cs.size ∧ ∀ j u, (xs.flatMap enc)[j]? = some u → cs[o + j]? = some u
section
variable {α : Type} {enc : α → List Value} {e : TypeId} {k : Nat} {w : World} {B : Nat} {A : Option Addr} {c : Nat} {xs : List α}
theorem GrF.start (w : World) (B : Nat) : GrF enc e k w B none 0 [] := ⟨Nat.le_refl _, Nat.zero_le _, fun _ => rfl, fun a h => by cases h⟩
theorem GrF.move {w' : World} (h : GrF enc e k w B A c xs) (hm : ∀ b, A.map (·.block) = some b → w'.heap[b]? = w.heap[b]?) : GrF enc e k w' B A c xs :=
  ⟨h.le, h.cm, h.non, fun a ha => by
    obtain ⟨b, o, cs, h1, h2, h3, h4⟩ := h.at_ a ha
    exact ⟨b, o, cs, h1, h2, (hm b (by rw [ha, h1]; rfl)).trans h3, h4⟩⟩
theorem GrF.lt (h : GrF enc e k w B A c xs) {b : Nat} (hb : A.map (·.block) = some b) : B ≤ b ∧ b < w.heap.size := by
  cases A with
  | none => cases hb
  | some a =>
    obtain ⟨b', o, cs, h1, h2, h3, h4⟩ := h.at_ a rfl
    subst h1
    obtain rfl : b' = b := by simpa using hb
    exact ⟨h2, (Array.getElem?_eq_some_iff.1 h3).1⟩
theorem GrF.block (h : GrF enc e k w B A c xs) {b : Nat} (hb : A.map (·.block) = some b) : ∃ cs, w.heap[b]? = some (.cells cs e (0, 0)) := by
  cases A with
  | none => cases hb
  | some a =>
    obtain ⟨b', o, cs, h1, h2, h3, h4⟩ := h.at_ a rfl
    subst h1
    obtain rfl : b' = b := by simpa using hb
    exact ⟨cs, h3⟩
theorem GrF.keep {w' : World} (h : GrF enc e k w B A c xs) (hb : Below w.heap.size w w') : GrF enc e k w' B A c xs := h.move fun b hm => hb.block b (h.lt hm).2
theorem GrF.drewN (h : GrF enc e k w B A c xs) (n : Nat) : GrF enc e k (w.drewN n) B A c xs := h.move fun _ _ => rfl
theorem GrF.other (h : GrF enc e k w B A c xs) {b i : Nat} (hb : A.map (·.block) ≠ some b) (u : Value) : GrF enc e k (w.setCell ⟨b, i, none⟩ u) B A c xs :=
  h.move fun b' hm => Below.heap_setCell _ _ _ _ (fun e => hb (by rw [hm]; exact congrArg some e))
theorem GrF.low {B' : Nat} (h : GrF enc e k w B A c xs) (hb : B' ≤ B) : GrF enc e k w B' A c xs :=
  ⟨h.le, h.cm, h.non, fun a ha => by
    obtain ⟨b, o, cs, h1, h2, h3⟩ := h.at_ a ha
    exact ⟨b, o, cs, h1, Nat.le_trans hb h2, h3⟩⟩
theorem GrF.cell (hk : ∀ x, (enc x).length = k) (h : GrF enc e k w B A c xs) {j i : Nat} (hi : i < k) (hj : j < xs.length) : ∃ b o, A = some ⟨b, o, none⟩ ∧ B ≤ b ∧ w.cell? ⟨b, o + j * k + i, none⟩ = (enc xs[j])[i]? := by
  cases hA : A with
  | none => have := h.non hA; have := h.le; omega
  | some a =>
    obtain ⟨b, o, cs, h1, h2, h3, h4, h5⟩ := h.at_ a hA
    subst h1
    refine ⟨b, o, rfl, h2, ?_⟩
    have h6 := flat_get hk xs j i hi hj
    have hlt : i < (enc xs[j]).length := by rw [hk]; exact hi
    rw [List.getElem?_eq_getElem hj, Option.bind_some, List.getElem?_eq_getElem hlt] at h6
    have h7 := h5 _ _ h6
    rw [List.getElem?_eq_getElem hlt]
    simp [World.cell?, h3, Nat.add_assoc, h7]
theorem run_append_gr {P : Program} {t ty : TypeId} {i : TypeInfo} {z : Value} {bytes : Nat} (ht : P.underlying t = some (.slice e)) (hi : P.info? e = some i) (hz : i.zero = some z) (hsz : i.size = k) (hby : i.bytes = bytes) (hzs : z.cells.size = k)
    (hk : ∀ x, (enc x).length = k) (h1 : ∀ x, ∀ u ∈ enc x, u.oneCell' = true) (h : GrF enc e k w B A c xs) (ys : List α) (src : Addr) (c2 : Nat) (hnews : ∀ j u, (ys.flatMap enc)[j]? = some u → w.cell? (src.add j) = some u)
    (hy : 0 < ys.length) (hlen : xs.length + ys.length ≤ 1000000) (hb : bytes ≤ 1000) (hB : B ≤ w.heap.size) :
    ∃ A' c' w', (Builtin.append_ #[t, t] ty #[.slice A xs.length c, .slice (some src) ys.length c2]).run P w = .ok (.slice A' (xs.length + ys.length) c') w' ∧ GrF enc e k w' B A' c' (xs ++ ys) ∧ w.grownBy w' (A.map (·.block)) ∧
      ∃ a', A' = some a' ∧ (A = some a' ∨ a'.block = w.heap.size) := by
  have hm : xs.length + ys.length ≤ maxLen := by simp only [maxLen]; omega
  have hnl := flat_len hk ys
  have hbytes : (xs.length + ys.length) * bytes ≤ 140737488355328 := Nat.le_trans (Nat.mul_le_mul hlen hb) (by decide)
  have hxx : (xs ++ ys).flatMap enc = xs.flatMap enc ++ ys.flatMap enc := List.flatMap_append
  subst hsz hby
  have h1' : ∀ u ∈ ys.flatMap enc, u.oneCell' = true := fun u hu => by
    obtain ⟨x, _, hx⟩ := List.mem_flatMap.1 hu
    exact h1 x u hx
  have grown : ∀ (old : Nat) (row : Option Nat),
      GrF enc e i.size (w.drew.alloc (.cells ((xs.flatMap enc).toArray ++ (ys.flatMap enc).toArray ++ Builtin.zeroCells z.cells (grownCap w (xs.length + ys.length) old e - (xs.length + ys.length))) e)) B
        (some ⟨w.heap.size, 0, none⟩) (grownCap w (xs.length + ys.length) old e) (xs ++ ys) ∧
      w.grownBy (w.drew.alloc (.cells ((xs.flatMap enc).toArray ++ (ys.flatMap enc).toArray ++ Builtin.zeroCells z.cells (grownCap w (xs.length + ys.length) old e - (xs.length + ys.length))) e)) row := by
    intro old row
    have hge := grownCap_ge w (xs.length + ys.length) old e
    refine ⟨⟨by rw [List.length_append]; exact hge, grownCap_le_maxLen w _ old e hm, fun h => (by cases h), fun a ha => ?_⟩, ⟨rfl, rfl, rfl, by simp, fun k hk _ => Below.heap_alloc w.drew _ k hk⟩⟩
    cases ha
    refine ⟨w.heap.size, 0, _, rfl, hB, heap_alloc_new w.drew _, ?_, fun j u hj => ?_⟩
    · simp only [Array.size_append, List.size_toArray, size_zeroCells, hzs, flat_len hk, ← Nat.add_mul, Nat.zero_add]
      exact Nat.mul_le_mul_right _ (by omega)
    · rw [hxx] at hj
      have hlt := (List.getElem?_eq_some_iff.1 hj).1
      rw [Nat.zero_add, Array.getElem?_append_left (by simpa using hlt)]
      simpa using hj
  cases hA : A with
  | none =>
    have hc := h.non hA
    have hx : xs = [] := List.eq_nil_of_length_eq_zero (by have := h.le; omega)
    subst hx
    subst hc
    have hr := run_append_nil (P := P) w t ty e i z ht hi hz src ys.length c2 _ hnl hnews hy (by omega) (by simp only [List.length_nil, Nat.zero_add] at hbytes; omega)
    have hgr := grown 0 none
    simp only [List.length_nil, Nat.zero_add, List.flatMap_nil, List.nil_append, Array.empty_append] at hgr ⊢
    exact ⟨_, _, _, hr, hgr.1, hgr.2, _, rfl, .inr rfl⟩
  | some a =>
    obtain ⟨b, o, cs, rfl, hBb, hcs, hoc, hcc⟩ := h.at_ a hA
    by_cases hroom : xs.length + ys.length ≤ c
    · have hmul : xs.length * i.size + ys.length * i.size ≤ c * i.size := by rw [← Nat.add_mul]; exact Nat.mul_le_mul_right _ hroom
      have hr := run_append_room_cells (P := P) w t ty e i ht hi b o xs.length c src ys.length c2 _ hnl hnews h1' hroom
        (fun j hj => by simp [World.cell?, hcs]; omega) (fun j hj => by simp [World.frozen?, hcs])
      have hblk : ∀ (vs : List Value) (off : Nat) (cs : Array Value) (w : World), w.heap[b]? = some (.cells cs e (0, 0)) → off + vs.length ≤ cs.size →
          ∃ cs', (w.setCells b off vs).heap[b]? = some (.cells cs' e (0, 0)) ∧ cs'.size = cs.size ∧ (∀ j, j < off → cs'[j]? = cs[j]?) ∧ ∀ j u, vs[j]? = some u → cs'[off + j]? = some u := by
        intro vs
        induction vs with
        | nil => intro off cs w hw _; exact ⟨cs, hw, rfl, fun _ _ => rfl, fun j u hj => by simp at hj⟩
        | cons v vs ih =>
          intro off cs w hw hs
          simp only [List.length_cons] at hs
          rw [World.setCells]
          obtain ⟨cs', g1, g2, g3, g4⟩ := ih (off + 1) _ _ (heap_setCell_same w b off cs e v hw) (by simp; omega)
          refine ⟨cs', g1, by simpa using g2, fun j hj => ?_, fun j u hj => ?_⟩
          · rw [g3 j (by omega), Array.getElem?_setIfInBounds_ne (by omega)]
          · cases j with
            | zero =>
              simp only [List.getElem?_cons_zero, Option.some.injEq] at hj
              subst hj
              rw [Nat.add_zero, g3 off (by omega)]
              simp [Array.getElem?_setIfInBounds, show off < cs.size by omega]
            | succ j =>
              rw [show off + (j + 1) = off + 1 + j by omega]
              exact g4 j u (by simpa using hj)
      obtain ⟨cs', g1, g2, g3, g4⟩ := hblk (ys.flatMap enc) (o + xs.length * i.size) cs w hcs (by rw [hnl]; omega)
      refine ⟨_, _, _, hr, ⟨by rw [List.length_append]; exact hroom, h.cm, fun h => (by cases h), fun a ha => ?_⟩, ⟨?_, ?_, ?_, ?_, ?_⟩, _, rfl, .inl rfl⟩
      · cases ha
        refine ⟨b, o, cs', rfl, hBb, g1, by rw [g2]; exact hoc, fun j u hj => ?_⟩
        rw [hxx] at hj
        by_cases hjl : j < (xs.flatMap enc).length
        · rw [List.getElem?_append_left hjl] at hj
          rw [g3 (o + j) (by rw [flat_len hk] at hjl; omega)]
          exact hcc j u hj
        · rw [List.getElem?_append_right (by omega)] at hj
          have := g4 _ u hj
          rw [flat_len hk] at this hjl
          rwa [show o + xs.length * i.size + (j - xs.length * i.size) = o + j by omega] at this
      all_goals first
        | exact (Tch.sets (S := [b]) (.inl (by simp)) _ _ _ (Tch.refl _ _)).os
        | exact (Tch.sets (S := [b]) (.inl (by simp)) _ _ _ (Tch.refl _ _)).tape
        | exact (Tch.sets (S := [b]) (.inl (by simp)) _ _ _ (Tch.refl _ _)).output
        | exact (Tch.sets (S := [b]) (.inl (by simp)) _ _ _ (Tch.refl _ _)).size
        | exact fun q hq hne => (Tch.sets (S := [b]) (.inl (by simp)) _ _ _ (Tch.refl _ w)).block q hq (by simp; intro e; subst e; exact hne rfl)
    · have holds : ∀ j u, (xs.flatMap enc)[j]? = some u → w.cell? ((⟨b, o, none⟩ : Addr).add j) = some u := fun j u hj => by
        have := hcc j u hj
        simp [World.cell?, Addr.add_lit, hcs, this]
      have hr := run_append_grow (P := P) w t ty e i z ht hi hz ⟨b, o, none⟩ xs.length c _ (flat_len hk xs) holds src ys.length c2 _ hnl hnews (by omega) (by omega) (growslice_fits (by omega) hbytes)
      have hgr := grown c ((some (⟨b, o, none⟩ : Addr)).map (·.block))
      exact ⟨_, _, _, hr, hgr.1, hgr.2, _, rfl, .inr rfl⟩
theorem GrF.tail {x : α} (hk : ∀ x, (enc x).length = k) {b o : Nat} (h : GrF enc e k w B (some ⟨b, o, none⟩) c (x :: xs)) : GrF enc e k w B (some (if c = 1 then ⟨b, o, none⟩ else ⟨b, o + k, none⟩)) (c - 1) xs := by
  have hl := h.le
  rw [List.length_cons] at hl
  obtain ⟨b', o', cs, h1, h2, h3, h4, h5⟩ := h.at_ _ rfl
  cases h1
  by_cases hc : c = 1
  · subst hc
    have hx : xs = [] := List.eq_nil_of_length_eq_zero (by omega)
    subst hx
    refine ⟨by simp, by have := h.cm; omega, fun h => (by cases h), fun a ha => ?_⟩
    rw [if_pos rfl] at ha
    cases ha
    exact ⟨b, o, cs, rfl, h2, h3, by omega, fun j u hj => by simp at hj⟩
  · refine ⟨by omega, by have := h.cm; omega, fun h => (by cases h), fun a ha => ?_⟩
    rw [if_neg hc] at ha
    cases ha
    refine ⟨b, o + k, cs, rfl, h2, h3, ?_, fun j u hj => ?_⟩
    · have : (c - 1) * k + k = c * k := by
        obtain ⟨d, rfl⟩ : ∃ d, c = d + 1 := ⟨c - 1, by omega⟩
        rw [Nat.add_sub_cancel, Nat.succ_mul]
      omega
    · have := h5 (k + j) u (by rw [List.flatMap_cons, List.getElem?_append_right (by rw [hk]; omega), hk, Nat.add_sub_cancel_left]; exact hj)
      rwa [Nat.add_assoc]
end
abbrev GrI (w : World) (B : Nat) (A : Option Addr) (c : Nat) (xs : List Int) : Prop := GrF encI 3 1 w B A c xs
theorem GrI.cell {w : World} {B : Nat} {A : Option Addr} {c : Nat} {xs : List Int} (h : GrI w B A c xs) {j : Nat} (hj : j < xs.length) : ∃ b o, A = some ⟨b, o, none⟩ ∧ B ≤ b ∧ w.cell? ⟨b, o + j, none⟩ = some (.int .i64 (gi xs j)) := by
  obtain ⟨b, o, h1, h2, h3⟩ := GrF.cell encI_len h (j := j) (i := 0) (by omega) hj
  refine ⟨b, o, h1, h2, ?_⟩
  rw [Nat.mul_one, Nat.add_zero] at h3
  rw [h3]
  simp [encI, gi, hj]
theorem GrI.rd {w : World} {B : Nat} {A : Option Addr} {c : Nat} {xs : List Int} (h : GrI w B A c xs) : RdI w A xs := fun j hj => by
  obtain ⟨b, o, h1, _, h3⟩ := GrI.cell h hj
  exact ⟨b, o, h1, h3⟩
theorem run_append_int {w : World} {B : Nat} {A : Option Addr} {c : Nat} {xs : List Int} (h : GrI w B A c xs) (ty : TypeId) (x : Int) (s c2 : Nat) (hs : w.cell? ⟨s, 0, none⟩ = some (.int .i64 x)) (hlen : xs.length < 1000000) (hB : B ≤ w.heap.size) :
    ∃ A' c' w', (Builtin.append_ #[22, 22] ty #[.slice A xs.length c, .slice (some ⟨s, 0, none⟩) 1 c2]).run Try.prog w = .ok (.slice A' (xs.length + 1) c') w' ∧ GrI w' B A' c' (xs ++ [x]) ∧ w.grownBy w' (A.map (·.block)) ∧
      ∃ a', A' = some a' ∧ (A = some a' ∨ a'.block = w.heap.size) := by
  have hinfo := infoInt
  obtain ⟨i, hi, hzz⟩ := Option.map_eq_some_iff.1 hinfo
  simp only [Prod.mk.injEq] at hzz
  obtain ⟨hz, hsz, hby⟩ := hzz
  exact run_append_gr (P := Try.prog) Try.underlying22 hi hz hsz hby rfl encI_len (fun x u hu => by simp [encI] at hu; subst hu; rfl) h [x] ⟨s, 0, none⟩ c2 (fun j u hj => by
    have : j = 0 := by
      have := (List.getElem?_eq_some_iff.1 hj).1
      simp [encI] at this; exact this
    subst this
    have e : (⟨s, 0, none⟩ : Addr).add 0 = ⟨s, 0, none⟩ := by simp [Addr.add]
    rw [e, hs]
    simpa [encI] using hj) (by simp) (by simp only [List.length_cons, List.length_nil]; omega) (by decide) hB
theorem wpList_append_int {w : World} {B : Nat} {A : Option Addr} {c : Nat} {xs : List Int} {ops : Array Oper} {rest : List Oper} {o : Oper} {a : Act} {Q : Exit → Act → World → Prop} (hgd : o.guard = none) (s x : Operand)
    (ho : o.op = .call { callee := .builtin .append, args := #[s, x], argTypes := #[22, 22] }) (h : GrI w B A c xs) (y : Int) (sb c2 : Nat) (hs : a.eval s = .slice A xs.length c) (hx : a.eval x = .slice (some ⟨sb, 0, none⟩) 1 c2)
    (hc : w.cell? ⟨sb, 0, none⟩ = some (.int .i64 y)) (hlen : xs.length < 1000000) (hB : B ≤ w.heap.size)
    (hk : ∀ A' c' w', GrI w' B A' c' (xs ++ [y]) → w.grownBy w' (A.map (·.block)) → (∃ a', A' = some a' ∧ (A = some a' ∨ a'.block = w.heap.size)) → wpList Try.prog ops Q rest (a.put o.dst (.slice A' (xs.length + 1) c')) w') : wpList Try.prog ops Q (o :: rest) a w := by
  refine wpList_plain hgd fun K hK => ?_
  obtain ⟨A', c', w', hr, h2, h3, h4⟩ := run_append_int h o.type y sb c2 hc hlen hB
  unfold Oper.wp execOp
  simp only [ho, resolve, invoke, builtin, Sem.run_bind, Sem.run_pure, Result.andThen_ok, List.map_toArray, List.map_cons, List.map_nil, hs, hx, hr]
  exact hK _ _ (hk A' c' w' h2 h3 h4)
end Go.Proofs.Ytjnpchoinncbnaa
end

section
set_option linter.unusedSimpArgs false
namespace Sw
def Nb (es : List Ed) (u v : Nat) : Prop := ∃ i, i < es.length ∧ 0 < (ge es i).k ∧ (((ge es i).f = u ∧ (ge es i).t = v) ∨ ((ge es i).t = u ∧ (ge es i).f = v))
theorem Nb.symm {es : List Ed} {u v : Nat} (h : Nb es u v) : Nb es v u := by
  obtain ⟨i, hi, hk, h⟩ := h
  exact ⟨i, hi, hk, h.elim (fun ⟨a, b⟩ => .inr ⟨b, a⟩) (fun ⟨a, b⟩ => .inl ⟨b, a⟩)⟩
theorem Nb.cn {es : List Ed} {u v : Nat} (h : Nb es u v) : Cn es u v := by
  obtain ⟨i, hi, hk, ⟨rfl, rfl⟩ | ⟨rfl, rfl⟩⟩ := h
  · exact Cn.fw i hi hk (.refl _)
  · exact Cn.bw i hi hk (.refl _)
def vis (out : List Int) (g : Int) (b : Nat) : List Int := if gi out b < 0 then out.set b g else out
def visq (out : List Int) (b : Nat) (q : List Int) : List Int := if gi out b < 0 then q ++ [(b : Int)] else q
def visit (g : Int) (s : List Int × List Int) (b : Nat) : List Int × List Int := (vis s.1 g b, visq s.1 b s.2)
def unl (out : List Int) : Nat := out.countP fun x => decide (x < 0)
theorem unl_set : ∀ (out : List Int) (b : Nat) (g : Int), b < out.length → gi out b < 0 → 0 ≤ g → unl (out.set b g) + 1 = unl out := by
  intro out
  induction out with
  | nil => intro b g hb; simp at hb
  | cons x out ih =>
    intro b g hb hn hg
    cases b with
    | zero =>
      have : x < 0 := by simpa [gi] using hn
      simp [unl, this, show ¬ g < 0 by omega]
    | succ b =>
      have := ih b g (by simpa using hb) (by simpa [gi] using hn) hg
      simp only [unl, List.set_cons_succ, List.countP_cons] at this ⊢
      omega
theorem visit_fold {g : Int} (hg : 0 ≤ g) {n : Nat} : ∀ (l : List Nat) (out q : List Int), out.length = n → (∀ b, b ∈ l → b < n) →
    (l.foldl (visit g) (out, q)).1.length = n ∧
    (∀ v, v < n → gi (l.foldl (visit g) (out, q)).1 v = if gi out v < 0 ∧ v ∈ l then g else gi out v) ∧
    (∀ x, x ∈ (l.foldl (visit g) (out, q)).2 ↔ x ∈ q ∨ ∃ v, v ∈ l ∧ x = (v : Int) ∧ gi out v < 0) ∧
    unl (l.foldl (visit g) (out, q)).1 + (l.foldl (visit g) (out, q)).2.length = unl out + q.length := by
  intro l
  induction l with
  | nil => intro out q h _; simp [h]
  | cons b l ih =>
    intro out q h hl
    have hb := hl b (List.mem_cons_self ..)
    rw [List.foldl_cons]
    by_cases hneg : gi out b < 0
    · have e : visit g (out, q) b = (out.set b g, q ++ [(b : Int)]) := by unfold visit vis visq; simp only; rw [if_pos hneg, if_pos hneg]
      rw [e]
      obtain ⟨h1, h2, h3, h4⟩ := ih (out.set b g) (q ++ [(b : Int)]) (by rw [List.length_set]; exact h) (fun x hx => hl x (List.mem_cons_of_mem _ hx))
      have hs : ∀ v, gi (out.set b g) v = if b = v then g else gi out v := fun v => gi_set _ _ _ _ (by omega)
      refine ⟨h1, fun v hv => ?_, fun x => ?_, ?_⟩
      · rw [h2 v hv, hs v]
        by_cases e : b = v
        · subst e
          rw [if_pos rfl, if_neg (fun hh : g < 0 ∧ b ∈ l => by omega), if_pos ⟨hneg, List.mem_cons_self ..⟩]
        · rw [if_neg e]
          have : (v ∈ b :: l) ↔ v ∈ l := by rw [List.mem_cons]; exact ⟨fun h => h.elim (fun h => absurd h.symm e) id, .inr⟩
          simp only [this]
      · rw [h3 x, List.mem_append, List.mem_singleton]
        constructor
        · rintro ((h | rfl) | ⟨v, hv, rfl, hn⟩)
          · exact .inl h
          · exact .inr ⟨b, List.mem_cons_self .., rfl, hneg⟩
          · rw [hs v] at hn
            by_cases e : b = v
            · rw [if_pos e] at hn; omega
            · rw [if_neg e] at hn; exact .inr ⟨v, List.mem_cons_of_mem _ hv, rfl, hn⟩
        · rintro (h | ⟨v, hv, rfl, hn⟩)
          · exact .inl (.inl h)
          · by_cases e : b = v
            · subst e; exact .inl (.inr rfl)
            · rcases List.mem_cons.1 hv with e' | hv
              · exact absurd e'.symm e
              · exact .inr ⟨v, hv, rfl, by rw [hs v, if_neg e]; exact hn⟩
      · rw [h4, List.length_append, List.length_singleton]
        have := unl_set out b g (by omega) hneg hg
        omega
    · have e : visit g (out, q) b = (out, q) := by unfold visit vis visq; simp only; rw [if_neg hneg, if_neg hneg]
      rw [e]
      obtain ⟨h1, h2, h3, h4⟩ := ih out q h (fun x hx => hl x (List.mem_cons_of_mem _ hx))
      refine ⟨h1, fun v hv => ?_, fun x => ?_, h4⟩
      · rw [h2 v hv]
        by_cases e : v = b
        · subst e; rw [if_neg (fun hh => hneg hh.1), if_neg (fun hh => hneg hh.1)]
        · have : (v ∈ b :: l) ↔ v ∈ l := by rw [List.mem_cons]; exact ⟨fun h => h.elim (fun h => absurd h e) id, .inr⟩
          simp only [this]
      · rw [h3 x]
        constructor
        · rintro (h | ⟨v, hv, h⟩)
          · exact .inl h
          · exact .inr ⟨v, List.mem_cons_of_mem _ hv, h⟩
        · rintro (h | ⟨v, hv, rfl, hn⟩)
          · exact .inl h
          · rcases List.mem_cons.1 hv with e' | hv
            · subst e'; exact absurd hn hneg
            · exact .inr ⟨v, hv, rfl, hn⟩
structure BfsO (n : Nat) (es : List Ed) (out : List Int) (g : Nat) : Prop where
  len : out.length = n
  rng : ∀ v, v < n → gi out v = -1 ∨ (0 ≤ gi out v ∧ gi out v < g)
  sound : ∀ a b, a < n → b < n → 0 ≤ gi out a → gi out a = gi out b → Cn es a b
  closed : ∀ u v, u < n → v < n → Nb es u v → 0 ≤ gi out u → gi out v = gi out u
structure BfsI (n : Nat) (es : List Ed) (out : List Int) (g root : Nat) (q : List Int) : Prop where
  len : out.length = n
  rng : ∀ v, v < n → gi out v = -1 ∨ (0 ≤ gi out v ∧ gi out v ≤ g)
  rt : root < n ∧ gi out root = g
  conn : ∀ v, v < n → gi out v = g → Cn es root v
  sound : ∀ a b, a < n → b < n → 0 ≤ gi out a → gi out a < g → gi out a = gi out b → Cn es a b
  closed : ∀ u v, u < n → v < n → Nb es u v → 0 ≤ gi out u → gi out u < g → gi out v = gi out u
  qu : ∀ x, x ∈ q → ∃ u : Nat, u < n ∧ x = u ∧ gi out u = g
  front : ∀ u v, u < n → v < n → Nb es u v → gi out u = g → (u : Int) ∈ q ∨ gi out v = g
theorem BfsO.start (n : Nat) (es : List Ed) : BfsO n es (List.replicate n (-1)) 0 := by
  have h : ∀ v, v < n → gi (List.replicate n (-1)) v = -1 := fun v hv => by unfold gi; simp [hv]
  refine ⟨by simp, fun v hv => .inl (h v hv), fun a b ha _ h0 => ?_, fun u v hu _ _ h0 => ?_⟩
  · rw [h a ha] at h0; omega
  · rw [h u hu] at h0; omega
theorem BfsO.root {n : Nat} {es : List Ed} {out : List Int} {g : Nat} (h : BfsO n es out g) {r : Nat} (hr : r < n) (hn : gi out r < 0) : BfsI n es (out.set r g) g r [(r : Int)] := by
  have hs : ∀ v, gi (out.set r g) v = if r = v then (g : Int) else gi out v := fun v => gi_set _ _ _ _ (by rw [h.len]; exact hr)
  have hlt : ∀ v, v < n → gi out v < g := fun v hv => by rcases h.rng v hv with e | e <;> omega
  refine ⟨by rw [List.length_set]; exact h.len, fun v hv => ?_, ⟨hr, by rw [hs, if_pos rfl]⟩, fun v hv hg => ?_, fun a b ha hb h0 h1 he => ?_, fun u v hu hv hb h0 h1 => ?_, fun x hx => ?_, fun u v hu hv hb he => ?_⟩
  · rw [hs]
    by_cases e : r = v
    · rw [if_pos e]; omega
    · rw [if_neg e]; rcases h.rng v hv with e | e <;> omega
  · rw [hs] at hg
    by_cases e : r = v
    · subst e; exact .refl _
    · rw [if_neg e] at hg; have := hlt v hv; omega
  · rw [hs] at h0 h1 he
    by_cases e : r = a
    · rw [if_pos e] at h1; omega
    · rw [if_neg e] at h0 h1 he
      rw [hs] at he
      by_cases e' : r = b
      · rw [if_pos e'] at he; omega
      · rw [if_neg e'] at he; exact h.sound a b ha hb h0 he
  · rw [hs] at h0 h1
    by_cases e : r = u
    · rw [if_pos e] at h1; omega
    · rw [if_neg e] at h0 h1
      have := h.closed u v hu hv hb h0
      rw [hs, hs, if_neg e]
      by_cases e' : r = v
      · subst e'; omega
      · rw [if_neg e']; exact this
  · rw [List.mem_singleton] at hx
    exact ⟨r, hr, hx, by rw [hs, if_pos rfl]⟩
  · rw [hs] at he
    by_cases e : r = u
    · subst e; exact .inl (List.mem_singleton.2 rfl)
    · rw [if_neg e] at he; have := hlt u hu; omega
theorem BfsI.step {n : Nat} {es : List Ed} {out : List Int} {g root : Nat} {a : Int} {q : List Int} (h : BfsI n es out g root (a :: q)) {row : List Nat} (hrow : ∀ v, v ∈ row ↔ (v < n ∧ Nb es a.toNat v)) :
    BfsI n es (row.foldl (visit g) (out, q)).1 g root (row.foldl (visit g) (out, q)).2 := by
  obtain ⟨u0, hu0, rfl, hg0⟩ := h.qu a (List.mem_cons_self ..)
  rw [Int.toNat_natCast] at hrow
  obtain ⟨f1, f2, f3, _⟩ := visit_fold (g := (g : Int)) (by omega) row out q h.len (fun b hb => ((hrow b).1 hb).1)
  generalize (row.foldl (visit g) (out, q)).1 = out' at *
  generalize (row.foldl (visit g) (out, q)).2 = q' at *
  have hold : ∀ v, v < n → 0 ≤ gi out v → gi out' v = gi out v := fun v hv h0 => by rw [f2 v hv, if_neg (fun hh => by omega)]
  have hnew : ∀ v, v < n → gi out' v ≠ gi out v → gi out v < 0 ∧ v ∈ row ∧ gi out' v = g := fun v hv hne => by
    have := f2 v hv
    by_cases hc : gi out v < 0 ∧ v ∈ row
    · rw [if_pos hc] at this; exact ⟨hc.1, hc.2, this⟩
    · rw [if_neg hc] at this; exact absurd this hne
  have hlow : ∀ v, v < n → 0 ≤ gi out' v → gi out' v < g → gi out' v = gi out v := fun v hv h0 h1 => by
    apply Classical.byContradiction
    intro hne
    have := (hnew v hv hne).2.2
    omega
  have hcase : ∀ v, v < n → gi out' v = g → gi out v = g ∨ (gi out v < 0 ∧ v ∈ row) := fun v hv hg => by
    by_cases e : gi out' v = gi out v
    · left; omega
    · have := hnew v hv e; exact .inr ⟨this.1, this.2.1⟩
  refine ⟨f1, fun v hv => ?_, ⟨h.rt.1, by rw [hold _ h.rt.1 (by have := h.rt.2; omega)]; exact h.rt.2⟩, fun v hv hg => ?_, fun x y hx hy h0 h1 he => ?_, fun u v hu hv hb h0 h1 => ?_, fun x hx => ?_, fun u v hu hv hb he => ?_⟩
  · rw [f2 v hv]
    split
    · omega
    · exact h.rng v hv
  · rcases hcase v hv hg with e | ⟨_, hm⟩
    · exact h.conn v hv e
    · exact (h.conn u0 hu0 hg0).trans ((hrow v).1 hm).2.cn
  · have e1 := hlow x hx h0 h1
    have e2 := hlow y hy (by omega) (by omega)
    exact h.sound x y hx hy (by omega) (by omega) (by omega)
  · have e1 := hlow u hu h0 h1
    have := h.closed u v hu hv hb (by omega) (by omega)
    rw [hold v hv (by omega), e1]; exact this
  · rcases (f3 x).1 hx with hx | ⟨v, hv, rfl, hn⟩
    · obtain ⟨u, hu, e, hg⟩ := h.qu x (List.mem_cons_of_mem _ hx)
      exact ⟨u, hu, e, by rw [hold u hu (by omega)]; exact hg⟩
    · have hvn := ((hrow v).1 hv).1
      exact ⟨v, hvn, rfl, by rw [f2 v hvn, if_pos ⟨hn, hv⟩]⟩
  · have nolow : ∀ w, w < n → Nb es u w → gi out w = -1 ∨ gi out w = g ∨ (0 ≤ gi out w ∧ gi out w < g ∧ gi out u = gi out w) := fun w hw hb => by
      rcases h.rng w hw with e | e
      · exact .inl e
      · by_cases e2 : gi out w = g
        · exact .inr (.inl e2)
        · exact .inr (.inr ⟨e.1, by omega, h.closed w u hw hu hb.symm e.1 (by omega)⟩)
    rcases hcase u hu he with e | ⟨hn, hm⟩
    · by_cases hu : u = u0
      · subst hu
        right
        rcases nolow v hv hb with e1 | e1 | e1
        · rw [f2 v hv, if_pos ⟨by omega, (hrow v).2 ⟨hv, hb⟩⟩]
        · rw [hold v hv (by omega)]; exact e1
        · omega
      · rcases h.front u v (by assumption) hv hb e with hq | hq
        · rcases List.mem_cons.1 hq with e2 | hq
          · exact absurd (by omega) hu
          · exact .inl ((f3 _).2 (.inl hq))
        · right; rw [hold v hv (by omega)]; exact hq
    · exact .inl ((f3 _).2 (.inr ⟨u, hm, rfl, hn⟩))
theorem BfsI.done {n : Nat} {es : List Ed} {out : List Int} {g root : Nat} (h : BfsI n es out g root []) : BfsO n es out (g + 1) := by
  refine ⟨h.len, fun v hv => ?_, fun a b ha hb h0 he => ?_, fun u v hu hv hb h0 => ?_⟩
  · rcases h.rng v hv with e | e
    · exact .inl e
    · right; omega
  · by_cases e : gi out a = g
    · exact (h.conn a ha e).symm.trans (h.conn b hb (by omega))
    · rcases h.rng a ha with e1 | e1
      · omega
      · exact h.sound a b ha hb h0 (by omega) he
  · by_cases e : gi out u = g
    · rcases h.front u v hu hv hb e with hq | hq
      · cases hq
      · omega
    · rcases h.rng u hu with e1 | e1
      · omega
      · exact h.closed u v hu hv hb h0 (by omega)
theorem BfsO.labels {n J : Nat} {es : List Ed} (hg : Gd n J es) {out : List Int} {g : Nat} (h : BfsO n es out g) (hall : ∀ v, v < n → 0 ≤ gi out v) : Labels n es (out.map Int.toNat) := by
  have hgn : ∀ v, v < n → (gn (out.map Int.toNat) v : Int) = gi out v := fun v hv => by
    have hv' : v < out.length := by rw [h.len]; exact hv
    have := hall v hv
    unfold gn gi at *
    simp [List.getD_eq_getElem?_getD, hv'] at this ⊢
    omega
  refine ⟨by rw [List.length_map]; exact h.len, fun i hi hk => ?_, fun a b ha hb he => ?_⟩
  · obtain ⟨e1, e2, _⟩ := hg.ends i hi
    have := h.closed _ _ e1 e2 ⟨i, hi, hk, .inl ⟨rfl, rfl⟩⟩ (hall _ e1)
    have g1 := hgn _ e1
    have g2 := hgn _ e2
    omega
  · have g1 := hgn _ ha
    have g2 := hgn _ hb
    exact h.sound a b ha hb (hall a ha) (by omega)
end Sw
end
