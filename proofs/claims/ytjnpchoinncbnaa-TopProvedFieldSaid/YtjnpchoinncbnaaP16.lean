/- Proves parts of the statement, each under the conditions that its theorem states: The sides of a field, one after the other; The sides of a field: the two loops; A list of edges grows in a statement that leaves its order open; The net of a field: an edge is put behind. -/
import Derived.Test.YtjnpchoinncbnaaP15
import Derived.Test.YtjnpchoinncbnaaP06
import Derived.Test.YtjnpchoinncbnaaP02
import Derived.Test.YtjnpchoinncbnaaP11
import Derived.Test.YtjnpchoinncbnaaP14
section
set_option linter.unusedSimpArgs false
set_option linter.unusedVariables false
namespace Go.Proofs.Ytjnpchoinncbnaa
open Go.RowKit Sw Fam
def encP (k : Nat) (q : Nat × Nat) : Array Value := #[.int .i64 k, .agg #[.int .i64 q.1, .int .i64 q.2]]
def RoundS (l k : Nat) (q : Nat × Nat) (W : World) (R : World → Prop) : Prop :=
  ∃ rec : Loop, W.heap[l]? = some (.loop rec) ∧ rec.params.size = 2 ∧ ∀ m,
    RoundIn Fence.wide m Try.prog l rec.fn ((rec.params.zip (encP k q)).foldl (fun tmps (t, a) => tmps.setIfInBounds t a) rec.tmps) rec.assign rec.body W (fun e W' => e = .returned (.bool true) ∧ R W')
theorem RoundS.use {l k : Nat} {q : Nat × Nat} {W : World} {R : World → Prop} (h : RoundS l k q W R) {o : Oper} {m : Nat} {a : Act} {next : Act → World → Prop} {Q : Exit → Act → World → Prop}
    (hn : ∀ w', R w' → next (a.put o.dst (.bool true)) w') :
    Oper.uponIn Fence.wide m Try.prog o a next Q ((Instr.yield l (encP k q)).run Try.prog W) := by
  obtain ⟨rec, h1, h2, h3⟩ := h
  have hr := run_yield (P := Try.prog) (args := encP k q) h1 (by simp [h2, encP])
  rw [hr, Oper.uponIn_round]
  refine ⟨fun h => by simp [Fence.wide] at h, (h3 (m - 1)).mono ?_⟩
  rintro e w' ⟨rfl, hR⟩
  exact hn _ hR
def SideFr (l cb rb k d st N C t : Nat) : Act → Prop := FrD 55 [] [(0, .func (.yield l) #[] #[]), (1, .pointer (some ⟨cb, 0, none⟩)), (2, .pointer (some ⟨rb, 0, none⟩)), (4, .int .i64 k), (5, .int .i64 d), (6, .int .i64 st), (9, .agg #[.int .i64 1, .int .i64 C]), (10, .int .i64 d), (16, .int .i64 N), (17, .int .i64 t)]
set_option maxHeartbeats 4000000 in
set_option maxRecDepth 100000 in
theorem side_turn {m l cb rb k d t R C st N : Nat} {sk : Bool} {J : Nat → World → Prop} {W : World} {Q : Exit → Act → World → Prop} {u3 u7 u8 u11 u12 u13 u14 u15 u18 u19 u20 u21 u22 u23 u24 u25 u26 u27 u28 u29 u30 u31 u32 u33 u34 u35 u36 u37 u38 u39 u40 u41 u42 u43 u44 u45 u46 u47 u48 u49 u50 u51 u52 u53 u54 : Value}
    (hd : d = 0 ∨ d = 1) (hR : 1 ≤ R ∧ R ≤ 64) (hC : 1 ≤ C ∧ C ≤ 64) (ht : t < 4096) (hst : st ≤ 64) (hk : k ≤ 10000)
    (hK : ∀ k W W', J k W → Below W.heap.size W W' → J k W')
    (hS : ∀ k W, J k W → W.cell? ⟨rb, 0, none⟩ = some (.int .i64 R) ∧ W.cell? ⟨cb, 0, none⟩ = some (.int .i64 C))
    (hc : sk = true ↔ ((d = 0 ∧ t % C = C - 1) ∨ (d = 1 ∧ t / C = R - 1)))
    (hY : sk = false → ∀ W, J k W → RoundS l k (t, t + st) W (J (k + 1))) (hJ : J k W)
    (hQ : ∀ a' w', J (if sk then k else k + 1) w' → SideFr l cb rb (if sk then k else k + 1) d st N C t a' → Q .normal a' w') :
    Code.wpIn Fence.wide m Try.prog (Try.f57.sub [1, 1, 0, 0, 1, 1, 0, 0, 1, 1, 0, 0, 1, 1, 0, 0]) (Exit.inBlock 3 Q) ⟨#[.func (.yield l) #[] #[], .pointer (some ⟨cb, 0, none⟩), .pointer (some ⟨rb, 0, none⟩), u3, .int .i64 k, .int .i64 d, .int .i64 st, u7, u8, .agg #[.int .i64 1, .int .i64 C], .int .i64 d, u11, u12, u13, u14, u15, .int .i64 N, .int .i64 t, u18, u19, u20, u21, u22, u23, u24, u25, u26, u27, u28, u29, u30, u31, u32, u33, u34, u35, u36, u37, u38, u39, u40, u41, u42, u43, u44, u45, u46, u47, u48, u49, u50, u51, u52, u53, u54], []⟩ W := by
  show Code.wpIn Fence.wide m Try.prog (.seq (Try.f57.sub [1, 1, 0, 0, 1, 1, 0, 0, 1, 1, 0, 0, 1, 1, 0, 0, 0]) (.seq (.seq (Try.f57.sub [1, 1, 0, 0, 1, 1, 0, 0, 1, 1, 0, 0, 1, 1, 0, 0, 1, 0, 0]) (.cond (.tmp 41) (.exit 3) .skip)) (Try.f57.sub [1, 1, 0, 0, 1, 1, 0, 0, 1, 1, 0, 0, 1, 1, 0, 0, 1, 1]))) _ _ _
  obtain ⟨hr0, hc0⟩ := hS _ _ hJ
  have HQ := Lib.hid hQ; clear hQ
  have HK := Lib.hid hK; clear hK
  have HS := Lib.hid hS; clear hS
  have HY := Lib.hid hY; clear hY
  have HJ := Lib.hid hJ; clear hJ
  have HC := Lib.hid hc; clear hc
  have htm : Int.tmod (t : Int) C = ((t % C : Nat) : Int) := (Int.ofNat_tmod t C).symm
  have htd : Int.tdiv (t : Int) C = ((t / C : Nat) : Int) := (Int.ofNat_tdiv t C).symm
  have HT := Lib.hid (And.intro htm htd); clear htm htd
  have hqb : t / C ≤ 4096 := Nat.le_trans (Nat.div_le_self _ _) (by omega)
  refine wpIn_seq ?_
  conv => arg 4; whnf
  gi_wp2_with fail
  conv => arg 4; whnf
  have hw64 : wrap64 ((t : Int) / C) = ((t / C : Nat) : Int) := by rw [← Int.natCast_ediv]; clear HT HC; generalize t / C = q at *; unfold wrap64; omega
  cases sk with
  | true =>
    have hcc := HC.out.1 rfl
    rcases hd with rfl | rfl
    · have h1 : ((t : Int) % C == (C : Int) - 1) = true := by clear hw64; simp at hcc ⊢; omega
      clear hcc hw64
      refine regionIn_reads (.inl rfl) (by kernel_rfl) (by kernel_rfl) (by kernel_rfl) ?_
      repeat (go_big_quiet_step (fail))
      refine wpQuiet_nil ?_
      intro _ hw'
      obtain ⟨nq, rfl⟩ := hw'
      gi_wp2_with fail
      exact HQ.out _ _ (HK.out _ _ _ HJ.out (below_drewN (Below.refl _ _) nq)) (by unfold SideFr; (refine ⟨rfl, rfl, ?_⟩; repeat (first | exact trivial | refine ⟨rfl, ?_⟩)))
    · have h1 : (wrap64 ((t : Int) / C) == (R : Int) - 1) = true := by rw [hw64]; simp at hcc ⊢; omega
      clear hcc hw64
      refine regionIn_reads (.inl rfl) (by kernel_rfl) (by kernel_rfl) (by kernel_rfl) ?_
      repeat (go_big_quiet_step (fail))
      refine wpQuiet_nil ?_
      intro _ hw'
      obtain ⟨nq, rfl⟩ := hw'
      gi_wp2_with fail
      exact HQ.out _ _ (HK.out _ _ _ HJ.out (below_drewN (Below.refl _ _) nq)) (by unfold SideFr; (refine ⟨rfl, rfl, ?_⟩; repeat (first | exact trivial | refine ⟨rfl, ?_⟩)))
  | false =>
    have hcc : ¬ _ := fun h => Bool.false_ne_true (HC.out.2 h)
    rcases hd with rfl | rfl
    · have h1 : ((t : Int) % C == (C : Int) - 1) = false := by clear hw64; simp at hcc ⊢; omega
      clear hcc hw64
      refine regionIn_reads (.inl rfl) (by kernel_rfl) (by kernel_rfl) (by kernel_rfl) ?_
      repeat (go_big_quiet_step (fail))
      refine wpQuiet_nil ?_
      intro _ hw'
      obtain ⟨nq, rfl⟩ := hw'
      gi_wp2_with fail
      have HJ2 := Lib.hid (HK.out _ _ _ HJ.out (below_drewN (Below.refl _ _) nq))
      conv => arg 4; whnf
      gi_wp2_with fail
      refine RoundS.use (HY.out trivial _ HJ2.out) ?_
      intro w3 hJ3
      have HJ3 := Lib.hid hJ3; clear hJ3
      gi_wp2_with fail
      exact HQ.out _ _ HJ3.out (by unfold SideFr; (refine ⟨rfl, rfl, ?_⟩; repeat (first | exact trivial | refine ⟨rfl, ?_⟩)))
    · have h1 : (wrap64 ((t : Int) / C) == (R : Int) - 1) = false := by rw [hw64]; simp at hcc ⊢; omega
      clear hcc hw64
      refine regionIn_reads (.inl rfl) (by kernel_rfl) (by kernel_rfl) (by kernel_rfl) ?_
      repeat (go_big_quiet_step (fail))
      refine wpQuiet_nil ?_
      intro _ hw'
      obtain ⟨nq, rfl⟩ := hw'
      gi_wp2_with fail
      have HJ2 := Lib.hid (HK.out _ _ _ HJ.out (below_drewN (Below.refl _ _) nq))
      conv => arg 4; whnf
      gi_wp2_with fail
      refine RoundS.use (HY.out trivial _ HJ2.out) ?_
      intro w3 hJ3
      have HJ3 := Lib.hid hJ3; clear hJ3
      gi_wp2_with fail
      exact HQ.out _ _ HJ3.out (by unfold SideFr; (refine ⟨rfl, rfl, ?_⟩; repeat (first | exact trivial | refine ⟨rfl, ?_⟩)))
end Go.Proofs.Ytjnpchoinncbnaa
end

section
set_option linter.unusedSimpArgs false
set_option linter.unusedVariables false
namespace Go.Proofs.Ytjnpchoinncbnaa
open Go.RowKit Sw Fam
theorem run_pair_0 (x y : Int) (W : World) : (Instr.index 79 (.agg #[.int .i64 x, .int .i64 y]) (.int .i64 0)).run Try.prog W = .ok (.int .i64 x) W := by
  simp [Instr.index, go_sem, Try.underlying79]
theorem run_pair_1 (x y : Int) (W : World) : (Instr.index 79 (.agg #[.int .i64 x, .int .i64 y]) (.int .i64 1)).run Try.prog W = .ok (.int .i64 y) W := by
  simp [Instr.index, go_sem, Try.underlying79]
def sdN (R C d t : Nat) : List (Nat × Nat) := if d = 0 then sdA C t else sdA C (R * C) ++ sdD R C t
theorem sdN_here {R C d t : Nat} (hd : d = 0 ∨ d = 1) (ht : t < R * C) (h : ¬ ((d = 0 ∧ t % C = C - 1) ∨ (d = 1 ∧ t / C = R - 1))) : (sdN R C d t).length < (sdl R C).length ∧ gp (sdl R C) (sdN R C d t).length = (t, t + if d = 0 then 1 else C) ∧ (sdN R C d (t + 1)).length = (sdN R C d t).length + 1 := by
  rcases hd with rfl | rfl
  · have h2 : t % C ≠ C - 1 := fun e => h (.inl ⟨rfl, e⟩)
    obtain ⟨k1, k2⟩ := sdl_across ht h2
    refine ⟨k1, k2, ?_⟩
    unfold sdN
    rw [if_pos rfl, if_pos rfl, sdA_succ, if_pos h2]; simp
  · have h2 : t / C ≠ R - 1 := fun e => h (.inr ⟨rfl, e⟩)
    obtain ⟨k1, k2⟩ := sdl_down ht h2
    refine ⟨k1, k2, ?_⟩
    unfold sdN
    rw [if_neg (by decide), if_neg (by decide), sdD_succ, if_pos h2]; simp; omega
theorem sdN_skip {R C d t : Nat} (h : (d = 0 ∧ t % C = C - 1) ∨ (d = 1 ∧ t / C = R - 1)) : (sdN R C d (t + 1)).length = (sdN R C d t).length := by
  rcases h with ⟨rfl, h⟩ | ⟨rfl, h⟩
  · unfold sdN; rw [if_pos rfl, if_pos rfl, sdA_succ, if_neg (by simpa using h)]; simp
  · unfold sdN; rw [if_neg (by decide), if_neg (by decide), sdD_succ, if_neg (by simpa using h)]; simp
def LoopT (R C : Nat) (l cb rb d : Nat) (J : Nat → World → Prop) (a : Act) (w : World) : Prop :=
  ∃ t : Nat, t ≤ R * C ∧ J (sdN R C d t).length w ∧ SideFr l cb rb (sdN R C d t).length d (if d = 0 then 1 else C) (R * C) C t a
theorem sdN_le {R C d t : Nat} (ht : t ≤ R * C) (hb : (sdl R C).length ≤ 10000) : (sdN R C d t).length ≤ 10000 := by
  unfold sdN
  unfold sdl at hb
  rw [List.length_append] at hb
  have h1 := (sdA_pre (C := C) ht).length_le
  have h2 := (sdD_pre (R := R) (C := C) ht).length_le
  split
  · omega
  · rw [List.length_append]; omega
set_option maxHeartbeats 4000000 in
set_option maxRecDepth 100000 in
theorem side_loop {m l cb rb d R C : Nat} {J : Nat → World → Prop} {Q : Exit → Act → World → Prop}
    (hd : d = 0 ∨ d = 1) (hR : 1 ≤ R ∧ R ≤ 64) (hC : 1 ≤ C ∧ C ≤ 64) (hb : (sdl R C).length ≤ 10000) (hm : R * C < 4096)
    (hK : ∀ k W W', J k W → Below W.heap.size W W' → J k W')
    (hS : ∀ k W, J k W → W.cell? ⟨rb, 0, none⟩ = some (.int .i64 R) ∧ W.cell? ⟨cb, 0, none⟩ = some (.int .i64 C))
    (hY : ∀ k W, k < (sdl R C).length → J k W → RoundS l k (gp (sdl R C) k) W (J (k + 1)))
    {a : Act} {W : World} (h0 : LoopT R C l cb rb d J a W)
    (hQ : ∀ a' w', J (sdN R C d (R * C)).length w' → SideFr l cb rb (sdN R C d (R * C)).length d (if d = 0 then 1 else C) (R * C) C (R * C) a' → Q .normal a' w') :
    Code.wpIn Fence.wide m Try.prog (.loop (Try.f57.sub [1, 1, 0, 0, 1, 1, 0, 0, 1, 1, 0, 0])) (Exit.inBlock 2 Q) a W := by
  have HQ := Lib.hid hQ; clear hQ
  have HK := Lib.hid hK; clear hK
  have HS := Lib.hid hS; clear hS
  have HY := Lib.hid hY; clear hY
  refine wpIn_loop (LoopT R C l cb rb d J) (fun a _ => R * C - (intOf (a.tmps.getD 17 undef)).toNat) h0 ?_
  clear h0 a W
  rintro a W ⟨t, ht, hJ, hfr⟩
  unfold SideFr at hfr
  obtain ⟨u, rfl⟩ := hfr.open
  clear hfr
  have HJ := Lib.hid hJ; clear hJ
  generalize hmu : R * C - (intOf ((⟨frL 55 _ u, []⟩ : Act).tmps.getD 17 undef)).toNat = mu
  have hmu' : R * C - t = mu := by rw [← hmu]; rfl
  clear hmu
  have hkl := sdN_le (d := d) ht hb
  obtain ⟨N, hN⟩ : ∃ N, N = R * C := ⟨_, rfl⟩
  obtain ⟨st, hst⟩ : ∃ st : Nat, st = if d = 0 then 1 else C := ⟨_, rfl⟩
  have hst2 : st ≤ 64 := by rw [hst]; split <;> omega
  rw [← hN] at hm ht hmu'
  show Code.wpIn Fence.wide m Try.prog (.seq (Try.f57.sub [1, 1, 0, 0, 1, 1, 0, 0, 1, 1, 0, 0, 0]) (.seq (.cond (.tmp 18) .skip (.exit 2)) (.seq (.block 3 (Try.f57.sub [1, 1, 0, 0, 1, 1, 0, 0, 1, 1, 0, 0, 1, 1, 0, 0])) (Try.f57.sub [1, 1, 0, 0, 1, 1, 0, 0, 1, 1, 0, 0, 1, 1, 1])))) _ ⟨#[.func (.yield l) #[] #[], .pointer (some ⟨cb, 0, none⟩), .pointer (some ⟨rb, 0, none⟩), (u 3), .int .i64 (sdN R C d t).length, .int .i64 d, .int .i64 (if d = 0 then 1 else C : Nat), (u 7), (u 8), .agg #[.int .i64 1, .int .i64 C], .int .i64 d, (u 11), (u 12), (u 13), (u 14), (u 15), .int .i64 (R * C : Nat), .int .i64 t, (u 18), (u 19), (u 20), (u 21), (u 22), (u 23), (u 24), (u 25), (u 26), (u 27), (u 28), (u 29), (u 30), (u 31), (u 32), (u 33), (u 34), (u 35), (u 36), (u 37), (u 38), (u 39), (u 40), (u 41), (u 42), (u 43), (u 44), (u 45), (u 46), (u 47), (u 48), (u 49), (u 50), (u 51), (u 52), (u 53), (u 54)], []⟩ W
  rw [← hN, ← hst]
  generalize hk : (sdN R C d t).length = k at *
  have HKK := Lib.hid hk; clear hk
  have HN := Lib.hid hN; clear hN
  have HST := Lib.hid hst; clear hst
  by_cases hlt : t < N
  · refine wpIn_seq ?_
    conv => arg 4; whnf
    dsimp only
    gi_wp2_with fail
    refine side_turn (t := t) (N := N) (k := k) (st := st) (sk := decide ((d = 0 ∧ t % C = C - 1) ∨ (d = 1 ∧ t / C = R - 1))) (J := J) hd hR hC (by omega) hst2 hkl HK.out HS.out (by simp) ?_ HJ.out ?_
    · intro hsk W' hJ'
      obtain ⟨k1, k2, k3⟩ := sdN_here hd (by rw [← HN.out]; exact hlt) (by simpa using hsk)
      rw [HKK.out] at k1 k2
      have := HY.out k W' k1 hJ'
      rw [k2, ← HST.out] at this
      exact this
    · intro a' w' hJ' hfr'
      have hkk : (if decide ((d = 0 ∧ t % C = C - 1) ∨ (d = 1 ∧ t / C = R - 1)) = true then k else k + 1) = (sdN R C d (t + 1)).length := by
        by_cases h : (d = 0 ∧ t % C = C - 1) ∨ (d = 1 ∧ t / C = R - 1)
        · rw [if_pos (by simpa using h), sdN_skip h, HKK.out]
        · rw [if_neg (by simpa using h), (sdN_here hd (by rw [← HN.out]; exact hlt) h).2.2, HKK.out]
      rw [hkk] at hJ' hfr'
      clear hkk
      have HJ3 := Lib.hid hJ'; clear hJ'
      unfold SideFr at hfr'
      obtain ⟨u', rfl⟩ := hfr'.open
      clear hfr'
      have hk1 := sdN_le (d := d) (t := t + 1) (R := R) (C := C) (by rw [← HN.out]; exact hlt) hb
      generalize hk : (sdN R C d (t + 1)).length = k1 at *
      have HK1 := Lib.hid hk; clear hk
      rename_i K hK
      refine hK _ _ ?_
      show Code.wpIn Fence.wide m Try.prog (Try.f57.sub [1, 1, 0, 0, 1, 1, 0, 0, 1, 1, 0, 0, 1, 1, 1]) _ ⟨#[.func (.yield l) #[] #[], .pointer (some ⟨cb, 0, none⟩), .pointer (some ⟨rb, 0, none⟩), (u' 3), .int .i64 k1, .int .i64 d, .int .i64 st, (u' 7), (u' 8), .agg #[.int .i64 1, .int .i64 C], .int .i64 d, (u' 11), (u' 12), (u' 13), (u' 14), (u' 15), .int .i64 N, .int .i64 t, (u' 18), (u' 19), (u' 20), (u' 21), (u' 22), (u' 23), (u' 24), (u' 25), (u' 26), (u' 27), (u' 28), (u' 29), (u' 30), (u' 31), (u' 32), (u' 33), (u' 34), (u' 35), (u' 36), (u' 37), (u' 38), (u' 39), (u' 40), (u' 41), (u' 42), (u' 43), (u' 44), (u' 45), (u' 46), (u' 47), (u' 48), (u' 49), (u' 50), (u' 51), (u' 52), (u' 53), (u' 54)], []⟩ _
      conv => arg 4; whnf
      dsimp only
      gi_wp2_with fail
      refine ⟨⟨t + 1, by have := HN.out; omega, by rw [HK1.out]; exact HJ3.out, ?_⟩, ?_⟩
      · rw [HK1.out, ← HN.out, ← HST.out]; unfold SideFr; (refine ⟨rfl, rfl, ?_⟩; repeat (first | exact trivial | refine ⟨rfl, ?_⟩))
      · show N - ((t : Int) + 1).toNat < mu
        omega
  · refine wpIn_seq ?_
    conv => arg 4; whnf
    dsimp only
    gi_wp2_with fail
    have : t = N := by omega
    subst this
    refine HQ.out _ _ ?_ ?_
    · rw [← HN.out, HKK.out]; exact HJ.out
    · rw [← HN.out, HKK.out, ← HST.out]; unfold SideFr; (refine ⟨rfl, rfl, ?_⟩; repeat (first | exact trivial | refine ⟨rfl, ?_⟩))
def off (R C d : Nat) : Nat := if d = 0 then 0 else if d = 1 then (sdA C (R * C)).length else (sdl R C).length
theorem off_0 (R C d : Nat) (hd : d = 0 ∨ d = 1) : off R C d = (sdN R C d 0).length := by
  rcases hd with rfl | rfl <;> simp [off, sdN, sdA_zero, sdD_zero]
theorem off_1 (R C d : Nat) (hd : d = 0 ∨ d = 1) : off R C (d + 1) = (sdN R C d (R * C)).length := by
  rcases hd with rfl | rfl <;> simp [off, sdN, sdl]
def LoopU (R C : Nat) (l cb rb : Nat) (J : Nat → World → Prop) (a : Act) (w : World) : Prop :=
  ∃ d : Nat, d ≤ 2 ∧ J (off R C d) w ∧ FrD 55 [] [(0, .func (.yield l) #[] #[]), (1, .pointer (some ⟨cb, 0, none⟩)), (2, .pointer (some ⟨rb, 0, none⟩)), (4, .int .i64 (off R C d)), (9, .agg #[.int .i64 1, .int .i64 C]), (10, .int .i64 d)] a
set_option maxHeartbeats 4000000 in
set_option maxRecDepth 100000 in
theorem sides1_in (l : Nat) {cb rb R C : Nat} (hR : 1 ≤ R ∧ R ≤ 64) (hC : 1 ≤ C ∧ C ≤ 64) (hb : (sdl R C).length ≤ 10000) (hm : R * C < 4096) (J : Nat → World → Prop)
    (hK : ∀ k W W', J k W → Below W.heap.size W W' → J k W')
    (hS : ∀ k W, J k W → W.cell? ⟨rb, 0, none⟩ = some (.int .i64 R) ∧ W.cell? ⟨cb, 0, none⟩ = some (.int .i64 C))
    (hY : ∀ k W, k < (sdl R C).length → J k W → RoundS l k (gp (sdl R C) k) W (J (k + 1))) (W : World) (h0 : J 0 W) :
    CallsIn Fence.wide 3 Try.prog 57 #[.func (.yield l) #[] #[], .pointer (some ⟨cb, 0, none⟩), .pointer (some ⟨rb, 0, none⟩)] W (fun e W' => (∃ r, e = .returned r) ∧ J (sdl R C).length W') := by
  refine callsIn_of_wp Try.func57 rfl trivial ?_ rfl
  simp only [Try.ntmps57, List.size_toArray, List.length_cons, List.length_nil, Nat.reduceAdd, Nat.reduceSub, Array.replicate_succ, Array.replicate_zero, List.push_toArray, List.append_toArray, List.nil_append, List.cons_append]
  obtain ⟨hr0, hc0⟩ := hS 0 W h0
  have HK := Lib.hid hK; clear hK
  have HS := Lib.hid hS; clear hS
  have HY := Lib.hid hY; clear hY
  show Code.wpIn Fence.wide 3 Try.prog (.seq (Try.f57.sub [0]) (.seq (Try.f57.sub [1, 0]) (.block 0 (.loop (Try.f57.sub [1, 1, 0, 0]))))) _ _ _
  refine wpIn_seq ?_
  conv => arg 4; whnf
  gi_wp2_with fail
  conv => arg 4; whnf
  gi_wp2_with fail
  refine wpIn_loop (LoopU R C l cb rb J) (fun a _ => 2 - (intOf (a.tmps.getD 10 undef)).toNat) ⟨0, by omega, h0, by (refine ⟨rfl, rfl, ?_⟩; repeat (first | exact trivial | refine ⟨rfl, ?_⟩))⟩ ?_
  clear hr0 hc0 h0
  rintro a wr ⟨d, hd, hJ, hfr⟩
  obtain ⟨u, rfl⟩ := hfr.open
  clear hfr
  obtain ⟨hr0, hc0⟩ := HS.out _ _ hJ
  have HJ := Lib.hid hJ; clear hJ
  generalize hmu : 2 - (intOf ((⟨frL 55 _ u, []⟩ : Act).tmps.getD 10 undef)).toNat = mu
  have hmu' : 2 - d = mu := by rw [← hmu]; rfl
  clear hmu
  show Code.wpIn Fence.wide 3 Try.prog (.seq (Try.f57.sub [1, 1, 0, 0, 0]) (.seq (.cond (.tmp 11) .skip (.exit 0)) (.seq (.block 1 (Try.f57.sub [1, 1, 0, 0, 1, 1, 0, 0])) (Try.f57.sub [1, 1, 0, 0, 1, 1, 1])))) _ ⟨#[.func (.yield l) #[] #[], .pointer (some ⟨cb, 0, none⟩), .pointer (some ⟨rb, 0, none⟩), (u 3), .int .i64 (off R C d), (u 5), (u 6), (u 7), (u 8), .agg #[.int .i64 1, .int .i64 C], .int .i64 d, (u 11), (u 12), (u 13), (u 14), (u 15), (u 16), (u 17), (u 18), (u 19), (u 20), (u 21), (u 22), (u 23), (u 24), (u 25), (u 26), (u 27), (u 28), (u 29), (u 30), (u 31), (u 32), (u 33), (u 34), (u 35), (u 36), (u 37), (u 38), (u 39), (u 40), (u 41), (u 42), (u 43), (u 44), (u 45), (u 46), (u 47), (u 48), (u 49), (u 50), (u 51), (u 52), (u 53), (u 54)], []⟩ _
  generalize hk : off R C d = k at *
  have HKK := Lib.hid hk; clear hk
  refine wpIn_seq ?_
  conv => arg 4; whnf
  dsimp only
  by_cases hlt : d < 2
  · have hd2 : d = 0 ∨ d = 1 := by omega
    have hbd : 0 ≤ (R : Int) * C ∧ (R : Int) * C ≤ 4096 := mul_64 (by omega) (by omega)
    have hgo : ∀ (st : Nat) (a : Act) (W : World) (Q' : Exit → Act → World → Prop), st = (if d = 0 then 1 else C) → W = wr → SideFr l cb rb k d st (R * C) C 0 a →
        (∀ a' w', J (sdN R C d (R * C)).length w' → SideFr l cb rb (sdN R C d (R * C)).length d (if d = 0 then 1 else C) (R * C) C (R * C) a' → Q' .normal a' w') →
        Code.wpIn Fence.wide 3 Try.prog (.loop (Try.f57.sub [1, 1, 0, 0, 1, 1, 0, 0, 1, 1, 0, 0])) (Exit.inBlock 2 Q') a W := by
      rintro st a W Q' rfl rfl hfr hQ'
      refine side_loop hd2 hR hC hb hm HK.out HS.out HY.out ⟨0, Nat.zero_le _, ?_, ?_⟩ hQ'
      · rw [← off_0 R C d hd2, HKK.out]; exact HJ.out
      · rw [← off_0 R C d hd2, HKK.out]; exact hfr
    have HGO := Lib.hid hgo; clear hgo
    rcases hd2 with rfl | rfl
    · gi_wp2_with fail
      show Code.wpIn Fence.wide 3 Try.prog (.seq (Try.f57.sub [1, 1, 0, 0, 1, 1, 0, 0, 0]) (.seq (Try.f57.sub [1, 1, 0, 0, 1, 1, 0, 0, 1, 0]) (.block 2 (.loop (Try.f57.sub [1, 1, 0, 0, 1, 1, 0, 0, 1, 1, 0, 0]))))) _ _ _
      have hix := run_pair_0 1 C wr
      refine wpIn_seq ?_
      conv => arg 4; whnf
      gi_wp2_with fail
      conv => arg 4; whnf
      gi_wp2_with fail
      refine HGO.out 1 _ _ _ (by simp) rfl ?_ ?_
      · unfold SideFr; (refine ⟨rfl, rfl, ?_⟩; repeat (first | exact trivial | refine ⟨rfl, ?_⟩))
      intro a' w' hJ' hfr'
      rw [← off_1 R C 0 (by simp)] at hJ' hfr'
      have HJ3 := Lib.hid hJ'; clear hJ'
      unfold SideFr at hfr'
      obtain ⟨z, df, e0, e1, e2, e4, e5, e6, e9, e10, e16, e17, e99⟩ := hfr'
      have hfr2 : FrD 55 [] [(0, .func (.yield l) #[] #[]), (1, .pointer (some ⟨cb, 0, none⟩)), (2, .pointer (some ⟨rb, 0, none⟩)), (4, .int .i64 (off R C (0 + 1))), (9, .agg #[.int .i64 1, .int .i64 C]), (10, .int .i64 (0 : Nat))] a' := ⟨z, df, e0, e1, e2, e4, e9, e10, trivial⟩
      clear z df e0 e1 e2 e4 e5 e6 e9 e10 e16 e17 e99
      obtain ⟨u', rfl⟩ := hfr2.open
      clear hfr2 hix
      generalize hk : off R C (0 + 1) = k1 at *
      have HK1 := Lib.hid hk; clear hk HGO
      rename_i K hK
      refine hK _ _ ?_
      show Code.wpIn Fence.wide 3 Try.prog (Try.f57.sub [1, 1, 0, 0, 1, 1, 1]) _ ⟨#[.func (.yield l) #[] #[], .pointer (some ⟨cb, 0, none⟩), .pointer (some ⟨rb, 0, none⟩), (u' 3), .int .i64 k1, (u' 5), (u' 6), (u' 7), (u' 8), .agg #[.int .i64 1, .int .i64 C], .int .i64 (0 : Nat), (u' 11), (u' 12), (u' 13), (u' 14), (u' 15), (u' 16), (u' 17), (u' 18), (u' 19), (u' 20), (u' 21), (u' 22), (u' 23), (u' 24), (u' 25), (u' 26), (u' 27), (u' 28), (u' 29), (u' 30), (u' 31), (u' 32), (u' 33), (u' 34), (u' 35), (u' 36), (u' 37), (u' 38), (u' 39), (u' 40), (u' 41), (u' 42), (u' 43), (u' 44), (u' 45), (u' 46), (u' 47), (u' 48), (u' 49), (u' 50), (u' 51), (u' 52), (u' 53), (u' 54)], []⟩ _
      conv => arg 4; whnf
      dsimp only
      gi_wp2_with fail
      refine ⟨⟨0 + 1, by omega, by rw [HK1.out]; exact HJ3.out, ?_⟩, ?_⟩
      · rw [HK1.out]; (refine ⟨rfl, rfl, ?_⟩; repeat (first | exact trivial | refine ⟨rfl, ?_⟩))
      · show 2 - (1 : Int).toNat < mu
        rw [← hmu']; decide
    · gi_wp2_with fail
      show Code.wpIn Fence.wide 3 Try.prog (.seq (Try.f57.sub [1, 1, 0, 0, 1, 1, 0, 0, 0]) (.seq (Try.f57.sub [1, 1, 0, 0, 1, 1, 0, 0, 1, 0]) (.block 2 (.loop (Try.f57.sub [1, 1, 0, 0, 1, 1, 0, 0, 1, 1, 0, 0]))))) _ _ _
      have hix := run_pair_1 1 C wr
      refine wpIn_seq ?_
      conv => arg 4; whnf
      gi_wp2_with fail
      conv => arg 4; whnf
      gi_wp2_with fail
      refine HGO.out C _ _ _ (by simp) rfl ?_ ?_
      · unfold SideFr; (refine ⟨rfl, rfl, ?_⟩; repeat (first | exact trivial | refine ⟨rfl, ?_⟩))
      intro a' w' hJ' hfr'
      rw [← off_1 R C 1 (by simp)] at hJ' hfr'
      have HJ3 := Lib.hid hJ'; clear hJ'
      unfold SideFr at hfr'
      obtain ⟨z, df, e0, e1, e2, e4, e5, e6, e9, e10, e16, e17, e99⟩ := hfr'
      have hfr2 : FrD 55 [] [(0, .func (.yield l) #[] #[]), (1, .pointer (some ⟨cb, 0, none⟩)), (2, .pointer (some ⟨rb, 0, none⟩)), (4, .int .i64 (off R C (1 + 1))), (9, .agg #[.int .i64 1, .int .i64 C]), (10, .int .i64 (1 : Nat))] a' := ⟨z, df, e0, e1, e2, e4, e9, e10, trivial⟩
      clear z df e0 e1 e2 e4 e5 e6 e9 e10 e16 e17 e99
      obtain ⟨u', rfl⟩ := hfr2.open
      clear hfr2 hix
      generalize hk : off R C (1 + 1) = k1 at *
      have HK1 := Lib.hid hk; clear hk HGO
      rename_i K hK
      refine hK _ _ ?_
      show Code.wpIn Fence.wide 3 Try.prog (Try.f57.sub [1, 1, 0, 0, 1, 1, 1]) _ ⟨#[.func (.yield l) #[] #[], .pointer (some ⟨cb, 0, none⟩), .pointer (some ⟨rb, 0, none⟩), (u' 3), .int .i64 k1, (u' 5), (u' 6), (u' 7), (u' 8), .agg #[.int .i64 1, .int .i64 C], .int .i64 (1 : Nat), (u' 11), (u' 12), (u' 13), (u' 14), (u' 15), (u' 16), (u' 17), (u' 18), (u' 19), (u' 20), (u' 21), (u' 22), (u' 23), (u' 24), (u' 25), (u' 26), (u' 27), (u' 28), (u' 29), (u' 30), (u' 31), (u' 32), (u' 33), (u' 34), (u' 35), (u' 36), (u' 37), (u' 38), (u' 39), (u' 40), (u' 41), (u' 42), (u' 43), (u' 44), (u' 45), (u' 46), (u' 47), (u' 48), (u' 49), (u' 50), (u' 51), (u' 52), (u' 53), (u' 54)], []⟩ _
      conv => arg 4; whnf
      dsimp only
      gi_wp2_with fail
      refine ⟨⟨1 + 1, by omega, by rw [HK1.out]; exact HJ3.out, ?_⟩, ?_⟩
      · rw [HK1.out]; (refine ⟨rfl, rfl, ?_⟩; repeat (first | exact trivial | refine ⟨rfl, ?_⟩))
      · show 2 - (2 : Int).toNat < mu
        rw [← hmu']; decide
  · have : d = 2 := by omega
    subst this
    gi_wp2_with fail
    go_end0
    refine ⟨⟨_, rfl⟩, ?_⟩
    have : k = (sdl R C).length := by rw [← HKK.out]; rfl
    rw [← this]; exact HJ.out
end Go.Proofs.Ytjnpchoinncbnaa
end

section
set_option linter.unusedSimpArgs false
set_option linter.unusedVariables false
namespace Go.Proofs.Ytjnpchoinncbnaa
open Go.RowKit Sw Fam
abbrev GrE (w : World) (B : Nat) (A : Option Addr) (c : Nat) (es : List Ed) : Prop := GrF encE 66 4 w B A c es
theorem infoEd : (Try.prog.info? 66).map (fun i => (i.zero, i.size, i.bytes)) = some (some (.agg #[.int .i64 0, .int .i64 0, .int .i64 0, .int .i64 0]), 4, 32) := by kernel_rfl
theorem run_append_ed {w : World} {B : Nat} {A : Option Addr} {c : Nat} {es : List Ed} (h : GrE w B A c es) (ty : TypeId) (y : Ed) (s c2 : Nat) (hs : w.heap[s]? = some (.cells (encE y).toArray 66 (0, 0))) (hlen : es.length < 100000) (hB : B ≤ w.heap.size) :
    ∃ A' c' w', (Builtin.append_ #[35, 35] ty #[.slice A es.length c, .slice (some ⟨s, 0, none⟩) 1 c2]).run Try.prog w = .ok (.slice A' (es.length + 1) c') w' ∧ GrE w' B A' c' (es ++ [y]) ∧ w.grownBy w' (A.map (·.block)) ∧
      ∃ a', A' = some a' ∧ (A = some a' ∨ a'.block = w.heap.size) := by
  obtain ⟨i, hi, hzz⟩ := Option.map_eq_some_iff.1 infoEd
  simp only [Prod.mk.injEq] at hzz
  obtain ⟨hz, hsz, hby⟩ := hzz
  exact run_append_gr (P := Try.prog) Try.underlying35 hi hz hsz hby rfl encE_len (fun x u hu => by simp [encE] at hu; rcases hu with rfl | rfl | rfl | rfl <;> rfl) h [y] ⟨s, 0, none⟩ c2 (fun j u hj => by
    have hj' : (encE y)[j]? = some u := by simpa using hj
    obtain ⟨j1, j2⟩ := List.getElem?_eq_some_iff.1 hj'
    have := block_cell hs (j := j) (by simpa using j1)
    have e : (⟨s, 0, none⟩ : Addr).add j = ⟨s, j, none⟩ := by unfold Addr.add; split <;> simp_all
    rw [e, this, ← j2]; rfl) (by simp) (by simp only [List.length_cons, List.length_nil]; omega) (by decide) hB
theorem GrF.rdE {w : World} {B : Nat} {A : Option Addr} {c : Nat} {es : List Ed} (h : GrE w B A c es) : RdE w A es := fun j hj => by
  have hge : es[j] = ge es j := by unfold ge; simp [List.getD_eq_getElem?_getD, hj]
  obtain ⟨b, o, h1, _, h2⟩ := GrF.cell encE_len h (i := 0) (by decide) hj
  refine ⟨b, o, h1, ?_⟩
  have hc : ∀ i, i < 4 → w.cell? ⟨b, o + j * 4 + i, none⟩ = (encE es[j])[i]? := fun i hi => by
    obtain ⟨b', o', h1', _, h3⟩ := GrF.cell encE_len h (i := i) hi hj
    rw [h1] at h1'
    injection h1' with h1'; injection h1' with e1 e2
    subst e1 e2
    exact h3
  have c0 := hc 0 (by decide)
  have c1 := hc 1 (by decide)
  have c2 := hc 2 (by decide)
  have c3 := hc 3 (by decide)
  rw [hge] at c0 c1 c2 c3
  exact ⟨c0, c1, c2, c3⟩
structure OneD where
  B : Nat
  N : Nat
  n : Int
  A : Option Addr
  c : Nat
  es : List Ed
  y : Ed
def OneD.S (d : OneD) : List Nat := d.N :: (d.A.map (·.block)).toList
structure OneD.ok (d : OneD) (W : World) : Prop where
  hd : W.heap[d.N]? = some (.cells #[.int .i64 d.n, .slice d.A d.es.length d.c] 37 (0, 0))
  g : GrE W d.B d.A d.c d.es
  nN : d.A.map (·.block) ≠ some d.N
  le : d.B ≤ W.heap.size
  ll : d.es.length < 10000
def GrownE (W w : World) (B : Nat) (A : Option Addr) (l : Nat) (es : List Ed) (v : Value) : Prop :=
  ∃ A' c', v = .slice A' l c' ∧ GrE w B A' c' es ∧ ∃ a', A' = some a' ∧ (A = some a' ∨ W.heap.size ≤ a'.block)
structure OneC (W : World) (d : OneD) (p1 p2 p3 : Bool) (v1 v2 : Value) (w : World) : Prop where
  tch : Tch d.S W w
  b1 : p1 = true → ∃ b, v1 = .slice (some ⟨b, 0, none⟩) 1 1 ∧ W.heap.size ≤ b ∧ w.heap[b]? = some (.cells (encE d.y).toArray 66 (0, 0))
  hd : w.heap[d.N]? = some (.cells #[.int .i64 d.n, if p3 = true then v2 else .slice d.A d.es.length d.c] 37 (0, 0))
  a1 : if p2 = true then GrownE W w d.B d.A (d.es.length + 1) (d.es ++ [d.y]) v2 else GrE w d.B d.A d.c d.es
section
variable {W w : World} {d : OneD} {p1 p2 p3 : Bool} {v1 v2 : Value}
theorem OneD.ok.Nl (h : d.ok W) : d.N < W.heap.size := (Array.getElem?_eq_some_iff.1 h.hd).1
theorem OneD.ok.Sl (h : d.ok W) : ∀ b, b ∈ d.S → b < W.heap.size := by
  intro b hb
  simp only [OneD.S, List.mem_cons, Option.mem_toList] at hb
  rcases hb with rfl | hb
  · exact h.Nl
  · exact (h.g.lt hb).2
theorem OneC.start (h : d.ok W) (w : World) (hw : w = W.drew) : OneC W d false false false v1 v2 w := by
  subst hw
  exact ⟨(Tch.refl _ _).drewN 1, fun h => (by cases h), h.hd, h.g.drewN 1⟩
theorem OneC.made (h : OneC W d p1 false p3 v1 v2 w) (hok : d.ok W) : OneC W d true false p3 (.slice (some ⟨w.heap.size, 0, none⟩) 1 1) v2 (w.alloc (.cells (encE d.y).toArray 66)) := by
  have hb : Below w.heap.size w (w.alloc (.cells (encE d.y).toArray 66)) := (Below.refl _ _).alloc (Nat.le_refl _) _
  refine ⟨h.tch.alloc _, fun _ => ⟨w.heap.size, rfl, h.tch.size, World.alloc_heap_new w _⟩, (hb.block _ (by have := hok.Nl; have := h.tch.size; omega)).trans h.hd, ?_⟩
  have := h.a1
  rw [if_neg (by simp)] at this ⊢
  exact this.keep hb
theorem OneC.app (h : OneC W d true false false v1 v2 w) (hok : d.ok W) (ty : TypeId) :
    ∃ v w', (Builtin.append_ #[35, 35] ty #[.slice d.A d.es.length d.c, v1]).run Try.prog w = .ok v w' ∧ OneC W d true true false v1 v w' := by
  obtain ⟨s, rfl, s1, s2⟩ := h.b1 rfl
  have g := h.a1
  rw [if_neg (by simp)] at g
  have hWw := h.tch.size
  obtain ⟨A', c', w', hr, k1, k2, a', rfl, k3⟩ := run_append_ed g ty d.y s 1 s2 (by have := hok.ll; omega) (by have := hok.le; omega)
  have hS : Tch (d.A.map (·.block)).toList w w' := ⟨k2.os, k2.tape, k2.output, k2.size, fun b hb hn => k2.block b hb (fun e => hn (by rw [Option.mem_toList]; exact e.symm))⟩
  have hsn : s ∉ (d.A.map (·.block)).toList := fun hm => by have := hok.Sl s (List.mem_cons_of_mem _ hm); omega
  refine ⟨_, w', hr, h.tch.trans (hS.mono fun b hb => .inl (List.mem_cons_of_mem _ hb)), fun _ => ⟨s, rfl, s1, (hS.block s (Array.getElem?_eq_some_iff.1 s2).1 hsn).trans s2⟩, ?_, ?_⟩
  · have hn : d.N ∉ (d.A.map (·.block)).toList := fun hm => hok.nN (by simpa using hm)
    have := h.hd
    rw [if_neg (by simp)] at this ⊢
    exact (hS.block d.N (by have := hok.Nl; omega) hn).trans this
  · rw [if_pos rfl]
    refine ⟨_, c', rfl, k1, a', rfl, ?_⟩
    rcases k3 with e | e
    · exact .inl e
    · exact .inr (by omega)
theorem OneC.put (h : OneC W d p1 true false v1 v2 w) (hok : d.ok W) : OneC W d p1 true true v1 v2 (w.setCell ⟨d.N, 1, none⟩ v2) := by
  have g1 := h.a1
  rw [if_pos rfl] at g1
  obtain ⟨A', c', e1, g, a', rfl, e3⟩ := g1
  have hne : ∀ b, (some a').map (·.block) = some b → b ≠ d.N := fun b hb e => by
    subst e
    rcases e3 with e3 | e3
    · exact hok.nN (by rw [e3]; exact hb)
    · have := hok.Nl
      have : a'.block = d.N := by simpa using hb
      omega
  refine ⟨h.tch.set (.inl (List.mem_cons_self ..)) _, fun e => ?_, ?_, ?_⟩
  · obtain ⟨b, k1, k2, k3⟩ := h.b1 e
    exact ⟨b, k1, k2, (Below.heap_setCell _ _ _ _ (show b ≠ d.N by have := hok.Nl; omega)).trans k3⟩
  · have := h.hd
    rw [if_neg (by simp)] at this
    have := heap_setCell_same w d.N 1 _ _ v2 this
    simpa using this
  · rw [if_pos rfl]
    exact ⟨_, c', e1, g.move fun b hb => Below.heap_setCell _ _ _ _ (hne b hb), a', rfl, e3⟩
theorem OneC.list (h : OneC W d p1 p2 false v1 v2 w) : w.cell? ⟨d.N, 1, none⟩ = some (.slice d.A d.es.length d.c) := by
  have := h.hd
  simp only [Bool.false_eq_true, if_false] at this
  simp [World.cell?, this]
theorem OneC.there (h : OneC W d p1 p2 p3 v1 v2 w) : (∃ x, w.cell? ⟨d.N, 1, none⟩ = some x) ∧ w.frozen? ⟨d.N, 1, none⟩ = false :=
  ⟨⟨_, block_cell h.hd (j := 1) (by simp)⟩, by simp [World.frozen?, h.hd]⟩
theorem OneC.far (h : OneC W d p1 p2 p3 v1 v2 w) {a : Addr} {v : Value} (hn : a.block ∉ d.S) (hc : W.cell? a = some v) : w.cell? a = some v := h.tch.cell hn hc
end
theorem OneC.up {W w : World} {d : OneD} {v1 v2 : Value} {L : Nat → Bool} {a1 a2 a3 i : Nat} (hi : (Nat.beq a1 i || Nat.beq a2 i || Nat.beq a3 i) = false)
    (h : OneC W d (L a1) (L a2) (L a3) v1 v2 w) : OneC W d (upd L i a1) (upd L i a2) (upd L i a3) v1 v2 w := by
  simp only [Bool.or_eq_false_iff] at hi
  obtain ⟨⟨h1, h2⟩, h3⟩ := hi
  simpa only [upd, h1, h2, h3, cond_false] using h
abbrev OneF (W : World) (d : OneD) (a1 a2 a3 : Nat) (L : Nat → Bool) (V : Nat → Value) (w : World) : Prop := OneC W d (L a1) (L a2) (L a3) (V a1) (V a2) w
section
variable {W : World} {d : OneD} {l : Array Oper} {a1 a2 a3 i : Nat} {o : Oper}
theorem OneC.ev_list {L : Nat → Bool} {V : Nat → Value} {w : World} (hd : (dep l a2 i && dep l a3 a2) = true) (hi : L i = false) (hc : Cl l L) (h : OneF W d a1 a2 a3 L V w) : w.cell? ⟨d.N, 1, none⟩ = some (.slice d.A d.es.length d.c) := by
  rw [Bool.and_eq_true] at hd
  have h1 := hc.not hd.2 (hc.not hd.1 hi)
  unfold OneF at h
  rw [h1] at h
  exact h.list
theorem OneC.ev_made (hs : decide (a1 < a2 ∧ a2 < a3) = true) (hok : d.ok W) {L : Nat → Bool} {V : Nat → Value} {w : World} (hd : dep l a2 a1 = true) (hi : L a1 = false) (hc : Cl l L) (h : OneF W d a1 a2 a3 L V w) :
    OneF W d a1 a2 a3 (upd L a1) (setV V a1 (.slice (some ⟨w.heap.size, 0, none⟩) 1 1)) (w.alloc (.cells (encE d.y).toArray 66)) := by
  simp only [decide_eq_true_eq] at hs
  unfold OneF at h ⊢
  have h2 := hc.not hd hi
  rw [upd_same, upd_ne L (by omega : a2 ≠ a1), upd_ne L (by omega : a3 ≠ a1), setV_same, setV_ne V _ (by omega : a2 ≠ a1), h2]
  rw [h2] at h
  exact h.made hok
theorem OneC.ev_app (hs : decide (a1 < a2 ∧ a2 < a3) = true) (hok : d.ok W) {L : Nat → Bool} {V : Nat → Value} {w : World} (h : OneF W d a1 a2 a3 L V w) (hL : L a2 = false) (hc : Cl l L) (hd : dep l a3 a2 = true)
    (hw : Waits o L) (h1 : (o.after.any fun e => Region.binds .any e && e.on == a1) = true) (ty : TypeId) :
    ∃ v w', (Builtin.append_ #[35, 35] ty #[.slice d.A d.es.length d.c, V a1]).run Try.prog w = .ok v w' ∧ OneF W d a1 a2 a3 (upd L a2) (setV V a2 v) w' := by
  simp only [decide_eq_true_eq] at hs
  unfold OneF at h ⊢
  rw [waits_at hw h1, hL, hc.not hd hL] at h
  obtain ⟨v, w', k1, k2⟩ := h.app hok ty
  refine ⟨v, w', k1, ?_⟩
  rw [upd_same, upd_ne L (by omega : a1 ≠ a2), upd_ne L (by omega : a3 ≠ a2), setV_same, setV_ne V _ (by omega : a1 ≠ a2), waits_at hw h1, hc.not hd hL]
  exact k2
theorem OneC.ev_put (hs : decide (a1 < a2 ∧ a2 < a3) = true) (hok : d.ok W) {L : Nat → Bool} {V : Nat → Value} {w : World} (h : OneF W d a1 a2 a3 L V w) (hL : L a3 = false)
    (hw : Waits o L) (h2 : (o.after.any fun e => Region.binds .any e && e.on == a2) = true) :
    (∃ A c, V a2 = .slice A (d.es.length + 1) c) ∧ ((∃ x, w.cell? ⟨d.N, 1, none⟩ = some x) ∧ w.frozen? ⟨d.N, 1, none⟩ = false) ∧ OneF W d a1 a2 a3 (upd L a3) V (w.setCell ⟨d.N, 1, none⟩ (V a2)) := by
  simp only [decide_eq_true_eq] at hs
  unfold OneF at h ⊢
  rw [waits_at hw h2, hL] at h
  refine ⟨?_, h.there, ?_⟩
  · have := h.a1
    rw [if_pos rfl] at this
    obtain ⟨A, c, e, _⟩ := this
    exact ⟨A, c, e⟩
  · rw [upd_same, upd_ne L (by omega : a1 ≠ a3), upd_ne L (by omega : a2 ≠ a3), waits_at hw h2]
    exact h.put hok
end
theorem ex_sliceE {ρ : Operand → Value} {o : Oper} {w : World} (x : Operand) (ho : o.op = .buildSlice 35 1 #[(0, x)]) (y : Ed) (hx : ρ x = edV y) : (execOp ρ o).run Try.prog w = .ok (.value (.slice (some ⟨w.heap.size, 0, none⟩) 1 1)) (w.alloc (.cells (encE y).toArray 66)) := by
  unfold execOp edV at *
  simp only [ho, hx, List.map_toArray, List.map_cons, List.map_nil]
  have h : (Instr.buildSlice 35 1 #[(0, .agg #[.int .i64 y.f, .int .i64 y.t, .int .i64 y.j, .int .i64 y.k])]).run Try.prog w = .ok (.slice (some ⟨w.heap.size, 0, none⟩) 1 1) (w.alloc (.cells (encE y).toArray 66)) := by
    simp [Instr.buildSlice, go_sem, encE]
  simp [h]
end Go.Proofs.Ytjnpchoinncbnaa
end

section
set_option linter.unusedSimpArgs false
set_option linter.unusedVariables false
namespace Go.Proofs.Ytjnpchoinncbnaa
open Go.RowKit Sw Fam
theorem wrp_bounds (n : Int) : -2048 ≤ wrp n ∧ wrp n ≤ 2047 := by unfold wrp; omega
set_option maxHeartbeats 4000000 in
set_option maxRecDepth 100000 in
theorem net_add {F : Fence} (hF : Wide F) {m Yb Pb k a b Ybk Yo : Nat} {pa pb : Int} {n : Int} {B N c cy ly : Nat} {A : Option Addr} {es : List Ed} {x : Int} {W : World} {Q : Exit → Act → World → Prop} {u0 u1 u2 u3 u10 u11 u12 u13 u14 u15 u16 u17 u18 u19 u20 u21 u22 u23 u24 u25 u26 u27 u28 u29 u30 u31 u32 u33 u34 u35 u36 u37 u38 u39 u40 u41 u42 u43 u44 u45 u46 u47 u48 u49 u50 u51 u52 u53 u54 u55 u56 u57 u58 u59 u60 u61 u62 u63 u64 u65 u66 u67 u68 u69 u70 : Value}
    (hok : OneD.ok ⟨B, N, n, A, c, es, ⟨a, b, Int.tdiv (pb - pa - wrp (pb - pa)) 4096, x.toNat⟩⟩ W)
    (p0 : W.cell? ⟨Pb, 0, none⟩ = some (.int .i64 a)) (p1 : W.cell? ⟨Pb, 1, none⟩ = some (.int .i64 b)) (hP : Pb ∉ (OneD.S ⟨B, N, n, A, c, es, ⟨a, b, Int.tdiv (pb - pa - wrp (pb - pa)) 4096, x.toNat⟩⟩))
    (y0 : W.cell? ⟨Yb, 0, none⟩ = some (.slice (some ⟨Ybk, Yo, none⟩) ly cy)) (hY : Yb ∉ (OneD.S ⟨B, N, n, A, c, es, ⟨a, b, Int.tdiv (pb - pa - wrp (pb - pa)) 4096, x.toNat⟩⟩))
    (yk : W.cell? ⟨Ybk, Yo + k, none⟩ = some (.int .i64 x)) (hYk : Ybk ∉ (OneD.S ⟨B, N, n, A, c, es, ⟨a, b, Int.tdiv (pb - pa - wrp (pb - pa)) 4096, x.toNat⟩⟩)) (hk : k < ly) (hl : ly ≤ 10000)
    (hx : 0 ≤ x ∧ x ≤ 1000) (ha : -2048 ≤ pa ∧ pa ≤ 2047) (hb : -2048 ≤ pb ∧ pb ≤ 2047)
    (hQ : ∀ a' w' v1 v2, OneC W ⟨B, N, n, A, c, es, ⟨a, b, Int.tdiv (pb - pa - wrp (pb - pa)) 4096, x.toNat⟩⟩ true true true v1 v2 w' → Q .normal a' w') :
    Code.wpIn F m Try.prog (Try.f20.sub [1, 1, 1, 1, 0, 1, 0, 1, 0, 1, 1]) Q ⟨#[u0, u1, u2, u3, .pointer (some ⟨N, 0, none⟩), .pointer (some ⟨Yb, 0, none⟩), .int .i64 k, .pointer (some ⟨Pb, 0, none⟩), .int .i64 pa, .int .i64 pb, u10, u11, u12, u13, u14, u15, u16, u17, u18, u19, u20, u21, u22, u23, u24, u25, u26, u27, u28, u29, u30, u31, u32, u33, u34, u35, u36, u37, u38, u39, u40, u41, u42, u43, u44, u45, u46, u47, u48, u49, u50, u51, u52, u53, u54, u55, u56, u57, u58, u59, u60, u61, u62, u63, u64, u65, u66, u67, u68, u69, u70], []⟩ W := by
  conv => arg 4; whnf
  dsimp only
  have HK := Lib.hid hok; clear hok
  have HQ := Lib.hid hQ; clear hQ
  obtain ⟨x1, x2⟩ := hx
  obtain ⟨ha1, ha2⟩ := ha
  obtain ⟨hb1, hb2⟩ := hb
  have hw := wrp_bounds (pb - pa)
  generalize hwe : wrp (pb - pa) = wv at *
  have hj := jump_le (d := pb - pa) (by omega)
  rw [hwe] at hj
  have hxx : ((x.toNat : Nat) : Int) = x := by omega
  have HW := Lib.hid hwe; clear hwe
  generalize hte : Int.tdiv (pb - pa - wv) 4096 = j at *
  have HT := Lib.hid hte; clear hte
  generalize hye : (⟨a, b, j, x.toNat⟩ : Ed) = y at *
  have HYe := Lib.hid hye; clear hye
  refine regionIn_rel hF (by kernel_rfl) (by kernel_rfl) (by kernel_rfl) (fun L V w' => OneC W ⟨B, N, n, A, c, es, y⟩ (L 20) (L 21) (L 23) (V 20) (V 21) w') (OneC.start HK.out _ rfl) ?_
  (refine rel_val rfl (.pointer (some ⟨N, 1, none⟩)) (fun _ _ _ h => OneC.up rfl h) (fun V L w h1 h2 h3 hC => by unfold execOp; go_simp; try exact IntWalk.i64_in _ (by omega)) ?_; simp only [Act.put, List.setIfInBounds_toArray, List.set_cons_succ, List.set_cons_zero])
  refine rel_val rfl (.slice A es.length c) (fun _ _ _ h => OneC.up rfl h) (fun V L w h1 h2 h3 hC => ex_load1 _ _ rfl _ rfl (OneC.ev_list (by kernel_rfl) h1 h3 hC) _ Try.underlying35 rfl) ?_
  simp only [Act.put, List.setIfInBounds_toArray, List.set_cons_succ, List.set_cons_zero]
  (refine rel_val rfl (.pointer (some ⟨Pb, 0, none⟩)) (fun _ _ _ h => OneC.up rfl h) (fun V L w h1 h2 h3 hC => by unfold execOp; go_simp; try exact IntWalk.i64_in _ (by omega)) ?_; simp only [Act.put, List.setIfInBounds_toArray, List.set_cons_succ, List.set_cons_zero])
  (refine rel_val rfl _ (fun _ _ _ h => OneC.up rfl h) (fun V L w h1 h2 h3 hC => ex_load1 _ _ rfl _ rfl (OneC.far hC (by exact hP) p0) _ Try.underlying3 rfl) ?_; simp only [Act.put, List.setIfInBounds_toArray, List.set_cons_succ, List.set_cons_zero])
  (refine rel_val rfl (.pointer (some ⟨Pb, 1, none⟩)) (fun _ _ _ h => OneC.up rfl h) (fun V L w h1 h2 h3 hC => by unfold execOp; go_simp; try exact IntWalk.i64_in _ (by omega)) ?_; simp only [Act.put, List.setIfInBounds_toArray, List.set_cons_succ, List.set_cons_zero])
  (refine rel_val rfl _ (fun _ _ _ h => OneC.up rfl h) (fun V L w h1 h2 h3 hC => ex_load1 _ _ rfl _ rfl (OneC.far hC (by exact hP) p1) _ Try.underlying3 rfl) ?_; simp only [Act.put, List.setIfInBounds_toArray, List.set_cons_succ, List.set_cons_zero])
  (refine rel_val rfl (.int .i64 pb) (fun _ _ _ h => OneC.up rfl h) (fun V L w h1 h2 h3 hC => by unfold execOp; go_simp; try exact IntWalk.i64_in _ (by omega)) ?_; simp only [Act.put, List.setIfInBounds_toArray, List.set_cons_succ, List.set_cons_zero])
  (refine rel_val rfl (.int .i64 pa) (fun _ _ _ h => OneC.up rfl h) (fun V L w h1 h2 h3 hC => by unfold execOp; go_simp; try exact IntWalk.i64_in _ (by omega)) ?_; simp only [Act.put, List.setIfInBounds_toArray, List.set_cons_succ, List.set_cons_zero])
  (refine rel_val rfl (.int .i64 (pb - pa)) (fun _ _ _ h => OneC.up rfl h) (fun V L w h1 h2 h3 hC => by unfold execOp; go_simp; try exact IntWalk.i64_in _ (by omega)) ?_; simp only [Act.put, List.setIfInBounds_toArray, List.set_cons_succ, List.set_cons_zero])
  (refine rel_val rfl (.int .i64 pb) (fun _ _ _ h => OneC.up rfl h) (fun V L w h1 h2 h3 hC => by unfold execOp; go_simp; try exact IntWalk.i64_in _ (by omega)) ?_; simp only [Act.put, List.setIfInBounds_toArray, List.set_cons_succ, List.set_cons_zero])
  (refine rel_val rfl (.int .i64 pa) (fun _ _ _ h => OneC.up rfl h) (fun V L w h1 h2 h3 hC => by unfold execOp; go_simp; try exact IntWalk.i64_in _ (by omega)) ?_; simp only [Act.put, List.setIfInBounds_toArray, List.set_cons_succ, List.set_cons_zero])
  (refine rel_val rfl (.int .i64 (pb - pa)) (fun _ _ _ h => OneC.up rfl h) (fun V L w h1 h2 h3 hC => by unfold execOp; go_simp; try exact IntWalk.i64_in _ (by omega)) ?_; simp only [Act.put, List.setIfInBounds_toArray, List.set_cons_succ, List.set_cons_zero])
  refine rel_fix rfl (.int .i64 wv) (fun V L w h1 h2 h3 hC => ?_) ?_
  · rw [ex_call1 39 (.tmp 58) _ rfl rfl rfl (enters_fn Try.func39 (by kernel_rfl) rfl)]
    refine (wrapped_c _ _).mono ?_
    rintro e w' ⟨rfl, rfl⟩
    exact ⟨_, rfl, by rw [← HW.out], OneC.up rfl hC⟩
  simp only [Act.put, List.setIfInBounds_toArray, List.set_cons_succ, List.set_cons_zero]
  (refine rel_val rfl (.int .i64 (pb - pa - wv)) (fun _ _ _ h => OneC.up rfl h) (fun V L w h1 h2 h3 hC => by unfold execOp; go_simp; try exact IntWalk.i64_in _ (by omega)) ?_; simp only [Act.put, List.setIfInBounds_toArray, List.set_cons_succ, List.set_cons_zero])
  refine rel_val rfl (.int .i64 j) (fun _ _ _ h => OneC.up rfl h) (fun V L w h1 h2 h3 hC => ?_) ?_
  · unfold execOp
    go_simp
    rw [HT.out]
    exact IntWalk.i64_in j (by omega)
  simp only [Act.put, List.setIfInBounds_toArray, List.set_cons_succ, List.set_cons_zero]
  (refine rel_val rfl _ (fun _ _ _ h => OneC.up rfl h) (fun V L w h1 h2 h3 hC => ex_load1 _ _ rfl _ rfl (OneC.far hC (by exact hY) y0) _ Try.underlying22 rfl) ?_; simp only [Act.put, List.setIfInBounds_toArray, List.set_cons_succ, List.set_cons_zero])
  (refine rel_val rfl (.int .i64 k) (fun _ _ _ h => OneC.up rfl h) (fun V L w h1 h2 h3 hC => by unfold execOp; go_simp; try exact IntWalk.i64_in _ (by omega)) ?_; simp only [Act.put, List.setIfInBounds_toArray, List.set_cons_succ, List.set_cons_zero])
  (refine rel_val rfl (.pointer (some ⟨Ybk, Yo + k, none⟩)) (fun _ _ _ h => OneC.up rfl h) (fun V L w h1 h2 h3 hC => by unfold execOp; go_simp; try exact IntWalk.i64_in _ (by omega)) ?_; simp only [Act.put, List.setIfInBounds_toArray, List.set_cons_succ, List.set_cons_zero])
  (refine rel_val rfl _ (fun _ _ _ h => OneC.up rfl h) (fun V L w h1 h2 h3 hC => ex_load1 _ _ rfl _ rfl (OneC.far hC (by exact hYk) yk) _ Try.underlying3 rfl) ?_; simp only [Act.put, List.setIfInBounds_toArray, List.set_cons_succ, List.set_cons_zero])
  (refine rel_val rfl (.agg #[.int .i64 a, .int .i64 b, .int .i64 j, .int .i64 x]) (fun _ _ _ h => OneC.up rfl h) (fun V L w h1 h2 h3 hC => by unfold execOp; go_simp; try exact IntWalk.i64_in _ (by omega)) ?_; simp only [Act.put, List.setIfInBounds_toArray, List.set_cons_succ, List.set_cons_zero])
  refine rel_free rfl (fun V L w h1 h2 h3 hC => ?_) ?_
  · rw [ex_sliceE _ rfl y (by rw [← HYe.out, edV, hxx]; rfl)]
    exact OneC.ev_made (by decide) HK.out (by kernel_rfl) h1 h3 hC
  simp only [Act.put, List.setIfInBounds_toArray, List.set_cons_succ, List.set_cons_zero]
  refine rel_free rfl (fun V L w h1 h2 h3 hC => ?_) ?_
  · obtain ⟨v, w', k1, k2⟩ := OneC.ev_app (by decide) HK.out hC h1 h3 (by kernel_rfl) h2 (by kernel_rfl) _
    rw [ex_append _ _ _ rfl rfl rfl k1]
    exact k2
  simp only [Act.put, List.setIfInBounds_toArray, List.set_cons_succ, List.set_cons_zero]
  (refine rel_val rfl (.pointer (some ⟨N, 1, none⟩)) (fun _ _ _ h => OneC.up rfl h) (fun V L w h1 h2 h3 hC => by unfold execOp; go_simp; try exact IntWalk.i64_in _ (by omega)) ?_; simp only [Act.put, List.setIfInBounds_toArray, List.set_cons_succ, List.set_cons_zero])
  refine rel_fix rfl undef (fun V L w h1 h2 h3 hC => ?_) ?_
  · obtain ⟨⟨A1, c1, k1⟩, ⟨⟨x, k2⟩, k3⟩, k4⟩ := OneC.ev_put (by decide) HK.out hC h1 h2 (by kernel_rfl)
    rw [ex_store1 35 _ _ rfl N 1 _ rfl rfl k2 k3 (by kernel_rfl) (by rw [k1]; rfl) (by rw [k1]; rfl)]
    exact ⟨rfl, k4⟩
  simp only [Act.put, List.setIfInBounds_toArray, List.set_cons_succ, List.set_cons_zero]
  intro V L w' hL hC
  rw [hL 20 (by decide), hL 21 (by decide), hL 23 (by decide)] at hC
  exact HQ.out _ w' _ _ hC
end Go.Proofs.Ytjnpchoinncbnaa
end
