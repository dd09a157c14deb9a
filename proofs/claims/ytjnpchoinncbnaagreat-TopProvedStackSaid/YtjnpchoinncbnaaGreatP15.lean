/- Proves parts of the statement, each under the conditions that its theorem states: symMerge: the general case; symMerge, SortStableFunc: the sort is stable; SortStableFunc at numbers 0, 1, ..: sorted by the comparison, and among equals as they are numbered; SortStableFunc at a list of numbers, and at none. -/
import Derived.Test.YtjnpchoinncbnaaGreatP14
set_option linter.unusedSimpArgs false
set_option linter.unusedVariables false
set_option maxHeartbeats 4000000
set_option maxRecDepth 100000
section
namespace Go.Proofs.YtjnpchoinncbnaaGreat
open Go.RowKit Sw Fam
def SymOk (g : FuncId) (cap : Array Value) (L : Int → Int) (M : Int) (b o c n N : Nat) (w0 : World) : Prop :=
  ∀ (a m e : Nat) (xs : List Int) (W : World), a < m → m < e → e ≤ n → e - a < N → Tch [b] w0 W → DatM W b o c xs → Dom M xs → xs.length = n → Std L xs a m → Std L xs m e → Old xs a m e →
    Calls Tryz.prog 89 #[.slice (some ⟨b, o, none⟩) n c, .int .i64 a, .int .i64 m, .int .i64 e, .func (.func g) #[] cap] W (IPost L b o c a e xs W)
theorem symL {g : FuncId} {cap : Array Value} {L : Int → Int} {M : Int} {b o c a m e n mid s0 r0 : Nat} {xs : List Int} {w0 w : World} {u5 u6 u7 u8 u9 u10 u11 u12 u13 u14 u15 u16 u17 u22 u23 u24 u25 u26 u27 u28 u29 u30 u31 u32 u33 u34 u35 u36 u37 u38 u39 u40 u41 u42 u43 u44 u45 u46 u47 u48 u49 u50 u51 u52 u53 u54 u55 u56 u57 u58 u59 u60 u61 u62 u63 u64 u65 u66 u67 u68 u69 u70 u71 u72 u73 u74 u75 u76 u77 u78 u79 u80 u81 u82 u83 u84 u85 u86 u87 u88 u89 u90 u91 u92 u93 u94 u95 u96 u97 u98 u99 u100 u101 u102 u103 u104 u105 u106 u107 u108 u109 u110 u111 u112 u113 u114 u115 u116 u117 u118 u119 u120 u121 u122 u123 u124 u125 u126 u127 u128 u129 u130 u131 u132 u133 u134 u135 u136 u137 u138 u139 u140 u141 u142 u143 u144 u145 u146 u147 u148 u149 u150 u151 u152 u153 u154 u155 u156 u157 u158 u159 u160 u161 u162 u163 u164 u165 u166 u167 u168 u169 u170 u171 u172 u173 u174 u175 u176 u177 u178 u179 u180 u181 u182 u183 u184 u185 u186 u187 u188 u189 u190 u191 u192 u193 u194 u195 u196 u197 u198 u199 u200 u201 u202 u203 u204 u205 u206 u207 u208 u209 u210 u211 u212 u213 u214 u215 u216 u217 u218 u219 : Value} (hc : CmpOk g cap L M b w0) (hT0 : Tch [b] w0 w) (hD : DatM w b o c xs) (hm : Dom M xs) (hn : xs.length = n) (h1 : a + 1 < m) (h2 : m + 1 < e) (h3 : e ≤ n) (hl : n ≤ 100000)
    (hs1 : Std L xs a m) (hs2 : Std L xs m e) (ho : Old xs a m e) (IH : SymOk g cap L M b o c n (e - a) w0)
    (m1 : a < mid) (m2 : mid < e) (f1 : a ≤ s0) (f2 : s0 ≤ r0) (f3 : r0 ≤ m) (f4 : r0 ≤ mid) (f5 : mid + m ≤ e + s0) (f6 : s0 = a ∨ mid + m = e + s0) (f7 : r0 = m ∨ r0 = mid) :
    Code.wp Tryz.prog (Tryz.f89.sub [1, 1, 1, 1, 1, 1]) (bodyPost Tryz.prog Tryz.f89 (IPost L b o c a e xs w)) ⟨#[.slice (some ⟨b, o, none⟩) n c, .int .i64 a, .int .i64 m, .int .i64 e, .func (.func g) #[] cap, u5, u6, u7, u8, u9, u10, u11, u12, u13, u14, u15, u16, u17, .int .i64 mid, .int .i64 ((mid : Int) + (m : Int)), .int .i64 s0, .int .i64 r0, u22, u23, u24, u25, u26, u27, u28, u29, u30, u31, u32, u33, u34, u35, u36, u37, u38, u39, u40, u41, u42, u43, u44, u45, u46, u47, u48, u49, u50, u51, u52, u53, u54, u55, u56, u57, u58, u59, u60, u61, u62, u63, u64, u65, u66, u67, u68, u69, u70, u71, u72, u73, u74, u75, u76, u77, u78, u79, u80, u81, u82, u83, u84, u85, u86, u87, u88, u89, u90, u91, u92, u93, u94, u95, u96, u97, u98, u99, u100, u101, u102, u103, u104, u105, u106, u107, u108, u109, u110, u111, u112, u113, u114, u115, u116, u117, u118, u119, u120, u121, u122, u123, u124, u125, u126, u127, u128, u129, u130, u131, u132, u133, u134, u135, u136, u137, u138, u139, u140, u141, u142, u143, u144, u145, u146, u147, u148, u149, u150, u151, u152, u153, u154, u155, u156, u157, u158, u159, u160, u161, u162, u163, u164, u165, u166, u167, u168, u169, u170, u171, u172, u173, u174, u175, u176, u177, u178, u179, u180, u181, u182, u183, u184, u185, u186, u187, u188, u189, u190, u191, u192, u193, u194, u195, u196, u197, u198, u199, u200, u201, u202, u203, u204, u205, u206, u207, u208, u209, u210, u211, u212, u213, u214, u215, u216, u217, u218, u219], []⟩ w := by
  have HC := Lib.hid hc; clear hc
  have HT0 := Lib.hid hT0; clear hT0
  have HD := Lib.hid hD; clear hD
  have HM := Lib.hid hm; clear hm
  have HN := Lib.hid hn; clear hn
  have HS := Lib.hid (And.intro hs1 (And.intro hs2 ho)); clear hs1 hs2 ho
  have HI := Lib.hid IH; clear IH
  have HF := Lib.hid (And.intro f6 f7); clear f6 f7
  show Code.wp Tryz.prog (.seq (Tryz.f89.sub [1, 1, 1, 1, 1, 1, 0]) (.seq (Tryz.f89.sub [1, 1, 1, 1, 1, 1, 1, 0]) (.seq (Tryz.f89.sub [1, 1, 1, 1, 1, 1, 1, 1, 0]) (.seq (Tryz.f89.sub [1, 1, 1, 1, 1, 1, 1, 1, 1, 0]) (.seq (Tryz.f89.sub [1, 1, 1, 1, 1, 1, 1, 1, 1, 1, 0]) (Tryz.f89.sub [1, 1, 1, 1, 1, 1, 1, 1, 1, 1, 1])))))) _ _ _
  refine wp_seq ?_
  conv => arg 2; whnf
  dsimp only
  obtain ⟨pp, hpp⟩ : ∃ pp : Nat, (mid : Int) + (m : Int) - 1 = (pp : Int) := ⟨mid + m - 1, by omega⟩
  go_wp2_with fail
  conv => arg 2; whnf
  go_wp2_with fail
  go_loopw [20, 21, 23] (fun v20 v21 v23 wr => ∃ s r : Nat, v20 = .int .i64 s ∧ v21 = .int .i64 r ∧ s0 ≤ s ∧ s ≤ r ∧ r ≤ r0 ∧ Below w.heap.size w wr ∧ (∀ k, s0 ≤ k → k < s → lx L (gi xs k) (gi xs (pp - k))) ∧ (∀ k, r ≤ k → k < r0 → lx L (gi xs (pp - k)) (gi xs k))) (fun v20 v21 _ _ => (intOf v21).toNat - (intOf v20).toNat)
  case atStart => exact ⟨s0, r0, rfl, rfl, Nat.le_refl _, f2, Nat.le_refl _, Below.refl _ _, fun k k1 k2 => by omega, fun k k1 k2 => by omega⟩
  case round =>
    obtain ⟨s, r, rfl, rfl, hs, hsr, hr, hB, hlo, hup⟩ := hrel
    have K := Lib.hid (And.intro hB (And.intro hlo hup)); clear hB hlo hup
    by_cases hlt : s < r
    · have hij2 : (s : Int) + r ≤ 200000 := by omega
      obtain ⟨h, hh⟩ : ∃ h : Nat, ((s : Int) + (r : Int)) / 2 = (h : Int) := ⟨(s + r) / 2, by omega⟩
      obtain ⟨hh1, hh2⟩ : s ≤ h ∧ h < r := by omega
      obtain ⟨q, hq⟩ : ∃ q : Nat, (pp : Int) - (h : Int) = (q : Int) := ⟨pp - h, by omega⟩
      have hqp : pp - h = q := by omega
      have hhn : (h : Int) < n := by omega
      have hqn : (q : Int) < n := by omega
      have hdom : ∀ k, k < n → 0 ≤ gi xs k ∧ gi xs k < M := fun k hk => HM.out k (by rw [HN.out]; exact hk)
      have hDr := HD.out.keep K.out.1
      obtain ⟨x1, x2⟩ := hdom (q) (by omega)
      obtain ⟨y1, y2⟩ := hdom (h) (by omega)
      have c1 := hDr.cell (j := q) (by have := HN.out; omega)
      have c2 := hDr.cell (j := h) (by have := HN.out; omega)
      obtain ⟨bx1, bx2⟩ := HC.out.bd _ x1 x2
      obtain ⟨by1, by2⟩ := HC.out.bd _ y1 y2
      have hlt' : gi xs (h) < gi xs (q) := HS.out.2.2 h q (by omega) (by omega) (by omega) (by omega)
      have hlx0 := lx_lt (L := L) hlt'
      have hne := Lib.hid (show gi xs (q) ≠ gi xs (h) from fun e => by rw [e] at hlt'; omega)
      clear hlt'
      obtain ⟨LX, hLX⟩ : ∃ z, L (gi xs (q)) = z := ⟨_, rfl⟩
      obtain ⟨LY, hLY⟩ : ∃ z, L (gi xs (h)) = z := ⟨_, rfl⟩
      rw [hLX] at bx1 bx2
      rw [hLY] at by1 by2
      rw [hLX, hLY] at hlx0
      have hlx := Lib.hid hlx0; clear hlx0
      obtain ⟨X, hX⟩ : ∃ X, gi xs (q) = X := ⟨_, rfl⟩
      obtain ⟨Y, hY⟩ : ∃ Y, gi xs (h) = Y := ⟨_, rfl⟩
      rw [hX] at c1 x1 x2 hLX
      rw [hY] at c2 y1 y2 hLY
      have HXY := Lib.hid (And.intro (And.intro x1 x2) (And.intro y1 y2))
      clear x1 x2 y1 y2
      have HL := Lib.hid (And.intro (And.intro hX hY) (And.intro hLX hLY))
      clear hX hY hLX hLY
      clear hdom hDr
      by_cases hneg : LX - LY < 0
      · have hdn : decide (LX - LY < 0) = true := decide_eq_true hneg
        have HNG := Lib.hid (hlx.out.1 hneg); clear hneg
        go_wp2_with fail
        refine region_rel (by kernel_rfl) (by kernel_rfl) (by kernel_rfl) (fun _ _ w' => Below wr.heap.size wr w') ((Below.refl _ _).drew) ?_
        (repeat (refine relq rfl rfl (fun _ _ _ h => h) (fun K hK => ?_); go_big_quiet_op; (refine hK _ ?_; clear hK K)))
        refine relk_val rfl (.int .i64 X) (fun _ _ _ h => h) (fun V L w' h1 h2 h3 hC => exec_load_int (.tmp 163) rfl ⟨b, o + (q), none⟩ rfl (cellB hC c1)) (fun K hK => ?_)
        simp only [Fam.pt]
        refine hK _ ?_
        clear hK K
        (repeat (refine relq rfl rfl (fun _ _ _ h => h) (fun K hK => ?_); go_big_quiet_op; (refine hK _ ?_; clear hK K)))
        refine relk_val rfl (.int .i64 Y) (fun _ _ _ h => h) (fun V L w' h1 h2 h3 hC => exec_load_int (.tmp 167) rfl ⟨b, o + (h), none⟩ rfl (cellB hC c2)) (fun K hK => ?_)
        simp only [Fam.pt]
        refine hK _ ?_
        clear hK K
        (repeat (refine relq rfl rfl (fun _ _ _ h => h) (fun K hK => ?_); go_big_quiet_op; (refine hK _ ?_; clear hK K)))
        refine relk_fix rfl (.int .i64 (LX - LY)) (fun V L' w2 h1 h2 h3 hB => ?_) (fun K hK => ?_)
        · rw [ex_callv2 (.tmp 158) (.tmp 164) (.tmp 168) _ rfl g cap rfl rfl rfl HC.out.ent]
          have hTW : Tch [b] w0 w2 := (HT0.out.trans (Tch.of_below K.out.1)).trans (Tch.of_below hB)
          have hdm := HXY.out
          refine (HC.out.call w2 X Y hTW (by omega) (by omega) (by omega) (by omega)).mono ?_
          rintro e w' ⟨rfl, hB2⟩
          exact ⟨_, rfl, by rw [HL.out.2.1, HL.out.2.2], hB.trans (hB2.mono hB.size)⟩
        simp only [Fam.pt]
        refine hK _ ?_
        clear hK K
        (repeat (refine relq rfl rfl (fun _ _ _ h => h) (fun K hK => ?_); go_big_quiet_op; (refine hK _ ?_; clear hK K)))
        refine relk_end (fun L' V W1 hL hC1 => ?_)
        have K1 := Lib.hid hC1; clear hC1
        clear hL L' V
        go_wp2_with fail
        go_roundw
        case rel => exact ⟨s, h, rfl, rfl, hs, by omega, by omega, K.out.1.trans (K1.out.mono K.out.1.size), K.out.2.1, fun l l1 l2 => by
          by_cases e1 : r ≤ l
          · exact K.out.2.2 l e1 l2
          · by_cases e2 : l = h
            · subst e2; rw [hqp]; exact HNG.out
            · exact lx_trans (HS.out.2.1 (pp - l) q (by omega) (by omega) (by omega)) (lx_trans HNG.out (HS.out.1 h l (by omega) (by omega) (by omega)))⟩
        case measure => simp [intOf]; omega
      · have hdn : decide (LX - LY < 0) = false := decide_eq_false hneg
        have HNG := Lib.hid (lx_or hne.out (fun k => hneg (hlx.out.2 k))); clear hneg
        go_wp2_with fail
        refine region_rel (by kernel_rfl) (by kernel_rfl) (by kernel_rfl) (fun _ _ w' => Below wr.heap.size wr w') ((Below.refl _ _).drew) ?_
        (repeat (refine relq rfl rfl (fun _ _ _ h => h) (fun K hK => ?_); go_big_quiet_op; (refine hK _ ?_; clear hK K)))
        refine relk_val rfl (.int .i64 X) (fun _ _ _ h => h) (fun V L w' h1 h2 h3 hC => exec_load_int (.tmp 163) rfl ⟨b, o + (q), none⟩ rfl (cellB hC c1)) (fun K hK => ?_)
        simp only [Fam.pt]
        refine hK _ ?_
        clear hK K
        (repeat (refine relq rfl rfl (fun _ _ _ h => h) (fun K hK => ?_); go_big_quiet_op; (refine hK _ ?_; clear hK K)))
        refine relk_val rfl (.int .i64 Y) (fun _ _ _ h => h) (fun V L w' h1 h2 h3 hC => exec_load_int (.tmp 167) rfl ⟨b, o + (h), none⟩ rfl (cellB hC c2)) (fun K hK => ?_)
        simp only [Fam.pt]
        refine hK _ ?_
        clear hK K
        (repeat (refine relq rfl rfl (fun _ _ _ h => h) (fun K hK => ?_); go_big_quiet_op; (refine hK _ ?_; clear hK K)))
        refine relk_fix rfl (.int .i64 (LX - LY)) (fun V L' w2 h1 h2 h3 hB => ?_) (fun K hK => ?_)
        · rw [ex_callv2 (.tmp 158) (.tmp 164) (.tmp 168) _ rfl g cap rfl rfl rfl HC.out.ent]
          have hTW : Tch [b] w0 w2 := (HT0.out.trans (Tch.of_below K.out.1)).trans (Tch.of_below hB)
          have hdm := HXY.out
          refine (HC.out.call w2 X Y hTW (by omega) (by omega) (by omega) (by omega)).mono ?_
          rintro e w' ⟨rfl, hB2⟩
          exact ⟨_, rfl, by rw [HL.out.2.1, HL.out.2.2], hB.trans (hB2.mono hB.size)⟩
        simp only [Fam.pt]
        refine hK _ ?_
        clear hK K
        (repeat (refine relq rfl rfl (fun _ _ _ h => h) (fun K hK => ?_); go_big_quiet_op; (refine hK _ ?_; clear hK K)))
        refine relk_end (fun L' V W1 hL hC1 => ?_)
        have K1 := Lib.hid hC1; clear hC1
        clear hL L' V
        go_wp2_with fail
        go_roundw
        case rel => exact ⟨h + 1, r, by go_num, rfl, by omega, by omega, hr, K.out.1.trans (K1.out.mono K.out.1.size), fun l l1 l2 => by
          by_cases e1 : l < s
          · exact K.out.2.1 l l1 e1
          · by_cases e2 : l = h
            · subst e2; rw [hqp]; exact HNG.out
            · exact lx_trans (lx_trans (HS.out.1 l h (by omega) (by omega) (by omega)) HNG.out) (HS.out.2.1 q (pp - l) (by omega) (by omega) (by omega)), K.out.2.2⟩
        case measure => simp [intOf]; omega
    · obtain rfl : s = r := by omega
      obtain ⟨e1, he1⟩ : ∃ e1 : Nat, (mid : Int) + (m : Int) - (s : Int) = (e1 : Int) := ⟨mid + m - s, by omega⟩
      go_wp2_with fail
      conv => arg 2; whnf
      go_wp2_with fail
      have hcut : Cutp L xs a m e s e1 := ⟨by omega, by omega, by omega, by omega, fun k1 k2 => by
          have := HF.out.1
          have h' := K.out.2.1 (s - 1) (by omega) (by omega)
          rwa [show pp - (s - 1) = e1 by omega] at h', fun k1 k2 => by
          have := HF.out.2
          have h' := K.out.2.2 s (Nat.le_refl _) (by omega)
          rwa [show pp - s = e1 - 1 by omega] at h'⟩
      have HCut := Lib.hid hcut; clear hcut
      have hDr := HD.out.keep K.out.1
      refine symR (by omega) (by omega) (by omega) hl hDr HN.out ?_
      intro v178 v179 v180 v181 v182 v183 v184 v185 v186 v187 v188 v189 v190 v191 W2 hTn
      obtain ⟨hT2, ys, hY2, hSg2, hr2⟩ := hTn
      have hrd := HCut.out.rotd HS.out.1 HS.out.2.1 HS.out.2.2 (show mid = s + (e1 - m) by omega) hr2
      have HR := Lib.hid (And.intro hrd (And.intro hT2 (And.intro hY2 (And.intro hSg2 hr2)))); clear hrd hT2 hY2 hSg2 hr2 hDr
      rename_i K5 hK5
      refine hK5 _ _ ?_
      clear hK5 K5
      have hyl : ys.length = n := by rw [HR.out.2.2.2.1.len, HN.out]
      have hTW2 := (HT0.out.trans (Tch.of_below K.out.1)).trans HR.out.2.1
      refine wp_seq ?_
      refine symM HR.out.1.le1 HR.out.1.le2 m1 HR.out.2.2.1 (fun k1 k2 => HI.out a s mid ys W2 k1 k2 (by omega) (by omega) hTW2 HR.out.2.2.1 (HM.out.seg HR.out.2.2.2.1 (by rw [HN.out]; omega)) hyl HR.out.1.s1 HR.out.1.s2 HR.out.1.o1) (fun k => by
        rcases k with k | k
        · have := HR.out.1.s2; rwa [k] at this
        · have := HR.out.1.s1; rwa [k] at this) ?_
      intro v192 v193 v194 v195 v196 v197 v198 v199 v200 v201 v202 v203 v204 v205 W3 hHf
      obtain ⟨hT3, zs, hZ3, hSg3, hSt3⟩ := hHf
      have HZ := Lib.hid (And.intro hT3 (And.intro hZ3 (And.intro hSg3 hSt3))); clear hT3 hZ3 hSg3 hSt3
      have hzl : zs.length = n := by rw [HZ.out.2.2.1.len, hyl]
      have hTW3 := hTW2.trans HZ.out.1
      have hdz : Dom M zs := (HM.out.seg HR.out.2.2.2.1 (by rw [HN.out]; omega)).seg HZ.out.2.2.1 (by rw [hyl]; omega)
      refine symN HR.out.1.le3 HR.out.1.le4 m2 HZ.out.2.1 (fun k1 k2 => HI.out mid e1 e zs W3 k1 k2 h3 (by omega) hTW3 HZ.out.2.1 hdz hzl (HR.out.1.s3.seg_out HZ.out.2.2.1 (.inr (Nat.le_refl _))) (HR.out.1.s4.seg_out HZ.out.2.2.1 (.inr HR.out.1.le3)) (HR.out.1.o2.seg_out HZ.out.2.2.1 (.inr (Nat.le_refl _)))) (fun k => by
        rcases k with k | k
        · have := HR.out.1.s4.seg_out HZ.out.2.2.1 (.inr HR.out.1.le3); rwa [k] at this
        · have := HR.out.1.s3.seg_out HZ.out.2.2.1 (.inr (Nat.le_refl _)); rwa [k] at this) ?_
      intro v206 v207 v208 v209 v210 v211 v212 v213 v214 v215 v216 v217 v218 v219 W4 hHf
      obtain ⟨hT4, us, hU4, hSg4, hSt4⟩ := hHf
      have HU := Lib.hid (And.intro hT4 (And.intro hU4 (And.intro hSg4 hSt4))); clear hT4 hU4 hSg4 hSt4
      go_end0
      refine ⟨⟨_, rfl⟩, ((Tch.of_below K.out.1).trans HR.out.2.1).trans (HZ.out.1.trans HU.out.1), us, HU.out.2.1, ?_, ?_⟩
      · exact (HR.out.2.2.2.1.mono (by omega) (by omega)).trans ((HZ.out.2.2.1.mono (Nat.le_refl _) (by omega)).trans (HU.out.2.2.1.mono (by omega) (Nat.le_refl _)))
      · exact std_join (ys := us) (HZ.out.2.2.2.seg_out HU.out.2.2.1 (.inl (Nat.le_refl _))) HU.out.2.2.2 (c_seg HR.out.1.c HZ.out.2.2.1 HU.out.2.2.1)
theorem symC_c {g : FuncId} {cap : Array Value} {L : Int → Int} {M : Int} {b o c a m e n : Nat} {xs : List Int} {w0 w : World} (hc : CmpOk g cap L M b w0) (hT0 : Tch [b] w0 w) (hD : DatM w b o c xs) (hm : Dom M xs) (hn : xs.length = n) (h1 : a + 1 < m) (h2 : m + 1 < e) (h3 : e ≤ n) (hl : n ≤ 100000)
    (hs1 : Std L xs a m) (hs2 : Std L xs m e) (ho : Old xs a m e) (IH : SymOk g cap L M b o c n (e - a) w0) :
    Calls Tryz.prog 89 #[.slice (some ⟨b, o, none⟩) n c, .int .i64 a, .int .i64 m, .int .i64 e, .func (.func g) #[] cap] w (IPost L b o c a e xs w) := by
  obtain ⟨mid, hmid⟩ : ∃ mid : Nat, ((a : Int) + (e : Int)) / 2 = (mid : Int) := ⟨(a + e) / 2, by omega⟩
  have hae : (a : Int) + e ≤ 200000 := by omega
  have hb1 : (((m : Int) - (a : Int)) == 1) = false := by simp; omega
  have hb2 : (((e : Int) - (m : Int)) == 1) = false := by simp; omega
  have HC := Lib.hid hc; clear hc
  have HT0 := Lib.hid hT0; clear hT0
  have HD := Lib.hid hD; clear hD
  have HM := Lib.hid hm; clear hm
  have HN := Lib.hid hn; clear hn
  have HS := Lib.hid (And.intro hs1 (And.intro hs2 ho)); clear hs1 hs2 ho
  have HI := Lib.hid IH; clear IH
  go_enter Tryz.func89, Tryz.ntmps89
  show Code.wp Tryz.prog (.seq (Tryz.f89.sub [0]) (.seq (Tryz.f89.sub [1, 0]) (.seq (Tryz.f89.sub [1, 1, 0]) (.seq (Tryz.f89.sub [1, 1, 1, 0]) (.seq (Tryz.f89.sub [1, 1, 1, 1, 0]) (.seq (Tryz.f89.sub [1, 1, 1, 1, 1, 0]) (Tryz.f89.sub [1, 1, 1, 1, 1, 1]))))))) _ _ _
  refine wp_seq ?_
  conv => arg 2; whnf
  go_wp2_with fail
  conv => arg 2; whnf
  go_wp2_with fail
  conv => arg 2; whnf
  go_wp2_with fail
  conv => arg 2; whnf
  go_wp2_with fail
  conv => arg 2; whnf
  go_wp2_with fail
  conv => arg 2; whnf
  by_cases hmm : mid < m
  · obtain ⟨s0, hs0⟩ : ∃ s0 : Nat, (mid : Int) + (m : Int) - (e : Int) = (s0 : Int) := ⟨mid + m - e, by omega⟩
    go_wp2_with fail
    exact symL HC.out HT0.out HD.out HM.out HN.out h1 h2 h3 hl HS.out.1 HS.out.2.1 HS.out.2.2 HI.out (by omega) (by omega) (by omega) (by omega) (by omega) (by omega) (by omega) (.inr (by omega)) (.inr rfl)
  · go_wp2_with fail
    exact symL HC.out HT0.out HD.out HM.out HN.out h1 h2 h3 hl HS.out.1 HS.out.2.1 HS.out.2.2 HI.out (by omega) (by omega) (by omega) (by omega) (by omega) (by omega) (by omega) (.inl rfl) (.inl rfl)
theorem sym_ok {g : FuncId} {cap : Array Value} {L : Int → Int} {M : Int} {b o c n : Nat} {w0 : World} (hc : CmpOk g cap L M b w0) (hl : n ≤ 100000) : ∀ N, SymOk g cap L M b o c n N w0 := by
  intro N
  induction N with
  | zero => intro a m e xs W h1 h2 h3 h4; omega
  | succ N ih =>
    intro a m e xs W h1 h2 h3 h4 hT hD hm hn s1 s2 ho
    by_cases c1 : m = a + 1
    · subst c1
      exact symA_c hc hT hD hm hn h2 h3 hl s2 ho
    · by_cases c2 : e = m + 1
      · subst c2
        exact symB_c hc hT hD hm hn (by omega) h3 hl s1 ho
      · refine symC_c hc hT hD hm hn (by omega) (by omega) h3 hl s1 s2 ho ?_
        intro a' m' e' xs' W' k1 k2 k3 k4
        exact ih a' m' e' xs' W' k1 k2 k3 (by omega)
theorem sym_c {g : FuncId} {cap : Array Value} {L : Int → Int} {M : Int} {b o c a m e n : Nat} {xs : List Int} {w0 w : World} (hc : CmpOk g cap L M b w0) (hT : Tch [b] w0 w) (hD : DatM w b o c xs) (hm : Dom M xs) (hn : xs.length = n) (h1 : a < m) (h2 : m < e) (h3 : e ≤ n) (hl : n ≤ 100000)
    (s1 : Std L xs a m) (s2 : Std L xs m e) (ho : Old xs a m e) : Calls Tryz.prog 89 #[.slice (some ⟨b, o, none⟩) n c, .int .i64 a, .int .i64 m, .int .i64 e, .func (.func g) #[] cap] w (IPost L b o c a e xs w) :=
  sym_ok hc hl (e - a + 1) a m e xs w h1 h2 h3 (by omega) hT hD hm hn s1 s2 ho
def SPost (L : Int → Int) (b o c n : Nat) (xs : List Int) (w : World) (e : Ending) (w' : World) : Prop := (∃ r, e = .returned r) ∧ Tch [b] w w' ∧ ∃ ys, DatM w' b o c ys ∧ ys.Perm xs ∧ Std L ys 0 n
theorem stable_c {g : FuncId} {cap : Array Value} {L : Int → Int} {b o c n : Nat} {xs : List Int} {w : World} (hc : CmpOk g cap L n b w) (hD : DatM w b o c xs) (hn : xs.length = n) (hid : ∀ i, i < n → gi xs i = i) (hn200 : n ≤ 200) :
    Calls Tryz.prog 78 #[.slice (some ⟨b, o, none⟩) n c, .int .i64 n, .func (.func g) #[] cap] w (SPost L b o c n xs w) := by
  have HC := Lib.hid hc; clear hc
  have HD := Lib.hid hD; clear hD
  have HN := Lib.hid hn; clear hn
  have HID := Lib.hid hid; clear hid
  have dom : ∀ zs : List Int, zs.Perm xs → Dom n zs := fun zs hp i hi => by
    have h1 : gi zs i ∈ xs := hp.subset (by simp [gi, hi])
    obtain ⟨j, hj, e⟩ := List.mem_iff_getElem.1 h1
    have h2 := HID.out j (by rw [← HN.out]; exact hj)
    rw [show gi xs j = xs[j] by simp [gi, hj]] at h2
    rw [← e, h2]
    have := HN.out
    omega
  have DOM := Lib.hid dom; clear dom
  go_enter Tryz.func78, Tryz.ntmps78
  go_wp2_with fail
  go_loopw [7, 8] (fun v7 v8 wr => ∃ (a : Nat) (zs : List Int), v7 = .int .i64 a ∧ v8 = .int .i64 ((a : Int) + 20) ∧ a % 20 = 0 ∧ a ≤ n ∧ Tch [b] w wr ∧ DatM wr b o c zs ∧ zs.Perm xs ∧ Blk L 20 0 a zs ∧ ∀ i, a ≤ i → i < n → gi zs i = i) (fun v7 _ _ => n - (intOf v7).toNat)
  case atStart => exact ⟨0, xs, rfl, rfl, rfl, Nat.zero_le _, Tch.refl _ _, HD.out, List.Perm.refl _, blk_start _ _ _ _, fun i _ hi => HID.out i hi⟩
  case round =>
    obtain ⟨a, zs, rfl, rfl, ha, han, hT, hZ, hP, hB, hI⟩ := hrel
    have hzl : zs.length = n := by rw [hP.length_eq, HN.out]
    have H := Lib.hid (And.intro hT (And.intro hZ (And.intro hP (And.intro hB (And.intro hI hzl))))); clear hT hZ hP hB hI hzl
    by_cases hlt : a + 20 ≤ n
    · have hlt2 : (a : Int) + 20 ≤ n := by omega
      have e1 : ((a : Int) + 20) = ((a + 20 : Nat) : Int) := by omega
      have hC := isort_c HC.out H.out.1 H.out.2.1 (DOM.out zs H.out.2.2.1) H.out.2.2.2.2.2 (p := a) (q := a + 20) (by omega) hlt (by omega) (fun i j h1 h2 h3 => by rw [H.out.2.2.2.2.1 i h1 (by omega), H.out.2.2.2.2.1 j (by omega) (by omega)]; omega)
      rw [← e1] at hC
      have HCC := Lib.hid hC; clear hC e1
      go_wp2_with fail
      refine HCC.out.mono ?_
      rintro e W2 ⟨⟨r, rfl⟩, hT2, ys, hY, hS, hSt⟩
      have J := Lib.hid (And.intro hT2 (And.intro hY (And.intro hS hSt))); clear hT2 hY hS hSt HCC
      go_wp2_with fail
      go_roundw
      case rel =>
        obtain ⟨k1, k2⟩ := blk_ins ha (Nat.le_refl _) H.out.2.2.2.1 H.out.2.2.2.2.1 hlt (by omega) J.out.2.2.1 J.out.2.2.2
        exact ⟨a + 20, ys, by go_num, by go_num, by omega, hlt, H.out.1.trans J.out.1, J.out.2.1, J.out.2.2.1.perm.trans H.out.2.2.1, k1, k2⟩
      case measure => simp [intOf]; omega
    · have hlt2 : ¬ (a : Int) + 20 ≤ n := by omega
      have HCC := Lib.hid (isort_c HC.out H.out.1 H.out.2.1 (DOM.out zs H.out.2.2.1) H.out.2.2.2.2.2 (p := a) (q := n) han (Nat.le_refl _) (by omega) (fun i j h1 h2 h3 => by rw [H.out.2.2.2.2.1 i h1 (by omega), H.out.2.2.2.2.1 j (by omega) (by omega)]; omega))
      go_wp2_with fail
      refine HCC.out.mono ?_
      rintro e W2 ⟨⟨r, rfl⟩, hT2, ys, hY, hS, hSt⟩
      obtain ⟨k1, k2⟩ := blk_ins ha (by omega) H.out.2.2.2.1 H.out.2.2.2.2.1 (Nat.le_refl n) han hS hSt
      have J := Lib.hid (And.intro (H.out.1.trans hT2) (And.intro hY (And.intro (hS.perm.trans H.out.2.2.1) k1))); clear hT2 hY hS hSt HCC k1 k2 H
      go_wp2_with fail
      go_loopw [6, 7, 8, 9] (fun v6 v7 v8 v9 wr => ∃ (s : Nat) (zs : List Int), v6 = .int .i64 s ∧ (Siz s ∨ n ≤ s) ∧ 20 ≤ s ∧ s ≤ 320 ∧ Tch [b] w wr ∧ DatM wr b o c zs ∧ zs.Perm xs ∧ Blk L s 0 n zs) (fun v6 _ _ _ _ => 320 - (intOf v6).toNat)
      case atStart => exact ⟨20, ys, rfl, .inl (.inl rfl), by omega, by omega, J.out.1, J.out.2.1, J.out.2.2.1, J.out.2.2.2⟩
      case round =>
        obtain ⟨s, zs, rfl, hz, hs20, hs320, hT, hZ, hP, hB⟩ := hrel
        have hzl : zs.length = n := by rw [hP.length_eq, HN.out]
        have H := Lib.hid (And.intro hT (And.intro hZ (And.intro hP (And.intro hB hzl)))); clear hT hZ hP hB hzl J
        by_cases hsn : s < n
        · have HZ : Siz s := by rcases hz with hz | hz; exact hz; omega
          have HZ2 : Siz (2 * s) ∨ n ≤ 2 * s := by rcases HZ with rfl | rfl | rfl | rfl <;> first | (left; unfold Siz; omega) | (right; omega)
          have hs160 : s ≤ 160 := by rcases HZ with rfl | rfl | rfl | rfl <;> omega
          have HZ := Lib.hid (And.intro HZ HZ2); clear HZ2
          go_wp2_with fail
          go_loopw [7, 8] (fun v7 v8 wr => ∃ (a : Nat) (us : List Int), v7 = .int .i64 a ∧ v8 = .int .i64 ((a : Int) + 2 * (s : Int)) ∧ a % (2 * s) = 0 ∧ a ≤ n ∧ Tch [b] w wr ∧ DatM wr b o c us ∧ us.Perm xs ∧ Blk L (2 * s) 0 a us ∧ Blk L s a n us) (fun v7 _ _ => n - (intOf v7).toNat)
          case atStart => exact ⟨0, zs, rfl, by congr 1; omega, Nat.zero_mod _, Nat.zero_le _, H.out.1, H.out.2.1, H.out.2.2.1, blk_start _ _ _ _, H.out.2.2.2.1⟩
          case round =>
            obtain ⟨a, us, rfl, rfl, ha, han, hT, hU, hP, hB0, hB1⟩ := hrel
            have hul : us.length = n := by rw [hP.length_eq, HN.out]
            have K := Lib.hid (And.intro hT (And.intro hU (And.intro hP (And.intro hB0 (And.intro hB1 hul))))); clear hT hU hP hB0 hB1 hul
            have HA := Lib.hid ha; clear ha
            by_cases hlt : a + 2 * s ≤ n
            · have hlt2 : (a : Int) + 2 * (s : Int) ≤ n := by omega
              obtain ⟨q1, q2, q3⟩ := blk_old HZ.out.1 HA.out (b := a + 2 * s) (Nat.le_refl _) K.out.2.2.2.2.1 hlt
              rw [show min (a + s) (a + 2 * s) = a + s by omega] at q1
              have hC := sym_c HC.out K.out.1 K.out.2.1 (DOM.out us K.out.2.2.1) K.out.2.2.2.2.2 (a := a) (m := a + s) (e := a + 2 * s) (by omega) (by omega) hlt (by omega) q1 q2 q3
              rw [show (((a + s : Nat) : Int)) = (a : Int) + (s : Int) by omega, show (((a + 2 * s : Nat) : Int)) = (a : Int) + 2 * (s : Int) by omega] at hC
              have HCC := Lib.hid hC; clear hC q1 q2 q3
              go_wp2_with fail
              refine HCC.out.mono ?_
              rintro e W3 ⟨⟨r, rfl⟩, hT3, vs, hV, hS, hSt⟩
              obtain ⟨k1, k2⟩ := blk_merge HZ.out.1 HA.out (.inl rfl) K.out.2.2.2.1 K.out.2.2.2.2.1 (by omega) hlt hS hSt
              have J := Lib.hid (And.intro (K.out.1.trans hT3) (And.intro hV (And.intro (hS.perm.trans K.out.2.2.1) (And.intro k1 k2)))); clear hT3 hV hS hSt HCC k1 k2
              go_wp2_with fail
              go_roundw
              case rel => exact ⟨a + 2 * s, vs, by first | rfl | go_num | (congr 1; omega), by first | go_num | (congr 1; omega), by rw [Nat.add_mod_right]; exact HA.out, hlt, J.out.1, J.out.2.1, J.out.2.2.1, J.out.2.2.2.1, J.out.2.2.2.2⟩
              case measure => simp [intOf]; omega
            · have hlt2 : ¬ (a : Int) + 2 * (s : Int) ≤ n := by omega
              by_cases hms : a + s < n
              · have hms2 : (a : Int) + (s : Int) < n := by omega
                obtain ⟨q1, q2, q3⟩ := blk_old HZ.out.1 HA.out (b := n) (by omega) K.out.2.2.2.2.1 (Nat.le_refl n)
                rw [show min (a + s) n = a + s by omega] at q1
                have hC := sym_c HC.out K.out.1 K.out.2.1 (DOM.out us K.out.2.2.1) K.out.2.2.2.2.2 (a := a) (m := a + s) (e := n) (by omega) hms (Nat.le_refl n) (by omega) q1 q2 q3
                rw [show (((a + s : Nat) : Int)) = (a : Int) + (s : Int) by omega] at hC
                have HCC := Lib.hid hC; clear hC q1 q2 q3
                go_wp2_with fail
                refine HCC.out.mono ?_
                rintro e W3 ⟨⟨r, rfl⟩, hT3, vs, hV, hS, hSt⟩
                obtain ⟨k1, k2⟩ := blk_merge HZ.out.1 HA.out (.inr ⟨rfl, by omega⟩) K.out.2.2.2.1 K.out.2.2.2.2.1 han (Nat.le_refl n) hS hSt
                have J := Lib.hid (And.intro (K.out.1.trans hT3) (And.intro hV (And.intro (hS.perm.trans K.out.2.2.1) k1))); clear hT3 hV hS hSt HCC k1 k2
                go_wp2_with fail
                go_roundw
                case rel => exact ⟨2 * s, vs, by congr 1; omega, HZ.out.2, by omega, by omega, J.out.1, J.out.2.1, J.out.2.2.1, J.out.2.2.2⟩
                case measure => simp [intOf]; omega
              · have hms2 : ¬ (a : Int) + (s : Int) < n := by omega
                have k1 := Lib.hid (blk_rest HZ.out.1 HA.out (by omega) K.out.2.2.2.1 K.out.2.2.2.2.1)
                go_wp2_with fail
                go_roundw
                case rel => exact ⟨2 * s, us, by congr 1; omega, HZ.out.2, by omega, by omega, K.out.1, K.out.2.1, K.out.2.2.1, k1.out⟩
                case measure => simp [intOf]; omega
        · clear hz
          go_wp2_with fail
          go_end0
          exact ⟨⟨_, rfl⟩, H.out.1, zs, H.out.2.1, H.out.2.2.1, blk_all (by omega) H.out.2.2.2.1⟩
theorem sortStable_c {g : FuncId} {cap : Array Value} {L : Int → Int} {b o c n : Nat} {xs : List Int} {w : World} (hc : CmpOk g cap L n b w) (hD : DatM w b o c xs) (hn : xs.length = n) (hid : ∀ i, i < n → gi xs i = i) (hn200 : n ≤ 200) :
    Calls Tryz.prog 64 #[.slice (some ⟨b, o, none⟩) n c, .func (.func g) #[] cap] w (SPost L b o c n xs w) := by
  have H := Lib.hid (stable_c hc hD hn hid hn200); clear hc hD hn hid
  go_enter Tryz.func64, Tryz.ntmps64
  go_wp2_with fail
  refine H.out.mono ?_
  rintro e w' ⟨⟨r, rfl⟩, h⟩
  have K := Lib.hid h; clear h
  go_wp2_with fail
  go_end0
  exact ⟨⟨_, rfl⟩, K.out⟩
theorem isort_nil (fv : Value) (w : World) : Calls Tryz.prog 88 #[.slice none 0 0, .int .i64 0, .int .i64 0, fv] w fun e w' => (∃ r, e = .returned r) ∧ w = w' := by
  go_enter Tryz.func88, Tryz.ntmps88
  go_wp2_with fail
  go_loop [8] (fun v8 => v8 = .int .i64 1) (fun _ => 0)
  case atStart => rfl
  case round =>
    subst hrel
    go_wp2_with fail
    go_end0
    exact ⟨⟨_, rfl⟩, rfl⟩
theorem stable_nil (fv : Value) (w : World) : Calls Tryz.prog 78 #[.slice none 0 0, .int .i64 0, fv] w fun e w' => (∃ r, e = .returned r) ∧ w = w' := by
  go_enter Tryz.func78, Tryz.ntmps78
  go_wp2_with fail
  go_loop [7, 8] (fun v7 v8 => v7 = .int .i64 0 ∧ v8 = .int .i64 20) (fun _ _ => 0)
  case atStart => exact ⟨rfl, rfl⟩
  case round =>
    obtain ⟨rfl, rfl⟩ := hrel
    go_wp2_with fail
    refine (isort_nil fv _).mono ?_
    rintro e w' ⟨⟨r, rfl⟩, rfl⟩
    go_wp2_with fail
    go_loop [6] (fun v6 => v6 = .int .i64 20) (fun _ => 0)
    case atStart => rfl
    case round =>
      subst hrel
      go_wp2_with fail
      go_end0
      exact ⟨⟨_, rfl⟩, rfl⟩
theorem sortStable_nil (fv : Value) (w : World) : Calls Tryz.prog 64 #[.slice none 0 0, fv] w fun e w' => (∃ r, e = .returned r) ∧ w = w' := by
  go_enter Tryz.func64, Tryz.ntmps64
  go_wp2_with fail
  refine (stable_nil fv _).mono ?_
  rintro e w' ⟨⟨r, rfl⟩, rfl⟩
  go_wp2_with fail
  go_end0
  exact ⟨⟨_, rfl⟩, rfl⟩
end Go.Proofs.YtjnpchoinncbnaaGreat
end
