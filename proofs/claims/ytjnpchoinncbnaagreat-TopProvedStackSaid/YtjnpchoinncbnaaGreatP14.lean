/- Proves parts of the statement, each under the conditions that its theorem states: Insertion sort by a comparison; symMerge where the first neighbour has one element; symMerge where the second neighbour has one element; symMerge: the rotation and the two merges of the halves. -/
import Derived.Test.YtjnpchoinncbnaaGreatP13
import Derived.Test.YtjnpchoinncbnaaGreatP07
import Derived.Test.YtjnpchoinncbnaaGreatP11
import Derived.Test.YtjnpchoinncbnaaGreatP04
set_option linter.unusedSimpArgs false
set_option linter.unusedVariables false
set_option maxHeartbeats 4000000
set_option maxRecDepth 100000
section
namespace Go.Fam
open RowKit
variable {P : Program} {ρ : Operand → Value} {o : Oper} {w : World}
theorem ex_callv2 (z x y : Operand) (ts : Array TypeId) (ho : o.op = .call { callee := .value z, args := #[x, y], argTypes := ts }) (f : FuncId) (cap : Array Value) {a b : Value} (hx : ρ x = a) (hy : ρ y = b) (hf : ρ z = .func (.func f) #[] cap)
    (he : ∀ args w, (callFunc f args).run P w = .ok (.enter f args) w) : (execOp ρ o).run P w = .ok (.enter f (#[a, b] ++ cap)) w := by
  unfold execOp
  simp only [ho, resolve, List.map_toArray, List.map_cons, List.map_nil, hx, hy, hf, Deferred.ofValue, Sem.run_bind, Sem.run_pure, Result.andThen_ok, invoke]
  simp [he]
section
variable {ops : Array Oper} {C : (Nat → Bool) → (Nat → Value) → World → Prop} {R : ((Nat → Value) → Act) → Prop} {rest : List Oper} {i : Nat}
theorem relg_fix {a : Act} (hw : Region.wanted o (yielded ops a.tmps) = true) (v : Value) (hx : fixAt P ops C i o (fun _ => a) v) (h : ∀ K : Act → Prop, (∀ a', wpRel P ops C R rest (i + 1) (fun _ => a') → K a') → K (a.put o.dst v)) :
    wpRel P ops C R (o :: rest) i (fun _ => a) := by
  unfold wpRel
  exact .inl ⟨fun V => hw, .inl ⟨v, hx, h _ fun _ h => h⟩⟩
theorem relg_val {a : Act} (hw : Region.wanted o (yielded ops a.tmps) = true) (v : Value) (hC : ∀ L V w, C L V w → C (upd L i) V w)
    (hx : ∀ V L w, L i = false → Waits o L → Cl ops L → C L V w → (execOp a.eval o).run P w = .ok (.value v) w) (h : ∀ K : Act → Prop, (∀ a', wpRel P ops C R rest (i + 1) (fun _ => a') → K a') → K (a.put o.dst v)) :
    wpRel P ops C R (o :: rest) i (fun _ => a) := relg_fix hw v (fun V L w h1 h2 h3 h4 => by rw [hx V L w h1 h2 h3 h4]; exact ⟨rfl, hC _ _ _ h4⟩) h
theorem relg_skip {a : Act} (hw : Region.wanted o (yielded ops a.tmps) = false) (hC : ∀ L V w, C L V w → C (upd L i) V w)
    (h : ∀ K : Act → Prop, (∀ a', wpRel P ops C R rest (i + 1) (fun _ => a') → K a') → K (a.put o.dst undef)) : wpRel P ops C R (o :: rest) i (fun _ => a) := by
  unfold wpRel
  exact .inr ⟨fun _ => hw, fun V L w _ hc => hC _ _ _ hc, h _ fun _ h => h⟩
end
end Go.Fam
namespace Go.Proofs.YtjnpchoinncbnaaGreat
open Go.RowKit Sw Fam
structure CmpOk (g : FuncId) (cap : Array Value) (L : Int → Int) (m : Int) (b : Nat) (w0 : World) : Prop where
  bd : ∀ x, 0 ≤ x → x < m → -1000000 ≤ L x ∧ L x ≤ 1000000
  ent : Enters g
  call : ∀ W x y, Tch [b] w0 W → 0 ≤ x → x < m → 0 ≤ y → y < m → Calls Tryz.prog g (#[.int .i64 x, .int .i64 y] ++ cap) W fun e W' => e = .returned (.int .i64 (L x - L y)) ∧ Below W.heap.size W W'
def IPost (L : Int → Int) (b o c p q : Nat) (xs : List Int) (w : World) (e : Ending) (w' : World) : Prop := (∃ r, e = .returned r) ∧ Tch [b] w w' ∧ ∃ ys, DatM w' b o c ys ∧ Seg p q xs ys ∧ Std L ys p q
theorem isort_c {g : FuncId} {cap : Array Value} {L : Int → Int} {m : Int} {b o c p q n : Nat} {xs : List Int} {w0 w : World} (hc : CmpOk g cap L m b w0) (hT0 : Tch [b] w0 w) (hD : DatM w b o c xs) (hm : Dom m xs) (hn : xs.length = n) (h1 : p ≤ q) (h2 : q ≤ n) (hl : n ≤ 100000)
    (hasc : ∀ i j, p ≤ i → i < j → j < q → gi xs i < gi xs j) :
    Calls Tryz.prog 88 #[.slice (some ⟨b, o, none⟩) n c, .int .i64 p, .int .i64 q, .func (.func g) #[] cap] w (IPost L b o c p q xs w) := by
  have HC := Lib.hid hc; clear hc
  have HT0 := Lib.hid hT0; clear hT0
  have HD := Lib.hid hD; clear hD
  have HM := Lib.hid hm; clear hm
  have HN := Lib.hid hn; clear hn
  have HA := Lib.hid hasc; clear hasc
  go_enter Tryz.func88, Tryz.ntmps88
  go_wp2_with fail
  go_loopw [8] (fun v8 wr => ∃ (i : Nat) (zs : List Int), v8 = .int .i64 i ∧ p < i ∧ Tch [b] w wr ∧ DatM wr b o c zs ∧ Seg p (min i q) xs zs ∧ Std L zs p i) (fun v8 _ => q - (intOf v8).toNat)
  case atStart => exact ⟨p + 1, xs, by go_num, by omega, Tch.refl _ _, HD.out, Seg.refl _ _ _, fun i j h1 h2 h3 => by omega⟩
  case round =>
    obtain ⟨i, zs, rfl, hi, hT, hZ, hS, hSt⟩ := hrel
    have H := Lib.hid (And.intro hT (And.intro hZ (And.intro hS hSt)))
    clear hT hZ hS hSt
    obtain ⟨wo, hwo⟩ : ∃ wo : World, wo = wr := ⟨_, rfl⟩
    by_cases hlt : i < q
    · go_wp2_with fail
      go_loopw [9] (fun v9 wr => ∃ (j : Nat) (ys : List Int), v9 = .int .i64 j ∧ p ≤ j ∧ j ≤ i ∧ Tch [b] w wr ∧ DatM wr b o c ys ∧ Ins L xs ys p i j) (fun v9 _ => (intOf v9).toNat)
      case atStart => exact ⟨i, zs, rfl, by omega, Nat.le_refl _, H.out.1, H.out.2.1, Ins.start (by have := H.out.2.2.1; rwa [show min i q = i by omega] at this) H.out.2.2.2 (fun k k1 k2 => HA.out k i k1 k2 hlt)⟩
      case round =>
        obtain ⟨j, ys, rfl, hj, hji, hT, hY, hI⟩ := hrel
        have hyl : ys.length = n := by rw [hI.seg.len, HN.out]
        have K := Lib.hid (And.intro hT (And.intro hY (And.intro hI hyl)))
        clear hT hY hI hyl
        have fin : ∀ (W : World), Tch [b] w W → DatM W b o c ys → (j = p ∨ ¬ lx L (gi ys j) (gi ys (j - 1))) → ∃ (i_1 : Nat) (zs : List Int), i + 1 = i_1 ∧ p < i_1 ∧ Tch [b] w W ∧ DatM W b o c zs ∧ Seg p (min i_1 q) xs zs ∧ Std L zs p i_1 := fun W h1 h2 h3 =>
          ⟨i + 1, ys, rfl, by omega, h1, h2, by rw [show min (i + 1) q = i + 1 by omega]; exact K.out.2.2.1.seg, K.out.2.2.1.stop hj hji h3⟩
        have FIN := Lib.hid fin; clear fin
        by_cases hjp : p < j
        · have hd : decide ((p : Int) < (j : Int)) = true := by simp; omega
          have hjl : (j : Int) < n := by omega
          have hj1 : ((j : Int) - 1) < n := by omega
          have hdom : ∀ k, k < n → 0 ≤ gi ys k ∧ gi ys k < m := fun k hk => (HM.out.seg K.out.2.2.1.seg (by rw [HN.out]; omega)) k (by rw [K.out.2.2.2]; exact hk)
          obtain ⟨x1, x2⟩ := hdom j (by omega)
          obtain ⟨y1, y2⟩ := hdom (j - 1) (by omega)
          have c1 := K.out.2.1.cell (j := j) (by have := K.out.2.2.2; omega)
          have c2 := K.out.2.1.cell (j := j - 1) (by have := K.out.2.2.2; omega)
          obtain ⟨bx1, bx2⟩ := HC.out.bd _ x1 x2
          obtain ⟨by1, by2⟩ := HC.out.bd _ y1 y2
          have hlt' : gi ys (j - 1) < gi ys j := by
            have := K.out.2.2.1.old (j - 1) (by omega) (by omega) (by omega)
            rw [← K.out.2.2.1.here] at this; exact this
          have hlx := Lib.hid (lx_lt (L := L) hlt')
          have hidx : ((j : Int) - 1).toNat = j - 1 := by omega
          have HXY := Lib.hid (And.intro (And.intro x1 x2) (And.intro y1 y2))
          clear hdom x1 x2 y1 y2 hlt'
          generalize hX : gi ys j = X at *
          generalize hY : gi ys (j - 1) = Y at *
          generalize hLX : L X = LX at *
          generalize hLY : L Y = LY at *
          have HL := Lib.hid (And.intro (And.intro hX hY) (And.intro hLX hLY))
          clear hX hY hLX hLY
          by_cases hneg : LX - LY < 0
          · have hdn : decide (LX - LY < 0) = true := decide_eq_true hneg
            have HNG := Lib.hid (hlx.out.1 (by have := HL.out; omega)); clear hneg
            go_wp2_with fail
            refine region_rel (by kernel_rfl) (by kernel_rfl) (by kernel_rfl) (fun _ _ w' => Below wr.heap.size wr w') ((Below.refl _ _).drew) ?_
            (repeat (refine relq rfl rfl (fun _ _ _ h => h) (fun K hK => ?_); go_big_quiet_op; (refine hK _ ?_; clear hK K)))
            refine relg_val rfl (.int .i64 X) (fun _ _ _ h => h) (fun V L w' h1 h2 h3 hC => exec_load_int (.tmp 25) rfl ⟨b, o + j, none⟩ rfl (cellB hC c1)) (fun K hK => ?_)
            simp only [Fam.pt]
            refine hK _ ?_
            clear hK K
            (repeat (refine relq rfl rfl (fun _ _ _ h => h) (fun K hK => ?_); go_big_quiet_op; (refine hK _ ?_; clear hK K)))
            refine relg_val rfl (.int .i64 Y) (fun _ _ _ h => h) (fun V L w' h1 h2 h3 hC => exec_load_int (.tmp 30) rfl ⟨b, o + (j - 1), none⟩ rfl (cellB hC c2)) (fun K hK => ?_)
            simp only [Fam.pt]
            refine hK _ ?_
            clear hK K
            refine relg_fix rfl (.int .i64 (LX - LY)) (fun V L' w2 h1 h2 h3 hB => ?_) (fun K hK => ?_)
            · rw [ex_callv2 (.tmp 22) (.tmp 26) (.tmp 31) _ rfl g cap rfl rfl rfl HC.out.ent]
              have hTW : Tch [b] w0 w2 := (HT0.out.trans K.out.1).trans (Tch.of_below hB)
              refine (HC.out.call w2 X Y hTW (by have := HXY.out; omega) (by have := HXY.out; omega) (by have := HXY.out; omega) (by have := HXY.out; omega)).mono ?_
              rintro e w' ⟨rfl, hB2⟩
              exact ⟨_, rfl, by rw [HL.out.2.1, HL.out.2.2], hB.trans (hB2.mono hB.size)⟩
            simp only [Fam.pt]
            refine hK _ ?_
            clear hK K
            (repeat (refine relq rfl rfl (fun _ _ _ h => h) (fun K hK => ?_); go_big_quiet_op; (refine hK _ ?_; clear hK K)))
            refine relk_end (fun L' V W1 hL hC1 => ?_)
            clear hL L' V
            have K1 := Lib.hid (And.intro (K.out.1.trans (Tch.of_below hC1)) (K.out.2.1.keep hC1)); clear hC1
            go_wp2_with fail
            refine region_rel (by kernel_rfl) (by kernel_rfl) (by kernel_rfl) (fun L _ w' => Swp w' W1 b o c ys (j) (j - 1) (L 15) (L 17)) (Swp.start K1.out.2) ?_
            (repeat (refine relq rfl rfl (fun _ _ _ h => h) (fun K hK => ?_); go_big_quiet_op; (refine hK _ ?_; clear hK K)))
            refine relk_val rfl (.int .i64 (gi ys (j - 1))) (fun _ _ _ h => h) (fun V L w' h1 h2 h3 hC => exec_load_int (.tmp 45) rfl ⟨b, o + (j - 1), none⟩ rfl (by
              rw [h3.not (j := 17) (by kernel_rfl) h1] at hC
              exact hC.two (by have := K.out.2.2.2; omega))) (fun K hK => ?_)
            simp only [Fam.pt]
            refine hK _ ?_
            clear hK K
            (repeat (refine relq rfl rfl (fun _ _ _ h => h) (fun K hK => ?_); go_big_quiet_op; (refine hK _ ?_; clear hK K)))
            refine relk_val rfl (.int .i64 (gi ys (j))) (fun _ _ _ h => h) (fun V L w' h1 h2 h3 hC => exec_load_int (.tmp 49) rfl ⟨b, o + (j), none⟩ rfl (by
              rw [h3.not (j := 15) (by kernel_rfl) h1] at hC
              exact hC.one (by have := K.out.2.2.2; omega))) (fun K hK => ?_)
            simp only [Fam.pt]
            refine hK _ ?_
            clear hK K
            (repeat (refine relq rfl rfl (fun _ _ _ h => h) (fun K hK => ?_); go_big_quiet_op; (refine hK _ ?_; clear hK K)))
            refine relk_do rfl rfl (fun w' => w'.setCell ⟨b, o + (j), none⟩ (.int .i64 (gi ys (j - 1)))) (fun V L w' h1 h2 h3 hC => ?_) ?_
            · obtain ⟨v, hv⟩ := hC.has (j := j) (by have := K.out.2.2.2; omega)
              exact ⟨exec_store_int (.tmp 51) (.tmp 46) rfl _ rfl _ rfl hv (hC.free _), hC.set1 (by have := K.out.2.2.2; omega) (by omega)⟩
            (repeat (refine relq rfl rfl (fun _ _ _ h => h) (fun K hK => ?_); go_big_quiet_op; (refine hK _ ?_; clear hK K)))
            refine relk_do rfl rfl (fun w' => w'.setCell ⟨b, o + (j - 1), none⟩ (.int .i64 (gi ys (j)))) (fun V L w' h1 h2 h3 hC => ?_) ?_
            · obtain ⟨v, hv⟩ := hC.has (j := j - 1) (by have := K.out.2.2.2; omega)
              exact ⟨exec_store_int (.tmp 52) (.tmp 50) rfl _ rfl _ rfl hv (hC.free _), hC.set2 (by have := K.out.2.2.2; omega) (by omega)⟩
            (repeat (refine relq rfl rfl (fun _ _ _ h => h) (fun K hK => ?_); go_big_quiet_op; (refine hK _ ?_; clear hK K)))
            refine relk_end (fun L V W2 hL hC => ?_)
            rw [hL 15 (by decide), hL 17 (by decide)] at hC
            clear hL L V
            obtain ⟨r1, r2⟩ := hC.done (by have := K.out.2.2.2; omega) (by have := K.out.2.2.2; omega) (by omega)
            have R := Lib.hid (And.intro r1 r2); clear r1 r2 hC
            go_wp2_with fail
            go_roundw
            case rel => exact ⟨j - 1, sw ys j (j - 1), by congr 1; omega, by omega, by omega, K1.out.1.trans R.out.1, R.out.2, K.out.2.2.1.sink hjp hji (by have := K.out.2.2.2; omega) (by rw [HL.out.1.1, HL.out.1.2]; exact HNG.out)⟩
            case measure => simp [intOf]; omega
          · have hdn : decide (LX - LY < 0) = false := decide_eq_false hneg
            have HNG := Lib.hid (fun h => hneg (by have := hlx.out.2 h; have := HL.out; omega)); clear hneg
            go_wp2_with fail
            refine region_rel (by kernel_rfl) (by kernel_rfl) (by kernel_rfl) (fun _ _ w' => Below wr.heap.size wr w') ((Below.refl _ _).drew) ?_
            (repeat (refine relq rfl rfl (fun _ _ _ h => h) (fun K hK => ?_); go_big_quiet_op; (refine hK _ ?_; clear hK K)))
            refine relg_val rfl (.int .i64 X) (fun _ _ _ h => h) (fun V L w' h1 h2 h3 hC => exec_load_int (.tmp 25) rfl ⟨b, o + j, none⟩ rfl (cellB hC c1)) (fun K hK => ?_)
            simp only [Fam.pt]
            refine hK _ ?_
            clear hK K
            (repeat (refine relq rfl rfl (fun _ _ _ h => h) (fun K hK => ?_); go_big_quiet_op; (refine hK _ ?_; clear hK K)))
            refine relg_val rfl (.int .i64 Y) (fun _ _ _ h => h) (fun V L w' h1 h2 h3 hC => exec_load_int (.tmp 30) rfl ⟨b, o + (j - 1), none⟩ rfl (cellB hC c2)) (fun K hK => ?_)
            simp only [Fam.pt]
            refine hK _ ?_
            clear hK K
            refine relg_fix rfl (.int .i64 (LX - LY)) (fun V L' w2 h1 h2 h3 hB => ?_) (fun K hK => ?_)
            · rw [ex_callv2 (.tmp 22) (.tmp 26) (.tmp 31) _ rfl g cap rfl rfl rfl HC.out.ent]
              have hTW : Tch [b] w0 w2 := (HT0.out.trans K.out.1).trans (Tch.of_below hB)
              refine (HC.out.call w2 X Y hTW (by have := HXY.out; omega) (by have := HXY.out; omega) (by have := HXY.out; omega) (by have := HXY.out; omega)).mono ?_
              rintro e w' ⟨rfl, hB2⟩
              exact ⟨_, rfl, by rw [HL.out.2.1, HL.out.2.2], hB.trans (hB2.mono hB.size)⟩
            simp only [Fam.pt]
            refine hK _ ?_
            clear hK K
            (repeat (refine relq rfl rfl (fun _ _ _ h => h) (fun K hK => ?_); go_big_quiet_op; (refine hK _ ?_; clear hK K)))
            refine relk_end (fun L' V W1 hL hC1 => ?_)
            clear hL L' V
            have K1 := Lib.hid (And.intro (K.out.1.trans (Tch.of_below hC1)) (K.out.2.1.keep hC1)); clear hC1
            go_wp2_with fail
            go_roundw
            case rel =>
              obtain ⟨i1, z1, rfl, z3⟩ := FIN.out W1 K1.out.1 K1.out.2 (.inr HNG.out)
              exact ⟨i + 1, z1, by go_num, z3⟩
            case measure => simp [intOf]; omega
        · obtain rfl : j = p := by omega
          have hd : decide ((j : Int) < (j : Int)) = false := by simp
          go_wp2_with fail
          go_quiet (fail)
          go_wp2_with fail
          go_roundw
          case rel =>
            obtain ⟨i1, z1, rfl, z3⟩ := FIN.out (wr.drewN nq) (K.out.1.drewN nq) (K.out.2.1.drewN nq) (.inl trivial)
            exact ⟨i + 1, z1, by go_num, z3⟩
          case measure => simp [intOf]; omega
    · have HSt := Lib.hid (H.out.2.2.2.sub (Nat.le_refl p) (show q ≤ i by omega))
      go_wp2_with fail
      go_end0
      refine ⟨⟨_, rfl⟩, H.out.1, zs, H.out.2.1, ?_, HSt.out⟩
      have := H.out.2.2.1
      rwa [show min i q = q by omega] at this
theorem symA_c {g : FuncId} {cap : Array Value} {L : Int → Int} {M : Int} {b o c a e n : Nat} {xs : List Int} {w0 w : World} (hc : CmpOk g cap L M b w0) (hT0 : Tch [b] w0 w) (hD : DatM w b o c xs) (hm : Dom M xs) (hn : xs.length = n) (h1 : a + 1 < e) (h2 : e ≤ n) (hl : n ≤ 100000)
    (hs2 : Std L xs (a + 1) e) (ho : Old xs a (a + 1) e) :
    Calls Tryz.prog 89 #[.slice (some ⟨b, o, none⟩) n c, .int .i64 a, .int .i64 ((a + 1 : Nat) : Int), .int .i64 e, .func (.func g) #[] cap] w (IPost L b o c a e xs w) := by
  have HC := Lib.hid hc; clear hc
  have HT0 := Lib.hid hT0; clear hT0
  have HD := Lib.hid hD; clear hD
  have HM := Lib.hid hm; clear hm
  have HN := Lib.hid hn; clear hn
  have HS := Lib.hid (And.intro hs2 ho); clear hs2 ho
  have hb1 : ((((a + 1 : Nat) : Int) - (a : Int)) == 1) = true := by simp; omega
  go_enter Tryz.func89, Tryz.ntmps89
  go_wp2_with fail
  go_loopw [10, 11, 12] (fun v10 v11 v12 wr => ∃ i j : Nat, v10 = .int .i64 i ∧ v11 = .int .i64 j ∧ a + 1 ≤ i ∧ i ≤ j ∧ j ≤ e ∧ Below w.heap.size w wr ∧ (∀ h, a + 1 ≤ h → h < i → lx L (gi xs h) (gi xs a)) ∧ (∀ h, j ≤ h → h < e → lx L (gi xs a) (gi xs h))) (fun v10 v11 _ _ => (intOf v11).toNat - (intOf v10).toNat)
  case atStart => exact ⟨a + 1, e, rfl, rfl, Nat.le_refl _, by omega, Nat.le_refl _, Below.refl _ _, fun h h1 h2 => by omega, fun h h1 h2 => by omega⟩
  case round =>
    obtain ⟨i, j, rfl, rfl, hi, hij, hj, hB, hlo, hup⟩ := hrel
    have K := Lib.hid (And.intro hB (And.intro hlo hup)); clear hB hlo hup
    by_cases hlt : i < j
    · have hij2 : (i : Int) + j ≤ 200000 := by omega
      obtain ⟨h, hh⟩ : ∃ h : Nat, ((i : Int) + (j : Int)) / 2 = (h : Int) := ⟨(i + j) / 2, by omega⟩
      obtain ⟨hh1, hh2⟩ : i ≤ h ∧ h < j := by omega
      have hhn : (h : Int) < n := by omega
      have han : (a : Int) < n := by omega
      have hdom : ∀ k, k < n → 0 ≤ gi xs k ∧ gi xs k < M := fun k hk => HM.out k (by rw [HN.out]; exact hk)
      have hDr := HD.out.keep K.out.1
      obtain ⟨x1, x2⟩ := hdom (h) (by omega)
      obtain ⟨y1, y2⟩ := hdom (a) (by omega)
      have c1 := hDr.cell (j := h) (by have := HN.out; omega)
      have c2 := hDr.cell (j := a) (by have := HN.out; omega)
      obtain ⟨bx1, bx2⟩ := HC.out.bd _ x1 x2
      obtain ⟨by1, by2⟩ := HC.out.bd _ y1 y2
      have hlt' : gi xs (a) < gi xs (h) := HS.out.2 a h (Nat.le_refl _) (by omega) (by omega) (by omega)
      have hlx0 := lx_lt (L := L) hlt'
      have hne := Lib.hid (show gi xs (h) ≠ gi xs (a) from fun e => by rw [e] at hlt'; omega)
      clear hlt'
      obtain ⟨LX, hLX⟩ : ∃ z, L (gi xs (h)) = z := ⟨_, rfl⟩
      obtain ⟨LY, hLY⟩ : ∃ z, L (gi xs (a)) = z := ⟨_, rfl⟩
      rw [hLX] at bx1 bx2
      rw [hLY] at by1 by2
      rw [hLX, hLY] at hlx0
      have hlx := Lib.hid hlx0; clear hlx0
      obtain ⟨X, hX⟩ : ∃ X, gi xs (h) = X := ⟨_, rfl⟩
      obtain ⟨Y, hY⟩ : ∃ Y, gi xs (a) = Y := ⟨_, rfl⟩
      rw [hX] at c1 x1 x2 hLX
      rw [hY] at c2 y1 y2 hLY
      have HXY := Lib.hid (And.intro (And.intro x1 x2) (And.intro y1 y2))
      clear x1 x2 y1 y2
      have HL := Lib.hid (And.intro (And.intro hX hY) (And.intro hLX hLY))
      clear hX hY hLX hLY
      clear hdom hDr
      by_cases hneg : LX - LY < 0
      · have hdn : decide (LX - LY < 0) = true := decide_eq_true hneg
        have HNG := Lib.hid (hlx.out.1 hneg); clear hneg
        go_wp2_with fail
        refine region_rel (by kernel_rfl) (by kernel_rfl) (by kernel_rfl) (fun _ _ w' => Below wr.heap.size wr w') ((Below.refl _ _).drew) ?_
        (repeat (refine relq rfl rfl (fun _ _ _ h => h) (fun K hK => ?_); go_big_quiet_op; (refine hK _ ?_; clear hK K)))
        refine relk_val rfl (.int .i64 X) (fun _ _ _ h => h) (fun V L w' h1 h2 h3 hC => exec_load_int (.tmp 43) rfl ⟨b, o + (h), none⟩ rfl (cellB hC c1)) (fun K hK => ?_)
        simp only [Fam.pt]
        refine hK _ ?_
        clear hK K
        (repeat (refine relq rfl rfl (fun _ _ _ h => h) (fun K hK => ?_); go_big_quiet_op; (refine hK _ ?_; clear hK K)))
        refine relk_val rfl (.int .i64 Y) (fun _ _ _ h => h) (fun V L w' h1 h2 h3 hC => exec_load_int (.tmp 47) rfl ⟨b, o + (a), none⟩ rfl (cellB hC c2)) (fun K hK => ?_)
        simp only [Fam.pt]
        refine hK _ ?_
        clear hK K
        (repeat (refine relq rfl rfl (fun _ _ _ h => h) (fun K hK => ?_); go_big_quiet_op; (refine hK _ ?_; clear hK K)))
        refine relk_fix rfl (.int .i64 (LX - LY)) (fun V L' w2 h1 h2 h3 hB => ?_) (fun K hK => ?_)
        · rw [ex_callv2 (.tmp 40) (.tmp 44) (.tmp 48) _ rfl g cap rfl rfl rfl HC.out.ent]
          have hTW : Tch [b] w0 w2 := (HT0.out.trans (Tch.of_below K.out.1)).trans (Tch.of_below hB)
          have hdm := HXY.out
          refine (HC.out.call w2 X Y hTW (by omega) (by omega) (by omega) (by omega)).mono ?_
          rintro e w' ⟨rfl, hB2⟩
          exact ⟨_, rfl, by rw [HL.out.2.1, HL.out.2.2], hB.trans (hB2.mono hB.size)⟩
        simp only [Fam.pt]
        refine hK _ ?_
        clear hK K
        (repeat (refine relq rfl rfl (fun _ _ _ h => h) (fun K hK => ?_); go_big_quiet_op; (refine hK _ ?_; clear hK K)))
        refine relk_end (fun L' V W1 hL hC1 => ?_)
        have K1 := Lib.hid hC1; clear hC1
        clear hL L' V
        go_wp2_with fail
        go_roundw
        case rel => exact ⟨h + 1, j, by go_num, rfl, by omega, by omega, hj, K.out.1.trans (K1.out.mono K.out.1.size), fun l l1 l2 => by
          by_cases e1 : l < i
          · exact K.out.2.1 l l1 e1
          · by_cases e2 : l = h
            · subst e2; exact HNG.out
            · exact lx_trans (HS.out.1 l h (by omega) (by omega) (by omega)) HNG.out, K.out.2.2⟩
        case measure => simp [intOf]; omega
      · have hdn : decide (LX - LY < 0) = false := decide_eq_false hneg
        have HNG := Lib.hid (lx_or hne.out (fun k => hneg (hlx.out.2 k))); clear hneg
        go_wp2_with fail
        refine region_rel (by kernel_rfl) (by kernel_rfl) (by kernel_rfl) (fun _ _ w' => Below wr.heap.size wr w') ((Below.refl _ _).drew) ?_
        (repeat (refine relq rfl rfl (fun _ _ _ h => h) (fun K hK => ?_); go_big_quiet_op; (refine hK _ ?_; clear hK K)))
        refine relk_val rfl (.int .i64 X) (fun _ _ _ h => h) (fun V L w' h1 h2 h3 hC => exec_load_int (.tmp 43) rfl ⟨b, o + (h), none⟩ rfl (cellB hC c1)) (fun K hK => ?_)
        simp only [Fam.pt]
        refine hK _ ?_
        clear hK K
        (repeat (refine relq rfl rfl (fun _ _ _ h => h) (fun K hK => ?_); go_big_quiet_op; (refine hK _ ?_; clear hK K)))
        refine relk_val rfl (.int .i64 Y) (fun _ _ _ h => h) (fun V L w' h1 h2 h3 hC => exec_load_int (.tmp 47) rfl ⟨b, o + (a), none⟩ rfl (cellB hC c2)) (fun K hK => ?_)
        simp only [Fam.pt]
        refine hK _ ?_
        clear hK K
        (repeat (refine relq rfl rfl (fun _ _ _ h => h) (fun K hK => ?_); go_big_quiet_op; (refine hK _ ?_; clear hK K)))
        refine relk_fix rfl (.int .i64 (LX - LY)) (fun V L' w2 h1 h2 h3 hB => ?_) (fun K hK => ?_)
        · rw [ex_callv2 (.tmp 40) (.tmp 44) (.tmp 48) _ rfl g cap rfl rfl rfl HC.out.ent]
          have hTW : Tch [b] w0 w2 := (HT0.out.trans (Tch.of_below K.out.1)).trans (Tch.of_below hB)
          have hdm := HXY.out
          refine (HC.out.call w2 X Y hTW (by omega) (by omega) (by omega) (by omega)).mono ?_
          rintro e w' ⟨rfl, hB2⟩
          exact ⟨_, rfl, by rw [HL.out.2.1, HL.out.2.2], hB.trans (hB2.mono hB.size)⟩
        simp only [Fam.pt]
        refine hK _ ?_
        clear hK K
        (repeat (refine relq rfl rfl (fun _ _ _ h => h) (fun K hK => ?_); go_big_quiet_op; (refine hK _ ?_; clear hK K)))
        refine relk_end (fun L' V W1 hL hC1 => ?_)
        have K1 := Lib.hid hC1; clear hC1
        clear hL L' V
        go_wp2_with fail
        go_roundw
        case rel => exact ⟨i, h, rfl, rfl, hi, by omega, by omega, K.out.1.trans (K1.out.mono K.out.1.size), K.out.2.1, fun l l1 l2 => by
          by_cases e1 : j ≤ l
          · exact K.out.2.2 l e1 l2
          · by_cases e2 : l = h
            · subst e2; exact HNG.out
            · exact lx_trans HNG.out (HS.out.1 h l (by omega) (by omega) l2)⟩
        case measure => simp [intOf]; omega
    · obtain rfl : i = j := by omega
      go_wp2_with fail
      go_loopw [13] (fun v13 wr => ∃ (k : Nat) (zs : List Int), v13 = .int .i64 k ∧ a ≤ k ∧ k + 1 ≤ i ∧ Tch [b] w wr ∧ DatM wr b o c zs ∧ Seg a e xs zs ∧ ∀ p, gi zs p = rot (gi xs) a (a + 1) (k + 1) p) (fun v13 _ => i - (intOf v13).toNat)
      case atStart => exact ⟨a, xs, rfl, Nat.le_refl _, hi, Tch.of_below K.out.1, HD.out.keep K.out.1, Seg.refl _ _ _, fun p => by rw [rot_id]⟩
      case round =>
        obtain ⟨k, zs, rfl, hk, hki, hT, hZ, hSg, hr⟩ := hrel
        have hzl : zs.length = n := by rw [hSg.len, HN.out]
        have J := Lib.hid (And.intro hT (And.intro hZ (And.intro hSg (And.intro hr hzl)))); clear hT hZ hSg hr hzl
        by_cases hkl : k + 1 < i
        · have hki1 : (k : Int) < (i : Int) - 1 := by omega
          have hkn : (k : Int) < n := by omega
          have hkn1 : (k : Int) + 1 < n := by omega
          go_wp2_with fail
          refine region_rel (by kernel_rfl) (by kernel_rfl) (by kernel_rfl) (fun L _ w' => Swp w' wr b o c zs (k) (k + 1) (L 15) (L 17)) (Swp.start J.out.2.1) ?_
          (repeat (refine relq rfl rfl (fun _ _ _ h => h) (fun K hK => ?_); go_big_quiet_op; (refine hK _ ?_; clear hK K)))
          refine relk_val rfl (.int .i64 (gi zs (k + 1))) (fun _ _ _ h => h) (fun V L w' h1 h2 h3 hC => exec_load_int (.tmp 69) rfl ⟨b, o + (k + 1), none⟩ rfl (by
            rw [h3.not (j := 17) (by kernel_rfl) h1] at hC
            exact hC.two (by have := J.out.2.2.2.2; omega))) (fun K hK => ?_)
          simp only [Fam.pt]
          refine hK _ ?_
          clear hK K
          (repeat (refine relq rfl rfl (fun _ _ _ h => h) (fun K hK => ?_); go_big_quiet_op; (refine hK _ ?_; clear hK K)))
          refine relk_val rfl (.int .i64 (gi zs (k))) (fun _ _ _ h => h) (fun V L w' h1 h2 h3 hC => exec_load_int (.tmp 73) rfl ⟨b, o + (k), none⟩ rfl (by
            rw [h3.not (j := 15) (by kernel_rfl) h1] at hC
            exact hC.one (by have := J.out.2.2.2.2; omega))) (fun K hK => ?_)
          simp only [Fam.pt]
          refine hK _ ?_
          clear hK K
          (repeat (refine relq rfl rfl (fun _ _ _ h => h) (fun K hK => ?_); go_big_quiet_op; (refine hK _ ?_; clear hK K)))
          refine relk_do rfl rfl (fun w' => w'.setCell ⟨b, o + (k), none⟩ (.int .i64 (gi zs (k + 1)))) (fun V L w' h1 h2 h3 hC => ?_) ?_
          · obtain ⟨v, hv⟩ := hC.has (j := k) (by have := J.out.2.2.2.2; omega)
            exact ⟨exec_store_int (.tmp 75) (.tmp 70) rfl _ rfl _ rfl hv (hC.free _), hC.set1 (by have := J.out.2.2.2.2; omega) (by omega)⟩
          (repeat (refine relq rfl rfl (fun _ _ _ h => h) (fun K hK => ?_); go_big_quiet_op; (refine hK _ ?_; clear hK K)))
          refine relk_do rfl rfl (fun w' => w'.setCell ⟨b, o + (k + 1), none⟩ (.int .i64 (gi zs (k)))) (fun V L w' h1 h2 h3 hC => ?_) ?_
          · obtain ⟨v, hv⟩ := hC.has (j := k + 1) (by have := J.out.2.2.2.2; omega)
            exact ⟨exec_store_int (.tmp 76) (.tmp 74) rfl _ rfl _ rfl hv (hC.free _), hC.set2 (by have := J.out.2.2.2.2; omega) (by omega)⟩
          (repeat (refine relq rfl rfl (fun _ _ _ h => h) (fun K hK => ?_); go_big_quiet_op; (refine hK _ ?_; clear hK K)))
          refine relk_end (fun L V W2 hL hC => ?_)
          rw [hL 15 (by decide), hL 17 (by decide)] at hC
          clear hL L V
          obtain ⟨r1, r2⟩ := hC.done (by have := J.out.2.2.2.2; omega) (by have := J.out.2.2.2.2; omega) (by omega)
          have R := Lib.hid (And.intro r1 r2); clear r1 r2 hC
          go_wp2_with fail
          go_roundw
          case rel => exact ⟨k + 1, sw zs k (k + 1), by go_num, by omega, by omega, J.out.1.trans R.out.1, R.out.2, J.out.2.2.1.trans (Seg.swap ⟨by omega, by omega⟩ ⟨by omega, by omega⟩ (by have := J.out.2.2.2.2; omega)), rot_up hk (by have := J.out.2.2.2.2; omega) J.out.2.2.2.1⟩
          case measure => simp [intOf]; omega
        · obtain rfl : i = k + 1 := by omega
          have hki1 : ¬ (k : Int) < ((k + 1 : Nat) : Int) - 1 := by omega
          go_wp2_with fail
          go_end0
          exact ⟨⟨_, rfl⟩, J.out.1, zs, J.out.2.1, J.out.2.2.1, std_one HS.out.1 hi hj K.out.2.1 K.out.2.2 J.out.2.2.2.1⟩
theorem symB_c {g : FuncId} {cap : Array Value} {L : Int → Int} {M : Int} {b o c a m n : Nat} {xs : List Int} {w0 w : World} (hc : CmpOk g cap L M b w0) (hT0 : Tch [b] w0 w) (hD : DatM w b o c xs) (hm : Dom M xs) (hn : xs.length = n) (h1 : a + 1 < m) (h2 : m + 1 ≤ n) (hl : n ≤ 100000)
    (hs1 : Std L xs a m) (ho : Old xs a m (m + 1)) :
    Calls Tryz.prog 89 #[.slice (some ⟨b, o, none⟩) n c, .int .i64 a, .int .i64 m, .int .i64 ((m + 1 : Nat) : Int), .func (.func g) #[] cap] w (IPost L b o c a (m + 1) xs w) := by
  have HC := Lib.hid hc; clear hc
  have HT0 := Lib.hid hT0; clear hT0
  have HD := Lib.hid hD; clear hD
  have HM := Lib.hid hm; clear hm
  have HN := Lib.hid hn; clear hn
  have HS := Lib.hid (And.intro hs1 ho); clear hs1 ho
  have hb1 : (((m : Int) - (a : Int)) == 1) = false := by simp; omega
  go_enter Tryz.func89, Tryz.ntmps89
  go_wp2_with fail
  go_loopw [14, 15, 16] (fun v14 v15 v16 wr => ∃ i j : Nat, v14 = .int .i64 i ∧ v15 = .int .i64 j ∧ a ≤ i ∧ i ≤ j ∧ j ≤ m ∧ Below w.heap.size w wr ∧ (∀ h, a ≤ h → h < i → lx L (gi xs h) (gi xs m)) ∧ (∀ h, j ≤ h → h < m → lx L (gi xs m) (gi xs h))) (fun v14 v15 _ _ => (intOf v15).toNat - (intOf v14).toNat)
  case atStart => exact ⟨a, m, rfl, rfl, Nat.le_refl _, by omega, Nat.le_refl _, Below.refl _ _, fun h h1 h2 => by omega, fun h h1 h2 => by omega⟩
  case round =>
    obtain ⟨i, j, rfl, rfl, hi, hij, hj, hB, hlo, hup⟩ := hrel
    have K := Lib.hid (And.intro hB (And.intro hlo hup)); clear hB hlo hup
    by_cases hlt : i < j
    · have hij2 : (i : Int) + j ≤ 200000 := by omega
      obtain ⟨h, hh⟩ : ∃ h : Nat, ((i : Int) + (j : Int)) / 2 = (h : Int) := ⟨(i + j) / 2, by omega⟩
      obtain ⟨hh1, hh2⟩ : i ≤ h ∧ h < j := by omega
      have hhn : (h : Int) < n := by omega
      have hmn : (m : Int) < n := by omega
      have hdom : ∀ k, k < n → 0 ≤ gi xs k ∧ gi xs k < M := fun k hk => HM.out k (by rw [HN.out]; exact hk)
      have hDr := HD.out.keep K.out.1
      obtain ⟨x1, x2⟩ := hdom (m) (by omega)
      obtain ⟨y1, y2⟩ := hdom (h) (by omega)
      have c1 := hDr.cell (j := m) (by have := HN.out; omega)
      have c2 := hDr.cell (j := h) (by have := HN.out; omega)
      obtain ⟨bx1, bx2⟩ := HC.out.bd _ x1 x2
      obtain ⟨by1, by2⟩ := HC.out.bd _ y1 y2
      have hlt' : gi xs (h) < gi xs (m) := HS.out.2 h m (by omega) (by omega) (Nat.le_refl _) (by omega)
      have hlx0 := lx_lt (L := L) hlt'
      have hne := Lib.hid (show gi xs (m) ≠ gi xs (h) from fun e => by rw [e] at hlt'; omega)
      clear hlt'
      obtain ⟨LX, hLX⟩ : ∃ z, L (gi xs (m)) = z := ⟨_, rfl⟩
      obtain ⟨LY, hLY⟩ : ∃ z, L (gi xs (h)) = z := ⟨_, rfl⟩
      rw [hLX] at bx1 bx2
      rw [hLY] at by1 by2
      rw [hLX, hLY] at hlx0
      have hlx := Lib.hid hlx0; clear hlx0
      obtain ⟨X, hX⟩ : ∃ X, gi xs (m) = X := ⟨_, rfl⟩
      obtain ⟨Y, hY⟩ : ∃ Y, gi xs (h) = Y := ⟨_, rfl⟩
      rw [hX] at c1 x1 x2 hLX
      rw [hY] at c2 y1 y2 hLY
      have HXY := Lib.hid (And.intro (And.intro x1 x2) (And.intro y1 y2))
      clear x1 x2 y1 y2
      have HL := Lib.hid (And.intro (And.intro hX hY) (And.intro hLX hLY))
      clear hX hY hLX hLY
      clear hdom hDr
      by_cases hneg : LX - LY < 0
      · have hdn : decide (LX - LY < 0) = true := decide_eq_true hneg
        have HNG := Lib.hid (hlx.out.1 hneg); clear hneg
        go_wp2_with fail
        refine region_rel (by kernel_rfl) (by kernel_rfl) (by kernel_rfl) (fun _ _ w' => Below wr.heap.size wr w') ((Below.refl _ _).drew) ?_
        (repeat (refine relq rfl rfl (fun _ _ _ h => h) (fun K hK => ?_); go_big_quiet_op; (refine hK _ ?_; clear hK K)))
        refine relk_val rfl (.int .i64 X) (fun _ _ _ h => h) (fun V L w' h1 h2 h3 hC => exec_load_int (.tmp 95) rfl ⟨b, o + (m), none⟩ rfl (cellB hC c1)) (fun K hK => ?_)
        simp only [Fam.pt]
        refine hK _ ?_
        clear hK K
        (repeat (refine relq rfl rfl (fun _ _ _ h => h) (fun K hK => ?_); go_big_quiet_op; (refine hK _ ?_; clear hK K)))
        refine relk_val rfl (.int .i64 Y) (fun _ _ _ h => h) (fun V L w' h1 h2 h3 hC => exec_load_int (.tmp 99) rfl ⟨b, o + (h), none⟩ rfl (cellB hC c2)) (fun K hK => ?_)
        simp only [Fam.pt]
        refine hK _ ?_
        clear hK K
        (repeat (refine relq rfl rfl (fun _ _ _ h => h) (fun K hK => ?_); go_big_quiet_op; (refine hK _ ?_; clear hK K)))
        refine relk_fix rfl (.int .i64 (LX - LY)) (fun V L' w2 h1 h2 h3 hB => ?_) (fun K hK => ?_)
        · rw [ex_callv2 (.tmp 92) (.tmp 96) (.tmp 100) _ rfl g cap rfl rfl rfl HC.out.ent]
          have hTW : Tch [b] w0 w2 := (HT0.out.trans (Tch.of_below K.out.1)).trans (Tch.of_below hB)
          have hdm := HXY.out
          refine (HC.out.call w2 X Y hTW (by omega) (by omega) (by omega) (by omega)).mono ?_
          rintro e w' ⟨rfl, hB2⟩
          exact ⟨_, rfl, by rw [HL.out.2.1, HL.out.2.2], hB.trans (hB2.mono hB.size)⟩
        simp only [Fam.pt]
        refine hK _ ?_
        clear hK K
        (repeat (refine relq rfl rfl (fun _ _ _ h => h) (fun K hK => ?_); go_big_quiet_op; (refine hK _ ?_; clear hK K)))
        refine relk_end (fun L' V W1 hL hC1 => ?_)
        have K1 := Lib.hid hC1; clear hC1
        clear hL L' V
        go_wp2_with fail
        go_roundw
        case rel => exact ⟨i, h, rfl, rfl, hi, by omega, by omega, K.out.1.trans (K1.out.mono K.out.1.size), K.out.2.1, fun l l1 l2 => by
          by_cases e1 : j ≤ l
          · exact K.out.2.2 l e1 l2
          · by_cases e2 : l = h
            · subst e2; exact HNG.out
            · exact lx_trans HNG.out (HS.out.1 h l (by omega) (by omega) l2)⟩
        case measure => simp [intOf]; omega
      · have hdn : decide (LX - LY < 0) = false := decide_eq_false hneg
        have HNG := Lib.hid (lx_or hne.out (fun k => hneg (hlx.out.2 k))); clear hneg
        go_wp2_with fail
        refine region_rel (by kernel_rfl) (by kernel_rfl) (by kernel_rfl) (fun _ _ w' => Below wr.heap.size wr w') ((Below.refl _ _).drew) ?_
        (repeat (refine relq rfl rfl (fun _ _ _ h => h) (fun K hK => ?_); go_big_quiet_op; (refine hK _ ?_; clear hK K)))
        refine relk_val rfl (.int .i64 X) (fun _ _ _ h => h) (fun V L w' h1 h2 h3 hC => exec_load_int (.tmp 95) rfl ⟨b, o + (m), none⟩ rfl (cellB hC c1)) (fun K hK => ?_)
        simp only [Fam.pt]
        refine hK _ ?_
        clear hK K
        (repeat (refine relq rfl rfl (fun _ _ _ h => h) (fun K hK => ?_); go_big_quiet_op; (refine hK _ ?_; clear hK K)))
        refine relk_val rfl (.int .i64 Y) (fun _ _ _ h => h) (fun V L w' h1 h2 h3 hC => exec_load_int (.tmp 99) rfl ⟨b, o + (h), none⟩ rfl (cellB hC c2)) (fun K hK => ?_)
        simp only [Fam.pt]
        refine hK _ ?_
        clear hK K
        (repeat (refine relq rfl rfl (fun _ _ _ h => h) (fun K hK => ?_); go_big_quiet_op; (refine hK _ ?_; clear hK K)))
        refine relk_fix rfl (.int .i64 (LX - LY)) (fun V L' w2 h1 h2 h3 hB => ?_) (fun K hK => ?_)
        · rw [ex_callv2 (.tmp 92) (.tmp 96) (.tmp 100) _ rfl g cap rfl rfl rfl HC.out.ent]
          have hTW : Tch [b] w0 w2 := (HT0.out.trans (Tch.of_below K.out.1)).trans (Tch.of_below hB)
          have hdm := HXY.out
          refine (HC.out.call w2 X Y hTW (by omega) (by omega) (by omega) (by omega)).mono ?_
          rintro e w' ⟨rfl, hB2⟩
          exact ⟨_, rfl, by rw [HL.out.2.1, HL.out.2.2], hB.trans (hB2.mono hB.size)⟩
        simp only [Fam.pt]
        refine hK _ ?_
        clear hK K
        (repeat (refine relq rfl rfl (fun _ _ _ h => h) (fun K hK => ?_); go_big_quiet_op; (refine hK _ ?_; clear hK K)))
        refine relk_end (fun L' V W1 hL hC1 => ?_)
        have K1 := Lib.hid hC1; clear hC1
        clear hL L' V
        go_wp2_with fail
        go_roundw
        case rel => exact ⟨h + 1, j, by go_num, rfl, by omega, by omega, hj, K.out.1.trans (K1.out.mono K.out.1.size), fun l l1 l2 => by
          by_cases e1 : l < i
          · exact K.out.2.1 l l1 e1
          · by_cases e2 : l = h
            · subst e2; exact HNG.out
            · exact lx_trans (HS.out.1 l h (by omega) (by omega) (by omega)) HNG.out, K.out.2.2⟩
        case measure => simp [intOf]; omega
    · obtain rfl : i = j := by omega
      go_wp2_with fail
      go_loopw [17] (fun v17 wr => ∃ (k : Nat) (zs : List Int), v17 = .int .i64 k ∧ i ≤ k ∧ k ≤ m ∧ Tch [b] w wr ∧ DatM wr b o c zs ∧ Seg a (m + 1) xs zs ∧ ∀ p, gi zs p = rot (gi xs) k m (m + 1) p) (fun v17 _ => (intOf v17).toNat)
      case atStart => exact ⟨m, xs, rfl, hj, Nat.le_refl _, Tch.of_below K.out.1, HD.out.keep K.out.1, Seg.refl _ _ _, fun p => by rw [rot_nil]⟩
      case round =>
        obtain ⟨k, zs, rfl, hk, hki, hT, hZ, hSg, hr⟩ := hrel
        have hzl : zs.length = n := by rw [hSg.len, HN.out]
        have J := Lib.hid (And.intro hT (And.intro hZ (And.intro hSg (And.intro hr hzl)))); clear hT hZ hSg hr hzl
        by_cases hkl : i < k
        · have hkn : (k : Int) < n := by omega
          have hk0 : 0 ≤ (k : Int) - 1 := by omega
          have hkn1 : (k : Int) - 1 < n := by omega
          have hidx : ((k : Int) - 1).toNat = k - 1 := by omega
          go_wp2_with fail
          refine region_rel (by kernel_rfl) (by kernel_rfl) (by kernel_rfl) (fun L _ w' => Swp w' wr b o c zs (k) (k - 1) (L 15) (L 17)) (Swp.start J.out.2.1) ?_
          (repeat (refine relq rfl rfl (fun _ _ _ h => h) (fun K hK => ?_); go_big_quiet_op; (refine hK _ ?_; clear hK K)))
          refine relk_val rfl (.int .i64 (gi zs (k - 1))) (fun _ _ _ h => h) (fun V L w' h1 h2 h3 hC => exec_load_int (.tmp 121) rfl ⟨b, o + (k - 1), none⟩ rfl (by
            rw [h3.not (j := 17) (by kernel_rfl) h1] at hC
            exact hC.two (by have := J.out.2.2.2.2; omega))) (fun K hK => ?_)
          simp only [Fam.pt]
          refine hK _ ?_
          clear hK K
          (repeat (refine relq rfl rfl (fun _ _ _ h => h) (fun K hK => ?_); go_big_quiet_op; (refine hK _ ?_; clear hK K)))
          refine relk_val rfl (.int .i64 (gi zs (k))) (fun _ _ _ h => h) (fun V L w' h1 h2 h3 hC => exec_load_int (.tmp 125) rfl ⟨b, o + (k), none⟩ rfl (by
            rw [h3.not (j := 15) (by kernel_rfl) h1] at hC
            exact hC.one (by have := J.out.2.2.2.2; omega))) (fun K hK => ?_)
          simp only [Fam.pt]
          refine hK _ ?_
          clear hK K
          (repeat (refine relq rfl rfl (fun _ _ _ h => h) (fun K hK => ?_); go_big_quiet_op; (refine hK _ ?_; clear hK K)))
          refine relk_do rfl rfl (fun w' => w'.setCell ⟨b, o + (k), none⟩ (.int .i64 (gi zs (k - 1)))) (fun V L w' h1 h2 h3 hC => ?_) ?_
          · obtain ⟨v, hv⟩ := hC.has (j := k) (by have := J.out.2.2.2.2; omega)
            exact ⟨exec_store_int (.tmp 127) (.tmp 122) rfl _ rfl _ rfl hv (hC.free _), hC.set1 (by have := J.out.2.2.2.2; omega) (by omega)⟩
          (repeat (refine relq rfl rfl (fun _ _ _ h => h) (fun K hK => ?_); go_big_quiet_op; (refine hK _ ?_; clear hK K)))
          refine relk_do rfl rfl (fun w' => w'.setCell ⟨b, o + (k - 1), none⟩ (.int .i64 (gi zs (k)))) (fun V L w' h1 h2 h3 hC => ?_) ?_
          · obtain ⟨v, hv⟩ := hC.has (j := k - 1) (by have := J.out.2.2.2.2; omega)
            exact ⟨exec_store_int (.tmp 128) (.tmp 126) rfl _ rfl _ rfl hv (hC.free _), hC.set2 (by have := J.out.2.2.2.2; omega) (by omega)⟩
          (repeat (refine relq rfl rfl (fun _ _ _ h => h) (fun K hK => ?_); go_big_quiet_op; (refine hK _ ?_; clear hK K)))
          refine relk_end (fun L V W2 hL hC => ?_)
          rw [hL 15 (by decide), hL 17 (by decide)] at hC
          clear hL L V
          obtain ⟨r1, r2⟩ := hC.done (by have := J.out.2.2.2.2; omega) (by have := J.out.2.2.2.2; omega) (by omega)
          have R := Lib.hid (And.intro r1 r2); clear r1 r2 hC
          go_wp2_with fail
          go_roundw
          case rel => exact ⟨k - 1, sw zs k (k - 1), by congr 1; omega, by omega, by omega, J.out.1.trans R.out.1, R.out.2, J.out.2.2.1.trans (Seg.swap ⟨by omega, by omega⟩ ⟨by omega, by omega⟩ (by have := J.out.2.2.2.2; omega)), rot_dn (by omega) hki (by have := J.out.2.2.2.2; omega) J.out.2.2.2.1⟩
          case measure => simp [intOf]; omega
        · obtain rfl : i = k := by omega
          go_wp2_with fail
          go_end0
          exact ⟨⟨_, rfl⟩, J.out.1, zs, J.out.2.1, J.out.2.2.1, std_last HS.out.1 hi hj K.out.2.1 K.out.2.2 J.out.2.2.2.1⟩
def Half (L : Int → Int) (b o c p q : Nat) (xs : List Int) (W W' : World) : Prop := Tch [b] W W' ∧ ∃ zs, DatM W' b o c zs ∧ Seg p q xs zs ∧ Std L zs p q
theorem symM {g : FuncId} {cap : Array Value} {L : Int → Int} {b o c n a s mid e e1 : Nat} {ys : List Int} {W : World} {Q : Exit → Act → World → Prop} {u2 u5 u6 u7 u8 u9 u10 u11 u12 u13 u14 u15 u16 u17 u19 u21 u22 u23 u25 u26 u27 u28 u29 u30 u31 u32 u33 u34 u35 u36 u37 u38 u39 u40 u41 u42 u43 u44 u45 u46 u47 u48 u49 u50 u51 u52 u53 u54 u55 u56 u57 u58 u59 u60 u61 u62 u63 u64 u65 u66 u67 u68 u69 u70 u71 u72 u73 u74 u75 u76 u77 u78 u79 u80 u81 u82 u83 u84 u85 u86 u87 u88 u89 u90 u91 u92 u93 u94 u95 u96 u97 u98 u99 u100 u101 u102 u103 u104 u105 u106 u107 u108 u109 u110 u111 u112 u113 u114 u115 u116 u117 u118 u119 u120 u121 u122 u123 u124 u125 u126 u127 u128 u129 u130 u131 u132 u133 u134 u135 u136 u137 u138 u139 u140 u141 u142 u143 u144 u145 u146 u147 u148 u149 u150 u151 u152 u153 u154 u155 u156 u157 u158 u159 u160 u161 u162 u163 u164 u165 u166 u167 u168 u169 u170 u171 u172 u173 u174 u175 u176 u177 u178 u179 u180 u181 u182 u183 u184 u185 u186 u187 u188 u189 u190 u191 u192 u193 u194 u195 u196 u197 u198 u199 u200 u201 u202 u203 u204 u205 u206 u207 u208 u209 u210 u211 u212 u213 u214 u215 u216 u217 u218 u219 : Value}
    (h1 : a ≤ s) (h2 : s ≤ mid) (h3 : a < mid) (hD : DatM W b o c ys)
    (hI : a < s → s < mid → Calls Tryz.prog 89 #[.slice (some ⟨b, o, none⟩) n c, .int .i64 a, .int .i64 s, .int .i64 mid, .func (.func g) #[] cap] W (IPost L b o c a mid ys W))
    (hS : s = a ∨ s = mid → Std L ys a mid)
    (hQ : ∀ v192 v193 v194 v195 v196 v197 v198 v199 v200 v201 v202 v203 v204 v205 W', Half L b o c a mid ys W W' → Q .normal ⟨#[.slice (some ⟨b, o, none⟩) n c, .int .i64 a, u2, .int .i64 e, .func (.func g) #[] cap, u5, u6, u7, u8, u9, u10, u11, u12, u13, u14, u15, u16, u17, .int .i64 mid, u19, .int .i64 s, u21, u22, u23, .int .i64 e1, u25, u26, u27, u28, u29, u30, u31, u32, u33, u34, u35, u36, u37, u38, u39, u40, u41, u42, u43, u44, u45, u46, u47, u48, u49, u50, u51, u52, u53, u54, u55, u56, u57, u58, u59, u60, u61, u62, u63, u64, u65, u66, u67, u68, u69, u70, u71, u72, u73, u74, u75, u76, u77, u78, u79, u80, u81, u82, u83, u84, u85, u86, u87, u88, u89, u90, u91, u92, u93, u94, u95, u96, u97, u98, u99, u100, u101, u102, u103, u104, u105, u106, u107, u108, u109, u110, u111, u112, u113, u114, u115, u116, u117, u118, u119, u120, u121, u122, u123, u124, u125, u126, u127, u128, u129, u130, u131, u132, u133, u134, u135, u136, u137, u138, u139, u140, u141, u142, u143, u144, u145, u146, u147, u148, u149, u150, u151, u152, u153, u154, u155, u156, u157, u158, u159, u160, u161, u162, u163, u164, u165, u166, u167, u168, u169, u170, u171, u172, u173, u174, u175, u176, u177, u178, u179, u180, u181, u182, u183, u184, u185, u186, u187, u188, u189, u190, u191, v192, v193, v194, v195, v196, v197, v198, v199, v200, v201, v202, v203, v204, v205, u206, u207, u208, u209, u210, u211, u212, u213, u214, u215, u216, u217, u218, u219], []⟩ W') :
    Code.wp Tryz.prog (Tryz.f89.sub [1, 1, 1, 1, 1, 1, 1, 1, 1, 1, 0]) Q ⟨#[.slice (some ⟨b, o, none⟩) n c, .int .i64 a, u2, .int .i64 e, .func (.func g) #[] cap, u5, u6, u7, u8, u9, u10, u11, u12, u13, u14, u15, u16, u17, .int .i64 mid, u19, .int .i64 s, u21, u22, u23, .int .i64 e1, u25, u26, u27, u28, u29, u30, u31, u32, u33, u34, u35, u36, u37, u38, u39, u40, u41, u42, u43, u44, u45, u46, u47, u48, u49, u50, u51, u52, u53, u54, u55, u56, u57, u58, u59, u60, u61, u62, u63, u64, u65, u66, u67, u68, u69, u70, u71, u72, u73, u74, u75, u76, u77, u78, u79, u80, u81, u82, u83, u84, u85, u86, u87, u88, u89, u90, u91, u92, u93, u94, u95, u96, u97, u98, u99, u100, u101, u102, u103, u104, u105, u106, u107, u108, u109, u110, u111, u112, u113, u114, u115, u116, u117, u118, u119, u120, u121, u122, u123, u124, u125, u126, u127, u128, u129, u130, u131, u132, u133, u134, u135, u136, u137, u138, u139, u140, u141, u142, u143, u144, u145, u146, u147, u148, u149, u150, u151, u152, u153, u154, u155, u156, u157, u158, u159, u160, u161, u162, u163, u164, u165, u166, u167, u168, u169, u170, u171, u172, u173, u174, u175, u176, u177, u178, u179, u180, u181, u182, u183, u184, u185, u186, u187, u188, u189, u190, u191, u192, u193, u194, u195, u196, u197, u198, u199, u200, u201, u202, u203, u204, u205, u206, u207, u208, u209, u210, u211, u212, u213, u214, u215, u216, u217, u218, u219], []⟩ W := by
  conv => arg 2; whnf
  dsimp only
  have HQ := Lib.hid hQ; clear hQ
  have HD := Lib.hid hD; clear hD
  by_cases c1 : s = a
  · have HS := Lib.hid (hS (.inl c1)); clear hS hI
    have d1 : decide (a < s) = false := by simp; omega
    have HC1 := Lib.hid c1; clear c1
    go_wp2_with fail
    exact HQ.out _ _ _ _ _ _ _ _ _ _ _ _ _ _ W ⟨Tch.refl _ _, ys, HD.out, Seg.refl _ _ _, HS.out⟩
  · by_cases c2 : s = mid
    · have HS := Lib.hid (hS (.inr c2)); clear hS hI
      have d1 : decide (a < s) = true := by simp; omega
      have d2 : decide (s < mid) = false := by simp; omega
      have HC1 := Lib.hid (And.intro c1 c2); clear c1 c2
      go_wp2_with fail
      exact HQ.out _ _ _ _ _ _ _ _ _ _ _ _ _ _ W ⟨Tch.refl _ _, ys, HD.out, Seg.refl _ _ _, HS.out⟩
    · have HI := Lib.hid (hI (by omega) (by omega)); clear hS hI
      have d1 : (a : Int) < (s : Int) := by omega
      have d2 : (s : Int) < (mid : Int) := by omega
      have HC1 := Lib.hid (And.intro c1 c2); clear c1 c2
      go_wp2_with fail
      refine HI.out.mono ?_
      rintro r W2 ⟨⟨r, rfl⟩, h⟩
      have H := Lib.hid h; clear h
      go_wp2_with fail
      exact HQ.out _ _ _ _ _ _ _ _ _ _ _ _ _ _ _ H.out
theorem symN {g : FuncId} {cap : Array Value} {L : Int → Int} {b o c n mid e e1 : Nat} {ys : List Int} {W : World} {Q : Exit → Act → World → Prop} {u1 u2 u5 u6 u7 u8 u9 u10 u11 u12 u13 u14 u15 u16 u17 u19 u20 u21 u22 u23 u25 u26 u27 u28 u29 u30 u31 u32 u33 u34 u35 u36 u37 u38 u39 u40 u41 u42 u43 u44 u45 u46 u47 u48 u49 u50 u51 u52 u53 u54 u55 u56 u57 u58 u59 u60 u61 u62 u63 u64 u65 u66 u67 u68 u69 u70 u71 u72 u73 u74 u75 u76 u77 u78 u79 u80 u81 u82 u83 u84 u85 u86 u87 u88 u89 u90 u91 u92 u93 u94 u95 u96 u97 u98 u99 u100 u101 u102 u103 u104 u105 u106 u107 u108 u109 u110 u111 u112 u113 u114 u115 u116 u117 u118 u119 u120 u121 u122 u123 u124 u125 u126 u127 u128 u129 u130 u131 u132 u133 u134 u135 u136 u137 u138 u139 u140 u141 u142 u143 u144 u145 u146 u147 u148 u149 u150 u151 u152 u153 u154 u155 u156 u157 u158 u159 u160 u161 u162 u163 u164 u165 u166 u167 u168 u169 u170 u171 u172 u173 u174 u175 u176 u177 u178 u179 u180 u181 u182 u183 u184 u185 u186 u187 u188 u189 u190 u191 u192 u193 u194 u195 u196 u197 u198 u199 u200 u201 u202 u203 u204 u205 u206 u207 u208 u209 u210 u211 u212 u213 u214 u215 u216 u217 u218 u219 : Value}
    (h1 : mid ≤ e1) (h2 : e1 ≤ e) (h3 : mid < e) (hD : DatM W b o c ys)
    (hI : mid < e1 → e1 < e → Calls Tryz.prog 89 #[.slice (some ⟨b, o, none⟩) n c, .int .i64 mid, .int .i64 e1, .int .i64 e, .func (.func g) #[] cap] W (IPost L b o c mid e ys W))
    (hS : e1 = mid ∨ e1 = e → Std L ys mid e)
    (hQ : ∀ v206 v207 v208 v209 v210 v211 v212 v213 v214 v215 v216 v217 v218 v219 W', Half L b o c mid e ys W W' → Q .normal ⟨#[.slice (some ⟨b, o, none⟩) n c, u1, u2, .int .i64 e, .func (.func g) #[] cap, u5, u6, u7, u8, u9, u10, u11, u12, u13, u14, u15, u16, u17, .int .i64 mid, u19, u20, u21, u22, u23, .int .i64 e1, u25, u26, u27, u28, u29, u30, u31, u32, u33, u34, u35, u36, u37, u38, u39, u40, u41, u42, u43, u44, u45, u46, u47, u48, u49, u50, u51, u52, u53, u54, u55, u56, u57, u58, u59, u60, u61, u62, u63, u64, u65, u66, u67, u68, u69, u70, u71, u72, u73, u74, u75, u76, u77, u78, u79, u80, u81, u82, u83, u84, u85, u86, u87, u88, u89, u90, u91, u92, u93, u94, u95, u96, u97, u98, u99, u100, u101, u102, u103, u104, u105, u106, u107, u108, u109, u110, u111, u112, u113, u114, u115, u116, u117, u118, u119, u120, u121, u122, u123, u124, u125, u126, u127, u128, u129, u130, u131, u132, u133, u134, u135, u136, u137, u138, u139, u140, u141, u142, u143, u144, u145, u146, u147, u148, u149, u150, u151, u152, u153, u154, u155, u156, u157, u158, u159, u160, u161, u162, u163, u164, u165, u166, u167, u168, u169, u170, u171, u172, u173, u174, u175, u176, u177, u178, u179, u180, u181, u182, u183, u184, u185, u186, u187, u188, u189, u190, u191, u192, u193, u194, u195, u196, u197, u198, u199, u200, u201, u202, u203, u204, u205, v206, v207, v208, v209, v210, v211, v212, v213, v214, v215, v216, v217, v218, v219], []⟩ W') :
    Code.wp Tryz.prog (Tryz.f89.sub [1, 1, 1, 1, 1, 1, 1, 1, 1, 1, 1]) Q ⟨#[.slice (some ⟨b, o, none⟩) n c, u1, u2, .int .i64 e, .func (.func g) #[] cap, u5, u6, u7, u8, u9, u10, u11, u12, u13, u14, u15, u16, u17, .int .i64 mid, u19, u20, u21, u22, u23, .int .i64 e1, u25, u26, u27, u28, u29, u30, u31, u32, u33, u34, u35, u36, u37, u38, u39, u40, u41, u42, u43, u44, u45, u46, u47, u48, u49, u50, u51, u52, u53, u54, u55, u56, u57, u58, u59, u60, u61, u62, u63, u64, u65, u66, u67, u68, u69, u70, u71, u72, u73, u74, u75, u76, u77, u78, u79, u80, u81, u82, u83, u84, u85, u86, u87, u88, u89, u90, u91, u92, u93, u94, u95, u96, u97, u98, u99, u100, u101, u102, u103, u104, u105, u106, u107, u108, u109, u110, u111, u112, u113, u114, u115, u116, u117, u118, u119, u120, u121, u122, u123, u124, u125, u126, u127, u128, u129, u130, u131, u132, u133, u134, u135, u136, u137, u138, u139, u140, u141, u142, u143, u144, u145, u146, u147, u148, u149, u150, u151, u152, u153, u154, u155, u156, u157, u158, u159, u160, u161, u162, u163, u164, u165, u166, u167, u168, u169, u170, u171, u172, u173, u174, u175, u176, u177, u178, u179, u180, u181, u182, u183, u184, u185, u186, u187, u188, u189, u190, u191, u192, u193, u194, u195, u196, u197, u198, u199, u200, u201, u202, u203, u204, u205, u206, u207, u208, u209, u210, u211, u212, u213, u214, u215, u216, u217, u218, u219], []⟩ W := by
  conv => arg 2; whnf
  dsimp only
  have HQ := Lib.hid hQ; clear hQ
  have HD := Lib.hid hD; clear hD
  by_cases c1 : e1 = mid
  · have HS := Lib.hid (hS (.inl c1)); clear hS hI
    have d1 : decide (mid < e1) = false := by simp; omega
    have HC1 := Lib.hid c1; clear c1
    go_wp2_with fail
    exact HQ.out _ _ _ _ _ _ _ _ _ _ _ _ _ _ W ⟨Tch.refl _ _, ys, HD.out, Seg.refl _ _ _, HS.out⟩
  · by_cases c2 : e1 = e
    · have HS := Lib.hid (hS (.inr c2)); clear hS hI
      have d1 : decide (mid < e1) = true := by simp; omega
      have d2 : decide (e1 < e) = false := by simp; omega
      have HC1 := Lib.hid (And.intro c1 c2); clear c1 c2
      go_wp2_with fail
      exact HQ.out _ _ _ _ _ _ _ _ _ _ _ _ _ _ W ⟨Tch.refl _ _, ys, HD.out, Seg.refl _ _ _, HS.out⟩
    · have HI := Lib.hid (hI (by omega) (by omega)); clear hS hI
      have d1 : (mid : Int) < (e1 : Int) := by omega
      have d2 : (e1 : Int) < (e : Int) := by omega
      have HC1 := Lib.hid (And.intro c1 c2); clear c1 c2
      go_wp2_with fail
      refine HI.out.mono ?_
      rintro r W2 ⟨⟨r, rfl⟩, h⟩
      have H := Lib.hid h; clear h
      go_wp2_with fail
      exact HQ.out _ _ _ _ _ _ _ _ _ _ _ _ _ _ _ H.out
def Turnd (b o c s m e1 : Nat) (xs : List Int) (W W' : World) : Prop := Tch [b] W W' ∧ ∃ zs, DatM W' b o c zs ∧ Seg s e1 xs zs ∧ ∀ k, gi zs k = rot (gi xs) s m e1 k
theorem rot_seg {xs zs : List Int} {s m e1 : Nat} (hp : zs.Perm xs) (h1 : s ≤ m) (h2 : m ≤ e1) (h : ∀ k, gi zs k = rot (gi xs) s m e1 k) : Seg s e1 xs zs :=
  ⟨hp, fun i hi => by rw [h]; unfold rot; rw [if_neg (by omega), if_neg (by omega)], fun i i1 i2 => by
    rw [h]; unfold rot
    by_cases e : i < s + (e1 - m)
    · rw [if_pos ⟨i1, e⟩]; exact ⟨i - s + m, by omega, by omega, rfl⟩
    · rw [if_neg (by omega), if_pos (by omega)]; exact ⟨i - (e1 - m), by omega, by omega, rfl⟩⟩
theorem symR {g : FuncId} {cap : Array Value} {b o c n a m s mid e e1 : Nat} {ys : List Int} {W : World} {Q : Exit → Act → World → Prop} {u5 u6 u7 u8 u9 u10 u11 u12 u13 u14 u15 u16 u17 u19 u21 u22 u23 u25 u26 u27 u28 u29 u30 u31 u32 u33 u34 u35 u36 u37 u38 u39 u40 u41 u42 u43 u44 u45 u46 u47 u48 u49 u50 u51 u52 u53 u54 u55 u56 u57 u58 u59 u60 u61 u62 u63 u64 u65 u66 u67 u68 u69 u70 u71 u72 u73 u74 u75 u76 u77 u78 u79 u80 u81 u82 u83 u84 u85 u86 u87 u88 u89 u90 u91 u92 u93 u94 u95 u96 u97 u98 u99 u100 u101 u102 u103 u104 u105 u106 u107 u108 u109 u110 u111 u112 u113 u114 u115 u116 u117 u118 u119 u120 u121 u122 u123 u124 u125 u126 u127 u128 u129 u130 u131 u132 u133 u134 u135 u136 u137 u138 u139 u140 u141 u142 u143 u144 u145 u146 u147 u148 u149 u150 u151 u152 u153 u154 u155 u156 u157 u158 u159 u160 u161 u162 u163 u164 u165 u166 u167 u168 u169 u170 u171 u172 u173 u174 u175 u176 u177 u178 u179 u180 u181 u182 u183 u184 u185 u186 u187 u188 u189 u190 u191 u192 u193 u194 u195 u196 u197 u198 u199 u200 u201 u202 u203 u204 u205 u206 u207 u208 u209 u210 u211 u212 u213 u214 u215 u216 u217 u218 u219 : Value}
    (h1 : s ≤ m) (h2 : m ≤ e1) (h3 : e1 ≤ n) (hl : n ≤ 100000) (hD : DatM W b o c ys) (hn : ys.length = n)
    (hQ : ∀ v178 v179 v180 v181 v182 v183 v184 v185 v186 v187 v188 v189 v190 v191 W', Turnd b o c s m e1 ys W W' → Q .normal ⟨#[.slice (some ⟨b, o, none⟩) n c, .int .i64 a, .int .i64 m, .int .i64 e, .func (.func g) #[] cap, u5, u6, u7, u8, u9, u10, u11, u12, u13, u14, u15, u16, u17, .int .i64 mid, u19, .int .i64 s, u21, u22, u23, .int .i64 e1, u25, u26, u27, u28, u29, u30, u31, u32, u33, u34, u35, u36, u37, u38, u39, u40, u41, u42, u43, u44, u45, u46, u47, u48, u49, u50, u51, u52, u53, u54, u55, u56, u57, u58, u59, u60, u61, u62, u63, u64, u65, u66, u67, u68, u69, u70, u71, u72, u73, u74, u75, u76, u77, u78, u79, u80, u81, u82, u83, u84, u85, u86, u87, u88, u89, u90, u91, u92, u93, u94, u95, u96, u97, u98, u99, u100, u101, u102, u103, u104, u105, u106, u107, u108, u109, u110, u111, u112, u113, u114, u115, u116, u117, u118, u119, u120, u121, u122, u123, u124, u125, u126, u127, u128, u129, u130, u131, u132, u133, u134, u135, u136, u137, u138, u139, u140, u141, u142, u143, u144, u145, u146, u147, u148, u149, u150, u151, u152, u153, u154, u155, u156, u157, u158, u159, u160, u161, u162, u163, u164, u165, u166, u167, u168, u169, u170, u171, u172, u173, u174, u175, u176, u177, v178, v179, v180, v181, v182, v183, v184, v185, v186, v187, v188, v189, v190, v191, u192, u193, u194, u195, u196, u197, u198, u199, u200, u201, u202, u203, u204, u205, u206, u207, u208, u209, u210, u211, u212, u213, u214, u215, u216, u217, u218, u219], []⟩ W') :
    Code.wp Tryz.prog (Tryz.f89.sub [1, 1, 1, 1, 1, 1, 1, 1, 1, 0]) Q ⟨#[.slice (some ⟨b, o, none⟩) n c, .int .i64 a, .int .i64 m, .int .i64 e, .func (.func g) #[] cap, u5, u6, u7, u8, u9, u10, u11, u12, u13, u14, u15, u16, u17, .int .i64 mid, u19, .int .i64 s, u21, u22, u23, .int .i64 e1, u25, u26, u27, u28, u29, u30, u31, u32, u33, u34, u35, u36, u37, u38, u39, u40, u41, u42, u43, u44, u45, u46, u47, u48, u49, u50, u51, u52, u53, u54, u55, u56, u57, u58, u59, u60, u61, u62, u63, u64, u65, u66, u67, u68, u69, u70, u71, u72, u73, u74, u75, u76, u77, u78, u79, u80, u81, u82, u83, u84, u85, u86, u87, u88, u89, u90, u91, u92, u93, u94, u95, u96, u97, u98, u99, u100, u101, u102, u103, u104, u105, u106, u107, u108, u109, u110, u111, u112, u113, u114, u115, u116, u117, u118, u119, u120, u121, u122, u123, u124, u125, u126, u127, u128, u129, u130, u131, u132, u133, u134, u135, u136, u137, u138, u139, u140, u141, u142, u143, u144, u145, u146, u147, u148, u149, u150, u151, u152, u153, u154, u155, u156, u157, u158, u159, u160, u161, u162, u163, u164, u165, u166, u167, u168, u169, u170, u171, u172, u173, u174, u175, u176, u177, u178, u179, u180, u181, u182, u183, u184, u185, u186, u187, u188, u189, u190, u191, u192, u193, u194, u195, u196, u197, u198, u199, u200, u201, u202, u203, u204, u205, u206, u207, u208, u209, u210, u211, u212, u213, u214, u215, u216, u217, u218, u219], []⟩ W := by
  conv => arg 2; whnf
  dsimp only
  have HQ := Lib.hid hQ; clear hQ
  have HD := Lib.hid hD; clear hD
  have HN := Lib.hid hn; clear hn
  by_cases c1 : s = m
  · have d1 : decide (s < m) = false := by simp; omega
    have HC1 := Lib.hid c1; clear c1
    go_wp2_with fail
    exact HQ.out _ _ _ _ _ _ _ _ _ _ _ _ _ _ W ⟨Tch.refl _ _, ys, HD.out, Seg.refl _ _ _, fun k => by rw [HC1.out, rot_nil]⟩
  · by_cases c2 : m = e1
    · have d1 : decide (s < m) = true := by simp; omega
      have d2 : decide (m < e1) = false := by simp; omega
      have HC1 := Lib.hid (And.intro c1 c2); clear c1 c2
      go_wp2_with fail
      exact HQ.out _ _ _ _ _ _ _ _ _ _ _ _ _ _ W ⟨Tch.refl _ _, ys, HD.out, Seg.refl _ _ _, fun k => by rw [← HC1.out.2, rot_id]⟩
    · have d1 : (s : Int) < (m : Int) := by omega
      have d2 : (m : Int) < (e1 : Int) := by omega
      have HI := Lib.hid (rotate_c (.func (.func g) #[] cap) HD.out HN.out (a := s) (m := m) (e := e1) (by omega) (by omega) h3 hl)
      have HC1 := Lib.hid (And.intro c1 c2); clear c1 c2
      go_wp2_with fail
      refine HI.out.mono ?_
      rintro r W2 ⟨⟨r, rfl⟩, hT, zs, hZ, hp, hr⟩
      have H := Lib.hid (And.intro hT (And.intro hZ (And.intro hp hr))); clear hT hZ hp hr
      go_wp2_with fail
      exact HQ.out _ _ _ _ _ _ _ _ _ _ _ _ _ _ _ ⟨H.out.1, zs, H.out.2.1, rot_seg H.out.2.2.1 h1 h2 H.out.2.2.2, H.out.2.2.2⟩
end Go.Proofs.YtjnpchoinncbnaaGreat
end
