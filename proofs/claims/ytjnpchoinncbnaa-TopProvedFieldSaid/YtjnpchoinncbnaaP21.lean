/- Proves parts of the statement, each under the conditions that its theorem states: The reference's Numbered; Plain: the reference's parts: the least number of each part spreads within n rounds; The reference's Parts: one edge; The reference's Parts: the loops. -/
import Derived.Test.YtjnpchoinncbnaaP20
import Derived.Test.YtjnpchoinncbnaaP19
section
set_option linter.unusedSimpArgs false
set_option linter.unusedVariables false
namespace Go.Proofs.Ytjnpchoinncbnaa
open Go.RowKit Sw Fam
def BNumPost (n : Nat) (p : List Int) (w : World) (e : Ending) (w' : World) : Prop := ∃ o out, e = .returned (.slice (some ⟨o, 0, none⟩) n n) ∧ out.length = n ∧ Below w.heap.size w w' ∧ IntB w' o out ∧ ∀ i k : Nat, i < n → gi p i = k → gi out i = gi out k
set_option maxHeartbeats 1000000 in
set_option maxRecDepth 100000 in
theorem bnumbered_c {n : Nat} {p : List Int} {A : Option Addr} {ca : Nat} {w : World} (hA : RdI w A p) (hl : p.length = n) (hn : n ≤ 1000) (hp : ∀ i, i < n → 0 ≤ gi p i ∧ gi p i ≤ i) :
    Calls Try.prog 30 #[.slice A n ca] w (BNumPost n p w) := by
  have HA := Lib.hid hA; clear hA
  have HP := Lib.hid hp; clear hp
  have HL := Lib.hid hl; clear hl
  have hmk := run_make_ints n (by omega) w
  go_enter Try.func30, Try.ntmps30
  go_wp2_with fail
  obtain ⟨w1, hw1⟩ : ∃ w1, w1 = w.alloc (.cells ((List.replicate n (0:Int)).flatMap encI).toArray 3) := ⟨_, rfl⟩
  rw [← hw1]
  have hB1 : Below w.heap.size w w1 := by rw [hw1]; exact (Below.refl _ _).alloc (Nat.le_refl _) _
  have hI1 : IntB w1 w.heap.size (List.replicate n 0) := by rw [hw1]; exact FlB.new w encI _ _
  clear hw1 hmk
  have H1 := Lib.hid (And.intro hB1 hI1); clear hB1 hI1
  go_loopw [4, 5] (fun v4 v5 wr => ∃ (i g : Nat) (out : List Int), v5 = .int .i64 i ∧ v4 = .int .i64 g ∧ i ≤ n ∧ g ≤ i ∧ out.length = n ∧ IntB wr w.heap.size out ∧ Below w.heap.size w wr ∧ ∀ j k : Nat, j < i → gi p j = k → gi out j = gi out k) (fun _ v5 _ => n - (intOf v5).toNat)
  case atStart => exact ⟨0, 0, _, rfl, rfl, Nat.zero_le _, Nat.le_refl _, by simp, H1.out.2, H1.out.1, fun j k hj => by omega⟩
  case round =>
    obtain ⟨i, g, out, rfl, rfl, hi, hg, hlo, hO, hB, hall⟩ := hrel
    by_cases hlt : i < n
    · obtain ⟨b, o, rfl, hc⟩ := (HA.out.keep hB) i (by rw [HL.out]; exact hlt)
      obtain ⟨p0, p1⟩ := HP.out i hlt
      obtain ⟨k, hk⟩ := Int.eq_ofNat_of_zero_le p0
      rw [hk] at hc p1
      have hci := hO.cell (j := i) (by omega)
      have hck := hO.cell (j := k) (by omega)
      have hfi := FlB.frozen hO i
      have hol := hO.lt
      have hki : k ≤ i := by omega
      have H := Lib.hid (And.intro hO (And.intro hB (And.intro hall hk))); clear hO hB hall hk
      have hnx : ∀ z : Int, (k = i ∨ z = gi out k) → ∀ j k' : Nat, j < i + 1 → gi p j = k' → gi (out.set i z) j = gi (out.set i z) k' := fun z hz j k' hj hjk => by
        have hki2 : k' ≤ j := by
          have := (HP.out j (by omega)).2
          omega
        rw [gi_set _ _ _ _ (by omega), gi_set _ _ _ _ (by omega)]
        by_cases e : i = j
        · subst e
          have : k = k' := by have := H.out.2.2.2; omega
          subst this
          rw [if_pos rfl]
          by_cases e2 : i = k
          · rw [if_pos e2]
          · rw [if_neg e2]; rcases hz with hz | hz
            · exact absurd hz.symm e2
            · exact hz
        · rw [if_neg e, if_neg (by omega)]
          exact H.out.2.2.1 j k' (by omega) hjk
      have HNX := Lib.hid hnx; clear hnx
      by_cases e : k = i
      · have e1 : ((k : Int) == (i : Int)) = true := by simp [e]
        have HE := Lib.hid e; clear e
        go_wp2_with fail
        go_roundw
        case rel =>
          exact ⟨i + 1, g + 1, out.set i g, by go_num, by go_num, by omega, by omega, by simp [hlo], H.out.1.set (by omega) _, H.out.2.1.setCell (Nat.le_refl _) _, HNX.out g (.inl HE.out)⟩
        case measure => simp [intOf]; omega
      · have e1 : ((k : Int) == (i : Int)) = false := by simp; omega
        have HE := Lib.hid e; clear e
        go_wp2_with fail
        go_roundw
        case rel =>
          exact ⟨i + 1, g, out.set i (gi out k), by go_num, rfl, by omega, by omega, by simp [hlo], H.out.1.set (by omega) _, H.out.2.1.setCell (Nat.le_refl _) _, HNX.out _ (.inr rfl)⟩
        case measure => simp [intOf]; omega
    · have : i = n := by omega
      subst this
      have H := Lib.hid (And.intro hO (And.intro hB hall)); clear hO hB hall
      go_wp2_with fail
      go_ret
      exact ⟨_, out, rfl, hlo, H.out.2.1, H.out.1, H.out.2.2⟩
end Go.Proofs.Ytjnpchoinncbnaa
end

section
set_option linter.unusedSimpArgs false
set_option linter.unusedVariables false
namespace Sw
open Go.Proofs.Ytjnpchoinncbnaa
def mg (e : Ed) (p : List Int) : List Int := if 0 < e.k ∧ gi p e.f ≠ gi p e.t then (p.set e.f (min (gi p e.f) (gi p e.t))).set e.t (min (gi p e.f) (gi p e.t)) else p
def pass (es : List Ed) (p : List Int) : Nat → List Int
  | 0 => p
  | k + 1 => mg (ge es k) (pass es p k)
structure LInv (n : Nat) (es : List Ed) (p : List Int) : Prop where
  len : p.length = n
  at_ : ∀ v, v < n → 0 ≤ gi p v ∧ gi p v ≤ v ∧ Cn es (gi p v).toNat v
theorem mg_len (e : Ed) (p : List Int) : (mg e p).length = p.length := by unfold mg; split <;> simp
theorem mg_get {e : Ed} {p : List Int} {v : Nat} (hf : e.f < p.length) (ht : e.t < p.length) : gi (mg e p) v = if (0 < e.k ∧ gi p e.f ≠ gi p e.t) ∧ (v = e.f ∨ v = e.t) then min (gi p e.f) (gi p e.t) else gi p v := by
  unfold mg
  by_cases h : 0 < e.k ∧ gi p e.f ≠ gi p e.t
  · rw [if_pos h, gi_set _ _ _ _ (by simpa using ht), gi_set _ _ _ _ hf]
    by_cases h1 : e.t = v
    · rw [if_pos h1, if_pos ⟨h, .inr h1.symm⟩]
    · rw [if_neg h1]
      by_cases h2 : e.f = v
      · rw [if_pos h2, if_pos ⟨h, .inl h2.symm⟩]
      · rw [if_neg h2, if_neg (fun hh => by rcases hh.2 with e | e <;> simp_all)]
  · rw [if_neg h, if_neg (fun hh => h hh.1)]
theorem mg_le {e : Ed} {p : List Int} {v : Nat} (hf : e.f < p.length) (ht : e.t < p.length) : gi (mg e p) v ≤ gi p v := by
  rw [mg_get hf ht]
  split
  · rename_i h
    rcases h.2 with rfl | rfl <;> omega
  · omega
section
variable {n J : Nat} {es : List Ed}
theorem mg_inv (hg : Gd n J es) {p : List Int} (h : LInv n es p) {k : Nat} (hk : k < es.length) : LInv n es (mg (ge es k) p) := by
  obtain ⟨e1, e2, _⟩ := hg.ends k hk
  have hf : (ge es k).f < p.length := by rw [h.len]; exact e1
  have ht : (ge es k).t < p.length := by rw [h.len]; exact e2
  refine ⟨by rw [mg_len, h.len], fun v hv => ?_⟩
  rw [mg_get hf ht]
  split
  · rename_i hc
    obtain ⟨⟨hw, hne⟩, hv'⟩ := hc
    obtain ⟨f1, f2, f3⟩ := h.at_ _ e1
    obtain ⟨t1, t2, t3⟩ := h.at_ _ e2
    have hcf : ∀ u, Cn es u (ge es k).f → Cn es u (ge es k).t := fun u hu => .fw k hk hw hu
    have hct : ∀ u, Cn es u (ge es k).t → Cn es u (ge es k).f := fun u hu => .bw k hk hw hu
    by_cases hm : gi p (ge es k).f ≤ gi p (ge es k).t
    · rw [Int.min_eq_left hm]
      rcases hv' with rfl | rfl
      · exact ⟨f1, f2, f3⟩
      · exact ⟨f1, by omega, hcf _ f3⟩
    · rw [Int.min_eq_right (by omega)]
      rcases hv' with rfl | rfl
      · exact ⟨t1, by omega, hct _ t3⟩
      · exact ⟨t1, t2, t3⟩
  · exact h.at_ v hv
theorem pass_inv (hg : Gd n J es) {p : List Int} (h : LInv n es p) : ∀ k, k ≤ es.length → LInv n es (pass es p k) := by
  intro k
  induction k with
  | zero => intro _; exact h
  | succ k ih => intro hk; exact mg_inv hg (ih (by omega)) (by omega)
theorem pass_le (hg : Gd n J es) {p : List Int} (h : LInv n es p) {v : Nat} {i : Nat} : ∀ d, i + d ≤ es.length → gi (pass es p (i + d)) v ≤ gi (pass es p i) v := by
  intro d
  induction d with
  | zero => intro _; exact Int.le_refl _
  | succ d ih =>
    intro hk
    have h1 := pass_inv hg h (i + d) (by omega)
    obtain ⟨e1, e2, _⟩ := hg.ends (i + d) (by omega)
    have := mg_le (e := ge es (i + d)) (p := pass es p (i + d)) (v := v) (by rw [h1.len]; exact e1) (by rw [h1.len]; exact e2)
    exact Int.le_trans this (ih (by omega))
def IsMin (es : List Ed) (m : Nat) : Prop := ∀ u, Cn es m u → m ≤ u
theorem lab_ge {p : List Int} (h : LInv n es p) {m v : Nat} (hm : IsMin es m) (hc : Cn es m v) (hv : v < n) : (m : Int) ≤ gi p v := by
  obtain ⟨h1, h2, h3⟩ := h.at_ v hv
  have := hm _ (hc.trans h3.symm)
  omega
theorem pass_keep (hg : Gd n J es) {p : List Int} (h : LInv n es p) {m v i : Nat} (hm : IsMin es m) (hc : Cn es m v) (hv : v < n) {d : Nat} (hd : i + d ≤ es.length) (he : gi (pass es p i) v = m) : gi (pass es p (i + d)) v = m := by
  have h1 := pass_le hg h (v := v) d hd
  have h2 := lab_ge (pass_inv hg h (i + d) hd) hm hc hv
  omega
def cntL (n : Nat) (p : List Int) (m : Nat) : Int := sm n fun v => if gi p v = m then 1 else 0
theorem cntL_le (n : Nat) (p : List Int) (m : Nat) : cntL n p m ≤ n := by
  unfold cntL
  induction n with
  | zero => exact Int.le_refl _
  | succ n ih =>
    show sm n _ + (if gi p n = m then 1 else 0) ≤ _
    split <;> omega
def Spread (n : Nat) (es : List Ed) (p : List Int) (r : Nat) : Prop := ∀ m, m < n → IsMin es m → (∀ v, v < n → Cn es m v → gi p v = m) ∨ (r : Int) + 1 ≤ cntL n p m
theorem cross {P : Nat → Prop} {m v : Nat} (hc : Cn es m v) (h0 : P m) (h1 : ¬ P v) : ∃ k, k < es.length ∧ 0 < (ge es k).k ∧ ((P (ge es k).f ∧ ¬ P (ge es k).t ∧ Cn es m (ge es k).f) ∨ (P (ge es k).t ∧ ¬ P (ge es k).f ∧ Cn es m (ge es k).t)) := by
  induction hc with
  | refl => exact absurd h0 h1
  | fw i hi hk h ih =>
    by_cases hp : P (ge es i).f
    · exact ⟨i, hi, hk, .inl ⟨hp, h1, h⟩⟩
    · exact ih hp
  | bw i hi hk h ih =>
    by_cases hp : P (ge es i).t
    · exact ⟨i, hi, hk, .inr ⟨hp, h1, h⟩⟩
    · exact ih hp
theorem spread_step (hg : Gd n J es) {p : List Int} (h : LInv n es p) {r : Nat} (hs : Spread n es p r) : Spread n es (pass es p es.length) (r + 1) := by
  intro m hmn hm
  have kp : ∀ v, v < n → Cn es m v → gi p v = m → gi (pass es p es.length) v = m := fun v hv hc he => by
    have := pass_keep hg h (i := 0) hm hc hv (d := es.length) (by omega) he
    rwa [Nat.zero_add] at this
  rcases hs m hmn hm with hall | hcnt
  · exact .inl fun v hv hc => kp v hv hc (hall v hv hc)
  · by_cases hall : ∀ v, v < n → Cn es m v → gi p v = m
    · exact .inl fun v hv hc => kp v hv hc (hall v hv hc)
    · right
      have hex : ∃ v, v < n ∧ Cn es m v ∧ ¬ gi p v = m := by
        refine Classical.byContradiction fun hno => hall fun v hv hc => Classical.byContradiction fun hne => hno ⟨v, hv, hc, hne⟩
      obtain ⟨v, hv, hc, hne⟩ := hex
      have hpm : gi p m = m := by
        have h1 := (h.at_ m hmn).2.1
        have h2 := lab_ge h hm (.refl m) hmn
        omega
      obtain ⟨k, hk, hw, hcr⟩ := cross (P := fun u => gi p u = m) hc hpm hne
      obtain ⟨e1, e2, _⟩ := hg.ends k hk
      have hik := pass_inv hg h k (by omega)
      have hf : (ge es k).f < (pass es p k).length := by rw [hik.len]; exact e1
      have ht : (ge es k).t < (pass es p k).length := by rw [hik.len]; exact e2
      have learn : ∀ a b, (a = (ge es k).f ∧ b = (ge es k).t ∨ a = (ge es k).t ∧ b = (ge es k).f) → gi p a = m → Cn es m a → a < n → b < n → ¬ gi p b = m → ∃ b, b < n ∧ ¬ gi p b = m ∧ gi (pass es p es.length) b = m := by
        intro a b hab hpa hca ha hb hpb
        have hcb : Cn es m b := by
          rcases hab with ⟨rfl, rfl⟩ | ⟨rfl, rfl⟩
          · exact .fw k hk hw hca
          · exact .bw k hk hw hca
        have hka : gi (pass es p k) a = m := by
          have := pass_keep hg h (i := 0) hm hca ha (d := k) (by omega) hpa
          rwa [Nat.zero_add] at this
        have hkb := lab_ge hik hm hcb hb
        have hb1 : gi (pass es p (k + 1)) b = m := by
          show gi (mg (ge es k) (pass es p k)) b = m
          rw [mg_get hf ht]
          rcases hab with ⟨rfl, rfl⟩ | ⟨rfl, rfl⟩
          · by_cases hq : gi (pass es p k) (ge es k).f = gi (pass es p k) (ge es k).t
            · rw [if_neg (fun hh => hh.1.2 hq)]; omega
            · rw [if_pos ⟨⟨hw, hq⟩, .inr rfl⟩]; omega
          · by_cases hq : gi (pass es p k) (ge es k).f = gi (pass es p k) (ge es k).t
            · rw [if_neg (fun hh => hh.1.2 hq)]; omega
            · rw [if_pos ⟨⟨hw, hq⟩, .inl rfl⟩]; omega
        have := pass_keep hg h (i := k + 1) hm hcb hb (d := es.length - (k + 1)) (by omega) hb1
        rw [show k + 1 + (es.length - (k + 1)) = es.length by omega] at this
        exact ⟨b, hb, hpb, this⟩
      have : ∃ b, b < n ∧ ¬ gi p b = m ∧ gi (pass es p es.length) b = m := by
        rcases hcr with ⟨h1, h2, h3⟩ | ⟨h1, h2, h3⟩
        · exact learn _ _ (.inl ⟨rfl, rfl⟩) h1 h3 e1 e2 h2
        · exact learn _ _ (.inr ⟨rfl, rfl⟩) h1 h3 e2 e1 h2
      obtain ⟨b, hb, hb1, hb2⟩ := this
      have hlt : cntL n p m < cntL n (pass es p es.length) m := by
        refine sm_lt (fun v hv => ?_) b hb ?_
        · by_cases hpv : gi p v = m
          · have hcv := (h.at_ v hv).2.2
            rw [hpv, Int.toNat_natCast] at hcv
            rw [if_pos hpv, if_pos (kp v hv hcv hpv)]; omega
          · rw [if_neg hpv]; split <;> omega
        · rw [if_neg hb1, if_pos hb2]; decide
      omega
theorem min_of (es : List Ed) (f : Nat) : ∃ m, Cn es m f ∧ IsMin es m := by
  have : ∀ c, Cn es c f → ∃ m, Cn es m f ∧ IsMin es m := by
    intro c
    induction c using Nat.strongRecOn with
    | _ c ih =>
      intro hc
      by_cases h : IsMin es c
      · exact ⟨c, hc, h⟩
      · have : ∃ u, Cn es c u ∧ ¬ c ≤ u := Classical.byContradiction fun hno => h fun u hu => Classical.byContradiction fun hle => hno ⟨u, hu, hle⟩
        obtain ⟨u, hu, hlt⟩ := this
        exact ih u (by omega) (hu.symm.trans hc)
  exact this f (.refl f)
def Same (es : List Ed) (p : List Int) : Prop := ∀ k, k < es.length → 0 < (ge es k).k → gi p (ge es k).f = gi p (ge es k).t
theorem spread_end (hg : Gd n J es) {p : List Int} (h : LInv n es p) (hs : Spread n es p n) : Same es p := by
  intro k hk hw
  obtain ⟨e1, e2, _⟩ := hg.ends k hk
  obtain ⟨m, hc, hm⟩ := min_of es (ge es k).f
  have hmn : m < n := by have := hm _ hc; omega
  rcases hs m hmn hm with hall | hcnt
  · rw [hall _ e1 hc, hall _ e2 (.fw k hk hw hc)]
  · have := cntL_le n p m
    omega
theorem lab_start {n : Nat} (es : List Ed) {p : List Int} (hl : p.length = n) (hp : ∀ v, v < n → gi p v = v) : LInv n es p ∧ Spread n es p 0 := by
  refine ⟨⟨hl, fun v hv => ?_⟩, fun m hm _ => .inr ?_⟩
  · rw [hp v hv]
    exact ⟨by omega, by omega, by rw [Int.toNat_natCast]; exact .refl v⟩
  · have := sm_ge_one (n := n) (f := fun v => if gi p v = m then 1 else 0) (fun i _ => by split <;> omega) m hm
    rw [if_pos (hp m hm)] at this
    unfold cntL
    omega
def moved (es : List Ed) (p : List Int) : Nat → Bool
  | 0 => false
  | k + 1 => moved es p k || decide (0 < (ge es k).k ∧ gi (pass es p k) (ge es k).f ≠ gi (pass es p k) (ge es k).t)
theorem still (es : List Ed) (p : List Int) : ∀ k, moved es p k = false → pass es p k = p ∧ ∀ i, i < k → 0 < (ge es i).k → gi p (ge es i).f = gi p (ge es i).t := by
  intro k
  induction k with
  | zero => intro _; exact ⟨rfl, fun i hi => by omega⟩
  | succ k ih =>
    intro h
    simp only [moved, Bool.or_eq_false_iff, decide_eq_false_iff_not] at h
    obtain ⟨h1, h2⟩ := ih h.1
    have hn := h.2
    rw [h1] at hn
    refine ⟨?_, fun i hi hw => ?_⟩
    · show mg (ge es k) (pass es p k) = p
      rw [h1]
      unfold mg
      rw [if_neg hn]
    · by_cases e : i = k
      · subst e
        exact Classical.byContradiction fun hne => hn ⟨hw, hne⟩
      · exact h2 i (by omega) hw
theorem Same.cn {p : List Int} (h : Same es p) {u v : Nat} (hc : Cn es u v) : gi p u = gi p v := hc.same (fun x => gi p x) (fun i hi hk => h i hi hk)
end
end Sw
end

section
set_option linter.unusedSimpArgs false
set_option linter.unusedVariables false
namespace Go.Proofs.Ytjnpchoinncbnaa
open Go.RowKit Sw Fam
def PFr (T0 P n : Nat) (l : List (Nat × Value)) : Act → Prop := FrD 82 [] ([(1, .pointer (some ⟨T0, 0, none⟩)), (3, .slice (some ⟨P, 0, none⟩) n n)] ++ l)
def two (p : List Int) (f t : Nat) (z : Int) (a b : Bool) : List Int :=
  let q := if a = true then p.set f z else p
  if b = true then q.set t z else q
theorem two_len (p : List Int) (f t : Nat) (z : Int) (a b : Bool) : (two p f t z a b).length = p.length := by cases a <;> cases b <;> simp [two]
theorem two_f {p : List Int} {f t : Nat} {z : Int} {b : Bool} (hne : f ≠ t) : (two p f t z false b).set f z = two p f t z true b := by
  cases b
  · rfl
  · exact (List.set_comm z z hne).symm
theorem two_t {p : List Int} {f t : Nat} {z : Int} {a : Bool} : (two p f t z a false).set t z = two p f t z a true := rfl
def StP (W : World) (P : Nat) (p : List Int) (f t : Nat) (z : Int) (i j : Nat) (L : Nat → Bool) (_ : Nat → Value) (w : World) : Prop := Tch [P] W w ∧ IntB w P (two p f t z (L i) (L j))
theorem StP.up {W w : World} {P : Nat} {p : List Int} {f t : Nat} {z : Int} {i j k : Nat} {L : Nat → Bool} {V : Nat → Value} (h : StP W P p f t z i j L V w) (hi : (Nat.beq i k || Nat.beq j k) = false) : StP W P p f t z i j (upd L k) V w := by
  simp only [Bool.or_eq_false_iff] at hi
  unfold StP at *
  simpa only [upd, hi.1, hi.2, cond_false] using h
set_option maxHeartbeats 4000000 in
set_option maxRecDepth 100000 in
theorem bpt_edge {m T0 P n r k b o ca mm : Nat} {ch : Bool} {e : Ed} {p : List Int} {W : World} {Q : Exit → Act → World → Prop} {u0 u2 u4 u8 u9 u10 u11 u12 u13 u14 u15 u16 u17 u18 u19 u20 u21 u22 u23 u24 u25 u26 u27 u28 u29 u30 u31 u32 u33 u34 u35 u36 u37 u38 u39 u40 u41 u42 u43 u44 u45 u46 u47 u48 u49 u50 u51 u52 u53 u54 u55 u56 u57 u58 u59 u60 u61 u62 u63 u64 u65 u66 u67 u68 u69 u70 u71 u72 u73 u74 u75 u76 u77 u78 u79 u80 u81 : Value}
    (t1 : W.cell? ⟨T0, 1, none⟩ = some (.slice (some ⟨b, o, none⟩) mm ca)) (hk : k < mm) (hmm : mm ≤ 600)
    (e0 : W.cell? ⟨b, o + k * 4, none⟩ = some (.int .i64 e.f)) (e1 : W.cell? ⟨b, o + k * 4 + 1, none⟩ = some (.int .i64 e.t)) (e2 : W.cell? ⟨b, o + k * 4 + 2, none⟩ = some (.int .i64 e.j)) (e3 : W.cell? ⟨b, o + k * 4 + 3, none⟩ = some (.int .i64 e.k))
    (hP : IntB W P p) (hpl : p.length = n) (hf : e.f < n) (ht : e.t < n) (hne : e.f ≠ e.t) (hn : n ≤ 1000) (hT : T0 ≠ P) (hb : b ≠ P) (hpb : ∀ v, v < n → 0 ≤ gi p v ∧ gi p v ≤ 1000)
    (hQ : ∀ a' w', IntB w' P (mg e p) → Tch [P] W w' → PFr T0 P n [(5, .int .i64 r), (6, .bool (ch || decide (0 < e.k ∧ gi p e.f ≠ gi p e.t))), (7, .int .i64 k)] a' → Q .normal a' w') :
    Code.wpIn Fence.wide m Try.prog (Try.f11.sub [1, 1, 1, 0, 1, 0, 0, 1, 0, 0, 1, 0, 1, 0, 0, 1, 0, 0]) Q ⟨#[u0, .pointer (some ⟨T0, 0, none⟩), u2, .slice (some ⟨P, 0, none⟩) n n, u4, .int .i64 r, .bool ch, .int .i64 k, u8, u9, u10, u11, u12, u13, u14, u15, u16, u17, u18, u19, u20, u21, u22, u23, u24, u25, u26, u27, u28, u29, u30, u31, u32, u33, u34, u35, u36, u37, u38, u39, u40, u41, u42, u43, u44, u45, u46, u47, u48, u49, u50, u51, u52, u53, u54, u55, u56, u57, u58, u59, u60, u61, u62, u63, u64, u65, u66, u67, u68, u69, u70, u71, u72, u73, u74, u75, u76, u77, u78, u79, u80, u81], []⟩ W := by
  show Code.wpIn Fence.wide m Try.prog (.seq (Try.f11.sub [1, 1, 1, 0, 1, 0, 0, 1, 0, 0, 1, 0, 1, 0, 0, 1, 0, 0, 0]) (.seq (Try.f11.sub [1, 1, 1, 0, 1, 0, 0, 1, 0, 0, 1, 0, 1, 0, 0, 1, 0, 0, 1, 0]) (.seq (Try.f11.sub [1, 1, 1, 0, 1, 0, 0, 1, 0, 0, 1, 0, 1, 0, 0, 1, 0, 0, 1, 1, 0]) (.cond (.tmp 67) (Try.f11.sub [1, 1, 1, 0, 1, 0, 0, 1, 0, 0, 1, 0, 1, 0, 0, 1, 0, 0, 1, 1, 1, 0]) .skip)))) _ _ _
  have HQ := Lib.hid hQ; clear hQ
  have HP := Lib.hid hP; clear hP
  have hPl := HP.out.lt
  have hf0 := hpb _ hf
  have ht0 := hpb _ ht
  have HPB := Lib.hid hpb; clear hpb
  have hbl := World.block_lt_of_cell? _ _ e0
  have hTl := World.block_lt_of_cell? _ _ t1
  refine wpIn_seq ?_
  conv => arg 4; whnf
  gi_wp2_with fail
  refine nameW ?_
  intro W1 hW1
  have hB1 : Below W.heap.size W W1 := by rw [hW1]; exact (Below.refl _ _).alloc (Nat.le_refl _) _
  have hE : W1.heap[W.heap.size]? = some (.cells #[.int .i64 e.f, .int .i64 e.t, .int .i64 e.j, .int .i64 e.k] 66 (0, 0)) := by rw [hW1]; exact World.alloc_heap_new W _
  have a0 : W1.cell? ⟨W.heap.size, 0, none⟩ = some (.int .i64 e.f) := block_cell hE (j := 0) (by simp)
  have a1 : W1.cell? ⟨W.heap.size, 1, none⟩ = some (.int .i64 e.t) := block_cell hE (j := 1) (by simp)
  have a3 : W1.cell? ⟨W.heap.size, 3, none⟩ = some (.int .i64 e.k) := block_cell hE (j := 3) (by simp)
  have hI1 := HP.out.keep hB1
  have pf := hI1.cell (j := e.f) (by omega)
  have pt := hI1.cell (j := e.t) (by omega)
  have H1 := Lib.hid (And.intro hB1 (And.intro hE hI1)); clear hB1 hE hI1 hW1 e0 e1 e2 e3 t1
  obtain ⟨x, hx⟩ : ∃ x, x = gi p e.f := ⟨_, rfl⟩
  obtain ⟨y, hy⟩ : ∃ y, y = gi p e.t := ⟨_, rfl⟩
  rw [← hx] at pf hf0
  rw [← hy] at pt ht0
  have HXY := Lib.hid (And.intro hx hy); clear hx hy
  conv => arg 4; whnf
  refine regionIn_reads (.inl rfl) (by kernel_rfl) (by kernel_rfl) (by kernel_rfl) ?_
  repeat (go_big_quiet_step (fail))
  refine wpQuiet_nil ?_
  intro _ hw'
  obtain ⟨nq, rfl⟩ := hw'
  generalize hlow : (if y < x then y else x) = low
  have hlo : low = min x y := by rw [← hlow]; split <;> omega
  have HLO := Lib.hid hlo; clear hlow hlo
  obtain ⟨W2, hW2⟩ : ∃ W2, W2 = W1.drewN nq := ⟨_, rfl⟩
  rw [← hW2]
  have hb0 : W2.cell? ⟨W.heap.size, 0, none⟩ = some (.int .i64 e.f) := by rw [hW2]; exact a0
  have hb1 : W2.cell? ⟨W.heap.size, 1, none⟩ = some (.int .i64 e.t) := by rw [hW2]; exact a1
  have hb3 : W2.cell? ⟨W.heap.size, 3, none⟩ = some (.int .i64 e.k) := by rw [hW2]; exact a3
  have hpf : W2.cell? ⟨P, e.f, none⟩ = some (.int .i64 x) := by rw [hW2]; exact pf
  have hpt : W2.cell? ⟨P, e.t, none⟩ = some (.int .i64 y) := by rw [hW2]; exact pt
  have H2 := Lib.hid (show Below W.heap.size W W2 ∧ IntB W2 P p from by rw [hW2]; exact ⟨below_drewN H1.out.1 nq, H1.out.2.2.drewN nq⟩)
  clear hW2 a0 a1 a3 pf pt H1
  have hEl := World.block_lt_of_cell? _ _ hb0
  have hend : ∀ a' w', IntB w' P (mg e p) → Tch [P] W2 w' → PFr T0 P n [(5, .int .i64 r), (6, .bool (ch || decide (0 < e.k ∧ gi p e.f ≠ gi p e.t))), (7, .int .i64 k)] a' → Q .normal a' w' := fun a' w' h1 h2 h3 =>
    HQ.out a' w' h1 (⟨h2.os.trans H2.out.1.os, h2.tape.trans H2.out.1.tape, h2.output.trans H2.out.1.output, Nat.le_trans H2.out.1.size h2.size, fun b hb hn => (h2.block b (Nat.lt_of_lt_of_le hb H2.out.1.size) hn).trans (H2.out.1.block b hb)⟩) h3
  have HEND := Lib.hid hend; clear hend HQ
  rename_i K hK
  refine hK _ _ ?_
  clear hK K
  refine wpIn_seq ?_
  conv => arg 4; whnf
  by_cases hw : 0 < e.k
  · by_cases hne2 : x = y
    · have hd : decide (0 < e.k) = true := by simpa using hw
      have hxy : (x != y) = false := by simp [hne2]
      have hdec : decide (0 < e.k ∧ gi p e.f ≠ gi p e.t) = false := by simp; intro _; rw [← HXY.out.1, ← HXY.out.2]; exact hne2
      have hmg : mg e p = p := by unfold mg; rw [if_neg (fun h => h.2 (by rw [← HXY.out.1, ← HXY.out.2]; exact hne2))]
      rw [hdec, hmg, Bool.or_false] at HEND
      clear hdec hmg hne2 hw
      refine regionIn_reads (.inl rfl) (by kernel_rfl) (by kernel_rfl) (by kernel_rfl) ?_
      repeat (go_big_quiet_step (fail))
      refine wpQuiet_nil ?_
      intro _ hw'
      obtain ⟨nq2, rfl⟩ := hw'
      gi_wp2_with fail
      exact HEND.out _ _ (H2.out.2.drewN nq2) ((Tch.refl _ _).drewN nq2) (by unfold PFr; (refine ⟨rfl, rfl, ?_⟩; repeat (first | exact trivial | refine ⟨rfl, ?_⟩)))
    · have hd : decide (0 < e.k) = true := by simpa using hw
      have hxy : (x != y) = true := by simpa using hne2
      have hgg : gi p e.f ≠ gi p e.t := by rw [← HXY.out.1, ← HXY.out.2]; exact hne2
      have hdec : decide (0 < e.k ∧ gi p e.f ≠ gi p e.t) = true := by simp; exact ⟨hw, hgg⟩
      have hmg : mg e p = (p.set e.f low).set e.t low := by unfold mg; rw [if_pos ⟨hw, hgg⟩, ← HXY.out.1, ← HXY.out.2, ← HLO.out]
      rw [hdec, hmg, Bool.or_true] at HEND
      clear hdec hmg hne2 hw hgg
      refine regionIn_reads (.inl rfl) (by kernel_rfl) (by kernel_rfl) (by kernel_rfl) ?_
      repeat (go_big_quiet_step (fail))
      refine wpQuiet_nil ?_
      intro _ hw'
      obtain ⟨nq2, rfl⟩ := hw'
      gi_wp2_with fail
      have hPE : (W.heap.size : Nat) ∉ [P] := by simp; omega
      have hfr0 := fun j => (H2.out.2.drewN nq2).frozen j
      obtain ⟨W3, hW3⟩ : ∃ W3, W3 = W2.drewN nq2 := ⟨_, rfl⟩
      rw [← hW3]
      have hb0 : W3.cell? ⟨W.heap.size, 0, none⟩ = some (.int .i64 e.f) := by rw [hW3]; exact hb0
      have hb1 : W3.cell? ⟨W.heap.size, 1, none⟩ = some (.int .i64 e.t) := by rw [hW3]; exact hb1
      have hI3 : IntB W3 P p := by rw [hW3]; exact H2.out.2.drewN nq2
      have hT3 : Tch [P] W2 W3 := by rw [hW3]; exact (Tch.refl _ _).drewN nq2
      have H3 := Lib.hid (And.intro hI3 hT3); clear hI3 hT3 hW3 hfr0 hpf hpt hb3
      conv => arg 4; whnf
      refine regionIn_rel (.inl rfl) (by kernel_rfl) (by kernel_rfl) (by kernel_rfl) (StP W3 P p e.f e.t low 9 11) ⟨(Tch.refl _ _).drewN 1, H3.out.1.drewN 1⟩ ?_
      (refine rel_val rfl (.slice (some ⟨P, 0, none⟩) n n) (fun _ _ _ h => StP.up h rfl) (fun V L w h1 h2 h3 hC => by unfold execOp; go_simp) ?_; simp only [Act.put, List.setIfInBounds_toArray, List.set_cons_succ, List.set_cons_zero])
      (refine rel_val rfl (.pointer (some ⟨W.heap.size, 0, none⟩)) (fun _ _ _ h => StP.up h rfl) (fun V L w h1 h2 h3 hC => by unfold execOp; go_simp) ?_; simp only [Act.put, List.setIfInBounds_toArray, List.set_cons_succ, List.set_cons_zero])
      (refine rel_val rfl _ (fun _ _ _ h => StP.up h rfl) (fun V L w h1 h2 h3 hC => ex_load1 _ _ rfl _ rfl (hC.1.cell (by exact hPE) hb0) _ Try.underlying3 rfl) ?_; simp only [Act.put, List.setIfInBounds_toArray, List.set_cons_succ, List.set_cons_zero])
      (refine rel_val rfl (.slice (some ⟨P, 0, none⟩) n n) (fun _ _ _ h => StP.up h rfl) (fun V L w h1 h2 h3 hC => by unfold execOp; go_simp) ?_; simp only [Act.put, List.setIfInBounds_toArray, List.set_cons_succ, List.set_cons_zero])
      (refine rel_val rfl (.pointer (some ⟨W.heap.size, 1, none⟩)) (fun _ _ _ h => StP.up h rfl) (fun V L w h1 h2 h3 hC => by unfold execOp; go_simp) ?_; simp only [Act.put, List.setIfInBounds_toArray, List.set_cons_succ, List.set_cons_zero])
      (refine rel_val rfl _ (fun _ _ _ h => StP.up h rfl) (fun V L w h1 h2 h3 hC => ex_load1 _ _ rfl _ rfl (hC.1.cell (by exact hPE) hb1) _ Try.underlying3 rfl) ?_; simp only [Act.put, List.setIfInBounds_toArray, List.set_cons_succ, List.set_cons_zero])
      (refine rel_val rfl (.int .i64 low) (fun _ _ _ h => StP.up h rfl) (fun V L w h1 h2 h3 hC => by unfold execOp; go_simp) ?_; simp only [Act.put, List.setIfInBounds_toArray, List.set_cons_succ, List.set_cons_zero])
      (refine rel_val rfl (.int .i64 low) (fun _ _ _ h => StP.up h rfl) (fun V L w h1 h2 h3 hC => by unfold execOp; go_simp) ?_; simp only [Act.put, List.setIfInBounds_toArray, List.set_cons_succ, List.set_cons_zero])
      (refine rel_val rfl (.pointer (some ⟨P, e.f, none⟩)) (fun _ _ _ h => StP.up h rfl) (fun V L w h1 h2 h3 hC => by unfold execOp; go_simp) ?_; simp only [Act.put, List.setIfInBounds_toArray, List.set_cons_succ, List.set_cons_zero])
      refine rel_fix rfl undef (fun V L w h1 h2 h3 hC => ?_) ?_
      · rw [ex_store1 3 _ _ rfl P e.f (.int .i64 low) rfl rfl (hC.2.cell (j := e.f) (by rw [two_len]; omega)) (hC.2.frozen e.f) (by kernel_rfl) rfl rfl]
        refine ⟨rfl, hC.1.set (.inl (by simp)) _, ?_⟩
        have h := hC.2.set (j := e.f) (by rw [two_len]; omega) low
        rw [h1, two_f hne] at h
        rw [show upd L 9 9 = true from upd_same L 9, show upd L 9 11 = L 11 from upd_ne L (by decide)]
        exact h
      simp only [Act.put, List.setIfInBounds_toArray, List.set_cons_succ, List.set_cons_zero]
      (refine rel_val rfl (.pointer (some ⟨P, e.t, none⟩)) (fun _ _ _ h => StP.up h rfl) (fun V L w h1 h2 h3 hC => by unfold execOp; go_simp) ?_; simp only [Act.put, List.setIfInBounds_toArray, List.set_cons_succ, List.set_cons_zero])
      refine rel_fix rfl undef (fun V L w h1 h2 h3 hC => ?_) ?_
      · rw [ex_store1 3 _ _ rfl P e.t (.int .i64 low) rfl rfl (hC.2.cell (j := e.t) (by rw [two_len]; omega)) (hC.2.frozen e.t) (by kernel_rfl) rfl rfl]
        refine ⟨rfl, hC.1.set (.inl (by simp)) _, ?_⟩
        have h := hC.2.set (j := e.t) (by rw [two_len]; omega) low
        rw [h1, two_t] at h
        rw [show upd L 11 11 = true from upd_same L 11, show upd L 11 9 = L 9 from upd_ne L (by decide)]
        exact h
      simp only [Act.put, List.setIfInBounds_toArray, List.set_cons_succ, List.set_cons_zero]
      (refine rel_val rfl (.bool true) (fun _ _ _ h => StP.up h rfl) (fun V L w h1 h2 h3 hC => by unfold execOp; go_simp) ?_; simp only [Act.put, List.setIfInBounds_toArray, List.set_cons_succ, List.set_cons_zero])
      intro V L w' hL hC
      unfold StP at hC
      rw [hL 9 (by decide), hL 11 (by decide)] at hC
      exact HEND.out _ _ hC.2 (H3.out.2.trans hC.1) (by unfold PFr; (refine ⟨rfl, rfl, ?_⟩; repeat (first | exact trivial | refine ⟨rfl, ?_⟩)))
  · have hd : decide (0 < e.k) = false := by simp; omega
    have hdec : decide (0 < e.k ∧ gi p e.f ≠ gi p e.t) = false := by simp; intro h; omega
    have hmg : mg e p = p := by unfold mg; rw [if_neg (fun h => hw h.1)]
    rw [hdec, hmg, Bool.or_false] at HEND
    clear hdec hmg hw
    refine regionIn_reads (.inl rfl) (by kernel_rfl) (by kernel_rfl) (by kernel_rfl) ?_
    repeat (go_big_quiet_step (fail))
    refine wpQuiet_nil ?_
    intro _ hw'
    obtain ⟨nq2, rfl⟩ := hw'
    gi_wp2_with fail
    exact HEND.out _ _ (H2.out.2.drewN nq2) ((Tch.refl _ _).drewN nq2) (by unfold PFr; (refine ⟨rfl, rfl, ?_⟩; repeat (first | exact trivial | refine ⟨rfl, ?_⟩)))
end Go.Proofs.Ytjnpchoinncbnaa
end

section
set_option linter.unusedSimpArgs false
set_option linter.unusedVariables false
namespace Go.Proofs.Ytjnpchoinncbnaa
open Go.RowKit Sw Fam
structure POk (W5 : World) (T0 P n J ca : Nat) (A : Option Addr) (es : List Ed) : Prop where
  gd : Gd n J es
  t0 : W5.cell? ⟨T0, 0, none⟩ = some (.int .i64 n)
  t1 : W5.cell? ⟨T0, 1, none⟩ = some (.slice A es.length ca)
  ed : RdE W5 A es
  tP : T0 ≠ P
  aP : ∀ b o, 0 < es.length → A = some ⟨b, o, none⟩ → b ≠ P
def PIn (W5 : World) (T0 P n r : Nat) (es : List Ed) (p : List Int) (a : Act) (w : World) : Prop :=
  ∃ k : Nat, k ≤ es.length ∧ IntB w P (pass es p k) ∧ Tch [P] W5 w ∧ PFr T0 P n [(5, .int .i64 r), (6, .bool (moved es p k)), (7, .int .i64 k)] a
set_option maxHeartbeats 4000000 in
set_option maxRecDepth 100000 in
theorem bpt_in {m T0 P n J ca r : Nat} {A : Option Addr} {es : List Ed} {p : List Int} {W5 : World} {Q : Exit → Act → World → Prop}
    (hok : POk W5 T0 P n J ca A es) (hL : LInv n es p) {a : Act} {W : World} (h0 : PIn W5 T0 P n r es p a W)
    (hQ : ∀ a' w', IntB w' P (pass es p es.length) → Tch [P] W5 w' → PFr T0 P n [(5, .int .i64 r), (6, .bool (moved es p es.length))] a' → Q .normal a' w') :
    Code.wpIn Fence.wide m Try.prog (.loop (Try.f11.sub [1, 1, 1, 0, 1, 0, 0, 1, 0, 0, 1, 0, 1, 0, 0])) (Exit.inBlock 4 Q) a W := by
  have HQ := Lib.hid hQ; clear hQ
  have HO := Lib.hid hok; clear hok
  have HL := Lib.hid hL; clear hL
  refine wpIn_loop (PIn W5 T0 P n r es p) (fun a _ => es.length - (intOf (a.tmps.getD 7 undef)).toNat) h0 ?_
  clear h0 a W
  rintro a W ⟨k, hk, hI, hT, hfr⟩
  unfold PFr at hfr
  obtain ⟨u, rfl⟩ := hfr.open
  clear hfr
  have HI := Lib.hid (And.intro hI hT)
  generalize hmu : es.length - (intOf ((⟨frL 82 _ u, []⟩ : Act).tmps.getD 7 undef)).toNat = mu
  have hmu' : es.length - k = mu := by rw [← hmu]; rfl
  clear hmu
  have t1 := hT.cell (by simpa using HO.out.tP) HO.out.t1
  have hm6 := HO.out.gd.m_le
  have hn2 := HO.out.gd.n_le
  clear hI hT
  show Code.wpIn Fence.wide m Try.prog (.seq (.seq (Try.f11.sub [1, 1, 1, 0, 1, 0, 0, 1, 0, 0, 1, 0, 1, 0, 0, 0, 0]) (.cond (.tmp 33) .skip (.exit 4))) (.seq (.block 5 (Try.f11.sub [1, 1, 1, 0, 1, 0, 0, 1, 0, 0, 1, 0, 1, 0, 0, 1, 0, 0])) (Try.f11.sub [1, 1, 1, 0, 1, 0, 0, 1, 0, 0, 1, 0, 1, 0, 0, 1, 1]))) _ ⟨#[(u 0), .pointer (some ⟨T0, 0, none⟩), (u 2), .slice (some ⟨P, 0, none⟩) n n, (u 4), .int .i64 r, .bool (moved es p k), .int .i64 k, (u 8), (u 9), (u 10), (u 11), (u 12), (u 13), (u 14), (u 15), (u 16), (u 17), (u 18), (u 19), (u 20), (u 21), (u 22), (u 23), (u 24), (u 25), (u 26), (u 27), (u 28), (u 29), (u 30), (u 31), (u 32), (u 33), (u 34), (u 35), (u 36), (u 37), (u 38), (u 39), (u 40), (u 41), (u 42), (u 43), (u 44), (u 45), (u 46), (u 47), (u 48), (u 49), (u 50), (u 51), (u 52), (u 53), (u 54), (u 55), (u 56), (u 57), (u 58), (u 59), (u 60), (u 61), (u 62), (u 63), (u 64), (u 65), (u 66), (u 67), (u 68), (u 69), (u 70), (u 71), (u 72), (u 73), (u 74), (u 75), (u 76), (u 77), (u 78), (u 79), (u 80), (u 81)], []⟩ W
  refine wpIn_seq ?_
  refine wpIn_seq ?_
  conv => arg 4; whnf
  dsimp only
  generalize hmv : moved es p k = mv
  have HMV := Lib.hid hmv; clear hmv
  by_cases hlt : k < es.length
  · gi_wp2_with fail
    obtain ⟨b, o, hA, e0, e1, e2, e3⟩ := HO.out.ed k hlt
    have hbP := HO.out.aP b o (by omega) hA
    obtain ⟨g1, g2, g3⟩ := HO.out.gd.ends k hlt
    have hLk := pass_inv HO.out.gd HL.out k hk
    have kp : ∀ (j : Nat) (v : Value), W5.cell? ⟨b, j, none⟩ = some v → W.cell? ⟨b, j, none⟩ = some v := fun j v h => HI.out.2.cell (by simpa using hbP) h
    rw [hA] at t1 ⊢
    refine bpt_edge (e := ge es k) (p := pass es p k) (T0 := T0) t1 hlt (by omega) (kp _ _ e0) (kp _ _ e1) (kp _ _ e2) (kp _ _ e3) HI.out.1 hLk.len g1 g2 g3 (by omega) HO.out.tP hbP (fun v hv => by have := hLk.at_ v hv; omega) ?_
    intro a2 w2 hI2 hT2 hfr2
    have H2 := Lib.hid (And.intro hI2 (HI.out.2.trans hT2)); clear hI2 hT2
    rw [show (mv || decide (0 < (ge es k).k ∧ gi (pass es p k) (ge es k).f ≠ gi (pass es p k) (ge es k).t)) = moved es p (k + 1) from by rw [← HMV.out]; rfl] at hfr2
    unfold PFr at hfr2
    obtain ⟨u2, rfl⟩ := hfr2.open
    clear hfr2
    rename_i K hK
    refine hK _ _ ?_
    show Code.wpIn Fence.wide m Try.prog (Try.f11.sub [1, 1, 1, 0, 1, 0, 0, 1, 0, 0, 1, 0, 1, 0, 0, 1, 1]) _ ⟨#[(u2 0), .pointer (some ⟨T0, 0, none⟩), (u2 2), .slice (some ⟨P, 0, none⟩) n n, (u2 4), .int .i64 r, .bool (moved es p (k + 1)), .int .i64 k, (u2 8), (u2 9), (u2 10), (u2 11), (u2 12), (u2 13), (u2 14), (u2 15), (u2 16), (u2 17), (u2 18), (u2 19), (u2 20), (u2 21), (u2 22), (u2 23), (u2 24), (u2 25), (u2 26), (u2 27), (u2 28), (u2 29), (u2 30), (u2 31), (u2 32), (u2 33), (u2 34), (u2 35), (u2 36), (u2 37), (u2 38), (u2 39), (u2 40), (u2 41), (u2 42), (u2 43), (u2 44), (u2 45), (u2 46), (u2 47), (u2 48), (u2 49), (u2 50), (u2 51), (u2 52), (u2 53), (u2 54), (u2 55), (u2 56), (u2 57), (u2 58), (u2 59), (u2 60), (u2 61), (u2 62), (u2 63), (u2 64), (u2 65), (u2 66), (u2 67), (u2 68), (u2 69), (u2 70), (u2 71), (u2 72), (u2 73), (u2 74), (u2 75), (u2 76), (u2 77), (u2 78), (u2 79), (u2 80), (u2 81)], []⟩ _
    conv => arg 4; whnf
    dsimp only
    gi_wp2_with fail
    refine ⟨⟨k + 1, by omega, H2.out.1, H2.out.2, by unfold PFr; (refine ⟨rfl, rfl, ?_⟩; repeat (first | exact trivial | refine ⟨rfl, ?_⟩))⟩, ?_⟩
    show es.length - ((k : Int) + 1).toNat < mu
    omega
  · gi_wp2_with fail
    have : k = es.length := by omega
    subst this
    rw [← HMV.out]
    exact HQ.out _ _ HI.out.1 HI.out.2 (by unfold PFr; (refine ⟨rfl, rfl, ?_⟩; repeat (first | exact trivial | refine ⟨rfl, ?_⟩)))
def POut (W5 : World) (T0 P n : Nat) (es : List Ed) (a : Act) (w : World) : Prop :=
  ∃ (r : Nat) (p : List Int), r ≤ n ∧ LInv n es p ∧ Spread n es p r ∧ IntB w P p ∧ Tch [P] W5 w ∧ PFr T0 P n [(5, .int .i64 r)] a
set_option maxHeartbeats 4000000 in
set_option maxRecDepth 100000 in
theorem bpt_out {m T0 P n J ca : Nat} {A : Option Addr} {es : List Ed} {W5 : World} {Q : Exit → Act → World → Prop}
    (hok : POk W5 T0 P n J ca A es) {a : Act} {W : World} (h0 : POut W5 T0 P n es a W)
    (hQ : ∀ a' w' p, IntB w' P p → LInv n es p → Same es p → Tch [P] W5 w' → PFr T0 P n [] a' → Q .normal a' w') :
    Code.wpIn Fence.wide m Try.prog (.loop (Try.f11.sub [1, 1, 1, 0, 1, 0, 0])) (Exit.inBlock 2 Q) a W := by
  have HQ := Lib.hid hQ; clear hQ
  have HO := Lib.hid hok; clear hok
  refine wpIn_loop (POut W5 T0 P n es) (fun a _ => n - (intOf (a.tmps.getD 5 undef)).toNat) h0 ?_
  clear h0 a W
  rintro a W ⟨r, p, hr, hL, hS, hI, hT, hfr⟩
  unfold PFr at hfr
  obtain ⟨u, rfl⟩ := hfr.open
  clear hfr
  have H := Lib.hid (And.intro hL (And.intro hS (And.intro hI hT)))
  generalize hmu : n - (intOf ((⟨frL 82 _ u, []⟩ : Act).tmps.getD 5 undef)).toNat = mu
  have hmu' : n - r = mu := by rw [← hmu]; rfl
  clear hmu
  have t0 := hT.cell (by simpa using HO.out.tP) HO.out.t0
  have hn2 := HO.out.gd.n_le
  clear hI hT hL hS
  show Code.wpIn Fence.wide m Try.prog (.seq (.seq (Try.f11.sub [1, 1, 1, 0, 1, 0, 0, 0, 0]) (.cond (.tmp 26) .skip (.exit 2))) (.seq (.block 3 (.seq (Try.f11.sub [1, 1, 1, 0, 1, 0, 0, 1, 0, 0, 0]) (.seq (.seq (Try.f11.sub [1, 1, 1, 0, 1, 0, 0, 1, 0, 0, 1, 0, 0]) (.block 4 (.loop (Try.f11.sub [1, 1, 1, 0, 1, 0, 0, 1, 0, 0, 1, 0, 1, 0, 0])))) (.seq (Try.f11.sub [1, 1, 1, 0, 1, 0, 0, 1, 0, 0, 1, 1, 0]) (.cond (.tmp 79) (.exit 2) .skip))))) (Try.f11.sub [1, 1, 1, 0, 1, 0, 0, 1, 1]))) _ ⟨#[(u 0), .pointer (some ⟨T0, 0, none⟩), (u 2), .slice (some ⟨P, 0, none⟩) n n, (u 4), .int .i64 r, (u 6), (u 7), (u 8), (u 9), (u 10), (u 11), (u 12), (u 13), (u 14), (u 15), (u 16), (u 17), (u 18), (u 19), (u 20), (u 21), (u 22), (u 23), (u 24), (u 25), (u 26), (u 27), (u 28), (u 29), (u 30), (u 31), (u 32), (u 33), (u 34), (u 35), (u 36), (u 37), (u 38), (u 39), (u 40), (u 41), (u 42), (u 43), (u 44), (u 45), (u 46), (u 47), (u 48), (u 49), (u 50), (u 51), (u 52), (u 53), (u 54), (u 55), (u 56), (u 57), (u 58), (u 59), (u 60), (u 61), (u 62), (u 63), (u 64), (u 65), (u 66), (u 67), (u 68), (u 69), (u 70), (u 71), (u 72), (u 73), (u 74), (u 75), (u 76), (u 77), (u 78), (u 79), (u 80), (u 81)], []⟩ W
  refine wpIn_seq ?_
  refine wpIn_seq ?_
  conv => arg 4; whnf
  dsimp only
  by_cases hlt : r < n
  · gi_wp2_with fail
    conv => arg 4; whnf
    gi_wp2_with fail
    conv => arg 4; whnf
    gi_wp2_with fail
    refine bpt_in (r := r) HO.out H.out.1 ⟨0, Nat.zero_le _, H.out.2.2.1, H.out.2.2.2, by unfold PFr; (refine ⟨rfl, rfl, ?_⟩; repeat (first | exact trivial | refine ⟨rfl, ?_⟩))⟩ ?_
    intro a2 w2 hI2 hT2 hfr2
    have H2 := Lib.hid (And.intro hI2 hT2); clear hI2 hT2
    unfold PFr at hfr2
    obtain ⟨u2, rfl⟩ := hfr2.open
    clear hfr2
    rename_i K hK
    refine hK _ _ ?_
    clear hK K
    show Code.wpIn Fence.wide m Try.prog (.seq (Try.f11.sub [1, 1, 1, 0, 1, 0, 0, 1, 0, 0, 1, 1, 0]) (.cond (.tmp 79) (.exit 2) .skip)) _ ⟨#[(u2 0), .pointer (some ⟨T0, 0, none⟩), (u2 2), .slice (some ⟨P, 0, none⟩) n n, (u2 4), .int .i64 r, .bool (moved es p es.length), (u2 7), (u2 8), (u2 9), (u2 10), (u2 11), (u2 12), (u2 13), (u2 14), (u2 15), (u2 16), (u2 17), (u2 18), (u2 19), (u2 20), (u2 21), (u2 22), (u2 23), (u2 24), (u2 25), (u2 26), (u2 27), (u2 28), (u2 29), (u2 30), (u2 31), (u2 32), (u2 33), (u2 34), (u2 35), (u2 36), (u2 37), (u2 38), (u2 39), (u2 40), (u2 41), (u2 42), (u2 43), (u2 44), (u2 45), (u2 46), (u2 47), (u2 48), (u2 49), (u2 50), (u2 51), (u2 52), (u2 53), (u2 54), (u2 55), (u2 56), (u2 57), (u2 58), (u2 59), (u2 60), (u2 61), (u2 62), (u2 63), (u2 64), (u2 65), (u2 66), (u2 67), (u2 68), (u2 69), (u2 70), (u2 71), (u2 72), (u2 73), (u2 74), (u2 75), (u2 76), (u2 77), (u2 78), (u2 79), (u2 80), (u2 81)], []⟩ _
    refine wpIn_seq ?_
    conv => arg 4; whnf
    dsimp only
    generalize hmv : moved es p es.length = mv
    cases mv with
    | false =>
      obtain ⟨s1, s2⟩ := still es p es.length hmv
      have HS := Lib.hid (And.intro s1 s2); clear s1 s2 hmv
      gi_wp2_with fail
      have hI := H2.out.1
      rw [HS.out.1] at hI
      exact HQ.out _ _ p hI H.out.1 HS.out.2 H2.out.2 (by unfold PFr; (refine ⟨rfl, rfl, ?_⟩; repeat (first | exact trivial | refine ⟨rfl, ?_⟩)))
    | true =>
      clear hmv
      gi_wp2_with fail
      conv => arg 4; whnf
      gi_wp2_with fail
      refine ⟨⟨r + 1, _, by omega, pass_inv HO.out.gd H.out.1 es.length (Nat.le_refl _), spread_step HO.out.gd H.out.1 H.out.2.1, H2.out.1, H2.out.2, by unfold PFr; (refine ⟨rfl, rfl, ?_⟩; repeat (first | exact trivial | refine ⟨rfl, ?_⟩))⟩, ?_⟩
      show n - ((r : Int) + 1).toNat < mu
      omega
  · gi_wp2_with fail
    have : r = n := by omega
    subst this
    exact HQ.out _ _ p H.out.2.2.1 H.out.1 (spread_end HO.out.gd H.out.1 H.out.2.1) H.out.2.2.2 (by unfold PFr; (refine ⟨rfl, rfl, ?_⟩; repeat (first | exact trivial | refine ⟨rfl, ?_⟩)))
def PInit (W5 : World) (T0 P n : Nat) (a : Act) (w : World) : Prop :=
  ∃ (i : Nat) (p : List Int), i ≤ n ∧ p.length = n ∧ (∀ v, v < i → gi p v = v) ∧ IntB w P p ∧ Tch [P] W5 w ∧ PFr T0 P n [(4, .int .i64 i)] a
set_option maxHeartbeats 4000000 in
set_option maxRecDepth 100000 in
theorem bpt_init {m T0 P n J ca : Nat} {A : Option Addr} {es : List Ed} {W5 : World} {Q : Exit → Act → World → Prop}
    (hok : POk W5 T0 P n J ca A es) {a : Act} {W : World} (h0 : PInit W5 T0 P n a W)
    (hQ : ∀ a' w' p, IntB w' P p → p.length = n → (∀ v, v < n → gi p v = v) → Tch [P] W5 w' → PFr T0 P n [] a' → Q .normal a' w') :
    Code.wpIn Fence.wide m Try.prog (.loop (Try.f11.sub [1, 1, 0, 1, 0, 0])) (Exit.inBlock 0 Q) a W := by
  have HQ := Lib.hid hQ; clear hQ
  have HO := Lib.hid hok; clear hok
  refine wpIn_loop (PInit W5 T0 P n) (fun a _ => n - (intOf (a.tmps.getD 4 undef)).toNat) h0 ?_
  clear h0 a W
  rintro a W ⟨i, p, hi, hl, hp, hI, hT, hfr⟩
  unfold PFr at hfr
  obtain ⟨u, rfl⟩ := hfr.open
  clear hfr
  have hst := fun h : i < n => hI.cell (j := i) (by omega)
  have hfz := hI.frozen i
  have H := Lib.hid (And.intro hp (And.intro hI hT))
  generalize hmu : n - (intOf ((⟨frL 82 _ u, []⟩ : Act).tmps.getD 4 undef)).toNat = mu
  have hmu' : n - i = mu := by rw [← hmu]; rfl
  clear hmu
  have t0 := hT.cell (by simpa using HO.out.tP) HO.out.t0
  have hn2 := HO.out.gd.n_le
  have hPl := hI.lt
  clear hI hT hp
  show Code.wpIn Fence.wide m Try.prog (.seq (.seq (Try.f11.sub [1, 1, 0, 1, 0, 0, 0, 0]) (.cond (.tmp 16) .skip (.exit 0))) (.seq (.block 1 (Try.f11.sub [1, 1, 0, 1, 0, 0, 1, 0, 0])) (Try.f11.sub [1, 1, 0, 1, 0, 0, 1, 1]))) _ ⟨#[(u 0), .pointer (some ⟨T0, 0, none⟩), (u 2), .slice (some ⟨P, 0, none⟩) n n, .int .i64 i, (u 5), (u 6), (u 7), (u 8), (u 9), (u 10), (u 11), (u 12), (u 13), (u 14), (u 15), (u 16), (u 17), (u 18), (u 19), (u 20), (u 21), (u 22), (u 23), (u 24), (u 25), (u 26), (u 27), (u 28), (u 29), (u 30), (u 31), (u 32), (u 33), (u 34), (u 35), (u 36), (u 37), (u 38), (u 39), (u 40), (u 41), (u 42), (u 43), (u 44), (u 45), (u 46), (u 47), (u 48), (u 49), (u 50), (u 51), (u 52), (u 53), (u 54), (u 55), (u 56), (u 57), (u 58), (u 59), (u 60), (u 61), (u 62), (u 63), (u 64), (u 65), (u 66), (u 67), (u 68), (u 69), (u 70), (u 71), (u 72), (u 73), (u 74), (u 75), (u 76), (u 77), (u 78), (u 79), (u 80), (u 81)], []⟩ W
  refine wpIn_seq ?_
  refine wpIn_seq ?_
  conv => arg 4; whnf
  dsimp only
  by_cases hlt : i < n
  · have hc := hst hlt
    clear hst
    gi_wp2_with fail
    conv => arg 4; whnf
    gi_wp2_with fail
    conv => arg 4; whnf
    gi_wp2_with fail
    refine ⟨⟨i + 1, p.set i i, by omega, by simp [hl], fun v hv => ?_, H.out.2.1.set (by omega) _, H.out.2.2.set (.inl (by simp)) _, by unfold PFr; (refine ⟨rfl, rfl, ?_⟩; repeat (first | exact trivial | refine ⟨rfl, ?_⟩))⟩, ?_⟩
    · rw [gi_set _ _ _ _ (by omega)]
      by_cases e : i = v
      · rw [if_pos e, e]
      · rw [if_neg e]; exact H.out.1 v (by omega)
    · show n - ((i : Int) + 1).toNat < mu
      omega
  · clear hst
    gi_wp2_with fail
    have : i = n := by omega
    subst this
    exact HQ.out _ _ p H.out.2.1 hl H.out.1 H.out.2.2 (by unfold PFr; (refine ⟨rfl, rfl, ?_⟩; repeat (first | exact trivial | refine ⟨rfl, ?_⟩)))
end Go.Proofs.Ytjnpchoinncbnaa
end
