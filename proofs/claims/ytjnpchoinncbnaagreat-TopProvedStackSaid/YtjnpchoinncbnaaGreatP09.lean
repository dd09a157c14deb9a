/- Proves parts of the statement, each under the conditions that its theorem states: Words on a stack's task in memory, and what a right one is; Small functions of the stack: within, small, size; names; The reference's ScenesErr: what it lets by; Two pairs of scenes, compared. -/
import Derived.Test.YtjnpchoinncbnaaGreatP04
import Derived.Test.YtjnpchoinncbnaaGreatP03
import Derived.Test.YtjnpchoinncbnaaGreatP08
import Derived.Lib.ConvBytes
import Derived.Laws.StructEq
set_option linter.unusedSimpArgs false
set_option linter.unusedVariables false
set_option maxHeartbeats 4000000
set_option maxRecDepth 100000
section
namespace Go.Proofs.YtjnpchoinncbnaaGreat
open Go.RowKit Sw Fam
structure Sc where
  nm : ByteArray
  day : Int
  bl : Int
structure Rp where
  a : Int
  b : Int
def gsc (xs : List Sc) (i : Nat) : Sc := xs.getD i ⟨⟨#[]⟩, 0, 0⟩
def grp (xs : List Rp) (i : Nat) : Rp := xs.getD i ⟨0, 0⟩
structure Sk where
  sc : List Sc
  pr : List Rp
  ph : List Int
  ws : List Int
structure SkL where
  S : Option Addr
  P : Option Addr
  H : Option Addr
  W : Option Addr
  cs : Nat
  cp : Nat
  ch : Nat
  cw : Nat
def NetV (t : Sk) (l : SkL) : Value := .agg #[.slice l.S t.sc.length l.cs, .slice l.P t.pr.length l.cp]
def SkV (t : Sk) (l : SkL) : Value := .agg #[.slice l.S t.sc.length l.cs, .slice l.P t.pr.length l.cp, .slice l.H t.ph.length l.ch, .slice l.W t.ws.length l.cw]
def RdS (w : World) (A : Option Addr) (xs : List Sc) : Prop := ∀ j, j < xs.length → ∃ b o, A = some ⟨b, o, none⟩ ∧ w.cell? ⟨b, o + j * 3, none⟩ = some (.string (gsc xs j).nm) ∧ w.cell? ⟨b, o + j * 3 + 1, none⟩ = some (.int .i64 (gsc xs j).day) ∧ w.cell? ⟨b, o + j * 3 + 2, none⟩ = some (.int .i64 (gsc xs j).bl) ∧ (gsc xs j).nm.size ≤ maxLen
def RdP (w : World) (A : Option Addr) (xs : List Rp) : Prop := ∀ j, j < xs.length → ∃ b o, A = some ⟨b, o, none⟩ ∧ w.cell? ⟨b, o + j * 2, none⟩ = some (.int .i64 (grp xs j).a) ∧ w.cell? ⟨b, o + j * 2 + 1, none⟩ = some (.int .i64 (grp xs j).b)
structure NetM (w : World) (t : Sk) (l : SkL) : Prop where
  sc : RdS w l.S t.sc
  pr : RdP w l.P t.pr
structure SkM (w : World) (t : Sk) (l : SkL) : Prop where
  net : NetM w t l
  ph : RdI w l.H t.ph
  ws : RdI w l.W t.ws
section
variable {w w' : World} {A : Option Addr} {t : Sk} {l : SkL}
theorem RdS.keep {xs : List Sc} (h : RdS w A xs) (hb : Below w.heap.size w w') : RdS w' A xs := fun j hj => by
  obtain ⟨b, o, h1, h2, h3, h4, h5⟩ := h j hj
  exact ⟨b, o, h1, cell_keep hb h2, cell_keep hb h3, cell_keep hb h4, h5⟩
theorem RdP.keep {xs : List Rp} (h : RdP w A xs) (hb : Below w.heap.size w w') : RdP w' A xs := fun j hj => by
  obtain ⟨b, o, h1, h2, h3⟩ := h j hj
  exact ⟨b, o, h1, cell_keep hb h2, cell_keep hb h3⟩
theorem NetM.keep (h : NetM w t l) (hb : Below w.heap.size w w') : NetM w' t l := ⟨h.sc.keep hb, h.pr.keep hb⟩
theorem SkM.keep (h : SkM w t l) (hb : Below w.heap.size w w') : SkM w' t l := ⟨h.net.keep hb, h.ph.keep hb, h.ws.keep hb⟩
end
def Ltr (c : UInt8) : Prop := (97 ≤ c.toNat ∧ c.toNat ≤ 122) ∨ (65 ≤ c.toNat ∧ c.toNat ≤ 90)
def Dsh (c : UInt8) : Prop := c.toNat = 45 ∨ (48 ≤ c.toNat ∧ c.toNat ≤ 57)
structure NameOk (s : ByteArray) : Prop where
  lo : 1 ≤ s.size
  hi : s.size ≤ 12
  ok : ∀ i (h : i < s.size), Ltr s[i] ∨ (0 < i ∧ Dsh s[i])
structure NetOk (t : Sk) : Prop where
  n_le : t.sc.length ≤ 60
  m_le : t.pr.length ≤ 200
  name : ∀ i, i < t.sc.length → NameOk (gsc t.sc i).nm
  uniq : ∀ i k, i < t.sc.length → k < i → (gsc t.sc k).nm ≠ (gsc t.sc i).nm
  day : ∀ i, i < t.sc.length → 0 ≤ (gsc t.sc i).day ∧ (gsc t.sc i).day ≤ 100000
  bl : ∀ i, i < t.sc.length → -100000 ≤ (gsc t.sc i).bl ∧ (gsc t.sc i).bl ≤ 100000
  ends : ∀ i, i < t.pr.length → 0 ≤ (grp t.pr i).a ∧ (grp t.pr i).a < (grp t.pr i).b ∧ (grp t.pr i).b < t.sc.length
  two : ∀ i k, i < t.pr.length → k < i → grp t.pr k ≠ grp t.pr i
structure RtS (t : Sk) : Prop where
  net : NetOk t
  lph : t.ph.length = t.pr.length
  lws : t.ws.length = t.pr.length
  ph : ∀ i, i < t.ph.length → -100000000 ≤ gi t.ph i ∧ gi t.ph i ≤ 100000000
  ws : ∀ i, i < t.ws.length → 0 ≤ gi t.ws i ∧ gi t.ws i ≤ 1000
def prs (t : Sk) : List Pr := t.pr.map fun r => ⟨r.a.toNat, r.b.toNat⟩
theorem prs_len (t : Sk) : (prs t).length = t.pr.length := by simp [prs]
theorem gq_prs {t : Sk} {i : Nat} (h : i < t.pr.length) : gq (prs t) i = ⟨(grp t.pr i).a.toNat, (grp t.pr i).b.toNat⟩ := by
  simp [gq, prs, grp, h]
theorem prs_a {t : Sk} (ho : NetOk t) {i : Nat} (h : i < t.pr.length) : (((gq (prs t) i).f : Nat) : Int) = (grp t.pr i).a ∧ (((gq (prs t) i).s : Nat) : Int) = (grp t.pr i).b := by
  have := ho.ends i h
  rw [gq_prs h]
  constructor
  · show (((grp t.pr i).a.toNat : Nat) : Int) = _; omega
  · show (((grp t.pr i).b.toNat : Nat) : Int) = _; omega
theorem prs_lt {t : Sk} (ho : NetOk t) {i : Nat} (h : i < t.pr.length) : (gq (prs t) i).f < t.sc.length ∧ (gq (prs t) i).s < t.sc.length ∧ (gq (prs t) i).f < (gq (prs t) i).s := by
  have := ho.ends i h
  have := prs_a ho h
  omega
def RdQ (w : World) (A : Option Addr) (xs : List Pr) : Prop := ∀ j, j < xs.length → ∃ b o, A = some ⟨b, o, none⟩ ∧ w.cell? ⟨b, o + j * 2, none⟩ = some (.int .i64 ((gq xs j).f : Nat)) ∧ w.cell? ⟨b, o + j * 2 + 1, none⟩ = some (.int .i64 ((gq xs j).s : Nat))
theorem RdQ.keep {w w' : World} {A : Option Addr} {xs : List Pr} (h : RdQ w A xs) (hb : Below w.heap.size w w') : RdQ w' A xs := fun j hj => by
  obtain ⟨b, o, h1, h2, h3⟩ := h j hj
  exact ⟨b, o, h1, cell_keep hb h2, cell_keep hb h3⟩
theorem NetM.rdq {w : World} {t : Sk} {l : SkL} (h : NetM w t l) (ho : NetOk t) : RdQ w l.P (prs t) := fun j hj => by
  rw [prs_len] at hj
  obtain ⟨b, o, h1, h2, h3⟩ := h.pr j hj
  obtain ⟨e1, e2⟩ := prs_a ho hj
  exact ⟨b, o, h1, by rw [e1]; exact h2, by rw [e2]; exact h3⟩
theorem swithin_c (n lo hi : Int) (r : Bool) (h : (lo ≤ n ∧ n ≤ hi) ↔ r = true) (w : World) : Calls Tryz.prog 26 #[.int .i64 n, .int .i64 lo, .int .i64 hi] w fun e w' => e = .returned (.bool r) ∧ w = w' := by
  have hr : r = (decide (lo ≤ n) && decide (n ≤ hi)) := by
    rw [Bool.eq_iff_iff, ← h]; simp
  clear h; subst hr
  by_cases h : lo ≤ n
  · go_enter Tryz.func26, Tryz.ntmps26
    go_wp2
    all_goals go_ret
    all_goals simp
    all_goals omega
  · go_enter Tryz.func26, Tryz.ntmps26
    go_wp2
    all_goals go_ret
    all_goals simp
    all_goals omega
theorem small_c (n m : Int) (r : Bool) (hm : 0 ≤ m ∧ m ≤ 4611686018427387904) (h : (-m ≤ n ∧ n ≤ m) ↔ r = true) (w : World) : Calls Tryz.prog 40 #[.int .i64 n, .int .i64 m] w fun e w' => e = .returned (.bool r) ∧ w = w' := by
  obtain ⟨m1, m2⟩ := hm
  have H := Lib.hid (swithin_c n (-m) m r h w); clear h
  go_enter Tryz.func40, Tryz.ntmps40
  go_wp2_with fail
  refine H.out.mono ?_
  rintro e w' ⟨rfl, rfl⟩
  go_wp2_with fail
  go_ret
  exact ⟨rfl, rfl⟩
theorem ssize_c (n : Int) (h : -4611686018427387904 ≤ n ∧ n ≤ 4611686018427387904) (w : World) : Calls Tryz.prog 79 #[.int .i64 n] w fun e w' => e = .returned (.int .i64 (ab n)) ∧ w = w' := by
  obtain ⟨h1, h2⟩ := h
  go_enter Tryz.func79, Tryz.ntmps79
  go_wp2
  all_goals go_ret
  all_goals exact ⟨ret_i (by unfold ab; omega), rfl⟩
def NameK (s : ByteArray) (k : Nat) : Prop := ∀ i (h : i < s.size), i < k → Ltr s[i] ∨ (0 < i ∧ Dsh s[i])
def BNamePost (s : ByteArray) (w : World) (e : Ending) (w' : World) : Prop := ∃ b : Bool, e = .returned (.bool b) ∧ w = w' ∧ (b = true → NameOk s)
theorem NameK.next {s : ByteArray} {k : Nat} (h : NameK s k) (hk : k < s.size) (hc : Ltr s[k] ∨ (0 < k ∧ Dsh s[k])) : NameK s (k + 1) := fun i hi hik => by
  by_cases e : i = k
  · subst e; exact hc
  · exact h i hi (by omega)
theorem bname_c (s : ByteArray) (w : World) (hs : s.size ≤ maxLen) : Calls Tryz.prog 70 #[.string s] w (BNamePost s w) := by
  unfold maxLen at hs
  by_cases h1 : s.size < 1
  · go_enter Tryz.func70, Tryz.ntmps70
    go_wp2
    go_ret
    exact ⟨false, rfl, rfl, fun h => by cases h⟩
  by_cases h2 : 12 < s.size
  · go_enter Tryz.func70, Tryz.ntmps70
    go_wp2
    go_ret
    exact ⟨false, rfl, rfl, fun h => by cases h⟩
  go_enter Tryz.func70, Tryz.ntmps70
  go_wp2
  go_loop [3] (fun v3 => ∃ k : Nat, v3 = .int .i64 k ∧ k ≤ s.size ∧ NameK s k) (fun v3 => s.size - (intOf v3).toNat)
  case atStart => exact ⟨0, rfl, Nat.zero_le _, fun i hi hk => by omega⟩
  case round =>
    obtain ⟨k, rfl, hk, hno⟩ := hrel
    have HN := Lib.hid hno; clear hno
    by_cases hlt : k < s.size
    · have hnx := Lib.hid (HN.out.next hlt)
      have hu : s[k].toNat < 256 := s[k].toNat_lt
      unfold Ltr Dsh at hnx
      have fin : ∀ b : Bool, b = false → BNamePost s w (.returned (.bool b)) w := fun b hb => ⟨b, rfl, rfl, fun h => by rw [hb] at h; cases h⟩
      have FIN := Lib.hid fin; clear fin
      by_cases a1 : 97 ≤ (s[k].toNat : Int) ∧ (s[k].toNat : Int) ≤ 122
      · obtain ⟨a1, a2⟩ := a1
        go_wp2
        go_round
        case rel => exact ⟨k + 1, by go_num, by omega, hnx.out (.inl (.inl ⟨by omega, by omega⟩))⟩
        case measure => simp [intOf]; omega
      by_cases a3 : 65 ≤ (s[k].toNat : Int) ∧ (s[k].toNat : Int) ≤ 90
      · obtain ⟨a3, a4⟩ := a3
        have a1 : (s[k].toNat : Int) < 97 := by omega
        go_wp2
        go_round
        case rel => exact ⟨k + 1, by go_num, by omega, hnx.out (.inl (.inr ⟨by omega, by omega⟩))⟩
        case measure => simp [intOf]; omega
      have cs : (s[k].toNat : Int) < 65 ∨ (90 < (s[k].toNat : Int) ∧ (s[k].toNat : Int) < 97) ∨ 122 < (s[k].toNat : Int) := by omega
      clear a1 a3
      by_cases hk0 : k = 0
      · have hk1 : ((k : Int) == 0) = true := by simp [hk0]
        have HK0 := Lib.hid hk0; clear hk0
        rcases cs with cs | ⟨cs, cs'⟩ | cs
        · go_wp2; go_ret; exact FIN.out _ rfl
        · have d1 : decide ((s[k].toNat : Int) ≤ 90) = false := by simp; omega
          go_wp2; go_ret; exact FIN.out _ rfl
        · have d1 : decide ((s[k].toNat : Int) ≤ 90) = false := by simp; omega
          have d2 : decide ((s[k].toNat : Int) ≤ 122) = false := by simp; omega
          go_wp2; go_ret; exact FIN.out _ rfl
      have hk1 : ((k : Int) == 0) = false := by simp; omega
      have hkp : 0 < k := by omega
      clear hk0
      by_cases hd : s[k].toNat = 45
      · have hd1 : (((s[k].toNat : Nat) : Int) != 45) = false := by simp; omega
        have HD := Lib.hid hd
        have cs : (s[k].toNat : Int) < 65 := by omega
        clear hd
        go_wp2
        go_round
        case rel => exact ⟨k + 1, by go_num, by omega, hnx.out (.inr ⟨hkp, .inl HD.out⟩)⟩
        case measure => simp [intOf]; omega
      have hd1 : (((s[k].toNat : Nat) : Int) != 45) = true := by simp; omega
      clear hd
      by_cases hg : 48 ≤ (s[k].toNat : Int) ∧ (s[k].toNat : Int) ≤ 57
      · obtain ⟨g1, g2⟩ := hg
        have cs : (s[k].toNat : Int) < 65 := by omega
        go_wp2
        go_round
        case rel => exact ⟨k + 1, by go_num, by omega, hnx.out (.inr ⟨hkp, .inr ⟨by omega, by omega⟩⟩)⟩
        case measure => simp [intOf]; omega
      by_cases hg1 : (s[k].toNat : Int) < 48
      · have cs : (s[k].toNat : Int) < 65 := by omega
        go_wp2; go_ret; exact FIN.out _ rfl
      · have hg2 : 57 < (s[k].toNat : Int) := by omega
        clear hg
        rcases cs with cs | ⟨cs, cs'⟩ | cs
        · go_wp2; go_ret; exact FIN.out _ rfl
        · have d1 : decide ((s[k].toNat : Int) ≤ 90) = false := by simp; omega
          go_wp2; go_ret; exact FIN.out _ rfl
        · have d1 : decide ((s[k].toNat : Int) ≤ 90) = false := by simp; omega
          have d2 : decide ((s[k].toNat : Int) ≤ 122) = false := by simp; omega
          go_wp2; go_ret; exact FIN.out _ rfl
    · have : k = s.size := by omega
      subst this
      go_wp2
      go_ret
      exact ⟨true, rfl, rfl, fun _ => ⟨by omega, by omega, fun i hi => HN.out i hi hi⟩⟩
theorem name_c (s : ByteArray) (w : World) (h : NameOk s) : Calls Tryz.prog 85 #[.string s] w fun e w' => e = .returned (.bool true) ∧ Below w.heap.size w w' := by
  have h1 := h.lo
  have h2 := h.hi
  have HO := Lib.hid h; clear h
  have hz : s.toList.length = s.size := by rw [ByteArray.toList_eq]; simp
  have hne : ¬ s.toList = [] := fun e => by rw [e] at hz; simp at hz; omega
  have hem : s.toList.isEmpty = false := by cases hh : s.toList with
    | nil => exact absurd hh hne
    | cons a l => rfl
  clear hz
  have hcv := Lib.run_convert_string_bytes w 9 155 5 s Tryz.underlying9 Tryz.underlying155 Tryz.underlying5
  go_enter Tryz.func85, Tryz.ntmps85
  go_wp2_with fail
  have hsz := Lib.bytesWorld_size w 5 s
  have hcl : ∀ j (h : j < s.size), (Lib.bytesWorld w 5 s).cell? ⟨w.heap.size, j, none⟩ = some (.int .u8 (s[j].toNat : Int)) := fun j h => by
    rw [Lib.bytesWorld_cell w 5 s j h]
    congr 4
    rw [List.getD_eq_getElem?_getD, List.getElem?_eq_getElem (by simpa using h), Option.getD_some]
    simp [ByteArray.getElem_eq_getElem_data]
  have hbl : Below w.heap.size w (Lib.bytesWorld w 5 s) := ⟨rfl, rfl, rfl, by rw [hsz]; omega, fun b hb => Lib.bytesWorld_at_old w _ s b hb⟩
  generalize Lib.bytesWorld w 5 s = W1 at *
  have H1 := Lib.hid (And.intro hcl hbl)
  clear hcl hbl hsz hcv
  go_loop [15] (fun v15 => ∃ k : Nat, v15 = .int .i64 k ∧ k ≤ s.size) (fun v15 => s.size - (intOf v15).toNat)
  case atStart => exact ⟨0, rfl, Nat.zero_le _⟩
  case round =>
    obtain ⟨k, rfl, hk⟩ := hrel
    by_cases hlt : k < s.size
    · have hc := H1.out.1 k hlt
      have hok := HO.out.ok k hlt
      have hu : s[k].toNat < 256 := s[k].toNat_lt
      unfold Ltr Dsh at hok
      generalize s[k].toNat = c at *
      by_cases a1 : 97 ≤ (c : Int) ∧ (c : Int) ≤ 122
      · obtain ⟨a1, a2⟩ := a1
        clear hok
        go_wp2_with fail
        go_round
        case rel => exact ⟨k + 1, by go_num, by omega⟩
        case measure => simp [intOf]; omega
      by_cases a3 : 65 ≤ (c : Int) ∧ (c : Int) ≤ 90
      · obtain ⟨a3, a4⟩ := a3
        have a1 : (c : Int) < 97 := by omega
        clear hok
        go_wp2_with fail
        go_round
        case rel => exact ⟨k + 1, by go_num, by omega⟩
        case measure => simp [intOf]; omega
      obtain ⟨hkp, hds⟩ : 0 < k ∧ (c = 45 ∨ 48 ≤ c ∧ c ≤ 57) := by omega
      have cs : (c : Int) < 65 := by omega
      clear hok a1 a3
      by_cases hd : c = 45
      · have hd1 : ((c : Int) == 45) = true := by simp; omega
        clear hd hds
        go_wp2_with fail
        go_round
        case rel => exact ⟨k + 1, by go_num, by omega⟩
        case measure => simp [intOf]; omega
      · have hd1 : ((c : Int) == 45) = false := by simp; omega
        obtain ⟨g1, g2⟩ : 48 ≤ (c : Int) ∧ (c : Int) ≤ 57 := by omega
        clear hd hds
        go_wp2_with fail
        go_round
        case rel => exact ⟨k + 1, by go_num, by omega⟩
        case measure => simp [intOf]; omega
    · go_wp2_with fail
      go_ret
      exact ⟨rfl, H1.out.2⟩
theorem str_ne {a b : ByteArray} (h : a ≠ b) : (a.toList == b.toList) = false := by
  rw [beq_eq_false_iff_ne]
  intro e
  rw [ByteArray.toList_eq, ByteArray.toList_eq] at e
  exact h (by cases a; cases b; simp at e; simp [e])
theorem nameC {P : Program} {Q : Exit → Act → World → Prop} {c : Code} {a : Act} {w : World} (h : ∀ W1, W1 = w → Code.wp P c Q a W1) : Code.wp P c Q a w := h w rfl
structure ScK (xs : List Sc) (k : Nat) : Prop where
  name : ∀ i, i < k → NameOk (gsc xs i).nm
  uniq : ∀ i j, i < k → j < i → (gsc xs j).nm ≠ (gsc xs i).nm
  day : ∀ i, i < k → 0 ≤ (gsc xs i).day ∧ (gsc xs i).day ≤ 100000
  bl : ∀ i, i < k → -100000 ≤ (gsc xs i).bl ∧ (gsc xs i).bl ≤ 100000
def ScOk (xs : List Sc) : Prop := xs.length ≤ 60 ∧ ScK xs xs.length
theorem ScK.zero (xs : List Sc) : ScK xs 0 := ⟨fun i h => by omega, fun i j h => by omega, fun i h => by omega, fun i h => by omega⟩
theorem ScK.next {xs : List Sc} {k : Nat} (h : ScK xs k) (h1 : NameOk (gsc xs k).nm) (h2 : ∀ j, j < k → (gsc xs j).nm ≠ (gsc xs k).nm) (h3 : 0 ≤ (gsc xs k).day ∧ (gsc xs k).day ≤ 100000) (h4 : -100000 ≤ (gsc xs k).bl ∧ (gsc xs k).bl ≤ 100000) : ScK xs (k + 1) := by
  refine ⟨fun i hi => ?_, fun i j hi hj => ?_, fun i hi => ?_, fun i hi => ?_⟩ <;> by_cases e : i = k
  · subst e; exact h1
  · exact h.name i (by omega)
  · subst e; exact h2 j hj
  · exact h.uniq i j (by omega) hj
  · subst e; exact h3
  · exact h.day i (by omega)
  · subst e; exact h4
  · exact h.bl i (by omega)
def BScPost (xs : List Sc) (w : World) (e : Ending) (w' : World) : Prop := ∃ i g : Int, e = .returned (.tuple #[.int .i64 i, .int .i64 g]) ∧ Below w.heap.size w w' ∧ (g = 0 → ScOk xs)
theorem bscenes_c {xs : List Sc} {A : Option Addr} {ca : Nat} {w : World} (hA : RdS w A xs) (hl : xs.length ≤ 100000) : Calls Tryz.prog 47 #[.slice A xs.length ca] w (BScPost xs w) := by
  have HA := Lib.hid hA; clear hA
  by_cases h60 : 60 < xs.length
  · go_enter Tryz.func47, Tryz.ntmps47
    go_wp2_with fail
    go_ret2
    exact ⟨0, 8, rfl, Below.refl _ _, fun h => by omega⟩
  go_enter Tryz.func47, Tryz.ntmps47
  go_wp2_with fail
  go_loopw [4] (fun v4 wr => ∃ k : Nat, v4 = .int .i64 k ∧ k ≤ xs.length ∧ Below w.heap.size w wr ∧ ScK xs k) (fun v4 _ => xs.length - (intOf v4).toNat)
  case atStart => exact ⟨0, rfl, Nat.zero_le _, Below.refl _ _, ScK.zero xs⟩
  case round =>
    obtain ⟨k, rfl, hk, hB, hK⟩ := hrel
    have HK := Lib.hid hK; clear hK
    by_cases hlt : k < xs.length
    · obtain ⟨b, o, rfl, c0, c1, c2, hz⟩ := (HA.out.keep hB) k hlt
      have HB := Lib.hid hB; clear hB
      go_wp2_with fail
      refine (bname_c _ _ hz).mono ?_
      rintro e w' ⟨bb, rfl, rfl, hnm⟩
      have HN := Lib.hid hnm; clear hnm
      cases bb with
      | false =>
        go_wp2_with fail
        go_ret2
        exact ⟨_, 4, rfl, HB.out.trans ((Below.refl _ _).alloc HB.out.size _), fun h => by omega⟩
      | true =>
        go_wp2_with fail
        refine nameC ?_
        intro W1 hW1
        have hB1 : Below w.heap.size w W1 := by rw [hW1]; exact HB.out.trans ((Below.refl _ _).alloc HB.out.size _)
        have hS1 : W1.heap[wr.heap.size]? = some (.cells #[.string (gsc xs k).nm, .int .i64 (gsc xs k).day, .int .i64 (gsc xs k).bl] 84 (0, 0)) := by rw [hW1]; exact World.alloc_heap_new wr _
        clear hW1
        have s0 : W1.cell? ⟨wr.heap.size, 0, none⟩ = some (.string (gsc xs k).nm) := block_cell hS1 (j := 0) (by simp)
        have s1 : W1.cell? ⟨wr.heap.size, 1, none⟩ = some (.int .i64 (gsc xs k).day) := block_cell hS1 (j := 1) (by simp)
        have s2 : W1.cell? ⟨wr.heap.size, 2, none⟩ = some (.int .i64 (gsc xs k).bl) := block_cell hS1 (j := 2) (by simp)
        generalize wr.heap.size = S at *
        have H1 := Lib.hid (And.intro hB1 (And.intro s0 (And.intro s1 s2)))
        clear hB1 hS1 s0 s1 s2 c0 c1 c2 HB
        go_loopw [6] (fun v6 wr => ∃ j n : Nat, v6 = .int .i64 j ∧ j ≤ k ∧ wr = W1.drewN n ∧ ∀ i, i < j → (gsc xs i).nm ≠ (gsc xs k).nm) (fun v6 _ => k - (intOf v6).toNat)
        case atStart => exact ⟨0, 0, rfl, Nat.zero_le _, rfl, fun i hi => by omega⟩
        case round =>
          obtain ⟨j, n, rfl, hj, rfl, hne⟩ := hrel
          have HNE := Lib.hid hne; clear hne
          obtain ⟨s0, s1, s2⟩ := H1.out.2
          by_cases hjk : j < k
          · obtain ⟨b', o', e', d0, d1, d2, dz⟩ := (HA.out.keep H1.out.1) j (by omega)
            cases e'
            clear d1 d2 dz s1 s2
            by_cases heq : (gsc xs j).nm = (gsc xs k).nm
            · generalize (gsc xs j).nm = x at *
              generalize (gsc xs k).nm = y at *
              go_wp2_with fail
              go_quiet (fail)
              go_wp2_with fail
              go_ret2
              exact ⟨_, 5, rfl, below_drewN (below_drewN H1.out.1 n) nq, fun h => by omega⟩
            · have HQ := Lib.hid heq
              have hq2 := str_ne heq
              clear heq
              go_wp2_with fail
              go_quiet (fail)
              go_wp2_with fail
              go_roundw
              case rel => exact ⟨j + 1, n + nq, by go_num, by omega, rfl, fun i hi => by
                by_cases e : i = j
                · subst e; exact HQ.out
                · exact HNE.out i (by omega)⟩
              case measure => simp [intOf]; omega
          · have hjk' : j = k := by omega
            subst hjk'
            have hnx := Lib.hid (HK.out.next (HN.out trivial) HNE.out)
            obtain ⟨d1, d2⟩ : (∃ y, y = (gsc xs j).day) ∧ ∃ z, z = (gsc xs j).bl := ⟨⟨_, rfl⟩, ⟨_, rfl⟩⟩
            by_cases hd : 0 ≤ (gsc xs j).day ∧ (gsc xs j).day ≤ 100000
            · by_cases hb : -100000 ≤ (gsc xs j).bl ∧ (gsc xs j).bl ≤ 100000
              · have HD := Lib.hid (And.intro hd hb)
                have w1 := Lib.hid (fun w => bwithin_c (gsc xs j).day 0 100000 true (by simpa using hd) w)
                have w2 := Lib.hid (fun w => bwithin_c (gsc xs j).bl (-100000) 100000 true (by simpa using hb) w)
                clear hd hb
                go_wp2_with fail
                refine (w1.out _).mono ?_
                rintro e w' ⟨rfl, rfl⟩
                go_wp2_with fail
                refine (w2.out _).mono ?_
                rintro e w' ⟨rfl, rfl⟩
                go_wp2_with fail
                go_roundw
                case rel => exact ⟨j + 1, by go_num, by omega, below_drewN H1.out.1 n, hnx.out HD.out.1 HD.out.2⟩
                case measure => simp [intOf]; omega
              · have w1 := Lib.hid (fun w => bwithin_c (gsc xs j).day 0 100000 true (by simpa using hd) w)
                have w2 := Lib.hid (fun w => bwithin_c (gsc xs j).bl (-100000) 100000 false (by simpa using hb) w)
                clear hd hb
                go_wp2_with fail
                refine (w1.out _).mono ?_
                rintro e w' ⟨rfl, rfl⟩
                go_wp2_with fail
                refine (w2.out _).mono ?_
                rintro e w' ⟨rfl, rfl⟩
                go_wp2_with fail
                go_ret2
                exact ⟨_, 2, rfl, below_drewN H1.out.1 n, fun h => by omega⟩
            · have w1 := Lib.hid (fun w => bwithin_c (gsc xs j).day 0 100000 false (by simpa using hd) w)
              clear hd
              go_wp2_with fail
              refine (w1.out _).mono ?_
              rintro e w' ⟨rfl, rfl⟩
              go_wp2_with fail
              go_ret2
              exact ⟨_, 2, rfl, below_drewN H1.out.1 n, fun h => by omega⟩
    · have : k = xs.length := by omega
      subst this
      have HB := Lib.hid hB; clear hB
      go_wp2_with fail
      go_ret2
      exact ⟨0, 0, rfl, HB.out, fun _ => ⟨by omega, HK.out⟩⟩
theorem guard_pair (x y : Operand) (xs ys : Array Value) (w : World) : (eqGuard .eql 60 x y (.agg xs) (.agg ys)).run Tryz.prog w = .ok () w :=
  run_eqGuard_agg w .eql 60 x y xs ys (by kernel_rfl)
theorem run_equal_pair (a b c d : Int) (w : World) : (Op.equalIn 10000 60 (.agg #[.int .i64 a, .int .i64 b]) (.agg #[.int .i64 c, .int .i64 d])).run Tryz.prog w = .ok (a == c && b == d) w := by
  have h3 : ∀ d a b w, (Op.equalIn (d + 1) 3 (.int .i64 a) (.int .i64 b)).run Tryz.prog w = .ok (a == b) w := fun d a b w => run_equalIn_int w d 3 .i64 .i64 a b Tryz.underlying3
  have hst : Tryz.prog.stoodInHeld 60 = false := by kernel_rfl
  rw [run_equalIn_agg w 9999 60 _ _ (by kernel_rfl) hst]
  have h4 := fun a b w => h3 9998 a b w
  simp only [Program.fieldsOf, Tryz.underlying60]
  by_cases e : a = c
  · subst e
    by_cases e2 : b = d
    · subst e2
      simp [Op.eqFields, part, isAgg, run_underlying Tryz.underlying3, Result.andThen, h4]
    · have : (b == d) = false := by simp [e2]
      simp [Op.eqFields, part, isAgg, run_underlying Tryz.underlying3, Result.andThen, h4, this]
  · have : (a == c) = false := by simp [e]
    simp [Op.eqFields, part, isAgg, run_underlying Tryz.underlying3, Result.andThen, h4, this]
theorem run_eq_pair (a b c d : Int) (w : World) : (binOp .eql 60 (.agg #[.int .i64 a, .int .i64 b]) (.agg #[.int .i64 c, .int .i64 d])).run Tryz.prog w = .ok (.bool (a == c && b == d)) w := by
  rw [run_eql_struct, run_equal_pair]
  rfl
end Go.Proofs.YtjnpchoinncbnaaGreat
end
