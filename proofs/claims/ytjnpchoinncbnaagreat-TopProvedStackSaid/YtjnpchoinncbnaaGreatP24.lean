/- Proves parts of the statement, each under the conditions that its theorem states: Shf; slices.Sort at a list of numbers: the numbers are the same ones, and nothing else is touched. -/
import Derived.Shelf.Sort.Plain
import Derived.Shelf.Slices.In.SortNone
import Derived.Test.YtjnpchoinncbnaaGreatProg
import Derived.Test.YtjnpchoinncbnaaGreatP13
set_option linter.unusedSimpArgs false
set_option linter.unusedVariables false
set_option maxHeartbeats 4000000
set_option maxRecDepth 100000
section
namespace Go.Proofs
open Go.Shelf
def Tryz.lays189_ren : Go.Shelf.Ren := ⟨fun | 189 => 67 | 125 => 81 | 257 => 80 | 128 => 99 | 129 => 100 | 294 => 90 | 295 => 91 | 296 => 92 | 297 => 93 | 298 => 94 | 299 => 95 | 216 => 96 | 300 => 97 | 301 => 98 | 328 => 105 | 329 => 106 | 330 => 107 | 331 => 108 | 332 => 109 | 215 => 110 | 343 => 114 | n => n, fun | 28 => 26 | 3 => 3 | 46 => 133 | 0 => 0 | 51 => 149 | 53 => 151 | 4 => 4 | 183 => 143 | 182 => 142 | 131 => 103 | 5 => 5 | 9 => 9 | 218 => 157 | 222 => 161 | 228 => 167 | 229 => 40 | n => n, fun | n => n⟩
theorem Tryz.lays189 : Go.Proofs.Lays.n189 Tryz.prog Tryz.lays189_ren := {
  mixed := by kernel_rfl
  f125 := Tryz.func81.trans (congrArg some (by kernel_rfl))
  f128 := Tryz.func99.trans (congrArg some (by kernel_rfl))
  f129 := Tryz.func100.trans (congrArg some (by kernel_rfl))
  f189 := Tryz.func67.trans (congrArg some (by kernel_rfl))
  f215 := Tryz.func110.trans (congrArg some (by kernel_rfl))
  f216 := Tryz.func96.trans (congrArg some (by kernel_rfl))
  f257 := Tryz.func80.trans (congrArg some (by kernel_rfl))
  f294 := Tryz.func90.trans (congrArg some (by kernel_rfl))
  f295 := Tryz.func91.trans (congrArg some (by kernel_rfl))
  f296 := Tryz.func92.trans (congrArg some (by kernel_rfl))
  f297 := Tryz.func93.trans (congrArg some (by kernel_rfl))
  f298 := Tryz.func94.trans (congrArg some (by kernel_rfl))
  f299 := Tryz.func95.trans (congrArg some (by kernel_rfl))
  f300 := Tryz.func97.trans (congrArg some (by kernel_rfl))
  f301 := Tryz.func98.trans (congrArg some (by kernel_rfl))
  f328 := Tryz.func105.trans (congrArg some (by kernel_rfl))
  f329 := Tryz.func106.trans (congrArg some (by kernel_rfl))
  f330 := Tryz.func107.trans (congrArg some (by kernel_rfl))
  f331 := Tryz.func108.trans (congrArg some (by kernel_rfl))
  f332 := Tryz.func109.trans (congrArg some (by kernel_rfl))
  f343 := Tryz.func114.trans (congrArg some (by kernel_rfl))
  t0 := Tryz.underlying0
  a0 := Tryz.isAgg0
  z0 := Tryz.sizeOf0
  v0 := Tryz.zeroValue0
  t3 := Tryz.underlying3
  a3 := Tryz.isAgg3
  z3 := Tryz.sizeOf3
  v3 := Tryz.zeroValue3
  t4 := Tryz.underlying4
  a4 := Tryz.isAgg4
  z4 := Tryz.sizeOf4
  v4 := Tryz.zeroValue4
  t5 := Tryz.underlying5
  a5 := Tryz.isAgg5
  z5 := Tryz.sizeOf5
  v5 := Tryz.zeroValue5
  t9 := Tryz.underlying9
  a9 := Tryz.isAgg9
  z9 := Tryz.sizeOf9
  v9 := Tryz.zeroValue9
  t28 := Tryz.underlying26
  a28 := Tryz.isAgg26
  z28 := Tryz.sizeOf26
  v28 := Tryz.zeroValue26
  t46 := Tryz.underlying133
  a46 := Tryz.isAgg133
  z46 := Tryz.sizeOf133
  v46 := Tryz.zeroValue133
  t51 := Tryz.underlying149
  a51 := Tryz.isAgg149
  z51 := Tryz.sizeOf149
  v51 := Tryz.zeroValue149
  t53 := Tryz.underlying151
  a53 := Tryz.isAgg151
  z53 := Tryz.sizeOf151
  v53 := Tryz.zeroValue151
  t131 := Tryz.underlying103
  a131 := Tryz.isAgg103
  z131 := Tryz.sizeOf103
  v131 := Tryz.zeroValue103
  t182 := Tryz.underlying142
  a182 := Tryz.isAgg142
  z182 := Tryz.sizeOf142
  v182 := Tryz.zeroValue142
  t183 := Tryz.underlying143
  a183 := Tryz.isAgg143
  z183 := Tryz.sizeOf143
  v183 := Tryz.zeroValue143
  t218 := Tryz.underlying157
  a218 := Tryz.isAgg157
  z218 := Tryz.sizeOf157
  v218 := Tryz.zeroValue157
  t222 := Tryz.underlying161
  a222 := Tryz.isAgg161
  z222 := Tryz.sizeOf161
  v222 := Tryz.zeroValue161
  t228 := Tryz.underlying167
  a228 := Tryz.isAgg167
  z228 := Tryz.sizeOf167
  v228 := Tryz.zeroValue167
  t229 := Tryz.underlying40
  a229 := Tryz.isAgg40
  z229 := Tryz.sizeOf40
  v229 := Tryz.zeroValue40 }
open Go.Sort Go.RowKit in
theorem Tryz.slices_Sort_int (blk off cap : Nat) (zs : List Int) (w : World) (hH : Holds (Value.int .i64) w blk off zs.toArray) (hblk : blk < w.heap.size) (hsz : zs.length < 4611686018427387904) :
    Calls Tryz.prog 67 #[.slice (some ⟨blk, off, none⟩) zs.length cap] w fun e w' =>
      e = .returned (.tuple #[]) ∧ ∃ n os, w' = grow (putRow (Value.int .i64) (Sort.ahead w n) blk off (zs.mergeSort fun x y => decide (x ≤ y)).toArray) os := Any.slices_Sort_int Tryz.lays189 blk off cap zs w hH hblk hsz
open Go.RowKit Go.Sort in
theorem Tryz.slices_Sort_int_none (p : Option Addr) (cap : Nat) (w : World) :
    Calls Tryz.prog 67 #[.slice p 0 cap] w fun e w' => e = .returned (.tuple #[]) ∧ w' = w := Any.slices_Sort_int_none Tryz.lays189 p cap w
end Go.Proofs
end
section
namespace Go.Proofs.YtjnpchoinncbnaaGreat
open Go.RowKit Sw Fam Go.Sort
def SortPost (b o : Nat) (xs : List Int) (w : World) (e : Ending) (w' : World) : Prop := (∃ r, e = .returned r) ∧ Tch [b] w w' ∧ ∃ ys : List Int, ys.Perm xs ∧ RdI w' (some ⟨b, o, none⟩) ys
theorem sort_c {b o c : Nat} {xs : List Int} {w : World} (hD : DatM w b o c xs) (hl : xs.length ≤ 100000) :
    Calls Tryz.prog 67 #[.slice (some ⟨b, o, none⟩) xs.length c] w (SortPost b o xs w) := by
  have hH : Holds (Value.int .i64) w b o xs.toArray := fun j hj => by
    have hj' : j < xs.length := by simpa using hj
    refine ⟨?_, hD.free _⟩
    rw [hD.cell hj']
    simp [gi, hj']
  have hlt := hD.lt
  refine (Tryz.slices_Sort_int b o c xs w hH hlt (by omega)).mono ?_
  rintro e w' ⟨rfl, n, os, rfl⟩
  have hsz : (xs.mergeSort fun x y => decide (x ≤ y)).toArray.size = xs.toArray.size := by simp
  have hH2 := holds_putRow (Value.int .i64) (Sort.ahead w n) b o xs.toArray (xs.mergeSort fun x y => decide (x ≤ y)).toArray (holds_ahead _ w n b o _ hH) hsz
  refine ⟨⟨_, rfl⟩, ⟨rfl, rfl, rfl, by simp, fun k hk hn => ?_⟩, xs.mergeSort fun x y => decide (x ≤ y), List.mergeSort_perm xs _, fun j hj => ⟨b, o, rfl, ?_⟩⟩
  · rw [heap_grow_old _ _ (by simpa using hk)]
    unfold putRow mapBlock
    simp only [heap_ahead]
    rw [Array.getElem?_modify, if_neg (fun e => hn (by simp [e]))]
  · rw [cell?_grow _ _ _ (by simpa using hlt)]
    have := (hH2 j (by simpa using hj)).1
    rw [this]
    have hj2 : j < (xs.mergeSort fun x y => decide (x ≤ y)).length := hj
    simp only [gi, List.getD_eq_getElem?_getD, List.getElem?_eq_getElem hj2, Option.getD_some]
    rw [getElem!_pos _ j (by simpa using hj2)]
    rfl
theorem sort_nil (p : Option Addr) (c : Nat) (w : World) : Calls Tryz.prog 67 #[.slice p 0 c] w fun e w' => (∃ r, e = .returned r) ∧ w = w' := by
  refine (Tryz.slices_Sort_int_none p c w).mono ?_
  rintro e w' ⟨rfl, rfl⟩
  exact ⟨⟨_, rfl⟩, rfl⟩
end Go.Proofs.YtjnpchoinncbnaaGreat
end
