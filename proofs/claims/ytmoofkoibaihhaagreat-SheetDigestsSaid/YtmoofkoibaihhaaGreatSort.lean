/- slices.Sort of integers: the kit's contract laid at this program (sortRen, sortLays: written by the kit's tools), and what it does to a list that a call owns. -/
import Derived.Test.YtmoofkoibaihhaaGreatAppI
import Derived.Shelf.Sort.Plain
import Derived.Shelf.Slices.In.SortNone
import Derived.Sort.OwnSortedInts
namespace Go.Proofs.YtmoofkoibaihhaaGreat
open Go.RowKit Go.Shelf
set_option linter.unusedVariables false
def sortRen : Go.Shelf.Ren := ⟨fun | 189 => 51 | 125 => 81 | 257 => 80 | 128 => 105 | 129 => 106 | 294 => 96 | 295 => 97 | 296 => 98 | 297 => 99 | 298 => 100 | 299 => 101 | 216 => 102 | 300 => 103 | 301 => 104 | 328 => 122 | 329 => 123 | 330 => 124 | 331 => 125 | 332 => 126 | 215 => 127 | 343 => 146 | n => n, fun | 28 => 24 | 3 => 3 | 46 => 114 | 0 => 0 | 51 => 136 | 53 => 56 | 4 => 4 | 183 => 130 | 182 => 129 | 131 => 83 | 5 => 5 | 9 => 9 | 218 => 147 | 222 => 69 | 228 => 168 | 229 => 169 | n => n, fun | n => n⟩
theorem sortLays : Go.Proofs.Lays.n189 Tryz.prog sortRen := {
  mixed := by kernel_rfl
  f125 := Tryz.func81.trans (congrArg some (by kernel_rfl))
  f128 := Tryz.func105.trans (congrArg some (by kernel_rfl))
  f129 := Tryz.func106.trans (congrArg some (by kernel_rfl))
  f189 := Tryz.func51.trans (congrArg some (by kernel_rfl))
  f215 := Tryz.func127.trans (congrArg some (by kernel_rfl))
  f216 := Tryz.func102.trans (congrArg some (by kernel_rfl))
  f257 := Tryz.func80.trans (congrArg some (by kernel_rfl))
  f294 := Tryz.func96.trans (congrArg some (by kernel_rfl))
  f295 := Tryz.func97.trans (congrArg some (by kernel_rfl))
  f296 := Tryz.func98.trans (congrArg some (by kernel_rfl))
  f297 := Tryz.func99.trans (congrArg some (by kernel_rfl))
  f298 := Tryz.func100.trans (congrArg some (by kernel_rfl))
  f299 := Tryz.func101.trans (congrArg some (by kernel_rfl))
  f300 := Tryz.func103.trans (congrArg some (by kernel_rfl))
  f301 := Tryz.func104.trans (congrArg some (by kernel_rfl))
  f328 := Tryz.func122.trans (congrArg some (by kernel_rfl))
  f329 := Tryz.func123.trans (congrArg some (by kernel_rfl))
  f330 := Tryz.func124.trans (congrArg some (by kernel_rfl))
  f331 := Tryz.func125.trans (congrArg some (by kernel_rfl))
  f332 := Tryz.func126.trans (congrArg some (by kernel_rfl))
  f343 := Tryz.func146.trans (congrArg some (by kernel_rfl))
  t0 := Tryz.underlying0
  a0 := Tryz.isAgg0
  z0 := Tryz.sizeOf0
  v0 := Tryz.zeroValue0
  t3 := Tryz.underlying3
  a3 := Tryz.isAgg3
  z3 := Tryz.sizeOf3
  v3 := Tryz.zeroValue3
  t4 := Tryz.underlying4
  a4 := Tryz.isAgg4
  z4 := Tryz.sizeOf4
  v4 := Tryz.zeroValue4
  t5 := Tryz.underlying5
  a5 := Tryz.isAgg5
  z5 := Tryz.sizeOf5
  v5 := Tryz.zeroValue5
  t9 := Tryz.underlying9
  a9 := Tryz.isAgg9
  z9 := Tryz.sizeOf9
  v9 := Tryz.zeroValue9
  t28 := Tryz.underlying24
  a28 := Tryz.isAgg24
  z28 := Tryz.sizeOf24
  v28 := Tryz.zeroValue24
  t46 := Tryz.underlying114
  a46 := Tryz.isAgg114
  z46 := Tryz.sizeOf114
  v46 := Tryz.zeroValue114
  t51 := Tryz.underlying136
  a51 := Tryz.isAgg136
  z51 := Tryz.sizeOf136
  v51 := Tryz.zeroValue136
  t53 := Tryz.underlying56
  a53 := Tryz.isAgg56
  z53 := Tryz.sizeOf56
  v53 := Tryz.zeroValue56
  t131 := Tryz.underlying83
  a131 := Tryz.isAgg83
  z131 := Tryz.sizeOf83
  v131 := Tryz.zeroValue83
  t182 := Tryz.underlying129
  a182 := Tryz.isAgg129
  z182 := Tryz.sizeOf129
  v182 := Tryz.zeroValue129
  t183 := Tryz.underlying130
  a183 := Tryz.isAgg130
  z183 := Tryz.sizeOf130
  v183 := Tryz.zeroValue130
  t218 := Tryz.underlying147
  a218 := Tryz.isAgg147
  z218 := Tryz.sizeOf147
  v218 := Tryz.zeroValue147
  t222 := Tryz.underlying69
  a222 := Tryz.isAgg69
  z222 := Tryz.sizeOf69
  v222 := Tryz.zeroValue69
  t228 := Tryz.underlying168
  a228 := Tryz.isAgg168
  z228 := Tryz.sizeOf168
  v228 := Tryz.zeroValue168
  t229 := Tryz.underlying169
  a229 := Tryz.isAgg169
  z229 := Tryz.sizeOf169
  v229 := Tryz.zeroValue169 }
/-- The same integers, upward. -/
def sorted (l : List Int) : List Int := l.mergeSort fun x y => decide (x ≤ y)
theorem sorted_length (l : List Int) : (sorted l).length = l.length := List.length_mergeSort l
theorem sorted_perm (l : List Int) : (sorted l).Perm l := List.mergeSort_perm l _
theorem sorted_up (l : List Int) : (sorted l).Pairwise (· ≤ ·) := by
  have := List.pairwise_mergeSort (le := fun x y : Int => decide (x ≤ y)) (fun a b c h1 h2 => by simp only [decide_eq_true_eq] at *; omega) (fun a b => by simp only [Bool.or_eq_true, decide_eq_true_eq]; omega) l
  exact this.imp (fun h => by simpa using h)
theorem sortInts_any (base : Nat) (l : List Int) (v : Value) (w : World) (h : OwnI base w v l) (hb : base ≤ w.heap.size) (hl : l.length ≤ 1000000) :
    Calls Tryz.prog 51 #[v] w fun e w' => e = .returned (.tuple #[]) ∧ OwnI base w' v (sorted l) ∧ Below base w w' := by
  rcases h.2 with ⟨rfl, h0⟩ | ⟨g, cap, cur, rfl, hg, hh, hnc, hcm, hcs, ht⟩
  · have hl0 : l = [] := by simpa using h0
    subst hl0
    refine (show Calls Tryz.prog 51 #[.slice none 0 0] w _ from Any.slices_Sort_int_none sortLays none 0 w).mono ?_
    rintro e w' ⟨rfl, rfl⟩
    exact ⟨rfl, by rw [show sorted [] = [] by simp [sorted]]; exact h, Below.refl _ _⟩
  · rw [Nat.mul_one] at ht
    refine (show Calls Tryz.prog 51 #[.slice (some ⟨g, 0, none⟩) l.length cap] w _ from Any.slices_Sort_int sortLays g 0 cap l w (holds_of_blockI hh ht) (lt_block hh) (by omega)).mono ?_
    rintro e w' ⟨rfl, n, os, rfl⟩
    refine ⟨rfl, ?_, (Below.refl base w).grown (grownBy_sortedI _) hb (fun k hk => by cases hk; exact hg)⟩
    have h2 := ownsRow_sortedI (os := os) (n := n) (ts := sorted l) (sorted_length l) hg hh hnc hcm hcs
    unfold OwnI
    rw [sorted_length]
    exact h2
end Go.Proofs.YtmoofkoibaihhaaGreat
