/- slices.Sort of integers: the kit's contract laid at this program, and what it does to a list that a call owns. -/
import Derived.Test.YtdmegkkifiahdaaGreatAppI
import Derived.Shelf.SlIterI.Nil
import Derived.Shelf.SortM.Plain
import Derived.Shelf.SortM.SortNone
import Derived.Ground.GgzProg
import Derived.Ground.SlgmProg
import Derived.Sort.OwnSortedInts
namespace Go.Proofs
open Go.RowKit Go.Maps Go.Sort Go.Shelf
shelf_lay_g SlLaysM.n5 Slgm 5 at Tryz 101 as Tryz.sortI
end Go.Proofs
namespace Go.Proofs.YtdmegkkifiahdaaGreat
open Go.RowKit Go.Shelf
set_option linter.unusedVariables false
/-- The same integers, upward. -/
def sorted (l : List Int) : List Int := l.mergeSort fun x y => decide (x ≤ y)
theorem sorted_length (l : List Int) : (sorted l).length = l.length := List.length_mergeSort l
theorem sorted_perm (l : List Int) : (sorted l).Perm l := List.mergeSort_perm l _
theorem sorted_up (l : List Int) : (sorted l).Pairwise (· ≤ ·) := by
  have := List.pairwise_mergeSort (le := fun x y : Int => decide (x ≤ y)) (fun a b c h1 h2 => by simp only [decide_eq_true_eq] at *; omega) (fun a b => by simp only [Bool.or_eq_true, decide_eq_true_eq]; omega) l
  exact this.imp (fun h => by simpa using h)
theorem sortInts_any (base : Nat) (l : List Int) (v : Value) (w : World) (h : OwnI base w v l) (hb : base ≤ w.heap.size) (hl : l.length ≤ 1000000) :
    Calls Tryz.prog 101 #[v] w fun e w' => e = .returned (.tuple #[]) ∧ OwnI base w' v (sorted l) ∧ Below base w w' := by
  rcases h.2 with ⟨rfl, h0⟩ | ⟨g, cap, cur, rfl, hg, hh, hnc, hcm, hcs, ht⟩
  · have hl0 : l = [] := by simpa using h0
    subst hl0
    refine (show Calls Tryz.prog 101 #[.slice none 0 0] w _ from AnyM.slices_Sort_int_none Tryz.sortI none 0 w).mono ?_
    rintro e w' ⟨rfl, rfl⟩
    exact ⟨rfl, by rw [show sorted [] = [] by simp [sorted]]; exact h, Below.refl _ _⟩
  · rw [Nat.mul_one] at ht
    refine (show Calls Tryz.prog 101 #[.slice (some ⟨g, 0, none⟩) l.length cap] w _ from AnyM.slices_Sort_int Tryz.sortI g 0 cap l w (holds_of_blockI hh ht) (lt_block hh) (by omega)).mono ?_
    rintro e w' ⟨rfl, n, os, rfl⟩
    refine ⟨rfl, ?_, (Below.refl base w).grown (grownBy_sortedI _) hb (fun k hk => by cases hk; exact hg)⟩
    have h2 := ownsRow_sortedI (os := os) (n := n) (ts := sorted l) (sorted_length l) hg hh hnc hcm hcs
    unfold OwnI
    rw [sorted_length]
    exact h2
end Go.Proofs.YtdmegkkifiahdaaGreat
