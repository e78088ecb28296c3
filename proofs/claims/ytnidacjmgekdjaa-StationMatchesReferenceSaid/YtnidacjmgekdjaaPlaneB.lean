/- The walks of package plane's inner functions: turns, places on segments, meeting segments, squares of distances, nearness, roots. -/
import Derived.Test.YtnidacjmgekdjaaPlaneA
import Derived.Test.YtnidacjmgekdjaaRegion
import Derived.Outline
namespace Go.Proofs.Ytnidacjmgekdjaa
open Go.RowKit
attribute [local go_sem] bqOp bqAll bqUpon
attribute [local irreducible] wpQuiet wpBQ
theorem crs_bd {ax ay bx by' cx cy : Int} (ha : Vld ax ay) (hb : Vld bx by') (hc : Vld cx cy) :
    (-4000000000000 ≤ (bx - ax) * (cy - ay) ∧ (bx - ax) * (cy - ay) ≤ 4000000000000) ∧ (-4000000000000 ≤ (by' - ay) * (cx - ax) ∧ (by' - ay) * (cx - ax) ≤ 4000000000000) := by
  obtain ⟨a1, a2, a3, a4⟩ := ha
  obtain ⟨b1, b2, b3, b4⟩ := hb
  obtain ⟨c1, c2, c3, c4⟩ := hc
  exact ⟨mul_bd (A := 2000000) (B := 2000000) (by omega) (by omega) (by omega) (by omega), mul_bd (A := 2000000) (B := 2000000) (by omega) (by omega) (by omega) (by omega)⟩
theorem sign_cases (x : Int) : x.sign = -1 ∨ x.sign = 0 ∨ x.sign = 1 := by
  rcases Int.lt_trichotomy x 0 with h | h | h
  · exact .inl (Int.sign_eq_neg_one_of_neg h)
  · exact .inr (.inl (by rw [h]; rfl))
  · exact .inr (.inr (Int.sign_eq_one_of_pos h))
end Go.Proofs.Ytnidacjmgekdjaa
