/- The plain laws of chapter 1 on places that are turned by a quarter or mirrored, and moved. -/
import Derived.Test.YtkpmiehggmeejaaPlaneMeetMath
namespace Go.Proofs.Ytkpmiehggmeejaa
/-! ### mirrored: (x, y) to (vx - x, vy + y) -/
section
variable (vx vy : Int)
theorem crs_mir (ax ay bx by' cx cy : Int) : crs (vx - ax) (vy + ay) (vx - bx) (vy + by') (vx - cx) (vy + cy) = -crs ax ay bx by' cx cy := by unfold crs; grind
theorem sqd_mir (ax ay bx by' : Int) : sqd (vx - ax) (vy + ay) (vx - bx) (vy + by') = sqd ax ay bx by' := by unfold sqd; grind
theorem foot_mir (px py ax ay bx by' : Int) : foot (vx - px) (vy + py) (vx - ax) (vy + ay) (vx - bx) (vy + by') = foot px py ax ay bx by' := by unfold foot; grind
theorem on_mir (px py ax ay bx by' : Int) : onB (vx - px) (vy + py) (vx - ax) (vy + ay) (vx - bx) (vy + by') = onB px py ax ay bx by' := by
  have c := crs_mir vx vy ax ay bx by' px py
  unfold onB
  refine decide_eq_decide.2 ?_
  unfold OnS
  rw [c]
  omega
theorem cross_mir (ax ay bx by' cx cy dx dy : Int) : crossB (vx - ax) (vy + ay) (vx - bx) (vy + by') (vx - cx) (vy + cy) (vx - dx) (vy + dy) = crossB ax ay bx by' cx cy dx dy := by
  unfold crossB
  rw [crs_mir, crs_mir, crs_mir, crs_mir, Int.sign_neg, Int.sign_neg, Int.sign_neg, Int.sign_neg, Int.neg_mul_neg, Int.neg_mul_neg]
theorem meet_mir (ax ay bx by' cx cy dx dy : Int) : meetB (vx - ax) (vy + ay) (vx - bx) (vy + by') (vx - cx) (vy + cy) (vx - dx) (vy + dy) = meetB ax ay bx by' cx cy dx dy := by
  unfold meetB
  rw [cross_mir, on_mir, on_mir, on_mir, on_mir]
theorem near_mir (px py ax ay bx by' r : Int) : nearB (vx - px) (vy + py) (vx - ax) (vy + ay) (vx - bx) (vy + by') r = nearB px py ax ay bx by' r := by
  have m : ∀ C : Int, max (-C) (- -C) = max C (-C) := fun C => by omega
  unfold nearB sqNum sqFac sqDen
  rw [foot_mir, sqd_mir, sqd_mir, sqd_mir, crs_mir, m]
theorem close_mir (ax ay bx by' cx cy dx dy r : Int) : closeB (vx - ax) (vy + ay) (vx - bx) (vy + by') (vx - cx) (vy + cy) (vx - dx) (vy + dy) r = closeB ax ay bx by' cx cy dx dy r := by
  unfold closeB
  rw [meet_mir, near_mir, near_mir, near_mir, near_mir]
/-! ### turned by a quarter: (x, y) to (vx - y, vy + x) -/
theorem crs_rotq (ax ay bx by' cx cy : Int) : crs (vx - ay) (vy + ax) (vx - by') (vy + bx) (vx - cy) (vy + cx) = crs ax ay bx by' cx cy := by unfold crs; grind
theorem sqd_rotq (ax ay bx by' : Int) : sqd (vx - ay) (vy + ax) (vx - by') (vy + bx) = sqd ax ay bx by' := by unfold sqd; grind
theorem foot_rotq (px py ax ay bx by' : Int) : foot (vx - py) (vy + px) (vx - ay) (vy + ax) (vx - by') (vy + bx) = foot px py ax ay bx by' := by unfold foot; grind
theorem on_rotq (px py ax ay bx by' : Int) : onB (vx - py) (vy + px) (vx - ay) (vy + ax) (vx - by') (vy + bx) = onB px py ax ay bx by' := by
  have c := crs_rotq vx vy ax ay bx by' px py
  unfold onB
  refine decide_eq_decide.2 ?_
  unfold OnS
  rw [c]
  omega
theorem cross_rotq (ax ay bx by' cx cy dx dy : Int) : crossB (vx - ay) (vy + ax) (vx - by') (vy + bx) (vx - cy) (vy + cx) (vx - dy) (vy + dx) = crossB ax ay bx by' cx cy dx dy := by
  unfold crossB
  rw [crs_rotq, crs_rotq, crs_rotq, crs_rotq]
theorem meet_rotq (ax ay bx by' cx cy dx dy : Int) : meetB (vx - ay) (vy + ax) (vx - by') (vy + bx) (vx - cy) (vy + cx) (vx - dy) (vy + dx) = meetB ax ay bx by' cx cy dx dy := by
  unfold meetB
  rw [cross_rotq, on_rotq, on_rotq, on_rotq, on_rotq]
theorem near_rotq (px py ax ay bx by' r : Int) : nearB (vx - py) (vy + px) (vx - ay) (vy + ax) (vx - by') (vy + bx) r = nearB px py ax ay bx by' r := by
  unfold nearB sqNum sqFac sqDen
  rw [foot_rotq, sqd_rotq, sqd_rotq, sqd_rotq, crs_rotq]
theorem close_rotq (ax ay bx by' cx cy dx dy r : Int) : closeB (vx - ay) (vy + ax) (vx - by') (vy + bx) (vx - cy) (vy + cx) (vx - dy) (vy + dx) r = closeB ax ay bx by' cx cy dx dy r := by
  unfold closeB
  rw [meet_rotq, near_rotq, near_rotq, near_rotq, near_rotq]
end
end Go.Proofs.Ytkpmiehggmeejaa
