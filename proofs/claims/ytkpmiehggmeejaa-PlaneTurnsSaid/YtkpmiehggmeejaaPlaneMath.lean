/- The plain laws of chapter 1: turns, distances, meeting and near segments, on integers. -/
import Derived.Test.YtkpmiehggmeejaaPlanePure
namespace Go.Proofs.Ytkpmiehggmeejaa
theorem crs_rot (ax ay bx by' cx cy : Int) : crs bx by' cx cy ax ay = crs ax ay bx by' cx cy := by unfold crs; grind
theorem crs_swap (ax ay bx by' cx cy : Int) : crs bx by' ax ay cx cy = -crs ax ay bx by' cx cy := by unfold crs; grind
theorem crs_self (ax ay cx cy : Int) : crs ax ay ax ay cx cy = 0 := by unfold crs; grind
#print axioms crs_rot
end Go.Proofs.Ytkpmiehggmeejaa
