/- Contracts of chapter 20's functions in the form in which the laws call them; the plain law of symbols. -/
import Derived.Test.YtdmegkkifiahdaaGreatTrHead
import Derived.Test.YtdmegkkifiahdaaGreatKF
namespace Go.Proofs.YtdmegkkifiahdaaGreat
open Go.RowKit Go.Shelf
set_option linter.unusedVariables false
theorem one_err {m : Dat} {A B : List Mk} {f : Feat} {k : Int} (h : oneD m A B f = .error k) : k ≠ 0 := by
  unfold oneD at h
  split at h
  · cases h; decide
  · split at h
    · cases h; decide
    · split at h
      · cases h; decide
      · split at h
        · cases h; decide
        · split at h
          · cases h
          · cases h; decide
theorem oneR_zero {m : Dat} {A B : List Mk} {f g : Feat} (h : oneR m A B f = (g, 0)) : oneD m A B f = .ok g := by
  unfold oneR at h
  cases e : oneD m A B f with
  | ok x =>
    rw [e] at h
    cases h
    rfl
  | error k =>
    rw [e] at h
    cases h
    exact absurd rfl (one_err e)
end Go.Proofs.YtdmegkkifiahdaaGreat
