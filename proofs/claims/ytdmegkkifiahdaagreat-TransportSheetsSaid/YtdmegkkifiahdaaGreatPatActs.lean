/- Plain laws of chapter 17: a patch read by IDs; patches that can be exchanged; what a patch does not touch; shoaler patches. -/
import Derived.Test.YtdmegkkifiahdaaGreatPatMath
namespace Go.Proofs.YtdmegkkifiahdaaGreat
/-- Operations that can be exchanged. -/
def fieldO (o : Opn) : Prop := 3 ≤ o.kind ∧ o.kind ≤ 5
instance (o : Opn) : Decidable (fieldO o) := by unfold fieldO; exact inferInstance
def FreeO (o p : Opn) : Prop := ¬ (o.id = p.id ∧ (o.kind = p.kind ∨ ¬ fieldO o ∨ ¬ fieldO p))
instance (o p : Opn) : Decidable (FreeO o p) := by unfold FreeO; exact inferInstance
end Go.Proofs.YtdmegkkifiahdaaGreat
