/- Plain laws of chapter 17: what was patched is undone; a patch of two parts; the first failure. -/
import Derived.Test.YtdmegkkifiahdaaGreatPatPure
namespace Go.Proofs.YtdmegkkifiahdaaGreat
end Go.Proofs.YtdmegkkifiahdaaGreat
