/- Opening lists of operations as arguments of chapter 17's laws. -/
import Derived.Test.YtdmegkkifiahdaaGreatFrameF
import Derived.Test.YtdmegkkifiahdaaGreatPC
namespace Go.Proofs.YtdmegkkifiahdaaGreat
open Go.ChangeShapes Go.WideShapes Go.ChangeAt Go.RowKit Go.Joins
set_option maxRecDepth 100000
section
variable {H : Type} {enc : TypeId × Value → H} {w : World} {base : Nat} {spare : Nat → Bool} {held : Bool} {r : Reach} {b0 : Nat} {v : Value} {d : DataW H} {p : List MemPlace}
end
end Go.Proofs.YtdmegkkifiahdaaGreat
