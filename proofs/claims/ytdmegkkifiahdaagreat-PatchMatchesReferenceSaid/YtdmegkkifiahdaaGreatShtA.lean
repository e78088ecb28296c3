import Derived.Test.YtdmegkkifiahdaaGreatKFt
import Derived.Test.YtdmegkkifiahdaaGreatShtMath
namespace Go.Proofs.YtdmegkkifiahdaaGreat
open Go.RowKit
attribute [local go_sem] bqOp bqAll bqUpon sqOp sqAll sqUpon
attribute [local irreducible] wpQuiet wpBQ wpPlan
set_option linter.unusedVariables false
@[reducible] def shtV (s : Sht) (vd vf : Value) : Value := .agg #[.int .i64 s.chart, .int .i64 s.scale, .int .i64 s.edition, .int .i64 s.dat.a, .int .i64 s.dat.b, .int .i64 s.dat.c, .int .i64 s.dat.d, .int .i64 s.dat.e, .int .i64 s.dat.f, .int .i64 s.dat.r, .int .i64 s.cap, vd, vf]
def done_step (l : List Int) (k : Nat) : Prop := ∀ i, i < k → lastNo l i < l.getD i 0 ∧ l.getD i 0 ≤ 10000
end Go.Proofs.YtdmegkkifiahdaaGreat
