/- Contracts of sheet's functions for every input, as the laws of chapter 14 call them. -/
import Derived.Test.YtdmegkkifiahdaaGreatShtN
import Derived.Test.YtdmegkkifiahdaaGreatShtF
namespace Go.Proofs.YtdmegkkifiahdaaGreat
open Go.RowKit
set_option linter.unusedVariables false
theorem ints_rows {w : World} {v : Value} {l : List Int} (h : IntsAt w v l) : Rows 1 w v l.length (fun i _ => l.getD i 0) := Lists.rows h
def shownQ (s : Sht) (qx qy : Int) : Bool → Int × Int
  | true => (shownS s qx qy, 0)
  | false => (0, 1)
theorem shShown_any (s : Sht) (vd vf : Value) (qx qy : Int) (w : World) (hd : IntsAt w vd s.don) (hf : FeatsAt w vf s.feats) {o : Bool} (ho : decide (ShtOk s ∧ Vld qx qy) = o) {v er : Int} (hv : shownQ s qx qy o = (v, er)) : Calls Tryz.prog 44 #[shtV s vd vf, .agg #[.int .i64 qx, .int .i64 qy]] w fun z w' => z = .returned (.tuple #[.int .i64 v, .int .i64 er]) ∧ Below w.heap.size w w' := by
  cases o with
  | true =>
    have h := of_decide_eq_true ho
    cases hv
    exact shShown_yes s vd vf qx qy w hd hf h.1 h.2 rfl
  | false =>
    cases hv
    exact shShown_no s vd vf qx qy w hd hf (of_decide_eq_false ho)
def digQ (s : Sht) : Bool → Int × Int
  | true => ((digN (encS s) : Int), 0)
  | false => (0, 1)
theorem shDigest_any (s : Sht) (vd vf : Value) (w : World) (hd : IntsAt w vd s.don) (hf : FeatsAt w vf s.feats) {o : Bool} (ho : decide (ShtOk s) = o) {v er : Int} (hv : digQ s o = (v, er)) : Calls Tryz.prog 39 #[shtV s vd vf] w fun z w' => z = .returned (.tuple #[.int .u64 v, .int .i64 er]) ∧ Below w.heap.size w w' := by
  cases o with
  | true =>
    cases hv
    exact shDigest_yes s vd vf w hd hf (of_decide_eq_true ho)
  | false =>
    cases hv
    exact shDigest_no s vd vf w hd hf (of_decide_eq_false ho)
end Go.Proofs.YtdmegkkifiahdaaGreat
