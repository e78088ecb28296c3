/- PatRev, OpsCut: joined. -/
import Derived.Test.YtdmegkkifiahdaaGreatPC
import Derived.Deep.MidRow
import Derived.Deep.Upon
/- The walk of slices.Reverse of operations. -/
namespace Go.Proofs.YtdmegkkifiahdaaGreat
open Go.RowKit
attribute [local go_sem] bqOp bqAll bqUpon sqOp sqAll sqUpon ssAll
attribute [local irreducible] wpQuiet wpBQ wpPlan wsPlan
set_option linter.unusedVariables false
end Go.Proofs.YtdmegkkifiahdaaGreat
/- Slices of a patch. -/
namespace Go.Proofs.YtdmegkkifiahdaaGreat
set_option linter.unusedVariables false
theorem opAddr {g o k : Nat} : (Addr.mk g o none).add k = ⟨g, o + k, none⟩ := by unfold Addr.add; split <;> simp_all
/-- Slices of a patch. -/
theorem ops_from {w : World} {ad : Option Addr} {n c k : Nat} {l : List Opn} (h : OpsAt w (.slice ad n c) l) (hn : l.length = n) (hk : k ≤ n) : OpsAt w (.slice (if c = k then ad else ad.map fun x => x.add (k * 16)) (n - k) (c - k)) (l.drop k) := by
  have hl : (l.drop k).length = n - k := by rw [List.length_drop, hn]
  obtain ⟨ad', c', e, h1, h2⟩ := h
  cases e
  refine ⟨_, _, by rw [hl], ⟨by omega, by omega⟩, fun i hi => ?_⟩
  rw [hl] at hi
  obtain ⟨g, o, va, vs, rfl, hf⟩ := h2 (k + i) (by omega)
  rw [if_neg (by omega)]
  refine ⟨g, o + k * 16, va, vs, by rw [Option.map_some, opAddr], ?_⟩
  rw [show (l.drop k).getD i noOpn = l.getD (k + i) noOpn by rw [List.getD_eq_getElem?_getD, List.getD_eq_getElem?_getD, List.getElem?_drop], show o + k * 16 + i * 16 = o + (k + i) * 16 by rw [Nat.add_mul]; omega]
  exact hf
theorem ops_part {w : World} {ad : Option Addr} {n c k : Nat} {l : List Opn} (h : OpsAt w (.slice ad n c) l) (hn : l.length = n) (hk : k < n) : OpsAt w (.slice (ad.map fun x => x.add (k * 16)) 1 (c - k)) ((l.drop k).take 1) := by
  have h1 := ops_from h hn (Nat.le_of_lt hk)
  have hc : n ≤ c := by
    obtain ⟨_, _, e, h2, _⟩ := h
    cases e
    omega
  rw [if_neg (by omega)] at h1
  exact ops_take h1 (by rw [List.length_drop, hn]) (by omega)
end Go.Proofs.YtdmegkkifiahdaaGreat
