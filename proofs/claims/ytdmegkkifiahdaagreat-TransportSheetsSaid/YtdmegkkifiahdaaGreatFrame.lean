/- The frame of a law's proof: a walk that answers true and leaves what was there as it was proves the law's row, whatever its arguments' types. -/
import Derived.Test.YtdmegkkifiahdaaGreatRows
import Derived.WalkKit
import Derived.ProofKit
import Derived.OpenShut
import Derived.Lib.SmallJoins
namespace Go.Proofs.YtdmegkkifiahdaaGreat
open Go.ChangeShapes Go.WideShapes Go.ChangeAt Go.RowKit Go.Joins
section
variable {H : Type} {enc : TypeId × Value → H} {P : Program}
theorem trodAll_stays (hl : laidOutB P = true) {W W' : World} (hb : Below W.heap.size W W') : ∀ (ts : List TypeId) (vs : List Value) (ds : List (DataW H)) (ps : List MemPlace), (∀ t ∈ ts, P.readableRec t = true ∧ t < P.types.size) →
    DataW.TrodAll enc P W 0 (fun _ => true) true ts vs ds ps → (∀ x ∈ ps, x.block < W.heap.size) → DataW.TrodAll enc P W' 0 (fun b => decide (b < W.heap.size)) true ts vs ds ps
  | [], vs, ds, ps, _, h, _ => by
    obtain ⟨rfl, rfl, rfl⟩ := trodAll_nil h
    exact trodAll_mk0
  | t :: ts, vs, ds, ps, ht, h, hlt => by
    obtain ⟨v, vs', d, ds', p, q, rfl, rfl, rfl, h0, hr⟩ := trodAll_cons h
    exact trodAll_cons_mk (Below.trod hl (ht t (by simp)).1 (ht t (by simp)).2 h0 hb (fun x hx => hlt x (by simp [hx])))
      (trodAll_stays hl hb ts vs' ds' q (fun u hu => ht u (by simp [hu])) hr (fun x hx => hlt x (by simp [hx])))
/-- What a law's row asks behind the call. -/
theorem post_law {f : Func} {s : ChangeSpec} {W W' : World} {args : Array Value} {ds : List (DataW H)} {p : List MemPlace} {tb : TypeId} (hl : laidOutB P = true) (hro : ∀ t ∈ f.params.toList, P.readableRec t = true ∧ t < P.types.size)
    (hsv : s.vars = []) (hW : DataW.Whole enc P f.params.toList s.vars false W args.toList ds [] p) (hA : DataW.TrodAll enc P W 0 (fun _ => true) true f.params.toList args.toList ds p)
    (hs1 : (s.fn H (ds ++ [])).results = [.lit (.bool true)]) (hs2 : (s.fn H (ds ++ [])).args = ds) (hs3 : (s.fn H (ds ++ [])).vars = []) (hrt : f.resultTypes = #[tb]) (htb : P.underlying tb = some .bool) (hb : Below W.heap.size W W') :
    s.post enc P f false true false false W args (.bool true) W' := by
  refine ⟨ds, [], p, [], p, [], hW, ?_, ?_, ?_, hb.frame _, fun h => by cases h⟩
  · rw [hs1, hrt]
    exact trodAll_cons_mk (p := []) (p' := []) (shut_bool htb _) trodAll_mk0
  · rw [hs2]
    exact trodAll_stays hl hb _ _ _ _ hro hA hW.lt
  · rw [hs3, hsv]
    rfl
end
set_option maxRecDepth 100000 in
theorem laid_out : laidOutB Tryz.prog = true := by kernel_rfl
theorem own_knob : ownKnob Tryz.prog.godebug = none := by kernel_rfl
end Go.Proofs.YtdmegkkifiahdaaGreat
