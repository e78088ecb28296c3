import Derived.Test.YtdmegkkifiahdaaGreatKB
namespace Go.Proofs.YtdmegkkifiahdaaGreat
open Go.RowKit Go.Shelf
attribute [local go_sem] bqOp bqAll bqUpon sqOp sqAll sqUpon
attribute [local irreducible] wpQuiet wpBQ wpPlan
attribute [local go_sem] Oper.semAt_some
set_option linter.unusedVariables false
theorem onlyN_named {Q : Exit → Act → World → Prop} {e : Exit} {a : Act} {w0 : World} (h : ∀ W, W = w0 → Q e a W) : Q e a w0 := h _ rfl
theorem box2d {w W : World} {o1 o2 : Obj} (h : W = ((w.alloc o1).alloc o2).drew) : W.heap[w.heap.size]? = some o1 ∧ W.heap[w.heap.size + 1]? = some o2 ∧ Below w.heap.size w W := by
 subst h
 exact ⟨block_alloc (block_new_at _ (by simp)), block_new_at _ (by simp), (((Below.refl _ _).alloc (Nat.le_refl _) _).alloc (by simp only [World.size_alloc]; omega) _).drew⟩
end Go.Proofs.YtdmegkkifiahdaaGreat
