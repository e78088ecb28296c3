/- The walks of From$2 (point). -/
import Derived.Test.YtdmegkkifiahdaaGreatRest
namespace Go.Proofs.YtdmegkkifiahdaaGreat
open Go.RowKit
attribute [local go_sem] bqOp bqAll bqUpon sqOp sqAll sqUpon
attribute [local irreducible] wpQuiet wpBQ wpPlan
set_option linter.unusedVariables false
/-- The function values that From makes. -/
@[reducible] def nextV (br : Nat) : Value := .func (.func 113) #[] #[.pointer (some ⟨br, 0, none⟩)]
@[reducible] def pointV (bn : Nat) : Value := .func (.func 114) #[] #[.pointer (some ⟨bn, 0, none⟩)]
theorem RestAt.lt {w0 w : World} {br : Nat} {l : List Int} (h : RestAt w0 br w l) : br < w.heap.size := by
  obtain ⟨ad, c, h1, _⟩ := h
  exact lt_block h1
theorem Wr.setOther {b k i : Nat} {w w' : World} (h : Wr b w w') (hk : w.heap.size ≤ k) (v : Value) : Wr b w (w'.setCell ⟨k, i, none⟩ v) := by
  refine ⟨h.os, h.tape, h.output, by have := h.size; simpa using this, fun j hj hne => ?_⟩
  have hne' : k ≠ j := by omega
  have e : (w'.setCell ⟨k, i, none⟩ v).heap[j]? = w'.heap[j]? := by
    show (w'.heap.modify k _)[j]? = _
    rw [Array.getElem?_modify, if_neg hne']
  rw [e]
  exact h.block j hj hne
theorem RestAt.setOther {w0 w : World} {br k i : Nat} {l : List Int} (h : RestAt w0 br w l) (hne : k ≠ br) (hk : w0.heap.size ≤ k) (v : Value) : RestAt w0 br (w.setCell ⟨k, i, none⟩ v) l := by
  obtain ⟨ad, c, h1, h2, h3, h4⟩ := h
  refine ⟨ad, c, ?_, h2, h3.trans ((Below.refl _ _).setCell hk v), h4⟩
  have e : (w.setCell ⟨k, i, none⟩ v).heap[br]? = w.heap[br]? := by
    show (w.heap.modify k _)[br]? = _
    rw [Array.getElem?_modify, if_neg hne]
  rw [e]
  exact h1
set_option maxHeartbeats 1000000 in
theorem shFrom2_at (w0 : World) (br bn : Nat) (l : List Int) (w : World) (h : RestAt w0 br w l) (hf : w.heap[bn]? = some (.cells #[nextV br] 141 (0, 0))) (hne : bn ≠ br) {x y : Int} {t : List Int} (hx : l.getD 0 0 = x) (hy : l.getD 1 0 = y) (ht : l.drop 2 = t) :
    Calls Tryz.prog 114 #[.pointer (some ⟨bn, 0, none⟩)] w (ReadsP w0 br (.agg #[.int .i64 x, .int .i64 y]) t w) := by
  have hbr := h.lt
  have hw0 : w0.heap.size ≤ w.heap.size := by obtain ⟨_, _, _, _, h3, _⟩ := h; exact h3.size
  have c0 := cell_block (block_later ((Below.refl w.heap.size w).alloc (Nat.le_refl _) (.cells #[.int .i64 0, .int .i64 0] 28)) hf) 0
  have HR := Lib.hid h
  have HF := Lib.hid hf
  have HX := Lib.hid hx
  have HY := Lib.hid (show (l.drop 1).getD 0 0 = y by rw [← hy]; simp [List.getD])
  have HT := Lib.hid (show (l.drop 1).drop 1 = t by rw [← ht, List.drop_drop])
  clear h hf hx hy ht
  go_enter Tryz.func114, Tryz.ntmps114
  go_wp2_with fail
  refine calls_named fun W hW => ?_
  obtain ⟨p1, hB⟩ := box1 hW
  clear hW c0
  (with_reducible refine (shFrom1_at w0 br l _ (HR.out.later hB) HX.out rfl).mono ?_)
  rintro e w1 ⟨rfl, hr1, hw1⟩
  have hf1 := hw1.block_ne (block_later hB HF.out) hne
  have q1 := hw1.block_ne p1 (by omega)
  have c0 := cell_block hf1 0
  have R1 := Lib.hid hr1
  have W1 := (Wr.of_below (b := br) hB).trans hw1
  clear p1 hr1 hf1
  go_wp2_with fail
  (with_reducible refine (shFrom1_at w0 br _ _ R1.out HY.out HT.out).mono ?_)
  rintro e w2 ⟨rfl, hr2, hw2⟩
  have q2 := hw2.block_ne q1 (by omega)
  have f2 := free_block q2
  have z2 := cell_block q2
  have R2 := Lib.hid hr2
  have W2 := W1.trans hw2
  have Q2 := Lib.hid q2
  clear q1 q2 hr2
  go_wp2_with fail
  have c9 := cell_block (block_set (i := 1) (block_set (i := 0) Q2.out (.int .i64 x)) (.int .i64 y))
  exact bodyPost_ret (v := (.agg #[.int .i64 x, .int .i64 y])) (by simp [results, Tryz.results114, go_sem, c9]) rfl ⟨rfl, (R2.out.setOther (by omega) hw0 _).setOther (by omega) hw0 _, (W2.setOther (Nat.le_refl _) _).setOther (Nat.le_refl _) _⟩
end Go.Proofs.YtdmegkkifiahdaaGreat
