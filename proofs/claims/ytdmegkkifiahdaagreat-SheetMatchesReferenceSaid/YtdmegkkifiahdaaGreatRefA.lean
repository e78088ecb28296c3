/- The walks of the small functions of chapter 1's reference. -/
import Derived.Test.YtdmegkkifiahdaaGreatKA
namespace Go.Proofs.YtdmegkkifiahdaaGreat
open Go.RowKit
attribute [local go_sem] bqOp bqAll bqUpon
attribute [local irreducible] wpQuiet wpBQ
theorem rMinus_any (bx by' ax ay : Int) (w : World) (h1 : -4000000 ≤ bx - ax) (h2 : bx - ax ≤ 4000000) (h3 : -4000000 ≤ by' - ay) (h4 : by' - ay ≤ 4000000) :
    Calls Tryz.prog 365 #[.agg #[.int .i64 bx, .int .i64 by'], .agg #[.int .i64 ax, .int .i64 ay]] w fun e w' => e = .returned (.agg #[.int .i64 (bx - ax), .int .i64 (by' - ay)]) ∧ Below w.heap.size w w' := by
  go_enter Tryz.func365, Tryz.ntmps365
  go_wp2
  go_returns
  exact ⟨rfl, by go_grown⟩
theorem rCross_any (ax ay bx by' : Int) (w : World) (h1 : -9000000000000000000 ≤ ax * by') (h1' : ax * by' ≤ 9000000000000000000) (h2 : -9000000000000000000 ≤ ay * bx) (h2' : ay * bx ≤ 9000000000000000000)
   (h3 : -9000000000000000000 ≤ ax * by' - ay * bx) (h3' : ax * by' - ay * bx ≤ 9000000000000000000) :
    Calls Tryz.prog 378 #[.agg #[.int .i64 ax, .int .i64 ay], .agg #[.int .i64 bx, .int .i64 by']] w fun e w' => e = .returned (.int .i64 (ax * by' - ay * bx)) ∧ Below w.heap.size w w' := by
  go_enter Tryz.func378, Tryz.ntmps378
  go_wp2
  go_returns
  exact ⟨rfl, by go_grown⟩
theorem rDot_any (ax ay bx by' : Int) (w : World) (h1 : -9000000000000000000 ≤ ax * bx) (h1' : ax * bx ≤ 9000000000000000000) (h2 : -9000000000000000000 ≤ ay * by') (h2' : ay * by' ≤ 9000000000000000000)
   (h3 : -9000000000000000000 ≤ ax * bx + ay * by') (h3' : ax * bx + ay * by' ≤ 9000000000000000000) :
    Calls Tryz.prog 376 #[.agg #[.int .i64 ax, .int .i64 ay], .agg #[.int .i64 bx, .int .i64 by']] w fun e w' => e = .returned (.int .i64 (ax * bx + ay * by')) ∧ Below w.heap.size w w' := by
  go_enter Tryz.func376, Tryz.ntmps376
  go_wp2
  go_returns
  exact ⟨rfl, by go_grown⟩
theorem rSign_any (x : Int) (w : World) {s : Int} (hs : x.sign = s) :
    Calls Tryz.prog 377 #[.int .i64 x] w fun e w' => e = .returned (.int .i64 s) ∧ Below w.heap.size w w' := by
  subst hs
  go_enter Tryz.func377, Tryz.ntmps377
  go_wp2
  · go_returns
    exact ⟨ret_int (Int.sign_eq_one_of_pos (by assumption)).symm, by go_grown⟩
  · go_returns
    exact ⟨ret_int (Int.sign_eq_neg_one_of_neg (by assumption)).symm, by go_grown⟩
  · go_returns
    exact ⟨ret_int (by rw [show x = 0 by omega]; rfl), by go_grown⟩
theorem rValid_yes (x y : Int) (w : World) (h : Vld x y) : Calls Tryz.prog 76 #[.agg #[.int .i64 x, .int .i64 y]] w fun e w' => e = .returned (.bool true) ∧ Below w.heap.size w w' := by
  obtain ⟨h1, h2, h3, h4⟩ := h
  go_enter Tryz.func76, Tryz.ntmps76
  go_wp2
  all_goals (go_returns; exact ⟨ret_bool (by simp <;> omega), by go_grown⟩)
theorem rValid_no (x y : Int) (w : World) (h : ¬ Vld x y) : Calls Tryz.prog 76 #[.agg #[.int .i64 x, .int .i64 y]] w fun e w' => e = .returned (.bool false) ∧ Below w.heap.size w w' := by
  have h' : -1000000 ≤ x → x ≤ 1000000 → -1000000 ≤ y → ¬ y ≤ 1000000 := fun h1 h2 h3 h4 => h ⟨h1, h2, h3, h4⟩
  have H := Lib.hid h'
  clear h h'
  go_enter Tryz.func76, Tryz.ntmps76
  go_wp2
  all_goals (go_returns; exact ⟨ret_bool (by have := H.out; simp <;> omega), by go_grown⟩)
theorem rSquare_any (ax ay bx by' : Int) (w : World) (ha : Vld ax ay) (hb : Vld bx by') :
    Calls Tryz.prog 283 #[.agg #[.int .i64 ax, .int .i64 ay], .agg #[.int .i64 bx, .int .i64 by']] w fun e w' => e = .returned (.int .i64 (sqd ax ay bx by')) ∧ Below w.heap.size w w' := by
  obtain ⟨⟨m5, m6⟩, m7, m8⟩ := sqd_bd ha hb
  obtain ⟨a1, a2, a3, a4⟩ := ha
  obtain ⟨b1, b2, b3, b4⟩ := hb
  go_enter Tryz.func283, Tryz.ntmps283
  go_wp2_with fail
  refine wp_named fun W hW => ?_
  obtain ⟨p1, p2, hB⟩ := box2 hW
  clear hW
  have q1 := cellsR p1
  have q2 := cellsR p2
  clear p1 p2
  (refine wp_region_quiet_below (by kernel_rfl) (by kernel_rfl) ?_; (repeat (refine wpQuiet_step (fun K hK => ?_); replace hK := Lib.hid hK; go_simp; first | (refine hK.out _ ?_; clear hK K) | (apply Exists.intro; refine ⟨fun _ => ?_, hK.out _ ?_⟩; (first | (go_at_call 365; exact Calls.regrown_of (rMinus_any _ _ _ _ _ (by omega) (by omega) (by omega) (by omega))) | (go_at_call 376; exact Calls.regrown_of (rDot_any _ _ _ _ _ (by omega) (by omega) (by omega) (by omega) (by omega) (by omega)))); clear hK K))); refine wpQuiet_nil ?_)
  intro W1 hW1
  have hB1 := regrown_below hW1
  clear hW1
  go_wp2_with fail
  go_returns
  exact ⟨rfl, below_step hB hB1⟩
end Go.Proofs.YtdmegkkifiahdaaGreat
