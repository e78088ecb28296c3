/- The walks of the reference's functions of chapter 31: the same answers as the program's. -/
import Derived.Test.YtnidacjmgekdjaaStationMath
import Derived.Test.YtnidacjmgekdjaaRefA
namespace Go.Proofs.Ytnidacjmgekdjaa
open Go.RowKit
attribute [local go_sem] bqOp bqAll bqUpon
attribute [local irreducible] wpQuiet wpBQ

theorem r2coords_any (lo hi : Int) (w : World) {v : Bool} (hv : decide (-1000000 ≤ lo ∧ lo ≤ hi ∧ hi ≤ 1000000) = v) : Calls Try.prog 53 #[.agg #[.int .i64 lo, .int .i64 hi]] w fun e w' => e = .returned (.bool v) ∧ Below w.heap.size w w' := by
  have HV := Lib.hid hv
  clear hv
  by_cases h1 : -1000000 ≤ lo
  · skip
    by_cases h2 : lo ≤ hi
    · skip
      by_cases h3 : hi ≤ 1000000
      · skip
        go_enter Try.func53, Try.ntmps53
        go_wp2
        go_returns
        exact ⟨ret_bool (by rw [← HV.out]; exact (decide_eq_true ⟨h1, h2, h3⟩).symm), by go_grown⟩
      · have d3 : decide (hi ≤ 1000000) = false := by simp; omega
        have n3 : 1000000 < hi := by omega
        clear h3
        go_enter Try.func53, Try.ntmps53
        go_wp2
        go_returns
        exact ⟨ret_bool (by rw [← HV.out]; exact (decide_eq_false (fun h => by have := h.2.2; omega)).symm), by go_grown⟩
    · have d2 : decide (lo ≤ hi) = false := by simp; omega
      have n2 : hi < lo := by omega
      clear h2
      go_enter Try.func53, Try.ntmps53
      go_wp2
      go_returns
      exact ⟨ret_bool (by rw [← HV.out]; exact (decide_eq_false (fun h => by have := h.2.1; omega)).symm), by go_grown⟩
  · have d1 : decide (-1000000 ≤ lo) = false := by simp; omega
    have n1 : lo < -1000000 := by omega
    clear h1
    go_enter Try.func53, Try.ntmps53
    go_wp2
    go_returns
    exact ⟨ret_bool (by rw [← HV.out]; exact (decide_eq_false (fun h => by have := h.1; omega)).symm), by go_grown⟩
theorem r2ValidBox_any (xl xh yl yh : Int) (w : World) {v : Bool} (hv : decide (Bx xl xh yl yh) = v) :
    Calls Try.prog 31 #[.agg #[.int .i64 xl, .int .i64 xh, .int .i64 yl, .int .i64 yh]] w fun e w' => e = .returned (.bool v) ∧ Below w.heap.size w w' := by
  obtain ⟨v1, h1⟩ : ∃ v1, decide (-1000000 ≤ xl ∧ xl ≤ xh ∧ xh ≤ 1000000) = v1 := ⟨_, rfl⟩
  obtain ⟨v2, h2⟩ : ∃ v2, decide (-1000000 ≤ yl ∧ yl ≤ yh ∧ yh ≤ 1000000) = v2 := ⟨_, rfl⟩
  have e : v = (v1 && v2) := by
    rw [← hv, ← h1, ← h2, ← Bool.decide_and]
    exact decide_eq_decide.2 bx_iff
  subst e
  have H1 := Lib.hid h1
  have H2 := Lib.hid h2
  clear h1 h2 hv
  go_enter Try.func31, Try.ntmps31
  go_wp2_with fail
  refine calls_named fun W hW => ?_
  obtain ⟨p1, hB⟩ := box1 hW
  clear hW
  have q1 := cellsL p1
  clear p1
  (with_reducible refine (r2coords_any _ _ _ H1.out).mono ?_)
  rintro e w1 ⟨rfl, hb1⟩
  go_wp2_with fail
  (with_reducible refine (r2coords_any _ _ _ H2.out).mono ?_)
  rintro e w2 ⟨rfl, hb2⟩
  have hB2 := below_step hb1 hb2
  cases v1
  · go_wp2_with fail
    go_returns
    exact ⟨rfl, below_step hB hB2⟩
  · go_wp2_with fail
    go_returns
    exact ⟨rfl, below_step hB hB2⟩
theorem rValid_any (x y : Int) (w : World) {v : Bool} (hv : decide (Vld x y) = v) : Calls Try.prog 32 #[.agg #[.int .i64 x, .int .i64 y]] w fun e w' => e = .returned (.bool v) ∧ Below w.heap.size w w' := by
  cases v
  · exact rValid_no _ _ _ (of_decide_eq_false hv)
  · exact rValid_yes _ _ _ (of_decide_eq_true hv)
theorem rRange_any (d : Int) (w : World) {v : Bool} (hv : decide (0 ≤ d ∧ d ≤ 3000000) = v) : Calls Try.prog 36 #[.int .i64 d] w fun e w' => e = .returned (.bool v) ∧ Below w.heap.size w w' := by
  cases v
  · exact rRange_no _ _ (of_decide_eq_false hv)
  · exact rRange_yes _ _ (of_decide_eq_true hv).1 (of_decide_eq_true hv).2
end Go.Proofs.Ytnidacjmgekdjaa
