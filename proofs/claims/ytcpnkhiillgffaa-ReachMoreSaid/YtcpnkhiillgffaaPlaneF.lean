/- The walks of package plane's exported functions Turn, On, Meet, Near, Apart, Lies. -/
import Derived.Test.YtcpnkhiillgffaaPlaneE
namespace Go.Proofs.Ytcpnkhiillgffaa
open Go.RowKit
theorem On_yes (px py ax ay bx by' : Int) (w : World) (hp : Vld px py) (ha : Vld ax ay) (hb : Vld bx by') {v : Bool} (hv : onB px py ax ay bx by' = v) :
    Calls Try.prog 35 #[.agg #[.int .i64 px, .int .i64 py], .agg #[.int .i64 ax, .int .i64 ay], .agg #[.int .i64 bx, .int .i64 by']] w fun e w' => e = .returned (.tuple #[.bool v, .int .i64 0]) ∧ Below w.heap.size w w' := by
  go_enter Try.func35, Try.ntmps35
  go_wp2_with fail
  refine calls_named fun W hW => ?_
  obtain ⟨p1, p2, p3, p4, hB⟩ := box4 hW
  clear hW
  (with_reducible refine (valids3_yes _ _ _ _ _ _ _ _ _ p4 ⟨hp, ha, hb⟩).mono ?_)
  rintro e w1 ⟨rfl, hb1⟩
  have hB1 := below_step hB hb1
  have q1 := cellsL p1
  have q2 := cellsL p2
  have q3 := cellsL p3
  have q4 := cellsL p4
  clear p1 p2 p3 p4
  go_wp2_with fail
  (with_reducible refine (on_any _ _ _ _ _ _ _ hp ha hb hv).mono ?_)
  rintro e w2 ⟨rfl, hb2⟩
  have hB2 := below_step hB1 hb2
  go_wp2_with fail
  go_ret2
  exact ⟨rfl, hB2⟩
theorem On_no (px py ax ay bx by' : Int) (w : World) (hv : ¬ (Vld px py ∧ Vld ax ay ∧ Vld bx by')) :
    Calls Try.prog 35 #[.agg #[.int .i64 px, .int .i64 py], .agg #[.int .i64 ax, .int .i64 ay], .agg #[.int .i64 bx, .int .i64 by']] w fun e w' => e = .returned (.tuple #[.bool false, .int .i64 1]) ∧ Below w.heap.size w w' := by
  by_cases hv' : Vld px py ∧ Vld ax ay ∧ Vld bx by'
  · exact absurd hv' hv
  · go_enter Try.func35, Try.ntmps35
    go_wp2_with fail
    refine calls_named fun W hW => ?_
    obtain ⟨p1, p2, p3, p4, hB⟩ := box4 hW
    clear hW
    (with_reducible refine (valids3_no _ _ _ _ _ _ _ _ _ p4 hv').mono ?_)
    rintro e w1 ⟨rfl, hb1⟩
    have hB1 := below_step hB hb1
    clear p1 p2 p3 p4
    go_wp2_with fail
    go_ret2
    exact ⟨rfl, hB1⟩
theorem Near_yes (px py ax ay bx by' r : Int) (w : World) (hp : Vld px py) (ha : Vld ax ay) (hb : Vld bx by') (hr : 0 ≤ r ∧ r ≤ 3000000) {v : Bool} (hv : nearB px py ax ay bx by' r = v) :
    Calls Try.prog 36 #[.agg #[.int .i64 px, .int .i64 py], .agg #[.int .i64 ax, .int .i64 ay], .agg #[.int .i64 bx, .int .i64 by'], .int .i64 r] w fun e w' => e = .returned (.tuple #[.bool v, .int .i64 0]) ∧ Below w.heap.size w w' := by
  go_enter Try.func36, Try.ntmps36
  go_wp2_with fail
  refine calls_named fun W hW => ?_
  obtain ⟨p1, p2, p3, p4, hB⟩ := box4 hW
  clear hW
  (with_reducible refine (valids3_yes _ _ _ _ _ _ _ _ _ p4 ⟨hp, ha, hb⟩).mono ?_)
  rintro e w1 ⟨rfl, hb1⟩
  have hB1 := below_step hB hb1
  have q1 := cellsL p1
  have q2 := cellsL p2
  have q3 := cellsL p3
  have q4 := cellsL p4
  clear p1 p2 p3 p4
  go_wp2_with fail
  (with_reducible refine (dist_yes _ _ hr.1 hr.2).mono ?_)
  rintro e w2 ⟨rfl, hb2⟩
  have hB2 := below_step hB1 hb2
  have hW2 := below_step hb1 hb2
  go_wp2_with fail
  (with_reducible refine (near_any _ _ _ _ _ _ _ _ hp ha hb hr.1 hr.2 hv).mono ?_)
  rintro e w3 ⟨rfl, hb3⟩
  have hB3 := below_step hB2 hb3
  go_wp2_with fail
  go_ret2
  exact ⟨rfl, hB3⟩
theorem Near_no (px py ax ay bx by' r : Int) (w : World) (hv : ¬ (Vld px py ∧ Vld ax ay ∧ Vld bx by' ∧ 0 ≤ r ∧ r ≤ 3000000)) :
    Calls Try.prog 36 #[.agg #[.int .i64 px, .int .i64 py], .agg #[.int .i64 ax, .int .i64 ay], .agg #[.int .i64 bx, .int .i64 by'], .int .i64 r] w fun e w' => e = .returned (.tuple #[.bool false, .int .i64 1]) ∧ Below w.heap.size w w' := by
  by_cases hv' : Vld px py ∧ Vld ax ay ∧ Vld bx by'
  · have hr : ¬ (0 ≤ r ∧ r ≤ 3000000) := fun h => hv (by obtain ⟨g0, g1, g2⟩ := hv'; exact ⟨g0, g1, g2, h⟩)
    go_enter Try.func36, Try.ntmps36
    go_wp2_with fail
    refine calls_named fun W hW => ?_
    obtain ⟨p1, p2, p3, p4, hB⟩ := box4 hW
    clear hW
    (with_reducible refine (valids3_yes _ _ _ _ _ _ _ _ _ p4 hv').mono ?_)
    rintro e w1 ⟨rfl, hb1⟩
    have hB1 := below_step hB hb1
    clear p1 p2 p3 p4
    go_wp2_with fail
    (with_reducible refine (dist_no _ _ hr).mono ?_)
    rintro e w2 ⟨rfl, hb2⟩
    have hB2 := below_step hB1 hb2
    go_wp2_with fail
    go_ret2
    exact ⟨rfl, hB2⟩
  · go_enter Try.func36, Try.ntmps36
    go_wp2_with fail
    refine calls_named fun W hW => ?_
    obtain ⟨p1, p2, p3, p4, hB⟩ := box4 hW
    clear hW
    (with_reducible refine (valids3_no _ _ _ _ _ _ _ _ _ p4 hv').mono ?_)
    rintro e w1 ⟨rfl, hb1⟩
    have hB1 := below_step hB hb1
    clear p1 p2 p3 p4
    go_wp2_with fail
    go_ret2
    exact ⟨rfl, hB1⟩
end Go.Proofs.Ytcpnkhiillgffaa
