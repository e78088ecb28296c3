/- The walks of chapter 1's reference: the exported functions. -/
import Derived.Test.YtkpmiehggmeejaaRefC
import Derived.Outline
namespace Go.Proofs.Ytkpmiehggmeejaa
open Go.RowKit
attribute [local go_sem] bqOp bqAll bqUpon
attribute [local irreducible] wpQuiet wpBQ
set_option maxHeartbeats 1000000 in
theorem rOn_yes (px py ax ay bx by' : Int) (w : World) (hp : Vld px py) (ha : Vld ax ay) (hb : Vld bx by') {v : Bool} (hv : onB px py ax ay bx by' = v) :
    Calls Try.prog 23 #[.agg #[.int .i64 px, .int .i64 py], .agg #[.int .i64 ax, .int .i64 ay], .agg #[.int .i64 bx, .int .i64 by']] w fun e w' => e = .returned (.tuple #[.bool v, .int .i64 0]) ∧ Below w.heap.size w w' := by
  go_enter Try.func23, Try.ntmps23
  go_wp2_with fail
  refine calls_named fun W hW => ?_
  obtain ⟨p1, p2, p3, hB⟩ := box3 hW
  clear hW
  have q1 := cellsL p1
  have q2 := cellsL p2
  have q3 := cellsL p3
  clear p1 p2 p3
  have hX0 := Below.refl W.heap.size W
  (with_reducible refine (rValid_yes _ _ _ hp).mono ?_)
  rintro e w1 ⟨rfl, hb⟩
  have hX1 := below_step hX0 hb
  clear hb
  go_wp2_with fail
  (with_reducible refine (rValid_yes _ _ _ ha).mono ?_)
  rintro e w2 ⟨rfl, hb⟩
  have hX2 := below_step hX1 hb
  clear hb
  go_wp2_with fail
  (with_reducible refine (rValid_yes _ _ _ hb).mono ?_)
  rintro e w3 ⟨rfl, hb⟩
  have hX3 := below_step hX2 hb
  clear hb
  go_wp2_with fail
  (with_reducible refine (rLie_any _ _ _ _ _ _ _ hp ha hb hv).mono ?_)
  rintro e w4 ⟨rfl, hb⟩
  have hX4 := below_step hX3 hb
  clear hb
  go_wp2_with fail
  go_ret2
  exact ⟨rfl, below_step hB hX4⟩
theorem rOn_no (px py ax ay bx by' : Int) (w : World) (hv : ¬ (Vld px py ∧ Vld ax ay ∧ Vld bx by')) :
    Calls Try.prog 23 #[.agg #[.int .i64 px, .int .i64 py], .agg #[.int .i64 ax, .int .i64 ay], .agg #[.int .i64 bx, .int .i64 by']] w fun e w' => e = .returned (.tuple #[.bool false, .int .i64 1]) ∧ Below w.heap.size w w' := by
  go_enter Try.func23, Try.ntmps23
  go_wp2_with fail
  refine calls_named fun W hW => ?_
  obtain ⟨p1, p2, p3, hB⟩ := box3 hW
  clear hW
  have q1 := cellsL p1
  have q2 := cellsL p2
  have q3 := cellsL p3
  clear p1 p2 p3
  have hX0 := Below.refl W.heap.size W
  by_cases g0 : Vld px py
  · (with_reducible refine (rValid_yes _ _ _ g0).mono ?_)
    rintro e w1 ⟨rfl, hb⟩
    have hX1 := below_step hX0 hb
    clear hb
    by_cases g1 : Vld ax ay
    · go_wp2_with fail
      (with_reducible refine (rValid_yes _ _ _ g1).mono ?_)
      rintro e w2 ⟨rfl, hb⟩
      have hX2 := below_step hX1 hb
      clear hb
      by_cases g2 : Vld bx by'
      · exact absurd ⟨g0, g1, g2⟩ hv
      · go_wp2_with fail
        (with_reducible refine (rValid_no _ _ _ g2).mono ?_)
        rintro e w3 ⟨rfl, hb⟩
        have hX3 := below_step hX2 hb
        clear hb
        go_wp2_with fail
        go_ret2
        exact ⟨rfl, below_step hB hX3⟩
    · go_wp2_with fail
      (with_reducible refine (rValid_no _ _ _ g1).mono ?_)
      rintro e w2 ⟨rfl, hb⟩
      have hX2 := below_step hX1 hb
      clear hb
      go_wp2_with fail
      go_ret2
      exact ⟨rfl, below_step hB hX2⟩
  · (with_reducible refine (rValid_no _ _ _ g0).mono ?_)
    rintro e w1 ⟨rfl, hb⟩
    have hX1 := below_step hX0 hb
    clear hb
    go_wp2_with fail
    go_ret2
    exact ⟨rfl, below_step hB hX1⟩
set_option maxHeartbeats 1000000 in
theorem rMeet_yes (ax ay bx by' cx cy dx dy : Int) (w : World) (ha : Vld ax ay) (hb : Vld bx by') (hc : Vld cx cy) (hd : Vld dx dy) {v : Bool} (hv : meetB ax ay bx by' cx cy dx dy = v) :
    Calls Try.prog 24 #[.agg #[.int .i64 ax, .int .i64 ay], .agg #[.int .i64 bx, .int .i64 by'], .agg #[.int .i64 cx, .int .i64 cy], .agg #[.int .i64 dx, .int .i64 dy]] w fun e w' => e = .returned (.tuple #[.bool v, .int .i64 0]) ∧ Below w.heap.size w w' := by
  go_enter Try.func24, Try.ntmps24
  go_wp2_with fail
  refine calls_named fun W hW => ?_
  obtain ⟨p1, p2, p3, p4, hB⟩ := box4 hW
  clear hW
  have q1 := cellsL p1
  have q2 := cellsL p2
  have q3 := cellsL p3
  have q4 := cellsL p4
  clear p1 p2 p3 p4
  have hX0 := Below.refl W.heap.size W
  (with_reducible refine (rValid_yes _ _ _ ha).mono ?_)
  rintro e w1 ⟨rfl, hb⟩
  have hX1 := below_step hX0 hb
  clear hb
  go_wp2_with fail
  (with_reducible refine (rValid_yes _ _ _ hb).mono ?_)
  rintro e w2 ⟨rfl, hb⟩
  have hX2 := below_step hX1 hb
  clear hb
  go_wp2_with fail
  (with_reducible refine (rValid_yes _ _ _ hc).mono ?_)
  rintro e w3 ⟨rfl, hb⟩
  have hX3 := below_step hX2 hb
  clear hb
  go_wp2_with fail
  (with_reducible refine (rValid_yes _ _ _ hd).mono ?_)
  rintro e w4 ⟨rfl, hb⟩
  have hX4 := below_step hX3 hb
  clear hb
  go_wp2_with fail
  (with_reducible refine (rCrosses_any _ _ _ _ _ _ _ _ _ ha hb hc hd hv).mono ?_)
  rintro e w5 ⟨rfl, hb⟩
  have hX5 := below_step hX4 hb
  clear hb
  go_wp2_with fail
  go_ret2
  exact ⟨rfl, below_step hB hX5⟩
theorem rMeet_no (ax ay bx by' cx cy dx dy : Int) (w : World) (hv : ¬ (Vld ax ay ∧ Vld bx by' ∧ Vld cx cy ∧ Vld dx dy)) :
    Calls Try.prog 24 #[.agg #[.int .i64 ax, .int .i64 ay], .agg #[.int .i64 bx, .int .i64 by'], .agg #[.int .i64 cx, .int .i64 cy], .agg #[.int .i64 dx, .int .i64 dy]] w fun e w' => e = .returned (.tuple #[.bool false, .int .i64 1]) ∧ Below w.heap.size w w' := by
  go_enter Try.func24, Try.ntmps24
  go_wp2_with fail
  refine calls_named fun W hW => ?_
  obtain ⟨p1, p2, p3, p4, hB⟩ := box4 hW
  clear hW
  have q1 := cellsL p1
  have q2 := cellsL p2
  have q3 := cellsL p3
  have q4 := cellsL p4
  clear p1 p2 p3 p4
  have hX0 := Below.refl W.heap.size W
  by_cases g0 : Vld ax ay
  · (with_reducible refine (rValid_yes _ _ _ g0).mono ?_)
    rintro e w1 ⟨rfl, hb⟩
    have hX1 := below_step hX0 hb
    clear hb
    by_cases g1 : Vld bx by'
    · go_wp2_with fail
      (with_reducible refine (rValid_yes _ _ _ g1).mono ?_)
      rintro e w2 ⟨rfl, hb⟩
      have hX2 := below_step hX1 hb
      clear hb
      by_cases g2 : Vld cx cy
      · go_wp2_with fail
        (with_reducible refine (rValid_yes _ _ _ g2).mono ?_)
        rintro e w3 ⟨rfl, hb⟩
        have hX3 := below_step hX2 hb
        clear hb
        by_cases g3 : Vld dx dy
        · exact absurd ⟨g0, g1, g2, g3⟩ hv
        · go_wp2_with fail
          (with_reducible refine (rValid_no _ _ _ g3).mono ?_)
          rintro e w4 ⟨rfl, hb⟩
          have hX4 := below_step hX3 hb
          clear hb
          go_wp2_with fail
          go_ret2
          exact ⟨rfl, below_step hB hX4⟩
      · go_wp2_with fail
        (with_reducible refine (rValid_no _ _ _ g2).mono ?_)
        rintro e w3 ⟨rfl, hb⟩
        have hX3 := below_step hX2 hb
        clear hb
        go_wp2_with fail
        go_ret2
        exact ⟨rfl, below_step hB hX3⟩
    · go_wp2_with fail
      (with_reducible refine (rValid_no _ _ _ g1).mono ?_)
      rintro e w2 ⟨rfl, hb⟩
      have hX2 := below_step hX1 hb
      clear hb
      go_wp2_with fail
      go_ret2
      exact ⟨rfl, below_step hB hX2⟩
  · (with_reducible refine (rValid_no _ _ _ g0).mono ?_)
    rintro e w1 ⟨rfl, hb⟩
    have hX1 := below_step hX0 hb
    clear hb
    go_wp2_with fail
    go_ret2
    exact ⟨rfl, below_step hB hX1⟩
set_option maxHeartbeats 1000000 in
theorem rNear_yes (px py ax ay bx by' r : Int) (w : World) (hp : Vld px py) (ha : Vld ax ay) (hb : Vld bx by') (hr : 0 ≤ r ∧ r ≤ 3000000) {v : Bool} (hv : nearB px py ax ay bx by' r = v) :
    Calls Try.prog 25 #[.agg #[.int .i64 px, .int .i64 py], .agg #[.int .i64 ax, .int .i64 ay], .agg #[.int .i64 bx, .int .i64 by'], .int .i64 r] w fun e w' => e = .returned (.tuple #[.bool v, .int .i64 0]) ∧ Below w.heap.size w w' := by
  go_enter Try.func25, Try.ntmps25
  go_wp2_with fail
  refine calls_named fun W hW => ?_
  obtain ⟨p1, p2, p3, hB⟩ := box3 hW
  clear hW
  have q1 := cellsL p1
  have q2 := cellsL p2
  have q3 := cellsL p3
  clear p1 p2 p3
  have hX0 := Below.refl W.heap.size W
  (with_reducible refine (rValid_yes _ _ _ hp).mono ?_)
  rintro e w1 ⟨rfl, hb⟩
  have hX1 := below_step hX0 hb
  clear hb
  go_wp2_with fail
  (with_reducible refine (rValid_yes _ _ _ ha).mono ?_)
  rintro e w2 ⟨rfl, hb⟩
  have hX2 := below_step hX1 hb
  clear hb
  go_wp2_with fail
  (with_reducible refine (rValid_yes _ _ _ hb).mono ?_)
  rintro e w3 ⟨rfl, hb⟩
  have hX3 := below_step hX2 hb
  clear hb
  go_wp2_with fail
  (with_reducible refine (rRange_yes _ _ hr.1 hr.2).mono ?_)
  rintro e w4 ⟨rfl, hb⟩
  have hX4 := below_step hX3 hb
  clear hb
  go_wp2_with fail
  (with_reducible refine (rWithin_any _ _ _ _ _ _ _ _ hp ha hb hr.1 hr.2 hv).mono ?_)
  rintro e w5 ⟨rfl, hb⟩
  have hX5 := below_step hX4 hb
  clear hb
  go_wp2_with fail
  go_ret2
  exact ⟨rfl, below_step hB hX5⟩
theorem rNear_no (px py ax ay bx by' r : Int) (w : World) (hv : ¬ (Vld px py ∧ Vld ax ay ∧ Vld bx by' ∧ 0 ≤ r ∧ r ≤ 3000000)) :
    Calls Try.prog 25 #[.agg #[.int .i64 px, .int .i64 py], .agg #[.int .i64 ax, .int .i64 ay], .agg #[.int .i64 bx, .int .i64 by'], .int .i64 r] w fun e w' => e = .returned (.tuple #[.bool false, .int .i64 1]) ∧ Below w.heap.size w w' := by
  go_enter Try.func25, Try.ntmps25
  go_wp2_with fail
  refine calls_named fun W hW => ?_
  obtain ⟨p1, p2, p3, hB⟩ := box3 hW
  clear hW
  have q1 := cellsL p1
  have q2 := cellsL p2
  have q3 := cellsL p3
  clear p1 p2 p3
  have hX0 := Below.refl W.heap.size W
  by_cases g0 : Vld px py
  · (with_reducible refine (rValid_yes _ _ _ g0).mono ?_)
    rintro e w1 ⟨rfl, hb⟩
    have hX1 := below_step hX0 hb
    clear hb
    by_cases g1 : Vld ax ay
    · go_wp2_with fail
      (with_reducible refine (rValid_yes _ _ _ g1).mono ?_)
      rintro e w2 ⟨rfl, hb⟩
      have hX2 := below_step hX1 hb
      clear hb
      by_cases g2 : Vld bx by'
      · go_wp2_with fail
        (with_reducible refine (rValid_yes _ _ _ g2).mono ?_)
        rintro e w3 ⟨rfl, hb⟩
        have hX3 := below_step hX2 hb
        clear hb
        by_cases g3 : 0 ≤ r ∧ r ≤ 3000000
        · exact absurd ⟨g0, g1, g2, g3⟩ hv
        · go_wp2_with fail
          (with_reducible refine (rRange_no _ _ g3).mono ?_)
          rintro e w4 ⟨rfl, hb⟩
          have hX4 := below_step hX3 hb
          clear hb
          go_wp2_with fail
          go_ret2
          exact ⟨rfl, below_step hB hX4⟩
      · go_wp2_with fail
        (with_reducible refine (rValid_no _ _ _ g2).mono ?_)
        rintro e w3 ⟨rfl, hb⟩
        have hX3 := below_step hX2 hb
        clear hb
        go_wp2_with fail
        go_ret2
        exact ⟨rfl, below_step hB hX3⟩
    · go_wp2_with fail
      (with_reducible refine (rValid_no _ _ _ g1).mono ?_)
      rintro e w2 ⟨rfl, hb⟩
      have hX2 := below_step hX1 hb
      clear hb
      go_wp2_with fail
      go_ret2
      exact ⟨rfl, below_step hB hX2⟩
  · (with_reducible refine (rValid_no _ _ _ g0).mono ?_)
    rintro e w1 ⟨rfl, hb⟩
    have hX1 := below_step hX0 hb
    clear hb
    go_wp2_with fail
    go_ret2
    exact ⟨rfl, below_step hB hX1⟩
set_option maxHeartbeats 1000000 in
theorem rApart_yes (px py ax ay bx by' r : Int) (w : World) (hp : Vld px py) (ha : Vld ax ay) (hb : Vld bx by') (hr : 0 ≤ r ∧ r ≤ 3000000) {v : Bool} (hv : apartB px py ax ay bx by' r = v) :
    Calls Try.prog 28 #[.agg #[.int .i64 px, .int .i64 py], .agg #[.int .i64 ax, .int .i64 ay], .agg #[.int .i64 bx, .int .i64 by'], .int .i64 r] w fun e w' => e = .returned (.tuple #[.bool v, .int .i64 0]) ∧ Below w.heap.size w w' := by
  go_enter Try.func28, Try.ntmps28
  go_wp2_with fail
  refine calls_named fun W hW => ?_
  obtain ⟨p1, p2, p3, hB⟩ := box3 hW
  clear hW
  have q1 := cellsL p1
  have q2 := cellsL p2
  have q3 := cellsL p3
  clear p1 p2 p3
  have hX0 := Below.refl W.heap.size W
  (with_reducible refine (rValid_yes _ _ _ hp).mono ?_)
  rintro e w1 ⟨rfl, hb⟩
  have hX1 := below_step hX0 hb
  clear hb
  go_wp2_with fail
  (with_reducible refine (rValid_yes _ _ _ ha).mono ?_)
  rintro e w2 ⟨rfl, hb⟩
  have hX2 := below_step hX1 hb
  clear hb
  go_wp2_with fail
  (with_reducible refine (rValid_yes _ _ _ hb).mono ?_)
  rintro e w3 ⟨rfl, hb⟩
  have hX3 := below_step hX2 hb
  clear hb
  go_wp2_with fail
  (with_reducible refine (rRange_yes _ _ hr.1 hr.2).mono ?_)
  rintro e w4 ⟨rfl, hb⟩
  have hX4 := below_step hX3 hb
  clear hb
  go_wp2_with fail
  (with_reducible refine (rBeyond_any _ _ _ _ _ _ _ _ hp ha hb hr.1 hr.2 hv).mono ?_)
  rintro e w5 ⟨rfl, hb⟩
  have hX5 := below_step hX4 hb
  clear hb
  go_wp2_with fail
  go_ret2
  exact ⟨rfl, below_step hB hX5⟩
theorem rApart_no (px py ax ay bx by' r : Int) (w : World) (hv : ¬ (Vld px py ∧ Vld ax ay ∧ Vld bx by' ∧ 0 ≤ r ∧ r ≤ 3000000)) :
    Calls Try.prog 28 #[.agg #[.int .i64 px, .int .i64 py], .agg #[.int .i64 ax, .int .i64 ay], .agg #[.int .i64 bx, .int .i64 by'], .int .i64 r] w fun e w' => e = .returned (.tuple #[.bool false, .int .i64 1]) ∧ Below w.heap.size w w' := by
  go_enter Try.func28, Try.ntmps28
  go_wp2_with fail
  refine calls_named fun W hW => ?_
  obtain ⟨p1, p2, p3, hB⟩ := box3 hW
  clear hW
  have q1 := cellsL p1
  have q2 := cellsL p2
  have q3 := cellsL p3
  clear p1 p2 p3
  have hX0 := Below.refl W.heap.size W
  by_cases g0 : Vld px py
  · (with_reducible refine (rValid_yes _ _ _ g0).mono ?_)
    rintro e w1 ⟨rfl, hb⟩
    have hX1 := below_step hX0 hb
    clear hb
    by_cases g1 : Vld ax ay
    · go_wp2_with fail
      (with_reducible refine (rValid_yes _ _ _ g1).mono ?_)
      rintro e w2 ⟨rfl, hb⟩
      have hX2 := below_step hX1 hb
      clear hb
      by_cases g2 : Vld bx by'
      · go_wp2_with fail
        (with_reducible refine (rValid_yes _ _ _ g2).mono ?_)
        rintro e w3 ⟨rfl, hb⟩
        have hX3 := below_step hX2 hb
        clear hb
        by_cases g3 : 0 ≤ r ∧ r ≤ 3000000
        · exact absurd ⟨g0, g1, g2, g3⟩ hv
        · go_wp2_with fail
          (with_reducible refine (rRange_no _ _ g3).mono ?_)
          rintro e w4 ⟨rfl, hb⟩
          have hX4 := below_step hX3 hb
          clear hb
          go_wp2_with fail
          go_ret2
          exact ⟨rfl, below_step hB hX4⟩
      · go_wp2_with fail
        (with_reducible refine (rValid_no _ _ _ g2).mono ?_)
        rintro e w3 ⟨rfl, hb⟩
        have hX3 := below_step hX2 hb
        clear hb
        go_wp2_with fail
        go_ret2
        exact ⟨rfl, below_step hB hX3⟩
    · go_wp2_with fail
      (with_reducible refine (rValid_no _ _ _ g1).mono ?_)
      rintro e w2 ⟨rfl, hb⟩
      have hX2 := below_step hX1 hb
      clear hb
      go_wp2_with fail
      go_ret2
      exact ⟨rfl, below_step hB hX2⟩
  · (with_reducible refine (rValid_no _ _ _ g0).mono ?_)
    rintro e w1 ⟨rfl, hb⟩
    have hX1 := below_step hX0 hb
    clear hb
    go_wp2_with fail
    go_ret2
    exact ⟨rfl, below_step hB hX1⟩
set_option maxHeartbeats 1000000 in
theorem rClose_yes (ax ay bx by' cx cy dx dy r : Int) (w : World) (ha : Vld ax ay) (hb : Vld bx by') (hc : Vld cx cy) (hd : Vld dx dy) (hr : 0 ≤ r ∧ r ≤ 3000000) {v : Bool} (hv : closeB ax ay bx by' cx cy dx dy r = v) :
    Calls Try.prog 26 #[.agg #[.int .i64 ax, .int .i64 ay], .agg #[.int .i64 bx, .int .i64 by'], .agg #[.int .i64 cx, .int .i64 cy], .agg #[.int .i64 dx, .int .i64 dy], .int .i64 r] w fun e w' => e = .returned (.tuple #[.bool v, .int .i64 0]) ∧ Below w.heap.size w w' := by
  go_enter Try.func26, Try.ntmps26
  go_wp2_with fail
  refine calls_named fun W hW => ?_
  obtain ⟨p1, p2, p3, p4, hB⟩ := box4 hW
  clear hW
  have q1 := cellsL p1
  have q2 := cellsL p2
  have q3 := cellsL p3
  have q4 := cellsL p4
  clear p1 p2 p3 p4
  have hX0 := Below.refl W.heap.size W
  (with_reducible refine (rValid_yes _ _ _ ha).mono ?_)
  rintro e w1 ⟨rfl, hb⟩
  have hX1 := below_step hX0 hb
  clear hb
  go_wp2_with fail
  (with_reducible refine (rValid_yes _ _ _ hb).mono ?_)
  rintro e w2 ⟨rfl, hb⟩
  have hX2 := below_step hX1 hb
  clear hb
  go_wp2_with fail
  (with_reducible refine (rValid_yes _ _ _ hc).mono ?_)
  rintro e w3 ⟨rfl, hb⟩
  have hX3 := below_step hX2 hb
  clear hb
  go_wp2_with fail
  (with_reducible refine (rValid_yes _ _ _ hd).mono ?_)
  rintro e w4 ⟨rfl, hb⟩
  have hX4 := below_step hX3 hb
  clear hb
  go_wp2_with fail
  (with_reducible refine (rRange_yes _ _ hr.1 hr.2).mono ?_)
  rintro e w5 ⟨rfl, hb⟩
  have hX5 := below_step hX4 hb
  clear hb
  go_wp2_with fail
  (with_reducible refine (rBeside_any _ _ _ _ _ _ _ _ _ _ ha hb hc hd hr hv).mono ?_)
  rintro e w6 ⟨rfl, hb⟩
  have hX6 := below_step hX5 hb
  clear hb
  go_wp2_with fail
  go_ret2
  exact ⟨rfl, below_step hB hX6⟩
theorem rClose_no (ax ay bx by' cx cy dx dy r : Int) (w : World) (hv : ¬ (Vld ax ay ∧ Vld bx by' ∧ Vld cx cy ∧ Vld dx dy ∧ 0 ≤ r ∧ r ≤ 3000000)) :
    Calls Try.prog 26 #[.agg #[.int .i64 ax, .int .i64 ay], .agg #[.int .i64 bx, .int .i64 by'], .agg #[.int .i64 cx, .int .i64 cy], .agg #[.int .i64 dx, .int .i64 dy], .int .i64 r] w fun e w' => e = .returned (.tuple #[.bool false, .int .i64 1]) ∧ Below w.heap.size w w' := by
  go_enter Try.func26, Try.ntmps26
  go_wp2_with fail
  refine calls_named fun W hW => ?_
  obtain ⟨p1, p2, p3, p4, hB⟩ := box4 hW
  clear hW
  have q1 := cellsL p1
  have q2 := cellsL p2
  have q3 := cellsL p3
  have q4 := cellsL p4
  clear p1 p2 p3 p4
  have hX0 := Below.refl W.heap.size W
  by_cases g0 : Vld ax ay
  · (with_reducible refine (rValid_yes _ _ _ g0).mono ?_)
    rintro e w1 ⟨rfl, hb⟩
    have hX1 := below_step hX0 hb
    clear hb
    by_cases g1 : Vld bx by'
    · go_wp2_with fail
      (with_reducible refine (rValid_yes _ _ _ g1).mono ?_)
      rintro e w2 ⟨rfl, hb⟩
      have hX2 := below_step hX1 hb
      clear hb
      by_cases g2 : Vld cx cy
      · go_wp2_with fail
        (with_reducible refine (rValid_yes _ _ _ g2).mono ?_)
        rintro e w3 ⟨rfl, hb⟩
        have hX3 := below_step hX2 hb
        clear hb
        by_cases g3 : Vld dx dy
        · go_wp2_with fail
          (with_reducible refine (rValid_yes _ _ _ g3).mono ?_)
          rintro e w4 ⟨rfl, hb⟩
          have hX4 := below_step hX3 hb
          clear hb
          by_cases g4 : 0 ≤ r ∧ r ≤ 3000000
          · exact absurd ⟨g0, g1, g2, g3, g4⟩ hv
          · go_wp2_with fail
            (with_reducible refine (rRange_no _ _ g4).mono ?_)
            rintro e w5 ⟨rfl, hb⟩
            have hX5 := below_step hX4 hb
            clear hb
            go_wp2_with fail
            go_ret2
            exact ⟨rfl, below_step hB hX5⟩
        · go_wp2_with fail
          (with_reducible refine (rValid_no _ _ _ g3).mono ?_)
          rintro e w4 ⟨rfl, hb⟩
          have hX4 := below_step hX3 hb
          clear hb
          go_wp2_with fail
          go_ret2
          exact ⟨rfl, below_step hB hX4⟩
      · go_wp2_with fail
        (with_reducible refine (rValid_no _ _ _ g2).mono ?_)
        rintro e w3 ⟨rfl, hb⟩
        have hX3 := below_step hX2 hb
        clear hb
        go_wp2_with fail
        go_ret2
        exact ⟨rfl, below_step hB hX3⟩
    · go_wp2_with fail
      (with_reducible refine (rValid_no _ _ _ g1).mono ?_)
      rintro e w2 ⟨rfl, hb⟩
      have hX2 := below_step hX1 hb
      clear hb
      go_wp2_with fail
      go_ret2
      exact ⟨rfl, below_step hB hX2⟩
  · (with_reducible refine (rValid_no _ _ _ g0).mono ?_)
    rintro e w1 ⟨rfl, hb⟩
    have hX1 := below_step hX0 hb
    clear hb
    go_wp2_with fail
    go_ret2
    exact ⟨rfl, below_step hB hX1⟩
set_option maxHeartbeats 1000000 in
theorem rLies_yes (px py r qx qy s : Int) (w : World) (hp : Vld px py) (hr : 0 ≤ r ∧ r ≤ 3000000) (hq : Vld qx qy) (hs : 0 ≤ s ∧ s ≤ 3000000) {v : Bool} (hv : liesB px py r qx qy s = v) :
    Calls Try.prog 29 #[.agg #[.int .i64 px, .int .i64 py], .int .i64 r, .agg #[.int .i64 qx, .int .i64 qy], .int .i64 s] w fun e w' => e = .returned (.tuple #[.bool v, .int .i64 0]) ∧ Below w.heap.size w w' := by
  go_enter Try.func29, Try.ntmps29
  go_wp2_with fail
  refine calls_named fun W hW => ?_
  obtain ⟨p1, p2, hB⟩ := box2 hW
  clear hW
  have q1 := cellsL p1
  have q2 := cellsL p2
  clear p1 p2
  have hX0 := Below.refl W.heap.size W
  (with_reducible refine (rValid_yes _ _ _ hp).mono ?_)
  rintro e w1 ⟨rfl, hb⟩
  have hX1 := below_step hX0 hb
  clear hb
  go_wp2_with fail
  (with_reducible refine (rRange_yes _ _ hr.1 hr.2).mono ?_)
  rintro e w2 ⟨rfl, hb⟩
  have hX2 := below_step hX1 hb
  clear hb
  go_wp2_with fail
  (with_reducible refine (rValid_yes _ _ _ hq).mono ?_)
  rintro e w3 ⟨rfl, hb⟩
  have hX3 := below_step hX2 hb
  clear hb
  go_wp2_with fail
  (with_reducible refine (rRange_yes _ _ hs.1 hs.2).mono ?_)
  rintro e w4 ⟨rfl, hb⟩
  have hX4 := below_step hX3 hb
  clear hb
  go_wp2_with fail
  (with_reducible refine (rInside_any _ _ _ _ _ _ _ hp hq hr hs hv).mono ?_)
  rintro e w5 ⟨rfl, hb⟩
  have hX5 := below_step hX4 hb
  clear hb
  go_wp2_with fail
  go_ret2
  exact ⟨rfl, below_step hB hX5⟩
theorem rLies_no (px py r qx qy s : Int) (w : World) (hv : ¬ (Vld px py ∧ (0 ≤ r ∧ r ≤ 3000000) ∧ Vld qx qy ∧ 0 ≤ s ∧ s ≤ 3000000)) :
    Calls Try.prog 29 #[.agg #[.int .i64 px, .int .i64 py], .int .i64 r, .agg #[.int .i64 qx, .int .i64 qy], .int .i64 s] w fun e w' => e = .returned (.tuple #[.bool false, .int .i64 1]) ∧ Below w.heap.size w w' := by
  go_enter Try.func29, Try.ntmps29
  go_wp2_with fail
  refine calls_named fun W hW => ?_
  obtain ⟨p1, p2, hB⟩ := box2 hW
  clear hW
  have q1 := cellsL p1
  have q2 := cellsL p2
  clear p1 p2
  have hX0 := Below.refl W.heap.size W
  by_cases g0 : Vld px py
  · (with_reducible refine (rValid_yes _ _ _ g0).mono ?_)
    rintro e w1 ⟨rfl, hb⟩
    have hX1 := below_step hX0 hb
    clear hb
    by_cases g1 : 0 ≤ r ∧ r ≤ 3000000
    · go_wp2_with fail
      (with_reducible refine (rRange_yes _ _ g1.1 g1.2).mono ?_)
      rintro e w2 ⟨rfl, hb⟩
      have hX2 := below_step hX1 hb
      clear hb
      by_cases g2 : Vld qx qy
      · go_wp2_with fail
        (with_reducible refine (rValid_yes _ _ _ g2).mono ?_)
        rintro e w3 ⟨rfl, hb⟩
        have hX3 := below_step hX2 hb
        clear hb
        by_cases g3 : 0 ≤ s ∧ s ≤ 3000000
        · exact absurd ⟨g0, g1, g2, g3⟩ hv
        · go_wp2_with fail
          (with_reducible refine (rRange_no _ _ g3).mono ?_)
          rintro e w4 ⟨rfl, hb⟩
          have hX4 := below_step hX3 hb
          clear hb
          go_wp2_with fail
          go_ret2
          exact ⟨rfl, below_step hB hX4⟩
      · go_wp2_with fail
        (with_reducible refine (rValid_no _ _ _ g2).mono ?_)
        rintro e w3 ⟨rfl, hb⟩
        have hX3 := below_step hX2 hb
        clear hb
        go_wp2_with fail
        go_ret2
        exact ⟨rfl, below_step hB hX3⟩
    · go_wp2_with fail
      (with_reducible refine (rRange_no _ _ g1).mono ?_)
      rintro e w2 ⟨rfl, hb⟩
      have hX2 := below_step hX1 hb
      clear hb
      go_wp2_with fail
      go_ret2
      exact ⟨rfl, below_step hB hX2⟩
  · (with_reducible refine (rValid_no _ _ _ g0).mono ?_)
    rintro e w1 ⟨rfl, hb⟩
    have hX1 := below_step hX0 hb
    clear hb
    go_wp2_with fail
    go_ret2
    exact ⟨rfl, below_step hB hX1⟩
set_option maxHeartbeats 1000000 in
theorem rTurn_yes (ax ay bx by' cx cy : Int) (w : World) (ha : Vld ax ay) (hb : Vld bx by') (hc : Vld cx cy) {s : Int} (hs : (crs ax ay bx by' cx cy).sign = s) :
    Calls Try.prog 22 #[.agg #[.int .i64 ax, .int .i64 ay], .agg #[.int .i64 bx, .int .i64 by'], .agg #[.int .i64 cx, .int .i64 cy]] w fun e w' => e = .returned (.tuple #[.int .i64 s, .int .i64 0]) ∧ Below w.heap.size w w' := by
  obtain ⟨⟨m1, m2⟩, m3, m4⟩ := crs_bd ha hb hc
  have HA := Lib.hid ha
  have HB := Lib.hid hb
  have HC := Lib.hid hc
  obtain ⟨a1, a2, a3, a4⟩ := ha
  obtain ⟨b1, b2, b3, b4⟩ := hb
  obtain ⟨c1, c2, c3, c4⟩ := hc
  unfold crs at hs
  go_enter Try.func22, Try.ntmps22
  go_wp2_with fail
  refine calls_named fun W hW => ?_
  obtain ⟨p1, p2, p3, hB⟩ := box3 hW
  clear hW
  have q1 := cellsL p1
  have P1 := Lib.hid p1
  have q2 := cellsL p2
  have P2 := Lib.hid p2
  have q3 := cellsL p3
  have P3 := Lib.hid p3
  clear p1 p2 p3
  have hX0 := Below.refl W.heap.size W
  (with_reducible refine (rValid_yes _ _ _ HA.out).mono ?_)
  rintro e w1 ⟨rfl, hb⟩
  have hX1 := below_step hX0 hb
  clear hb
  go_wp2_with fail
  (with_reducible refine (rValid_yes _ _ _ HB.out).mono ?_)
  rintro e w2 ⟨rfl, hb⟩
  have hX2 := below_step hX1 hb
  clear hb
  go_wp2_with fail
  (with_reducible refine (rValid_yes _ _ _ HC.out).mono ?_)
  rintro e w3 ⟨rfl, hb⟩
  have hX3 := below_step hX2 hb
  clear hb
  go_wp2_with fail
  replace q1 := cellsR (block_later hX3 P1.out)
  replace q2 := cellsR (block_later hX3 P2.out)
  replace q3 := cellsR (block_later hX3 P3.out)
  (refine wp_region_quiet_below (by kernel_rfl) (by kernel_rfl) ?_; (repeat (refine wpQuiet_step (fun K hK => ?_); replace hK := Lib.hid hK; go_simp; first | (refine hK.out _ ?_; clear hK K) | (apply Exists.intro; refine ⟨fun _ => ?_, hK.out _ ?_⟩; (first | (go_at_call 44; exact Calls.regrown_of (rMinus_any _ _ _ _ _ (by omega) (by omega) (by omega) (by omega))) | (go_at_call 43; exact Calls.regrown_of (rCross_any _ _ _ _ _ (by omega) (by omega) (by omega) (by omega) (by omega) (by omega))) | (go_at_call 42; exact Calls.regrown_of (rSign_any _ _ hs))); clear hK K))); refine wpQuiet_nil ?_)
  intro W5 hW5
  have hB5 := below_step hX3 (regrown_below hW5)
  clear hW5
  go_wp2_with fail
  go_ret2
  exact ⟨rfl, below_step hB hB5⟩
theorem rTurn_no (ax ay bx by' cx cy : Int) (w : World) (hv : ¬ (Vld ax ay ∧ Vld bx by' ∧ Vld cx cy)) :
    Calls Try.prog 22 #[.agg #[.int .i64 ax, .int .i64 ay], .agg #[.int .i64 bx, .int .i64 by'], .agg #[.int .i64 cx, .int .i64 cy]] w fun e w' => e = .returned (.tuple #[.int .i64 0, .int .i64 1]) ∧ Below w.heap.size w w' := by
  go_enter Try.func22, Try.ntmps22
  go_wp2_with fail
  refine calls_named fun W hW => ?_
  obtain ⟨p1, p2, p3, hB⟩ := box3 hW
  clear hW
  have q1 := cellsL p1
  have q2 := cellsL p2
  have q3 := cellsL p3
  clear p1 p2 p3
  have hX0 := Below.refl W.heap.size W
  by_cases g0 : Vld ax ay
  · (with_reducible refine (rValid_yes _ _ _ g0).mono ?_)
    rintro e w1 ⟨rfl, hb⟩
    have hX1 := below_step hX0 hb
    clear hb
    by_cases g1 : Vld bx by'
    · go_wp2_with fail
      (with_reducible refine (rValid_yes _ _ _ g1).mono ?_)
      rintro e w2 ⟨rfl, hb⟩
      have hX2 := below_step hX1 hb
      clear hb
      by_cases g2 : Vld cx cy
      · exact absurd ⟨g0, g1, g2⟩ hv
      · go_wp2_with fail
        (with_reducible refine (rValid_no _ _ _ g2).mono ?_)
        rintro e w3 ⟨rfl, hb⟩
        have hX3 := below_step hX2 hb
        clear hb
        go_wp2_with fail
        go_ret2
        exact ⟨rfl, below_step hB hX3⟩
    · go_wp2_with fail
      (with_reducible refine (rValid_no _ _ _ g1).mono ?_)
      rintro e w2 ⟨rfl, hb⟩
      have hX2 := below_step hX1 hb
      clear hb
      go_wp2_with fail
      go_ret2
      exact ⟨rfl, below_step hB hX2⟩
  · (with_reducible refine (rValid_no _ _ _ g0).mono ?_)
    rintro e w1 ⟨rfl, hb⟩
    have hX1 := below_step hX0 hb
    clear hb
    go_wp2_with fail
    go_ret2
    exact ⟨rfl, below_step hB hX1⟩
theorem rDist_no (ax ay bx by' : Int) (w : World) (hv : ¬ (Vld ax ay ∧ Vld bx by')) :
    Calls Try.prog 30 #[.agg #[.int .i64 ax, .int .i64 ay], .agg #[.int .i64 bx, .int .i64 by']] w fun e w' => e = .returned (.tuple #[.agg #[.int .i64 0, .int .i64 0], .int .i64 1]) ∧ Below w.heap.size w w' := by
  go_enter Try.func30, Try.ntmps30
  go_wp2_with fail
  refine calls_named fun W hW => ?_
  obtain ⟨p1, p2, p3, hB⟩ := box3 hW
  clear hW
  have q2 := cellsL p2
  by_cases g0 : Vld ax ay
  · have g1 : ¬ Vld bx by' := fun h => hv ⟨g0, h⟩
    (with_reducible refine (rValid_yes _ _ _ g0).mono ?_)
    rintro e w1 ⟨rfl, hb1⟩
    go_wp2_with fail
    (with_reducible refine (rValid_no _ _ _ g1).mono ?_)
    rintro e w2 ⟨rfl, hb2⟩
    have hB2 := below_step hb1 hb2
    have P3 := Lib.hid (block_later hB2 p3)
    have f3 := free_block P3.out
    have c3 := cell_block P3.out
    clear p1 p2 p3 q2
    go_wp2_with fail
    have c9 := cell_block (block_set (i := 1) (block_set (i := 0) P3.out (.int .i64 0)) (.int .i64 0))
    exact bodyPost_ret (v := .tuple #[.agg #[.int .i64 0, .int .i64 0], .int .i64 1]) (by simp [results, Try.results30, go_sem, c9]) rfl ⟨rfl, ((below_step hB hB2).setCell (by dsimp only; omega) _).setCell (by dsimp only; omega) _⟩
  · (with_reducible refine (rValid_no _ _ _ g0).mono ?_)
    rintro e w1 ⟨rfl, hb1⟩
    have P3 := Lib.hid (block_later hb1 p3)
    have f3 := free_block P3.out
    have c3 := cell_block P3.out
    clear p1 p2 p3 q2
    go_wp2_with fail
    have c9 := cell_block (block_set (i := 1) (block_set (i := 0) P3.out (.int .i64 0)) (.int .i64 0))
    exact bodyPost_ret (v := .tuple #[.agg #[.int .i64 0, .int .i64 0], .int .i64 1]) (by simp [results, Try.results30, go_sem, c9]) rfl ⟨rfl, ((below_step hB hb1).setCell (by dsimp only; omega) _).setCell (by dsimp only; omega) _⟩
set_option maxHeartbeats 1000000 in
theorem rDist_yes (ax ay bx by' : Int) (w : World) (ha : Vld ax ay) (hb : Vld bx by') {l h : Int} (hl : isq (sqd ax ay bx by') = l) (hh : dHi (sqd ax ay bx by') = h) :
    Calls Try.prog 30 #[.agg #[.int .i64 ax, .int .i64 ay], .agg #[.int .i64 bx, .int .i64 by']] w fun e w' => e = .returned (.tuple #[.agg #[.int .i64 l, .int .i64 h], .int .i64 0]) ∧ Below w.heap.size w w' := by
  have n0 : 0 ≤ sqd ax ay bx by' ∧ sqd ax ay bx by' ≤ 8000000000000 := by obtain ⟨⟨_, _⟩, _, _⟩ := sqd_bd ha hb; unfold sqd; omega
  have hsq := fun w => rSquare_any ax ay bx by' w ha hb
  have HSQ := Lib.hid hsq
  clear hsq
  have z1 := isq_nn (sqd ax ay bx by')
  have z2 := isq_le (n := sqd ax ay bx by') n0.1
  have z3 : isq (sqd ax ay bx by') ≤ 3000000 := by
    rcases Int.lt_or_le 3000000 (isq (sqd ax ay bx by')) with h' | h'
    · have := Int.mul_le_mul (Int.le_of_lt h') (Int.le_of_lt h') (by omega) (by omega)
      omega
    · exact h'
  have hrt := fun w => rRoot_any (sqd ax ay bx by') w n0.1 (by omega)
  have HRT := Lib.hid hrt
  clear hrt
  rw [dHi] at hh
  obtain ⟨n0, n1⟩ := n0
  generalize isq (sqd ax ay bx by') = r at *
  generalize sqd ax ay bx by' = n at *
  subst hl
  have z4 := sq_nn r
  have z6 : r * r ≤ 8000000000000 := by omega
  have HH := Lib.hid hh
  clear hh
  go_enter Try.func30, Try.ntmps30
  go_wp2_with fail
  refine calls_named fun W hW => ?_
  obtain ⟨p1, p2, p3, hB⟩ := box3 hW
  clear hW
  have q1 := cellsL p1
  have q2 := cellsL p2
  have P3 := Lib.hid p3
  clear p1 p2 p3
  (with_reducible refine (rValid_yes _ _ _ ha).mono ?_)
  rintro e w1 ⟨rfl, hb1⟩
  go_wp2_with fail
  (with_reducible refine (rValid_yes _ _ _ hb).mono ?_)
  rintro e w2 ⟨rfl, hb2⟩
  have hB2 := below_step hb1 hb2
  clear hb1 hb2
  go_wp2_with fail
  (with_reducible refine (HSQ.out _).mono ?_)
  rintro e w3 ⟨rfl, hb3⟩
  have hB3 := below_step hB2 hb3
  clear hB2 hb3
  go_wp2_with fail
  (with_reducible refine (HRT.out _).mono ?_)
  rintro e w4 ⟨rfl, rfl⟩
  go_wp2_with fail
  (with_reducible refine (HRT.out _).mono ?_)
  rintro e w4 ⟨rfl, rfl⟩
  have p3 := block_later hB3 P3.out
  have f3 := free_block p3
  have c3 := cell_block p3
  have BB := below_step hB hB3
  have hsz := lt_block p3
  have hne : ¬ w3.heap.size = w.heap.size + 2 := by omega
  have hne2 : ¬ w.heap.size + 2 = w3.heap.size := by omega
  have HP3 := Lib.hid p3
  clear p3 q1 q2 hB3 P3
  by_cases t : r * r = n
  · have e2 := HH.out
    rw [if_pos t] at e2
    subst e2
    have t' : ¬ r * r < n := by omega
    clear t HH
    go_wp2_with fail
    have c9 := fun o => cell_block (block_alloc (o' := o) (block_set (i := 1) (block_set (i := 0) HP3.out (.int .i64 r)) (.int .i64 r)))
    exact bodyPost_ret (v := .tuple #[.agg #[.int .i64 r, .int .i64 r], .int .i64 0]) (by simp [results, Try.results30, go_sem, c9]) rfl ⟨rfl, (((BB.setCell (by dsimp only; omega) _).setCell (by dsimp only; omega) _).alloc (by simp [World.setCell]; omega) _)⟩
  · have e2 := HH.out
    rw [if_neg t] at e2
    subst e2
    have t' : r * r < n := by omega
    clear t HH
    go_wp2_with fail
    have c9 := fun o => cell_block (block_alloc (o' := o) (block_set (i := 1) (block_set (i := 0) HP3.out (.int .i64 r)) (.int .i64 (r + 1))))
    exact bodyPost_ret (v := .tuple #[.agg #[.int .i64 r, .int .i64 (r + 1)], .int .i64 0]) (by simp [results, Try.results30, go_sem, c9]) rfl ⟨rfl, (((BB.setCell (by dsimp only; omega) _).setCell (by dsimp only; omega) _).alloc (by simp [World.setCell]; omega) _)⟩
end Go.Proofs.Ytkpmiehggmeejaa
