/- The walks of package plane's exported functions Turn, On, Meet, Near, Apart, Lies. -/
import Derived.Test.YtkpmiehggmeejaaPlaneE
namespace Go.Proofs.Ytkpmiehggmeejaa
open Go.RowKit
theorem Turn_yes (ax ay bx by' cx cy : Int) (w : World) (ha : Vld ax ay) (hb : Vld bx by') (hc : Vld cx cy) {s : Int} (hs : (crs ax ay bx by' cx cy).sign = s) :
    Calls Try.prog 12 #[.agg #[.int .i64 ax, .int .i64 ay], .agg #[.int .i64 bx, .int .i64 by'], .agg #[.int .i64 cx, .int .i64 cy]] w fun e w' => e = .returned (.tuple #[.int .i64 s, .int .i64 0]) ∧ Below w.heap.size w w' := by
  go_enter Try.func12, Try.ntmps12
  go_wp2_with fail
  refine calls_named fun W hW => ?_
  obtain ⟨p1, p2, p3, p4, hB⟩ := box4 hW
  clear hW
  (with_reducible refine (valids3_yes _ _ _ _ _ _ _ _ _ p4 ⟨ha, hb, hc⟩).mono ?_)
  rintro e w1 ⟨rfl, hb1⟩
  have hB1 := below_step hB hb1
  have q1 := cellsL p1
  have q2 := cellsL p2
  have q3 := cellsL p3
  have q4 := cellsL p4
  clear p1 p2 p3 p4
  go_wp2_with fail
  (with_reducible refine (turn_any _ _ _ _ _ _ _ ha hb hc hs).mono ?_)
  rintro e w2 ⟨rfl, hb2⟩
  have hB2 := below_step hB1 hb2
  go_wp2_with fail
  go_ret2
  exact ⟨rfl, hB2⟩
theorem Turn_no (ax ay bx by' cx cy : Int) (w : World) (hv : ¬ (Vld ax ay ∧ Vld bx by' ∧ Vld cx cy)) :
    Calls Try.prog 12 #[.agg #[.int .i64 ax, .int .i64 ay], .agg #[.int .i64 bx, .int .i64 by'], .agg #[.int .i64 cx, .int .i64 cy]] w fun e w' => e = .returned (.tuple #[.int .i64 0, .int .i64 1]) ∧ Below w.heap.size w w' := by
  by_cases hv' : Vld ax ay ∧ Vld bx by' ∧ Vld cx cy
  · exact absurd hv' hv
  · go_enter Try.func12, Try.ntmps12
    go_wp2_with fail
    refine calls_named fun W hW => ?_
    obtain ⟨p1, p2, p3, p4, hB⟩ := box4 hW
    clear hW
    (with_reducible refine (valids3_no _ _ _ _ _ _ _ _ _ p4 hv').mono ?_)
    rintro e w1 ⟨rfl, hb1⟩
    have hB1 := below_step hB hb1
    clear p1 p2 p3 p4
    go_wp2_with fail
    go_ret2
    exact ⟨rfl, hB1⟩
theorem On_yes (px py ax ay bx by' : Int) (w : World) (hp : Vld px py) (ha : Vld ax ay) (hb : Vld bx by') {v : Bool} (hv : onB px py ax ay bx by' = v) :
    Calls Try.prog 15 #[.agg #[.int .i64 px, .int .i64 py], .agg #[.int .i64 ax, .int .i64 ay], .agg #[.int .i64 bx, .int .i64 by']] w fun e w' => e = .returned (.tuple #[.bool v, .int .i64 0]) ∧ Below w.heap.size w w' := by
  go_enter Try.func15, Try.ntmps15
  go_wp2_with fail
  refine calls_named fun W hW => ?_
  obtain ⟨p1, p2, p3, p4, hB⟩ := box4 hW
  clear hW
  (with_reducible refine (valids3_yes _ _ _ _ _ _ _ _ _ p4 ⟨hp, ha, hb⟩).mono ?_)
  rintro e w1 ⟨rfl, hb1⟩
  have hB1 := below_step hB hb1
  have q1 := cellsL p1
  have q2 := cellsL p2
  have q3 := cellsL p3
  have q4 := cellsL p4
  clear p1 p2 p3 p4
  go_wp2_with fail
  (with_reducible refine (on_any _ _ _ _ _ _ _ hp ha hb hv).mono ?_)
  rintro e w2 ⟨rfl, hb2⟩
  have hB2 := below_step hB1 hb2
  go_wp2_with fail
  go_ret2
  exact ⟨rfl, hB2⟩
theorem On_no (px py ax ay bx by' : Int) (w : World) (hv : ¬ (Vld px py ∧ Vld ax ay ∧ Vld bx by')) :
    Calls Try.prog 15 #[.agg #[.int .i64 px, .int .i64 py], .agg #[.int .i64 ax, .int .i64 ay], .agg #[.int .i64 bx, .int .i64 by']] w fun e w' => e = .returned (.tuple #[.bool false, .int .i64 1]) ∧ Below w.heap.size w w' := by
  by_cases hv' : Vld px py ∧ Vld ax ay ∧ Vld bx by'
  · exact absurd hv' hv
  · go_enter Try.func15, Try.ntmps15
    go_wp2_with fail
    refine calls_named fun W hW => ?_
    obtain ⟨p1, p2, p3, p4, hB⟩ := box4 hW
    clear hW
    (with_reducible refine (valids3_no _ _ _ _ _ _ _ _ _ p4 hv').mono ?_)
    rintro e w1 ⟨rfl, hb1⟩
    have hB1 := below_step hB hb1
    clear p1 p2 p3 p4
    go_wp2_with fail
    go_ret2
    exact ⟨rfl, hB1⟩
theorem Meet_yes (ax ay bx by' cx cy dx dy : Int) (w : World) (ha : Vld ax ay) (hb : Vld bx by') (hc : Vld cx cy) (hd : Vld dx dy) {v : Bool} (hv : meetB ax ay bx by' cx cy dx dy = v) :
    Calls Try.prog 13 #[.agg #[.int .i64 ax, .int .i64 ay], .agg #[.int .i64 bx, .int .i64 by'], .agg #[.int .i64 cx, .int .i64 cy], .agg #[.int .i64 dx, .int .i64 dy]] w fun e w' => e = .returned (.tuple #[.bool v, .int .i64 0]) ∧ Below w.heap.size w w' := by
  go_enter Try.func13, Try.ntmps13
  go_wp2_with fail
  refine calls_named fun W hW => ?_
  obtain ⟨p1, p2, p3, p4, p5, hB⟩ := box5 hW
  clear hW
  (with_reducible refine (valids4_yes _ _ _ _ _ _ _ _ _ _ _ p5 ⟨ha, hb, hc, hd⟩).mono ?_)
  rintro e w1 ⟨rfl, hb1⟩
  have hB1 := below_step hB hb1
  have q1 := cellsL p1
  have q2 := cellsL p2
  have q3 := cellsL p3
  have q4 := cellsL p4
  have q5 := cellsL p5
  clear p1 p2 p3 p4 p5
  go_wp2_with fail
  (with_reducible refine (meet_any _ _ _ _ _ _ _ _ _ ha hb hc hd hv).mono ?_)
  rintro e w2 ⟨rfl, hb2⟩
  have hB2 := below_step hB1 hb2
  go_wp2_with fail
  go_ret2
  exact ⟨rfl, hB2⟩
theorem Meet_no (ax ay bx by' cx cy dx dy : Int) (w : World) (hv : ¬ (Vld ax ay ∧ Vld bx by' ∧ Vld cx cy ∧ Vld dx dy)) :
    Calls Try.prog 13 #[.agg #[.int .i64 ax, .int .i64 ay], .agg #[.int .i64 bx, .int .i64 by'], .agg #[.int .i64 cx, .int .i64 cy], .agg #[.int .i64 dx, .int .i64 dy]] w fun e w' => e = .returned (.tuple #[.bool false, .int .i64 1]) ∧ Below w.heap.size w w' := by
  by_cases hv' : Vld ax ay ∧ Vld bx by' ∧ Vld cx cy ∧ Vld dx dy
  · exact absurd hv' hv
  · go_enter Try.func13, Try.ntmps13
    go_wp2_with fail
    refine calls_named fun W hW => ?_
    obtain ⟨p1, p2, p3, p4, p5, hB⟩ := box5 hW
    clear hW
    (with_reducible refine (valids4_no _ _ _ _ _ _ _ _ _ _ _ p5 hv').mono ?_)
    rintro e w1 ⟨rfl, hb1⟩
    have hB1 := below_step hB hb1
    clear p1 p2 p3 p4 p5
    go_wp2_with fail
    go_ret2
    exact ⟨rfl, hB1⟩
theorem Near_yes (px py ax ay bx by' r : Int) (w : World) (hp : Vld px py) (ha : Vld ax ay) (hb : Vld bx by') (hr : 0 ≤ r ∧ r ≤ 3000000) {v : Bool} (hv : nearB px py ax ay bx by' r = v) :
    Calls Try.prog 18 #[.agg #[.int .i64 px, .int .i64 py], .agg #[.int .i64 ax, .int .i64 ay], .agg #[.int .i64 bx, .int .i64 by'], .int .i64 r] w fun e w' => e = .returned (.tuple #[.bool v, .int .i64 0]) ∧ Below w.heap.size w w' := by
  go_enter Try.func18, Try.ntmps18
  go_wp2_with fail
  refine calls_named fun W hW => ?_
  obtain ⟨p1, p2, p3, p4, hB⟩ := box4 hW
  clear hW
  (with_reducible refine (valids3_yes _ _ _ _ _ _ _ _ _ p4 ⟨hp, ha, hb⟩).mono ?_)
  rintro e w1 ⟨rfl, hb1⟩
  have hB1 := below_step hB hb1
  have q1 := cellsL p1
  have q2 := cellsL p2
  have q3 := cellsL p3
  have q4 := cellsL p4
  clear p1 p2 p3 p4
  go_wp2_with fail
  (with_reducible refine (dist_yes _ _ hr.1 hr.2).mono ?_)
  rintro e w2 ⟨rfl, hb2⟩
  have hB2 := below_step hB1 hb2
  have hW2 := below_step hb1 hb2
  go_wp2_with fail
  (with_reducible refine (near_any _ _ _ _ _ _ _ _ hp ha hb hr.1 hr.2 hv).mono ?_)
  rintro e w3 ⟨rfl, hb3⟩
  have hB3 := below_step hB2 hb3
  go_wp2_with fail
  go_ret2
  exact ⟨rfl, hB3⟩
theorem Near_no (px py ax ay bx by' r : Int) (w : World) (hv : ¬ (Vld px py ∧ Vld ax ay ∧ Vld bx by' ∧ 0 ≤ r ∧ r ≤ 3000000)) :
    Calls Try.prog 18 #[.agg #[.int .i64 px, .int .i64 py], .agg #[.int .i64 ax, .int .i64 ay], .agg #[.int .i64 bx, .int .i64 by'], .int .i64 r] w fun e w' => e = .returned (.tuple #[.bool false, .int .i64 1]) ∧ Below w.heap.size w w' := by
  by_cases hv' : Vld px py ∧ Vld ax ay ∧ Vld bx by'
  · have hr : ¬ (0 ≤ r ∧ r ≤ 3000000) := fun h => hv (by obtain ⟨g0, g1, g2⟩ := hv'; exact ⟨g0, g1, g2, h⟩)
    go_enter Try.func18, Try.ntmps18
    go_wp2_with fail
    refine calls_named fun W hW => ?_
    obtain ⟨p1, p2, p3, p4, hB⟩ := box4 hW
    clear hW
    (with_reducible refine (valids3_yes _ _ _ _ _ _ _ _ _ p4 hv').mono ?_)
    rintro e w1 ⟨rfl, hb1⟩
    have hB1 := below_step hB hb1
    clear p1 p2 p3 p4
    go_wp2_with fail
    (with_reducible refine (dist_no _ _ hr).mono ?_)
    rintro e w2 ⟨rfl, hb2⟩
    have hB2 := below_step hB1 hb2
    go_wp2_with fail
    go_ret2
    exact ⟨rfl, hB2⟩
  · go_enter Try.func18, Try.ntmps18
    go_wp2_with fail
    refine calls_named fun W hW => ?_
    obtain ⟨p1, p2, p3, p4, hB⟩ := box4 hW
    clear hW
    (with_reducible refine (valids3_no _ _ _ _ _ _ _ _ _ p4 hv').mono ?_)
    rintro e w1 ⟨rfl, hb1⟩
    have hB1 := below_step hB hb1
    clear p1 p2 p3 p4
    go_wp2_with fail
    go_ret2
    exact ⟨rfl, hB1⟩
theorem Apart_yes (px py ax ay bx by' r : Int) (w : World) (hp : Vld px py) (ha : Vld ax ay) (hb : Vld bx by') (hr : 0 ≤ r ∧ r ≤ 3000000) {v : Bool} (hv : apartB px py ax ay bx by' r = v) :
    Calls Try.prog 27 #[.agg #[.int .i64 px, .int .i64 py], .agg #[.int .i64 ax, .int .i64 ay], .agg #[.int .i64 bx, .int .i64 by'], .int .i64 r] w fun e w' => e = .returned (.tuple #[.bool v, .int .i64 0]) ∧ Below w.heap.size w w' := by
  go_enter Try.func27, Try.ntmps27
  go_wp2_with fail
  refine calls_named fun W hW => ?_
  obtain ⟨p1, p2, p3, p4, hB⟩ := box4 hW
  clear hW
  (with_reducible refine (valids3_yes _ _ _ _ _ _ _ _ _ p4 ⟨hp, ha, hb⟩).mono ?_)
  rintro e w1 ⟨rfl, hb1⟩
  have hB1 := below_step hB hb1
  have q1 := cellsL p1
  have q2 := cellsL p2
  have q3 := cellsL p3
  have q4 := cellsL p4
  clear p1 p2 p3 p4
  go_wp2_with fail
  (with_reducible refine (dist_yes _ _ hr.1 hr.2).mono ?_)
  rintro e w2 ⟨rfl, hb2⟩
  have hB2 := below_step hB1 hb2
  have hW2 := below_step hb1 hb2
  go_wp2_with fail
  (with_reducible refine (square_any _ _ _ _ _ _ _ hp ha hb rfl rfl rfl).mono ?_)
  rintro e w3 ⟨rfl, hb3⟩
  have hB3 := below_step hB2 hb3
  rw [apartB] at hv
  obtain ⟨⟨n1, n2⟩, ⟨k1, k2⟩, d1, d2⟩ := sq_bds hp ha hb
  obtain ⟨r1, r2⟩ := mul_bd (a := r) (b := r) (A := 3000000) (B := 3000000) (by omega) (by omega) (by omega) (by omega)
  have r3 := sq_nn r
  have HV := Lib.hid hv
  clear hv
  generalize sqNum px py ax ay bx by' = n at *
  generalize sqFac px py ax ay bx by' = k at *
  generalize sqDen px py ax ay bx by' = d at *
  go_wp2_with fail
  (with_reducible refine (most_any _ _ _ _ _ (by omega) (by omega) (by omega) (by omega) (by omega) (by omega) (by omega) (by omega) HV.out).mono ?_)
  rintro e w4 ⟨rfl, rfl⟩
  go_wp2_with fail
  go_ret2
  exact ⟨rfl, hB3⟩
theorem Apart_no (px py ax ay bx by' r : Int) (w : World) (hv : ¬ (Vld px py ∧ Vld ax ay ∧ Vld bx by' ∧ 0 ≤ r ∧ r ≤ 3000000)) :
    Calls Try.prog 27 #[.agg #[.int .i64 px, .int .i64 py], .agg #[.int .i64 ax, .int .i64 ay], .agg #[.int .i64 bx, .int .i64 by'], .int .i64 r] w fun e w' => e = .returned (.tuple #[.bool false, .int .i64 1]) ∧ Below w.heap.size w w' := by
  by_cases hv' : Vld px py ∧ Vld ax ay ∧ Vld bx by'
  · have hr : ¬ (0 ≤ r ∧ r ≤ 3000000) := fun h => hv (by obtain ⟨g0, g1, g2⟩ := hv'; exact ⟨g0, g1, g2, h⟩)
    go_enter Try.func27, Try.ntmps27
    go_wp2_with fail
    refine calls_named fun W hW => ?_
    obtain ⟨p1, p2, p3, p4, hB⟩ := box4 hW
    clear hW
    (with_reducible refine (valids3_yes _ _ _ _ _ _ _ _ _ p4 hv').mono ?_)
    rintro e w1 ⟨rfl, hb1⟩
    have hB1 := below_step hB hb1
    clear p1 p2 p3 p4
    go_wp2_with fail
    (with_reducible refine (dist_no _ _ hr).mono ?_)
    rintro e w2 ⟨rfl, hb2⟩
    have hB2 := below_step hB1 hb2
    go_wp2_with fail
    go_ret2
    exact ⟨rfl, hB2⟩
  · go_enter Try.func27, Try.ntmps27
    go_wp2_with fail
    refine calls_named fun W hW => ?_
    obtain ⟨p1, p2, p3, p4, hB⟩ := box4 hW
    clear hW
    (with_reducible refine (valids3_no _ _ _ _ _ _ _ _ _ p4 hv').mono ?_)
    rintro e w1 ⟨rfl, hb1⟩
    have hB1 := below_step hB hb1
    clear p1 p2 p3 p4
    go_wp2_with fail
    go_ret2
    exact ⟨rfl, hB1⟩
end Go.Proofs.Ytkpmiehggmeejaa
