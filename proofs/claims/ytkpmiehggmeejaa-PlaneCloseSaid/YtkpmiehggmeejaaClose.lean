/- The statement PlaneClose of chapter 1: for any places and distances the law's function returns true and leaves its arguments as they were. No condition. -/
import Derived.Test.YtkpmiehggmeejaaPlaneHead
import Derived.Test.YtkpmiehggmeejaaPlaneMeetMath
import Derived.Test.YtkpmiehggmeejaaFrame
namespace Go.Proofs.Ytkpmiehggmeejaa
open Go.ChangeShapes Go.WideShapes Go.ChangeAt Go.RowKit
set_option linter.unusedVariables false
set_option maxRecDepth 100000 in
set_option maxHeartbeats 8000000 in
theorem planeClose_walk (ax ay bx by' cx cy dx dy r more px py qx qy : Int) (w : World) :
    Calls Try.prog 7 #[.agg #[.int .i64 ax, .int .i64 ay], .agg #[.int .i64 bx, .int .i64 by'], .agg #[.int .i64 cx, .int .i64 cy], .agg #[.int .i64 dx, .int .i64 dy], .int .i64 r, .int .i64 more, .agg #[.int .i64 px, .int .i64 py], .agg #[.int .i64 qx, .int .i64 qy]] w fun e w' => e = .returned (.bool true) ∧ Below w.heap.size w w' := by
  go_enter Try.func7, Try.ntmps7
  go_wp2_with fail
  refine calls_named fun W hW => ?_
  obtain ⟨p1, p2, p3, p4, p5, p6, hB⟩ := box6 hW
  clear hW
  have q1 := cellsL p1
  have q2 := cellsL p2
  have q3 := cellsL p3
  have q4 := cellsL p4
  have q5 := cellsL p5
  have q6 := cellsL p6
  clear p1 p2 p3 p4 p5 p6
  have hX0 := Below.refl W.heap.size W
  (with_reducible refine (head_any _).mono ?_)
  rintro e w1 ⟨rfl, hb⟩
  have hX1 := below_step hX0 hb
  clear hb
  by_cases hv : Vld ax ay ∧ Vld bx by' ∧ Vld cx cy ∧ Vld dx dy ∧ 0 ≤ r ∧ r ≤ 3000000
  · obtain ⟨ha, hb, hc, hd, hr⟩ := hv
    obtain ⟨x, ex⟩ : ∃ x, closeB ax ay bx by' cx cy dx dy r = x := ⟨_, rfl⟩
    obtain ⟨wm, ew⟩ : ∃ x, closeB ax ay bx by' cx cy dx dy more = x := ⟨_, rfl⟩
    have r3 : r ≤ more → x = true → wm = true := fun h1 h2 => by rw [← ew]; exact close_mono hr.1 h1 (ex.trans h2)
    have r5 : onB px py ax ay bx by' = true → onB qx qy cx cy dx dy = true → dHi (sqd px py qx qy) ≤ r → x = true := fun h1 h2 h3 => by rw [← ex]; simp only [onB, decide_eq_true_eq] at h1 h2; obtain ⟨u1, u2, _, _⟩ := dHi_ge (sqd_nn px py qx qy); exact close_of_on h1 h2 (Int.le_trans u1 (sq_le_sq u2 h3))
    have l1 := fun w => Close_yes ax ay bx by' cx cy dx dy r w ha hb hc hd hr ex
    have l2 := fun w => Close_yes bx by' ax ay cx cy dx dy r w hb ha hc hd hr (v := x) (by rw [close_rev, ex])
    have l3 := fun w => Close_yes cx cy dx dy bx by' ax ay r w hc hd hb ha hr (v := x) (by rw [close_swap, close_rev, ex])
    have l4 := fun w hm => Close_yes ax ay bx by' cx cy dx dy more w ha hb hc hd hm ew
    have L1 := Lib.hid l1
    have L2 := Lib.hid l2
    have L3 := Lib.hid l3
    have L4 := Lib.hid l4
    have R3 := Lib.hid r3
    have R5 := Lib.hid r5
    clear l1 l2 l3 l4 r3 r5
    clear ex ew
    go_wp2_with fail
    (with_reducible refine (L1.out _).mono ?_)
    rintro e w2 ⟨rfl, hb⟩
    have hX2 := below_step hX1 hb
    clear hb
    go_wp2_with fail
    (with_reducible refine (L2.out _).mono ?_)
    rintro e w3 ⟨rfl, hb⟩
    have hX3 := below_step hX2 hb
    clear hb
    go_wp2_with fail
    (with_reducible refine (L3.out _).mono ?_)
    rintro e w4 ⟨rfl, hb⟩
    have hX4 := below_step hX3 hb
    clear hb
    cases x with
    | false =>
      replace R5 : Hid (onB px py ax ay bx by' = true → onB qx qy cx cy dx dy = true → r < dHi (sqd px py qx qy)) := Lib.hid (fun h1 h2 => by rcases Int.lt_or_le r (dHi (sqd px py qx qy)) with h' | h'; exact h'; have := R5.out h1 h2 h'; cases this)
      clear R3
      by_cases hm : 0 ≤ more ∧ more ≤ 3000000
      · go_wp2_with fail
        (with_reducible refine (L4.out _ hm).mono ?_)
        rintro e w5 ⟨rfl, hb⟩
        have hX5 := below_step hX4 hb
        clear hb
        by_cases ho : r ≤ more
        · by_cases hp : Vld px py
          · obtain ⟨i, ei⟩ : ∃ x, onB px py ax ay bx by' = x := ⟨_, rfl⟩
            have l6 := fun w => On_yes px py ax ay bx by' w hp ha hb ei
            have L6 := Lib.hid l6
            clear l6
            by_cases hq : Vld qx qy
            · obtain ⟨k, ek⟩ : ∃ x, onB qx qy cx cy dx dy = x := ⟨_, rfl⟩
              have l7 := fun w => On_yes qx qy cx cy dx dy w hq hc hd ek
              have l8 := fun w => Dist_yes px py qx qy w hp hq rfl rfl
              have r7 : i = true → k = true → r < dHi (sqd px py qx qy) := fun h1 h2 => R5.out (ei.trans h1) (ek.trans h2)
              generalize dHi (sqd px py qx qy) = hi at *
              generalize isq (sqd px py qx qy) = lo at *
              have L7 := Lib.hid l7
              have L8 := Lib.hid l8
              clear l7 l8
              clear ei ek R5
              have R7 := Lib.hid r7
              clear r7
              go_wp2_with fail
              (with_reducible refine (L6.out _).mono ?_)
              rintro e w6 ⟨rfl, hb⟩
              have hX6 := below_step hX5 hb
              clear hb
              go_wp2_with fail
              (with_reducible refine (L7.out _).mono ?_)
              rintro e w7 ⟨rfl, hb⟩
              have hX7 := below_step hX6 hb
              clear hb
              cases i with
              | false =>
                go_wp2_with fail
                (with_reducible refine (L8.out _).mono ?_)
                rintro e w8 ⟨rfl, hb⟩
                have hX8 := below_step hX7 hb
                clear hb
                have c_s := cell_block (block_new w8 (.cells #[.int .i64 lo, .int .i64 hi] 35))
                have hXa := fun o => hX8.alloc hX8.size o
                go_wp2_with fail
                go_returns
                exact ⟨rfl, below_step hB (hXa _)⟩
              | true =>
                cases k with
                | false =>
                  go_wp2_with fail
                  (with_reducible refine (L8.out _).mono ?_)
                  rintro e w8 ⟨rfl, hb⟩
                  have hX8 := below_step hX7 hb
                  clear hb
                  have c_s := cell_block (block_new w8 (.cells #[.int .i64 lo, .int .i64 hi] 35))
                  have hXa := fun o => hX8.alloc hX8.size o
                  go_wp2_with fail
                  go_returns
                  exact ⟨rfl, below_step hB (hXa _)⟩
                | true =>
                  have r8 := R7.out rfl rfl
                  go_wp2_with fail
                  (with_reducible refine (L8.out _).mono ?_)
                  rintro e w8 ⟨rfl, hb⟩
                  have hX8 := below_step hX7 hb
                  clear hb
                  have c_s := cell_block (block_new w8 (.cells #[.int .i64 lo, .int .i64 hi] 35))
                  have hXa := fun o => hX8.alloc hX8.size o
                  go_wp2_with fail
                  go_returns
                  exact ⟨rfl, below_step hB (hXa _)⟩
            · have n7 : ¬ (Vld qx qy ∧ Vld cx cy ∧ Vld dx dy) := fun h => hq h.1
              have n8 : ¬ (Vld px py ∧ Vld qx qy) := fun h => hq h.2
              clear ei R5
              go_wp2_with fail
              (with_reducible refine (L6.out _).mono ?_)
              rintro e w6 ⟨rfl, hb⟩
              have hX6 := below_step hX5 hb
              clear hb
              go_wp2_with fail
              (with_reducible refine (On_no _ _ _ _ _ _ _ n7).mono ?_)
              rintro e w7 ⟨rfl, hb⟩
              have hX7 := below_step hX6 hb
              clear hb
              go_wp2_with fail
              (with_reducible refine (Dist_no _ _ _ _ _ n8).mono ?_)
              rintro e w8 ⟨rfl, hb⟩
              have hX8 := below_step hX7 hb
              clear hb
              have c_s := cell_block (block_new w8 (.cells #[.int .i64 0, .int .i64 0] 35))
              have hXa := fun o => hX8.alloc hX8.size o
              go_wp2_with fail
              go_returns
              exact ⟨rfl, below_step hB (hXa _)⟩
          · have n6 : ¬ (Vld px py ∧ Vld ax ay ∧ Vld bx by') := fun h => hp h.1
            have n8 : ¬ (Vld px py ∧ Vld qx qy) := fun h => hp h.1
            clear R5
            by_cases hq : Vld qx qy
            · obtain ⟨k, ek⟩ : ∃ x, onB qx qy cx cy dx dy = x := ⟨_, rfl⟩
              have l7 := fun w => On_yes qx qy cx cy dx dy w hq hc hd ek
              have L7 := Lib.hid l7
              clear l7 ek
              go_wp2_with fail
              (with_reducible refine (On_no _ _ _ _ _ _ _ n6).mono ?_)
              rintro e w6 ⟨rfl, hb⟩
              have hX6 := below_step hX5 hb
              clear hb
              go_wp2_with fail
              (with_reducible refine (L7.out _).mono ?_)
              rintro e w7 ⟨rfl, hb⟩
              have hX7 := below_step hX6 hb
              clear hb
              go_wp2_with fail
              (with_reducible refine (Dist_no _ _ _ _ _ n8).mono ?_)
              rintro e w8 ⟨rfl, hb⟩
              have hX8 := below_step hX7 hb
              clear hb
              have c_s := cell_block (block_new w8 (.cells #[.int .i64 0, .int .i64 0] 35))
              have hXa := fun o => hX8.alloc hX8.size o
              go_wp2_with fail
              go_returns
              exact ⟨rfl, below_step hB (hXa _)⟩
            · have n7 : ¬ (Vld qx qy ∧ Vld cx cy ∧ Vld dx dy) := fun h => hq h.1
              go_wp2_with fail
              (with_reducible refine (On_no _ _ _ _ _ _ _ n6).mono ?_)
              rintro e w6 ⟨rfl, hb⟩
              have hX6 := below_step hX5 hb
              clear hb
              go_wp2_with fail
              (with_reducible refine (On_no _ _ _ _ _ _ _ n7).mono ?_)
              rintro e w7 ⟨rfl, hb⟩
              have hX7 := below_step hX6 hb
              clear hb
              go_wp2_with fail
              (with_reducible refine (Dist_no _ _ _ _ _ n8).mono ?_)
              rintro e w8 ⟨rfl, hb⟩
              have hX8 := below_step hX7 hb
              clear hb
              have c_s := cell_block (block_new w8 (.cells #[.int .i64 0, .int .i64 0] 35))
              have hXa := fun o => hX8.alloc hX8.size o
              go_wp2_with fail
              go_returns
              exact ⟨rfl, below_step hB (hXa _)⟩
        · have ho : more < r := by omega
          by_cases hp : Vld px py
          · obtain ⟨i, ei⟩ : ∃ x, onB px py ax ay bx by' = x := ⟨_, rfl⟩
            have l6 := fun w => On_yes px py ax ay bx by' w hp ha hb ei
            have L6 := Lib.hid l6
            clear l6
            by_cases hq : Vld qx qy
            · obtain ⟨k, ek⟩ : ∃ x, onB qx qy cx cy dx dy = x := ⟨_, rfl⟩
              have l7 := fun w => On_yes qx qy cx cy dx dy w hq hc hd ek
              have l8 := fun w => Dist_yes px py qx qy w hp hq rfl rfl
              have r7 : i = true → k = true → r < dHi (sqd px py qx qy) := fun h1 h2 => R5.out (ei.trans h1) (ek.trans h2)
              generalize dHi (sqd px py qx qy) = hi at *
              generalize isq (sqd px py qx qy) = lo at *
              have L7 := Lib.hid l7
              have L8 := Lib.hid l8
              clear l7 l8
              clear ei ek R5
              have R7 := Lib.hid r7
              clear r7
              go_wp2_with fail
              (with_reducible refine (L6.out _).mono ?_)
              rintro e w6 ⟨rfl, hb⟩
              have hX6 := below_step hX5 hb
              clear hb
              go_wp2_with fail
              (with_reducible refine (L7.out _).mono ?_)
              rintro e w7 ⟨rfl, hb⟩
              have hX7 := below_step hX6 hb
              clear hb
              cases i with
              | false =>
                go_wp2_with fail
                (with_reducible refine (L8.out _).mono ?_)
                rintro e w8 ⟨rfl, hb⟩
                have hX8 := below_step hX7 hb
                clear hb
                have c_s := cell_block (block_new w8 (.cells #[.int .i64 lo, .int .i64 hi] 35))
                have hXa := fun o => hX8.alloc hX8.size o
                go_wp2_with fail
                go_returns
                exact ⟨rfl, below_step hB (hXa _)⟩
              | true =>
                cases k with
                | false =>
                  go_wp2_with fail
                  (with_reducible refine (L8.out _).mono ?_)
                  rintro e w8 ⟨rfl, hb⟩
                  have hX8 := below_step hX7 hb
                  clear hb
                  have c_s := cell_block (block_new w8 (.cells #[.int .i64 lo, .int .i64 hi] 35))
                  have hXa := fun o => hX8.alloc hX8.size o
                  go_wp2_with fail
                  go_returns
                  exact ⟨rfl, below_step hB (hXa _)⟩
                | true =>
                  have r8 := R7.out rfl rfl
                  go_wp2_with fail
                  (with_reducible refine (L8.out _).mono ?_)
                  rintro e w8 ⟨rfl, hb⟩
                  have hX8 := below_step hX7 hb
                  clear hb
                  have c_s := cell_block (block_new w8 (.cells #[.int .i64 lo, .int .i64 hi] 35))
                  have hXa := fun o => hX8.alloc hX8.size o
                  go_wp2_with fail
                  go_returns
                  exact ⟨rfl, below_step hB (hXa _)⟩
            · have n7 : ¬ (Vld qx qy ∧ Vld cx cy ∧ Vld dx dy) := fun h => hq h.1
              have n8 : ¬ (Vld px py ∧ Vld qx qy) := fun h => hq h.2
              clear ei R5
              go_wp2_with fail
              (with_reducible refine (L6.out _).mono ?_)
              rintro e w6 ⟨rfl, hb⟩
              have hX6 := below_step hX5 hb
              clear hb
              go_wp2_with fail
              (with_reducible refine (On_no _ _ _ _ _ _ _ n7).mono ?_)
              rintro e w7 ⟨rfl, hb⟩
              have hX7 := below_step hX6 hb
              clear hb
              go_wp2_with fail
              (with_reducible refine (Dist_no _ _ _ _ _ n8).mono ?_)
              rintro e w8 ⟨rfl, hb⟩
              have hX8 := below_step hX7 hb
              clear hb
              have c_s := cell_block (block_new w8 (.cells #[.int .i64 0, .int .i64 0] 35))
              have hXa := fun o => hX8.alloc hX8.size o
              go_wp2_with fail
              go_returns
              exact ⟨rfl, below_step hB (hXa _)⟩
          · have n6 : ¬ (Vld px py ∧ Vld ax ay ∧ Vld bx by') := fun h => hp h.1
            have n8 : ¬ (Vld px py ∧ Vld qx qy) := fun h => hp h.1
            clear R5
            by_cases hq : Vld qx qy
            · obtain ⟨k, ek⟩ : ∃ x, onB qx qy cx cy dx dy = x := ⟨_, rfl⟩
              have l7 := fun w => On_yes qx qy cx cy dx dy w hq hc hd ek
              have L7 := Lib.hid l7
              clear l7 ek
              go_wp2_with fail
              (with_reducible refine (On_no _ _ _ _ _ _ _ n6).mono ?_)
              rintro e w6 ⟨rfl, hb⟩
              have hX6 := below_step hX5 hb
              clear hb
              go_wp2_with fail
              (with_reducible refine (L7.out _).mono ?_)
              rintro e w7 ⟨rfl, hb⟩
              have hX7 := below_step hX6 hb
              clear hb
              go_wp2_with fail
              (with_reducible refine (Dist_no _ _ _ _ _ n8).mono ?_)
              rintro e w8 ⟨rfl, hb⟩
              have hX8 := below_step hX7 hb
              clear hb
              have c_s := cell_block (block_new w8 (.cells #[.int .i64 0, .int .i64 0] 35))
              have hXa := fun o => hX8.alloc hX8.size o
              go_wp2_with fail
              go_returns
              exact ⟨rfl, below_step hB (hXa _)⟩
            · have n7 : ¬ (Vld qx qy ∧ Vld cx cy ∧ Vld dx dy) := fun h => hq h.1
              go_wp2_with fail
              (with_reducible refine (On_no _ _ _ _ _ _ _ n6).mono ?_)
              rintro e w6 ⟨rfl, hb⟩
              have hX6 := below_step hX5 hb
              clear hb
              go_wp2_with fail
              (with_reducible refine (On_no _ _ _ _ _ _ _ n7).mono ?_)
              rintro e w7 ⟨rfl, hb⟩
              have hX7 := below_step hX6 hb
              clear hb
              go_wp2_with fail
              (with_reducible refine (Dist_no _ _ _ _ _ n8).mono ?_)
              rintro e w8 ⟨rfl, hb⟩
              have hX8 := below_step hX7 hb
              clear hb
              have c_s := cell_block (block_new w8 (.cells #[.int .i64 0, .int .i64 0] 35))
              have hXa := fun o => hX8.alloc hX8.size o
              go_wp2_with fail
              go_returns
              exact ⟨rfl, below_step hB (hXa _)⟩
      · have n4 : ¬ (Vld ax ay ∧ Vld bx by' ∧ Vld cx cy ∧ Vld dx dy ∧ 0 ≤ more ∧ more ≤ 3000000) := fun h => hm h.2.2.2.2
        go_wp2_with fail
        (with_reducible refine (Close_no _ _ _ _ _ _ _ _ _ _ n4).mono ?_)
        rintro e w5 ⟨rfl, hb⟩
        have hX5 := below_step hX4 hb
        clear hb
        by_cases hp : Vld px py
        · obtain ⟨i, ei⟩ : ∃ x, onB px py ax ay bx by' = x := ⟨_, rfl⟩
          have l6 := fun w => On_yes px py ax ay bx by' w hp ha hb ei
          have L6 := Lib.hid l6
          clear l6
          by_cases hq : Vld qx qy
          · obtain ⟨k, ek⟩ : ∃ x, onB qx qy cx cy dx dy = x := ⟨_, rfl⟩
            have l7 := fun w => On_yes qx qy cx cy dx dy w hq hc hd ek
            have l8 := fun w => Dist_yes px py qx qy w hp hq rfl rfl
            have r7 : i = true → k = true → r < dHi (sqd px py qx qy) := fun h1 h2 => R5.out (ei.trans h1) (ek.trans h2)
            generalize dHi (sqd px py qx qy) = hi at *
            generalize isq (sqd px py qx qy) = lo at *
            have L7 := Lib.hid l7
            have L8 := Lib.hid l8
            clear l7 l8
            clear ei ek R5
            have R7 := Lib.hid r7
            clear r7
            go_wp2_with fail
            (with_reducible refine (L6.out _).mono ?_)
            rintro e w6 ⟨rfl, hb⟩
            have hX6 := below_step hX5 hb
            clear hb
            go_wp2_with fail
            (with_reducible refine (L7.out _).mono ?_)
            rintro e w7 ⟨rfl, hb⟩
            have hX7 := below_step hX6 hb
            clear hb
            cases i with
            | false =>
              go_wp2_with fail
              (with_reducible refine (L8.out _).mono ?_)
              rintro e w8 ⟨rfl, hb⟩
              have hX8 := below_step hX7 hb
              clear hb
              have c_s := cell_block (block_new w8 (.cells #[.int .i64 lo, .int .i64 hi] 35))
              have hXa := fun o => hX8.alloc hX8.size o
              go_wp2_with fail
              go_returns
              exact ⟨rfl, below_step hB (hXa _)⟩
            | true =>
              cases k with
              | false =>
                go_wp2_with fail
                (with_reducible refine (L8.out _).mono ?_)
                rintro e w8 ⟨rfl, hb⟩
                have hX8 := below_step hX7 hb
                clear hb
                have c_s := cell_block (block_new w8 (.cells #[.int .i64 lo, .int .i64 hi] 35))
                have hXa := fun o => hX8.alloc hX8.size o
                go_wp2_with fail
                go_returns
                exact ⟨rfl, below_step hB (hXa _)⟩
              | true =>
                have r8 := R7.out rfl rfl
                go_wp2_with fail
                (with_reducible refine (L8.out _).mono ?_)
                rintro e w8 ⟨rfl, hb⟩
                have hX8 := below_step hX7 hb
                clear hb
                have c_s := cell_block (block_new w8 (.cells #[.int .i64 lo, .int .i64 hi] 35))
                have hXa := fun o => hX8.alloc hX8.size o
                go_wp2_with fail
                go_returns
                exact ⟨rfl, below_step hB (hXa _)⟩
          · have n7 : ¬ (Vld qx qy ∧ Vld cx cy ∧ Vld dx dy) := fun h => hq h.1
            have n8 : ¬ (Vld px py ∧ Vld qx qy) := fun h => hq h.2
            clear ei R5
            go_wp2_with fail
            (with_reducible refine (L6.out _).mono ?_)
            rintro e w6 ⟨rfl, hb⟩
            have hX6 := below_step hX5 hb
            clear hb
            go_wp2_with fail
            (with_reducible refine (On_no _ _ _ _ _ _ _ n7).mono ?_)
            rintro e w7 ⟨rfl, hb⟩
            have hX7 := below_step hX6 hb
            clear hb
            go_wp2_with fail
            (with_reducible refine (Dist_no _ _ _ _ _ n8).mono ?_)
            rintro e w8 ⟨rfl, hb⟩
            have hX8 := below_step hX7 hb
            clear hb
            have c_s := cell_block (block_new w8 (.cells #[.int .i64 0, .int .i64 0] 35))
            have hXa := fun o => hX8.alloc hX8.size o
            go_wp2_with fail
            go_returns
            exact ⟨rfl, below_step hB (hXa _)⟩
        · have n6 : ¬ (Vld px py ∧ Vld ax ay ∧ Vld bx by') := fun h => hp h.1
          have n8 : ¬ (Vld px py ∧ Vld qx qy) := fun h => hp h.1
          clear R5
          by_cases hq : Vld qx qy
          · obtain ⟨k, ek⟩ : ∃ x, onB qx qy cx cy dx dy = x := ⟨_, rfl⟩
            have l7 := fun w => On_yes qx qy cx cy dx dy w hq hc hd ek
            have L7 := Lib.hid l7
            clear l7 ek
            go_wp2_with fail
            (with_reducible refine (On_no _ _ _ _ _ _ _ n6).mono ?_)
            rintro e w6 ⟨rfl, hb⟩
            have hX6 := below_step hX5 hb
            clear hb
            go_wp2_with fail
            (with_reducible refine (L7.out _).mono ?_)
            rintro e w7 ⟨rfl, hb⟩
            have hX7 := below_step hX6 hb
            clear hb
            go_wp2_with fail
            (with_reducible refine (Dist_no _ _ _ _ _ n8).mono ?_)
            rintro e w8 ⟨rfl, hb⟩
            have hX8 := below_step hX7 hb
            clear hb
            have c_s := cell_block (block_new w8 (.cells #[.int .i64 0, .int .i64 0] 35))
            have hXa := fun o => hX8.alloc hX8.size o
            go_wp2_with fail
            go_returns
            exact ⟨rfl, below_step hB (hXa _)⟩
          · have n7 : ¬ (Vld qx qy ∧ Vld cx cy ∧ Vld dx dy) := fun h => hq h.1
            go_wp2_with fail
            (with_reducible refine (On_no _ _ _ _ _ _ _ n6).mono ?_)
            rintro e w6 ⟨rfl, hb⟩
            have hX6 := below_step hX5 hb
            clear hb
            go_wp2_with fail
            (with_reducible refine (On_no _ _ _ _ _ _ _ n7).mono ?_)
            rintro e w7 ⟨rfl, hb⟩
            have hX7 := below_step hX6 hb
            clear hb
            go_wp2_with fail
            (with_reducible refine (Dist_no _ _ _ _ _ n8).mono ?_)
            rintro e w8 ⟨rfl, hb⟩
            have hX8 := below_step hX7 hb
            clear hb
            have c_s := cell_block (block_new w8 (.cells #[.int .i64 0, .int .i64 0] 35))
            have hXa := fun o => hX8.alloc hX8.size o
            go_wp2_with fail
            go_returns
            exact ⟨rfl, below_step hB (hXa _)⟩
    | true =>
      replace R3 : Hid (r ≤ more → wm = true) := Lib.hid (fun h => R3.out h rfl)
      clear R5
      by_cases hm : 0 ≤ more ∧ more ≤ 3000000
      · go_wp2_with fail
        (with_reducible refine (L4.out _ hm).mono ?_)
        rintro e w5 ⟨rfl, hb⟩
        have hX5 := below_step hX4 hb
        clear hb
        by_cases ho : r ≤ more
        · obtain rfl := R3.out ho
          clear R3
          by_cases hp : Vld px py
          · obtain ⟨i, ei⟩ : ∃ x, onB px py ax ay bx by' = x := ⟨_, rfl⟩
            have l6 := fun w => On_yes px py ax ay bx by' w hp ha hb ei
            have L6 := Lib.hid l6
            clear l6
            by_cases hq : Vld qx qy
            · obtain ⟨k, ek⟩ : ∃ x, onB qx qy cx cy dx dy = x := ⟨_, rfl⟩
              have l7 := fun w => On_yes qx qy cx cy dx dy w hq hc hd ek
              have l8 := fun w => Dist_yes px py qx qy w hp hq rfl rfl
              generalize dHi (sqd px py qx qy) = hi at *
              generalize isq (sqd px py qx qy) = lo at *
              have L7 := Lib.hid l7
              have L8 := Lib.hid l8
              clear l7 l8
              clear ei ek
              go_wp2_with fail
              (with_reducible refine (L6.out _).mono ?_)
              rintro e w6 ⟨rfl, hb⟩
              have hX6 := below_step hX5 hb
              clear hb
              go_wp2_with fail
              (with_reducible refine (L7.out _).mono ?_)
              rintro e w7 ⟨rfl, hb⟩
              have hX7 := below_step hX6 hb
              clear hb
              cases i with
              | false =>
                go_wp2_with fail
                (with_reducible refine (L8.out _).mono ?_)
                rintro e w8 ⟨rfl, hb⟩
                have hX8 := below_step hX7 hb
                clear hb
                have c_s := cell_block (block_new w8 (.cells #[.int .i64 lo, .int .i64 hi] 35))
                have hXa := fun o => hX8.alloc hX8.size o
                go_wp2_with fail
                go_returns
                exact ⟨rfl, below_step hB (hXa _)⟩
              | true =>
                cases k with
                | false =>
                  go_wp2_with fail
                  (with_reducible refine (L8.out _).mono ?_)
                  rintro e w8 ⟨rfl, hb⟩
                  have hX8 := below_step hX7 hb
                  clear hb
                  have c_s := cell_block (block_new w8 (.cells #[.int .i64 lo, .int .i64 hi] 35))
                  have hXa := fun o => hX8.alloc hX8.size o
                  go_wp2_with fail
                  go_returns
                  exact ⟨rfl, below_step hB (hXa _)⟩
                | true =>
                  go_wp2_with fail
                  (with_reducible refine (L8.out _).mono ?_)
                  rintro e w8 ⟨rfl, hb⟩
                  have hX8 := below_step hX7 hb
                  clear hb
                  have c_s := cell_block (block_new w8 (.cells #[.int .i64 lo, .int .i64 hi] 35))
                  have hXa := fun o => hX8.alloc hX8.size o
                  go_wp2_with fail
                  all_goals
                    go_returns
                    exact ⟨rfl, below_step hB (hXa _)⟩
            · have n7 : ¬ (Vld qx qy ∧ Vld cx cy ∧ Vld dx dy) := fun h => hq h.1
              have n8 : ¬ (Vld px py ∧ Vld qx qy) := fun h => hq h.2
              clear ei
              go_wp2_with fail
              (with_reducible refine (L6.out _).mono ?_)
              rintro e w6 ⟨rfl, hb⟩
              have hX6 := below_step hX5 hb
              clear hb
              go_wp2_with fail
              (with_reducible refine (On_no _ _ _ _ _ _ _ n7).mono ?_)
              rintro e w7 ⟨rfl, hb⟩
              have hX7 := below_step hX6 hb
              clear hb
              go_wp2_with fail
              (with_reducible refine (Dist_no _ _ _ _ _ n8).mono ?_)
              rintro e w8 ⟨rfl, hb⟩
              have hX8 := below_step hX7 hb
              clear hb
              have c_s := cell_block (block_new w8 (.cells #[.int .i64 0, .int .i64 0] 35))
              have hXa := fun o => hX8.alloc hX8.size o
              go_wp2_with fail
              go_returns
              exact ⟨rfl, below_step hB (hXa _)⟩
          · have n6 : ¬ (Vld px py ∧ Vld ax ay ∧ Vld bx by') := fun h => hp h.1
            have n8 : ¬ (Vld px py ∧ Vld qx qy) := fun h => hp h.1
            by_cases hq : Vld qx qy
            · obtain ⟨k, ek⟩ : ∃ x, onB qx qy cx cy dx dy = x := ⟨_, rfl⟩
              have l7 := fun w => On_yes qx qy cx cy dx dy w hq hc hd ek
              have L7 := Lib.hid l7
              clear l7 ek
              go_wp2_with fail
              (with_reducible refine (On_no _ _ _ _ _ _ _ n6).mono ?_)
              rintro e w6 ⟨rfl, hb⟩
              have hX6 := below_step hX5 hb
              clear hb
              go_wp2_with fail
              (with_reducible refine (L7.out _).mono ?_)
              rintro e w7 ⟨rfl, hb⟩
              have hX7 := below_step hX6 hb
              clear hb
              go_wp2_with fail
              (with_reducible refine (Dist_no _ _ _ _ _ n8).mono ?_)
              rintro e w8 ⟨rfl, hb⟩
              have hX8 := below_step hX7 hb
              clear hb
              have c_s := cell_block (block_new w8 (.cells #[.int .i64 0, .int .i64 0] 35))
              have hXa := fun o => hX8.alloc hX8.size o
              go_wp2_with fail
              go_returns
              exact ⟨rfl, below_step hB (hXa _)⟩
            · have n7 : ¬ (Vld qx qy ∧ Vld cx cy ∧ Vld dx dy) := fun h => hq h.1
              go_wp2_with fail
              (with_reducible refine (On_no _ _ _ _ _ _ _ n6).mono ?_)
              rintro e w6 ⟨rfl, hb⟩
              have hX6 := below_step hX5 hb
              clear hb
              go_wp2_with fail
              (with_reducible refine (On_no _ _ _ _ _ _ _ n7).mono ?_)
              rintro e w7 ⟨rfl, hb⟩
              have hX7 := below_step hX6 hb
              clear hb
              go_wp2_with fail
              (with_reducible refine (Dist_no _ _ _ _ _ n8).mono ?_)
              rintro e w8 ⟨rfl, hb⟩
              have hX8 := below_step hX7 hb
              clear hb
              have c_s := cell_block (block_new w8 (.cells #[.int .i64 0, .int .i64 0] 35))
              have hXa := fun o => hX8.alloc hX8.size o
              go_wp2_with fail
              go_returns
              exact ⟨rfl, below_step hB (hXa _)⟩
        · have ho : more < r := by omega
          clear R3
          by_cases hp : Vld px py
          · obtain ⟨i, ei⟩ : ∃ x, onB px py ax ay bx by' = x := ⟨_, rfl⟩
            have l6 := fun w => On_yes px py ax ay bx by' w hp ha hb ei
            have L6 := Lib.hid l6
            clear l6
            by_cases hq : Vld qx qy
            · obtain ⟨k, ek⟩ : ∃ x, onB qx qy cx cy dx dy = x := ⟨_, rfl⟩
              have l7 := fun w => On_yes qx qy cx cy dx dy w hq hc hd ek
              have l8 := fun w => Dist_yes px py qx qy w hp hq rfl rfl
              generalize dHi (sqd px py qx qy) = hi at *
              generalize isq (sqd px py qx qy) = lo at *
              have L7 := Lib.hid l7
              have L8 := Lib.hid l8
              clear l7 l8
              clear ei ek
              go_wp2_with fail
              (with_reducible refine (L6.out _).mono ?_)
              rintro e w6 ⟨rfl, hb⟩
              have hX6 := below_step hX5 hb
              clear hb
              go_wp2_with fail
              (with_reducible refine (L7.out _).mono ?_)
              rintro e w7 ⟨rfl, hb⟩
              have hX7 := below_step hX6 hb
              clear hb
              cases i with
              | false =>
                go_wp2_with fail
                (with_reducible refine (L8.out _).mono ?_)
                rintro e w8 ⟨rfl, hb⟩
                have hX8 := below_step hX7 hb
                clear hb
                have c_s := cell_block (block_new w8 (.cells #[.int .i64 lo, .int .i64 hi] 35))
                have hXa := fun o => hX8.alloc hX8.size o
                go_wp2_with fail
                go_returns
                exact ⟨rfl, below_step hB (hXa _)⟩
              | true =>
                cases k with
                | false =>
                  go_wp2_with fail
                  (with_reducible refine (L8.out _).mono ?_)
                  rintro e w8 ⟨rfl, hb⟩
                  have hX8 := below_step hX7 hb
                  clear hb
                  have c_s := cell_block (block_new w8 (.cells #[.int .i64 lo, .int .i64 hi] 35))
                  have hXa := fun o => hX8.alloc hX8.size o
                  go_wp2_with fail
                  go_returns
                  exact ⟨rfl, below_step hB (hXa _)⟩
                | true =>
                  go_wp2_with fail
                  (with_reducible refine (L8.out _).mono ?_)
                  rintro e w8 ⟨rfl, hb⟩
                  have hX8 := below_step hX7 hb
                  clear hb
                  have c_s := cell_block (block_new w8 (.cells #[.int .i64 lo, .int .i64 hi] 35))
                  have hXa := fun o => hX8.alloc hX8.size o
                  go_wp2_with fail
                  all_goals
                    go_returns
                    exact ⟨rfl, below_step hB (hXa _)⟩
            · have n7 : ¬ (Vld qx qy ∧ Vld cx cy ∧ Vld dx dy) := fun h => hq h.1
              have n8 : ¬ (Vld px py ∧ Vld qx qy) := fun h => hq h.2
              clear ei
              go_wp2_with fail
              (with_reducible refine (L6.out _).mono ?_)
              rintro e w6 ⟨rfl, hb⟩
              have hX6 := below_step hX5 hb
              clear hb
              go_wp2_with fail
              (with_reducible refine (On_no _ _ _ _ _ _ _ n7).mono ?_)
              rintro e w7 ⟨rfl, hb⟩
              have hX7 := below_step hX6 hb
              clear hb
              go_wp2_with fail
              (with_reducible refine (Dist_no _ _ _ _ _ n8).mono ?_)
              rintro e w8 ⟨rfl, hb⟩
              have hX8 := below_step hX7 hb
              clear hb
              have c_s := cell_block (block_new w8 (.cells #[.int .i64 0, .int .i64 0] 35))
              have hXa := fun o => hX8.alloc hX8.size o
              go_wp2_with fail
              go_returns
              exact ⟨rfl, below_step hB (hXa _)⟩
          · have n6 : ¬ (Vld px py ∧ Vld ax ay ∧ Vld bx by') := fun h => hp h.1
            have n8 : ¬ (Vld px py ∧ Vld qx qy) := fun h => hp h.1
            by_cases hq : Vld qx qy
            · obtain ⟨k, ek⟩ : ∃ x, onB qx qy cx cy dx dy = x := ⟨_, rfl⟩
              have l7 := fun w => On_yes qx qy cx cy dx dy w hq hc hd ek
              have L7 := Lib.hid l7
              clear l7 ek
              go_wp2_with fail
              (with_reducible refine (On_no _ _ _ _ _ _ _ n6).mono ?_)
              rintro e w6 ⟨rfl, hb⟩
              have hX6 := below_step hX5 hb
              clear hb
              go_wp2_with fail
              (with_reducible refine (L7.out _).mono ?_)
              rintro e w7 ⟨rfl, hb⟩
              have hX7 := below_step hX6 hb
              clear hb
              go_wp2_with fail
              (with_reducible refine (Dist_no _ _ _ _ _ n8).mono ?_)
              rintro e w8 ⟨rfl, hb⟩
              have hX8 := below_step hX7 hb
              clear hb
              have c_s := cell_block (block_new w8 (.cells #[.int .i64 0, .int .i64 0] 35))
              have hXa := fun o => hX8.alloc hX8.size o
              go_wp2_with fail
              go_returns
              exact ⟨rfl, below_step hB (hXa _)⟩
            · have n7 : ¬ (Vld qx qy ∧ Vld cx cy ∧ Vld dx dy) := fun h => hq h.1
              go_wp2_with fail
              (with_reducible refine (On_no _ _ _ _ _ _ _ n6).mono ?_)
              rintro e w6 ⟨rfl, hb⟩
              have hX6 := below_step hX5 hb
              clear hb
              go_wp2_with fail
              (with_reducible refine (On_no _ _ _ _ _ _ _ n7).mono ?_)
              rintro e w7 ⟨rfl, hb⟩
              have hX7 := below_step hX6 hb
              clear hb
              go_wp2_with fail
              (with_reducible refine (Dist_no _ _ _ _ _ n8).mono ?_)
              rintro e w8 ⟨rfl, hb⟩
              have hX8 := below_step hX7 hb
              clear hb
              have c_s := cell_block (block_new w8 (.cells #[.int .i64 0, .int .i64 0] 35))
              have hXa := fun o => hX8.alloc hX8.size o
              go_wp2_with fail
              go_returns
              exact ⟨rfl, below_step hB (hXa _)⟩
      · have n4 : ¬ (Vld ax ay ∧ Vld bx by' ∧ Vld cx cy ∧ Vld dx dy ∧ 0 ≤ more ∧ more ≤ 3000000) := fun h => hm h.2.2.2.2
        clear R3
        go_wp2_with fail
        (with_reducible refine (Close_no _ _ _ _ _ _ _ _ _ _ n4).mono ?_)
        rintro e w5 ⟨rfl, hb⟩
        have hX5 := below_step hX4 hb
        clear hb
        by_cases hp : Vld px py
        · obtain ⟨i, ei⟩ : ∃ x, onB px py ax ay bx by' = x := ⟨_, rfl⟩
          have l6 := fun w => On_yes px py ax ay bx by' w hp ha hb ei
          have L6 := Lib.hid l6
          clear l6
          by_cases hq : Vld qx qy
          · obtain ⟨k, ek⟩ : ∃ x, onB qx qy cx cy dx dy = x := ⟨_, rfl⟩
            have l7 := fun w => On_yes qx qy cx cy dx dy w hq hc hd ek
            have l8 := fun w => Dist_yes px py qx qy w hp hq rfl rfl
            generalize dHi (sqd px py qx qy) = hi at *
            generalize isq (sqd px py qx qy) = lo at *
            have L7 := Lib.hid l7
            have L8 := Lib.hid l8
            clear l7 l8
            clear ei ek
            go_wp2_with fail
            (with_reducible refine (L6.out _).mono ?_)
            rintro e w6 ⟨rfl, hb⟩
            have hX6 := below_step hX5 hb
            clear hb
            go_wp2_with fail
            (with_reducible refine (L7.out _).mono ?_)
            rintro e w7 ⟨rfl, hb⟩
            have hX7 := below_step hX6 hb
            clear hb
            cases i with
            | false =>
              go_wp2_with fail
              (with_reducible refine (L8.out _).mono ?_)
              rintro e w8 ⟨rfl, hb⟩
              have hX8 := below_step hX7 hb
              clear hb
              have c_s := cell_block (block_new w8 (.cells #[.int .i64 lo, .int .i64 hi] 35))
              have hXa := fun o => hX8.alloc hX8.size o
              go_wp2_with fail
              go_returns
              exact ⟨rfl, below_step hB (hXa _)⟩
            | true =>
              cases k with
              | false =>
                go_wp2_with fail
                (with_reducible refine (L8.out _).mono ?_)
                rintro e w8 ⟨rfl, hb⟩
                have hX8 := below_step hX7 hb
                clear hb
                have c_s := cell_block (block_new w8 (.cells #[.int .i64 lo, .int .i64 hi] 35))
                have hXa := fun o => hX8.alloc hX8.size o
                go_wp2_with fail
                go_returns
                exact ⟨rfl, below_step hB (hXa _)⟩
              | true =>
                go_wp2_with fail
                (with_reducible refine (L8.out _).mono ?_)
                rintro e w8 ⟨rfl, hb⟩
                have hX8 := below_step hX7 hb
                clear hb
                have c_s := cell_block (block_new w8 (.cells #[.int .i64 lo, .int .i64 hi] 35))
                have hXa := fun o => hX8.alloc hX8.size o
                go_wp2_with fail
                all_goals
                  go_returns
                  exact ⟨rfl, below_step hB (hXa _)⟩
          · have n7 : ¬ (Vld qx qy ∧ Vld cx cy ∧ Vld dx dy) := fun h => hq h.1
            have n8 : ¬ (Vld px py ∧ Vld qx qy) := fun h => hq h.2
            clear ei
            go_wp2_with fail
            (with_reducible refine (L6.out _).mono ?_)
            rintro e w6 ⟨rfl, hb⟩
            have hX6 := below_step hX5 hb
            clear hb
            go_wp2_with fail
            (with_reducible refine (On_no _ _ _ _ _ _ _ n7).mono ?_)
            rintro e w7 ⟨rfl, hb⟩
            have hX7 := below_step hX6 hb
            clear hb
            go_wp2_with fail
            (with_reducible refine (Dist_no _ _ _ _ _ n8).mono ?_)
            rintro e w8 ⟨rfl, hb⟩
            have hX8 := below_step hX7 hb
            clear hb
            have c_s := cell_block (block_new w8 (.cells #[.int .i64 0, .int .i64 0] 35))
            have hXa := fun o => hX8.alloc hX8.size o
            go_wp2_with fail
            go_returns
            exact ⟨rfl, below_step hB (hXa _)⟩
        · have n6 : ¬ (Vld px py ∧ Vld ax ay ∧ Vld bx by') := fun h => hp h.1
          have n8 : ¬ (Vld px py ∧ Vld qx qy) := fun h => hp h.1
          by_cases hq : Vld qx qy
          · obtain ⟨k, ek⟩ : ∃ x, onB qx qy cx cy dx dy = x := ⟨_, rfl⟩
            have l7 := fun w => On_yes qx qy cx cy dx dy w hq hc hd ek
            have L7 := Lib.hid l7
            clear l7 ek
            go_wp2_with fail
            (with_reducible refine (On_no _ _ _ _ _ _ _ n6).mono ?_)
            rintro e w6 ⟨rfl, hb⟩
            have hX6 := below_step hX5 hb
            clear hb
            go_wp2_with fail
            (with_reducible refine (L7.out _).mono ?_)
            rintro e w7 ⟨rfl, hb⟩
            have hX7 := below_step hX6 hb
            clear hb
            go_wp2_with fail
            (with_reducible refine (Dist_no _ _ _ _ _ n8).mono ?_)
            rintro e w8 ⟨rfl, hb⟩
            have hX8 := below_step hX7 hb
            clear hb
            have c_s := cell_block (block_new w8 (.cells #[.int .i64 0, .int .i64 0] 35))
            have hXa := fun o => hX8.alloc hX8.size o
            go_wp2_with fail
            go_returns
            exact ⟨rfl, below_step hB (hXa _)⟩
          · have n7 : ¬ (Vld qx qy ∧ Vld cx cy ∧ Vld dx dy) := fun h => hq h.1
            go_wp2_with fail
            (with_reducible refine (On_no _ _ _ _ _ _ _ n6).mono ?_)
            rintro e w6 ⟨rfl, hb⟩
            have hX6 := below_step hX5 hb
            clear hb
            go_wp2_with fail
            (with_reducible refine (On_no _ _ _ _ _ _ _ n7).mono ?_)
            rintro e w7 ⟨rfl, hb⟩
            have hX7 := below_step hX6 hb
            clear hb
            go_wp2_with fail
            (with_reducible refine (Dist_no _ _ _ _ _ n8).mono ?_)
            rintro e w8 ⟨rfl, hb⟩
            have hX8 := below_step hX7 hb
            clear hb
            have c_s := cell_block (block_new w8 (.cells #[.int .i64 0, .int .i64 0] 35))
            have hXa := fun o => hX8.alloc hX8.size o
            go_wp2_with fail
            go_returns
            exact ⟨rfl, below_step hB (hXa _)⟩
  · go_wp2_with fail
    (with_reducible refine (Close_no _ _ _ _ _ _ _ _ _ _ hv).mono ?_)
    rintro e w2 ⟨rfl, hb⟩
    have hX2 := below_step hX1 hb
    clear hb
    go_wp2_with fail
    go_returns
    exact ⟨rfl, below_step hB hX2⟩
set_option maxRecDepth 100000 in
theorem planeClose_lifted (os : Os) (started : os.Started) (H : Type) (enc : TypeId × Value → H) :
    ReturnsInHanded {} Try.checked os 7 .any (Rows.planeCloseSpec.pre6 enc Try.prog Try.f7 Rows.planeCloseRow.domain false) (Rows.planeCloseSpec.post enc Try.prog Try.f7 false true false false) := by
  refine returnsInHanded_of_change (C := Try.checked) own_knob started (by kernel_rfl) Try.func7
    (ChangeSpec.witness6 (enc := enc) (C := Try.checked) false ⟨#[], #[.agg #[.int .i64 0, .int .i64 0], .agg #[.int .i64 0, .int .i64 0], .agg #[.int .i64 0, .int .i64 0], .agg #[.int .i64 0, .int .i64 0], .int .i64 0, .int .i64 0, .agg #[.int .i64 0, .int .i64 0], .agg #[.int .i64 0, .int .i64 0]], []⟩ 8 (by kernel_rfl) (by kernel_rfl) (by kernel_rfl) (by kernel_rfl)) ?_
  intro W base args ds gs before hval0 hW hcnd _
  have hval : ∀ (j : Nat) t v, Try.f7.params[j]? = some t → args[j]? = some v → Value.okWide Try.prog W .any base t v := hval0
  have hW' := hW
  obtain ⟨p, q, hA0, hV, rfl, hfz, hnd⟩ := hW
  have hA : DataW.TrodAll enc Try.prog W 0 (fun _ => true) true Try.f7.params.toList args.toList ds p := hA0
  rw [Try.params7] at hA hval
  obtain ⟨v0, vs0, d0, ds0, p0, q0, hargs, rfl, rfl, h0, r0⟩ := trodAll_cons hA
  obtain ⟨v1, vs1, d1, ds1, p1, q1, rfl, rfl, rfl, h1, r1⟩ := trodAll_cons r0
  obtain ⟨v2, vs2, d2, ds2, p2, q2, rfl, rfl, rfl, h2, r2⟩ := trodAll_cons r1
  obtain ⟨v3, vs3, d3, ds3, p3, q3, rfl, rfl, rfl, h3, r3⟩ := trodAll_cons r2
  obtain ⟨v4, vs4, d4, ds4, p4, q4, rfl, rfl, rfl, h4, r4⟩ := trodAll_cons r3
  obtain ⟨v5, vs5, d5, ds5, p5, q5, rfl, rfl, rfl, h5, r5⟩ := trodAll_cons r4
  obtain ⟨v6, vs6, d6, ds6, p6, q6, rfl, rfl, rfl, h6, r6⟩ := trodAll_cons r5
  obtain ⟨v7, vs7, d7, ds7, p7, q7, rfl, rfl, rfl, h7, r7⟩ := trodAll_cons r6
  obtain ⟨rfl, rfl, rfl⟩ := trodAll_nil r7
  obtain rfl : args = #[v0, v1, v2, v3, v4, v5, v6, v7] := by cases args; simp_all
  obtain ⟨rfl, rfl⟩ := trodVars_none hV
  simp only [List.append_nil] at hW' hA0
  obtain ⟨ax, ay, e0, wx0, wy0⟩ := open_point (hval 0 23 v0 rfl rfl) h0
  subst e0
  obtain ⟨bx, by', e1, wx1, wy1⟩ := open_point (hval 1 23 v1 rfl rfl) h1
  subst e1
  obtain ⟨cx, cy, e2, wx2, wy2⟩ := open_point (hval 2 23 v2 rfl rfl) h2
  subst e2
  obtain ⟨dx, dy, e3, wx3, wy3⟩ := open_point (hval 3 23 v3 rfl rfl) h3
  subst e3
  obtain ⟨r, e4, _, _, w4⟩ := open_int Try.underlying3 (hval 4 3 v4 rfl rfl) h4
  subst e4
  obtain ⟨more, e5, _, _, w5⟩ := open_int Try.underlying3 (hval 5 3 v5 rfl rfl) h5
  subst e5
  obtain ⟨px, py, e6, wx6, wy6⟩ := open_point (hval 6 23 v6 rfl rfl) h6
  subst e6
  obtain ⟨qx, qy, e7, wx7, wy7⟩ := open_point (hval 7 23 v7 rfl rfl) h7
  subst e7
  refine (planeClose_walk ax ay bx by' cx cy dx dy r more px py qx qy W).mono fun e W' ⟨he, hg⟩ => ?_
  subst he
  exact ⟨_, rfl, post_law laid_out (by rw [Try.params7]; intro t ht; simp only [List.mem_cons, List.not_mem_nil, or_false] at ht; rcases ht with rfl | rfl | rfl | rfl | rfl | rfl | rfl | rfl <;> exact ⟨by kernel_rfl, of_decide_eq_true (by kernel_rfl)⟩) rfl hW' hA0 rfl rfl rfl rfl Try.underlying4 hg⟩
theorem planeClose_over : Rows.planeCloseRow.holds Try.pinned (OpenSpec.ofChange Rows.planeCloseSpec) :=
  OpenClaim.holds_of_wide 7 Try.f7 rfl rfl rfl rfl rfl rfl rfl ⟨rfl, rfl, rfl, rfl, rfl⟩ rfl rfl rfl rfl rfl (by kernel_rfl) Try.func7 (by kernel_rfl)
    (of_decide_eq_true (by kernel_rfl)) (by unfold Func.isWrapper; first | (rw [if_pos (by decide +kernel)]; kernel_rfl) | (rw [if_neg (by decide +kernel)]; exact ⟨rfl, rfl⟩))
    (fun os started H enc _ => planeClose_lifted os started H enc)
theorem planeClose_holds : Rows.PlaneCloseSaid :=
  planeClose_over
#print axioms planeClose_holds
end Go.Proofs.Ytkpmiehggmeejaa
