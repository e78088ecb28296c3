/- The statement PlaneNear of chapter 1: for any places and distances the law's function returns true and leaves its arguments as they were. No condition. -/
import Derived.Test.YtkpmiehggmeejaaPlaneHead
import Derived.Test.YtkpmiehggmeejaaPlaneMath
import Derived.Test.YtkpmiehggmeejaaFrame
namespace Go.Proofs.Ytkpmiehggmeejaa
open Go.ChangeShapes Go.WideShapes Go.ChangeAt Go.RowKit
set_option linter.unusedVariables false
theorem not_near_of_apart {px py ax ay bx by' d e : Int} (h0 : 0 ≤ d) (h : d < e) (ha : apartB px py ax ay bx by' e = true) : nearB px py ax ay bx by' d = false := by
  have k := sqDen_pos px py ax ay bx by'
  simp only [apartB, nearB, decide_eq_true_eq, decide_eq_false_iff_not] at *
  have h1 : d * d < e * e := by
    have e1 : d * d ≤ d * e := Int.mul_le_mul_of_nonneg_left (Int.le_of_lt h) h0
    have e2 : d * e < e * e := Int.mul_lt_mul_of_pos_right h (by omega)
    omega
  have h2 := Int.mul_lt_mul_of_pos_right h1 (show 0 < sqDen px py ax ay bx by' by omega)
  omega
set_option maxRecDepth 100000 in
set_option maxHeartbeats 8000000 in
theorem planeNear_walk (px py ax ay bx by' d more qx qy : Int) (w : World) :
    Calls Try.prog 10 #[.agg #[.int .i64 px, .int .i64 py], .agg #[.int .i64 ax, .int .i64 ay], .agg #[.int .i64 bx, .int .i64 by'], .int .i64 d, .int .i64 more, .agg #[.int .i64 qx, .int .i64 qy]] w fun e w' => e = .returned (.bool true) ∧ Below w.heap.size w w' := by
  go_enter Try.func10, Try.ntmps10
  go_wp2_with fail
  refine calls_named fun W hW => ?_
  obtain ⟨p1, p2, p3, p4, hB⟩ := box4 hW
  clear hW
  have q1 := cellsL p1
  have q2 := cellsL p2
  have q3 := cellsL p3
  have q4 := cellsL p4
  clear p1 p2 p3 p4
  have hX0 := Below.refl W.heap.size W
  (with_reducible refine (head_any _).mono ?_)
  rintro e w1 ⟨rfl, hb⟩
  have hX1 := below_step hX0 hb
  clear hb
  by_cases hv : Vld px py ∧ Vld ax ay ∧ Vld bx by' ∧ 0 ≤ d ∧ d ≤ 3000000
  · obtain ⟨hp, ha, hb, hd⟩ := hv
    obtain ⟨x, ex⟩ : ∃ x, nearB px py ax ay bx by' d = x := ⟨_, rfl⟩
    obtain ⟨z, ez⟩ : ∃ x, onB px py ax ay bx by' = x := ⟨_, rfl⟩
    obtain ⟨far, ef⟩ : ∃ x, apartB px py ax ay bx by' d = x := ⟨_, rfl⟩
    obtain ⟨wm, ew⟩ : ∃ x, nearB px py ax ay bx by' more = x := ⟨_, rfl⟩
    obtain ⟨fm, em⟩ : ∃ x, apartB px py ax ay bx by' more = x := ⟨_, rfl⟩
    have r1 : z = true → x = true := fun h => by rw [← ex]; rw [h] at ez; exact near_mono (Int.le_refl 0) hd.1 (by rw [near_zero]; exact ez)
    have r2 : x = false → far = true := fun h => by rw [← ef]; rw [h] at ex; simp only [nearB, apartB, decide_eq_true_eq, decide_eq_false_iff_not] at *; omega
    have r3 : d ≤ more → x = true → wm = true := fun h1 h2 => by rw [← ew]; exact near_mono hd.1 h1 (ex.trans h2)
    have r4 : d < more → fm = true → x = false := fun h1 h2 => by rw [← ex]; exact not_near_of_apart hd.1 h1 (em.trans h2)
    have r5 : ∀ qx qy, onB qx qy ax ay bx by' = true → dHi (sqd px py qx qy) ≤ d → x = true := fun qx qy h1 h2 => by rw [← ex]; simp only [onB, decide_eq_true_eq] at h1; obtain ⟨u1, u2, _, _⟩ := dHi_ge (sqd_nn px py qx qy); exact near_of_on (Int.le_trans u1 (sq_le_sq u2 h2)) h1
    have l1 := fun w => Near_yes px py ax ay bx by' d w hp ha hb hd ex
    have l2 := fun w => Near_yes px py ax ay bx by' 0 w hp ha hb ⟨by omega, by omega⟩ (v := z) (by rw [near_zero, ez])
    have l3 := fun w => On_yes px py ax ay bx by' w hp ha hb ez
    have l5 := fun w => Apart_yes px py ax ay bx by' d w hp ha hb hd ef
    have l4 := fun w hm => Near_yes px py ax ay bx by' more w hp ha hb hm ew
    have l6 := fun w hm => Apart_yes px py ax ay bx by' more w hp ha hb hm em
    have L1 := Lib.hid l1
    have L2 := Lib.hid l2
    have L3 := Lib.hid l3
    have L4 := Lib.hid l4
    have L5 := Lib.hid l5
    have L6 := Lib.hid l6
    have R1 := Lib.hid r1
    have R2 := Lib.hid r2
    have R3 := Lib.hid r3
    have R4 := Lib.hid r4
    have R5 := Lib.hid r5
    clear l1 l2 l3 l4 l5 l6 r1 r2 r3 r4 r5
    clear ex ez ef ew em
    go_wp2_with fail
    (with_reducible refine (L1.out _).mono ?_)
    rintro e w2 ⟨rfl, hb⟩
    have hX2 := below_step hX1 hb
    clear hb
    go_wp2_with fail
    (with_reducible refine (L2.out _).mono ?_)
    rintro e w3 ⟨rfl, hb⟩
    have hX3 := below_step hX2 hb
    clear hb
    go_wp2_with fail
    (with_reducible refine (L3.out _).mono ?_)
    rintro e w4 ⟨rfl, hb⟩
    have hX4 := below_step hX3 hb
    clear hb
    cases x with
    | false =>
      cases z with
      | true => have := R1.out rfl; cases this
      | false =>
        clear R1
        obtain rfl := R2.out rfl
        replace R5 : Hid (∀ qx qy, onB qx qy ax ay bx by' = true → d < dHi (sqd px py qx qy)) := Lib.hid (fun qx qy h => by rcases Int.lt_or_le d (dHi (sqd px py qx qy)) with h' | h'; exact h'; have := R5.out qx qy h h'; cases this)
        clear R2 R3 R4
        by_cases hm : 0 ≤ more ∧ more ≤ 3000000
        · go_wp2_with fail
          (with_reducible refine (L4.out _ hm).mono ?_)
          rintro e w5 ⟨rfl, hb⟩
          have hX5 := below_step hX4 hb
          clear hb
          rcases Int.lt_trichotomy more d with ho | ho | ho
          · go_wp2_with fail
            (with_reducible refine (L5.out _).mono ?_)
            rintro e w6 ⟨rfl, hb⟩
            have hX6 := below_step hX5 hb
            clear hb
            go_wp2_with fail
            (with_reducible refine (L6.out _ hm).mono ?_)
            rintro e w7 ⟨rfl, hb⟩
            have hX7 := below_step hX6 hb
            clear hb
            by_cases hq : Vld qx qy
            · obtain ⟨on, eo⟩ : ∃ x, onB qx qy ax ay bx by' = x := ⟨_, rfl⟩
              have l7 := fun w => On_yes qx qy ax ay bx by' w hq ha hb eo
              have l8 := fun w => Dist_yes px py qx qy w hp hq rfl rfl
              have r7 : on = true → d < dHi (sqd px py qx qy) := fun h => R5.out qx qy (eo.trans h)
              generalize dHi (sqd px py qx qy) = hi at *
              generalize isq (sqd px py qx qy) = lo at *
              have L7 := Lib.hid l7
              have L8 := Lib.hid l8
              clear l7 l8
              clear eo R5
              have R7 := Lib.hid r7
              clear r7
              go_wp2_with fail
              (with_reducible refine (L7.out _).mono ?_)
              rintro e w8 ⟨rfl, hb⟩
              have hX8 := below_step hX7 hb
              clear hb
              cases on with
              | false =>
                go_wp2_with fail
                (with_reducible refine (L8.out _).mono ?_)
                rintro e w9 ⟨rfl, hb⟩
                have hX9 := below_step hX8 hb
                clear hb
                have c_s := cell_block (block_new w9 (.cells #[.int .i64 lo, .int .i64 hi] 35))
                have hXa := fun o => hX9.alloc hX9.size o
                go_wp2_with fail
                go_returns
                exact ⟨rfl, below_step hB (hXa _)⟩
              | true =>
                have r8 := R7.out rfl
                go_wp2_with fail
                (with_reducible refine (L8.out _).mono ?_)
                rintro e w9 ⟨rfl, hb⟩
                have hX9 := below_step hX8 hb
                clear hb
                have c_s := cell_block (block_new w9 (.cells #[.int .i64 lo, .int .i64 hi] 35))
                have hXa := fun o => hX9.alloc hX9.size o
                go_wp2_with fail
                go_returns
                exact ⟨rfl, below_step hB (hXa _)⟩
            · have n7 : ¬ (Vld qx qy ∧ Vld ax ay ∧ Vld bx by') := fun h => hq h.1
              have n8 : ¬ (Vld px py ∧ Vld qx qy) := fun h => hq h.2
              clear R5
              go_wp2_with fail
              (with_reducible refine (On_no _ _ _ _ _ _ _ n7).mono ?_)
              rintro e w8 ⟨rfl, hb⟩
              have hX8 := below_step hX7 hb
              clear hb
              go_wp2_with fail
              (with_reducible refine (Dist_no _ _ _ _ _ n8).mono ?_)
              rintro e w9 ⟨rfl, hb⟩
              have hX9 := below_step hX8 hb
              clear hb
              have c_s := cell_block (block_new w9 (.cells #[.int .i64 0, .int .i64 0] 35))
              have hXa := fun o => hX9.alloc hX9.size o
              go_wp2_with fail
              go_returns
              exact ⟨rfl, below_step hB (hXa _)⟩
          · have ho1 : more ≤ d := by omega
            have ho2 : d ≤ more := by omega
            clear ho
            go_wp2_with fail
            (with_reducible refine (L5.out _).mono ?_)
            rintro e w6 ⟨rfl, hb⟩
            have hX6 := below_step hX5 hb
            clear hb
            go_wp2_with fail
            (with_reducible refine (L6.out _ hm).mono ?_)
            rintro e w7 ⟨rfl, hb⟩
            have hX7 := below_step hX6 hb
            clear hb
            by_cases hq : Vld qx qy
            · obtain ⟨on, eo⟩ : ∃ x, onB qx qy ax ay bx by' = x := ⟨_, rfl⟩
              have l7 := fun w => On_yes qx qy ax ay bx by' w hq ha hb eo
              have l8 := fun w => Dist_yes px py qx qy w hp hq rfl rfl
              have r7 : on = true → d < dHi (sqd px py qx qy) := fun h => R5.out qx qy (eo.trans h)
              generalize dHi (sqd px py qx qy) = hi at *
              generalize isq (sqd px py qx qy) = lo at *
              have L7 := Lib.hid l7
              have L8 := Lib.hid l8
              clear l7 l8
              clear eo R5
              have R7 := Lib.hid r7
              clear r7
              go_wp2_with fail
              (with_reducible refine (L7.out _).mono ?_)
              rintro e w8 ⟨rfl, hb⟩
              have hX8 := below_step hX7 hb
              clear hb
              cases on with
              | false =>
                go_wp2_with fail
                (with_reducible refine (L8.out _).mono ?_)
                rintro e w9 ⟨rfl, hb⟩
                have hX9 := below_step hX8 hb
                clear hb
                have c_s := cell_block (block_new w9 (.cells #[.int .i64 lo, .int .i64 hi] 35))
                have hXa := fun o => hX9.alloc hX9.size o
                go_wp2_with fail
                go_returns
                exact ⟨rfl, below_step hB (hXa _)⟩
              | true =>
                have r8 := R7.out rfl
                go_wp2_with fail
                (with_reducible refine (L8.out _).mono ?_)
                rintro e w9 ⟨rfl, hb⟩
                have hX9 := below_step hX8 hb
                clear hb
                have c_s := cell_block (block_new w9 (.cells #[.int .i64 lo, .int .i64 hi] 35))
                have hXa := fun o => hX9.alloc hX9.size o
                go_wp2_with fail
                go_returns
                exact ⟨rfl, below_step hB (hXa _)⟩
            · have n7 : ¬ (Vld qx qy ∧ Vld ax ay ∧ Vld bx by') := fun h => hq h.1
              have n8 : ¬ (Vld px py ∧ Vld qx qy) := fun h => hq h.2
              clear R5
              go_wp2_with fail
              (with_reducible refine (On_no _ _ _ _ _ _ _ n7).mono ?_)
              rintro e w8 ⟨rfl, hb⟩
              have hX8 := below_step hX7 hb
              clear hb
              go_wp2_with fail
              (with_reducible refine (Dist_no _ _ _ _ _ n8).mono ?_)
              rintro e w9 ⟨rfl, hb⟩
              have hX9 := below_step hX8 hb
              clear hb
              have c_s := cell_block (block_new w9 (.cells #[.int .i64 0, .int .i64 0] 35))
              have hXa := fun o => hX9.alloc hX9.size o
              go_wp2_with fail
              go_returns
              exact ⟨rfl, below_step hB (hXa _)⟩
          · go_wp2_with fail
            (with_reducible refine (L5.out _).mono ?_)
            rintro e w6 ⟨rfl, hb⟩
            have hX6 := below_step hX5 hb
            clear hb
            go_wp2_with fail
            (with_reducible refine (L6.out _ hm).mono ?_)
            rintro e w7 ⟨rfl, hb⟩
            have hX7 := below_step hX6 hb
            clear hb
            cases fm with
            | false =>
              by_cases hq : Vld qx qy
              · obtain ⟨on, eo⟩ : ∃ x, onB qx qy ax ay bx by' = x := ⟨_, rfl⟩
                have l7 := fun w => On_yes qx qy ax ay bx by' w hq ha hb eo
                have l8 := fun w => Dist_yes px py qx qy w hp hq rfl rfl
                have r7 : on = true → d < dHi (sqd px py qx qy) := fun h => R5.out qx qy (eo.trans h)
                generalize dHi (sqd px py qx qy) = hi at *
                generalize isq (sqd px py qx qy) = lo at *
                have L7 := Lib.hid l7
                have L8 := Lib.hid l8
                clear l7 l8
                clear eo R5
                have R7 := Lib.hid r7
                clear r7
                go_wp2_with fail
                (with_reducible refine (L7.out _).mono ?_)
                rintro e w8 ⟨rfl, hb⟩
                have hX8 := below_step hX7 hb
                clear hb
                cases on with
                | false =>
                  go_wp2_with fail
                  (with_reducible refine (L8.out _).mono ?_)
                  rintro e w9 ⟨rfl, hb⟩
                  have hX9 := below_step hX8 hb
                  clear hb
                  have c_s := cell_block (block_new w9 (.cells #[.int .i64 lo, .int .i64 hi] 35))
                  have hXa := fun o => hX9.alloc hX9.size o
                  go_wp2_with fail
                  go_returns
                  exact ⟨rfl, below_step hB (hXa _)⟩
                | true =>
                  have r8 := R7.out rfl
                  go_wp2_with fail
                  (with_reducible refine (L8.out _).mono ?_)
                  rintro e w9 ⟨rfl, hb⟩
                  have hX9 := below_step hX8 hb
                  clear hb
                  have c_s := cell_block (block_new w9 (.cells #[.int .i64 lo, .int .i64 hi] 35))
                  have hXa := fun o => hX9.alloc hX9.size o
                  go_wp2_with fail
                  go_returns
                  exact ⟨rfl, below_step hB (hXa _)⟩
              · have n7 : ¬ (Vld qx qy ∧ Vld ax ay ∧ Vld bx by') := fun h => hq h.1
                have n8 : ¬ (Vld px py ∧ Vld qx qy) := fun h => hq h.2
                clear R5
                go_wp2_with fail
                (with_reducible refine (On_no _ _ _ _ _ _ _ n7).mono ?_)
                rintro e w8 ⟨rfl, hb⟩
                have hX8 := below_step hX7 hb
                clear hb
                go_wp2_with fail
                (with_reducible refine (Dist_no _ _ _ _ _ n8).mono ?_)
                rintro e w9 ⟨rfl, hb⟩
                have hX9 := below_step hX8 hb
                clear hb
                have c_s := cell_block (block_new w9 (.cells #[.int .i64 0, .int .i64 0] 35))
                have hXa := fun o => hX9.alloc hX9.size o
                go_wp2_with fail
                go_returns
                exact ⟨rfl, below_step hB (hXa _)⟩
            | true =>
              by_cases hq : Vld qx qy
              · obtain ⟨on, eo⟩ : ∃ x, onB qx qy ax ay bx by' = x := ⟨_, rfl⟩
                have l7 := fun w => On_yes qx qy ax ay bx by' w hq ha hb eo
                have l8 := fun w => Dist_yes px py qx qy w hp hq rfl rfl
                have r7 : on = true → d < dHi (sqd px py qx qy) := fun h => R5.out qx qy (eo.trans h)
                generalize dHi (sqd px py qx qy) = hi at *
                generalize isq (sqd px py qx qy) = lo at *
                have L7 := Lib.hid l7
                have L8 := Lib.hid l8
                clear l7 l8
                clear eo R5
                have R7 := Lib.hid r7
                clear r7
                go_wp2_with fail
                (with_reducible refine (L7.out _).mono ?_)
                rintro e w8 ⟨rfl, hb⟩
                have hX8 := below_step hX7 hb
                clear hb
                cases on with
                | false =>
                  go_wp2_with fail
                  (with_reducible refine (L8.out _).mono ?_)
                  rintro e w9 ⟨rfl, hb⟩
                  have hX9 := below_step hX8 hb
                  clear hb
                  have c_s := cell_block (block_new w9 (.cells #[.int .i64 lo, .int .i64 hi] 35))
                  have hXa := fun o => hX9.alloc hX9.size o
                  go_wp2_with fail
                  go_returns
                  exact ⟨rfl, below_step hB (hXa _)⟩
                | true =>
                  have r8 := R7.out rfl
                  go_wp2_with fail
                  (with_reducible refine (L8.out _).mono ?_)
                  rintro e w9 ⟨rfl, hb⟩
                  have hX9 := below_step hX8 hb
                  clear hb
                  have c_s := cell_block (block_new w9 (.cells #[.int .i64 lo, .int .i64 hi] 35))
                  have hXa := fun o => hX9.alloc hX9.size o
                  go_wp2_with fail
                  go_returns
                  exact ⟨rfl, below_step hB (hXa _)⟩
              · have n7 : ¬ (Vld qx qy ∧ Vld ax ay ∧ Vld bx by') := fun h => hq h.1
                have n8 : ¬ (Vld px py ∧ Vld qx qy) := fun h => hq h.2
                clear R5
                go_wp2_with fail
                (with_reducible refine (On_no _ _ _ _ _ _ _ n7).mono ?_)
                rintro e w8 ⟨rfl, hb⟩
                have hX8 := below_step hX7 hb
                clear hb
                go_wp2_with fail
                (with_reducible refine (Dist_no _ _ _ _ _ n8).mono ?_)
                rintro e w9 ⟨rfl, hb⟩
                have hX9 := below_step hX8 hb
                clear hb
                have c_s := cell_block (block_new w9 (.cells #[.int .i64 0, .int .i64 0] 35))
                have hXa := fun o => hX9.alloc hX9.size o
                go_wp2_with fail
                go_returns
                exact ⟨rfl, below_step hB (hXa _)⟩
        · have n4 : ¬ (Vld px py ∧ Vld ax ay ∧ Vld bx by' ∧ 0 ≤ more ∧ more ≤ 3000000) := fun h => hm h.2.2.2
          go_wp2_with fail
          (with_reducible refine (Near_no _ _ _ _ _ _ _ _ n4).mono ?_)
          rintro e w5 ⟨rfl, hb⟩
          have hX5 := below_step hX4 hb
          clear hb
          go_wp2_with fail
          (with_reducible refine (L5.out _).mono ?_)
          rintro e w6 ⟨rfl, hb⟩
          have hX6 := below_step hX5 hb
          clear hb
          go_wp2_with fail
          (with_reducible refine (Apart_no _ _ _ _ _ _ _ _ n4).mono ?_)
          rintro e w7 ⟨rfl, hb⟩
          have hX7 := below_step hX6 hb
          clear hb
          by_cases hq : Vld qx qy
          · obtain ⟨on, eo⟩ : ∃ x, onB qx qy ax ay bx by' = x := ⟨_, rfl⟩
            have l7 := fun w => On_yes qx qy ax ay bx by' w hq ha hb eo
            have l8 := fun w => Dist_yes px py qx qy w hp hq rfl rfl
            have r7 : on = true → d < dHi (sqd px py qx qy) := fun h => R5.out qx qy (eo.trans h)
            generalize dHi (sqd px py qx qy) = hi at *
            generalize isq (sqd px py qx qy) = lo at *
            have L7 := Lib.hid l7
            have L8 := Lib.hid l8
            clear l7 l8
            clear eo R5
            have R7 := Lib.hid r7
            clear r7
            go_wp2_with fail
            (with_reducible refine (L7.out _).mono ?_)
            rintro e w8 ⟨rfl, hb⟩
            have hX8 := below_step hX7 hb
            clear hb
            cases on with
            | false =>
              go_wp2_with fail
              (with_reducible refine (L8.out _).mono ?_)
              rintro e w9 ⟨rfl, hb⟩
              have hX9 := below_step hX8 hb
              clear hb
              have c_s := cell_block (block_new w9 (.cells #[.int .i64 lo, .int .i64 hi] 35))
              have hXa := fun o => hX9.alloc hX9.size o
              go_wp2_with fail
              go_returns
              exact ⟨rfl, below_step hB (hXa _)⟩
            | true =>
              have r8 := R7.out rfl
              go_wp2_with fail
              (with_reducible refine (L8.out _).mono ?_)
              rintro e w9 ⟨rfl, hb⟩
              have hX9 := below_step hX8 hb
              clear hb
              have c_s := cell_block (block_new w9 (.cells #[.int .i64 lo, .int .i64 hi] 35))
              have hXa := fun o => hX9.alloc hX9.size o
              go_wp2_with fail
              go_returns
              exact ⟨rfl, below_step hB (hXa _)⟩
          · have n7 : ¬ (Vld qx qy ∧ Vld ax ay ∧ Vld bx by') := fun h => hq h.1
            have n8 : ¬ (Vld px py ∧ Vld qx qy) := fun h => hq h.2
            clear R5
            go_wp2_with fail
            (with_reducible refine (On_no _ _ _ _ _ _ _ n7).mono ?_)
            rintro e w8 ⟨rfl, hb⟩
            have hX8 := below_step hX7 hb
            clear hb
            go_wp2_with fail
            (with_reducible refine (Dist_no _ _ _ _ _ n8).mono ?_)
            rintro e w9 ⟨rfl, hb⟩
            have hX9 := below_step hX8 hb
            clear hb
            have c_s := cell_block (block_new w9 (.cells #[.int .i64 0, .int .i64 0] 35))
            have hXa := fun o => hX9.alloc hX9.size o
            go_wp2_with fail
            go_returns
            exact ⟨rfl, below_step hB (hXa _)⟩
    | true =>
      clear R1
      cases z with
      | false =>
        replace R3 : Hid (d ≤ more → wm = true) := Lib.hid (fun h => R3.out h rfl)
        replace R4 : Hid (d < more → fm = false) := Lib.hid (fun h => by cases fm; rfl; have := R4.out h rfl; cases this)
        clear R2 R5
        by_cases hm : 0 ≤ more ∧ more ≤ 3000000
        · go_wp2_with fail
          (with_reducible refine (L4.out _ hm).mono ?_)
          rintro e w5 ⟨rfl, hb⟩
          have hX5 := below_step hX4 hb
          clear hb
          rcases Int.lt_trichotomy more d with ho | ho | ho
          · clear R3
            go_wp2_with fail
            (with_reducible refine (L5.out _).mono ?_)
            rintro e w6 ⟨rfl, hb⟩
            have hX6 := below_step hX5 hb
            clear hb
            go_wp2_with fail
            (with_reducible refine (L6.out _ hm).mono ?_)
            rintro e w7 ⟨rfl, hb⟩
            have hX7 := below_step hX6 hb
            clear hb
            clear R4
            by_cases hq : Vld qx qy
            · obtain ⟨on, eo⟩ : ∃ x, onB qx qy ax ay bx by' = x := ⟨_, rfl⟩
              have l7 := fun w => On_yes qx qy ax ay bx by' w hq ha hb eo
              have l8 := fun w => Dist_yes px py qx qy w hp hq rfl rfl
              generalize dHi (sqd px py qx qy) = hi at *
              generalize isq (sqd px py qx qy) = lo at *
              have L7 := Lib.hid l7
              have L8 := Lib.hid l8
              clear l7 l8
              clear eo
              go_wp2_with fail
              (with_reducible refine (L7.out _).mono ?_)
              rintro e w8 ⟨rfl, hb⟩
              have hX8 := below_step hX7 hb
              clear hb
              cases on with
              | false =>
                go_wp2_with fail
                (with_reducible refine (L8.out _).mono ?_)
                rintro e w9 ⟨rfl, hb⟩
                have hX9 := below_step hX8 hb
                clear hb
                have c_s := cell_block (block_new w9 (.cells #[.int .i64 lo, .int .i64 hi] 35))
                have hXa := fun o => hX9.alloc hX9.size o
                go_wp2_with fail
                go_returns
                exact ⟨rfl, below_step hB (hXa _)⟩
              | true =>
                go_wp2_with fail
                (with_reducible refine (L8.out _).mono ?_)
                rintro e w9 ⟨rfl, hb⟩
                have hX9 := below_step hX8 hb
                clear hb
                have c_s := cell_block (block_new w9 (.cells #[.int .i64 lo, .int .i64 hi] 35))
                have hXa := fun o => hX9.alloc hX9.size o
                go_wp2_with fail
                all_goals
                  go_returns
                  exact ⟨rfl, below_step hB (hXa _)⟩
            · have n7 : ¬ (Vld qx qy ∧ Vld ax ay ∧ Vld bx by') := fun h => hq h.1
              have n8 : ¬ (Vld px py ∧ Vld qx qy) := fun h => hq h.2
              go_wp2_with fail
              (with_reducible refine (On_no _ _ _ _ _ _ _ n7).mono ?_)
              rintro e w8 ⟨rfl, hb⟩
              have hX8 := below_step hX7 hb
              clear hb
              go_wp2_with fail
              (with_reducible refine (Dist_no _ _ _ _ _ n8).mono ?_)
              rintro e w9 ⟨rfl, hb⟩
              have hX9 := below_step hX8 hb
              clear hb
              have c_s := cell_block (block_new w9 (.cells #[.int .i64 0, .int .i64 0] 35))
              have hXa := fun o => hX9.alloc hX9.size o
              go_wp2_with fail
              go_returns
              exact ⟨rfl, below_step hB (hXa _)⟩
          · have ho1 : more ≤ d := by omega
            have ho2 : d ≤ more := by omega
            clear ho
            obtain rfl := R3.out (by omega)
            clear R3
            go_wp2_with fail
            (with_reducible refine (L5.out _).mono ?_)
            rintro e w6 ⟨rfl, hb⟩
            have hX6 := below_step hX5 hb
            clear hb
            go_wp2_with fail
            (with_reducible refine (L6.out _ hm).mono ?_)
            rintro e w7 ⟨rfl, hb⟩
            have hX7 := below_step hX6 hb
            clear hb
            clear R4
            by_cases hq : Vld qx qy
            · obtain ⟨on, eo⟩ : ∃ x, onB qx qy ax ay bx by' = x := ⟨_, rfl⟩
              have l7 := fun w => On_yes qx qy ax ay bx by' w hq ha hb eo
              have l8 := fun w => Dist_yes px py qx qy w hp hq rfl rfl
              generalize dHi (sqd px py qx qy) = hi at *
              generalize isq (sqd px py qx qy) = lo at *
              have L7 := Lib.hid l7
              have L8 := Lib.hid l8
              clear l7 l8
              clear eo
              go_wp2_with fail
              (with_reducible refine (L7.out _).mono ?_)
              rintro e w8 ⟨rfl, hb⟩
              have hX8 := below_step hX7 hb
              clear hb
              cases on with
              | false =>
                go_wp2_with fail
                (with_reducible refine (L8.out _).mono ?_)
                rintro e w9 ⟨rfl, hb⟩
                have hX9 := below_step hX8 hb
                clear hb
                have c_s := cell_block (block_new w9 (.cells #[.int .i64 lo, .int .i64 hi] 35))
                have hXa := fun o => hX9.alloc hX9.size o
                go_wp2_with fail
                go_returns
                exact ⟨rfl, below_step hB (hXa _)⟩
              | true =>
                go_wp2_with fail
                (with_reducible refine (L8.out _).mono ?_)
                rintro e w9 ⟨rfl, hb⟩
                have hX9 := below_step hX8 hb
                clear hb
                have c_s := cell_block (block_new w9 (.cells #[.int .i64 lo, .int .i64 hi] 35))
                have hXa := fun o => hX9.alloc hX9.size o
                go_wp2_with fail
                all_goals
                  go_returns
                  exact ⟨rfl, below_step hB (hXa _)⟩
            · have n7 : ¬ (Vld qx qy ∧ Vld ax ay ∧ Vld bx by') := fun h => hq h.1
              have n8 : ¬ (Vld px py ∧ Vld qx qy) := fun h => hq h.2
              go_wp2_with fail
              (with_reducible refine (On_no _ _ _ _ _ _ _ n7).mono ?_)
              rintro e w8 ⟨rfl, hb⟩
              have hX8 := below_step hX7 hb
              clear hb
              go_wp2_with fail
              (with_reducible refine (Dist_no _ _ _ _ _ n8).mono ?_)
              rintro e w9 ⟨rfl, hb⟩
              have hX9 := below_step hX8 hb
              clear hb
              have c_s := cell_block (block_new w9 (.cells #[.int .i64 0, .int .i64 0] 35))
              have hXa := fun o => hX9.alloc hX9.size o
              go_wp2_with fail
              go_returns
              exact ⟨rfl, below_step hB (hXa _)⟩
          · obtain rfl := R3.out (by omega)
            clear R3
            go_wp2_with fail
            (with_reducible refine (L5.out _).mono ?_)
            rintro e w6 ⟨rfl, hb⟩
            have hX6 := below_step hX5 hb
            clear hb
            go_wp2_with fail
            (with_reducible refine (L6.out _ hm).mono ?_)
            rintro e w7 ⟨rfl, hb⟩
            have hX7 := below_step hX6 hb
            clear hb
            cases fm with
            | false =>
              clear R4
              by_cases hq : Vld qx qy
              · obtain ⟨on, eo⟩ : ∃ x, onB qx qy ax ay bx by' = x := ⟨_, rfl⟩
                have l7 := fun w => On_yes qx qy ax ay bx by' w hq ha hb eo
                have l8 := fun w => Dist_yes px py qx qy w hp hq rfl rfl
                generalize dHi (sqd px py qx qy) = hi at *
                generalize isq (sqd px py qx qy) = lo at *
                have L7 := Lib.hid l7
                have L8 := Lib.hid l8
                clear l7 l8
                clear eo
                go_wp2_with fail
                (with_reducible refine (L7.out _).mono ?_)
                rintro e w8 ⟨rfl, hb⟩
                have hX8 := below_step hX7 hb
                clear hb
                cases on with
                | false =>
                  go_wp2_with fail
                  (with_reducible refine (L8.out _).mono ?_)
                  rintro e w9 ⟨rfl, hb⟩
                  have hX9 := below_step hX8 hb
                  clear hb
                  have c_s := cell_block (block_new w9 (.cells #[.int .i64 lo, .int .i64 hi] 35))
                  have hXa := fun o => hX9.alloc hX9.size o
                  go_wp2_with fail
                  go_returns
                  exact ⟨rfl, below_step hB (hXa _)⟩
                | true =>
                  go_wp2_with fail
                  (with_reducible refine (L8.out _).mono ?_)
                  rintro e w9 ⟨rfl, hb⟩
                  have hX9 := below_step hX8 hb
                  clear hb
                  have c_s := cell_block (block_new w9 (.cells #[.int .i64 lo, .int .i64 hi] 35))
                  have hXa := fun o => hX9.alloc hX9.size o
                  go_wp2_with fail
                  all_goals
                    go_returns
                    exact ⟨rfl, below_step hB (hXa _)⟩
              · have n7 : ¬ (Vld qx qy ∧ Vld ax ay ∧ Vld bx by') := fun h => hq h.1
                have n8 : ¬ (Vld px py ∧ Vld qx qy) := fun h => hq h.2
                go_wp2_with fail
                (with_reducible refine (On_no _ _ _ _ _ _ _ n7).mono ?_)
                rintro e w8 ⟨rfl, hb⟩
                have hX8 := below_step hX7 hb
                clear hb
                go_wp2_with fail
                (with_reducible refine (Dist_no _ _ _ _ _ n8).mono ?_)
                rintro e w9 ⟨rfl, hb⟩
                have hX9 := below_step hX8 hb
                clear hb
                have c_s := cell_block (block_new w9 (.cells #[.int .i64 0, .int .i64 0] 35))
                have hXa := fun o => hX9.alloc hX9.size o
                go_wp2_with fail
                go_returns
                exact ⟨rfl, below_step hB (hXa _)⟩
            | true =>
              have := R4.out ho
              cases this
        · have n4 : ¬ (Vld px py ∧ Vld ax ay ∧ Vld bx by' ∧ 0 ≤ more ∧ more ≤ 3000000) := fun h => hm h.2.2.2
          go_wp2_with fail
          (with_reducible refine (Near_no _ _ _ _ _ _ _ _ n4).mono ?_)
          rintro e w5 ⟨rfl, hb⟩
          have hX5 := below_step hX4 hb
          clear hb
          clear R3 R4
          go_wp2_with fail
          (with_reducible refine (L5.out _).mono ?_)
          rintro e w6 ⟨rfl, hb⟩
          have hX6 := below_step hX5 hb
          clear hb
          go_wp2_with fail
          (with_reducible refine (Apart_no _ _ _ _ _ _ _ _ n4).mono ?_)
          rintro e w7 ⟨rfl, hb⟩
          have hX7 := below_step hX6 hb
          clear hb
          by_cases hq : Vld qx qy
          · obtain ⟨on, eo⟩ : ∃ x, onB qx qy ax ay bx by' = x := ⟨_, rfl⟩
            have l7 := fun w => On_yes qx qy ax ay bx by' w hq ha hb eo
            have l8 := fun w => Dist_yes px py qx qy w hp hq rfl rfl
            generalize dHi (sqd px py qx qy) = hi at *
            generalize isq (sqd px py qx qy) = lo at *
            have L7 := Lib.hid l7
            have L8 := Lib.hid l8
            clear l7 l8
            clear eo
            go_wp2_with fail
            (with_reducible refine (L7.out _).mono ?_)
            rintro e w8 ⟨rfl, hb⟩
            have hX8 := below_step hX7 hb
            clear hb
            cases on with
            | false =>
              go_wp2_with fail
              (with_reducible refine (L8.out _).mono ?_)
              rintro e w9 ⟨rfl, hb⟩
              have hX9 := below_step hX8 hb
              clear hb
              have c_s := cell_block (block_new w9 (.cells #[.int .i64 lo, .int .i64 hi] 35))
              have hXa := fun o => hX9.alloc hX9.size o
              go_wp2_with fail
              go_returns
              exact ⟨rfl, below_step hB (hXa _)⟩
            | true =>
              go_wp2_with fail
              (with_reducible refine (L8.out _).mono ?_)
              rintro e w9 ⟨rfl, hb⟩
              have hX9 := below_step hX8 hb
              clear hb
              have c_s := cell_block (block_new w9 (.cells #[.int .i64 lo, .int .i64 hi] 35))
              have hXa := fun o => hX9.alloc hX9.size o
              go_wp2_with fail
              all_goals
                go_returns
                exact ⟨rfl, below_step hB (hXa _)⟩
          · have n7 : ¬ (Vld qx qy ∧ Vld ax ay ∧ Vld bx by') := fun h => hq h.1
            have n8 : ¬ (Vld px py ∧ Vld qx qy) := fun h => hq h.2
            go_wp2_with fail
            (with_reducible refine (On_no _ _ _ _ _ _ _ n7).mono ?_)
            rintro e w8 ⟨rfl, hb⟩
            have hX8 := below_step hX7 hb
            clear hb
            go_wp2_with fail
            (with_reducible refine (Dist_no _ _ _ _ _ n8).mono ?_)
            rintro e w9 ⟨rfl, hb⟩
            have hX9 := below_step hX8 hb
            clear hb
            have c_s := cell_block (block_new w9 (.cells #[.int .i64 0, .int .i64 0] 35))
            have hXa := fun o => hX9.alloc hX9.size o
            go_wp2_with fail
            go_returns
            exact ⟨rfl, below_step hB (hXa _)⟩
      | true =>
        replace R3 : Hid (d ≤ more → wm = true) := Lib.hid (fun h => R3.out h rfl)
        replace R4 : Hid (d < more → fm = false) := Lib.hid (fun h => by cases fm; rfl; have := R4.out h rfl; cases this)
        clear R2 R5
        by_cases hm : 0 ≤ more ∧ more ≤ 3000000
        · go_wp2_with fail
          (with_reducible refine (L4.out _ hm).mono ?_)
          rintro e w5 ⟨rfl, hb⟩
          have hX5 := below_step hX4 hb
          clear hb
          rcases Int.lt_trichotomy more d with ho | ho | ho
          · clear R3
            go_wp2_with fail
            (with_reducible refine (L5.out _).mono ?_)
            rintro e w6 ⟨rfl, hb⟩
            have hX6 := below_step hX5 hb
            clear hb
            go_wp2_with fail
            (with_reducible refine (L6.out _ hm).mono ?_)
            rintro e w7 ⟨rfl, hb⟩
            have hX7 := below_step hX6 hb
            clear hb
            clear R4
            by_cases hq : Vld qx qy
            · obtain ⟨on, eo⟩ : ∃ x, onB qx qy ax ay bx by' = x := ⟨_, rfl⟩
              have l7 := fun w => On_yes qx qy ax ay bx by' w hq ha hb eo
              have l8 := fun w => Dist_yes px py qx qy w hp hq rfl rfl
              generalize dHi (sqd px py qx qy) = hi at *
              generalize isq (sqd px py qx qy) = lo at *
              have L7 := Lib.hid l7
              have L8 := Lib.hid l8
              clear l7 l8
              clear eo
              go_wp2_with fail
              (with_reducible refine (L7.out _).mono ?_)
              rintro e w8 ⟨rfl, hb⟩
              have hX8 := below_step hX7 hb
              clear hb
              cases on with
              | false =>
                go_wp2_with fail
                (with_reducible refine (L8.out _).mono ?_)
                rintro e w9 ⟨rfl, hb⟩
                have hX9 := below_step hX8 hb
                clear hb
                have c_s := cell_block (block_new w9 (.cells #[.int .i64 lo, .int .i64 hi] 35))
                have hXa := fun o => hX9.alloc hX9.size o
                go_wp2_with fail
                go_returns
                exact ⟨rfl, below_step hB (hXa _)⟩
              | true =>
                go_wp2_with fail
                (with_reducible refine (L8.out _).mono ?_)
                rintro e w9 ⟨rfl, hb⟩
                have hX9 := below_step hX8 hb
                clear hb
                have c_s := cell_block (block_new w9 (.cells #[.int .i64 lo, .int .i64 hi] 35))
                have hXa := fun o => hX9.alloc hX9.size o
                go_wp2_with fail
                all_goals
                  go_returns
                  exact ⟨rfl, below_step hB (hXa _)⟩
            · have n7 : ¬ (Vld qx qy ∧ Vld ax ay ∧ Vld bx by') := fun h => hq h.1
              have n8 : ¬ (Vld px py ∧ Vld qx qy) := fun h => hq h.2
              go_wp2_with fail
              (with_reducible refine (On_no _ _ _ _ _ _ _ n7).mono ?_)
              rintro e w8 ⟨rfl, hb⟩
              have hX8 := below_step hX7 hb
              clear hb
              go_wp2_with fail
              (with_reducible refine (Dist_no _ _ _ _ _ n8).mono ?_)
              rintro e w9 ⟨rfl, hb⟩
              have hX9 := below_step hX8 hb
              clear hb
              have c_s := cell_block (block_new w9 (.cells #[.int .i64 0, .int .i64 0] 35))
              have hXa := fun o => hX9.alloc hX9.size o
              go_wp2_with fail
              go_returns
              exact ⟨rfl, below_step hB (hXa _)⟩
          · have ho1 : more ≤ d := by omega
            have ho2 : d ≤ more := by omega
            clear ho
            obtain rfl := R3.out (by omega)
            clear R3
            go_wp2_with fail
            (with_reducible refine (L5.out _).mono ?_)
            rintro e w6 ⟨rfl, hb⟩
            have hX6 := below_step hX5 hb
            clear hb
            go_wp2_with fail
            (with_reducible refine (L6.out _ hm).mono ?_)
            rintro e w7 ⟨rfl, hb⟩
            have hX7 := below_step hX6 hb
            clear hb
            clear R4
            by_cases hq : Vld qx qy
            · obtain ⟨on, eo⟩ : ∃ x, onB qx qy ax ay bx by' = x := ⟨_, rfl⟩
              have l7 := fun w => On_yes qx qy ax ay bx by' w hq ha hb eo
              have l8 := fun w => Dist_yes px py qx qy w hp hq rfl rfl
              generalize dHi (sqd px py qx qy) = hi at *
              generalize isq (sqd px py qx qy) = lo at *
              have L7 := Lib.hid l7
              have L8 := Lib.hid l8
              clear l7 l8
              clear eo
              go_wp2_with fail
              (with_reducible refine (L7.out _).mono ?_)
              rintro e w8 ⟨rfl, hb⟩
              have hX8 := below_step hX7 hb
              clear hb
              cases on with
              | false =>
                go_wp2_with fail
                (with_reducible refine (L8.out _).mono ?_)
                rintro e w9 ⟨rfl, hb⟩
                have hX9 := below_step hX8 hb
                clear hb
                have c_s := cell_block (block_new w9 (.cells #[.int .i64 lo, .int .i64 hi] 35))
                have hXa := fun o => hX9.alloc hX9.size o
                go_wp2_with fail
                go_returns
                exact ⟨rfl, below_step hB (hXa _)⟩
              | true =>
                go_wp2_with fail
                (with_reducible refine (L8.out _).mono ?_)
                rintro e w9 ⟨rfl, hb⟩
                have hX9 := below_step hX8 hb
                clear hb
                have c_s := cell_block (block_new w9 (.cells #[.int .i64 lo, .int .i64 hi] 35))
                have hXa := fun o => hX9.alloc hX9.size o
                go_wp2_with fail
                all_goals
                  go_returns
                  exact ⟨rfl, below_step hB (hXa _)⟩
            · have n7 : ¬ (Vld qx qy ∧ Vld ax ay ∧ Vld bx by') := fun h => hq h.1
              have n8 : ¬ (Vld px py ∧ Vld qx qy) := fun h => hq h.2
              go_wp2_with fail
              (with_reducible refine (On_no _ _ _ _ _ _ _ n7).mono ?_)
              rintro e w8 ⟨rfl, hb⟩
              have hX8 := below_step hX7 hb
              clear hb
              go_wp2_with fail
              (with_reducible refine (Dist_no _ _ _ _ _ n8).mono ?_)
              rintro e w9 ⟨rfl, hb⟩
              have hX9 := below_step hX8 hb
              clear hb
              have c_s := cell_block (block_new w9 (.cells #[.int .i64 0, .int .i64 0] 35))
              have hXa := fun o => hX9.alloc hX9.size o
              go_wp2_with fail
              go_returns
              exact ⟨rfl, below_step hB (hXa _)⟩
          · obtain rfl := R3.out (by omega)
            clear R3
            go_wp2_with fail
            (with_reducible refine (L5.out _).mono ?_)
            rintro e w6 ⟨rfl, hb⟩
            have hX6 := below_step hX5 hb
            clear hb
            go_wp2_with fail
            (with_reducible refine (L6.out _ hm).mono ?_)
            rintro e w7 ⟨rfl, hb⟩
            have hX7 := below_step hX6 hb
            clear hb
            cases fm with
            | false =>
              clear R4
              by_cases hq : Vld qx qy
              · obtain ⟨on, eo⟩ : ∃ x, onB qx qy ax ay bx by' = x := ⟨_, rfl⟩
                have l7 := fun w => On_yes qx qy ax ay bx by' w hq ha hb eo
                have l8 := fun w => Dist_yes px py qx qy w hp hq rfl rfl
                generalize dHi (sqd px py qx qy) = hi at *
                generalize isq (sqd px py qx qy) = lo at *
                have L7 := Lib.hid l7
                have L8 := Lib.hid l8
                clear l7 l8
                clear eo
                go_wp2_with fail
                (with_reducible refine (L7.out _).mono ?_)
                rintro e w8 ⟨rfl, hb⟩
                have hX8 := below_step hX7 hb
                clear hb
                cases on with
                | false =>
                  go_wp2_with fail
                  (with_reducible refine (L8.out _).mono ?_)
                  rintro e w9 ⟨rfl, hb⟩
                  have hX9 := below_step hX8 hb
                  clear hb
                  have c_s := cell_block (block_new w9 (.cells #[.int .i64 lo, .int .i64 hi] 35))
                  have hXa := fun o => hX9.alloc hX9.size o
                  go_wp2_with fail
                  go_returns
                  exact ⟨rfl, below_step hB (hXa _)⟩
                | true =>
                  go_wp2_with fail
                  (with_reducible refine (L8.out _).mono ?_)
                  rintro e w9 ⟨rfl, hb⟩
                  have hX9 := below_step hX8 hb
                  clear hb
                  have c_s := cell_block (block_new w9 (.cells #[.int .i64 lo, .int .i64 hi] 35))
                  have hXa := fun o => hX9.alloc hX9.size o
                  go_wp2_with fail
                  all_goals
                    go_returns
                    exact ⟨rfl, below_step hB (hXa _)⟩
              · have n7 : ¬ (Vld qx qy ∧ Vld ax ay ∧ Vld bx by') := fun h => hq h.1
                have n8 : ¬ (Vld px py ∧ Vld qx qy) := fun h => hq h.2
                go_wp2_with fail
                (with_reducible refine (On_no _ _ _ _ _ _ _ n7).mono ?_)
                rintro e w8 ⟨rfl, hb⟩
                have hX8 := below_step hX7 hb
                clear hb
                go_wp2_with fail
                (with_reducible refine (Dist_no _ _ _ _ _ n8).mono ?_)
                rintro e w9 ⟨rfl, hb⟩
                have hX9 := below_step hX8 hb
                clear hb
                have c_s := cell_block (block_new w9 (.cells #[.int .i64 0, .int .i64 0] 35))
                have hXa := fun o => hX9.alloc hX9.size o
                go_wp2_with fail
                go_returns
                exact ⟨rfl, below_step hB (hXa _)⟩
            | true =>
              have := R4.out ho
              cases this
        · have n4 : ¬ (Vld px py ∧ Vld ax ay ∧ Vld bx by' ∧ 0 ≤ more ∧ more ≤ 3000000) := fun h => hm h.2.2.2
          go_wp2_with fail
          (with_reducible refine (Near_no _ _ _ _ _ _ _ _ n4).mono ?_)
          rintro e w5 ⟨rfl, hb⟩
          have hX5 := below_step hX4 hb
          clear hb
          clear R3 R4
          go_wp2_with fail
          (with_reducible refine (L5.out _).mono ?_)
          rintro e w6 ⟨rfl, hb⟩
          have hX6 := below_step hX5 hb
          clear hb
          go_wp2_with fail
          (with_reducible refine (Apart_no _ _ _ _ _ _ _ _ n4).mono ?_)
          rintro e w7 ⟨rfl, hb⟩
          have hX7 := below_step hX6 hb
          clear hb
          by_cases hq : Vld qx qy
          · obtain ⟨on, eo⟩ : ∃ x, onB qx qy ax ay bx by' = x := ⟨_, rfl⟩
            have l7 := fun w => On_yes qx qy ax ay bx by' w hq ha hb eo
            have l8 := fun w => Dist_yes px py qx qy w hp hq rfl rfl
            generalize dHi (sqd px py qx qy) = hi at *
            generalize isq (sqd px py qx qy) = lo at *
            have L7 := Lib.hid l7
            have L8 := Lib.hid l8
            clear l7 l8
            clear eo
            go_wp2_with fail
            (with_reducible refine (L7.out _).mono ?_)
            rintro e w8 ⟨rfl, hb⟩
            have hX8 := below_step hX7 hb
            clear hb
            cases on with
            | false =>
              go_wp2_with fail
              (with_reducible refine (L8.out _).mono ?_)
              rintro e w9 ⟨rfl, hb⟩
              have hX9 := below_step hX8 hb
              clear hb
              have c_s := cell_block (block_new w9 (.cells #[.int .i64 lo, .int .i64 hi] 35))
              have hXa := fun o => hX9.alloc hX9.size o
              go_wp2_with fail
              go_returns
              exact ⟨rfl, below_step hB (hXa _)⟩
            | true =>
              go_wp2_with fail
              (with_reducible refine (L8.out _).mono ?_)
              rintro e w9 ⟨rfl, hb⟩
              have hX9 := below_step hX8 hb
              clear hb
              have c_s := cell_block (block_new w9 (.cells #[.int .i64 lo, .int .i64 hi] 35))
              have hXa := fun o => hX9.alloc hX9.size o
              go_wp2_with fail
              all_goals
                go_returns
                exact ⟨rfl, below_step hB (hXa _)⟩
          · have n7 : ¬ (Vld qx qy ∧ Vld ax ay ∧ Vld bx by') := fun h => hq h.1
            have n8 : ¬ (Vld px py ∧ Vld qx qy) := fun h => hq h.2
            go_wp2_with fail
            (with_reducible refine (On_no _ _ _ _ _ _ _ n7).mono ?_)
            rintro e w8 ⟨rfl, hb⟩
            have hX8 := below_step hX7 hb
            clear hb
            go_wp2_with fail
            (with_reducible refine (Dist_no _ _ _ _ _ n8).mono ?_)
            rintro e w9 ⟨rfl, hb⟩
            have hX9 := below_step hX8 hb
            clear hb
            have c_s := cell_block (block_new w9 (.cells #[.int .i64 0, .int .i64 0] 35))
            have hXa := fun o => hX9.alloc hX9.size o
            go_wp2_with fail
            go_returns
            exact ⟨rfl, below_step hB (hXa _)⟩
  · go_wp2_with fail
    (with_reducible refine (Near_no _ _ _ _ _ _ _ _ hv).mono ?_)
    rintro e w2 ⟨rfl, hb⟩
    have hX2 := below_step hX1 hb
    clear hb
    go_wp2_with fail
    go_returns
    exact ⟨rfl, below_step hB hX2⟩
set_option maxRecDepth 100000 in
theorem planeNear_lifted (os : Os) (started : os.Started) (H : Type) (enc : TypeId × Value → H) :
    ReturnsInHanded {} Try.checked os 10 .any (Rows.planeNearSpec.pre6 enc Try.prog Try.f10 Rows.planeNearRow.domain false) (Rows.planeNearSpec.post enc Try.prog Try.f10 false true false false) := by
  refine returnsInHanded_of_change (C := Try.checked) own_knob started (by kernel_rfl) Try.func10
    (ChangeSpec.witness6 (enc := enc) (C := Try.checked) false ⟨#[], #[.agg #[.int .i64 0, .int .i64 0], .agg #[.int .i64 0, .int .i64 0], .agg #[.int .i64 0, .int .i64 0], .int .i64 0, .int .i64 0, .agg #[.int .i64 0, .int .i64 0]], []⟩ 8 (by kernel_rfl) (by kernel_rfl) (by kernel_rfl) (by kernel_rfl)) ?_
  intro W base args ds gs before hval0 hW hcnd _
  have hval : ∀ (j : Nat) t v, Try.f10.params[j]? = some t → args[j]? = some v → Value.okWide Try.prog W .any base t v := hval0
  have hW' := hW
  obtain ⟨p, q, hA0, hV, rfl, hfz, hnd⟩ := hW
  have hA : DataW.TrodAll enc Try.prog W 0 (fun _ => true) true Try.f10.params.toList args.toList ds p := hA0
  rw [Try.params10] at hA hval
  obtain ⟨v0, vs0, d0, ds0, p0, q0, hargs, rfl, rfl, h0, r0⟩ := trodAll_cons hA
  obtain ⟨v1, vs1, d1, ds1, p1, q1, rfl, rfl, rfl, h1, r1⟩ := trodAll_cons r0
  obtain ⟨v2, vs2, d2, ds2, p2, q2, rfl, rfl, rfl, h2, r2⟩ := trodAll_cons r1
  obtain ⟨v3, vs3, d3, ds3, p3, q3, rfl, rfl, rfl, h3, r3⟩ := trodAll_cons r2
  obtain ⟨v4, vs4, d4, ds4, p4, q4, rfl, rfl, rfl, h4, r4⟩ := trodAll_cons r3
  obtain ⟨v5, vs5, d5, ds5, p5, q5, rfl, rfl, rfl, h5, r5⟩ := trodAll_cons r4
  obtain ⟨rfl, rfl, rfl⟩ := trodAll_nil r5
  obtain rfl : args = #[v0, v1, v2, v3, v4, v5] := by cases args; simp_all
  obtain ⟨rfl, rfl⟩ := trodVars_none hV
  simp only [List.append_nil] at hW' hA0
  obtain ⟨px, py, e0, wx0, wy0⟩ := open_point (hval 0 23 v0 rfl rfl) h0
  subst e0
  obtain ⟨ax, ay, e1, wx1, wy1⟩ := open_point (hval 1 23 v1 rfl rfl) h1
  subst e1
  obtain ⟨bx, by', e2, wx2, wy2⟩ := open_point (hval 2 23 v2 rfl rfl) h2
  subst e2
  obtain ⟨d, e3, _, _, w3⟩ := open_int Try.underlying3 (hval 3 3 v3 rfl rfl) h3
  subst e3
  obtain ⟨more, e4, _, _, w4⟩ := open_int Try.underlying3 (hval 4 3 v4 rfl rfl) h4
  subst e4
  obtain ⟨qx, qy, e5, wx5, wy5⟩ := open_point (hval 5 23 v5 rfl rfl) h5
  subst e5
  refine (planeNear_walk px py ax ay bx by' d more qx qy W).mono fun e W' ⟨he, hg⟩ => ?_
  subst he
  exact ⟨_, rfl, post_law laid_out (by rw [Try.params10]; intro t ht; simp only [List.mem_cons, List.not_mem_nil, or_false] at ht; rcases ht with rfl | rfl | rfl | rfl | rfl | rfl <;> exact ⟨by kernel_rfl, of_decide_eq_true (by kernel_rfl)⟩) rfl hW' hA0 rfl rfl rfl rfl Try.underlying4 hg⟩
theorem planeNear_over : Rows.planeNearRow.holds Try.pinned (OpenSpec.ofChange Rows.planeNearSpec) :=
  OpenClaim.holds_of_wide 10 Try.f10 rfl rfl rfl rfl rfl rfl rfl ⟨rfl, rfl, rfl, rfl, rfl⟩ rfl rfl rfl rfl rfl (by kernel_rfl) Try.func10 (by kernel_rfl)
    (of_decide_eq_true (by kernel_rfl)) (by unfold Func.isWrapper; first | (rw [if_pos (by decide +kernel)]; kernel_rfl) | (rw [if_neg (by decide +kernel)]; exact ⟨rfl, rfl⟩))
    (fun os started H enc _ => planeNear_lifted os started H enc)
theorem planeNear_holds : Rows.PlaneNearSaid :=
  planeNear_over
#print axioms planeNear_holds
end Go.Proofs.Ytkpmiehggmeejaa
