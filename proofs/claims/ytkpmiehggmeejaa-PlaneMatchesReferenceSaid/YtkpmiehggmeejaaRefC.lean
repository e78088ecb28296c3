/- The walks of chapter 1's reference: nearness, closeness, roots, discs. -/
import Derived.Test.YtkpmiehggmeejaaRefB
namespace Go.Proofs.Ytkpmiehggmeejaa
open Go.RowKit
attribute [local go_sem] bqOp bqAll bqUpon
attribute [local irreducible] wpQuiet wpBQ
theorem sqd_comm' (ax ay bx by' : Int) : sqd ax ay bx by' = sqd bx by' ax ay := by
  unfold sqd
  rw [show ax - bx = -(bx - ax) by omega, show ay - by' = -(by' - ay) by omega, Int.neg_mul_neg, Int.neg_mul_neg]
set_option maxHeartbeats 2000000 in
theorem rWithin_any (px py ax ay bx by' r : Int) (w : World) (hp : Vld px py) (ha : Vld ax ay) (hb : Vld bx by') (h1 : 0 ≤ r) (h2 : r ≤ 3000000) {v : Bool} (hv : nearB px py ax ay bx by' r = v) :
    Calls Try.prog 48 #[.agg #[.int .i64 px, .int .i64 py], .agg #[.int .i64 ax, .int .i64 ay], .agg #[.int .i64 bx, .int .i64 by'], .int .i64 r] w fun e w' => e = .returned (.bool v) ∧ Below w.heap.size w w' := by
  obtain ⟨⟨m1, m2⟩, m3, m4⟩ := crs_bd ha hb hp
  obtain ⟨⟨m5, m6⟩, m7, m8⟩ := sqd_bd ha hb
  obtain ⟨⟨m9, m10⟩, m11, m12⟩ := foot_bd hp ha hb
  obtain ⟨⟨m13, m14⟩, m15, m16⟩ := sqd_bd ha hp
  obtain ⟨z1, z2⟩ := mul_bd (a := r) (b := r) (A := 3000000) (B := 3000000) (by omega) (by omega) (by omega) (by omega)
  have z3 := sq_nn r
  have HP := Lib.hid hp
  have HB := Lib.hid hb
  have bq : sqd px py bx by' = sqd bx by' px py := sqd_comm' _ _ _ _
  obtain ⟨a1, a2, a3, a4⟩ := ha
  obtain ⟨b1, b2, b3, b4⟩ := hb
  obtain ⟨c1, c2, c3, c4⟩ := hp
  have hmax : ∀ C : Int, max C (-C) * max C (-C) = C * C := fun C => by rcases Int.le_total 0 C with h | h; rw [show max C (-C) = C by omega]; rw [show max C (-C) = -C by omega]; exact Int.neg_mul_neg _ _
  rw [nearB, sqNum, sqFac, sqDen, foot, crs] at hv
  have HV := Lib.hid hv
  have HM := Lib.hid hmax
  have BQ := Lib.hid bq
  clear hv hmax bq
  go_enter Try.func48, Try.ntmps48
  go_wp2_with fail
  refine calls_named fun W hW => ?_
  obtain ⟨p1, p2, p3, hB⟩ := box3 hW
  clear hW
  have q1 := cellsL p1
  have q2 := cellsL p2
  have q3 := cellsL p3
  clear p1 p2 p3
  have hX0 := Below.refl W.heap.size W
  (with_reducible refine (rMinus_any _ _ _ _ _ (by omega) (by omega) (by omega) (by omega)).mono ?_)
  rintro e w1 ⟨rfl, hb⟩
  have hX1 := below_step hX0 hb
  clear hb
  have hXa := fun o => hX1.alloc hX1.size o
  go_wp2_with fail
  refine calls_named fun y2 hy2 => ?_
  have p_v : y2.heap[w1.heap.size]? = some (.cells #[.int .i64 (bx - ax), .int .i64 (by' - ay)] 23) := by rw [hy2]; exact block_new _ _
  have hX2 : Below W.heap.size W y2 := by rw [hy2]; exact hX1.alloc hX1.size _
  clear hy2
  (with_reducible refine (rMinus_any _ _ _ _ _ (by omega) (by omega) (by omega) (by omega)).mono ?_)
  rintro e w3 ⟨rfl, hb⟩
  have hX3 := below_step hX2 hb
  replace p_v := block_later hb p_v
  clear hb
  have hXa := fun o => hX3.alloc hX3.size o
  have c_v := fun o => cell_block (block_alloc (o' := o) p_v)
  have c_w := cell_block (block_new w3 (.cells #[.int .i64 (px - ax), .int .i64 (py - ay)] 23))
  go_wp2_with fail
  clear c_v c_w
  refine calls_named fun y4 hy4 => ?_
  have p_w : y4.heap[w3.heap.size]? = some (.cells #[.int .i64 (px - ax), .int .i64 (py - ay)] 23) := by rw [hy4]; exact block_new _ _
  replace p_v := block_alloc (o' := .cells #[.int .i64 (px - ax), .int .i64 (py - ay)] 23) p_v
  rw [← hy4] at p_v
  have hX4 : Below W.heap.size W y4 := by rw [hy4]; exact hX3.alloc hX3.size _
  clear hy4
  (with_reducible refine (rDot_any _ _ _ _ _ (by omega) (by omega) (by omega) (by omega) (by omega) (by omega)).mono ?_)
  rintro e w5 ⟨rfl, hb⟩
  have hX5 := below_step hX4 hb
  replace p_v := block_later hb p_v
  replace p_w := block_later hb p_w
  clear hb
  have c_v := cell_block p_v
  have c_w := cell_block p_w
  go_wp2_with fail
  clear c_v c_w
  (with_reducible refine (rDot_any _ _ _ _ _ (by omega) (by omega) (by omega) (by omega) (by omega) (by omega)).mono ?_)
  rintro e w6 ⟨rfl, hb⟩
  have hX6 := below_step hX5 hb
  replace p_v := block_later hb p_v
  replace p_w := block_later hb p_w
  clear hb
  by_cases t1 : (bx - ax) * (px - ax) + (by' - ay) * (py - ay) ≤ 0
  · have c_v := cell_block p_v
    have c_w := cell_block p_w
    go_wp2_with fail
    clear c_v c_w
    (with_reducible refine (rDot_any _ _ _ _ _ (by omega) (by omega) (by omega) (by omega) (by omega) (by omega)).mono ?_)
    rintro e w7 ⟨rfl, hb⟩
    have hX7 := below_step hX6 hb
    replace p_v := block_later hb p_v
    replace p_w := block_later hb p_w
    clear hb
    have c_v := cell_block p_v
    have c_w := cell_block p_w
    go_wp2_with fail
    have e := HV.out
    simp only [t1, if_true, sqd] at e
    all_goals
      go_returns
      exact ⟨ret_bool (by rw [← e]; simp <;> omega), below_step hB hX7⟩
  · by_cases t2 : (bx - ax) * (bx - ax) + (by' - ay) * (by' - ay) ≤ (bx - ax) * (px - ax) + (by' - ay) * (py - ay)
    · go_wp2_with fail
      (with_reducible refine (rSquare_any _ _ _ _ _ HP.out HB.out).mono ?_)
      rintro e w7 ⟨rfl, hb⟩
      have hX7 := below_step hX6 hb
      replace p_v := block_later hb p_v
      replace p_w := block_later hb p_w
      clear hb
      have x1 := (sqd_bd HP.out HB.out)
      have x2 : 0 ≤ sqd px py bx by' ∧ sqd px py bx by' ≤ 8000000000000 := by unfold sqd; omega
      clear x1
      have e := HV.out
      have t1' : ¬ (bx - ax) * (px - ax) + (by' - ay) * (py - ay) ≤ 0 := by omega
      rw [if_neg t1', if_neg t1', if_neg t1'] at e
      unfold sqd at e
      rw [if_pos t2, if_pos t2, if_pos t2] at e
      have e' := BQ.out
      rw [show (px - bx) * (px - bx) + (py - by') * (py - by') = sqd bx by' px py from rfl, ← e'] at e
      have E := Lib.hid e
      clear e e' HV
      have c_v := cell_block p_v
      have c_w := cell_block p_w
      go_wp2_with fail
      all_goals
        go_returns
        exact ⟨ret_bool (by rw [← E.out]; simp <;> omega), below_step hB hX7⟩
    · have c_v := cell_block p_v
      have c_w := cell_block p_w
      go_wp2_with fail
      clear c_v c_w
      (with_reducible refine (rCross_any _ _ _ _ _ (by omega) (by omega) (by omega) (by omega) (by omega) (by omega)).mono ?_)
      rintro e w7 ⟨rfl, hb⟩
      have hX7 := below_step hX6 hb
      replace p_v := block_later hb p_v
      replace p_w := block_later hb p_w
      clear hb
      have e := HV.out
      have t1' : ¬ (bx - ax) * (px - ax) + (by' - ay) * (py - ay) ≤ 0 := by omega
      have t2' : ¬ (bx - ax) * (bx - ax) + (by' - ay) * (by' - ay) ≤ (bx - ax) * (px - ax) + (by' - ay) * (py - ay) := by omega
      rw [if_neg t1', if_neg t1', if_neg t1'] at e
      unfold sqd at e
      rw [if_neg t2', if_neg t2', if_neg t2', HM.out] at e
      have E := Lib.hid e
      clear e HV HM BQ t1' t2'
      have n1 : -8000000000000 ≤ (bx - ax) * (py - ay) - (by' - ay) * (px - ax) := by omega
      have n2 : (bx - ax) * (py - ay) - (by' - ay) * (px - ax) ≤ 8000000000000 := by omega
      have n3 : (bx - ax) * (bx - ax) + (by' - ay) * (by' - ay) ≤ 8000000000000 := by omega
      have n4 : 0 ≤ (bx - ax) * (bx - ax) + (by' - ay) * (by' - ay) := by omega
      clear t1 t2 m1 m2 m3 m4 m5 m6 m7 m8 m9 m10 m11 m12 m13 m14 m15 m16
      generalize (bx - ax) * (py - ay) - (by' - ay) * (px - ax) = C at *
      generalize (bx - ax) * (bx - ax) + (by' - ay) * (by' - ay) = L at *
      by_cases hC : 0 ≤ C
      · have hC2 : -C ≤ C := by omega
        go_wp2_with fail
        (with_reducible refine (rTimes_any C C _ (by omega) (by omega) (by omega) (by omega)).mono ?_)
        rintro e w8 ⟨rfl, hb⟩
        have hX8 := below_step hX7 hb
        replace p_v := block_later hb p_v
        replace p_w := block_later hb p_w
        clear hb
        go_wp2_with fail
        (with_reducible refine (rTimes_any (r * r) L _ (by omega) (by omega) (by omega) (by omega)).mono ?_)
        rintro e w9 ⟨rfl, hb⟩
        have hX9 := below_step hX8 hb
        replace p_v := block_later hb p_v
        replace p_w := block_later hb p_w
        clear hb
        go_wp2_with fail
        (with_reducible refine (rMost_any _ _ _ _ _ (v := v) (by rw [← E.out]; exact decide_eq_decide.2 (by omega))).mono ?_)
        rintro e w10 ⟨rfl, hb⟩
        have hX10 := below_step hX9 hb
        replace p_v := block_later hb p_v
        replace p_w := block_later hb p_w
        clear hb
        have c_v := cell_block p_v
        have c_w := cell_block p_w
        go_wp2_with fail
        go_returns
        exact ⟨rfl, below_step hB hX10⟩
      · have hC2 : C < -C := by omega
        have eC : -C * -C = C * C := Int.neg_mul_neg _ _
        go_wp2_with fail
        (with_reducible refine (rTimes_any (-C) (-C) _ (by omega) (by omega) (by omega) (by omega)).mono ?_)
        rintro e w8 ⟨rfl, hb⟩
        have hX8 := below_step hX7 hb
        replace p_v := block_later hb p_v
        replace p_w := block_later hb p_w
        clear hb
        go_wp2_with fail
        (with_reducible refine (rTimes_any (r * r) L _ (by omega) (by omega) (by omega) (by omega)).mono ?_)
        rintro e w9 ⟨rfl, hb⟩
        have hX9 := below_step hX8 hb
        replace p_v := block_later hb p_v
        replace p_w := block_later hb p_w
        clear hb
        go_wp2_with fail
        (with_reducible refine (rMost_any _ _ _ _ _ (v := v) (by rw [← E.out]; exact decide_eq_decide.2 (by omega))).mono ?_)
        rintro e w10 ⟨rfl, hb⟩
        have hX10 := below_step hX9 hb
        replace p_v := block_later hb p_v
        replace p_w := block_later hb p_w
        clear hb
        have c_v := cell_block p_v
        have c_w := cell_block p_w
        go_wp2_with fail
        go_returns
        exact ⟨rfl, below_step hB hX10⟩
set_option maxHeartbeats 2000000 in
theorem rBeyond_any (px py ax ay bx by' r : Int) (w : World) (hp : Vld px py) (ha : Vld ax ay) (hb : Vld bx by') (h1 : 0 ≤ r) (h2 : r ≤ 3000000) {v : Bool} (hv : apartB px py ax ay bx by' r = v) :
    Calls Try.prog 52 #[.agg #[.int .i64 px, .int .i64 py], .agg #[.int .i64 ax, .int .i64 ay], .agg #[.int .i64 bx, .int .i64 by'], .int .i64 r] w fun e w' => e = .returned (.bool v) ∧ Below w.heap.size w w' := by
  obtain ⟨⟨m1, m2⟩, m3, m4⟩ := crs_bd ha hb hp
  obtain ⟨⟨m5, m6⟩, m7, m8⟩ := sqd_bd ha hb
  obtain ⟨⟨m9, m10⟩, m11, m12⟩ := foot_bd hp ha hb
  obtain ⟨⟨m13, m14⟩, m15, m16⟩ := sqd_bd ha hp
  obtain ⟨z1, z2⟩ := mul_bd (a := r) (b := r) (A := 3000000) (B := 3000000) (by omega) (by omega) (by omega) (by omega)
  have z3 := sq_nn r
  have HP := Lib.hid hp
  have HB := Lib.hid hb
  have bq : sqd px py bx by' = sqd bx by' px py := sqd_comm' _ _ _ _
  obtain ⟨a1, a2, a3, a4⟩ := ha
  obtain ⟨b1, b2, b3, b4⟩ := hb
  obtain ⟨c1, c2, c3, c4⟩ := hp
  have hmax : ∀ C : Int, max C (-C) * max C (-C) = C * C := fun C => by rcases Int.le_total 0 C with h | h; rw [show max C (-C) = C by omega]; rw [show max C (-C) = -C by omega]; exact Int.neg_mul_neg _ _
  rw [apartB, sqNum, sqFac, sqDen, foot, crs] at hv
  have HV := Lib.hid hv
  have HM := Lib.hid hmax
  have BQ := Lib.hid bq
  clear hv hmax bq
  go_enter Try.func52, Try.ntmps52
  go_wp2_with fail
  refine calls_named fun W hW => ?_
  obtain ⟨p1, p2, p3, hB⟩ := box3 hW
  clear hW
  have q1 := cellsL p1
  have q2 := cellsL p2
  have q3 := cellsL p3
  clear p1 p2 p3
  have hX0 := Below.refl W.heap.size W
  (with_reducible refine (rMinus_any _ _ _ _ _ (by omega) (by omega) (by omega) (by omega)).mono ?_)
  rintro e w1 ⟨rfl, hb⟩
  have hX1 := below_step hX0 hb
  clear hb
  have hXa := fun o => hX1.alloc hX1.size o
  go_wp2_with fail
  refine calls_named fun y2 hy2 => ?_
  have p_v : y2.heap[w1.heap.size]? = some (.cells #[.int .i64 (bx - ax), .int .i64 (by' - ay)] 23) := by rw [hy2]; exact block_new _ _
  have hX2 : Below W.heap.size W y2 := by rw [hy2]; exact hX1.alloc hX1.size _
  clear hy2
  (with_reducible refine (rMinus_any _ _ _ _ _ (by omega) (by omega) (by omega) (by omega)).mono ?_)
  rintro e w3 ⟨rfl, hb⟩
  have hX3 := below_step hX2 hb
  replace p_v := block_later hb p_v
  clear hb
  have hXa := fun o => hX3.alloc hX3.size o
  have c_v := fun o => cell_block (block_alloc (o' := o) p_v)
  have c_w := cell_block (block_new w3 (.cells #[.int .i64 (px - ax), .int .i64 (py - ay)] 23))
  go_wp2_with fail
  clear c_v c_w
  refine calls_named fun y4 hy4 => ?_
  have p_w : y4.heap[w3.heap.size]? = some (.cells #[.int .i64 (px - ax), .int .i64 (py - ay)] 23) := by rw [hy4]; exact block_new _ _
  replace p_v := block_alloc (o' := .cells #[.int .i64 (px - ax), .int .i64 (py - ay)] 23) p_v
  rw [← hy4] at p_v
  have hX4 : Below W.heap.size W y4 := by rw [hy4]; exact hX3.alloc hX3.size _
  clear hy4
  (with_reducible refine (rDot_any _ _ _ _ _ (by omega) (by omega) (by omega) (by omega) (by omega) (by omega)).mono ?_)
  rintro e w5 ⟨rfl, hb⟩
  have hX5 := below_step hX4 hb
  replace p_v := block_later hb p_v
  replace p_w := block_later hb p_w
  clear hb
  have c_v := cell_block p_v
  have c_w := cell_block p_w
  go_wp2_with fail
  clear c_v c_w
  (with_reducible refine (rDot_any _ _ _ _ _ (by omega) (by omega) (by omega) (by omega) (by omega) (by omega)).mono ?_)
  rintro e w6 ⟨rfl, hb⟩
  have hX6 := below_step hX5 hb
  replace p_v := block_later hb p_v
  replace p_w := block_later hb p_w
  clear hb
  by_cases t1 : (bx - ax) * (px - ax) + (by' - ay) * (py - ay) ≤ 0
  · have c_v := cell_block p_v
    have c_w := cell_block p_w
    go_wp2_with fail
    clear c_v c_w
    (with_reducible refine (rDot_any _ _ _ _ _ (by omega) (by omega) (by omega) (by omega) (by omega) (by omega)).mono ?_)
    rintro e w7 ⟨rfl, hb⟩
    have hX7 := below_step hX6 hb
    replace p_v := block_later hb p_v
    replace p_w := block_later hb p_w
    clear hb
    have c_v := cell_block p_v
    have c_w := cell_block p_w
    go_wp2_with fail
    have e := HV.out
    simp only [t1, if_true, sqd] at e
    all_goals
      go_returns
      exact ⟨ret_bool (by rw [← e]; simp <;> omega), below_step hB hX7⟩
  · by_cases t2 : (bx - ax) * (bx - ax) + (by' - ay) * (by' - ay) ≤ (bx - ax) * (px - ax) + (by' - ay) * (py - ay)
    · go_wp2_with fail
      (with_reducible refine (rSquare_any _ _ _ _ _ HP.out HB.out).mono ?_)
      rintro e w7 ⟨rfl, hb⟩
      have hX7 := below_step hX6 hb
      replace p_v := block_later hb p_v
      replace p_w := block_later hb p_w
      clear hb
      have x1 := (sqd_bd HP.out HB.out)
      have x2 : 0 ≤ sqd px py bx by' ∧ sqd px py bx by' ≤ 8000000000000 := by unfold sqd; omega
      clear x1
      have e := HV.out
      have t1' : ¬ (bx - ax) * (px - ax) + (by' - ay) * (py - ay) ≤ 0 := by omega
      rw [if_neg t1', if_neg t1', if_neg t1'] at e
      unfold sqd at e
      rw [if_pos t2, if_pos t2, if_pos t2] at e
      have e' := BQ.out
      rw [show (px - bx) * (px - bx) + (py - by') * (py - by') = sqd bx by' px py from rfl, ← e'] at e
      have E := Lib.hid e
      clear e e' HV
      have c_v := cell_block p_v
      have c_w := cell_block p_w
      go_wp2_with fail
      all_goals
        go_returns
        exact ⟨ret_bool (by rw [← E.out]; simp <;> omega), below_step hB hX7⟩
    · have c_v := cell_block p_v
      have c_w := cell_block p_w
      go_wp2_with fail
      clear c_v c_w
      (with_reducible refine (rCross_any _ _ _ _ _ (by omega) (by omega) (by omega) (by omega) (by omega) (by omega)).mono ?_)
      rintro e w7 ⟨rfl, hb⟩
      have hX7 := below_step hX6 hb
      replace p_v := block_later hb p_v
      replace p_w := block_later hb p_w
      clear hb
      have e := HV.out
      have t1' : ¬ (bx - ax) * (px - ax) + (by' - ay) * (py - ay) ≤ 0 := by omega
      have t2' : ¬ (bx - ax) * (bx - ax) + (by' - ay) * (by' - ay) ≤ (bx - ax) * (px - ax) + (by' - ay) * (py - ay) := by omega
      rw [if_neg t1', if_neg t1', if_neg t1'] at e
      unfold sqd at e
      rw [if_neg t2', if_neg t2', if_neg t2', HM.out] at e
      have E := Lib.hid e
      clear e HV HM BQ t1' t2'
      have n1 : -8000000000000 ≤ (bx - ax) * (py - ay) - (by' - ay) * (px - ax) := by omega
      have n2 : (bx - ax) * (py - ay) - (by' - ay) * (px - ax) ≤ 8000000000000 := by omega
      have n3 : (bx - ax) * (bx - ax) + (by' - ay) * (by' - ay) ≤ 8000000000000 := by omega
      have n4 : 0 ≤ (bx - ax) * (bx - ax) + (by' - ay) * (by' - ay) := by omega
      clear t1 t2 m1 m2 m3 m4 m5 m6 m7 m8 m9 m10 m11 m12 m13 m14 m15 m16
      generalize (bx - ax) * (py - ay) - (by' - ay) * (px - ax) = C at *
      generalize (bx - ax) * (bx - ax) + (by' - ay) * (by' - ay) = L at *
      by_cases hC : 0 ≤ C
      · have hC2 : -C ≤ C := by omega
        go_wp2_with fail
        (with_reducible refine (rTimes_any (r * r) L _ (by omega) (by omega) (by omega) (by omega)).mono ?_)
        rintro e w8 ⟨rfl, hb⟩
        have hX8 := below_step hX7 hb
        replace p_v := block_later hb p_v
        replace p_w := block_later hb p_w
        clear hb
        go_wp2_with fail
        (with_reducible refine (rTimes_any C C _ (by omega) (by omega) (by omega) (by omega)).mono ?_)
        rintro e w9 ⟨rfl, hb⟩
        have hX9 := below_step hX8 hb
        replace p_v := block_later hb p_v
        replace p_w := block_later hb p_w
        clear hb
        go_wp2_with fail
        (with_reducible refine (rMost_any _ _ _ _ _ (v := v) (by rw [← E.out]; exact decide_eq_decide.2 (by omega))).mono ?_)
        rintro e w10 ⟨rfl, hb⟩
        have hX10 := below_step hX9 hb
        replace p_v := block_later hb p_v
        replace p_w := block_later hb p_w
        clear hb
        have c_v := cell_block p_v
        have c_w := cell_block p_w
        go_wp2_with fail
        go_returns
        exact ⟨rfl, below_step hB hX10⟩
      · have hC2 : C < -C := by omega
        have eC : -C * -C = C * C := Int.neg_mul_neg _ _
        go_wp2_with fail
        (with_reducible refine (rTimes_any (r * r) L _ (by omega) (by omega) (by omega) (by omega)).mono ?_)
        rintro e w8 ⟨rfl, hb⟩
        have hX8 := below_step hX7 hb
        replace p_v := block_later hb p_v
        replace p_w := block_later hb p_w
        clear hb
        go_wp2_with fail
        (with_reducible refine (rTimes_any (-C) (-C) _ (by omega) (by omega) (by omega) (by omega)).mono ?_)
        rintro e w9 ⟨rfl, hb⟩
        have hX9 := below_step hX8 hb
        replace p_v := block_later hb p_v
        replace p_w := block_later hb p_w
        clear hb
        go_wp2_with fail
        (with_reducible refine (rMost_any _ _ _ _ _ (v := v) (by rw [← E.out]; exact decide_eq_decide.2 (by omega))).mono ?_)
        rintro e w10 ⟨rfl, hb⟩
        have hX10 := below_step hX9 hb
        replace p_v := block_later hb p_v
        replace p_w := block_later hb p_w
        clear hb
        have c_v := cell_block p_v
        have c_w := cell_block p_w
        go_wp2_with fail
        go_returns
        exact ⟨rfl, below_step hB hX10⟩
set_option maxHeartbeats 2000000 in
theorem rBeside_any (ax ay bx by' cx cy dx dy r : Int) (w : World) (ha : Vld ax ay) (hb : Vld bx by') (hc : Vld cx cy) (hd : Vld dx dy) (hr : 0 ≤ r ∧ r ≤ 3000000) {v : Bool} (hv : closeB ax ay bx by' cx cy dx dy r = v) :
    Calls Try.prog 49 #[.agg #[.int .i64 ax, .int .i64 ay], .agg #[.int .i64 bx, .int .i64 by'], .agg #[.int .i64 cx, .int .i64 cy], .agg #[.int .i64 dx, .int .i64 dy], .int .i64 r] w fun e w' => e = .returned (.bool v) ∧ Below w.heap.size w w' := by
  obtain ⟨v0, g0⟩ : ∃ s, meetB ax ay bx by' cx cy dx dy = s := ⟨_, rfl⟩
  obtain ⟨v1, g1⟩ : ∃ s, nearB ax ay cx cy dx dy r = s := ⟨_, rfl⟩
  obtain ⟨v2, g2⟩ : ∃ s, nearB bx by' cx cy dx dy r = s := ⟨_, rfl⟩
  obtain ⟨v3, g3⟩ : ∃ s, nearB cx cy ax ay bx by' r = s := ⟨_, rfl⟩
  obtain ⟨v4, g4⟩ : ∃ s, nearB dx dy ax ay bx by' r = s := ⟨_, rfl⟩
  rw [closeB, g0, g1, g2, g3, g4] at hv
  have HV := Lib.hid hv
  clear hv
  go_enter Try.func49, Try.ntmps49
  go_wp2_with fail
  refine calls_named fun W hW => ?_
  obtain ⟨p1, p2, p3, p4, hB⟩ := box4 hW
  clear hW
  have q1 := cellsL p1
  have q2 := cellsL p2
  have q3 := cellsL p3
  have q4 := cellsL p4
  clear p1 p2 p3 p4
  have hX0 := Below.refl W.heap.size W
  (with_reducible refine (rCrosses_any _ _ _ _ _ _ _ _ _ ha hb hc hd g0).mono ?_)
  rintro e w1 ⟨rfl, hb⟩
  have hX1 := below_step hX0 hb
  clear hb
  cases v0 with
  | true =>
    go_wp2_with fail
    go_returns
    exact ⟨by rw [← HV.out]; rfl, below_step hB hX1⟩
  | false =>
    go_wp2_with fail
    (with_reducible refine (rWithin_any _ _ _ _ _ _ _ _ ha hc hd hr.1 hr.2 g1).mono ?_)
    rintro e w2 ⟨rfl, hb⟩
    have hX2 := below_step hX1 hb
    clear hb
    cases v1 with
    | true =>
      go_wp2_with fail
      go_returns
      exact ⟨by rw [← HV.out]; rfl, below_step hB hX2⟩
    | false =>
      go_wp2_with fail
      (with_reducible refine (rWithin_any _ _ _ _ _ _ _ _ hb hc hd hr.1 hr.2 g2).mono ?_)
      rintro e w3 ⟨rfl, hb⟩
      have hX3 := below_step hX2 hb
      clear hb
      cases v2 with
      | true =>
        go_wp2_with fail
        go_returns
        exact ⟨by rw [← HV.out]; rfl, below_step hB hX3⟩
      | false =>
        go_wp2_with fail
        (with_reducible refine (rWithin_any _ _ _ _ _ _ _ _ hc ha hb hr.1 hr.2 g3).mono ?_)
        rintro e w4 ⟨rfl, hb⟩
        have hX4 := below_step hX3 hb
        clear hb
        cases v3 with
        | true =>
          go_wp2_with fail
          go_returns
          exact ⟨by rw [← HV.out]; rfl, below_step hB hX4⟩
        | false =>
          go_wp2_with fail
          (with_reducible refine (rWithin_any _ _ _ _ _ _ _ _ hd ha hb hr.1 hr.2 g4).mono ?_)
          rintro e w5 ⟨rfl, hb⟩
          have hX5 := below_step hX4 hb
          clear hb
          cases v4 with
          | true =>
            go_wp2_with fail
            go_returns
            exact ⟨by rw [← HV.out]; rfl, below_step hB hX5⟩
          | false =>
            go_wp2_with fail
            go_returns
            exact ⟨by rw [← HV.out]; rfl, below_step hB hX5⟩
set_option maxHeartbeats 1000000 in
theorem rRoot_any (n : Int) (w : World) (h0 : 0 ≤ n) (h1 : n < 16000000000000) :
    Calls Try.prog 55 #[.int .i64 n] w fun e w' => e = .returned (.int .i64 (isq n)) ∧ w = w' := by
  go_enter Try.func55, Try.ntmps55
  go_wp2
  go_loop [3, 4] (fun l h => ∃ (L H : Int), l = .int .i64 L ∧ h = .int .i64 H ∧ 0 ≤ L ∧ L < H ∧ H ≤ 4000000 ∧ L * L ≤ n ∧ n < H * H) (fun l h => (intOf h - intOf l).toNat)
  case atStart => exact ⟨0, 4000000, rfl, rfl, by omega, by omega, by omega, by omega, by omega⟩
  case round =>
    obtain ⟨L, H, rfl, rfl, hL, hLH, hH, hl, hh⟩ := hrel
    by_cases hd : 1 < H - L
    · have t1 : 0 ≤ (L + H) / 2 := by omega
      have t2 : (L + H) / 2 ≤ 4000000 := by omega
      have t3 := Int.mul_le_mul t2 t2 t1 (by omega : (0 : Int) ≤ 4000000)
      have t4 := Int.mul_nonneg t1 t1
      have t5 : L < (L + H) / 2 := by omega
      have t6 : (L + H) / 2 < H := by omega
      obtain ⟨m, hm⟩ : ∃ m, (L + H) / 2 = m := ⟨_, rfl⟩
      rw [hm] at t1 t2 t3 t4 t5 t6
      by_cases hle : m * m ≤ n
      · go_wp2
        go_round
        case rel => exact ⟨m, H, by rw [hm], rfl, by omega, by omega, hH, hle, hh⟩
        case measure => simp [intOf]; omega
      · go_wp2
        go_round
        case rel => exact ⟨L, m, rfl, by rw [hm], hL, by omega, by omega, hl, by omega⟩
        case measure => simp [intOf]; omega
    · have e : H = L + 1 := by omega
      subst e
      have E := Lib.hid (isq_eq hL hl hh)
      clear hl hh
      go_wp2
      go_returns
      exact ⟨ret_int E.out.symm, rfl⟩
theorem rInside_any (px py r qx qy s : Int) (w : World) (hp : Vld px py) (hq : Vld qx qy) (hr : 0 ≤ r ∧ r ≤ 3000000) (hs : 0 ≤ s ∧ s ≤ 3000000) {v : Bool} (hv : liesB px py r qx qy s = v) :
    Calls Try.prog 53 #[.agg #[.int .i64 px, .int .i64 py], .int .i64 r, .agg #[.int .i64 qx, .int .i64 qy], .int .i64 s] w fun e w' => e = .returned (.bool v) ∧ Below w.heap.size w w' := by
  obtain ⟨s1, s2⟩ := mul_bd (a := s - r) (b := s - r) (A := 3000000) (B := 3000000) (by omega) (by omega) (by omega) (by omega)
  obtain ⟨r1, r2⟩ := hr
  obtain ⟨z1, z2⟩ := hs
  rw [liesB] at hv
  have HV := Lib.hid hv
  clear hv
  by_cases t : r ≤ s
  · go_enter Try.func53, Try.ntmps53
    go_wp2_with fail
    refine calls_named fun W hW => ?_
    obtain ⟨p1, p2, hB⟩ := box2 hW
    clear hW p1 p2
    (with_reducible refine (rSquare_any _ _ _ _ _ hp hq).mono ?_)
    rintro e w1 ⟨rfl, hb1⟩
    go_wp2_with fail
    all_goals
      go_returns
      exact ⟨ret_bool (by rw [← HV.out]; simp [t]), below_step hB hb1⟩
  · have t' : s < r := by omega
    go_enter Try.func53, Try.ntmps53
    go_wp2_with fail
    go_returns
    exact ⟨ret_bool (by rw [← HV.out]; have t'' : ¬ r ≤ s := by omega
                        simp [t'']), by go_grown⟩
end Go.Proofs.Ytkpmiehggmeejaa
