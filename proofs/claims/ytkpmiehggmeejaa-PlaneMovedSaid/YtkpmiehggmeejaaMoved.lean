/- The statement PlaneMoved of chapter 1: for any places, a distance and a movement the law's function returns true and leaves its arguments as they were. No condition. -/
import Derived.Test.YtkpmiehggmeejaaPlaneHead
import Derived.Test.YtkpmiehggmeejaaPlaneMoveMath
import Derived.Test.YtkpmiehggmeejaaFrame
namespace Go.Proofs.Ytkpmiehggmeejaa
open Go.ChangeShapes Go.WideShapes Go.ChangeAt Go.RowKit
set_option linter.unusedVariables false
theorem turned_mir (px py vx vy : Int) (w : World) (hp : Vld px py) (hv : Vld vx vy) :
    Calls Try.prog 20 #[.agg #[.int .i64 px, .int .i64 py], .agg #[.int .i64 vx, .int .i64 vy], .bool true] w fun e w' => e = .returned (.agg #[.int .i64 (vx - px), .int .i64 (vy + py)]) ∧ Below w.heap.size w w' := by
  obtain ⟨a1, a2, a3, a4⟩ := hp
  obtain ⟨b1, b2, b3, b4⟩ := hv
  go_enter Try.func20, Try.ntmps20
  go_wp2_with fail
  refine calls_named fun W hW => ?_
  obtain ⟨p1, p2, p3, hB⟩ := box3 hW
  clear hW p1 p2
  (with_reducible refine (at_any _ _ _).mono ?_)
  rintro e w1 ⟨rfl, hb1⟩
  have f3 := free_block (block_later hb1 p3)
  have c3 := cell_block (block_later hb1 p3)
  have P3 := Lib.hid (block_later hb1 p3)
  clear p3
  go_wp2_with fail
  have c9 := cell_block (block_set (i := 1) (block_set (i := 0) P3.out (.int .i64 (vx - px))) (.int .i64 (vy + py)))
  exact bodyPost_ret (v := .agg #[.int .i64 (vx - px), .int .i64 (vy + py)]) (by simp [results, Try.results20, go_sem, c9]) rfl ⟨rfl, ((below_step hB hb1).setCell (by dsimp only; omega) _).setCell (by dsimp only; omega) _⟩
theorem turned_rotq (px py vx vy : Int) (w : World) (hp : Vld px py) (hv : Vld vx vy) :
    Calls Try.prog 20 #[.agg #[.int .i64 px, .int .i64 py], .agg #[.int .i64 vx, .int .i64 vy], .bool false] w fun e w' => e = .returned (.agg #[.int .i64 (vx - py), .int .i64 (vy + px)]) ∧ Below w.heap.size w w' := by
  obtain ⟨a1, a2, a3, a4⟩ := hp
  obtain ⟨b1, b2, b3, b4⟩ := hv
  go_enter Try.func20, Try.ntmps20
  go_wp2_with fail
  refine calls_named fun W hW => ?_
  obtain ⟨p1, p2, p3, hB⟩ := box3 hW
  clear hW p1 p2
  (with_reducible refine (at_any _ _ _).mono ?_)
  rintro e w1 ⟨rfl, hb1⟩
  have f3 := free_block (block_later hb1 p3)
  have c3 := cell_block (block_later hb1 p3)
  have P3 := Lib.hid (block_later hb1 p3)
  clear p3
  go_wp2_with fail
  have c9 := cell_block (block_set (i := 1) (block_set (i := 0) P3.out (.int .i64 (vx - py))) (.int .i64 (vy + px)))
  exact bodyPost_ret (v := .agg #[.int .i64 (vx - py), .int .i64 (vy + px)]) (by simp [results, Try.results20, go_sem, c9]) rfl ⟨rfl, ((below_step hB hb1).setCell (by dsimp only; omega) _).setCell (by dsimp only; omega) _⟩
set_option maxRecDepth 100000 in
set_option maxHeartbeats 8000000 in
theorem planeMoved_mir (ax ay bx by' cx cy dx dy r vx vy : Int) (w : World) :
    Calls Try.prog 8 #[.agg #[.int .i64 ax, .int .i64 ay], .agg #[.int .i64 bx, .int .i64 by'], .agg #[.int .i64 cx, .int .i64 cy], .agg #[.int .i64 dx, .int .i64 dy], .int .i64 r, .agg #[.int .i64 vx, .int .i64 vy], .bool true] w fun e w' => e = .returned (.bool true) ∧ Below w.heap.size w w' := by
  go_enter Try.func8, Try.ntmps8
  go_wp2_with fail
  refine calls_named fun W hW => ?_
  obtain ⟨p1, p2, p3, p4, p5, hB⟩ := box5 hW
  clear hW
  have q1 := cellsL p1
  have q2 := cellsL p2
  have q3 := cellsL p3
  have q4 := cellsL p4
  have q5 := cellsL p5
  clear p1 p2 p3 p4 p5
  have hX0 := Below.refl W.heap.size W
  (with_reducible refine (head_any _).mono ?_)
  rintro e w1 ⟨rfl, hb⟩
  have hX1 := below_step hX0 hb
  clear hb
  by_cases ha : Vld ax ay
  · go_wp2_with fail
    (with_reducible refine (valid_yes _ _ _ ha).mono ?_)
    rintro e w2 ⟨rfl, hb⟩
    have hX2 := below_step hX1 hb
    clear hb
    by_cases hb : Vld bx by'
    · go_wp2_with fail
      (with_reducible refine (valid_yes _ _ _ hb).mono ?_)
      rintro e w3 ⟨rfl, hb⟩
      have hX3 := below_step hX2 hb
      clear hb
      by_cases hc : Vld cx cy
      · go_wp2_with fail
        (with_reducible refine (valid_yes _ _ _ hc).mono ?_)
        rintro e w4 ⟨rfl, hb⟩
        have hX4 := below_step hX3 hb
        clear hb
        by_cases hd : Vld dx dy
        · go_wp2_with fail
          (with_reducible refine (valid_yes _ _ _ hd).mono ?_)
          rintro e w5 ⟨rfl, hb⟩
          have hX5 := below_step hX4 hb
          clear hb
          by_cases hv : Vld vx vy
          · go_wp2_with fail
            (with_reducible refine (valid_yes _ _ _ hv).mono ?_)
            rintro e w6 ⟨rfl, hb⟩
            have hX6 := below_step hX5 hb
            clear hb
            go_wp2_with fail
            (with_reducible refine (turned_mir ax ay vx vy _ ha hv).mono ?_)
            rintro e w7 ⟨rfl, hb⟩
            have hX7 := below_step hX6 hb
            clear hb
            have hXa := fun o => hX7.alloc hX7.size o
            go_wp2_with fail
            refine calls_named fun y8 hy8 => ?_
            have p_ta : y8.heap[w7.heap.size]? = some (.cells #[.int .i64 (vx - ax), .int .i64 (vy + ay)] 23) := by rw [hy8]; exact block_new _ _
            have hX8 : Below W.heap.size W y8 := by rw [hy8]; exact hX7.alloc hX7.size _
            clear hy8
            (with_reducible refine (turned_mir bx by' vx vy _ hb hv).mono ?_)
            rintro e w9 ⟨rfl, hb⟩
            have hX9 := below_step hX8 hb
            replace p_ta := block_later hb p_ta
            clear hb
            have hXa := fun o => hX9.alloc hX9.size o
            go_wp2_with fail
            refine calls_named fun y10 hy10 => ?_
            have p_tb : y10.heap[w9.heap.size]? = some (.cells #[.int .i64 (vx - bx), .int .i64 (vy + by')] 23) := by rw [hy10]; exact block_new _ _
            replace p_ta := block_alloc (o' := .cells #[.int .i64 (vx - bx), .int .i64 (vy + by')] 23) p_ta
            rw [← hy10] at p_ta
            have hX10 : Below W.heap.size W y10 := by rw [hy10]; exact hX9.alloc hX9.size _
            clear hy10
            (with_reducible refine (turned_mir cx cy vx vy _ hc hv).mono ?_)
            rintro e w11 ⟨rfl, hb⟩
            have hX11 := below_step hX10 hb
            replace p_ta := block_later hb p_ta
            replace p_tb := block_later hb p_tb
            clear hb
            have hXa := fun o => hX11.alloc hX11.size o
            go_wp2_with fail
            refine calls_named fun y12 hy12 => ?_
            have p_tc : y12.heap[w11.heap.size]? = some (.cells #[.int .i64 (vx - cx), .int .i64 (vy + cy)] 23) := by rw [hy12]; exact block_new _ _
            replace p_ta := block_alloc (o' := .cells #[.int .i64 (vx - cx), .int .i64 (vy + cy)] 23) p_ta
            rw [← hy12] at p_ta
            replace p_tb := block_alloc (o' := .cells #[.int .i64 (vx - cx), .int .i64 (vy + cy)] 23) p_tb
            rw [← hy12] at p_tb
            have hX12 : Below W.heap.size W y12 := by rw [hy12]; exact hX11.alloc hX11.size _
            clear hy12
            (with_reducible refine (turned_mir dx dy vx vy _ hd hv).mono ?_)
            rintro e w13 ⟨rfl, hb⟩
            have hX13 := below_step hX12 hb
            replace p_ta := block_later hb p_ta
            replace p_tb := block_later hb p_tb
            replace p_tc := block_later hb p_tc
            clear hb
            by_cases ka : Vld (vx - ax) (vy + ay)
            · have hXa := fun o => hX13.alloc hX13.size o
              have c_ta := fun o => cell_block (block_alloc (o' := o) p_ta)
              have c_tb := fun o => cell_block (block_alloc (o' := o) p_tb)
              have c_tc := fun o => cell_block (block_alloc (o' := o) p_tc)
              have c_td := cell_block (block_new w13 (.cells #[.int .i64 (vx - dx), .int .i64 (vy + dy)] 23))
              go_wp2_with fail
              clear c_ta c_tb c_tc c_td
              refine calls_named fun y14 hy14 => ?_
              have p_td : y14.heap[w13.heap.size]? = some (.cells #[.int .i64 (vx - dx), .int .i64 (vy + dy)] 23) := by rw [hy14]; exact block_new _ _
              replace p_ta := block_alloc (o' := .cells #[.int .i64 (vx - dx), .int .i64 (vy + dy)] 23) p_ta
              rw [← hy14] at p_ta
              replace p_tb := block_alloc (o' := .cells #[.int .i64 (vx - dx), .int .i64 (vy + dy)] 23) p_tb
              rw [← hy14] at p_tb
              replace p_tc := block_alloc (o' := .cells #[.int .i64 (vx - dx), .int .i64 (vy + dy)] 23) p_tc
              rw [← hy14] at p_tc
              have hX14 : Below W.heap.size W y14 := by rw [hy14]; exact hX13.alloc hX13.size _
              clear hy14
              (with_reducible refine (valid_yes _ _ _ ka).mono ?_)
              rintro e w15 ⟨rfl, hb⟩
              have hX15 := below_step hX14 hb
              replace p_ta := block_later hb p_ta
              replace p_tb := block_later hb p_tb
              replace p_tc := block_later hb p_tc
              replace p_td := block_later hb p_td
              clear hb
              by_cases kb : Vld (vx - bx) (vy + by')
              · have c_ta := cell_block p_ta
                have c_tb := cell_block p_tb
                have c_tc := cell_block p_tc
                have c_td := cell_block p_td
                go_wp2_with fail
                clear c_ta c_tb c_tc c_td
                (with_reducible refine (valid_yes _ _ _ kb).mono ?_)
                rintro e w16 ⟨rfl, hb⟩
                have hX16 := below_step hX15 hb
                replace p_ta := block_later hb p_ta
                replace p_tb := block_later hb p_tb
                replace p_tc := block_later hb p_tc
                replace p_td := block_later hb p_td
                clear hb
                by_cases kc : Vld (vx - cx) (vy + cy)
                · have c_ta := cell_block p_ta
                  have c_tb := cell_block p_tb
                  have c_tc := cell_block p_tc
                  have c_td := cell_block p_td
                  go_wp2_with fail
                  clear c_ta c_tb c_tc c_td
                  (with_reducible refine (valid_yes _ _ _ kc).mono ?_)
                  rintro e w17 ⟨rfl, hb⟩
                  have hX17 := below_step hX16 hb
                  replace p_ta := block_later hb p_ta
                  replace p_tb := block_later hb p_tb
                  replace p_tc := block_later hb p_tc
                  replace p_td := block_later hb p_td
                  clear hb
                  by_cases kd : Vld (vx - dx) (vy + dy)
                  · have c_ta := cell_block p_ta
                    have c_tb := cell_block p_tb
                    have c_tc := cell_block p_tc
                    have c_td := cell_block p_td
                    go_wp2_with fail
                    clear c_ta c_tb c_tc c_td
                    (with_reducible refine (valid_yes _ _ _ kd).mono ?_)
                    rintro e w18 ⟨rfl, hb⟩
                    have hX18 := below_step hX17 hb
                    replace p_ta := block_later hb p_ta
                    replace p_tb := block_later hb p_tb
                    replace p_tc := block_later hb p_tc
                    replace p_td := block_later hb p_td
                    clear hb
                    obtain ⟨s, es⟩ : ∃ s, (crs ax ay bx by' cx cy).sign = s := ⟨_, rfl⟩
                    have s1 : -1 ≤ s := es ▸ (sign_bd _).1
                    have s2 : s ≤ 1 := es ▸ (sign_bd _).2
                    have l1 := fun w => Turn_yes ax ay bx by' cx cy w ha hb hc es
                    have l2 := fun w => Turn_yes (vx - ax) (vy + ay) (vx - bx) (vy + by') (vx - cx) (vy + cy) w ka kb kc (s := -s) (by rw [crs_mir, Int.sign_neg, es])
                    obtain ⟨x, ex⟩ : ∃ x, meetB ax ay bx by' cx cy dx dy = x := ⟨_, rfl⟩
                    have l3 := fun w => Meet_yes ax ay bx by' cx cy dx dy w ha hb hc hd ex
                    have l4 := fun w => Meet_yes (vx - ax) (vy + ay) (vx - bx) (vy + by') (vx - cx) (vy + cy) (vx - dx) (vy + dy) w ka kb kc kd (v := x) (by rw [meet_mir, ex])
                    obtain ⟨o, eo⟩ : ∃ x, onB ax ay bx by' cx cy = x := ⟨_, rfl⟩
                    have l5 := fun w => On_yes ax ay bx by' cx cy w ha hb hc eo
                    have l6 := fun w => On_yes (vx - ax) (vy + ay) (vx - bx) (vy + by') (vx - cx) (vy + cy) w ka kb kc (v := o) (by rw [on_mir, eo])
                    have l11 := fun w => Dist_yes ax ay bx by' w ha hb rfl rfl
                    have l12 := fun w => Dist_yes (vx - ax) (vy + ay) (vx - bx) (vy + by') w ka kb rfl rfl
                    rw [sqd_mir] at l12
                    generalize dHi (sqd ax ay bx by') = hi at *
                    generalize isq (sqd ax ay bx by') = lo at *
                    have L1 := Lib.hid l1
                    have L2 := Lib.hid l2
                    have L3 := Lib.hid l3
                    have L4 := Lib.hid l4
                    have L5 := Lib.hid l5
                    have L6 := Lib.hid l6
                    have L11 := Lib.hid l11
                    have L12 := Lib.hid l12
                    clear l1 l2 l3 l4 l5 l6 l11 l12
                    go_wp2_with fail
                    (with_reducible refine (L1.out _).mono ?_)
                    rintro e w19 ⟨rfl, hb⟩
                    have hX19 := below_step hX18 hb
                    replace p_ta := block_later hb p_ta
                    replace p_tb := block_later hb p_tb
                    replace p_tc := block_later hb p_tc
                    replace p_td := block_later hb p_td
                    clear hb
                    have c_ta := cell_block p_ta
                    have c_tb := cell_block p_tb
                    have c_tc := cell_block p_tc
                    have c_td := cell_block p_td
                    go_wp2_with fail
                    clear c_ta c_tb c_tc c_td
                    (with_reducible refine (L2.out _).mono ?_)
                    rintro e w20 ⟨rfl, hb⟩
                    have hX20 := below_step hX19 hb
                    replace p_ta := block_later hb p_ta
                    replace p_tb := block_later hb p_tb
                    replace p_tc := block_later hb p_tc
                    replace p_td := block_later hb p_td
                    clear hb
                    go_wp2_with fail
                    (with_reducible refine (L3.out _).mono ?_)
                    rintro e w21 ⟨rfl, hb⟩
                    have hX21 := below_step hX20 hb
                    replace p_ta := block_later hb p_ta
                    replace p_tb := block_later hb p_tb
                    replace p_tc := block_later hb p_tc
                    replace p_td := block_later hb p_td
                    clear hb
                    have c_ta := cell_block p_ta
                    have c_tb := cell_block p_tb
                    have c_tc := cell_block p_tc
                    have c_td := cell_block p_td
                    go_wp2_with fail
                    clear c_ta c_tb c_tc c_td
                    (with_reducible refine (L4.out _).mono ?_)
                    rintro e w22 ⟨rfl, hb⟩
                    have hX22 := below_step hX21 hb
                    replace p_ta := block_later hb p_ta
                    replace p_tb := block_later hb p_tb
                    replace p_tc := block_later hb p_tc
                    replace p_td := block_later hb p_td
                    clear hb
                    go_wp2_with fail
                    (with_reducible refine (L5.out _).mono ?_)
                    rintro e w23 ⟨rfl, hb⟩
                    have hX23 := below_step hX22 hb
                    replace p_ta := block_later hb p_ta
                    replace p_tb := block_later hb p_tb
                    replace p_tc := block_later hb p_tc
                    replace p_td := block_later hb p_td
                    clear hb
                    have c_ta := cell_block p_ta
                    have c_tb := cell_block p_tb
                    have c_tc := cell_block p_tc
                    have c_td := cell_block p_td
                    go_wp2_with fail
                    clear c_ta c_tb c_tc c_td
                    (with_reducible refine (L6.out _).mono ?_)
                    rintro e w24 ⟨rfl, hb⟩
                    have hX24 := below_step hX23 hb
                    replace p_ta := block_later hb p_ta
                    replace p_tb := block_later hb p_tb
                    replace p_tc := block_later hb p_tc
                    replace p_td := block_later hb p_td
                    clear hb
                    by_cases hr : 0 ≤ r ∧ r ≤ 3000000
                    · obtain ⟨n, en⟩ : ∃ x, nearB ax ay bx by' cx cy r = x := ⟨_, rfl⟩
                      have l7 := fun w => Near_yes ax ay bx by' cx cy r w ha hb hc hr en
                      have l8 := fun w => Near_yes (vx - ax) (vy + ay) (vx - bx) (vy + by') (vx - cx) (vy + cy) r w ka kb kc hr (v := n) (by rw [near_mir, en])
                      obtain ⟨cl, ec⟩ : ∃ x, closeB ax ay bx by' cx cy dx dy r = x := ⟨_, rfl⟩
                      have l9 := fun w => Close_yes ax ay bx by' cx cy dx dy r w ha hb hc hd hr ec
                      have l10 := fun w => Close_yes (vx - ax) (vy + ay) (vx - bx) (vy + by') (vx - cx) (vy + cy) (vx - dx) (vy + dy) r w ka kb kc kd hr (v := cl) (by rw [close_mir, ec])
                      have L7 := Lib.hid l7
                      have L8 := Lib.hid l8
                      have L9 := Lib.hid l9
                      have L10 := Lib.hid l10
                      clear l7 l8 l9 l10
                      clear es ex eo en ec
                      go_wp2_with fail
                      (with_reducible refine (L7.out _).mono ?_)
                      rintro e w25 ⟨rfl, hb⟩
                      have hX25 := below_step hX24 hb
                      replace p_ta := block_later hb p_ta
                      replace p_tb := block_later hb p_tb
                      replace p_tc := block_later hb p_tc
                      replace p_td := block_later hb p_td
                      clear hb
                      have c_ta := cell_block p_ta
                      have c_tb := cell_block p_tb
                      have c_tc := cell_block p_tc
                      have c_td := cell_block p_td
                      go_wp2_with fail
                      clear c_ta c_tb c_tc c_td
                      (with_reducible refine (L8.out _).mono ?_)
                      rintro e w26 ⟨rfl, hb⟩
                      have hX26 := below_step hX25 hb
                      replace p_ta := block_later hb p_ta
                      replace p_tb := block_later hb p_tb
                      replace p_tc := block_later hb p_tc
                      replace p_td := block_later hb p_td
                      clear hb
                      go_wp2_with fail
                      (with_reducible refine (L9.out _).mono ?_)
                      rintro e w27 ⟨rfl, hb⟩
                      have hX27 := below_step hX26 hb
                      replace p_ta := block_later hb p_ta
                      replace p_tb := block_later hb p_tb
                      replace p_tc := block_later hb p_tc
                      replace p_td := block_later hb p_td
                      clear hb
                      have c_ta := cell_block p_ta
                      have c_tb := cell_block p_tb
                      have c_tc := cell_block p_tc
                      have c_td := cell_block p_td
                      go_wp2_with fail
                      clear c_ta c_tb c_tc c_td
                      (with_reducible refine (L10.out _).mono ?_)
                      rintro e w28 ⟨rfl, hb⟩
                      have hX28 := below_step hX27 hb
                      replace p_ta := block_later hb p_ta
                      replace p_tb := block_later hb p_tb
                      replace p_tc := block_later hb p_tc
                      replace p_td := block_later hb p_td
                      clear hb
                      go_wp2_with fail
                      (with_reducible refine (L11.out _).mono ?_)
                      rintro e w29 ⟨rfl, hb⟩
                      have hX29 := below_step hX28 hb
                      replace p_ta := block_later hb p_ta
                      replace p_tb := block_later hb p_tb
                      replace p_tc := block_later hb p_tc
                      replace p_td := block_later hb p_td
                      clear hb
                      have hXa := fun o => hX29.alloc hX29.size o
                      have c_ta := fun o => cell_block (block_alloc (o' := o) p_ta)
                      have c_tb := fun o => cell_block (block_alloc (o' := o) p_tb)
                      have c_tc := fun o => cell_block (block_alloc (o' := o) p_tc)
                      have c_td := fun o => cell_block (block_alloc (o' := o) p_td)
                      have c_m := cell_block (block_new w29 (.cells #[.int .i64 lo, .int .i64 hi] 35))
                      go_wp2_with fail
                      clear c_ta c_tb c_tc c_td c_m
                      refine calls_named fun y30 hy30 => ?_
                      have p_m : y30.heap[w29.heap.size]? = some (.cells #[.int .i64 lo, .int .i64 hi] 35) := by rw [hy30]; exact block_new _ _
                      replace p_ta := block_alloc (o' := .cells #[.int .i64 lo, .int .i64 hi] 35) p_ta
                      rw [← hy30] at p_ta
                      replace p_tb := block_alloc (o' := .cells #[.int .i64 lo, .int .i64 hi] 35) p_tb
                      rw [← hy30] at p_tb
                      replace p_tc := block_alloc (o' := .cells #[.int .i64 lo, .int .i64 hi] 35) p_tc
                      rw [← hy30] at p_tc
                      replace p_td := block_alloc (o' := .cells #[.int .i64 lo, .int .i64 hi] 35) p_td
                      rw [← hy30] at p_td
                      have hX30 : Below W.heap.size W y30 := by rw [hy30]; exact hX29.alloc hX29.size _
                      clear hy30
                      (with_reducible refine (L12.out _).mono ?_)
                      rintro e w31 ⟨rfl, hb⟩
                      have hX31 := below_step hX30 hb
                      replace p_ta := block_later hb p_ta
                      replace p_tb := block_later hb p_tb
                      replace p_tc := block_later hb p_tc
                      replace p_td := block_later hb p_td
                      replace p_m := block_later hb p_m
                      clear hb
                      have c_ta := fun o => cell_block (block_alloc (o' := o) p_ta)
                      have c_tb := fun o => cell_block (block_alloc (o' := o) p_tb)
                      have c_tc := fun o => cell_block (block_alloc (o' := o) p_tc)
                      have c_td := fun o => cell_block (block_alloc (o' := o) p_td)
                      have c_m := fun o => cell_block (block_alloc (o' := o) p_m)
                      have c_n := cell_block (block_new w31 (.cells #[.int .i64 lo, .int .i64 hi] 35))
                      have hXa := fun o => hX31.alloc hX31.size o
                      go_wp2_with fail
                      go_returns
                      exact ⟨rfl, below_step hB (hXa _)⟩
                    · clear es ex eo
                      have n1 : ¬ (Vld ax ay ∧ Vld bx by' ∧ Vld cx cy ∧ 0 ≤ r ∧ r ≤ 3000000) := fun h => hr h.2.2.2
                      have n2 : ¬ (Vld (vx - ax) (vy + ay) ∧ Vld (vx - bx) (vy + by') ∧ Vld (vx - cx) (vy + cy) ∧ 0 ≤ r ∧ r ≤ 3000000) := fun h => hr h.2.2.2
                      have n3 : ¬ (Vld ax ay ∧ Vld bx by' ∧ Vld cx cy ∧ Vld dx dy ∧ 0 ≤ r ∧ r ≤ 3000000) := fun h => hr h.2.2.2.2
                      have n4 : ¬ (Vld (vx - ax) (vy + ay) ∧ Vld (vx - bx) (vy + by') ∧ Vld (vx - cx) (vy + cy) ∧ Vld (vx - dx) (vy + dy) ∧ 0 ≤ r ∧ r ≤ 3000000) := fun h => hr h.2.2.2.2
                      go_wp2_with fail
                      (with_reducible refine (Near_no _ _ _ _ _ _ _ _ n1).mono ?_)
                      rintro e w25 ⟨rfl, hb⟩
                      have hX25 := below_step hX24 hb
                      replace p_ta := block_later hb p_ta
                      replace p_tb := block_later hb p_tb
                      replace p_tc := block_later hb p_tc
                      replace p_td := block_later hb p_td
                      clear hb
                      have c_ta := cell_block p_ta
                      have c_tb := cell_block p_tb
                      have c_tc := cell_block p_tc
                      have c_td := cell_block p_td
                      go_wp2_with fail
                      clear c_ta c_tb c_tc c_td
                      (with_reducible refine (Near_no _ _ _ _ _ _ _ _ n2).mono ?_)
                      rintro e w26 ⟨rfl, hb⟩
                      have hX26 := below_step hX25 hb
                      replace p_ta := block_later hb p_ta
                      replace p_tb := block_later hb p_tb
                      replace p_tc := block_later hb p_tc
                      replace p_td := block_later hb p_td
                      clear hb
                      go_wp2_with fail
                      (with_reducible refine (Close_no _ _ _ _ _ _ _ _ _ _ n3).mono ?_)
                      rintro e w27 ⟨rfl, hb⟩
                      have hX27 := below_step hX26 hb
                      replace p_ta := block_later hb p_ta
                      replace p_tb := block_later hb p_tb
                      replace p_tc := block_later hb p_tc
                      replace p_td := block_later hb p_td
                      clear hb
                      have c_ta := cell_block p_ta
                      have c_tb := cell_block p_tb
                      have c_tc := cell_block p_tc
                      have c_td := cell_block p_td
                      go_wp2_with fail
                      clear c_ta c_tb c_tc c_td
                      (with_reducible refine (Close_no _ _ _ _ _ _ _ _ _ _ n4).mono ?_)
                      rintro e w28 ⟨rfl, hb⟩
                      have hX28 := below_step hX27 hb
                      replace p_ta := block_later hb p_ta
                      replace p_tb := block_later hb p_tb
                      replace p_tc := block_later hb p_tc
                      replace p_td := block_later hb p_td
                      clear hb
                      go_wp2_with fail
                      (with_reducible refine (L11.out _).mono ?_)
                      rintro e w29 ⟨rfl, hb⟩
                      have hX29 := below_step hX28 hb
                      replace p_ta := block_later hb p_ta
                      replace p_tb := block_later hb p_tb
                      replace p_tc := block_later hb p_tc
                      replace p_td := block_later hb p_td
                      clear hb
                      have hXa := fun o => hX29.alloc hX29.size o
                      have c_ta := fun o => cell_block (block_alloc (o' := o) p_ta)
                      have c_tb := fun o => cell_block (block_alloc (o' := o) p_tb)
                      have c_tc := fun o => cell_block (block_alloc (o' := o) p_tc)
                      have c_td := fun o => cell_block (block_alloc (o' := o) p_td)
                      have c_m := cell_block (block_new w29 (.cells #[.int .i64 lo, .int .i64 hi] 35))
                      go_wp2_with fail
                      clear c_ta c_tb c_tc c_td c_m
                      refine calls_named fun y30 hy30 => ?_
                      have p_m : y30.heap[w29.heap.size]? = some (.cells #[.int .i64 lo, .int .i64 hi] 35) := by rw [hy30]; exact block_new _ _
                      replace p_ta := block_alloc (o' := .cells #[.int .i64 lo, .int .i64 hi] 35) p_ta
                      rw [← hy30] at p_ta
                      replace p_tb := block_alloc (o' := .cells #[.int .i64 lo, .int .i64 hi] 35) p_tb
                      rw [← hy30] at p_tb
                      replace p_tc := block_alloc (o' := .cells #[.int .i64 lo, .int .i64 hi] 35) p_tc
                      rw [← hy30] at p_tc
                      replace p_td := block_alloc (o' := .cells #[.int .i64 lo, .int .i64 hi] 35) p_td
                      rw [← hy30] at p_td
                      have hX30 : Below W.heap.size W y30 := by rw [hy30]; exact hX29.alloc hX29.size _
                      clear hy30
                      (with_reducible refine (L12.out _).mono ?_)
                      rintro e w31 ⟨rfl, hb⟩
                      have hX31 := below_step hX30 hb
                      replace p_ta := block_later hb p_ta
                      replace p_tb := block_later hb p_tb
                      replace p_tc := block_later hb p_tc
                      replace p_td := block_later hb p_td
                      replace p_m := block_later hb p_m
                      clear hb
                      have c_ta := fun o => cell_block (block_alloc (o' := o) p_ta)
                      have c_tb := fun o => cell_block (block_alloc (o' := o) p_tb)
                      have c_tc := fun o => cell_block (block_alloc (o' := o) p_tc)
                      have c_td := fun o => cell_block (block_alloc (o' := o) p_td)
                      have c_m := fun o => cell_block (block_alloc (o' := o) p_m)
                      have c_n := cell_block (block_new w31 (.cells #[.int .i64 lo, .int .i64 hi] 35))
                      have hXa := fun o => hX31.alloc hX31.size o
                      go_wp2_with fail
                      go_returns
                      exact ⟨rfl, below_step hB (hXa _)⟩
                  · have c_ta := cell_block p_ta
                    have c_tb := cell_block p_tb
                    have c_tc := cell_block p_tc
                    have c_td := cell_block p_td
                    go_wp2_with fail
                    clear c_ta c_tb c_tc c_td
                    (with_reducible refine (valid_no _ _ _ kd).mono ?_)
                    rintro e w18 ⟨rfl, hb⟩
                    have hX18 := below_step hX17 hb
                    replace p_ta := block_later hb p_ta
                    replace p_tb := block_later hb p_tb
                    replace p_tc := block_later hb p_tc
                    replace p_td := block_later hb p_td
                    clear hb
                    have c_ta := cell_block p_ta
                    have c_tb := cell_block p_tb
                    have c_tc := cell_block p_tc
                    have c_td := cell_block p_td
                    go_wp2_with fail
                    go_returns
                    exact ⟨rfl, below_step hB hX18⟩
                · have c_ta := cell_block p_ta
                  have c_tb := cell_block p_tb
                  have c_tc := cell_block p_tc
                  have c_td := cell_block p_td
                  go_wp2_with fail
                  clear c_ta c_tb c_tc c_td
                  (with_reducible refine (valid_no _ _ _ kc).mono ?_)
                  rintro e w17 ⟨rfl, hb⟩
                  have hX17 := below_step hX16 hb
                  replace p_ta := block_later hb p_ta
                  replace p_tb := block_later hb p_tb
                  replace p_tc := block_later hb p_tc
                  replace p_td := block_later hb p_td
                  clear hb
                  have c_ta := cell_block p_ta
                  have c_tb := cell_block p_tb
                  have c_tc := cell_block p_tc
                  have c_td := cell_block p_td
                  go_wp2_with fail
                  go_returns
                  exact ⟨rfl, below_step hB hX17⟩
              · have c_ta := cell_block p_ta
                have c_tb := cell_block p_tb
                have c_tc := cell_block p_tc
                have c_td := cell_block p_td
                go_wp2_with fail
                clear c_ta c_tb c_tc c_td
                (with_reducible refine (valid_no _ _ _ kb).mono ?_)
                rintro e w16 ⟨rfl, hb⟩
                have hX16 := below_step hX15 hb
                replace p_ta := block_later hb p_ta
                replace p_tb := block_later hb p_tb
                replace p_tc := block_later hb p_tc
                replace p_td := block_later hb p_td
                clear hb
                have c_ta := cell_block p_ta
                have c_tb := cell_block p_tb
                have c_tc := cell_block p_tc
                have c_td := cell_block p_td
                go_wp2_with fail
                go_returns
                exact ⟨rfl, below_step hB hX16⟩
            · have hXa := fun o => hX13.alloc hX13.size o
              have c_ta := fun o => cell_block (block_alloc (o' := o) p_ta)
              have c_tb := fun o => cell_block (block_alloc (o' := o) p_tb)
              have c_tc := fun o => cell_block (block_alloc (o' := o) p_tc)
              have c_td := cell_block (block_new w13 (.cells #[.int .i64 (vx - dx), .int .i64 (vy + dy)] 23))
              go_wp2_with fail
              clear c_ta c_tb c_tc c_td
              refine calls_named fun y14 hy14 => ?_
              have p_td : y14.heap[w13.heap.size]? = some (.cells #[.int .i64 (vx - dx), .int .i64 (vy + dy)] 23) := by rw [hy14]; exact block_new _ _
              replace p_ta := block_alloc (o' := .cells #[.int .i64 (vx - dx), .int .i64 (vy + dy)] 23) p_ta
              rw [← hy14] at p_ta
              replace p_tb := block_alloc (o' := .cells #[.int .i64 (vx - dx), .int .i64 (vy + dy)] 23) p_tb
              rw [← hy14] at p_tb
              replace p_tc := block_alloc (o' := .cells #[.int .i64 (vx - dx), .int .i64 (vy + dy)] 23) p_tc
              rw [← hy14] at p_tc
              have hX14 : Below W.heap.size W y14 := by rw [hy14]; exact hX13.alloc hX13.size _
              clear hy14
              (with_reducible refine (valid_no _ _ _ ka).mono ?_)
              rintro e w15 ⟨rfl, hb⟩
              have hX15 := below_step hX14 hb
              replace p_ta := block_later hb p_ta
              replace p_tb := block_later hb p_tb
              replace p_tc := block_later hb p_tc
              replace p_td := block_later hb p_td
              clear hb
              have c_ta := cell_block p_ta
              have c_tb := cell_block p_tb
              have c_tc := cell_block p_tc
              have c_td := cell_block p_td
              go_wp2_with fail
              go_returns
              exact ⟨rfl, below_step hB hX15⟩
          · go_wp2_with fail
            (with_reducible refine (valid_no _ _ _ hv).mono ?_)
            rintro e w6 ⟨rfl, hb⟩
            have hX6 := below_step hX5 hb
            clear hb
            go_wp2_with fail
            go_returns
            exact ⟨rfl, below_step hB hX6⟩
        · go_wp2_with fail
          (with_reducible refine (valid_no _ _ _ hd).mono ?_)
          rintro e w5 ⟨rfl, hb⟩
          have hX5 := below_step hX4 hb
          clear hb
          go_wp2_with fail
          go_returns
          exact ⟨rfl, below_step hB hX5⟩
      · go_wp2_with fail
        (with_reducible refine (valid_no _ _ _ hc).mono ?_)
        rintro e w4 ⟨rfl, hb⟩
        have hX4 := below_step hX3 hb
        clear hb
        go_wp2_with fail
        go_returns
        exact ⟨rfl, below_step hB hX4⟩
    · go_wp2_with fail
      (with_reducible refine (valid_no _ _ _ hb).mono ?_)
      rintro e w3 ⟨rfl, hb⟩
      have hX3 := below_step hX2 hb
      clear hb
      go_wp2_with fail
      go_returns
      exact ⟨rfl, below_step hB hX3⟩
  · go_wp2_with fail
    (with_reducible refine (valid_no _ _ _ ha).mono ?_)
    rintro e w2 ⟨rfl, hb⟩
    have hX2 := below_step hX1 hb
    clear hb
    go_wp2_with fail
    go_returns
    exact ⟨rfl, below_step hB hX2⟩
set_option maxRecDepth 100000 in
set_option maxHeartbeats 8000000 in
theorem planeMoved_rotq (ax ay bx by' cx cy dx dy r vx vy : Int) (w : World) :
    Calls Try.prog 8 #[.agg #[.int .i64 ax, .int .i64 ay], .agg #[.int .i64 bx, .int .i64 by'], .agg #[.int .i64 cx, .int .i64 cy], .agg #[.int .i64 dx, .int .i64 dy], .int .i64 r, .agg #[.int .i64 vx, .int .i64 vy], .bool false] w fun e w' => e = .returned (.bool true) ∧ Below w.heap.size w w' := by
  go_enter Try.func8, Try.ntmps8
  go_wp2_with fail
  refine calls_named fun W hW => ?_
  obtain ⟨p1, p2, p3, p4, p5, hB⟩ := box5 hW
  clear hW
  have q1 := cellsL p1
  have q2 := cellsL p2
  have q3 := cellsL p3
  have q4 := cellsL p4
  have q5 := cellsL p5
  clear p1 p2 p3 p4 p5
  have hX0 := Below.refl W.heap.size W
  (with_reducible refine (head_any _).mono ?_)
  rintro e w1 ⟨rfl, hb⟩
  have hX1 := below_step hX0 hb
  clear hb
  by_cases ha : Vld ax ay
  · go_wp2_with fail
    (with_reducible refine (valid_yes _ _ _ ha).mono ?_)
    rintro e w2 ⟨rfl, hb⟩
    have hX2 := below_step hX1 hb
    clear hb
    by_cases hb : Vld bx by'
    · go_wp2_with fail
      (with_reducible refine (valid_yes _ _ _ hb).mono ?_)
      rintro e w3 ⟨rfl, hb⟩
      have hX3 := below_step hX2 hb
      clear hb
      by_cases hc : Vld cx cy
      · go_wp2_with fail
        (with_reducible refine (valid_yes _ _ _ hc).mono ?_)
        rintro e w4 ⟨rfl, hb⟩
        have hX4 := below_step hX3 hb
        clear hb
        by_cases hd : Vld dx dy
        · go_wp2_with fail
          (with_reducible refine (valid_yes _ _ _ hd).mono ?_)
          rintro e w5 ⟨rfl, hb⟩
          have hX5 := below_step hX4 hb
          clear hb
          by_cases hv : Vld vx vy
          · go_wp2_with fail
            (with_reducible refine (valid_yes _ _ _ hv).mono ?_)
            rintro e w6 ⟨rfl, hb⟩
            have hX6 := below_step hX5 hb
            clear hb
            go_wp2_with fail
            (with_reducible refine (turned_rotq ax ay vx vy _ ha hv).mono ?_)
            rintro e w7 ⟨rfl, hb⟩
            have hX7 := below_step hX6 hb
            clear hb
            have hXa := fun o => hX7.alloc hX7.size o
            go_wp2_with fail
            refine calls_named fun y8 hy8 => ?_
            have p_ta : y8.heap[w7.heap.size]? = some (.cells #[.int .i64 (vx - ay), .int .i64 (vy + ax)] 23) := by rw [hy8]; exact block_new _ _
            have hX8 : Below W.heap.size W y8 := by rw [hy8]; exact hX7.alloc hX7.size _
            clear hy8
            (with_reducible refine (turned_rotq bx by' vx vy _ hb hv).mono ?_)
            rintro e w9 ⟨rfl, hb⟩
            have hX9 := below_step hX8 hb
            replace p_ta := block_later hb p_ta
            clear hb
            have hXa := fun o => hX9.alloc hX9.size o
            go_wp2_with fail
            refine calls_named fun y10 hy10 => ?_
            have p_tb : y10.heap[w9.heap.size]? = some (.cells #[.int .i64 (vx - by'), .int .i64 (vy + bx)] 23) := by rw [hy10]; exact block_new _ _
            replace p_ta := block_alloc (o' := .cells #[.int .i64 (vx - by'), .int .i64 (vy + bx)] 23) p_ta
            rw [← hy10] at p_ta
            have hX10 : Below W.heap.size W y10 := by rw [hy10]; exact hX9.alloc hX9.size _
            clear hy10
            (with_reducible refine (turned_rotq cx cy vx vy _ hc hv).mono ?_)
            rintro e w11 ⟨rfl, hb⟩
            have hX11 := below_step hX10 hb
            replace p_ta := block_later hb p_ta
            replace p_tb := block_later hb p_tb
            clear hb
            have hXa := fun o => hX11.alloc hX11.size o
            go_wp2_with fail
            refine calls_named fun y12 hy12 => ?_
            have p_tc : y12.heap[w11.heap.size]? = some (.cells #[.int .i64 (vx - cy), .int .i64 (vy + cx)] 23) := by rw [hy12]; exact block_new _ _
            replace p_ta := block_alloc (o' := .cells #[.int .i64 (vx - cy), .int .i64 (vy + cx)] 23) p_ta
            rw [← hy12] at p_ta
            replace p_tb := block_alloc (o' := .cells #[.int .i64 (vx - cy), .int .i64 (vy + cx)] 23) p_tb
            rw [← hy12] at p_tb
            have hX12 : Below W.heap.size W y12 := by rw [hy12]; exact hX11.alloc hX11.size _
            clear hy12
            (with_reducible refine (turned_rotq dx dy vx vy _ hd hv).mono ?_)
            rintro e w13 ⟨rfl, hb⟩
            have hX13 := below_step hX12 hb
            replace p_ta := block_later hb p_ta
            replace p_tb := block_later hb p_tb
            replace p_tc := block_later hb p_tc
            clear hb
            by_cases ka : Vld (vx - ay) (vy + ax)
            · have hXa := fun o => hX13.alloc hX13.size o
              have c_ta := fun o => cell_block (block_alloc (o' := o) p_ta)
              have c_tb := fun o => cell_block (block_alloc (o' := o) p_tb)
              have c_tc := fun o => cell_block (block_alloc (o' := o) p_tc)
              have c_td := cell_block (block_new w13 (.cells #[.int .i64 (vx - dy), .int .i64 (vy + dx)] 23))
              go_wp2_with fail
              clear c_ta c_tb c_tc c_td
              refine calls_named fun y14 hy14 => ?_
              have p_td : y14.heap[w13.heap.size]? = some (.cells #[.int .i64 (vx - dy), .int .i64 (vy + dx)] 23) := by rw [hy14]; exact block_new _ _
              replace p_ta := block_alloc (o' := .cells #[.int .i64 (vx - dy), .int .i64 (vy + dx)] 23) p_ta
              rw [← hy14] at p_ta
              replace p_tb := block_alloc (o' := .cells #[.int .i64 (vx - dy), .int .i64 (vy + dx)] 23) p_tb
              rw [← hy14] at p_tb
              replace p_tc := block_alloc (o' := .cells #[.int .i64 (vx - dy), .int .i64 (vy + dx)] 23) p_tc
              rw [← hy14] at p_tc
              have hX14 : Below W.heap.size W y14 := by rw [hy14]; exact hX13.alloc hX13.size _
              clear hy14
              (with_reducible refine (valid_yes _ _ _ ka).mono ?_)
              rintro e w15 ⟨rfl, hb⟩
              have hX15 := below_step hX14 hb
              replace p_ta := block_later hb p_ta
              replace p_tb := block_later hb p_tb
              replace p_tc := block_later hb p_tc
              replace p_td := block_later hb p_td
              clear hb
              by_cases kb : Vld (vx - by') (vy + bx)
              · have c_ta := cell_block p_ta
                have c_tb := cell_block p_tb
                have c_tc := cell_block p_tc
                have c_td := cell_block p_td
                go_wp2_with fail
                clear c_ta c_tb c_tc c_td
                (with_reducible refine (valid_yes _ _ _ kb).mono ?_)
                rintro e w16 ⟨rfl, hb⟩
                have hX16 := below_step hX15 hb
                replace p_ta := block_later hb p_ta
                replace p_tb := block_later hb p_tb
                replace p_tc := block_later hb p_tc
                replace p_td := block_later hb p_td
                clear hb
                by_cases kc : Vld (vx - cy) (vy + cx)
                · have c_ta := cell_block p_ta
                  have c_tb := cell_block p_tb
                  have c_tc := cell_block p_tc
                  have c_td := cell_block p_td
                  go_wp2_with fail
                  clear c_ta c_tb c_tc c_td
                  (with_reducible refine (valid_yes _ _ _ kc).mono ?_)
                  rintro e w17 ⟨rfl, hb⟩
                  have hX17 := below_step hX16 hb
                  replace p_ta := block_later hb p_ta
                  replace p_tb := block_later hb p_tb
                  replace p_tc := block_later hb p_tc
                  replace p_td := block_later hb p_td
                  clear hb
                  by_cases kd : Vld (vx - dy) (vy + dx)
                  · have c_ta := cell_block p_ta
                    have c_tb := cell_block p_tb
                    have c_tc := cell_block p_tc
                    have c_td := cell_block p_td
                    go_wp2_with fail
                    clear c_ta c_tb c_tc c_td
                    (with_reducible refine (valid_yes _ _ _ kd).mono ?_)
                    rintro e w18 ⟨rfl, hb⟩
                    have hX18 := below_step hX17 hb
                    replace p_ta := block_later hb p_ta
                    replace p_tb := block_later hb p_tb
                    replace p_tc := block_later hb p_tc
                    replace p_td := block_later hb p_td
                    clear hb
                    obtain ⟨s, es⟩ : ∃ s, (crs ax ay bx by' cx cy).sign = s := ⟨_, rfl⟩
                    have s1 : -1 ≤ s := es ▸ (sign_bd _).1
                    have s2 : s ≤ 1 := es ▸ (sign_bd _).2
                    have l1 := fun w => Turn_yes ax ay bx by' cx cy w ha hb hc es
                    have l2 := fun w => Turn_yes (vx - ay) (vy + ax) (vx - by') (vy + bx) (vx - cy) (vy + cx) w ka kb kc (s := s) (by rw [crs_rotq, es])
                    obtain ⟨x, ex⟩ : ∃ x, meetB ax ay bx by' cx cy dx dy = x := ⟨_, rfl⟩
                    have l3 := fun w => Meet_yes ax ay bx by' cx cy dx dy w ha hb hc hd ex
                    have l4 := fun w => Meet_yes (vx - ay) (vy + ax) (vx - by') (vy + bx) (vx - cy) (vy + cx) (vx - dy) (vy + dx) w ka kb kc kd (v := x) (by rw [meet_rotq, ex])
                    obtain ⟨o, eo⟩ : ∃ x, onB ax ay bx by' cx cy = x := ⟨_, rfl⟩
                    have l5 := fun w => On_yes ax ay bx by' cx cy w ha hb hc eo
                    have l6 := fun w => On_yes (vx - ay) (vy + ax) (vx - by') (vy + bx) (vx - cy) (vy + cx) w ka kb kc (v := o) (by rw [on_rotq, eo])
                    have l11 := fun w => Dist_yes ax ay bx by' w ha hb rfl rfl
                    have l12 := fun w => Dist_yes (vx - ay) (vy + ax) (vx - by') (vy + bx) w ka kb rfl rfl
                    rw [sqd_rotq] at l12
                    generalize dHi (sqd ax ay bx by') = hi at *
                    generalize isq (sqd ax ay bx by') = lo at *
                    have L1 := Lib.hid l1
                    have L2 := Lib.hid l2
                    have L3 := Lib.hid l3
                    have L4 := Lib.hid l4
                    have L5 := Lib.hid l5
                    have L6 := Lib.hid l6
                    have L11 := Lib.hid l11
                    have L12 := Lib.hid l12
                    clear l1 l2 l3 l4 l5 l6 l11 l12
                    go_wp2_with fail
                    (with_reducible refine (L1.out _).mono ?_)
                    rintro e w19 ⟨rfl, hb⟩
                    have hX19 := below_step hX18 hb
                    replace p_ta := block_later hb p_ta
                    replace p_tb := block_later hb p_tb
                    replace p_tc := block_later hb p_tc
                    replace p_td := block_later hb p_td
                    clear hb
                    have c_ta := cell_block p_ta
                    have c_tb := cell_block p_tb
                    have c_tc := cell_block p_tc
                    have c_td := cell_block p_td
                    go_wp2_with fail
                    clear c_ta c_tb c_tc c_td
                    (with_reducible refine (L2.out _).mono ?_)
                    rintro e w20 ⟨rfl, hb⟩
                    have hX20 := below_step hX19 hb
                    replace p_ta := block_later hb p_ta
                    replace p_tb := block_later hb p_tb
                    replace p_tc := block_later hb p_tc
                    replace p_td := block_later hb p_td
                    clear hb
                    go_wp2_with fail
                    (with_reducible refine (L3.out _).mono ?_)
                    rintro e w21 ⟨rfl, hb⟩
                    have hX21 := below_step hX20 hb
                    replace p_ta := block_later hb p_ta
                    replace p_tb := block_later hb p_tb
                    replace p_tc := block_later hb p_tc
                    replace p_td := block_later hb p_td
                    clear hb
                    have c_ta := cell_block p_ta
                    have c_tb := cell_block p_tb
                    have c_tc := cell_block p_tc
                    have c_td := cell_block p_td
                    go_wp2_with fail
                    clear c_ta c_tb c_tc c_td
                    (with_reducible refine (L4.out _).mono ?_)
                    rintro e w22 ⟨rfl, hb⟩
                    have hX22 := below_step hX21 hb
                    replace p_ta := block_later hb p_ta
                    replace p_tb := block_later hb p_tb
                    replace p_tc := block_later hb p_tc
                    replace p_td := block_later hb p_td
                    clear hb
                    go_wp2_with fail
                    (with_reducible refine (L5.out _).mono ?_)
                    rintro e w23 ⟨rfl, hb⟩
                    have hX23 := below_step hX22 hb
                    replace p_ta := block_later hb p_ta
                    replace p_tb := block_later hb p_tb
                    replace p_tc := block_later hb p_tc
                    replace p_td := block_later hb p_td
                    clear hb
                    have c_ta := cell_block p_ta
                    have c_tb := cell_block p_tb
                    have c_tc := cell_block p_tc
                    have c_td := cell_block p_td
                    go_wp2_with fail
                    clear c_ta c_tb c_tc c_td
                    (with_reducible refine (L6.out _).mono ?_)
                    rintro e w24 ⟨rfl, hb⟩
                    have hX24 := below_step hX23 hb
                    replace p_ta := block_later hb p_ta
                    replace p_tb := block_later hb p_tb
                    replace p_tc := block_later hb p_tc
                    replace p_td := block_later hb p_td
                    clear hb
                    by_cases hr : 0 ≤ r ∧ r ≤ 3000000
                    · obtain ⟨n, en⟩ : ∃ x, nearB ax ay bx by' cx cy r = x := ⟨_, rfl⟩
                      have l7 := fun w => Near_yes ax ay bx by' cx cy r w ha hb hc hr en
                      have l8 := fun w => Near_yes (vx - ay) (vy + ax) (vx - by') (vy + bx) (vx - cy) (vy + cx) r w ka kb kc hr (v := n) (by rw [near_rotq, en])
                      obtain ⟨cl, ec⟩ : ∃ x, closeB ax ay bx by' cx cy dx dy r = x := ⟨_, rfl⟩
                      have l9 := fun w => Close_yes ax ay bx by' cx cy dx dy r w ha hb hc hd hr ec
                      have l10 := fun w => Close_yes (vx - ay) (vy + ax) (vx - by') (vy + bx) (vx - cy) (vy + cx) (vx - dy) (vy + dx) r w ka kb kc kd hr (v := cl) (by rw [close_rotq, ec])
                      have L7 := Lib.hid l7
                      have L8 := Lib.hid l8
                      have L9 := Lib.hid l9
                      have L10 := Lib.hid l10
                      clear l7 l8 l9 l10
                      clear es ex eo en ec
                      go_wp2_with fail
                      (with_reducible refine (L7.out _).mono ?_)
                      rintro e w25 ⟨rfl, hb⟩
                      have hX25 := below_step hX24 hb
                      replace p_ta := block_later hb p_ta
                      replace p_tb := block_later hb p_tb
                      replace p_tc := block_later hb p_tc
                      replace p_td := block_later hb p_td
                      clear hb
                      have c_ta := cell_block p_ta
                      have c_tb := cell_block p_tb
                      have c_tc := cell_block p_tc
                      have c_td := cell_block p_td
                      go_wp2_with fail
                      clear c_ta c_tb c_tc c_td
                      (with_reducible refine (L8.out _).mono ?_)
                      rintro e w26 ⟨rfl, hb⟩
                      have hX26 := below_step hX25 hb
                      replace p_ta := block_later hb p_ta
                      replace p_tb := block_later hb p_tb
                      replace p_tc := block_later hb p_tc
                      replace p_td := block_later hb p_td
                      clear hb
                      go_wp2_with fail
                      (with_reducible refine (L9.out _).mono ?_)
                      rintro e w27 ⟨rfl, hb⟩
                      have hX27 := below_step hX26 hb
                      replace p_ta := block_later hb p_ta
                      replace p_tb := block_later hb p_tb
                      replace p_tc := block_later hb p_tc
                      replace p_td := block_later hb p_td
                      clear hb
                      have c_ta := cell_block p_ta
                      have c_tb := cell_block p_tb
                      have c_tc := cell_block p_tc
                      have c_td := cell_block p_td
                      go_wp2_with fail
                      clear c_ta c_tb c_tc c_td
                      (with_reducible refine (L10.out _).mono ?_)
                      rintro e w28 ⟨rfl, hb⟩
                      have hX28 := below_step hX27 hb
                      replace p_ta := block_later hb p_ta
                      replace p_tb := block_later hb p_tb
                      replace p_tc := block_later hb p_tc
                      replace p_td := block_later hb p_td
                      clear hb
                      go_wp2_with fail
                      (with_reducible refine (L11.out _).mono ?_)
                      rintro e w29 ⟨rfl, hb⟩
                      have hX29 := below_step hX28 hb
                      replace p_ta := block_later hb p_ta
                      replace p_tb := block_later hb p_tb
                      replace p_tc := block_later hb p_tc
                      replace p_td := block_later hb p_td
                      clear hb
                      have hXa := fun o => hX29.alloc hX29.size o
                      have c_ta := fun o => cell_block (block_alloc (o' := o) p_ta)
                      have c_tb := fun o => cell_block (block_alloc (o' := o) p_tb)
                      have c_tc := fun o => cell_block (block_alloc (o' := o) p_tc)
                      have c_td := fun o => cell_block (block_alloc (o' := o) p_td)
                      have c_m := cell_block (block_new w29 (.cells #[.int .i64 lo, .int .i64 hi] 35))
                      go_wp2_with fail
                      clear c_ta c_tb c_tc c_td c_m
                      refine calls_named fun y30 hy30 => ?_
                      have p_m : y30.heap[w29.heap.size]? = some (.cells #[.int .i64 lo, .int .i64 hi] 35) := by rw [hy30]; exact block_new _ _
                      replace p_ta := block_alloc (o' := .cells #[.int .i64 lo, .int .i64 hi] 35) p_ta
                      rw [← hy30] at p_ta
                      replace p_tb := block_alloc (o' := .cells #[.int .i64 lo, .int .i64 hi] 35) p_tb
                      rw [← hy30] at p_tb
                      replace p_tc := block_alloc (o' := .cells #[.int .i64 lo, .int .i64 hi] 35) p_tc
                      rw [← hy30] at p_tc
                      replace p_td := block_alloc (o' := .cells #[.int .i64 lo, .int .i64 hi] 35) p_td
                      rw [← hy30] at p_td
                      have hX30 : Below W.heap.size W y30 := by rw [hy30]; exact hX29.alloc hX29.size _
                      clear hy30
                      (with_reducible refine (L12.out _).mono ?_)
                      rintro e w31 ⟨rfl, hb⟩
                      have hX31 := below_step hX30 hb
                      replace p_ta := block_later hb p_ta
                      replace p_tb := block_later hb p_tb
                      replace p_tc := block_later hb p_tc
                      replace p_td := block_later hb p_td
                      replace p_m := block_later hb p_m
                      clear hb
                      have c_ta := fun o => cell_block (block_alloc (o' := o) p_ta)
                      have c_tb := fun o => cell_block (block_alloc (o' := o) p_tb)
                      have c_tc := fun o => cell_block (block_alloc (o' := o) p_tc)
                      have c_td := fun o => cell_block (block_alloc (o' := o) p_td)
                      have c_m := fun o => cell_block (block_alloc (o' := o) p_m)
                      have c_n := cell_block (block_new w31 (.cells #[.int .i64 lo, .int .i64 hi] 35))
                      have hXa := fun o => hX31.alloc hX31.size o
                      go_wp2_with fail
                      go_returns
                      exact ⟨rfl, below_step hB (hXa _)⟩
                    · clear es ex eo
                      have n1 : ¬ (Vld ax ay ∧ Vld bx by' ∧ Vld cx cy ∧ 0 ≤ r ∧ r ≤ 3000000) := fun h => hr h.2.2.2
                      have n2 : ¬ (Vld (vx - ay) (vy + ax) ∧ Vld (vx - by') (vy + bx) ∧ Vld (vx - cy) (vy + cx) ∧ 0 ≤ r ∧ r ≤ 3000000) := fun h => hr h.2.2.2
                      have n3 : ¬ (Vld ax ay ∧ Vld bx by' ∧ Vld cx cy ∧ Vld dx dy ∧ 0 ≤ r ∧ r ≤ 3000000) := fun h => hr h.2.2.2.2
                      have n4 : ¬ (Vld (vx - ay) (vy + ax) ∧ Vld (vx - by') (vy + bx) ∧ Vld (vx - cy) (vy + cx) ∧ Vld (vx - dy) (vy + dx) ∧ 0 ≤ r ∧ r ≤ 3000000) := fun h => hr h.2.2.2.2
                      go_wp2_with fail
                      (with_reducible refine (Near_no _ _ _ _ _ _ _ _ n1).mono ?_)
                      rintro e w25 ⟨rfl, hb⟩
                      have hX25 := below_step hX24 hb
                      replace p_ta := block_later hb p_ta
                      replace p_tb := block_later hb p_tb
                      replace p_tc := block_later hb p_tc
                      replace p_td := block_later hb p_td
                      clear hb
                      have c_ta := cell_block p_ta
                      have c_tb := cell_block p_tb
                      have c_tc := cell_block p_tc
                      have c_td := cell_block p_td
                      go_wp2_with fail
                      clear c_ta c_tb c_tc c_td
                      (with_reducible refine (Near_no _ _ _ _ _ _ _ _ n2).mono ?_)
                      rintro e w26 ⟨rfl, hb⟩
                      have hX26 := below_step hX25 hb
                      replace p_ta := block_later hb p_ta
                      replace p_tb := block_later hb p_tb
                      replace p_tc := block_later hb p_tc
                      replace p_td := block_later hb p_td
                      clear hb
                      go_wp2_with fail
                      (with_reducible refine (Close_no _ _ _ _ _ _ _ _ _ _ n3).mono ?_)
                      rintro e w27 ⟨rfl, hb⟩
                      have hX27 := below_step hX26 hb
                      replace p_ta := block_later hb p_ta
                      replace p_tb := block_later hb p_tb
                      replace p_tc := block_later hb p_tc
                      replace p_td := block_later hb p_td
                      clear hb
                      have c_ta := cell_block p_ta
                      have c_tb := cell_block p_tb
                      have c_tc := cell_block p_tc
                      have c_td := cell_block p_td
                      go_wp2_with fail
                      clear c_ta c_tb c_tc c_td
                      (with_reducible refine (Close_no _ _ _ _ _ _ _ _ _ _ n4).mono ?_)
                      rintro e w28 ⟨rfl, hb⟩
                      have hX28 := below_step hX27 hb
                      replace p_ta := block_later hb p_ta
                      replace p_tb := block_later hb p_tb
                      replace p_tc := block_later hb p_tc
                      replace p_td := block_later hb p_td
                      clear hb
                      go_wp2_with fail
                      (with_reducible refine (L11.out _).mono ?_)
                      rintro e w29 ⟨rfl, hb⟩
                      have hX29 := below_step hX28 hb
                      replace p_ta := block_later hb p_ta
                      replace p_tb := block_later hb p_tb
                      replace p_tc := block_later hb p_tc
                      replace p_td := block_later hb p_td
                      clear hb
                      have hXa := fun o => hX29.alloc hX29.size o
                      have c_ta := fun o => cell_block (block_alloc (o' := o) p_ta)
                      have c_tb := fun o => cell_block (block_alloc (o' := o) p_tb)
                      have c_tc := fun o => cell_block (block_alloc (o' := o) p_tc)
                      have c_td := fun o => cell_block (block_alloc (o' := o) p_td)
                      have c_m := cell_block (block_new w29 (.cells #[.int .i64 lo, .int .i64 hi] 35))
                      go_wp2_with fail
                      clear c_ta c_tb c_tc c_td c_m
                      refine calls_named fun y30 hy30 => ?_
                      have p_m : y30.heap[w29.heap.size]? = some (.cells #[.int .i64 lo, .int .i64 hi] 35) := by rw [hy30]; exact block_new _ _
                      replace p_ta := block_alloc (o' := .cells #[.int .i64 lo, .int .i64 hi] 35) p_ta
                      rw [← hy30] at p_ta
                      replace p_tb := block_alloc (o' := .cells #[.int .i64 lo, .int .i64 hi] 35) p_tb
                      rw [← hy30] at p_tb
                      replace p_tc := block_alloc (o' := .cells #[.int .i64 lo, .int .i64 hi] 35) p_tc
                      rw [← hy30] at p_tc
                      replace p_td := block_alloc (o' := .cells #[.int .i64 lo, .int .i64 hi] 35) p_td
                      rw [← hy30] at p_td
                      have hX30 : Below W.heap.size W y30 := by rw [hy30]; exact hX29.alloc hX29.size _
                      clear hy30
                      (with_reducible refine (L12.out _).mono ?_)
                      rintro e w31 ⟨rfl, hb⟩
                      have hX31 := below_step hX30 hb
                      replace p_ta := block_later hb p_ta
                      replace p_tb := block_later hb p_tb
                      replace p_tc := block_later hb p_tc
                      replace p_td := block_later hb p_td
                      replace p_m := block_later hb p_m
                      clear hb
                      have c_ta := fun o => cell_block (block_alloc (o' := o) p_ta)
                      have c_tb := fun o => cell_block (block_alloc (o' := o) p_tb)
                      have c_tc := fun o => cell_block (block_alloc (o' := o) p_tc)
                      have c_td := fun o => cell_block (block_alloc (o' := o) p_td)
                      have c_m := fun o => cell_block (block_alloc (o' := o) p_m)
                      have c_n := cell_block (block_new w31 (.cells #[.int .i64 lo, .int .i64 hi] 35))
                      have hXa := fun o => hX31.alloc hX31.size o
                      go_wp2_with fail
                      go_returns
                      exact ⟨rfl, below_step hB (hXa _)⟩
                  · have c_ta := cell_block p_ta
                    have c_tb := cell_block p_tb
                    have c_tc := cell_block p_tc
                    have c_td := cell_block p_td
                    go_wp2_with fail
                    clear c_ta c_tb c_tc c_td
                    (with_reducible refine (valid_no _ _ _ kd).mono ?_)
                    rintro e w18 ⟨rfl, hb⟩
                    have hX18 := below_step hX17 hb
                    replace p_ta := block_later hb p_ta
                    replace p_tb := block_later hb p_tb
                    replace p_tc := block_later hb p_tc
                    replace p_td := block_later hb p_td
                    clear hb
                    have c_ta := cell_block p_ta
                    have c_tb := cell_block p_tb
                    have c_tc := cell_block p_tc
                    have c_td := cell_block p_td
                    go_wp2_with fail
                    go_returns
                    exact ⟨rfl, below_step hB hX18⟩
                · have c_ta := cell_block p_ta
                  have c_tb := cell_block p_tb
                  have c_tc := cell_block p_tc
                  have c_td := cell_block p_td
                  go_wp2_with fail
                  clear c_ta c_tb c_tc c_td
                  (with_reducible refine (valid_no _ _ _ kc).mono ?_)
                  rintro e w17 ⟨rfl, hb⟩
                  have hX17 := below_step hX16 hb
                  replace p_ta := block_later hb p_ta
                  replace p_tb := block_later hb p_tb
                  replace p_tc := block_later hb p_tc
                  replace p_td := block_later hb p_td
                  clear hb
                  have c_ta := cell_block p_ta
                  have c_tb := cell_block p_tb
                  have c_tc := cell_block p_tc
                  have c_td := cell_block p_td
                  go_wp2_with fail
                  go_returns
                  exact ⟨rfl, below_step hB hX17⟩
              · have c_ta := cell_block p_ta
                have c_tb := cell_block p_tb
                have c_tc := cell_block p_tc
                have c_td := cell_block p_td
                go_wp2_with fail
                clear c_ta c_tb c_tc c_td
                (with_reducible refine (valid_no _ _ _ kb).mono ?_)
                rintro e w16 ⟨rfl, hb⟩
                have hX16 := below_step hX15 hb
                replace p_ta := block_later hb p_ta
                replace p_tb := block_later hb p_tb
                replace p_tc := block_later hb p_tc
                replace p_td := block_later hb p_td
                clear hb
                have c_ta := cell_block p_ta
                have c_tb := cell_block p_tb
                have c_tc := cell_block p_tc
                have c_td := cell_block p_td
                go_wp2_with fail
                go_returns
                exact ⟨rfl, below_step hB hX16⟩
            · have hXa := fun o => hX13.alloc hX13.size o
              have c_ta := fun o => cell_block (block_alloc (o' := o) p_ta)
              have c_tb := fun o => cell_block (block_alloc (o' := o) p_tb)
              have c_tc := fun o => cell_block (block_alloc (o' := o) p_tc)
              have c_td := cell_block (block_new w13 (.cells #[.int .i64 (vx - dy), .int .i64 (vy + dx)] 23))
              go_wp2_with fail
              clear c_ta c_tb c_tc c_td
              refine calls_named fun y14 hy14 => ?_
              have p_td : y14.heap[w13.heap.size]? = some (.cells #[.int .i64 (vx - dy), .int .i64 (vy + dx)] 23) := by rw [hy14]; exact block_new _ _
              replace p_ta := block_alloc (o' := .cells #[.int .i64 (vx - dy), .int .i64 (vy + dx)] 23) p_ta
              rw [← hy14] at p_ta
              replace p_tb := block_alloc (o' := .cells #[.int .i64 (vx - dy), .int .i64 (vy + dx)] 23) p_tb
              rw [← hy14] at p_tb
              replace p_tc := block_alloc (o' := .cells #[.int .i64 (vx - dy), .int .i64 (vy + dx)] 23) p_tc
              rw [← hy14] at p_tc
              have hX14 : Below W.heap.size W y14 := by rw [hy14]; exact hX13.alloc hX13.size _
              clear hy14
              (with_reducible refine (valid_no _ _ _ ka).mono ?_)
              rintro e w15 ⟨rfl, hb⟩
              have hX15 := below_step hX14 hb
              replace p_ta := block_later hb p_ta
              replace p_tb := block_later hb p_tb
              replace p_tc := block_later hb p_tc
              replace p_td := block_later hb p_td
              clear hb
              have c_ta := cell_block p_ta
              have c_tb := cell_block p_tb
              have c_tc := cell_block p_tc
              have c_td := cell_block p_td
              go_wp2_with fail
              go_returns
              exact ⟨rfl, below_step hB hX15⟩
          · go_wp2_with fail
            (with_reducible refine (valid_no _ _ _ hv).mono ?_)
            rintro e w6 ⟨rfl, hb⟩
            have hX6 := below_step hX5 hb
            clear hb
            go_wp2_with fail
            go_returns
            exact ⟨rfl, below_step hB hX6⟩
        · go_wp2_with fail
          (with_reducible refine (valid_no _ _ _ hd).mono ?_)
          rintro e w5 ⟨rfl, hb⟩
          have hX5 := below_step hX4 hb
          clear hb
          go_wp2_with fail
          go_returns
          exact ⟨rfl, below_step hB hX5⟩
      · go_wp2_with fail
        (with_reducible refine (valid_no _ _ _ hc).mono ?_)
        rintro e w4 ⟨rfl, hb⟩
        have hX4 := below_step hX3 hb
        clear hb
        go_wp2_with fail
        go_returns
        exact ⟨rfl, below_step hB hX4⟩
    · go_wp2_with fail
      (with_reducible refine (valid_no _ _ _ hb).mono ?_)
      rintro e w3 ⟨rfl, hb⟩
      have hX3 := below_step hX2 hb
      clear hb
      go_wp2_with fail
      go_returns
      exact ⟨rfl, below_step hB hX3⟩
  · go_wp2_with fail
    (with_reducible refine (valid_no _ _ _ ha).mono ?_)
    rintro e w2 ⟨rfl, hb⟩
    have hX2 := below_step hX1 hb
    clear hb
    go_wp2_with fail
    go_returns
    exact ⟨rfl, below_step hB hX2⟩
theorem planeMoved_walk (ax ay bx by' cx cy dx dy r vx vy : Int) (mirror : Bool) (w : World) :
    Calls Try.prog 8 #[.agg #[.int .i64 ax, .int .i64 ay], .agg #[.int .i64 bx, .int .i64 by'], .agg #[.int .i64 cx, .int .i64 cy], .agg #[.int .i64 dx, .int .i64 dy], .int .i64 r, .agg #[.int .i64 vx, .int .i64 vy], .bool mirror] w fun e w' => e = .returned (.bool true) ∧ Below w.heap.size w w' := by
  cases mirror
  · exact planeMoved_rotq ax ay bx by' cx cy dx dy r vx vy w
  · exact planeMoved_mir ax ay bx by' cx cy dx dy r vx vy w
set_option maxRecDepth 100000 in
theorem planeMoved_lifted (os : Os) (started : os.Started) (H : Type) (enc : TypeId × Value → H) :
    ReturnsInHanded {} Try.checked os 8 .any (Rows.planeMovedSpec.pre6 enc Try.prog Try.f8 Rows.planeMovedRow.domain false) (Rows.planeMovedSpec.post enc Try.prog Try.f8 false true false false) := by
  refine returnsInHanded_of_change (C := Try.checked) own_knob started (by kernel_rfl) Try.func8
    (ChangeSpec.witness6 (enc := enc) (C := Try.checked) false ⟨#[], #[.agg #[.int .i64 0, .int .i64 0], .agg #[.int .i64 0, .int .i64 0], .agg #[.int .i64 0, .int .i64 0], .agg #[.int .i64 0, .int .i64 0], .int .i64 0, .agg #[.int .i64 0, .int .i64 0], .bool false], []⟩ 8 (by kernel_rfl) (by kernel_rfl) (by kernel_rfl) (by kernel_rfl)) ?_
  intro W base args ds gs before hval0 hW hcnd _
  have hval : ∀ (j : Nat) t v, Try.f8.params[j]? = some t → args[j]? = some v → Value.okWide Try.prog W .any base t v := hval0
  have hW' := hW
  obtain ⟨p, q, hA0, hV, rfl, hfz, hnd⟩ := hW
  have hA : DataW.TrodAll enc Try.prog W 0 (fun _ => true) true Try.f8.params.toList args.toList ds p := hA0
  rw [Try.params8] at hA hval
  obtain ⟨v0, vs0, d0, ds0, p0, q0, hargs, rfl, rfl, h0, r0⟩ := trodAll_cons hA
  obtain ⟨v1, vs1, d1, ds1, p1, q1, rfl, rfl, rfl, h1, r1⟩ := trodAll_cons r0
  obtain ⟨v2, vs2, d2, ds2, p2, q2, rfl, rfl, rfl, h2, r2⟩ := trodAll_cons r1
  obtain ⟨v3, vs3, d3, ds3, p3, q3, rfl, rfl, rfl, h3, r3⟩ := trodAll_cons r2
  obtain ⟨v4, vs4, d4, ds4, p4, q4, rfl, rfl, rfl, h4, r4⟩ := trodAll_cons r3
  obtain ⟨v5, vs5, d5, ds5, p5, q5, rfl, rfl, rfl, h5, r5⟩ := trodAll_cons r4
  obtain ⟨v6, vs6, d6, ds6, p6, q6, rfl, rfl, rfl, h6, r6⟩ := trodAll_cons r5
  obtain ⟨rfl, rfl, rfl⟩ := trodAll_nil r6
  obtain rfl : args = #[v0, v1, v2, v3, v4, v5, v6] := by cases args; simp_all
  obtain ⟨rfl, rfl⟩ := trodVars_none hV
  simp only [List.append_nil] at hW' hA0
  obtain ⟨ax, ay, e0, wx0, wy0⟩ := open_point (hval 0 23 v0 rfl rfl) h0
  subst e0
  obtain ⟨bx, by', e1, wx1, wy1⟩ := open_point (hval 1 23 v1 rfl rfl) h1
  subst e1
  obtain ⟨cx, cy, e2, wx2, wy2⟩ := open_point (hval 2 23 v2 rfl rfl) h2
  subst e2
  obtain ⟨dx, dy, e3, wx3, wy3⟩ := open_point (hval 3 23 v3 rfl rfl) h3
  subst e3
  obtain ⟨r, e4, _, _, w4⟩ := open_int Try.underlying3 (hval 4 3 v4 rfl rfl) h4
  subst e4
  obtain ⟨vx, vy, e5, wx5, wy5⟩ := open_point (hval 5 23 v5 rfl rfl) h5
  subst e5
  obtain ⟨mirror, e6, _, _⟩ := open_bool Try.underlying4 (hval 6 4 v6 rfl rfl) h6
  subst e6
  refine (planeMoved_walk ax ay bx by' cx cy dx dy r vx vy mirror W).mono fun e W' ⟨he, hg⟩ => ?_
  subst he
  exact ⟨_, rfl, post_law laid_out (by rw [Try.params8]; intro t ht; simp only [List.mem_cons, List.not_mem_nil, or_false] at ht; rcases ht with rfl | rfl | rfl | rfl | rfl | rfl | rfl <;> exact ⟨by kernel_rfl, of_decide_eq_true (by kernel_rfl)⟩) rfl hW' hA0 rfl rfl rfl rfl Try.underlying4 hg⟩
theorem planeMoved_over : Rows.planeMovedRow.holds Try.pinned (OpenSpec.ofChange Rows.planeMovedSpec) :=
  OpenClaim.holds_of_wide 8 Try.f8 rfl rfl rfl rfl rfl rfl rfl ⟨rfl, rfl, rfl, rfl, rfl⟩ rfl rfl rfl rfl rfl (by kernel_rfl) Try.func8 (by kernel_rfl)
    (of_decide_eq_true (by kernel_rfl)) (by unfold Func.isWrapper; first | (rw [if_pos (by decide +kernel)]; kernel_rfl) | (rw [if_neg (by decide +kernel)]; exact ⟨rfl, rfl⟩))
    (fun os started H enc _ => planeMoved_lifted os started H enc)
theorem planeMoved_holds : Rows.PlaneMovedSaid :=
  planeMoved_over
#print axioms planeMoved_holds
end Go.Proofs.Ytkpmiehggmeejaa
