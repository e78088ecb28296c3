import Derived.Test.YtdmegkkifiahdaaGreatKFt
namespace Go.Proofs.YtdmegkkifiahdaaGreat
open Go.RowKit
attribute [local go_sem] bqOp bqAll bqUpon sqOp sqAll sqUpon ssOp ssAll
attribute [local irreducible] wpQuiet wpBQ wpPlan wsPlan
set_option linter.unusedVariables false
set_option maxHeartbeats 2000000 in
theorem q08Ints_any (n m c1 c2 : Nat) (ad1 ad2 : Option Addr) (X Y : Nat → Nat → Int) (w : World) (h1 : Rows 1 w (.slice ad1 n c1) n X) (h2 : Rows 1 w (.slice ad2 m c2) m Y) (hn : n ≤ 9223372036854775807) (hm : m ≤ 9223372036854775807) {v : Bool} (hv : decide (RowsEq 1 n m X Y) = v) :
  Calls Tryz.prog 28 #[.slice ad1 n c1, .slice ad2 m c2] w fun e w' => e = .returned (.bool v) ∧ Below w.heap.size w w' := by
 have HV := Lib.hid hv
 have H1 := Lib.hid h1
 have H2 := Lib.hid h2
 clear hv h1 h2
 by_cases hnm : n = m
 rotate_left
 · have d : ((n : Int) != (m : Int)) = true := by simp; omega
   have d2 : (n != m) = true := by simp; omega
   go_enter Tryz.func28, Tryz.ntmps28
   go_wp2_with fail
   go_returns
   exact ⟨ret_bool (by rw [← HV.out]; exact (decide_eq_false (fun h => hnm h.1)).symm), Below.refl _ _⟩
 subst hnm
 go_enter Tryz.func28, Tryz.ntmps28
 go_wp2_with fail
 go_loopw [5] (fun i wr => ∃ k : Nat, k ≤ n ∧ i = .int .i64 k ∧ Below w.heap.size w wr ∧ ∀ i, i < k → ∀ j, j < 1 → X i j = Y i j) (fun i _ => n - (intOf i).toNat)
 case atStart => exact ⟨0, by omega, rfl, Below.refl _ _, fun m hm => by omega⟩
 case round =>
  obtain ⟨k, hk, rfl, hb, hall⟩ := hrel
  have ALL := Lib.hid hall
  clear hall
  rcases Nat.lt_or_ge k n with hlt | hge
  rotate_left
  · obtain rfl : k = n := by omega
    go_wp2_with fail
    go_returns
    exact ⟨ret_bool (by rw [← HV.out]; exact (decide_eq_true ⟨rfl, ALL.out⟩).symm), hb⟩
  obtain ⟨g, o, rfl, hc⟩ := (H1.out.later hb).row hlt
  obtain ⟨g', o', rfl, hc'⟩ := (H2.out.later hb).row hlt
  have r0 := fun d os => cell_later (below_regrown wr d os) (hc 0 (by omega))
  have z0 := fun d os => cell_later (below_regrown wr d os) (hc' 0 (by omega))
  simp only [Nat.add_zero] at r0 z0
  clear hc hc'
  simp only [Nat.mul_one] at r0 z0
  by_cases g0 : X k 0 = Y k 0
  rotate_left
  · have d : (X k 0 == Y k 0) = false := by simpa using g0
    have d2 : (X k 0 != Y k 0) = true := by simpa using g0
    have NO := Lib.hid (show ¬ RowsEq 1 n n X Y from fun h => g0 (h.2 k hlt 0 (by omega)))
    clear g0
    go_wp2_with fail
    refine wp_region_plan (.take 0 (.take 0 (.take 0 (.take 0 (.take 0 (.take 0 (.take 0 (.take 0 (.take 0 .done))))))))) (by kernel_rfl) (by kernel_rfl) (fun hP => ?_)
    repeat' (first
     | (refine wpPlan_two ?_ ?_)
     | (refine wpPlan_three ?_ ?_ ?_)
     | (refine wpPlan_take rfl (fun K hK => ?_); replace hK := Lib.hid hK; go_simp; first | (refine hK.out _ ?_; clear hK K) | (apply Exists.intro; refine ⟨fun _ => ?_, hK.out _ ?_⟩; (first | with_reducible exact rfl | skip); clear hK K))
     | (refine wpPlan_only rfl (fun K hK => ?_); replace hK := Lib.hid hK; (first | (go_simp; first | skip)); refine hK.out _ _ (by first | assumption | exact below_step hP hbx | exact hP.drew | exact hP.alloc hP.size _) (fun hP => ?_); clear hK K))
    all_goals refine wpPlan_done ?_
    have hB2 := below_step hb hP
    go_wp2_with fail
    go_returns
    exact ⟨ret_bool (by rw [← HV.out]; exact (decide_eq_false NO.out).symm), hB2⟩
  have OK := Lib.hid (show ∀ j, j < 1 → X k j = Y k j from fun j hj => by
   match j, hj with
   | 0, _ => exact g0
  )
  rw [← g0] at z0
  clear g0
  go_wp2_with fail
  refine wp_region_plan (.take 0 (.take 0 (.take 0 (.take 0 (.take 0 (.take 0 (.take 0 (.take 0 (.take 0 .done))))))))) (by kernel_rfl) (by kernel_rfl) (fun hP => ?_)
  repeat' (first
   | (refine wpPlan_two ?_ ?_)
   | (refine wpPlan_three ?_ ?_ ?_)
   | (refine wpPlan_take rfl (fun K hK => ?_); replace hK := Lib.hid hK; go_simp; first | (refine hK.out _ ?_; clear hK K) | (apply Exists.intro; refine ⟨fun _ => ?_, hK.out _ ?_⟩; (first | with_reducible exact rfl | skip); clear hK K))
   | (refine wpPlan_only rfl (fun K hK => ?_); replace hK := Lib.hid hK; (first | (go_simp; first | skip)); refine hK.out _ _ (by first | assumption | exact below_step hP hbx | exact hP.drew | exact hP.alloc hP.size _) (fun hP => ?_); clear hK K))
  all_goals refine wpPlan_done ?_
  have hB2 := below_step hb hP
  go_wp2_with fail
  go_roundw
  case rel => exact ⟨k + 1, by omega, by go_num, hB2, fun i hi => by
   rcases Nat.lt_or_ge i k with h | h
   · exact ALL.out i h
   · obtain rfl : i = k := by omega
     exact OK.out⟩
  case measure => simp [intOf]; omega
set_option maxHeartbeats 2000000 in
theorem q07Points_any (n m c1 c2 : Nat) (ad1 ad2 : Option Addr) (X Y : Nat → Nat → Int) (w : World) (h1 : Rows 2 w (.slice ad1 n c1) n X) (h2 : Rows 2 w (.slice ad2 m c2) m Y) (hn : n ≤ 9223372036854775807) (hm : m ≤ 9223372036854775807) {v : Bool} (hv : decide (RowsEq 2 n m X Y) = v) :
  Calls Tryz.prog 130 #[.slice ad1 n c1, .slice ad2 m c2] w fun e w' => e = .returned (.bool v) ∧ Below w.heap.size w w' := by
 have HV := Lib.hid hv
 have H1 := Lib.hid h1
 have H2 := Lib.hid h2
 clear hv h1 h2
 by_cases hnm : n = m
 rotate_left
 · have d : ((n : Int) != (m : Int)) = true := by simp; omega
   have d2 : (n != m) = true := by simp; omega
   go_enter Tryz.func130, Tryz.ntmps130
   go_wp2_with fail
   go_returns
   exact ⟨ret_bool (by rw [← HV.out]; exact (decide_eq_false (fun h => hnm h.1)).symm), Below.refl _ _⟩
 subst hnm
 go_enter Tryz.func130, Tryz.ntmps130
 go_wp2_with fail
 go_loopw [5] (fun i wr => ∃ k : Nat, k ≤ n ∧ i = .int .i64 k ∧ Below w.heap.size w wr ∧ ∀ i, i < k → ∀ j, j < 2 → X i j = Y i j) (fun i _ => n - (intOf i).toNat)
 case atStart => exact ⟨0, by omega, rfl, Below.refl _ _, fun m hm => by omega⟩
 case round =>
  obtain ⟨k, hk, rfl, hb, hall⟩ := hrel
  have ALL := Lib.hid hall
  clear hall
  rcases Nat.lt_or_ge k n with hlt | hge
  rotate_left
  · obtain rfl : k = n := by omega
    go_wp2_with fail
    go_returns
    exact ⟨ret_bool (by rw [← HV.out]; exact (decide_eq_true ⟨rfl, ALL.out⟩).symm), hb⟩
  obtain ⟨g, o, rfl, hc⟩ := (H1.out.later hb).row hlt
  obtain ⟨g', o', rfl, hc'⟩ := (H2.out.later hb).row hlt
  have r0 := fun d os => cell_later (below_regrown wr d os) (hc 0 (by omega))
  have z0 := fun d os => cell_later (below_regrown wr d os) (hc' 0 (by omega))
  have r1 := fun d os => cell_later (below_regrown wr d os) (hc 1 (by omega))
  have z1 := fun d os => cell_later (below_regrown wr d os) (hc' 1 (by omega))
  simp only [Nat.add_zero] at r0 z0
  clear hc hc'
  by_cases g0 : X k 0 = Y k 0
  rotate_left
  · have d : (X k 0 == Y k 0) = false := by simpa using g0
    have d2 : (X k 0 != Y k 0) = true := by simpa using g0
    have NO := Lib.hid (show ¬ RowsEq 2 n n X Y from fun h => g0 (h.2 k hlt 0 (by omega)))
    clear g0
    go_wp2_with fail
    refine wp_region_plan (.take 0 (.take 0 (.take 0 (.take 0 (.take 0 (.take 0 (.take 0 (.take 0 (.take 0 .done))))))))) (by kernel_rfl) (by kernel_rfl) (fun hP => ?_)
    repeat' (first
     | (refine wpPlan_two ?_ ?_)
     | (refine wpPlan_three ?_ ?_ ?_)
     | (refine wpPlan_take rfl (fun K hK => ?_); replace hK := Lib.hid hK; go_simp; first | (refine hK.out _ ?_; clear hK K) | (apply Exists.intro; refine ⟨fun _ => ?_, hK.out _ ?_⟩; (first | with_reducible exact rfl | skip); clear hK K))
     | (refine wpPlan_only rfl (fun K hK => ?_); replace hK := Lib.hid hK; (first | (go_simp; first | skip)); refine hK.out _ _ (by first | assumption | exact below_step hP hbx | exact hP.drew | exact hP.alloc hP.size _) (fun hP => ?_); clear hK K))
    all_goals refine wpPlan_done ?_
    have hB2 := below_step hb hP
    go_wp2_with fail
    go_returns
    exact ⟨ret_bool (by rw [← HV.out]; exact (decide_eq_false NO.out).symm), hB2⟩
  by_cases g1 : X k 1 = Y k 1
  rotate_left
  · have d : (X k 1 == Y k 1) = false := by simpa using g1
    have d2 : (X k 1 != Y k 1) = true := by simpa using g1
    have NO := Lib.hid (show ¬ RowsEq 2 n n X Y from fun h => g1 (h.2 k hlt 1 (by omega)))
    rw [← g0] at z0
    clear g0 g1
    go_wp2_with fail
    refine wp_region_plan (.take 0 (.take 0 (.take 0 (.take 0 (.take 0 (.take 0 (.take 0 (.take 0 (.take 0 .done))))))))) (by kernel_rfl) (by kernel_rfl) (fun hP => ?_)
    repeat' (first
     | (refine wpPlan_two ?_ ?_)
     | (refine wpPlan_three ?_ ?_ ?_)
     | (refine wpPlan_take rfl (fun K hK => ?_); replace hK := Lib.hid hK; go_simp; first | (refine hK.out _ ?_; clear hK K) | (apply Exists.intro; refine ⟨fun _ => ?_, hK.out _ ?_⟩; (first | with_reducible exact rfl | skip); clear hK K))
     | (refine wpPlan_only rfl (fun K hK => ?_); replace hK := Lib.hid hK; (first | (go_simp; first | skip)); refine hK.out _ _ (by first | assumption | exact below_step hP hbx | exact hP.drew | exact hP.alloc hP.size _) (fun hP => ?_); clear hK K))
    all_goals refine wpPlan_done ?_
    have hB2 := below_step hb hP
    go_wp2_with fail
    go_returns
    exact ⟨ret_bool (by rw [← HV.out]; exact (decide_eq_false NO.out).symm), hB2⟩
  have OK := Lib.hid (show ∀ j, j < 2 → X k j = Y k j from fun j hj => by
   match j, hj with
   | 0, _ => exact g0
   | 1, _ => exact g1
  )
  rw [← g0] at z0
  rw [← g1] at z1
  clear g0 g1
  go_wp2_with fail
  refine wp_region_plan (.take 0 (.take 0 (.take 0 (.take 0 (.take 0 (.take 0 (.take 0 (.take 0 (.take 0 .done))))))))) (by kernel_rfl) (by kernel_rfl) (fun hP => ?_)
  repeat' (first
   | (refine wpPlan_two ?_ ?_)
   | (refine wpPlan_three ?_ ?_ ?_)
   | (refine wpPlan_take rfl (fun K hK => ?_); replace hK := Lib.hid hK; go_simp; first | (refine hK.out _ ?_; clear hK K) | (apply Exists.intro; refine ⟨fun _ => ?_, hK.out _ ?_⟩; (first | with_reducible exact rfl | skip); clear hK K))
   | (refine wpPlan_only rfl (fun K hK => ?_); replace hK := Lib.hid hK; (first | (go_simp; first | skip)); refine hK.out _ _ (by first | assumption | exact below_step hP hbx | exact hP.drew | exact hP.alloc hP.size _) (fun hP => ?_); clear hK K))
  all_goals refine wpPlan_done ?_
  have hB2 := below_step hb hP
  go_wp2_with fail
  go_roundw
  case rel => exact ⟨k + 1, by omega, by go_num, hB2, fun i hi => by
   rcases Nat.lt_or_ge i k with h | h
   · exact ALL.out i h
   · obtain rfl : i = k := by omega
     exact OK.out⟩
  case measure => simp [intOf]; omega
set_option maxHeartbeats 2000000 in
theorem q07Sectors_any (n m c1 c2 : Nat) (ad1 ad2 : Option Addr) (X Y : Nat → Nat → Int) (w : World) (h1 : Rows 6 w (.slice ad1 n c1) n X) (h2 : Rows 6 w (.slice ad2 m c2) m Y) (hn : n ≤ 9223372036854775807) (hm : m ≤ 9223372036854775807) {v : Bool} (hv : decide (RowsEq 6 n m X Y) = v) :
  Calls Tryz.prog 131 #[.slice ad1 n c1, .slice ad2 m c2] w fun e w' => e = .returned (.bool v) ∧ Below w.heap.size w w' := by
 have HV := Lib.hid hv
 have H1 := Lib.hid h1
 have H2 := Lib.hid h2
 clear hv h1 h2
 by_cases hnm : n = m
 rotate_left
 · have d : ((n : Int) != (m : Int)) = true := by simp; omega
   have d2 : (n != m) = true := by simp; omega
   go_enter Tryz.func131, Tryz.ntmps131
   go_wp2_with fail
   go_returns
   exact ⟨ret_bool (by rw [← HV.out]; exact (decide_eq_false (fun h => hnm h.1)).symm), Below.refl _ _⟩
 subst hnm
 go_enter Tryz.func131, Tryz.ntmps131
 go_wp2_with fail
 go_loopw [5] (fun i wr => ∃ k : Nat, k ≤ n ∧ i = .int .i64 k ∧ Below w.heap.size w wr ∧ ∀ i, i < k → ∀ j, j < 6 → X i j = Y i j) (fun i _ => n - (intOf i).toNat)
 case atStart => exact ⟨0, by omega, rfl, Below.refl _ _, fun m hm => by omega⟩
 case round =>
  obtain ⟨k, hk, rfl, hb, hall⟩ := hrel
  have ALL := Lib.hid hall
  clear hall
  rcases Nat.lt_or_ge k n with hlt | hge
  rotate_left
  · obtain rfl : k = n := by omega
    go_wp2_with fail
    go_returns
    exact ⟨ret_bool (by rw [← HV.out]; exact (decide_eq_true ⟨rfl, ALL.out⟩).symm), hb⟩
  obtain ⟨g, o, rfl, hc⟩ := (H1.out.later hb).row hlt
  obtain ⟨g', o', rfl, hc'⟩ := (H2.out.later hb).row hlt
  have r0 := fun d os => cell_later (below_regrown wr d os) (hc 0 (by omega))
  have z0 := fun d os => cell_later (below_regrown wr d os) (hc' 0 (by omega))
  have r1 := fun d os => cell_later (below_regrown wr d os) (hc 1 (by omega))
  have z1 := fun d os => cell_later (below_regrown wr d os) (hc' 1 (by omega))
  have r2 := fun d os => cell_later (below_regrown wr d os) (hc 2 (by omega))
  have z2 := fun d os => cell_later (below_regrown wr d os) (hc' 2 (by omega))
  have r3 := fun d os => cell_later (below_regrown wr d os) (hc 3 (by omega))
  have z3 := fun d os => cell_later (below_regrown wr d os) (hc' 3 (by omega))
  have r4 := fun d os => cell_later (below_regrown wr d os) (hc 4 (by omega))
  have z4 := fun d os => cell_later (below_regrown wr d os) (hc' 4 (by omega))
  have r5 := fun d os => cell_later (below_regrown wr d os) (hc 5 (by omega))
  have z5 := fun d os => cell_later (below_regrown wr d os) (hc' 5 (by omega))
  simp only [Nat.add_zero] at r0 z0
  clear hc hc'
  by_cases g0 : X k 0 = Y k 0
  rotate_left
  · have d : (X k 0 == Y k 0) = false := by simpa using g0
    have d2 : (X k 0 != Y k 0) = true := by simpa using g0
    have NO := Lib.hid (show ¬ RowsEq 6 n n X Y from fun h => g0 (h.2 k hlt 0 (by omega)))
    clear g0
    go_wp2_with fail
    refine wp_region_plan (.take 0 (.take 0 (.take 0 (.take 0 (.take 0 (.take 0 (.take 0 (.take 0 (.take 0 .done))))))))) (by kernel_rfl) (by kernel_rfl) (fun hP => ?_)
    repeat' (first
     | (refine wpPlan_two ?_ ?_)
     | (refine wpPlan_three ?_ ?_ ?_)
     | (refine wpPlan_take rfl (fun K hK => ?_); replace hK := Lib.hid hK; go_simp; first | (refine hK.out _ ?_; clear hK K) | (apply Exists.intro; refine ⟨fun _ => ?_, hK.out _ ?_⟩; (first | with_reducible exact rfl | skip); clear hK K))
     | (refine wpPlan_only rfl (fun K hK => ?_); replace hK := Lib.hid hK; (first | (go_simp; first | skip)); refine hK.out _ _ (by first | assumption | exact below_step hP hbx | exact hP.drew | exact hP.alloc hP.size _) (fun hP => ?_); clear hK K))
    all_goals refine wpPlan_done ?_
    have hB2 := below_step hb hP
    go_wp2_with fail
    go_returns
    exact ⟨ret_bool (by rw [← HV.out]; exact (decide_eq_false NO.out).symm), hB2⟩
  by_cases g1 : X k 1 = Y k 1
  rotate_left
  · have d : (X k 1 == Y k 1) = false := by simpa using g1
    have d2 : (X k 1 != Y k 1) = true := by simpa using g1
    have NO := Lib.hid (show ¬ RowsEq 6 n n X Y from fun h => g1 (h.2 k hlt 1 (by omega)))
    rw [← g0] at z0
    clear g0 g1
    go_wp2_with fail
    refine wp_region_plan (.take 0 (.take 0 (.take 0 (.take 0 (.take 0 (.take 0 (.take 0 (.take 0 (.take 0 .done))))))))) (by kernel_rfl) (by kernel_rfl) (fun hP => ?_)
    repeat' (first
     | (refine wpPlan_two ?_ ?_)
     | (refine wpPlan_three ?_ ?_ ?_)
     | (refine wpPlan_take rfl (fun K hK => ?_); replace hK := Lib.hid hK; go_simp; first | (refine hK.out _ ?_; clear hK K) | (apply Exists.intro; refine ⟨fun _ => ?_, hK.out _ ?_⟩; (first | with_reducible exact rfl | skip); clear hK K))
     | (refine wpPlan_only rfl (fun K hK => ?_); replace hK := Lib.hid hK; (first | (go_simp; first | skip)); refine hK.out _ _ (by first | assumption | exact below_step hP hbx | exact hP.drew | exact hP.alloc hP.size _) (fun hP => ?_); clear hK K))
    all_goals refine wpPlan_done ?_
    have hB2 := below_step hb hP
    go_wp2_with fail
    go_returns
    exact ⟨ret_bool (by rw [← HV.out]; exact (decide_eq_false NO.out).symm), hB2⟩
  by_cases g2 : X k 2 = Y k 2
  rotate_left
  · have d : (X k 2 == Y k 2) = false := by simpa using g2
    have d2 : (X k 2 != Y k 2) = true := by simpa using g2
    have NO := Lib.hid (show ¬ RowsEq 6 n n X Y from fun h => g2 (h.2 k hlt 2 (by omega)))
    rw [← g0] at z0
    rw [← g1] at z1
    clear g0 g1 g2
    go_wp2_with fail
    refine wp_region_plan (.take 0 (.take 0 (.take 0 (.take 0 (.take 0 (.take 0 (.take 0 (.take 0 (.take 0 .done))))))))) (by kernel_rfl) (by kernel_rfl) (fun hP => ?_)
    repeat' (first
     | (refine wpPlan_two ?_ ?_)
     | (refine wpPlan_three ?_ ?_ ?_)
     | (refine wpPlan_take rfl (fun K hK => ?_); replace hK := Lib.hid hK; go_simp; first | (refine hK.out _ ?_; clear hK K) | (apply Exists.intro; refine ⟨fun _ => ?_, hK.out _ ?_⟩; (first | with_reducible exact rfl | skip); clear hK K))
     | (refine wpPlan_only rfl (fun K hK => ?_); replace hK := Lib.hid hK; (first | (go_simp; first | skip)); refine hK.out _ _ (by first | assumption | exact below_step hP hbx | exact hP.drew | exact hP.alloc hP.size _) (fun hP => ?_); clear hK K))
    all_goals refine wpPlan_done ?_
    have hB2 := below_step hb hP
    go_wp2_with fail
    go_returns
    exact ⟨ret_bool (by rw [← HV.out]; exact (decide_eq_false NO.out).symm), hB2⟩
  by_cases g3 : X k 3 = Y k 3
  rotate_left
  · have d : (X k 3 == Y k 3) = false := by simpa using g3
    have d2 : (X k 3 != Y k 3) = true := by simpa using g3
    have NO := Lib.hid (show ¬ RowsEq 6 n n X Y from fun h => g3 (h.2 k hlt 3 (by omega)))
    rw [← g0] at z0
    rw [← g1] at z1
    rw [← g2] at z2
    clear g0 g1 g2 g3
    go_wp2_with fail
    refine wp_region_plan (.take 0 (.take 0 (.take 0 (.take 0 (.take 0 (.take 0 (.take 0 (.take 0 (.take 0 .done))))))))) (by kernel_rfl) (by kernel_rfl) (fun hP => ?_)
    repeat' (first
     | (refine wpPlan_two ?_ ?_)
     | (refine wpPlan_three ?_ ?_ ?_)
     | (refine wpPlan_take rfl (fun K hK => ?_); replace hK := Lib.hid hK; go_simp; first | (refine hK.out _ ?_; clear hK K) | (apply Exists.intro; refine ⟨fun _ => ?_, hK.out _ ?_⟩; (first | with_reducible exact rfl | skip); clear hK K))
     | (refine wpPlan_only rfl (fun K hK => ?_); replace hK := Lib.hid hK; (first | (go_simp; first | skip)); refine hK.out _ _ (by first | assumption | exact below_step hP hbx | exact hP.drew | exact hP.alloc hP.size _) (fun hP => ?_); clear hK K))
    all_goals refine wpPlan_done ?_
    have hB2 := below_step hb hP
    go_wp2_with fail
    go_returns
    exact ⟨ret_bool (by rw [← HV.out]; exact (decide_eq_false NO.out).symm), hB2⟩
  by_cases g4 : X k 4 = Y k 4
  rotate_left
  · have d : (X k 4 == Y k 4) = false := by simpa using g4
    have d2 : (X k 4 != Y k 4) = true := by simpa using g4
    have NO := Lib.hid (show ¬ RowsEq 6 n n X Y from fun h => g4 (h.2 k hlt 4 (by omega)))
    rw [← g0] at z0
    rw [← g1] at z1
    rw [← g2] at z2
    rw [← g3] at z3
    clear g0 g1 g2 g3 g4
    go_wp2_with fail
    refine wp_region_plan (.take 0 (.take 0 (.take 0 (.take 0 (.take 0 (.take 0 (.take 0 (.take 0 (.take 0 .done))))))))) (by kernel_rfl) (by kernel_rfl) (fun hP => ?_)
    repeat' (first
     | (refine wpPlan_two ?_ ?_)
     | (refine wpPlan_three ?_ ?_ ?_)
     | (refine wpPlan_take rfl (fun K hK => ?_); replace hK := Lib.hid hK; go_simp; first | (refine hK.out _ ?_; clear hK K) | (apply Exists.intro; refine ⟨fun _ => ?_, hK.out _ ?_⟩; (first | with_reducible exact rfl | skip); clear hK K))
     | (refine wpPlan_only rfl (fun K hK => ?_); replace hK := Lib.hid hK; (first | (go_simp; first | skip)); refine hK.out _ _ (by first | assumption | exact below_step hP hbx | exact hP.drew | exact hP.alloc hP.size _) (fun hP => ?_); clear hK K))
    all_goals refine wpPlan_done ?_
    have hB2 := below_step hb hP
    go_wp2_with fail
    go_returns
    exact ⟨ret_bool (by rw [← HV.out]; exact (decide_eq_false NO.out).symm), hB2⟩
  by_cases g5 : X k 5 = Y k 5
  rotate_left
  · have d : (X k 5 == Y k 5) = false := by simpa using g5
    have d2 : (X k 5 != Y k 5) = true := by simpa using g5
    have NO := Lib.hid (show ¬ RowsEq 6 n n X Y from fun h => g5 (h.2 k hlt 5 (by omega)))
    rw [← g0] at z0
    rw [← g1] at z1
    rw [← g2] at z2
    rw [← g3] at z3
    rw [← g4] at z4
    clear g0 g1 g2 g3 g4 g5
    go_wp2_with fail
    refine wp_region_plan (.take 0 (.take 0 (.take 0 (.take 0 (.take 0 (.take 0 (.take 0 (.take 0 (.take 0 .done))))))))) (by kernel_rfl) (by kernel_rfl) (fun hP => ?_)
    repeat' (first
     | (refine wpPlan_two ?_ ?_)
     | (refine wpPlan_three ?_ ?_ ?_)
     | (refine wpPlan_take rfl (fun K hK => ?_); replace hK := Lib.hid hK; go_simp; first | (refine hK.out _ ?_; clear hK K) | (apply Exists.intro; refine ⟨fun _ => ?_, hK.out _ ?_⟩; (first | with_reducible exact rfl | skip); clear hK K))
     | (refine wpPlan_only rfl (fun K hK => ?_); replace hK := Lib.hid hK; (first | (go_simp; first | skip)); refine hK.out _ _ (by first | assumption | exact below_step hP hbx | exact hP.drew | exact hP.alloc hP.size _) (fun hP => ?_); clear hK K))
    all_goals refine wpPlan_done ?_
    have hB2 := below_step hb hP
    go_wp2_with fail
    go_returns
    exact ⟨ret_bool (by rw [← HV.out]; exact (decide_eq_false NO.out).symm), hB2⟩
  have OK := Lib.hid (show ∀ j, j < 6 → X k j = Y k j from fun j hj => by
   match j, hj with
   | 0, _ => exact g0
   | 1, _ => exact g1
   | 2, _ => exact g2
   | 3, _ => exact g3
   | 4, _ => exact g4
   | 5, _ => exact g5
  )
  rw [← g0] at z0
  rw [← g1] at z1
  rw [← g2] at z2
  rw [← g3] at z3
  rw [← g4] at z4
  rw [← g5] at z5
  clear g0 g1 g2 g3 g4 g5
  go_wp2_with fail
  refine wp_region_plan (.take 0 (.take 0 (.take 0 (.take 0 (.take 0 (.take 0 (.take 0 (.take 0 (.take 0 .done))))))))) (by kernel_rfl) (by kernel_rfl) (fun hP => ?_)
  repeat' (first
   | (refine wpPlan_two ?_ ?_)
   | (refine wpPlan_three ?_ ?_ ?_)
   | (refine wpPlan_take rfl (fun K hK => ?_); replace hK := Lib.hid hK; go_simp; first | (refine hK.out _ ?_; clear hK K) | (apply Exists.intro; refine ⟨fun _ => ?_, hK.out _ ?_⟩; (first | with_reducible exact rfl | skip); clear hK K))
   | (refine wpPlan_only rfl (fun K hK => ?_); replace hK := Lib.hid hK; (first | (go_simp; first | skip)); refine hK.out _ _ (by first | assumption | exact below_step hP hbx | exact hP.drew | exact hP.alloc hP.size _) (fun hP => ?_); clear hK K))
  all_goals refine wpPlan_done ?_
  have hB2 := below_step hb hP
  go_wp2_with fail
  go_roundw
  case rel => exact ⟨k + 1, by omega, by go_num, hB2, fun i hi => by
   rcases Nat.lt_or_ge i k with h | h
   · exact ALL.out i h
   · obtain rfl : i = k := by omega
     exact OK.out⟩
  case measure => simp [intOf]; omega
set_option maxHeartbeats 2000000 in
theorem q07Same_raw (id1 kind1 x1 y1 rad1 dep1 sym1 id2 kind2 x2 y2 rad2 dep2 sym2 : Int) (n1 c1 m1 d1 n2 c2 m2 d2 : Nat) (a1 b1 a2 b2 : Option Addr) (A1 A2 S1 S2 : Nat → Nat → Int) (w : World)
  (hA1 : Rows 2 w (.slice a1 n1 c1) n1 A1) (hA2 : Rows 2 w (.slice a2 n2 c2) n2 A2) (hS1 : Rows 6 w (.slice b1 m1 d1) m1 S1) (hS2 : Rows 6 w (.slice b2 m2 d2) m2 S2) (hn1 : n1 ≤ 9223372036854775807) (hn2 : n2 ≤ 9223372036854775807) (hm1 : m1 ≤ 9223372036854775807) (hm2 : m2 ≤ 9223372036854775807)
  {v : Bool} (hv : decide ((id1 = id2 ∧ kind1 = kind2 ∧ x1 = x2 ∧ y1 = y2 ∧ rad1 = rad2 ∧ dep1 = dep2 ∧ sym1 = sym2) ∧ RowsEq 2 n1 n2 A1 A2 ∧ RowsEq 6 m1 m2 S1 S2) = v) :
  Calls Tryz.prog 43 #[.agg #[.int .i64 id1, .int .i64 kind1, .int .i64 x1, .int .i64 y1, .int .i64 rad1, .slice a1 n1 c1, .int .i64 dep1, .int .i64 sym1, .slice b1 m1 d1], .agg #[.int .i64 id2, .int .i64 kind2, .int .i64 x2, .int .i64 y2, .int .i64 rad2, .slice a2 n2 c2, .int .i64 dep2, .int .i64 sym2, .slice b2 m2 d2]] w fun e w' => e = .returned (.bool v) ∧ Below w.heap.size w w' := by
 have HV := Lib.hid hv
 have HA1 := Lib.hid hA1
 have HA2 := Lib.hid hA2
 have HS1 := Lib.hid hS1
 have HS2 := Lib.hid hS2
 clear hv hA1 hA2 hS1 hS2
 by_cases gid : id1 = id2
 rotate_left
 · have d : (id1 == id2) = false := by simpa using gid
   have d2 : (id1 != id2) = true := by simpa using gid
   have HF := Lib.hid (show false = v by rw [← HV.out]; exact (decide_eq_false (fun h => gid h.1.1)).symm)
   clear gid HV
   go_enter Tryz.func43, Tryz.ntmps43
   go_wp2_with fail
   go_returns
   exact ⟨ret_bool HF.out, by go_grown⟩
 subst gid
 by_cases gkind : kind1 = kind2
 rotate_left
 · have d : (kind1 == kind2) = false := by simpa using gkind
   have d2 : (kind1 != kind2) = true := by simpa using gkind
   have HF := Lib.hid (show false = v by rw [← HV.out]; exact (decide_eq_false (fun h => gkind h.1.2.1)).symm)
   clear gkind HV
   go_enter Tryz.func43, Tryz.ntmps43
   go_wp2_with fail
   go_returns
   exact ⟨ret_bool HF.out, by go_grown⟩
 subst gkind
 by_cases gx : x1 = x2
 rotate_left
 · have d : (x1 == x2) = false := by simpa using gx
   have d2 : (x1 != x2) = true := by simpa using gx
   have HF := Lib.hid (show false = v by rw [← HV.out]; exact (decide_eq_false (fun h => gx h.1.2.2.1)).symm)
   clear gx HV
   go_enter Tryz.func43, Tryz.ntmps43
   go_wp2_with fail
   go_returns
   exact ⟨ret_bool HF.out, by go_grown⟩
 subst gx
 by_cases gy : y1 = y2
 rotate_left
 · have d : (y1 == y2) = false := by simpa using gy
   have d2 : (y1 != y2) = true := by simpa using gy
   have HF := Lib.hid (show false = v by rw [← HV.out]; exact (decide_eq_false (fun h => gy h.1.2.2.2.1)).symm)
   clear gy HV
   go_enter Tryz.func43, Tryz.ntmps43
   go_wp2_with fail
   go_returns
   exact ⟨ret_bool HF.out, by go_grown⟩
 subst gy
 by_cases grad : rad1 = rad2
 rotate_left
 · have d : (rad1 == rad2) = false := by simpa using grad
   have d2 : (rad1 != rad2) = true := by simpa using grad
   have HF := Lib.hid (show false = v by rw [← HV.out]; exact (decide_eq_false (fun h => grad h.1.2.2.2.2.1)).symm)
   clear grad HV
   go_enter Tryz.func43, Tryz.ntmps43
   go_wp2_with fail
   go_returns
   exact ⟨ret_bool HF.out, by go_grown⟩
 subst grad
 by_cases gdep : dep1 = dep2
 rotate_left
 · have d : (dep1 == dep2) = false := by simpa using gdep
   have d2 : (dep1 != dep2) = true := by simpa using gdep
   have HF := Lib.hid (show false = v by rw [← HV.out]; exact (decide_eq_false (fun h => gdep h.1.2.2.2.2.2.1)).symm)
   clear gdep HV
   go_enter Tryz.func43, Tryz.ntmps43
   go_wp2_with fail
   go_returns
   exact ⟨ret_bool HF.out, by go_grown⟩
 subst gdep
 by_cases gsym : sym1 = sym2
 rotate_left
 · have d : (sym1 == sym2) = false := by simpa using gsym
   have d2 : (sym1 != sym2) = true := by simpa using gsym
   have HF := Lib.hid (show false = v by rw [← HV.out]; exact (decide_eq_false (fun h => gsym h.1.2.2.2.2.2.2)).symm)
   clear gsym HV
   go_enter Tryz.func43, Tryz.ntmps43
   go_wp2_with fail
   go_returns
   exact ⟨ret_bool HF.out, by go_grown⟩
 subst gsym
 obtain ⟨u1, hu1⟩ : ∃ k, decide (RowsEq 2 n1 n2 A1 A2) = k := ⟨_, rfl⟩
 obtain ⟨u2, hu2⟩ : ∃ k, decide (RowsEq 6 m1 m2 S1 S2) = k := ⟨_, rfl⟩
 have U1 := Lib.hid hu1
 have U2 := Lib.hid hu2
 clear hu1 hu2
 go_enter Tryz.func43, Tryz.ntmps43
 go_wp2_with fail
 refine calls_named fun W hW => ?_
 obtain ⟨p1, p2, hB⟩ := box2 hW
 clear hW
 (with_reducible refine (q07Points_any _ _ _ _ _ _ _ _ _ (HA1.out.later hB) (HA2.out.later hB) hn1 hn2 U1.out).mono ?_)
 rintro e w1 ⟨rfl, hb1⟩
 have hB1 := below_step hB hb1
 have r1 := cell_block (block_later hb1 p1) 8
 have r2 := cell_block (block_later hb1 p2) 8
 cases u1
 · go_wp2_with fail
   go_returns
   exact ⟨ret_bool (by rw [← HV.out]; exact (decide_eq_false (fun h => of_decide_eq_false U1.out h.2.1)).symm), hB1⟩
 go_wp2_with fail
 (with_reducible refine (q07Sectors_any _ _ _ _ _ _ _ _ _ (HS1.out.later hB1) (HS2.out.later hB1) hm1 hm2 U2.out).mono ?_)
 rintro e w2 ⟨rfl, hb2⟩
 go_wp2_with fail
 go_returns
 exact ⟨ret_bool (by rw [← HV.out, ← U2.out, decide_eq_decide]; exact ⟨fun h => ⟨by simp, of_decide_eq_true U1.out, h⟩, fun h => h.2.2⟩), below_step hB1 hb2⟩
set_option maxHeartbeats 2000000 in
theorem q07Same_any (f g : Feat) (va vs ua us : Value) (w : World) (ha : PtsAt w va f.area) (hs : SecsAt w vs f.secs) (ka : PtsAt w ua g.area) (ks : SecsAt w us g.secs) {v : Bool} (hv : decide (f = g) = v) :
  Calls Tryz.prog 43 #[featV f va vs, featV g ua us] w fun e w' => e = .returned (.bool v) ∧ Below w.heap.size w w' := by
 obtain ⟨ad, ca, rfl, h1, h2, h3⟩ := Lists.form ha
 obtain ⟨ae, cs, rfl, g1, g2, g3⟩ := Lists.form hs
 obtain ⟨ad', ca', rfl, h1', h2', h3'⟩ := Lists.form ka
 obtain ⟨ae', cs', rfl, g1', g2', g3'⟩ := Lists.form ks
 refine q07Same_raw _ _ _ _ _ _ _ _ _ _ _ _ _ _ _ _ _ _ _ _ _ _ _ _ _ _ _ _ _ _ w h1.rows h1'.rows g1.rows g1'.rows h2 h2' g2 g2' ?_
 rw [← hv, decide_eq_decide, pts_eq, secs_eq]
 cases f
 cases g
 simp
 constructor
 · rintro ⟨⟨rfl, rfl, rfl, rfl, rfl, rfl, rfl⟩, rfl, rfl⟩
   simp
 · rintro ⟨rfl, rfl, rfl, rfl, rfl, rfl, rfl, rfl, rfl⟩
   simp
set_option maxHeartbeats 2000000 in
theorem q07SameList_any (l m : List Feat) (v1 v2 : Value) (w : World) (h1 : FeatsAt w v1 l) (h2 : FeatsAt w v2 m) {v : Bool} (hv : decide (l = m) = v) :
  Calls Tryz.prog 16 #[v1, v2] w fun e w' => e = .returned (.bool v) ∧ Below w.heap.size w w' := by
 obtain ⟨ad, c, rfl, k1, hn, hnc⟩ := h1.form
 obtain ⟨ad', c', rfl, k2, hm, hmc⟩ := h2.form
 have HV := Lib.hid hv
 have H1 := Lib.hid k1
 have H2 := Lib.hid k2
 clear hv h1 h2 k1 k2
 obtain ⟨n, hln⟩ : ∃ n, l.length = n := ⟨_, rfl⟩
 obtain ⟨n', hlm⟩ : ∃ n, m.length = n := ⟨_, rfl⟩
 rw [hln] at H1 hn hnc
 rw [hlm] at H2 hm hmc
 rw [hln, hlm]
 have HL := Lib.hid hln
 have HM := Lib.hid hlm
 clear hln hlm
 by_cases hnm : n = n'
 rotate_left
 · have d : ((n : Int) != (n' : Int)) = true := by simp; omega
   have d2 : (n != n') = true := by simp; omega
   go_enter Tryz.func16, Tryz.ntmps16
   go_wp2_with fail
   go_returns
   exact ⟨ret_bool (by rw [← HV.out]; exact (decide_eq_false (fun h => hnm (by rw [← HL.out, ← HM.out, h]))).symm), Below.refl _ _⟩
 subst hnm
 go_enter Tryz.func16, Tryz.ntmps16
 go_wp2_with fail
 go_loopw [5] (fun i wr => ∃ k : Nat, k ≤ n ∧ i = .int .i64 k ∧ Below w.heap.size w wr ∧ ∀ i, i < k → l.getD i noFeat = m.getD i noFeat) (fun i _ => n - (intOf i).toNat)
 case atStart => exact ⟨0, by omega, rfl, Below.refl _ _, fun m hm => by omega⟩
 case round =>
  obtain ⟨k, hk, rfl, hb, hall⟩ := hrel
  have ALL := Lib.hid hall
  clear hall
  rcases Nat.lt_or_ge k n with hlt | hge
  rotate_left
  · obtain rfl : k = n := by omega
    go_wp2_with fail
    go_returns
    exact ⟨ret_bool (by rw [← HV.out]; exact (decide_eq_true (getD_ext noFeat (by rw [HL.out, HM.out]) (fun i hi => ALL.out i (by have := HL.out; omega)))).symm), hb⟩
  obtain ⟨g, o, va, vs, rfl, fc⟩ := (H1.out.later hb).row hlt
  obtain ⟨g', o', va', vs', rfl, fc'⟩ := (H2.out.later hb).row hlt
  obtain ⟨f, hf⟩ : ∃ f, l.getD k noFeat = f := ⟨_, rfl⟩
  obtain ⟨f', hf'⟩ : ∃ f, m.getD k noFeat = f := ⟨_, rfl⟩
  rw [hf] at fc
  rw [hf'] at fc'
  have F1 := Lib.hid hf
  have F2 := Lib.hid hf'
  clear hf hf'
  obtain ⟨c0, c1, c2, c3, c4, c5, c6, c7, c8, PA, SA⟩ := fc
  obtain ⟨aa, ca, rfl, _, _, _⟩ := Lists.form PA
  obtain ⟨ab, cb, rfl, _, _, _⟩ := Lists.form SA
  have fc2 := fc'
  obtain ⟨_, _, _, _, _, _, _, _, _, PB, SB⟩ := fc2
  obtain ⟨ba, da, rfl, _, _, _⟩ := Lists.form PB
  obtain ⟨bb, db, rfl, _, _, _⟩ := Lists.form SB
  have PA' := Lib.hid PA
  have SA' := Lib.hid SA
  have PB' := Lib.hid PB
  have SB' := Lib.hid SB
  obtain ⟨u, hu⟩ : ∃ u, decide (f = f') = u := ⟨_, rfl⟩
  have HU := Lib.hid hu
  clear hu PA SA PB SB
  obtain ⟨d0, d1, d2, d3, d4, d5, d6, d7, d8, _, _⟩ := fc'
  have x0 := fun d os => cell_later (below_regrown wr d os) c0
  have y0 := fun d os => cell_later (below_regrown wr d os) d0
  have x1 := fun d os => cell_later (below_regrown wr d os) c1
  have y1 := fun d os => cell_later (below_regrown wr d os) d1
  have x2 := fun d os => cell_later (below_regrown wr d os) c2
  have y2 := fun d os => cell_later (below_regrown wr d os) d2
  have x3 := fun d os => cell_later (below_regrown wr d os) c3
  have y3 := fun d os => cell_later (below_regrown wr d os) d3
  have x4 := fun d os => cell_later (below_regrown wr d os) c4
  have y4 := fun d os => cell_later (below_regrown wr d os) d4
  have x5 := fun d os => cell_later (below_regrown wr d os) c5
  have y5 := fun d os => cell_later (below_regrown wr d os) d5
  have x6 := fun d os => cell_later (below_regrown wr d os) c6
  have y6 := fun d os => cell_later (below_regrown wr d os) d6
  have x7 := fun d os => cell_later (below_regrown wr d os) c7
  have y7 := fun d os => cell_later (below_regrown wr d os) d7
  have x8 := fun d os => cell_later (below_regrown wr d os) c8
  have y8 := fun d os => cell_later (below_regrown wr d os) d8
  clear c0 c1 c2 c3 c4 c5 c6 c7 c8 d0 d1 d2 d3 d4 d5 d6 d7 d8
  go_wp2_with fail
  refine wp_region_plan (.take 0 (.take 0 (.take 0 (.take 0 (.take 0 (.take 0 (.take 0 (.take 0 (.only 0 (.take 0 .done)))))))))) (by kernel_rfl) (by kernel_rfl) (fun hP => ?_)
  repeat' (first
   | (refine wpPlan_two ?_ ?_)
   | (refine wpPlan_three ?_ ?_ ?_)
   | (refine wpPlan_take rfl (fun K hK => ?_); replace hK := Lib.hid hK; go_simp; first | (refine hK.out _ ?_; clear hK K) | (apply Exists.intro; refine ⟨fun _ => ?_, hK.out _ ?_⟩; (first | with_reducible exact rfl | skip); clear hK K))
   | (refine wpPlan_only rfl (fun K hK => ?_); replace hK := Lib.hid hK; (first | (go_simp; first | (with_reducible refine (q07Same_any f f' _ _ _ _ _ (ptsL PA'.out hP) (secsL SA'.out hP) (ptsL PB'.out hP) (secsL SB'.out hP) HU.out).mono ?_; rintro e wx ⟨rfl, hbx⟩) | skip)); refine hK.out _ _ (by first | assumption | exact below_step hP hbx | exact hP.drew | exact hP.alloc hP.size _) (fun hP => ?_); clear hK K))
  all_goals refine wpPlan_done ?_
  have hB2 := below_step hb hP
  cases u
  · go_wp2_with fail
    go_returns
    exact ⟨ret_bool (by rw [← HV.out]; exact (decide_eq_false (fun h => of_decide_eq_false HU.out (by rw [← F1.out, ← F2.out, h]))).symm), hB2⟩
  · go_wp2_with fail
    go_roundw
    case rel => exact ⟨k + 1, by omega, by go_num, hB2, fun i hi => by
     rcases Nat.lt_or_ge i k with h | h
     · exact ALL.out i h
     · obtain rfl : i = k := by omega
       rw [F1.out, F2.out]
       exact of_decide_eq_true HU.out⟩
    case measure => simp [intOf]; omega
end Go.Proofs.YtdmegkkifiahdaaGreat
