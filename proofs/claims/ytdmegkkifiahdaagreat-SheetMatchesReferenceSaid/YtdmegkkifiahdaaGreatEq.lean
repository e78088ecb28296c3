/- The walks of slices.Equal on integers, places, sectors. -/
import Derived.Test.YtdmegkkifiahdaaGreatKP
namespace Go.Proofs.YtdmegkkifiahdaaGreat
open Go.RowKit
attribute [local go_sem] bqOp bqAll bqUpon sqOp sqAll sqUpon
attribute [local irreducible] wpQuiet wpBQ wpPlan
set_option linter.unusedVariables false
def RowsEq (k n m : Nat) (X Y : Nat → Nat → Int) : Prop := n = m ∧ ∀ i, i < n → ∀ j, j < k → X i j = Y i j
instance (k n m : Nat) (X Y : Nat → Nat → Int) : Decidable (RowsEq k n m X Y) := by unfold RowsEq; exact inferInstance
set_option maxHeartbeats 1000000 in
theorem eqInts_any (n m c1 c2 : Nat) (ad1 ad2 : Option Addr) (X Y : Nat → Nat → Int) (w : World) (h1 : Rows 1 w (.slice ad1 n c1) n X) (h2 : Rows 1 w (.slice ad2 m c2) m Y) (hn : n ≤ 9223372036854775807) (hm : m ≤ 9223372036854775807) {v : Bool} (hv : decide (RowsEq 1 n m X Y) = v) :
    Calls Tryz.prog 108 #[.slice ad1 n c1, .slice ad2 m c2] w fun e w' => e = .returned (.bool v) ∧ Below w.heap.size w w' := by
  have HV := Lib.hid hv
  have H1 := Lib.hid h1
  have H2 := Lib.hid h2
  clear hv h1 h2
  by_cases hnm : n = m
  rotate_left
  · have d : ((n : Int) != (m : Int)) = true := by simp; omega
    have d2 : (n != m) = true := by simp; omega
    go_enter Tryz.func108, Tryz.ntmps108
    go_wp2_with fail
    go_returns
    exact ⟨ret_bool (by rw [← HV.out]; exact (decide_eq_false (fun h => hnm h.1)).symm), Below.refl _ _⟩
  subst hnm
  go_enter Tryz.func108, Tryz.ntmps108
  go_wp2_with fail
  go_loopw [13] (fun i wr => ∃ k : Nat, k ≤ n ∧ i = .int .i64 k ∧ Below w.heap.size w wr ∧ ∀ i, i < k → ∀ j, j < 1 → X i j = Y i j) (fun i _ => n - (intOf i).toNat)
  case atStart => exact ⟨0, by omega, rfl, Below.refl _ _, fun m hm => by omega⟩
  case round =>
    obtain ⟨k, hk, rfl, hb, hall⟩ := hrel
    have ALL := Lib.hid hall
    clear hall
    rcases Nat.lt_or_ge k n with hlt | hge
    rotate_left
    · obtain rfl : k = n := by omega
      go_wp2_with fail
      go_returns
      exact ⟨ret_bool (by rw [← HV.out]; exact (decide_eq_true ⟨rfl, ALL.out⟩).symm), hb⟩
    obtain ⟨g, o, rfl, hc⟩ := (H1.out.later hb).row hlt
    obtain ⟨g', o', rfl, hc'⟩ := (H2.out.later hb).row hlt
    have r0 := fun d os => cell_later (below_regrown wr d os) (hc 0 (by omega))
    have z0 := fun d os => cell_later (below_regrown wr d os) (hc' 0 (by omega))
    simp only [Nat.add_zero] at r0 z0
    clear hc hc'
    simp only [Nat.mul_one] at r0 z0
    by_cases g0 : X k 0 = Y k 0
    rotate_left
    · have d : (X k 0 == Y k 0) = false := by simpa using g0
      have d2 : (X k 0 != Y k 0) = true := by simpa using g0
      have NO := Lib.hid (show ¬ RowsEq 1 n n X Y from fun h => g0 (h.2 k hlt 0 (by omega)))
      clear g0
      go_wp2_with fail
      refine wp_region_plan (.take 0 (.take 0 (.take 0 (.take 0 (.take 0 (.take 0 (.take 0 (.take 0 (.take 0 .done))))))))) (by kernel_rfl) (by kernel_rfl) (fun hP => ?_)
      repeat' (first
        | (refine wpPlan_two ?_ ?_)
        | (refine wpPlan_three ?_ ?_ ?_)
        | (refine wpPlan_take rfl (fun K hK => ?_); replace hK := Lib.hid hK; go_simp; first | (refine hK.out _ ?_; clear hK K) | (apply Exists.intro; refine ⟨fun _ => ?_, hK.out _ ?_⟩; (first | with_reducible exact rfl | skip); clear hK K))
        | (refine wpPlan_only rfl (fun K hK => ?_); replace hK := Lib.hid hK; (first | (go_simp; first | skip)); refine hK.out _ _ (by first | assumption | exact below_step hP hbx | exact hP.drew | exact hP.alloc hP.size _) (fun hP => ?_); clear hK K))
      all_goals refine wpPlan_done ?_
      have hB2 := below_step hb hP
      go_wp2_with fail
      go_returns
      exact ⟨ret_bool (by rw [← HV.out]; exact (decide_eq_false NO.out).symm), hB2⟩
    have OK := Lib.hid (show ∀ j, j < 1 → X k j = Y k j from fun j hj => by
      match j, hj with
      | 0, _ => exact g0
    )
    rw [← g0] at z0
    clear g0
    go_wp2_with fail
    refine wp_region_plan (.take 0 (.take 0 (.take 0 (.take 0 (.take 0 (.take 0 (.take 0 (.take 0 (.take 0 .done))))))))) (by kernel_rfl) (by kernel_rfl) (fun hP => ?_)
    repeat' (first
      | (refine wpPlan_two ?_ ?_)
      | (refine wpPlan_three ?_ ?_ ?_)
      | (refine wpPlan_take rfl (fun K hK => ?_); replace hK := Lib.hid hK; go_simp; first | (refine hK.out _ ?_; clear hK K) | (apply Exists.intro; refine ⟨fun _ => ?_, hK.out _ ?_⟩; (first | with_reducible exact rfl | skip); clear hK K))
      | (refine wpPlan_only rfl (fun K hK => ?_); replace hK := Lib.hid hK; (first | (go_simp; first | skip)); refine hK.out _ _ (by first | assumption | exact below_step hP hbx | exact hP.drew | exact hP.alloc hP.size _) (fun hP => ?_); clear hK K))
    all_goals refine wpPlan_done ?_
    have hB2 := below_step hb hP
    go_wp2_with fail
    go_roundw
    case rel => exact ⟨k + 1, by omega, by go_num, hB2, fun i hi => by
      rcases Nat.lt_or_ge i k with h | h
      · exact ALL.out i h
      · obtain rfl : i = k := by omega
        exact OK.out⟩
    case measure => simp [intOf]; omega
set_option maxHeartbeats 1000000 in
theorem eqPts_any (n m c1 c2 : Nat) (ad1 ad2 : Option Addr) (X Y : Nat → Nat → Int) (w : World) (h1 : Rows 2 w (.slice ad1 n c1) n X) (h2 : Rows 2 w (.slice ad2 m c2) m Y) (hn : n ≤ 9223372036854775807) (hm : m ≤ 9223372036854775807) {v : Bool} (hv : decide (RowsEq 2 n m X Y) = v) :
    Calls Tryz.prog 212 #[.slice ad1 n c1, .slice ad2 m c2] w fun e w' => e = .returned (.bool v) ∧ Below w.heap.size w w' := by
  have HV := Lib.hid hv
  have H1 := Lib.hid h1
  have H2 := Lib.hid h2
  clear hv h1 h2
  by_cases hnm : n = m
  rotate_left
  · have d : ((n : Int) != (m : Int)) = true := by simp; omega
    have d2 : (n != m) = true := by simp; omega
    go_enter Tryz.func212, Tryz.ntmps212
    go_wp2_with fail
    go_returns
    exact ⟨ret_bool (by rw [← HV.out]; exact (decide_eq_false (fun h => hnm h.1)).symm), Below.refl _ _⟩
  subst hnm
  go_enter Tryz.func212, Tryz.ntmps212
  go_wp2_with fail
  go_loopw [13] (fun i wr => ∃ k : Nat, k ≤ n ∧ i = .int .i64 k ∧ Below w.heap.size w wr ∧ ∀ i, i < k → ∀ j, j < 2 → X i j = Y i j) (fun i _ => n - (intOf i).toNat)
  case atStart => exact ⟨0, by omega, rfl, Below.refl _ _, fun m hm => by omega⟩
  case round =>
    obtain ⟨k, hk, rfl, hb, hall⟩ := hrel
    have ALL := Lib.hid hall
    clear hall
    rcases Nat.lt_or_ge k n with hlt | hge
    rotate_left
    · obtain rfl : k = n := by omega
      go_wp2_with fail
      go_returns
      exact ⟨ret_bool (by rw [← HV.out]; exact (decide_eq_true ⟨rfl, ALL.out⟩).symm), hb⟩
    obtain ⟨g, o, rfl, hc⟩ := (H1.out.later hb).row hlt
    obtain ⟨g', o', rfl, hc'⟩ := (H2.out.later hb).row hlt
    have r0 := fun d os => cell_later (below_regrown wr d os) (hc 0 (by omega))
    have z0 := fun d os => cell_later (below_regrown wr d os) (hc' 0 (by omega))
    have r1 := fun d os => cell_later (below_regrown wr d os) (hc 1 (by omega))
    have z1 := fun d os => cell_later (below_regrown wr d os) (hc' 1 (by omega))
    simp only [Nat.add_zero] at r0 z0
    clear hc hc'
    by_cases g0 : X k 0 = Y k 0
    rotate_left
    · have d : (X k 0 == Y k 0) = false := by simpa using g0
      have d2 : (X k 0 != Y k 0) = true := by simpa using g0
      have NO := Lib.hid (show ¬ RowsEq 2 n n X Y from fun h => g0 (h.2 k hlt 0 (by omega)))
      clear g0
      go_wp2_with fail
      refine wp_region_plan (.take 0 (.take 0 (.take 0 (.take 0 (.take 0 (.take 0 (.take 0 (.take 0 (.take 0 .done))))))))) (by kernel_rfl) (by kernel_rfl) (fun hP => ?_)
      repeat' (first
        | (refine wpPlan_two ?_ ?_)
        | (refine wpPlan_three ?_ ?_ ?_)
        | (refine wpPlan_take rfl (fun K hK => ?_); replace hK := Lib.hid hK; go_simp; first | (refine hK.out _ ?_; clear hK K) | (apply Exists.intro; refine ⟨fun _ => ?_, hK.out _ ?_⟩; (first | with_reducible exact rfl | skip); clear hK K))
        | (refine wpPlan_only rfl (fun K hK => ?_); replace hK := Lib.hid hK; (first | (go_simp; first | skip)); refine hK.out _ _ (by first | assumption | exact below_step hP hbx | exact hP.drew | exact hP.alloc hP.size _) (fun hP => ?_); clear hK K))
      all_goals refine wpPlan_done ?_
      have hB2 := below_step hb hP
      go_wp2_with fail
      go_returns
      exact ⟨ret_bool (by rw [← HV.out]; exact (decide_eq_false NO.out).symm), hB2⟩
    by_cases g1 : X k 1 = Y k 1
    rotate_left
    · have d : (X k 1 == Y k 1) = false := by simpa using g1
      have d2 : (X k 1 != Y k 1) = true := by simpa using g1
      have NO := Lib.hid (show ¬ RowsEq 2 n n X Y from fun h => g1 (h.2 k hlt 1 (by omega)))
      rw [← g0] at z0
      clear g0 g1
      go_wp2_with fail
      refine wp_region_plan (.take 0 (.take 0 (.take 0 (.take 0 (.take 0 (.take 0 (.take 0 (.take 0 (.take 0 .done))))))))) (by kernel_rfl) (by kernel_rfl) (fun hP => ?_)
      repeat' (first
        | (refine wpPlan_two ?_ ?_)
        | (refine wpPlan_three ?_ ?_ ?_)
        | (refine wpPlan_take rfl (fun K hK => ?_); replace hK := Lib.hid hK; go_simp; first | (refine hK.out _ ?_; clear hK K) | (apply Exists.intro; refine ⟨fun _ => ?_, hK.out _ ?_⟩; (first | with_reducible exact rfl | skip); clear hK K))
        | (refine wpPlan_only rfl (fun K hK => ?_); replace hK := Lib.hid hK; (first | (go_simp; first | skip)); refine hK.out _ _ (by first | assumption | exact below_step hP hbx | exact hP.drew | exact hP.alloc hP.size _) (fun hP => ?_); clear hK K))
      all_goals refine wpPlan_done ?_
      have hB2 := below_step hb hP
      go_wp2_with fail
      go_returns
      exact ⟨ret_bool (by rw [← HV.out]; exact (decide_eq_false NO.out).symm), hB2⟩
    have OK := Lib.hid (show ∀ j, j < 2 → X k j = Y k j from fun j hj => by
      match j, hj with
      | 0, _ => exact g0
      | 1, _ => exact g1
    )
    rw [← g0] at z0
    rw [← g1] at z1
    clear g0 g1
    go_wp2_with fail
    refine wp_region_plan (.take 0 (.take 0 (.take 0 (.take 0 (.take 0 (.take 0 (.take 0 (.take 0 (.take 0 .done))))))))) (by kernel_rfl) (by kernel_rfl) (fun hP => ?_)
    repeat' (first
      | (refine wpPlan_two ?_ ?_)
      | (refine wpPlan_three ?_ ?_ ?_)
      | (refine wpPlan_take rfl (fun K hK => ?_); replace hK := Lib.hid hK; go_simp; first | (refine hK.out _ ?_; clear hK K) | (apply Exists.intro; refine ⟨fun _ => ?_, hK.out _ ?_⟩; (first | with_reducible exact rfl | skip); clear hK K))
      | (refine wpPlan_only rfl (fun K hK => ?_); replace hK := Lib.hid hK; (first | (go_simp; first | skip)); refine hK.out _ _ (by first | assumption | exact below_step hP hbx | exact hP.drew | exact hP.alloc hP.size _) (fun hP => ?_); clear hK K))
    all_goals refine wpPlan_done ?_
    have hB2 := below_step hb hP
    go_wp2_with fail
    go_roundw
    case rel => exact ⟨k + 1, by omega, by go_num, hB2, fun i hi => by
      rcases Nat.lt_or_ge i k with h | h
      · exact ALL.out i h
      · obtain rfl : i = k := by omega
        exact OK.out⟩
    case measure => simp [intOf]; omega
set_option maxHeartbeats 1000000 in
theorem eqSecs_any (n m c1 c2 : Nat) (ad1 ad2 : Option Addr) (X Y : Nat → Nat → Int) (w : World) (h1 : Rows 6 w (.slice ad1 n c1) n X) (h2 : Rows 6 w (.slice ad2 m c2) m Y) (hn : n ≤ 9223372036854775807) (hm : m ≤ 9223372036854775807) {v : Bool} (hv : decide (RowsEq 6 n m X Y) = v) :
    Calls Tryz.prog 213 #[.slice ad1 n c1, .slice ad2 m c2] w fun e w' => e = .returned (.bool v) ∧ Below w.heap.size w w' := by
  have HV := Lib.hid hv
  have H1 := Lib.hid h1
  have H2 := Lib.hid h2
  clear hv h1 h2
  by_cases hnm : n = m
  rotate_left
  · have d : ((n : Int) != (m : Int)) = true := by simp; omega
    have d2 : (n != m) = true := by simp; omega
    go_enter Tryz.func213, Tryz.ntmps213
    go_wp2_with fail
    go_returns
    exact ⟨ret_bool (by rw [← HV.out]; exact (decide_eq_false (fun h => hnm h.1)).symm), Below.refl _ _⟩
  subst hnm
  go_enter Tryz.func213, Tryz.ntmps213
  go_wp2_with fail
  go_loopw [13] (fun i wr => ∃ k : Nat, k ≤ n ∧ i = .int .i64 k ∧ Below w.heap.size w wr ∧ ∀ i, i < k → ∀ j, j < 6 → X i j = Y i j) (fun i _ => n - (intOf i).toNat)
  case atStart => exact ⟨0, by omega, rfl, Below.refl _ _, fun m hm => by omega⟩
  case round =>
    obtain ⟨k, hk, rfl, hb, hall⟩ := hrel
    have ALL := Lib.hid hall
    clear hall
    rcases Nat.lt_or_ge k n with hlt | hge
    rotate_left
    · obtain rfl : k = n := by omega
      go_wp2_with fail
      go_returns
      exact ⟨ret_bool (by rw [← HV.out]; exact (decide_eq_true ⟨rfl, ALL.out⟩).symm), hb⟩
    obtain ⟨g, o, rfl, hc⟩ := (H1.out.later hb).row hlt
    obtain ⟨g', o', rfl, hc'⟩ := (H2.out.later hb).row hlt
    have r0 := fun d os => cell_later (below_regrown wr d os) (hc 0 (by omega))
    have z0 := fun d os => cell_later (below_regrown wr d os) (hc' 0 (by omega))
    have r1 := fun d os => cell_later (below_regrown wr d os) (hc 1 (by omega))
    have z1 := fun d os => cell_later (below_regrown wr d os) (hc' 1 (by omega))
    have r2 := fun d os => cell_later (below_regrown wr d os) (hc 2 (by omega))
    have z2 := fun d os => cell_later (below_regrown wr d os) (hc' 2 (by omega))
    have r3 := fun d os => cell_later (below_regrown wr d os) (hc 3 (by omega))
    have z3 := fun d os => cell_later (below_regrown wr d os) (hc' 3 (by omega))
    have r4 := fun d os => cell_later (below_regrown wr d os) (hc 4 (by omega))
    have z4 := fun d os => cell_later (below_regrown wr d os) (hc' 4 (by omega))
    have r5 := fun d os => cell_later (below_regrown wr d os) (hc 5 (by omega))
    have z5 := fun d os => cell_later (below_regrown wr d os) (hc' 5 (by omega))
    simp only [Nat.add_zero] at r0 z0
    clear hc hc'
    by_cases g0 : X k 0 = Y k 0
    rotate_left
    · have d : (X k 0 == Y k 0) = false := by simpa using g0
      have d2 : (X k 0 != Y k 0) = true := by simpa using g0
      have NO := Lib.hid (show ¬ RowsEq 6 n n X Y from fun h => g0 (h.2 k hlt 0 (by omega)))
      clear g0
      go_wp2_with fail
      refine wp_region_plan (.take 0 (.take 0 (.take 0 (.take 0 (.take 0 (.take 0 (.take 0 (.take 0 (.take 0 .done))))))))) (by kernel_rfl) (by kernel_rfl) (fun hP => ?_)
      repeat' (first
        | (refine wpPlan_two ?_ ?_)
        | (refine wpPlan_three ?_ ?_ ?_)
        | (refine wpPlan_take rfl (fun K hK => ?_); replace hK := Lib.hid hK; go_simp; first | (refine hK.out _ ?_; clear hK K) | (apply Exists.intro; refine ⟨fun _ => ?_, hK.out _ ?_⟩; (first | with_reducible exact rfl | skip); clear hK K))
        | (refine wpPlan_only rfl (fun K hK => ?_); replace hK := Lib.hid hK; (first | (go_simp; first | skip)); refine hK.out _ _ (by first | assumption | exact below_step hP hbx | exact hP.drew | exact hP.alloc hP.size _) (fun hP => ?_); clear hK K))
      all_goals refine wpPlan_done ?_
      have hB2 := below_step hb hP
      go_wp2_with fail
      go_returns
      exact ⟨ret_bool (by rw [← HV.out]; exact (decide_eq_false NO.out).symm), hB2⟩
    by_cases g1 : X k 1 = Y k 1
    rotate_left
    · have d : (X k 1 == Y k 1) = false := by simpa using g1
      have d2 : (X k 1 != Y k 1) = true := by simpa using g1
      have NO := Lib.hid (show ¬ RowsEq 6 n n X Y from fun h => g1 (h.2 k hlt 1 (by omega)))
      rw [← g0] at z0
      clear g0 g1
      go_wp2_with fail
      refine wp_region_plan (.take 0 (.take 0 (.take 0 (.take 0 (.take 0 (.take 0 (.take 0 (.take 0 (.take 0 .done))))))))) (by kernel_rfl) (by kernel_rfl) (fun hP => ?_)
      repeat' (first
        | (refine wpPlan_two ?_ ?_)
        | (refine wpPlan_three ?_ ?_ ?_)
        | (refine wpPlan_take rfl (fun K hK => ?_); replace hK := Lib.hid hK; go_simp; first | (refine hK.out _ ?_; clear hK K) | (apply Exists.intro; refine ⟨fun _ => ?_, hK.out _ ?_⟩; (first | with_reducible exact rfl | skip); clear hK K))
        | (refine wpPlan_only rfl (fun K hK => ?_); replace hK := Lib.hid hK; (first | (go_simp; first | skip)); refine hK.out _ _ (by first | assumption | exact below_step hP hbx | exact hP.drew | exact hP.alloc hP.size _) (fun hP => ?_); clear hK K))
      all_goals refine wpPlan_done ?_
      have hB2 := below_step hb hP
      go_wp2_with fail
      go_returns
      exact ⟨ret_bool (by rw [← HV.out]; exact (decide_eq_false NO.out).symm), hB2⟩
    by_cases g2 : X k 2 = Y k 2
    rotate_left
    · have d : (X k 2 == Y k 2) = false := by simpa using g2
      have d2 : (X k 2 != Y k 2) = true := by simpa using g2
      have NO := Lib.hid (show ¬ RowsEq 6 n n X Y from fun h => g2 (h.2 k hlt 2 (by omega)))
      rw [← g0] at z0
      rw [← g1] at z1
      clear g0 g1 g2
      go_wp2_with fail
      refine wp_region_plan (.take 0 (.take 0 (.take 0 (.take 0 (.take 0 (.take 0 (.take 0 (.take 0 (.take 0 .done))))))))) (by kernel_rfl) (by kernel_rfl) (fun hP => ?_)
      repeat' (first
        | (refine wpPlan_two ?_ ?_)
        | (refine wpPlan_three ?_ ?_ ?_)
        | (refine wpPlan_take rfl (fun K hK => ?_); replace hK := Lib.hid hK; go_simp; first | (refine hK.out _ ?_; clear hK K) | (apply Exists.intro; refine ⟨fun _ => ?_, hK.out _ ?_⟩; (first | with_reducible exact rfl | skip); clear hK K))
        | (refine wpPlan_only rfl (fun K hK => ?_); replace hK := Lib.hid hK; (first | (go_simp; first | skip)); refine hK.out _ _ (by first | assumption | exact below_step hP hbx | exact hP.drew | exact hP.alloc hP.size _) (fun hP => ?_); clear hK K))
      all_goals refine wpPlan_done ?_
      have hB2 := below_step hb hP
      go_wp2_with fail
      go_returns
      exact ⟨ret_bool (by rw [← HV.out]; exact (decide_eq_false NO.out).symm), hB2⟩
    by_cases g3 : X k 3 = Y k 3
    rotate_left
    · have d : (X k 3 == Y k 3) = false := by simpa using g3
      have d2 : (X k 3 != Y k 3) = true := by simpa using g3
      have NO := Lib.hid (show ¬ RowsEq 6 n n X Y from fun h => g3 (h.2 k hlt 3 (by omega)))
      rw [← g0] at z0
      rw [← g1] at z1
      rw [← g2] at z2
      clear g0 g1 g2 g3
      go_wp2_with fail
      refine wp_region_plan (.take 0 (.take 0 (.take 0 (.take 0 (.take 0 (.take 0 (.take 0 (.take 0 (.take 0 .done))))))))) (by kernel_rfl) (by kernel_rfl) (fun hP => ?_)
      repeat' (first
        | (refine wpPlan_two ?_ ?_)
        | (refine wpPlan_three ?_ ?_ ?_)
        | (refine wpPlan_take rfl (fun K hK => ?_); replace hK := Lib.hid hK; go_simp; first | (refine hK.out _ ?_; clear hK K) | (apply Exists.intro; refine ⟨fun _ => ?_, hK.out _ ?_⟩; (first | with_reducible exact rfl | skip); clear hK K))
        | (refine wpPlan_only rfl (fun K hK => ?_); replace hK := Lib.hid hK; (first | (go_simp; first | skip)); refine hK.out _ _ (by first | assumption | exact below_step hP hbx | exact hP.drew | exact hP.alloc hP.size _) (fun hP => ?_); clear hK K))
      all_goals refine wpPlan_done ?_
      have hB2 := below_step hb hP
      go_wp2_with fail
      go_returns
      exact ⟨ret_bool (by rw [← HV.out]; exact (decide_eq_false NO.out).symm), hB2⟩
    by_cases g4 : X k 4 = Y k 4
    rotate_left
    · have d : (X k 4 == Y k 4) = false := by simpa using g4
      have d2 : (X k 4 != Y k 4) = true := by simpa using g4
      have NO := Lib.hid (show ¬ RowsEq 6 n n X Y from fun h => g4 (h.2 k hlt 4 (by omega)))
      rw [← g0] at z0
      rw [← g1] at z1
      rw [← g2] at z2
      rw [← g3] at z3
      clear g0 g1 g2 g3 g4
      go_wp2_with fail
      refine wp_region_plan (.take 0 (.take 0 (.take 0 (.take 0 (.take 0 (.take 0 (.take 0 (.take 0 (.take 0 .done))))))))) (by kernel_rfl) (by kernel_rfl) (fun hP => ?_)
      repeat' (first
        | (refine wpPlan_two ?_ ?_)
        | (refine wpPlan_three ?_ ?_ ?_)
        | (refine wpPlan_take rfl (fun K hK => ?_); replace hK := Lib.hid hK; go_simp; first | (refine hK.out _ ?_; clear hK K) | (apply Exists.intro; refine ⟨fun _ => ?_, hK.out _ ?_⟩; (first | with_reducible exact rfl | skip); clear hK K))
        | (refine wpPlan_only rfl (fun K hK => ?_); replace hK := Lib.hid hK; (first | (go_simp; first | skip)); refine hK.out _ _ (by first | assumption | exact below_step hP hbx | exact hP.drew | exact hP.alloc hP.size _) (fun hP => ?_); clear hK K))
      all_goals refine wpPlan_done ?_
      have hB2 := below_step hb hP
      go_wp2_with fail
      go_returns
      exact ⟨ret_bool (by rw [← HV.out]; exact (decide_eq_false NO.out).symm), hB2⟩
    by_cases g5 : X k 5 = Y k 5
    rotate_left
    · have d : (X k 5 == Y k 5) = false := by simpa using g5
      have d2 : (X k 5 != Y k 5) = true := by simpa using g5
      have NO := Lib.hid (show ¬ RowsEq 6 n n X Y from fun h => g5 (h.2 k hlt 5 (by omega)))
      rw [← g0] at z0
      rw [← g1] at z1
      rw [← g2] at z2
      rw [← g3] at z3
      rw [← g4] at z4
      clear g0 g1 g2 g3 g4 g5
      go_wp2_with fail
      refine wp_region_plan (.take 0 (.take 0 (.take 0 (.take 0 (.take 0 (.take 0 (.take 0 (.take 0 (.take 0 .done))))))))) (by kernel_rfl) (by kernel_rfl) (fun hP => ?_)
      repeat' (first
        | (refine wpPlan_two ?_ ?_)
        | (refine wpPlan_three ?_ ?_ ?_)
        | (refine wpPlan_take rfl (fun K hK => ?_); replace hK := Lib.hid hK; go_simp; first | (refine hK.out _ ?_; clear hK K) | (apply Exists.intro; refine ⟨fun _ => ?_, hK.out _ ?_⟩; (first | with_reducible exact rfl | skip); clear hK K))
        | (refine wpPlan_only rfl (fun K hK => ?_); replace hK := Lib.hid hK; (first | (go_simp; first | skip)); refine hK.out _ _ (by first | assumption | exact below_step hP hbx | exact hP.drew | exact hP.alloc hP.size _) (fun hP => ?_); clear hK K))
      all_goals refine wpPlan_done ?_
      have hB2 := below_step hb hP
      go_wp2_with fail
      go_returns
      exact ⟨ret_bool (by rw [← HV.out]; exact (decide_eq_false NO.out).symm), hB2⟩
    have OK := Lib.hid (show ∀ j, j < 6 → X k j = Y k j from fun j hj => by
      match j, hj with
      | 0, _ => exact g0
      | 1, _ => exact g1
      | 2, _ => exact g2
      | 3, _ => exact g3
      | 4, _ => exact g4
      | 5, _ => exact g5
    )
    rw [← g0] at z0
    rw [← g1] at z1
    rw [← g2] at z2
    rw [← g3] at z3
    rw [← g4] at z4
    rw [← g5] at z5
    clear g0 g1 g2 g3 g4 g5
    go_wp2_with fail
    refine wp_region_plan (.take 0 (.take 0 (.take 0 (.take 0 (.take 0 (.take 0 (.take 0 (.take 0 (.take 0 .done))))))))) (by kernel_rfl) (by kernel_rfl) (fun hP => ?_)
    repeat' (first
      | (refine wpPlan_two ?_ ?_)
      | (refine wpPlan_three ?_ ?_ ?_)
      | (refine wpPlan_take rfl (fun K hK => ?_); replace hK := Lib.hid hK; go_simp; first | (refine hK.out _ ?_; clear hK K) | (apply Exists.intro; refine ⟨fun _ => ?_, hK.out _ ?_⟩; (first | with_reducible exact rfl | skip); clear hK K))
      | (refine wpPlan_only rfl (fun K hK => ?_); replace hK := Lib.hid hK; (first | (go_simp; first | skip)); refine hK.out _ _ (by first | assumption | exact below_step hP hbx | exact hP.drew | exact hP.alloc hP.size _) (fun hP => ?_); clear hK K))
    all_goals refine wpPlan_done ?_
    have hB2 := below_step hb hP
    go_wp2_with fail
    go_roundw
    case rel => exact ⟨k + 1, by omega, by go_num, hB2, fun i hi => by
      rcases Nat.lt_or_ge i k with h | h
      · exact ALL.out i h
      · obtain rfl : i = k := by omega
        exact OK.out⟩
    case measure => simp [intOf]; omega
end Go.Proofs.YtdmegkkifiahdaaGreat
