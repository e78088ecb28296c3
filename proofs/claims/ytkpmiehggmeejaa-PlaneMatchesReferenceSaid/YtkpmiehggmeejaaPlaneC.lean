/- The walks of package plane's meeting segments, squares of distances, nearness, and roots. -/
import Derived.Test.YtkpmiehggmeejaaPlaneB
namespace Go.Proofs.Ytkpmiehggmeejaa
open Go.RowKit
attribute [local go_sem] bqOp bqAll bqUpon
attribute [local irreducible] wpQuiet wpBQ
set_option maxHeartbeats 1000000 in
theorem meet_any (ax ay bx by' cx cy dx dy : Int) (w : World) (ha : Vld ax ay) (hb : Vld bx by') (hc : Vld cx cy) (hd : Vld dx dy) {v : Bool} (hv : meetB ax ay bx by' cx cy dx dy = v) :
    Calls Try.prog 34 #[.agg #[.int .i64 ax, .int .i64 ay], .agg #[.int .i64 bx, .int .i64 by'], .agg #[.int .i64 cx, .int .i64 cy], .agg #[.int .i64 dx, .int .i64 dy]] w fun e w' => e = .returned (.bool v) ∧ Below w.heap.size w w' := by
  obtain ⟨s1, h1⟩ : ∃ s, (crs ax ay bx by' cx cy).sign = s := ⟨_, rfl⟩
  obtain ⟨s2, h2⟩ : ∃ s, (crs ax ay bx by' dx dy).sign = s := ⟨_, rfl⟩
  obtain ⟨s3, h3⟩ : ∃ s, (crs cx cy dx dy ax ay).sign = s := ⟨_, rfl⟩
  obtain ⟨s4, h4⟩ : ∃ s, (crs cx cy dx dy bx by').sign = s := ⟨_, rfl⟩
  obtain ⟨v1, g1⟩ : ∃ s, onB ax ay cx cy dx dy = s := ⟨_, rfl⟩
  obtain ⟨v2, g2⟩ : ∃ s, onB bx by' cx cy dx dy = s := ⟨_, rfl⟩
  obtain ⟨v3, g3⟩ : ∃ s, onB cx cy ax ay bx by' = s := ⟨_, rfl⟩
  obtain ⟨v4, g4⟩ : ∃ s, onB dx dy ax ay bx by' = s := ⟨_, rfl⟩
  have hv' : (decide (s1 * s2 < 0 ∧ s3 * s4 < 0) || (v1 || (v2 || (v3 || v4)))) = v := by rw [← hv, meetB, crossB, h1, h2, h3, h4, g1, g2, g3, g4]
  have b1 := h1 ▸ sign_bd (crs ax ay bx by' cx cy)
  have b2 := h2 ▸ sign_bd (crs ax ay bx by' dx dy)
  have b3 := h3 ▸ sign_bd (crs cx cy dx dy ax ay)
  have b4 := h4 ▸ sign_bd (crs cx cy dx dy bx by')
  obtain ⟨m1, m2⟩ := mul_bd (a := s1) (b := s2) (A := 1) (B := 1) (by omega) (by omega) (by omega) (by omega)
  obtain ⟨m3, m4⟩ := mul_bd (a := s3) (b := s4) (A := 1) (B := 1) (by omega) (by omega) (by omega) (by omega)
  clear hv b1 b2 b3 b4
  have w1 : IntKind.i64.wrap (s1 * s2) = s1 * s2 := IntWalk.i64_in _ (by omega)
  have w2 : IntKind.i64.wrap (s3 * s4) = s3 * s4 := IntWalk.i64_in _ (by omega)
  have HV := Lib.hid hv'
  clear hv'
  go_enter Try.func34, Try.ntmps34
  go_wp2_with fail
  refine wp_named fun W hW => ?_
  obtain ⟨p1, p2, p3, p4, hB⟩ := box4 hW
  clear hW
  have q1 := cellsR p1
  have q2 := cellsR p2
  have q3 := cellsR p3
  have q4 := cellsR p4
  by_cases t12 : s1 * s2 < 0 ∧ s3 * s4 < 0
  · obtain ⟨t1, t2⟩ := t12
    (refine wp_region_quiet_below (by kernel_rfl) (by kernel_rfl) ?_; (repeat (refine wpQuiet_step (fun K hK => ?_); replace hK := Lib.hid hK; go_simp; first | (refine hK.out _ ?_; clear hK K) | (apply Exists.intro; refine ⟨fun _ => ?_, hK.out _ ?_⟩; (first | (go_at_call 33; exact Calls.regrown_of (turn_any _ _ _ _ _ _ _ (by assumption) (by assumption) (by assumption) (by assumption)))); clear hK K))); refine wpQuiet_nil ?_)
    intro W1 hW1
    have hB1 := regrown_below hW1
    clear hW1
    go_wp2
    go_returns
    exact ⟨ret_bool (by rw [← HV.out]; simp [t1, t2]), below_step hB hB1⟩
  · have HV' : Hid ((v1 || (v2 || (v3 || v4))) = v) := Lib.hid (by rw [← HV.out]; simp only [t12, decide_false, Bool.false_or])
    clear HV
    by_cases t1 : s1 * s2 < 0
    · have t2 : 0 ≤ s3 * s4 := by omega
      clear t12
      (refine wp_region_quiet_below (by kernel_rfl) (by kernel_rfl) ?_; (repeat (refine wpQuiet_step (fun K hK => ?_); replace hK := Lib.hid hK; go_simp; first | (refine hK.out _ ?_; clear hK K) | (apply Exists.intro; refine ⟨fun _ => ?_, hK.out _ ?_⟩; (first | (go_at_call 33; exact Calls.regrown_of (turn_any _ _ _ _ _ _ _ (by assumption) (by assumption) (by assumption) (by assumption)))); clear hK K))); refine wpQuiet_nil ?_)
      intro W1 hW1
      have hB1 := regrown_below hW1
      clear hW1 q1 q2 q3 q4
      have q1 := cellsL p1
      have q2 := cellsL p2
      have q3 := cellsL p3
      have q4 := cellsL p4
      clear p1 p2 p3 p4
      go_wp2_with fail
      (with_reducible refine (on_any _ _ _ _ _ _ _ ha hc hd g1).mono ?_)
      rintro e w2 ⟨rfl, hb2⟩
      have hB2 := below_step hB1 hb2
      clear hb2
      cases v1 with
      | true =>
        go_wp2_with fail
        go_returns
        exact ⟨ret_bool (by rw [← HV'.out]; simp), below_step hB hB2⟩
      | false =>
        go_wp2_with fail
        (with_reducible refine (on_any _ _ _ _ _ _ _ hb hc hd g2).mono ?_)
        rintro e w3 ⟨rfl, hb3⟩
        have hB3 := below_step hB2 hb3
        clear hb3
        cases v2 with
        | true =>
          go_wp2_with fail
          go_returns
          exact ⟨ret_bool (by rw [← HV'.out]; simp), below_step hB hB3⟩
        | false =>
          go_wp2_with fail
          (with_reducible refine (on_any _ _ _ _ _ _ _ hc ha hb g3).mono ?_)
          rintro e w4 ⟨rfl, hb4⟩
          have hB4 := below_step hB3 hb4
          clear hb4
          cases v3 with
          | true =>
            go_wp2_with fail
            go_returns
            exact ⟨ret_bool (by rw [← HV'.out]; simp), below_step hB hB4⟩
          | false =>
            go_wp2_with fail
            (with_reducible refine (on_any _ _ _ _ _ _ _ hd ha hb g4).mono ?_)
            rintro e w5 ⟨rfl, hb5⟩
            have hB5 := below_step hB4 hb5
            clear hb5
            go_wp2_with fail
            go_returns
            exact ⟨ret_bool (by rw [← HV'.out]; simp), below_step hB hB5⟩
    · have d1 : decide (s1 * s2 < 0) = false := by simp only [decide_eq_false_iff_not]; exact t1
      clear t1
      clear t12
      (refine wp_region_quiet_below (by kernel_rfl) (by kernel_rfl) ?_; (repeat (refine wpQuiet_step (fun K hK => ?_); replace hK := Lib.hid hK; go_simp; first | (refine hK.out _ ?_; clear hK K) | (apply Exists.intro; refine ⟨fun _ => ?_, hK.out _ ?_⟩; (first | (go_at_call 33; exact Calls.regrown_of (turn_any _ _ _ _ _ _ _ (by assumption) (by assumption) (by assumption) (by assumption)))); clear hK K))); refine wpQuiet_nil ?_)
      intro W1 hW1
      have hB1 := regrown_below hW1
      clear hW1 q1 q2 q3 q4
      have q1 := cellsL p1
      have q2 := cellsL p2
      have q3 := cellsL p3
      have q4 := cellsL p4
      clear p1 p2 p3 p4
      go_wp2_with fail
      (with_reducible refine (on_any _ _ _ _ _ _ _ ha hc hd g1).mono ?_)
      rintro e w2 ⟨rfl, hb2⟩
      have hB2 := below_step hB1 hb2
      clear hb2
      cases v1 with
      | true =>
        go_wp2_with fail
        go_returns
        exact ⟨ret_bool (by rw [← HV'.out]; simp), below_step hB hB2⟩
      | false =>
        go_wp2_with fail
        (with_reducible refine (on_any _ _ _ _ _ _ _ hb hc hd g2).mono ?_)
        rintro e w3 ⟨rfl, hb3⟩
        have hB3 := below_step hB2 hb3
        clear hb3
        cases v2 with
        | true =>
          go_wp2_with fail
          go_returns
          exact ⟨ret_bool (by rw [← HV'.out]; simp), below_step hB hB3⟩
        | false =>
          go_wp2_with fail
          (with_reducible refine (on_any _ _ _ _ _ _ _ hc ha hb g3).mono ?_)
          rintro e w4 ⟨rfl, hb4⟩
          have hB4 := below_step hB3 hb4
          clear hb4
          cases v3 with
          | true =>
            go_wp2_with fail
            go_returns
            exact ⟨ret_bool (by rw [← HV'.out]; simp), below_step hB hB4⟩
          | false =>
            go_wp2_with fail
            (with_reducible refine (on_any _ _ _ _ _ _ _ hd ha hb g4).mono ?_)
            rintro e w5 ⟨rfl, hb5⟩
            have hB5 := below_step hB4 hb5
            clear hb5
            go_wp2_with fail
            go_returns
            exact ⟨ret_bool (by rw [← HV'.out]; simp), below_step hB hB5⟩
end Go.Proofs.Ytkpmiehggmeejaa
