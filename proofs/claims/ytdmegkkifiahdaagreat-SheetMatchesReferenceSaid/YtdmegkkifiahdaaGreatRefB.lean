/- The walks of chapter 1's reference: products, places on segments, crossings. -/
import Derived.Test.YtdmegkkifiahdaaGreatRefA
import Derived.Outline
namespace Go.Proofs.YtdmegkkifiahdaaGreat
open Go.RowKit
attribute [local go_sem] bqOp bqAll bqUpon
attribute [local irreducible] wpQuiet wpBQ
theorem rLie_any (px py ax ay bx by' : Int) (w : World) (hp : Vld px py) (ha : Vld ax ay) (hb : Vld bx by') {v : Bool} (hv : onB px py ax ay bx by' = v) :
    Calls Tryz.prog 369 #[.agg #[.int .i64 px, .int .i64 py], .agg #[.int .i64 ax, .int .i64 ay], .agg #[.int .i64 bx, .int .i64 by']] w fun e w' => e = .returned (.bool v) ∧ Below w.heap.size w w' := by
  obtain ⟨⟨m1, m2⟩, m3, m4⟩ := crs_bd ha hb hp
  obtain ⟨a1, a2, a3, a4⟩ := ha
  obtain ⟨b1, b2, b3, b4⟩ := hb
  obtain ⟨c1, c2, c3, c4⟩ := hp
  have HV : Hid (∀ u : Bool, (u = true ↔ OnS px py ax ay bx by') → u = v) := Lib.hid (fun u hu => by
    rw [← hv, onB]
    by_cases h : OnS px py ax ay bx by'
    · simp [h, hu]
    · simp [h]; cases u <;> simp_all)
  clear hv
  go_enter Tryz.func369, Tryz.ntmps369
  go_wp2_with fail
  refine wp_named fun W hW => ?_
  obtain ⟨p1, p2, p3, hB⟩ := box3 hW
  clear hW
  have q1 := cellsR p1
  have q2 := cellsR p2
  have q3 := cellsR p3
  (refine wp_region_quiet_below (by kernel_rfl) (by kernel_rfl) ?_; (repeat (refine wpQuiet_step (fun K hK => ?_); replace hK := Lib.hid hK; go_simp; first | (refine hK.out _ ?_; clear hK K) | (apply Exists.intro; refine ⟨fun _ => ?_, hK.out _ ?_⟩; (first | (go_at_call 365; exact Calls.regrown_of (rMinus_any _ _ _ _ _ (by omega) (by omega) (by omega) (by omega))) | (go_at_call 378; exact Calls.regrown_of (rCross_any _ _ _ _ _ (by omega) (by omega) (by omega) (by omega) (by omega) (by omega)))); clear hK K))); refine wpQuiet_nil ?_)
  intro W1 hW1
  have hB1 := regrown_below hW1
  clear hW1 q1 q2 q3
  have q1 := cellsL p1
  have q2 := cellsL p2
  have q3 := cellsL p3
  clear p1 p2 p3 m1 m2 m3 m4 a1 a2 a3 a4 b1 b2 b3 b4 c1 c2 c3 c4
  by_cases t : (bx - ax) * (py - ay) - (by' - ay) * (px - ax) = 0
  · have t' : ((bx - ax) * (py - ay) - (by' - ay) * (px - ax) != 0) = false := by simp [t]
    have T := Lib.hid t
    clear t
    go_wp2_with fail
    all_goals (go_returns; exact ⟨ret_bool (HV.out _ ⟨fun h => ⟨T.out, by simp at h <;> omega⟩, fun h => by have := h.2; simp <;> omega⟩), below_step hB hB1⟩)
  · have t' : ((bx - ax) * (py - ay) - (by' - ay) * (px - ax) != 0) = true := by simp [t]
    have T := Lib.hid t
    clear t
    go_wp2_with fail
    go_returns
    exact ⟨ret_bool (HV.out _ ⟨fun h => by simp at h, fun h => absurd h.1 T.out⟩), below_step hB hB1⟩
set_option maxHeartbeats 4000000 in
theorem rCrosses_any (ax ay bx by' cx cy dx dy : Int) (w : World) (ha : Vld ax ay) (hb : Vld bx by') (hc : Vld cx cy) (hd : Vld dx dy) {v : Bool} (hv : meetB ax ay bx by' cx cy dx dy = v) :
    Calls Tryz.prog 379 #[.agg #[.int .i64 ax, .int .i64 ay], .agg #[.int .i64 bx, .int .i64 by'], .agg #[.int .i64 cx, .int .i64 cy], .agg #[.int .i64 dx, .int .i64 dy]] w fun e w' => e = .returned (.bool v) ∧ Below w.heap.size w w' := by
  obtain ⟨s1, h1⟩ : ∃ s, (crs ax ay bx by' cx cy).sign = s := ⟨_, rfl⟩
  obtain ⟨s2, h2⟩ : ∃ s, (crs ax ay bx by' dx dy).sign = s := ⟨_, rfl⟩
  obtain ⟨s3, h3⟩ : ∃ s, (crs cx cy dx dy ax ay).sign = s := ⟨_, rfl⟩
  obtain ⟨s4, h4⟩ : ∃ s, (crs cx cy dx dy bx by').sign = s := ⟨_, rfl⟩
  obtain ⟨v1, g1⟩ : ∃ s, onB ax ay cx cy dx dy = s := ⟨_, rfl⟩
  obtain ⟨v2, g2⟩ : ∃ s, onB bx by' cx cy dx dy = s := ⟨_, rfl⟩
  obtain ⟨v3, g3⟩ : ∃ s, onB cx cy ax ay bx by' = s := ⟨_, rfl⟩
  obtain ⟨v4, g4⟩ : ∃ s, onB dx dy ax ay bx by' = s := ⟨_, rfl⟩
  have hv' : (decide (s1 * s2 < 0 ∧ s3 * s4 < 0) || (v1 || (v2 || (v3 || v4)))) = v := by rw [← hv, meetB, crossB, h1, h2, h3, h4, g1, g2, g3, g4]
  have b1 := h1 ▸ sign_bd (crs ax ay bx by' cx cy)
  have b2 := h2 ▸ sign_bd (crs ax ay bx by' dx dy)
  have b3 := h3 ▸ sign_bd (crs cx cy dx dy ax ay)
  have b4 := h4 ▸ sign_bd (crs cx cy dx dy bx by')
  obtain ⟨m1, m2⟩ := mul_bd (a := s1) (b := s2) (A := 1) (B := 1) (by omega) (by omega) (by omega) (by omega)
  obtain ⟨m3, m4⟩ := mul_bd (a := s3) (b := s4) (A := 1) (B := 1) (by omega) (by omega) (by omega) (by omega)
  obtain ⟨⟨c1, c2⟩, c3, c4⟩ := crs_bd ha hb hc
  obtain ⟨⟨c5, c6⟩, c7, c8⟩ := crs_bd ha hb hd
  obtain ⟨⟨c9, c10⟩, c11, c12⟩ := crs_bd hc hd ha
  obtain ⟨⟨c13, c14⟩, c15, c16⟩ := crs_bd hc hd hb
  have ha' := ha
  have hb' := hb
  have hc' := hc
  have hd' := hd
  obtain ⟨a1, a2, a3, a4⟩ := ha'
  obtain ⟨e1, e2, e3, e4⟩ := hb'
  obtain ⟨f1, f2, f3, f4⟩ := hc'
  obtain ⟨i1, i2, i3, i4⟩ := hd'
  unfold crs at h1 h2 h3 h4
  clear hv b1 b2 b3 b4
  have w1 : IntKind.i64.wrap (s1 * s2) = s1 * s2 := IntWalk.i64_in _ (by omega)
  have w2 : IntKind.i64.wrap (s3 * s4) = s3 * s4 := IntWalk.i64_in _ (by omega)
  have HV := Lib.hid hv'
  clear hv'
  go_enter Tryz.func379, Tryz.ntmps379
  go_wp2_with fail
  refine calls_named fun W hW => ?_
  obtain ⟨p1, p2, p3, p4, hB⟩ := box4 hW
  clear hW
  have q1 := cellsL p1
  have q2 := cellsL p2
  have q3 := cellsL p3
  have q4 := cellsL p4
  have Q1 := Lib.hid p1
  have Q2 := Lib.hid p2
  have Q3 := Lib.hid p3
  have Q4 := Lib.hid p4
  clear p1 p2 p3 p4
  have hB0 := Below.refl W.heap.size W
  go_wp2_with fail
  (with_reducible refine (rLie_any _ _ _ _ _ _ _ ha hc hd g1).mono ?_)
  rintro e w1 ⟨rfl, hb1⟩
  have hB1 := below_step hB0 hb1
  clear hb1
  cases v1 with
  | true =>
    go_wp2_with fail
    go_returns
    exact ⟨ret_bool (by rw [← HV.out]; simp), below_step hB hB1⟩
  | false =>
    go_wp2_with fail
    (with_reducible refine (rLie_any _ _ _ _ _ _ _ hb hc hd g2).mono ?_)
    rintro e w2 ⟨rfl, hb2⟩
    have hB2 := below_step hB1 hb2
    clear hb2
    cases v2 with
    | true =>
      go_wp2_with fail
      go_returns
      exact ⟨ret_bool (by rw [← HV.out]; simp), below_step hB hB2⟩
    | false =>
      go_wp2_with fail
      (with_reducible refine (rLie_any _ _ _ _ _ _ _ hc ha hb g3).mono ?_)
      rintro e w3 ⟨rfl, hb3⟩
      have hB3 := below_step hB2 hb3
      clear hb3
      cases v3 with
      | true =>
        go_wp2_with fail
        go_returns
        exact ⟨ret_bool (by rw [← HV.out]; simp), below_step hB hB3⟩
      | false =>
        go_wp2_with fail
        (with_reducible refine (rLie_any _ _ _ _ _ _ _ hd ha hb g4).mono ?_)
        rintro e w4 ⟨rfl, hb4⟩
        have hB4 := below_step hB3 hb4
        clear hb4
        cases v4 with
        | true =>
          go_wp2_with fail
          go_returns
          exact ⟨ret_bool (by rw [← HV.out]; simp), below_step hB hB4⟩
        | false =>
          go_wp2_with fail
          have P1 := Lib.hid (block_later hB4 Q1.out)
          have P2 := Lib.hid (block_later hB4 Q2.out)
          have P3 := Lib.hid (block_later hB4 Q3.out)
          have P4 := Lib.hid (block_later hB4 Q4.out)
          clear q1 q2 q3 q4 Q1 Q2 Q3 Q4
          have q1 := cellsR P1.out
          have q2 := cellsR P2.out
          have q3 := cellsR P3.out
          have q4 := cellsR P4.out
          (refine wp_region_quiet_below (by kernel_rfl) (by kernel_rfl) ?_; (repeat (refine wpQuiet_step (fun K hK => ?_); replace hK := Lib.hid hK; go_simp; first | (refine hK.out _ ?_; clear hK K) | (apply Exists.intro; refine ⟨fun _ => ?_, hK.out _ ?_⟩; (first | (go_at_call 365; exact Calls.regrown_of (rMinus_any _ _ _ _ _ (by omega) (by omega) (by omega) (by omega))) | (go_at_call 378; exact Calls.regrown_of (rCross_any _ _ _ _ _ (by omega) (by omega) (by omega) (by omega) (by omega) (by omega))) | (go_at_call 377; first | exact Calls.regrown_of (rSign_any _ _ h1) | exact Calls.regrown_of (rSign_any _ _ h2) | exact Calls.regrown_of (rSign_any _ _ h3) | exact Calls.regrown_of (rSign_any _ _ h4))); clear hK K))); refine wpQuiet_nil ?_)
          intro W5 hW5
          have hB5 := regrown_below hW5
          clear hW5 q1 q2 q3 q4
          go_wp2_with fail
          have q1 := cellsR (block_later hB5 P1.out)
          have q2 := cellsR (block_later hB5 P2.out)
          have q3 := cellsR (block_later hB5 P3.out)
          have q4 := cellsR (block_later hB5 P4.out)
          (refine wp_region_quiet_below (by kernel_rfl) (by kernel_rfl) ?_; (repeat (refine wpQuiet_step (fun K hK => ?_); replace hK := Lib.hid hK; go_simp; first | (refine hK.out _ ?_; clear hK K) | (apply Exists.intro; refine ⟨fun _ => ?_, hK.out _ ?_⟩; (first | (go_at_call 365; exact Calls.regrown_of (rMinus_any _ _ _ _ _ (by omega) (by omega) (by omega) (by omega))) | (go_at_call 378; exact Calls.regrown_of (rCross_any _ _ _ _ _ (by omega) (by omega) (by omega) (by omega) (by omega) (by omega))) | (go_at_call 377; first | exact Calls.regrown_of (rSign_any _ _ h1) | exact Calls.regrown_of (rSign_any _ _ h2) | exact Calls.regrown_of (rSign_any _ _ h3) | exact Calls.regrown_of (rSign_any _ _ h4))); clear hK K))); refine wpQuiet_nil ?_)
          intro W6 hW6
          have hB6 := below_step hB4 (below_step hB5 (regrown_below hW6))
          clear hW6 q1 q2 q3 q4
          go_wp2_with fail
          all_goals
            go_returns
            exact ⟨ret_bool (by rw [← HV.out]; simp <;> omega), below_step hB hB6⟩
end Go.Proofs.YtdmegkkifiahdaaGreat
