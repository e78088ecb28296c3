/- The statement PlaneMeets of chapter 1: for any places the law's function returns true and leaves its arguments as they were. No condition. -/
import Derived.Test.YtkpmiehggmeejaaPlaneHead
import Derived.Test.YtkpmiehggmeejaaPlaneMeetMath
import Derived.Test.YtkpmiehggmeejaaFrame
namespace Go.Proofs.Ytkpmiehggmeejaa
open Go.ChangeShapes Go.WideShapes Go.ChangeAt Go.RowKit
set_option linter.unusedVariables false
set_option maxRecDepth 100000 in
set_option maxHeartbeats 4000000 in
theorem planeMeets_walk (ax ay bx by' cx cy dx dy px py : Int) (w : World) :
    Calls Try.prog 4 #[.agg #[.int .i64 ax, .int .i64 ay], .agg #[.int .i64 bx, .int .i64 by'], .agg #[.int .i64 cx, .int .i64 cy], .agg #[.int .i64 dx, .int .i64 dy], .agg #[.int .i64 px, .int .i64 py]] w fun e w' => e = .returned (.bool true) ∧ Below w.heap.size w w' := by
  go_enter Try.func4, Try.ntmps4
  go_wp2_with fail
  refine calls_named fun W hW => ?_
  obtain ⟨p1, p2, p3, p4, p5, hB⟩ := box5 hW
  clear hW
  have q1 := cellsL p1
  have q2 := cellsL p2
  have q3 := cellsL p3
  have q4 := cellsL p4
  have q5 := cellsL p5
  clear p1 p2 p3 p4 p5
  have hX0 := Below.refl W.heap.size W
  (with_reducible refine (head_any _).mono ?_)
  rintro e w1 ⟨rfl, hb⟩
  have hX1 := below_step hX0 hb
  clear hb
  by_cases hv : Vld ax ay ∧ Vld bx by' ∧ Vld cx cy ∧ Vld dx dy
  · obtain ⟨ha, hb, hc, hd⟩ := hv
    obtain ⟨x, ex⟩ : ∃ x, meetB ax ay bx by' cx cy dx dy = x := ⟨_, rfl⟩
    obtain ⟨q, eq⟩ : ∃ x, onB px py ax ay bx by' = x := ⟨_, rfl⟩
    obtain ⟨r, er⟩ : ∃ x, onB px py cx cy dx dy = x := ⟨_, rfl⟩
    have hx : q = true → r = true → x = true := fun h1 h2 => by rw [← ex]; rw [h1] at eq; rw [h2] at er; simp only [onB, decide_eq_true_eq] at eq er; exact meet_of_on eq er
    have l1 := fun w => Meet_yes ax ay bx by' cx cy dx dy w ha hb hc hd ex
    have l2 := fun w => Meet_yes bx by' ax ay cx cy dx dy w hb ha hc hd (v := x) (by rw [meet_rev, ex])
    have l3 := fun w => Meet_yes cx cy dx dy ax ay bx by' w hc hd ha hb (v := x) (by rw [meet_swap, ex])
    have l4 := fun w => Close_yes ax ay bx by' cx cy dx dy 0 w ha hb hc hd ⟨by omega, by omega⟩ (v := x) (by rw [close_zero, ex])
    have l5 := fun w => Meet_yes ax ay bx by' bx by' dx dy w ha hb hb hd (v := true) (meet_end _ _ _ _ _ _)
    have L1 := Lib.hid l1
    have L2 := Lib.hid l2
    have L3 := Lib.hid l3
    have L4 := Lib.hid l4
    have L5 := Lib.hid l5
    clear l1 l2 l3 l4 l5
    by_cases hp : Vld px py
    · have l6 := fun w => On_yes px py ax ay bx by' w hp ha hb eq
      have l7 := fun w => On_yes px py cx cy dx dy w hp hc hd er
      have L6 := Lib.hid l6
      have L7 := Lib.hid l7
      clear l6 l7
      clear ex eq er
      cases q with
      | false =>
        clear hx
        go_wp2_with fail
        (with_reducible refine (L1.out _).mono ?_)
        rintro e w2 ⟨rfl, hb⟩
        have hX2 := below_step hX1 hb
        clear hb
        go_wp2_with fail
        (with_reducible refine (L2.out _).mono ?_)
        rintro e w3 ⟨rfl, hb⟩
        have hX3 := below_step hX2 hb
        clear hb
        go_wp2_with fail
        (with_reducible refine (L3.out _).mono ?_)
        rintro e w4 ⟨rfl, hb⟩
        have hX4 := below_step hX3 hb
        clear hb
        go_wp2_with fail
        (with_reducible refine (L4.out _).mono ?_)
        rintro e w5 ⟨rfl, hb⟩
        have hX5 := below_step hX4 hb
        clear hb
        go_wp2_with fail
        (with_reducible refine (L5.out _).mono ?_)
        rintro e w6 ⟨rfl, hb⟩
        have hX6 := below_step hX5 hb
        clear hb
        go_wp2_with fail
        (with_reducible refine (L6.out _).mono ?_)
        rintro e w7 ⟨rfl, hb⟩
        have hX7 := below_step hX6 hb
        clear hb
        go_wp2_with fail
        (with_reducible refine (L7.out _).mono ?_)
        rintro e w8 ⟨rfl, hb⟩
        have hX8 := below_step hX7 hb
        clear hb
        go_wp2_with fail
        go_returns
        exact ⟨rfl, below_step hB hX8⟩
      | true =>
        cases r with
        | false =>
          clear hx
          go_wp2_with fail
          (with_reducible refine (L1.out _).mono ?_)
          rintro e w2 ⟨rfl, hb⟩
          have hX2 := below_step hX1 hb
          clear hb
          go_wp2_with fail
          (with_reducible refine (L2.out _).mono ?_)
          rintro e w3 ⟨rfl, hb⟩
          have hX3 := below_step hX2 hb
          clear hb
          go_wp2_with fail
          (with_reducible refine (L3.out _).mono ?_)
          rintro e w4 ⟨rfl, hb⟩
          have hX4 := below_step hX3 hb
          clear hb
          go_wp2_with fail
          (with_reducible refine (L4.out _).mono ?_)
          rintro e w5 ⟨rfl, hb⟩
          have hX5 := below_step hX4 hb
          clear hb
          go_wp2_with fail
          (with_reducible refine (L5.out _).mono ?_)
          rintro e w6 ⟨rfl, hb⟩
          have hX6 := below_step hX5 hb
          clear hb
          go_wp2_with fail
          (with_reducible refine (L6.out _).mono ?_)
          rintro e w7 ⟨rfl, hb⟩
          have hX7 := below_step hX6 hb
          clear hb
          go_wp2_with fail
          (with_reducible refine (L7.out _).mono ?_)
          rintro e w8 ⟨rfl, hb⟩
          have hX8 := below_step hX7 hb
          clear hb
          go_wp2_with fail
          go_returns
          exact ⟨rfl, below_step hB hX8⟩
        | true =>
          obtain rfl := hx rfl rfl
          clear hx
          go_wp2_with fail
          (with_reducible refine (L1.out _).mono ?_)
          rintro e w2 ⟨rfl, hb⟩
          have hX2 := below_step hX1 hb
          clear hb
          go_wp2_with fail
          (with_reducible refine (L2.out _).mono ?_)
          rintro e w3 ⟨rfl, hb⟩
          have hX3 := below_step hX2 hb
          clear hb
          go_wp2_with fail
          (with_reducible refine (L3.out _).mono ?_)
          rintro e w4 ⟨rfl, hb⟩
          have hX4 := below_step hX3 hb
          clear hb
          go_wp2_with fail
          (with_reducible refine (L4.out _).mono ?_)
          rintro e w5 ⟨rfl, hb⟩
          have hX5 := below_step hX4 hb
          clear hb
          go_wp2_with fail
          (with_reducible refine (L5.out _).mono ?_)
          rintro e w6 ⟨rfl, hb⟩
          have hX6 := below_step hX5 hb
          clear hb
          go_wp2_with fail
          (with_reducible refine (L6.out _).mono ?_)
          rintro e w7 ⟨rfl, hb⟩
          have hX7 := below_step hX6 hb
          clear hb
          go_wp2_with fail
          (with_reducible refine (L7.out _).mono ?_)
          rintro e w8 ⟨rfl, hb⟩
          have hX8 := below_step hX7 hb
          clear hb
          go_wp2_with fail
          go_returns
          exact ⟨rfl, below_step hB hX8⟩
    · have n6 : ¬ (Vld px py ∧ Vld ax ay ∧ Vld bx by') := fun h => hp h.1
      have n7 : ¬ (Vld px py ∧ Vld cx cy ∧ Vld dx dy) := fun h => hp h.1
      clear ex eq er hx
      go_wp2_with fail
      (with_reducible refine (L1.out _).mono ?_)
      rintro e w2 ⟨rfl, hb⟩
      have hX2 := below_step hX1 hb
      clear hb
      go_wp2_with fail
      (with_reducible refine (L2.out _).mono ?_)
      rintro e w3 ⟨rfl, hb⟩
      have hX3 := below_step hX2 hb
      clear hb
      go_wp2_with fail
      (with_reducible refine (L3.out _).mono ?_)
      rintro e w4 ⟨rfl, hb⟩
      have hX4 := below_step hX3 hb
      clear hb
      go_wp2_with fail
      (with_reducible refine (L4.out _).mono ?_)
      rintro e w5 ⟨rfl, hb⟩
      have hX5 := below_step hX4 hb
      clear hb
      go_wp2_with fail
      (with_reducible refine (L5.out _).mono ?_)
      rintro e w6 ⟨rfl, hb⟩
      have hX6 := below_step hX5 hb
      clear hb
      go_wp2_with fail
      (with_reducible refine (On_no _ _ _ _ _ _ _ n6).mono ?_)
      rintro e w7 ⟨rfl, hb⟩
      have hX7 := below_step hX6 hb
      clear hb
      go_wp2_with fail
      (with_reducible refine (On_no _ _ _ _ _ _ _ n7).mono ?_)
      rintro e w8 ⟨rfl, hb⟩
      have hX8 := below_step hX7 hb
      clear hb
      go_wp2_with fail
      go_returns
      exact ⟨rfl, below_step hB hX8⟩
  · go_wp2_with fail
    (with_reducible refine (Meet_no _ _ _ _ _ _ _ _ _ hv).mono ?_)
    rintro e w2 ⟨rfl, hb⟩
    have hX2 := below_step hX1 hb
    clear hb
    go_wp2_with fail
    go_returns
    exact ⟨rfl, below_step hB hX2⟩
set_option maxRecDepth 100000 in
theorem planeMeets_lifted (os : Os) (started : os.Started) (H : Type) (enc : TypeId × Value → H) :
    ReturnsInHanded {} Try.checked os 4 .any (Rows.planeMeetsSpec.pre6 enc Try.prog Try.f4 Rows.planeMeetsRow.domain false) (Rows.planeMeetsSpec.post enc Try.prog Try.f4 false true false false) := by
  refine returnsInHanded_of_change (C := Try.checked) own_knob started (by kernel_rfl) Try.func4
    (ChangeSpec.witness6 (enc := enc) (C := Try.checked) false ⟨#[], #[.agg #[.int .i64 0, .int .i64 0], .agg #[.int .i64 0, .int .i64 0], .agg #[.int .i64 0, .int .i64 0], .agg #[.int .i64 0, .int .i64 0], .agg #[.int .i64 0, .int .i64 0]], []⟩ 8 (by kernel_rfl) (by kernel_rfl) (by kernel_rfl) (by kernel_rfl)) ?_
  intro W base args ds gs before hval0 hW hcnd _
  have hval : ∀ (j : Nat) t v, Try.f4.params[j]? = some t → args[j]? = some v → Value.okWide Try.prog W .any base t v := hval0
  have hW' := hW
  obtain ⟨p, q, hA0, hV, rfl, hfz, hnd⟩ := hW
  have hA : DataW.TrodAll enc Try.prog W 0 (fun _ => true) true Try.f4.params.toList args.toList ds p := hA0
  rw [Try.params4] at hA hval
  obtain ⟨v0, vs0, d0, ds0, p0, q0, hargs, rfl, rfl, h0, r0⟩ := trodAll_cons hA
  obtain ⟨v1, vs1, d1, ds1, p1, q1, rfl, rfl, rfl, h1, r1⟩ := trodAll_cons r0
  obtain ⟨v2, vs2, d2, ds2, p2, q2, rfl, rfl, rfl, h2, r2⟩ := trodAll_cons r1
  obtain ⟨v3, vs3, d3, ds3, p3, q3, rfl, rfl, rfl, h3, r3⟩ := trodAll_cons r2
  obtain ⟨v4, vs4, d4, ds4, p4, q4, rfl, rfl, rfl, h4, r4⟩ := trodAll_cons r3
  obtain ⟨rfl, rfl, rfl⟩ := trodAll_nil r4
  obtain rfl : args = #[v0, v1, v2, v3, v4] := by cases args; simp_all
  obtain ⟨rfl, rfl⟩ := trodVars_none hV
  simp only [List.append_nil] at hW' hA0
  obtain ⟨ax, ay, e0, wx0, wy0⟩ := open_point (hval 0 23 v0 rfl rfl) h0
  subst e0
  obtain ⟨bx, by', e1, wx1, wy1⟩ := open_point (hval 1 23 v1 rfl rfl) h1
  subst e1
  obtain ⟨cx, cy, e2, wx2, wy2⟩ := open_point (hval 2 23 v2 rfl rfl) h2
  subst e2
  obtain ⟨dx, dy, e3, wx3, wy3⟩ := open_point (hval 3 23 v3 rfl rfl) h3
  subst e3
  obtain ⟨px, py, e4, wx4, wy4⟩ := open_point (hval 4 23 v4 rfl rfl) h4
  subst e4
  refine (planeMeets_walk ax ay bx by' cx cy dx dy px py W).mono fun e W' ⟨he, hg⟩ => ?_
  subst he
  exact ⟨_, rfl, post_law laid_out (by rw [Try.params4]; intro t ht; simp only [List.mem_cons, List.not_mem_nil, or_false] at ht; rcases ht with rfl | rfl | rfl | rfl | rfl <;> exact ⟨by kernel_rfl, of_decide_eq_true (by kernel_rfl)⟩) rfl hW' hA0 rfl rfl rfl rfl Try.underlying4 hg⟩
theorem planeMeets_over : Rows.planeMeetsRow.holds Try.pinned (OpenSpec.ofChange Rows.planeMeetsSpec) :=
  OpenClaim.holds_of_wide 4 Try.f4 rfl rfl rfl rfl rfl rfl rfl ⟨rfl, rfl, rfl, rfl, rfl⟩ rfl rfl rfl rfl rfl (by kernel_rfl) Try.func4 (by kernel_rfl)
    (of_decide_eq_true (by kernel_rfl)) (by unfold Func.isWrapper; first | (rw [if_pos (by decide +kernel)]; kernel_rfl) | (rw [if_neg (by decide +kernel)]; exact ⟨rfl, rfl⟩))
    (fun os started H enc _ => planeMeets_lifted os started H enc)
theorem planeMeets_holds : Rows.PlaneMeetsSaid :=
  planeMeets_over
#print axioms planeMeets_holds
end Go.Proofs.Ytkpmiehggmeejaa
