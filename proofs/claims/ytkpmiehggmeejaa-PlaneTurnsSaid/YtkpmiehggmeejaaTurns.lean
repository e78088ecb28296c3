/- For any three places: the statement PlaneTurns of chapter 1 (the turn of three places counted from another one on, or with two of them exchanged): the law's function returns true and leaves its arguments as they were. No condition. -/
import Derived.Test.YtkpmiehggmeejaaPlaneHead
import Derived.Test.YtkpmiehggmeejaaPlaneMath
import Derived.Test.YtkpmiehggmeejaaFrame
namespace Go.Proofs.Ytkpmiehggmeejaa
open Go.ChangeShapes Go.WideShapes Go.ChangeAt Go.RowKit
set_option linter.unusedVariables false
set_option maxRecDepth 100000 in
set_option maxHeartbeats 1000000 in
theorem planeTurns_walk (ax ay bx by' cx cy : Int) (w : World) :
    Calls Try.prog 3 #[.agg #[.int .i64 ax, .int .i64 ay], .agg #[.int .i64 bx, .int .i64 by'], .agg #[.int .i64 cx, .int .i64 cy]] w fun e w' => e = .returned (.bool true) ∧ Below w.heap.size w w' := by
  go_enter Try.func3, Try.ntmps3
  go_wp2_with fail
  refine calls_named fun W hW => ?_
  obtain ⟨p1, p2, p3, hB⟩ := box3 hW
  clear hW
  have q1 := cellsL p1
  have q2 := cellsL p2
  have q3 := cellsL p3
  clear p1 p2 p3
  (with_reducible refine (head_any _).mono ?_)
  rintro e w1 ⟨rfl, hB1⟩
  by_cases hv : Vld ax ay ∧ Vld bx by' ∧ Vld cx cy
  · obtain ⟨ha, hb, hc⟩ := hv
    obtain ⟨s, hs⟩ : ∃ s, (crs ax ay bx by' cx cy).sign = s := ⟨_, rfl⟩
    have s1 : -1 ≤ s := hs ▸ (sign_bd _).1
    have s2 : s ≤ 1 := hs ▸ (sign_bd _).2
    have c1 := fun w => Turn_yes ax ay bx by' cx cy w ha hb hc hs
    have c2 := fun w => Turn_yes bx by' cx cy ax ay w hb hc ha (s := s) (by rw [crs_rot, hs])
    have c3 := fun w => Turn_yes bx by' ax ay cx cy w hb ha hc (s := -s) (by rw [crs_swap, Int.sign_neg, hs])
    have c4 := fun w => Turn_yes ax ay ax ay cx cy w ha ha hc (s := 0) (by rw [crs_self]; rfl)
    have C1 := Lib.hid c1
    have C2 := Lib.hid c2
    have C3 := Lib.hid c3
    have C4 := Lib.hid c4
    clear c1 c2 c3 c4 hs
    go_wp2_with fail
    (with_reducible refine (C1.out _).mono ?_)
    rintro e w2 ⟨rfl, hb2⟩
    have hB2 := below_step hB1 hb2
    go_wp2_with fail
    (with_reducible refine (C2.out _).mono ?_)
    rintro e w3 ⟨rfl, hb3⟩
    have hB3 := below_step hB2 hb3
    go_wp2_with fail
    (with_reducible refine (C3.out _).mono ?_)
    rintro e w4 ⟨rfl, hb4⟩
    have hB4 := below_step hB3 hb4
    go_wp2_with fail
    (with_reducible refine (C4.out _).mono ?_)
    rintro e w5 ⟨rfl, hb5⟩
    have hB5 := below_step hB4 hb5
    go_wp2_with fail
    go_returns
    exact ⟨rfl, below_step hB hB5⟩
  · have n2 : ¬ (Vld bx by' ∧ Vld cx cy ∧ Vld ax ay) := fun h => hv ⟨h.2.2, h.1, h.2.1⟩
    have n3 : ¬ (Vld bx by' ∧ Vld ax ay ∧ Vld cx cy) := fun h => hv ⟨h.2.1, h.1, h.2.2⟩
    go_wp2_with fail
    (with_reducible refine (Turn_no _ _ _ _ _ _ _ hv).mono ?_)
    rintro e w2 ⟨rfl, hb2⟩
    have hB2 := below_step hB1 hb2
    go_wp2_with fail
    (with_reducible refine (Turn_no _ _ _ _ _ _ _ n2).mono ?_)
    rintro e w3 ⟨rfl, hb3⟩
    have hB3 := below_step hB2 hb3
    go_wp2_with fail
    (with_reducible refine (Turn_no _ _ _ _ _ _ _ n3).mono ?_)
    rintro e w4 ⟨rfl, hb4⟩
    have hB4 := below_step hB3 hb4
    go_wp2_with fail
    go_returns
    exact ⟨rfl, below_step hB hB4⟩
set_option maxRecDepth 100000 in
theorem planeTurns_lifted (os : Os) (started : os.Started) (H : Type) (enc : TypeId × Value → H) :
    ReturnsInHanded {} Try.checked os 3 .any (Rows.planeTurnsSpec.pre6 enc Try.prog Try.f3 Rows.planeTurnsRow.domain false) (Rows.planeTurnsSpec.post enc Try.prog Try.f3 false true false false) := by
  refine returnsInHanded_of_change (C := Try.checked) own_knob started (by kernel_rfl) Try.func3
    (ChangeSpec.witness6 (enc := enc) (C := Try.checked) false ⟨#[], #[.agg #[.int .i64 0, .int .i64 0], .agg #[.int .i64 0, .int .i64 0], .agg #[.int .i64 0, .int .i64 0]], []⟩ 8 (by kernel_rfl) (by kernel_rfl) (by kernel_rfl) (by kernel_rfl)) ?_
  intro W base args ds gs before hval0 hW hcnd _
  have hval : ∀ (j : Nat) t v, Try.f3.params[j]? = some t → args[j]? = some v → Value.okWide Try.prog W .any base t v := hval0
  have hW' := hW
  obtain ⟨p, q, hA0, hV, rfl, hfz, hnd⟩ := hW
  have hA : DataW.TrodAll enc Try.prog W 0 (fun _ => true) true Try.f3.params.toList args.toList ds p := hA0
  rw [Try.params3] at hA hval
  obtain ⟨v0, vs0, d0, ds0, p0, q0, hargs, rfl, rfl, h0, r0⟩ := trodAll_cons hA
  obtain ⟨v1, vs1, d1, ds1, p1, q1, rfl, rfl, rfl, h1, r1⟩ := trodAll_cons r0
  obtain ⟨v2, vs2, d2, ds2, p2, q2, rfl, rfl, rfl, h2, r2⟩ := trodAll_cons r1
  obtain ⟨rfl, rfl, rfl⟩ := trodAll_nil r2
  obtain rfl : args = #[v0, v1, v2] := by cases args; simp_all
  obtain ⟨rfl, rfl⟩ := trodVars_none hV
  simp only [List.append_nil] at hW' hA0
  obtain ⟨ax, ay, e0, wx0, wy0⟩ := open_point (hval 0 23 v0 rfl rfl) h0
  subst e0
  obtain ⟨bx, by', e1, wx1, wy1⟩ := open_point (hval 1 23 v1 rfl rfl) h1
  subst e1
  obtain ⟨cx, cy, e2, wx2, wy2⟩ := open_point (hval 2 23 v2 rfl rfl) h2
  subst e2
  refine (planeTurns_walk ax ay bx by' cx cy W).mono fun e W' ⟨he, hg⟩ => ?_
  subst he
  exact ⟨_, rfl, post_law laid_out (by rw [Try.params3]; intro t ht; simp only [List.mem_cons, List.not_mem_nil, or_false] at ht; rcases ht with rfl | rfl | rfl <;> exact ⟨by kernel_rfl, of_decide_eq_true (by kernel_rfl)⟩) rfl hW' hA0 rfl rfl rfl rfl Try.underlying4 hg⟩
theorem planeTurns_over : Rows.planeTurnsRow.holds Try.pinned (OpenSpec.ofChange Rows.planeTurnsSpec) :=
  OpenClaim.holds_of_wide 3 Try.f3 rfl rfl rfl rfl rfl rfl rfl ⟨rfl, rfl, rfl, rfl, rfl⟩ rfl rfl rfl rfl rfl (by kernel_rfl) Try.func3 (by kernel_rfl)
    (of_decide_eq_true (by kernel_rfl)) (by unfold Func.isWrapper; first | (rw [if_pos (by decide +kernel)]; kernel_rfl) | (rw [if_neg (by decide +kernel)]; exact ⟨rfl, rfl⟩))
    (fun os started H enc _ => planeTurns_lifted os started H enc)
theorem planeTurns_holds : Rows.PlaneTurnsSaid :=
  planeTurns_over
#print axioms planeTurns_holds
end Go.Proofs.Ytkpmiehggmeejaa
