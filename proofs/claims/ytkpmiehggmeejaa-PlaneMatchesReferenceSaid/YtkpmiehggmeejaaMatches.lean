/- The statement PlaneMatchesReference of chapter 1: for any places and distances the law's function returns true and leaves its arguments as they were. No condition. -/
import Derived.Test.YtkpmiehggmeejaaPlaneHead
import Derived.Test.YtkpmiehggmeejaaRefD
import Derived.Test.YtkpmiehggmeejaaFrame
namespace Go.Proofs.Ytkpmiehggmeejaa
open Go.ChangeShapes Go.WideShapes Go.ChangeAt Go.RowKit
attribute [local irreducible] wpQuiet wpBQ
set_option linter.unusedVariables false
theorem both_Turn (ax ay bx by' cx cy : Int) : ∃ x e : Int, (∀ w, Calls Try.prog 12 #[.agg #[.int .i64 ax, .int .i64 ay], .agg #[.int .i64 bx, .int .i64 by'], .agg #[.int .i64 cx, .int .i64 cy]] w fun o w' => o = .returned (.tuple #[.int .i64 x, .int .i64 e]) ∧ Below w.heap.size w w') ∧ (∀ w, Calls Try.prog 22 #[.agg #[.int .i64 ax, .int .i64 ay], .agg #[.int .i64 bx, .int .i64 by'], .agg #[.int .i64 cx, .int .i64 cy]] w fun o w' => o = .returned (.tuple #[.int .i64 x, .int .i64 e]) ∧ Below w.heap.size w w') := by
  by_cases h : Vld ax ay ∧ Vld bx by' ∧ Vld cx cy
  · exact ⟨_, 0, fun w => Turn_yes _ _ _ _ _ _ w h.1 h.2.1 h.2.2 rfl, fun w => rTurn_yes _ _ _ _ _ _ w h.1 h.2.1 h.2.2 rfl⟩
  · exact ⟨0, 1, fun w => Turn_no _ _ _ _ _ _ w h, fun w => rTurn_no _ _ _ _ _ _ w h⟩
theorem both_On (ax ay bx by' cx cy : Int) : ∃ (x : Bool) (e : Int), (∀ w, Calls Try.prog 15 #[.agg #[.int .i64 ax, .int .i64 ay], .agg #[.int .i64 bx, .int .i64 by'], .agg #[.int .i64 cx, .int .i64 cy]] w fun o w' => o = .returned (.tuple #[.bool x, .int .i64 e]) ∧ Below w.heap.size w w') ∧ (∀ w, Calls Try.prog 23 #[.agg #[.int .i64 ax, .int .i64 ay], .agg #[.int .i64 bx, .int .i64 by'], .agg #[.int .i64 cx, .int .i64 cy]] w fun o w' => o = .returned (.tuple #[.bool x, .int .i64 e]) ∧ Below w.heap.size w w') := by
  by_cases h : Vld ax ay ∧ Vld bx by' ∧ Vld cx cy
  · exact ⟨_, 0, fun w => On_yes _ _ _ _ _ _ w h.1 h.2.1 h.2.2 rfl, fun w => rOn_yes _ _ _ _ _ _ w h.1 h.2.1 h.2.2 rfl⟩
  · exact ⟨false, 1, fun w => On_no _ _ _ _ _ _ w h, fun w => rOn_no _ _ _ _ _ _ w h⟩
theorem both_Meet (ax ay bx by' cx cy dx dy : Int) : ∃ (x : Bool) (e : Int), (∀ w, Calls Try.prog 13 #[.agg #[.int .i64 ax, .int .i64 ay], .agg #[.int .i64 bx, .int .i64 by'], .agg #[.int .i64 cx, .int .i64 cy], .agg #[.int .i64 dx, .int .i64 dy]] w fun o w' => o = .returned (.tuple #[.bool x, .int .i64 e]) ∧ Below w.heap.size w w') ∧ (∀ w, Calls Try.prog 24 #[.agg #[.int .i64 ax, .int .i64 ay], .agg #[.int .i64 bx, .int .i64 by'], .agg #[.int .i64 cx, .int .i64 cy], .agg #[.int .i64 dx, .int .i64 dy]] w fun o w' => o = .returned (.tuple #[.bool x, .int .i64 e]) ∧ Below w.heap.size w w') := by
  by_cases h : Vld ax ay ∧ Vld bx by' ∧ Vld cx cy ∧ Vld dx dy
  · exact ⟨_, 0, fun w => Meet_yes _ _ _ _ _ _ _ _ w h.1 h.2.1 h.2.2.1 h.2.2.2 rfl, fun w => rMeet_yes _ _ _ _ _ _ _ _ w h.1 h.2.1 h.2.2.1 h.2.2.2 rfl⟩
  · exact ⟨false, 1, fun w => Meet_no _ _ _ _ _ _ _ _ w h, fun w => rMeet_no _ _ _ _ _ _ _ _ w h⟩
theorem both_Near (ax ay bx by' cx cy r : Int) : ∃ (x : Bool) (e : Int), (∀ w, Calls Try.prog 18 #[.agg #[.int .i64 ax, .int .i64 ay], .agg #[.int .i64 bx, .int .i64 by'], .agg #[.int .i64 cx, .int .i64 cy], .int .i64 r] w fun o w' => o = .returned (.tuple #[.bool x, .int .i64 e]) ∧ Below w.heap.size w w') ∧ (∀ w, Calls Try.prog 25 #[.agg #[.int .i64 ax, .int .i64 ay], .agg #[.int .i64 bx, .int .i64 by'], .agg #[.int .i64 cx, .int .i64 cy], .int .i64 r] w fun o w' => o = .returned (.tuple #[.bool x, .int .i64 e]) ∧ Below w.heap.size w w') := by
  by_cases h : Vld ax ay ∧ Vld bx by' ∧ Vld cx cy ∧ 0 ≤ r ∧ r ≤ 3000000
  · exact ⟨_, 0, fun w => Near_yes _ _ _ _ _ _ _ w h.1 h.2.1 h.2.2.1 h.2.2.2 rfl, fun w => rNear_yes _ _ _ _ _ _ _ w h.1 h.2.1 h.2.2.1 h.2.2.2 rfl⟩
  · exact ⟨false, 1, fun w => Near_no _ _ _ _ _ _ _ w h, fun w => rNear_no _ _ _ _ _ _ _ w h⟩
theorem both_Close (ax ay bx by' cx cy dx dy r : Int) : ∃ (x : Bool) (e : Int), (∀ w, Calls Try.prog 14 #[.agg #[.int .i64 ax, .int .i64 ay], .agg #[.int .i64 bx, .int .i64 by'], .agg #[.int .i64 cx, .int .i64 cy], .agg #[.int .i64 dx, .int .i64 dy], .int .i64 r] w fun o w' => o = .returned (.tuple #[.bool x, .int .i64 e]) ∧ Below w.heap.size w w') ∧ (∀ w, Calls Try.prog 26 #[.agg #[.int .i64 ax, .int .i64 ay], .agg #[.int .i64 bx, .int .i64 by'], .agg #[.int .i64 cx, .int .i64 cy], .agg #[.int .i64 dx, .int .i64 dy], .int .i64 r] w fun o w' => o = .returned (.tuple #[.bool x, .int .i64 e]) ∧ Below w.heap.size w w') := by
  by_cases h : Vld ax ay ∧ Vld bx by' ∧ Vld cx cy ∧ Vld dx dy ∧ 0 ≤ r ∧ r ≤ 3000000
  · exact ⟨_, 0, fun w => Close_yes _ _ _ _ _ _ _ _ _ w h.1 h.2.1 h.2.2.1 h.2.2.2.1 h.2.2.2.2 rfl, fun w => rClose_yes _ _ _ _ _ _ _ _ _ w h.1 h.2.1 h.2.2.1 h.2.2.2.1 h.2.2.2.2 rfl⟩
  · exact ⟨false, 1, fun w => Close_no _ _ _ _ _ _ _ _ _ w h, fun w => rClose_no _ _ _ _ _ _ _ _ _ w h⟩
theorem both_Apart (ax ay bx by' cx cy r : Int) : ∃ (x : Bool) (e : Int), (∀ w, Calls Try.prog 27 #[.agg #[.int .i64 ax, .int .i64 ay], .agg #[.int .i64 bx, .int .i64 by'], .agg #[.int .i64 cx, .int .i64 cy], .int .i64 r] w fun o w' => o = .returned (.tuple #[.bool x, .int .i64 e]) ∧ Below w.heap.size w w') ∧ (∀ w, Calls Try.prog 28 #[.agg #[.int .i64 ax, .int .i64 ay], .agg #[.int .i64 bx, .int .i64 by'], .agg #[.int .i64 cx, .int .i64 cy], .int .i64 r] w fun o w' => o = .returned (.tuple #[.bool x, .int .i64 e]) ∧ Below w.heap.size w w') := by
  by_cases h : Vld ax ay ∧ Vld bx by' ∧ Vld cx cy ∧ 0 ≤ r ∧ r ≤ 3000000
  · exact ⟨_, 0, fun w => Apart_yes _ _ _ _ _ _ _ w h.1 h.2.1 h.2.2.1 h.2.2.2 rfl, fun w => rApart_yes _ _ _ _ _ _ _ w h.1 h.2.1 h.2.2.1 h.2.2.2 rfl⟩
  · exact ⟨false, 1, fun w => Apart_no _ _ _ _ _ _ _ w h, fun w => rApart_no _ _ _ _ _ _ _ w h⟩
theorem both_Lies (ax ay r bx by' s : Int) : ∃ (x : Bool) (e : Int), (∀ w, Calls Try.prog 17 #[.agg #[.int .i64 ax, .int .i64 ay], .int .i64 r, .agg #[.int .i64 bx, .int .i64 by'], .int .i64 s] w fun o w' => o = .returned (.tuple #[.bool x, .int .i64 e]) ∧ Below w.heap.size w w') ∧ (∀ w, Calls Try.prog 29 #[.agg #[.int .i64 ax, .int .i64 ay], .int .i64 r, .agg #[.int .i64 bx, .int .i64 by'], .int .i64 s] w fun o w' => o = .returned (.tuple #[.bool x, .int .i64 e]) ∧ Below w.heap.size w w') := by
  by_cases h : Vld ax ay ∧ Vld bx by' ∧ (0 ≤ r ∧ r ≤ 3000000) ∧ 0 ≤ s ∧ s ≤ 3000000
  · exact ⟨_, 0, fun w => Lies_yes _ _ _ _ _ _ w h.1 h.2.1 h.2.2.1 h.2.2.2 rfl, fun w => rLies_yes _ _ _ _ _ _ w h.1 h.2.2.1 h.2.1 h.2.2.2 rfl⟩
  · exact ⟨false, 1, fun w => Lies_no _ _ _ _ _ _ w h, fun w => rLies_no _ _ _ _ _ _ w (fun g => h ⟨g.1, g.2.2.1, g.2.1, g.2.2.2⟩)⟩
theorem both_Dist (ax ay bx by' : Int) : ∃ x y e : Int, (∀ w, Calls Try.prog 16 #[.agg #[.int .i64 ax, .int .i64 ay], .agg #[.int .i64 bx, .int .i64 by']] w fun o w' => o = .returned (.tuple #[.agg #[.int .i64 x, .int .i64 y], .int .i64 e]) ∧ Below w.heap.size w w') ∧ (∀ w, Calls Try.prog 30 #[.agg #[.int .i64 ax, .int .i64 ay], .agg #[.int .i64 bx, .int .i64 by']] w fun o w' => o = .returned (.tuple #[.agg #[.int .i64 x, .int .i64 y], .int .i64 e]) ∧ Below w.heap.size w w') := by
  by_cases h : Vld ax ay ∧ Vld bx by'
  · exact ⟨_, _, 0, fun w => Dist_yes _ _ _ _ w h.1 h.2 rfl rfl, fun w => rDist_yes _ _ _ _ w h.1 h.2 rfl rfl⟩
  · exact ⟨0, 0, 1, fun w => Dist_no _ _ _ _ w h, fun w => rDist_no _ _ _ _ w h⟩
set_option maxRecDepth 100000 in
set_option maxHeartbeats 8000000 in
theorem planeMatchesReference_walk (ax ay bx by' cx cy dx dy r s : Int) (w : World) :
    Calls Try.prog 9 #[.agg #[.int .i64 ax, .int .i64 ay], .agg #[.int .i64 bx, .int .i64 by'], .agg #[.int .i64 cx, .int .i64 cy], .agg #[.int .i64 dx, .int .i64 dy], .int .i64 r, .int .i64 s] w fun e w' => e = .returned (.bool true) ∧ Below w.heap.size w w' := by
  obtain ⟨v, hv⟩ : ∃ v : Bool, (∀ w, Calls Try.prog 19 #[.agg #[.int .i64 ax, .int .i64 ay]] w fun o w' => o = .returned (.bool v) ∧ Below w.heap.size w w') ∧ (∀ w, Calls Try.prog 21 #[.agg #[.int .i64 ax, .int .i64 ay]] w fun o w' => o = .returned (.bool v) ∧ Below w.heap.size w w') := by
    by_cases h : Vld ax ay
    · exact ⟨true, fun w => valid_yes _ _ w h, fun w => rValid_yes _ _ w h⟩
    · exact ⟨false, fun w => valid_no _ _ w h, fun w => rValid_no _ _ w h⟩
  have VA := Lib.hid hv.1
  have VB := Lib.hid hv.2
  clear hv
  obtain ⟨x0, e0, l, m⟩ := both_Turn ax ay bx by' cx cy
  have L0 := Lib.hid l
  have M0 := Lib.hid m
  clear l m
  obtain ⟨x1, e1, l, m⟩ := both_On ax ay bx by' cx cy
  have L1 := Lib.hid l
  have M1 := Lib.hid m
  clear l m
  obtain ⟨x2, e2, l, m⟩ := both_Meet ax ay bx by' cx cy dx dy
  have L2 := Lib.hid l
  have M2 := Lib.hid m
  clear l m
  obtain ⟨x3, e3, l, m⟩ := both_Near ax ay bx by' cx cy r
  have L3 := Lib.hid l
  have M3 := Lib.hid m
  clear l m
  obtain ⟨x4, e4, l, m⟩ := both_Close ax ay bx by' cx cy dx dy r
  have L4 := Lib.hid l
  have M4 := Lib.hid m
  clear l m
  obtain ⟨x5, e5, l, m⟩ := both_Apart ax ay bx by' cx cy r
  have L5 := Lib.hid l
  have M5 := Lib.hid m
  clear l m
  obtain ⟨x6, e6, l, m⟩ := both_Lies ax ay r bx by' s
  have L6 := Lib.hid l
  have M6 := Lib.hid m
  clear l m
  obtain ⟨x7, y7, e7, l, m⟩ := both_Dist ax ay bx by'
  have L7 := Lib.hid l
  have M7 := Lib.hid m
  clear l m
  go_enter Try.func9, Try.ntmps9
  go_wp2_with fail
  refine wp_named fun W hW => ?_
  obtain ⟨p1, p2, p3, p4, hB⟩ := box4 hW
  clear hW
  have r1 := cellsR p1
  have q1 := cellsL p1
  have q2 := cellsL p2
  have q3 := cellsL p3
  have q4 := cellsL p4
  have Q1 := Lib.hid q1
  have Q2 := Lib.hid q2
  have Q3 := Lib.hid q3
  have Q4 := Lib.hid q4
  clear p1 p2 p3 p4 q1 q2 q3 q4
  (refine wp_region_quiet_below (by kernel_rfl) (by kernel_rfl) ?_; (repeat (refine wpQuiet_step (fun K hK => ?_); replace hK := Lib.hid hK; go_simp; first | (refine hK.out _ ?_; clear hK K) | (apply Exists.intro; refine ⟨fun _ => ?_, hK.out _ ?_⟩; (first | (go_at_call 11; exact Calls.regrown_of (head_any _)) | (go_at_call 19; exact Calls.regrown_of (VA.out _)) | (go_at_call 21; exact Calls.regrown_of (VB.out _))); clear hK K))); refine wpQuiet_nil ?_)
  intro W1 hW1
  have hX0 := regrown_below hW1
  clear hW1 r1
  have q1 := Q1.out
  have q2 := Q2.out
  have q3 := Q3.out
  have q4 := Q4.out
  clear Q1 Q2 Q3 Q4
  go_wp2_with fail
  (with_reducible refine (L0.out _).mono ?_)
  rintro e w1 ⟨rfl, hb⟩
  have hX1 := below_step hX0 hb
  clear hb
  go_wp2_with fail
  (with_reducible refine (M0.out _).mono ?_)
  rintro e w2 ⟨rfl, hb⟩
  have hX2 := below_step hX1 hb
  clear hb
  go_wp2_with fail
  (with_reducible refine (L1.out _).mono ?_)
  rintro e w3 ⟨rfl, hb⟩
  have hX3 := below_step hX2 hb
  clear hb
  go_wp2_with fail
  (with_reducible refine (M1.out _).mono ?_)
  rintro e w4 ⟨rfl, hb⟩
  have hX4 := below_step hX3 hb
  clear hb
  go_wp2_with fail
  (with_reducible refine (L2.out _).mono ?_)
  rintro e w5 ⟨rfl, hb⟩
  have hX5 := below_step hX4 hb
  clear hb
  go_wp2_with fail
  (with_reducible refine (M2.out _).mono ?_)
  rintro e w6 ⟨rfl, hb⟩
  have hX6 := below_step hX5 hb
  clear hb
  go_wp2_with fail
  (with_reducible refine (L3.out _).mono ?_)
  rintro e w7 ⟨rfl, hb⟩
  have hX7 := below_step hX6 hb
  clear hb
  go_wp2_with fail
  (with_reducible refine (M3.out _).mono ?_)
  rintro e w8 ⟨rfl, hb⟩
  have hX8 := below_step hX7 hb
  clear hb
  go_wp2_with fail
  (with_reducible refine (L4.out _).mono ?_)
  rintro e w9 ⟨rfl, hb⟩
  have hX9 := below_step hX8 hb
  clear hb
  go_wp2_with fail
  (with_reducible refine (M4.out _).mono ?_)
  rintro e w10 ⟨rfl, hb⟩
  have hX10 := below_step hX9 hb
  clear hb
  go_wp2_with fail
  (with_reducible refine (L5.out _).mono ?_)
  rintro e w11 ⟨rfl, hb⟩
  have hX11 := below_step hX10 hb
  clear hb
  go_wp2_with fail
  (with_reducible refine (M5.out _).mono ?_)
  rintro e w12 ⟨rfl, hb⟩
  have hX12 := below_step hX11 hb
  clear hb
  go_wp2_with fail
  (with_reducible refine (L6.out _).mono ?_)
  rintro e w13 ⟨rfl, hb⟩
  have hX13 := below_step hX12 hb
  clear hb
  go_wp2_with fail
  (with_reducible refine (M6.out _).mono ?_)
  rintro e w14 ⟨rfl, hb⟩
  have hX14 := below_step hX13 hb
  clear hb
  go_wp2_with fail
  (with_reducible refine (L7.out _).mono ?_)
  rintro e w15 ⟨rfl, hb⟩
  have hX15 := below_step hX14 hb
  clear hb
  have hXa := fun o => hX15.alloc hX15.size o
  go_wp2_with fail
  refine calls_named fun y16 hy16 => ?_
  have p_m : y16.heap[w15.heap.size]? = some (.cells #[.int .i64 x7, .int .i64 y7] 35) := by rw [hy16]; exact block_new _ _
  have hX16 : Below W.heap.size W y16 := by rw [hy16]; exact hX15.alloc hX15.size _
  clear hy16
  (with_reducible refine (M7.out _).mono ?_)
  rintro e w17 ⟨rfl, hb⟩
  have hX17 := below_step hX16 hb
  replace p_m := block_later hb p_m
  clear hb
  have c_m := fun o => cell_block (block_alloc (o' := o) p_m)
  have c_n := cell_block (block_new w17 (.cells #[.int .i64 x7, .int .i64 y7] 35))
  have hXa := fun o => hX17.alloc hX17.size o
  go_wp2_with fail
  go_returns
  exact ⟨rfl, below_step hB (hXa _)⟩
set_option maxRecDepth 100000 in
theorem planeMatchesReference_lifted (os : Os) (started : os.Started) (H : Type) (enc : TypeId × Value → H) :
    ReturnsInHanded {} Try.checked os 9 .any (Rows.planeMatchesReferenceSpec.pre6 enc Try.prog Try.f9 Rows.planeMatchesReferenceRow.domain false) (Rows.planeMatchesReferenceSpec.post enc Try.prog Try.f9 false true false false) := by
  refine returnsInHanded_of_change (C := Try.checked) own_knob started (by kernel_rfl) Try.func9
    (ChangeSpec.witness6 (enc := enc) (C := Try.checked) false ⟨#[], #[.agg #[.int .i64 0, .int .i64 0], .agg #[.int .i64 0, .int .i64 0], .agg #[.int .i64 0, .int .i64 0], .agg #[.int .i64 0, .int .i64 0], .int .i64 0, .int .i64 0], []⟩ 8 (by kernel_rfl) (by kernel_rfl) (by kernel_rfl) (by kernel_rfl)) ?_
  intro W base args ds gs before hval0 hW hcnd _
  have hval : ∀ (j : Nat) t v, Try.f9.params[j]? = some t → args[j]? = some v → Value.okWide Try.prog W .any base t v := hval0
  have hW' := hW
  obtain ⟨p, q, hA0, hV, rfl, hfz, hnd⟩ := hW
  have hA : DataW.TrodAll enc Try.prog W 0 (fun _ => true) true Try.f9.params.toList args.toList ds p := hA0
  rw [Try.params9] at hA hval
  obtain ⟨v0, vs0, d0, ds0, p0, q0, hargs, rfl, rfl, h0, r0⟩ := trodAll_cons hA
  obtain ⟨v1, vs1, d1, ds1, p1, q1, rfl, rfl, rfl, h1, r1⟩ := trodAll_cons r0
  obtain ⟨v2, vs2, d2, ds2, p2, q2, rfl, rfl, rfl, h2, r2⟩ := trodAll_cons r1
  obtain ⟨v3, vs3, d3, ds3, p3, q3, rfl, rfl, rfl, h3, r3⟩ := trodAll_cons r2
  obtain ⟨v4, vs4, d4, ds4, p4, q4, rfl, rfl, rfl, h4, r4⟩ := trodAll_cons r3
  obtain ⟨v5, vs5, d5, ds5, p5, q5, rfl, rfl, rfl, h5, r5⟩ := trodAll_cons r4
  obtain ⟨rfl, rfl, rfl⟩ := trodAll_nil r5
  obtain rfl : args = #[v0, v1, v2, v3, v4, v5] := by cases args; simp_all
  obtain ⟨rfl, rfl⟩ := trodVars_none hV
  simp only [List.append_nil] at hW' hA0
  obtain ⟨ax, ay, e0, wx0, wy0⟩ := open_point (hval 0 23 v0 rfl rfl) h0
  subst e0
  obtain ⟨bx, by', e1, wx1, wy1⟩ := open_point (hval 1 23 v1 rfl rfl) h1
  subst e1
  obtain ⟨cx, cy, e2, wx2, wy2⟩ := open_point (hval 2 23 v2 rfl rfl) h2
  subst e2
  obtain ⟨dx, dy, e3, wx3, wy3⟩ := open_point (hval 3 23 v3 rfl rfl) h3
  subst e3
  obtain ⟨r, e4, _, _, w4⟩ := open_int Try.underlying3 (hval 4 3 v4 rfl rfl) h4
  subst e4
  obtain ⟨s, e5, _, _, w5⟩ := open_int Try.underlying3 (hval 5 3 v5 rfl rfl) h5
  subst e5
  refine (planeMatchesReference_walk ax ay bx by' cx cy dx dy r s W).mono fun e W' ⟨he, hg⟩ => ?_
  subst he
  exact ⟨_, rfl, post_law laid_out (by rw [Try.params9]; intro t ht; simp only [List.mem_cons, List.not_mem_nil, or_false] at ht; rcases ht with rfl | rfl | rfl | rfl | rfl | rfl <;> exact ⟨by kernel_rfl, of_decide_eq_true (by kernel_rfl)⟩) rfl hW' hA0 rfl rfl rfl rfl Try.underlying4 hg⟩
theorem planeMatchesReference_over : Rows.planeMatchesReferenceRow.holds Try.pinned (OpenSpec.ofChange Rows.planeMatchesReferenceSpec) :=
  OpenClaim.holds_of_wide 9 Try.f9 rfl rfl rfl rfl rfl rfl rfl ⟨rfl, rfl, rfl, rfl, rfl⟩ rfl rfl rfl rfl rfl (by kernel_rfl) Try.func9 (by kernel_rfl)
    (of_decide_eq_true (by kernel_rfl)) (by unfold Func.isWrapper; first | (rw [if_pos (by decide +kernel)]; kernel_rfl) | (rw [if_neg (by decide +kernel)]; exact ⟨rfl, rfl⟩))
    (fun os started H enc _ => planeMatchesReference_lifted os started H enc)
theorem planeMatchesReference_holds : Rows.PlaneMatchesReferenceSaid :=
  planeMatchesReference_over
#print axioms planeMatchesReference_holds
end Go.Proofs.Ytkpmiehggmeejaa
