/- The statement PlaneDistances of chapter 1: for any three places the law's function returns true and leaves its arguments as they were. No condition. -/
import Derived.Test.YtkpmiehggmeejaaPlaneHead
import Derived.Test.YtkpmiehggmeejaaPlaneMath
import Derived.Test.YtkpmiehggmeejaaFrame
import Derived.Outline
namespace Go.Proofs.Ytkpmiehggmeejaa
open Go.ChangeShapes Go.WideShapes Go.ChangeAt Go.RowKit
set_option linter.unusedVariables false
set_option maxRecDepth 100000 in
set_option maxHeartbeats 2000000 in
theorem planeDistances_walk (ax ay bx by' cx cy : Int) (w : World) :
    Calls Try.prog 5 #[.agg #[.int .i64 ax, .int .i64 ay], .agg #[.int .i64 bx, .int .i64 by'], .agg #[.int .i64 cx, .int .i64 cy]] w fun e w' => e = .returned (.bool true) ∧ Below w.heap.size w w' := by
  go_enter Try.func5, Try.ntmps5
  go_wp2_with fail
  refine calls_named fun W hW => ?_
  obtain ⟨p1, p2, p3, hB⟩ := box3 hW
  clear hW
  have q1 := cellsL p1
  have q2 := cellsL p2
  have q3 := cellsL p3
  clear p1 p2 p3
  have hX0 := Below.refl W.heap.size W
  (with_reducible refine (head_any _).mono ?_)
  rintro e w1 ⟨rfl, hb⟩
  have hX1 := below_step hX0 hb
  clear hb
  by_cases hv : Vld ax ay ∧ Vld bx by'
  · obtain ⟨ha, hb⟩ := hv
    obtain ⟨⟨m1, m2⟩, m3, m4⟩ := sqd_bd ha hb
    have hn := sqd_nn ax ay bx by'
    have hn2 : sqd ax ay bx by' ≤ 8000000000000 := by unfold sqd; omega
    have hq := isq_bd hn hn2
    have hq0 := isq_nn (sqd ax ay bx by')
    have z2 := isq_le hn
    obtain ⟨z3, _, z4, z5⟩ := dHi_ge hn
    have z6 := dHi_eq (n := sqd ax ay bx by')
    have tri := fun cx cy => dist_triangle (ax := ax) (ay := ay) (bx := bx) (by' := by') (cx := cx) (cy := cy)
    have d1 := fun w => Dist_yes ax ay bx by' w ha hb rfl rfl
    have d2 := fun w => Dist_yes bx by' ax ay w hb ha rfl rfl
    rw [sqd_comm] at d2
    have e0 : (ax - bx) * (ax - bx) + (ay - by') * (ay - by') = sqd ax ay bx by' := by unfold sqd; grind
    have hab := And.intro ha hb
    obtain ⟨x1, x2, _, _⟩ := ha
    have s1 := sq_nn (isq (sqd ax ay bx by'))
    have s2 := sq_nn (dHi (sqd ax ay bx by'))
    have s3 : dHi (sqd ax ay bx by') * dHi (sqd ax ay bx by') ≤ 9000000000000 := Int.le_trans (sq_le_sq (by omega) (show dHi (sqd ax ay bx by') ≤ 3000000 by omega)) (by omega)
    have D1 := Lib.hid d1
    have D2 := Lib.hid d2
    have TRI := Lib.hid tri
    clear d1 d2 tri
    obtain ⟨f1, f2⟩ := mul_bd (a := ax - bx) (b := ax - bx) (A := 2000000) (B := 2000000) (by have := hab.1; have := hab.2.x1; have := hab.2.x2; omega) (by have := hab.2.x1; have := hab.2.x2; omega) (by have := hab.2.x1; have := hab.2.x2; omega) (by have := hab.2.x1; have := hab.2.x2; omega)
    obtain ⟨f3, f4⟩ := mul_bd (a := ay - by') (b := ay - by') (A := 2000000) (B := 2000000) (by have := hab.1.y1; have := hab.1.y2; have := hab.2.y1; have := hab.2.y2; omega) (by have := hab.1.y1; have := hab.1.y2; have := hab.2.y1; have := hab.2.y2; omega) (by have := hab.1.y1; have := hab.1.y2; have := hab.2.y1; have := hab.2.y2; omega) (by have := hab.1.y1; have := hab.1.y2; have := hab.2.y1; have := hab.2.y2; omega)
    obtain ⟨x3, x4⟩ : -1000000 ≤ ay ∧ ay ≤ 1000000 := ⟨hab.1.y1, hab.1.y2⟩
    have HAB := Lib.hid hab
    clear hab
    obtain ⟨x5, x6, x7, x8⟩ := hb
    generalize hlo : isq (sqd ax ay bx by') = lo at *
    generalize hhi : dHi (sqd ax ay bx by') = hi at *
    generalize sqd ax ay bx by' = n at *
    clear hlo hhi m1 m2 m3 m4
    by_cases hz : lo = hi
    · have t1 : (lo == hi) = true := by simp [hz]
      have t2 : (lo * lo == n) = true := by simp only [beq_iff_eq]; exact z6.1 hz
      clear hz z6
      go_wp2_with fail
      (with_reducible refine (D1.out _).mono ?_)
      rintro e w2 ⟨rfl, hb⟩
      have hX2 := below_step hX1 hb
      clear hb
      have hXa := fun o => hX2.alloc hX2.size o
      go_wp2_with fail
      refine calls_named fun y3 hy3 => ?_
      have p_s : y3.heap[w2.heap.size]? = some (.cells #[.int .i64 lo, .int .i64 hi] 35) := by rw [hy3]; exact block_new _ _
      have hX3 : Below W.heap.size W y3 := by rw [hy3]; exact hX2.alloc hX2.size _
      clear hy3
      (with_reducible refine (D2.out _).mono ?_)
      rintro e w4 ⟨rfl, hb⟩
      have hX4 := below_step hX3 hb
      replace p_s := block_later hb p_s
      clear hb
      by_cases hc : Vld cx cy
      · have d3 := fun w => Dist_yes bx by' cx cy w HAB.out.2 hc rfl rfl
        have d4 := fun w => Dist_yes ax ay cx cy w HAB.out.1 hc rfl rfl
        have tr := TRI.out cx cy
        have u1 := dHi_ge (sqd_nn bx by' cx cy)
        have u2 : sqd bx by' cx cy ≤ 8000000000000 := by obtain ⟨⟨_, _⟩, _, _⟩ := sqd_bd HAB.out.2 hc; unfold sqd; omega
        have u3 := isq_bd (sqd_nn bx by' cx cy) u2
        have D3 := Lib.hid d3
        have D4 := Lib.hid d4
        clear d3 d4 u2
        generalize dHi (sqd bx by' cx cy) = uhi at *
        generalize isq (sqd bx by' cx cy) = ulo at *
        generalize dHi (sqd ax ay cx cy) = vhi at *
        generalize isq (sqd ax ay cx cy) = vlo at *
        clear TRI
        obtain ⟨_, u4, _, u5⟩ := u1
        have hXa := fun o => hX4.alloc hX4.size o
        have c_s := fun o => cell_block (block_alloc (o' := o) p_s)
        have c_t := cell_block (block_new w4 (.cells #[.int .i64 lo, .int .i64 hi] 35))
        go_wp2_with fail
        clear c_s c_t
        refine calls_named fun y5 hy5 => ?_
        have p_t : y5.heap[w4.heap.size]? = some (.cells #[.int .i64 lo, .int .i64 hi] 35) := by rw [hy5]; exact block_new _ _
        replace p_s := block_alloc (o' := .cells #[.int .i64 lo, .int .i64 hi] 35) p_s
        rw [← hy5] at p_s
        have hX5 : Below W.heap.size W y5 := by rw [hy5]; exact hX4.alloc hX4.size _
        clear hy5
        (with_reducible refine (D3.out _).mono ?_)
        rintro e w6 ⟨rfl, hb⟩
        have hX6 := below_step hX5 hb
        replace p_s := block_later hb p_s
        replace p_t := block_later hb p_t
        clear hb
        have hXa := fun o => hX6.alloc hX6.size o
        go_wp2_with fail
        refine calls_named fun y7 hy7 => ?_
        have p_u : y7.heap[w6.heap.size]? = some (.cells #[.int .i64 ulo, .int .i64 uhi] 35) := by rw [hy7]; exact block_new _ _
        replace p_s := block_alloc (o' := .cells #[.int .i64 ulo, .int .i64 uhi] 35) p_s
        rw [← hy7] at p_s
        replace p_t := block_alloc (o' := .cells #[.int .i64 ulo, .int .i64 uhi] 35) p_t
        rw [← hy7] at p_t
        have hX7 : Below W.heap.size W y7 := by rw [hy7]; exact hX6.alloc hX6.size _
        clear hy7
        (with_reducible refine (D4.out _).mono ?_)
        rintro e w8 ⟨rfl, hb⟩
        have hX8 := below_step hX7 hb
        replace p_s := block_later hb p_s
        replace p_t := block_later hb p_t
        replace p_u := block_later hb p_u
        clear hb
        have c_s := fun o => cell_block (block_alloc (o' := o) p_s)
        have c_t := fun o => cell_block (block_alloc (o' := o) p_t)
        have c_u := fun o => cell_block (block_alloc (o' := o) p_u)
        have c_v := cell_block (block_new w8 (.cells #[.int .i64 vlo, .int .i64 vhi] 35))
        have hXa := fun o => hX8.alloc hX8.size o
        go_wp2_with fail
        go_returns
        exact ⟨rfl, below_step hB (hXa _)⟩
      · have n3 : ¬ (Vld bx by' ∧ Vld cx cy) := fun h => hc h.2
        have n4 : ¬ (Vld ax ay ∧ Vld cx cy) := fun h => hc h.2
        have hXa := fun o => hX4.alloc hX4.size o
        have c_s := fun o => cell_block (block_alloc (o' := o) p_s)
        have c_t := cell_block (block_new w4 (.cells #[.int .i64 lo, .int .i64 hi] 35))
        go_wp2_with fail
        clear c_s c_t
        refine calls_named fun y5 hy5 => ?_
        have p_t : y5.heap[w4.heap.size]? = some (.cells #[.int .i64 lo, .int .i64 hi] 35) := by rw [hy5]; exact block_new _ _
        replace p_s := block_alloc (o' := .cells #[.int .i64 lo, .int .i64 hi] 35) p_s
        rw [← hy5] at p_s
        have hX5 : Below W.heap.size W y5 := by rw [hy5]; exact hX4.alloc hX4.size _
        clear hy5
        (with_reducible refine (Dist_no _ _ _ _ _ n3).mono ?_)
        rintro e w6 ⟨rfl, hb⟩
        have hX6 := below_step hX5 hb
        replace p_s := block_later hb p_s
        replace p_t := block_later hb p_t
        clear hb
        have hXa := fun o => hX6.alloc hX6.size o
        go_wp2_with fail
        refine calls_named fun y7 hy7 => ?_
        have p_u : y7.heap[w6.heap.size]? = some (.cells #[.int .i64 0, .int .i64 0] 35) := by rw [hy7]; exact block_new _ _
        replace p_s := block_alloc (o' := .cells #[.int .i64 0, .int .i64 0] 35) p_s
        rw [← hy7] at p_s
        replace p_t := block_alloc (o' := .cells #[.int .i64 0, .int .i64 0] 35) p_t
        rw [← hy7] at p_t
        have hX7 : Below W.heap.size W y7 := by rw [hy7]; exact hX6.alloc hX6.size _
        clear hy7
        (with_reducible refine (Dist_no _ _ _ _ _ n4).mono ?_)
        rintro e w8 ⟨rfl, hb⟩
        have hX8 := below_step hX7 hb
        replace p_s := block_later hb p_s
        replace p_t := block_later hb p_t
        replace p_u := block_later hb p_u
        clear hb
        have c_s := fun o => cell_block (block_alloc (o' := o) p_s)
        have c_t := fun o => cell_block (block_alloc (o' := o) p_t)
        have c_u := fun o => cell_block (block_alloc (o' := o) p_u)
        have c_v := cell_block (block_new w8 (.cells #[.int .i64 0, .int .i64 0] 35))
        have hXa := fun o => hX8.alloc hX8.size o
        go_wp2_with fail
        go_returns
        exact ⟨rfl, below_step hB (hXa _)⟩
    · have t1 : (lo == hi) = false := by simp [hz]
      have t2 : (lo * lo == n) = false := by simp only [beq_eq_false_iff_ne]; exact fun h => hz (z6.2 h)
      clear hz z6
      go_wp2_with fail
      (with_reducible refine (D1.out _).mono ?_)
      rintro e w2 ⟨rfl, hb⟩
      have hX2 := below_step hX1 hb
      clear hb
      have hXa := fun o => hX2.alloc hX2.size o
      go_wp2_with fail
      refine calls_named fun y3 hy3 => ?_
      have p_s : y3.heap[w2.heap.size]? = some (.cells #[.int .i64 lo, .int .i64 hi] 35) := by rw [hy3]; exact block_new _ _
      have hX3 : Below W.heap.size W y3 := by rw [hy3]; exact hX2.alloc hX2.size _
      clear hy3
      (with_reducible refine (D2.out _).mono ?_)
      rintro e w4 ⟨rfl, hb⟩
      have hX4 := below_step hX3 hb
      replace p_s := block_later hb p_s
      clear hb
      by_cases hc : Vld cx cy
      · have d3 := fun w => Dist_yes bx by' cx cy w HAB.out.2 hc rfl rfl
        have d4 := fun w => Dist_yes ax ay cx cy w HAB.out.1 hc rfl rfl
        have tr := TRI.out cx cy
        have u1 := dHi_ge (sqd_nn bx by' cx cy)
        have u2 : sqd bx by' cx cy ≤ 8000000000000 := by obtain ⟨⟨_, _⟩, _, _⟩ := sqd_bd HAB.out.2 hc; unfold sqd; omega
        have u3 := isq_bd (sqd_nn bx by' cx cy) u2
        have D3 := Lib.hid d3
        have D4 := Lib.hid d4
        clear d3 d4 u2
        generalize dHi (sqd bx by' cx cy) = uhi at *
        generalize isq (sqd bx by' cx cy) = ulo at *
        generalize dHi (sqd ax ay cx cy) = vhi at *
        generalize isq (sqd ax ay cx cy) = vlo at *
        clear TRI
        obtain ⟨_, u4, _, u5⟩ := u1
        have hXa := fun o => hX4.alloc hX4.size o
        have c_s := fun o => cell_block (block_alloc (o' := o) p_s)
        have c_t := cell_block (block_new w4 (.cells #[.int .i64 lo, .int .i64 hi] 35))
        go_wp2_with fail
        clear c_s c_t
        refine calls_named fun y5 hy5 => ?_
        have p_t : y5.heap[w4.heap.size]? = some (.cells #[.int .i64 lo, .int .i64 hi] 35) := by rw [hy5]; exact block_new _ _
        replace p_s := block_alloc (o' := .cells #[.int .i64 lo, .int .i64 hi] 35) p_s
        rw [← hy5] at p_s
        have hX5 : Below W.heap.size W y5 := by rw [hy5]; exact hX4.alloc hX4.size _
        clear hy5
        (with_reducible refine (D3.out _).mono ?_)
        rintro e w6 ⟨rfl, hb⟩
        have hX6 := below_step hX5 hb
        replace p_s := block_later hb p_s
        replace p_t := block_later hb p_t
        clear hb
        have hXa := fun o => hX6.alloc hX6.size o
        go_wp2_with fail
        refine calls_named fun y7 hy7 => ?_
        have p_u : y7.heap[w6.heap.size]? = some (.cells #[.int .i64 ulo, .int .i64 uhi] 35) := by rw [hy7]; exact block_new _ _
        replace p_s := block_alloc (o' := .cells #[.int .i64 ulo, .int .i64 uhi] 35) p_s
        rw [← hy7] at p_s
        replace p_t := block_alloc (o' := .cells #[.int .i64 ulo, .int .i64 uhi] 35) p_t
        rw [← hy7] at p_t
        have hX7 : Below W.heap.size W y7 := by rw [hy7]; exact hX6.alloc hX6.size _
        clear hy7
        (with_reducible refine (D4.out _).mono ?_)
        rintro e w8 ⟨rfl, hb⟩
        have hX8 := below_step hX7 hb
        replace p_s := block_later hb p_s
        replace p_t := block_later hb p_t
        replace p_u := block_later hb p_u
        clear hb
        have c_s := fun o => cell_block (block_alloc (o' := o) p_s)
        have c_t := fun o => cell_block (block_alloc (o' := o) p_t)
        have c_u := fun o => cell_block (block_alloc (o' := o) p_u)
        have c_v := cell_block (block_new w8 (.cells #[.int .i64 vlo, .int .i64 vhi] 35))
        have hXa := fun o => hX8.alloc hX8.size o
        go_wp2_with fail
        go_returns
        exact ⟨rfl, below_step hB (hXa _)⟩
      · have n3 : ¬ (Vld bx by' ∧ Vld cx cy) := fun h => hc h.2
        have n4 : ¬ (Vld ax ay ∧ Vld cx cy) := fun h => hc h.2
        have hXa := fun o => hX4.alloc hX4.size o
        have c_s := fun o => cell_block (block_alloc (o' := o) p_s)
        have c_t := cell_block (block_new w4 (.cells #[.int .i64 lo, .int .i64 hi] 35))
        go_wp2_with fail
        clear c_s c_t
        refine calls_named fun y5 hy5 => ?_
        have p_t : y5.heap[w4.heap.size]? = some (.cells #[.int .i64 lo, .int .i64 hi] 35) := by rw [hy5]; exact block_new _ _
        replace p_s := block_alloc (o' := .cells #[.int .i64 lo, .int .i64 hi] 35) p_s
        rw [← hy5] at p_s
        have hX5 : Below W.heap.size W y5 := by rw [hy5]; exact hX4.alloc hX4.size _
        clear hy5
        (with_reducible refine (Dist_no _ _ _ _ _ n3).mono ?_)
        rintro e w6 ⟨rfl, hb⟩
        have hX6 := below_step hX5 hb
        replace p_s := block_later hb p_s
        replace p_t := block_later hb p_t
        clear hb
        have hXa := fun o => hX6.alloc hX6.size o
        go_wp2_with fail
        refine calls_named fun y7 hy7 => ?_
        have p_u : y7.heap[w6.heap.size]? = some (.cells #[.int .i64 0, .int .i64 0] 35) := by rw [hy7]; exact block_new _ _
        replace p_s := block_alloc (o' := .cells #[.int .i64 0, .int .i64 0] 35) p_s
        rw [← hy7] at p_s
        replace p_t := block_alloc (o' := .cells #[.int .i64 0, .int .i64 0] 35) p_t
        rw [← hy7] at p_t
        have hX7 : Below W.heap.size W y7 := by rw [hy7]; exact hX6.alloc hX6.size _
        clear hy7
        (with_reducible refine (Dist_no _ _ _ _ _ n4).mono ?_)
        rintro e w8 ⟨rfl, hb⟩
        have hX8 := below_step hX7 hb
        replace p_s := block_later hb p_s
        replace p_t := block_later hb p_t
        replace p_u := block_later hb p_u
        clear hb
        have c_s := fun o => cell_block (block_alloc (o' := o) p_s)
        have c_t := fun o => cell_block (block_alloc (o' := o) p_t)
        have c_u := fun o => cell_block (block_alloc (o' := o) p_u)
        have c_v := cell_block (block_new w8 (.cells #[.int .i64 0, .int .i64 0] 35))
        have hXa := fun o => hX8.alloc hX8.size o
        go_wp2_with fail
        go_returns
        exact ⟨rfl, below_step hB (hXa _)⟩
  · have n2 : ¬ (Vld bx by' ∧ Vld ax ay) := fun h => hv ⟨h.2, h.1⟩
    go_wp2_with fail
    (with_reducible refine (Dist_no _ _ _ _ _ hv).mono ?_)
    rintro e w2 ⟨rfl, hb⟩
    have hX2 := below_step hX1 hb
    clear hb
    have hXa := fun o => hX2.alloc hX2.size o
    go_wp2_with fail
    refine calls_named fun y3 hy3 => ?_
    have p_s : y3.heap[w2.heap.size]? = some (.cells #[.int .i64 0, .int .i64 0] 35) := by rw [hy3]; exact block_new _ _
    have hX3 : Below W.heap.size W y3 := by rw [hy3]; exact hX2.alloc hX2.size _
    clear hy3
    (with_reducible refine (Dist_no _ _ _ _ _ n2).mono ?_)
    rintro e w4 ⟨rfl, hb⟩
    have hX4 := below_step hX3 hb
    replace p_s := block_later hb p_s
    clear hb
    have c_s := fun o => cell_block (block_alloc (o' := o) p_s)
    have c_t := cell_block (block_new w4 (.cells #[.int .i64 0, .int .i64 0] 35))
    have hXa := fun o => hX4.alloc hX4.size o
    go_wp2_with fail
    go_returns
    exact ⟨rfl, below_step hB (hXa _)⟩
set_option maxRecDepth 100000 in
theorem planeDistances_lifted (os : Os) (started : os.Started) (H : Type) (enc : TypeId × Value → H) :
    ReturnsInHanded {} Try.checked os 5 .any (Rows.planeDistancesSpec.pre6 enc Try.prog Try.f5 Rows.planeDistancesRow.domain false) (Rows.planeDistancesSpec.post enc Try.prog Try.f5 false true false false) := by
  refine returnsInHanded_of_change (C := Try.checked) own_knob started (by kernel_rfl) Try.func5
    (ChangeSpec.witness6 (enc := enc) (C := Try.checked) false ⟨#[], #[.agg #[.int .i64 0, .int .i64 0], .agg #[.int .i64 0, .int .i64 0], .agg #[.int .i64 0, .int .i64 0]], []⟩ 8 (by kernel_rfl) (by kernel_rfl) (by kernel_rfl) (by kernel_rfl)) ?_
  intro W base args ds gs before hval0 hW hcnd _
  have hval : ∀ (j : Nat) t v, Try.f5.params[j]? = some t → args[j]? = some v → Value.okWide Try.prog W .any base t v := hval0
  have hW' := hW
  obtain ⟨p, q, hA0, hV, rfl, hfz, hnd⟩ := hW
  have hA : DataW.TrodAll enc Try.prog W 0 (fun _ => true) true Try.f5.params.toList args.toList ds p := hA0
  rw [Try.params5] at hA hval
  obtain ⟨v0, vs0, d0, ds0, p0, q0, hargs, rfl, rfl, h0, r0⟩ := trodAll_cons hA
  obtain ⟨v1, vs1, d1, ds1, p1, q1, rfl, rfl, rfl, h1, r1⟩ := trodAll_cons r0
  obtain ⟨v2, vs2, d2, ds2, p2, q2, rfl, rfl, rfl, h2, r2⟩ := trodAll_cons r1
  obtain ⟨rfl, rfl, rfl⟩ := trodAll_nil r2
  obtain rfl : args = #[v0, v1, v2] := by cases args; simp_all
  obtain ⟨rfl, rfl⟩ := trodVars_none hV
  simp only [List.append_nil] at hW' hA0
  obtain ⟨ax, ay, e0, wx0, wy0⟩ := open_point (hval 0 23 v0 rfl rfl) h0
  subst e0
  obtain ⟨bx, by', e1, wx1, wy1⟩ := open_point (hval 1 23 v1 rfl rfl) h1
  subst e1
  obtain ⟨cx, cy, e2, wx2, wy2⟩ := open_point (hval 2 23 v2 rfl rfl) h2
  subst e2
  refine (planeDistances_walk ax ay bx by' cx cy W).mono fun e W' ⟨he, hg⟩ => ?_
  subst he
  exact ⟨_, rfl, post_law laid_out (by rw [Try.params5]; intro t ht; simp only [List.mem_cons, List.not_mem_nil, or_false] at ht; rcases ht with rfl | rfl | rfl <;> exact ⟨by kernel_rfl, of_decide_eq_true (by kernel_rfl)⟩) rfl hW' hA0 rfl rfl rfl rfl Try.underlying4 hg⟩
theorem planeDistances_over : Rows.planeDistancesRow.holds Try.pinned (OpenSpec.ofChange Rows.planeDistancesSpec) :=
  OpenClaim.holds_of_wide 5 Try.f5 rfl rfl rfl rfl rfl rfl rfl ⟨rfl, rfl, rfl, rfl, rfl⟩ rfl rfl rfl rfl rfl (by kernel_rfl) Try.func5 (by kernel_rfl)
    (of_decide_eq_true (by kernel_rfl)) (by unfold Func.isWrapper; first | (rw [if_pos (by decide +kernel)]; kernel_rfl) | (rw [if_neg (by decide +kernel)]; exact ⟨rfl, rfl⟩))
    (fun os started H enc _ => planeDistances_lifted os started H enc)
theorem planeDistances_holds : Rows.PlaneDistancesSaid :=
  planeDistances_over
#print axioms planeDistances_holds
end Go.Proofs.Ytkpmiehggmeejaa
