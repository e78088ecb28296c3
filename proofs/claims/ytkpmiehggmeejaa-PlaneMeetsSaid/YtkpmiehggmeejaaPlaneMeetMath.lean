/- The plain laws of chapter 1: meeting and close segments, and what is moved, on integers. -/
import Derived.Test.YtkpmiehggmeejaaPlaneMath
namespace Go.Proofs.Ytkpmiehggmeejaa
theorem on_rev (px py ax ay bx by' : Int) : onB px py bx by' ax ay = onB px py ax ay bx by' := by
  have c : crs bx by' ax ay px py = -crs ax ay bx by' px py := crs_swap _ _ _ _ _ _
  unfold onB
  refine decide_eq_decide.2 ?_
  unfold OnS
  rw [c]
  omega
theorem cross_rev (ax ay bx by' cx cy dx dy : Int) : crossB bx by' ax ay cx cy dx dy = crossB ax ay bx by' cx cy dx dy := by
  unfold crossB
  rw [crs_swap ax ay bx by' cx cy, crs_swap ax ay bx by' dx dy, Int.sign_neg, Int.sign_neg, Int.neg_mul_neg, Int.mul_comm (crs cx cy dx dy bx by').sign]
theorem cross_swap (ax ay bx by' cx cy dx dy : Int) : crossB cx cy dx dy ax ay bx by' = crossB ax ay bx by' cx cy dx dy := by
  unfold crossB
  exact decide_eq_decide.2 And.comm
theorem meet_swap (ax ay bx by' cx cy dx dy : Int) : meetB cx cy dx dy ax ay bx by' = meetB ax ay bx by' cx cy dx dy := by
  unfold meetB
  rw [cross_swap]
  cases onB ax ay cx cy dx dy <;> cases onB bx by' cx cy dx dy <;> cases onB cx cy ax ay bx by' <;> cases onB dx dy ax ay bx by' <;> simp
theorem meet_rev (ax ay bx by' cx cy dx dy : Int) : meetB bx by' ax ay cx cy dx dy = meetB ax ay bx by' cx cy dx dy := by
  unfold meetB
  rw [cross_rev, on_rev cx cy ax ay bx by', on_rev dx dy ax ay bx by']
  cases onB ax ay cx cy dx dy <;> cases onB bx by' cx cy dx dy <;> simp
theorem meet_rev2 (ax ay bx by' cx cy dx dy : Int) : meetB ax ay bx by' dx dy cx cy = meetB ax ay bx by' cx cy dx dy := by
  rw [← meet_swap, meet_rev, meet_swap]
theorem on_end (ax ay bx by' : Int) : onB bx by' ax ay bx by' = true := by
  simp only [onB, decide_eq_true_eq]
  exact on_of_wt (m := 1) (n := 1) ⟨by omega, by omega, by omega, by omega, by omega⟩
theorem meet_end (ax ay bx by' dx dy : Int) : meetB ax ay bx by' bx by' dx dy = true := by
  unfold meetB
  rw [on_end]
  simp
theorem close_zero (ax ay bx by' cx cy dx dy : Int) : closeB ax ay bx by' cx cy dx dy 0 = meetB ax ay bx by' cx cy dx dy := by
  unfold closeB
  rw [near_zero, near_zero, near_zero, near_zero]
  unfold meetB
  cases crossB ax ay bx by' cx cy dx dy <;> cases onB ax ay cx cy dx dy <;> cases onB bx by' cx cy dx dy <;> cases onB cx cy ax ay bx by' <;> cases onB dx dy ax ay bx by' <;> rfl
theorem close_swap (ax ay bx by' cx cy dx dy r : Int) : closeB cx cy dx dy ax ay bx by' r = closeB ax ay bx by' cx cy dx dy r := by
  unfold closeB
  rw [meet_swap]
  cases nearB ax ay cx cy dx dy r <;> cases nearB bx by' cx cy dx dy r <;> cases nearB cx cy ax ay bx by' r <;> cases nearB dx dy ax ay bx by' r <;> simp
theorem close_rev (ax ay bx by' cx cy dx dy r : Int) : closeB bx by' ax ay cx cy dx dy r = closeB ax ay bx by' cx cy dx dy r := by
  unfold closeB
  rw [meet_rev, near_rev cx cy ax ay bx by', near_rev dx dy ax ay bx by']
  cases nearB ax ay cx cy dx dy r <;> cases nearB bx by' cx cy dx dy r <;> simp
theorem close_mono {ax ay bx by' cx cy dx dy r s : Int} (h0 : 0 ≤ r) (h : r ≤ s) (hc : closeB ax ay bx by' cx cy dx dy r = true) : closeB ax ay bx by' cx cy dx dy s = true := by
  unfold closeB at *
  simp only [Bool.or_eq_true] at *
  rcases hc with hc | hc | hc | hc | hc
  · exact .inl hc
  · exact .inr (.inl (near_mono h0 h hc))
  · exact .inr (.inr (.inl (near_mono h0 h hc)))
  · exact .inr (.inr (.inr (.inl (near_mono h0 h hc))))
  · exact .inr (.inr (.inr (.inr (near_mono h0 h hc))))
/-! ### A common point -/
/-- A place on the line of a segment, between its ends by one coordinate. -/
theorem on_between_x {px py ax ay bx by' : Int} (hc : crs ax ay bx by' px py = 0) (hx : ax ≠ bx) (h1 : min ax bx ≤ px) (h2 : px ≤ max ax bx) : onB px py ax ay bx by' = true := by
  simp only [onB, decide_eq_true_eq]
  unfold crs at hc
  rcases Int.lt_or_le bx ax with h | h
  · exact on_of_wt (m := ax - bx) (n := ax - px) ⟨by omega, by omega, by omega, by grind, by grind⟩
  · exact on_of_wt (m := bx - ax) (n := px - ax) ⟨by omega, by omega, by omega, by grind, by grind⟩
theorem on_between_y {px py ax ay bx by' : Int} (hc : crs ax ay bx by' px py = 0) (hy : ay ≠ by') (h1 : min ay by' ≤ py) (h2 : py ≤ max ay by') : onB px py ax ay bx by' = true := by
  simp only [onB, decide_eq_true_eq]
  unfold crs at hc
  rcases Int.lt_or_le by' ay with h | h
  · exact on_of_wt (m := ay - by') (n := ay - py) ⟨by omega, by omega, by omega, by grind, by grind⟩
  · exact on_of_wt (m := by' - ay) (n := py - ay) ⟨by omega, by omega, by omega, by grind, by grind⟩
/-- Of two intervals with a common number (by weights) one has an end in the other. -/
theorem line_meet {a b c d m n k l : Int} (hm : 0 < m) (h0 : 0 ≤ n) (h1 : n ≤ m) (hk : 0 < k) (g0 : 0 ≤ l) (g1 : l ≤ k) (e : k * (m * a + n * (b - a)) = m * (k * c + l * (d - c))) :
    (min c d ≤ a ∧ a ≤ max c d) ∨ (min c d ≤ b ∧ b ≤ max c d) ∨ (min a b ≤ c ∧ c ≤ max a b) := by
  have lo : m * min a b ≤ m * a + n * (b - a) ∧ m * a + n * (b - a) ≤ m * max a b := by
    rcases Int.le_total a b with h | h
    · rw [show min a b = a by omega, show max a b = b by omega]
      have e1 : 0 ≤ n * (b - a) := Int.mul_nonneg h0 (by omega)
      have e2 : n * (b - a) ≤ m * (b - a) := Int.mul_le_mul_of_nonneg_right h1 (by omega)
      rw [Int.mul_sub m] at e2
      omega
    · rw [show min a b = b by omega, show max a b = a by omega]
      have e1 : n * (b - a) ≤ 0 := Int.mul_nonpos_of_nonneg_of_nonpos h0 (by omega)
      have e2 : m * (b - a) ≤ n * (b - a) := Int.mul_le_mul_of_nonpos_right h1 (by omega)
      rw [Int.mul_sub m] at e2
      omega
  have lo2 : k * min c d ≤ k * c + l * (d - c) ∧ k * c + l * (d - c) ≤ k * max c d := by
    rcases Int.le_total c d with h | h
    · rw [show min c d = c by omega, show max c d = d by omega]
      have e1 : 0 ≤ l * (d - c) := Int.mul_nonneg g0 (by omega)
      have e2 : l * (d - c) ≤ k * (d - c) := Int.mul_le_mul_of_nonneg_right g1 (by omega)
      rw [Int.mul_sub k] at e2
      omega
    · rw [show min c d = d by omega, show max c d = c by omega]
      have e1 : l * (d - c) ≤ 0 := Int.mul_nonpos_of_nonneg_of_nonpos g0 (by omega)
      have e2 : k * (d - c) ≤ l * (d - c) := Int.mul_le_mul_of_nonpos_right g1 (by omega)
      rw [Int.mul_sub k] at e2
      omega
  have hmk := Int.mul_pos hm hk
  have a1 : k * (m * min a b) ≤ m * (k * max c d) := by
    have x1 := Int.mul_le_mul_of_nonneg_left lo.1 (Int.le_of_lt hk)
    have x2 := Int.mul_le_mul_of_nonneg_left lo2.2 (Int.le_of_lt hm)
    omega
  have a2 : m * (k * min c d) ≤ k * (m * max a b) := by
    have x1 := Int.mul_le_mul_of_nonneg_left lo.2 (Int.le_of_lt hk)
    have x2 := Int.mul_le_mul_of_nonneg_left lo2.1 (Int.le_of_lt hm)
    omega
  have b1 : min a b ≤ max c d := nn_lt hmk (by rw [Int.mul_assoc, Int.mul_assoc, Int.mul_left_comm m k (min a b)]; exact a1)
  have b2 : min c d ≤ max a b := nn_lt hmk (by rw [Int.mul_assoc, Int.mul_assoc, Int.mul_left_comm m k (max a b)]; exact a2)
  omega
theorem collinear {ax ay bx by' cx cy dx dy : Int} (hA : crs cx cy dx dy ax ay = 0) (hB : crs cx cy dx dy bx by' = 0) (hne : ¬ (cx = dx ∧ cy = dy)) : crs ax ay bx by' cx cy = 0 := by
  unfold crs at *
  by_cases hx : dx - cx = 0
  · have hy : dy - cy ≠ 0 := by omega
    have e : (dy - cy) * ((bx - ax) * (cy - ay) - (by' - ay) * (cx - ax)) = 0 := by grind
    rcases Int.mul_eq_zero.1 e with h | h
    · exact absurd h hy
    · exact h
  · have e : (dx - cx) * ((bx - ax) * (cy - ay) - (by' - ay) * (cx - ax)) = 0 := by grind
    rcases Int.mul_eq_zero.1 e with h | h
    · exact absurd h hx
    · exact h
/-- Two segments of one line with a common point: an end of one lies on the other. -/
theorem meet_line {ax ay bx by' cx cy dx dy m n k l : Int} (hm : 0 < m) (h0 : 0 ≤ n) (h1 : n ≤ m) (hk : 0 < k) (g0 : 0 ≤ l) (g1 : l ≤ k)
    (ex : k * (m * ax + n * (bx - ax)) = m * (k * cx + l * (dx - cx))) (ey : k * (m * ay + n * (by' - ay)) = m * (k * cy + l * (dy - cy)))
    (hA : crs cx cy dx dy ax ay = 0) (hB : crs cx cy dx dy bx by' = 0) : meetB ax ay bx by' cx cy dx dy = true := by
  by_cases hcd : cx = dx ∧ cy = dy
  · obtain ⟨rfl, rfl⟩ := hcd
    have o : onB cx cy ax ay bx by' = true := by
      simp only [onB, decide_eq_true_eq]
      refine on_of_wt (m := m) (n := n) ⟨hm, h0, h1, ?_, ?_⟩
      · have : k * (m * (cx - ax)) = k * (n * (bx - ax)) := by grind
        exact Int.eq_of_mul_eq_mul_left (by omega) this
      · have : k * (m * (cy - ay)) = k * (n * (by' - ay)) := by grind
        exact Int.eq_of_mul_eq_mul_left (by omega) this
    unfold meetB
    rw [o]
    simp
  · have hC := collinear hA hB hcd
    unfold meetB
    simp only [Bool.or_eq_true]
    by_cases hx : cx = dx
    · have hy : cy ≠ dy := fun h => hcd ⟨hx, h⟩
      rcases line_meet hm h0 h1 hk g0 g1 ey with h | h | h
      · exact .inr (.inl (on_between_y hA hy h.1 h.2))
      · exact .inr (.inr (.inl (on_between_y hB hy h.1 h.2)))
      · by_cases hab : ay = by'
        · have hay : ay = cy := by omega
          have hax : ax = cx := by
            subst hx
            unfold crs at hA
            have : (dy - cy) * (ax - cx) = 0 := by grind
            rcases Int.mul_eq_zero.1 this with h | h <;> omega
          subst hay hax
          exact .inr (.inr (.inr (.inl (by rw [← on_rev]; exact on_end _ _ _ _))))
        · exact .inr (.inr (.inr (.inl (on_between_y hC hab h.1 h.2))))
    · rcases line_meet hm h0 h1 hk g0 g1 ex with h | h | h
      · exact .inr (.inl (on_between_x hA hx h.1 h.2))
      · exact .inr (.inr (.inl (on_between_x hB hx h.1 h.2)))
      · by_cases hab : ax = bx
        · have hax : ax = cx := by omega
          have hay : ay = cy := by
            unfold crs at hA
            have : (dx - cx) * (ay - cy) = 0 := by grind
            rcases Int.mul_eq_zero.1 this with h | h <;> omega
          subst hay hax
          exact .inr (.inr (.inr (.inl (by rw [← on_rev]; exact on_end _ _ _ _))))
        · exact .inr (.inr (.inr (.inl (on_between_x hC hab h.1 h.2))))
theorem sign_mul_neg {a b : Int} (h : a * b < 0) : a.sign * b.sign < 0 := by
  rw [← Int.sign_mul]
  rw [Int.sign_eq_neg_one_of_neg h]
  omega
/-- Segments with a common point meet. -/
theorem meet_common {ax ay bx by' cx cy dx dy m n k l : Int} (hm : 0 < m) (h0 : 0 ≤ n) (h1 : n ≤ m) (hk : 0 < k) (g0 : 0 ≤ l) (g1 : l ≤ k)
    (ex : k * (m * ax + n * (bx - ax)) = m * (k * cx + l * (dx - cx))) (ey : k * (m * ay + n * (by' - ay)) = m * (k * cy + l * (dy - cy))) : meetB ax ay bx by' cx cy dx dy = true := by
  obtain ⟨A, hA⟩ : ∃ A, A = crs cx cy dx dy ax ay := ⟨_, rfl⟩
  obtain ⟨B, hB⟩ : ∃ A, A = crs cx cy dx dy bx by' := ⟨_, rfl⟩
  obtain ⟨C, hC⟩ : ∃ A, A = crs ax ay bx by' cx cy := ⟨_, rfl⟩
  obtain ⟨D, hD⟩ : ∃ A, A = crs ax ay bx by' dx dy := ⟨_, rfl⟩
  have r1 : (m - n) * A + n * B = 0 := by
    have : k * ((m - n) * A + n * B) = 0 := by rw [hA, hB]; unfold crs; grind
    rcases Int.mul_eq_zero.1 this with h | h
    · omega
    · exact h
  have r2 : (k - l) * C + l * D = 0 := by
    have : m * ((k - l) * C + l * D) = 0 := by rw [hC, hD]; unfold crs; grind
    rcases Int.mul_eq_zero.1 this with h | h
    · omega
    · exact h
  by_cases zAB : A = 0 ∧ B = 0
  · exact meet_line hm h0 h1 hk g0 g1 ex ey (hA ▸ zAB.1) (hB ▸ zAB.2)
  by_cases zCD : C = 0 ∧ D = 0
  · rw [← meet_swap]
    exact meet_line hk g0 g1 hm h0 h1 ex.symm ey.symm (hC ▸ zCD.1) (hD ▸ zCD.2)
  have onc : l = 0 → onB cx cy ax ay bx by' = true := fun h => by
    subst h
    simp only [onB, decide_eq_true_eq]
    refine on_of_wt (m := m) (n := n) ⟨hm, h0, h1, ?_, ?_⟩
    · exact Int.eq_of_mul_eq_mul_left (a := k) (by omega) (by grind)
    · exact Int.eq_of_mul_eq_mul_left (a := k) (by omega) (by grind)
  have ond : l = k → onB dx dy ax ay bx by' = true := fun h => by
    subst h
    simp only [onB, decide_eq_true_eq]
    refine on_of_wt (m := m) (n := n) ⟨hm, h0, h1, ?_, ?_⟩
    · exact Int.eq_of_mul_eq_mul_left (a := l) (by omega) (by grind)
    · exact Int.eq_of_mul_eq_mul_left (a := l) (by omega) (by grind)
  have ona : n = 0 → onB ax ay cx cy dx dy = true := fun h => by
    subst h
    simp only [onB, decide_eq_true_eq]
    refine on_of_wt (m := k) (n := l) ⟨hk, g0, g1, ?_, ?_⟩
    · exact Int.eq_of_mul_eq_mul_left (a := m) (by omega) (by grind)
    · exact Int.eq_of_mul_eq_mul_left (a := m) (by omega) (by grind)
  have onb : n = m → onB bx by' cx cy dx dy = true := fun h => by
    subst h
    simp only [onB, decide_eq_true_eq]
    refine on_of_wt (m := k) (n := l) ⟨hk, g0, g1, ?_, ?_⟩
    · exact Int.eq_of_mul_eq_mul_left (a := n) (by omega) (by grind)
    · exact Int.eq_of_mul_eq_mul_left (a := n) (by omega) (by grind)
  have opp : ∀ {m n A B : Int}, (m - n) * A + n * B = 0 → 0 < n → n < m → ¬ (A = 0 ∧ B = 0) → A * B < 0 := by
    intro m n A B r p q z
    have hA0 : A ≠ 0 := fun h => by
      subst h
      have : n * B = 0 := by grind
      rcases Int.mul_eq_zero.1 this with h | h
      · omega
      · exact z ⟨rfl, h⟩
    have e : n * (A * B) = -((m - n) * (A * A)) := by grind
    have h1 : 0 < (m - n) * (A * A) := Int.mul_pos (by omega) (by
      rcases Int.lt_or_gt_of_ne hA0 with h | h
      · exact Int.mul_pos_of_neg_of_neg h h
      · exact Int.mul_pos h h)
    rcases Int.lt_or_le (A * B) 0 with h | h
    · exact h
    · have := Int.mul_nonneg (show 0 ≤ n by omega) h
      omega
  unfold meetB
  simp only [Bool.or_eq_true]
  by_cases n0 : n = 0
  · exact .inr (.inl (ona n0))
  by_cases nm : n = m
  · exact .inr (.inr (.inl (onb nm)))
  by_cases l0 : l = 0
  · exact .inr (.inr (.inr (.inl (onc l0))))
  by_cases lk : l = k
  · exact .inr (.inr (.inr (.inr (ond lk))))
  left
  have c1 := opp r1 (by omega) (by omega) zAB
  have c2 := opp r2 (by omega) (by omega) zCD
  unfold crossB
  rw [← hA, ← hB, ← hC, ← hD]
  simp only [decide_eq_true_eq]
  exact ⟨sign_mul_neg c2, sign_mul_neg c1⟩
theorem meet_of_on {px py ax ay bx by' cx cy dx dy : Int} (h1 : OnS px py ax ay bx by') (h2 : OnS px py cx cy dx dy) : meetB ax ay bx by' cx cy dx dy = true := by
  obtain ⟨m, n, a1, a2, a3, a4, a5⟩ := wt_of_on h1
  obtain ⟨k, l, b1, b2, b3, b4, b5⟩ := wt_of_on h2
  exact meet_common a1 a2 a3 b1 b2 b3 (by grind) (by grind)
/-! ### Close -/
/-- The point at which one leaves the first segment, at its beginning, is near the second one. -/
theorem exit_near {ax ay bx by' cx cy dx dy D S T M i j r : Int} (hD : 0 ≤ D) (hS : S < 0) (hM : 0 < M) (i0 : 0 ≤ i)
    (vx : D * (cx - ax) + T * (dx - cx) = S * (bx - ax)) (vy : D * (cy - ay) + T * (dy - cy) = S * (by' - ay))
    (l0 : 0 ≤ i * T - j * S) (l1 : i * T - j * S ≤ i * D - S * M)
    (h : (M * (ax - cx) + i * (bx - ax) - j * (dx - cx)) * (M * (ax - cx) + i * (bx - ax) - j * (dx - cx)) + (M * (ay - cy) + i * (by' - ay) - j * (dy - cy)) * (M * (ay - cy) + i * (by' - ay) - j * (dy - cy)) ≤ M * M * (r * r)) :
    nearB ax ay cx cy dx dy r = true := by
  have k1 : 0 < -S * M := Int.mul_pos (by omega) hM
  have k2 : 0 ≤ i * D := Int.mul_nonneg i0 hD
  have k3 : -S * M = -(S * M) := by grind
  refine near_of_wt (m := i * D - S * M) (n := i * T - j * S) (by omega) l0 l1 ?_
  obtain ⟨X, hX⟩ : ∃ X, X = M * (ax - cx) + i * (bx - ax) - j * (dx - cx) := ⟨_, rfl⟩
  obtain ⟨Y, hY⟩ : ∃ X, X = M * (ay - cy) + i * (by' - ay) - j * (dy - cy) := ⟨_, rfl⟩
  have ex : (i * D - S * M) * (ax - cx) - (i * T - j * S) * (dx - cx) = -S * X := by rw [hX]; grind
  have ey : (i * D - S * M) * (ay - cy) - (i * T - j * S) * (dy - cy) = -S * Y := by rw [hY]; grind
  rw [ex, ey]
  rw [← hX, ← hY] at h
  have e1 : -S * X * (-S * X) + -S * Y * (-S * Y) = S * S * (X * X + Y * Y) := by grind
  rw [e1]
  have e2 := Int.mul_le_mul_of_nonneg_left h (sq_nn' S)
  have e3 : S * S * (M * M * (r * r)) = (-S * M) * (-S * M) * (r * r) := by grind
  have e4 : (-S * M) * (-S * M) ≤ (i * D - S * M) * (i * D - S * M) := sq_le_sq (by omega) (by omega)
  have e5 := Int.mul_le_mul_of_nonneg_right e4 (sq_nn' r)
  omega
/-- The first exit, where the line through both places leaves the unit square at the beginning of the first segment's side. -/
theorem exit_first {ax ay bx by' cx cy dx dy D S T M i j r : Int} (hD : 0 ≤ D) (hS : S < 0) (hM : 0 < M) (i0 : 0 ≤ i) (i1 : i ≤ M) (j0 : 0 ≤ j) (j1 : j ≤ M)
    (vx : D * (cx - ax) + T * (dx - cx) = S * (bx - ax)) (vy : D * (cy - ay) + T * (dy - cy) = S * (by' - ay))
    (h : (M * (ax - cx) + i * (bx - ax) - j * (dx - cx)) * (M * (ax - cx) + i * (bx - ax) - j * (dx - cx)) + (M * (ay - cy) + i * (by' - ay) - j * (dy - cy)) * (M * (ay - cy) + i * (by' - ay) - j * (dy - cy)) ≤ M * M * (r * r)) :
    nearB ax ay cx cy dx dy r = true ∨ nearB cx cy ax ay bx by' r = true ∨ nearB dx dy ax ay bx by' r = true := by
  -- leaving at the second segment's beginning
  have back : ∀ {cx cy dx dy T j : Int}, 0 ≤ j → j ≤ M → D * (cx - ax) + T * (dx - cx) = S * (bx - ax) → D * (cy - ay) + T * (dy - cy) = S * (by' - ay) →
      (M * (ax - cx) + i * (bx - ax) - j * (dx - cx)) * (M * (ax - cx) + i * (bx - ax) - j * (dx - cx)) + (M * (ay - cy) + i * (by' - ay) - j * (dy - cy)) * (M * (ay - cy) + i * (by' - ay) - j * (dy - cy)) ≤ M * M * (r * r) →
      i * T - j * S < 0 → nearB cx cy ax ay bx by' r = true := by
    intro cx cy dx dy T j j0 j1 vx vy h hl
    have jS : j * S ≤ 0 := Int.mul_nonpos_of_nonneg_of_nonpos j0 (Int.le_of_lt hS)
    have hT : T < 0 := by
      rcases Int.lt_or_le T 0 with h' | h'
      · exact h'
      · have := Int.mul_nonneg i0 h'; omega
    refine exit_near (bx := dx) (by' := dy) (D := D) (S := T) (T := S) (M := M) (i := j) (j := i) hD hT hM j0 (by grind) (by grind) (by omega) ?_ ?_
    · have e1 : j * S ≤ j * D := Int.mul_le_mul_of_nonneg_left (by omega) j0
      have e2 : i * -T ≤ M * -T := Int.mul_le_mul_of_nonneg_right i1 (by omega)
      have e3 : i * -T = -(i * T) := by grind
      have e4 : M * -T = -(T * M) := by grind
      omega
    · have e : ∀ x y z u : Int, (M * (cx - ax) + j * (dx - cx) - i * (bx - ax)) * (M * (cx - ax) + j * (dx - cx) - i * (bx - ax)) = (M * (ax - cx) + i * (bx - ax) - j * (dx - cx)) * (M * (ax - cx) + i * (bx - ax) - j * (dx - cx)) := fun _ _ _ _ => by grind
      have e' : (M * (cy - ay) + j * (dy - cy) - i * (by' - ay)) * (M * (cy - ay) + j * (dy - cy) - i * (by' - ay)) = (M * (ay - cy) + i * (by' - ay) - j * (dy - cy)) * (M * (ay - cy) + i * (by' - ay) - j * (dy - cy)) := by grind
      rw [e 0 0 0 0, e']
      exact h
  by_cases l0 : 0 ≤ i * T - j * S
  · by_cases l1 : i * T - j * S ≤ i * D - S * M
    · exact .inl (exit_near hD hS hM i0 vx vy l0 l1 h)
    · right; right
      have q1 : D * (dx - ax) + (D - T) * (cx - dx) = S * (bx - ax) := by grind
      have q2 : D * (dy - ay) + (D - T) * (cy - dy) = S * (by' - ay) := by grind
      have e1 : M * (ax - dx) + i * (bx - ax) - (M - j) * (cx - dx) = M * (ax - cx) + i * (bx - ax) - j * (dx - cx) := by grind
      have e2 : M * (ay - dy) + i * (by' - ay) - (M - j) * (cy - dy) = M * (ay - cy) + i * (by' - ay) - j * (dy - cy) := by grind
      refine back (T := D - T) (j := M - j) (by omega) (by omega) q1 q2 (by rw [e1, e2]; exact h) ?_
      have e3 : i * (D - T) - (M - j) * S = i * D - S * M - (i * T - j * S) := by grind
      omega
  · right; left
    exact back j0 j1 vx vy h (by omega)
theorem close_exit {ax ay bx by' cx cy dx dy D S T M i j r : Int} (hD : 0 ≤ D) (hS : S < 0 ∨ D < S) (hM : 0 < M) (i0 : 0 ≤ i) (i1 : i ≤ M) (j0 : 0 ≤ j) (j1 : j ≤ M)
    (vx : D * (cx - ax) + T * (dx - cx) = S * (bx - ax)) (vy : D * (cy - ay) + T * (dy - cy) = S * (by' - ay))
    (h : (M * (ax - cx) + i * (bx - ax) - j * (dx - cx)) * (M * (ax - cx) + i * (bx - ax) - j * (dx - cx)) + (M * (ay - cy) + i * (by' - ay) - j * (dy - cy)) * (M * (ay - cy) + i * (by' - ay) - j * (dy - cy)) ≤ M * M * (r * r)) :
    closeB ax ay bx by' cx cy dx dy r = true := by
  have one : ∀ {ax ay bx by' S i : Int}, S < 0 → 0 ≤ i → i ≤ M → D * (cx - ax) + T * (dx - cx) = S * (bx - ax) → D * (cy - ay) + T * (dy - cy) = S * (by' - ay) →
      (M * (ax - cx) + i * (bx - ax) - j * (dx - cx)) * (M * (ax - cx) + i * (bx - ax) - j * (dx - cx)) + (M * (ay - cy) + i * (by' - ay) - j * (dy - cy)) * (M * (ay - cy) + i * (by' - ay) - j * (dy - cy)) ≤ M * M * (r * r) →
      closeB ax ay bx by' cx cy dx dy r = true := by
    intro ax ay bx by' S i hS i0 i1 vx vy h
    unfold closeB
    simp only [Bool.or_eq_true]
    rcases exit_first hD hS hM i0 i1 j0 j1 vx vy h with h | h | h
    · exact .inr (.inl h)
    · exact .inr (.inr (.inr (.inl h)))
    · exact .inr (.inr (.inr (.inr h)))
  rcases hS with hS | hS
  · exact one hS i0 i1 vx vy h
  · rw [← close_rev]
    have e1 : M * (bx - cx) + (M - i) * (ax - bx) - j * (dx - cx) = M * (ax - cx) + i * (bx - ax) - j * (dx - cx) := by grind
    have e2 : M * (by' - cy) + (M - i) * (ay - by') - j * (dy - cy) = M * (ay - cy) + i * (by' - ay) - j * (dy - cy) := by grind
    exact one (S := D - S) (i := M - i) (by omega) (by omega) (by omega) (by grind) (by grind) (by rw [e1, e2]; exact h)
/-- Segments are close if a place of one and a place of the other are. -/
theorem close_of_on {px py qx qy ax ay bx by' cx cy dx dy r : Int} (h1 : OnS px py ax ay bx by') (h2 : OnS qx qy cx cy dx dy) (hr : sqd px py qx qy ≤ r * r) : closeB ax ay bx by' cx cy dx dy r = true := by
  obtain ⟨m, n, a1, a2, a3, a4, a5⟩ := wt_of_on h1
  obtain ⟨k, l, b1, b2, b3, b4, b5⟩ := wt_of_on h2
  have hM := Int.mul_pos a1 b1
  have i0 : 0 ≤ n * k := Int.mul_nonneg a2 (by omega)
  have i1 : n * k ≤ m * k := Int.mul_le_mul_of_nonneg_right a3 (by omega)
  have j0 : 0 ≤ l * m := Int.mul_nonneg b2 (by omega)
  have j1 : l * m ≤ m * k := by rw [Int.mul_comm m k]; exact Int.mul_le_mul_of_nonneg_right b3 (by omega)
  have ex : m * k * (ax - cx) + n * k * (bx - ax) - l * m * (dx - cx) = m * k * (px - qx) := by
    have e1 : k * (m * (px - ax)) = k * (n * (bx - ax)) := by rw [a4]
    have e2 : m * (k * (qx - cx)) = m * (l * (dx - cx)) := by rw [b4]
    grind
  have ey : m * k * (ay - cy) + n * k * (by' - ay) - l * m * (dy - cy) = m * k * (py - qy) := by
    have e1 : k * (m * (py - ay)) = k * (n * (by' - ay)) := by rw [a5]
    have e2 : m * (k * (qy - cy)) = m * (l * (dy - cy)) := by rw [b5]
    grind
  have h : (m * k * (ax - cx) + n * k * (bx - ax) - l * m * (dx - cx)) * (m * k * (ax - cx) + n * k * (bx - ax) - l * m * (dx - cx)) + (m * k * (ay - cy) + n * k * (by' - ay) - l * m * (dy - cy)) * (m * k * (ay - cy) + n * k * (by' - ay) - l * m * (dy - cy)) ≤ m * k * (m * k) * (r * r) := by
    rw [ex, ey]
    have e : m * k * (px - qx) * (m * k * (px - qx)) + m * k * (py - qy) * (m * k * (py - qy)) = m * k * (m * k) * sqd px py qx qy := by unfold sqd; grind
    rw [e]
    exact Int.mul_le_mul_of_nonneg_left hr (sq_nn' _)
  clear ex ey
  obtain ⟨D, hDe⟩ : ∃ D, D = (bx - ax) * (dy - cy) - (by' - ay) * (dx - cx) := ⟨_, rfl⟩
  obtain ⟨S, hSe⟩ : ∃ D, D = (cx - ax) * (dy - cy) - (cy - ay) * (dx - cx) := ⟨_, rfl⟩
  obtain ⟨T, hTe⟩ : ∃ D, D = (cx - ax) * (by' - ay) - (cy - ay) * (bx - ax) := ⟨_, rfl⟩
  by_cases hD : D = 0
  · -- parallel
    by_cases hu : cx = dx ∧ cy = dy
    · obtain ⟨rfl, rfl⟩ := hu
      have q1 : qx = cx := by
        have : k * (qx - cx) = 0 := by grind
        rcases Int.mul_eq_zero.1 this with h | h <;> omega
      have q2 : qy = cy := by
        have : k * (qy - cy) = 0 := by grind
        rcases Int.mul_eq_zero.1 this with h | h <;> omega
      subst q1 q2
      have hn : nearB qx qy ax ay bx by' r = true := near_of_on (by rw [sqd_comm]; exact hr) h1
      unfold closeB
      rw [hn]
      simp
    · have hx : 0 < (dx - cx) * (dx - cx) + (dy - cy) * (dy - cy) := by
        have s1 := sq_nn' (dx - cx)
        have s2 := sq_nn' (dy - cy)
        rcases Int.lt_or_le 0 ((dx - cx) * (dx - cx) + (dy - cy) * (dy - cy)) with h | h
        · exact h
        · have z1 := sq_zero (a := dx - cx) (by omega)
          have z2 := sq_zero (a := dy - cy) (by omega)
          omega
      refine close_exit (D := 0) (S := -((dx - cx) * (dx - cx) + (dy - cy) * (dy - cy))) (T := -((bx - ax) * (dx - cx) + (by' - ay) * (dy - cy))) (Int.le_refl 0) (.inl (by omega)) hM i0 i1 j0 j1 ?_ ?_ h
      · rw [hD] at hDe; grind
      · rw [hD] at hDe; grind
  · have hD2 : 0 < D * D := by
      have := sq_nn' D
      rcases Int.lt_or_le 0 (D * D) with h | h
      · exact h
      · exact absurd (sq_zero h) hD
    have vx : D * D * (cx - ax) + D * T * (dx - cx) = D * S * (bx - ax) := by rw [hDe, hSe, hTe]; grind
    have vy : D * D * (cy - ay) + D * T * (dy - cy) = D * S * (by' - ay) := by rw [hDe, hSe, hTe]; grind
    by_cases hS : D * S < 0 ∨ D * D < D * S
    · exact close_exit (Int.le_of_lt hD2) hS hM i0 i1 j0 j1 vx vy h
    · by_cases hT : D * T < 0 ∨ D * D < D * T
      · rw [← close_swap]
        refine close_exit (D := D * D) (S := D * T) (T := D * S) (M := m * k) (i := l * m) (j := n * k) (Int.le_of_lt hD2) hT hM j0 j1 i0 i1 (by grind) (by grind) ?_
        have e1 : m * k * (cx - ax) + l * m * (dx - cx) - n * k * (bx - ax) = -(m * k * (ax - cx) + n * k * (bx - ax) - l * m * (dx - cx)) := by grind
        have e2 : m * k * (cy - ay) + l * m * (dy - cy) - n * k * (by' - ay) = -(m * k * (ay - cy) + n * k * (by' - ay) - l * m * (dy - cy)) := by grind
        rw [e1, e2, Int.neg_mul_neg, Int.neg_mul_neg]
        exact h
      · have hm : meetB ax ay bx by' cx cy dx dy = true :=
          meet_common (m := D * D) (n := D * S) (k := D * D) (l := D * T) hD2 (by omega) (by omega) hD2 (by omega) (by omega) (by grind) (by grind)
        unfold closeB
        rw [hm]
        simp
end Go.Proofs.Ytkpmiehggmeejaa
