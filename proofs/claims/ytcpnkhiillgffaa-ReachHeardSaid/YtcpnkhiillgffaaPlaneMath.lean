/- The plain laws of chapter 1: turns, distances, meeting and near segments, on integers. -/
import Derived.Test.YtcpnkhiillgffaaPlanePure
namespace Go.Proofs.Ytcpnkhiillgffaa
theorem crs_rot (ax ay bx by' cx cy : Int) : crs bx by' cx cy ax ay = crs ax ay bx by' cx cy := by unfold crs; grind
theorem crs_swap (ax ay bx by' cx cy : Int) : crs bx by' ax ay cx cy = -crs ax ay bx by' cx cy := by unfold crs; grind
theorem crs_self (ax ay cx cy : Int) : crs ax ay ax ay cx cy = 0 := by unfold crs; grind
theorem sqd_comm (ax ay bx by' : Int) : sqd bx by' ax ay = sqd ax ay bx by' := by unfold sqd; grind
theorem sq_nn' (a : Int) : 0 ≤ a * a := by
  rcases Int.le_total 0 a with h | h
  · exact Int.mul_nonneg h h
  · have := Int.mul_nonneg (show 0 ≤ -a by omega) (show 0 ≤ -a by omega)
    rwa [Int.neg_mul_neg] at this
theorem sqd_nn (ax ay bx by' : Int) : 0 ≤ sqd ax ay bx by' := by
  have h1 := sq_nn' (bx - ax)
  have h2 := sq_nn' (by' - ay)
  unfold sqd
  omega
theorem sq_le_sq {a b : Int} (h0 : 0 ≤ a) (h : a ≤ b) : a * a ≤ b * b := Int.mul_le_mul h h h0 (by omega)
theorem le_of_sq {a b : Int} (hb : 0 ≤ b) (h : a * a ≤ b * b) : a ≤ b := by
  rcases Int.lt_or_le b a with h' | h'
  · have h2 : b * b < a * a := by
      have e1 : b * b ≤ b * a := Int.mul_le_mul_of_nonneg_left (Int.le_of_lt h') hb
      have e2 : b * a < a * a := Int.mul_lt_mul_of_pos_right h' (by omega)
      omega
    omega
  · exact h'
/-- The inequality of Cauchy and Schwarz, and the one of the triangle that follows. -/
theorem cauchy (ux uy vx vy : Int) : (ux * vx + uy * vy) * (ux * vx + uy * vy) ≤ (ux * ux + uy * uy) * (vx * vx + vy * vy) := by
  have h := sq_nn' (ux * vy - uy * vx)
  grind
theorem triangle {ax ay bx by' cx cy p q : Int} (hp : 0 ≤ p) (hq : 0 ≤ q) (h1 : sqd ax ay bx by' ≤ p * p) (h2 : sqd bx by' cx cy ≤ q * q) : sqd ax ay cx cy ≤ (p + q) * (p + q) := by
  have n1 := sqd_nn ax ay bx by'
  have n2 := sqd_nn bx by' cx cy
  have hc := cauchy (bx - ax) (by' - ay) (cx - bx) (cy - by')
  have hm : sqd ax ay bx by' * sqd bx by' cx cy ≤ (p * p) * (q * q) := Int.mul_le_mul h1 h2 n2 (sq_nn' p)
  have hd : (bx - ax) * (cx - bx) + (by' - ay) * (cy - by') ≤ p * q := by
    refine le_of_sq (Int.mul_nonneg hp hq) ?_
    unfold sqd at hm
    have e : (p * q) * (p * q) = (p * p) * (q * q) := by grind
    omega
  have e : sqd ax ay cx cy = sqd ax ay bx by' + sqd bx by' cx cy + 2 * ((bx - ax) * (cx - bx) + (by' - ay) * (cy - by')) := by unfold sqd; grind
  have e2 : (p + q) * (p + q) = p * p + q * q + 2 * (p * q) := by grind
  omega
theorem dHi_ge {n : Int} (h : 0 ≤ n) : n ≤ dHi n * dHi n ∧ 0 ≤ dHi n ∧ isq n ≤ dHi n ∧ dHi n ≤ isq n + 1 := by
  have a1 := isq_le h
  have a2 := isq_lt h
  have a0 := isq_nn n
  unfold dHi
  split
  · rename_i e; omega
  · omega
theorem dHi_eq {n : Int} : (isq n = dHi n) ↔ isq n * isq n = n := by
  unfold dHi
  split
  · simp_all
  · rename_i e; constructor
    · intro h; omega
    · intro h; exact absurd h e
theorem isq_bd {n : Int} (h0 : 0 ≤ n) (h1 : n ≤ 8000000000000) : isq n ≤ 2828427 := by
  have a1 := isq_le h0
  rcases Int.lt_or_le 2828427 (isq n) with h | h
  · have := sq_le_sq (by omega : (0 : Int) ≤ 2828428) (show 2828428 ≤ isq n by omega)
    omega
  · exact h
theorem dist_triangle {ax ay bx by' cx cy : Int} : isq (sqd ax ay cx cy) ≤ dHi (sqd ax ay bx by') + dHi (sqd bx by' cx cy) := by
  obtain ⟨p1, p2, _, _⟩ := dHi_ge (sqd_nn ax ay bx by')
  obtain ⟨q1, q2, _, _⟩ := dHi_ge (sqd_nn bx by' cx cy)
  have h := triangle p2 q2 p1 q1
  have h2 := isq_le (sqd_nn ax ay cx cy)
  exact le_of_sq (by omega) (by omega)
/-! ### Places on segments by weights -/
/-- The place p is the one that divides the segment from a to b as n to m - n. -/
def Wt (px py ax ay bx by' m n : Int) : Prop := 0 < m ∧ 0 ≤ n ∧ n ≤ m ∧ m * (px - ax) = n * (bx - ax) ∧ m * (py - ay) = n * (by' - ay)
theorem on_of_wt {px py ax ay bx by' m n : Int} (h : Wt px py ax ay bx by' m n) : OnS px py ax ay bx by' := by
  obtain ⟨h1, h2, h3, h4, h5⟩ := h
  have box : ∀ p a b : Int, m * (p - a) = n * (b - a) → min a b ≤ p ∧ p ≤ max a b := fun p a b e => by
    rcases Int.le_total a b with hab | hab
    · have e1 : 0 ≤ n * (b - a) := Int.mul_nonneg h2 (by omega)
      have e2 : n * (b - a) ≤ m * (b - a) := Int.mul_le_mul_of_nonneg_right h3 (by omega)
      have e3 : 0 ≤ p - a := by
        rcases Int.lt_or_le (p - a) 0 with h | h
        · have := Int.mul_neg_of_pos_of_neg h1 h; omega
        · exact h
      have e4 : p - a ≤ b - a := Int.le_of_mul_le_mul_left (by omega) h1
      omega
    · have e1 : n * (b - a) ≤ 0 := Int.mul_nonpos_of_nonneg_of_nonpos h2 (by omega)
      have e2 : m * (b - a) ≤ n * (b - a) := Int.mul_le_mul_of_nonpos_right h3 (by omega)
      have e3 : p - a ≤ 0 := by
        rcases Int.lt_or_le 0 (p - a) with h | h
        · have := Int.mul_pos h1 h; omega
        · exact h
      have e4 : b - a ≤ p - a := Int.le_of_mul_le_mul_left (by omega) h1
      omega
  have c : m * crs ax ay bx by' px py = 0 := by unfold crs; grind
  have c' : crs ax ay bx by' px py = 0 := by
    rcases Int.mul_eq_zero.1 c with h | h
    · omega
    · exact h
  exact ⟨c', (box _ _ _ h4).1, (box _ _ _ h4).2, (box _ _ _ h5).1, (box _ _ _ h5).2⟩
theorem wt_of_on {px py ax ay bx by' : Int} (h : OnS px py ax ay bx by') : ∃ m n, Wt px py ax ay bx by' m n := by
  obtain ⟨h1, h2, h3, h4, h5⟩ := h
  unfold crs at h1
  by_cases hx : bx = ax
  · subst hx
    have ex : px = bx := by omega
    subst ex
    by_cases hy : by' = ay
    · subst hy
      have ey : py = by' := by omega
      subst ey
      exact ⟨1, 0, by omega, by omega, by omega, by omega, by omega⟩
    · rcases Int.lt_or_le by' ay with h | h
      · exact ⟨ay - by', ay - py, by omega, by omega, by omega, by grind, by grind⟩
      · exact ⟨by' - ay, py - ay, by omega, by omega, by omega, by grind, by grind⟩
  · rcases Int.lt_or_le bx ax with h | h
    · exact ⟨ax - bx, ax - px, by omega, by omega, by omega, by grind, by grind⟩
    · exact ⟨bx - ax, px - ax, by omega, by omega, by omega, by grind, by grind⟩
/-! ### Near -/
/-- The square of the distance is at most that of the place that divides the segment as n to m - n. -/
theorem near_wt {px py ax ay bx by' m n : Int} (hm : 0 < m) (h0 : 0 ≤ n) (h1 : n ≤ m) :
    m * m * (sqNum px py ax ay bx by' * sqFac px py ax ay bx by') ≤ ((m * (px - ax) - n * (bx - ax)) * (m * (px - ax) - n * (bx - ax)) + (m * (py - ay) - n * (by' - ay)) * (m * (py - ay) - n * (by' - ay))) * sqDen px py ax ay bx by' := by
  obtain ⟨vx, hvx⟩ : ∃ v, v = bx - ax := ⟨_, rfl⟩
  obtain ⟨vy, hvy⟩ : ∃ v, v = by' - ay := ⟨_, rfl⟩
  obtain ⟨wx, hwx⟩ : ∃ v, v = px - ax := ⟨_, rfl⟩
  obtain ⟨wy, hwy⟩ : ∃ v, v = py - ay := ⟨_, rfl⟩
  have ux : px - bx = wx - vx := by omega
  have uy : py - by' = wy - vy := by omega
  unfold sqNum sqFac sqDen foot sqd crs
  rw [ux, uy, ← hvx, ← hvy, ← hwx, ← hwy]
  clear ux uy hvx hvy hwx hwy
  have hL : 0 ≤ vx * vx + vy * vy := by have := sq_nn' vx; have := sq_nn' vy; omega
  obtain ⟨F, hF⟩ : ∃ F, F = vx * wx + vy * wy := ⟨_, rfl⟩
  obtain ⟨L, hLe⟩ : ∃ L, L = vx * vx + vy * vy := ⟨_, rfl⟩
  rw [← hF, ← hLe]
  rw [← hLe] at hL
  have N : (m * wx - n * vx) * (m * wx - n * vx) + (m * wy - n * vy) * (m * wy - n * vy) = m * m * (wx * wx + wy * wy) - 2 * (m * n * F) + n * n * L := by rw [hF, hLe]; grind
  rw [N]
  by_cases t1 : F ≤ 0
  · simp only [t1, if_true]
    have e1 : 0 ≤ n * n * L := Int.mul_nonneg (Int.mul_nonneg h0 h0) hL
    have e2 : m * n * F ≤ 0 := Int.mul_nonpos_of_nonneg_of_nonpos (Int.mul_nonneg (by omega) h0) t1
    have e3 : m * m * ((wx * wx + wy * wy) * 1) = m * m * (wx * wx + wy * wy) := by grind
    omega
  · by_cases t2 : L ≤ F
    · simp only [t1, t2, if_true, if_false]
      have e1 : (wx - vx) * (wx - vx) + (wy - vy) * (wy - vy) = (wx * wx + wy * wy) - 2 * F + L := by rw [hF, hLe]; grind
      rw [e1]
      have e2 : 0 ≤ (m - n) * (2 * m * F - (m + n) * L) := by
        refine Int.mul_nonneg (by omega) ?_
        have e3 : 2 * m * L ≤ 2 * m * F := Int.mul_le_mul_of_nonneg_left t2 (by omega)
        have e4 : (m + n) * L ≤ 2 * m * L := Int.mul_le_mul_of_nonneg_right (by omega) hL
        omega
      have e5 : m * m * (wx * wx + wy * wy) - 2 * (m * n * F) + n * n * L - m * m * ((wx * wx + wy * wy) - 2 * F + L) = (m - n) * (2 * m * F - (m + n) * L) := by grind
      have e6 : m * m * ((wx * wx + wy * wy - 2 * F + L) * 1) = m * m * (wx * wx + wy * wy - 2 * F + L) := by grind
      omega
    · simp only [t1, t2, if_false]
      obtain ⟨C, hC⟩ : ∃ C, C = vx * wy - vy * wx := ⟨_, rfl⟩
      rw [← hC]
      have e1 : max C (-C) * max C (-C) = C * C := by
        rcases Int.le_total 0 C with h | h
        · rw [show max C (-C) = C by omega]
        · rw [show max C (-C) = -C by omega]; grind
      rw [e1]
      have e2 : L * (wx * wx + wy * wy) = F * F + C * C := by rw [hLe, hF, hC]; grind
      have e3 := sq_nn' (m * F - n * L)
      have e4 : (m * m * (wx * wx + wy * wy) - 2 * (m * n * F) + n * n * L) * L = m * m * (C * C) + (m * F - n * L) * (m * F - n * L) := by grind
      omega
theorem sqDen_pos (px py ax ay bx by' : Int) : 1 ≤ sqDen px py ax ay bx by' := by
  unfold sqDen
  split
  · omega
  · split
    · omega
    · rename_i h1 h2
      have := sqd_nn ax ay bx by'
      omega
theorem nn_lt {a b c : Int} (h : 0 < a) (hb : a * b ≤ a * c) : b ≤ c := Int.le_of_mul_le_mul_left hb h
theorem near_of_wt {px py ax ay bx by' m n r : Int} (hm : 0 < m) (h0 : 0 ≤ n) (h1 : n ≤ m)
    (h : (m * (px - ax) - n * (bx - ax)) * (m * (px - ax) - n * (bx - ax)) + (m * (py - ay) - n * (by' - ay)) * (m * (py - ay) - n * (by' - ay)) ≤ m * m * (r * r)) : nearB px py ax ay bx by' r = true := by
  have k := near_wt (px := px) (py := py) (ax := ax) (ay := ay) (bx := bx) (by' := by') hm h0 h1
  have d := sqDen_pos px py ax ay bx by'
  have e := Int.mul_le_mul_of_nonneg_right h (show 0 ≤ sqDen px py ax ay bx by' by omega)
  have f : m * m * (r * r) * sqDen px py ax ay bx by' = m * m * (r * r * sqDen px py ax ay bx by') := by grind
  rw [f] at e
  have g := nn_lt (Int.mul_pos hm hm) (Int.le_trans k e)
  simpa [nearB] using g
theorem near_of_on {px py qx qy ax ay bx by' r : Int} (hr : sqd px py qx qy ≤ r * r) (h : OnS qx qy ax ay bx by') : nearB px py ax ay bx by' r = true := by
  obtain ⟨m, n, hm, h0, h1, h2, h3⟩ := wt_of_on h
  refine near_of_wt hm h0 h1 ?_
  have e : (m * (px - ax) - n * (bx - ax)) * (m * (px - ax) - n * (bx - ax)) + (m * (py - ay) - n * (by' - ay)) * (m * (py - ay) - n * (by' - ay)) = m * m * sqd px py qx qy := by
    rw [← h2, ← h3]; unfold sqd; grind
  rw [e]
  exact Int.mul_le_mul_of_nonneg_left hr (Int.le_of_lt (Int.mul_pos hm hm))
theorem near_mono {px py ax ay bx by' r s : Int} (h0 : 0 ≤ r) (h : r ≤ s) (hn : nearB px py ax ay bx by' r = true) : nearB px py ax ay bx by' s = true := by
  have d := sqDen_pos px py ax ay bx by'
  simp only [nearB, decide_eq_true_eq] at hn ⊢
  exact Int.le_trans hn (Int.mul_le_mul_of_nonneg_right (sq_le_sq h0 h) (by omega))
theorem near_point (px py ax ay r : Int) : nearB px py ax ay ax ay r = decide (sqd ax ay px py ≤ r * r) := by
  have e : foot px py ax ay ax ay = 0 := by unfold foot; grind
  simp [nearB, sqNum, sqFac, sqDen, e]
theorem sq_zero {a : Int} (h : a * a ≤ 0) : a = 0 := by
  have := sq_nn' a
  have h0 : a * a = 0 := by omega
  rcases Int.mul_eq_zero.1 h0 with h | h <;> exact h
theorem near_zero (px py ax ay bx by' : Int) : nearB px py ax ay bx by' 0 = onB px py ax ay bx by' := by
  rw [Bool.eq_iff_iff]
  constructor
  · intro h
    simp only [nearB, onB, decide_eq_true_eq] at h ⊢
    unfold sqNum sqFac sqDen at h
    by_cases t1 : foot px py ax ay bx by' ≤ 0
    · simp only [t1, if_true] at h
      unfold sqd at h
      have h1 := sq_nn' (px - ax)
      have h2 := sq_nn' (py - ay)
      have e1 := sq_zero (a := px - ax) (by omega)
      have e2 := sq_zero (a := py - ay) (by omega)
      exact on_of_wt (m := 1) (n := 0) ⟨by omega, by omega, by omega, by omega, by omega⟩
    · by_cases t2 : sqd ax ay bx by' ≤ foot px py ax ay bx by'
      · simp only [t1, t2, if_true, if_false] at h
        unfold sqd at h
        have h1 := sq_nn' (px - bx)
        have h2 := sq_nn' (py - by')
        have e1 := sq_zero (a := px - bx) (by omega)
        have e2 := sq_zero (a := py - by') (by omega)
        exact on_of_wt (m := 1) (n := 1) ⟨by omega, by omega, by omega, by omega, by omega⟩
      · simp only [t1, t2, if_false] at h
        have e0 : crs ax ay bx by' px py = 0 := by
          have := sq_zero (a := max (crs ax ay bx by' px py) (-crs ax ay bx by' px py)) (by omega)
          omega
        refine on_of_wt (m := sqd ax ay bx by') (n := foot px py ax ay bx by') ⟨by omega, by omega, by omega, ?_, ?_⟩
        · unfold crs at e0; unfold sqd foot; grind
        · unfold crs at e0; unfold sqd foot; grind
  · intro h
    simp only [onB, decide_eq_true_eq] at h
    refine near_of_on (qx := px) (qy := py) ?_ h
    unfold sqd; grind
theorem foot_rev (px py ax ay bx by' : Int) : foot px py bx by' ax ay = sqd ax ay bx by' - foot px py ax ay bx by' := by unfold foot sqd; grind
/-- The square of the distance does not depend on the order of the ends. -/
theorem near_rev (px py ax ay bx by' r : Int) : nearB px py bx by' ax ay r = nearB px py ax ay bx by' r := by
  have c : crs bx by' ax ay px py = -crs ax ay bx by' px py := crs_swap _ _ _ _ _ _
  have m : max (-crs ax ay bx by' px py) (- -crs ax ay bx by' px py) = max (crs ax ay bx by' px py) (-crs ax ay bx by' px py) := by omega
  unfold nearB sqNum sqFac sqDen
  rw [foot_rev, c, sqd_comm ax ay bx by', m]
  have hL := sqd_nn ax ay bx by'
  have zero : sqd ax ay bx by' = 0 → ax = bx ∧ ay = by' := fun h => by
    unfold sqd at h
    have h1 := sq_nn' (bx - ax)
    have h2 := sq_nn' (by' - ay)
    have e1 := sq_zero (a := bx - ax) (by omega)
    have e2 := sq_zero (a := by' - ay) (by omega)
    omega
  generalize foot px py ax ay bx by' = F at *
  generalize crs ax ay bx by' px py = C at *
  by_cases t1 : F ≤ 0
  · by_cases t2 : sqd ax ay bx by' ≤ F
    · obtain ⟨e1, e2⟩ := zero (by omega)
      subst e1 e2
      have t3 : sqd ax ay ax ay - F ≤ 0 := by omega
      simp only [t1, t3, if_true]
    · have t3 : ¬ sqd ax ay bx by' - F ≤ 0 := by omega
      have t4 : sqd ax ay bx by' ≤ sqd ax ay bx by' - F := by omega
      simp only [t1, t3, t4, if_true, if_false]
  · by_cases t2 : sqd ax ay bx by' ≤ F
    · have t3 : sqd ax ay bx by' - F ≤ 0 := by omega
      simp only [t1, t2, t3, if_true, if_false]
    · have t3 : ¬ sqd ax ay bx by' - F ≤ 0 := by omega
      have t4 : ¬ sqd ax ay bx by' ≤ sqd ax ay bx by' - F := by omega
      simp only [t1, t2, t3, t4, if_false]
end Go.Proofs.Ytcpnkhiillgffaa
