/- HullMath, HullMath2, HullMath3, CoverMath, TrPure, TrMath, TrNum: joined. -/
import Derived.Test.YtmhgcmcifdclmaaGreatKB
import Derived.Test.YtmhgcmcifdclmaaGreatShtPure
import Derived.Test.YtmhgcmcifdclmaaGreatShtMath
import Derived.Test.YtmhgcmcifdclmaaGreatPatPure
/- Plain geometry for chapter 20: half planes and parity, convex polygons, hulls. -/
namespace Go.Proofs.YtmhgcmcifdclmaaGreat
set_option linter.unusedVariables false
theorem crs_ring (ax ay bx by' px py u v c : Int) : (by' - py) * (u * ax + v * ay + c) + (py - ay) * (u * bx + v * by' + c) = (by' - ay) * (u * px + v * py + c) + u * crs ax ay bx by' px py := by
  unfold crs
  grind
theorem mul_nn {a b : Int} (h : 0 ≤ a) (k : 0 ≤ b) : 0 ≤ a * b := Int.mul_nonneg h k
/-- An affine form that is not negative at both ends of a segment is not negative on it. -/
theorem form_on {ax ay bx by' px py u v c : Int} (h : OnS px py ax ay bx by') (ha : 0 ≤ u * ax + v * ay + c) (hb : 0 ≤ u * bx + v * by' + c) : 0 ≤ u * px + v * py + c := by
  obtain ⟨h0, h1, h2, h3, h4⟩ := h
  by_cases hy : ay = by'
  · by_cases hx : ax = bx
    · have e1 : px = ax := by omega
      have e2 : py = ay := by omega
      rw [e1, e2]
      exact ha
    · have e2 : py = ay := by omega
      have key : (bx - ax) * (u * px + v * py + c) = (bx - px) * (u * ax + v * ay + c) + (px - ax) * (u * bx + v * by' + c) := by
        subst hy e2
        grind
      rcases Int.lt_or_gt_of_ne hx with hx | hx
      · have k1 := mul_nn (show 0 ≤ bx - px by omega) ha
        have k2 := mul_nn (show 0 ≤ px - ax by omega) hb
        exact Int.nonneg_of_mul_nonneg_right (by omega : 0 ≤ (bx - ax) * (u * px + v * py + c)) (by omega)
      · have k1 := mul_nn (show 0 ≤ px - bx by omega) ha
        have k2 := mul_nn (show 0 ≤ ax - px by omega) hb
        have e : (ax - bx) * (u * px + v * py + c) = (px - bx) * (u * ax + v * ay + c) + (ax - px) * (u * bx + v * by' + c) := by
          have : (ax - bx) * (u * px + v * py + c) = -((bx - ax) * (u * px + v * py + c)) := by grind
          rw [this, key]
          grind
        exact Int.nonneg_of_mul_nonneg_right (by omega : 0 ≤ (ax - bx) * (u * px + v * py + c)) (by omega)
  · have key := crs_ring ax ay bx by' px py u v c
    rw [h0, Int.mul_zero, Int.add_zero] at key
    rcases Int.lt_or_gt_of_ne hy with hy | hy
    · have k1 := mul_nn (show 0 ≤ by' - py by omega) ha
      have k2 := mul_nn (show 0 ≤ py - ay by omega) hb
      exact Int.nonneg_of_mul_nonneg_right (by omega : 0 ≤ (by' - ay) * (u * px + v * py + c)) (by omega)
    · have k1 := mul_nn (show 0 ≤ py - by' by omega) ha
      have k2 := mul_nn (show 0 ≤ ay - py by omega) hb
      have e : (ay - by') * (u * px + v * py + c) = (py - by') * (u * ax + v * ay + c) + (ay - py) * (u * bx + v * by' + c) := by
        have : (ay - by') * (u * px + v * py + c) = -((by' - ay) * (u * px + v * py + c)) := by grind
        rw [this, ← key]
        grind
      exact Int.nonneg_of_mul_nonneg_right (by omega : 0 ≤ (ay - by') * (u * px + v * py + c)) (by omega)
/-- Parities. -/
theorem odd_none {B : Nat → Bool} : ∀ {n : Nat}, (∀ i, i < n → B i = false) → oddN B n = false
  | 0, _ => rfl
  | n + 1, h => by
    unfold oddN
    rw [h n (by omega), odd_none (n := n) fun i hi => h i (by omega)]
    rfl
theorem odd_congr {B C : Nat → Bool} : ∀ {n : Nat}, (∀ i, i < n → B i = C i) → oddN B n = oddN C n
  | 0, _ => rfl
  | n + 1, h => by
    unfold oddN
    rw [h n (by omega), odd_congr (n := n) fun i hi => h i (by omega)]
theorem odd_tele (s : Nat → Bool) : ∀ n, oddN (fun i => s i != s (i + 1)) n = (s 0 != s n)
  | 0 => by simp [oddN]
  | n + 1 => by
    unfold oddN
    rw [odd_tele s n]
    cases s 0 <;> cases s n <;> cases s (n + 1) <;> rfl
theorem form_goes {ax ay bx by' qx qy u v c : Int} (ha : 0 ≤ u * ax + v * ay + c) (hb : 0 ≤ u * bx + v * by' + c) (hq : u * qx + v * qy + c < 0) (h1 : ay ≤ qy) (h2 : qy < by') : 0 < u * crs ax ay bx by' qx qy := by
  have key := crs_ring ax ay bx by' qx qy u v c
  have k1 := mul_nn (show 0 ≤ by' - qy by omega) ha
  have k2 := mul_nn (show 0 ≤ qy - ay by omega) hb
  have k3 : (by' - ay) * (u * qx + v * qy + c) < 0 := Int.mul_neg_of_pos_of_neg (by omega) hq
  omega
theorem goes_low {ax ay bx by' qx qy u v c : Int} (ha : 0 ≤ u * ax + v * ay + c) (hb : 0 ≤ u * bx + v * by' + c) (hq : u * qx + v * qy + c < 0) : goesB ax ay bx by' qx qy = if 0 < u then (decide (ay ≤ qy) != decide (by' ≤ qy)) else false := by
  unfold goesB
  by_cases hu : 0 < u
  · rw [if_pos hu]
    split
    · next h =>
      by_cases h1 : by' ≤ qy ∧ qy < ay
      · have := form_goes hb ha hq h1.1 h1.2
        have hc : 0 < crs bx by' ax ay qx qy := Int.pos_of_mul_pos_right this (by omega)
        simp [h1.1, h1.2, Int.sign_eq_one_of_pos hc]
      · have e : (decide (ay ≤ qy) != decide (by' ≤ qy)) = false := by
          by_cases k : by' ≤ qy
          · have : ay ≤ qy := by omega
            simp [k, this]
          · have : ¬ ay ≤ qy := by omega
            simp [k, this]
        rw [e]
        exact decide_eq_false fun k => h1 ⟨k.1, k.2.1⟩
    · next h =>
      by_cases h1 : ay ≤ qy ∧ qy < by'
      · have := form_goes ha hb hq h1.1 h1.2
        have hc : 0 < crs ax ay bx by' qx qy := Int.pos_of_mul_pos_right this (by omega)
        simp [h1.1, h1.2, Int.sign_eq_one_of_pos hc]
      · have e : (decide (ay ≤ qy) != decide (by' ≤ qy)) = false := by
          by_cases k : ay ≤ qy
          · have : by' ≤ qy := by omega
            simp [k, this]
          · have : ¬ by' ≤ qy := by omega
            simp [k, this]
        rw [e]
        exact decide_eq_false fun k => h1 ⟨k.1, k.2.1⟩
  · rw [if_neg hu]
    have nn : ∀ z : Int, 0 < u * z → ¬ 0 < z.sign := fun z hz hs => by
      have hp : 0 < z := Int.sign_pos_iff.1 hs
      have : u * z ≤ 0 := Int.mul_nonpos_of_nonpos_of_nonneg (by omega) (by omega)
      omega
    split
    · exact decide_eq_false fun k => nn _ (form_goes hb ha hq k.1 k.2.1) k.2.2
    · exact decide_eq_false fun k => nn _ (form_goes ha hb hq k.1 k.2.1) k.2.2
/-- A place of a polygon lies in each half plane that has all corners. -/
theorem place_form {n : Nat} {X : Nat → Nat → Int} {qx qy u v c : Int} (h : ∀ i, i < n → 0 ≤ u * X i 0 + v * X i 1 + c) (hp : 0 ≤ placeI n X qx qy) : 0 ≤ u * qx + v * qy + c := by
  refine Classical.byContradiction fun hq => ?_
  have hq : u * qx + v * qy + c < 0 := by omega
  have hany : anyN (onX n X qx qy) n = false := by
    refine decide_eq_false fun ⟨i, hi, hon⟩ => ?_
    have := form_on (of_decide_eq_true hon) (h i hi) (h (nxt n i) (nxt_lt (by omega)))
    omega
  have hg : ∀ i, i < n → goesX n X qx qy i = if 0 < u then (decide (X i 1 ≤ qy) != decide (X (nxt n i) 1 ≤ qy)) else false := fun i hi => goes_low (h i hi) (h (nxt n i) (nxt_lt (by omega))) hq
  have hodd : oddN (goesX n X qx qy) n = false := by
    by_cases hu : 0 < u
    · have e := odd_tele (fun i => decide (X (i % n) 1 ≤ qy)) n
      rw [Nat.mod_self, Nat.zero_mod, bne_self_eq_false] at e
      rw [← e]
      refine odd_congr fun i hi => ?_
      rw [hg i hi, if_pos hu, Nat.mod_eq_of_lt hi]
      rfl
    · exact odd_none fun i hi => by rw [hg i hi, if_neg hu]
  unfold placeI at hp
  rw [hany, hodd] at hp
  simp at hp
/-- A parity of one. -/
theorem odd_one {B : Nat → Bool} : ∀ {n i : Nat}, i < n → B i = true → (∀ k, k < n → B k = true → k = i) → oddN B n = true
  | 0, i, hi, _, _ => absurd hi (Nat.not_lt_zero _)
  | n + 1, i, hi, hB, hu => by
    unfold oddN
    rcases Nat.lt_or_ge i n with h | h
    · have hn : B n = false := by
        cases e : B n
        · rfl
        · have := hu n (by omega) e; omega
      rw [hn, odd_one (n := n) h hB fun k hk => hu k (by omega)]
      rfl
    · obtain rfl : i = n := by omega
      rw [hB, odd_none (n := i) fun k hk => by
        cases e : B k
        · rfl
        · have := hu k (by omega) e; omega]
      rfl
/-- Two edges that rise over a height, each with the other on its left: they have a common point. -/
theorem rise_two {ax ay bx by' cx cy dx dy h : Int} (a1 : ay ≤ h) (b1 : h < by') (c1 : cy ≤ h) (d1 : h < dy) (f1 : 0 ≤ crs ax ay bx by' cx cy) (f2 : 0 ≤ crs ax ay bx by' dx dy) (g1 : 0 ≤ crs cx cy dx dy ax ay) (g2 : 0 ≤ crs cx cy dx dy bx by') : meetB ax ay bx by' cx cy dx dy = true := by
  have key : crs ax ay bx by' cx cy * (dy - h) + crs ax ay bx by' dx dy * (h - cy) + crs cx cy dx dy ax ay * (by' - h) + crs cx cy dx dy bx by' * (h - ay) = 0 := by
    unfold crs
    grind
  have k1 := mul_nn f1 (show 0 ≤ dy - h by omega)
  have k2 := mul_nn f2 (show 0 ≤ h - cy by omega)
  have k3 := mul_nn g1 (show 0 ≤ by' - h by omega)
  have k4 := mul_nn g2 (show 0 ≤ h - ay by omega)
  have e1 : crs ax ay bx by' cx cy = 0 := by
    rcases Int.mul_eq_zero.1 (show crs ax ay bx by' cx cy * (dy - h) = 0 by omega) with h | h
    · exact h
    · omega
  have e2 : crs cx cy dx dy ax ay = 0 := by
    rcases Int.mul_eq_zero.1 (show crs cx cy dx dy ax ay * (by' - h) = 0 by omega) with h | h
    · exact h
    · omega
  -- x between, by the height between
  have mid : ∀ {px py qx qy rx ry : Int}, py ≤ ry → ry < qy → crs px py qx qy rx ry = 0 → OnS rx ry px py qx qy := by
    intro px py qx qy rx ry h1 h2 h0
    refine ⟨h0, ?_, ?_, by omega, by omega⟩
    · have e : (qy - py) * (rx - px) = (qx - px) * (ry - py) := by unfold crs at h0; grind
      have e' : (qy - py) * (rx - qx) = (px - qx) * (qy - ry) := by unfold crs at h0; grind
      rcases Int.le_total px qx with hx | hx
      · have := mul_nn (show 0 ≤ qx - px by omega) (show 0 ≤ ry - py by omega)
        have := Int.nonneg_of_mul_nonneg_right (show 0 ≤ (qy - py) * (rx - px) by omega) (by omega)
        omega
      · have := mul_nn (show 0 ≤ px - qx by omega) (show 0 ≤ qy - ry by omega)
        have := Int.nonneg_of_mul_nonneg_right (show 0 ≤ (qy - py) * (rx - qx) by omega) (by omega)
        omega
    · have e : (qy - py) * (qx - rx) = (qx - px) * (qy - ry) := by unfold crs at h0; grind
      have e' : (qy - py) * (px - rx) = (px - qx) * (ry - py) := by unfold crs at h0; grind
      rcases Int.le_total px qx with hx | hx
      · have := mul_nn (show 0 ≤ qx - px by omega) (show 0 ≤ qy - ry by omega)
        have := Int.nonneg_of_mul_nonneg_right (show 0 ≤ (qy - py) * (qx - rx) by omega) (by omega)
        omega
      · have := mul_nn (show 0 ≤ px - qx by omega) (show 0 ≤ ry - py by omega)
        have := Int.nonneg_of_mul_nonneg_right (show 0 ≤ (qy - py) * (px - rx) by omega) (by omega)
        omega
  unfold meetB
  rcases Int.le_total ay cy with hy | hy
  · have : onB cx cy ax ay bx by' = true := decide_eq_true (mid hy (by omega) e1)
    simp [this]
  · have : onB ax ay cx cy dx dy = true := decide_eq_true (mid hy (by omega) e2)
    simp [this]
theorem goes_left {ax ay bx by' qx qy : Int} (h : 0 ≤ crs ax ay bx by' qx qy) (hon : onB qx qy ax ay bx by' = false) : goesB ax ay bx by' qx qy = decide (ay ≤ qy ∧ qy < by') := by
  unfold goesB
  split
  · next hlt =>
    have e : crs bx by' ax ay qx qy = - crs ax ay bx by' qx qy := by unfold crs; grind
    rw [show decide (ay ≤ qy ∧ qy < by') = false from decide_eq_false fun k => by omega]
    refine decide_eq_false fun k => ?_
    have := Int.sign_pos_iff.1 k.2.2
    omega
  · next hlt =>
    by_cases k : ay ≤ qy ∧ qy < by'
    · have h0 : 0 < crs ax ay bx by' qx qy := by
        rcases Int.lt_or_eq_of_le h with h | h
        · exact h
        · exfalso
          have h0 := h.symm
          have : OnS qx qy ax ay bx by' := by
            have e : (by' - ay) * (qx - ax) = (bx - ax) * (qy - ay) := by unfold crs at h0; grind
            have e2 : (by' - ay) * (bx - qx) = (bx - ax) * (by' - qy) := by unfold crs at h0; grind
            have e3 : (by' - ay) * (qx - bx) = (ax - bx) * (by' - qy) := by unfold crs at h0; grind
            have e4 : (by' - ay) * (ax - qx) = (ax - bx) * (qy - ay) := by unfold crs at h0; grind
            rcases Int.le_total ax bx with hx | hx
            · have := mul_nn (show 0 ≤ bx - ax by omega) (show 0 ≤ qy - ay by omega)
              have := Int.nonneg_of_mul_nonneg_right (show 0 ≤ (by' - ay) * (qx - ax) by omega) (by omega)
              have := mul_nn (show 0 ≤ bx - ax by omega) (show 0 ≤ by' - qy by omega)
              have := Int.nonneg_of_mul_nonneg_right (show 0 ≤ (by' - ay) * (bx - qx) by omega) (by omega)
              exact ⟨h0, by omega, by omega, by omega, by omega⟩
            · have := mul_nn (show 0 ≤ ax - bx by omega) (show 0 ≤ qy - ay by omega)
              have := Int.nonneg_of_mul_nonneg_right (show 0 ≤ (by' - ay) * (ax - qx) by omega) (by omega)
              have := mul_nn (show 0 ≤ ax - bx by omega) (show 0 ≤ by' - qy by omega)
              have := Int.nonneg_of_mul_nonneg_right (show 0 ≤ (by' - ay) * (qx - bx) by omega) (by omega)
              exact ⟨h0, by omega, by omega, by omega, by omega⟩
          rw [show onB qx qy ax ay bx by' = true from decide_eq_true this] at hon
          cases hon
      rw [decide_eq_true k]
      exact decide_eq_true ⟨k.1, k.2, by rw [Int.sign_eq_one_of_pos h0]; omega⟩
    · rw [decide_eq_false k]
      exact decide_eq_false fun k2 => k ⟨k2.1, k2.2.1⟩
theorem nxt_prv {n i : Nat} (hi : i < n) : nxt n (prv n i) = i := by
  unfold nxt prv
  rcases Nat.eq_zero_or_pos i with h | h
  · subst h
    rw [show 0 + n - 1 = n - 1 by omega, Nat.mod_eq_of_lt (by omega : n - 1 < n), show n - 1 + 1 = n by omega, Nat.mod_self]
  · rw [show i + n - 1 = (i - 1) + n by omega, Nat.add_mod_right, Nat.mod_eq_of_lt (by omega : i - 1 < n), show i - 1 + 1 = i by omega, Nat.mod_eq_of_lt hi]
theorem prv_nxt {n i : Nat} (hi : i < n) : prv n (nxt n i) = i := by
  unfold nxt prv
  rcases Nat.lt_or_ge (i + 1) n with h | h
  · rw [Nat.mod_eq_of_lt h, show i + 1 + n - 1 = i + n by omega, Nat.add_mod_right, Nat.mod_eq_of_lt hi]
  · obtain rfl : n = i + 1 := by omega
    rw [Nat.mod_self, show 0 + (i + 1) - 1 = i by omega, Nat.mod_eq_of_lt hi]
theorem vert_id (px py jx jy nx ny qx qy : Int) : crs px py jx jy nx ny * (qy - jy) = crs px py jx jy qx qy * (ny - jy) + crs jx jy nx ny qx qy * (py - jy) ∧ crs px py jx jy nx ny * (qx - jx) = crs px py jx jy qx qy * (nx - jx) + crs jx jy nx ny qx qy * (px - jx) := by
  unfold crs
  constructor <;> grind
theorem arg_min (f : Nat → Int) : ∀ {n : Nat}, 0 < n → ∃ j, j < n ∧ ∀ i, i < n → f j ≤ f i
  | 0, h => absurd h (Nat.lt_irrefl _)
  | 1, _ => ⟨0, by omega, fun i hi => by
      obtain rfl : i = 0 := by omega
      exact Int.le_refl _⟩
  | n + 2, _ => by
    obtain ⟨j, hj, h⟩ := arg_min f (n := n + 1) (by omega)
    rcases Int.le_total (f j) (f (n + 1)) with k | k
    · exact ⟨j, by omega, fun i hi => by
        rcases Nat.lt_or_ge i (n + 1) with h1 | h1
        · exact h i h1
        · obtain rfl : i = n + 1 := by omega
          exact k⟩
    · exact ⟨n + 1, by omega, fun i hi => by
        rcases Nat.lt_or_ge i (n + 1) with h1 | h1
        · have := h i h1; omega
        · obtain rfl : i = n + 1 := by omega
          exact Int.le_refl _⟩
/-- A polygon with all corners on the left of each edge, or on it. -/
def ConvX (n : Nat) (X : Nat → Nat → Int) : Prop := ∀ i, i < n → ∀ k, k < n → 0 ≤ crs (X i 0) (X i 1) (X (nxt n i) 0) (X (nxt n i) 1) (X k 0) (X k 1)
def LeftX (n : Nat) (X : Nat → Nat → Int) (qx qy : Int) : Prop := ∀ i, i < n → 0 ≤ crs (X i 0) (X i 1) (X (nxt n i) 0) (X (nxt n i) 1) qx qy
theorem corner_turn {n : Nat} {X : Nat → Nat → Int} (hn : 0 < n) (hc : ConvX n X) (ht : ∀ i, i < n → turnX X (prv n i) i (nxt n i) ≠ 0) {j : Nat} (hj : j < n) : 0 < crs (X (prv n j) 0) (X (prv n j) 1) (X j 0) (X j 1) (X (nxt n j) 0) (X (nxt n j) 1) := by
  have h1 := hc (prv n j) (prv_lt hj) (nxt n j) (nxt_lt hj)
  rw [nxt_prv hj] at h1
  have h2 := ht j hj
  unfold turnX at h2
  rcases Int.lt_or_eq_of_le h1 with h | h
  · exact h
  · rw [← h] at h2
    exact absurd rfl h2
theorem left_at {n : Nat} {X : Nat → Nat → Int} {qx qy : Int} (hn : 0 < n) (hl : LeftX n X qx qy) {j : Nat} (hj : j < n) : 0 ≤ crs (X (prv n j) 0) (X (prv n j) 1) (X j 0) (X j 1) qx qy := by
  have h1 := hl (prv n j) (prv_lt hj)
  rwa [nxt_prv hj] at h1
theorem conv_low {n : Nat} {X : Nat → Nat → Int} {qx qy : Int} (hn : 0 < n) (hc : ConvX n X) (ht : ∀ i, i < n → turnX X (prv n i) i (nxt n i) ≠ 0) (hl : LeftX n X qx qy) : ∃ i, i < n ∧ X i 1 ≤ qy := by
  obtain ⟨j, hj, hm⟩ := arg_min (fun i => X i 1) hn
  refine ⟨j, hj, ?_⟩
  have hT := corner_turn hn hc ht hj
  have hp := hm _ (prv_lt hj)
  have hx := hm _ (nxt_lt hj)
  have key := (vert_id (X (prv n j) 0) (X (prv n j) 1) (X j 0) (X j 1) (X (nxt n j) 0) (X (nxt n j) 1) qx qy).1
  have k1 := mul_nn (left_at hn hl hj) (show 0 ≤ X (nxt n j) 1 - X j 1 by omega)
  have k2 := mul_nn (hl j hj) (show 0 ≤ X (prv n j) 1 - X j 1 by omega)
  have := Int.nonneg_of_mul_nonneg_right (show 0 ≤ crs (X (prv n j) 0) (X (prv n j) 1) (X j 0) (X j 1) (X (nxt n j) 0) (X (nxt n j) 1) * (qy - X j 1) by omega) hT
  omega
theorem conv_high {n : Nat} {X : Nat → Nat → Int} {qx qy : Int} (hn : 0 < n) (hc : ConvX n X) (ht : ∀ i, i < n → turnX X (prv n i) i (nxt n i) ≠ 0) (hl : LeftX n X qx qy) (hon : ∀ i, i < n → onX n X qx qy i = false) : ∃ i, i < n ∧ qy < X i 1 := by
  refine Classical.byContradiction fun hno => ?_
  have hall : ∀ i, i < n → X i 1 ≤ qy := fun i hi => Int.not_lt.1 fun h => hno ⟨i, hi, h⟩
  obtain ⟨j, hj, hm⟩ := arg_min (fun i => -X i 1) hn
  have hm : ∀ i, i < n → X i 1 ≤ X j 1 := fun i hi => by have := hm i hi; omega
  have noOn : ∀ {i}, i < n → ¬ OnS qx qy (X i 0) (X i 1) (X (nxt n i) 0) (X (nxt n i) 1) := fun {i} hi h => by
    have h1 := hon i hi
    unfold onX onB at h1
    exact of_decide_eq_false h1 h
  -- at each highest corner the place is at its height; and it is beyond it in no direction
  have at_top : ∀ {j}, j < n → (∀ i, i < n → X i 1 ≤ X j 1) → qy = X j 1 ∧ crs (X (prv n j) 0) (X (prv n j) 1) (X j 0) (X j 1) qx qy * (X (nxt n j) 1 - X j 1) = 0 ∧ crs (X j 0) (X j 1) (X (nxt n j) 0) (X (nxt n j) 1) qx qy * (X (prv n j) 1 - X j 1) = 0 := by
    intro j hj hm
    have hT := corner_turn hn hc ht hj
    have hp := hm _ (prv_lt hj)
    have hx := hm _ (nxt_lt hj)
    have key := (vert_id (X (prv n j) 0) (X (prv n j) 1) (X j 0) (X j 1) (X (nxt n j) 0) (X (nxt n j) 1) qx qy).1
    have k1 := mul_nn (left_at hn hl hj) (show 0 ≤ X j 1 - X (nxt n j) 1 by omega)
    have k2 := mul_nn (hl j hj) (show 0 ≤ X j 1 - X (prv n j) 1 by omega)
    have e1 : ∀ a b c : Int, a * (b - c) = -(a * (c - b)) := fun a b c => by grind
    rw [e1 (crs (X (prv n j) 0) (X (prv n j) 1) (X j 0) (X j 1) qx qy) (X (nxt n j) 1), e1 (crs (X j 0) (X j 1) (X (nxt n j) 0) (X (nxt n j) 1) qx qy) (X (prv n j) 1)] at key ⊢
    have hq : qy = X j 1 := by
      rcases Int.lt_or_eq_of_le (hall j hj) with h | h
      · have := Int.mul_pos hT (show 0 < qy - X j 1 by omega)
        omega
      · exact h.symm
    have h0 : qy - X j 1 = 0 := by omega
    rw [h0, Int.mul_zero] at key
    refine ⟨hq, ?_, ?_⟩ <;> omega
  obtain ⟨hq, z1, z2⟩ := at_top hj hm
  have hT := corner_turn hn hc ht hj
  have kx := (vert_id (X (prv n j) 0) (X (prv n j) 1) (X j 0) (X j 1) (X (nxt n j) 0) (X (nxt n j) 1) qx qy).2
  by_cases hN : X (nxt n j) 1 = X j 1
  · -- the edge behind j is the top
    have hP : X (prv n j) 1 ≠ X j 1 := fun e => by
      have : crs (X (prv n j) 0) (X (prv n j) 1) (X j 0) (X j 1) (X (nxt n j) 0) (X (nxt n j) 1) = 0 := by unfold crs; rw [e, hN]; grind
      omega
    have c2 : crs (X j 0) (X j 1) (X (nxt n j) 0) (X (nxt n j) 1) qx qy = 0 := by
      rcases Int.mul_eq_zero.1 z2 with h | h
      · exact h
      · omega
    rw [c2, Int.zero_mul, Int.add_zero] at kx
    have hk := nxt_lt hj
    have hT2 := corner_turn hn hc ht hk
    have kx2 := (vert_id (X (prv n (nxt n j)) 0) (X (prv n (nxt n j)) 1) (X (nxt n j) 0) (X (nxt n j) 1) (X (nxt n (nxt n j)) 0) (X (nxt n (nxt n j)) 1) qx qy).2
    rw [prv_nxt hj] at hT2 kx2
    rw [c2, Int.zero_mul, Int.zero_add] at kx2
    have l1 := left_at hn hl hj
    have l2 := hl _ hk
    refine noOn hj ⟨c2, ?_, ?_, by omega, by omega⟩
    · rcases Int.le_total (X j 0) (X (nxt n j) 0) with h | h
      · have := mul_nn l1 (show 0 ≤ X (nxt n j) 0 - X j 0 by omega)
        have := Int.nonneg_of_mul_nonneg_right (show 0 ≤ crs (X (prv n j) 0) (X (prv n j) 1) (X j 0) (X j 1) (X (nxt n j) 0) (X (nxt n j) 1) * (qx - X j 0) by omega) hT
        omega
      · have := mul_nn l2 (show 0 ≤ X j 0 - X (nxt n j) 0 by omega)
        have := Int.nonneg_of_mul_nonneg_right (show 0 ≤ crs (X j 0) (X j 1) (X (nxt n j) 0) (X (nxt n j) 1) (X (nxt n (nxt n j)) 0) (X (nxt n (nxt n j)) 1) * (qx - X (nxt n j) 0) by omega) hT2
        omega
    · rcases Int.le_total (X j 0) (X (nxt n j) 0) with h | h
      · have h3 := mul_nn l2 (show 0 ≤ X (nxt n j) 0 - X j 0 by omega)
        have e3 : ∀ a b c : Int, a * (b - c) = -(a * (c - b)) := fun a b c => by grind
        rw [e3] at kx2
        have := Int.nonneg_of_mul_nonneg_right (show 0 ≤ crs (X j 0) (X j 1) (X (nxt n j) 0) (X (nxt n j) 1) (X (nxt n (nxt n j)) 0) (X (nxt n (nxt n j)) 1) * (X (nxt n j) 0 - qx) by rw [e3] at h3; omega) hT2
        omega
      · have h3 := mul_nn l1 (show 0 ≤ X j 0 - X (nxt n j) 0 by omega)
        have e3 : ∀ a b c : Int, a * (b - c) = -(a * (c - b)) := fun a b c => by grind
        rw [e3] at kx
        have := Int.nonneg_of_mul_nonneg_right (show 0 ≤ crs (X (prv n j) 0) (X (prv n j) 1) (X j 0) (X j 1) (X (nxt n j) 0) (X (nxt n j) 1) * (X j 0 - qx) by rw [e3] at h3; omega) hT
        omega
  · have c1 : crs (X (prv n j) 0) (X (prv n j) 1) (X j 0) (X j 1) qx qy = 0 := by
      rcases Int.mul_eq_zero.1 z1 with h | h
      · exact h
      · omega
    rw [c1, Int.zero_mul, Int.zero_add] at kx
    by_cases hP : X (prv n j) 1 = X j 1
    · -- the edge ahead of j is the top
      have hk := prv_lt hj
      have hT2 := corner_turn hn hc ht hk
      have kx2 := (vert_id (X (prv n (prv n j)) 0) (X (prv n (prv n j)) 1) (X (prv n j) 0) (X (prv n j) 1) (X (nxt n (prv n j)) 0) (X (nxt n (prv n j)) 1) qx qy).2
      have l2 := left_at hn hl hk
      rw [nxt_prv hj] at hT2 kx2
      rw [c1, Int.zero_mul, Int.add_zero] at kx2
      have l1 := hl j hj
      refine noOn hk ?_
      rw [nxt_prv hj]
      have e3 : ∀ a b c : Int, a * (b - c) = -(a * (c - b)) := fun a b c => by grind
      refine ⟨c1, ?_, ?_, by omega, by omega⟩
      · rcases Int.le_total (X (prv n j) 0) (X j 0) with h | h
        · have := mul_nn l2 (show 0 ≤ X j 0 - X (prv n j) 0 by omega)
          have := Int.nonneg_of_mul_nonneg_right (show 0 ≤ crs (X (prv n (prv n j)) 0) (X (prv n (prv n j)) 1) (X (prv n j) 0) (X (prv n j) 1) (X j 0) (X j 1) * (qx - X (prv n j) 0) by omega) hT2
          omega
        · have := mul_nn l1 (show 0 ≤ X (prv n j) 0 - X j 0 by omega)
          have := Int.nonneg_of_mul_nonneg_right (show 0 ≤ crs (X (prv n j) 0) (X (prv n j) 1) (X j 0) (X j 1) (X (nxt n j) 0) (X (nxt n j) 1) * (qx - X j 0) by omega) hT
          omega
      · rcases Int.le_total (X (prv n j) 0) (X j 0) with h | h
        · have h3 := mul_nn l1 (show 0 ≤ X j 0 - X (prv n j) 0 by omega)
          rw [e3] at kx
          have := Int.nonneg_of_mul_nonneg_right (show 0 ≤ crs (X (prv n j) 0) (X (prv n j) 1) (X j 0) (X j 1) (X (nxt n j) 0) (X (nxt n j) 1) * (X j 0 - qx) by rw [e3] at h3; omega) hT
          omega
        · have h3 := mul_nn l2 (show 0 ≤ X (prv n j) 0 - X j 0 by omega)
          rw [e3] at kx2
          have := Int.nonneg_of_mul_nonneg_right (show 0 ≤ crs (X (prv n (prv n j)) 0) (X (prv n (prv n j)) 1) (X (prv n j) 0) (X (prv n j) 1) (X j 0) (X j 1) * (X (prv n j) 0 - qx) by rw [e3] at h3; omega) hT2
          omega
    · have c2 : crs (X j 0) (X j 1) (X (nxt n j) 0) (X (nxt n j) 1) qx qy = 0 := by
        rcases Int.mul_eq_zero.1 z2 with h | h
        · exact h
        · omega
      rw [c2, Int.zero_mul] at kx
      have : qx = X j 0 := by
        rcases Int.mul_eq_zero.1 kx with h | h <;> omega
      exact noOn hj ⟨c2, by omega, by omega, by omega, by omega⟩
theorem rise_some {n : Nat} {s : Nat → Bool} {i k : Nat} (hi : i < n) (hk : k < n) (h1 : s i = true) (h2 : s k = false) : ∃ j, j < n ∧ s j = true ∧ s (nxt n j) = false := by
  refine Classical.byContradiction fun hno => ?_
  have step : ∀ m, s ((i + m) % n) = true := by
    intro m
    induction m with
    | zero => rw [Nat.add_zero, Nat.mod_eq_of_lt hi]; exact h1
    | succ m ih =>
      have hj : (i + m) % n < n := Nat.mod_lt _ (by omega)
      cases e : s (nxt n ((i + m) % n)) with
      | false => exact absurd ⟨_, hj, ih, e⟩ hno
      | true =>
        unfold nxt at e
        rw [Nat.mod_add_mod] at e
        exact e
  have := step (k + n - i)
  rw [show i + (k + n - i) = k + n by omega, Nat.add_mod_right, Nat.mod_eq_of_lt hk, h2] at this
  cases this
/-- A convex polygon has each place that is on the left of each of its edges, or on it. -/
theorem conv_in {n : Nat} {X : Nat → Nat → Int} {qx qy : Int} (h : PolyOk n X) (hc : ConvX n X) (hl : LeftX n X qx qy) : 0 ≤ placeI n X qx qy := by
  obtain ⟨h3, _, _, hcor, hs, _⟩ := h
  have hn : 0 < n := by omega
  have ht : ∀ i, i < n → turnX X (prv n i) i (nxt n i) ≠ 0 := fun i hi => (hcor i hi).2
  unfold placeI
  by_cases hany : anyN (onX n X qx qy) n = true
  · rw [if_pos hany]; exact Int.le_refl _
  rw [if_neg hany]
  have hon : ∀ i, i < n → onX n X qx qy i = false := fun i hi => by
    cases e : onX n X qx qy i with
    | false => rfl
    | true => exact absurd (decide_eq_true ⟨i, hi, e⟩) hany
  have hg : ∀ i, i < n → goesX n X qx qy i = decide (X i 1 ≤ qy ∧ qy < X (nxt n i) 1) := fun i hi => goes_left (hl i hi) (hon i hi)
  obtain ⟨i, hi, hlow⟩ := conv_low hn hc ht hl
  obtain ⟨k, hk, hhigh⟩ := conv_high hn hc ht hl hon
  obtain ⟨j, hj, j1, j2⟩ := rise_some (s := fun i => decide (X i 1 ≤ qy)) hi hk (decide_eq_true hlow) (decide_eq_false (by omega))
  have j1 : X j 1 ≤ qy := of_decide_eq_true j1
  have j2 : qy < X (nxt n j) 1 := Int.not_le.1 (of_decide_eq_false j2)
  have key : ∀ a b, a < b → b < n → X a 1 ≤ qy → qy < X (nxt n a) 1 → X b 1 ≤ qy → qy < X (nxt n b) 1 → False := by
    intro a b hab hb a1 a2 b1 b2
    have ha : a < n := by omega
    have hm := rise_two a1 a2 b1 b2 (hc a ha b hb) (hc a ha _ (nxt_lt hb)) (hc b hb a ha) (hc b hb _ (nxt_lt ha))
    have hfar : FarApart n a b := by
      refine ⟨?_, fun e => ?_⟩
      · rcases Nat.lt_or_ge (a + 1) b with h | h
        · exact h
        · have e : b = a + 1 := by omega
          have e2 : nxt n a = b := by unfold nxt; rw [Nat.mod_eq_of_lt (by omega)]; omega
          rw [e2] at a2
          omega
      · have e2 : nxt n b = a := by unfold nxt; rw [e.2, Nat.mod_self]; exact e.1.symm
        rw [e2] at b2
        omega
    have := hs a ha b hb hfar
    unfold meetX at this
    rw [hm] at this
    cases this
  rw [if_pos (odd_one hj (by rw [hg j hj]; exact decide_eq_true ⟨j1, j2⟩) fun k hk hB => by
    rw [hg k hk] at hB
    obtain ⟨k1, k2⟩ := of_decide_eq_true hB
    rcases Nat.lt_trichotomy k j with h | h | h
    · exact (key k j h hj k1 k2 j1 j2).elim
    · exact h
    · exact (key j k h hk j1 j2 k1 k2).elim)]
  omega
end Go.Proofs.YtmhgcmcifdclmaaGreat
/- Plain geometry for chapter 20: the chains of a hull. -/
namespace Go.Proofs.YtmhgcmcifdclmaaGreat
set_option linter.unusedVariables false
abbrev Pt := Int × Int
def crsP (a b c : Pt) : Int := crs a.1 a.2 b.1 b.2 c.1 c.2
def LexLt (a b : Pt) : Prop := OrdLt a.1 a.2 b.1 b.2
theorem lex_tri (a b : Pt) : LexLt a b ∨ a = b ∨ LexLt b a := by
  obtain ⟨a1, a2⟩ := a
  obtain ⟨b1, b2⟩ := b
  unfold LexLt OrdLt
  simp only [Prod.mk.injEq]
  omega
theorem LexLt.trans {a b c : Pt} (h : LexLt a b) (k : LexLt b c) : LexLt a c := by
  unfold LexLt OrdLt at *
  omega
theorem LexLt.irr {a : Pt} (h : LexLt a a) : False := by
  unfold LexLt OrdLt at h
  omega
/-- Directions of half a turn, by their turns. -/
def Pos (x y : Int) : Prop := 0 < x ∨ x = 0 ∧ 0 < y
theorem turn_tr {ux uy vx vy wx wy : Int} (hu : Pos ux uy) (hv : Pos vx vy) (hw : Pos wx wy) (h1 : 0 ≤ ux * vy - uy * vx) (h2 : 0 ≤ vx * wy - vy * wx) : 0 ≤ ux * wy - uy * wx ∧ ((0 < ux * vy - uy * vx ∨ 0 < vx * wy - vy * wx) → 0 < ux * wy - uy * wx) := by
  have key : vx * (ux * wy - uy * wx) = ux * (vx * wy - vy * wx) + wx * (ux * vy - uy * vx) := by grind
  rcases hv with hv | ⟨hv0, hv1⟩
  · have hux : 0 < ux := by
      rcases hu with h | ⟨h0, h3⟩
      · exact h
      · rw [h0] at h1
        have := Int.mul_pos h3 hv
        omega
    have hwx : 0 ≤ wx := by rcases hw with h | ⟨h, _⟩ <;> omega
    have k1 := mul_nn (show 0 ≤ ux by omega) h2
    have k2 := mul_nn hwx h1
    refine ⟨Int.nonneg_of_mul_nonneg_right (show 0 ≤ vx * (ux * wy - uy * wx) by omega) hv, fun hs => ?_⟩
    rcases hs with hs | hs
    · rcases hw with hw | ⟨hw0, hw1⟩
      · have := Int.mul_pos hw hs
        exact Int.pos_of_mul_pos_right (show 0 < vx * (ux * wy - uy * wx) by omega) hv
      · rw [hw0]
        have := Int.mul_pos hux hw1
        omega
    · have := Int.mul_pos hux hs
      exact Int.pos_of_mul_pos_right (show 0 < vx * (ux * wy - uy * wx) by omega) hv
  · subst hv0
    simp only [Int.zero_mul, Int.mul_zero, Int.sub_zero, Int.zero_sub] at h1 h2 ⊢
    have hwx : wx = 0 := by
      rcases hw with h | ⟨h, _⟩
      · have := Int.mul_pos hv1 h
        omega
      · exact h
    subst hwx
    have hwy : 0 < wy := by rcases hw with h | ⟨_, h⟩ <;> omega
    have hux : 0 ≤ ux := by rcases hu with h | ⟨h, _⟩ <;> omega
    have := mul_nn hux (show 0 ≤ wy by omega)
    refine ⟨by omega, fun hs => ?_⟩
    rcases hs with hs | hs
    · have hp : 0 < ux := by
        rcases Int.lt_or_eq_of_le hux with h | h
        · exact h
        · rw [← h, Int.zero_mul] at hs; omega
      have := Int.mul_pos hp hwy
      omega
    · omega
theorem pos_of {a b : Pt} (h : LexLt a b) : Pos (b.1 - a.1) (b.2 - a.2) := by
  unfold LexLt OrdLt at h
  unfold Pos
  omega
theorem crs_vec (a b c : Pt) : crsP a b c = (b.1 - a.1) * (c.2 - a.2) - (b.2 - a.2) * (c.1 - a.1) := rfl
/-- Three rising places that turn left, and a further one beyond. -/
theorem turn_next {v u t q : Pt} (h1 : LexLt v u) (h2 : LexLt u t) (h3 : LexLt u q) (k1 : 0 < crsP v u t) (k2 : 0 < crsP u t q) : 0 < crsP v u q := by
  have e1 : crsP v u t = (u.1 - v.1) * (t.2 - u.2) - (u.2 - v.2) * (t.1 - u.1) := by rw [crs_vec]; grind
  have e2 : crsP v u q = (u.1 - v.1) * (q.2 - u.2) - (u.2 - v.2) * (q.1 - u.1) := by rw [crs_vec]; grind
  rw [e1] at k1
  rw [crs_vec] at k2
  rw [e2]
  exact (turn_tr (pos_of h1) (pos_of h2) (pos_of h3) (by omega) (by omega)).2 (.inl k1)
/-- A place behind the last edge's end stays on the left of the new edge. -/
theorem left_back {u t q z : Pt} (h1 : LexLt u t) (h2 : LexLt t q) (h3 : LexLt z t) (k1 : 0 ≤ crsP u t z) (k2 : 0 < crsP u t q) : 0 ≤ crsP t q z := by
  have e1 : crsP u t z = (t.1 - z.1) * (t.2 - u.2) - (t.2 - z.2) * (t.1 - u.1) := by rw [crs_vec]; grind
  have e2 : crsP u t q = (t.1 - u.1) * (q.2 - t.2) - (t.2 - u.2) * (q.1 - t.1) := by rw [crs_vec]; grind
  have e3 : crsP t q z = (t.1 - z.1) * (q.2 - t.2) - (t.2 - z.2) * (q.1 - t.1) := by rw [crs_vec]; grind
  rw [e1] at k1
  rw [e2] at k2
  rw [e3]
  exact (turn_tr (pos_of h3) (pos_of h1) (pos_of h2) k1 (by omega)).1
/-- A place beyond the last edge's end stays on the left of the new edge, if an edge was taken off there. -/
theorem left_on {t p q z : Pt} (h1 : LexLt t p) (h2 : LexLt t q) (h3 : LexLt t z) (k1 : 0 ≤ crsP t p z) (k2 : crsP t p q ≤ 0) : 0 ≤ crsP t q z := by
  have e2 : (q.1 - t.1) * (p.2 - t.2) - (q.2 - t.2) * (p.1 - t.1) = - crsP t p q := by rw [crs_vec]; grind
  exact (turn_tr (pos_of h2) (pos_of h1) (pos_of h3) (by omega) k1).1
def popR (q : Pt) : List Pt → List Pt
  | s :: t :: r => if crsP t s q ≤ 0 then popR q (t :: r) else s :: t :: r
  | l => l
def halfR (l : List Pt) : List Pt := l.foldl (fun st q => q :: popR q st) []
/-- The edges of a chain (its last place is at the head) have places on the left, or on them. -/
def EdgesL (zs : List Pt) : List Pt → Prop
  | s :: t :: r => (∀ z ∈ zs, 0 ≤ crsP t s z) ∧ EdgesL zs (t :: r)
  | _ => True
def TurnsL : List Pt → Prop
  | s :: t :: u :: r => 0 < crsP u t s ∧ TurnsL (t :: u :: r)
  | _ => True
theorem edges_suffix {zs : List Pt} : ∀ {a b : List Pt}, EdgesL zs (a ++ b) → EdgesL zs b
  | [], b, h => h
  | [s], [], h => trivial
  | [s], t :: r, h => h.2
  | s :: t :: r, b, h => edges_suffix (a := t :: r) (b := b) h.2
theorem turns_suffix : ∀ {a b : List Pt}, TurnsL (a ++ b) → TurnsL b
  | [], b, h => h
  | [s], [], h => trivial
  | [s], [t], h => trivial
  | [s], t :: u :: r, h => h.2
  | [s, t], [], h => trivial
  | [s, t], u :: r, h => turns_suffix (a := [t]) (b := u :: r) h.2
  | s :: t :: u :: r, b, h => turns_suffix (a := t :: u :: r) (b := b) h.2
theorem edges_more {zs ys : List Pt} : ∀ {l : List Pt}, EdgesL zs l → EdgesL ys l → EdgesL (zs ++ ys) l
  | s :: t :: r, h, k => ⟨fun z hz => (List.mem_append.1 hz).elim (h.1 z) (k.1 z), edges_more h.2 k.2⟩
  | [], _, _ => trivial
  | [_], _, _ => trivial
theorem edges_congr {zs ys : List Pt} (he : ∀ z ∈ ys, z ∈ zs) : ∀ {l : List Pt}, EdgesL zs l → EdgesL ys l
  | s :: t :: r, h => ⟨fun z hz => h.1 z (he z hz), edges_congr he h.2⟩
  | [], _ => trivial
  | [_], _ => trivial
/-- What stays behind the taking off. -/
theorem pop_spec (q : Pt) : ∀ (s : Pt) (r : List Pt), ∃ (t : Pt) (l a : List Pt), popR q (s :: r) = t :: l ∧ s :: r = a ++ t :: l ∧ (∀ u m, l = u :: m → 0 < crsP u t q) ∧ (a = [] ∨ ∃ b p, a = b ++ [p] ∧ crsP t p q ≤ 0)
  | s, [] => ⟨s, [], [], rfl, rfl, fun u m h => (by cases h), .inl rfl⟩
  | s, t :: r => by
    unfold popR
    by_cases h : crsP t s q ≤ 0
    · rw [if_pos h]
      obtain ⟨t', l, a, h1, h2, h3, h4⟩ := pop_spec q t r
      refine ⟨t', l, s :: a, h1, by rw [h2]; rfl, h3, .inr ?_⟩
      rcases h4 with rfl | ⟨b, p, rfl, hp⟩
      · have e : t = t' := (List.cons.inj h2).1
        subst e
        exact ⟨[], s, rfl, h⟩
      · exact ⟨s :: b, p, rfl, hp⟩
    · rw [if_neg h]
      exact ⟨s, t :: r, [], rfl, rfl, fun u m e => (by cases e; omega), .inl rfl⟩
/-- The state of a chain behind some rising places. -/
structure ChainR (pre st : List Pt) : Prop where
  sub : ∀ s ∈ st, s ∈ pre
  down : st.Pairwise (fun a b => LexLt b a)
  top : ∀ s r, st = s :: r → ∀ z ∈ pre, z = s ∨ LexLt z s
  low : ∀ s a, st = a ++ [s] → ∀ z ∈ pre, z = s ∨ LexLt s z
  edges : EdgesL pre st
  turns : TurnsL st
  some_ : pre ≠ [] → st ≠ []
theorem chain_turn (q : Pt) : ∀ (t : Pt) (l : List Pt), (t :: l).Pairwise (fun a b => LexLt b a) → LexLt t q → TurnsL (t :: l) → (∀ u m, l = u :: m → 0 < crsP u t q) → EdgesL [q] (t :: l)
  | t, [], _, _, _, _ => trivial
  | t, u :: m, hd, hq, ht, hu => by
    have hp := List.pairwise_cons.1 hd
    have hut : LexLt u t := hp.1 u (by simp)
    have h0 := hu u m rfl
    refine ⟨fun z hz => by obtain rfl := List.mem_singleton.1 hz; omega, chain_turn q u m hp.2 (hut.trans hq) (turns_suffix (a := [t]) ht) fun v n e => ?_⟩
    subst e
    have hvu : LexLt v u := (List.pairwise_cons.1 hp.2).1 v (by simp)
    exact turn_next hvu hut (hut.trans hq) ht.1 h0
theorem chain_step {pre st : List Pt} {q : Pt} (h : ChainR pre st) (hq : ∀ z ∈ pre, LexLt z q) : ChainR (pre ++ [q]) (q :: popR q st) := by
  cases st with
  | nil =>
    have hp : pre = [] := Classical.byContradiction fun hn => h.some_ hn rfl
    subst hp
    refine ⟨fun s hs => by simpa [popR] using hs, by simp [popR], fun s r e z hz => ?_, fun s a e z hz => ?_, trivial, trivial, fun _ => by simp⟩
    · simp [popR] at e hz
      exact .inl (by rw [hz, e.1])
    · obtain rfl : z = q := by simpa using hz
      cases a with
      | nil => simp [popR] at e; exact .inl e
      | cons x a => simp [popR] at e
  | cons s r =>
    obtain ⟨t, l, a, h1, h2, h3, h4⟩ := pop_spec q s r
    rw [h1]
    have hsuf : ∀ x ∈ t :: l, x ∈ s :: r := fun x hx => by rw [h2]; exact List.mem_append_right _ hx
    have hdn : (t :: l).Pairwise (fun a b => LexLt b a) := (List.pairwise_append.1 (by have := h.down; rw [h2] at this; exact this)).2.1
    have htq : LexLt t q := hq t (h.sub t (hsuf t (by simp)))
    have hE : EdgesL pre (t :: l) := edges_suffix (a := a) (by have := h.edges; rw [h2] at this; exact this)
    have hT : TurnsL (t :: l) := turns_suffix (a := a) (by have := h.turns; rw [h2] at this; exact this)
    have htop : ∀ z ∈ pre, 0 ≤ crsP t q z := by
      intro z hz
      rcases lex_tri z t with hzt | rfl | htz
      · cases l with
        | nil =>
          have := h.low t a h2 z hz
          rcases this with rfl | k
          · exact (hzt.irr).elim
          · exact ((hzt.trans k).irr).elim
        | cons u m =>
          have hut : LexLt u t := (List.pairwise_cons.1 hdn).1 u (by simp)
          exact left_back hut htq hzt (hE.1 z hz) (h3 u m rfl)
      · rw [crs_vec]; grind
      · rcases h4 with rfl | ⟨b, p, rfl, hp⟩
        · have := h.top t l h2 z hz
          rcases this with rfl | k
          · exact (htz.irr).elim
          · exact ((htz.trans k).irr).elim
        · have hE2 : EdgesL pre (p :: t :: l) := edges_suffix (a := b) (by have := h.edges; rw [h2, List.append_assoc] at this; exact this)
          have hd2 := h.down
          rw [h2, List.append_assoc] at hd2
          have htp : LexLt t p := (List.pairwise_cons.1 (List.pairwise_append.1 hd2).2.1).1 t (by simp)
          exact left_on htp htq htz (hE2.1 z hz) hp
    refine ⟨fun x hx => ?_, List.pairwise_cons.2 ⟨fun x hx => hq x (h.sub x (hsuf x hx)), hdn⟩, fun x m e z hz => ?_, fun x m e z hz => ?_, ⟨fun z hz => ?_, edges_more hE (chain_turn q t l hdn htq hT h3)⟩, ?_, fun _ => by simp⟩
    · rcases List.mem_cons.1 hx with rfl | hx
      · simp
      · exact List.mem_append_left _ (h.sub x (hsuf x hx))
    · cases e
      rcases List.mem_append.1 hz with hz | hz
      · exact .inr (hq z hz)
      · exact .inl (List.mem_singleton.1 hz)
    · -- the lowest stays
      have e2 : ∃ m', t :: l = m' ++ [x] := by
        cases m with
        | nil => simp at e
        | cons y m => exact ⟨m, (List.cons.inj e).2⟩
      obtain ⟨m', e2⟩ := e2
      rw [e2, ← List.append_assoc] at h2
      have hl := h.low x _ h2
      rcases List.mem_append.1 hz with hz | hz
      · exact hl z hz
      · obtain rfl := List.mem_singleton.1 hz
        refine .inr (hq x (h.sub x ?_))
        rw [h2]
        simp
    · rcases List.mem_append.1 hz with hz | hz
      · exact htop z hz
      · obtain rfl := List.mem_singleton.1 hz
        rw [crs_vec]; grind
    · cases l with
      | nil => trivial
      | cons u m => exact ⟨h3 u m rfl, hT⟩
theorem chain_all : ∀ (l pre st : List Pt), ChainR pre st → (pre ++ l).Pairwise LexLt → ChainR (pre ++ l) (l.foldl (fun st q => q :: popR q st) st)
  | [], pre, st, h, _ => by rw [List.append_nil]; exact h
  | q :: l, pre, st, h, hp => by
    have e : pre ++ q :: l = (pre ++ [q]) ++ l := by simp
    rw [e] at hp ⊢
    have hq : ∀ z ∈ pre, LexLt z q := fun z hz => (List.pairwise_append.1 (List.pairwise_append.1 hp).1).2.2 z hz q (by simp)
    exact chain_all l (pre ++ [q]) _ (chain_step h hq) hp
/-- The chain of rising places. -/
theorem half_chain {l : List Pt} (h : l.Pairwise LexLt) : ChainR l (halfR l) := by
  have := chain_all l [] [] ⟨fun s hs => by simp at hs, List.Pairwise.nil, fun s r e => by simp at e, fun s a e => by simp at e, trivial, trivial, fun hn => absurd rfl hn⟩ h
  exact this
def negP (p : Pt) : Pt := (-p.1, -p.2)
theorem crs_neg (a b c : Pt) : crsP (negP a) (negP b) (negP c) = crsP a b c := by
  rw [crs_vec, crs_vec]
  unfold negP
  grind
theorem pop_neg (q : Pt) : ∀ l : List Pt, popR (negP q) (l.map negP) = (popR q l).map negP
  | [] => rfl
  | [_] => rfl
  | s :: t :: r => by
    have ih := pop_neg q (t :: r)
    simp only [List.map_cons] at ih ⊢
    unfold popR
    rw [crs_neg]
    by_cases h : crsP t s q ≤ 0
    · rw [if_pos h, if_pos h]; exact ih
    · rw [if_neg h, if_neg h]; rfl
theorem half_neg (l : List Pt) : halfR (l.map negP) = (halfR l).map negP := by
  unfold halfR
  rw [List.foldl_map]
  suffices h : ∀ st : List Pt, l.foldl (fun st q => negP q :: popR (negP q) st) (st.map negP) = (l.foldl (fun st q => q :: popR q st) st).map negP from h []
  induction l with
  | nil => intro st; rfl
  | cons q l ih =>
    intro st
    simp only [List.foldl_cons]
    rw [pop_neg, ← List.map_cons, ih]
theorem edges_neg {zs : List Pt} : ∀ {l : List Pt}, EdgesL (zs.map negP) (l.map negP) → EdgesL zs l
  | [], _ => trivial
  | [_], _ => trivial
  | s :: t :: r, h => ⟨fun z hz => by have := h.1 (negP z) (List.mem_map_of_mem hz); rwa [crs_neg] at this, edges_neg h.2⟩
theorem neg_neg (p : Pt) : negP (negP p) = p := by
  unfold negP
  simp
theorem lex_neg {a b : Pt} (h : LexLt a b) : LexLt (negP b) (negP a) := by
  unfold LexLt OrdLt negP at *
  simp only
  omega
end Go.Proofs.YtmhgcmcifdclmaaGreat
/- Plain geometry for chapter 20: the hull of places has all of them on the left of its edges, or on these. -/
namespace Go.Proofs.YtmhgcmcifdclmaaGreat
set_option linter.unusedVariables false
def AdjL (P : Pt → Pt → Prop) : List Pt → Prop
  | a :: b :: r => P a b ∧ AdjL P (b :: r)
  | _ => True
theorem adj_append {P : Pt → Pt → Prop} : ∀ {l : List Pt} {a : Pt} {m : List Pt}, AdjL P (l ++ [a]) → AdjL P (a :: m) → AdjL P (l ++ a :: m)
  | [], a, m, _, k => k
  | [x], a, m, h, k => ⟨h.1, k⟩
  | x :: y :: l, a, m, h, k => ⟨h.1, adj_append (l := y :: l) h.2 k⟩
theorem adj_reverse {zs : List Pt} : ∀ {st : List Pt}, EdgesL zs st → AdjL (fun t s => ∀ z ∈ zs, 0 ≤ crsP t s z) st.reverse
  | [], _ => trivial
  | [_], _ => trivial
  | s :: t :: r, h => by
    have ih := adj_reverse (st := t :: r) h.2
    rw [List.reverse_cons] at ih ⊢
    rw [List.reverse_cons, List.append_assoc]
    exact adj_append ih ⟨h.1, trivial⟩
theorem adj_get {P : Pt → Pt → Prop} (d : Pt) : ∀ {L : List Pt}, AdjL P L → ∀ {i : Nat}, i + 1 < L.length → P (L.getD i d) (L.getD (i + 1) d)
  | [], _, i, hi => by simp at hi
  | [_], _, i, hi => by simp at hi
  | a :: b :: r, h, 0, _ => h.1
  | a :: b :: r, h, i + 1, hi => by
    have := adj_get d (L := b :: r) h.2 (i := i) (by simpa using hi)
    simpa using this
def hullL (asc : List Pt) : List Pt := (halfR asc).reverse.dropLast ++ (halfR asc.reverse).reverse.dropLast
theorem desc_chain {asc : List Pt} (h : asc.Pairwise LexLt) : ChainR (asc.reverse.map negP) ((halfR asc.reverse).map negP) := by
  have hp : (asc.reverse.map negP).Pairwise LexLt := by
    rw [List.pairwise_map, List.pairwise_reverse]
    exact h.imp fun h => lex_neg h
  have := half_chain hp
  rwa [half_neg] at this
theorem hull_sub {asc : List Pt} (h : asc.Pairwise LexLt) {x : Pt} (hx : x ∈ hullL asc) : x ∈ asc := by
  unfold hullL at hx
  rcases List.mem_append.1 hx with hx | hx
  · exact (half_chain h).sub x (List.mem_reverse.1 (List.dropLast_subset _ hx))
  · have := (desc_chain h).sub (negP x) (List.mem_map_of_mem (List.mem_reverse.1 (List.dropLast_subset _ hx)))
    obtain ⟨y, hy, e⟩ := List.mem_map.1 this
    have e2 := congrArg negP e
    rw [neg_neg, neg_neg] at e2
    rw [← e2]
    exact List.mem_reverse.1 hy
theorem hull_left {asc : List Pt} (h : asc.Pairwise LexLt) (h3 : 3 ≤ (hullL asc).length) : ∀ z ∈ asc, LeftX (hullL asc).length (ptX (hullL asc)) z.1 z.2 := by
  have c1 := half_chain h
  have c2 := desc_chain h
  have hne : asc ≠ [] := fun e => by subst e; simp [hullL, halfR] at h3
  have hne2 : asc.reverse.map negP ≠ [] := by simpa using hne
  obtain ⟨s1, r1, e1⟩ := List.exists_cons_of_ne_nil (c1.some_ hne)
  have hst2 : halfR asc.reverse ≠ [] := fun e => by
    have := c2.some_ hne2
    rw [e] at this
    exact this rfl
  obtain ⟨s2, r2, e2⟩ := List.exists_cons_of_ne_nil hst2
  -- the greatest and the least place
  have max1 : ∀ z ∈ asc, z = s1 ∨ LexLt z s1 := c1.top s1 r1 e1
  have s1m : s1 ∈ asc := c1.sub s1 (by rw [e1]; simp)
  have un : ∀ {x y : Pt}, negP x = negP y → x = y := fun {x y} e => by
    have := congrArg negP e
    rwa [neg_neg, neg_neg] at this
  have mem2 : ∀ {z : Pt}, z ∈ asc → negP z ∈ asc.reverse.map negP := fun {z} hz => List.mem_map_of_mem (List.mem_reverse.2 hz)
  have unlex : ∀ {x y : Pt}, LexLt (negP x) (negP y) → LexLt y x := fun {x y} e => by
    have := lex_neg e
    rwa [neg_neg, neg_neg] at this
  have min2 : ∀ z ∈ asc, z = s2 ∨ LexLt s2 z := fun z hz => by
    rcases c2.top (negP s2) (r2.map negP) (by rw [e2]; rfl) (negP z) (mem2 hz) with e | e
    · exact .inl (un e)
    · exact .inr (unlex e)
  have sub2 : ∀ x ∈ s2 :: r2, x ∈ asc := fun x hx => by
    have := c2.sub (negP x) (by rw [e2]; exact List.mem_map_of_mem hx)
    obtain ⟨y, hy, e⟩ := List.mem_map.1 this
    rw [← un e]
    exact List.mem_reverse.1 hy
  have s2m : s2 ∈ asc := sub2 s2 (by simp)
  -- the ends of the chains
  have b1 : ∀ a b, s1 :: r1 = a ++ [b] → b = s2 := fun a b e => by
    have hb : b ∈ asc := c1.sub b (by rw [e1, e]; simp)
    rcases min2 b hb with e3 | e3
    · exact e3
    · rcases c1.low b a (by rw [e1, e]) s2 s2m with e4 | e4
      · exact e4.symm
      · exact ((e3.trans e4).irr).elim
  have b2 : ∀ a b, s2 :: r2 = a ++ [b] → b = s1 := fun a b e => by
    have hb : b ∈ asc := sub2 b (by rw [e]; simp)
    rcases max1 b hb with e3 | e3
    · exact e3
    · rcases c2.low (negP b) (a.map negP) (by rw [e2, e, List.map_append]; rfl) (negP s1) (mem2 s1m) with e4 | e4
      · exact (un e4).symm
      · exact ((e3.trans (unlex e4)).irr).elim
  have ho : hullL asc = r1.reverse ++ r2.reverse := by
    unfold hullL
    rw [e1, e2, List.reverse_cons, List.reverse_cons, List.dropLast_concat, List.dropLast_concat]
  have a1 := adj_reverse c1.edges
  have ed2 : EdgesL asc (halfR asc.reverse) := edges_congr (fun z hz => List.mem_reverse.2 hz) (edges_neg c2.edges)
  have a2 := adj_reverse ed2
  rw [e1, List.reverse_cons] at a1
  -- the second chain begins where the first one ends
  obtain ⟨m2, hm2⟩ : ∃ m, (s2 :: r2).reverse = s1 :: m := by
    cases hr : (s2 :: r2).reverse with
    | nil => simp at hr
    | cons x m =>
      have hh : s2 :: r2 = m.reverse ++ [x] := by
        have := congrArg List.reverse hr
        simpa using this
      exact ⟨m, by rw [b2 _ _ hh]⟩
  rw [e2, hm2] at a2
  have adj := adj_append a1 a2
  rw [← hm2, List.reverse_cons, ← List.append_assoc, ← ho] at adj
  -- the first chain begins where the second one ends
  have hr1 : r1 ≠ [] := fun e => by
    subst e
    have e5 : s1 = s2 := b1 [] s1 rfl
    have hr2 : r2 = [] := by
      cases r2 with
      | nil => rfl
      | cons y r2 =>
        exfalso
        have hy : y ∈ asc := sub2 y (by simp)
        have hd := c2.down
        rw [e2, List.map_cons, List.map_cons] at hd
        have h5 : LexLt s2 y := unlex ((List.pairwise_cons.1 hd).1 (negP y) (by simp))
        rcases max1 y hy with e6 | e6
        · rw [e6, e5] at h5; exact h5.irr
        · rw [e5] at e6; exact (h5.trans e6).irr
    rw [ho, hr2] at h3
    simp at h3
  have hd0 : (hullL asc).getD 0 (0, 0) = s2 := by
    rw [ho]
    obtain ⟨x, m, hx⟩ := List.exists_cons_of_ne_nil (show r1.reverse ≠ [] by simpa using hr1)
    have hh : s1 :: r1 = (s1 :: m.reverse) ++ [x] := by
      have := congrArg List.reverse hx
      rw [List.reverse_reverse] at this
      rw [this]
      simp
    rw [hx, b1 _ _ hh]
    rfl
  obtain ⟨n, hn⟩ : ∃ n, (hullL asc).length = n := ⟨_, rfl⟩
  rw [hn] at h3 ⊢
  intro z hz i hi
  have hC : (hullL asc ++ [s2]).length = n + 1 := by simp [hn]
  have hA := adj_get (0, 0) adj (i := i) (by rw [hC]; omega) z hz
  have g1 : (hullL asc ++ [s2]).getD i (0, 0) = (hullL asc).getD i (0, 0) := by
    rw [List.getD_eq_getElem?_getD, List.getD_eq_getElem?_getD, List.getElem?_append_left (by omega)]
  have g2 : (hullL asc ++ [s2]).getD (i + 1) (0, 0) = (hullL asc).getD (nxt n i) (0, 0) := by
    unfold nxt
    rcases Nat.lt_or_ge (i + 1) n with hlt | hge
    · rw [Nat.mod_eq_of_lt hlt, List.getD_eq_getElem?_getD, List.getD_eq_getElem?_getD, List.getElem?_append_left (by omega)]
    · obtain rfl : n = i + 1 := by omega
      rw [Nat.mod_self, hd0, List.getD_eq_getElem?_getD, List.getElem?_append_right (by omega), hn]
      simp
  rw [g1, g2] at hA
  exact hA
/-- The corners of a hull are places of the list; so the hull is convex. -/
theorem hull_conv {asc : List Pt} (h : asc.Pairwise LexLt) (h3 : 3 ≤ (hullL asc).length) : ConvX (hullL asc).length (ptX (hullL asc)) := fun i hi k hk => by
  have hm : (hullL asc).getD k (0, 0) ∈ asc := hull_sub h (by
    rw [List.getD_eq_getElem?_getD, List.getElem?_eq_getElem hk]
    exact List.getElem_mem hk)
  exact hull_left h h3 _ hm i hi
end Go.Proofs.YtmhgcmcifdclmaaGreat
/- Plain geometry for chapter 20: what is covered stays covered. -/
namespace Go.Proofs.YtmhgcmcifdclmaaGreat
set_option linter.unusedVariables false
/-- A million times the coordinates of the middle of a place. -/
def atX (m : Dat) (p : Pt) : Int := m.a * p.1 + m.b * p.2 + 1000000 * m.c
def atY (m : Dat) (p : Pt) : Int := m.d * p.1 + m.e * p.2 + 1000000 * m.f
def FitsD (m : Dat) (p q : Pt) : Prop := (-(1000000 * m.r) ≤ 1000000 * q.1 - atX m p ∧ 1000000 * q.1 - atX m p ≤ 1000000 * m.r) ∧ (-(1000000 * m.r) ≤ 1000000 * q.2 - atY m p ∧ 1000000 * q.2 - atY m p ≤ 1000000 * m.r)
structure Bx where
  (lx hx ly hy : Int)
instance : DecidableEq Bx := fun a b => decidable_of_iff (a.lx = b.lx ∧ a.hx = b.hx ∧ a.ly = b.ly ∧ a.hy = b.hy) (by cases a; cases b; simp)
def dnM (n : Int) : Int := n / 1000000
def upM (n : Int) : Int := -((-n) / 1000000)
def boxOf (m : Dat) (p : Pt) : Bx := ⟨dnM (atX m p - 1000000 * m.r), upM (atX m p + 1000000 * m.r), dnM (atY m p - 1000000 * m.r), upM (atY m p + 1000000 * m.r)⟩
def cornersB (b : Bx) : List Pt := [(b.lx, b.ly), (b.lx, b.hy), (b.hx, b.ly), (b.hx, b.hy)]
theorem dn_le (n : Int) : 1000000 * dnM n ≤ n := by unfold dnM; omega
theorem le_up (n : Int) : n ≤ 1000000 * upM n := by unfold upM; omega
theorem form_box {lx hx ly hy x y u v c : Int} (h1 : 1000000 * lx ≤ x) (h2 : x ≤ 1000000 * hx) (h3 : 1000000 * ly ≤ y) (h4 : y ≤ 1000000 * hy) (k : ∀ z ∈ cornersB ⟨lx, hx, ly, hy⟩, 0 ≤ u * z.1 + v * z.2 + c) : 0 ≤ u * x + v * y + 1000000 * c := by
  have k1 := k (lx, ly) (by simp [cornersB])
  have k2 := k (lx, hy) (by simp [cornersB])
  have k3 := k (hx, ly) (by simp [cornersB])
  have k4 := k (hx, hy) (by simp [cornersB])
  simp only at k1 k2 k3 k4
  have ex : ∃ x0, (x0 = lx ∨ x0 = hx) ∧ u * (1000000 * x0) ≤ u * x := by
    rcases Int.le_total 0 u with hu | hu
    · exact ⟨lx, .inl rfl, Int.mul_le_mul_of_nonneg_left h1 hu⟩
    · exact ⟨hx, .inr rfl, Int.mul_le_mul_of_nonpos_left hu h2⟩
  have ey : ∃ y0, (y0 = ly ∨ y0 = hy) ∧ v * (1000000 * y0) ≤ v * y := by
    rcases Int.le_total 0 v with hv | hv
    · exact ⟨ly, .inl rfl, Int.mul_le_mul_of_nonneg_left h3 hv⟩
    · exact ⟨hy, .inr rfl, Int.mul_le_mul_of_nonpos_left hv h4⟩
  obtain ⟨x0, hx0, lx0⟩ := ex
  obtain ⟨y0, hy0, ly0⟩ := ey
  have e1 : u * (1000000 * x0) = 1000000 * (u * x0) := by grind
  have e2 : v * (1000000 * y0) = 1000000 * (v * y0) := by grind
  rcases hx0 with rfl | rfl <;> rcases hy0 with rfl | rfl <;> omega
/-- Where a place may be lies in the box of it. -/
theorem fits_box {m : Dat} {p q : Pt} (h : FitsD m p q) : (boxOf m p).lx ≤ q.1 ∧ q.1 ≤ (boxOf m p).hx ∧ (boxOf m p).ly ≤ q.2 ∧ q.2 ≤ (boxOf m p).hy := by
  obtain ⟨⟨a, b⟩, c, d⟩ := h
  unfold boxOf dnM upM
  simp only
  omega
/-- A convex polygon that has on the left of its edges what the corners of a polygon may be has what its places may be. -/
theorem cover_poly {m : Dat} {p q : Pt} {n n' : Nat} {A X : Nat → Nat → Int} (hf : FitsD m p q) (hp : 0 ≤ placeI n A p.1 p.2) (hX : PolyOk n' X) (hc : ConvX n' X)
    (hl : ∀ i, i < n → ∀ z ∈ cornersB (boxOf m (A i 0, A i 1)), LeftX n' X z.1 z.2) : 0 ≤ placeI n' X q.1 q.2 := by
  refine conv_in hX hc fun k hk => ?_
  obtain ⟨ax, hax⟩ : ∃ a, X k 0 = a := ⟨_, rfl⟩
  obtain ⟨ay, hay⟩ : ∃ a, X k 1 = a := ⟨_, rfl⟩
  obtain ⟨bx, hbx⟩ : ∃ a, X (nxt n' k) 0 = a := ⟨_, rfl⟩
  obtain ⟨by', hby⟩ : ∃ a, X (nxt n' k) 1 = a := ⟨_, rfl⟩
  have hl' : ∀ i, i < n → ∀ z ∈ cornersB (boxOf m (A i 0, A i 1)), 0 ≤ (ay - by') * z.1 + (bx - ax) * z.2 + ((by' - ay) * ax - (bx - ax) * ay) := fun i hi z hz => by
    have := hl i hi z hz k hk
    rw [hax, hay, hbx, hby] at this
    unfold crs at this
    grind
  rw [hax, hay, hbx, hby]
  obtain ⟨u, hu⟩ : ∃ u, ay - by' = u := ⟨_, rfl⟩
  obtain ⟨v, hv⟩ : ∃ u, bx - ax = u := ⟨_, rfl⟩
  obtain ⟨c, hc'⟩ : ∃ c, (by' - ay) * ax - (bx - ax) * ay = c := ⟨_, rfl⟩
  rw [hc', hu, hv] at hl'
  have goal : crs ax ay bx by' q.1 q.2 = u * q.1 + v * q.2 + c := by
    unfold crs
    rw [← hu, ← hv, ← hc']
    grind
  rw [goal]
  obtain ⟨dx, hdx⟩ : ∃ d, 1000000 * q.1 - atX m p = d := ⟨_, rfl⟩
  obtain ⟨dy, hdy⟩ : ∃ d, 1000000 * q.2 - atY m p = d := ⟨_, rfl⟩
  obtain ⟨⟨f1, f2⟩, f3, f4⟩ := hf
  rw [hdx] at f1 f2
  rw [hdy] at f3 f4
  have hcor : ∀ i, i < n → 0 ≤ (u * m.a + v * m.d) * A i 0 + (u * m.b + v * m.e) * A i 1 + (u * (1000000 * m.c + dx) + v * (1000000 * m.f + dy) + 1000000 * c) := fun i hi => by
    have hb := form_box (u := u) (v := v) (c := c) (lx := (boxOf m (A i 0, A i 1)).lx) (hx := (boxOf m (A i 0, A i 1)).hx) (ly := (boxOf m (A i 0, A i 1)).ly) (hy := (boxOf m (A i 0, A i 1)).hy) (x := atX m (A i 0, A i 1) + dx) (y := atY m (A i 0, A i 1) + dy)
      (by have := dn_le (atX m (A i 0, A i 1) - 1000000 * m.r); unfold boxOf; simp only; omega) (by have := le_up (atX m (A i 0, A i 1) + 1000000 * m.r); unfold boxOf; simp only; omega)
      (by have := dn_le (atY m (A i 0, A i 1) - 1000000 * m.r); unfold boxOf; simp only; omega) (by have := le_up (atY m (A i 0, A i 1) + 1000000 * m.r); unfold boxOf; simp only; omega) (hl' i hi)
    unfold atX atY at hb
    simp only at hb
    grind
  have h1 := place_form hcor hp
  have e : (u * m.a + v * m.d) * p.1 + (u * m.b + v * m.e) * p.2 + (u * (1000000 * m.c + dx) + v * (1000000 * m.f + dy) + 1000000 * c) = 1000000 * (u * q.1 + v * q.2 + c) := by
    unfold atX at hdx
    unfold atY at hdy
    grind
  omega
/-- Discs. -/
theorem le_of_sq {a b : Int} (hb : 0 ≤ b) (h : a * a ≤ b * b) : a ≤ b := by
  refine Int.not_lt.1 fun k => ?_
  have h1 := Int.mul_pos (show 0 < a - b by omega) (show 0 < a + b by omega)
  have e : (a - b) * (a + b) = a * a - b * b := by grind
  omega
/-- Lengths add. -/
theorem len_add {ax ay bx by' s t : Int} (hs : 0 ≤ s) (ht : 0 ≤ t) (h1 : ax * ax + ay * ay ≤ s * s) (h2 : bx * bx + by' * by' ≤ t * t) : (ax + bx) * (ax + bx) + (ay + by') * (ay + by') ≤ (s + t) * (s + t) := by
  have cs : (ax * bx + ay * by') * (ax * bx + ay * by') ≤ (s * t) * (s * t) := by
    have e : (ax * ax + ay * ay) * (bx * bx + by' * by') = (ax * bx + ay * by') * (ax * bx + ay * by') + (ax * by' - ay * bx) * (ax * by' - ay * bx) := by grind
    have k := sq_nn (ax * by' - ay * bx)
    have n1 := sq_nn bx
    have n2 := sq_nn by'
    have n3 := sq_nn s
    have m1 : (ax * ax + ay * ay) * (bx * bx + by' * by') ≤ (s * s) * (t * t) := Int.mul_le_mul h1 h2 (by omega) n3
    have e2 : (s * t) * (s * t) = (s * s) * (t * t) := by grind
    omega
  have k := le_of_sq (mul_nn hs ht) cs
  have e1 : (ax + bx) * (ax + bx) + (ay + by') * (ay + by') = (ax * ax + ay * ay) + (bx * bx + by' * by') + 2 * (ax * bx + ay * by') := by grind
  have e2 : (s + t) * (s + t) = s * s + t * t + 2 * (s * t) := by grind
  omega
/-- The stretch bounds what the linear part makes of a length. -/
theorem stretch_le {a b d e dx dy S R : Int} (h1 : a * a + d * d + (a * b + d * e) ≤ S * S) (h2 : a * a + d * d - (a * b + d * e) ≤ S * S) (h3 : b * b + e * e + (a * b + d * e) ≤ S * S) (h4 : b * b + e * e - (a * b + d * e) ≤ S * S) (hr : dx * dx + dy * dy ≤ R * R) : (a * dx + b * dy) * (a * dx + b * dy) + (d * dx + e * dy) * (d * dx + e * dy) ≤ (S * R) * (S * R) := by
  obtain ⟨M, hM⟩ : ∃ M, a * b + d * e = M := ⟨_, rfl⟩
  obtain ⟨P, hP⟩ : ∃ P, a * a + d * d = P := ⟨_, rfl⟩
  obtain ⟨Q, hQ⟩ : ∃ Q, b * b + e * e = Q := ⟨_, rfl⟩
  rw [hM, hP] at h1 h2
  rw [hM, hQ] at h3 h4
  have e1 : (a * dx + b * dy) * (a * dx + b * dy) + (d * dx + e * dy) * (d * dx + e * dy) = P * (dx * dx) + Q * (dy * dy) + M * (2 * (dx * dy)) := by
    rw [← hM, ← hP, ← hQ]
    grind
  rw [e1]
  have p1 := sq_nn (dx + dy)
  have p2 := sq_nn (dx - dy)
  have q1 : (dx + dy) * (dx + dy) = dx * dx + dy * dy + 2 * (dx * dy) := by grind
  have q2 : (dx - dy) * (dx - dy) = dx * dx + dy * dy - 2 * (dx * dy) := by grind
  have x1 := sq_nn dx
  have y1 := sq_nn dy
  obtain ⟨N, hN⟩ : ∃ N, (if 0 ≤ M then M else -M) = N := ⟨_, rfl⟩
  have hNn : 0 ≤ N ∧ P + N ≤ S * S ∧ Q + N ≤ S * S := by
    rw [← hN]
    split <;> omega
  have hMN : M * (2 * (dx * dy)) ≤ N * (dx * dx + dy * dy) := by
    rw [← hN]
    split
    · next h => exact Int.mul_le_mul_of_nonneg_left (by omega) h
    · next h =>
      have e : M * (2 * (dx * dy)) = -M * (-(2 * (dx * dy))) := by grind
      rw [e]
      exact Int.mul_le_mul_of_nonneg_left (by omega) (by omega)
  have k1 : (P + N) * (dx * dx) ≤ (S * S) * (dx * dx) := Int.mul_le_mul_of_nonneg_right hNn.2.1 x1
  have k2 : (Q + N) * (dy * dy) ≤ (S * S) * (dy * dy) := Int.mul_le_mul_of_nonneg_right hNn.2.2 y1
  have k3 : (S * S) * (dx * dx + dy * dy) ≤ (S * S) * (R * R) := Int.mul_le_mul_of_nonneg_left hr (sq_nn S)
  have e3 : (P + N) * (dx * dx) = P * (dx * dx) + N * (dx * dx) := by grind
  have e4 : (Q + N) * (dy * dy) = Q * (dy * dy) + N * (dy * dy) := by grind
  have e5 : N * (dx * dx + dy * dy) = N * (dx * dx) + N * (dy * dy) := by grind
  have e6 : (S * S) * (dx * dx + dy * dy) = (S * S) * (dx * dx) + (S * S) * (dy * dy) := by grind
  have e7 : (S * R) * (S * R) = (S * S) * (R * R) := by grind
  omega
/-- What a disc covers, its carried disc covers. -/
theorem cover_disc {m : Dat} {at_ z q at' : Pt} {rad n S s rad' : Int} (hf : FitsD m z q) (hS0 : 0 ≤ S) (hs0 : 0 ≤ s) (hr0 : 0 ≤ rad)
    (h1 : m.a * m.a + m.d * m.d + (m.a * m.b + m.d * m.e) ≤ S * S) (h2 : m.a * m.a + m.d * m.d - (m.a * m.b + m.d * m.e) ≤ S * S) (h3 : m.b * m.b + m.e * m.e + (m.a * m.b + m.d * m.e) ≤ S * S) (h4 : m.b * m.b + m.e * m.e - (m.a * m.b + m.d * m.e) ≤ S * S)
    (hz : sqd z.1 z.2 at_.1 at_.2 ≤ rad * rad) (hn : 2 * (n * n) ≤ s * s) (hn0 : 0 ≤ n)
    (hx : ∀ ex, ex = 1000000 * at'.1 - atX m at_ → -(1000000 * (n - m.r)) ≤ ex ∧ ex ≤ 1000000 * (n - m.r)) (hy : ∀ ey, ey = 1000000 * at'.2 - atY m at_ → -(1000000 * (n - m.r)) ≤ ey ∧ ey ≤ 1000000 * (n - m.r))
    (hrad : S * rad + 1000000 * s ≤ 1000000 * rad') : sqd q.1 q.2 at'.1 at'.2 ≤ rad' * rad' := by
  obtain ⟨⟨f1, f2⟩, f3, f4⟩ := hf
  have gx := hx _ rfl
  have gy := hy _ rfl
  obtain ⟨wx, hwx⟩ : ∃ w, m.a * (z.1 - at_.1) + m.b * (z.2 - at_.2) = w := ⟨_, rfl⟩
  obtain ⟨wy, hwy⟩ : ∃ w, m.d * (z.1 - at_.1) + m.e * (z.2 - at_.2) = w := ⟨_, rfl⟩
  have hw : wx * wx + wy * wy ≤ (S * rad) * (S * rad) := by
    rw [← hwx, ← hwy]
    refine stretch_le h1 h2 h3 h4 ?_
    unfold sqd at hz
    have : (z.1 - at_.1) * (z.1 - at_.1) + (z.2 - at_.2) * (z.2 - at_.2) = (at_.1 - z.1) * (at_.1 - z.1) + (at_.2 - z.2) * (at_.2 - z.2) := by grind
    omega
  have ex : atX m z - atX m at_ = wx := by unfold atX; rw [← hwx]; grind
  have ey : atY m z - atY m at_ = wy := by unfold atY; rw [← hwy]; grind
  obtain ⟨tx, htx⟩ : ∃ t, 1000000 * (q.1 - at'.1) - wx = t := ⟨_, rfl⟩
  obtain ⟨ty, hty⟩ : ∃ t, 1000000 * (q.2 - at'.2) - wy = t := ⟨_, rfl⟩
  have bx : -(1000000 * n) ≤ tx ∧ tx ≤ 1000000 * n := by omega
  have by' : -(1000000 * n) ≤ ty ∧ ty ≤ 1000000 * n := by omega
  have sq_le : ∀ {t b : Int}, -b ≤ t ∧ t ≤ b → t * t ≤ b * b := fun {t b} h => by
    have := mul_nn (show 0 ≤ b - t by omega) (show 0 ≤ b + t by omega)
    have e : (b - t) * (b + t) = b * b - t * t := by grind
    omega
  have ht : tx * tx + ty * ty ≤ (1000000 * s) * (1000000 * s) := by
    have a1 := sq_le bx
    have a2 := sq_le by'
    have e1 : (1000000 * n) * (1000000 * n) = 1000000000000 * (n * n) := by grind
    have e2 : (1000000 * s) * (1000000 * s) = 1000000000000 * (s * s) := by grind
    omega
  have hsum := len_add (mul_nn hS0 hr0) (show 0 ≤ 1000000 * s by omega) hw ht
  have q1 : wx + tx = 1000000 * (q.1 - at'.1) := by omega
  have q2 : wy + ty = 1000000 * (q.2 - at'.2) := by omega
  rw [q1, q2] at hsum
  have hS := mul_nn hS0 hr0
  have hfin : (S * rad + 1000000 * s) * (S * rad + 1000000 * s) ≤ (1000000 * rad') * (1000000 * rad') := Int.mul_le_mul hrad hrad (by omega) (by omega)
  have e1 : (1000000 * (q.1 - at'.1)) * (1000000 * (q.1 - at'.1)) + (1000000 * (q.2 - at'.2)) * (1000000 * (q.2 - at'.2)) = 1000000000000 * sqd q.1 q.2 at'.1 at'.2 := by unfold sqd; grind
  have e2 : (1000000 * rad') * (1000000 * rad') = 1000000000000 * (rad' * rad') := by grind
  omega
end Go.Proofs.YtmhgcmcifdclmaaGreat
/- Plain definitions of chapter 20: books of symbols, and what a datum makes of features. -/
namespace Go.Proofs.YtmhgcmcifdclmaaGreat
set_option linter.unusedVariables false
/-- Books. -/
structure Mk where
  (sym kind cls : Int)
instance : DecidableEq Mk := fun a b => decidable_of_iff (a.sym = b.sym ∧ a.kind = b.kind ∧ a.cls = b.cls) (by cases a; cases b; simp)
def noMk : Mk := ⟨0, 0, 0⟩
structure Bk where
  office : Int
  marks : List Mk
def MkOk (m : Mk) : Prop := (0 ≤ m.sym ∧ m.sym ≤ 999) ∧ (1 ≤ m.kind ∧ m.kind ≤ 6) ∧ 0 ≤ m.cls ∧ m.cls ≤ 9
instance (m : Mk) : Decidable (MkOk m) := by unfold MkOk; exact inferInstance
def lastSym (l : List Mk) : Nat → Int
  | 0 => -1
  | i + 1 => (l.getD i noMk).sym
def MarksOk (l : List Mk) : Prop := ∀ i, i < l.length → MkOk (l.getD i noMk) ∧ lastSym l i < (l.getD i noMk).sym
instance (l : List Mk) : Decidable (MarksOk l) := by unfold MarksOk; exact inferInstance
def BkOk (b : Bk) : Prop := (1 ≤ b.office ∧ b.office ≤ 20) ∧ b.marks.length ≤ 100 ∧ MarksOk b.marks
instance (b : Bk) : Decidable (BkOk b) := by unfold BkOk; exact inferInstance
def findM (l : List Mk) (n : Int) : Option Mk := l.find? fun m => decide (m.sym = n)
/-- The first one of the least class among those that fit. -/
def bestM (m : Mk) : List Mk → Mk → Mk
  | [], b => b
  | x :: l, b => bestM m l (if x.kind = m.kind ∧ m.cls ≤ x.cls ∧ x.cls < b.cls then x else b)
def transM (l : List Mk) (m : Mk) : Option Mk := if (bestM m l ⟨0, 0, 10⟩).cls ≤ 9 then some (bestM m l ⟨0, 0, 10⟩) else none
theorem best_of (m : Mk) : ∀ (l : List Mk) (b : Mk), bestM m l b = b ∨ (bestM m l b ∈ l ∧ (bestM m l b).kind = m.kind ∧ m.cls ≤ (bestM m l b).cls)
  | [], b => .inl rfl
  | x :: l, b => by
    unfold bestM
    split
    · next h =>
      rcases best_of m l x with e | ⟨h1, h2, h3⟩
      · rw [e]
        exact .inr ⟨by simp, h.1, h.2.1⟩
      · exact .inr ⟨List.mem_cons_of_mem _ h1, h2, h3⟩
    · rcases best_of m l b with e | ⟨h1, h2, h3⟩
      · exact .inl e
      · exact .inr ⟨List.mem_cons_of_mem _ h1, h2, h3⟩
theorem trans_of {l : List Mk} {m t : Mk} (h : transM l m = some t) : t ∈ l ∧ t.kind = m.kind ∧ m.cls ≤ t.cls := by
  unfold transM at h
  split at h
  · next hc =>
    cases h
    rcases best_of m l ⟨0, 0, 10⟩ with e | h
    · rw [e] at hc
      exact absurd hc (by decide)
    · exact h
  · cases h
theorem find_of {l : List Mk} {n : Int} {m : Mk} (h : findM l n = some m) : m ∈ l ∧ m.sym = n := by
  unfold findM at h
  exact ⟨List.mem_of_find?_eq_some h, by simpa using List.find?_some h⟩
theorem marks_up {l : List Mk} (h : MarksOk l) : l.Pairwise fun a b => a.sym < b.sym := by
  have key : ∀ j, j < l.length → ∀ i, i < j → (l.getD i noMk).sym < (l.getD j noMk).sym := by
    intro j
    induction j with
    | zero => intro _ i hi; omega
    | succ j ih =>
      intro hj i hi
      have h1 : (l.getD j noMk).sym < (l.getD (j + 1) noMk).sym := (h (j + 1) hj).2
      rcases Nat.lt_or_ge i j with h2 | h2
      · have := ih (by omega) i h2
        omega
      · obtain rfl : i = j := by omega
        exact h1
  rw [List.pairwise_iff_getElem]
  intro i j hi hj hij
  have := key j hj i hij
  rwa [List.getD_eq_getElem?_getD, List.getD_eq_getElem?_getD, List.getElem?_eq_getElem hi, List.getElem?_eq_getElem hj] at this
theorem find_mem {l : List Mk} (h : MarksOk l) {m : Mk} (hm : m ∈ l) : findM l m.sym = some m := by
  have hu := marks_up h
  unfold findM
  clear h
  induction l with
  | nil => simp at hm
  | cons x l ih =>
    have hp := List.pairwise_cons.1 hu
    rw [List.find?_cons]
    rcases List.mem_cons.1 hm with rfl | hm
    · simp
    · have := hp.1 m hm
      rw [show decide (x.sym = m.sym) = false from decide_eq_false (by omega)]
      exact ih hm hp.2
/-- The numbers of a datum. -/
def stretchD (m : Dat) : Int := dHi (max (m.a * m.a + m.d * m.d) (m.b * m.b + m.e * m.e) + max (m.a * m.b + m.d * m.e) (-(m.a * m.b + m.d * m.e)))
def WholeD (m : Dat) : Prop := m.a % 1000000 = 0 ∧ m.b % 1000000 = 0 ∧ m.d % 1000000 = 0 ∧ m.e % 1000000 = 0
instance (m : Dat) : Decidable (WholeD m) := by unfold WholeD; exact inferInstance
def resD (m : Dat) : Int := if WholeD m then m.r else m.r + 1
def slackD (m : Dat) : Int := dHi (2 * resD m * resD m)
def shrinkD (m : Dat) : Int := (m.a * m.e - m.b * m.d) / stretchD m
def BxOk (b : Bx) : Prop := (-1000000 ≤ b.lx ∧ b.lx ≤ b.hx ∧ b.hx ≤ 1000000) ∧ -1000000 ≤ b.ly ∧ b.ly ≤ b.hy ∧ b.hy ≤ 1000000
instance (b : Bx) : Decidable (BxOk b) := by unfold BxOk; exact inferInstance
def midB (b : Bx) : Pt := ((b.lx + b.hx) / 2, (b.ly + b.hy) / 2)
def grownD (m : Dat) (r : Int) : Int := (r * stretchD m + 999999) / 1000000
/-- The corners of the boxes; none: one is out of range. -/
def allD (m : Dat) (l : List Pt) : Option (List Pt) := if ∀ p ∈ l, BxOk (boxOf m p) then some (l.flatMap fun p => cornersB (boxOf m p)) else none
def joinB (a b : Bx) : Bx := ⟨min a.lx b.lx, max a.hx b.hx, min a.ly b.ly, max a.hy b.hy⟩
def joinL (m : Dat) : List Pt → Bx
  | [] => ⟨0, 0, 0, 0⟩
  | p :: l => l.foldl (fun b q => joinB b (boxOf m q)) (boxOf m p)
def rectB (b : Bx) : Option (List Pt) := if b.lx = b.hx ∨ b.ly = b.hy then none else some [(b.lx, b.ly), (b.hx, b.ly), (b.hx, b.hy), (b.lx, b.hy)]
def lePt (a b : Pt) : Bool := decide (a.1 < b.1 ∨ a.1 = b.1 ∧ a.2 ≤ b.2)
def onceP : List Pt → List Pt
  | a :: b :: r => if a = b then onceP (b :: r) else a :: onceP (b :: r)
  | l => l
def ascL (l : List Pt) : List Pt := onceP (l.mergeSort lePt)
/-- The hull of places: none and false: there is none; none and true: it has too many corners. -/
def hullP (l : List Pt) : Option (List Pt) := if (hullL (ascL l)).length < 3 then none else some (hullL (ascL l))
def areaD (m : Dat) (l : List Pt) : Option (List Pt) :=
  match allD m l with
  | none => none
  | some all => match hullP all with
    | none => none
    | some h => if 24 < h.length then rectB (joinL m l) else some h
theorem once_mem (x : Pt) : ∀ l : List Pt, x ∈ onceP l ↔ x ∈ l
  | [] => Iff.rfl
  | [_] => Iff.rfl
  | a :: b :: r => by
    unfold onceP
    by_cases h : a = b
    · rw [if_pos h, once_mem x (b :: r), h]
      simp
    · rw [if_neg h, List.mem_cons, List.mem_cons, once_mem x (b :: r)]
theorem once_up : ∀ {l : List Pt}, l.Pairwise (fun a b => lePt a b = true) → (onceP l).Pairwise LexLt
  | [], _ => List.Pairwise.nil
  | [_], _ => List.pairwise_singleton _ _
  | a :: b :: r, h => by
    have hp := List.pairwise_cons.1 h
    unfold onceP
    by_cases e : a = b
    · rw [if_pos e]
      exact once_up hp.2
    · rw [if_neg e]
      refine List.pairwise_cons.2 ⟨fun x hx => ?_, once_up hp.2⟩
      have hxm := (once_mem x (b :: r)).1 hx
      have hb := hp.1 b (by simp)
      have hbx : x = b ∨ lePt b x = true := by
        rcases List.mem_cons.1 hxm with rfl | hx
        · exact .inl rfl
        · exact .inr ((List.pairwise_cons.1 hp.2).1 x hx)
      have hab : LexLt a b := by
        obtain ⟨a1, a2⟩ := a
        obtain ⟨b1, b2⟩ := b
        unfold lePt at hb
        unfold LexLt OrdLt
        simp only [Prod.mk.injEq, decide_eq_true_eq] at e hb ⊢
        omega
      rcases hbx with rfl | hbx
      · exact hab
      · unfold lePt at hbx
        unfold LexLt OrdLt at hab ⊢
        simp only [decide_eq_true_eq] at hbx
        omega
theorem asc_up (l : List Pt) : (ascL l).Pairwise LexLt := by
  refine once_up (List.pairwise_mergeSort (fun a b c h1 h2 => ?_) (fun a b => ?_) l)
  · unfold lePt at *
    simp only [decide_eq_true_eq] at *
    omega
  · unfold lePt
    simp only [Bool.or_eq_true, decide_eq_true_eq]
    omega
theorem asc_mem (x : Pt) (l : List Pt) : x ∈ ascL l ↔ x ∈ l := by
  unfold ascL
  rw [once_mem, List.mem_mergeSort]
/-- A rectangle is convex, and has its box. -/
theorem rect_left {b : Bx} {g : List Pt} (h : rectB b = some g) (hx : b.lx ≤ b.hx) (hy : b.ly ≤ b.hy) {z : Pt} (z1 : b.lx ≤ z.1) (z2 : z.1 ≤ b.hx) (z3 : b.ly ≤ z.2) (z4 : z.2 ≤ b.hy) : LeftX g.length (ptX g) z.1 z.2 := by
  unfold rectB at h
  split at h
  · cases h
  · cases h
    intro i hi
    have hi : i < 4 := hi
    have k : ∀ a c : Int, 0 ≤ a → 0 ≤ c → 0 ≤ a * c := fun a c h1 h2 => mul_nn h1 h2
    have hi4 : i = 0 ∨ i = 1 ∨ i = 2 ∨ i = 3 := by omega
    rcases hi4 with rfl | rfl | rfl | rfl
    · show 0 ≤ crs b.lx b.ly b.hx b.ly z.1 z.2
      unfold crs
      have := k (b.hx - b.lx) (z.2 - b.ly) (by omega) (by omega)
      rw [Int.sub_self, Int.zero_mul]; omega
    · show 0 ≤ crs b.hx b.ly b.hx b.hy z.1 z.2
      unfold crs
      have := k (b.hy - b.ly) (b.hx - z.1) (by omega) (by omega)
      rw [Int.sub_self, Int.zero_mul]
      have e : (b.hy - b.ly) * (z.1 - b.hx) = -((b.hy - b.ly) * (b.hx - z.1)) := by grind
      omega
    · show 0 ≤ crs b.hx b.hy b.lx b.hy z.1 z.2
      unfold crs
      have := k (b.hx - b.lx) (b.hy - z.2) (by omega) (by omega)
      rw [Int.sub_self, Int.zero_mul]
      have e : (b.lx - b.hx) * (z.2 - b.hy) = (b.hx - b.lx) * (b.hy - z.2) := by grind
      omega
    · rw [show nxt (List.length [(b.lx, b.ly), (b.hx, b.ly), (b.hx, b.hy), (b.lx, b.hy)]) 3 = 0 from by simp [nxt]]
      show 0 ≤ crs b.lx b.hy b.lx b.ly z.1 z.2
      unfold crs
      have := k (b.hy - b.ly) (z.1 - b.lx) (by omega) (by omega)
      rw [Int.sub_self, Int.zero_mul]
      have e : (b.ly - b.hy) * (z.1 - b.lx) = -((b.hy - b.ly) * (z.1 - b.lx)) := by grind
      omega
theorem rect_conv {b : Bx} {g : List Pt} (h : rectB b = some g) (hx : b.lx ≤ b.hx) (hy : b.ly ≤ b.hy) : ConvX g.length (ptX g) := fun i hi k hk => by
  have hg := h
  unfold rectB at h
  split at h
  · cases h
  · cases h
    have hk : k < 4 := hk
    have hk4 : k = 0 ∨ k = 1 ∨ k = 2 ∨ k = 3 := by omega
    rcases hk4 with rfl | rfl | rfl | rfl
    · exact rect_left hg hx hy (z := (b.lx, b.ly)) (Int.le_refl _) hx (Int.le_refl _) hy i hi
    · exact rect_left hg hx hy (z := (b.hx, b.ly)) hx (Int.le_refl _) (Int.le_refl _) hy i hi
    · exact rect_left hg hx hy (z := (b.hx, b.hy)) hx (Int.le_refl _) hy (Int.le_refl _) i hi
    · exact rect_left hg hx hy (z := (b.lx, b.hy)) (Int.le_refl _) hx hy (Int.le_refl _) i hi
theorem join_has (m : Dat) : ∀ (l : List Pt) (b : Bx) (z : Pt), (b.lx ≤ z.1 ∧ z.1 ≤ b.hx ∧ b.ly ≤ z.2 ∧ z.2 ≤ b.hy ∨ ∃ p ∈ l, (boxOf m p).lx ≤ z.1 ∧ z.1 ≤ (boxOf m p).hx ∧ (boxOf m p).ly ≤ z.2 ∧ z.2 ≤ (boxOf m p).hy) →
    (l.foldl (fun b q => joinB b (boxOf m q)) b).lx ≤ z.1 ∧ z.1 ≤ (l.foldl (fun b q => joinB b (boxOf m q)) b).hx ∧ (l.foldl (fun b q => joinB b (boxOf m q)) b).ly ≤ z.2 ∧ z.2 ≤ (l.foldl (fun b q => joinB b (boxOf m q)) b).hy
  | [], b, z, h => by
    rcases h with h | ⟨p, hp, _⟩
    · exact h
    · simp at hp
  | q :: l, b, z, h => by
    refine join_has m l (joinB b (boxOf m q)) z ?_
    rcases h with h | ⟨p, hp, h⟩
    · left
      unfold joinB
      simp only
      omega
    · rcases List.mem_cons.1 hp with rfl | hp
      · left
        unfold joinB
        simp only
        omega
      · exact .inr ⟨p, hp, h⟩
theorem corner_in {b : Bx} (h : BxOk b) {z : Pt} (hz : z ∈ cornersB b) : b.lx ≤ z.1 ∧ z.1 ≤ b.hx ∧ b.ly ≤ z.2 ∧ z.2 ≤ b.hy := by
  obtain ⟨⟨_, h1, _⟩, _, h2, _⟩ := h
  unfold cornersB at hz
  simp only [List.mem_cons, List.not_mem_nil, or_false] at hz
  rcases hz with rfl | rfl | rfl | rfl <;> exact ⟨by omega, by omega, by omega, by omega⟩
/-- What the area that is carried has on the left of its edges. -/
theorem area_left {m : Dat} {l g : List Pt} (h : areaD m l = some g) : ConvX g.length (ptX g) ∧ ∀ p ∈ l, ∀ z ∈ cornersB (boxOf m p), LeftX g.length (ptX g) z.1 z.2 := by
  unfold areaD at h
  split at h
  · cases h
  · next all hall =>
    unfold allD at hall
    split at hall
    · next hok =>
      cases hall
      split at h
      · cases h
      · next hu hh =>
        unfold hullP at hh
        split at hh
        · cases hh
        · next h3 =>
          cases hh
          split at h
          · -- the rectangle
            cases l with
            | nil => simp [hullL, ascL, onceP, halfR] at h3
            | cons p0 l =>
              have hb : ∀ z : Pt, (∃ p ∈ p0 :: l, (boxOf m p).lx ≤ z.1 ∧ z.1 ≤ (boxOf m p).hx ∧ (boxOf m p).ly ≤ z.2 ∧ z.2 ≤ (boxOf m p).hy) → (joinL m (p0 :: l)).lx ≤ z.1 ∧ z.1 ≤ (joinL m (p0 :: l)).hx ∧ (joinL m (p0 :: l)).ly ≤ z.2 ∧ z.2 ≤ (joinL m (p0 :: l)).hy := fun z hz => by
                refine join_has m l (boxOf m p0) z ?_
                obtain ⟨p, hp, hz⟩ := hz
                rcases List.mem_cons.1 hp with rfl | hp
                · exact .inl hz
                · exact .inr ⟨p, hp, hz⟩
              have hp0 := hok p0 (by simp)
              have k1 := hb ((boxOf m p0).lx, (boxOf m p0).ly) ⟨p0, by simp, corner_in hp0 (by simp [cornersB])⟩
              simp only at k1
              have hx : (joinL m (p0 :: l)).lx ≤ (joinL m (p0 :: l)).hx := by omega
              have hy : (joinL m (p0 :: l)).ly ≤ (joinL m (p0 :: l)).hy := by omega
              refine ⟨rect_conv h hx hy, fun p hp z hz => ?_⟩
              have kz := hb z ⟨p, hp, corner_in (hok p hp) hz⟩
              exact rect_left h hx hy kz.1 kz.2.1 kz.2.2.1 kz.2.2.2
          · cases h
            refine ⟨hull_conv (asc_up _) (by omega), fun p hp z hz => ?_⟩
            exact hull_left (asc_up _) (by omega) z ((asc_mem z _).2 (List.mem_flatMap.2 ⟨p, hp, hz⟩))
    · cases hall
end Go.Proofs.YtmhgcmcifdclmaaGreat
/- Plain laws of chapter 20: what is carried covers; symbols; lists. -/
namespace Go.Proofs.YtmhgcmcifdclmaaGreat
set_option linter.unusedVariables false
def dirD (m : Dat) (vx vy : Int) : Option Pt :=
  let x := m.a * vx + m.b * vy
  let y := m.d * vx + m.e * vy
  let g : Int := Int.gcd x y
  if (-1000000 ≤ x / g ∧ x / g ≤ 1000000) ∧ -1000000 ≤ y / g ∧ y / g ≤ 1000000 then some (x / g, y / g) else none
def rangeD (m : Dat) (r : Int) : Int := min 3000000 (r * shrinkD m / 1000000 - slackD m)
/-- Sectors as they are carried; none: a direction is out of range. -/
def secsD (m : Dat) : List Sec → Option (List Sec)
  | [] => some []
  | s :: l => match dirD m s.fx s.fy, dirD m s.tx s.ty, secsD m l with
    | some u, some v, some r => some (if 0 < rangeD m s.rng then ⟨u.1, u.2, v.1, v.2, s.col, rangeD m s.rng⟩ :: r else r)
    | _, _, _ => none
def carryF (m : Dat) (f : Feat) (n : Int) : Option Feat :=
  if f.kind = 3 ∨ f.kind = 6 then (areaD m f.area).map fun g => { f with area := g, sym := n }
  else if ¬ BxOk (boxOf m (f.x, f.y)) then none
  else if f.kind = 4 then (secsD m f.secs).map fun s => { f with x := (midB (boxOf m (f.x, f.y))).1, y := (midB (boxOf m (f.x, f.y))).2, secs := s, sym := n }
  else some { f with x := (midB (boxOf m (f.x, f.y))).1, y := (midB (boxOf m (f.x, f.y))).2, rad := grownD m f.rad + slackD m, sym := n }
def oneD (m : Dat) (A B : List Mk) (f : Feat) : Except Int Feat :=
  match findM A f.sym with
  | none => .error 11
  | some mk => if mk.kind ≠ f.kind then .error 12 else match transM B mk with
    | none => .error 4
    | some t => match carryF m f t.sym with
      | none => .error 3
      | some g => if FeatOk g then .ok g else .error 3
theorem dHi_sq {n : Int} (h : 0 ≤ n) : n ≤ dHi n * dHi n ∧ 0 ≤ dHi n := by
  have h1 := isq_lt h
  have h2 := isq_nn n
  unfold dHi
  split
  · next e => rw [e]; exact ⟨Int.le_refl _, h2⟩
  · exact ⟨by omega, by omega⟩
theorem mul_self_nn (a : Int) : 0 ≤ a * a := sq_nn a
theorem stretch_sq (m : Dat) : 0 ≤ stretchD m ∧ m.a * m.a + m.d * m.d + (m.a * m.b + m.d * m.e) ≤ stretchD m * stretchD m ∧ m.a * m.a + m.d * m.d - (m.a * m.b + m.d * m.e) ≤ stretchD m * stretchD m ∧ m.b * m.b + m.e * m.e + (m.a * m.b + m.d * m.e) ≤ stretchD m * stretchD m ∧ m.b * m.b + m.e * m.e - (m.a * m.b + m.d * m.e) ≤ stretchD m * stretchD m := by
  have h1 := sq_nn m.a
  have h2 := sq_nn m.d
  have h := dHi_sq (n := max (m.a * m.a + m.d * m.d) (m.b * m.b + m.e * m.e) + max (m.a * m.b + m.d * m.e) (-(m.a * m.b + m.d * m.e))) (by omega)
  unfold stretchD
  generalize dHi _ = S at h
  omega
theorem mid_near (m : Dat) (p : Pt) (hr : 0 ≤ m.r) : (-(1000000 * (resD m - m.r)) ≤ 1000000 * (midB (boxOf m p)).1 - atX m p ∧ 1000000 * (midB (boxOf m p)).1 - atX m p ≤ 1000000 * (resD m - m.r)) ∧ (-(1000000 * (resD m - m.r)) ≤ 1000000 * (midB (boxOf m p)).2 - atY m p ∧ 1000000 * (midB (boxOf m p)).2 - atY m p ≤ 1000000 * (resD m - m.r)) := by
  have key : ∀ v : Int, -(1000000 * (1 : Int)) ≤ 1000000 * ((dnM (v - 1000000 * m.r) + upM (v + 1000000 * m.r)) / 2) - v ∧ 1000000 * ((dnM (v - 1000000 * m.r) + upM (v + 1000000 * m.r)) / 2) - v ≤ 1000000 * 1 ∧ (v % 1000000 = 0 → 1000000 * ((dnM (v - 1000000 * m.r) + upM (v + 1000000 * m.r)) / 2) - v = 0) := fun v => by
    unfold dnM upM
    omega
  have kx := key (atX m p)
  have ky := key (atY m p)
  unfold midB boxOf resD
  simp only
  split
  · next h =>
    obtain ⟨h1, h2, h3, h4⟩ := h
    have dv : ∀ a x : Int, a % 1000000 = 0 → (a * x) % 1000000 = 0 := fun a x h => by rw [Int.mul_emod, h, Int.zero_mul, Int.zero_emod]
    have ex : atX m p % 1000000 = 0 := by
      have a1 := dv m.a p.1 h1
      have a2 := dv m.b p.2 h2
      unfold atX
      omega
    have ey : atY m p % 1000000 = 0 := by
      have a1 := dv m.d p.1 h3
      have a2 := dv m.e p.2 h4
      unfold atY
      omega
    have := kx.2.2 ex
    have := ky.2.2 ey
    omega
  · omega
theorem near_disc (px py ax ay r : Int) : nearB px py ax ay ax ay r = decide (sqd ax ay px py ≤ r * r) := by
  have hf : foot px py ax ay ax ay = 0 := by unfold foot; grind
  unfold nearB sqNum sqFac sqDen
  rw [hf]
  simp only [Int.le_refl, if_true, Int.mul_one]
theorem sqd_comm (ax ay bx by' : Int) : sqd ax ay bx by' = sqd bx by' ax ay := by unfold sqd; grind
/-- The carried feature covers all places that a covered place may be. -/
theorem carry_cover {m : Dat} {f g : Feat} {n : Int} {p q : Pt} (hm : DatOk m) (hf : FeatOk f) (h : carryF m f n = some g) (hg : FeatOk g) (hfit : FitsD m p q) (hc : covB f p.1 p.2 = true) : covB g q.1 q.2 = true := by
  have hr : 0 ≤ m.r := hm.2.2.2.2.1
  unfold carryF at h
  unfold covB at hc ⊢
  by_cases k4 : f.kind = 4
  · rw [if_pos k4] at hc; cases hc
  rw [if_neg k4] at hc
  by_cases k3 : f.kind = 3 ∨ f.kind = 6
  · rw [if_pos k3] at h hc
    cases ha : areaD m f.area with
    | none => rw [ha] at h; cases h
    | some a =>
      rw [ha] at h
      simp only [Option.map_some, Option.some.injEq] at h
      subst h
      obtain ⟨hconv, hleft⟩ := area_left ha
      have hp := of_decide_eq_true hc
      simp only
      rw [if_neg k4, if_pos k3]
      refine decide_eq_true ?_
      have hpoly : PolyOk a.length (ptX a) := by
        have hform := hg.2
        unfold FormR at hform
        simp only at hform
        rw [if_neg (show ¬ DiscK f.kind by unfold DiscK; omega)] at hform
        by_cases hz : f.kind = 3 ∨ f.kind = 6 ∧ f.dep ≤ 0
        · rw [if_pos hz] at hform
          exact hform.1
        · rw [if_neg hz] at hform
          exact absurd hform.1 k4
      refine cover_poly (n := f.area.length) (A := ptX f.area) hfit hp hpoly hconv fun i hi z hz => ?_
      have hmem : f.area.getD i (0, 0) ∈ f.area := by
        rw [List.getD_eq_getElem?_getD, List.getElem?_eq_getElem hi]
        exact List.getElem_mem hi
      exact hleft _ hmem z hz
  · rw [if_neg k3] at h hc
    split at h
    · cases h
    · try rw [if_neg k4] at h
      cases h
      simp only
      rw [if_neg k4, if_neg k3]
      rw [near_disc] at hc ⊢
      have hz := of_decide_eq_true hc
      refine decide_eq_true ?_
      have hS := stretch_sq m
      have hres : 0 ≤ resD m := by unfold resD; split <;> omega
      have hs := dHi_sq (n := 2 * resD m * resD m) (by have := mul_nn hres hres; have e : 2 * resD m * resD m = 2 * (resD m * resD m) := by grind
                                                       omega)
      have hrad : 0 ≤ f.rad := hf.1.2.2.2.1
      have hmid := mid_near m (f.x, f.y) hr
      rw [sqd_comm]
      refine cover_disc (m := m) (at_ := (f.x, f.y)) (z := p) (q := q) (at' := midB (boxOf m (f.x, f.y))) (rad := f.rad) (n := resD m) (S := stretchD m) (s := slackD m) hfit hS.1 hs.2 hrad hS.2.1 hS.2.2.1 hS.2.2.2.1 hS.2.2.2.2 (by rw [sqd_comm]; exact hz) ?_ hres ?_ ?_ ?_
      · have := hs.1
        have e : 2 * resD m * resD m = 2 * (resD m * resD m) := by grind
        unfold slackD
        omega
      · intro ex e
        rw [e]
        exact hmid.1
      · intro ey e
        rw [e]
        exact hmid.2
      · have e : stretchD m * f.rad = f.rad * stretchD m := Int.mul_comm _ _
        unfold grownD
        omega
theorem carry_same {m : Dat} {f g : Feat} {n : Int} (h : carryF m f n = some g) : g.id = f.id ∧ g.kind = f.kind ∧ g.dep = f.dep ∧ g.sym = n := by
  unfold carryF at h
  split at h
  · cases ha : areaD m f.area with
    | none => rw [ha] at h; cases h
    | some a => rw [ha] at h; cases h; exact ⟨rfl, rfl, rfl, rfl⟩
  · split at h
    · cases h
    · split at h
      · cases hs : secsD m f.secs with
        | none => rw [hs] at h; cases h
        | some s => rw [hs] at h; cases h; exact ⟨rfl, rfl, rfl, rfl⟩
      · cases h; exact ⟨rfl, rfl, rfl, rfl⟩
/-- What one feature is carried to. -/
theorem one_ok {m : Dat} {A B : List Mk} {f g : Feat} (h : oneD m A B f = .ok g) : FeatOk g ∧ ∃ mk t, findM A f.sym = some mk ∧ mk.kind = f.kind ∧ transM B mk = some t ∧ carryF m f t.sym = some g := by
  unfold oneD at h
  split at h
  · cases h
  · next mk hmk =>
    split at h
    · cases h
    · next hk =>
      split at h
      · cases h
      · next t ht =>
        split at h
        · cases h
        · next g' hg' =>
          split at h
          · next hok =>
            cases h
            exact ⟨hok, mk, t, hmk, Classical.byContradiction fun hn => hk hn, ht, hg'⟩
          · cases h
/-- No mark of a carried feature has a lesser class. -/
theorem one_symbols {m : Dat} {A B : List Mk} {f g : Feat} (hB : MarksOk B) (h : oneD m A B f = .ok g) : ∃ x y, findM A f.sym = some x ∧ findM B g.sym = some y ∧ x.kind = f.kind ∧ y.kind = f.kind ∧ x.cls ≤ y.cls := by
  obtain ⟨_, mk, t, h1, h2, h3, h4⟩ := one_ok h
  obtain ⟨t1, t2, t3⟩ := trans_of h3
  refine ⟨mk, t, h1, ?_, h2, by rw [t2, h2], t3⟩
  rw [(carry_same h4).2.2.2]
  exact find_mem hB t1
end Go.Proofs.YtmhgcmcifdclmaaGreat
/- Plain facts for the walks of chapter 20: the least root, the bounds of stretch, shrink and slack; directions. -/
namespace Go.Proofs.YtmhgcmcifdclmaaGreat
set_option linter.unusedVariables false
theorem sq_mono {a b : Int} (h0 : 0 ≤ a) (h : a ≤ b) : a * a ≤ b * b := Int.mul_le_mul h h h0 (by omega)
theorem dHi_iff {n r : Int} (hn : 0 ≤ n) (hr : 0 ≤ r) : n ≤ r * r ↔ dHi n ≤ r := by
  have h := dHi_sq hn
  constructor
  · intro h1
    refine Int.not_lt.1 fun hc => ?_
    have h2 := isq_le hn
    have h3 := isq_nn n
    unfold dHi at hc
    split at hc
    · next e =>
      have := sq_mono hr (show r ≤ isq n - 1 by omega)
      have e2 : (isq n - 1) * (isq n - 1) = isq n * isq n - 2 * isq n + 1 := by grind
      omega
    · next e =>
      have := sq_mono hr (show r ≤ isq n by omega)
      omega
  · intro h1
    have := sq_mono h.2 h1
    omega
theorem dHi_le {n r : Int} (hn : 0 ≤ n) (hr : 0 ≤ r) (h : n ≤ r * r) : dHi n ≤ r := (dHi_iff hn hr).1 h
/-- What the stretch is the root of. -/
def stretchN (m : Dat) : Int := max (m.a * m.a + m.d * m.d) (m.b * m.b + m.e * m.e) + max (m.a * m.b + m.d * m.e) (-(m.a * m.b + m.d * m.e))
theorem stretch_eq (m : Dat) : stretchD m = dHi (stretchN m) := rfl
theorem part_sq {x : Int} (h : PartOk x) : 0 ≤ x * x ∧ x * x ≤ 4000000000000 := by
  have := mul_bd h.1 h.2 h.1 h.2
  exact ⟨sq_nn x, by omega⟩
theorem part_mul {x y : Int} (h : PartOk x) (k : PartOk y) : -4000000000000 ≤ x * y ∧ x * y ≤ 4000000000000 := by
  have := mul_bd h.1 h.2 k.1 k.2
  omega
theorem stretchN_bd {m : Dat} (h : DatOk m) : 250000000000 ≤ stretchN m ∧ stretchN m ≤ 16000000000000 ∧ m.a * m.e - m.b * m.d ≤ stretchN m := by
  obtain ⟨⟨ha, hb, hd, he⟩, hdet, _⟩ := h
  have a2 := part_sq ha
  have b2 := part_sq hb
  have d2 := part_sq hd
  have e2 := part_sq he
  have ab := part_mul ha hb
  have de := part_mul hd he
  have s1 := sq_nn (m.a - m.e)
  have s2 := sq_nn (m.b + m.d)
  have e1 : (m.a - m.e) * (m.a - m.e) = m.a * m.a + m.e * m.e - 2 * (m.a * m.e) := by grind
  have e3 : (m.b + m.d) * (m.b + m.d) = m.b * m.b + m.d * m.d + 2 * (m.b * m.d) := by grind
  unfold stretchN
  omega
theorem stretch_bd {m : Dat} (h : DatOk m) : 1 ≤ stretchD m ∧ stretchD m ≤ 4000000 ∧ m.a * m.e - m.b * m.d ≤ stretchD m * stretchD m := by
  obtain ⟨h1, h2, h3⟩ := stretchN_bd h
  have h4 := dHi_sq (n := stretchN m) (by omega)
  have h5 := dHi_le (n := stretchN m) (r := 4000000) (by omega) (by omega) (by omega)
  rw [stretch_eq]
  refine ⟨?_, h5, by omega⟩
  rcases Int.lt_or_le 0 (dHi (stretchN m)) with h6 | h6
  · omega
  · have h7 : dHi (stretchN m) = 0 := by omega
    rw [h7] at h4
    omega
theorem shrink_bd {m : Dat} (h : DatOk m) : 0 ≤ shrinkD m ∧ shrinkD m ≤ 4000000 := by
  obtain ⟨h1, h2, h3⟩ := stretch_bd h
  have hd := h.2.1
  unfold shrinkD
  refine ⟨Int.ediv_nonneg (by omega) (by omega), ?_⟩
  have := Int.ediv_le_ediv (c := stretchD m) (by omega) h3
  rw [Int.mul_ediv_cancel _ (by omega)] at this
  omega
theorem res_bd {m : Dat} (h : DatOk m) : 0 ≤ resD m ∧ resD m ≤ 1001 := by
  have := h.2.2.2.2
  unfold resD
  split <;> omega
theorem slack_bd {m : Dat} (h : DatOk m) : 0 ≤ slackD m ∧ slackD m ≤ 1416 := by
  have h1 := res_bd h
  have h2 := sq_mono h1.1 h1.2
  have h3 := sq_nn (resD m)
  have e : 2 * resD m * resD m = 2 * (resD m * resD m) := Int.mul_assoc ..
  unfold slackD
  rw [e]
  exact ⟨(dHi_sq (by omega)).2, dHi_le (by omega) (by omega) (by omega)⟩
theorem grown_bd {m : Dat} (h : DatOk m) {r : Int} (h0 : 0 ≤ r) (h1 : r ≤ 100000) : 0 ≤ r * stretchD m ∧ r * stretchD m ≤ 400000000000 ∧ 0 ≤ grownD m r ∧ grownD m r ≤ 400001 := by
  obtain ⟨s1, s2, _⟩ := stretch_bd h
  have a1 := mul_nn h0 (show 0 ≤ stretchD m by omega)
  have a2 := (mul_bd (a := r) (b := stretchD m) (A := 100000) (B := 4000000) (by omega) h1 (by omega) s2).2
  unfold grownD
  omega
/-- A direction stays one. -/
theorem dir_stays {m : Dat} (h : DatOk m) {x y : Int} (hv : ¬ (x = 0 ∧ y = 0)) : ¬ (m.a * x + m.b * y = 0 ∧ m.d * x + m.e * y = 0) := by
  rintro ⟨h1, h2⟩
  have hd := h.2.1
  have e1 : (m.a * m.e - m.b * m.d) * x = m.e * (m.a * x + m.b * y) - m.b * (m.d * x + m.e * y) := by grind
  have e2 : (m.a * m.e - m.b * m.d) * y = m.a * (m.d * x + m.e * y) - m.d * (m.a * x + m.b * y) := by grind
  rw [h1, h2] at e1 e2
  simp only [Int.mul_zero, Int.sub_zero] at e1 e2
  rcases Int.mul_eq_zero.1 e1 with h3 | h3
  · omega
  · rcases Int.mul_eq_zero.1 e2 with h4 | h4
    · omega
    · exact hv ⟨h3, h4⟩
end Go.Proofs.YtmhgcmcifdclmaaGreat
