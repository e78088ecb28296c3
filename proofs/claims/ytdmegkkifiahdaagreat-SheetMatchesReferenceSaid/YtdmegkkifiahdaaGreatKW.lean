/- WindMath, WindSum, WindAll, WindPlace: joined. -/
import Derived.Test.YtdmegkkifiahdaaGreatKD
/- Plain geometry: the windings of a simple polygon (its edges by heights). -/
namespace Go.Proofs.YtdmegkkifiahdaaGreat
set_option linter.unusedVariables false
section
variable (n : Nat) (X : Nat → Nat → Int)
def exI (i : Nat) : Int := X (nxt n i) 0
def eyI (i : Nat) : Int := X (nxt n i) 1
/-- The rise of an edge; its place at a height, in Q-ths; M: Q over the rise. -/
def riseI (i : Nat) : Int := eyI n X i - X i 1
def posI (M : Nat → Int) (i : Nat) (y : Int) : Int := M i * (X i 0 * (eyI n X i - y) + exI n X i * (y - X i 1))
def spanB (k : Int) (i : Nat) : Bool := decide (X i 1 ≤ k ∧ k < eyI n X i ∨ eyI n X i ≤ k ∧ k < X i 1)
def sgnI (i : Nat) : Int := if X i 1 < eyI n X i then 1 else -1
def sumI (F : Nat → Int) : Nat → Int
  | 0 => 0
  | m + 1 => sumI F m + F m
end
theorem sumI_congr {F G : Nat → Int} : ∀ {m : Nat}, (∀ i, i < m → F i = G i) → sumI F m = sumI G m
  | 0, _ => rfl
  | m + 1, h => by unfold sumI; rw [h m (by omega), sumI_congr fun i hi => h i (by omega)]
theorem sumI_sub (F G : Nat → Int) : ∀ m, sumI (fun i => F i - G i) m = sumI F m - sumI G m
  | 0 => rfl
  | m + 1 => by unfold sumI; rw [sumI_sub F G m]; omega
theorem sumI_zero {F : Nat → Int} {m : Nat} (h : ∀ i, i < m → F i = 0) : sumI F m = 0 := by
  rw [sumI_congr h]
  clear h
  induction m with
  | zero => rfl
  | succ m ih => unfold sumI; rw [ih]; rfl
theorem sumI_tele (P : Nat → Int) : ∀ m, sumI (fun i => P i - P (i + 1)) m = P 0 - P m
  | 0 => by unfold sumI; omega
  | m + 1 => by unfold sumI; rw [sumI_tele P m]; omega
theorem sumI_one {F : Nat → Int} : ∀ {m j : Nat}, j < m → (∀ i, i < m → i ≠ j → F i = 0) → sumI F m = F j
  | 0, j, hj, _ => absurd hj (Nat.not_lt_zero _)
  | m + 1, j, hj, h => by
    unfold sumI
    rcases Nat.lt_or_ge j m with k | k
    · rw [sumI_one k fun i hi hne => h i (by omega) hne, h m (by omega) (by omega)]
      omega
    · obtain rfl : j = m := by omega
      rw [sumI_zero fun i hi => h i (by omega) (by omega)]
      omega
theorem sumI_cyc {n : Nat} (hn : 0 < n) (P : Nat → Int) : sumI (fun i => P i - P (nxt n i)) n = 0 := by
  have h := sumI_tele (fun i => P (i % n)) n
  rw [Nat.mod_self, Nat.zero_mod, Int.sub_self] at h
  rw [← h]
  exact sumI_congr fun i hi => by rw [Nat.mod_eq_of_lt hi]; rfl
/-- A common multiple of the rises. -/
theorem common (d : Nat → Int) : ∀ n : Nat, ∃ (Q : Int) (M : Nat → Int), 0 < Q ∧ ∀ i, i < n → d i ≠ 0 → Q = d i * M i
  | 0 => ⟨1, fun _ => 1, by omega, fun i hi => absurd hi (Nat.not_lt_zero _)⟩
  | n + 1 => by
    obtain ⟨Q, M, hQ, h⟩ := common d n
    by_cases h0 : d n = 0
    · exact ⟨Q, M, hQ, fun i hi hd => by
        rcases Nat.lt_or_ge i n with k | k
        · exact h i k hd
        · obtain rfl : i = n := by omega
          exact absurd h0 hd⟩
    · have hpos : 0 < d n * d n := by
        rcases Int.lt_or_gt_of_ne h0 with k | k
        · exact Int.mul_pos_of_neg_of_neg k k
        · exact Int.mul_pos k k
      refine ⟨Q * (d n * d n), fun i => if i = n then Q * d n else M i * (d n * d n), Int.mul_pos hQ hpos, fun i hi hd => ?_⟩
      by_cases hin : i = n
      · subst hin
        show Q * (d i * d i) = d i * (if i = i then Q * d i else M i * (d i * d i))
        rw [if_pos rfl]
        grind
      · show Q * (d n * d n) = d i * (if i = n then Q * d n else M i * (d n * d n))
        rw [if_neg hin]
        have := h i (by omega) hd
        grind
/-- All that is asked of the edges: a common multiple of the rises. -/
structure Edg (n : Nat) (X : Nat → Nat → Int) (Q : Int) (M : Nat → Int) : Prop where
  n3 : 3 ≤ n
  pos : 0 < Q
  mul : ∀ i, i < n → riseI n X i ≠ 0 → Q = riseI n X i * M i
  turn : ∀ i, i < n → turnX X (prv n i) i (nxt n i) ≠ 0
  simple : SimpleOk n X
section
variable {n : Nat} {X : Nat → Nat → Int} {Q : Int} {M : Nat → Int}
theorem span_rise {k : Int} {i : Nat} (h : spanB n X k i = true) : riseI n X i ≠ 0 := by
  have := of_decide_eq_true h
  unfold riseI
  omega
theorem pos_crs (E : Edg n X Q M) {i : Nat} (hi : i < n) (hr : riseI n X i ≠ 0) (zx zy : Int) : posI n X M i zy - Q * zx = M i * crs (X i 0) (X i 1) (exI n X i) (eyI n X i) zx zy := by
  have h := E.mul i hi hr
  unfold riseI at h
  unfold posI crs
  rw [h]
  grind
theorem pos_start (E : Edg n X Q M) {i : Nat} (hi : i < n) (hr : riseI n X i ≠ 0) : posI n X M i (X i 1) = Q * X i 0 := by
  have h := E.mul i hi hr
  unfold riseI at h
  unfold posI
  rw [h]
  grind
theorem pos_end (E : Edg n X Q M) {i : Nat} (hi : i < n) (hr : riseI n X i ≠ 0) : posI n X M i (eyI n X i) = Q * exI n X i := by
  have h := E.mul i hi hr
  unfold riseI at h
  unfold posI
  rw [h]
  grind
/-- The places of an edge go evenly. -/
theorem pos_affine (i : Nat) (y z : Int) : posI n X M i z = posI n X M i y + M i * (exI n X i - X i 0) * (z - y) := by
  unfold posI
  grind
theorem M_ne (E : Edg n X Q M) {i : Nat} (hi : i < n) (hr : riseI n X i ≠ 0) : M i ≠ 0 := fun h0 => by
  have h := E.mul i hi hr
  have := E.pos
  rw [h0, Int.mul_zero] at h
  omega
theorem on_of {ax ay bx by' zx zy : Int} (h0 : crs ax ay bx by' zx zy = 0) (hne : ay ≠ by') (h1 : min ay by' ≤ zy) (h2 : zy ≤ max ay by') : OnS zx zy ax ay bx by' := by
  -- between in x, by the height between
  have mid : ∀ {px py qx qy rx ry : Int}, py ≤ ry → ry ≤ qy → py < qy → crs px py qx qy rx ry = 0 → min px qx ≤ rx ∧ rx ≤ max px qx := by
    intro px py qx qy rx ry h1 h2 h3 h0
    have e1 : (qy - py) * (rx - px) = (qx - px) * (ry - py) := by unfold crs at h0; grind
    have e2 : (qy - py) * (rx - qx) = (px - qx) * (qy - ry) := by unfold crs at h0; grind
    have e3 : (qy - py) * (qx - rx) = (qx - px) * (qy - ry) := by unfold crs at h0; grind
    have e4 : (qy - py) * (px - rx) = (px - qx) * (ry - py) := by unfold crs at h0; grind
    rcases Int.le_total px qx with hx | hx
    · have k1 := mul_nn (show 0 ≤ qx - px by omega) (show 0 ≤ ry - py by omega)
      have k2 := mul_nn (show 0 ≤ qx - px by omega) (show 0 ≤ qy - ry by omega)
      have := Int.nonneg_of_mul_nonneg_right (show 0 ≤ (qy - py) * (rx - px) by omega) (by omega)
      have := Int.nonneg_of_mul_nonneg_right (show 0 ≤ (qy - py) * (qx - rx) by omega) (by omega)
      omega
    · have k1 := mul_nn (show 0 ≤ px - qx by omega) (show 0 ≤ qy - ry by omega)
      have k2 := mul_nn (show 0 ≤ px - qx by omega) (show 0 ≤ ry - py by omega)
      have := Int.nonneg_of_mul_nonneg_right (show 0 ≤ (qy - py) * (rx - qx) by omega) (by omega)
      have := Int.nonneg_of_mul_nonneg_right (show 0 ≤ (qy - py) * (px - rx) by omega) (by omega)
      omega
  rcases Int.lt_or_gt_of_ne hne with h | h
  · have := mid (by omega) (by omega) h h0
    exact ⟨h0, this.1, this.2, by omega, by omega⟩
  · have h0' : crs bx by' ax ay zx zy = 0 := by unfold crs at h0 ⊢; grind
    have := mid (by omega) (by omega) h h0'
    exact ⟨h0, by omega, by omega, by omega, by omega⟩
/-- The lesser and the greater height of an edge. -/
theorem sgn_of {M c1 c2 : Int} (h : M * c1 < 0 ∧ 0 < M * c2 ∨ 0 < M * c1 ∧ M * c2 < 0) : c1.sign * c2.sign < 0 := by
  rw [← Int.sign_mul]
  have hlt : c1 * c2 < 0 := by
    refine Int.not_le.1 fun h0 => ?_
    have e : M * c1 * (M * c2) = M * M * (c1 * c2) := by grind
    have h1 : 0 ≤ M * M * (c1 * c2) := mul_nn (sq_nn M) h0
    rcases h with ⟨a, b⟩ | ⟨a, b⟩
    · have := Int.mul_neg_of_neg_of_pos a b
      omega
    · have := Int.mul_neg_of_pos_of_neg a b
      omega
  rw [Int.sign_eq_neg_one_of_neg hlt]
  omega
theorem meetX_comm (i j : Nat) : meetX n X i j = meetX n X j i := by
  unfold meetX meetB crossB
  refine Bool.eq_iff_iff.2 ?_
  simp only [Bool.or_eq_true, decide_eq_true_eq]
  grind
theorem meet_start {i j : Nat} (h : OnS (X i 0) (X i 1) (X j 0) (X j 1) (exI n X j) (eyI n X j)) : meetX n X i j = true := by
  unfold meetX meetB
  simp only [Bool.or_eq_true]
  exact .inr (.inl (decide_eq_true h))
theorem meet_end {i j : Nat} (h : OnS (exI n X i) (eyI n X i) (X j 0) (X j 1) (exI n X j) (eyI n X j)) : meetX n X i j = true := by
  unfold meetX meetB
  simp only [Bool.or_eq_true]
  exact .inr (.inr (.inl (decide_eq_true h)))
theorem meet_cross {i j : Nat} (h1 : (crs (X i 0) (X i 1) (exI n X i) (eyI n X i) (X j 0) (X j 1)).sign * (crs (X i 0) (X i 1) (exI n X i) (eyI n X i) (exI n X j) (eyI n X j)).sign < 0)
    (h2 : (crs (X j 0) (X j 1) (exI n X j) (eyI n X j) (X i 0) (X i 1)).sign * (crs (X j 0) (X j 1) (exI n X j) (eyI n X j) (exI n X i) (eyI n X i)).sign < 0) : meetX n X i j = true := by
  unfold meetX meetB crossB
  simp only [Bool.or_eq_true]
  exact .inl (decide_eq_true ⟨h1, h2⟩)
/-- A corner of an edge that is at the other one's place, at its height, lies on it. -/
theorem start_on (E : Edg n X Q M) {i j : Nat} (hi : i < n) (hj : j < n) (ri : riseI n X i ≠ 0) (rj : riseI n X j ≠ 0) (h1 : min (X j 1) (eyI n X j) ≤ X i 1) (h2 : X i 1 ≤ max (X j 1) (eyI n X j)) (h : posI n X M j (X i 1) = posI n X M i (X i 1)) : meetX n X i j = true := by
  refine meet_start (on_of ?_ ?_ h1 h2)
  · have e := pos_crs E hj rj (X i 0) (X i 1)
    rw [h, pos_start E hi ri, Int.sub_self] at e
    rcases Int.mul_eq_zero.1 e.symm with h | h
    · exact absurd h (M_ne E hj rj)
    · exact h
  · unfold riseI at rj
    omega
theorem end_on (E : Edg n X Q M) {i j : Nat} (hi : i < n) (hj : j < n) (ri : riseI n X i ≠ 0) (rj : riseI n X j ≠ 0) (h1 : min (X j 1) (eyI n X j) ≤ eyI n X i) (h2 : eyI n X i ≤ max (X j 1) (eyI n X j)) (h : posI n X M j (eyI n X i) = posI n X M i (eyI n X i)) : meetX n X i j = true := by
  refine meet_end (on_of ?_ ?_ h1 h2)
  · have e := pos_crs E hj rj (exI n X i) (eyI n X i)
    rw [h, pos_end E hi ri, Int.sub_self] at e
    rcases Int.mul_eq_zero.1 e.symm with h | h
    · exact absurd h (M_ne E hj rj)
    · exact h
  · unfold riseI at rj
    omega
/-- The difference of two edges' places goes evenly, too. -/
theorem gap_affine (i j : Nat) : ∃ S : Int, ∀ y z : Int, posI n X M j z - posI n X M i z = posI n X M j y - posI n X M i y + S * (z - y) :=
  ⟨M j * (exI n X j - X j 0) - M i * (exI n X i - X i 0), fun y z => by rw [pos_affine j y z, pos_affine i y z]; grind⟩
def lowI (n : Nat) (X : Nat → Nat → Int) (i : Nat) : Int := min (X i 1) (eyI n X i)
def topI (n : Nat) (X : Nat → Nat → Int) (i : Nat) : Int := max (X i 1) (eyI n X i)
set_option maxHeartbeats 2000000 in
/-- Edges that change sides meet. -/
theorem meet_of (E : Edg n X Q M) {i j : Nat} (hi : i < n) (hj : j < n) (ri : riseI n X i ≠ 0) (rj : riseI n X j ≠ 0) {y1 y2 : Int} (a1 : lowI n X i ≤ y1) (a2 : y1 ≤ topI n X i) (a3 : lowI n X j ≤ y1) (a4 : y1 ≤ topI n X j) (b1 : lowI n X i ≤ y2) (b2 : y2 ≤ topI n X i) (b3 : lowI n X j ≤ y2) (b4 : y2 ≤ topI n X j)
    (h1 : posI n X M i y1 ≤ posI n X M j y1) (h2 : posI n X M j y2 ≤ posI n X M i y2) : meetX n X i j = true := by
  obtain ⟨S, hS⟩ := gap_affine (n := n) (X := X) (M := M) i j
  obtain ⟨lo, hlo⟩ : ∃ l, max (lowI n X i) (lowI n X j) = l := ⟨_, rfl⟩
  obtain ⟨hg, hhg⟩ : ∃ l, min (topI n X i) (topI n X j) = l := ⟨_, rfl⟩
  have zero : ∀ y, (y = X i 1 ∨ y = eyI n X i ∨ y = X j 1 ∨ y = eyI n X j) → lowI n X i ≤ y → y ≤ topI n X i → lowI n X j ≤ y → y ≤ topI n X j → posI n X M j y - posI n X M i y = 0 → meetX n X i j = true := by
    intro y hy c1 c2 c3 c4 h0
    rcases hy with rfl | rfl | rfl | rfl
    · exact start_on E hi hj ri rj c3 c4 (by omega)
    · exact end_on E hi hj ri rj c3 c4 (by omega)
    · rw [meetX_comm]; exact start_on E hj hi rj ri c1 c2 (by omega)
    · rw [meetX_comm]; exact end_on E hj hi rj ri c1 c2 (by omega)
  have vlo : lo = X i 1 ∨ lo = eyI n X i ∨ lo = X j 1 ∨ lo = eyI n X j := by unfold lowI at hlo; omega
  have vhi : hg = X i 1 ∨ hg = eyI n X i ∨ hg = X j 1 ∨ hg = eyI n X j := by unfold topI at hhg; omega
  by_cases z1 : posI n X M j lo - posI n X M i lo = 0
  · exact zero lo vlo (by omega) (by omega) (by omega) (by omega) z1
  by_cases z2 : posI n X M j hg - posI n X M i hg = 0
  · exact zero hg vhi (by omega) (by omega) (by omega) (by omega) z2
  have e1 := hS lo y1
  have e2 := hS lo y2
  have e3 := hS hg y1
  have e4 := hS hg y2
  have e5 := hS lo hg
  -- what holds at both ends holds between
  have up : ∀ y, lo ≤ y → y ≤ hg → 0 < posI n X M j lo - posI n X M i lo → 0 < posI n X M j hg - posI n X M i hg → 0 < posI n X M j y - posI n X M i y := by
    intro y k1 k2 k3 k4
    rcases Int.le_total 0 S with hs | hs
    · have := mul_nn hs (show 0 ≤ y - lo by omega)
      rw [hS lo y]; omega
    · have := mul_nn (show 0 ≤ -S by omega) (show 0 ≤ hg - y by omega)
      rw [hS hg y]
      have e : S * (y - hg) = -S * (hg - y) := by grind
      omega
  have dn : ∀ y, lo ≤ y → y ≤ hg → posI n X M j lo - posI n X M i lo < 0 → posI n X M j hg - posI n X M i hg < 0 → posI n X M j y - posI n X M i y < 0 := by
    intro y k1 k2 k3 k4
    rcases Int.le_total 0 S with hs | hs
    · have := mul_nn hs (show 0 ≤ hg - y by omega)
      rw [hS hg y]
      have e : S * (y - hg) = -(S * (hg - y)) := by grind
      omega
    · have := mul_nn (show 0 ≤ -S by omega) (show 0 ≤ y - lo by omega)
      rw [hS lo y]
      have e : S * (y - lo) = -(-S * (y - lo)) := by grind
      omega
  have n1 : ¬ (0 < posI n X M j lo - posI n X M i lo ∧ 0 < posI n X M j hg - posI n X M i hg) := fun h => by
    have := up y2 (by omega) (by omega) h.1 h.2
    omega
  have n2 : ¬ (posI n X M j lo - posI n X M i lo < 0 ∧ posI n X M j hg - posI n X M i hg < 0) := fun h => by
    have := dn y1 (by omega) (by omega) h.1 h.2
    omega
  have hle : lo ≤ hg := by omega
  -- beyond both ends the sides are the same
  have far : ∀ y z, y ≤ lo → hg ≤ z → (posI n X M j y - posI n X M i y < 0 ∧ 0 < posI n X M j z - posI n X M i z ∨ 0 < posI n X M j y - posI n X M i y ∧ posI n X M j z - posI n X M i z < 0) := by
    intro y z ky kz
    have f1 := hS lo y
    have f2 := hS hg z
    rcases (by omega : posI n X M j lo - posI n X M i lo < 0 ∧ 0 < posI n X M j hg - posI n X M i hg ∨ 0 < posI n X M j lo - posI n X M i lo ∧ posI n X M j hg - posI n X M i hg < 0) with ⟨k1, k2⟩ | ⟨k1, k2⟩
    · have hs : 0 ≤ S := by
        refine Int.not_lt.1 fun hs => ?_
        have := mul_nn (show 0 ≤ -S by omega) (show 0 ≤ hg - lo by omega)
        have e : S * (hg - lo) = -(-S * (hg - lo)) := by grind
        omega
      have m1 := mul_nn hs (show 0 ≤ lo - y by omega)
      have m2 := mul_nn hs (show 0 ≤ z - hg by omega)
      have e : S * (y - lo) = -(S * (lo - y)) := by grind
      omega
    · have hs : 0 ≤ -S := by
        refine Int.not_lt.1 fun hs => ?_
        have := mul_nn (show 0 ≤ S by omega) (show 0 ≤ hg - lo by omega)
        omega
      have m1 := mul_nn hs (show 0 ≤ lo - y by omega)
      have m2 := mul_nn hs (show 0 ≤ z - hg by omega)
      have e : S * (y - lo) = -S * (lo - y) := by grind
      have e' : S * (z - hg) = -(-S * (z - hg)) := by grind
      omega
  have both : ∀ u v, (u ≤ lo ∧ hg ≤ v ∨ v ≤ lo ∧ hg ≤ u) → (posI n X M j u - posI n X M i u < 0 ∧ 0 < posI n X M j v - posI n X M i v ∨ 0 < posI n X M j u - posI n X M i u ∧ posI n X M j v - posI n X M i v < 0) := by
    intro u v h
    rcases h with h | h
    · exact far u v h.1 h.2
    · have := far v u h.1 h.2
      omega
  have gi := both (X i 1) (eyI n X i) (by unfold lowI at hlo; unfold topI at hhg; omega)
  have gj := both (X j 1) (eyI n X j) (by unfold lowI at hlo; unfold topI at hhg; omega)
  refine meet_cross (sgn_of (M := M i) ?_) (sgn_of (M := M j) ?_)
  · have c1 := pos_crs E hi ri (X j 0) (X j 1)
    have c2 := pos_crs E hi ri (exI n X j) (eyI n X j)
    rw [← pos_start E hj rj] at c1
    rw [← pos_end E hj rj] at c2
    rw [← c1, ← c2]
    omega
  · have c1 := pos_crs E hj rj (X i 0) (X i 1)
    have c2 := pos_crs E hj rj (exI n X i) (eyI n X i)
    rw [← pos_start E hi ri] at c1
    rw [← pos_end E hi ri] at c2
    rw [← c1, ← c2]
    omega
/-- An edge that comes to a level one between its ends meets it. -/
theorem meet_level (E : Edg n X Q M) {i j : Nat} (hi : i < n) (hj : j < n) (ri : riseI n X i = 0) (rj : riseI n X j ≠ 0) (a1 : lowI n X j ≤ X i 1) (a2 : X i 1 ≤ topI n X j)
    (h : posI n X M j (X i 1) ≤ Q * X i 0 ∧ Q * exI n X i ≤ posI n X M j (X i 1) ∨ Q * X i 0 ≤ posI n X M j (X i 1) ∧ posI n X M j (X i 1) ≤ Q * exI n X i) : meetX n X i j = true := by
  have hk : eyI n X i = X i 1 := by unfold riseI at ri; omega
  have hQ := E.pos
  have c1 := pos_crs E hj rj (X i 0) (X i 1)
  have c2 := pos_crs E hj rj (exI n X i) (eyI n X i)
  rw [hk] at c2
  have hne : X j 1 ≠ eyI n X j := by unfold riseI at rj; omega
  by_cases z1 : posI n X M j (X i 1) - Q * X i 0 = 0
  · rw [z1] at c1
    refine meet_start (on_of ?_ hne a1 a2)
    rcases Int.mul_eq_zero.1 c1.symm with h | h
    · exact absurd h (M_ne E hj rj)
    · exact h
  by_cases z2 : posI n X M j (X i 1) - Q * exI n X i = 0
  · rw [z2] at c2
    refine meet_end ?_
    rw [hk]
    refine on_of ?_ hne a1 a2
    rcases Int.mul_eq_zero.1 c2.symm with h | h
    · exact absurd h (M_ne E hj rj)
    · exact h
  -- where an end of the other one lies on the level one
  have lie : ∀ x : Int, Q * x = posI n X M j (X i 1) → OnS x (X i 1) (X i 0) (X i 1) (exI n X i) (eyI n X i) := by
    intro x hx
    rw [← hx] at h
    have hx1 : min (X i 0) (exI n X i) ≤ x ∧ x ≤ max (X i 0) (exI n X i) := by
      rcases h with ⟨p, q⟩ | ⟨p, q⟩
      · have p := Int.le_of_mul_le_mul_left p hQ
        have q := Int.le_of_mul_le_mul_left q hQ
        omega
      · have p := Int.le_of_mul_le_mul_left p hQ
        have q := Int.le_of_mul_le_mul_left q hQ
        omega
    refine ⟨?_, hx1.1, hx1.2, by omega, by omega⟩
    unfold crs
    rw [hk]
    grind
  by_cases s1 : X j 1 = X i 1
  · rw [meetX_comm]
    refine meet_start ?_
    rw [s1]
    exact lie _ (by rw [← s1, pos_start E hj rj])
  by_cases s2 : eyI n X j = X i 1
  · rw [meetX_comm]
    refine meet_end ?_
    rw [s2]
    exact lie _ (by rw [← s2, pos_end E hj rj])
  refine meet_cross (sgn_of (M := 1) ?_) (sgn_of (M := M j) ?_)
  · have d : exI n X i - X i 0 ≠ 0 := fun h0 => by
      have : exI n X i = X i 0 := by omega
      rw [this] at h
      omega
    have e1 : crs (X i 0) (X i 1) (exI n X i) (eyI n X i) (X j 0) (X j 1) = (exI n X i - X i 0) * (X j 1 - X i 1) := by unfold crs; rw [hk]; grind
    have e2 : crs (X i 0) (X i 1) (exI n X i) (eyI n X i) (exI n X j) (eyI n X j) = (exI n X i - X i 0) * (eyI n X j - X i 1) := by unfold crs; rw [hk]; grind
    rw [e1, e2, Int.one_mul, Int.one_mul]
    unfold lowI at a1
    unfold topI at a2
    rcases (by omega : X j 1 - X i 1 < 0 ∧ 0 < eyI n X j - X i 1 ∨ 0 < X j 1 - X i 1 ∧ eyI n X j - X i 1 < 0) with ⟨k1, k2⟩ | ⟨k1, k2⟩ <;> rcases Int.lt_or_gt_of_ne d with d | d
    · exact .inr ⟨Int.mul_pos_of_neg_of_neg d k1, Int.mul_neg_of_neg_of_pos d k2⟩
    · exact .inl ⟨Int.mul_neg_of_pos_of_neg d k1, Int.mul_pos d k2⟩
    · exact .inl ⟨Int.mul_neg_of_neg_of_pos d k1, Int.mul_pos_of_neg_of_neg d k2⟩
    · exact .inr ⟨Int.mul_pos d k1, Int.mul_neg_of_pos_of_neg d k2⟩
  · rw [hk, ← c1, ← c2]
    omega
end
end Go.Proofs.YtdmegkkifiahdaaGreat
/- Plain geometry: the winding on the left of the edges of a simple polygon is one number. -/
namespace Go.Proofs.YtdmegkkifiahdaaGreat
set_option linter.unusedVariables false
theorem nxt_val {n i : Nat} (hi : i < n) : nxt n i = if i + 1 = n then 0 else i + 1 := by
  unfold nxt
  split
  · next h => rw [h, Nat.mod_self]
  · exact Nat.mod_eq_of_lt (by omega)
theorem adj_of {n i j : Nat} (hi : i < n) (hj : j < n) (hne : i ≠ j) (h1 : ¬ FarApart n i j) (h2 : ¬ FarApart n j i) : j = nxt n i ∨ i = nxt n j := by
  rw [nxt_val hi, nxt_val hj]
  unfold FarApart at h1 h2
  by_cases e1 : i + 1 = n
  · rw [if_pos e1]
    by_cases e2 : j + 1 = n
    · omega
    · rw [if_neg e2]; omega
  · rw [if_neg e1]
    by_cases e2 : j + 1 = n
    · rw [if_pos e2]; omega
    · rw [if_neg e2]; omega
theorem sumI_two {F : Nat → Int} {m a b : Nat} (ha : a < m) (hb : b < m) (hab : a ≠ b) (h : ∀ i, i < m → i ≠ a → i ≠ b → F i = 0) : sumI F m = F a + F b := by
  have e1 := sumI_sub F (fun i => if i = a then F a else 0) m
  have e2 : sumI (fun i => if i = a then F a else 0) m = F a := by
    rw [sumI_one ha fun i hi hne => if_neg hne, if_pos rfl]
  have e3 : sumI (fun i => F i - (if i = a then F a else 0)) m = F b := by
    rw [sumI_one hb fun i hi hne => ?_]
    · rw [if_neg (Ne.symm hab), Int.sub_zero]
    · by_cases h0 : i = a
      · subst h0; rw [if_pos rfl, Int.sub_self]
      · rw [if_neg h0, h i hi h0 hne, Int.sub_zero]
  rw [e2, e3] at e1
  omega
section
variable {n : Nat} {X : Nat → Nat → Int} {Q : Int} {M : Nat → Int}
theorem meets_adj (E : Edg n X Q M) {i j : Nat} (hi : i < n) (hj : j < n) (hne : i ≠ j) (h : meetX n X i j = true) : j = nxt n i ∨ i = nxt n j := by
  refine adj_of hi hj hne (fun hf => ?_) fun hf => ?_
  · rw [E.simple i hi j hj hf] at h; cases h
  · rw [meetX_comm, E.simple j hj i hi hf] at h; cases h
/-- Neighbours have but their corner in common. -/
theorem bend (E : Edg n X Q M) {i : Nat} (hi : i < n) (ri : riseI n X i ≠ 0) (rj : riseI n X (nxt n i) ≠ 0) {y : Int} (h : posI n X M (nxt n i) y = posI n X M i y) : y = eyI n X i := by
  refine Decidable.byContradiction fun hne => ?_
  obtain ⟨S, hS⟩ := gap_affine (n := n) (X := X) (M := M) i (nxt n i)
  have hj : nxt n i < n := nxt_lt hi
  have e1 := pos_start E hj rj
  have e2 := pos_end E hi ri
  have e0 : posI n X M (nxt n i) (eyI n X i) = posI n X M i (eyI n X i) := by rw [e2]; exact e1
  have e3 := hS (eyI n X i) y
  have hS0 : S = 0 := by
    rcases Int.mul_eq_zero.1 (show S * (y - eyI n X i) = 0 by omega) with h | h
    · exact h
    · omega
  have e4 := hS (eyI n X i) (eyI n X (nxt n i))
  rw [hS0, Int.zero_mul] at e4
  have e5 := pos_end E hj rj
  have e6 := pos_crs E hi ri (exI n X (nxt n i)) (eyI n X (nxt n i))
  have e7 : crs (X i 0) (X i 1) (exI n X i) (eyI n X i) (exI n X (nxt n i)) (eyI n X (nxt n i)) = 0 := by
    rcases Int.mul_eq_zero.1 (show M i * crs (X i 0) (X i 1) (exI n X i) (eyI n X i) (exI n X (nxt n i)) (eyI n X (nxt n i)) = 0 by omega) with h | h
    · exact absurd h (M_ne E hi ri)
    · exact h
  have ht := E.turn (nxt n i) hj
  rw [prv_nxt hi] at ht
  refine ht ?_
  show (crs (X i 0) (X i 1) (exI n X i) (eyI n X i) (exI n X (nxt n i)) (eyI n X (nxt n i))).sign = 0
  rw [e7]
  rfl
theorem no_flats (E : Edg n X Q M) {i : Nat} (hi : i < n) (ri : riseI n X i = 0) : riseI n X (nxt n i) ≠ 0 := fun rj => by
  have ht := E.turn (nxt n i) (nxt_lt hi)
  rw [prv_nxt hi] at ht
  refine ht ?_
  show (crs (X i 0) (X i 1) (exI n X i) (eyI n X i) (exI n X (nxt n i)) (eyI n X (nxt n i))).sign = 0
  unfold riseI at ri rj
  have h1 : eyI n X i = X i 1 := by omega
  have h2 : eyI n X (nxt n i) = X i 1 := by
    have : X (nxt n i) 1 = eyI n X i := rfl
    omega
  have : crs (X i 0) (X i 1) (exI n X i) (eyI n X i) (exI n X (nxt n i)) (eyI n X (nxt n i)) = 0 := by
    unfold crs
    rw [h1, h2]
    grind
  rw [this]
  rfl
theorem touch (E : Edg n X Q M) {i j : Nat} (hi : i < n) (hj : j < n) (hne : i ≠ j) (ri : riseI n X i ≠ 0) (rj : riseI n X j ≠ 0) {k : Int} (a1 : lowI n X i ≤ k) (a2 : k ≤ topI n X i) (a3 : lowI n X j ≤ k) (a4 : k ≤ topI n X j)
    (h : posI n X M j k = posI n X M i k) : (j = nxt n i ∧ k = eyI n X i) ∨ (i = nxt n j ∧ k = eyI n X j) := by
  rcases meets_adj E hi hj hne (meet_of E hi hj ri rj a1 a2 a3 a4 a1 a2 a3 a4 (by omega) (by omega)) with e | e
  · subst e
    exact .inl ⟨rfl, bend E hi ri rj h⟩
  · subst e
    exact .inr ⟨rfl, bend E hj rj ri h.symm⟩
theorem touchH (E : Edg n X Q M) {i j : Nat} (hi : i < n) (hj : j < n) (ri : riseI n X i = 0) (rj : riseI n X j ≠ 0) (a1 : lowI n X j ≤ X i 1) (a2 : X i 1 ≤ topI n X j)
    (h : posI n X M j (X i 1) ≤ Q * X i 0 ∧ Q * exI n X i ≤ posI n X M j (X i 1) ∨ Q * X i 0 ≤ posI n X M j (X i 1) ∧ posI n X M j (X i 1) ≤ Q * exI n X i) : j = nxt n i ∨ i = nxt n j :=
  meets_adj E hi hj (fun e => by subst e; exact rj ri) (meet_level E hi hj ri rj a1 a2 h)
theorem span_lt {k : Int} {i : Nat} (h : spanB n X k i = true) : lowI n X i ≤ k ∧ k + 1 ≤ topI n X i := by
  have := of_decide_eq_true h
  unfold lowI topI
  omega
/-- The order of two edges of a strip. -/
theorem ord_next (E : Edg n X Q M) {i : Nat} (hi : i < n) {k : Int} (si : spanB n X k i = true) (sj : spanB n X k (nxt n i) = true) :
    (0 ≤ posI n X M (nxt n i) k - posI n X M i k ∧ 0 ≤ posI n X M (nxt n i) (k + 1) - posI n X M i (k + 1) ∧ 0 < posI n X M (nxt n i) k - posI n X M i k + (posI n X M (nxt n i) (k + 1) - posI n X M i (k + 1))) ∨
    (posI n X M (nxt n i) k - posI n X M i k ≤ 0 ∧ posI n X M (nxt n i) (k + 1) - posI n X M i (k + 1) ≤ 0 ∧ posI n X M (nxt n i) k - posI n X M i k + (posI n X M (nxt n i) (k + 1) - posI n X M i (k + 1)) < 0) := by
  have ri := span_rise si
  have rj := span_rise sj
  obtain ⟨S, hS⟩ := gap_affine (n := n) (X := X) (M := M) i (nxt n i)
  have e1 := pos_start E (nxt_lt hi) rj
  have e2 := pos_end E hi ri
  have e0 : posI n X M (nxt n i) (eyI n X i) = posI n X M i (eyI n X i) := by rw [e2]; exact e1
  have f1 := hS (eyI n X i) k
  have f2 := hS (eyI n X i) (k + 1)
  have hS0 : S ≠ 0 := fun h0 => by
    rw [h0, Int.zero_mul] at f1 f2
    have b1 := bend E hi ri rj (y := k) (by omega)
    have b2 := bend E hi ri rj (y := k + 1) (by omega)
    omega
  have hv : eyI n X i ≤ k ∨ k + 1 ≤ eyI n X i := by
    have := of_decide_eq_true si
    omega
  obtain ⟨v, hvv⟩ : ∃ v, eyI n X i = v := ⟨_, rfl⟩
  rw [hvv] at f1 f2 hv e0
  rcases Int.lt_or_gt_of_ne hS0 with hs | hs <;> rcases hv with hv | hv
  · right
    have p1 := mul_nn (show 0 ≤ -S by omega) (show 0 ≤ k - v by omega)
    have p2 := Int.mul_pos (show 0 < -S by omega) (show 0 < k + 1 - v by omega)
    rw [Int.neg_mul] at p1 p2
    omega
  · left
    have p1 := Int.mul_pos_of_neg_of_neg hs (show k - v < 0 by omega)
    have p2 := mul_nn (show 0 ≤ -S by omega) (show 0 ≤ v - (k + 1) by omega)
    have : -S * (v - (k + 1)) = S * (k + 1 - v) := by grind
    omega
  · left
    have p1 := mul_nn (show 0 ≤ S by omega) (show 0 ≤ k - v by omega)
    have p2 := Int.mul_pos hs (show 0 < k + 1 - v by omega)
    omega
  · right
    have p1 := Int.mul_neg_of_pos_of_neg hs (show k - v < 0 by omega)
    have p2 := mul_nn (show 0 ≤ S by omega) (show 0 ≤ v - (k + 1) by omega)
    have : S * (v - (k + 1)) = -(S * (k + 1 - v)) := by grind
    omega
theorem ord (E : Edg n X Q M) {i j : Nat} (hi : i < n) (hj : j < n) (hne : i ≠ j) {k : Int} (si : spanB n X k i = true) (sj : spanB n X k j = true) :
    (0 ≤ posI n X M j k - posI n X M i k ∧ 0 ≤ posI n X M j (k + 1) - posI n X M i (k + 1) ∧ 0 < posI n X M j k - posI n X M i k + (posI n X M j (k + 1) - posI n X M i (k + 1))) ∨
    (posI n X M j k - posI n X M i k ≤ 0 ∧ posI n X M j (k + 1) - posI n X M i (k + 1) ≤ 0 ∧ posI n X M j k - posI n X M i k + (posI n X M j (k + 1) - posI n X M i (k + 1)) < 0) := by
  by_cases hm : meetX n X i j = true
  · rcases meets_adj E hi hj hne hm with e | e
    · subst e
      exact ord_next E hi si sj
    · subst e
      have := ord_next E hj sj si
      omega
  · have li := span_lt si
    have lj := span_lt sj
    have no : ∀ y1 y2, (y1 = k ∨ y1 = k + 1) → (y2 = k ∨ y2 = k + 1) → ¬ (posI n X M i y1 ≤ posI n X M j y1 ∧ posI n X M j y2 ≤ posI n X M i y2) := fun y1 y2 h1 h2 h =>
      hm (meet_of E hi hj (span_rise si) (span_rise sj) (y1 := y1) (y2 := y2) (by omega) (by omega) (by omega) (by omega) (by omega) (by omega) (by omega) (by omega) h.1 h.2)
    have n1 := no k k (.inl rfl) (.inl rfl)
    have n2 := no k (k + 1) (.inl rfl) (.inr rfl)
    have n3 := no (k + 1) k (.inr rfl) (.inl rfl)
    have n4 := no (k + 1) (k + 1) (.inr rfl) (.inr rfl)
    omega
/-- The order's number of an edge in a strip; what is right of it; what is right of a place. -/
def kapI (n : Nat) (X : Nat → Nat → Int) (M : Nat → Int) (k : Int) (i : Nat) : Int := posI n X M i k + posI n X M i (k + 1)
def upI (n : Nat) (X : Nat → Nat → Int) (i : Nat) : Int := if X i 1 < eyI n X i then 1 else 0
def wI (n : Nat) (X : Nat → Nat → Int) (M : Nat → Int) (k : Int) (i : Nat) : Int := upI n X i + sumI (fun f => if spanB n X k f = true ∧ kapI n X M k i < kapI n X M k f then sgnI n X f else 0) n
def goI (n : Nat) (X : Nat → Nat → Int) (M : Nat → Int) (k y T : Int) : Int := sumI (fun f => if spanB n X k f = true ∧ T < posI n X M f y then sgnI n X f else 0) n
theorem w_go {k y T : Int} {e : Nat} (h : ∀ f, f < n → spanB n X k f = true → (T < posI n X M f y ↔ kapI n X M k e < kapI n X M k f)) : wI n X M k e = upI n X e + goI n X M k y T := by
  unfold wI goI
  congr 1
  refine sumI_congr fun f hf => ?_
  by_cases hs : spanB n X k f = true
  · simp only [hs, true_and, h f hf hs]
  · rw [if_neg (fun h => hs h.1), if_neg (fun h => hs h.1)]
theorem kap_iff (E : Edg n X Q M) {i j : Nat} (hi : i < n) (hj : j < n) {k y : Int} (hy : y = k ∨ y = k + 1) (si : spanB n X k i = true) (sj : spanB n X k j = true) (h : i ≠ j → posI n X M j y ≠ posI n X M i y) : posI n X M i y < posI n X M j y ↔ kapI n X M k i < kapI n X M k j := by
  by_cases hne : i = j
  · subst hne; omega
  have h := h hne
  have := ord E hi hj hne si sj
  unfold kapI
  rcases hy with rfl | rfl <;> omega
/-- From one strip to the next one: what is right of a place of the height between. -/
theorem go_up (E : Edg n X Q M) {k T : Int} (hs : ∀ i, i < n → riseI n X i = 0 → X i 1 = k + 1 → (T < Q * X i 0 ↔ T < Q * exI n X i)) : goI n X M (k + 1) (k + 1) T = goI n X M k (k + 1) T := by
  have h0 := sumI_sub (fun f => if spanB n X (k + 1) f = true ∧ T < posI n X M f (k + 1) then sgnI n X f else 0) (fun f => if spanB n X k f = true ∧ T < posI n X M f (k + 1) then sgnI n X f else 0) n
  have h1 := sumI_cyc (n := n) (by have := E.n3; omega) (fun i => if X i 1 = k + 1 ∧ T < Q * X i 0 then (1 : Int) else 0)
  have h2 : sumI (fun f => (if spanB n X (k + 1) f = true ∧ T < posI n X M f (k + 1) then sgnI n X f else 0) - (if spanB n X k f = true ∧ T < posI n X M f (k + 1) then sgnI n X f else 0)) n = sumI (fun i => (if X i 1 = k + 1 ∧ T < Q * X i 0 then (1 : Int) else 0) - (if X (nxt n i) 1 = k + 1 ∧ T < Q * X (nxt n i) 0 then (1 : Int) else 0)) n := by
    refine sumI_congr fun i hi => ?_
    show _ = (if X i 1 = k + 1 ∧ T < Q * X i 0 then (1 : Int) else 0) - (if eyI n X i = k + 1 ∧ T < Q * exI n X i then (1 : Int) else 0)
    have hsi := hs i hi
    by_cases r : riseI n X i = 0
    · have hk : eyI n X i = X i 1 := by unfold riseI at r; omega
      have hsi := hsi r
      unfold spanB
      rw [hk]
      simp only [decide_eq_true_eq]
      rw [if_neg (by omega), if_neg (by omega)]
      by_cases hy : X i 1 = k + 1
      · have := hsi hy
        simp only [hy, true_and, this]
        omega
      · rw [if_neg (fun h => hy h.1), if_neg (fun h => hy h.1)]
    · have p1 : X i 1 = k + 1 → posI n X M i (k + 1) = Q * X i 0 := fun h => by rw [← h]; exact pos_start E hi r
      have p2 : eyI n X i = k + 1 → posI n X M i (k + 1) = Q * exI n X i := fun h => by rw [← h]; exact pos_end E hi r
      unfold riseI at r
      unfold spanB sgnI
      simp only [decide_eq_true_eq]
      generalize posI n X M i (k + 1) = pp at *
      generalize Q * X i 0 = qa at *
      generalize Q * exI n X i = qb at *
      generalize X i 1 = ya at *
      generalize eyI n X i = yb at *
      clear hs h0 h1 hsi
      repeat' split
      all_goals omega
  unfold goI
  omega
/-- Along an edge. -/
theorem along (E : Edg n X Q M) {e : Nat} (he : e < n) {k : Int} (s0 : spanB n X k e = true) (s1 : spanB n X (k + 1) e = true) : wI n X M k e = wI n X M (k + 1) e := by
  have re := span_rise s0
  have t0 := span_lt s0
  have t1 := span_lt s1
  have hmid : X e 1 ≠ k + 1 ∧ eyI n X e ≠ k + 1 := by
    have a := of_decide_eq_true s0
    have b := of_decide_eq_true s1
    omega
  have no : ∀ f, f < n → riseI n X f ≠ 0 → lowI n X f ≤ k + 1 → k + 1 ≤ topI n X f → e ≠ f → posI n X M f (k + 1) ≠ posI n X M e (k + 1) := fun f hf rf l1 l2 hne h => by
    rcases touch E he hf hne re rf (by omega) (by omega) l1 l2 h with ⟨e1, e2⟩ | ⟨e1, e2⟩
    · exact hmid.2 e2.symm
    · refine hmid.1 ?_
      rw [e2]
      subst e1
      rfl
  rw [w_go (n := n) (X := X) (M := M) (y := k + 1) (T := posI n X M e (k + 1)) fun f hf sf => kap_iff E he hf (.inr rfl) s0 sf fun hne => no f hf (span_rise sf) (by have := span_lt sf; omega) (by have := span_lt sf; omega) hne,
    w_go (n := n) (X := X) (M := M) (y := k + 1) (T := posI n X M e (k + 1)) fun f hf sf => kap_iff E he hf (.inl rfl) s1 sf fun hne => no f hf (span_rise sf) (by have := span_lt sf; omega) (by have := span_lt sf; omega) hne,
    go_up E]
  intro i hi ri hx
  refine Decidable.byContradiction fun hno => ?_
  rcases touchH E hi he ri re (by omega) (by omega) (by rw [hx]; omega) with h | h
  · refine hmid.1 ?_
    have : eyI n X i = k + 1 := by unfold riseI at ri; omega
    rw [← this, h]
    rfl
  · refine hmid.2 ?_
    have : X i 1 = eyI n X e := by rw [h]; rfl
    omega
end
end Go.Proofs.YtdmegkkifiahdaaGreat
/- Plain geometry: the winding number of a simple polygon is 0, or one number of -1 and 1. -/
namespace Go.Proofs.YtdmegkkifiahdaaGreat
set_option linter.unusedVariables false
section
variable {n : Nat} {X : Nat → Nat → Int} {Q : Int} {M : Nat → Int}
theorem sgn_up {i : Nat} (h : X i 1 < eyI n X i) : sgnI n X i = 1 ∧ upI n X i = 1 := by
  unfold sgnI upI
  rw [if_pos h, if_pos h]
  exact ⟨rfl, rfl⟩
theorem sgn_down {i : Nat} (h : ¬ X i 1 < eyI n X i) : sgnI n X i = -1 ∧ upI n X i = 0 := by
  unfold sgnI upI
  rw [if_neg h, if_neg h]
  exact ⟨rfl, rfl⟩
/-- Two edges of a strip that have a corner in common, the one upward, the other one downward. -/
theorem fork (E : Edg n X Q M) {a b : Nat} (ha : a < n) (hb : b < n) (hab : a ≠ b) {s y : Int} (hy : y = s ∨ y = s + 1) (sa : spanB n X s a = true) (sb : spanB n X s b = true) (hud : X a 1 < eyI n X a ↔ ¬ X b 1 < eyI n X b)
    (F : ∀ f, f < n → f ≠ a → f ≠ b → spanB n X s f = true → (posI n X M f y < posI n X M a y ∧ posI n X M f y < posI n X M b y) ∨ (posI n X M a y < posI n X M f y ∧ posI n X M b y < posI n X M f y)) : wI n X M s a = wI n X M s b := by
  have h0 := sumI_sub (fun f => if spanB n X s f = true ∧ kapI n X M s a < kapI n X M s f then sgnI n X f else 0) (fun f => if spanB n X s f = true ∧ kapI n X M s b < kapI n X M s f then sgnI n X f else 0) n
  rw [sumI_two ha hb hab fun f hf h1 h2 => ?_] at h0
  · have ho := ord E ha hb hab sa sb
    have hk : kapI n X M s a ≠ kapI n X M s b := by unfold kapI; omega
    unfold wI
    simp only [sa, sb, true_and, Int.lt_irrefl, if_false] at h0
    by_cases hu : X a 1 < eyI n X a
    · have hd := hud.1 hu
      rw [(sgn_up hu).1, (sgn_down hd).1] at h0
      rw [(sgn_up hu).2, (sgn_down hd).2]
      rcases Int.lt_or_gt_of_ne hk with h | h
      · rw [if_neg (by omega), if_pos h] at h0
        omega
      · rw [if_pos h, if_neg (by omega)] at h0
        omega
    · have hd : X b 1 < eyI n X b := Decidable.byContradiction fun h => hu (hud.2 h)
      rw [(sgn_down hu).1, (sgn_up hd).1] at h0
      rw [(sgn_down hu).2, (sgn_up hd).2]
      rcases Int.lt_or_gt_of_ne hk with h | h
      · rw [if_neg (by omega), if_pos h] at h0
        omega
      · rw [if_pos h, if_neg (by omega)] at h0
        omega
  · by_cases hs : spanB n X s f = true
    · have hF := F f hf h1 h2 hs
      have ka := kap_iff E ha hf hy sa hs fun _ => by omega
      have kb := kap_iff E hb hf hy sb hs fun _ => by omega
      simp only [hs, true_and]
      by_cases hl : kapI n X M s a < kapI n X M s f
      · rw [if_pos hl, if_pos (kb.1 (by have := ka.2 hl; omega)), Int.sub_self]
      · rw [if_neg hl, if_neg (fun h => hl (ka.1 (by have := kb.2 h; omega))), Int.sub_self]
    · rw [if_neg (fun h => hs h.1), if_neg (fun h => hs h.1), Int.sub_self]
/-- The strip of an edge at its lower, or upper end. -/
theorem span_at {i : Nat} (r : riseI n X i ≠ 0) : (∀ k, X i 1 < eyI n X i → (k = X i 1 ∨ k + 1 = eyI n X i) → spanB n X k i = true) ∧ (∀ k, ¬ X i 1 < eyI n X i → (k = eyI n X i ∨ k + 1 = X i 1) → spanB n X k i = true) := by
  unfold riseI at r
  unfold spanB
  simp only [decide_eq_true_eq]
  exact ⟨fun k h1 h2 => by omega, fun k h1 h2 => by omega⟩
theorem junction (E : Edg n X Q M) {a b : Nat} (ha : a < n) (hb : b < n) (hab : a ≠ b) (ra : riseI n X a ≠ 0) (rb : riseI n X b ≠ 0) {k : Int} (pa : eyI n X a = k + 1) (pb : X b 1 = k + 1)
    (F1 : ∀ f, f < n → f ≠ a → f ≠ b → riseI n X f ≠ 0 → lowI n X f ≤ k + 1 → k + 1 ≤ topI n X f → (posI n X M f (k + 1) < posI n X M a (k + 1) ∧ posI n X M f (k + 1) < posI n X M b (k + 1)) ∨ (posI n X M a (k + 1) < posI n X M f (k + 1) ∧ posI n X M b (k + 1) < posI n X M f (k + 1)))
    (F2 : ∀ i, i < n → riseI n X i = 0 → X i 1 = k + 1 → (max (posI n X M a (k + 1)) (posI n X M b (k + 1)) < Q * X i 0 ↔ max (posI n X M a (k + 1)) (posI n X M b (k + 1)) < Q * exI n X i)) :
    ∃ ka kb, spanB n X ka a = true ∧ spanB n X kb b = true ∧ wI n X M ka a = wI n X M kb b := by
  have sa := span_at ra
  have sb := span_at rb
  have rng : ∀ {s f}, spanB n X s f = true → (s = k ∨ s = k + 1) → lowI n X f ≤ k + 1 ∧ k + 1 ≤ topI n X f := fun h hs => by
    have := span_lt h
    omega
  have nota : ∀ {s f}, f ≠ a → f ≠ b → f < n → spanB n X s f = true → (s = k ∨ s = k + 1) → _ := fun h1 h2 hf hs hk => F1 _ hf h1 h2 (span_rise hs) (rng hs hk).1 (rng hs hk).2
  by_cases ua : X a 1 < eyI n X a <;> by_cases ub : X b 1 < eyI n X b
  · -- upward through
    have s1 := sa.1 k ua (.inr pa.symm)
    have s2 := sb.1 (k + 1) ub (.inl pb.symm)
    refine ⟨k, k + 1, s1, s2, ?_⟩
    rw [w_go (n := n) (X := X) (M := M) (y := k + 1) (T := max (posI n X M a (k + 1)) (posI n X M b (k + 1))) (e := a) fun f hf sf => ?_,
      w_go (n := n) (X := X) (M := M) (y := k + 1) (T := max (posI n X M a (k + 1)) (posI n X M b (k + 1))) (e := b) fun f hf sf => ?_, go_up E F2, (sgn_up ua).2, (sgn_up ub).2]
    · by_cases h1 : f = b
      · subst h1; omega
      by_cases h2 : f = a
      · subst h2
        have := of_decide_eq_true sf
        omega
      have hF := nota h2 h1 hf sf (.inr rfl)
      rw [← kap_iff E hb hf (y := k + 1) (.inl rfl) s2 sf fun _ => by omega]
      omega
    · by_cases h1 : f = a
      · subst h1; omega
      by_cases h2 : f = b
      · subst h2
        have := of_decide_eq_true sf
        omega
      have hF := nota h1 h2 hf sf (.inl rfl)
      rw [← kap_iff E ha hf (y := k + 1) (.inr rfl) s1 sf fun _ => by omega]
      omega
  · -- both below
    have s1 := sa.1 k ua (.inr pa.symm)
    have s2 := sb.2 k ub (.inr pb.symm)
    exact ⟨k, k, s1, s2, fork E ha hb hab (y := k + 1) (.inr rfl) s1 s2 ⟨fun _ => ub, fun _ => ua⟩ fun f hf h1 h2 hs => nota h1 h2 hf hs (.inl rfl)⟩
  · -- both above
    have s1 := sa.2 (k + 1) ua (.inl pa.symm)
    have s2 := sb.1 (k + 1) ub (.inl pb.symm)
    exact ⟨k + 1, k + 1, s1, s2, fork E ha hb hab (y := k + 1) (.inl rfl) s1 s2 ⟨fun h => absurd h ua, fun h => absurd ub h⟩ fun f hf h1 h2 hs => nota h1 h2 hf hs (.inr rfl)⟩
  · -- downward through
    have s1 := sa.2 (k + 1) ua (.inl pa.symm)
    have s2 := sb.2 k ub (.inr pb.symm)
    refine ⟨k + 1, k, s1, s2, ?_⟩
    rw [w_go (n := n) (X := X) (M := M) (y := k + 1) (T := max (posI n X M a (k + 1)) (posI n X M b (k + 1))) (e := a) fun f hf sf => ?_,
      w_go (n := n) (X := X) (M := M) (y := k + 1) (T := max (posI n X M a (k + 1)) (posI n X M b (k + 1))) (e := b) fun f hf sf => ?_, go_up E F2, (sgn_down ua).2, (sgn_down ub).2]
    · by_cases h1 : f = b
      · subst h1; omega
      by_cases h2 : f = a
      · subst h2
        have := of_decide_eq_true sf
        omega
      have hF := nota h2 h1 hf sf (.inl rfl)
      rw [← kap_iff E hb hf (y := k + 1) (.inr rfl) s2 sf fun _ => by omega]
      omega
    · by_cases h1 : f = a
      · subst h1; omega
      by_cases h2 : f = b
      · subst h2
        have := of_decide_eq_true sf
        omega
      have hF := nota h1 h2 hf sf (.inr rfl)
      rw [← kap_iff E ha hf (y := k + 1) (.inl rfl) s1 sf fun _ => by omega]
      omega
theorem rng_end {i : Nat} {k : Int} (h : X i 1 = k ∨ eyI n X i = k) : lowI n X i ≤ k ∧ k ≤ topI n X i := by
  unfold lowI topI
  omega
/-- A level edge that has a place of another one's end is a neighbour. -/
theorem level_near (E : Edg n X Q M) {i j : Nat} (hi : i < n) (hj : j < n) (ri : riseI n X i = 0) (rj : riseI n X j ≠ 0) {k T : Int} (hk : X i 1 = k) (hr : lowI n X j ≤ k ∧ k ≤ topI n X j) (hT : posI n X M j k = T) (h : ¬ (T < Q * X i 0 ↔ T < Q * exI n X i)) : j = nxt n i ∨ i = nxt n j := by
  subst hk hT
  exact touchH E hi hj ri rj hr.1 hr.2 (by omega)
theorem jun_near (E : Edg n X Q M) {a : Nat} (ha : a < n) (ra : riseI n X a ≠ 0) (rb : riseI n X (nxt n a) ≠ 0) :
    ∃ ka kb, spanB n X ka a = true ∧ spanB n X kb (nxt n a) = true ∧ wI n X M ka a = wI n X M kb (nxt n a) := by
  have hb : nxt n a < n := nxt_lt ha
  have h3 := E.n3
  have hab : a ≠ nxt n a := by rw [nxt_val ha]; split <;> omega
  obtain ⟨k, hk⟩ : ∃ k, eyI n X a = k + 1 := ⟨eyI n X a - 1, by omega⟩
  have hk2 : X (nxt n a) 1 = k + 1 := hk
  have e1 : posI n X M a (k + 1) = Q * exI n X a := by rw [← hk]; exact pos_end E ha ra
  have e2 : posI n X M (nxt n a) (k + 1) = Q * exI n X a := by rw [← hk]; exact pos_start E hb rb
  refine junction E ha hb hab ra rb hk hk2 (fun f hf h1 h2 rf l1 l2 => ?_) fun i hi ri hx => ?_
  · have hr := rng_end (n := n) (X := X) (.inr hk)
    have hne : posI n X M f (k + 1) ≠ posI n X M a (k + 1) := fun h => by
      rcases touch E ha hf (Ne.symm h1) ra rf hr.1 hr.2 l1 l2 h with ⟨e, _⟩ | ⟨e, e'⟩
      · exact h2 e
      · have : X a 1 = eyI n X f := by rw [e]; rfl
        unfold riseI at ra
        omega
    omega
  · refine Decidable.byContradiction fun hno => ?_
    have hr := rng_end (n := n) (X := X) (.inr hk)
    rcases level_near E hi ha ri ra hx hr (by omega) hno with e | e
    · have : X a 1 = eyI n X i := by rw [e]; rfl
      unfold riseI at ra ri
      omega
    · subst e
      exact rb ri
theorem jun_flat (E : Edg n X Q M) {a : Nat} (ha : a < n) (ra : riseI n X a ≠ 0) (rh : riseI n X (nxt n a) = 0) :
    ∃ ka kb, spanB n X ka a = true ∧ spanB n X kb (nxt n (nxt n a)) = true ∧ wI n X M ka a = wI n X M kb (nxt n (nxt n a)) := by
  have hh : nxt n a < n := nxt_lt ha
  have hb : nxt n (nxt n a) < n := nxt_lt hh
  have rb := no_flats E hh rh
  have h3 := E.n3
  have hab : a ≠ nxt n (nxt n a) := by
    rw [nxt_val hh, nxt_val ha]
    split <;> split <;> omega
  obtain ⟨k, hk⟩ : ∃ k, eyI n X a = k + 1 := ⟨eyI n X a - 1, by omega⟩
  have hk1 : X (nxt n a) 1 = k + 1 := hk
  have hk2 : X (nxt n (nxt n a)) 1 = k + 1 := by
    have : X (nxt n (nxt n a)) 1 = eyI n X (nxt n a) := rfl
    unfold riseI at rh
    omega
  have e1 : posI n X M a (k + 1) = Q * X (nxt n a) 0 := by rw [← hk]; exact pos_end E ha ra
  have e2 : posI n X M (nxt n (nxt n a)) (k + 1) = Q * exI n X (nxt n a) := by rw [← hk2]; exact pos_start E hb rb
  refine junction E ha hb hab ra rb hk hk2 (fun f hf h1 h2 rf l1 l2 => ?_) fun i hi ri hx => ?_
  · refine Decidable.byContradiction fun hno => ?_
    have : f = nxt n (nxt n a) ∨ nxt n a = nxt n f := touchH E hh hf rh rf (by omega) (by omega) (by rw [hk1]; omega)
    rcases this with e | e
    · exact h2 e
    · refine h1 ?_
      have := congrArg (prv n) e
      rw [prv_nxt ha, prv_nxt hf] at this
      exact this.symm
  · refine Decidable.byContradiction fun hno => ?_
    have hra := rng_end (n := n) (X := X) (.inr hk)
    have hrb := rng_end (n := n) (X := X) (.inl hk2)
    rcases Int.le_total (posI n X M a (k + 1)) (posI n X M (nxt n (nxt n a)) (k + 1)) with hm | hm
    · rw [Int.max_eq_right hm] at hno
      rcases level_near E hi hb ri rb hx hrb rfl hno with e | e
      · have := congrArg (prv n) e
        rw [prv_nxt hh, prv_nxt hi] at this
        subst this
        omega
      · have : X i 1 = eyI n X (nxt n (nxt n a)) := by rw [e]; rfl
        unfold riseI at rb
        omega
    · rw [Int.max_eq_left hm] at hno
      rcases level_near E hi ha ri ra hx hra rfl hno with e | e
      · have : X a 1 = eyI n X i := by rw [e]; rfl
        unfold riseI at ra ri
        omega
      · subst e
        omega
theorem along_all (E : Edg n X Q M) {e : Nat} (he : e < n) {k : Int} (s0 : spanB n X k e = true) : ∀ (d : Nat), spanB n X (k + d) e = true → wI n X M k e = wI n X M (k + d) e
  | 0, _ => by rw [show k + ((0 : Nat) : Int) = k by omega]
  | d + 1, h => by
    have hd : spanB n X (k + d) e = true := by
      unfold spanB at *
      simp only [decide_eq_true_eq] at *
      omega
    rw [along_all E he s0 d hd]
    have e1 : k + ((d + 1 : Nat) : Int) = k + d + 1 := by omega
    rw [e1] at h ⊢
    exact along E he hd h
theorem along_any (E : Edg n X Q M) {e : Nat} (he : e < n) {k l : Int} (s0 : spanB n X k e = true) (s1 : spanB n X l e = true) : wI n X M k e = wI n X M l e := by
  rcases Int.le_total k l with h | h
  · obtain ⟨d, rfl⟩ : ∃ d : Nat, l = k + d := ⟨(l - k).toNat, by omega⟩
    exact along_all E he s0 d s1
  · obtain ⟨d, rfl⟩ : ∃ d : Nat, k = l + d := ⟨(k - l).toNat, by omega⟩
    exact (along_all E he s1 d s0).symm
theorem span_some {i : Nat} (r : riseI n X i ≠ 0) : ∃ k, spanB n X k i = true := by
  by_cases h : X i 1 < eyI n X i
  · exact ⟨X i 1, (span_at r).1 _ h (.inl rfl)⟩
  · exact ⟨eyI n X i, (span_at r).2 _ h (.inl rfl)⟩
/-- One number for all edges. -/
theorem all_same (E : Edg n X Q M) : ∃ C : Int, ∀ e, e < n → ∀ k, spanB n X k e = true → wI n X M k e = C := by
  have h3 := E.n3
  obtain ⟨b, hb1, rb⟩ : ∃ b, b ≤ 1 ∧ riseI n X b ≠ 0 := by
    by_cases h : riseI n X 0 = 0
    · have := no_flats E (show 0 < n by omega) h
      rw [nxt_val (by omega), if_neg (by omega)] at this
      exact ⟨1, by omega, this⟩
    · exact ⟨0, by omega, h⟩
  obtain ⟨k0, hk0⟩ := span_some rb
  have key : ∀ e, e < n → b ≤ e → ∀ k, spanB n X k e = true → wI n X M k e = wI n X M k0 b := by
    intro e
    induction e using Nat.strongRecOn with
    | ind e ih =>
      intro he hbe k hk
      rcases Nat.lt_or_ge b e with hlt | hge
      · obtain ⟨d, rfl⟩ : ∃ d, e = d + 1 := ⟨e - 1, by omega⟩
        have hd : nxt n d = d + 1 := by rw [nxt_val (by omega), if_neg (by omega)]
        have re := span_rise hk
        by_cases rd : riseI n X d = 0
        · have hbd : b ≠ d := fun h => by subst h; exact rb rd
          obtain ⟨c, rfl⟩ : ∃ c, d = c + 1 := ⟨d - 1, by omega⟩
          have hc : nxt n c = c + 1 := by rw [nxt_val (by omega), if_neg (by omega)]
          have rc : riseI n X c ≠ 0 := fun h => by
            have := no_flats E (show c < n by omega) h
            rw [hc] at this
            exact this rd
          obtain ⟨ka, kb, s1, s2, hw⟩ := jun_flat E (show c < n by omega) rc (by rw [hc]; exact rd)
          rw [hc, hd] at s2 hw
          rw [along_any E he hk s2, ← hw]
          exact ih c (by omega) (by omega) (by omega) ka s1
        · obtain ⟨ka, kb, s1, s2, hw⟩ := jun_near E (show d < n by omega) rd (by rw [hd]; exact re)
          rw [hd] at s2 hw
          rw [along_any E he hk s2, ← hw]
          exact ih d (by omega) (by omega) (by omega) ka s1
      · obtain rfl : e = b := by omega
        exact along_any E he hk hk0
  refine ⟨wI n X M k0 b, fun e he k hk => ?_⟩
  rcases Nat.lt_or_ge e b with h | h
  · obtain rfl : e = 0 := by omega
    obtain rfl : b = 1 := by omega
    -- the edge before the first one that is not level: it leads there
    have re := span_rise hk
    have h1 : nxt n 0 = 1 := by rw [nxt_val (by omega), if_neg (by omega)]
    obtain ⟨ka, kb, s1, s2, hw⟩ := jun_near E (show 0 < n by omega) re (by rw [h1]; exact rb)
    rw [h1] at s2 hw
    rw [along_any E he hk s1, hw]
    exact along_any E (by omega) s2 hk0
  · exact key e he h k hk
theorem arg_max (P : Nat → Prop) (κ : Nat → Int) : ∀ m, (∃ i, i < m ∧ P i) → ∃ i, i < m ∧ P i ∧ ∀ j, j < m → P j → κ j ≤ κ i
  | 0, h => by
    obtain ⟨i, hi, _⟩ := h
    omega
  | m + 1, h => by
    by_cases h0 : ∃ i, i < m ∧ P i
    · obtain ⟨i, hi, hp, hall⟩ := arg_max P κ m h0
      by_cases hm : P m ∧ κ i < κ m
      · refine ⟨m, by omega, hm.1, fun j hj hpj => ?_⟩
        rcases Nat.lt_or_ge j m with h | h
        · have := hall j h hpj
          omega
        · obtain rfl : j = m := by omega
          omega
      · refine ⟨i, by omega, hp, fun j hj hpj => ?_⟩
        rcases Nat.lt_or_ge j m with h | h
        · exact hall j h hpj
        · obtain rfl : j = m := by omega
          exact Int.not_lt.1 fun h => hm ⟨hpj, h⟩
    · obtain ⟨i, hi, hp⟩ := h
      have him : i = m := by
        rcases Nat.lt_or_ge i m with h | h
        · exact absurd ⟨i, h, hp⟩ h0
        · omega
      subst him
      refine ⟨i, by omega, hp, fun j hj hpj => ?_⟩
      rcases Nat.lt_or_ge j i with h | h
      · exact absurd ⟨j, h, hpj⟩ h0
      · obtain rfl : j = i := by omega
        exact Int.le_refl _
/-- What is right of any place: 0, or C, or C - 1; and C is 0 or 1. -/
theorem wind_range (E : Edg n X Q M) : ∃ C : Int, (C = 0 ∨ C = 1) ∧ ∀ k T, goI n X M k k T = 0 ∨ goI n X M k k T = C ∨ goI n X M k k T = C - 1 := by
  obtain ⟨C, hC⟩ := all_same E
  have h3 := E.n3
  refine ⟨C, ?_, fun k T => ?_⟩
  · obtain ⟨b, hb1, rb⟩ : ∃ b, b < n ∧ riseI n X b ≠ 0 := by
      by_cases h : riseI n X 0 = 0
      · exact ⟨nxt n 0, nxt_lt (by omega), no_flats E (show 0 < n by omega) h⟩
      · exact ⟨0, by omega, h⟩
    obtain ⟨k, hk⟩ := span_some rb
    obtain ⟨e, he, hs, hall⟩ := arg_max (fun i => spanB n X k i = true) (kapI n X M k) n ⟨b, hb1, hk⟩
    have hw := hC e he k hs
    unfold wI at hw
    rw [sumI_zero fun f hf => if_neg fun h => by have := hall f hf h.1; omega] at hw
    unfold upI at hw
    split at hw <;> omega
  · by_cases h0 : ∃ f, f < n ∧ (spanB n X k f = true ∧ T < posI n X M f k)
    · obtain ⟨e, he, ⟨hs, hT⟩, hall⟩ := arg_max (fun i => spanB n X k i = true ∧ T < posI n X M i k) (fun i => -kapI n X M k i) n h0
      right
      have hw := hC e he k hs
      have hg : goI n X M k k T = sgnI n X e + sumI (fun f => if spanB n X k f = true ∧ kapI n X M k e < kapI n X M k f then sgnI n X f else 0) n := by
        have h1 := sumI_sub (fun f => if spanB n X k f = true ∧ T < posI n X M f k then sgnI n X f else 0) (fun f => if spanB n X k f = true ∧ kapI n X M k e < kapI n X M k f then sgnI n X f else 0) n
        rw [sumI_one he fun f hf hne => ?_] at h1
        · rw [if_pos ⟨hs, hT⟩, if_neg (fun h => by omega)] at h1
          unfold goI
          omega
        · by_cases hsf : spanB n X k f = true
          · have ho := ord E he hf (Ne.symm hne) hs hsf
            have hm := hall f hf
            simp only [hsf, true_and] at hm ⊢
            by_cases hl : T < posI n X M f k
            · have hm := hm hl
              rw [if_pos hl, if_pos (by unfold kapI at *; omega), Int.sub_self]
            · rw [if_neg hl, if_neg (by unfold kapI at *; omega), Int.sub_self]
          · rw [if_neg (fun h => hsf h.1), if_neg (fun h => hsf h.1), Int.sub_self]
      unfold wI at hw
      by_cases hu : X e 1 < eyI n X e
      · rw [(sgn_up hu).2] at hw
        rw [hg, (sgn_up hu).1]
        omega
      · rw [(sgn_down hu).2] at hw
        rw [hg, (sgn_down hu).1]
        omega
    · left
      unfold goI
      exact sumI_zero fun f hf => if_neg fun h => h0 ⟨f, hf, h⟩
end
end Go.Proofs.YtdmegkkifiahdaaGreat
/- Plain geometry: in a valid polygon the number of rounds is 0 just where the crossings are even. -/
namespace Go.Proofs.YtdmegkkifiahdaaGreat
set_option linter.unusedVariables false
/-- What an edge adds to the rounds about a place. -/
def addR (ax ay bx by' qx qy : Int) : Int := (if ay ≤ qy ∧ qy < by' ∧ 0 < crs ax ay bx by' qx qy then 1 else 0) - (if by' ≤ qy ∧ qy < ay ∧ crs ax ay bx by' qx qy < 0 then 1 else 0)
def addX (n : Nat) (X : Nat → Nat → Int) (qx qy : Int) (i : Nat) : Int := addR (X i 0) (X i 1) (X (nxt n i) 0) (X (nxt n i) 1) qx qy
def roundX (n : Nat) (X : Nat → Nat → Int) (qx qy : Int) : Nat → Int := sumI (addX n X qx qy)
def placeR (n : Nat) (X : Nat → Nat → Int) (qx qy : Int) : Int := if anyN (onX n X qx qy) n = true then 0 else if roundX n X qx qy n = 0 then -1 else 1
section
variable {n : Nat} {X : Nat → Nat → Int}
theorem sign_gt (c : Int) : 0 < c.sign ↔ 0 < c := by
  rcases Int.lt_trichotomy c 0 with h | h | h
  · rw [Int.sign_eq_neg_one_of_neg h]; omega
  · rw [h]; exact Iff.rfl
  · rw [Int.sign_eq_one_of_pos h]; omega
theorem add_goes (ax ay bx by' qx qy : Int) : (goesB ax ay bx by' qx qy = true → addR ax ay bx by' qx qy = 1 ∨ addR ax ay bx by' qx qy = -1) ∧ (goesB ax ay bx by' qx qy = false → addR ax ay bx by' qx qy = 0) := by
  have e : crs bx by' ax ay qx qy = -crs ax ay bx by' qx qy := by unfold crs; grind
  unfold goesB addR
  simp only [sign_gt]
  rw [e]
  generalize crs ax ay bx by' qx qy = c
  by_cases hlt : by' < ay
  · rw [if_pos hlt]
    by_cases hc : by' ≤ qy ∧ qy < ay ∧ 0 < -c
    · rw [decide_eq_true hc, if_neg (by omega), if_pos (by omega)]
      exact ⟨fun _ => .inr rfl, fun h => (nomatch h)⟩
    · rw [decide_eq_false hc, if_neg (by omega), if_neg (by omega)]
      exact ⟨fun h => (nomatch h), fun _ => rfl⟩
  · rw [if_neg hlt]
    by_cases hc : ay ≤ qy ∧ qy < by' ∧ 0 < c
    · rw [decide_eq_true hc, if_pos (by omega), if_neg (by omega)]
      exact ⟨fun _ => .inl rfl, fun h => (nomatch h)⟩
    · rw [decide_eq_false hc, if_neg (by omega), if_neg (by omega)]
      exact ⟨fun h => (nomatch h), fun _ => rfl⟩
theorem odd_round (qx qy : Int) : ∀ m, (oddN (goesX n X qx qy) m = true → roundX n X qx qy m % 2 = 1) ∧ (oddN (goesX n X qx qy) m = false → roundX n X qx qy m % 2 = 0)
  | 0 => ⟨fun h => (nomatch h), fun _ => rfl⟩
  | m + 1 => by
    have ih := odd_round qx qy m
    have hg := add_goes (X m 0) (X m 1) (X (nxt n m) 0) (X (nxt n m) 1) qx qy
    have e : roundX n X qx qy (m + 1) = roundX n X qx qy m + addX n X qx qy m := rfl
    have e2 : addX n X qx qy m = addR (X m 0) (X m 1) (X (nxt n m) 0) (X (nxt n m) 1) qx qy := rfl
    have e3 : goesX n X qx qy m = goesB (X m 0) (X m 1) (X (nxt n m) 0) (X (nxt n m) 1) qx qy := rfl
    rw [← e2, ← e3] at hg
    have e4 : oddN (goesX n X qx qy) (m + 1) = if goesX n X qx qy m = true then !oddN (goesX n X qx qy) m else oddN (goesX n X qx qy) m := rfl
    rw [e, e4]
    cases hb : goesX n X qx qy m <;> cases ho : oddN (goesX n X qx qy) m <;> rw [hb] at hg <;> rw [ho] at ih <;> simp only [Bool.not_true, Bool.not_false, if_true, Bool.false_eq_true, if_false, forall_const, false_implies, true_and, and_true, reduceCtorEq] at hg ih ⊢ <;> omega
theorem round_go {Q : Int} {M : Nat → Int} (E : Edg n X Q M) (qx qy : Int) : roundX n X qx qy n = goI n X M qy qy (Q * qx) := by
  unfold roundX goI
  refine sumI_congr fun i hi => ?_
  show addR (X i 0) (X i 1) (exI n X i) (eyI n X i) qx qy = _
  unfold addR
  by_cases r : riseI n X i = 0
  · have hs : ¬ spanB n X qy i = true := fun h => span_rise h r
    unfold riseI at r
    rw [if_neg (by omega), if_neg (by omega), if_neg (fun h => hs h.1)]
    rfl
  · have hc := pos_crs E hi r qx qy
    have hm := E.mul i hi r
    have hQ := E.pos
    unfold spanB sgnI
    simp only [decide_eq_true_eq]
    generalize crs (X i 0) (X i 1) (exI n X i) (eyI n X i) qx qy = c at *
    generalize posI n X M i qy = p at *
    generalize Q * qx = q at *
    have hs : (0 < M i * c ↔ q < p) := by omega
    rcases Int.lt_or_gt_of_ne r with hr | hr
    · have hM : M i < 0 := by
        refine Int.not_le.1 fun h => ?_
        have := mul_nn (show 0 ≤ -riseI n X i by omega) h
        rw [Int.neg_mul] at this
        omega
      have h1 : c < 0 ↔ 0 < M i * c := by
        refine ⟨fun h => Int.mul_pos_of_neg_of_neg hM h, fun h => Int.not_le.1 fun h0 => ?_⟩
        have := mul_nn (show 0 ≤ -M i by omega) h0
        rw [Int.neg_mul] at this
        omega
      unfold riseI at hr
      repeat' split
      all_goals omega
    · have hM : 0 < M i := by
        refine Int.not_le.1 fun h => ?_
        have := mul_nn (show 0 ≤ riseI n X i by omega) (show 0 ≤ -M i by omega)
        rw [Int.mul_neg] at this
        omega
      have h1 : 0 < c ↔ 0 < M i * c := by
        refine ⟨fun h => Int.mul_pos hM h, fun h => Int.not_le.1 fun h0 => ?_⟩
        have := mul_nn (show 0 ≤ M i by omega) (show 0 ≤ -c by omega)
        rw [Int.mul_neg] at this
        omega
      unfold riseI at hr
      repeat' split
      all_goals omega
theorem edg_of (hp : PolyOk n X) : ∃ Q M, Edg n X Q M := by
  obtain ⟨Q, M, hQ, h⟩ := common (riseI n X) n
  exact ⟨Q, M, hp.1, hQ, h, fun i hi => (hp.2.2.2.1 i hi).2, hp.2.2.2.2.1⟩
/-- Both ways to tell the inside are one. -/
theorem place_same (hp : PolyOk n X) (qx qy : Int) : placeR n X qx qy = placeI n X qx qy := by
  obtain ⟨Q, M, E⟩ := edg_of hp
  obtain ⟨C, hC, hr⟩ := wind_range E
  have h1 := hr qy (Q * qx)
  rw [← round_go E] at h1
  have h2 := odd_round (n := n) (X := X) qx qy n
  unfold placeR placeI
  split
  · rfl
  · cases ho : oddN (goesX n X qx qy) n
    · have := h2.2 ho
      rw [if_pos (by omega), if_neg (by decide)]
    · have := h2.1 ho
      rw [if_neg (by omega), if_pos rfl]
end
end Go.Proofs.YtdmegkkifiahdaaGreat
