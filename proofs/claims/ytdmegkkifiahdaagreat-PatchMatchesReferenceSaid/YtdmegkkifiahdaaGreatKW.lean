import Derived.Test.YtdmegkkifiahdaaGreatKD
namespace Go.Proofs.YtdmegkkifiahdaaGreat
set_option linter.unusedVariables false
section
variable (n : Nat) (X : Nat → Nat → Int)
def exI (i : Nat) : Int := X (nxt n i) 0
def eyI (i : Nat) : Int := X (nxt n i) 1
def riseI (i : Nat) : Int := eyI n X i - X i 1
def posI (M : Nat → Int) (i : Nat) (y : Int) : Int := M i * (X i 0 * (eyI n X i - y) + exI n X i * (y - X i 1))
end
structure Edg (n : Nat) (X : Nat → Nat → Int) (Q : Int) (M : Nat → Int) : Prop where
 n3 : 3 ≤ n
 pos : 0 < Q
 mul : ∀ i, i < n → riseI n X i ≠ 0 → Q = riseI n X i * M i
 turn : ∀ i, i < n → turnX X (prv n i) i (nxt n i) ≠ 0
 simple : SimpleOk n X
section
variable {n : Nat} {X : Nat → Nat → Int} {Q : Int} {M : Nat → Int}
theorem pos_crs (E : Edg n X Q M) {i : Nat} (hi : i < n) (hr : riseI n X i ≠ 0) (zx zy : Int) : posI n X M i zy - Q * zx = M i * crs (X i 0) (X i 1) (exI n X i) (eyI n X i) zx zy := by
 have h := E.mul i hi hr
 unfold riseI at h
 unfold posI crs
 rw [h]
 grind
theorem pos_start (E : Edg n X Q M) {i : Nat} (hi : i < n) (hr : riseI n X i ≠ 0) : posI n X M i (X i 1) = Q * X i 0 := by
 have h := E.mul i hi hr
 unfold riseI at h
 unfold posI
 rw [h]
 grind
theorem pos_end (E : Edg n X Q M) {i : Nat} (hi : i < n) (hr : riseI n X i ≠ 0) : posI n X M i (eyI n X i) = Q * exI n X i := by
 have h := E.mul i hi hr
 unfold riseI at h
 unfold posI
 rw [h]
 grind
theorem pos_affine (i : Nat) (y z : Int) : posI n X M i z = posI n X M i y + M i * (exI n X i - X i 0) * (z - y) := by
 unfold posI
 grind
theorem M_ne (E : Edg n X Q M) {i : Nat} (hi : i < n) (hr : riseI n X i ≠ 0) : M i ≠ 0 := fun h0 => by
 have h := E.mul i hi hr
 have := E.pos
 rw [h0, Int.mul_zero] at h
 omega
theorem on_of {ax ay bx by' zx zy : Int} (h0 : crs ax ay bx by' zx zy = 0) (hne : ay ≠ by') (h1 : min ay by' ≤ zy) (h2 : zy ≤ max ay by') : OnS zx zy ax ay bx by' := by
 have mid : ∀ {px py qx qy rx ry : Int}, py ≤ ry → ry ≤ qy → py < qy → crs px py qx qy rx ry = 0 → min px qx ≤ rx ∧ rx ≤ max px qx := by
  intro px py qx qy rx ry h1 h2 h3 h0
  have e1 : (qy - py) * (rx - px) = (qx - px) * (ry - py) := by unfold crs at h0; grind
  have e2 : (qy - py) * (rx - qx) = (px - qx) * (qy - ry) := by unfold crs at h0; grind
  have e3 : (qy - py) * (qx - rx) = (qx - px) * (qy - ry) := by unfold crs at h0; grind
  have e4 : (qy - py) * (px - rx) = (px - qx) * (ry - py) := by unfold crs at h0; grind
  rcases Int.le_total px qx with hx | hx
  · have k1 := mul_nn (show 0 ≤ qx - px by omega) (show 0 ≤ ry - py by omega)
    have k2 := mul_nn (show 0 ≤ qx - px by omega) (show 0 ≤ qy - ry by omega)
    have := Int.nonneg_of_mul_nonneg_right (show 0 ≤ (qy - py) * (rx - px) by omega) (by omega)
    have := Int.nonneg_of_mul_nonneg_right (show 0 ≤ (qy - py) * (qx - rx) by omega) (by omega)
    omega
  · have k1 := mul_nn (show 0 ≤ px - qx by omega) (show 0 ≤ qy - ry by omega)
    have k2 := mul_nn (show 0 ≤ px - qx by omega) (show 0 ≤ ry - py by omega)
    have := Int.nonneg_of_mul_nonneg_right (show 0 ≤ (qy - py) * (rx - qx) by omega) (by omega)
    have := Int.nonneg_of_mul_nonneg_right (show 0 ≤ (qy - py) * (px - rx) by omega) (by omega)
    omega
 rcases Int.lt_or_gt_of_ne hne with h | h
 · have := mid (by omega) (by omega) h h0
   exact ⟨h0, this.1, this.2, by omega, by omega⟩
 · have h0' : crs bx by' ax ay zx zy = 0 := by unfold crs at h0 ⊢; grind
   have := mid (by omega) (by omega) h h0'
   exact ⟨h0, by omega, by omega, by omega, by omega⟩
theorem sgn_of {M c1 c2 : Int} (h : M * c1 < 0 ∧ 0 < M * c2 ∨ 0 < M * c1 ∧ M * c2 < 0) : c1.sign * c2.sign < 0 := by
 rw [← Int.sign_mul]
 have hlt : c1 * c2 < 0 := by
  refine Int.not_le.1 fun h0 => ?_
  have e : M * c1 * (M * c2) = M * M * (c1 * c2) := by grind
  have h1 : 0 ≤ M * M * (c1 * c2) := mul_nn (sq_nn M) h0
  rcases h with ⟨a, b⟩ | ⟨a, b⟩
  · have := Int.mul_neg_of_neg_of_pos a b
    omega
  · have := Int.mul_neg_of_pos_of_neg a b
    omega
 rw [Int.sign_eq_neg_one_of_neg hlt]
 omega
theorem meetX_comm (i j : Nat) : meetX n X i j = meetX n X j i := by
 unfold meetX meetB crossB
 refine Bool.eq_iff_iff.2 ?_
 simp only [Bool.or_eq_true, decide_eq_true_eq]
 grind
theorem meet_start {i j : Nat} (h : OnS (X i 0) (X i 1) (X j 0) (X j 1) (exI n X j) (eyI n X j)) : meetX n X i j = true := by
 unfold meetX meetB
 simp only [Bool.or_eq_true]
 exact .inr (.inl (decide_eq_true h))
theorem meet_end {i j : Nat} (h : OnS (exI n X i) (eyI n X i) (X j 0) (X j 1) (exI n X j) (eyI n X j)) : meetX n X i j = true := by
 unfold meetX meetB
 simp only [Bool.or_eq_true]
 exact .inr (.inr (.inl (decide_eq_true h)))
theorem meet_cross {i j : Nat} (h1 : (crs (X i 0) (X i 1) (exI n X i) (eyI n X i) (X j 0) (X j 1)).sign * (crs (X i 0) (X i 1) (exI n X i) (eyI n X i) (exI n X j) (eyI n X j)).sign < 0)
  (h2 : (crs (X j 0) (X j 1) (exI n X j) (eyI n X j) (X i 0) (X i 1)).sign * (crs (X j 0) (X j 1) (exI n X j) (eyI n X j) (exI n X i) (eyI n X i)).sign < 0) : meetX n X i j = true := by
 unfold meetX meetB crossB
 simp only [Bool.or_eq_true]
 exact .inl (decide_eq_true ⟨h1, h2⟩)
theorem start_on (E : Edg n X Q M) {i j : Nat} (hi : i < n) (hj : j < n) (ri : riseI n X i ≠ 0) (rj : riseI n X j ≠ 0) (h1 : min (X j 1) (eyI n X j) ≤ X i 1) (h2 : X i 1 ≤ max (X j 1) (eyI n X j)) (h : posI n X M j (X i 1) = posI n X M i (X i 1)) : meetX n X i j = true := by
 refine meet_start (on_of ?_ ?_ h1 h2)
 · have e := pos_crs E hj rj (X i 0) (X i 1)
   rw [h, pos_start E hi ri, Int.sub_self] at e
   rcases Int.mul_eq_zero.1 e.symm with h | h
   · exact absurd h (M_ne E hj rj)
   · exact h
 · unfold riseI at rj
   omega
theorem end_on (E : Edg n X Q M) {i j : Nat} (hi : i < n) (hj : j < n) (ri : riseI n X i ≠ 0) (rj : riseI n X j ≠ 0) (h1 : min (X j 1) (eyI n X j) ≤ eyI n X i) (h2 : eyI n X i ≤ max (X j 1) (eyI n X j)) (h : posI n X M j (eyI n X i) = posI n X M i (eyI n X i)) : meetX n X i j = true := by
 refine meet_end (on_of ?_ ?_ h1 h2)
 · have e := pos_crs E hj rj (exI n X i) (eyI n X i)
   rw [h, pos_end E hi ri, Int.sub_self] at e
   rcases Int.mul_eq_zero.1 e.symm with h | h
   · exact absurd h (M_ne E hj rj)
   · exact h
 · unfold riseI at rj
   omega
theorem gap_affine (i j : Nat) : ∃ S : Int, ∀ y z : Int, posI n X M j z - posI n X M i z = posI n X M j y - posI n X M i y + S * (z - y) :=
 ⟨M j * (exI n X j - X j 0) - M i * (exI n X i - X i 0), fun y z => by rw [pos_affine j y z, pos_affine i y z]; grind⟩
def lowI (n : Nat) (X : Nat → Nat → Int) (i : Nat) : Int := min (X i 1) (eyI n X i)
def topI (n : Nat) (X : Nat → Nat → Int) (i : Nat) : Int := max (X i 1) (eyI n X i)
set_option maxHeartbeats 2000000 in
theorem meet_of (E : Edg n X Q M) {i j : Nat} (hi : i < n) (hj : j < n) (ri : riseI n X i ≠ 0) (rj : riseI n X j ≠ 0) {y1 y2 : Int} (a1 : lowI n X i ≤ y1) (a2 : y1 ≤ topI n X i) (a3 : lowI n X j ≤ y1) (a4 : y1 ≤ topI n X j) (b1 : lowI n X i ≤ y2) (b2 : y2 ≤ topI n X i) (b3 : lowI n X j ≤ y2) (b4 : y2 ≤ topI n X j)
  (h1 : posI n X M i y1 ≤ posI n X M j y1) (h2 : posI n X M j y2 ≤ posI n X M i y2) : meetX n X i j = true := by
 obtain ⟨S, hS⟩ := gap_affine (n := n) (X := X) (M := M) i j
 obtain ⟨lo, hlo⟩ : ∃ l, max (lowI n X i) (lowI n X j) = l := ⟨_, rfl⟩
 obtain ⟨hg, hhg⟩ : ∃ l, min (topI n X i) (topI n X j) = l := ⟨_, rfl⟩
 have zero : ∀ y, (y = X i 1 ∨ y = eyI n X i ∨ y = X j 1 ∨ y = eyI n X j) → lowI n X i ≤ y → y ≤ topI n X i → lowI n X j ≤ y → y ≤ topI n X j → posI n X M j y - posI n X M i y = 0 → meetX n X i j = true := by
  intro y hy c1 c2 c3 c4 h0
  rcases hy with rfl | rfl | rfl | rfl
  · exact start_on E hi hj ri rj c3 c4 (by omega)
  · exact end_on E hi hj ri rj c3 c4 (by omega)
  · rw [meetX_comm]; exact start_on E hj hi rj ri c1 c2 (by omega)
  · rw [meetX_comm]; exact end_on E hj hi rj ri c1 c2 (by omega)
 have vlo : lo = X i 1 ∨ lo = eyI n X i ∨ lo = X j 1 ∨ lo = eyI n X j := by unfold lowI at hlo; omega
 have vhi : hg = X i 1 ∨ hg = eyI n X i ∨ hg = X j 1 ∨ hg = eyI n X j := by unfold topI at hhg; omega
 by_cases z1 : posI n X M j lo - posI n X M i lo = 0
 · exact zero lo vlo (by omega) (by omega) (by omega) (by omega) z1
 by_cases z2 : posI n X M j hg - posI n X M i hg = 0
 · exact zero hg vhi (by omega) (by omega) (by omega) (by omega) z2
 have e1 := hS lo y1
 have e2 := hS lo y2
 have e3 := hS hg y1
 have e4 := hS hg y2
 have e5 := hS lo hg
 have up : ∀ y, lo ≤ y → y ≤ hg → 0 < posI n X M j lo - posI n X M i lo → 0 < posI n X M j hg - posI n X M i hg → 0 < posI n X M j y - posI n X M i y := by
  intro y k1 k2 k3 k4
  rcases Int.le_total 0 S with hs | hs
  · have := mul_nn hs (show 0 ≤ y - lo by omega)
    rw [hS lo y]; omega
  · have := mul_nn (show 0 ≤ -S by omega) (show 0 ≤ hg - y by omega)
    rw [hS hg y]
    have e : S * (y - hg) = -S * (hg - y) := by grind
    omega
 have dn : ∀ y, lo ≤ y → y ≤ hg → posI n X M j lo - posI n X M i lo < 0 → posI n X M j hg - posI n X M i hg < 0 → posI n X M j y - posI n X M i y < 0 := by
  intro y k1 k2 k3 k4
  rcases Int.le_total 0 S with hs | hs
  · have := mul_nn hs (show 0 ≤ hg - y by omega)
    rw [hS hg y]
    have e : S * (y - hg) = -(S * (hg - y)) := by grind
    omega
  · have := mul_nn (show 0 ≤ -S by omega) (show 0 ≤ y - lo by omega)
    rw [hS lo y]
    have e : S * (y - lo) = -(-S * (y - lo)) := by grind
    omega
 have n1 : ¬ (0 < posI n X M j lo - posI n X M i lo ∧ 0 < posI n X M j hg - posI n X M i hg) := fun h => by
  have := up y2 (by omega) (by omega) h.1 h.2
  omega
 have n2 : ¬ (posI n X M j lo - posI n X M i lo < 0 ∧ posI n X M j hg - posI n X M i hg < 0) := fun h => by
  have := dn y1 (by omega) (by omega) h.1 h.2
  omega
 have hle : lo ≤ hg := by omega
 have far : ∀ y z, y ≤ lo → hg ≤ z → (posI n X M j y - posI n X M i y < 0 ∧ 0 < posI n X M j z - posI n X M i z ∨ 0 < posI n X M j y - posI n X M i y ∧ posI n X M j z - posI n X M i z < 0) := by
  intro y z ky kz
  have f1 := hS lo y
  have f2 := hS hg z
  rcases (by omega : posI n X M j lo - posI n X M i lo < 0 ∧ 0 < posI n X M j hg - posI n X M i hg ∨ 0 < posI n X M j lo - posI n X M i lo ∧ posI n X M j hg - posI n X M i hg < 0) with ⟨k1, k2⟩ | ⟨k1, k2⟩
  · have hs : 0 ≤ S := by
     refine Int.not_lt.1 fun hs => ?_
     have := mul_nn (show 0 ≤ -S by omega) (show 0 ≤ hg - lo by omega)
     have e : S * (hg - lo) = -(-S * (hg - lo)) := by grind
     omega
    have m1 := mul_nn hs (show 0 ≤ lo - y by omega)
    have m2 := mul_nn hs (show 0 ≤ z - hg by omega)
    have e : S * (y - lo) = -(S * (lo - y)) := by grind
    omega
  · have hs : 0 ≤ -S := by
     refine Int.not_lt.1 fun hs => ?_
     have := mul_nn (show 0 ≤ S by omega) (show 0 ≤ hg - lo by omega)
     omega
    have m1 := mul_nn hs (show 0 ≤ lo - y by omega)
    have m2 := mul_nn hs (show 0 ≤ z - hg by omega)
    have e : S * (y - lo) = -S * (lo - y) := by grind
    have e' : S * (z - hg) = -(-S * (z - hg)) := by grind
    omega
 have both : ∀ u v, (u ≤ lo ∧ hg ≤ v ∨ v ≤ lo ∧ hg ≤ u) → (posI n X M j u - posI n X M i u < 0 ∧ 0 < posI n X M j v - posI n X M i v ∨ 0 < posI n X M j u - posI n X M i u ∧ posI n X M j v - posI n X M i v < 0) := by
  intro u v h
  rcases h with h | h
  · exact far u v h.1 h.2
  · have := far v u h.1 h.2
    omega
 have gi := both (X i 1) (eyI n X i) (by unfold lowI at hlo; unfold topI at hhg; omega)
 have gj := both (X j 1) (eyI n X j) (by unfold lowI at hlo; unfold topI at hhg; omega)
 refine meet_cross (sgn_of (M := M i) ?_) (sgn_of (M := M j) ?_)
 · have c1 := pos_crs E hi ri (X j 0) (X j 1)
   have c2 := pos_crs E hi ri (exI n X j) (eyI n X j)
   rw [← pos_start E hj rj] at c1
   rw [← pos_end E hj rj] at c2
   rw [← c1, ← c2]
   omega
 · have c1 := pos_crs E hj rj (X i 0) (X i 1)
   have c2 := pos_crs E hj rj (exI n X i) (eyI n X i)
   rw [← pos_start E hi ri] at c1
   rw [← pos_end E hi ri] at c2
   rw [← c1, ← c2]
   omega
end
end Go.Proofs.YtdmegkkifiahdaaGreat
namespace Go.Proofs.YtdmegkkifiahdaaGreat
set_option linter.unusedVariables false
theorem nxt_val {n i : Nat} (hi : i < n) : nxt n i = if i + 1 = n then 0 else i + 1 := by
 unfold nxt
 split
 · next h => rw [h, Nat.mod_self]
 · exact Nat.mod_eq_of_lt (by omega)
theorem adj_of {n i j : Nat} (hi : i < n) (hj : j < n) (hne : i ≠ j) (h1 : ¬ FarApart n i j) (h2 : ¬ FarApart n j i) : j = nxt n i ∨ i = nxt n j := by
 rw [nxt_val hi, nxt_val hj]
 unfold FarApart at h1 h2
 by_cases e1 : i + 1 = n
 · rw [if_pos e1]
   by_cases e2 : j + 1 = n
   · omega
   · rw [if_neg e2]; omega
 · rw [if_neg e1]
   by_cases e2 : j + 1 = n
   · rw [if_pos e2]; omega
   · rw [if_neg e2]; omega
section
variable {n : Nat} {X : Nat → Nat → Int} {Q : Int} {M : Nat → Int}
theorem meets_adj (E : Edg n X Q M) {i j : Nat} (hi : i < n) (hj : j < n) (hne : i ≠ j) (h : meetX n X i j = true) : j = nxt n i ∨ i = nxt n j := by
 refine adj_of hi hj hne (fun hf => ?_) fun hf => ?_
 · rw [E.simple i hi j hj hf] at h; cases h
 · rw [meetX_comm, E.simple j hj i hi hf] at h; cases h
theorem bend (E : Edg n X Q M) {i : Nat} (hi : i < n) (ri : riseI n X i ≠ 0) (rj : riseI n X (nxt n i) ≠ 0) {y : Int} (h : posI n X M (nxt n i) y = posI n X M i y) : y = eyI n X i := by
 refine Decidable.byContradiction fun hne => ?_
 obtain ⟨S, hS⟩ := gap_affine (n := n) (X := X) (M := M) i (nxt n i)
 have hj : nxt n i < n := nxt_lt hi
 have e1 := pos_start E hj rj
 have e2 := pos_end E hi ri
 have e0 : posI n X M (nxt n i) (eyI n X i) = posI n X M i (eyI n X i) := by rw [e2]; exact e1
 have e3 := hS (eyI n X i) y
 have hS0 : S = 0 := by
  rcases Int.mul_eq_zero.1 (show S * (y - eyI n X i) = 0 by omega) with h | h
  · exact h
  · omega
 have e4 := hS (eyI n X i) (eyI n X (nxt n i))
 rw [hS0, Int.zero_mul] at e4
 have e5 := pos_end E hj rj
 have e6 := pos_crs E hi ri (exI n X (nxt n i)) (eyI n X (nxt n i))
 have e7 : crs (X i 0) (X i 1) (exI n X i) (eyI n X i) (exI n X (nxt n i)) (eyI n X (nxt n i)) = 0 := by
  rcases Int.mul_eq_zero.1 (show M i * crs (X i 0) (X i 1) (exI n X i) (eyI n X i) (exI n X (nxt n i)) (eyI n X (nxt n i)) = 0 by omega) with h | h
  · exact absurd h (M_ne E hi ri)
  · exact h
 have ht := E.turn (nxt n i) hj
 rw [prv_nxt hi] at ht
 refine ht ?_
 show (crs (X i 0) (X i 1) (exI n X i) (eyI n X i) (exI n X (nxt n i)) (eyI n X (nxt n i))).sign = 0
 rw [e7]
 rfl
theorem touch (E : Edg n X Q M) {i j : Nat} (hi : i < n) (hj : j < n) (hne : i ≠ j) (ri : riseI n X i ≠ 0) (rj : riseI n X j ≠ 0) {k : Int} (a1 : lowI n X i ≤ k) (a2 : k ≤ topI n X i) (a3 : lowI n X j ≤ k) (a4 : k ≤ topI n X j)
  (h : posI n X M j k = posI n X M i k) : (j = nxt n i ∧ k = eyI n X i) ∨ (i = nxt n j ∧ k = eyI n X j) := by
 rcases meets_adj E hi hj hne (meet_of E hi hj ri rj a1 a2 a3 a4 a1 a2 a3 a4 (by omega) (by omega)) with e | e
 · subst e
   exact .inl ⟨rfl, bend E hi ri rj h⟩
 · subst e
   exact .inr ⟨rfl, bend E hj rj ri h.symm⟩
end
end Go.Proofs.YtdmegkkifiahdaaGreat
namespace Go.Proofs.YtdmegkkifiahdaaGreat
set_option linter.unusedVariables false
section
variable {n : Nat} {X : Nat → Nat → Int} {Q : Int} {M : Nat → Int}
end
end Go.Proofs.YtdmegkkifiahdaaGreat
namespace Go.Proofs.YtdmegkkifiahdaaGreat
set_option linter.unusedVariables false
section
variable {n : Nat} {X : Nat → Nat → Int}
end
end Go.Proofs.YtdmegkkifiahdaaGreat
