/- Plain mathematics of the reference's polygons and sectors: the same polygons and the same sectors are valid. -/
import Derived.Test.YtdmegkkifiahdaaGreatKB
namespace Go.Proofs.YtdmegkkifiahdaaGreat
set_option linter.unusedVariables false
/-- Directions as the reference compares them. -/
def alikeD (x y u v : Int) : Bool := decide (cprD x y u v = 0 ∧ 0 < x * u + y * v)
def hasQ (fx fy tx ty x y : Int) : Bool :=
  if alikeD fx fy tx ty = true ∨ alikeD fx fy x y = true then true
  else if alikeD tx ty x y = true then false
  else if 0 < cprD fx fy x y then decide (0 < cprD x y tx ty ∨ cprD fx fy tx ty ≤ 0)
  else decide (0 < cprD x y tx ty ∧ cprD fx fy tx ty < 0)
def Up (x y : Int) : Prop := 0 < y ∨ y = 0 ∧ 0 < x
instance (x y : Int) : Decidable (Up x y) := by unfold Up; exact inferInstance
theorem up_down {x y : Int} (h : ¬ (x = 0 ∧ y = 0)) (hu : ¬ Up x y) : Up (-x) (-y) := by unfold Up at *; omega
theorem cpr_neg_l (x y u v : Int) : cprD (-x) (-y) u v = -cprD x y u v := by unfold cprD; grind
theorem cpr_neg_r (x y u v : Int) : cprD x y (-u) (-v) = -cprD x y u v := by unfold cprD; grind
theorem cpr_swap (x y u v : Int) : cprD u v x y = -cprD x y u v := by unfold cprD; grind
theorem mul_zero_pos {a b : Int} (h : a * b ≤ 0) (ha : 0 ≤ a) (hb : 0 < b) : a = 0 := by
  rcases Int.lt_or_eq_of_le ha with h1 | h1
  · have := Int.mul_pos h1 hb
    omega
  · exact h1.symm
theorem up_trans {ax ay bx by' cx cy : Int} (ha : Up ax ay) (hb : Up bx by') (hc : Up cx cy) :
    (0 ≤ cprD ax ay bx by' → 0 ≤ cprD bx by' cx cy → 0 ≤ cprD ax ay cx cy) ∧ (0 ≤ cprD ax ay bx by' → 0 < cprD bx by' cx cy → 0 < cprD ax ay cx cy) ∧ (0 < cprD ax ay bx by' → 0 ≤ cprD bx by' cx cy → 0 < cprD ax ay cx cy) := by
  have hay : 0 ≤ ay := by unfold Up at ha; omega
  have hcy : 0 ≤ cy := by unfold Up at hc; omega
  have i1 : by' * cprD ax ay cx cy = cy * cprD ax ay bx by' + ay * cprD bx by' cx cy := by unfold cprD; grind
  rcases hb with hb | ⟨rfl, hb⟩
  · have key : 0 ≤ cprD ax ay bx by' → 0 ≤ cprD bx by' cx cy → (0 < cprD ax ay bx by' ∨ 0 < cprD bx by' cx cy) → 0 < cprD ax ay cx cy := by
      intro hP hQ hor
      refine Classical.byContradiction fun hR => ?_
      have h1 : by' * cprD ax ay cx cy ≤ 0 := Int.mul_nonpos_of_nonneg_of_nonpos (by omega) (by omega)
      have h2 := Int.mul_nonneg hcy hP
      have h3 := Int.mul_nonneg hay hQ
      have hq0 : cy = 0 → cprD bx by' cx cy < 0 := by
        intro e
        have hcx : 0 < cx := by unfold Up at hc; omega
        have := Int.mul_pos hb hcx
        unfold cprD
        rw [e]
        omega
      have hp0 : ay = 0 → 0 < cprD ax ay bx by' := by
        intro e
        have hax : 0 < ax := by unfold Up at ha; omega
        have := Int.mul_pos hax hb
        unfold cprD
        rw [e]
        omega
      have hcz : 0 < cprD ax ay bx by' → cy = 0 := fun h => mul_zero_pos (by omega) hcy h
      have haz : 0 < cprD bx by' cx cy → ay = 0 := fun h => mul_zero_pos (by omega) hay h
      rcases hor with h | h
      · have := hq0 (hcz h)
        omega
      · have := hq0 (hcz (hp0 (haz h)))
        omega
    refine ⟨fun hP hQ => ?_, fun hP hQ => key hP (by omega) (.inr hQ), fun hP hQ => key (by omega) hQ (.inl hP)⟩
    refine Classical.byContradiction fun hR => ?_
    have h1 : by' * cprD ax ay cx cy < 0 := Int.mul_neg_of_pos_of_neg hb (by omega)
    have h2 := Int.mul_nonneg hcy hP
    have h3 := Int.mul_nonneg hay hQ
    omega
  · have hP : 0 ≤ cprD ax ay bx 0 → ay = 0 := by
      intro h
      unfold cprD at h
      exact mul_zero_pos (b := bx) (by omega) hay hb
    have hax : ay = 0 → 0 < ax := by unfold Up at ha; omega
    have hR : ay = 0 → cprD ax ay cx cy = ax * cy := by intro e; unfold cprD; rw [e]; omega
    have hQ : cprD bx 0 cx cy = bx * cy := by unfold cprD; omega
    have hz : ay = 0 → cprD ax ay bx 0 = 0 := by intro e; unfold cprD; rw [e]; omega
    refine ⟨fun h1 h2 => ?_, fun h1 h2 => ?_, fun h1 h2 => ?_⟩
    · rw [hR (hP h1)]
      exact Int.mul_nonneg (by have := hax (hP h1); omega) hcy
    · rw [hR (hP h1)]
      refine Int.mul_pos (hax (hP h1)) ?_
      rcases Int.lt_or_eq_of_le hcy with h | h
      · exact h
      · rw [hQ, ← h] at h2
        omega
    · have := hz (hP (by omega))
      omega
theorem up_dot {ax ay bx by' : Int} (ha : Up ax ay) (hb : Up bx by') (h0 : cprD ax ay bx by' = 0) : 0 < ax * bx + ay * by' := by
  have hay : 0 ≤ ay := by unfold Up at ha; omega
  unfold cprD at h0
  rcases hb with hb | ⟨rfl, hb⟩
  · have i1 : by' * (ax * bx + ay * by') = ay * (bx * bx + by' * by') + bx * (ax * by' - ay * bx) := by grind
    rw [h0, Int.mul_zero, Int.add_zero] at i1
    have hy : ay ≠ 0 := by
      intro e
      have hax : 0 < ax := by unfold Up at ha; omega
      have := Int.mul_pos hax hb
      rw [e] at h0
      omega
    have h1 := Int.mul_pos hb hb
    have h2 : 0 ≤ bx * bx := by
      rcases Int.le_total 0 bx with h | h
      · exact Int.mul_nonneg h h
      · exact Int.mul_nonneg_of_nonpos_of_nonpos h h
    have h3 : 0 < ay * (bx * bx + by' * by') := Int.mul_pos (by omega) (by omega)
    refine Classical.byContradiction fun hR => ?_
    have h4 : by' * (ax * bx + ay * by') ≤ 0 := Int.mul_nonpos_of_nonneg_of_nonpos (by omega) (by omega)
    omega
  · have hz : ay = 0 := mul_zero_pos (b := bx) (by omega) hay hb
    have hax : 0 < ax := by unfold Up at ha; omega
    have := Int.mul_pos hax hb
    rw [hz]
    omega
theorem alike_up {x y u v : Int} (h1 : ¬ (x = 0 ∧ y = 0)) (h2 : ¬ (u = 0 ∧ v = 0)) : alikeD x y u v = decide (cprD x y u v = 0 ∧ upD x y = upD u v) := by
  unfold alikeD
  rw [decide_eq_decide]
  refine and_congr_right fun h0 => ?_
  have hu : upD x y = decide (Up x y) := rfl
  have hv : upD u v = decide (Up u v) := rfl
  rw [hu, hv, decide_eq_decide]
  by_cases a : Up x y <;> by_cases b : Up u v
  · exact ⟨fun _ => iff_of_true a b, fun _ => up_dot a b h0⟩
  · have := up_dot a (up_down h2 b) (by rw [cpr_neg_r]; omega)
    exact ⟨fun h => by rw [Int.mul_neg, Int.mul_neg] at this; omega, fun h => absurd (h.1 a) b⟩
  · have := up_dot (up_down h1 a) b (by rw [cpr_neg_l]; omega)
    exact ⟨fun h => by rw [Int.neg_mul, Int.neg_mul] at this; omega, fun h => absurd (h.2 b) a⟩
  · have := up_dot (up_down h1 a) (up_down h2 b) (by rw [cpr_neg_r, cpr_neg_l]; omega)
    rw [Int.neg_mul_neg, Int.neg_mul_neg] at this
    exact ⟨fun _ => iff_of_false a b, fun _ => this⟩
/-- The signs of the three products of three directions, by the half turns of these. -/
def TriS (p q r : Bool) (A B C : Int) : Prop :=
  let a := if p = q then A else -A
  let b := if p = r then B else -B
  let c := if r = q then C else -C
  ((0 ≤ b → 0 ≤ c → 0 ≤ a) ∧ (0 ≤ b → 0 < c → 0 < a) ∧ (0 < b → 0 ≤ c → 0 < a)) ∧ ((0 ≤ -c → 0 ≤ -b → 0 ≤ -a) ∧ (0 ≤ -c → 0 < -b → 0 < -a) ∧ (0 < -c → 0 ≤ -b → 0 < -a))
theorem tri_signs {fx fy tx ty x y : Int} (hf : ¬ (fx = 0 ∧ fy = 0)) (ht : ¬ (tx = 0 ∧ ty = 0)) (hv : ¬ (x = 0 ∧ y = 0)) : TriS (upD fx fy) (upD tx ty) (upD x y) (cprD fx fy tx ty) (cprD fx fy x y) (cprD x y tx ty) := by
  have e : ∀ u v, upD u v = decide (Up u v) := fun _ _ => rfl
  unfold TriS
  rw [e, e, e]
  by_cases a : Up fx fy <;> by_cases b : Up tx ty <;> by_cases c : Up x y
  · have h1 := up_trans a c b
    have h2 := up_trans b c a
    rw [cpr_swap x y tx ty, cpr_swap fx fy x y, cpr_swap fx fy tx ty] at h2
    simpa only [a, b, c, decide_true, decide_false, if_true, reduceCtorEq, if_false] using And.intro h1 h2
  · have c' := up_down hv c
    have h1 := up_trans a c' b
    have h2 := up_trans b c' a
    rw [cpr_neg_l, cpr_neg_r] at h1 h2
    rw [cpr_swap x y tx ty, cpr_swap fx fy x y, cpr_swap fx fy tx ty] at h2
    simpa only [a, b, c, decide_true, decide_false, if_true, reduceCtorEq, if_false] using And.intro h1 h2
  · have b' := up_down ht b
    have h1 := up_trans a c b'
    have h2 := up_trans b' c a
    rw [cpr_neg_r, cpr_neg_r] at h1
    rw [cpr_neg_l, cpr_neg_l, cpr_swap x y tx ty, cpr_swap fx fy x y, cpr_swap fx fy tx ty] at h2
    simpa only [a, b, c, decide_true, decide_false, if_true, reduceCtorEq, if_false] using And.intro h1 h2
  · have b' := up_down ht b
    have c' := up_down hv c
    have h1 := up_trans a c' b'
    have h2 := up_trans b' c' a
    simp only [cpr_neg_r, cpr_neg_l, Int.neg_neg] at h1 h2
    rw [cpr_swap x y tx ty, cpr_swap fx fy x y, cpr_swap fx fy tx ty] at h2
    simpa only [a, b, c, decide_true, decide_false, if_true, reduceCtorEq, if_false] using And.intro h1 h2
  · have a' := up_down hf a
    have h1 := up_trans a' c b
    have h2 := up_trans b c a'
    simp only [cpr_neg_r, cpr_neg_l] at h1 h2
    rw [cpr_swap x y tx ty, cpr_swap fx fy x y, cpr_swap fx fy tx ty] at h2
    simpa only [a, b, c, decide_true, decide_false, if_true, reduceCtorEq, if_false] using And.intro h1 h2
  · have a' := up_down hf a
    have c' := up_down hv c
    have h1 := up_trans a' c' b
    have h2 := up_trans b c' a'
    simp only [cpr_neg_r, cpr_neg_l, Int.neg_neg] at h1 h2
    rw [cpr_swap x y tx ty, cpr_swap fx fy x y, cpr_swap fx fy tx ty] at h2
    simpa only [a, b, c, decide_true, decide_false, if_true, reduceCtorEq, if_false] using And.intro h1 h2
  · have a' := up_down hf a
    have b' := up_down ht b
    have h1 := up_trans a' c b'
    have h2 := up_trans b' c a'
    simp only [cpr_neg_r, cpr_neg_l, Int.neg_neg] at h1 h2
    rw [cpr_swap x y tx ty, cpr_swap fx fy x y, cpr_swap fx fy tx ty] at h2
    simpa only [a, b, c, decide_true, decide_false, if_true, reduceCtorEq, if_false] using And.intro h1 h2
  · have a' := up_down hf a
    have b' := up_down ht b
    have c' := up_down hv c
    have h1 := up_trans a' c' b'
    have h2 := up_trans b' c' a'
    simp only [cpr_neg_r, cpr_neg_l, Int.neg_neg] at h1 h2
    rw [cpr_swap x y tx ty, cpr_swap fx fy x y, cpr_swap fx fy tx ty] at h2
    simpa only [a, b, c, decide_true, decide_false, if_true, reduceCtorEq, if_false] using And.intro h1 h2
def cmpC (p q : Bool) (A : Int) : Int := if p ≠ q then (if p = true then -1 else 1) else if 0 < A then -1 else if A < 0 then 1 else 0
theorem has_core (p q r : Bool) (A B C : Int) (T : TriS p q r A B C) :
    (if cmpC p q A = -1 then decide (cmpC p r B ≤ 0) && !decide (cmpC q r (-C) ≤ 0) else if cmpC p q A = 1 then decide (cmpC p r B ≤ 0) || !decide (cmpC q r (-C) ≤ 0) else true)
    = (if decide (A = 0 ∧ p = q) = true ∨ decide (B = 0 ∧ p = r) = true then true else if decide (-C = 0 ∧ q = r) = true then false else if 0 < B then decide (0 < C ∨ A ≤ 0) else decide (0 < C ∧ A < 0)) := by
  unfold TriS at T
  unfold cmpC
  rcases Int.lt_trichotomy A 0 with ha | ha | ha <;> rcases Int.lt_trichotomy B 0 with hb | hb | hb <;> rcases Int.lt_trichotomy C 0 with hc | hc | hc <;> cases p <;> cases q <;> cases r <;> simp only [reduceCtorEq, ne_eq, not_true_eq_false, not_false_eq_true, if_true, if_false] at T ⊢ <;> first | (exfalso; omega) | grind
theorem has_eq {fx fy tx ty x y : Int} (hf : DirOk fx fy) (ht : DirOk tx ty) (hv : DirOk x y) : hasQ fx fy tx ty x y = hasD fx fy tx ty x y := by
  have h := has_core _ _ _ _ _ _ (tri_signs hf.1 ht.1 hv.1)
  have e1 : cmpC (upD fx fy) (upD tx ty) (cprD fx fy tx ty) = cmpD fx fy tx ty := rfl
  have e2 : cmpC (upD fx fy) (upD x y) (cprD fx fy x y) = cmpD fx fy x y := rfl
  have e3 : cmpC (upD tx ty) (upD x y) (cprD tx ty x y) = cmpD tx ty x y := rfl
  rw [← cpr_swap x y tx ty, e1, e2, e3, ← alike_up hf.1 ht.1, ← alike_up hf.1 hv.1, ← alike_up ht.1 hv.1] at h
  exact h.symm
/-- Corners counted from another one on. -/
theorem nxt_in {n i : Nat} (h : i + 1 < n) : nxt n i = i + 1 := Nat.mod_eq_of_lt h
theorem nxt_end {n : Nat} (h : 0 < n) : nxt n (n - 1) = 0 := by
  unfold nxt
  rw [Nat.sub_add_cancel h, Nat.mod_self]
theorem prv_in {n i : Nat} (h : i + 1 < n) : prv n (i + 1) = i := by
  unfold prv
  rw [show i + 1 + n - 1 = i + n by omega, Nat.add_mod_right, Nat.mod_eq_of_lt (by omega)]
theorem prv_zero {n : Nat} (h : 0 < n) : prv n 0 = n - 1 := by
  unfold prv
  rw [Nat.zero_add, Nat.mod_eq_of_lt (by omega)]
theorem two_nxt {n i : Nat} (h3 : 3 ≤ n) (hi : i < n) : (i + 2) % n = nxt n (nxt n i) := by
  rcases Nat.lt_or_ge (i + 1) n with h | h
  · rw [nxt_in h]
    rfl
  · obtain rfl : i = n - 1 := by omega
    rw [nxt_end (by omega), show n - 1 + 2 = 1 + n by omega, Nat.add_mod_right]
    rfl
theorem turns_shift {n : Nat} {X : Nat → Nat → Int} (h3 : 3 ≤ n) : (∀ i, i < n → turnX X (prv n i) i (nxt n i) ≠ 0) ↔ ∀ i, i < n → turnX X i (nxt n i) ((i + 2) % n) ≠ 0 := by
  constructor
  · intro h i hi
    rw [two_nxt h3 hi]
    rcases Nat.lt_or_ge (i + 1) n with g | g
    · have := h (i + 1) g
      rwa [prv_in g, ← nxt_in g] at this
    · obtain rfl : i = n - 1 := by omega
      have := h 0 (by omega)
      rwa [prv_zero (by omega), ← nxt_end (show 0 < n by omega)] at this
  · intro h i hi
    cases i with
    | zero =>
      have := h (n - 1) (by omega)
      rw [two_nxt h3 (by omega), nxt_end (by omega)] at this
      rwa [prv_zero (by omega)]
    | succ i =>
      have := h i (by omega)
      rw [two_nxt h3 (by omega), nxt_in hi] at this
      rwa [prv_in hi]
/-- What the reference asks of a polygon. -/
theorem poly_ref {n : Nat} {X : Nat → Nat → Int} : PolyOk n X ↔ (3 ≤ n ∧ n ≤ 24) ∧ (∀ i, i < n → Vld (X i 0) (X i 1) ∧ (0 < i → OrdLt (X 0 0) (X 0 1) (X i 0) (X i 1))) ∧ (∀ i, i < n → turnX X i (nxt n i) ((i + 2) % n) ≠ 0) ∧ (∀ i, i < n → ∀ k, k < n → i + 2 ≤ k → (0 < i ∨ k + 1 < n) → meetX n X i k = false) ∧ 0 < twiceN n X n := by
  constructor
  · rintro ⟨h1, h2, h3, h4, h5, h6⟩
    refine ⟨⟨h1, h2⟩, fun i hi => ⟨h3 i hi, (h4 i hi).1⟩, (turns_shift h1).1 fun i hi => (h4 i hi).2, fun i hi k hkn hk ho => h5 i hi k hkn ⟨by omega, fun hh => by omega⟩, h6⟩
  · rintro ⟨⟨h1, h2⟩, h3, h4, h5, h6⟩
    exact ⟨h1, h2, fun i hi => (h3 i hi).1, fun i hi => ⟨(h3 i hi).2, (turns_shift h1).2 h4 i hi⟩, fun i hi k hk hf => h5 i hi k hk (by have := hf.1; omega) (by have := hf.2; omega), h6⟩
end Go.Proofs.YtdmegkkifiahdaaGreat
