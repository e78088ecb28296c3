/- Plain laws on what a box hears: a place of the box, a box within another one, greater ranges. -/
import Derived.Test.YtnidacjmgekdjaaStationK
namespace Go.Proofs.Ytnidacjmgekdjaa
theorem sq_le {d A : Int} (h1 : -A ≤ d) (h2 : d ≤ A) : d * d ≤ A * A := by
  have := Int.mul_nonneg (show 0 ≤ A - d by omega) (show 0 ≤ A + d by omega)
  have e : (A - d) * (A + d) = A * A - d * d := by rw [Int.sub_mul, Int.mul_add, Int.mul_add, Int.mul_comm d A]; omega
  omega
theorem far_sq {x lo hi p : Int} (h1 : lo ≤ p) (h2 : p ≤ hi) : (p - x) * (p - x) ≤ (farthI x lo hi - x) * (farthI x lo hi - x) := by
  unfold farthI
  split
  · have := sq_le (d := p - x) (A := x - lo) (by omega) (by omega)
    have e : (lo - x) * (lo - x) = (x - lo) * (x - lo) := by rw [show lo - x = -(x - lo) by omega, Int.neg_mul_neg]
    omega
  · exact sq_le (by omega) (by omega)
theorem near_sq {x lo hi p : Int} (h1 : lo ≤ p) (h2 : p ≤ hi) : (nearI x lo hi - x) * (nearI x lo hi - x) ≤ (p - x) * (p - x) := by
  unfold nearI
  rcases Int.lt_or_le x lo with h | h
  · rw [show max lo (min x hi) = lo by omega]
    exact sq_le (by omega) (by omega)
  · rcases Int.lt_or_le hi x with h' | h'
    · rw [show max lo (min x hi) = hi by omega]
      have := sq_le (d := hi - x) (A := x - p) (by omega) (by omega)
      have e : (p - x) * (p - x) = (x - p) * (x - p) := by rw [show p - x = -(x - p) by omega, Int.neg_mul_neg]
      omega
    · rw [show max lo (min x hi) = x by omega]
      have := sq_nn (p - x)
      simp
      exact this
def InB (xl xh yl yh px py : Int) : Prop := xl ≤ px ∧ px ≤ xh ∧ yl ≤ py ∧ py ≤ yh
instance (xl xh yl yh px py : Int) : Decidable (InB xl xh yl yh px py) := by unfold InB; exact inferInstance
theorem reach_def (ax ay px py n : Int) : reachB ax ay px py n = true ↔ (px - ax) * (px - ax) + (py - ay) * (py - ay) ≤ n * n := by
  unfold reachB sqd
  simp
theorem all_reach {ax ay xl xh yl yh px py n : Int} (h : InB xl xh yl yh px py) (ha : allB ax ay xl xh yl yh n = true) : reachB ax ay px py n = true := by
  unfold allB at ha
  rw [reach_def] at *
  have := far_sq (x := ax) h.1 h.2.1
  have := far_sq (x := ay) h.2.2.1 h.2.2.2
  omega
theorem reach_some {ax ay xl xh yl yh px py n : Int} (h : InB xl xh yl yh px py) (ha : reachB ax ay px py n = true) : someB ax ay xl xh yl yh n = true := by
  unfold someB
  rw [reach_def] at *
  have := near_sq (x := ax) h.1 h.2.1
  have := near_sq (x := ay) h.2.2.1 h.2.2.2
  omega
theorem far_in {x lo hi : Int} (h : lo ≤ hi) : lo ≤ farthI x lo hi ∧ farthI x lo hi ≤ hi := by unfold farthI; split <;> omega
theorem near_in {x lo hi : Int} (h : lo ≤ hi) : lo ≤ nearI x lo hi ∧ nearI x lo hi ≤ hi := by unfold nearI; omega
theorem all_some {ax ay xl xh yl yh n : Int} (h1 : xl ≤ xh) (h2 : yl ≤ yh) (ha : allB ax ay xl xh yl yh n = true) : someB ax ay xl xh yl yh n = true :=
  reach_some (px := nearI ax xl xh) (py := nearI ay yl yh) ⟨(near_in h1).1, (near_in h1).2, (near_in h2).1, (near_in h2).2⟩ (all_reach ⟨(near_in h1).1, (near_in h1).2, (near_in h2).1, (near_in h2).2⟩ ha)
theorem hears_one (ax ay xl xh yl yh n : Int) : hearsI ax ay xl xh yl yh n = 1 ↔ allB ax ay xl xh yl yh n = true := by
  unfold hearsI
  constructor
  · intro h; split at h
    · assumption
    · split at h <;> omega
  · intro h; rw [if_pos h]
theorem hears_neg {ax ay xl xh yl yh : Int} (n : Int) (h1 : xl ≤ xh) (h2 : yl ≤ yh) : hearsI ax ay xl xh yl yh n = -1 ↔ someB ax ay xl xh yl yh n = false := by
  unfold hearsI
  constructor
  · intro h; split at h
    · omega
    · split at h
      · omega
      · rename_i h'; simpa using h'
  · intro h
    rw [if_neg, if_neg]
    · simp [h]
    · intro ha; rw [all_some h1 h2 ha] at h; simp at h
theorem hears_three (ax ay xl xh yl yh n : Int) : hearsI ax ay xl xh yl yh n = 1 ∨ hearsI ax ay xl xh yl yh n = 0 ∨ hearsI ax ay xl xh yl yh n = -1 := by
  unfold hearsI; split
  · exact .inl rfl
  · split
    · exact .inr (.inl rfl)
    · exact .inr (.inr rfl)
theorem hears_pt (ax ay px py n : Int) : hearsI ax ay px px py py n = if reachB ax ay px py n = true then 1 else -1 := by
  have e1 : ∀ x p : Int, farthI x p p = p := fun x p => by unfold farthI; split <;> rfl
  have e2 : ∀ x p : Int, nearI x p p = p := fun x p => by unfold nearI; omega
  unfold hearsI allB someB
  rw [e1, e1, e2, e2]
  split <;> simp [*]
theorem hears_within {ax ay xl xh yl yh al ah bl bh n : Int} (h1 : al ≤ ah) (h2 : bl ≤ bh) (g1 : xl ≤ al) (g2 : ah ≤ xh) (g3 : yl ≤ bl) (g4 : bh ≤ yh) :
    (hearsI ax ay xl xh yl yh n = 1 → hearsI ax ay al ah bl bh n = 1) ∧ (hearsI ax ay xl xh yl yh n = -1 → hearsI ax ay al ah bl bh n = -1) := by
  constructor
  · rw [hears_one, hears_one]
    intro h
    have f1 := far_in (x := ax) h1
    have f2 := far_in (x := ay) h2
    exact all_reach ⟨by omega, by omega, by omega, by omega⟩ h
  · rw [hears_neg n (by omega) (by omega), hears_neg n h1 h2]
    intro h
    have f1 := near_in (x := ax) h1
    have f2 := near_in (x := ay) h2
    cases hc : someB ax ay al ah bl bh n
    · rfl
    · rw [reach_some (n := n) (px := nearI ax al ah) (py := nearI ay bl bh) (ax := ax) (ay := ay) (xl := xl) (xh := xh) (yl := yl) (yh := yh) ⟨by omega, by omega, by omega, by omega⟩ hc] at h
      simp at h
theorem hears_more {ax ay xl xh yl yh n m : Int} (h1 : xl ≤ xh) (h2 : yl ≤ yh) (h0 : 0 ≤ n) (h : n ≤ m) : hearsI ax ay xl xh yl yh n ≤ hearsI ax ay xl xh yl yh m := by
  have hs := sq_le (d := n) (A := m) (by omega) h
  have hr : ∀ px py, reachB ax ay px py n = true → reachB ax ay px py m = true := fun px py h => by rw [reach_def] at *; omega
  rcases hears_three ax ay xl xh yl yh n with e | e | e
  · rw [e, (hears_one _ _ _ _ _ _ _).2 (hr _ _ ((hears_one _ _ _ _ _ _ _).1 e))]; omega
  · have : someB ax ay xl xh yl yh n = true := by
      cases hc : someB ax ay xl xh yl yh n
      · rw [(hears_neg n h1 h2).2 hc] at e; omega
      · rfl
    have hm := hr _ _ this
    rcases hears_three ax ay xl xh yl yh m with f | f | f
    · omega
    · omega
    · rw [hears_neg m h1 h2] at f
      unfold someB at f
      rw [hm] at f
      simp at f
  · rcases hears_three ax ay xl xh yl yh m with f | f | f <;> omega
end Go.Proofs.Ytnidacjmgekdjaa
