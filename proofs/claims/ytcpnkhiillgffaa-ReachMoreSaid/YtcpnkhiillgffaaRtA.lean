/- What best returns, plain: the least count is the reference's bound; the way is one of the list and is worth it. -/
import Derived.Test.YtcpnkhiillgffaaReachZ
namespace Go.Proofs.Ytcpnkhiillgffaa
open Go.RowKit
set_option linter.unusedVariables false
theorem snoc_ind {α : Type} {P : List α → Prop} (h0 : P []) (h1 : ∀ l x, P l → P (l ++ [x])) (l : List α) : P l := by
  have h : ∀ m : List α, P m.reverse := fun m => by
    induction m with
    | nil => exact h0
    | cons x m ih => rw [List.reverse_cons]; exact h1 _ _ ih
  have := h l.reverse
  rwa [List.reverse_reverse] at this
theorem bestW_first (T : Nat → Nat → Int) (l : List Way) : (bestW T l).first = true ↔ l = [] := by
  refine snoc_ind (P := fun l => (bestW T l).first = true ↔ l = []) (by simp [bestW]) (fun l x ih => ?_) l
  · rw [bestW_snoc]
    unfold stepW
    simp only [List.append_eq_nil_iff, List.cons_ne_self, and_false, iff_false]
    split
    · simp
    · rename_i h
      intro h'
      exact h (.inl h')
theorem bestW_one (T : Nat → Nat → Int) (x : Way) : bestW T [x] = ⟨valW T x, x, false⟩ := by
  unfold bestW stepW
  simp
theorem bestW_least (T : Nat → Nat → Int) {l : List Way} (h : l ≠ []) (x : Way) : (bestW T (l ++ [x])).least = min (bestW T l).least (valW T x) := by
  rw [bestW_snoc]
  unfold stepW
  have hf : (bestW T l).first ≠ true := fun e => h ((bestW_first T l).1 e)
  by_cases hv : valW T x < (bestW T l).least
  · rw [if_pos (.inr hv)]
    show valW T x = _
    omega
  · rw [if_neg (fun e => e.elim hf hv)]
    omega
/-- The way is one of the list, and is worth the least. -/
theorem bestW_way (T : Nat → Nat → Int) {l : List Way} (h : l ≠ []) : (bestW T l).way ∈ l ∧ valW T (bestW T l).way = (bestW T l).least := by
  refine snoc_ind (P := fun l => l ≠ [] → (bestW T l).way ∈ l ∧ valW T (bestW T l).way = (bestW T l).least) (fun h => absurd rfl h) (fun l x ih h => ?_) l h
  · rw [bestW_snoc]
    unfold stepW
    split
    · exact ⟨by simp, rfl⟩
    · rename_i hn
      by_cases hl : l = []
      · subst hl
        exact absurd (.inl ((bestW_first T []).2 rfl)) hn
      · obtain ⟨h1, h2⟩ := ih hl
        exact ⟨List.mem_append_left _ h1, h2⟩
theorem edgesW_ne (X A E : Nat → Nat → Int) (na : Nat) (f : Int) (p t k : Nat) : edgesW X A E na f p t k ≠ [] := by
  induction k with
  | zero => simp [edgesW]
  | succ k ih => unfold edgesW; simp [ih]
section
variable {X A E T : Nat → Nat → Int} {na : Nat} {f : Int} {p t np ne : Nat}
theorem val_stay (ht : t ≠ 0) : valW T (stayW X A na f p t) = T ((t : Int) - 1).toNat p + cntN (btwB X A p p (f + (t : Int) - 1) (f + (t : Int))) na := by
  unfold valW stayW
  rw [if_pos rfl]
  simp only [Int.toNat_natCast]
  rw [show f + (t : Int) - 1 = f + ((t : Int) - 1) by omega]
  omega
theorem val_sail {k : Nat} {d : Int} (h1 : 1 ≤ d) (h2 : d ≤ (t : Int)) : valW T (sailW X A E na f p t k d) = sailI X A T na f (t : Int) p (E k 0) d := by
  unfold valW sailW sailI wayI
  rw [if_pos rfl]
  simp only [Int.toNat_natCast]
  rw [show max (f + (t : Int) - d) f = f + ((t : Int) - d) by omega, show min (f + (t : Int) - d + 1) (f + (t : Int)) = f + ((t : Int) - d + 1) by omega, show max (f + (t : Int) - d + 1) f = f + ((t : Int) - d + 1) by omega]
  omega
theorem least_inner {pre : List Way} (hp : pre ≠ []) {k : Nat} (he : EdgeOk np (E k)) : ∀ m : Nat, m ≤ edgeN E t k → (bestW T (pre ++ innerW X A E na f p t k m)).least = innerI X A T na f (t : Int) p (E k 0) (E k 2) (bestW T pre).least m
  | 0, _ => by unfold innerW innerI; rw [List.append_nil]
  | m + 1, hm => by
    unfold innerW innerI
    rw [← List.append_assoc, bestW_least T (by simp [hp]), least_inner hp he m (by omega), val_sail]
    · have := he.2.2.2.1; omega
    · unfold edgeN at hm; omega
theorem least_edge {pre : List Way} (hp : pre ≠ []) {k : Nat} (he : EdgeOk np (E k)) : (bestW T (pre ++ edgeW X A E na f p t k)).least = edgeI X A E T na f (t : Int) p k (bestW T pre).least := by
  unfold edgeW edgeI
  split
  · split
    · rw [← List.append_assoc, bestW_least T (by simp [hp]), least_inner hp he _ (Nat.le_refl _)]
      rfl
    · rw [List.append_nil, least_inner hp he _ (Nat.le_refl _)]
      rfl
  · rw [List.append_nil]
theorem least_edges (ht : t ≠ 0) : ∀ k : Nat, (∀ i, i < k → EdgeOk np (E i)) → (bestW T (edgesW X A E na f p t k)).least = edgesI X A E T na f (t : Int) p (T ((t : Int) - 1).toNat p + cntN (btwB X A p p (f + (t : Int) - 1) (f + (t : Int))) na) k
  | 0, _ => by
    unfold edgesW edgesI
    rw [bestW_one, ← val_stay ht]
  | k + 1, he => by
    unfold edgesW edgesI
    rw [least_edge (edgesW_ne X A E na f p t k) (he k (by omega)), least_edges ht k (fun i hi => he i (by omega))]
theorem best_bound (he : ∀ i, i < ne → EdgeOk np (E i)) : (bestW T (waysW X A E na f p t ne)).least = boundI X A E T na f (t : Int) p ne := by
  unfold waysW boundI
  by_cases ht : t = 0
  · rw [if_pos ht, if_pos (by omega), bestW_one]
    rfl
  · rw [if_neg ht, if_neg (by omega), least_edges ht ne he]
theorem waysW_ne : waysW X A E na f p t ne ≠ [] := by
  unfold waysW
  split
  · simp
  · exact edgesW_ne X A E na f p t ne
end
end Go.Proofs.Ytcpnkhiillgffaa
