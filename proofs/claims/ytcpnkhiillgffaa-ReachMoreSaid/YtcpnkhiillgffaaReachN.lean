/- The table of the reference as a plain function, row by row; its bounds. -/
import Derived.Test.YtcpnkhiillgffaaReachM
namespace Go.Proofs.Ytcpnkhiillgffaa
open Go.RowKit
set_option linter.unusedVariables false
section
variable (X A E : Nat → Nat → Int) (na : Nat) (f : Int) (ne : Nat)
/-- The table's first n rows. -/
def tblN : Nat → Nat → Nat → Int
  | 0 => fun _ _ => 0
  | n + 1 => fun u j => if u = n then boundI X A E (tblN n) na f (n : Int) j ne else tblN n u j
theorem tblN_same {n u : Nat} (h : u ≠ n) (j : Nat) : tblN X A E na f ne (n + 1) u j = tblN X A E na f ne n u j := if_neg h
theorem tblN_new (n j : Nat) : tblN X A E na f ne (n + 1) n j = boundI X A E (tblN X A E na f ne n) na f (n : Int) j ne := if_pos rfl
theorem tblN_le {n m u : Nat} (hu : u < n) (hm : n ≤ m) (j : Nat) : tblN X A E na f ne m u j = tblN X A E na f ne n u j := by
  induction m with
  | zero => omega
  | succ m ih =>
    rcases Nat.lt_or_ge n (m + 1) with h | h
    · rw [tblN_same X A E na f ne (show u ≠ m by omega), ih (by omega)]
    · obtain rfl : n = m + 1 := by omega
      rfl
end
section
variable {X A E T U : Nat → Nat → Int} {na ne : Nat} {f t : Int} {p : Nat}
theorem inner_congr {q d0 cur : Int} (h : ∀ u : Nat, (u : Int) < t → ∀ j, T u j = U u j) (hd : 1 ≤ d0) : ∀ m : Nat, d0 + (m : Int) ≤ t + 1 → innerI X A T na f t p q d0 cur m = innerI X A U na f t p q d0 cur m
  | 0, _ => rfl
  | m + 1, hm => by
    unfold innerI
    rw [inner_congr h hd m (by omega)]
    unfold sailI
    rw [h (t - (d0 + (m : Int))).toNat (by omega)]
theorem edge_congr {k : Nat} {cur : Int} (h : ∀ u : Nat, (u : Int) < t → ∀ j, T u j = U u j) (hd : 1 ≤ E k 2) (_ : 0 ≤ t) : edgeI X A E T na f t p k cur = edgeI X A E U na f t p k cur := by
  unfold edgeI
  by_cases hM : E k 2 ≤ t + 1
  · rw [inner_congr h hd _ (by omega)]
  · have e : (min (E k 3) t - E k 2 + 1).toNat = 0 := by omega
    rw [e]; rfl
theorem edges_congr {base : Int} (h : ∀ u : Nat, (u : Int) < t → ∀ j, T u j = U u j) (t0 : 0 ≤ t) : ∀ k : Nat, (∀ i, i < k → 1 ≤ E i 2) → edgesI X A E T na f t p base k = edgesI X A E U na f t p base k
  | 0, _ => rfl
  | k + 1, hd => by
    unfold edgesI
    rw [edges_congr h t0 k (fun i hi => hd i (by omega)), edge_congr h (hd k (by omega)) t0]
theorem bound_congr (h : ∀ u : Nat, (u : Int) < t → ∀ j, T u j = U u j) (t0 : 0 ≤ t) (hd : ∀ i, i < ne → 1 ≤ E i 2) : boundI X A E T na f t p ne = boundI X A E U na f t p ne := by
  unfold boundI
  by_cases ht : t = 0
  · rw [if_pos ht, if_pos ht]
  · rw [if_neg ht, if_neg ht, h (t - 1).toNat (by omega), edges_congr h t0 ne hd]
theorem inner_bd {q d0 cur : Int} (h : ∀ u j, 0 ≤ T u j) (hc : 0 ≤ cur) : ∀ m : Nat, 0 ≤ innerI X A T na f t p q d0 cur m ∧ innerI X A T na f t p q d0 cur m ≤ cur
  | 0 => ⟨hc, Int.le_refl _⟩
  | m + 1 => by
    have ih := inner_bd (q := q) (d0 := d0) h hc m
    unfold innerI
    have h1 := h (t - (d0 + (m : Int))).toNat q.toNat
    have h2 := (wayI_bd X A na q (f + t - (d0 + (m : Int))) (p : Int) (f + t) f).1
    have h3 : 0 ≤ sailI X A T na f t p q (d0 + (m : Int)) := by unfold sailI; omega
    omega
theorem edge_bd {k : Nat} {cur : Int} (h : ∀ u j, 0 ≤ T u j) (hc : 0 ≤ cur) : 0 ≤ edgeI X A E T na f t p k cur ∧ edgeI X A E T na f t p k cur ≤ cur := by
  unfold edgeI
  have h1 := inner_bd (X := X) (A := A) (T := T) (na := na) (f := f) (t := t) (p := p) (q := E k 0) (d0 := E k 2) h hc (min (E k 3) t - E k 2 + 1).toNat
  have h2 := (cntN_bd (btwB X A (E k 0).toNat p f (f + t)) na).1
  split
  · split <;> omega
  · omega
theorem edges_bd {base : Int} (h : ∀ u j, 0 ≤ T u j) (hc : 0 ≤ base) : ∀ k : Nat, 0 ≤ edgesI X A E T na f t p base k ∧ edgesI X A E T na f t p base k ≤ base
  | 0 => ⟨hc, Int.le_refl _⟩
  | k + 1 => by
    have ih := edges_bd h hc k
    unfold edgesI
    have := edge_bd (X := X) (A := A) (E := E) (T := T) (na := na) (f := f) (t := t) (p := p) (k := k) h ih.1
    omega
theorem bound_bd (h : ∀ u j, 0 ≤ T u j) : 0 ≤ boundI X A E T na f t p ne ∧ boundI X A E T na f t p ne ≤ (if t = 0 then 0 else T (t - 1).toNat p + (na : Int)) := by
  unfold boundI
  have h2 := cntN_bd (btwB X A p p (f + t - 1) (f + t)) na
  have h1 := h (t - 1).toNat p
  have := edges_bd (X := X) (A := A) (E := E) (T := T) (na := na) (f := f) (t := t) (p := p) (base := T (t - 1).toNat p + cntN (btwB X A p p (f + t - 1) (f + t)) na) h (by omega) ne
  split <;> omega
end
theorem tblN_bd (X A E : Nat → Nat → Int) (na : Nat) (f : Int) (ne : Nat) (n : Nat) : ∀ u j, 0 ≤ tblN X A E na f ne n u j ∧ tblN X A E na f ne n u j ≤ (na : Int) * (u : Int) := by
  induction n with
  | zero => intro u j; exact ⟨Int.le_refl _, Int.mul_nonneg (by omega) (by omega)⟩
  | succ n ih =>
    intro u j
    by_cases hu : u = n
    · subst hu
      rw [tblN_new]
      have hb := bound_bd (X := X) (A := A) (E := E) (T := tblN X A E na f ne u) (na := na) (ne := ne) (f := f) (t := (u : Int)) (p := j) (fun u' j' => (ih u' j').1)
      refine ⟨hb.1, ?_⟩
      by_cases h0 : (u : Int) = 0
      · rw [if_pos h0] at hb; rw [h0] at hb ⊢; rw [Int.mul_zero]; exact hb.2
      · rw [if_neg h0] at hb
        have h1 := (ih ((u : Int) - 1).toNat j).2
        have e : (((u : Int) - 1).toNat : Int) = (u : Int) - 1 := by omega
        rw [e, Int.mul_sub] at h1
        omega
    · rw [tblN_same X A E na f ne hu]; exact ih u j
end Go.Proofs.Ytcpnkhiillgffaa
