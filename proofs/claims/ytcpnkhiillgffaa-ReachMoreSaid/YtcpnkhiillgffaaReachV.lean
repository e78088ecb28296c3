/- The sums of over: how many pieces of times from f on and before f + j are heard at p and q. -/
import Derived.Test.YtcpnkhiillgffaaReachU
namespace Go.Proofs.Ytcpnkhiillgffaa
open Go.RowKit
set_option linter.unusedVariables false
def sumF (X A : Nat → Nat → Int) (na : Nat) (f : Int) (p q : Int) (j : Nat) : Int := cntN (btwB X A p.toNat q.toNat f (f + (j : Int))) na
theorem btw_split (X A : Nat → Nat → Int) (p q : Nat) (f s u : Int) (h1 : f ≤ s) (h2 : s ≤ u) (n : Nat) :
    cntN (btwB X A p q f u) n = cntN (btwB X A p q f s) n + cntN (btwB X A p q s u) n := by
  induction n with
  | zero => rfl
  | succ n ih =>
    unfold cntN
    rw [ih]
    unfold btwB
    cases (hrB X (A n 1) (A n 2) (A n 3) p && hrB X (A n 1) (A n 2) (A n 3) q)
    · simp
    · simp only [Bool.and_true, decide_eq_true_eq]
      split <;> split <;> split <;> omega
/-- What heard(p, q, a, b) returns. -/
theorem heard_sum (X A : Nat → Nat → Int) (na : Nat) (f : Int) (p q : Int) (a b : Nat) :
    sumF X A na f p q (max a b) - sumF X A na f p q a = cntN (btwB X A p.toNat q.toNat (f + (a : Int)) (f + ((max a b : Nat) : Int))) na := by
  unfold sumF
  rw [btw_split X A p.toNat q.toNat f (f + (a : Int)) (f + ((max a b : Nat) : Int)) (by omega) (by omega) na]
  omega
end Go.Proofs.Ytcpnkhiillgffaa
