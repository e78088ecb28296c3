/- The answers of package plane as plain functions on integers. -/
namespace Go.Proofs.Ytcpnkhiillgffaa
structure Vld (x y : Int) : Prop where
  x1 : -1000000 ≤ x
  x2 : x ≤ 1000000
  y1 : -1000000 ≤ y
  y2 : y ≤ 1000000
def crs (ax ay bx by' cx cy : Int) : Int := (bx - ax) * (cy - ay) - (by' - ay) * (cx - ax)
def OnS (px py ax ay bx by' : Int) : Prop := crs ax ay bx by' px py = 0 ∧ min ax bx ≤ px ∧ px ≤ max ax bx ∧ min ay by' ≤ py ∧ py ≤ max ay by'
instance (px py ax ay bx by' : Int) : Decidable (OnS px py ax ay bx by') := by unfold OnS; exact inferInstance
def onB (px py ax ay bx by' : Int) : Bool := decide (OnS px py ax ay bx by')
def crossB (ax ay bx by' cx cy dx dy : Int) : Bool := decide ((crs ax ay bx by' cx cy).sign * (crs ax ay bx by' dx dy).sign < 0 ∧ (crs cx cy dx dy ax ay).sign * (crs cx cy dx dy bx by').sign < 0)
def meetB (ax ay bx by' cx cy dx dy : Int) : Bool := crossB ax ay bx by' cx cy dx dy || (onB ax ay cx cy dx dy || (onB bx by' cx cy dx dy || (onB cx cy ax ay bx by' || onB dx dy ax ay bx by')))
def foot (px py ax ay bx by' : Int) : Int := (bx - ax) * (px - ax) + (by' - ay) * (py - ay)
def sqd (ax ay bx by' : Int) : Int := (bx - ax) * (bx - ax) + (by' - ay) * (by' - ay)
/-- The square of the distance of a place and a segment is num * fac / den. -/
def sqNum (px py ax ay bx by' : Int) : Int := if foot px py ax ay bx by' ≤ 0 then sqd ax ay px py else if sqd ax ay bx by' ≤ foot px py ax ay bx by' then sqd bx by' px py else max (crs ax ay bx by' px py) (-crs ax ay bx by' px py)
def sqFac (px py ax ay bx by' : Int) : Int := if foot px py ax ay bx by' ≤ 0 then 1 else if sqd ax ay bx by' ≤ foot px py ax ay bx by' then 1 else max (crs ax ay bx by' px py) (-crs ax ay bx by' px py)
def sqDen (px py ax ay bx by' : Int) : Int := if foot px py ax ay bx by' ≤ 0 then 1 else if sqd ax ay bx by' ≤ foot px py ax ay bx by' then 1 else sqd ax ay bx by'
def nearB (px py ax ay bx by' d : Int) : Bool := decide (sqNum px py ax ay bx by' * sqFac px py ax ay bx by' ≤ d * d * sqDen px py ax ay bx by')
def apartB (px py ax ay bx by' d : Int) : Bool := decide (d * d * sqDen px py ax ay bx by' ≤ sqNum px py ax ay bx by' * sqFac px py ax ay bx by')
def closeB (ax ay bx by' cx cy dx dy r : Int) : Bool := meetB ax ay bx by' cx cy dx dy || (nearB ax ay cx cy dx dy r || (nearB bx by' cx cy dx dy r || (nearB cx cy ax ay bx by' r || nearB dx dy ax ay bx by' r)))
def liesB (px py r qx qy s : Int) : Bool := decide (r ≤ s ∧ sqd px py qx qy ≤ (s - r) * (s - r))
/-- The square root of a number, rounded down. -/
def isqN : Nat → Nat
  | 0 => 0
  | n + 1 => if (isqN n + 1) * (isqN n + 1) ≤ n + 1 then isqN n + 1 else isqN n
theorem isqN_spec (n : Nat) : isqN n * isqN n ≤ n ∧ n < (isqN n + 1) * (isqN n + 1) := by
  induction n with
  | zero => simp [isqN]
  | succ n ih =>
    unfold isqN
    split
    · rename_i h
      refine ⟨h, ?_⟩
      have e : (isqN n + 1 + 1) * (isqN n + 1 + 1) = (isqN n + 1) * (isqN n + 1) + 2 * (isqN n + 1) + 1 := by
        simp only [Nat.add_mul, Nat.mul_add]; omega
      omega
    · omega
def isq (n : Int) : Int := isqN n.toNat
theorem isq_nn (n : Int) : 0 ≤ isq n := Int.natCast_nonneg _
theorem isq_le {n : Int} (h : 0 ≤ n) : isq n * isq n ≤ n := by
  have := (isqN_spec n.toNat).1
  unfold isq
  rw [← Int.natCast_mul]; omega
theorem isq_lt {n : Int} (h : 0 ≤ n) : n < (isq n + 1) * (isq n + 1) := by
  have := (isqN_spec n.toNat).2
  unfold isq
  rw [show ((isqN n.toNat : Int) + 1) = ((isqN n.toNat + 1 : Nat) : Int) by omega, ← Int.natCast_mul]; omega
theorem isq_eq {n r : Int} (h0 : 0 ≤ r) (h1 : r * r ≤ n) (h2 : n < (r + 1) * (r + 1)) : isq n = r := by
  have hr : 0 ≤ r * r := Int.mul_nonneg h0 h0
  have a1 := isq_le (n := n) (by omega)
  have a2 := isq_lt (n := n) (by omega)
  have a0 := isq_nn n
  rcases Int.lt_trichotomy (isq n) r with h | h | h
  · have : (isq n + 1) * (isq n + 1) ≤ r * r := Int.mul_le_mul (by omega) (by omega) (by omega) (by omega)
    omega
  · exact h
  · have : (r + 1) * (r + 1) ≤ isq n * isq n := Int.mul_le_mul (by omega) (by omega) (by omega) (by omega)
    omega
/-- The distance of two places, rounded up. -/
def dHi (n : Int) : Int := if isq n * isq n = n then isq n else isq n + 1
end Go.Proofs.Ytcpnkhiillgffaa
