/- The walks of the small functions of chapter 1's reference. -/
import Derived.Test.YtnidacjmgekdjaaPlaneD
namespace Go.Proofs.Ytnidacjmgekdjaa
open Go.RowKit
attribute [local go_sem] bqOp bqAll bqUpon
attribute [local irreducible] wpQuiet wpBQ
theorem rValid_yes (x y : Int) (w : World) (h : Vld x y) : Calls Try.prog 32 #[.agg #[.int .i64 x, .int .i64 y]] w fun e w' => e = .returned (.bool true) ∧ Below w.heap.size w w' := by
  obtain ⟨h1, h2, h3, h4⟩ := h
  go_enter Try.func32, Try.ntmps32
  go_wp2
  all_goals (go_returns; exact ⟨ret_bool (by simp <;> omega), by go_grown⟩)
theorem rValid_no (x y : Int) (w : World) (h : ¬ Vld x y) : Calls Try.prog 32 #[.agg #[.int .i64 x, .int .i64 y]] w fun e w' => e = .returned (.bool false) ∧ Below w.heap.size w w' := by
  have h' : -1000000 ≤ x → x ≤ 1000000 → -1000000 ≤ y → ¬ y ≤ 1000000 := fun h1 h2 h3 h4 => h ⟨h1, h2, h3, h4⟩
  have H := Lib.hid h'
  clear h h'
  go_enter Try.func32, Try.ntmps32
  go_wp2
  all_goals (go_returns; exact ⟨ret_bool (by have := H.out; simp <;> omega), by go_grown⟩)
theorem rRange_yes (d : Int) (w : World) (h1 : 0 ≤ d) (h2 : d ≤ 3000000) : Calls Try.prog 36 #[.int .i64 d] w fun e w' => e = .returned (.bool true) ∧ Below w.heap.size w w' := by
  go_enter Try.func36, Try.ntmps36
  go_wp2
  all_goals (go_returns; exact ⟨ret_bool (by simp <;> omega), by go_grown⟩)
theorem rRange_no (d : Int) (w : World) (h : ¬ (0 ≤ d ∧ d ≤ 3000000)) : Calls Try.prog 36 #[.int .i64 d] w fun e w' => e = .returned (.bool false) ∧ Below w.heap.size w w' := by
  by_cases h1 : 0 ≤ d
  · have h2 : 3000000 < d := by omega
    go_enter Try.func36, Try.ntmps36
    go_wp2
    all_goals (go_returns; exact ⟨ret_bool (by simp <;> omega), by go_grown⟩)
  · have h1 : d < 0 := by omega
    go_enter Try.func36, Try.ntmps36
    go_wp2
    all_goals (go_returns; exact ⟨ret_bool (by simp <;> omega), by go_grown⟩)
theorem times_eq (x y : Nat) : x / 4194304 * (y / 4194304) + (x / 4194304 * (y % 4194304) + x % 4194304 * (y / 4194304)) / 4194304 + (x % 4194304 * (y % 4194304) + (x / 4194304 * (y % 4194304) + x % 4194304 * (y / 4194304)) % 4194304 * 4194304) / 17592186044416 = x * y / 17592186044416 ∧
    (x % 4194304 * (y % 4194304) + (x / 4194304 * (y % 4194304) + x % 4194304 * (y / 4194304)) % 4194304 * 4194304) % 17592186044416 = x * y % 17592186044416 := by
  have e : x * y = (x / 4194304) * (y / 4194304) * (4194304 * 4194304) + ((x / 4194304) * (y % 4194304) + (x % 4194304) * (y / 4194304)) * 4194304 + (x % 4194304) * (y % 4194304) := by
    rw [← Lib.split_mul, Nat.div_add_mod' x 4194304, Nat.div_add_mod' y 4194304]
  rw [e]
  generalize (x / 4194304) * (y / 4194304) = a at *
  generalize (x / 4194304) * (y % 4194304) = b at *
  generalize (x % 4194304) * (y / 4194304) = c at *
  generalize (x % 4194304) * (y % 4194304) = d at *
  omega
end Go.Proofs.Ytnidacjmgekdjaa
