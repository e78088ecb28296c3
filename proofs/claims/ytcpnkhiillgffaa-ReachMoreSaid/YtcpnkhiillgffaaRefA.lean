/- The walks of the small functions of chapter 1's reference. -/
import Derived.Test.YtcpnkhiillgffaaPlaneD
namespace Go.Proofs.Ytcpnkhiillgffaa
open Go.RowKit
attribute [local go_sem] bqOp bqAll bqUpon
attribute [local irreducible] wpQuiet wpBQ
theorem rMinus_any (bx by' ax ay : Int) (w : World) (h1 : -4000000 ≤ bx - ax) (h2 : bx - ax ≤ 4000000) (h3 : -4000000 ≤ by' - ay) (h4 : by' - ay ≤ 4000000) :
    Calls Try.prog 98 #[.agg #[.int .i64 bx, .int .i64 by'], .agg #[.int .i64 ax, .int .i64 ay]] w fun e w' => e = .returned (.agg #[.int .i64 (bx - ax), .int .i64 (by' - ay)]) ∧ Below w.heap.size w w' := by
  go_enter Try.func98, Try.ntmps98
  go_wp2
  go_returns
  exact ⟨rfl, by go_grown⟩
theorem rDot_any (ax ay bx by' : Int) (w : World) (h1 : -9000000000000000000 ≤ ax * bx) (h1' : ax * bx ≤ 9000000000000000000) (h2 : -9000000000000000000 ≤ ay * by') (h2' : ay * by' ≤ 9000000000000000000)
   (h3 : -9000000000000000000 ≤ ax * bx + ay * by') (h3' : ax * bx + ay * by' ≤ 9000000000000000000) :
    Calls Try.prog 97 #[.agg #[.int .i64 ax, .int .i64 ay], .agg #[.int .i64 bx, .int .i64 by']] w fun e w' => e = .returned (.int .i64 (ax * bx + ay * by')) ∧ Below w.heap.size w w' := by
  go_enter Try.func97, Try.ntmps97
  go_wp2
  go_returns
  exact ⟨rfl, by go_grown⟩
theorem rValid_yes (x y : Int) (w : World) (h : Vld x y) : Calls Try.prog 43 #[.agg #[.int .i64 x, .int .i64 y]] w fun e w' => e = .returned (.bool true) ∧ Below w.heap.size w w' := by
  obtain ⟨h1, h2, h3, h4⟩ := h
  go_enter Try.func43, Try.ntmps43
  go_wp2
  all_goals (go_returns; exact ⟨ret_bool (by simp <;> omega), by go_grown⟩)
theorem rValid_no (x y : Int) (w : World) (h : ¬ Vld x y) : Calls Try.prog 43 #[.agg #[.int .i64 x, .int .i64 y]] w fun e w' => e = .returned (.bool false) ∧ Below w.heap.size w w' := by
  have h' : -1000000 ≤ x → x ≤ 1000000 → -1000000 ≤ y → ¬ y ≤ 1000000 := fun h1 h2 h3 h4 => h ⟨h1, h2, h3, h4⟩
  have H := Lib.hid h'
  clear h h'
  go_enter Try.func43, Try.ntmps43
  go_wp2
  all_goals (go_returns; exact ⟨ret_bool (by have := H.out; simp <;> omega), by go_grown⟩)
theorem rRange_yes (d : Int) (w : World) (h1 : 0 ≤ d) (h2 : d ≤ 3000000) : Calls Try.prog 74 #[.int .i64 d] w fun e w' => e = .returned (.bool true) ∧ Below w.heap.size w w' := by
  go_enter Try.func74, Try.ntmps74
  go_wp2
  all_goals (go_returns; exact ⟨ret_bool (by simp <;> omega), by go_grown⟩)
theorem rRange_no (d : Int) (w : World) (h : ¬ (0 ≤ d ∧ d ≤ 3000000)) : Calls Try.prog 74 #[.int .i64 d] w fun e w' => e = .returned (.bool false) ∧ Below w.heap.size w w' := by
  by_cases h1 : 0 ≤ d
  · have h2 : 3000000 < d := by omega
    go_enter Try.func74, Try.ntmps74
    go_wp2
    all_goals (go_returns; exact ⟨ret_bool (by simp <;> omega), by go_grown⟩)
  · have h1 : d < 0 := by omega
    go_enter Try.func74, Try.ntmps74
    go_wp2
    all_goals (go_returns; exact ⟨ret_bool (by simp <;> omega), by go_grown⟩)
theorem rSquare_any (ax ay bx by' : Int) (w : World) (ha : Vld ax ay) (hb : Vld bx by') :
    Calls Try.prog 81 #[.agg #[.int .i64 ax, .int .i64 ay], .agg #[.int .i64 bx, .int .i64 by']] w fun e w' => e = .returned (.int .i64 (sqd ax ay bx by')) ∧ Below w.heap.size w w' := by
  obtain ⟨⟨m5, m6⟩, m7, m8⟩ := sqd_bd ha hb
  obtain ⟨a1, a2, a3, a4⟩ := ha
  obtain ⟨b1, b2, b3, b4⟩ := hb
  go_enter Try.func81, Try.ntmps81
  go_wp2_with fail
  refine wp_named fun W hW => ?_
  obtain ⟨p1, p2, hB⟩ := box2 hW
  clear hW
  have q1 := cellsR p1
  have q2 := cellsR p2
  clear p1 p2
  (refine wp_region_quiet_below (by kernel_rfl) (by kernel_rfl) ?_; (repeat (refine wpQuiet_step (fun K hK => ?_); replace hK := Lib.hid hK; go_simp; first | (refine hK.out _ ?_; clear hK K) | (apply Exists.intro; refine ⟨fun _ => ?_, hK.out _ ?_⟩; (first | (go_at_call 98; exact Calls.regrown_of (rMinus_any _ _ _ _ _ (by omega) (by omega) (by omega) (by omega))) | (go_at_call 97; exact Calls.regrown_of (rDot_any _ _ _ _ _ (by omega) (by omega) (by omega) (by omega) (by omega) (by omega)))); clear hK K))); refine wpQuiet_nil ?_)
  intro W1 hW1
  have hB1 := regrown_below hW1
  clear hW1
  go_wp2_with fail
  go_returns
  exact ⟨rfl, below_step hB hB1⟩
theorem times_eq (x y : Nat) : x / 4194304 * (y / 4194304) + (x / 4194304 * (y % 4194304) + x % 4194304 * (y / 4194304)) / 4194304 + (x % 4194304 * (y % 4194304) + (x / 4194304 * (y % 4194304) + x % 4194304 * (y / 4194304)) % 4194304 * 4194304) / 17592186044416 = x * y / 17592186044416 ∧
    (x % 4194304 * (y % 4194304) + (x / 4194304 * (y % 4194304) + x % 4194304 * (y / 4194304)) % 4194304 * 4194304) % 17592186044416 = x * y % 17592186044416 := by
  have e : x * y = (x / 4194304) * (y / 4194304) * (4194304 * 4194304) + ((x / 4194304) * (y % 4194304) + (x % 4194304) * (y / 4194304)) * 4194304 + (x % 4194304) * (y % 4194304) := by
    rw [← Lib.split_mul, Nat.div_add_mod' x 4194304, Nat.div_add_mod' y 4194304]
  rw [e]
  generalize (x / 4194304) * (y / 4194304) = a at *
  generalize (x / 4194304) * (y % 4194304) = b at *
  generalize (x % 4194304) * (y / 4194304) = c at *
  generalize (x % 4194304) * (y % 4194304) = d at *
  omega
end Go.Proofs.Ytcpnkhiillgffaa
