/- The walk of the reference's shaped. -/
import Derived.Test.YtcpnkhiillgffaaReachQ
namespace Go.Proofs.Ytcpnkhiillgffaa
open Go.RowKit
attribute [local go_sem] bqOp bqAll bqUpon
attribute [local irreducible] wpQuiet wpBQ
set_option linter.unusedVariables false
/-- Row t of the table is a row of np small integers. -/
def RowS (np : Nat) (len : Nat → Nat) (T : Nat → Nat → Int) (t : Nat) : Prop := len t = np ∧ ∀ j, j < np → -1000000 ≤ T t j ∧ T t j ≤ 1000000
instance (np : Nat) (len : Nat → Nat) (T : Nat → Nat → Int) (t : Nat) : Decidable (RowS np len T t) := by unfold RowS; exact inferInstance
def ShapedOk (n : Nat) (rows : Int) (np : Nat) (len : Nat → Nat) (T : Nat → Nat → Int) : Prop := (n : Int) = rows ∧ ∀ t, t < n → RowS np len T t
instance (n : Nat) (rows : Int) (np : Nat) (len : Nat → Nat) (T : Nat → Nat → Int) : Decidable (ShapedOk n rows np len T) := by unfold ShapedOk; exact inferInstance
set_option maxRecDepth 100000 in
set_option maxHeartbeats 1000000 in
theorem q33shaped_any (n ct np : Nat) (adt : Option Addr) (rows : Int) (len : Nat → Nat) (T : Nat → Nat → Int) (w : World) (hT : Tab w (.slice adt n ct) n len T) (hn : n ≤ 9223372036854775807) (hnp : np ≤ 9223372036854775807) {v : Bool} (hv : decide (ShapedOk n rows np len T) = v) :
    Calls Try.prog 71 #[.slice adt n ct, .int .i64 rows, .int .i64 (np : Int)] w fun e w' => e = .returned (.bool v) ∧ Below w.heap.size w w' := by
  have HT := Lib.hid hT
  have HV := Lib.hid hv
  clear hT hv
  by_cases hnm : (n : Int) = rows
  rotate_left
  · have d1 : ((n : Int) != rows) = true := by simp; omega
    have d2 : ((n : Int) == rows) = false := by simp; omega
    have NM := Lib.hid hnm
    clear hnm
    go_enter Try.func71, Try.ntmps71
    go_wp2_with fail
    go_returns
    exact ⟨ret_bool (by rw [← HV.out]; exact (decide_eq_false (fun h => NM.out h.1)).symm), Below.refl _ _⟩
  subst hnm
  go_enter Try.func71, Try.ntmps71
  go_wp2
  go_loopw [7] (fun i wr => ∃ k : Nat, k ≤ n ∧ i = .int .i64 k ∧ Below w.heap.size w wr ∧ ∀ t, t < k → RowS np len T t) (fun i _ => n - (intOf i).toNat)
  case atStart => exact ⟨0, by omega, rfl, Below.refl _ _, fun t ht => by omega⟩
  case round =>
    obtain ⟨k, hk, rfl, hbr, hall⟩ := hrel
    have ALL := Lib.hid hall
    clear hall
    by_cases hlt : k < n
    rotate_left
    · obtain rfl : k = n := by omega
      go_wp2_with fail
      go_returns
      exact ⟨ret_bool (by rw [← HV.out]; exact (decide_eq_true ⟨rfl, ALL.out⟩).symm), hbr⟩
    obtain ⟨g, o, a, ca, rfl, hc, hl, hr⟩ := HT.out.row hlt
    have C1 := Lib.hid hc
    have R1 := Lib.hid hr
    obtain ⟨x1, e1⟩ : ∃ x1, len k = x1 := ⟨_, rfl⟩
    rw [e1] at C1 R1 hl
    have E1 := Lib.hid e1
    clear hc hr e1
    have q1 := cell_later hbr C1.out
    by_cases hxx : x1 = np
    rotate_left
    · have d1 : ((x1 : Int) != (np : Int)) = true := by simp; omega
      have d2 : ((x1 : Int) == (np : Int)) = false := by simp; omega
      have NX := Lib.hid hxx
      clear hxx
      go_wp2_with fail
      go_returns
      exact ⟨ret_bool (by rw [← HV.out]; exact (decide_eq_false (fun h => NX.out (by rw [← E1.out]; exact (h.2 k hlt).1))).symm), hbr⟩
    subst hxx
    have d1 : ((x1 : Int) != (x1 : Int)) = false := by simp
    go_wp2_with fail
    clear q1 d1
    go_loopw [8] (fun i ws => ∃ j : Nat, j ≤ x1 ∧ i = .int .i64 j ∧ Below w.heap.size w ws ∧ ∀ j', j' < j → -1000000 ≤ T k j' ∧ T k j' ≤ 1000000) (fun i _ => x1 - (intOf i).toNat)
    case atStart => exact ⟨0, by omega, rfl, hbr, fun j' hj => by omega⟩
    case round =>
      obtain ⟨j, hj, rfl, hbs, hall⟩ := hrel
      have ALJ := Lib.hid hall
      clear hall
      by_cases hjt : j < x1
      rotate_left
      · obtain rfl : j = x1 := by omega
        go_wp2_with fail
        go_roundw
        case rel => exact ⟨k + 1, by omega, by go_num, hbs, fun t ht => by
          rcases Nat.lt_or_ge t k with h | h
          · exact ALL.out t h
          · obtain rfl : t = k := by omega
            exact ⟨E1.out, ALJ.out⟩⟩
        case measure => simp [intOf]; omega
      obtain ⟨g3, o3, rfl, hc3⟩ := R1.out.int hjt
      obtain ⟨y1, f1⟩ : ∃ y1, T k j = y1 := ⟨_, rfl⟩
      rw [f1] at hc3
      have C3 := Lib.hid hc3
      have Y1 := Lib.hid f1
      clear hc3 f1
      have q1 := cell_later hbs C1.out
      have q3 := cell_later hbs C3.out
      by_cases hy1 : y1 < -1000000
      · go_wp2_with fail
        go_returns
        exact ⟨ret_bool (by rw [← HV.out]; exact (decide_eq_false (fun h => by have h := (h.2 k hlt).2 j hjt; rw [Y1.out] at h; omega)).symm), hbs⟩
      by_cases hy2 : 1000000 < y1
      · go_wp2_with fail
        go_returns
        exact ⟨ret_bool (by rw [← HV.out]; exact (decide_eq_false (fun h => by have h := (h.2 k hlt).2 j hjt; rw [Y1.out] at h; omega)).symm), hbs⟩
      go_wp2_with fail
      go_roundw
      case rel => exact ⟨j + 1, by omega, by go_num, hbs, fun j' hj' => by
        rcases Nat.lt_or_ge j' j with h | h
        · exact ALJ.out j' h
        · obtain rfl : j' = j := by omega
          rw [Y1.out]; omega⟩
      case measure => simp [intOf]; omega
end Go.Proofs.Ytcpnkhiillgffaa
