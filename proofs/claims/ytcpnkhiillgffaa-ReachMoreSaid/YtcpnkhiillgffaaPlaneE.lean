/- The walks of package plane's exported functions. -/
import Derived.Test.YtcpnkhiillgffaaPlaneC
import Derived.Test.YtcpnkhiillgffaaPlaneD
namespace Go.Proofs.Ytcpnkhiillgffaa
open Go.RowKit
attribute [local go_sem] bqOp bqAll bqUpon
attribute [local irreducible] wpQuiet wpBQ
theorem valids2_yes (ax ay bx by' : Int) (b c0 : Nat) (w : World) (h : w.heap[b]? = some (.cells #[.int .i64 ax, .int .i64 ay, .int .i64 bx, .int .i64 by'] 39)) (hv : Vld ax ay ∧ Vld bx by') :
    Calls Try.prog 75 #[.slice (some ⟨b, 0, none⟩) 2 c0] w fun e w' => e = .returned (.bool true) ∧ Below w.heap.size w w' :=
  valids_yes b 2 c0 (fun i => if i = 0 then ax else bx) (fun i => if i = 0 then ay else by') w (by omega) (fun i hi => by rw [cell_block h, cell_block h]; match i, hi with | 0, _ => exact ⟨rfl, rfl⟩ | 1, _ => exact ⟨rfl, rfl⟩)
    (fun i hi => by obtain ⟨h0, h1⟩ := hv; match i, hi with | 0, _ => exact h0 | 1, _ => exact h1)
theorem valids2_no (ax ay bx by' : Int) (b c0 : Nat) (w : World) (h : w.heap[b]? = some (.cells #[.int .i64 ax, .int .i64 ay, .int .i64 bx, .int .i64 by'] 39)) (hv : ¬ (Vld ax ay ∧ Vld bx by')) :
    Calls Try.prog 75 #[.slice (some ⟨b, 0, none⟩) 2 c0] w fun e w' => e = .returned (.bool false) ∧ Below w.heap.size w w' := by
  have hx : ∃ m, m < 2 ∧ ¬ Vld ((fun i => if i = 0 then ax else bx) m) ((fun i => if i = 0 then ay else by') m) := by
    by_cases h0 : Vld ax ay
    case neg => exact ⟨0, by omega, h0⟩
    by_cases h1 : Vld bx by'
    case neg => exact ⟨1, by omega, h1⟩
    exact absurd ⟨h0, h1⟩ hv
  obtain ⟨m, hm, hn⟩ := hx
  exact valids_no b 2 c0 m (fun i => if i = 0 then ax else bx) (fun i => if i = 0 then ay else by') w (by omega) (fun i hi => by rw [cell_block h, cell_block h]; match i, hi with | 0, _ => exact ⟨rfl, rfl⟩ | 1, _ => exact ⟨rfl, rfl⟩) hm hn
theorem valids3_yes (ax ay bx by' cx cy : Int) (b c0 : Nat) (w : World) (h : w.heap[b]? = some (.cells #[.int .i64 ax, .int .i64 ay, .int .i64 bx, .int .i64 by', .int .i64 cx, .int .i64 cy] 39)) (hv : Vld ax ay ∧ Vld bx by' ∧ Vld cx cy) :
    Calls Try.prog 75 #[.slice (some ⟨b, 0, none⟩) 3 c0] w fun e w' => e = .returned (.bool true) ∧ Below w.heap.size w w' :=
  valids_yes b 3 c0 (fun i => if i = 0 then ax else if i = 1 then bx else cx) (fun i => if i = 0 then ay else if i = 1 then by' else cy) w (by omega) (fun i hi => by rw [cell_block h, cell_block h]; match i, hi with | 0, _ => exact ⟨rfl, rfl⟩ | 1, _ => exact ⟨rfl, rfl⟩ | 2, _ => exact ⟨rfl, rfl⟩)
    (fun i hi => by obtain ⟨h0, h1, h2⟩ := hv; match i, hi with | 0, _ => exact h0 | 1, _ => exact h1 | 2, _ => exact h2)
theorem valids3_no (ax ay bx by' cx cy : Int) (b c0 : Nat) (w : World) (h : w.heap[b]? = some (.cells #[.int .i64 ax, .int .i64 ay, .int .i64 bx, .int .i64 by', .int .i64 cx, .int .i64 cy] 39)) (hv : ¬ (Vld ax ay ∧ Vld bx by' ∧ Vld cx cy)) :
    Calls Try.prog 75 #[.slice (some ⟨b, 0, none⟩) 3 c0] w fun e w' => e = .returned (.bool false) ∧ Below w.heap.size w w' := by
  have hx : ∃ m, m < 3 ∧ ¬ Vld ((fun i => if i = 0 then ax else if i = 1 then bx else cx) m) ((fun i => if i = 0 then ay else if i = 1 then by' else cy) m) := by
    by_cases h0 : Vld ax ay
    case neg => exact ⟨0, by omega, h0⟩
    by_cases h1 : Vld bx by'
    case neg => exact ⟨1, by omega, h1⟩
    by_cases h2 : Vld cx cy
    case neg => exact ⟨2, by omega, h2⟩
    exact absurd ⟨h0, h1, h2⟩ hv
  obtain ⟨m, hm, hn⟩ := hx
  exact valids_no b 3 c0 m (fun i => if i = 0 then ax else if i = 1 then bx else cx) (fun i => if i = 0 then ay else if i = 1 then by' else cy) w (by omega) (fun i hi => by rw [cell_block h, cell_block h]; match i, hi with | 0, _ => exact ⟨rfl, rfl⟩ | 1, _ => exact ⟨rfl, rfl⟩ | 2, _ => exact ⟨rfl, rfl⟩) hm hn
theorem valids4_yes (ax ay bx by' cx cy dx dy : Int) (b c0 : Nat) (w : World) (h : w.heap[b]? = some (.cells #[.int .i64 ax, .int .i64 ay, .int .i64 bx, .int .i64 by', .int .i64 cx, .int .i64 cy, .int .i64 dx, .int .i64 dy] 39)) (hv : Vld ax ay ∧ Vld bx by' ∧ Vld cx cy ∧ Vld dx dy) :
    Calls Try.prog 75 #[.slice (some ⟨b, 0, none⟩) 4 c0] w fun e w' => e = .returned (.bool true) ∧ Below w.heap.size w w' :=
  valids_yes b 4 c0 (fun i => if i = 0 then ax else if i = 1 then bx else if i = 2 then cx else dx) (fun i => if i = 0 then ay else if i = 1 then by' else if i = 2 then cy else dy) w (by omega) (fun i hi => by rw [cell_block h, cell_block h]; match i, hi with | 0, _ => exact ⟨rfl, rfl⟩ | 1, _ => exact ⟨rfl, rfl⟩ | 2, _ => exact ⟨rfl, rfl⟩ | 3, _ => exact ⟨rfl, rfl⟩)
    (fun i hi => by obtain ⟨h0, h1, h2, h3⟩ := hv; match i, hi with | 0, _ => exact h0 | 1, _ => exact h1 | 2, _ => exact h2 | 3, _ => exact h3)
theorem valids4_no (ax ay bx by' cx cy dx dy : Int) (b c0 : Nat) (w : World) (h : w.heap[b]? = some (.cells #[.int .i64 ax, .int .i64 ay, .int .i64 bx, .int .i64 by', .int .i64 cx, .int .i64 cy, .int .i64 dx, .int .i64 dy] 39)) (hv : ¬ (Vld ax ay ∧ Vld bx by' ∧ Vld cx cy ∧ Vld dx dy)) :
    Calls Try.prog 75 #[.slice (some ⟨b, 0, none⟩) 4 c0] w fun e w' => e = .returned (.bool false) ∧ Below w.heap.size w w' := by
  have hx : ∃ m, m < 4 ∧ ¬ Vld ((fun i => if i = 0 then ax else if i = 1 then bx else if i = 2 then cx else dx) m) ((fun i => if i = 0 then ay else if i = 1 then by' else if i = 2 then cy else dy) m) := by
    by_cases h0 : Vld ax ay
    case neg => exact ⟨0, by omega, h0⟩
    by_cases h1 : Vld bx by'
    case neg => exact ⟨1, by omega, h1⟩
    by_cases h2 : Vld cx cy
    case neg => exact ⟨2, by omega, h2⟩
    by_cases h3 : Vld dx dy
    case neg => exact ⟨3, by omega, h3⟩
    exact absurd ⟨h0, h1, h2, h3⟩ hv
  obtain ⟨m, hm, hn⟩ := hx
  exact valids_no b 4 c0 m (fun i => if i = 0 then ax else if i = 1 then bx else if i = 2 then cx else dx) (fun i => if i = 0 then ay else if i = 1 then by' else if i = 2 then cy else dy) w (by omega) (fun i hi => by rw [cell_block h, cell_block h]; match i, hi with | 0, _ => exact ⟨rfl, rfl⟩ | 1, _ => exact ⟨rfl, rfl⟩ | 2, _ => exact ⟨rfl, rfl⟩ | 3, _ => exact ⟨rfl, rfl⟩) hm hn
end Go.Proofs.Ytcpnkhiillgffaa
