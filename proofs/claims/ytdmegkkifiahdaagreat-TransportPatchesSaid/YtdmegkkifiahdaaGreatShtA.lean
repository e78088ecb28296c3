/- The walks of datum.Valid, of sheet.within and of sheet.Valid. -/
import Derived.Test.YtdmegkkifiahdaaGreatFeatE
import Derived.Test.YtdmegkkifiahdaaGreatShtMath
namespace Go.Proofs.YtdmegkkifiahdaaGreat
open Go.RowKit
attribute [local go_sem] bqOp bqAll bqUpon sqOp sqAll sqUpon
attribute [local irreducible] wpQuiet wpBQ wpPlan
set_option linter.unusedVariables false
theorem dtdet_any (a b c d e f r : Int) (w : World) (ha : PartOk a) (hb : PartOk b) (hd : PartOk d) (he : PartOk e) {v : Int} (hv : a * e - b * d = v) : Calls Tryz.prog 209 #[.agg #[.int .i64 a, .int .i64 b, .int .i64 c, .int .i64 d, .int .i64 e, .int .i64 f, .int .i64 r]] w fun z w' => z = .returned (.int .i64 v) ∧ Below w.heap.size w w' := by
  have m1 := mul_bd ha.1 ha.2 he.1 he.2
  have m2 := mul_bd hb.1 hb.2 hd.1 hd.2
  obtain ⟨a1, a2⟩ := m1
  obtain ⟨b1, b2⟩ := m2
  have HV := Lib.hid hv
  clear hv ha hb hd he
  go_enter Tryz.func209, Tryz.ntmps209
  go_wp2
  go_returns
  exact ⟨ret_int HV.out, by go_grown⟩
theorem idx4_0 (a b c d : Int) (w : World) : (Instr.index 266 (.agg #[.int .i64 a, .int .i64 b, .int .i64 c, .int .i64 d]) (.int .i64 0)).run Tryz.prog w = .ok (.int .i64 a) w := by kernel_rfl
theorem idx4_1 (a b c d : Int) (w : World) : (Instr.index 266 (.agg #[.int .i64 a, .int .i64 b, .int .i64 c, .int .i64 d]) (.int .i64 1)).run Tryz.prog w = .ok (.int .i64 b) w := by kernel_rfl
theorem idx4_2 (a b c d : Int) (w : World) : (Instr.index 266 (.agg #[.int .i64 a, .int .i64 b, .int .i64 c, .int .i64 d]) (.int .i64 2)).run Tryz.prog w = .ok (.int .i64 c) w := by kernel_rfl
theorem idx4_3 (a b c d : Int) (w : World) : (Instr.index 266 (.agg #[.int .i64 a, .int .i64 b, .int .i64 c, .int .i64 d]) (.int .i64 3)).run Tryz.prog w = .ok (.int .i64 d) w := by kernel_rfl
theorem dtValid_any (m : Dat) (w : World) {v : Bool} (hv : decide (DatOk m) = v) : Calls Tryz.prog 105 #[.agg #[.int .i64 m.a, .int .i64 m.b, .int .i64 m.c, .int .i64 m.d, .int .i64 m.e, .int .i64 m.f, .int .i64 m.r]] w fun z w' => z = .returned (.bool v) ∧ Below w.heap.size w w' := by
  obtain ⟨a, b, c, d, e, f, r⟩ := m
  have HV := Lib.hid (show decide ((PartOk a ∧ PartOk b ∧ PartOk d ∧ PartOk e) ∧ 250000000000 ≤ a * e - b * d ∧ (-100000 ≤ c ∧ c ≤ 100000) ∧ (-100000 ≤ f ∧ f ≤ 100000) ∧ 0 ≤ r ∧ r ≤ 1000) = v from hv)
  clear hv
  have i0 := fun w => idx4_0 a b d e w
  have i1 := fun w => idx4_1 a b d e w
  have i2 := fun w => idx4_2 a b d e w
  have i3 := fun w => idx4_3 a b d e w
  go_enter Tryz.func105, Tryz.ntmps105
  go_wp2_with fail
  refine wp_named fun W hW => ?_
  obtain ⟨p1, hB⟩ := box1 hW
  clear hW
  have q1 := cellsL p1
  have P1 := Lib.hid p1
  have hB0 := Below.refl W.heap.size W
  clear p1
  go_loop [14] (fun i => ∃ k : Nat, k ≤ 4 ∧ i = .int .i64 k ∧ (0 < k → PartOk a) ∧ (1 < k → PartOk b) ∧ (2 < k → PartOk d) ∧ (3 < k → PartOk e)) (fun i => 4 - (intOf i).toNat)
  case atStart => exact ⟨0, by omega, rfl, fun h => by omega, fun h => by omega, fun h => by omega, fun h => by omega⟩
  case round =>
    obtain ⟨k, hk, rfl, h1, h2, h3, h4⟩ := hrel
    have H1 := Lib.hid h1
    have H2 := Lib.hid h2
    have H3 := Lib.hid h3
    have H4 := Lib.hid h4
    clear h1 h2 h3 h4
    obtain rfl | rfl | rfl | rfl | rfl : k = 0 ∨ k = 1 ∨ k = 2 ∨ k = 3 ∨ k = 4 := by omega
    · by_cases g1 : a < -2000000
      · have NO := Lib.hid (show ¬ PartOk a from fun h => by have := h.1; omega)
        go_wp2_with fail
        go_returns
        exact ⟨ret_bool (by rw [← HV.out]; exact (decide_eq_false (fun h => NO.out h.1.1)).symm), hB⟩
      by_cases g2 : 2000000 < a
      · have NO := Lib.hid (show ¬ PartOk a from fun h => by have := h.2; omega)
        have d1 : decide (a < -2000000) = false := by simpa using g1
        have d3 : -2000000 ≤ a := by omega
        clear g1
        go_wp2_with fail
        go_returns
        exact ⟨ret_bool (by rw [← HV.out]; exact (decide_eq_false (fun h => NO.out h.1.1)).symm), hB⟩
      have OK := Lib.hid (show PartOk a from ⟨by omega, by omega⟩)
      have d1 : decide (a < -2000000) = false := by simpa using g1
      have d2 : decide (2000000 < a) = false := by simpa using g2
      have d3 : -2000000 ≤ a := by omega
      have d4 : a ≤ 2000000 := by omega
      clear g1 g2
      go_wp2_with fail
      go_round
      case rel => exact ⟨1, by omega, rfl, fun _ => OK.out, fun h => by omega, fun h => by omega, fun h => by omega⟩
      case measure => simp [intOf]
    · by_cases g1 : b < -2000000
      · have NO := Lib.hid (show ¬ PartOk b from fun h => by have := h.1; omega)
        go_wp2_with fail
        go_returns
        exact ⟨ret_bool (by rw [← HV.out]; exact (decide_eq_false (fun h => NO.out h.1.2.1)).symm), hB⟩
      by_cases g2 : 2000000 < b
      · have NO := Lib.hid (show ¬ PartOk b from fun h => by have := h.2; omega)
        have d1 : decide (b < -2000000) = false := by simpa using g1
        have d3 : -2000000 ≤ b := by omega
        clear g1
        go_wp2_with fail
        go_returns
        exact ⟨ret_bool (by rw [← HV.out]; exact (decide_eq_false (fun h => NO.out h.1.2.1)).symm), hB⟩
      have OK := Lib.hid (show PartOk b from ⟨by omega, by omega⟩)
      have d1 : decide (b < -2000000) = false := by simpa using g1
      have d2 : decide (2000000 < b) = false := by simpa using g2
      have d3 : -2000000 ≤ b := by omega
      have d4 : b ≤ 2000000 := by omega
      clear g1 g2
      go_wp2_with fail
      go_round
      case rel => exact ⟨2, by omega, rfl, fun _ => H1.out (by omega), fun _ => OK.out, fun h => by omega, fun h => by omega⟩
      case measure => simp [intOf]
    · by_cases g1 : d < -2000000
      · have NO := Lib.hid (show ¬ PartOk d from fun h => by have := h.1; omega)
        go_wp2_with fail
        go_returns
        exact ⟨ret_bool (by rw [← HV.out]; exact (decide_eq_false (fun h => NO.out h.1.2.2.1)).symm), hB⟩
      by_cases g2 : 2000000 < d
      · have NO := Lib.hid (show ¬ PartOk d from fun h => by have := h.2; omega)
        have d1 : decide (d < -2000000) = false := by simpa using g1
        have d3 : -2000000 ≤ d := by omega
        clear g1
        go_wp2_with fail
        go_returns
        exact ⟨ret_bool (by rw [← HV.out]; exact (decide_eq_false (fun h => NO.out h.1.2.2.1)).symm), hB⟩
      have OK := Lib.hid (show PartOk d from ⟨by omega, by omega⟩)
      have d1 : decide (d < -2000000) = false := by simpa using g1
      have d2 : decide (2000000 < d) = false := by simpa using g2
      have d3 : -2000000 ≤ d := by omega
      have d4 : d ≤ 2000000 := by omega
      clear g1 g2
      go_wp2_with fail
      go_round
      case rel => exact ⟨3, by omega, rfl, fun _ => H1.out (by omega), fun _ => H2.out (by omega), fun _ => OK.out, fun h => by omega⟩
      case measure => simp [intOf]
    · by_cases g1 : e < -2000000
      · have NO := Lib.hid (show ¬ PartOk e from fun h => by have := h.1; omega)
        go_wp2_with fail
        go_returns
        exact ⟨ret_bool (by rw [← HV.out]; exact (decide_eq_false (fun h => NO.out h.1.2.2.2)).symm), hB⟩
      by_cases g2 : 2000000 < e
      · have NO := Lib.hid (show ¬ PartOk e from fun h => by have := h.2; omega)
        have d1 : decide (e < -2000000) = false := by simpa using g1
        have d3 : -2000000 ≤ e := by omega
        clear g1
        go_wp2_with fail
        go_returns
        exact ⟨ret_bool (by rw [← HV.out]; exact (decide_eq_false (fun h => NO.out h.1.2.2.2)).symm), hB⟩
      have OK := Lib.hid (show PartOk e from ⟨by omega, by omega⟩)
      have d1 : decide (e < -2000000) = false := by simpa using g1
      have d2 : decide (2000000 < e) = false := by simpa using g2
      have d3 : -2000000 ≤ e := by omega
      have d4 : e ≤ 2000000 := by omega
      clear g1 g2
      go_wp2_with fail
      go_round
      case rel => exact ⟨4, by omega, rfl, fun _ => H1.out (by omega), fun _ => H2.out (by omega), fun _ => H3.out (by omega), fun _ => OK.out⟩
      case measure => simp [intOf]
    · have A := Lib.hid (H1.out (by omega))
      have B := Lib.hid (H2.out (by omega))
      have D := Lib.hid (H3.out (by omega))
      have E := Lib.hid (H4.out (by omega))
      obtain ⟨dt, hdt⟩ : ∃ t, a * e - b * d = t := ⟨_, rfl⟩
      have DT := Lib.hid hdt
      clear hdt
      go_wp2_with fail
      (with_reducible refine (dtdet_any _ _ _ _ _ _ _ _ A.out B.out D.out E.out DT.out).mono ?_)
      rintro z w1 ⟨rfl, hb1⟩
      have hB1 := below_step hB hb1
      have q2 := block_later hb1 P1.out
      have c2 := cell_block q2 2
      have c5 := cell_block q2 5
      have c6 := cell_block q2 6
      have HW : Hid (decide (250000000000 ≤ dt ∧ (-100000 ≤ c ∧ c ≤ 100000) ∧ (-100000 ≤ f ∧ f ≤ 100000) ∧ 0 ≤ r ∧ r ≤ 1000) = v) := Lib.hid (by
        rw [← HV.out, decide_eq_decide, ← DT.out]
        exact ⟨fun h => ⟨⟨A.out, B.out, D.out, E.out⟩, h⟩, fun h => h.2⟩)
      clear q1 q2 i0 i1 i2 i3 hb1 HV
      go_wp2
      all_goals
        go_returns
        exact ⟨ret_bool (by rw [← HW.out]; refine Bool.eq_iff_iff.2 ?_; simp only [decide_eq_true_eq, Bool.false_eq_true, false_iff]; omega), hB1⟩
/-- The value of a sheet. -/
@[reducible] def shtV (s : Sht) (vd vf : Value) : Value := .agg #[.int .i64 s.chart, .int .i64 s.scale, .int .i64 s.edition, .int .i64 s.dat.a, .int .i64 s.dat.b, .int .i64 s.dat.c, .int .i64 s.dat.d, .int .i64 s.dat.e, .int .i64 s.dat.f, .int .i64 s.dat.r, .int .i64 s.cap, vd, vf]
def done_step (l : List Int) (k : Nat) : Prop := ∀ i, i < k → lastNo l i < l.getD i 0 ∧ l.getD i 0 ≤ 10000
end Go.Proofs.YtdmegkkifiahdaaGreat
