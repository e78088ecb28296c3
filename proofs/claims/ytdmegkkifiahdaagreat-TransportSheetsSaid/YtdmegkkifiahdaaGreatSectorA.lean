/- The walks of package sector: directions, sectors, validity of sectors. -/
import Derived.Test.YtdmegkkifiahdaaGreatPolyF
namespace Go.Proofs.YtdmegkkifiahdaaGreat
open Go.RowKit
attribute [local go_sem] bqOp bqAll bqUpon sqOp sqAll sqUpon
attribute [local irreducible] wpQuiet wpBQ wpPlan
set_option linter.unusedVariables false
theorem wyup_any (x y : Int) (w : World) {v : Bool} (hv : upD x y = v) : Calls Tryz.prog 247 #[.agg #[.int .i64 x, .int .i64 y]] w fun e w' => e = .returned (.bool v) ∧ Below w.heap.size w w' := by
  have HV := Lib.hid (show decide (0 < y ∨ y = 0 ∧ 0 < x) = v from hv)
  clear hv
  go_enter Tryz.func247, Tryz.ntmps247
  go_wp2
  all_goals
    go_returns
    exact ⟨ret_bool (by rw [← HV.out]; (refine Bool.eq_iff_iff.2 ?_; simp only [decide_eq_true_eq, true_iff]; (try unfold upD); omega)), by go_grown⟩
theorem dir_bd {x y u v : Int} (h : DirOk x y) (k : DirOk u v) : (-1000000000000 ≤ x * v ∧ x * v ≤ 1000000000000) ∧ (-1000000000000 ≤ y * u ∧ y * u ≤ 1000000000000) := by
  obtain ⟨_, a1, a2, a3, a4⟩ := h
  obtain ⟨_, b1, b2, b3, b4⟩ := k
  exact ⟨mul_bd a3 a1 b4 b2, mul_bd a4 a2 b3 b1⟩
theorem wycross_any (x y u v : Int) (w : World) (h : DirOk x y) (k : DirOk u v) {c : Int} (hc : cprD x y u v = c) : Calls Tryz.prog 248 #[.agg #[.int .i64 x, .int .i64 y], .agg #[.int .i64 u, .int .i64 v]] w fun e w' => e = .returned (.int .i64 c) ∧ Below w.heap.size w w' := by
  obtain ⟨⟨a1, a2⟩, a3, a4⟩ := dir_bd h k
  have HC := Lib.hid (show x * v - y * u = c from hc)
  clear h k hc
  go_enter Tryz.func248, Tryz.ntmps248
  go_wp2
  go_returns
  exact ⟨ret_int HC.out, by go_grown⟩
theorem wyok_any (x y : Int) (w : World) {v : Bool} (hv : decide (DirOk x y) = v) : Calls Tryz.prog 321 #[.agg #[.int .i64 x, .int .i64 y]] w fun e w' => e = .returned (.bool v) ∧ Below w.heap.size w w' := by
  have HV := Lib.hid hv
  clear hv
  go_enter Tryz.func321, Tryz.ntmps321
  go_wp2
  all_goals
    go_returns
    exact ⟨ret_bool (by rw [← HV.out]; (refine Bool.eq_iff_iff.2 ?_; simp only [decide_eq_true_eq, Bool.false_eq_true, true_iff, false_iff]; (try unfold DirOk); omega)), by go_grown⟩
theorem wycmp_any (x y u v : Int) (w : World) (h : DirOk x y) (k : DirOk u v) {c : Int} (hc : cmpD x y u v = c) : Calls Tryz.prog 158 #[.agg #[.int .i64 x, .int .i64 y], .agg #[.int .i64 u, .int .i64 v]] w fun e w' => e = .returned (.int .i64 c) ∧ Below w.heap.size w w' := by
  obtain ⟨u1, hu1⟩ : ∃ b, upD x y = b := ⟨_, rfl⟩
  obtain ⟨u2, hu2⟩ : ∃ b, upD u v = b := ⟨_, rfl⟩
  obtain ⟨cr, hcr⟩ : ∃ b, cprD x y u v = b := ⟨_, rfl⟩
  have HC : Hid ((if u1 ≠ u2 then (if u1 = true then (-1 : Int) else 1) else if 0 < cr then -1 else if cr < 0 then 1 else 0) = c) := Lib.hid (by rw [← hc, ← hu1, ← hu2, ← hcr]; rfl)
  have U1 := Lib.hid hu1
  have U2 := Lib.hid hu2
  have CR := Lib.hid hcr
  have H := Lib.hid h
  have K := Lib.hid k
  clear hu1 hu2 hcr hc h k
  go_enter Tryz.func158, Tryz.ntmps158
  go_wp2_with fail
  refine wp_named fun W hW => ?_
  obtain ⟨p1, p2, hB⟩ := box2 hW
  clear hW
  have q1 := cellsR p1
  have q2 := cellsR p2
  refine wp_region_plan (.take 0 (.take 1 (.only 0 (.only 0 (.take 0 (.take 0 .done)))))) (by kernel_rfl) (by kernel_rfl) (fun hP => ?_)
  repeat' (first
    | (refine wpPlan_two ?_ ?_)
    | (refine wpPlan_three ?_ ?_ ?_)
    | (refine wpPlan_take rfl (fun K hK => ?_); replace hK := Lib.hid hK; go_simp; first | (refine hK.out _ ?_; clear hK K) | (apply Exists.intro; refine ⟨fun _ => ?_, hK.out _ ?_⟩; (first | with_reducible exact rfl | skip); clear hK K))
    | (refine wpPlan_only rfl (fun K hK => ?_); replace hK := Lib.hid hK; (first | (go_simp; first | ((go_at_call 247; (with_reducible refine (wyup_any x y _ U1.out).mono ?_)); rintro e w2 ⟨rfl, hbx⟩) | ((go_at_call 247; (with_reducible refine (wyup_any u v _ U2.out).mono ?_)); rintro e w2 ⟨rfl, hbx⟩) | skip)); refine hK.out _ _ (by first | assumption | exact below_step hP hbx | exact hP.drew | exact hP.alloc hP.size _) (fun hP => ?_); clear hK K))
  all_goals refine wpPlan_done ?_
  have hB2 := below_step hB hP
  have p1' := cellsL (block_later hP p1)
  have p2' := cellsL (block_later hP p2)
  clear q1 q2 p1 p2
  have r0 := p1' _ (Below.refl _ _)
  have r2 := p2' _ (Below.refl _ _)
  cases u1 <;> cases u2
  all_goals go_wp2_with fail
  · (with_reducible refine (wycross_any _ _ _ _ _ H.out K.out CR.out).mono ?_)
    rintro e w3 ⟨rfl, hb3⟩
    have hB3 := below_step hB2 hb3
    rcases Int.lt_trichotomy cr 0 with h | h | h
    rotate_left
    · have CZ := Lib.hid h
      have d1 : decide (0 < cr) = false := by simp [h]
      have d2 : decide (cr < 0) = false := by simp [h]
      clear h
      go_wp2_with fail
      (with_reducible refine (wycross_any _ _ _ _ _ H.out K.out CR.out).mono ?_)
      rintro e w4 ⟨rfl, hb4⟩
      go_wp2_with fail
      go_returns
      exact ⟨ret_int (by rw [← HC.out, if_neg (by simp), CZ.out]; rfl), below_step hB3 hb4⟩
    · go_wp2_with fail
      go_returns
      exact ⟨ret_int (by rw [← HC.out, if_neg (by simp), if_pos h]), hB3⟩
    · have d1 : decide (0 < cr) = false := by simp; omega
      have d3 : cr ≤ 0 := by omega
      go_wp2_with fail
      (with_reducible refine (wycross_any _ _ _ _ _ H.out K.out CR.out).mono ?_)
      rintro e w4 ⟨rfl, hb4⟩
      go_wp2_with fail
      go_returns
      exact ⟨ret_int (by rw [← HC.out, if_neg (by simp), if_neg (by omega), if_pos h]), below_step hB3 hb4⟩
  · (with_reducible refine (wyup_any x y _ U1.out).mono ?_)
    rintro e w3 ⟨rfl, hb3⟩
    have hB3 := below_step hB2 hb3
    go_wp2_with fail
    go_returns
    exact ⟨ret_int (by rw [← HC.out]; rfl), hB3⟩
  · (with_reducible refine (wyup_any x y _ U1.out).mono ?_)
    rintro e w3 ⟨rfl, hb3⟩
    have hB3 := below_step hB2 hb3
    go_wp2_with fail
    go_returns
    exact ⟨ret_int (by rw [← HC.out]; rfl), hB3⟩
  · (with_reducible refine (wycross_any _ _ _ _ _ H.out K.out CR.out).mono ?_)
    rintro e w3 ⟨rfl, hb3⟩
    have hB3 := below_step hB2 hb3
    rcases Int.lt_trichotomy cr 0 with h | h | h
    rotate_left
    · have CZ := Lib.hid h
      have d1 : decide (0 < cr) = false := by simp [h]
      have d2 : decide (cr < 0) = false := by simp [h]
      clear h
      go_wp2_with fail
      (with_reducible refine (wycross_any _ _ _ _ _ H.out K.out CR.out).mono ?_)
      rintro e w4 ⟨rfl, hb4⟩
      go_wp2_with fail
      go_returns
      exact ⟨ret_int (by rw [← HC.out, if_neg (by simp), CZ.out]; rfl), below_step hB3 hb4⟩
    · go_wp2_with fail
      go_returns
      exact ⟨ret_int (by rw [← HC.out, if_neg (by simp), if_pos h]), hB3⟩
    · have d1 : decide (0 < cr) = false := by simp; omega
      have d3 : cr ≤ 0 := by omega
      go_wp2_with fail
      (with_reducible refine (wycross_any _ _ _ _ _ H.out K.out CR.out).mono ?_)
      rintro e w4 ⟨rfl, hb4⟩
      go_wp2_with fail
      go_returns
      exact ⟨ret_int (by rw [← HC.out, if_neg (by simp), if_neg (by omega), if_pos h]), below_step hB3 hb4⟩
end Go.Proofs.YtdmegkkifiahdaaGreat
