/- The walks of package feature: validity of a feature, of a list. -/
import Derived.Test.YtdmegkkifiahdaaGreatKP
import Derived.Test.YtdmegkkifiahdaaGreatKS2
namespace Go.Proofs.YtdmegkkifiahdaaGreat
open Go.RowKit
attribute [local go_sem] bqOp bqAll bqUpon sqOp sqAll sqUpon
attribute [local irreducible] wpQuiet wpBQ wpPlan
set_option linter.unusedVariables false
theorem ftroom_any (x y n : Int) (w : World) (h : Vld x y) (h0 : 0 ≤ n) (h1 : n ≤ 100000) {v : Bool} (hv : decide (RoomOk x y n) = v) : Calls Tryz.prog 143 #[.agg #[.int .i64 x, .int .i64 y], .int .i64 n] w fun e w' => e = .returned (.bool v) ∧ Below w.heap.size w w' := by
  obtain ⟨u1, hu1⟩ : ∃ k, decide (Vld (x - n) (y - n)) = k := ⟨_, rfl⟩
  obtain ⟨u2, hu2⟩ : ∃ k, decide (Vld (x + n) (y + n)) = k := ⟨_, rfl⟩
  have HV := Lib.hid hv
  have U1 := Lib.hid hu1
  have U2 := Lib.hid hu2
  obtain ⟨a1, a2, a3, a4⟩ := h
  clear hv hu1 hu2
  go_enter Tryz.func143, Tryz.ntmps143
  go_wp2_with fail
  refine calls_named fun W hW => ?_
  obtain ⟨p1, hB⟩ := box1 hW
  clear hW
  (with_reducible refine (hpValid_any _ _ _ U1.out).mono ?_)
  rintro e w1 ⟨rfl, hb1⟩
  have hB1 := below_step hB hb1
  have r1 := block_later hb1 p1
  have c0 := cell_block r1 0
  have c1 := cell_block r1 1
  cases u1
  · go_wp2_with fail
    go_returns
    exact ⟨ret_bool (by rw [← HV.out]; exact (decide_eq_false (fun h => of_decide_eq_false U1.out h.1)).symm), hB1⟩
  go_wp2_with fail
  (with_reducible refine (hpValid_any _ _ _ U2.out).mono ?_)
  rintro e w2 ⟨rfl, hb2⟩
  go_wp2_with fail
  go_returns
  exact ⟨ret_bool (by rw [← HV.out, ← U2.out, decide_eq_decide]; exact ⟨fun h => ⟨of_decide_eq_true U1.out, h⟩, fun h => h.2⟩), below_step hB1 hb2⟩
theorem ftValid_k1 (id x y rad dep sym : Int) (na ca ns cs : Nat) (ad ae : Option Addr) (A S : Nat → Nat → Int) (w : World) (hna : na ≤ 9223372036854775807) (hns : ns ≤ 9223372036854775807) (h1 : 1 ≤ id) (h2 : id ≤ 100000) (h3 : 0 ≤ sym) (h4 : sym ≤ 999) (h5 : 0 ≤ dep) (h6 : dep ≤ 100000) (h7 : 0 ≤ rad) (h8 : rad ≤ 100000) {v : Bool} (hv : decide (FormR 1 x y rad dep na A ns S) = v) :
    Calls Tryz.prog 52 #[.agg #[.int .i64 id, .int .i64 1, .int .i64 x, .int .i64 y, .int .i64 rad, .slice ad na ca, .int .i64 dep, .int .i64 sym, .slice ae ns cs]] w fun e w' => e = .returned (.bool v) ∧ Below w.heap.size w w' := by
  have e0 : FormR 1 x y rad dep na A ns S = (Vld x y ∧ RoomOk x y rad ∧ na = 0 ∧ ns = 0) := by unfold FormR; rw [if_pos (by decide)]
  have HV : Hid (decide (Vld x y ∧ RoomOk x y rad ∧ na = 0 ∧ ns = 0) = v) := Lib.hid (by rw [← hv, decide_eq_decide, e0])
  obtain ⟨u1, hu1⟩ : ∃ k, decide (Vld x y) = k := ⟨_, rfl⟩
  obtain ⟨u2, hu2⟩ : ∃ k, decide (RoomOk x y rad) = k := ⟨_, rfl⟩
  have U1 := Lib.hid hu1
  have U2 := Lib.hid hu2
  clear hv e0 hu1 hu2
  go_enter Tryz.func52, Tryz.ntmps52
  go_wp2_with fail
  refine calls_named fun W hW => ?_
  obtain ⟨p1, hB⟩ := box1 hW
  clear hW
  (with_reducible refine (hpValid_any _ _ _ U1.out).mono ?_)
  rintro e w1 ⟨rfl, hb1⟩
  have hB1 := below_step hB hb1
  have r1 := block_later hb1 p1
  have c2 := cell_block r1 2
  have c3 := cell_block r1 3
  have c4 := cell_block r1 4
  cases u1
  · go_wp2_with fail
    go_returns
    exact ⟨ret_bool (by rw [← HV.out]; exact (decide_eq_false (fun h => of_decide_eq_false U1.out h.1)).symm), hB1⟩
  go_wp2_with fail
  (with_reducible refine (ftroom_any _ _ _ _ (of_decide_eq_true U1.out) (by omega) (by omega) U2.out).mono ?_)
  rintro e w2 ⟨rfl, hb2⟩
  have hB2 := below_step hB1 hb2
  have r2 := block_later hb2 r1
  clear c2 c3 c4
  have c5 := cell_block r2 5
  have c8 := cell_block r2 8
  cases u2
  · go_wp2_with fail
    go_returns
    exact ⟨ret_bool (by rw [← HV.out]; exact (decide_eq_false (fun h => of_decide_eq_false U2.out h.2.1)).symm), hB2⟩
  have HW := Lib.hid (show decide (na = 0 ∧ ns = 0) = v by
    rw [← HV.out, decide_eq_decide]
    exact ⟨fun h => ⟨of_decide_eq_true U1.out, of_decide_eq_true U2.out, h⟩, fun h => h.2.2⟩)
  clear HV U1 U2 p1 r1 r2 hB hb1 hb2
  by_cases g1 : na = 0
  · by_cases g2 : ns = 0
    · subst g1 g2
      go_wp2
      go_returns
      exact ⟨ret_bool (by rw [← HW.out]; rfl), hB2⟩
    · subst g1
      have d2 : ((ns : Int) == 0) = false := by simp; omega
      have d3 : (ns == 0) = false := by simp; omega
      go_wp2
      go_returns
      exact ⟨ret_bool (by rw [← HW.out]; exact (decide_eq_false (fun h => g2 h.2)).symm), hB2⟩
  · have d2 : ((na : Int) == 0) = false := by simp; omega
    have d3 : (na == 0) = false := by simp; omega
    go_wp2
    go_returns
    exact ⟨ret_bool (by rw [← HW.out]; exact (decide_eq_false (fun h => g1 h.1)).symm), hB2⟩
theorem ftValid_k2 (id x y rad dep sym : Int) (na ca ns cs : Nat) (ad ae : Option Addr) (A S : Nat → Nat → Int) (w : World) (hna : na ≤ 9223372036854775807) (hns : ns ≤ 9223372036854775807) (h1 : 1 ≤ id) (h2 : id ≤ 100000) (h3 : 0 ≤ sym) (h4 : sym ≤ 999) (h5 : 0 ≤ dep) (h6 : dep ≤ 100000) (h7 : 0 ≤ rad) (h8 : rad ≤ 100000) {v : Bool} (hv : decide (FormR 2 x y rad dep na A ns S) = v) :
    Calls Tryz.prog 52 #[.agg #[.int .i64 id, .int .i64 2, .int .i64 x, .int .i64 y, .int .i64 rad, .slice ad na ca, .int .i64 dep, .int .i64 sym, .slice ae ns cs]] w fun e w' => e = .returned (.bool v) ∧ Below w.heap.size w w' := by
  have e0 : FormR 2 x y rad dep na A ns S = (Vld x y ∧ RoomOk x y rad ∧ na = 0 ∧ ns = 0) := by unfold FormR; rw [if_pos (by decide)]
  have HV : Hid (decide (Vld x y ∧ RoomOk x y rad ∧ na = 0 ∧ ns = 0) = v) := Lib.hid (by rw [← hv, decide_eq_decide, e0])
  obtain ⟨u1, hu1⟩ : ∃ k, decide (Vld x y) = k := ⟨_, rfl⟩
  obtain ⟨u2, hu2⟩ : ∃ k, decide (RoomOk x y rad) = k := ⟨_, rfl⟩
  have U1 := Lib.hid hu1
  have U2 := Lib.hid hu2
  clear hv e0 hu1 hu2
  go_enter Tryz.func52, Tryz.ntmps52
  go_wp2_with fail
  refine calls_named fun W hW => ?_
  obtain ⟨p1, hB⟩ := box1 hW
  clear hW
  (with_reducible refine (hpValid_any _ _ _ U1.out).mono ?_)
  rintro e w1 ⟨rfl, hb1⟩
  have hB1 := below_step hB hb1
  have r1 := block_later hb1 p1
  have c2 := cell_block r1 2
  have c3 := cell_block r1 3
  have c4 := cell_block r1 4
  cases u1
  · go_wp2_with fail
    go_returns
    exact ⟨ret_bool (by rw [← HV.out]; exact (decide_eq_false (fun h => of_decide_eq_false U1.out h.1)).symm), hB1⟩
  go_wp2_with fail
  (with_reducible refine (ftroom_any _ _ _ _ (of_decide_eq_true U1.out) (by omega) (by omega) U2.out).mono ?_)
  rintro e w2 ⟨rfl, hb2⟩
  have hB2 := below_step hB1 hb2
  have r2 := block_later hb2 r1
  clear c2 c3 c4
  have c5 := cell_block r2 5
  have c8 := cell_block r2 8
  cases u2
  · go_wp2_with fail
    go_returns
    exact ⟨ret_bool (by rw [← HV.out]; exact (decide_eq_false (fun h => of_decide_eq_false U2.out h.2.1)).symm), hB2⟩
  have HW := Lib.hid (show decide (na = 0 ∧ ns = 0) = v by
    rw [← HV.out, decide_eq_decide]
    exact ⟨fun h => ⟨of_decide_eq_true U1.out, of_decide_eq_true U2.out, h⟩, fun h => h.2.2⟩)
  clear HV U1 U2 p1 r1 r2 hB hb1 hb2
  by_cases g1 : na = 0
  · by_cases g2 : ns = 0
    · subst g1 g2
      go_wp2
      go_returns
      exact ⟨ret_bool (by rw [← HW.out]; rfl), hB2⟩
    · subst g1
      have d2 : ((ns : Int) == 0) = false := by simp; omega
      have d3 : (ns == 0) = false := by simp; omega
      go_wp2
      go_returns
      exact ⟨ret_bool (by rw [← HW.out]; exact (decide_eq_false (fun h => g2 h.2)).symm), hB2⟩
  · have d2 : ((na : Int) == 0) = false := by simp; omega
    have d3 : (na == 0) = false := by simp; omega
    go_wp2
    go_returns
    exact ⟨ret_bool (by rw [← HW.out]; exact (decide_eq_false (fun h => g1 h.1)).symm), hB2⟩
theorem ftValid_k5 (id x y rad dep sym : Int) (na ca ns cs : Nat) (ad ae : Option Addr) (A S : Nat → Nat → Int) (w : World) (hna : na ≤ 9223372036854775807) (hns : ns ≤ 9223372036854775807) (h1 : 1 ≤ id) (h2 : id ≤ 100000) (h3 : 0 ≤ sym) (h4 : sym ≤ 999) (h5 : 0 ≤ dep) (h6 : dep ≤ 100000) (h7 : 0 ≤ rad) (h8 : rad ≤ 100000) {v : Bool} (hv : decide (FormR 5 x y rad dep na A ns S) = v) :
    Calls Tryz.prog 52 #[.agg #[.int .i64 id, .int .i64 5, .int .i64 x, .int .i64 y, .int .i64 rad, .slice ad na ca, .int .i64 dep, .int .i64 sym, .slice ae ns cs]] w fun e w' => e = .returned (.bool v) ∧ Below w.heap.size w w' := by
  have e0 : FormR 5 x y rad dep na A ns S = (Vld x y ∧ RoomOk x y rad ∧ na = 0 ∧ ns = 0) := by unfold FormR; rw [if_pos (by decide)]
  have HV : Hid (decide (Vld x y ∧ RoomOk x y rad ∧ na = 0 ∧ ns = 0) = v) := Lib.hid (by rw [← hv, decide_eq_decide, e0])
  obtain ⟨u1, hu1⟩ : ∃ k, decide (Vld x y) = k := ⟨_, rfl⟩
  obtain ⟨u2, hu2⟩ : ∃ k, decide (RoomOk x y rad) = k := ⟨_, rfl⟩
  have U1 := Lib.hid hu1
  have U2 := Lib.hid hu2
  clear hv e0 hu1 hu2
  go_enter Tryz.func52, Tryz.ntmps52
  go_wp2_with fail
  refine calls_named fun W hW => ?_
  obtain ⟨p1, hB⟩ := box1 hW
  clear hW
  (with_reducible refine (hpValid_any _ _ _ U1.out).mono ?_)
  rintro e w1 ⟨rfl, hb1⟩
  have hB1 := below_step hB hb1
  have r1 := block_later hb1 p1
  have c2 := cell_block r1 2
  have c3 := cell_block r1 3
  have c4 := cell_block r1 4
  cases u1
  · go_wp2_with fail
    go_returns
    exact ⟨ret_bool (by rw [← HV.out]; exact (decide_eq_false (fun h => of_decide_eq_false U1.out h.1)).symm), hB1⟩
  go_wp2_with fail
  (with_reducible refine (ftroom_any _ _ _ _ (of_decide_eq_true U1.out) (by omega) (by omega) U2.out).mono ?_)
  rintro e w2 ⟨rfl, hb2⟩
  have hB2 := below_step hB1 hb2
  have r2 := block_later hb2 r1
  clear c2 c3 c4
  have c5 := cell_block r2 5
  have c8 := cell_block r2 8
  cases u2
  · go_wp2_with fail
    go_returns
    exact ⟨ret_bool (by rw [← HV.out]; exact (decide_eq_false (fun h => of_decide_eq_false U2.out h.2.1)).symm), hB2⟩
  have HW := Lib.hid (show decide (na = 0 ∧ ns = 0) = v by
    rw [← HV.out, decide_eq_decide]
    exact ⟨fun h => ⟨of_decide_eq_true U1.out, of_decide_eq_true U2.out, h⟩, fun h => h.2.2⟩)
  clear HV U1 U2 p1 r1 r2 hB hb1 hb2
  by_cases g1 : na = 0
  · by_cases g2 : ns = 0
    · subst g1 g2
      go_wp2
      go_returns
      exact ⟨ret_bool (by rw [← HW.out]; rfl), hB2⟩
    · subst g1
      have d2 : ((ns : Int) == 0) = false := by simp; omega
      have d3 : (ns == 0) = false := by simp; omega
      go_wp2
      go_returns
      exact ⟨ret_bool (by rw [← HW.out]; exact (decide_eq_false (fun h => g2 h.2)).symm), hB2⟩
  · have d2 : ((na : Int) == 0) = false := by simp; omega
    have d3 : (na == 0) = false := by simp; omega
    go_wp2
    go_returns
    exact ⟨ret_bool (by rw [← HW.out]; exact (decide_eq_false (fun h => g1 h.1)).symm), hB2⟩
end Go.Proofs.YtdmegkkifiahdaaGreat
