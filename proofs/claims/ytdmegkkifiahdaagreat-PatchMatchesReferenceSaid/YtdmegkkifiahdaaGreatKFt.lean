import Derived.Test.YtdmegkkifiahdaaGreatKP
import Derived.Test.YtdmegkkifiahdaaGreatKS2
namespace Go.Proofs.YtdmegkkifiahdaaGreat
open Go.RowKit
attribute [local go_sem] bqOp bqAll bqUpon sqOp sqAll sqUpon
attribute [local irreducible] wpQuiet wpBQ wpPlan
set_option linter.unusedVariables false
theorem ftroom_any (x y n : Int) (w : World) (h : Vld x y) (h0 : 0 ≤ n) (h1 : n ≤ 100000) {v : Bool} (hv : decide (RoomOk x y n) = v) : Calls Tryz.prog 143 #[.agg #[.int .i64 x, .int .i64 y], .int .i64 n] w fun e w' => e = .returned (.bool v) ∧ Below w.heap.size w w' := by
 obtain ⟨u1, hu1⟩ : ∃ k, decide (Vld (x - n) (y - n)) = k := ⟨_, rfl⟩
 obtain ⟨u2, hu2⟩ : ∃ k, decide (Vld (x + n) (y + n)) = k := ⟨_, rfl⟩
 have HV := Lib.hid hv
 have U1 := Lib.hid hu1
 have U2 := Lib.hid hu2
 obtain ⟨a1, a2, a3, a4⟩ := h
 clear hv hu1 hu2
 go_enter Tryz.func143, Tryz.ntmps143
 go_wp2_with fail
 refine calls_named fun W hW => ?_
 obtain ⟨p1, hB⟩ := box1 hW
 clear hW
 (with_reducible refine (hpValid_any _ _ _ U1.out).mono ?_)
 rintro e w1 ⟨rfl, hb1⟩
 have hB1 := below_step hB hb1
 have r1 := block_later hb1 p1
 have c0 := cell_block r1 0
 have c1 := cell_block r1 1
 cases u1
 · go_wp2_with fail
   go_returns
   exact ⟨ret_bool (by rw [← HV.out]; exact (decide_eq_false (fun h => of_decide_eq_false U1.out h.1)).symm), hB1⟩
 go_wp2_with fail
 (with_reducible refine (hpValid_any _ _ _ U2.out).mono ?_)
 rintro e w2 ⟨rfl, hb2⟩
 go_wp2_with fail
 go_returns
 exact ⟨ret_bool (by rw [← HV.out, ← U2.out, decide_eq_decide]; exact ⟨fun h => ⟨of_decide_eq_true U1.out, h⟩, fun h => h.2⟩), below_step hB1 hb2⟩
theorem ftValid_k1 (id x y rad dep sym : Int) (na ca ns cs : Nat) (ad ae : Option Addr) (A S : Nat → Nat → Int) (w : World) (hna : na ≤ 9223372036854775807) (hns : ns ≤ 9223372036854775807) (h1 : 1 ≤ id) (h2 : id ≤ 100000) (h3 : 0 ≤ sym) (h4 : sym ≤ 999) (h5 : 0 ≤ dep) (h6 : dep ≤ 100000) (h7 : 0 ≤ rad) (h8 : rad ≤ 100000) {v : Bool} (hv : decide (FormR 1 x y rad dep na A ns S) = v) :
  Calls Tryz.prog 52 #[.agg #[.int .i64 id, .int .i64 1, .int .i64 x, .int .i64 y, .int .i64 rad, .slice ad na ca, .int .i64 dep, .int .i64 sym, .slice ae ns cs]] w fun e w' => e = .returned (.bool v) ∧ Below w.heap.size w w' := by
 have e0 : FormR 1 x y rad dep na A ns S = (Vld x y ∧ RoomOk x y rad ∧ na = 0 ∧ ns = 0) := by unfold FormR; rw [if_pos (by decide)]
 have HV : Hid (decide (Vld x y ∧ RoomOk x y rad ∧ na = 0 ∧ ns = 0) = v) := Lib.hid (by rw [← hv, decide_eq_decide, e0])
 obtain ⟨u1, hu1⟩ : ∃ k, decide (Vld x y) = k := ⟨_, rfl⟩
 obtain ⟨u2, hu2⟩ : ∃ k, decide (RoomOk x y rad) = k := ⟨_, rfl⟩
 have U1 := Lib.hid hu1
 have U2 := Lib.hid hu2
 clear hv e0 hu1 hu2
 go_enter Tryz.func52, Tryz.ntmps52
 go_wp2_with fail
 refine calls_named fun W hW => ?_
 obtain ⟨p1, hB⟩ := box1 hW
 clear hW
 (with_reducible refine (hpValid_any _ _ _ U1.out).mono ?_)
 rintro e w1 ⟨rfl, hb1⟩
 have hB1 := below_step hB hb1
 have r1 := block_later hb1 p1
 have c2 := cell_block r1 2
 have c3 := cell_block r1 3
 have c4 := cell_block r1 4
 cases u1
 · go_wp2_with fail
   go_returns
   exact ⟨ret_bool (by rw [← HV.out]; exact (decide_eq_false (fun h => of_decide_eq_false U1.out h.1)).symm), hB1⟩
 go_wp2_with fail
 (with_reducible refine (ftroom_any _ _ _ _ (of_decide_eq_true U1.out) (by omega) (by omega) U2.out).mono ?_)
 rintro e w2 ⟨rfl, hb2⟩
 have hB2 := below_step hB1 hb2
 have r2 := block_later hb2 r1
 clear c2 c3 c4
 have c5 := cell_block r2 5
 have c8 := cell_block r2 8
 cases u2
 · go_wp2_with fail
   go_returns
   exact ⟨ret_bool (by rw [← HV.out]; exact (decide_eq_false (fun h => of_decide_eq_false U2.out h.2.1)).symm), hB2⟩
 have HW := Lib.hid (show decide (na = 0 ∧ ns = 0) = v by
  rw [← HV.out, decide_eq_decide]
  exact ⟨fun h => ⟨of_decide_eq_true U1.out, of_decide_eq_true U2.out, h⟩, fun h => h.2.2⟩)
 clear HV U1 U2 p1 r1 r2 hB hb1 hb2
 by_cases g1 : na = 0
 · by_cases g2 : ns = 0
   · subst g1 g2
     go_wp2
     go_returns
     exact ⟨ret_bool (by rw [← HW.out]; rfl), hB2⟩
   · subst g1
     have d2 : ((ns : Int) == 0) = false := by simp; omega
     have d3 : (ns == 0) = false := by simp; omega
     go_wp2
     go_returns
     exact ⟨ret_bool (by rw [← HW.out]; exact (decide_eq_false (fun h => g2 h.2)).symm), hB2⟩
 · have d2 : ((na : Int) == 0) = false := by simp; omega
   have d3 : (na == 0) = false := by simp; omega
   go_wp2
   go_returns
   exact ⟨ret_bool (by rw [← HW.out]; exact (decide_eq_false (fun h => g1 h.1)).symm), hB2⟩
theorem ftValid_k2 (id x y rad dep sym : Int) (na ca ns cs : Nat) (ad ae : Option Addr) (A S : Nat → Nat → Int) (w : World) (hna : na ≤ 9223372036854775807) (hns : ns ≤ 9223372036854775807) (h1 : 1 ≤ id) (h2 : id ≤ 100000) (h3 : 0 ≤ sym) (h4 : sym ≤ 999) (h5 : 0 ≤ dep) (h6 : dep ≤ 100000) (h7 : 0 ≤ rad) (h8 : rad ≤ 100000) {v : Bool} (hv : decide (FormR 2 x y rad dep na A ns S) = v) :
  Calls Tryz.prog 52 #[.agg #[.int .i64 id, .int .i64 2, .int .i64 x, .int .i64 y, .int .i64 rad, .slice ad na ca, .int .i64 dep, .int .i64 sym, .slice ae ns cs]] w fun e w' => e = .returned (.bool v) ∧ Below w.heap.size w w' := by
 have e0 : FormR 2 x y rad dep na A ns S = (Vld x y ∧ RoomOk x y rad ∧ na = 0 ∧ ns = 0) := by unfold FormR; rw [if_pos (by decide)]
 have HV : Hid (decide (Vld x y ∧ RoomOk x y rad ∧ na = 0 ∧ ns = 0) = v) := Lib.hid (by rw [← hv, decide_eq_decide, e0])
 obtain ⟨u1, hu1⟩ : ∃ k, decide (Vld x y) = k := ⟨_, rfl⟩
 obtain ⟨u2, hu2⟩ : ∃ k, decide (RoomOk x y rad) = k := ⟨_, rfl⟩
 have U1 := Lib.hid hu1
 have U2 := Lib.hid hu2
 clear hv e0 hu1 hu2
 go_enter Tryz.func52, Tryz.ntmps52
 go_wp2_with fail
 refine calls_named fun W hW => ?_
 obtain ⟨p1, hB⟩ := box1 hW
 clear hW
 (with_reducible refine (hpValid_any _ _ _ U1.out).mono ?_)
 rintro e w1 ⟨rfl, hb1⟩
 have hB1 := below_step hB hb1
 have r1 := block_later hb1 p1
 have c2 := cell_block r1 2
 have c3 := cell_block r1 3
 have c4 := cell_block r1 4
 cases u1
 · go_wp2_with fail
   go_returns
   exact ⟨ret_bool (by rw [← HV.out]; exact (decide_eq_false (fun h => of_decide_eq_false U1.out h.1)).symm), hB1⟩
 go_wp2_with fail
 (with_reducible refine (ftroom_any _ _ _ _ (of_decide_eq_true U1.out) (by omega) (by omega) U2.out).mono ?_)
 rintro e w2 ⟨rfl, hb2⟩
 have hB2 := below_step hB1 hb2
 have r2 := block_later hb2 r1
 clear c2 c3 c4
 have c5 := cell_block r2 5
 have c8 := cell_block r2 8
 cases u2
 · go_wp2_with fail
   go_returns
   exact ⟨ret_bool (by rw [← HV.out]; exact (decide_eq_false (fun h => of_decide_eq_false U2.out h.2.1)).symm), hB2⟩
 have HW := Lib.hid (show decide (na = 0 ∧ ns = 0) = v by
  rw [← HV.out, decide_eq_decide]
  exact ⟨fun h => ⟨of_decide_eq_true U1.out, of_decide_eq_true U2.out, h⟩, fun h => h.2.2⟩)
 clear HV U1 U2 p1 r1 r2 hB hb1 hb2
 by_cases g1 : na = 0
 · by_cases g2 : ns = 0
   · subst g1 g2
     go_wp2
     go_returns
     exact ⟨ret_bool (by rw [← HW.out]; rfl), hB2⟩
   · subst g1
     have d2 : ((ns : Int) == 0) = false := by simp; omega
     have d3 : (ns == 0) = false := by simp; omega
     go_wp2
     go_returns
     exact ⟨ret_bool (by rw [← HW.out]; exact (decide_eq_false (fun h => g2 h.2)).symm), hB2⟩
 · have d2 : ((na : Int) == 0) = false := by simp; omega
   have d3 : (na == 0) = false := by simp; omega
   go_wp2
   go_returns
   exact ⟨ret_bool (by rw [← HW.out]; exact (decide_eq_false (fun h => g1 h.1)).symm), hB2⟩
theorem ftValid_k5 (id x y rad dep sym : Int) (na ca ns cs : Nat) (ad ae : Option Addr) (A S : Nat → Nat → Int) (w : World) (hna : na ≤ 9223372036854775807) (hns : ns ≤ 9223372036854775807) (h1 : 1 ≤ id) (h2 : id ≤ 100000) (h3 : 0 ≤ sym) (h4 : sym ≤ 999) (h5 : 0 ≤ dep) (h6 : dep ≤ 100000) (h7 : 0 ≤ rad) (h8 : rad ≤ 100000) {v : Bool} (hv : decide (FormR 5 x y rad dep na A ns S) = v) :
  Calls Tryz.prog 52 #[.agg #[.int .i64 id, .int .i64 5, .int .i64 x, .int .i64 y, .int .i64 rad, .slice ad na ca, .int .i64 dep, .int .i64 sym, .slice ae ns cs]] w fun e w' => e = .returned (.bool v) ∧ Below w.heap.size w w' := by
 have e0 : FormR 5 x y rad dep na A ns S = (Vld x y ∧ RoomOk x y rad ∧ na = 0 ∧ ns = 0) := by unfold FormR; rw [if_pos (by decide)]
 have HV : Hid (decide (Vld x y ∧ RoomOk x y rad ∧ na = 0 ∧ ns = 0) = v) := Lib.hid (by rw [← hv, decide_eq_decide, e0])
 obtain ⟨u1, hu1⟩ : ∃ k, decide (Vld x y) = k := ⟨_, rfl⟩
 obtain ⟨u2, hu2⟩ : ∃ k, decide (RoomOk x y rad) = k := ⟨_, rfl⟩
 have U1 := Lib.hid hu1
 have U2 := Lib.hid hu2
 clear hv e0 hu1 hu2
 go_enter Tryz.func52, Tryz.ntmps52
 go_wp2_with fail
 refine calls_named fun W hW => ?_
 obtain ⟨p1, hB⟩ := box1 hW
 clear hW
 (with_reducible refine (hpValid_any _ _ _ U1.out).mono ?_)
 rintro e w1 ⟨rfl, hb1⟩
 have hB1 := below_step hB hb1
 have r1 := block_later hb1 p1
 have c2 := cell_block r1 2
 have c3 := cell_block r1 3
 have c4 := cell_block r1 4
 cases u1
 · go_wp2_with fail
   go_returns
   exact ⟨ret_bool (by rw [← HV.out]; exact (decide_eq_false (fun h => of_decide_eq_false U1.out h.1)).symm), hB1⟩
 go_wp2_with fail
 (with_reducible refine (ftroom_any _ _ _ _ (of_decide_eq_true U1.out) (by omega) (by omega) U2.out).mono ?_)
 rintro e w2 ⟨rfl, hb2⟩
 have hB2 := below_step hB1 hb2
 have r2 := block_later hb2 r1
 clear c2 c3 c4
 have c5 := cell_block r2 5
 have c8 := cell_block r2 8
 cases u2
 · go_wp2_with fail
   go_returns
   exact ⟨ret_bool (by rw [← HV.out]; exact (decide_eq_false (fun h => of_decide_eq_false U2.out h.2.1)).symm), hB2⟩
 have HW := Lib.hid (show decide (na = 0 ∧ ns = 0) = v by
  rw [← HV.out, decide_eq_decide]
  exact ⟨fun h => ⟨of_decide_eq_true U1.out, of_decide_eq_true U2.out, h⟩, fun h => h.2.2⟩)
 clear HV U1 U2 p1 r1 r2 hB hb1 hb2
 by_cases g1 : na = 0
 · by_cases g2 : ns = 0
   · subst g1 g2
     go_wp2
     go_returns
     exact ⟨ret_bool (by rw [← HW.out]; rfl), hB2⟩
   · subst g1
     have d2 : ((ns : Int) == 0) = false := by simp; omega
     have d3 : (ns == 0) = false := by simp; omega
     go_wp2
     go_returns
     exact ⟨ret_bool (by rw [← HW.out]; exact (decide_eq_false (fun h => g2 h.2)).symm), hB2⟩
 · have d2 : ((na : Int) == 0) = false := by simp; omega
   have d3 : (na == 0) = false := by simp; omega
   go_wp2
   go_returns
   exact ⟨ret_bool (by rw [← HW.out]; exact (decide_eq_false (fun h => g1 h.1)).symm), hB2⟩
end Go.Proofs.YtdmegkkifiahdaaGreat
namespace Go.Proofs.YtdmegkkifiahdaaGreat
open Go.RowKit
attribute [local go_sem] bqOp bqAll bqUpon sqOp sqAll sqUpon
attribute [local irreducible] wpQuiet wpBQ wpPlan
set_option linter.unusedVariables false
set_option maxHeartbeats 2000000 in
theorem ftValid_k3 (id x y rad dep sym : Int) (na ca ns cs : Nat) (ad ae : Option Addr) (A S : Nat → Nat → Int) (w : World) (hA : Rows 2 w (.slice ad na ca) na A) (hna : na ≤ 9223372036854775807) (hns : ns ≤ 9223372036854775807) (h1 : 1 ≤ id) (h2 : id ≤ 100000) (h3 : 0 ≤ sym) (h4 : sym ≤ 999) (h5 : 0 ≤ dep) (h6 : dep ≤ 100000) (h7 : 0 ≤ rad) (h8 : rad ≤ 100000) {v : Bool} (hv : decide (FormR 3 x y rad dep na A ns S) = v) :
  Calls Tryz.prog 52 #[.agg #[.int .i64 id, .int .i64 3, .int .i64 x, .int .i64 y, .int .i64 rad, .slice ad na ca, .int .i64 dep, .int .i64 sym, .slice ae ns cs]] w fun e w' => e = .returned (.bool v) ∧ Below w.heap.size w w' := by
 have e0 : FormR 3 x y rad dep na A ns S = (PolyOk na A ∧ x = 0 ∧ y = 0 ∧ rad = 0 ∧ ns = 0) := by unfold FormR; rw [if_neg (by decide), if_pos (by omega)]
 have HV : Hid (decide (PolyOk na A ∧ x = 0 ∧ y = 0 ∧ rad = 0 ∧ ns = 0) = v) := Lib.hid (by rw [← hv, decide_eq_decide, e0])
 obtain ⟨u1, hu1⟩ : ∃ k, decide (PolyOk na A) = k := ⟨_, rfl⟩
 have U1 := Lib.hid hu1
 have HA := Lib.hid hA
 clear hv e0 hu1 hA
 go_enter Tryz.func52, Tryz.ntmps52
 go_wp2_with fail
 refine calls_named fun W hW => ?_
 obtain ⟨p1, hB⟩ := box1 hW
 clear hW
 (with_reducible refine (plValid_any _ _ _ _ _ (HA.out.later hB) hna U1.out).mono ?_)
 rintro e w1 ⟨rfl, hb1⟩
 have hB1 := below_step hB hb1
 have r1 := block_later hb1 p1
 cases u1
 · go_wp2_with fail
   go_returns
   exact ⟨ret_bool (by rw [← HV.out]; exact (decide_eq_false (fun h => of_decide_eq_false U1.out h.1)).symm), hB1⟩
 have c2 := cell_block r1 2
 have c3 := cell_block r1 3
 have c4 := cell_block r1 4
 have c8 := cell_block r1 8
 have HW := Lib.hid (show decide (x = 0 ∧ y = 0 ∧ rad = 0 ∧ ns = 0) = v by
  rw [← HV.out, decide_eq_decide]
  exact ⟨fun h => ⟨of_decide_eq_true U1.out, h⟩, fun h => h.2⟩)
 clear HV U1 p1 r1 hB hb1 HA
 by_cases g1 : x = 0
 rotate_left
 · have d1 : (x == 0) = false := by simpa using g1
   go_wp2
   go_returns
   exact ⟨ret_bool (by rw [← HW.out]; exact (decide_eq_false (fun h => g1 h.1)).symm), hB1⟩
 by_cases g2 : y = 0
 rotate_left
 · subst g1
   have d1 : (y == 0) = false := by simpa using g2
   go_wp2
   go_returns
   exact ⟨ret_bool (by rw [← HW.out]; exact (decide_eq_false (fun h => g2 h.2.1)).symm), hB1⟩
 by_cases g3 : rad = 0
 rotate_left
 · subst g1 g2
   have d1 : (rad == 0) = false := by simpa using g3
   go_wp2
   go_returns
   exact ⟨ret_bool (by rw [← HW.out]; exact (decide_eq_false (fun h => g3 h.2.2.1)).symm), hB1⟩
 by_cases g4 : ns = 0
 rotate_left
 · subst g1 g2 g3
   have d2 : ((ns : Int) == 0) = false := by simp; omega
   have d3 : (ns == 0) = false := by simp; omega
   go_wp2
   go_returns
   exact ⟨ret_bool (by rw [← HW.out]; exact (decide_eq_false (fun h => g4 h.2.2.2)).symm), hB1⟩
 subst g1 g2 g3 g4
 go_wp2
 go_returns
 exact ⟨ret_bool (by rw [← HW.out]; rfl), hB1⟩
set_option maxHeartbeats 2000000 in
theorem ftValid_k6 (id x y rad dep sym : Int) (na ca ns cs : Nat) (ad ae : Option Addr) (A S : Nat → Nat → Int) (w : World) (hA : Rows 2 w (.slice ad na ca) na A) (hna : na ≤ 9223372036854775807) (hns : ns ≤ 9223372036854775807) (h1 : 1 ≤ id) (h2 : id ≤ 100000) (h3 : 0 ≤ sym) (h4 : sym ≤ 999) (h5 : 0 ≤ dep) (h6 : dep ≤ 100000) (h7 : 0 ≤ rad) (h8 : rad ≤ 100000) {v : Bool} (hv : decide (FormR 6 x y rad dep na A ns S) = v) :
  Calls Tryz.prog 52 #[.agg #[.int .i64 id, .int .i64 6, .int .i64 x, .int .i64 y, .int .i64 rad, .slice ad na ca, .int .i64 dep, .int .i64 sym, .slice ae ns cs]] w fun e w' => e = .returned (.bool v) ∧ Below w.heap.size w w' := by
 by_cases hdp : 0 < dep
 · have HV : Hid (false = v) := Lib.hid (by rw [← hv]; exact (decide_eq_false (fun h => by unfold FormR at h; rw [if_neg (by decide), if_neg (by omega)] at h; have := h.1; omega)).symm)
   clear hv
   go_enter Tryz.func52, Tryz.ntmps52
   go_wp2_with fail
   go_returns
   exact ⟨ret_bool HV.out, by go_grown⟩
 have hdn : decide (0 < dep) = false := by simpa using hdp
 have hdz : dep ≤ 0 := by omega
 clear hdp
 have e0 : FormR 6 x y rad dep na A ns S = (PolyOk na A ∧ x = 0 ∧ y = 0 ∧ rad = 0 ∧ ns = 0) := by unfold FormR; rw [if_neg (by decide), if_pos (by omega)]
 have HV : Hid (decide (PolyOk na A ∧ x = 0 ∧ y = 0 ∧ rad = 0 ∧ ns = 0) = v) := Lib.hid (by rw [← hv, decide_eq_decide, e0])
 obtain ⟨u1, hu1⟩ : ∃ k, decide (PolyOk na A) = k := ⟨_, rfl⟩
 have U1 := Lib.hid hu1
 have HA := Lib.hid hA
 clear hv e0 hu1 hA
 go_enter Tryz.func52, Tryz.ntmps52
 go_wp2_with fail
 refine calls_named fun W hW => ?_
 obtain ⟨p1, hB⟩ := box1 hW
 clear hW
 (with_reducible refine (plValid_any _ _ _ _ _ (HA.out.later hB) hna U1.out).mono ?_)
 rintro e w1 ⟨rfl, hb1⟩
 have hB1 := below_step hB hb1
 have r1 := block_later hb1 p1
 cases u1
 · go_wp2_with fail
   go_returns
   exact ⟨ret_bool (by rw [← HV.out]; exact (decide_eq_false (fun h => of_decide_eq_false U1.out h.1)).symm), hB1⟩
 have c2 := cell_block r1 2
 have c3 := cell_block r1 3
 have c4 := cell_block r1 4
 have c8 := cell_block r1 8
 have HW := Lib.hid (show decide (x = 0 ∧ y = 0 ∧ rad = 0 ∧ ns = 0) = v by
  rw [← HV.out, decide_eq_decide]
  exact ⟨fun h => ⟨of_decide_eq_true U1.out, h⟩, fun h => h.2⟩)
 clear HV U1 p1 r1 hB hb1 HA
 by_cases g1 : x = 0
 rotate_left
 · have d1 : (x == 0) = false := by simpa using g1
   go_wp2
   go_returns
   exact ⟨ret_bool (by rw [← HW.out]; exact (decide_eq_false (fun h => g1 h.1)).symm), hB1⟩
 by_cases g2 : y = 0
 rotate_left
 · subst g1
   have d1 : (y == 0) = false := by simpa using g2
   go_wp2
   go_returns
   exact ⟨ret_bool (by rw [← HW.out]; exact (decide_eq_false (fun h => g2 h.2.1)).symm), hB1⟩
 by_cases g3 : rad = 0
 rotate_left
 · subst g1 g2
   have d1 : (rad == 0) = false := by simpa using g3
   go_wp2
   go_returns
   exact ⟨ret_bool (by rw [← HW.out]; exact (decide_eq_false (fun h => g3 h.2.2.1)).symm), hB1⟩
 by_cases g4 : ns = 0
 rotate_left
 · subst g1 g2 g3
   have d2 : ((ns : Int) == 0) = false := by simp; omega
   have d3 : (ns == 0) = false := by simp; omega
   go_wp2
   go_returns
   exact ⟨ret_bool (by rw [← HW.out]; exact (decide_eq_false (fun h => g4 h.2.2.2)).symm), hB1⟩
 subst g1 g2 g3 g4
 go_wp2
 go_returns
 exact ⟨ret_bool (by rw [← HW.out]; rfl), hB1⟩
theorem ftValid_k4 (id x y rad dep sym : Int) (na ca ns cs : Nat) (ad ae : Option Addr) (A S : Nat → Nat → Int) (w : World) (hS : Rows 6 w (.slice ae ns cs) ns S) (hna : na ≤ 9223372036854775807) (hns : ns ≤ 9223372036854775807) (hnc : ns ≤ cs) (h1 : 1 ≤ id) (h2 : id ≤ 100000) (h3 : 0 ≤ sym) (h4 : sym ≤ 999) (h5 : 0 ≤ dep) (h6 : dep ≤ 100000) (h7 : 0 ≤ rad) (h8 : rad ≤ 100000) {v : Bool} (hv : decide (FormR 4 x y rad dep na A ns S) = v) :
  Calls Tryz.prog 52 #[.agg #[.int .i64 id, .int .i64 4, .int .i64 x, .int .i64 y, .int .i64 rad, .slice ad na ca, .int .i64 dep, .int .i64 sym, .slice ae ns cs]] w fun e w' => e = .returned (.bool v) ∧ Below w.heap.size w w' := by
 have e0 : FormR 4 x y rad dep na A ns S = ((4 : Int) = 4 ∧ Vld x y ∧ SecsOk ns S ∧ rad = 0 ∧ dep = 0 ∧ na = 0) := by unfold FormR; rw [if_neg (by decide), if_neg (by omega)]
 have HV : Hid (decide (Vld x y ∧ SecsOk ns S ∧ rad = 0 ∧ dep = 0 ∧ na = 0) = v) := Lib.hid (by rw [← hv, decide_eq_decide, e0]; exact ⟨fun h => ⟨rfl, h⟩, fun h => h.2⟩)
 obtain ⟨u1, hu1⟩ : ∃ k, decide (Vld x y) = k := ⟨_, rfl⟩
 obtain ⟨u2, hu2⟩ : ∃ k, decide (SecsOk ns S) = k := ⟨_, rfl⟩
 have U1 := Lib.hid hu1
 have U2 := Lib.hid hu2
 have HS := Lib.hid hS
 clear hv e0 hu1 hu2 hS
 go_enter Tryz.func52, Tryz.ntmps52
 go_wp2_with fail
 refine calls_named fun W hW => ?_
 obtain ⟨p1, hB⟩ := box1 hW
 clear hW
 (with_reducible refine (hpValid_any _ _ _ U1.out).mono ?_)
 rintro e w1 ⟨rfl, hb1⟩
 have hB1 := below_step hB hb1
 have r1 := block_later hb1 p1
 have c8 := cell_block r1 8
 cases u1
 · go_wp2_with fail
   go_returns
   exact ⟨ret_bool (by rw [← HV.out]; exact (decide_eq_false (fun h => of_decide_eq_false U1.out h.1)).symm), hB1⟩
 go_wp2_with fail
 (with_reducible refine (scValid_any _ _ _ _ _ (HS.out.later hB1) hns hnc U2.out).mono ?_)
 rintro e w2 ⟨rfl, hb2⟩
 have hB2 := below_step hB1 hb2
 have r2 := block_later hb2 r1
 clear c8
 have c4 := cell_block r2 4
 have c5 := cell_block r2 5
 have c6 := cell_block r2 6
 cases u2
 · go_wp2_with fail
   go_returns
   exact ⟨ret_bool (by rw [← HV.out]; exact (decide_eq_false (fun h => of_decide_eq_false U2.out h.2.1)).symm), hB2⟩
 have HW := Lib.hid (show decide (rad = 0 ∧ dep = 0 ∧ na = 0) = v by
  rw [← HV.out, decide_eq_decide]
  exact ⟨fun h => ⟨of_decide_eq_true U1.out, of_decide_eq_true U2.out, h⟩, fun h => h.2.2⟩)
 clear HV U1 U2 p1 r1 r2 hB hb1 hb2
 by_cases g1 : rad = 0
 rotate_left
 · have d1 : (rad == 0) = false := by simpa using g1
   go_wp2
   go_returns
   exact ⟨ret_bool (by rw [← HW.out]; exact (decide_eq_false (fun h => g1 h.1)).symm), hB2⟩
 by_cases g2 : dep = 0
 rotate_left
 · subst g1
   have d1 : (dep == 0) = false := by simpa using g2
   go_wp2
   go_returns
   exact ⟨ret_bool (by rw [← HW.out]; exact (decide_eq_false (fun h => g2 h.2.1)).symm), hB2⟩
 by_cases g4 : na = 0
 rotate_left
 · subst g1 g2
   have d2 : ((na : Int) == 0) = false := by simp; omega
   have d3 : (na == 0) = false := by simp; omega
   go_wp2
   go_returns
   exact ⟨ret_bool (by rw [← HW.out]; exact (decide_eq_false (fun h => g4 h.2.2)).symm), hB2⟩
 subst g1 g2 g4
 go_wp2
 go_returns
 exact ⟨ret_bool (by rw [← HW.out]; rfl), hB2⟩
theorem ftValid_k0 (id kind x y rad dep sym : Int) (na ca ns cs : Nat) (ad ae : Option Addr) (w : World) (h1 : 1 ≤ id) (h2 : id ≤ 100000) (h3 : 0 ≤ sym) (h4 : sym ≤ 999) (h5 : 0 ≤ dep) (h6 : dep ≤ 100000) (h7 : 0 ≤ rad) (h8 : rad ≤ 100000) (k1 : kind ≠ 1) (k2 : kind ≠ 2) (k3 : kind ≠ 3) (k4 : kind ≠ 4) (k5 : kind ≠ 5) (k6 : kind ≠ 6) :
  Calls Tryz.prog 52 #[.agg #[.int .i64 id, .int .i64 kind, .int .i64 x, .int .i64 y, .int .i64 rad, .slice ad na ca, .int .i64 dep, .int .i64 sym, .slice ae ns cs]] w fun e w' => e = .returned (.bool false) ∧ Below w.heap.size w w' := by
 have d1 : (kind == 1) = false := by simpa using k1
 have d2 : (kind == 2) = false := by simpa using k2
 have d3 : (kind == 3) = false := by simpa using k3
 have d4 : (kind == 4) = false := by simpa using k4
 have d5 : (kind == 5) = false := by simpa using k5
 have d6 : (kind == 6) = false := by simpa using k6
 go_enter Tryz.func52, Tryz.ntmps52
 go_wp2
 go_returns
 exact ⟨rfl, by go_grown⟩
set_option maxHeartbeats 4000000 in
theorem ftValid_bad (id kind x y rad dep sym : Int) (na ca ns cs : Nat) (ad ae : Option Addr) (w : World) (h : ¬ NumsR id rad dep sym) :
  Calls Tryz.prog 52 #[.agg #[.int .i64 id, .int .i64 kind, .int .i64 x, .int .i64 y, .int .i64 rad, .slice ad na ca, .int .i64 dep, .int .i64 sym, .slice ae ns cs]] w fun e w' => e = .returned (.bool false) ∧ Below w.heap.size w w' := by
 unfold NumsR at h
 by_cases bid : id < 1
 · clear h
   go_enter Tryz.func52, Tryz.ntmps52
   go_wp2_with fail
   go_returns
   exact ⟨rfl, by go_grown⟩
 have nid : 1 ≤ id := by omega
 clear bid
 by_cases bid2 : 100000 < id
 · clear h
   go_enter Tryz.func52, Tryz.ntmps52
   go_wp2_with fail
   go_returns
   exact ⟨rfl, by go_grown⟩
 have nid2 : id ≤ 100000 := by omega
 clear bid2
 by_cases bs : sym < 0
 · clear h
   go_enter Tryz.func52, Tryz.ntmps52
   go_wp2_with fail
   go_returns
   exact ⟨rfl, by go_grown⟩
 have ns : 0 ≤ sym := by omega
 clear bs
 by_cases bs2 : 999 < sym
 · clear h
   go_enter Tryz.func52, Tryz.ntmps52
   go_wp2_with fail
   go_returns
   exact ⟨rfl, by go_grown⟩
 have ns2 : sym ≤ 999 := by omega
 clear bs2
 by_cases bd : dep < 0
 · clear h
   go_enter Tryz.func52, Tryz.ntmps52
   go_wp2_with fail
   go_returns
   exact ⟨rfl, by go_grown⟩
 have nd : 0 ≤ dep := by omega
 clear bd
 by_cases bd2 : 100000 < dep
 · clear h
   go_enter Tryz.func52, Tryz.ntmps52
   go_wp2_with fail
   go_returns
   exact ⟨rfl, by go_grown⟩
 have nd2 : dep ≤ 100000 := by omega
 clear bd2
 by_cases br : rad < 0
 · clear h
   go_enter Tryz.func52, Tryz.ntmps52
   go_wp2_with fail
   go_returns
   exact ⟨rfl, by go_grown⟩
 have nr : 0 ≤ rad := by omega
 clear br
 by_cases br2 : 100000 < rad
 · clear h
   go_enter Tryz.func52, Tryz.ntmps52
   go_wp2_with fail
   go_returns
   exact ⟨rfl, by go_grown⟩
 have nr2 : rad ≤ 100000 := by omega
 clear br2
 omega
theorem ftValid_raw (id kind x y rad dep sym : Int) (na ca ns cs : Nat) (ad ae : Option Addr) (A S : Nat → Nat → Int) (w : World) (hA : Rows 2 w (.slice ad na ca) na A) (hS : Rows 6 w (.slice ae ns cs) ns S) (hna : na ≤ 9223372036854775807) (hns : ns ≤ 9223372036854775807) (hnc : ns ≤ cs) {v : Bool} (hv : decide (NumsR id rad dep sym ∧ FormR kind x y rad dep na A ns S) = v) :
  Calls Tryz.prog 52 #[.agg #[.int .i64 id, .int .i64 kind, .int .i64 x, .int .i64 y, .int .i64 rad, .slice ad na ca, .int .i64 dep, .int .i64 sym, .slice ae ns cs]] w fun e w' => e = .returned (.bool v) ∧ Below w.heap.size w w' := by
 by_cases hn : NumsR id rad dep sym
 rotate_left
 · rw [decide_eq_false (fun h => hn h.1)] at hv
   subst hv
   exact ftValid_bad _ _ _ _ _ _ _ _ _ _ _ _ _ _ hn
 have hv' : decide (FormR kind x y rad dep na A ns S) = v := by
  rw [← hv, decide_eq_decide]
  exact ⟨fun h => ⟨hn, h⟩, fun h => h.2⟩
 obtain ⟨⟨h1, h2⟩, ⟨h3, h4⟩, ⟨h5, h6⟩, h7, h8⟩ := hn
 by_cases k1 : kind = 1
 · subst k1; exact ftValid_k1 _ _ _ _ _ _ _ _ _ _ _ _ A S w hna hns h1 h2 h3 h4 h5 h6 h7 h8 hv'
 by_cases k2 : kind = 2
 · subst k2; exact ftValid_k2 _ _ _ _ _ _ _ _ _ _ _ _ A S w hna hns h1 h2 h3 h4 h5 h6 h7 h8 hv'
 by_cases k5 : kind = 5
 · subst k5; exact ftValid_k5 _ _ _ _ _ _ _ _ _ _ _ _ A S w hna hns h1 h2 h3 h4 h5 h6 h7 h8 hv'
 by_cases k3 : kind = 3
 · subst k3; exact ftValid_k3 _ _ _ _ _ _ _ _ _ _ _ _ A S w hA hna hns h1 h2 h3 h4 h5 h6 h7 h8 hv'
 by_cases k6 : kind = 6
 · subst k6; exact ftValid_k6 _ _ _ _ _ _ _ _ _ _ _ _ A S w hA hna hns h1 h2 h3 h4 h5 h6 h7 h8 hv'
 by_cases k4 : kind = 4
 · subst k4; exact ftValid_k4 _ _ _ _ _ _ _ _ _ _ _ _ A S w hS hna hns hnc h1 h2 h3 h4 h5 h6 h7 h8 hv'
 rw [decide_eq_false (fun h => by
  unfold FormR at h
  rw [if_neg (by unfold DiscK; omega), if_neg (by omega)] at h
  exact k4 h.1)] at hv'
 subst hv'
 exact ftValid_k0 _ _ _ _ _ _ _ _ _ _ _ _ _ w h1 h2 h3 h4 h5 h6 h7 h8 k1 k2 k3 k4 k5 k6
theorem ftValid_any (f : Feat) (va vs : Value) (w : World) (ha : PtsAt w va f.area) (hs : SecsAt w vs f.secs) {v : Bool} (hv : decide (FeatOk f) = v) :
  Calls Tryz.prog 52 #[featV f va vs] w fun e w' => e = .returned (.bool v) ∧ Below w.heap.size w w' := by
 obtain ⟨ad, ca, rfl, h1, h2, h3⟩ := Lists.form ha
 obtain ⟨ae, cs, rfl, g1, g2, g3⟩ := Lists.form hs
 exact ftValid_raw _ _ _ _ _ _ _ _ _ _ _ _ _ _ _ w h1.rows g1.rows h2 g2 g3 hv
end Go.Proofs.YtdmegkkifiahdaaGreat
namespace Go.Proofs.YtdmegkkifiahdaaGreat
open Go.RowKit
attribute [local go_sem] bqOp bqAll bqUpon sqOp sqAll sqUpon
attribute [local irreducible] wpQuiet wpBQ wpPlan
set_option linter.unusedVariables false
def RowsEq (k n m : Nat) (X Y : Nat → Nat → Int) : Prop := n = m ∧ ∀ i, i < n → ∀ j, j < k → X i j = Y i j
instance (k n m : Nat) (X Y : Nat → Nat → Int) : Decidable (RowsEq k n m X Y) := by unfold RowsEq; exact inferInstance
set_option maxHeartbeats 1000000 in
theorem eqPts_any (n m c1 c2 : Nat) (ad1 ad2 : Option Addr) (X Y : Nat → Nat → Int) (w : World) (h1 : Rows 2 w (.slice ad1 n c1) n X) (h2 : Rows 2 w (.slice ad2 m c2) m Y) (hn : n ≤ 9223372036854775807) (hm : m ≤ 9223372036854775807) {v : Bool} (hv : decide (RowsEq 2 n m X Y) = v) :
  Calls Tryz.prog 212 #[.slice ad1 n c1, .slice ad2 m c2] w fun e w' => e = .returned (.bool v) ∧ Below w.heap.size w w' := by
 have HV := Lib.hid hv
 have H1 := Lib.hid h1
 have H2 := Lib.hid h2
 clear hv h1 h2
 by_cases hnm : n = m
 rotate_left
 · have d : ((n : Int) != (m : Int)) = true := by simp; omega
   have d2 : (n != m) = true := by simp; omega
   go_enter Tryz.func212, Tryz.ntmps212
   go_wp2_with fail
   go_returns
   exact ⟨ret_bool (by rw [← HV.out]; exact (decide_eq_false (fun h => hnm h.1)).symm), Below.refl _ _⟩
 subst hnm
 go_enter Tryz.func212, Tryz.ntmps212
 go_wp2_with fail
 go_loopw [13] (fun i wr => ∃ k : Nat, k ≤ n ∧ i = .int .i64 k ∧ Below w.heap.size w wr ∧ ∀ i, i < k → ∀ j, j < 2 → X i j = Y i j) (fun i _ => n - (intOf i).toNat)
 case atStart => exact ⟨0, by omega, rfl, Below.refl _ _, fun m hm => by omega⟩
 case round =>
  obtain ⟨k, hk, rfl, hb, hall⟩ := hrel
  have ALL := Lib.hid hall
  clear hall
  rcases Nat.lt_or_ge k n with hlt | hge
  rotate_left
  · obtain rfl : k = n := by omega
    go_wp2_with fail
    go_returns
    exact ⟨ret_bool (by rw [← HV.out]; exact (decide_eq_true ⟨rfl, ALL.out⟩).symm), hb⟩
  obtain ⟨g, o, rfl, hc⟩ := (H1.out.later hb).row hlt
  obtain ⟨g', o', rfl, hc'⟩ := (H2.out.later hb).row hlt
  have r0 := fun d os => cell_later (below_regrown wr d os) (hc 0 (by omega))
  have z0 := fun d os => cell_later (below_regrown wr d os) (hc' 0 (by omega))
  have r1 := fun d os => cell_later (below_regrown wr d os) (hc 1 (by omega))
  have z1 := fun d os => cell_later (below_regrown wr d os) (hc' 1 (by omega))
  simp only [Nat.add_zero] at r0 z0
  clear hc hc'
  by_cases g0 : X k 0 = Y k 0
  rotate_left
  · have d : (X k 0 == Y k 0) = false := by simpa using g0
    have d2 : (X k 0 != Y k 0) = true := by simpa using g0
    have NO := Lib.hid (show ¬ RowsEq 2 n n X Y from fun h => g0 (h.2 k hlt 0 (by omega)))
    clear g0
    go_wp2_with fail
    refine wp_region_plan (.take 0 (.take 0 (.take 0 (.take 0 (.take 0 (.take 0 (.take 0 (.take 0 (.take 0 .done))))))))) (by kernel_rfl) (by kernel_rfl) (fun hP => ?_)
    repeat' (first
     | (refine wpPlan_two ?_ ?_)
     | (refine wpPlan_three ?_ ?_ ?_)
     | (refine wpPlan_take rfl (fun K hK => ?_); replace hK := Lib.hid hK; go_simp; first | (refine hK.out _ ?_; clear hK K) | (apply Exists.intro; refine ⟨fun _ => ?_, hK.out _ ?_⟩; (first | with_reducible exact rfl | skip); clear hK K))
     | (refine wpPlan_only rfl (fun K hK => ?_); replace hK := Lib.hid hK; (first | (go_simp; first | skip)); refine hK.out _ _ (by first | assumption | exact below_step hP hbx | exact hP.drew | exact hP.alloc hP.size _) (fun hP => ?_); clear hK K))
    all_goals refine wpPlan_done ?_
    have hB2 := below_step hb hP
    go_wp2_with fail
    go_returns
    exact ⟨ret_bool (by rw [← HV.out]; exact (decide_eq_false NO.out).symm), hB2⟩
  by_cases g1 : X k 1 = Y k 1
  rotate_left
  · have d : (X k 1 == Y k 1) = false := by simpa using g1
    have d2 : (X k 1 != Y k 1) = true := by simpa using g1
    have NO := Lib.hid (show ¬ RowsEq 2 n n X Y from fun h => g1 (h.2 k hlt 1 (by omega)))
    rw [← g0] at z0
    clear g0 g1
    go_wp2_with fail
    refine wp_region_plan (.take 0 (.take 0 (.take 0 (.take 0 (.take 0 (.take 0 (.take 0 (.take 0 (.take 0 .done))))))))) (by kernel_rfl) (by kernel_rfl) (fun hP => ?_)
    repeat' (first
     | (refine wpPlan_two ?_ ?_)
     | (refine wpPlan_three ?_ ?_ ?_)
     | (refine wpPlan_take rfl (fun K hK => ?_); replace hK := Lib.hid hK; go_simp; first | (refine hK.out _ ?_; clear hK K) | (apply Exists.intro; refine ⟨fun _ => ?_, hK.out _ ?_⟩; (first | with_reducible exact rfl | skip); clear hK K))
     | (refine wpPlan_only rfl (fun K hK => ?_); replace hK := Lib.hid hK; (first | (go_simp; first | skip)); refine hK.out _ _ (by first | assumption | exact below_step hP hbx | exact hP.drew | exact hP.alloc hP.size _) (fun hP => ?_); clear hK K))
    all_goals refine wpPlan_done ?_
    have hB2 := below_step hb hP
    go_wp2_with fail
    go_returns
    exact ⟨ret_bool (by rw [← HV.out]; exact (decide_eq_false NO.out).symm), hB2⟩
  have OK := Lib.hid (show ∀ j, j < 2 → X k j = Y k j from fun j hj => by
   match j, hj with
   | 0, _ => exact g0
   | 1, _ => exact g1
  )
  rw [← g0] at z0
  rw [← g1] at z1
  clear g0 g1
  go_wp2_with fail
  refine wp_region_plan (.take 0 (.take 0 (.take 0 (.take 0 (.take 0 (.take 0 (.take 0 (.take 0 (.take 0 .done))))))))) (by kernel_rfl) (by kernel_rfl) (fun hP => ?_)
  repeat' (first
   | (refine wpPlan_two ?_ ?_)
   | (refine wpPlan_three ?_ ?_ ?_)
   | (refine wpPlan_take rfl (fun K hK => ?_); replace hK := Lib.hid hK; go_simp; first | (refine hK.out _ ?_; clear hK K) | (apply Exists.intro; refine ⟨fun _ => ?_, hK.out _ ?_⟩; (first | with_reducible exact rfl | skip); clear hK K))
   | (refine wpPlan_only rfl (fun K hK => ?_); replace hK := Lib.hid hK; (first | (go_simp; first | skip)); refine hK.out _ _ (by first | assumption | exact below_step hP hbx | exact hP.drew | exact hP.alloc hP.size _) (fun hP => ?_); clear hK K))
  all_goals refine wpPlan_done ?_
  have hB2 := below_step hb hP
  go_wp2_with fail
  go_roundw
  case rel => exact ⟨k + 1, by omega, by go_num, hB2, fun i hi => by
   rcases Nat.lt_or_ge i k with h | h
   · exact ALL.out i h
   · obtain rfl : i = k := by omega
     exact OK.out⟩
  case measure => simp [intOf]; omega
set_option maxHeartbeats 1000000 in
theorem eqSecs_any (n m c1 c2 : Nat) (ad1 ad2 : Option Addr) (X Y : Nat → Nat → Int) (w : World) (h1 : Rows 6 w (.slice ad1 n c1) n X) (h2 : Rows 6 w (.slice ad2 m c2) m Y) (hn : n ≤ 9223372036854775807) (hm : m ≤ 9223372036854775807) {v : Bool} (hv : decide (RowsEq 6 n m X Y) = v) :
  Calls Tryz.prog 213 #[.slice ad1 n c1, .slice ad2 m c2] w fun e w' => e = .returned (.bool v) ∧ Below w.heap.size w w' := by
 have HV := Lib.hid hv
 have H1 := Lib.hid h1
 have H2 := Lib.hid h2
 clear hv h1 h2
 by_cases hnm : n = m
 rotate_left
 · have d : ((n : Int) != (m : Int)) = true := by simp; omega
   have d2 : (n != m) = true := by simp; omega
   go_enter Tryz.func213, Tryz.ntmps213
   go_wp2_with fail
   go_returns
   exact ⟨ret_bool (by rw [← HV.out]; exact (decide_eq_false (fun h => hnm h.1)).symm), Below.refl _ _⟩
 subst hnm
 go_enter Tryz.func213, Tryz.ntmps213
 go_wp2_with fail
 go_loopw [13] (fun i wr => ∃ k : Nat, k ≤ n ∧ i = .int .i64 k ∧ Below w.heap.size w wr ∧ ∀ i, i < k → ∀ j, j < 6 → X i j = Y i j) (fun i _ => n - (intOf i).toNat)
 case atStart => exact ⟨0, by omega, rfl, Below.refl _ _, fun m hm => by omega⟩
 case round =>
  obtain ⟨k, hk, rfl, hb, hall⟩ := hrel
  have ALL := Lib.hid hall
  clear hall
  rcases Nat.lt_or_ge k n with hlt | hge
  rotate_left
  · obtain rfl : k = n := by omega
    go_wp2_with fail
    go_returns
    exact ⟨ret_bool (by rw [← HV.out]; exact (decide_eq_true ⟨rfl, ALL.out⟩).symm), hb⟩
  obtain ⟨g, o, rfl, hc⟩ := (H1.out.later hb).row hlt
  obtain ⟨g', o', rfl, hc'⟩ := (H2.out.later hb).row hlt
  have r0 := fun d os => cell_later (below_regrown wr d os) (hc 0 (by omega))
  have z0 := fun d os => cell_later (below_regrown wr d os) (hc' 0 (by omega))
  have r1 := fun d os => cell_later (below_regrown wr d os) (hc 1 (by omega))
  have z1 := fun d os => cell_later (below_regrown wr d os) (hc' 1 (by omega))
  have r2 := fun d os => cell_later (below_regrown wr d os) (hc 2 (by omega))
  have z2 := fun d os => cell_later (below_regrown wr d os) (hc' 2 (by omega))
  have r3 := fun d os => cell_later (below_regrown wr d os) (hc 3 (by omega))
  have z3 := fun d os => cell_later (below_regrown wr d os) (hc' 3 (by omega))
  have r4 := fun d os => cell_later (below_regrown wr d os) (hc 4 (by omega))
  have z4 := fun d os => cell_later (below_regrown wr d os) (hc' 4 (by omega))
  have r5 := fun d os => cell_later (below_regrown wr d os) (hc 5 (by omega))
  have z5 := fun d os => cell_later (below_regrown wr d os) (hc' 5 (by omega))
  simp only [Nat.add_zero] at r0 z0
  clear hc hc'
  by_cases g0 : X k 0 = Y k 0
  rotate_left
  · have d : (X k 0 == Y k 0) = false := by simpa using g0
    have d2 : (X k 0 != Y k 0) = true := by simpa using g0
    have NO := Lib.hid (show ¬ RowsEq 6 n n X Y from fun h => g0 (h.2 k hlt 0 (by omega)))
    clear g0
    go_wp2_with fail
    refine wp_region_plan (.take 0 (.take 0 (.take 0 (.take 0 (.take 0 (.take 0 (.take 0 (.take 0 (.take 0 .done))))))))) (by kernel_rfl) (by kernel_rfl) (fun hP => ?_)
    repeat' (first
     | (refine wpPlan_two ?_ ?_)
     | (refine wpPlan_three ?_ ?_ ?_)
     | (refine wpPlan_take rfl (fun K hK => ?_); replace hK := Lib.hid hK; go_simp; first | (refine hK.out _ ?_; clear hK K) | (apply Exists.intro; refine ⟨fun _ => ?_, hK.out _ ?_⟩; (first | with_reducible exact rfl | skip); clear hK K))
     | (refine wpPlan_only rfl (fun K hK => ?_); replace hK := Lib.hid hK; (first | (go_simp; first | skip)); refine hK.out _ _ (by first | assumption | exact below_step hP hbx | exact hP.drew | exact hP.alloc hP.size _) (fun hP => ?_); clear hK K))
    all_goals refine wpPlan_done ?_
    have hB2 := below_step hb hP
    go_wp2_with fail
    go_returns
    exact ⟨ret_bool (by rw [← HV.out]; exact (decide_eq_false NO.out).symm), hB2⟩
  by_cases g1 : X k 1 = Y k 1
  rotate_left
  · have d : (X k 1 == Y k 1) = false := by simpa using g1
    have d2 : (X k 1 != Y k 1) = true := by simpa using g1
    have NO := Lib.hid (show ¬ RowsEq 6 n n X Y from fun h => g1 (h.2 k hlt 1 (by omega)))
    rw [← g0] at z0
    clear g0 g1
    go_wp2_with fail
    refine wp_region_plan (.take 0 (.take 0 (.take 0 (.take 0 (.take 0 (.take 0 (.take 0 (.take 0 (.take 0 .done))))))))) (by kernel_rfl) (by kernel_rfl) (fun hP => ?_)
    repeat' (first
     | (refine wpPlan_two ?_ ?_)
     | (refine wpPlan_three ?_ ?_ ?_)
     | (refine wpPlan_take rfl (fun K hK => ?_); replace hK := Lib.hid hK; go_simp; first | (refine hK.out _ ?_; clear hK K) | (apply Exists.intro; refine ⟨fun _ => ?_, hK.out _ ?_⟩; (first | with_reducible exact rfl | skip); clear hK K))
     | (refine wpPlan_only rfl (fun K hK => ?_); replace hK := Lib.hid hK; (first | (go_simp; first | skip)); refine hK.out _ _ (by first | assumption | exact below_step hP hbx | exact hP.drew | exact hP.alloc hP.size _) (fun hP => ?_); clear hK K))
    all_goals refine wpPlan_done ?_
    have hB2 := below_step hb hP
    go_wp2_with fail
    go_returns
    exact ⟨ret_bool (by rw [← HV.out]; exact (decide_eq_false NO.out).symm), hB2⟩
  by_cases g2 : X k 2 = Y k 2
  rotate_left
  · have d : (X k 2 == Y k 2) = false := by simpa using g2
    have d2 : (X k 2 != Y k 2) = true := by simpa using g2
    have NO := Lib.hid (show ¬ RowsEq 6 n n X Y from fun h => g2 (h.2 k hlt 2 (by omega)))
    rw [← g0] at z0
    rw [← g1] at z1
    clear g0 g1 g2
    go_wp2_with fail
    refine wp_region_plan (.take 0 (.take 0 (.take 0 (.take 0 (.take 0 (.take 0 (.take 0 (.take 0 (.take 0 .done))))))))) (by kernel_rfl) (by kernel_rfl) (fun hP => ?_)
    repeat' (first
     | (refine wpPlan_two ?_ ?_)
     | (refine wpPlan_three ?_ ?_ ?_)
     | (refine wpPlan_take rfl (fun K hK => ?_); replace hK := Lib.hid hK; go_simp; first | (refine hK.out _ ?_; clear hK K) | (apply Exists.intro; refine ⟨fun _ => ?_, hK.out _ ?_⟩; (first | with_reducible exact rfl | skip); clear hK K))
     | (refine wpPlan_only rfl (fun K hK => ?_); replace hK := Lib.hid hK; (first | (go_simp; first | skip)); refine hK.out _ _ (by first | assumption | exact below_step hP hbx | exact hP.drew | exact hP.alloc hP.size _) (fun hP => ?_); clear hK K))
    all_goals refine wpPlan_done ?_
    have hB2 := below_step hb hP
    go_wp2_with fail
    go_returns
    exact ⟨ret_bool (by rw [← HV.out]; exact (decide_eq_false NO.out).symm), hB2⟩
  by_cases g3 : X k 3 = Y k 3
  rotate_left
  · have d : (X k 3 == Y k 3) = false := by simpa using g3
    have d2 : (X k 3 != Y k 3) = true := by simpa using g3
    have NO := Lib.hid (show ¬ RowsEq 6 n n X Y from fun h => g3 (h.2 k hlt 3 (by omega)))
    rw [← g0] at z0
    rw [← g1] at z1
    rw [← g2] at z2
    clear g0 g1 g2 g3
    go_wp2_with fail
    refine wp_region_plan (.take 0 (.take 0 (.take 0 (.take 0 (.take 0 (.take 0 (.take 0 (.take 0 (.take 0 .done))))))))) (by kernel_rfl) (by kernel_rfl) (fun hP => ?_)
    repeat' (first
     | (refine wpPlan_two ?_ ?_)
     | (refine wpPlan_three ?_ ?_ ?_)
     | (refine wpPlan_take rfl (fun K hK => ?_); replace hK := Lib.hid hK; go_simp; first | (refine hK.out _ ?_; clear hK K) | (apply Exists.intro; refine ⟨fun _ => ?_, hK.out _ ?_⟩; (first | with_reducible exact rfl | skip); clear hK K))
     | (refine wpPlan_only rfl (fun K hK => ?_); replace hK := Lib.hid hK; (first | (go_simp; first | skip)); refine hK.out _ _ (by first | assumption | exact below_step hP hbx | exact hP.drew | exact hP.alloc hP.size _) (fun hP => ?_); clear hK K))
    all_goals refine wpPlan_done ?_
    have hB2 := below_step hb hP
    go_wp2_with fail
    go_returns
    exact ⟨ret_bool (by rw [← HV.out]; exact (decide_eq_false NO.out).symm), hB2⟩
  by_cases g4 : X k 4 = Y k 4
  rotate_left
  · have d : (X k 4 == Y k 4) = false := by simpa using g4
    have d2 : (X k 4 != Y k 4) = true := by simpa using g4
    have NO := Lib.hid (show ¬ RowsEq 6 n n X Y from fun h => g4 (h.2 k hlt 4 (by omega)))
    rw [← g0] at z0
    rw [← g1] at z1
    rw [← g2] at z2
    rw [← g3] at z3
    clear g0 g1 g2 g3 g4
    go_wp2_with fail
    refine wp_region_plan (.take 0 (.take 0 (.take 0 (.take 0 (.take 0 (.take 0 (.take 0 (.take 0 (.take 0 .done))))))))) (by kernel_rfl) (by kernel_rfl) (fun hP => ?_)
    repeat' (first
     | (refine wpPlan_two ?_ ?_)
     | (refine wpPlan_three ?_ ?_ ?_)
     | (refine wpPlan_take rfl (fun K hK => ?_); replace hK := Lib.hid hK; go_simp; first | (refine hK.out _ ?_; clear hK K) | (apply Exists.intro; refine ⟨fun _ => ?_, hK.out _ ?_⟩; (first | with_reducible exact rfl | skip); clear hK K))
     | (refine wpPlan_only rfl (fun K hK => ?_); replace hK := Lib.hid hK; (first | (go_simp; first | skip)); refine hK.out _ _ (by first | assumption | exact below_step hP hbx | exact hP.drew | exact hP.alloc hP.size _) (fun hP => ?_); clear hK K))
    all_goals refine wpPlan_done ?_
    have hB2 := below_step hb hP
    go_wp2_with fail
    go_returns
    exact ⟨ret_bool (by rw [← HV.out]; exact (decide_eq_false NO.out).symm), hB2⟩
  by_cases g5 : X k 5 = Y k 5
  rotate_left
  · have d : (X k 5 == Y k 5) = false := by simpa using g5
    have d2 : (X k 5 != Y k 5) = true := by simpa using g5
    have NO := Lib.hid (show ¬ RowsEq 6 n n X Y from fun h => g5 (h.2 k hlt 5 (by omega)))
    rw [← g0] at z0
    rw [← g1] at z1
    rw [← g2] at z2
    rw [← g3] at z3
    rw [← g4] at z4
    clear g0 g1 g2 g3 g4 g5
    go_wp2_with fail
    refine wp_region_plan (.take 0 (.take 0 (.take 0 (.take 0 (.take 0 (.take 0 (.take 0 (.take 0 (.take 0 .done))))))))) (by kernel_rfl) (by kernel_rfl) (fun hP => ?_)
    repeat' (first
     | (refine wpPlan_two ?_ ?_)
     | (refine wpPlan_three ?_ ?_ ?_)
     | (refine wpPlan_take rfl (fun K hK => ?_); replace hK := Lib.hid hK; go_simp; first | (refine hK.out _ ?_; clear hK K) | (apply Exists.intro; refine ⟨fun _ => ?_, hK.out _ ?_⟩; (first | with_reducible exact rfl | skip); clear hK K))
     | (refine wpPlan_only rfl (fun K hK => ?_); replace hK := Lib.hid hK; (first | (go_simp; first | skip)); refine hK.out _ _ (by first | assumption | exact below_step hP hbx | exact hP.drew | exact hP.alloc hP.size _) (fun hP => ?_); clear hK K))
    all_goals refine wpPlan_done ?_
    have hB2 := below_step hb hP
    go_wp2_with fail
    go_returns
    exact ⟨ret_bool (by rw [← HV.out]; exact (decide_eq_false NO.out).symm), hB2⟩
  have OK := Lib.hid (show ∀ j, j < 6 → X k j = Y k j from fun j hj => by
   match j, hj with
   | 0, _ => exact g0
   | 1, _ => exact g1
   | 2, _ => exact g2
   | 3, _ => exact g3
   | 4, _ => exact g4
   | 5, _ => exact g5
  )
  rw [← g0] at z0
  rw [← g1] at z1
  rw [← g2] at z2
  rw [← g3] at z3
  rw [← g4] at z4
  rw [← g5] at z5
  clear g0 g1 g2 g3 g4 g5
  go_wp2_with fail
  refine wp_region_plan (.take 0 (.take 0 (.take 0 (.take 0 (.take 0 (.take 0 (.take 0 (.take 0 (.take 0 .done))))))))) (by kernel_rfl) (by kernel_rfl) (fun hP => ?_)
  repeat' (first
   | (refine wpPlan_two ?_ ?_)
   | (refine wpPlan_three ?_ ?_ ?_)
   | (refine wpPlan_take rfl (fun K hK => ?_); replace hK := Lib.hid hK; go_simp; first | (refine hK.out _ ?_; clear hK K) | (apply Exists.intro; refine ⟨fun _ => ?_, hK.out _ ?_⟩; (first | with_reducible exact rfl | skip); clear hK K))
   | (refine wpPlan_only rfl (fun K hK => ?_); replace hK := Lib.hid hK; (first | (go_simp; first | skip)); refine hK.out _ _ (by first | assumption | exact below_step hP hbx | exact hP.drew | exact hP.alloc hP.size _) (fun hP => ?_); clear hK K))
  all_goals refine wpPlan_done ?_
  have hB2 := below_step hb hP
  go_wp2_with fail
  go_roundw
  case rel => exact ⟨k + 1, by omega, by go_num, hB2, fun i hi => by
   rcases Nat.lt_or_ge i k with h | h
   · exact ALL.out i h
   · obtain rfl : i = k := by omega
     exact OK.out⟩
  case measure => simp [intOf]; omega
end Go.Proofs.YtdmegkkifiahdaaGreat
namespace Go.Proofs.YtdmegkkifiahdaaGreat
open Go.RowKit
attribute [local go_sem] bqOp bqAll bqUpon sqOp sqAll sqUpon
attribute [local irreducible] wpQuiet wpBQ wpPlan
set_option linter.unusedVariables false
theorem ptsL {w w' : World} {v : Value} {l : List (Int × Int)} (h : PtsAt w v l) (hb : Below w.heap.size w w') : PtsAt w' v l := Lists.later h hb
theorem secsL {w w' : World} {v : Value} {l : List Sec} (h : SecsAt w v l) (hb : Below w.heap.size w w') : SecsAt w' v l := Lists.later h hb
theorem intsL {w w' : World} {v : Value} {l : List Int} (h : IntsAt w v l) (hb : Below w.heap.size w w') : IntsAt w' v l := Lists.later h hb
theorem getD_ext {α : Type} (d : α) : ∀ {l m : List α}, l.length = m.length → (∀ i, i < l.length → l.getD i d = m.getD i d) → l = m
 | [], [], _, _ => rfl
 | [], _ :: _, h, _ => by simp at h
 | _ :: _, [], h, _ => by simp at h
 | x :: l, y :: m, h, g => by
   have h0 := g 0 (by simp)
   have ht := getD_ext d (l := l) (m := m) (by simpa using h) (fun i hi => g (i + 1) (by simp only [List.length_cons]; omega))
   simp only [List.getD_cons_zero] at h0
   rw [h0, ht]
theorem ints_eq (l m : List Int) : RowsEq 1 l.length m.length (fun i _ => l.getD i 0) (fun i _ => m.getD i 0) ↔ l = m :=
 ⟨fun h => getD_ext 0 h.1 (fun i hi => h.2 i hi 0 (by omega)), fun h => by subst h; exact ⟨rfl, fun _ _ _ _ => rfl⟩⟩
theorem pts_eq (l m : List (Int × Int)) : RowsEq 2 l.length m.length (ptX l) (ptX m) ↔ l = m :=
 ⟨fun h => getD_ext (0, 0) h.1 (fun i hi => Prod.ext (h.2 i hi 0 (by omega)) (h.2 i hi 1 (by omega))), fun h => by subst h; exact ⟨rfl, fun _ _ _ _ => rfl⟩⟩
theorem secs_eq (l m : List Sec) : RowsEq 6 l.length m.length (secX l) (secX m) ↔ l = m :=
 ⟨fun h => getD_ext ⟨0, 0, 0, 0, 0, 0⟩ h.1 (fun i hi => by
  have e0 : (l.getD i ⟨0, 0, 0, 0, 0, 0⟩).fx = (m.getD i ⟨0, 0, 0, 0, 0, 0⟩).fx := h.2 i hi 0 (by omega)
  have e1 : (l.getD i ⟨0, 0, 0, 0, 0, 0⟩).fy = (m.getD i ⟨0, 0, 0, 0, 0, 0⟩).fy := h.2 i hi 1 (by omega)
  have e2 : (l.getD i ⟨0, 0, 0, 0, 0, 0⟩).tx = (m.getD i ⟨0, 0, 0, 0, 0, 0⟩).tx := h.2 i hi 2 (by omega)
  have e3 : (l.getD i ⟨0, 0, 0, 0, 0, 0⟩).ty = (m.getD i ⟨0, 0, 0, 0, 0, 0⟩).ty := h.2 i hi 3 (by omega)
  have e4 : (l.getD i ⟨0, 0, 0, 0, 0, 0⟩).col = (m.getD i ⟨0, 0, 0, 0, 0, 0⟩).col := h.2 i hi 4 (by omega)
  have e5 : (l.getD i ⟨0, 0, 0, 0, 0, 0⟩).rng = (m.getD i ⟨0, 0, 0, 0, 0, 0⟩).rng := h.2 i hi 5 (by omega)
  generalize l.getD i ⟨0, 0, 0, 0, 0, 0⟩ = a at *
  generalize m.getD i ⟨0, 0, 0, 0, 0, 0⟩ = b at *
  cases a
  cases b
  simp_all), fun h => by subst h; exact ⟨rfl, fun _ _ _ _ => rfl⟩⟩
set_option maxHeartbeats 4000000 in
theorem ftSame_raw (id1 kind1 x1 y1 rad1 dep1 sym1 id2 kind2 x2 y2 rad2 dep2 sym2 : Int) (n1 c1 m1 d1 n2 c2 m2 d2 : Nat) (a1 b1 a2 b2 : Option Addr) (A1 A2 S1 S2 : Nat → Nat → Int) (w : World)
  (hA1 : Rows 2 w (.slice a1 n1 c1) n1 A1) (hA2 : Rows 2 w (.slice a2 n2 c2) n2 A2) (hS1 : Rows 6 w (.slice b1 m1 d1) m1 S1) (hS2 : Rows 6 w (.slice b2 m2 d2) m2 S2) (hn1 : n1 ≤ 9223372036854775807) (hn2 : n2 ≤ 9223372036854775807) (hm1 : m1 ≤ 9223372036854775807) (hm2 : m2 ≤ 9223372036854775807)
  {v : Bool} (hv : decide ((id1 = id2 ∧ kind1 = kind2 ∧ x1 = x2 ∧ y1 = y2 ∧ rad1 = rad2 ∧ dep1 = dep2 ∧ sym1 = sym2) ∧ RowsEq 2 n1 n2 A1 A2 ∧ RowsEq 6 m1 m2 S1 S2) = v) :
  Calls Tryz.prog 110 #[.agg #[.int .i64 id1, .int .i64 kind1, .int .i64 x1, .int .i64 y1, .int .i64 rad1, .slice a1 n1 c1, .int .i64 dep1, .int .i64 sym1, .slice b1 m1 d1], .agg #[.int .i64 id2, .int .i64 kind2, .int .i64 x2, .int .i64 y2, .int .i64 rad2, .slice a2 n2 c2, .int .i64 dep2, .int .i64 sym2, .slice b2 m2 d2]] w fun e w' => e = .returned (.bool v) ∧ Below w.heap.size w w' := by
 have HV := Lib.hid hv
 have HA1 := Lib.hid hA1
 have HA2 := Lib.hid hA2
 have HS1 := Lib.hid hS1
 have HS2 := Lib.hid hS2
 clear hv hA1 hA2 hS1 hS2
 by_cases gid : id1 = id2
 rotate_left
 · have d : (id1 == id2) = false := by simpa using gid
   have HF := Lib.hid (show false = v by rw [← HV.out]; exact (decide_eq_false (fun h => gid h.1.1)).symm)
   clear gid HV
   go_enter Tryz.func110, Tryz.ntmps110
   go_wp2_with fail
   go_returns
   exact ⟨ret_bool HF.out, by go_grown⟩
 subst gid
 by_cases gkind : kind1 = kind2
 rotate_left
 · have d : (kind1 == kind2) = false := by simpa using gkind
   have HF := Lib.hid (show false = v by rw [← HV.out]; exact (decide_eq_false (fun h => gkind h.1.2.1)).symm)
   clear gkind HV
   go_enter Tryz.func110, Tryz.ntmps110
   go_wp2_with fail
   go_returns
   exact ⟨ret_bool HF.out, by go_grown⟩
 subst gkind
 by_cases gx : x1 = x2
 rotate_left
 · have d : (x1 == x2) = false := by simpa using gx
   have HF := Lib.hid (show false = v by rw [← HV.out]; exact (decide_eq_false (fun h => gx h.1.2.2.1)).symm)
   clear gx HV
   go_enter Tryz.func110, Tryz.ntmps110
   go_wp2_with fail
   go_returns
   exact ⟨ret_bool HF.out, by go_grown⟩
 subst gx
 by_cases gy : y1 = y2
 rotate_left
 · have d : (y1 == y2) = false := by simpa using gy
   have HF := Lib.hid (show false = v by rw [← HV.out]; exact (decide_eq_false (fun h => gy h.1.2.2.2.1)).symm)
   clear gy HV
   go_enter Tryz.func110, Tryz.ntmps110
   go_wp2_with fail
   go_returns
   exact ⟨ret_bool HF.out, by go_grown⟩
 subst gy
 by_cases grad : rad1 = rad2
 rotate_left
 · have d : (rad1 == rad2) = false := by simpa using grad
   have HF := Lib.hid (show false = v by rw [← HV.out]; exact (decide_eq_false (fun h => grad h.1.2.2.2.2.1)).symm)
   clear grad HV
   go_enter Tryz.func110, Tryz.ntmps110
   go_wp2_with fail
   go_returns
   exact ⟨ret_bool HF.out, by go_grown⟩
 subst grad
 by_cases gdep : dep1 = dep2
 rotate_left
 · have d : (dep1 == dep2) = false := by simpa using gdep
   have HF := Lib.hid (show false = v by rw [← HV.out]; exact (decide_eq_false (fun h => gdep h.1.2.2.2.2.2.1)).symm)
   clear gdep HV
   go_enter Tryz.func110, Tryz.ntmps110
   go_wp2_with fail
   go_returns
   exact ⟨ret_bool HF.out, by go_grown⟩
 subst gdep
 by_cases gsym : sym1 = sym2
 rotate_left
 · have d : (sym1 == sym2) = false := by simpa using gsym
   have HF := Lib.hid (show false = v by rw [← HV.out]; exact (decide_eq_false (fun h => gsym h.1.2.2.2.2.2.2)).symm)
   clear gsym HV
   go_enter Tryz.func110, Tryz.ntmps110
   go_wp2_with fail
   go_returns
   exact ⟨ret_bool HF.out, by go_grown⟩
 subst gsym
 obtain ⟨u1, hu1⟩ : ∃ k, decide (RowsEq 2 n1 n2 A1 A2) = k := ⟨_, rfl⟩
 obtain ⟨u2, hu2⟩ : ∃ k, decide (RowsEq 6 m1 m2 S1 S2) = k := ⟨_, rfl⟩
 have U1 := Lib.hid hu1
 have U2 := Lib.hid hu2
 clear hu1 hu2
 go_enter Tryz.func110, Tryz.ntmps110
 go_wp2_with fail
 refine calls_named fun W hW => ?_
 obtain ⟨p1, p2, hB⟩ := box2 hW
 clear hW
 (with_reducible refine (eqPts_any _ _ _ _ _ _ _ _ _ (HA1.out.later hB) (HA2.out.later hB) hn1 hn2 U1.out).mono ?_)
 rintro e w1 ⟨rfl, hb1⟩
 have hB1 := below_step hB hb1
 have r1 := cell_block (block_later hb1 p1) 8
 have r2 := cell_block (block_later hb1 p2) 8
 cases u1
 · go_wp2_with fail
   go_returns
   exact ⟨ret_bool (by rw [← HV.out]; exact (decide_eq_false (fun h => of_decide_eq_false U1.out h.2.1)).symm), hB1⟩
 go_wp2_with fail
 (with_reducible refine (eqSecs_any _ _ _ _ _ _ _ _ _ (HS1.out.later hB1) (HS2.out.later hB1) hm1 hm2 U2.out).mono ?_)
 rintro e w2 ⟨rfl, hb2⟩
 go_wp2_with fail
 go_returns
 exact ⟨ret_bool (by rw [← HV.out, ← U2.out, decide_eq_decide]; exact ⟨fun h => ⟨by simp, of_decide_eq_true U1.out, h⟩, fun h => h.2.2⟩), below_step hB1 hb2⟩
theorem ftSame_any (f g : Feat) (va vs ua us : Value) (w : World) (ha : PtsAt w va f.area) (hs : SecsAt w vs f.secs) (ka : PtsAt w ua g.area) (ks : SecsAt w us g.secs) {v : Bool} (hv : decide (f = g) = v) :
  Calls Tryz.prog 110 #[featV f va vs, featV g ua us] w fun e w' => e = .returned (.bool v) ∧ Below w.heap.size w w' := by
 obtain ⟨ad, ca, rfl, h1, h2, h3⟩ := Lists.form ha
 obtain ⟨ae, cs, rfl, g1, g2, g3⟩ := Lists.form hs
 obtain ⟨ad', ca', rfl, h1', h2', h3'⟩ := Lists.form ka
 obtain ⟨ae', cs', rfl, g1', g2', g3'⟩ := Lists.form ks
 refine ftSame_raw _ _ _ _ _ _ _ _ _ _ _ _ _ _ _ _ _ _ _ _ _ _ _ _ _ _ _ _ _ _ w h1.rows h1'.rows g1.rows g1'.rows h2 h2' g2 g2' ?_
 rw [← hv, decide_eq_decide, pts_eq, secs_eq]
 cases f
 cases g
 simp
 constructor
 · rintro ⟨⟨rfl, rfl, rfl, rfl, rfl, rfl, rfl⟩, rfl, rfl⟩
   simp
 · rintro ⟨rfl, rfl, rfl, rfl, rfl, rfl, rfl, rfl, rfl⟩
   simp
def feats_step (l : List Feat) (k : Nat) : Prop := ∀ i, i < k → FeatOk (l.getD i noFeat) ∧ lastId l i < (l.getD i noFeat).id
theorem feats_snoc {l : List Feat} {k : Nat} (h : feats_step l k) (h1 : FeatOk (l.getD k noFeat)) (h2 : lastId l k < (l.getD k noFeat).id) : feats_step l (k + 1) := fun i hi => by
 rcases Nat.lt_or_ge i k with g | g
 · exact h i g
 · obtain rfl : i = k := by omega
   exact ⟨h1, h2⟩
set_option maxHeartbeats 1000000 in
theorem ftList_any (l : List Feat) (v0 : Value) (w : World) (h : FeatsAt w v0 l) {v : Bool} (hv : decide (FeatsOk l) = v) :
  Calls Tryz.prog 96 #[v0] w fun e w' => e = .returned (.bool v) ∧ Below w.heap.size w w' := by
 obtain ⟨ad, c, rfl, h1, hn, hc⟩ := h.form
 have HV := Lib.hid hv
 have H := Lib.hid h1
 clear hv h h1
 obtain ⟨n, hln⟩ : ∃ n, l.length = n := ⟨_, rfl⟩
 rw [hln] at H hn hc
 rw [hln]
 have HL := Lib.hid hln
 clear hln
 go_enter Tryz.func96, Tryz.ntmps96
 go_wp2
 go_loopw [3, 8] (fun t i wr => ∃ k : Nat, k ≤ n ∧ i = .int .i64 k ∧ t = .int .i64 (lastId l k) ∧ Below w.heap.size w wr ∧ feats_step l k) (fun _ i _ => n - (intOf i).toNat)
 case atStart => exact ⟨0, by omega, rfl, rfl, Below.refl _ _, fun m hm => by omega⟩
 case round =>
  obtain ⟨k, hk, rfl, rfl, hb, hall⟩ := hrel
  have ALL := Lib.hid hall
  clear hall
  rcases Nat.lt_or_ge k n with hlt | hge
  rotate_left
  · obtain rfl : k = n := by omega
    go_wp2
    go_returns
    exact ⟨ret_bool (by
     rw [← HV.out, decide_eq_decide]
     have e := HL.out
     exact ⟨fun h => ⟨by omega, by rw [e]; exact ALL.out⟩, fun h => by have := h.1; omega⟩), hb⟩
  obtain ⟨g, o, va, vs, rfl, fc⟩ := (H.out.later hb).row hlt
  obtain ⟨f, hf⟩ : ∃ f, l.getD k noFeat = f := ⟨_, rfl⟩
  rw [hf] at fc
  have HF := Lib.hid hf
  clear hf
  obtain ⟨c0, c1, c2, c3, c4, c5, c6, c7, c8, PA, SA⟩ := fc
  obtain ⟨aa, ca, rfl, _, _, _⟩ := Lists.form PA
  obtain ⟨ab, cb, rfl, _, _, _⟩ := Lists.form SA
  obtain ⟨u, hu⟩ : ∃ u, decide (FeatOk f) = u := ⟨_, rfl⟩
  have HU := Lib.hid hu
  have PA' := Lib.hid PA
  have SA' := Lib.hid SA
  obtain ⟨id, hid⟩ : ∃ i, f.id = i := ⟨_, rfl⟩
  obtain ⟨li, hli⟩ : ∃ i, lastId l k = i := ⟨_, rfl⟩
  have HI := Lib.hid hid
  have HLI := Lib.hid hli
  rw [hli]
  clear hu PA SA hid hli
  go_wp2_with fail
  refine calls_named fun W hW => ?_
  obtain ⟨p1, hBW⟩ := box1 hW
  clear hW c0 c1 c2 c3 c4 c5 c6 c7 c8
  (with_reducible refine (ftValid_any f _ _ _ (ptsL PA'.out hBW) (secsL SA'.out hBW) HU.out).mono ?_)
  rintro e w1 ⟨rfl, hb1⟩
  have hB1 := below_step (below_step hb hBW) hb1
  have p2 := block_later hb1 p1
  have r0 := cell_block p2 0
  rw [HI.out] at r0
  clear p1 p2 hBW hb1
  cases u
  · go_wp2_with fail
    go_returns
    exact ⟨ret_bool (by rw [← HV.out]; exact (decide_eq_false (fun h => by
     have := (h.2 k (by have := HL.out; omega)).1
     rw [HF.out] at this
     exact of_decide_eq_false HU.out this)).symm), hB1⟩
  by_cases hle : id ≤ li
  · go_wp2_with fail
    go_returns
    exact ⟨ret_bool (by rw [← HV.out]; exact (decide_eq_false (fun h => by
     have := (h.2 k (by have := HL.out; omega)).2
     rw [HF.out, HI.out, HLI.out] at this
     omega)).symm), hB1⟩
  · have d : decide (id ≤ li) = false := by simpa using hle
    have d2 : li < id := by omega
    have ALL2 := Lib.hid (feats_snoc ALL.out (by rw [HF.out]; exact of_decide_eq_true HU.out) (by rw [HF.out, HI.out, HLI.out]; exact d2))
    have LN := Lib.hid (show lastId l (k + 1) = id by rw [← HI.out, ← HF.out]; rfl)
    clear hle
    go_wp2_with fail
    go_roundw
    case rel => exact ⟨k + 1, by omega, by go_num, by rw [LN.out], hB1, ALL2.out⟩
    case measure => simp [intOf]; omega
end Go.Proofs.YtdmegkkifiahdaaGreat
namespace Go.Proofs.YtdmegkkifiahdaaGreat
open Go.RowKit Go.Shelf
attribute [local go_sem] bqOp bqAll bqUpon sqOp sqAll sqUpon
attribute [local irreducible] wpQuiet wpBQ wpPlan
set_option linter.unusedVariables false
end Go.Proofs.YtdmegkkifiahdaaGreat
namespace Go.Proofs.YtdmegkkifiahdaaGreat
open Go.RowKit Go.Shelf
attribute [local go_sem] bqOp bqAll bqUpon sqOp sqAll sqUpon
attribute [local irreducible] wpQuiet wpBQ wpPlan
set_option linter.unusedVariables false
end Go.Proofs.YtdmegkkifiahdaaGreat
