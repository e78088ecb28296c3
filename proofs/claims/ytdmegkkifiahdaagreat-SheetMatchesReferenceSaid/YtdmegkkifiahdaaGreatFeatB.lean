/- The walks of package feature: validity of a feature, the rest. -/
import Derived.Test.YtdmegkkifiahdaaGreatFeatA
namespace Go.Proofs.YtdmegkkifiahdaaGreat
open Go.RowKit
attribute [local go_sem] bqOp bqAll bqUpon sqOp sqAll sqUpon
attribute [local irreducible] wpQuiet wpBQ wpPlan
set_option linter.unusedVariables false
set_option maxHeartbeats 2000000 in
theorem ftValid_k3 (id x y rad dep sym : Int) (na ca ns cs : Nat) (ad ae : Option Addr) (A S : Nat → Nat → Int) (w : World) (hA : Rows 2 w (.slice ad na ca) na A) (hna : na ≤ 9223372036854775807) (hns : ns ≤ 9223372036854775807) (h1 : 1 ≤ id) (h2 : id ≤ 100000) (h3 : 0 ≤ sym) (h4 : sym ≤ 999) (h5 : 0 ≤ dep) (h6 : dep ≤ 100000) (h7 : 0 ≤ rad) (h8 : rad ≤ 100000) {v : Bool} (hv : decide (FormR 3 x y rad dep na A ns S) = v) :
    Calls Tryz.prog 52 #[.agg #[.int .i64 id, .int .i64 3, .int .i64 x, .int .i64 y, .int .i64 rad, .slice ad na ca, .int .i64 dep, .int .i64 sym, .slice ae ns cs]] w fun e w' => e = .returned (.bool v) ∧ Below w.heap.size w w' := by
  have e0 : FormR 3 x y rad dep na A ns S = (PolyOk na A ∧ x = 0 ∧ y = 0 ∧ rad = 0 ∧ ns = 0) := by unfold FormR; rw [if_neg (by decide), if_pos (by omega)]
  have HV : Hid (decide (PolyOk na A ∧ x = 0 ∧ y = 0 ∧ rad = 0 ∧ ns = 0) = v) := Lib.hid (by rw [← hv, decide_eq_decide, e0])
  obtain ⟨u1, hu1⟩ : ∃ k, decide (PolyOk na A) = k := ⟨_, rfl⟩
  have U1 := Lib.hid hu1
  have HA := Lib.hid hA
  clear hv e0 hu1 hA
  go_enter Tryz.func52, Tryz.ntmps52
  go_wp2_with fail
  refine calls_named fun W hW => ?_
  obtain ⟨p1, hB⟩ := box1 hW
  clear hW
  (with_reducible refine (plValid_any _ _ _ _ _ (HA.out.later hB) hna U1.out).mono ?_)
  rintro e w1 ⟨rfl, hb1⟩
  have hB1 := below_step hB hb1
  have r1 := block_later hb1 p1
  cases u1
  · go_wp2_with fail
    go_returns
    exact ⟨ret_bool (by rw [← HV.out]; exact (decide_eq_false (fun h => of_decide_eq_false U1.out h.1)).symm), hB1⟩
  have c2 := cell_block r1 2
  have c3 := cell_block r1 3
  have c4 := cell_block r1 4
  have c8 := cell_block r1 8
  have HW := Lib.hid (show decide (x = 0 ∧ y = 0 ∧ rad = 0 ∧ ns = 0) = v by
    rw [← HV.out, decide_eq_decide]
    exact ⟨fun h => ⟨of_decide_eq_true U1.out, h⟩, fun h => h.2⟩)
  clear HV U1 p1 r1 hB hb1 HA
  by_cases g1 : x = 0
  rotate_left
  · have d1 : (x == 0) = false := by simpa using g1
    go_wp2
    go_returns
    exact ⟨ret_bool (by rw [← HW.out]; exact (decide_eq_false (fun h => g1 h.1)).symm), hB1⟩
  by_cases g2 : y = 0
  rotate_left
  · subst g1
    have d1 : (y == 0) = false := by simpa using g2
    go_wp2
    go_returns
    exact ⟨ret_bool (by rw [← HW.out]; exact (decide_eq_false (fun h => g2 h.2.1)).symm), hB1⟩
  by_cases g3 : rad = 0
  rotate_left
  · subst g1 g2
    have d1 : (rad == 0) = false := by simpa using g3
    go_wp2
    go_returns
    exact ⟨ret_bool (by rw [← HW.out]; exact (decide_eq_false (fun h => g3 h.2.2.1)).symm), hB1⟩
  by_cases g4 : ns = 0
  rotate_left
  · subst g1 g2 g3
    have d2 : ((ns : Int) == 0) = false := by simp; omega
    have d3 : (ns == 0) = false := by simp; omega
    go_wp2
    go_returns
    exact ⟨ret_bool (by rw [← HW.out]; exact (decide_eq_false (fun h => g4 h.2.2.2)).symm), hB1⟩
  subst g1 g2 g3 g4
  go_wp2
  go_returns
  exact ⟨ret_bool (by rw [← HW.out]; rfl), hB1⟩
set_option maxHeartbeats 2000000 in
theorem ftValid_k6 (id x y rad dep sym : Int) (na ca ns cs : Nat) (ad ae : Option Addr) (A S : Nat → Nat → Int) (w : World) (hA : Rows 2 w (.slice ad na ca) na A) (hna : na ≤ 9223372036854775807) (hns : ns ≤ 9223372036854775807) (h1 : 1 ≤ id) (h2 : id ≤ 100000) (h3 : 0 ≤ sym) (h4 : sym ≤ 999) (h5 : 0 ≤ dep) (h6 : dep ≤ 100000) (h7 : 0 ≤ rad) (h8 : rad ≤ 100000) {v : Bool} (hv : decide (FormR 6 x y rad dep na A ns S) = v) :
    Calls Tryz.prog 52 #[.agg #[.int .i64 id, .int .i64 6, .int .i64 x, .int .i64 y, .int .i64 rad, .slice ad na ca, .int .i64 dep, .int .i64 sym, .slice ae ns cs]] w fun e w' => e = .returned (.bool v) ∧ Below w.heap.size w w' := by
  by_cases hdp : 0 < dep
  · have HV : Hid (false = v) := Lib.hid (by rw [← hv]; exact (decide_eq_false (fun h => by unfold FormR at h; rw [if_neg (by decide), if_neg (by omega)] at h; have := h.1; omega)).symm)
    clear hv
    go_enter Tryz.func52, Tryz.ntmps52
    go_wp2_with fail
    go_returns
    exact ⟨ret_bool HV.out, by go_grown⟩
  have hdn : decide (0 < dep) = false := by simpa using hdp
  have hdz : dep ≤ 0 := by omega
  clear hdp
  have e0 : FormR 6 x y rad dep na A ns S = (PolyOk na A ∧ x = 0 ∧ y = 0 ∧ rad = 0 ∧ ns = 0) := by unfold FormR; rw [if_neg (by decide), if_pos (by omega)]
  have HV : Hid (decide (PolyOk na A ∧ x = 0 ∧ y = 0 ∧ rad = 0 ∧ ns = 0) = v) := Lib.hid (by rw [← hv, decide_eq_decide, e0])
  obtain ⟨u1, hu1⟩ : ∃ k, decide (PolyOk na A) = k := ⟨_, rfl⟩
  have U1 := Lib.hid hu1
  have HA := Lib.hid hA
  clear hv e0 hu1 hA
  go_enter Tryz.func52, Tryz.ntmps52
  go_wp2_with fail
  refine calls_named fun W hW => ?_
  obtain ⟨p1, hB⟩ := box1 hW
  clear hW
  (with_reducible refine (plValid_any _ _ _ _ _ (HA.out.later hB) hna U1.out).mono ?_)
  rintro e w1 ⟨rfl, hb1⟩
  have hB1 := below_step hB hb1
  have r1 := block_later hb1 p1
  cases u1
  · go_wp2_with fail
    go_returns
    exact ⟨ret_bool (by rw [← HV.out]; exact (decide_eq_false (fun h => of_decide_eq_false U1.out h.1)).symm), hB1⟩
  have c2 := cell_block r1 2
  have c3 := cell_block r1 3
  have c4 := cell_block r1 4
  have c8 := cell_block r1 8
  have HW := Lib.hid (show decide (x = 0 ∧ y = 0 ∧ rad = 0 ∧ ns = 0) = v by
    rw [← HV.out, decide_eq_decide]
    exact ⟨fun h => ⟨of_decide_eq_true U1.out, h⟩, fun h => h.2⟩)
  clear HV U1 p1 r1 hB hb1 HA
  by_cases g1 : x = 0
  rotate_left
  · have d1 : (x == 0) = false := by simpa using g1
    go_wp2
    go_returns
    exact ⟨ret_bool (by rw [← HW.out]; exact (decide_eq_false (fun h => g1 h.1)).symm), hB1⟩
  by_cases g2 : y = 0
  rotate_left
  · subst g1
    have d1 : (y == 0) = false := by simpa using g2
    go_wp2
    go_returns
    exact ⟨ret_bool (by rw [← HW.out]; exact (decide_eq_false (fun h => g2 h.2.1)).symm), hB1⟩
  by_cases g3 : rad = 0
  rotate_left
  · subst g1 g2
    have d1 : (rad == 0) = false := by simpa using g3
    go_wp2
    go_returns
    exact ⟨ret_bool (by rw [← HW.out]; exact (decide_eq_false (fun h => g3 h.2.2.1)).symm), hB1⟩
  by_cases g4 : ns = 0
  rotate_left
  · subst g1 g2 g3
    have d2 : ((ns : Int) == 0) = false := by simp; omega
    have d3 : (ns == 0) = false := by simp; omega
    go_wp2
    go_returns
    exact ⟨ret_bool (by rw [← HW.out]; exact (decide_eq_false (fun h => g4 h.2.2.2)).symm), hB1⟩
  subst g1 g2 g3 g4
  go_wp2
  go_returns
  exact ⟨ret_bool (by rw [← HW.out]; rfl), hB1⟩
theorem ftValid_k4 (id x y rad dep sym : Int) (na ca ns cs : Nat) (ad ae : Option Addr) (A S : Nat → Nat → Int) (w : World) (hS : Rows 6 w (.slice ae ns cs) ns S) (hna : na ≤ 9223372036854775807) (hns : ns ≤ 9223372036854775807) (hnc : ns ≤ cs) (h1 : 1 ≤ id) (h2 : id ≤ 100000) (h3 : 0 ≤ sym) (h4 : sym ≤ 999) (h5 : 0 ≤ dep) (h6 : dep ≤ 100000) (h7 : 0 ≤ rad) (h8 : rad ≤ 100000) {v : Bool} (hv : decide (FormR 4 x y rad dep na A ns S) = v) :
    Calls Tryz.prog 52 #[.agg #[.int .i64 id, .int .i64 4, .int .i64 x, .int .i64 y, .int .i64 rad, .slice ad na ca, .int .i64 dep, .int .i64 sym, .slice ae ns cs]] w fun e w' => e = .returned (.bool v) ∧ Below w.heap.size w w' := by
  have e0 : FormR 4 x y rad dep na A ns S = ((4 : Int) = 4 ∧ Vld x y ∧ SecsOk ns S ∧ rad = 0 ∧ dep = 0 ∧ na = 0) := by unfold FormR; rw [if_neg (by decide), if_neg (by omega)]
  have HV : Hid (decide (Vld x y ∧ SecsOk ns S ∧ rad = 0 ∧ dep = 0 ∧ na = 0) = v) := Lib.hid (by rw [← hv, decide_eq_decide, e0]; exact ⟨fun h => ⟨rfl, h⟩, fun h => h.2⟩)
  obtain ⟨u1, hu1⟩ : ∃ k, decide (Vld x y) = k := ⟨_, rfl⟩
  obtain ⟨u2, hu2⟩ : ∃ k, decide (SecsOk ns S) = k := ⟨_, rfl⟩
  have U1 := Lib.hid hu1
  have U2 := Lib.hid hu2
  have HS := Lib.hid hS
  clear hv e0 hu1 hu2 hS
  go_enter Tryz.func52, Tryz.ntmps52
  go_wp2_with fail
  refine calls_named fun W hW => ?_
  obtain ⟨p1, hB⟩ := box1 hW
  clear hW
  (with_reducible refine (hpValid_any _ _ _ U1.out).mono ?_)
  rintro e w1 ⟨rfl, hb1⟩
  have hB1 := below_step hB hb1
  have r1 := block_later hb1 p1
  have c8 := cell_block r1 8
  cases u1
  · go_wp2_with fail
    go_returns
    exact ⟨ret_bool (by rw [← HV.out]; exact (decide_eq_false (fun h => of_decide_eq_false U1.out h.1)).symm), hB1⟩
  go_wp2_with fail
  (with_reducible refine (scValid_any _ _ _ _ _ (HS.out.later hB1) hns hnc U2.out).mono ?_)
  rintro e w2 ⟨rfl, hb2⟩
  have hB2 := below_step hB1 hb2
  have r2 := block_later hb2 r1
  clear c8
  have c4 := cell_block r2 4
  have c5 := cell_block r2 5
  have c6 := cell_block r2 6
  cases u2
  · go_wp2_with fail
    go_returns
    exact ⟨ret_bool (by rw [← HV.out]; exact (decide_eq_false (fun h => of_decide_eq_false U2.out h.2.1)).symm), hB2⟩
  have HW := Lib.hid (show decide (rad = 0 ∧ dep = 0 ∧ na = 0) = v by
    rw [← HV.out, decide_eq_decide]
    exact ⟨fun h => ⟨of_decide_eq_true U1.out, of_decide_eq_true U2.out, h⟩, fun h => h.2.2⟩)
  clear HV U1 U2 p1 r1 r2 hB hb1 hb2
  by_cases g1 : rad = 0
  rotate_left
  · have d1 : (rad == 0) = false := by simpa using g1
    go_wp2
    go_returns
    exact ⟨ret_bool (by rw [← HW.out]; exact (decide_eq_false (fun h => g1 h.1)).symm), hB2⟩
  by_cases g2 : dep = 0
  rotate_left
  · subst g1
    have d1 : (dep == 0) = false := by simpa using g2
    go_wp2
    go_returns
    exact ⟨ret_bool (by rw [← HW.out]; exact (decide_eq_false (fun h => g2 h.2.1)).symm), hB2⟩
  by_cases g4 : na = 0
  rotate_left
  · subst g1 g2
    have d2 : ((na : Int) == 0) = false := by simp; omega
    have d3 : (na == 0) = false := by simp; omega
    go_wp2
    go_returns
    exact ⟨ret_bool (by rw [← HW.out]; exact (decide_eq_false (fun h => g4 h.2.2)).symm), hB2⟩
  subst g1 g2 g4
  go_wp2
  go_returns
  exact ⟨ret_bool (by rw [← HW.out]; rfl), hB2⟩
theorem ftValid_k0 (id kind x y rad dep sym : Int) (na ca ns cs : Nat) (ad ae : Option Addr) (w : World) (h1 : 1 ≤ id) (h2 : id ≤ 100000) (h3 : 0 ≤ sym) (h4 : sym ≤ 999) (h5 : 0 ≤ dep) (h6 : dep ≤ 100000) (h7 : 0 ≤ rad) (h8 : rad ≤ 100000) (k1 : kind ≠ 1) (k2 : kind ≠ 2) (k3 : kind ≠ 3) (k4 : kind ≠ 4) (k5 : kind ≠ 5) (k6 : kind ≠ 6) :
    Calls Tryz.prog 52 #[.agg #[.int .i64 id, .int .i64 kind, .int .i64 x, .int .i64 y, .int .i64 rad, .slice ad na ca, .int .i64 dep, .int .i64 sym, .slice ae ns cs]] w fun e w' => e = .returned (.bool false) ∧ Below w.heap.size w w' := by
  have d1 : (kind == 1) = false := by simpa using k1
  have d2 : (kind == 2) = false := by simpa using k2
  have d3 : (kind == 3) = false := by simpa using k3
  have d4 : (kind == 4) = false := by simpa using k4
  have d5 : (kind == 5) = false := by simpa using k5
  have d6 : (kind == 6) = false := by simpa using k6
  go_enter Tryz.func52, Tryz.ntmps52
  go_wp2
  go_returns
  exact ⟨rfl, by go_grown⟩
set_option maxHeartbeats 4000000 in
theorem ftValid_bad (id kind x y rad dep sym : Int) (na ca ns cs : Nat) (ad ae : Option Addr) (w : World) (h : ¬ NumsR id rad dep sym) :
    Calls Tryz.prog 52 #[.agg #[.int .i64 id, .int .i64 kind, .int .i64 x, .int .i64 y, .int .i64 rad, .slice ad na ca, .int .i64 dep, .int .i64 sym, .slice ae ns cs]] w fun e w' => e = .returned (.bool false) ∧ Below w.heap.size w w' := by
  unfold NumsR at h
  by_cases bid : id < 1
  · clear h
    go_enter Tryz.func52, Tryz.ntmps52
    go_wp2_with fail
    go_returns
    exact ⟨rfl, by go_grown⟩
  have nid : 1 ≤ id := by omega
  clear bid
  by_cases bid2 : 100000 < id
  · clear h
    go_enter Tryz.func52, Tryz.ntmps52
    go_wp2_with fail
    go_returns
    exact ⟨rfl, by go_grown⟩
  have nid2 : id ≤ 100000 := by omega
  clear bid2
  by_cases bs : sym < 0
  · clear h
    go_enter Tryz.func52, Tryz.ntmps52
    go_wp2_with fail
    go_returns
    exact ⟨rfl, by go_grown⟩
  have ns : 0 ≤ sym := by omega
  clear bs
  by_cases bs2 : 999 < sym
  · clear h
    go_enter Tryz.func52, Tryz.ntmps52
    go_wp2_with fail
    go_returns
    exact ⟨rfl, by go_grown⟩
  have ns2 : sym ≤ 999 := by omega
  clear bs2
  by_cases bd : dep < 0
  · clear h
    go_enter Tryz.func52, Tryz.ntmps52
    go_wp2_with fail
    go_returns
    exact ⟨rfl, by go_grown⟩
  have nd : 0 ≤ dep := by omega
  clear bd
  by_cases bd2 : 100000 < dep
  · clear h
    go_enter Tryz.func52, Tryz.ntmps52
    go_wp2_with fail
    go_returns
    exact ⟨rfl, by go_grown⟩
  have nd2 : dep ≤ 100000 := by omega
  clear bd2
  by_cases br : rad < 0
  · clear h
    go_enter Tryz.func52, Tryz.ntmps52
    go_wp2_with fail
    go_returns
    exact ⟨rfl, by go_grown⟩
  have nr : 0 ≤ rad := by omega
  clear br
  by_cases br2 : 100000 < rad
  · clear h
    go_enter Tryz.func52, Tryz.ntmps52
    go_wp2_with fail
    go_returns
    exact ⟨rfl, by go_grown⟩
  have nr2 : rad ≤ 100000 := by omega
  clear br2
  omega
theorem ftValid_raw (id kind x y rad dep sym : Int) (na ca ns cs : Nat) (ad ae : Option Addr) (A S : Nat → Nat → Int) (w : World) (hA : Rows 2 w (.slice ad na ca) na A) (hS : Rows 6 w (.slice ae ns cs) ns S) (hna : na ≤ 9223372036854775807) (hns : ns ≤ 9223372036854775807) (hnc : ns ≤ cs) {v : Bool} (hv : decide (NumsR id rad dep sym ∧ FormR kind x y rad dep na A ns S) = v) :
    Calls Tryz.prog 52 #[.agg #[.int .i64 id, .int .i64 kind, .int .i64 x, .int .i64 y, .int .i64 rad, .slice ad na ca, .int .i64 dep, .int .i64 sym, .slice ae ns cs]] w fun e w' => e = .returned (.bool v) ∧ Below w.heap.size w w' := by
  by_cases hn : NumsR id rad dep sym
  rotate_left
  · rw [decide_eq_false (fun h => hn h.1)] at hv
    subst hv
    exact ftValid_bad _ _ _ _ _ _ _ _ _ _ _ _ _ _ hn
  have hv' : decide (FormR kind x y rad dep na A ns S) = v := by
    rw [← hv, decide_eq_decide]
    exact ⟨fun h => ⟨hn, h⟩, fun h => h.2⟩
  obtain ⟨⟨h1, h2⟩, ⟨h3, h4⟩, ⟨h5, h6⟩, h7, h8⟩ := hn
  by_cases k1 : kind = 1
  · subst k1; exact ftValid_k1 _ _ _ _ _ _ _ _ _ _ _ _ A S w hna hns h1 h2 h3 h4 h5 h6 h7 h8 hv'
  by_cases k2 : kind = 2
  · subst k2; exact ftValid_k2 _ _ _ _ _ _ _ _ _ _ _ _ A S w hna hns h1 h2 h3 h4 h5 h6 h7 h8 hv'
  by_cases k5 : kind = 5
  · subst k5; exact ftValid_k5 _ _ _ _ _ _ _ _ _ _ _ _ A S w hna hns h1 h2 h3 h4 h5 h6 h7 h8 hv'
  by_cases k3 : kind = 3
  · subst k3; exact ftValid_k3 _ _ _ _ _ _ _ _ _ _ _ _ A S w hA hna hns h1 h2 h3 h4 h5 h6 h7 h8 hv'
  by_cases k6 : kind = 6
  · subst k6; exact ftValid_k6 _ _ _ _ _ _ _ _ _ _ _ _ A S w hA hna hns h1 h2 h3 h4 h5 h6 h7 h8 hv'
  by_cases k4 : kind = 4
  · subst k4; exact ftValid_k4 _ _ _ _ _ _ _ _ _ _ _ _ A S w hS hna hns hnc h1 h2 h3 h4 h5 h6 h7 h8 hv'
  rw [decide_eq_false (fun h => by
    unfold FormR at h
    rw [if_neg (by unfold DiscK; omega), if_neg (by omega)] at h
    exact k4 h.1)] at hv'
  subst hv'
  exact ftValid_k0 _ _ _ _ _ _ _ _ _ _ _ _ _ w h1 h2 h3 h4 h5 h6 h7 h8 k1 k2 k3 k4 k5 k6
/-- A feature's validity, by its plain form. -/
theorem ftValid_any (f : Feat) (va vs : Value) (w : World) (ha : PtsAt w va f.area) (hs : SecsAt w vs f.secs) {v : Bool} (hv : decide (FeatOk f) = v) :
    Calls Tryz.prog 52 #[featV f va vs] w fun e w' => e = .returned (.bool v) ∧ Below w.heap.size w w' := by
  obtain ⟨ad, ca, rfl, h1, h2, h3⟩ := Lists.form ha
  obtain ⟨ae, cs, rfl, g1, g2, g3⟩ := Lists.form hs
  exact ftValid_raw _ _ _ _ _ _ _ _ _ _ _ _ _ _ _ w h1.rows g1.rows h2 g2 g3 hv
end Go.Proofs.YtdmegkkifiahdaaGreat
