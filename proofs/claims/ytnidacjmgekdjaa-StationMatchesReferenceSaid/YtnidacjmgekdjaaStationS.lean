/- The walks of the reference's functions of chapter 31 (2): they return the program's answers. -/
import Derived.Test.YtnidacjmgekdjaaStationR
import Derived.Test.YtnidacjmgekdjaaRegion
import Derived.WalkLawsBesides
namespace Go.Proofs.Ytnidacjmgekdjaa
open Go.RowKit
attribute [local go_sem] bqOp bqAll bqUpon
attribute [local irreducible] wpQuiet wpBQ
set_option linter.unusedVariables false
theorem r31Time_any (t : Int) (w : World) {v : Bool} (hv : decide (Tm t) = v) : Calls Try.prog 37 #[.int .i64 t] w fun e w' => e = .returned (.bool v) ∧ Below w.heap.size w w' := by
  have HV := Lib.hid hv
  clear hv
  by_cases h1 : 0 ≤ t
  · skip
    by_cases h2 : t ≤ 10000000
    · skip
      go_enter Try.func37, Try.ntmps37
      go_wp2
      go_returns
      exact ⟨ret_bool (by rw [← HV.out]; exact (decide_eq_true ⟨h1, h2⟩).symm), by go_grown⟩
    · have d2 : decide (t ≤ 10000000) = false := by simp; omega
      have n2 : 10000000 < t := by omega
      clear h2
      go_enter Try.func37, Try.ntmps37
      go_wp2
      go_returns
      exact ⟨ret_bool (by rw [← HV.out]; exact (decide_eq_false (fun h => by have := h.2; omega)).symm), by go_grown⟩
  · have d1 : decide (0 ≤ t) = false := by simp; omega
    have n1 : t < 0 := by omega
    clear h1
    go_enter Try.func37, Try.ntmps37
    go_wp2
    go_returns
    exact ⟨ret_bool (by rw [← HV.out]; exact (decide_eq_false (fun h => by have := h.1; omega)).symm), by go_grown⟩
theorem r31Sun_any (dn dk : Int) (w : World) {v : Bool} (hv : decide (Sn dn dk) = v) : Calls Try.prog 40 #[.agg #[.int .i64 dn, .int .i64 dk]] w fun e w' => e = .returned (.bool v) ∧ Below w.heap.size w w' := by
  have HV := Lib.hid hv
  clear hv
  by_cases h1 : 0 ≤ dn
  · skip
    by_cases h2 : dn < dk
    · skip
      by_cases h3 : dk ≤ 1440
      · skip
        go_enter Try.func40, Try.ntmps40
        go_wp2
        go_returns
        exact ⟨ret_bool (by rw [← HV.out]; exact (decide_eq_true ⟨h1, h2, h3⟩).symm), by go_grown⟩
      · have d3 : decide (dk ≤ 1440) = false := by simp; omega
        have n3 : 1440 < dk := by omega
        clear h3
        go_enter Try.func40, Try.ntmps40
        go_wp2
        go_returns
        exact ⟨ret_bool (by rw [← HV.out]; exact (decide_eq_false (fun h => by have := h.c; omega)).symm), by go_grown⟩
    · have d2 : decide (dn < dk) = false := by simp; omega
      have n2 : dk ≤ dn := by omega
      clear h2
      go_enter Try.func40, Try.ntmps40
      go_wp2
      go_returns
      exact ⟨ret_bool (by rw [← HV.out]; exact (decide_eq_false (fun h => by have := h.b; omega)).symm), by go_grown⟩
  · have d1 : decide (0 ≤ dn) = false := by simp; omega
    have n1 : dn < 0 := by omega
    clear h1
    go_enter Try.func40, Try.ntmps40
    go_wp2
    go_returns
    exact ⟨ret_bool (by rw [← HV.out]; exact (decide_eq_false (fun h => by have := h.a; omega)).symm), by go_grown⟩
theorem r31Day_any (dn dk t : Int) (w : World) (ht : Tm t) {v : Bool} (hv : dayB dn dk t = v) : Calls Try.prog 41 #[.agg #[.int .i64 dn, .int .i64 dk], .int .i64 t] w fun e w' => e = .returned (.bool v) ∧ Below w.heap.size w w' := by
  have t1 : 0 ≤ t := ht.1
  have t2 : t ≤ 10000000 := ht.2
  have HV := Lib.hid hv
  clear hv
  by_cases h1 : dn ≤ t % 1440
  · skip
    by_cases h2 : t % 1440 < dk
    · skip
      go_enter Try.func41, Try.ntmps41
      go_wp2
      go_returns
      exact ⟨ret_bool (by rw [← HV.out]; unfold dayB; exact (decide_eq_true ⟨h1, by omega⟩).symm), by go_grown⟩
    · have d2 : decide (t % 1440 < dk) = false := by simp; omega
      have n2 : dk ≤ t % 1440 := by omega
      clear h2
      go_enter Try.func41, Try.ntmps41
      go_wp2
      go_returns
      exact ⟨ret_bool (by rw [← HV.out]; unfold dayB; exact (decide_eq_false (by omega)).symm), by go_grown⟩
  · have d1 : decide (dn ≤ t % 1440) = false := by simp; omega
    have n1 : t % 1440 < dn := by omega
    clear h1
    go_enter Try.func41, Try.ntmps41
    go_wp2
    go_returns
    exact ⟨ret_bool (by rw [← HV.out]; unfold dayB; exact (decide_eq_false (by omega)).symm), by go_grown⟩
theorem r31Far_any (id ax ay dr nr fi ev dn dk t : Int) (w : World) (ht : Tm t) {n : Int} (hn : farI dn dk dr nr t = n) :
    Calls Try.prog 43 #[.agg #[.int .i64 id, .int .i64 ax, .int .i64 ay, .int .i64 dr, .int .i64 nr, .int .i64 fi, .int .i64 ev], .agg #[.int .i64 dn, .int .i64 dk], .int .i64 t] w fun e w' => e = .returned (.int .i64 n) ∧ Below w.heap.size w w' := by
  obtain ⟨v, hv⟩ : ∃ v, dayB dn dk t = v := ⟨_, rfl⟩
  unfold farI at hn
  rw [hv] at hn
  have HV := Lib.hid hv
  have HT := Lib.hid ht
  have HN := Lib.hid hn
  clear hv ht hn
  go_enter Try.func43, Try.ntmps43
  go_wp2_with fail
  refine calls_named fun W hW => ?_
  obtain ⟨p1, p2, hB⟩ := box2 hW
  clear hW
  (with_reducible refine (r31Day_any _ _ _ _ HT.out HV.out).mono ?_)
  rintro e w1 ⟨rfl, hb1⟩
  have q1 := cellsL p1
  clear p1 p2
  cases v
  · obtain rfl : nr = n := HN.out
    go_wp2_with fail
    go_returns
    exact ⟨rfl, below_step hB hb1⟩
  · obtain rfl : dr = n := HN.out
    go_wp2_with fail
    go_returns
    exact ⟨rfl, below_step hB hb1⟩
theorem r31Valid_any (id ax ay dr nr fi ev : Int) (w : World) {v : Bool} (hv : decide (Stn id ax ay dr nr fi ev) = v) : Calls Try.prog 13 #[.agg #[.int .i64 id, .int .i64 ax, .int .i64 ay, .int .i64 dr, .int .i64 nr, .int .i64 fi, .int .i64 ev]] w fun e w' => e = .returned (.bool v) ∧ Below w.heap.size w w' := by
  have HV := Lib.hid hv
  clear hv
  obtain ⟨v1, g1⟩ : ∃ v1, decide (Vld ax ay) = v1 := ⟨_, rfl⟩
  obtain ⟨v2, g2⟩ : ∃ v2, decide (0 ≤ dr ∧ dr ≤ 3000000) = v2 := ⟨_, rfl⟩
  obtain ⟨v3, g3⟩ : ∃ v3, decide (0 ≤ nr ∧ nr ≤ 3000000) = v3 := ⟨_, rfl⟩
  obtain ⟨v4, g4⟩ : ∃ v4, decide (Tm fi) = v4 := ⟨_, rfl⟩
  have G1 := Lib.hid g1
  have G2 := Lib.hid g2
  have G3 := Lib.hid g3
  have G4 := Lib.hid g4
  clear g1 g2 g3 g4
  by_cases h1 : 1 ≤ id
  · by_cases h2 : id ≤ 26
    · go_enter Try.func13, Try.ntmps13
      go_wp2_with fail
      refine calls_named fun W hW => ?_
      obtain ⟨p1, hB⟩ := box1 hW
      clear hW
      have q1 := cellsL p1
      clear p1
      (with_reducible refine (rValid_any _ _ _ G1.out).mono ?_)
      rintro e w1 ⟨rfl, hb1⟩
      have hB1 := hb1
      cases v1
      · go_wp2_with fail
        go_returns
        exact ⟨ret_bool (by rw [← HV.out]; exact (decide_eq_false (fun h => of_decide_eq_false G1.out h.at')).symm), below_step hB hB1⟩
      go_wp2_with fail
      (with_reducible refine (rRange_any _ _ G2.out).mono ?_)
      rintro e w2 ⟨rfl, hb2⟩
      have hB2 := below_step hB1 hb2
      cases v2
      · go_wp2_with fail
        go_returns
        exact ⟨ret_bool (by rw [← HV.out]; exact (decide_eq_false (fun h => of_decide_eq_false G2.out ⟨h.d1, h.d2⟩)).symm), below_step hB hB2⟩
      go_wp2_with fail
      (with_reducible refine (rRange_any _ _ G3.out).mono ?_)
      rintro e w3 ⟨rfl, hb3⟩
      have hB3 := below_step hB2 hb3
      cases v3
      · go_wp2_with fail
        go_returns
        exact ⟨ret_bool (by rw [← HV.out]; exact (decide_eq_false (fun h => of_decide_eq_false G3.out ⟨h.n1, h.n2⟩)).symm), below_step hB hB3⟩
      go_wp2_with fail
      (with_reducible refine (r31Time_any _ _ G4.out).mono ?_)
      rintro e w4 ⟨rfl, hb4⟩
      have hB4 := below_step hB3 hb4
      cases v4
      · go_wp2_with fail
        go_returns
        exact ⟨ret_bool (by rw [← HV.out]; exact (decide_eq_false (fun h => of_decide_eq_false G4.out ⟨h.f1, h.f2⟩)).symm), below_step hB hB4⟩
      by_cases h3 : 1 ≤ ev
      · by_cases h4 : ev ≤ 10000
        · go_wp2_with fail
          go_returns
          exact ⟨ret_bool (by rw [← HV.out]; exact (decide_eq_true ⟨h1, h2, of_decide_eq_true G1.out, (of_decide_eq_true G2.out).1, (of_decide_eq_true G2.out).2, (of_decide_eq_true G3.out).1, (of_decide_eq_true G3.out).2, (of_decide_eq_true G4.out).1, (of_decide_eq_true G4.out).2, h3, h4⟩).symm), below_step hB hB4⟩
        · have d4 : decide (ev ≤ 10000) = false := by simp; omega
          go_wp2_with fail
          go_returns
          exact ⟨ret_bool (by rw [← HV.out]; exact (decide_eq_false (fun h => by have := h.e2; omega)).symm), below_step hB hB4⟩
      · have d4 : decide (1 ≤ ev) = false := by simp; omega
        go_wp2_with fail
        go_returns
        exact ⟨ret_bool (by rw [← HV.out]; exact (decide_eq_false (fun h => by have := h.e1; omega)).symm), below_step hB hB4⟩
    · have d4 : decide (id ≤ 26) = false := by simp; omega
      go_enter Try.func13, Try.ntmps13
      go_wp2
      go_returns
      exact ⟨ret_bool (by rw [← HV.out]; exact (decide_eq_false (fun h => by have := h.i2; omega)).symm), by go_grown⟩
  · have d4 : decide (1 ≤ id) = false := by simp; omega
    go_enter Try.func13, Try.ntmps13
    go_wp2
    go_returns
    exact ⟨ret_bool (by rw [← HV.out]; exact (decide_eq_false (fun h => by have := h.i1; omega)).symm), by go_grown⟩
theorem sq_bd' {d A : Int} (h1 : 0 ≤ d) (h2 : d ≤ A) : 0 ≤ d * d ∧ d * d ≤ A * A := ⟨sq_nn d, sq_le (by omega) h2⟩
theorem far_max (x lo hi : Int) : (farthI x lo hi - x) * (farthI x lo hi - x) = max (x - lo) (hi - x) * max (x - lo) (hi - x) := by
  unfold farthI
  split
  · rw [show max (x - lo) (hi - x) = x - lo by omega, show lo - x = -(x - lo) by omega, Int.neg_mul_neg]
  · rw [show max (x - lo) (hi - x) = hi - x by omega]
theorem near_max {x lo hi : Int} (h : lo ≤ hi) : (nearI x lo hi - x) * (nearI x lo hi - x) = max (max 0 (lo - x)) (x - hi) * max (max 0 (lo - x)) (x - hi) := by
  unfold nearI
  rcases Int.lt_or_le x lo with g | g
  · rw [show max lo (min x hi) = lo by omega, show max (max 0 (lo - x)) (x - hi) = lo - x by omega]
  · rcases Int.lt_or_le hi x with g' | g'
    · rw [show max lo (min x hi) = hi by omega, show max (max 0 (lo - x)) (x - hi) = x - hi by omega, show hi - x = -(x - hi) by omega, Int.neg_mul_neg]
    · rw [show max lo (min x hi) = x by omega, show max (max 0 (lo - x)) (x - hi) = 0 by omega]; simp
set_option maxHeartbeats 1000000 in
theorem r31All_any (ax ay xl xh yl yh n : Int) (w : World) (hp : Vld ax ay) (hx : Bx xl xh yl yh) (n0 : 0 ≤ n) (n1 : n ≤ 3000000) {v : Bool} (hv : allB ax ay xl xh yl yh n = v) :
    Calls Try.prog 48 #[.agg #[.int .i64 ax, .int .i64 ay], .agg #[.int .i64 xl, .int .i64 xh, .int .i64 yl, .int .i64 yh], .int .i64 n] w fun e w' => e = .returned (.bool v) ∧ Below w.heap.size w w' := by
  obtain ⟨a1, a2, a3, a4⟩ := hp
  obtain ⟨x1, x2, x3, y1, y2, y3⟩ := hx
  have sn := sq_bd' (A := 3000000) n0 n1
  unfold allB at hv
  have hr := (reach_def ax ay _ _ n).symm.trans (Bool.eq_iff_iff.1 hv)
  rw [far_max, far_max] at hr
  have hq : decide ((max (ax - xl) (xh - ax)) * (max (ax - xl) (xh - ax)) + (max (ay - yl) (yh - ay)) * (max (ay - yl) (yh - ay)) ≤ n * n) = v := by rw [Bool.eq_iff_iff, decide_eq_true_eq]; exact hr
  have HQ := Lib.hid hq
  clear hv hr hq
  rcases Int.lt_or_le (ax - xl) (xh - ax) with c1 | c1
  · skip
    rcases Int.lt_or_le (ay - yl) (yh - ay) with c2 | c2
    · skip
      have sx := sq_bd' (A := 2000000) (show 0 ≤ xh - ax by omega) (by omega)
      have sy := sq_bd' (A := 2000000) (show 0 ≤ yh - ay by omega) (by omega)
      have hq : decide ((xh - ax) * (xh - ax) + (yh - ay) * (yh - ay) ≤ n * n) = v := by have := HQ.out; rwa [show max (ax - xl) (xh - ax) = xh - ax by omega, show max (ay - yl) (yh - ay) = yh - ay by omega] at this
      have HQ2 := Lib.hid hq
      clear HQ hq
      go_enter Try.func48, Try.ntmps48
      go_wp2
      go_returns
      exact ⟨ret_bool (by first | exact HQ2.out | simpa using HQ2.out | simpa [sn.1, eq_comm] using HQ2.out), by go_grown⟩
    · skip
      have sx := sq_bd' (A := 2000000) (show 0 ≤ xh - ax by omega) (by omega)
      have sy := sq_bd' (A := 2000000) (show 0 ≤ ay - yl by omega) (by omega)
      have hq : decide ((xh - ax) * (xh - ax) + (ay - yl) * (ay - yl) ≤ n * n) = v := by have := HQ.out; rwa [show max (ax - xl) (xh - ax) = xh - ax by omega, show max (ay - yl) (yh - ay) = ay - yl by omega] at this
      have HQ2 := Lib.hid hq
      clear HQ hq
      go_enter Try.func48, Try.ntmps48
      go_wp2
      go_returns
      exact ⟨ret_bool (by first | exact HQ2.out | simpa using HQ2.out | simpa [sn.1, eq_comm] using HQ2.out), by go_grown⟩
  · skip
    rcases Int.lt_or_le (ay - yl) (yh - ay) with c2 | c2
    · skip
      have sx := sq_bd' (A := 2000000) (show 0 ≤ ax - xl by omega) (by omega)
      have sy := sq_bd' (A := 2000000) (show 0 ≤ yh - ay by omega) (by omega)
      have hq : decide ((ax - xl) * (ax - xl) + (yh - ay) * (yh - ay) ≤ n * n) = v := by have := HQ.out; rwa [show max (ax - xl) (xh - ax) = ax - xl by omega, show max (ay - yl) (yh - ay) = yh - ay by omega] at this
      have HQ2 := Lib.hid hq
      clear HQ hq
      go_enter Try.func48, Try.ntmps48
      go_wp2
      go_returns
      exact ⟨ret_bool (by first | exact HQ2.out | simpa using HQ2.out | simpa [sn.1, eq_comm] using HQ2.out), by go_grown⟩
    · skip
      have sx := sq_bd' (A := 2000000) (show 0 ≤ ax - xl by omega) (by omega)
      have sy := sq_bd' (A := 2000000) (show 0 ≤ ay - yl by omega) (by omega)
      have hq : decide ((ax - xl) * (ax - xl) + (ay - yl) * (ay - yl) ≤ n * n) = v := by have := HQ.out; rwa [show max (ax - xl) (xh - ax) = ax - xl by omega, show max (ay - yl) (yh - ay) = ay - yl by omega] at this
      have HQ2 := Lib.hid hq
      clear HQ hq
      go_enter Try.func48, Try.ntmps48
      go_wp2
      go_returns
      exact ⟨ret_bool (by first | exact HQ2.out | simpa using HQ2.out | simpa [sn.1, eq_comm] using HQ2.out), by go_grown⟩
set_option maxHeartbeats 1000000 in
theorem r31Some_any (ax ay xl xh yl yh n : Int) (w : World) (hp : Vld ax ay) (hx : Bx xl xh yl yh) (n0 : 0 ≤ n) (n1 : n ≤ 3000000) {v : Bool} (hv : someB ax ay xl xh yl yh n = v) :
    Calls Try.prog 49 #[.agg #[.int .i64 ax, .int .i64 ay], .agg #[.int .i64 xl, .int .i64 xh, .int .i64 yl, .int .i64 yh], .int .i64 n] w fun e w' => e = .returned (.bool v) ∧ Below w.heap.size w w' := by
  obtain ⟨a1, a2, a3, a4⟩ := hp
  obtain ⟨x1, x2, x3, y1, y2, y3⟩ := hx
  have sn := sq_bd' (A := 3000000) n0 n1
  unfold someB at hv
  have hr := (reach_def ax ay _ _ n).symm.trans (Bool.eq_iff_iff.1 hv)
  rw [near_max x2, near_max y2] at hr
  have hq : decide ((max (max 0 (xl - ax)) (ax - xh)) * (max (max 0 (xl - ax)) (ax - xh)) + (max (max 0 (yl - ay)) (ay - yh)) * (max (max 0 (yl - ay)) (ay - yh)) ≤ n * n) = v := by rw [Bool.eq_iff_iff, decide_eq_true_eq]; exact hr
  have HQ := Lib.hid hq
  clear hv hr hq
  rcases (by omega : (ax < xl) ∨ (xh < ax) ∨ (xl ≤ ax ∧ ax ≤ xh)) with c1 | c1 | c1
  · skip
    have c1f0 : 0 < xl - ax := by omega
    have c1f1 : ax - xh ≤ xl - ax := by omega
    have c1f2 : ax - xh < xl - ax := by omega
    rcases (by omega : (ay < yl) ∨ (yh < ay) ∨ (yl ≤ ay ∧ ay ≤ yh)) with c2 | c2 | c2
    · skip
      have c2f0 : 0 < yl - ay := by omega
      have c2f1 : ay - yh ≤ yl - ay := by omega
      have c2f2 : ay - yh < yl - ay := by omega
      have sx := sq_bd' (A := 2000000) (show 0 ≤ xl - ax by omega) (by omega)
      have sy := sq_bd' (A := 2000000) (show 0 ≤ yl - ay by omega) (by omega)
      have hq : decide ((xl - ax) * (xl - ax) + (yl - ay) * (yl - ay) ≤ n * n) = v := by have := HQ.out; rwa [show max (max 0 (xl - ax)) (ax - xh) = xl - ax by omega, show max (max 0 (yl - ay)) (ay - yh) = yl - ay by omega] at this
      have HQ2 := Lib.hid hq
      clear HQ hq
      go_enter Try.func49, Try.ntmps49
      go_wp2
      go_returns
      exact ⟨ret_bool (by first | exact HQ2.out | simpa using HQ2.out | simpa [sn.1, eq_comm] using HQ2.out), by go_grown⟩
    · skip
      have c2f0 : yl - ay ≤ 0 := by omega
      have c2f1 : 0 < ay - yh := by omega
      have sx := sq_bd' (A := 2000000) (show 0 ≤ xl - ax by omega) (by omega)
      have sy := sq_bd' (A := 2000000) (show 0 ≤ ay - yh by omega) (by omega)
      have hq : decide ((xl - ax) * (xl - ax) + (ay - yh) * (ay - yh) ≤ n * n) = v := by have := HQ.out; rwa [show max (max 0 (xl - ax)) (ax - xh) = xl - ax by omega, show max (max 0 (yl - ay)) (ay - yh) = ay - yh by omega] at this
      have HQ2 := Lib.hid hq
      clear HQ hq
      go_enter Try.func49, Try.ntmps49
      go_wp2
      go_returns
      exact ⟨ret_bool (by first | exact HQ2.out | simpa using HQ2.out | simpa [sn.1, eq_comm] using HQ2.out), by go_grown⟩
    · skip
      have c2f0 : yl - ay ≤ 0 := by omega
      have c2f1 : ay - yh ≤ 0 := by omega
      have sx := sq_bd' (A := 2000000) (show 0 ≤ xl - ax by omega) (by omega)
      have sy := sq_bd' (A := 2000000) (show 0 ≤ (0 : Int) by omega) (by omega)
      have hq : decide ((xl - ax) * (xl - ax) + ((0 : Int)) * ((0 : Int)) ≤ n * n) = v := by have := HQ.out; rwa [show max (max 0 (xl - ax)) (ax - xh) = xl - ax by omega, show max (max 0 (yl - ay)) (ay - yh) = (0 : Int) by omega] at this
      have HQ2 := Lib.hid hq
      clear HQ hq
      go_enter Try.func49, Try.ntmps49
      go_wp2
      go_returns
      exact ⟨ret_bool (by first | exact HQ2.out | simpa using HQ2.out | simpa [sn.1, eq_comm] using HQ2.out), by go_grown⟩
  · skip
    have c1f0 : xl - ax ≤ 0 := by omega
    have c1f1 : 0 < ax - xh := by omega
    rcases (by omega : (ay < yl) ∨ (yh < ay) ∨ (yl ≤ ay ∧ ay ≤ yh)) with c2 | c2 | c2
    · skip
      have c2f0 : 0 < yl - ay := by omega
      have c2f1 : ay - yh ≤ yl - ay := by omega
      have c2f2 : ay - yh < yl - ay := by omega
      have sx := sq_bd' (A := 2000000) (show 0 ≤ ax - xh by omega) (by omega)
      have sy := sq_bd' (A := 2000000) (show 0 ≤ yl - ay by omega) (by omega)
      have hq : decide ((ax - xh) * (ax - xh) + (yl - ay) * (yl - ay) ≤ n * n) = v := by have := HQ.out; rwa [show max (max 0 (xl - ax)) (ax - xh) = ax - xh by omega, show max (max 0 (yl - ay)) (ay - yh) = yl - ay by omega] at this
      have HQ2 := Lib.hid hq
      clear HQ hq
      go_enter Try.func49, Try.ntmps49
      go_wp2
      go_returns
      exact ⟨ret_bool (by first | exact HQ2.out | simpa using HQ2.out | simpa [sn.1, eq_comm] using HQ2.out), by go_grown⟩
    · skip
      have c2f0 : yl - ay ≤ 0 := by omega
      have c2f1 : 0 < ay - yh := by omega
      have sx := sq_bd' (A := 2000000) (show 0 ≤ ax - xh by omega) (by omega)
      have sy := sq_bd' (A := 2000000) (show 0 ≤ ay - yh by omega) (by omega)
      have hq : decide ((ax - xh) * (ax - xh) + (ay - yh) * (ay - yh) ≤ n * n) = v := by have := HQ.out; rwa [show max (max 0 (xl - ax)) (ax - xh) = ax - xh by omega, show max (max 0 (yl - ay)) (ay - yh) = ay - yh by omega] at this
      have HQ2 := Lib.hid hq
      clear HQ hq
      go_enter Try.func49, Try.ntmps49
      go_wp2
      go_returns
      exact ⟨ret_bool (by first | exact HQ2.out | simpa using HQ2.out | simpa [sn.1, eq_comm] using HQ2.out), by go_grown⟩
    · skip
      have c2f0 : yl - ay ≤ 0 := by omega
      have c2f1 : ay - yh ≤ 0 := by omega
      have sx := sq_bd' (A := 2000000) (show 0 ≤ ax - xh by omega) (by omega)
      have sy := sq_bd' (A := 2000000) (show 0 ≤ (0 : Int) by omega) (by omega)
      have hq : decide ((ax - xh) * (ax - xh) + ((0 : Int)) * ((0 : Int)) ≤ n * n) = v := by have := HQ.out; rwa [show max (max 0 (xl - ax)) (ax - xh) = ax - xh by omega, show max (max 0 (yl - ay)) (ay - yh) = (0 : Int) by omega] at this
      have HQ2 := Lib.hid hq
      clear HQ hq
      go_enter Try.func49, Try.ntmps49
      go_wp2
      go_returns
      exact ⟨ret_bool (by first | exact HQ2.out | simpa using HQ2.out | simpa [sn.1, eq_comm] using HQ2.out), by go_grown⟩
  · skip
    have c1f0 : xl - ax ≤ 0 := by omega
    have c1f1 : ax - xh ≤ 0 := by omega
    rcases (by omega : (ay < yl) ∨ (yh < ay) ∨ (yl ≤ ay ∧ ay ≤ yh)) with c2 | c2 | c2
    · skip
      have c2f0 : 0 < yl - ay := by omega
      have c2f1 : ay - yh ≤ yl - ay := by omega
      have c2f2 : ay - yh < yl - ay := by omega
      have sx := sq_bd' (A := 2000000) (show 0 ≤ (0 : Int) by omega) (by omega)
      have sy := sq_bd' (A := 2000000) (show 0 ≤ yl - ay by omega) (by omega)
      have hq : decide (((0 : Int)) * ((0 : Int)) + (yl - ay) * (yl - ay) ≤ n * n) = v := by have := HQ.out; rwa [show max (max 0 (xl - ax)) (ax - xh) = (0 : Int) by omega, show max (max 0 (yl - ay)) (ay - yh) = yl - ay by omega] at this
      have HQ2 := Lib.hid hq
      clear HQ hq
      go_enter Try.func49, Try.ntmps49
      go_wp2
      go_returns
      exact ⟨ret_bool (by first | exact HQ2.out | simpa using HQ2.out | simpa [sn.1, eq_comm] using HQ2.out), by go_grown⟩
    · skip
      have c2f0 : yl - ay ≤ 0 := by omega
      have c2f1 : 0 < ay - yh := by omega
      have sx := sq_bd' (A := 2000000) (show 0 ≤ (0 : Int) by omega) (by omega)
      have sy := sq_bd' (A := 2000000) (show 0 ≤ ay - yh by omega) (by omega)
      have hq : decide (((0 : Int)) * ((0 : Int)) + (ay - yh) * (ay - yh) ≤ n * n) = v := by have := HQ.out; rwa [show max (max 0 (xl - ax)) (ax - xh) = (0 : Int) by omega, show max (max 0 (yl - ay)) (ay - yh) = ay - yh by omega] at this
      have HQ2 := Lib.hid hq
      clear HQ hq
      go_enter Try.func49, Try.ntmps49
      go_wp2
      go_returns
      exact ⟨ret_bool (by first | exact HQ2.out | simpa using HQ2.out | simpa [sn.1, eq_comm] using HQ2.out), by go_grown⟩
    · skip
      have c2f0 : yl - ay ≤ 0 := by omega
      have c2f1 : ay - yh ≤ 0 := by omega
      have sx := sq_bd' (A := 2000000) (show 0 ≤ (0 : Int) by omega) (by omega)
      have sy := sq_bd' (A := 2000000) (show 0 ≤ (0 : Int) by omega) (by omega)
      have hq : decide (((0 : Int)) * ((0 : Int)) + ((0 : Int)) * ((0 : Int)) ≤ n * n) = v := by have := HQ.out; rwa [show max (max 0 (xl - ax)) (ax - xh) = (0 : Int) by omega, show max (max 0 (yl - ay)) (ay - yh) = (0 : Int) by omega] at this
      have HQ2 := Lib.hid hq
      clear HQ hq
      go_enter Try.func49, Try.ntmps49
      go_wp2
      go_returns
      exact ⟨ret_bool (by first | exact HQ2.out | simpa using HQ2.out | simpa [sn.1, eq_comm] using HQ2.out), by go_grown⟩
theorem r31Behind_any (id ax ay dr nr fi ev t : Int) (w : World) (hs : Stn id ax ay dr nr fi ev) (ht : Tm t) {n : Int} (hn : aheadI fi ev t = n) :
    Calls Try.prog 51 #[.agg #[.int .i64 id, .int .i64 ax, .int .i64 ay, .int .i64 dr, .int .i64 nr, .int .i64 fi, .int .i64 ev], .int .i64 t] w fun e w' => e = .returned (.int .i64 n) ∧ Below w.heap.size w w' := by
  have s1 := hs.f1
  have s2 := hs.f2
  have s3 := hs.e1
  have s4 := hs.e2
  have t1 : 0 ≤ t := ht.1
  have t2 : t ≤ 10000000 := ht.2
  unfold aheadI at hn
  by_cases h : t ≤ fi
  · have e0 : n = 0 := by rw [← hn]; exact Int.ediv_eq_zero_of_lt (by omega) (by omega)
    subst e0
    clear hn hs ht
    go_enter Try.func51, Try.ntmps51
    go_wp2
    go_returns
    exact ⟨rfl, by go_grown⟩
  · have e0 : max 0 (t - fi + ev - 1) = t - fi + ev - 1 := by omega
    rw [e0] at hn
    have HN := Lib.hid hn
    have g : fi < t := by omega
    have g1 : 0 ≤ t - fi + ev - 1 := by omega
    have g2 : 0 < ev := by omega
    clear hn hs ht h e0
    go_enter Try.func51, Try.ntmps51
    go_wp2
    go_returns
    exact ⟨ret_int HN.out, by go_grown⟩
end Go.Proofs.Ytnidacjmgekdjaa
