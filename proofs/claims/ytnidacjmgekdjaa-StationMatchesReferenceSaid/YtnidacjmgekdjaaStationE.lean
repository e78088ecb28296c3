/- The walks of package station's exported functions. -/
import Derived.Test.YtnidacjmgekdjaaStationD
namespace Go.Proofs.Ytnidacjmgekdjaa
open Go.RowKit
attribute [local go_sem] bqOp bqAll bqUpon
attribute [local irreducible] wpQuiet wpBQ
theorem sLight_no (dn dk t : Int) (w : World) (hv : ¬ (Sn dn dk ∧ Tm t)) :
    Calls Try.prog 14 #[.agg #[.int .i64 dn, .int .i64 dk], .int .i64 t] w fun e w' => e = .returned (.tuple #[.bool false, .int .i64 1]) ∧ Below w.heap.size w w' := by
  have HV := Lib.hid hv
  clear hv
  obtain ⟨v0, h0⟩ : ∃ v, decide (Sn dn dk) = v := ⟨_, rfl⟩
  have H0 := Lib.hid h0
  clear h0
  obtain ⟨v1, h1⟩ : ∃ v, decide (Tm t) = v := ⟨_, rfl⟩
  have H1 := Lib.hid h1
  clear h1
  go_enter Try.func14, Try.ntmps14
  go_wp2_with fail
  refine calls_named fun W hW => ?_
  obtain ⟨p1, hB⟩ := box1 hW
  clear hW
  (with_reducible refine (sun_any _ _ _ H0.out).mono ?_)
  rintro e w1 ⟨rfl, hb1⟩
  have q1 := cellsL p1
  clear p1
  have hW1 := hb1
  have hB1 := below_step hB hW1
  cases v0
  · go_wp2_with fail
    go_ret2
    exact ⟨rfl, hB1⟩
  go_wp2_with fail
  (with_reducible refine (moment_any _ _ H1.out).mono ?_)
  rintro e w2 ⟨rfl, hb2⟩
  have hW2 := below_step hW1 hb2
  have hB2 := below_step hB hW2
  cases v1
  · go_wp2_with fail
    go_ret2
    exact ⟨rfl, hB2⟩
  exact (HV.out ⟨of_decide_eq_true H0.out, of_decide_eq_true H1.out⟩).elim
theorem sLight_yes (dn dk t : Int) (w : World) (g0 : Sn dn dk) (g1 : Tm t) {v : Bool} (hv : dayB dn dk t = v) :
    Calls Try.prog 14 #[.agg #[.int .i64 dn, .int .i64 dk], .int .i64 t] w fun e w' => e = .returned (.tuple #[.bool v, .int .i64 0]) ∧ Below w.heap.size w w' := by
  have HV := Lib.hid hv
  clear hv
  have H0 := Lib.hid (decide_eq_true g0)
  have K0 := Lib.hid g0
  have H1 := Lib.hid (decide_eq_true g1)
  have K1 := Lib.hid g1
  clear g0 g1
  go_enter Try.func14, Try.ntmps14
  go_wp2_with fail
  refine calls_named fun W hW => ?_
  obtain ⟨p1, hB⟩ := box1 hW
  clear hW
  (with_reducible refine (sun_any _ _ _ H0.out).mono ?_)
  rintro e w1 ⟨rfl, hb1⟩
  have q1 := cellsL p1
  clear p1
  have hW1 := hb1
  have hB1 := below_step hB hW1
  go_wp2_with fail
  (with_reducible refine (moment_any _ _ H1.out).mono ?_)
  rintro e w2 ⟨rfl, hb2⟩
  have hW2 := below_step hW1 hb2
  have hB2 := below_step hB hW2
  go_wp2_with fail
  (with_reducible refine (day_any _ _ _ _ K0.out K1.out HV.out).mono ?_)
  rintro e w3 ⟨rfl, hb3⟩
  go_wp2_with fail
  go_ret2
  exact ⟨rfl, below_step hB2 hb3⟩
theorem sRange_no (id ax ay dr nr fi ev dn dk t : Int) (w : World) (hv : ¬ (Stn id ax ay dr nr fi ev ∧ Sn dn dk ∧ Tm t)) :
    Calls Try.prog 16 #[.agg #[.int .i64 id, .int .i64 ax, .int .i64 ay, .int .i64 dr, .int .i64 nr, .int .i64 fi, .int .i64 ev], .agg #[.int .i64 dn, .int .i64 dk], .int .i64 t] w fun e w' => e = .returned (.tuple #[.int .i64 0, .int .i64 1]) ∧ Below w.heap.size w w' := by
  have HV := Lib.hid hv
  clear hv
  obtain ⟨v0, h0⟩ : ∃ v, decide (Stn id ax ay dr nr fi ev) = v := ⟨_, rfl⟩
  have H0 := Lib.hid h0
  clear h0
  obtain ⟨v1, h1⟩ : ∃ v, decide (Sn dn dk) = v := ⟨_, rfl⟩
  have H1 := Lib.hid h1
  clear h1
  obtain ⟨v2, h2⟩ : ∃ v, decide (Tm t) = v := ⟨_, rfl⟩
  have H2 := Lib.hid h2
  clear h2
  go_enter Try.func16, Try.ntmps16
  go_wp2_with fail
  refine calls_named fun W hW => ?_
  obtain ⟨p1, p2, hB⟩ := box2 hW
  clear hW
  (with_reducible refine (sValid_any _ _ _ _ _ _ _ _ H0.out).mono ?_)
  rintro e w1 ⟨rfl, hb1⟩
  have q1 := cellsL p1
  have q2 := cellsL p2
  clear p1 p2
  have hW1 := hb1
  have hB1 := below_step hB hW1
  cases v0
  · go_wp2_with fail
    go_ret2
    exact ⟨rfl, hB1⟩
  go_wp2_with fail
  (with_reducible refine (sun_any _ _ _ H1.out).mono ?_)
  rintro e w2 ⟨rfl, hb2⟩
  have hW2 := below_step hW1 hb2
  have hB2 := below_step hB hW2
  cases v1
  · go_wp2_with fail
    go_ret2
    exact ⟨rfl, hB2⟩
  go_wp2_with fail
  (with_reducible refine (moment_any _ _ H2.out).mono ?_)
  rintro e w3 ⟨rfl, hb3⟩
  have hW3 := below_step hW2 hb3
  have hB3 := below_step hB hW3
  cases v2
  · go_wp2_with fail
    go_ret2
    exact ⟨rfl, hB3⟩
  exact (HV.out ⟨of_decide_eq_true H0.out, of_decide_eq_true H1.out, of_decide_eq_true H2.out⟩).elim
theorem sRange_yes (id ax ay dr nr fi ev dn dk t : Int) (w : World) (g0 : Stn id ax ay dr nr fi ev) (g1 : Sn dn dk) (g2 : Tm t) {n : Int} (hn : farI dn dk dr nr t = n) :
    Calls Try.prog 16 #[.agg #[.int .i64 id, .int .i64 ax, .int .i64 ay, .int .i64 dr, .int .i64 nr, .int .i64 fi, .int .i64 ev], .agg #[.int .i64 dn, .int .i64 dk], .int .i64 t] w fun e w' => e = .returned (.tuple #[.int .i64 n, .int .i64 0]) ∧ Below w.heap.size w w' := by
  have HN := Lib.hid hn
  clear hn
  have H0 := Lib.hid (decide_eq_true g0)
  have K0 := Lib.hid g0
  have H1 := Lib.hid (decide_eq_true g1)
  have K1 := Lib.hid g1
  have H2 := Lib.hid (decide_eq_true g2)
  have K2 := Lib.hid g2
  clear g0 g1 g2
  go_enter Try.func16, Try.ntmps16
  go_wp2_with fail
  refine calls_named fun W hW => ?_
  obtain ⟨p1, p2, hB⟩ := box2 hW
  clear hW
  (with_reducible refine (sValid_any _ _ _ _ _ _ _ _ H0.out).mono ?_)
  rintro e w1 ⟨rfl, hb1⟩
  have q1 := cellsL p1
  have q2 := cellsL p2
  clear p1 p2
  have hW1 := hb1
  have hB1 := below_step hB hW1
  go_wp2_with fail
  (with_reducible refine (sun_any _ _ _ H1.out).mono ?_)
  rintro e w2 ⟨rfl, hb2⟩
  have hW2 := below_step hW1 hb2
  have hB2 := below_step hB hW2
  go_wp2_with fail
  (with_reducible refine (moment_any _ _ H2.out).mono ?_)
  rintro e w3 ⟨rfl, hb3⟩
  have hW3 := below_step hW2 hb3
  have hB3 := below_step hB hW3
  go_wp2_with fail
  (with_reducible refine (far_any _ _ _ _ _ _ _ _ _ _ _ K1.out K2.out HN.out).mono ?_)
  rintro e w4 ⟨rfl, hb4⟩
  go_wp2_with fail
  go_ret2
  exact ⟨rfl, below_step hB3 hb4⟩
theorem sHears_no (id ax ay dr nr fi ev dn dk xl xh yl yh t : Int) (w : World) (hv : ¬ (Stn id ax ay dr nr fi ev ∧ Sn dn dk ∧ Bx xl xh yl yh ∧ Tm t)) :
    Calls Try.prog 18 #[.agg #[.int .i64 id, .int .i64 ax, .int .i64 ay, .int .i64 dr, .int .i64 nr, .int .i64 fi, .int .i64 ev], .agg #[.int .i64 dn, .int .i64 dk], .agg #[.int .i64 xl, .int .i64 xh, .int .i64 yl, .int .i64 yh], .int .i64 t] w fun e w' => e = .returned (.tuple #[.int .i64 0, .int .i64 1]) ∧ Below w.heap.size w w' := by
  have HV := Lib.hid hv
  clear hv
  obtain ⟨v0, h0⟩ : ∃ v, decide (Stn id ax ay dr nr fi ev) = v := ⟨_, rfl⟩
  have H0 := Lib.hid h0
  clear h0
  obtain ⟨v1, h1⟩ : ∃ v, decide (Sn dn dk) = v := ⟨_, rfl⟩
  have H1 := Lib.hid h1
  clear h1
  obtain ⟨v2, h2⟩ : ∃ v, decide (Bx xl xh yl yh) = v := ⟨_, rfl⟩
  have H2 := Lib.hid h2
  clear h2
  obtain ⟨v3, h3⟩ : ∃ v, decide (Tm t) = v := ⟨_, rfl⟩
  have H3 := Lib.hid h3
  clear h3
  go_enter Try.func18, Try.ntmps18
  go_wp2_with fail
  refine calls_named fun W hW => ?_
  obtain ⟨p1, p2, p3, hB⟩ := box3 hW
  clear hW
  (with_reducible refine (sValid_any _ _ _ _ _ _ _ _ H0.out).mono ?_)
  rintro e w1 ⟨rfl, hb1⟩
  have q1 := cellsL p1
  have q2 := cellsL p2
  have q3 := cellsL p3
  clear p1 p2 p3
  have hW1 := hb1
  have hB1 := below_step hB hW1
  cases v0
  · go_wp2_with fail
    go_ret2
    exact ⟨rfl, hB1⟩
  go_wp2_with fail
  (with_reducible refine (sun_any _ _ _ H1.out).mono ?_)
  rintro e w2 ⟨rfl, hb2⟩
  have hW2 := below_step hW1 hb2
  have hB2 := below_step hB hW2
  cases v1
  · go_wp2_with fail
    go_ret2
    exact ⟨rfl, hB2⟩
  go_wp2_with fail
  (with_reducible refine (spValidBox_any _ _ _ _ _ H2.out).mono ?_)
  rintro e w3 ⟨rfl, hb3⟩
  have hW3 := below_step hW2 hb3
  have hB3 := below_step hB hW3
  cases v2
  · go_wp2_with fail
    go_ret2
    exact ⟨rfl, hB3⟩
  go_wp2_with fail
  (with_reducible refine (moment_any _ _ H3.out).mono ?_)
  rintro e w4 ⟨rfl, hb4⟩
  have hW4 := below_step hW3 hb4
  have hB4 := below_step hB hW4
  cases v3
  · go_wp2_with fail
    go_ret2
    exact ⟨rfl, hB4⟩
  exact (HV.out ⟨of_decide_eq_true H0.out, of_decide_eq_true H1.out, of_decide_eq_true H2.out, of_decide_eq_true H3.out⟩).elim
theorem sHears_yes (id ax ay dr nr fi ev dn dk xl xh yl yh t : Int) (w : World) (g0 : Stn id ax ay dr nr fi ev) (g1 : Sn dn dk) (g2 : Bx xl xh yl yh) (g3 : Tm t) {h : Int} (hh : hearsI ax ay xl xh yl yh (farI dn dk dr nr t) = h) :
    Calls Try.prog 18 #[.agg #[.int .i64 id, .int .i64 ax, .int .i64 ay, .int .i64 dr, .int .i64 nr, .int .i64 fi, .int .i64 ev], .agg #[.int .i64 dn, .int .i64 dk], .agg #[.int .i64 xl, .int .i64 xh, .int .i64 yl, .int .i64 yh], .int .i64 t] w fun e w' => e = .returned (.tuple #[.int .i64 h, .int .i64 0]) ∧ Below w.heap.size w w' := by
  obtain ⟨v1, e1⟩ : ∃ v, reachB ax ay (farthI ax xl xh) (farthI ay yl yh) (farI dn dk dr nr t) = v := ⟨_, rfl⟩
  obtain ⟨v2, e2⟩ : ∃ v, reachB ax ay (nearI ax xl xh) (nearI ay yl yh) (farI dn dk dr nr t) = v := ⟨_, rfl⟩
  unfold hearsI allB someB at hh
  rw [e1, e2] at hh
  have V1 := Lib.hid e1
  have V2 := Lib.hid e2
  have HH := Lib.hid hh
  clear e1 e2 hh
  have H0 := Lib.hid (decide_eq_true g0)
  have K0 := Lib.hid g0
  have H1 := Lib.hid (decide_eq_true g1)
  have K1 := Lib.hid g1
  have H2 := Lib.hid (decide_eq_true g2)
  have K2 := Lib.hid g2
  have H3 := Lib.hid (decide_eq_true g3)
  have K3 := Lib.hid g3
  clear g0 g1 g2 g3
  go_enter Try.func18, Try.ntmps18
  go_wp2_with fail
  refine calls_named fun W hW => ?_
  obtain ⟨p1, p2, p3, hB⟩ := box3 hW
  clear hW
  (with_reducible refine (sValid_any _ _ _ _ _ _ _ _ H0.out).mono ?_)
  rintro e w1 ⟨rfl, hb1⟩
  have q1 := cellsL p1
  have q2 := cellsL p2
  have q3 := cellsL p3
  clear p1 p2 p3
  have hW1 := hb1
  have hB1 := below_step hB hW1
  go_wp2_with fail
  (with_reducible refine (sun_any _ _ _ H1.out).mono ?_)
  rintro e w2 ⟨rfl, hb2⟩
  have hW2 := below_step hW1 hb2
  have hB2 := below_step hB hW2
  go_wp2_with fail
  (with_reducible refine (spValidBox_any _ _ _ _ _ H2.out).mono ?_)
  rintro e w3 ⟨rfl, hb3⟩
  have hW3 := below_step hW2 hb3
  have hB3 := below_step hB hW3
  go_wp2_with fail
  (with_reducible refine (moment_any _ _ H3.out).mono ?_)
  rintro e w4 ⟨rfl, hb4⟩
  have hW4 := below_step hW3 hb4
  have hB4 := below_step hB hW4
  have hA4 := fun o => hW4.alloc hW4.size o
  go_wp2_with fail
  refine calls_named fun W5 hW5 => ?_
  obtain ⟨p5, hb5⟩ := box1 hW5
  clear hW5
  have hW5 := below_step hW4 hb5
  have q5 := cellsL p5
  clear p5
  (with_reducible refine (reaches_all _ _ _ _ _ _ _ _ _ _ _ _ _ _ _ K0.out K1.out K2.out K3.out V1.out).mono ?_)
  rintro e w6 ⟨rfl, hb6⟩
  have hW6 := below_step hW5 hb6
  have hB6 := below_step hB hW6
  cases v1
  case true =>
    have hh := HH.out
    simp at hh
    subst hh
    go_wp2_with fail
    go_ret2
    exact ⟨rfl, hB6⟩
  go_wp2_with fail
  (with_reducible refine (reaches_some _ _ _ _ _ _ _ _ _ _ _ _ _ _ _ K0.out K1.out K2.out K3.out V2.out).mono ?_)
  rintro e w7 ⟨rfl, hb7⟩
  have hB7 := below_step hB6 hb7
  cases v2
  all_goals
    have hh := HH.out
    simp at hh
    subst hh
    go_wp2_with fail
    go_ret2
    exact ⟨rfl, hB7⟩
end Go.Proofs.Ytnidacjmgekdjaa
