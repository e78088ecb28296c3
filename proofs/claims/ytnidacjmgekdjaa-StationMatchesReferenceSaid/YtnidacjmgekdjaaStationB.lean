/- The walks of package station's and span's validity, and of a station's range and reach. -/
import Derived.Test.YtnidacjmgekdjaaStationA
namespace Go.Proofs.Ytnidacjmgekdjaa
open Go.RowKit
attribute [local go_sem] bqOp bqAll bqUpon
attribute [local irreducible] wpQuiet wpBQ
theorem valid_any (x y : Int) (w : World) {v : Bool} (hv : decide (Vld x y) = v) : Calls Try.prog 34 #[.agg #[.int .i64 x, .int .i64 y]] w fun e w' => e = .returned (.bool v) ∧ Below w.heap.size w w' := by
  subst hv
  by_cases h : Vld x y
  · rw [decide_eq_true h]; exact valid_yes x y w h
  · rw [decide_eq_false h]; exact valid_no x y w h
theorem sValid_any (id ax ay dr nr fi ev : Int) (w : World) {v : Bool} (hv : decide (Stn id ax ay dr nr fi ev) = v) : Calls Try.prog 12 #[.agg #[.int .i64 id, .int .i64 ax, .int .i64 ay, .int .i64 dr, .int .i64 nr, .int .i64 fi, .int .i64 ev]] w fun e w' => e = .returned (.bool v) ∧ Below w.heap.size w w' := by
  have HV := Lib.hid hv
  clear hv
  obtain ⟨v1, h1⟩ : ∃ v, decide (1 ≤ id ∧ id ≤ 26) = v := ⟨_, rfl⟩
  obtain ⟨v2, h2⟩ : ∃ v, decide (Vld ax ay) = v := ⟨_, rfl⟩
  obtain ⟨v3, h3⟩ : ∃ v, decide ((0 ≤ dr ∧ dr ≤ 3000000) ∧ 0 ≤ nr ∧ nr ≤ 3000000) = v := ⟨_, rfl⟩
  obtain ⟨v4, h4⟩ : ∃ v, decide (Tm fi) = v := ⟨_, rfl⟩
  obtain ⟨v5, h5⟩ : ∃ v, decide (1 ≤ ev ∧ ev ≤ 10000) = v := ⟨_, rfl⟩
  have H1 := Lib.hid h1
  have H2 := Lib.hid h2
  have H3 := Lib.hid h3
  have H4 := Lib.hid h4
  have H5 := Lib.hid h5
  clear h1 h2 h3 h4 h5
  go_enter Try.func12, Try.ntmps12
  go_wp2_with fail
  refine calls_named fun W hW => ?_
  obtain ⟨p1, p2, hB⟩ := box2 hW
  clear hW
  (with_reducible refine (within1 _ _ _ _ _ _ p2 H1.out).mono ?_)
  rintro e w1 ⟨rfl, hb1⟩
  have q1 := cellsL p1
  clear p1 p2
  have hB1 := below_step hB hb1
  cases v1
  · go_wp2_with fail
    go_returns
    exact ⟨ret_bool (by rw [← HV.out]; exact (decide_eq_false fun h => of_decide_eq_false H1.out ⟨h.i1, h.i2⟩).symm), hB1⟩
  go_wp2_with fail
  (with_reducible refine (valid_any _ _ _ H2.out).mono ?_)
  rintro e w2 ⟨rfl, hb2⟩
  have hW2 := below_step hb1 hb2
  have hB2 := below_step hB hW2
  cases v2
  · go_wp2_with fail
    go_returns
    exact ⟨ret_bool (by rw [← HV.out]; exact (decide_eq_false fun h => of_decide_eq_false H2.out h.at').symm), hB2⟩
  go_wp2_with fail
  refine calls_named fun W3 hW3 => ?_
  obtain ⟨p3, hb3⟩ := box1 hW3
  clear hW3
  have hW3 := below_step hW2 hb3
  (with_reducible refine (within2 _ _ _ _ _ _ _ p3 H3.out).mono ?_)
  rintro e w4 ⟨rfl, hb4⟩
  clear p3
  have hW4 := below_step hW3 hb4
  have hB4 := below_step hB hW4
  cases v3
  · go_wp2_with fail
    go_returns
    exact ⟨ret_bool (by rw [← HV.out]; exact (decide_eq_false fun h => of_decide_eq_false H3.out ⟨⟨h.d1, h.d2⟩, h.n1, h.n2⟩).symm), hB4⟩
  go_wp2_with fail
  (with_reducible refine (moment_any _ _ H4.out).mono ?_)
  rintro e w5 ⟨rfl, hb5⟩
  have hW5 := below_step hW4 hb5
  have hB5 := below_step hB hW5
  cases v4
  · go_wp2_with fail
    go_returns
    exact ⟨ret_bool (by rw [← HV.out]; exact (decide_eq_false fun h => of_decide_eq_false H4.out ⟨h.f1, h.f2⟩).symm), hB5⟩
  go_wp2_with fail
  refine calls_named fun W6 hW6 => ?_
  obtain ⟨p6, hb6⟩ := box1 hW6
  clear hW6
  have hW6 := below_step hW5 hb6
  (with_reducible refine (within1 _ _ _ _ _ _ p6 H5.out).mono ?_)
  rintro e w7 ⟨rfl, hb7⟩
  clear p6
  have hW7 := below_step hW6 hb7
  have hB7 := below_step hB hW7
  go_wp2_with fail
  go_returns
  refine ⟨ret_bool ?_, hB7⟩
  rw [← HV.out]
  cases v5
  · exact (decide_eq_false fun h => of_decide_eq_false H5.out ⟨h.e1, h.e2⟩).symm
  · exact (decide_eq_true (stn_iff.2 ⟨of_decide_eq_true H1.out, of_decide_eq_true H2.out, of_decide_eq_true H3.out, of_decide_eq_true H4.out, of_decide_eq_true H5.out⟩)).symm
theorem far_any (id ax ay dr nr fi ev dn dk t : Int) (w : World) (hs : Sn dn dk) (ht : Tm t) {n : Int} (hn : farI dn dk dr nr t = n) :
    Calls Try.prog 42 #[.agg #[.int .i64 id, .int .i64 ax, .int .i64 ay, .int .i64 dr, .int .i64 nr, .int .i64 fi, .int .i64 ev, .int .i64 dn, .int .i64 dk], .int .i64 t] w fun e w' => e = .returned (.int .i64 n) ∧ Below w.heap.size w w' := by
  have HN := Lib.hid hn
  clear hn
  obtain ⟨v1, h1⟩ : ∃ v, dayB dn dk t = v := ⟨_, rfl⟩
  have H1 := Lib.hid h1
  clear h1
  go_enter Try.func42, Try.ntmps42
  go_wp2_with fail
  refine calls_named fun W hW => ?_
  obtain ⟨p1, hB⟩ := box1 hW
  clear hW
  (with_reducible refine (day_any _ _ _ _ hs ht H1.out).mono ?_)
  rintro e w1 ⟨rfl, hb1⟩
  have q1 := cellsL p1
  clear p1
  have hB1 := below_step hB hb1
  cases v1
  all_goals
    go_wp2_with fail
    go_returns
    exact ⟨ret_int (by rw [← HN.out]; unfold farI; rw [H1.out]; rfl), hB1⟩
end Go.Proofs.Ytnidacjmgekdjaa
