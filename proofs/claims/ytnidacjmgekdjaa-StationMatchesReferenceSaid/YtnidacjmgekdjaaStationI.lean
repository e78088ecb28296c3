/- The walks of package station's Sure where it returns no list. -/
import Derived.Test.YtnidacjmgekdjaaStationH
namespace Go.Proofs.Ytnidacjmgekdjaa
open Go.RowKit
attribute [local go_sem] bqOp bqAll bqUpon
attribute [local irreducible] wpQuiet wpBQ
theorem sSure_no (id ax ay dr nr fi ev dn dk xl xh yl yh t t2 : Int) (w : World) (hv : ¬ (Sn dn dk ∧ Bx xl xh yl yh)) :
    Calls Try.prog 24 #[.agg #[.int .i64 id, .int .i64 ax, .int .i64 ay, .int .i64 dr, .int .i64 nr, .int .i64 fi, .int .i64 ev], .agg #[.int .i64 dn, .int .i64 dk], .agg #[.int .i64 xl, .int .i64 xh, .int .i64 yl, .int .i64 yh], .int .i64 t, .int .i64 t2] w fun e w' => e = .returned (.tuple #[.slice none 0 0, .int .i64 1]) ∧ Below w.heap.size w w' := by
  have HV := Lib.hid hv
  clear hv
  obtain ⟨v0, h0⟩ : ∃ v, decide (Sn dn dk) = v := ⟨_, rfl⟩
  have H0 := Lib.hid h0
  clear h0
  obtain ⟨v1, h1⟩ : ∃ v, decide (Bx xl xh yl yh) = v := ⟨_, rfl⟩
  have H1 := Lib.hid h1
  clear h1
  go_enter Try.func24, Try.ntmps24
  go_wp2_with fail
  refine calls_named fun W hW => ?_
  obtain ⟨p1, p2, p3, hB⟩ := box3 hW
  clear hW
  (with_reducible refine (sun_any _ _ _ H0.out).mono ?_)
  rintro e w1 ⟨rfl, hb1⟩
  have q1 := cellsL p1
  have q2 := cellsL p2
  have q3 := cellsL p3
  clear p1 p2 p3
  have hW1 := hb1
  have hB1 := below_step hB hW1
  cases v0
  · go_wp2_with fail
    go_ret2
    exact ⟨rfl, hB1⟩
  go_wp2_with fail
  (with_reducible refine (spValidBox_any _ _ _ _ _ H1.out).mono ?_)
  rintro e w2 ⟨rfl, hb2⟩
  have hW2 := below_step hW1 hb2
  have hB2 := below_step hB hW2
  cases v1
  · go_wp2_with fail
    go_ret2
    exact ⟨rfl, hB2⟩
  exact (HV.out ⟨of_decide_eq_true H0.out, of_decide_eq_true H1.out⟩).elim
theorem sSure_err (id ax ay dr nr fi ev dn dk xl xh yl yh t t2 : Int) (w : World) (g0 : Sn dn dk) (g1 : Bx xl xh yl yh) (hS : ∀ w, Calls Try.prog 22 #[.agg #[.int .i64 id, .int .i64 ax, .int .i64 ay, .int .i64 dr, .int .i64 nr, .int .i64 fi, .int .i64 ev], .int .i64 t, .int .i64 t2] w fun e w' => e = .returned (.tuple #[.agg #[.int .i64 0, .int .i64 0], .int .i64 1]) ∧ Below w.heap.size w w') :
    Calls Try.prog 24 #[.agg #[.int .i64 id, .int .i64 ax, .int .i64 ay, .int .i64 dr, .int .i64 nr, .int .i64 fi, .int .i64 ev], .agg #[.int .i64 dn, .int .i64 dk], .agg #[.int .i64 xl, .int .i64 xh, .int .i64 yl, .int .i64 yh], .int .i64 t, .int .i64 t2] w fun e w' => e = .returned (.tuple #[.slice none 0 0, .int .i64 1]) ∧ Below w.heap.size w w' := by
  have HS := Lib.hid hS
  clear hS
  have H0 := Lib.hid (decide_eq_true g0)
  have K0 := Lib.hid g0
  have H1 := Lib.hid (decide_eq_true g1)
  have K1 := Lib.hid g1
  clear g0 g1
  go_enter Try.func24, Try.ntmps24
  go_wp2_with fail
  refine calls_named fun W hW => ?_
  obtain ⟨p1, p2, p3, hB⟩ := box3 hW
  clear hW
  (with_reducible refine (sun_any _ _ _ H0.out).mono ?_)
  rintro e w1 ⟨rfl, hb1⟩
  have q1 := cellsL p1
  have q2 := cellsL p2
  have q3 := cellsL p3
  clear p1 p2 p3
  have hW1 := hb1
  have hB1 := below_step hB hW1
  go_wp2_with fail
  (with_reducible refine (spValidBox_any _ _ _ _ _ H1.out).mono ?_)
  rintro e w2 ⟨rfl, hb2⟩
  have hW2 := below_step hW1 hb2
  have hB2 := below_step hB hW2
  go_wp2_with fail
  (with_reducible refine (HS.out _).mono ?_)
  rintro e w3 ⟨rfl, hb3⟩
  have hB3 := below_step hB2 hb3
  have hW3 := below_step hW2 hb3
  go_wp2_with fail
  go_ret2
  exact ⟨rfl, hB3.alloc hB3.size _⟩
theorem sSure_none (id ax ay dr nr fi ev dn dk xl xh yl yh t t2 : Int) (w : World) (g0 : Sn dn dk) (g1 : Bx xl xh yl yh) (hS : ∀ w, Calls Try.prog 22 #[.agg #[.int .i64 id, .int .i64 ax, .int .i64 ay, .int .i64 dr, .int .i64 nr, .int .i64 fi, .int .i64 ev], .int .i64 t, .int .i64 t2] w fun e w' => e = .returned (.tuple #[.agg #[.int .i64 0, .int .i64 0], .int .i64 4]) ∧ Below w.heap.size w w') :
    Calls Try.prog 24 #[.agg #[.int .i64 id, .int .i64 ax, .int .i64 ay, .int .i64 dr, .int .i64 nr, .int .i64 fi, .int .i64 ev], .agg #[.int .i64 dn, .int .i64 dk], .agg #[.int .i64 xl, .int .i64 xh, .int .i64 yl, .int .i64 yh], .int .i64 t, .int .i64 t2] w fun e w' => e = .returned (.tuple #[.slice none 0 0, .int .i64 0]) ∧ Below w.heap.size w w' := by
  have HS := Lib.hid hS
  clear hS
  have H0 := Lib.hid (decide_eq_true g0)
  have K0 := Lib.hid g0
  have H1 := Lib.hid (decide_eq_true g1)
  have K1 := Lib.hid g1
  clear g0 g1
  go_enter Try.func24, Try.ntmps24
  go_wp2_with fail
  refine calls_named fun W hW => ?_
  obtain ⟨p1, p2, p3, hB⟩ := box3 hW
  clear hW
  (with_reducible refine (sun_any _ _ _ H0.out).mono ?_)
  rintro e w1 ⟨rfl, hb1⟩
  have q1 := cellsL p1
  have q2 := cellsL p2
  have q3 := cellsL p3
  clear p1 p2 p3
  have hW1 := hb1
  have hB1 := below_step hB hW1
  go_wp2_with fail
  (with_reducible refine (spValidBox_any _ _ _ _ _ H1.out).mono ?_)
  rintro e w2 ⟨rfl, hb2⟩
  have hW2 := below_step hW1 hb2
  have hB2 := below_step hB hW2
  go_wp2_with fail
  (with_reducible refine (HS.out _).mono ?_)
  rintro e w3 ⟨rfl, hb3⟩
  have hB3 := below_step hB2 hb3
  have hW3 := below_step hW2 hb3
  go_wp2_with fail
  go_ret2
  exact ⟨rfl, hB3.alloc hB3.size _⟩
theorem sSure_limit (id ax ay dr nr fi ev dn dk xl xh yl yh t t2 : Int) (w : World) (g0 : Sn dn dk) (g1 : Bx xl xh yl yh) {a c : Int} (h1 : 0 ≤ a) (h2 : c ≤ 100000000) (h3 : 400 ≤ c - a) (hS : ∀ w, Calls Try.prog 22 #[.agg #[.int .i64 id, .int .i64 ax, .int .i64 ay, .int .i64 dr, .int .i64 nr, .int .i64 fi, .int .i64 ev], .int .i64 t, .int .i64 t2] w fun e w' => e = .returned (.tuple #[.agg #[.int .i64 a, .int .i64 c], .int .i64 0]) ∧ Below w.heap.size w w') :
    Calls Try.prog 24 #[.agg #[.int .i64 id, .int .i64 ax, .int .i64 ay, .int .i64 dr, .int .i64 nr, .int .i64 fi, .int .i64 ev], .agg #[.int .i64 dn, .int .i64 dk], .agg #[.int .i64 xl, .int .i64 xh, .int .i64 yl, .int .i64 yh], .int .i64 t, .int .i64 t2] w fun e w' => e = .returned (.tuple #[.slice none 0 0, .int .i64 2]) ∧ Below w.heap.size w w' := by
  have HS := Lib.hid hS
  clear hS
  have H0 := Lib.hid (decide_eq_true g0)
  have K0 := Lib.hid g0
  have H1 := Lib.hid (decide_eq_true g1)
  have K1 := Lib.hid g1
  clear g0 g1
  go_enter Try.func24, Try.ntmps24
  go_wp2_with fail
  refine calls_named fun W hW => ?_
  obtain ⟨p1, p2, p3, hB⟩ := box3 hW
  clear hW
  (with_reducible refine (sun_any _ _ _ H0.out).mono ?_)
  rintro e w1 ⟨rfl, hb1⟩
  have q1 := cellsL p1
  have q2 := cellsL p2
  have q3 := cellsL p3
  clear p1 p2 p3
  have hW1 := hb1
  have hB1 := below_step hB hW1
  go_wp2_with fail
  (with_reducible refine (spValidBox_any _ _ _ _ _ H1.out).mono ?_)
  rintro e w2 ⟨rfl, hb2⟩
  have hW2 := below_step hW1 hb2
  have hB2 := below_step hB hW2
  go_wp2_with fail
  (with_reducible refine (HS.out _).mono ?_)
  rintro e w3 ⟨rfl, hb3⟩
  have hB3 := below_step hB2 hb3
  have hW3 := below_step hW2 hb3
  go_wp2_with fail
  go_ret2
  exact ⟨rfl, hB3.alloc hB3.size _⟩
end Go.Proofs.Ytnidacjmgekdjaa
