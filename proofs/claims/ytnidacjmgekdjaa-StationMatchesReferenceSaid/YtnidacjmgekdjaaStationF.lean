/- The walks of package station's slots. -/
import Derived.Test.YtnidacjmgekdjaaStationE
namespace Go.Proofs.Ytnidacjmgekdjaa
open Go.RowKit
attribute [local go_sem] bqOp bqAll bqUpon
attribute [local irreducible] wpQuiet wpBQ
theorem ahead_any (id ax ay dr nr fi ev t : Int) (w : World) (hs : Stn id ax ay dr nr fi ev) (ht : Tm t) {n : Int} (hn : aheadI fi ev t = n) :
    Calls Try.prog 50 #[.agg #[.int .i64 id, .int .i64 ax, .int .i64 ay, .int .i64 dr, .int .i64 nr, .int .i64 fi, .int .i64 ev], .int .i64 t] w fun e w' => e = .returned (.int .i64 n) ∧ Below w.heap.size w w' := by
  have HN := Lib.hid hn
  clear hn
  obtain ⟨t1, t2⟩ := ht
  have f1 := hs.f1
  have f2 := hs.f2
  have e1 := hs.e1
  have e2 := hs.e2
  clear hs
  go_enter Try.func50, Try.ntmps50
  go_wp2
  all_goals (go_returns; exact ⟨ret_int (by rw [← HN.out]; unfold aheadI; first | rfl | (rw [show max 0 (t - fi + ev - 1) = 0 by omega]; simp) | (rw [show max 0 (t - fi + ev - 1) = t - fi + ev - 1 by omega])), by go_grown⟩)
theorem slot_le {fi ev k : Int} (h3 : 1 ≤ ev) : k ≤ (10000000 - fi) / ev ↔ fi + k * ev ≤ 10000000 := by
  rw [Int.le_ediv_iff_mul_le (by omega)]
  omega
theorem sSlot_neg (id ax ay dr nr fi ev k : Int) (w : World) (hk : k < 0) :
    Calls Try.prog 20 #[.agg #[.int .i64 id, .int .i64 ax, .int .i64 ay, .int .i64 dr, .int .i64 nr, .int .i64 fi, .int .i64 ev], .int .i64 k] w fun e w' => e = .returned (.tuple #[.int .i64 0, .int .i64 1]) ∧ Below w.heap.size w w' := by
  obtain ⟨v0, h0⟩ : ∃ v, decide (Stn id ax ay dr nr fi ev) = v := ⟨_, rfl⟩
  have H0 := Lib.hid h0
  clear h0
  go_enter Try.func20, Try.ntmps20
  go_wp2_with fail
  refine calls_named fun W hW => ?_
  obtain ⟨p1, hB⟩ := box1 hW
  clear hW
  (with_reducible refine (sValid_any _ _ _ _ _ _ _ _ H0.out).mono ?_)
  rintro e w1 ⟨rfl, hb1⟩
  clear p1
  have hB1 := below_step hB hb1
  cases v0
  all_goals
    go_wp2_with fail
    go_ret2
    exact ⟨rfl, hB1⟩
theorem sSlot_no (id ax ay dr nr fi ev k : Int) (w : World) (hv : ¬ (Stn id ax ay dr nr fi ev)) :
    Calls Try.prog 20 #[.agg #[.int .i64 id, .int .i64 ax, .int .i64 ay, .int .i64 dr, .int .i64 nr, .int .i64 fi, .int .i64 ev], .int .i64 k] w fun e w' => e = .returned (.tuple #[.int .i64 0, .int .i64 1]) ∧ Below w.heap.size w w' := by
  have HV := Lib.hid hv
  clear hv
  obtain ⟨v0, h0⟩ : ∃ v, decide (Stn id ax ay dr nr fi ev) = v := ⟨_, rfl⟩
  have H0 := Lib.hid h0
  clear h0
  go_enter Try.func20, Try.ntmps20
  go_wp2_with fail
  refine calls_named fun W hW => ?_
  obtain ⟨p1, hB⟩ := box1 hW
  clear hW
  (with_reducible refine (sValid_any _ _ _ _ _ _ _ _ H0.out).mono ?_)
  rintro e w1 ⟨rfl, hb1⟩
  have q1 := cellsL p1
  clear p1
  have hW1 := hb1
  have hB1 := below_step hB hW1
  cases v0
  · go_wp2_with fail
    go_ret2
    exact ⟨rfl, hB1⟩
  exact (HV.out (of_decide_eq_true H0.out)).elim
theorem sSlot_far (id ax ay dr nr fi ev k : Int) (w : World) (g0 : Stn id ax ay dr nr fi ev) (hk : 0 ≤ k) (hf : 10000000 < fi + k * ev) :
    Calls Try.prog 20 #[.agg #[.int .i64 id, .int .i64 ax, .int .i64 ay, .int .i64 dr, .int .i64 nr, .int .i64 fi, .int .i64 ev], .int .i64 k] w fun e w' => e = .returned (.tuple #[.int .i64 0, .int .i64 3]) ∧ Below w.heap.size w w' := by
  have s1 := g0.f1
  have s2 := g0.f2
  have s3 := g0.e1
  have s4 := g0.e2
  have hq : (10000000 - fi) / ev < k := by
    have := (slot_le (fi := fi) (ev := ev) (k := k) s3)
    omega
  have q0 : 0 ≤ (10000000 - fi) / ev := Int.ediv_nonneg (by omega) (by omega)
  clear hf
  have H0 := Lib.hid (decide_eq_true g0)
  have K0 := Lib.hid g0
  clear g0
  go_enter Try.func20, Try.ntmps20
  go_wp2_with fail
  refine calls_named fun W hW => ?_
  obtain ⟨p1, hB⟩ := box1 hW
  clear hW
  (with_reducible refine (sValid_any _ _ _ _ _ _ _ _ H0.out).mono ?_)
  rintro e w1 ⟨rfl, hb1⟩
  have q1 := cellsL p1
  clear p1
  have hW1 := hb1
  have hB1 := below_step hB hW1
  go_wp2_with fail
  go_ret2
  exact ⟨rfl, hB1⟩
theorem sSlot_yes (id ax ay dr nr fi ev k : Int) (w : World) (g0 : Stn id ax ay dr nr fi ev) (hk : 0 ≤ k) (hf : fi + k * ev ≤ 10000000) {z : Int} (hz : fi + k * ev = z) :
    Calls Try.prog 20 #[.agg #[.int .i64 id, .int .i64 ax, .int .i64 ay, .int .i64 dr, .int .i64 nr, .int .i64 fi, .int .i64 ev], .int .i64 k] w fun e w' => e = .returned (.tuple #[.int .i64 z, .int .i64 0]) ∧ Below w.heap.size w w' := by
  have s1 := g0.f1
  have s2 := g0.f2
  have s3 := g0.e1
  have s4 := g0.e2
  subst hz
  have hq := (slot_le (fi := fi) (ev := ev) (k := k) s3).2 hf
  have q0 : 0 ≤ (10000000 - fi) / ev := Int.ediv_nonneg (by omega) (by omega)
  have m0 : 0 ≤ k * ev := Int.mul_nonneg (by omega) (by omega)
  have H0 := Lib.hid (decide_eq_true g0)
  have K0 := Lib.hid g0
  clear g0
  go_enter Try.func20, Try.ntmps20
  go_wp2_with fail
  refine calls_named fun W hW => ?_
  obtain ⟨p1, hB⟩ := box1 hW
  clear hW
  (with_reducible refine (sValid_any _ _ _ _ _ _ _ _ H0.out).mono ?_)
  rintro e w1 ⟨rfl, hb1⟩
  have q1 := cellsL p1
  clear p1
  have hW1 := hb1
  have hB1 := below_step hB hW1
  go_wp2_with fail
  go_ret2
  exact ⟨rfl, hB1⟩
end Go.Proofs.Ytnidacjmgekdjaa
