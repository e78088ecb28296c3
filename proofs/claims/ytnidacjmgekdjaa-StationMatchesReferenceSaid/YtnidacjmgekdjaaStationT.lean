/- The walks of the reference's exported functions of chapter 31: the same contracts as the program's. -/
import Derived.Test.YtnidacjmgekdjaaStationS
import Derived.IntWalk
import Derived.Deep.CutRange
namespace Go.Proofs.Ytnidacjmgekdjaa
open Go.RowKit
attribute [local go_sem] bqOp bqAll bqUpon
attribute [local irreducible] wpQuiet wpBQ
set_option linter.unusedVariables false
theorem r31Light_no (dn dk t : Int) (w : World) (hv : ¬ (Sn dn dk ∧ Tm t)) :
    Calls Try.prog 15 #[.agg #[.int .i64 dn, .int .i64 dk], .int .i64 t] w fun e w' => e = .returned (.tuple #[.bool false, .int .i64 1]) ∧ Below w.heap.size w w' := by
  have HV := Lib.hid hv
  clear hv
  obtain ⟨v0, h0⟩ : ∃ v, decide (Sn dn dk) = v := ⟨_, rfl⟩
  have H0 := Lib.hid h0
  clear h0
  obtain ⟨v1, h1⟩ : ∃ v, decide (Tm t) = v := ⟨_, rfl⟩
  have H1 := Lib.hid h1
  clear h1
  go_enter Try.func15, Try.ntmps15
  go_wp2_with fail
  refine calls_named fun W hW => ?_
  obtain ⟨p1, hB⟩ := box1 hW
  clear hW
  (with_reducible refine (r31Sun_any _ _ _ H0.out).mono ?_)
  rintro e w1 ⟨rfl, hb1⟩
  have q1 := cellsL p1
  clear p1
  have hW1 := hb1
  have hB1 := below_step hB hW1
  cases v0
  · go_wp2_with fail
    go_ret2
    exact ⟨rfl, hB1⟩
  go_wp2_with fail
  (with_reducible refine (r31Time_any _ _ H1.out).mono ?_)
  rintro e w2 ⟨rfl, hb2⟩
  have hW2 := below_step hW1 hb2
  have hB2 := below_step hB hW2
  cases v1
  · go_wp2_with fail
    go_ret2
    exact ⟨rfl, hB2⟩
  exact (HV.out ⟨of_decide_eq_true H0.out, of_decide_eq_true H1.out⟩).elim
theorem r31Light_yes (dn dk t : Int) (w : World) (g0 : Sn dn dk) (g1 : Tm t) {v : Bool} (hv : dayB dn dk t = v) :
    Calls Try.prog 15 #[.agg #[.int .i64 dn, .int .i64 dk], .int .i64 t] w fun e w' => e = .returned (.tuple #[.bool v, .int .i64 0]) ∧ Below w.heap.size w w' := by
  have HV := Lib.hid hv
  clear hv
  have H0 := Lib.hid (decide_eq_true g0)
  have K0 := Lib.hid g0
  have H1 := Lib.hid (decide_eq_true g1)
  have K1 := Lib.hid g1
  clear g0 g1
  go_enter Try.func15, Try.ntmps15
  go_wp2_with fail
  refine calls_named fun W hW => ?_
  obtain ⟨p1, hB⟩ := box1 hW
  clear hW
  (with_reducible refine (r31Sun_any _ _ _ H0.out).mono ?_)
  rintro e w1 ⟨rfl, hb1⟩
  have q1 := cellsL p1
  clear p1
  have hW1 := hb1
  have hB1 := below_step hB hW1
  go_wp2_with fail
  (with_reducible refine (r31Time_any _ _ H1.out).mono ?_)
  rintro e w2 ⟨rfl, hb2⟩
  have hW2 := below_step hW1 hb2
  have hB2 := below_step hB hW2
  go_wp2_with fail
  (with_reducible refine (r31Day_any _ _ _ _ K1.out HV.out).mono ?_)
  rintro e w3 ⟨rfl, hb3⟩
  go_wp2_with fail
  go_ret2
  exact ⟨rfl, below_step hB2 hb3⟩
theorem r31Range_no (id ax ay dr nr fi ev dn dk t : Int) (w : World) (hv : ¬ (Stn id ax ay dr nr fi ev ∧ Sn dn dk ∧ Tm t)) :
    Calls Try.prog 17 #[.agg #[.int .i64 id, .int .i64 ax, .int .i64 ay, .int .i64 dr, .int .i64 nr, .int .i64 fi, .int .i64 ev], .agg #[.int .i64 dn, .int .i64 dk], .int .i64 t] w fun e w' => e = .returned (.tuple #[.int .i64 0, .int .i64 1]) ∧ Below w.heap.size w w' := by
  have HV := Lib.hid hv
  clear hv
  obtain ⟨v0, h0⟩ : ∃ v, decide (Stn id ax ay dr nr fi ev) = v := ⟨_, rfl⟩
  have H0 := Lib.hid h0
  clear h0
  obtain ⟨v1, h1⟩ : ∃ v, decide (Sn dn dk) = v := ⟨_, rfl⟩
  have H1 := Lib.hid h1
  clear h1
  obtain ⟨v2, h2⟩ : ∃ v, decide (Tm t) = v := ⟨_, rfl⟩
  have H2 := Lib.hid h2
  clear h2
  go_enter Try.func17, Try.ntmps17
  go_wp2_with fail
  refine calls_named fun W hW => ?_
  obtain ⟨p1, p2, hB⟩ := box2 hW
  clear hW
  (with_reducible refine (r31Valid_any _ _ _ _ _ _ _ _ H0.out).mono ?_)
  rintro e w1 ⟨rfl, hb1⟩
  have q1 := cellsL p1
  have q2 := cellsL p2
  clear p1 p2
  have hW1 := hb1
  have hB1 := below_step hB hW1
  cases v0
  · go_wp2_with fail
    go_ret2
    exact ⟨rfl, hB1⟩
  go_wp2_with fail
  (with_reducible refine (r31Sun_any _ _ _ H1.out).mono ?_)
  rintro e w2 ⟨rfl, hb2⟩
  have hW2 := below_step hW1 hb2
  have hB2 := below_step hB hW2
  cases v1
  · go_wp2_with fail
    go_ret2
    exact ⟨rfl, hB2⟩
  go_wp2_with fail
  (with_reducible refine (r31Time_any _ _ H2.out).mono ?_)
  rintro e w3 ⟨rfl, hb3⟩
  have hW3 := below_step hW2 hb3
  have hB3 := below_step hB hW3
  cases v2
  · go_wp2_with fail
    go_ret2
    exact ⟨rfl, hB3⟩
  exact (HV.out ⟨of_decide_eq_true H0.out, of_decide_eq_true H1.out, of_decide_eq_true H2.out⟩).elim
theorem r31Range_yes (id ax ay dr nr fi ev dn dk t : Int) (w : World) (g0 : Stn id ax ay dr nr fi ev) (g1 : Sn dn dk) (g2 : Tm t) {n : Int} (hn : farI dn dk dr nr t = n) :
    Calls Try.prog 17 #[.agg #[.int .i64 id, .int .i64 ax, .int .i64 ay, .int .i64 dr, .int .i64 nr, .int .i64 fi, .int .i64 ev], .agg #[.int .i64 dn, .int .i64 dk], .int .i64 t] w fun e w' => e = .returned (.tuple #[.int .i64 n, .int .i64 0]) ∧ Below w.heap.size w w' := by
  have HN := Lib.hid hn
  clear hn
  have H0 := Lib.hid (decide_eq_true g0)
  have K0 := Lib.hid g0
  have H1 := Lib.hid (decide_eq_true g1)
  have K1 := Lib.hid g1
  have H2 := Lib.hid (decide_eq_true g2)
  have K2 := Lib.hid g2
  clear g0 g1 g2
  go_enter Try.func17, Try.ntmps17
  go_wp2_with fail
  refine calls_named fun W hW => ?_
  obtain ⟨p1, p2, hB⟩ := box2 hW
  clear hW
  (with_reducible refine (r31Valid_any _ _ _ _ _ _ _ _ H0.out).mono ?_)
  rintro e w1 ⟨rfl, hb1⟩
  have q1 := cellsL p1
  have q2 := cellsL p2
  clear p1 p2
  have hW1 := hb1
  have hB1 := below_step hB hW1
  go_wp2_with fail
  (with_reducible refine (r31Sun_any _ _ _ H1.out).mono ?_)
  rintro e w2 ⟨rfl, hb2⟩
  have hW2 := below_step hW1 hb2
  have hB2 := below_step hB hW2
  go_wp2_with fail
  (with_reducible refine (r31Time_any _ _ H2.out).mono ?_)
  rintro e w3 ⟨rfl, hb3⟩
  have hW3 := below_step hW2 hb3
  have hB3 := below_step hB hW3
  go_wp2_with fail
  (with_reducible refine (r31Far_any _ _ _ _ _ _ _ _ _ _ _ K2.out HN.out).mono ?_)
  rintro e w4 ⟨rfl, hb4⟩
  go_wp2_with fail
  go_ret2
  exact ⟨rfl, below_step hB3 hb4⟩
theorem r31Hears_no (id ax ay dr nr fi ev dn dk xl xh yl yh t : Int) (w : World) (hv : ¬ (Stn id ax ay dr nr fi ev ∧ Sn dn dk ∧ Bx xl xh yl yh ∧ Tm t)) :
    Calls Try.prog 19 #[.agg #[.int .i64 id, .int .i64 ax, .int .i64 ay, .int .i64 dr, .int .i64 nr, .int .i64 fi, .int .i64 ev], .agg #[.int .i64 dn, .int .i64 dk], .agg #[.int .i64 xl, .int .i64 xh, .int .i64 yl, .int .i64 yh], .int .i64 t] w fun e w' => e = .returned (.tuple #[.int .i64 0, .int .i64 1]) ∧ Below w.heap.size w w' := by
  have HV := Lib.hid hv
  clear hv
  obtain ⟨v0, h0⟩ : ∃ v, decide (Stn id ax ay dr nr fi ev) = v := ⟨_, rfl⟩
  have H0 := Lib.hid h0
  clear h0
  obtain ⟨v1, h1⟩ : ∃ v, decide (Sn dn dk) = v := ⟨_, rfl⟩
  have H1 := Lib.hid h1
  clear h1
  obtain ⟨v2, h2⟩ : ∃ v, decide (Bx xl xh yl yh) = v := ⟨_, rfl⟩
  have H2 := Lib.hid h2
  clear h2
  obtain ⟨v3, h3⟩ : ∃ v, decide (Tm t) = v := ⟨_, rfl⟩
  have H3 := Lib.hid h3
  clear h3
  go_enter Try.func19, Try.ntmps19
  go_wp2_with fail
  refine calls_named fun W hW => ?_
  obtain ⟨p1, p2, p3, hB⟩ := box3 hW
  clear hW
  (with_reducible refine (r31Valid_any _ _ _ _ _ _ _ _ H0.out).mono ?_)
  rintro e w1 ⟨rfl, hb1⟩
  have q1 := cellsL p1
  have q2 := cellsL p2
  have q3 := cellsL p3
  clear p1 p2 p3
  have hW1 := hb1
  have hB1 := below_step hB hW1
  cases v0
  · go_wp2_with fail
    go_ret2
    exact ⟨rfl, hB1⟩
  go_wp2_with fail
  (with_reducible refine (r31Sun_any _ _ _ H1.out).mono ?_)
  rintro e w2 ⟨rfl, hb2⟩
  have hW2 := below_step hW1 hb2
  have hB2 := below_step hB hW2
  cases v1
  · go_wp2_with fail
    go_ret2
    exact ⟨rfl, hB2⟩
  go_wp2_with fail
  (with_reducible refine (r2ValidBox_any _ _ _ _ _ H2.out).mono ?_)
  rintro e w3 ⟨rfl, hb3⟩
  have hW3 := below_step hW2 hb3
  have hB3 := below_step hB hW3
  cases v2
  · go_wp2_with fail
    go_ret2
    exact ⟨rfl, hB3⟩
  go_wp2_with fail
  (with_reducible refine (r31Time_any _ _ H3.out).mono ?_)
  rintro e w4 ⟨rfl, hb4⟩
  have hW4 := below_step hW3 hb4
  have hB4 := below_step hB hW4
  cases v3
  · go_wp2_with fail
    go_ret2
    exact ⟨rfl, hB4⟩
  exact (HV.out ⟨of_decide_eq_true H0.out, of_decide_eq_true H1.out, of_decide_eq_true H2.out, of_decide_eq_true H3.out⟩).elim
theorem r31Hears_yes (id ax ay dr nr fi ev dn dk xl xh yl yh t : Int) (w : World) (g0 : Stn id ax ay dr nr fi ev) (g1 : Sn dn dk) (g2 : Bx xl xh yl yh) (g3 : Tm t) {h : Int} (hh : hearsI ax ay xl xh yl yh (farI dn dk dr nr t) = h) :
    Calls Try.prog 19 #[.agg #[.int .i64 id, .int .i64 ax, .int .i64 ay, .int .i64 dr, .int .i64 nr, .int .i64 fi, .int .i64 ev], .agg #[.int .i64 dn, .int .i64 dk], .agg #[.int .i64 xl, .int .i64 xh, .int .i64 yl, .int .i64 yh], .int .i64 t] w fun e w' => e = .returned (.tuple #[.int .i64 h, .int .i64 0]) ∧ Below w.heap.size w w' := by
  obtain ⟨n, hn⟩ : ∃ n, farI dn dk dr nr t = n := ⟨_, rfl⟩
  have fb := farI_bd (dn := dn) (dk := dk) (t := t) ⟨g0.d1, g0.d2⟩ ⟨g0.n1, g0.n2⟩
  rw [hn] at fb hh
  obtain ⟨fb0, fb1⟩ := fb
  obtain ⟨v1, e1⟩ : ∃ v, allB ax ay xl xh yl yh n = v := ⟨_, rfl⟩
  obtain ⟨v2, e2⟩ : ∃ v, someB ax ay xl xh yl yh n = v := ⟨_, rfl⟩
  unfold hearsI at hh
  rw [e1, e2] at hh
  have HN := Lib.hid hn
  have V1 := Lib.hid e1
  have V2 := Lib.hid e2
  have HH := Lib.hid hh
  clear e1 e2 hh hn
  have H0 := Lib.hid (decide_eq_true g0)
  have K0 := Lib.hid g0
  have H1 := Lib.hid (decide_eq_true g1)
  have K1 := Lib.hid g1
  have H2 := Lib.hid (decide_eq_true g2)
  have K2 := Lib.hid g2
  have H3 := Lib.hid (decide_eq_true g3)
  have K3 := Lib.hid g3
  clear g0 g1 g2 g3
  go_enter Try.func19, Try.ntmps19
  go_wp2_with fail
  refine calls_named fun W hW => ?_
  obtain ⟨p1, p2, p3, hB⟩ := box3 hW
  clear hW
  (with_reducible refine (r31Valid_any _ _ _ _ _ _ _ _ H0.out).mono ?_)
  rintro e w1 ⟨rfl, hb1⟩
  have q1 := cellsL p1
  have q2 := cellsL p2
  have q3 := cellsL p3
  clear p1 p2 p3
  have hW1 := hb1
  have hB1 := below_step hB hW1
  go_wp2_with fail
  (with_reducible refine (r31Sun_any _ _ _ H1.out).mono ?_)
  rintro e w2 ⟨rfl, hb2⟩
  have hW2 := below_step hW1 hb2
  have hB2 := below_step hB hW2
  go_wp2_with fail
  (with_reducible refine (r2ValidBox_any _ _ _ _ _ H2.out).mono ?_)
  rintro e w3 ⟨rfl, hb3⟩
  have hW3 := below_step hW2 hb3
  have hB3 := below_step hB hW3
  go_wp2_with fail
  (with_reducible refine (r31Time_any _ _ H3.out).mono ?_)
  rintro e w4 ⟨rfl, hb4⟩
  have hW4 := below_step hW3 hb4
  have hB4 := below_step hB hW4
  go_wp2_with fail
  (with_reducible refine (r31Far_any _ _ _ _ _ _ _ _ _ _ _ K3.out HN.out).mono ?_)
  rintro e w5 ⟨rfl, hb5⟩
  have hW5 := below_step hW4 hb5
  have hB5 := below_step hB hW5
  go_wp2_with fail
  (with_reducible refine (r31All_any _ _ _ _ _ _ _ _ K0.out.at' K2.out fb0 fb1 V1.out).mono ?_)
  rintro e w6 ⟨rfl, hb6⟩
  have hW6 := below_step hW5 hb6
  have hB6 := below_step hB hW6
  cases v1
  case true =>
    have hh := HH.out
    simp at hh
    subst hh
    go_wp2_with fail
    go_ret2
    exact ⟨rfl, hB6⟩
  go_wp2_with fail
  (with_reducible refine (r31Some_any _ _ _ _ _ _ _ _ K0.out.at' K2.out fb0 fb1 V2.out).mono ?_)
  rintro e w7 ⟨rfl, hb7⟩
  have hB7 := below_step hB6 hb7
  cases v2
  all_goals
    have hh := HH.out
    simp at hh
    subst hh
    go_wp2_with fail
    go_ret2
    exact ⟨rfl, hB7⟩
theorem r31Slot_any (id ax ay dr nr fi ev k : Int) (w : World) {v e : Int} (h : slotR id ax ay dr nr fi ev k = (v, e)) :
    Calls Try.prog 21 #[.agg #[.int .i64 id, .int .i64 ax, .int .i64 ay, .int .i64 dr, .int .i64 nr, .int .i64 fi, .int .i64 ev], .int .i64 k] w fun x w' => x = .returned (.tuple #[.int .i64 v, .int .i64 e]) ∧ Below w.heap.size w w' := by
  unfold slotR at h
  obtain ⟨v0, g0⟩ : ∃ v0, decide (Stn id ax ay dr nr fi ev) = v0 := ⟨_, rfl⟩
  have G0 := Lib.hid g0
  have HH := Lib.hid h
  clear g0 h
  go_enter Try.func21, Try.ntmps21
  go_wp2_with fail
  refine calls_named fun W hW => ?_
  obtain ⟨p1, hB⟩ := box1 hW
  clear hW
  have q1 := cellsL p1
  clear p1
  (with_reducible refine (r31Valid_any _ _ _ _ _ _ _ _ G0.out).mono ?_)
  rintro e w1 ⟨rfl, hb1⟩
  cases v0
  · have h := HH.out
    rw [if_neg (fun x => of_decide_eq_false G0.out x.1)] at h
    cases h
    clear HH
    go_wp2_with fail
    go_ret2
    exact ⟨rfl, below_step hB hb1⟩
  by_cases k0 : k < 0
  · have h := HH.out
    rw [if_neg (fun x => by have := x.2; omega)] at h
    cases h
    clear HH
    go_wp2_with fail
    go_ret2
    exact ⟨rfl, below_step hB hb1⟩
  · have k1 : 0 ≤ k := by omega
    have k0' : decide (k < 0) = false := by simpa using k0
    have st := of_decide_eq_true G0.out
    have f1 := st.f1
    have f2 := st.f2
    have e1 := st.e1
    have e2 := st.e2
    have h := HH.out
    rw [if_pos ⟨st, k1⟩] at h
    have hm := Int.mul_le_mul_of_nonneg_left (c := k) e1 k1
    clear HH st
    by_cases k2 : 10000000 < k
    · rw [if_neg (by omega)] at h
      cases h
      clear hm
      go_wp2_with fail
      go_ret2
      exact ⟨rfl, below_step hB hb1⟩
    · have k2' : decide (10000000 < k) = false := by simpa using k2
      have m0 := Int.mul_nonneg k1 (show 0 ≤ ev by omega)
      have m1 := Int.mul_le_mul_of_nonneg_left (c := k) e2 k1
      obtain ⟨kk, hkk⟩ : ∃ kk, k * ev = kk := ⟨_, rfl⟩
      rw [hkk] at h m0 m1 hm
      obtain ⟨v1, g1⟩ : ∃ v1, decide (Tm (fi + kk)) = v1 := ⟨_, rfl⟩
      have G1 := Lib.hid g1
      clear g1
      go_wp2_with fail
      (with_reducible refine (r31Time_any _ _ G1.out).mono ?_)
      rintro e w2 ⟨rfl, hb2⟩
      have hB2 := below_step hb1 hb2
      cases v1
      · rw [if_neg (fun x => of_decide_eq_false G1.out ⟨by omega, x⟩)] at h
        cases h
        go_wp2_with fail
        go_ret2
        exact ⟨rfl, below_step hB hB2⟩
      · rw [if_pos (of_decide_eq_true G1.out).2] at h
        cases h
        go_wp2_with fail
        go_ret2
        exact ⟨rfl, below_step hB hB2⟩
theorem r31Slots_no (id ax ay dr nr fi ev t t2 : Int) (w : World) (hv : ¬ (Stn id ax ay dr nr fi ev ∧ Tm t ∧ Tm t2)) :
    Calls Try.prog 23 #[.agg #[.int .i64 id, .int .i64 ax, .int .i64 ay, .int .i64 dr, .int .i64 nr, .int .i64 fi, .int .i64 ev], .int .i64 t, .int .i64 t2] w fun e w' => e = .returned (.tuple #[.agg #[.int .i64 0, .int .i64 0], .int .i64 1]) ∧ Below w.heap.size w w' := by
  have HV := Lib.hid hv
  clear hv
  obtain ⟨v0, h0⟩ : ∃ v, decide (Stn id ax ay dr nr fi ev) = v := ⟨_, rfl⟩
  have H0 := Lib.hid h0
  clear h0
  obtain ⟨v1, h1⟩ : ∃ v, decide (Tm t) = v := ⟨_, rfl⟩
  have H1 := Lib.hid h1
  clear h1
  obtain ⟨v2, h2⟩ : ∃ v, decide (Tm t2) = v := ⟨_, rfl⟩
  have H2 := Lib.hid h2
  clear h2
  go_enter Try.func23, Try.ntmps23
  go_wp2_with fail
  refine calls_named fun W hW => ?_
  obtain ⟨p1, p2, hB⟩ := box2 hW
  clear hW
  (with_reducible refine (r31Valid_any _ _ _ _ _ _ _ _ H0.out).mono ?_)
  rintro e w1 ⟨rfl, hb1⟩
  have q1 := cellsL p1
  have PC := Lib.hid p2
  clear p1 p2
  have hW1 := hb1
  have hB1 := below_step hB hW1
  cases v0
  · have f9 := free_block (block_later hW1 PC.out)
    have c8 := cell_block (block_later hW1 PC.out)
    go_wp2_with fail
    have c9 := cell_block (block_set (i := 1) (block_set (i := 0) (block_later hW1 PC.out) (.int .i64 0)) (.int .i64 0))
    exact bodyPost_ret (v := .tuple #[.agg #[.int .i64 0, .int .i64 0], .int .i64 1]) (by simp [results, Try.results23, go_sem, c9]) rfl ⟨rfl, (hB1.setCell (by dsimp only; omega) _).setCell (by dsimp only; omega) _⟩
  go_wp2_with fail
  (with_reducible refine (r31Time_any _ _ H1.out).mono ?_)
  rintro e w2 ⟨rfl, hb2⟩
  have hW2 := below_step hW1 hb2
  have hB2 := below_step hB hW2
  cases v1
  · have f9 := free_block (block_later hW2 PC.out)
    have c8 := cell_block (block_later hW2 PC.out)
    go_wp2_with fail
    have c9 := cell_block (block_set (i := 1) (block_set (i := 0) (block_later hW2 PC.out) (.int .i64 0)) (.int .i64 0))
    exact bodyPost_ret (v := .tuple #[.agg #[.int .i64 0, .int .i64 0], .int .i64 1]) (by simp [results, Try.results23, go_sem, c9]) rfl ⟨rfl, (hB2.setCell (by dsimp only; omega) _).setCell (by dsimp only; omega) _⟩
  go_wp2_with fail
  (with_reducible refine (r31Time_any _ _ H2.out).mono ?_)
  rintro e w3 ⟨rfl, hb3⟩
  have hW3 := below_step hW2 hb3
  have hB3 := below_step hB hW3
  cases v2
  · have f9 := free_block (block_later hW3 PC.out)
    have c8 := cell_block (block_later hW3 PC.out)
    go_wp2_with fail
    have c9 := cell_block (block_set (i := 1) (block_set (i := 0) (block_later hW3 PC.out) (.int .i64 0)) (.int .i64 0))
    exact bodyPost_ret (v := .tuple #[.agg #[.int .i64 0, .int .i64 0], .int .i64 1]) (by simp [results, Try.results23, go_sem, c9]) rfl ⟨rfl, (hB3.setCell (by dsimp only; omega) _).setCell (by dsimp only; omega) _⟩
  exact (HV.out ⟨of_decide_eq_true H0.out, of_decide_eq_true H1.out, of_decide_eq_true H2.out⟩).elim
theorem r31Slots_gt (id ax ay dr nr fi ev t t2 : Int) (w : World) (g0 : Stn id ax ay dr nr fi ev) (g1 : Tm t) (g2 : Tm t2) (hk : t2 < t) :
    Calls Try.prog 23 #[.agg #[.int .i64 id, .int .i64 ax, .int .i64 ay, .int .i64 dr, .int .i64 nr, .int .i64 fi, .int .i64 ev], .int .i64 t, .int .i64 t2] w fun e w' => e = .returned (.tuple #[.agg #[.int .i64 0, .int .i64 0], .int .i64 1]) ∧ Below w.heap.size w w' := by
  have H0 := Lib.hid (decide_eq_true g0)
  have K0 := Lib.hid g0
  have H1 := Lib.hid (decide_eq_true g1)
  have K1 := Lib.hid g1
  have H2 := Lib.hid (decide_eq_true g2)
  have K2 := Lib.hid g2
  clear g0 g1 g2
  go_enter Try.func23, Try.ntmps23
  go_wp2_with fail
  refine calls_named fun W hW => ?_
  obtain ⟨p1, p2, hB⟩ := box2 hW
  clear hW
  (with_reducible refine (r31Valid_any _ _ _ _ _ _ _ _ H0.out).mono ?_)
  rintro e w1 ⟨rfl, hb1⟩
  have q1 := cellsL p1
  have P1 := Lib.hid p1
  have PC := Lib.hid p2
  clear p1 p2
  have hW1 := hb1
  have hB1 := below_step hB hW1
  go_wp2_with fail
  (with_reducible refine (r31Time_any _ _ H1.out).mono ?_)
  rintro e w2 ⟨rfl, hb2⟩
  have hW2 := below_step hW1 hb2
  have hB2 := below_step hB hW2
  go_wp2_with fail
  (with_reducible refine (r31Time_any _ _ H2.out).mono ?_)
  rintro e w3 ⟨rfl, hb3⟩
  have hW3 := below_step hW2 hb3
  have hB3 := below_step hB hW3
  have f9 := free_block (block_later hW3 PC.out)
  have c8 := cell_block (block_later hW3 PC.out)
  go_wp2_with fail
  have c9 := cell_block (block_set (i := 1) (block_set (i := 0) (block_later hW3 PC.out) (.int .i64 0)) (.int .i64 0))
  exact bodyPost_ret (v := .tuple #[.agg #[.int .i64 0, .int .i64 0], .int .i64 1]) (by simp [results, Try.results23, go_sem, c9]) rfl ⟨rfl, (hB3.setCell (by dsimp only; omega) _).setCell (by dsimp only; omega) _⟩
set_option maxHeartbeats 1000000 in
theorem r31Slots_none (id ax ay dr nr fi ev t t2 : Int) (w : World) (g0 : Stn id ax ay dr nr fi ev) (g1 : Tm t) (g2 : Tm t2) (hk : t ≤ t2) {a b : Int} (h1 : aheadI fi ev t = a) (h2 : aheadI fi ev t2 = b) (hab : a = b) :
    Calls Try.prog 23 #[.agg #[.int .i64 id, .int .i64 ax, .int .i64 ay, .int .i64 dr, .int .i64 nr, .int .i64 fi, .int .i64 ev], .int .i64 t, .int .i64 t2] w fun e w' => e = .returned (.tuple #[.agg #[.int .i64 0, .int .i64 0], .int .i64 4]) ∧ Below w.heap.size w w' := by
  have L1 := Lib.hid h1
  have L2 := Lib.hid h2
  have bd1 := aheadI_bd (t := t) g0.f1 g1.2 g0.e1 g0.e2
  have bd2 := aheadI_bd (t := t2) g0.f1 g2.2 g0.e1 g0.e2
  have am := ahead_mono (fi := fi) g0.e1 hk
  rw [h1] at bd1 am
  rw [h2] at bd2 am
  have jw : IntKind.i64.wrap (b - 1) = b - 1 := IntWalk.i64_in _ (by omega)
  clear h1 h2
  have gt : b - 1 < a := by omega
  clear hab
  have H0 := Lib.hid (decide_eq_true g0)
  have K0 := Lib.hid g0
  have H1 := Lib.hid (decide_eq_true g1)
  have K1 := Lib.hid g1
  have H2 := Lib.hid (decide_eq_true g2)
  have K2 := Lib.hid g2
  clear g0 g1 g2
  go_enter Try.func23, Try.ntmps23
  go_wp2_with fail
  refine calls_named fun W hW => ?_
  obtain ⟨p1, p2, hB⟩ := box2 hW
  clear hW
  (with_reducible refine (r31Valid_any _ _ _ _ _ _ _ _ H0.out).mono ?_)
  rintro e w1 ⟨rfl, hb1⟩
  have P1 := Lib.hid p1
  have PC := Lib.hid p2
  clear p1 p2
  have hW1 := hb1
  have hB1 := below_step hB hW1
  go_wp2_with fail
  (with_reducible refine (r31Time_any _ _ H1.out).mono ?_)
  rintro e w2 ⟨rfl, hb2⟩
  have hW2 := below_step hW1 hb2
  have hB2 := below_step hB hW2
  go_wp2_with fail
  (with_reducible refine (r31Time_any _ _ H2.out).mono ?_)
  rintro e w3 ⟨rfl, hb3⟩
  have hW3 := below_step hW2 hb3
  have hB3 := below_step hB hW3
  go_wp2_with fail
  have q1 := cellsR (block_later hW3 P1.out)
  refine wp_region_tail 8 9 43 (fun _ => .cells #[.int .i64 0, .int .i64 0] 29) (by kernel_rfl) (by omega) (by kernel_rfl) (by kernel_rfl) (fun j o h1 h2 h3 ρ w => ?_) (by rfl) ?_
  · obtain rfl : j = 8 := by omega
    simp only [List.getElem?_cons_succ, List.getElem?_cons_zero, Option.some.injEq] at h3; subst h3; clear q1; unfold ptr; go_simp
  simp only [List.take_succ_cons, List.take_zero, List.drop_succ_cons, List.drop_zero]
  (repeat (refine wpBQ_step (fun K hK => ?_); replace hK := Lib.hid hK; go_simp; first | (refine hK.out _ ?_; clear hK K) | (apply Exists.intro; refine ⟨fun _ => ?_, hK.out _ ?_⟩; (first | (go_at_call 51; exact r31Behind_any _ _ _ _ _ _ _ _ _ K0.out (by first | with_reducible exact K1.out | with_reducible exact K2.out) (by first | with_reducible exact L1.out | with_reducible exact L2.out))); clear hK K)))
  refine wpBQ_nil ?_
  intro b9 W5 hW5 hob hne
  have o9 : w3.heap.size ≤ b9 ∧ W5.heap[b9]? = some (.cells #[.int .i64 0, .int .i64 0] 29) := hob 8 (by omega) (by omega)
  clear hob hne q1
  have l9 := o9.1
  have c9 := cell_block o9.2
  have f9 := free_block o9.2
  have O9 := Lib.hid o9.2
  clear o9
  simp only [ptr]
  go_upto_region 4 with (fail)
  refine wp_named fun W4 hW4 => ?_
  have hX4 : Below w3.heap.size w3 W4 := by rw [hW4]; exact (hW5.setCell l9 _).setCell l9 _
  have p9 : W4.heap[b9]? = some (.cells #[.int .i64 a, .int .i64 (b - 1)] 29) := by rw [hW4]; exact block_set (block_set O9.out _) _
  clear hW4 c9 f9 O9 hW5 l9
  have hW4 := below_step hW3 hX4
  have hB4 := below_step hB hW4
  have c7 := cell_block p9
  clear p9
  have f9 := free_block (block_later hW4 PC.out)
  have c8 := cell_block (block_later hW4 PC.out)
  go_wp2_with fail
  have c9 := cell_block (block_set (i := 1) (block_set (i := 0) (block_later hW4 PC.out) (.int .i64 0)) (.int .i64 0))
  exact bodyPost_ret (v := .tuple #[.agg #[.int .i64 0, .int .i64 0], .int .i64 4]) (by simp [results, Try.results23, go_sem, c9]) rfl ⟨rfl, (hB4.setCell (by dsimp only; omega) _).setCell (by dsimp only; omega) _⟩
set_option maxHeartbeats 1000000 in
theorem r31Slots_yes (id ax ay dr nr fi ev t t2 : Int) (w : World) (g0 : Stn id ax ay dr nr fi ev) (g1 : Tm t) (g2 : Tm t2) (hk : t ≤ t2) {a b c : Int} (h1 : aheadI fi ev t = a) (h2 : aheadI fi ev t2 = b) (hab : a ≠ b) (hc : b - 1 = c) :
    Calls Try.prog 23 #[.agg #[.int .i64 id, .int .i64 ax, .int .i64 ay, .int .i64 dr, .int .i64 nr, .int .i64 fi, .int .i64 ev], .int .i64 t, .int .i64 t2] w fun e w' => e = .returned (.tuple #[.agg #[.int .i64 a, .int .i64 c], .int .i64 0]) ∧ Below w.heap.size w w' := by
  have L1 := Lib.hid h1
  have L2 := Lib.hid h2
  have bd1 := aheadI_bd (t := t) g0.f1 g1.2 g0.e1 g0.e2
  have bd2 := aheadI_bd (t := t2) g0.f1 g2.2 g0.e1 g0.e2
  have am := ahead_mono (fi := fi) g0.e1 hk
  rw [h1] at bd1 am
  rw [h2] at bd2 am
  have jw : IntKind.i64.wrap (b - 1) = b - 1 := IntWalk.i64_in _ (by omega)
  clear h1 h2
  subst hc
  have le : a ≤ b - 1 := by omega
  have gt : decide (b - 1 < a) = false := by simp; omega
  clear hab
  have H0 := Lib.hid (decide_eq_true g0)
  have K0 := Lib.hid g0
  have H1 := Lib.hid (decide_eq_true g1)
  have K1 := Lib.hid g1
  have H2 := Lib.hid (decide_eq_true g2)
  have K2 := Lib.hid g2
  clear g0 g1 g2
  go_enter Try.func23, Try.ntmps23
  go_wp2_with fail
  refine calls_named fun W hW => ?_
  obtain ⟨p1, p2, hB⟩ := box2 hW
  clear hW
  (with_reducible refine (r31Valid_any _ _ _ _ _ _ _ _ H0.out).mono ?_)
  rintro e w1 ⟨rfl, hb1⟩
  have P1 := Lib.hid p1
  have PC := Lib.hid p2
  clear p1 p2
  have hW1 := hb1
  have hB1 := below_step hB hW1
  go_wp2_with fail
  (with_reducible refine (r31Time_any _ _ H1.out).mono ?_)
  rintro e w2 ⟨rfl, hb2⟩
  have hW2 := below_step hW1 hb2
  have hB2 := below_step hB hW2
  go_wp2_with fail
  (with_reducible refine (r31Time_any _ _ H2.out).mono ?_)
  rintro e w3 ⟨rfl, hb3⟩
  have hW3 := below_step hW2 hb3
  have hB3 := below_step hB hW3
  go_wp2_with fail
  have q1 := cellsR (block_later hW3 P1.out)
  refine wp_region_tail 8 9 43 (fun _ => .cells #[.int .i64 0, .int .i64 0] 29) (by kernel_rfl) (by omega) (by kernel_rfl) (by kernel_rfl) (fun j o h1 h2 h3 ρ w => ?_) (by rfl) ?_
  · obtain rfl : j = 8 := by omega
    simp only [List.getElem?_cons_succ, List.getElem?_cons_zero, Option.some.injEq] at h3; subst h3; clear q1; unfold ptr; go_simp
  simp only [List.take_succ_cons, List.take_zero, List.drop_succ_cons, List.drop_zero]
  (repeat (refine wpBQ_step (fun K hK => ?_); replace hK := Lib.hid hK; go_simp; first | (refine hK.out _ ?_; clear hK K) | (apply Exists.intro; refine ⟨fun _ => ?_, hK.out _ ?_⟩; (first | (go_at_call 51; exact r31Behind_any _ _ _ _ _ _ _ _ _ K0.out (by first | with_reducible exact K1.out | with_reducible exact K2.out) (by first | with_reducible exact L1.out | with_reducible exact L2.out))); clear hK K)))
  refine wpBQ_nil ?_
  intro b9 W5 hW5 hob hne
  have o9 : w3.heap.size ≤ b9 ∧ W5.heap[b9]? = some (.cells #[.int .i64 0, .int .i64 0] 29) := hob 8 (by omega) (by omega)
  clear hob hne q1
  have l9 := o9.1
  have c9 := cell_block o9.2
  have f9 := free_block o9.2
  have O9 := Lib.hid o9.2
  clear o9
  simp only [ptr]
  go_upto_region 4 with (fail)
  refine wp_named fun W4 hW4 => ?_
  have hX4 : Below w3.heap.size w3 W4 := by rw [hW4]; exact (hW5.setCell l9 _).setCell l9 _
  have p9 : W4.heap[b9]? = some (.cells #[.int .i64 a, .int .i64 (b - 1)] 29) := by rw [hW4]; exact block_set (block_set O9.out _) _
  clear hW4 c9 f9 O9 hW5 l9
  have hW4 := below_step hW3 hX4
  have hB4 := below_step hB hW4
  have c7 := cell_block p9
  clear p9
  have f9 := free_block (block_later hW4 PC.out)
  have c8 := cell_block (block_later hW4 PC.out)
  go_wp2_with fail
  have c9 := cell_block (block_set (i := 1) (block_set (i := 0) (block_later hW4 PC.out) (.int .i64 a)) (.int .i64 (b - 1)))
  exact bodyPost_ret (v := .tuple #[.agg #[.int .i64 a, .int .i64 (b - 1)], .int .i64 0]) (by simp [results, Try.results23, go_sem, c9]) rfl ⟨rfl, (hB4.setCell (by dsimp only; omega) _).setCell (by dsimp only; omega) _⟩
theorem r31Next_no (id ax ay dr nr fi ev t : Int) (w : World) (hv : ¬ (Stn id ax ay dr nr fi ev ∧ Tm t)) :
    Calls Try.prog 28 #[.agg #[.int .i64 id, .int .i64 ax, .int .i64 ay, .int .i64 dr, .int .i64 nr, .int .i64 fi, .int .i64 ev], .int .i64 t] w fun e w' => e = .returned (.tuple #[.int .i64 0, .int .i64 1]) ∧ Below w.heap.size w w' := by
  have HV := Lib.hid hv
  clear hv
  obtain ⟨v0, h0⟩ : ∃ v, decide (Stn id ax ay dr nr fi ev) = v := ⟨_, rfl⟩
  have H0 := Lib.hid h0
  clear h0
  obtain ⟨v1, h1⟩ : ∃ v, decide (Tm t) = v := ⟨_, rfl⟩
  have H1 := Lib.hid h1
  clear h1
  go_enter Try.func28, Try.ntmps28
  go_wp2_with fail
  refine calls_named fun W hW => ?_
  obtain ⟨p1, hB⟩ := box1 hW
  clear hW
  (with_reducible refine (r31Valid_any _ _ _ _ _ _ _ _ H0.out).mono ?_)
  rintro e w1 ⟨rfl, hb1⟩
  have q1 := cellsL p1
  clear p1
  have hW1 := hb1
  have hB1 := below_step hB hW1
  cases v0
  · go_wp2_with fail
    go_ret2
    exact ⟨rfl, hB1⟩
  go_wp2_with fail
  (with_reducible refine (r31Time_any _ _ H1.out).mono ?_)
  rintro e w2 ⟨rfl, hb2⟩
  have hW2 := below_step hW1 hb2
  have hB2 := below_step hB hW2
  cases v1
  · go_wp2_with fail
    go_ret2
    exact ⟨rfl, hB2⟩
  exact (HV.out ⟨of_decide_eq_true H0.out, of_decide_eq_true H1.out⟩).elim
theorem r31Next_none (id ax ay dr nr fi ev t : Int) (w : World) (g0 : Stn id ax ay dr nr fi ev) (g1 : Tm t) {a : Int} (h1 : aheadI fi ev t = a) (hf : 10000000 < fi + a * ev) :
    Calls Try.prog 28 #[.agg #[.int .i64 id, .int .i64 ax, .int .i64 ay, .int .i64 dr, .int .i64 nr, .int .i64 fi, .int .i64 ev], .int .i64 t] w fun e w' => e = .returned (.tuple #[.int .i64 0, .int .i64 4]) ∧ Below w.heap.size w w' := by
  have L1 := Lib.hid h1
  have bd1 := aheadI_bd (t := t) g0.f1 g1.2 g0.e1 g0.e2
  rw [h1] at bd1
  have z1 := g0.f1
  have z2 := g0.f2
  have m0 := Int.mul_nonneg bd1.1 (show 0 ≤ ev by have := g0.e1; omega)
  have m1 := Int.mul_le_mul_of_nonneg_left (c := a) g0.e2 bd1.1
  obtain ⟨kk, hkk⟩ : ∃ kk, a * ev = kk := ⟨_, rfl⟩
  rw [hkk] at hf m0 m1
  have hd : decide (Tm (fi + kk)) = false := decide_eq_false (fun h => by have := h.2; omega)
  have F1 := Lib.hid hd
  clear h1 hf hd
  have H0 := Lib.hid (decide_eq_true g0)
  have K0 := Lib.hid g0
  have H1 := Lib.hid (decide_eq_true g1)
  have K1 := Lib.hid g1
  clear g0 g1
  go_enter Try.func28, Try.ntmps28
  go_wp2_with fail
  refine calls_named fun W hW => ?_
  obtain ⟨p1, hB⟩ := box1 hW
  clear hW
  (with_reducible refine (r31Valid_any _ _ _ _ _ _ _ _ H0.out).mono ?_)
  rintro e w1 ⟨rfl, hb1⟩
  have q1 := cellsL p1
  clear p1
  have hW1 := hb1
  have hB1 := below_step hB hW1
  go_wp2_with fail
  (with_reducible refine (r31Time_any _ _ H1.out).mono ?_)
  rintro e w2 ⟨rfl, hb2⟩
  have hW2 := below_step hW1 hb2
  have hB2 := below_step hB hW2
  go_wp2_with fail
  (with_reducible refine (r31Behind_any _ _ _ _ _ _ _ _ _ K0.out K1.out L1.out).mono ?_)
  rintro e w3 ⟨rfl, hb3⟩
  have hW3 := below_step hW2 hb3
  have hB3 := below_step hB hW3
  go_wp2_with fail
  (with_reducible refine (r31Time_any _ _ F1.out).mono ?_)
  rintro e w4 ⟨rfl, hb4⟩
  have hB4 := below_step hB3 hb4
  go_wp2_with fail
  go_ret2
  exact ⟨rfl, hB4⟩
theorem r31Next_yes (id ax ay dr nr fi ev t : Int) (w : World) (g0 : Stn id ax ay dr nr fi ev) (g1 : Tm t) {a : Int} (h1 : aheadI fi ev t = a) (hf : fi + a * ev ≤ 10000000) :
    Calls Try.prog 28 #[.agg #[.int .i64 id, .int .i64 ax, .int .i64 ay, .int .i64 dr, .int .i64 nr, .int .i64 fi, .int .i64 ev], .int .i64 t] w fun e w' => e = .returned (.tuple #[.int .i64 a, .int .i64 0]) ∧ Below w.heap.size w w' := by
  have L1 := Lib.hid h1
  have bd1 := aheadI_bd (t := t) g0.f1 g1.2 g0.e1 g0.e2
  rw [h1] at bd1
  have z1 := g0.f1
  have z2 := g0.f2
  have m0 := Int.mul_nonneg bd1.1 (show 0 ≤ ev by have := g0.e1; omega)
  have m1 := Int.mul_le_mul_of_nonneg_left (c := a) g0.e2 bd1.1
  obtain ⟨kk, hkk⟩ : ∃ kk, a * ev = kk := ⟨_, rfl⟩
  rw [hkk] at hf m0 m1
  have hd : decide (Tm (fi + kk)) = true := decide_eq_true ⟨by omega, hf⟩
  have F1 := Lib.hid hd
  clear h1 hf hd
  have H0 := Lib.hid (decide_eq_true g0)
  have K0 := Lib.hid g0
  have H1 := Lib.hid (decide_eq_true g1)
  have K1 := Lib.hid g1
  clear g0 g1
  go_enter Try.func28, Try.ntmps28
  go_wp2_with fail
  refine calls_named fun W hW => ?_
  obtain ⟨p1, hB⟩ := box1 hW
  clear hW
  (with_reducible refine (r31Valid_any _ _ _ _ _ _ _ _ H0.out).mono ?_)
  rintro e w1 ⟨rfl, hb1⟩
  have q1 := cellsL p1
  clear p1
  have hW1 := hb1
  have hB1 := below_step hB hW1
  go_wp2_with fail
  (with_reducible refine (r31Time_any _ _ H1.out).mono ?_)
  rintro e w2 ⟨rfl, hb2⟩
  have hW2 := below_step hW1 hb2
  have hB2 := below_step hB hW2
  go_wp2_with fail
  (with_reducible refine (r31Behind_any _ _ _ _ _ _ _ _ _ K0.out K1.out L1.out).mono ?_)
  rintro e w3 ⟨rfl, hb3⟩
  have hW3 := below_step hW2 hb3
  have hB3 := below_step hB hW3
  go_wp2_with fail
  (with_reducible refine (r31Time_any _ _ F1.out).mono ?_)
  rintro e w4 ⟨rfl, hb4⟩
  have hB4 := below_step hB3 hb4
  go_wp2_with fail
  go_ret2
  exact ⟨rfl, hB4⟩
theorem r31Sure_no (id ax ay dr nr fi ev dn dk xl xh yl yh t t2 : Int) (w : World) (hv : ¬ (Sn dn dk ∧ Bx xl xh yl yh)) :
    Calls Try.prog 25 #[.agg #[.int .i64 id, .int .i64 ax, .int .i64 ay, .int .i64 dr, .int .i64 nr, .int .i64 fi, .int .i64 ev], .agg #[.int .i64 dn, .int .i64 dk], .agg #[.int .i64 xl, .int .i64 xh, .int .i64 yl, .int .i64 yh], .int .i64 t, .int .i64 t2] w fun e w' => e = .returned (.tuple #[.slice none 0 0, .int .i64 1]) ∧ Below w.heap.size w w' := by
  have HV := Lib.hid hv
  clear hv
  obtain ⟨v0, h0⟩ : ∃ v, decide (Sn dn dk) = v := ⟨_, rfl⟩
  have H0 := Lib.hid h0
  clear h0
  obtain ⟨v1, h1⟩ : ∃ v, decide (Bx xl xh yl yh) = v := ⟨_, rfl⟩
  have H1 := Lib.hid h1
  clear h1
  go_enter Try.func25, Try.ntmps25
  go_wp2_with fail
  refine calls_named fun W hW => ?_
  obtain ⟨p1, p2, p3, hB⟩ := box3 hW
  clear hW
  (with_reducible refine (r31Sun_any _ _ _ H0.out).mono ?_)
  rintro e w1 ⟨rfl, hb1⟩
  have q1 := cellsL p1
  have q2 := cellsL p2
  have q3 := cellsL p3
  clear p1 p2 p3
  have hW1 := hb1
  have hB1 := below_step hB hW1
  cases v0
  · go_wp2_with fail
    go_ret2
    exact ⟨rfl, hB1⟩
  go_wp2_with fail
  (with_reducible refine (r2ValidBox_any _ _ _ _ _ H1.out).mono ?_)
  rintro e w2 ⟨rfl, hb2⟩
  have hW2 := below_step hW1 hb2
  have hB2 := below_step hB hW2
  cases v1
  · go_wp2_with fail
    go_ret2
    exact ⟨rfl, hB2⟩
  exact (HV.out ⟨of_decide_eq_true H0.out, of_decide_eq_true H1.out⟩).elim
theorem r31Sure_err (id ax ay dr nr fi ev dn dk xl xh yl yh t t2 : Int) (w : World) (g0 : Sn dn dk) (g1 : Bx xl xh yl yh) (hS : ∀ w, Calls Try.prog 23 #[.agg #[.int .i64 id, .int .i64 ax, .int .i64 ay, .int .i64 dr, .int .i64 nr, .int .i64 fi, .int .i64 ev], .int .i64 t, .int .i64 t2] w fun e w' => e = .returned (.tuple #[.agg #[.int .i64 0, .int .i64 0], .int .i64 1]) ∧ Below w.heap.size w w') :
    Calls Try.prog 25 #[.agg #[.int .i64 id, .int .i64 ax, .int .i64 ay, .int .i64 dr, .int .i64 nr, .int .i64 fi, .int .i64 ev], .agg #[.int .i64 dn, .int .i64 dk], .agg #[.int .i64 xl, .int .i64 xh, .int .i64 yl, .int .i64 yh], .int .i64 t, .int .i64 t2] w fun e w' => e = .returned (.tuple #[.slice none 0 0, .int .i64 1]) ∧ Below w.heap.size w w' := by
  have HS := Lib.hid hS
  clear hS
  have H0 := Lib.hid (decide_eq_true g0)
  have K0 := Lib.hid g0
  have H1 := Lib.hid (decide_eq_true g1)
  have K1 := Lib.hid g1
  clear g0 g1
  go_enter Try.func25, Try.ntmps25
  go_wp2_with fail
  refine calls_named fun W hW => ?_
  obtain ⟨p1, p2, p3, hB⟩ := box3 hW
  clear hW
  (with_reducible refine (r31Sun_any _ _ _ H0.out).mono ?_)
  rintro e w1 ⟨rfl, hb1⟩
  have q1 := cellsL p1
  have q2 := cellsL p2
  have q3 := cellsL p3
  clear p1 p2 p3
  have hW1 := hb1
  have hB1 := below_step hB hW1
  go_wp2_with fail
  (with_reducible refine (r2ValidBox_any _ _ _ _ _ H1.out).mono ?_)
  rintro e w2 ⟨rfl, hb2⟩
  have hW2 := below_step hW1 hb2
  have hB2 := below_step hB hW2
  go_wp2_with fail
  (with_reducible refine (HS.out _).mono ?_)
  rintro e w3 ⟨rfl, hb3⟩
  have hB3 := below_step hB2 hb3
  have hW3 := below_step hW2 hb3
  go_wp2_with fail
  go_ret2
  exact ⟨rfl, hB3.alloc hB3.size _⟩
theorem r31Sure_none (id ax ay dr nr fi ev dn dk xl xh yl yh t t2 : Int) (w : World) (g0 : Sn dn dk) (g1 : Bx xl xh yl yh) (hS : ∀ w, Calls Try.prog 23 #[.agg #[.int .i64 id, .int .i64 ax, .int .i64 ay, .int .i64 dr, .int .i64 nr, .int .i64 fi, .int .i64 ev], .int .i64 t, .int .i64 t2] w fun e w' => e = .returned (.tuple #[.agg #[.int .i64 0, .int .i64 0], .int .i64 4]) ∧ Below w.heap.size w w') :
    Calls Try.prog 25 #[.agg #[.int .i64 id, .int .i64 ax, .int .i64 ay, .int .i64 dr, .int .i64 nr, .int .i64 fi, .int .i64 ev], .agg #[.int .i64 dn, .int .i64 dk], .agg #[.int .i64 xl, .int .i64 xh, .int .i64 yl, .int .i64 yh], .int .i64 t, .int .i64 t2] w fun e w' => e = .returned (.tuple #[.slice none 0 0, .int .i64 0]) ∧ Below w.heap.size w w' := by
  have HS := Lib.hid hS
  clear hS
  have H0 := Lib.hid (decide_eq_true g0)
  have K0 := Lib.hid g0
  have H1 := Lib.hid (decide_eq_true g1)
  have K1 := Lib.hid g1
  clear g0 g1
  go_enter Try.func25, Try.ntmps25
  go_wp2_with fail
  refine calls_named fun W hW => ?_
  obtain ⟨p1, p2, p3, hB⟩ := box3 hW
  clear hW
  (with_reducible refine (r31Sun_any _ _ _ H0.out).mono ?_)
  rintro e w1 ⟨rfl, hb1⟩
  have q1 := cellsL p1
  have q2 := cellsL p2
  have q3 := cellsL p3
  clear p1 p2 p3
  have hW1 := hb1
  have hB1 := below_step hB hW1
  go_wp2_with fail
  (with_reducible refine (r2ValidBox_any _ _ _ _ _ H1.out).mono ?_)
  rintro e w2 ⟨rfl, hb2⟩
  have hW2 := below_step hW1 hb2
  have hB2 := below_step hB hW2
  go_wp2_with fail
  (with_reducible refine (HS.out _).mono ?_)
  rintro e w3 ⟨rfl, hb3⟩
  have hB3 := below_step hB2 hb3
  have hW3 := below_step hW2 hb3
  go_wp2_with fail
  go_ret2
  exact ⟨rfl, hB3.alloc hB3.size _⟩
theorem r31Sure_limit (id ax ay dr nr fi ev dn dk xl xh yl yh t t2 : Int) (w : World) (g0 : Sn dn dk) (g1 : Bx xl xh yl yh) {a c : Int} (h1 : 0 ≤ a) (h2 : c ≤ 100000000) (h3 : 400 ≤ c - a) (hS : ∀ w, Calls Try.prog 23 #[.agg #[.int .i64 id, .int .i64 ax, .int .i64 ay, .int .i64 dr, .int .i64 nr, .int .i64 fi, .int .i64 ev], .int .i64 t, .int .i64 t2] w fun e w' => e = .returned (.tuple #[.agg #[.int .i64 a, .int .i64 c], .int .i64 0]) ∧ Below w.heap.size w w') :
    Calls Try.prog 25 #[.agg #[.int .i64 id, .int .i64 ax, .int .i64 ay, .int .i64 dr, .int .i64 nr, .int .i64 fi, .int .i64 ev], .agg #[.int .i64 dn, .int .i64 dk], .agg #[.int .i64 xl, .int .i64 xh, .int .i64 yl, .int .i64 yh], .int .i64 t, .int .i64 t2] w fun e w' => e = .returned (.tuple #[.slice none 0 0, .int .i64 2]) ∧ Below w.heap.size w w' := by
  have HS := Lib.hid hS
  clear hS
  have h4 : 400 < c - a + 1 := by omega
  have H0 := Lib.hid (decide_eq_true g0)
  have K0 := Lib.hid g0
  have H1 := Lib.hid (decide_eq_true g1)
  have K1 := Lib.hid g1
  clear g0 g1
  go_enter Try.func25, Try.ntmps25
  go_wp2_with fail
  refine calls_named fun W hW => ?_
  obtain ⟨p1, p2, p3, hB⟩ := box3 hW
  clear hW
  (with_reducible refine (r31Sun_any _ _ _ H0.out).mono ?_)
  rintro e w1 ⟨rfl, hb1⟩
  have q1 := cellsL p1
  have q2 := cellsL p2
  have q3 := cellsL p3
  clear p1 p2 p3
  have hW1 := hb1
  have hB1 := below_step hB hW1
  go_wp2_with fail
  (with_reducible refine (r2ValidBox_any _ _ _ _ _ H1.out).mono ?_)
  rintro e w2 ⟨rfl, hb2⟩
  have hW2 := below_step hW1 hb2
  have hB2 := below_step hB hW2
  go_wp2_with fail
  (with_reducible refine (HS.out _).mono ?_)
  rintro e w3 ⟨rfl, hb3⟩
  have hB3 := below_step hB2 hb3
  have hW3 := below_step hW2 hb3
  go_wp2_with fail
  go_ret2
  exact ⟨rfl, hB3.alloc hB3.size _⟩
set_option maxHeartbeats 1000000 in
theorem r31Sure_yes (id ax ay dr nr fi ev dn dk xl xh yl yh t t2 : Int) (w : World) (g0 : Sn dn dk) (g1 : Bx xl xh yl yh) (g2 : Stn id ax ay dr nr fi ev) (g3 : Tm t) (g4 : Tm t2) (hk : t ≤ t2) {a b : Int} {N : Nat} (h1 : aheadI fi ev t = a) (h2 : aheadI fi ev t2 = b)
    (hab : b = a + (N : Int)) (hN0 : 0 < N) (hN : N ≤ 400) :
    Calls Try.prog 25 #[.agg #[.int .i64 id, .int .i64 ax, .int .i64 ay, .int .i64 dr, .int .i64 nr, .int .i64 fi, .int .i64 ev], .agg #[.int .i64 dn, .int .i64 dk], .agg #[.int .i64 xl, .int .i64 xh, .int .i64 yl, .int .i64 yh], .int .i64 t, .int .i64 t2] w fun e w' => ∃ sl, e = .returned (.tuple #[sl, .int .i64 0]) ∧ Below w.heap.size w w' ∧
      w'.ownsRow w.heap.size 3 1 sl (pickL (sureB ax ay dr nr fi ev dn dk xl xh yl yh) a N).length ((pickL (sureB ax ay dr nr fi ev dn dk xl xh yl yh) a N).map (Value.int .i64)) := by
  have bd1 := aheadI_bd (t := t) g2.f1 g3.2 g2.e1 g2.e2
  have bd2 := aheadI_bd (t := t2) g2.f1 g4.2 g2.e1 g2.e2
  have hlt : ∀ k : Int, 0 ≤ k → k < b → fi + k * ev ≤ 10000000 := fun k h0 hkb => by
    have := (ahead_lt (fi := fi) (t := t2) g2.e1 h0).1 (by omega)
    have := g4.2
    omega
  rw [h1] at bd1
  rw [h2] at bd2
  have hne : a ≠ b := by omega
  have H0 := Lib.hid (decide_eq_true g0)
  have H1 := Lib.hid (decide_eq_true g1)
  have K0 := Lib.hid g0
  have K1 := Lib.hid g1
  have K2 := Lib.hid g2
  have K3 := Lib.hid g3
  have K4 := Lib.hid g4
  have L1 := Lib.hid h1
  have L2 := Lib.hid h2
  have LT := Lib.hid hlt
  have NE := Lib.hid hne
  have AB := Lib.hid hab
  have HK := Lib.hid hk
  clear g0 g1 g2 g3 g4 h1 h2 hlt hne hab hk
  obtain ⟨i0, hi, hz0, hz1, hz2⟩ := info_parts info_int
  go_enter Try.func25, Try.ntmps25
  go_wp2_with fail
  refine calls_named fun W hW => ?_
  obtain ⟨p1, p2, p3, hB⟩ := box3 hW
  clear hW
  (with_reducible refine (r31Sun_any _ _ _ H0.out).mono ?_)
  rintro e w1 ⟨rfl, hb1⟩
  have q1 := cellsL p1
  have q2 := cellsL p2
  have q3 := cellsL p3
  have P1 := Lib.hid p1
  have P2 := Lib.hid p2
  have P3 := Lib.hid p3
  clear p1 p2 p3
  have hW1 := hb1
  go_wp2_with fail
  (with_reducible refine (r2ValidBox_any _ _ _ _ _ H1.out).mono ?_)
  rintro e w2 ⟨rfl, hb2⟩
  have hW2 := below_step hW1 hb2
  go_wp2_with fail
  (with_reducible refine (r31Slots_yes _ _ _ _ _ _ _ _ _ _ K2.out K3.out K4.out HK.out L1.out L2.out NE.out rfl).mono ?_)
  rintro e w3 ⟨rfl, hb3⟩
  have hW3 := below_step hW2 hb3
  have hA3 := fun o => hW3.alloc hW3.size o
  have hb : b - 1 - a < 400 := by have := AB.out; omega
  have hb' : b - 1 - a + 1 ≤ 400 := by omega
  go_wp2_with fail
  refine wp_named fun W4 hW4 => ?_
  obtain ⟨p4, hb4⟩ := box1 hW4
  clear hW4
  have hW4 := below_step hW3 hb4
  have p1 := block_later hW4 P1.out
  have p2 := block_later hW4 P2.out
  have p3 := block_later hW4 P3.out
  have hB4 := below_step hB hW4
  have P4 := Lib.hid p4
  replace P1 := Lib.hid p1
  replace P2 := Lib.hid p2
  replace P3 := Lib.hid p3
  have z1 := K2.out.f1
  have z2 := K2.out.f2
  have z3 := K2.out.e1
  have z4 := K2.out.e2
  clear p1 p2 p3 p4 q1 q2 q3 hA3
  go_loopw [14, 15] (fun v i wr => ∃ (m : Nat) (z : Int), m ≤ N ∧ z = a + (m : Int) ∧ i = .int .i64 z ∧ Below W4.heap.size W4 wr ∧
      wr.ownsRow W4.heap.size 3 1 v (pickL (sureB ax ay dr nr fi ev dn dk xl xh yl yh) a m).length ((pickL (sureB ax ay dr nr fi ev dn dk xl xh yl yh) a m).map (Value.int .i64)))
    (fun _ i _ => (b - intOf i).toNat)
  case atStart => exact ⟨0, a, by omega, by simp, rfl, Below.refl _ _, World.ownsRow_nil _ _ _ _⟩
  case round =>
    obtain ⟨m, z, hm, hz, rfl, hbr, hown⟩ := hrel
    have Z := Lib.hid hz
    clear hz
    have c4 := cell_block (block_later hbr P4.out)
    by_cases hlt : m < N
    · have hz1 : z ≤ b - 1 := by have := Z.out; have := AB.out; omega
      have hz0' : 0 ≤ z := by have := Z.out; omega
      have hT := LT.out z hz0' (by omega)
      have m0 := Int.mul_nonneg hz0' (show 0 ≤ ev by omega)
      obtain ⟨zz, hzz⟩ : ∃ zz, z * ev = zz := ⟨_, rfl⟩
      rw [hzz] at hT m0
      have T := Lib.hid (show Tm (fi + zz) from ⟨by omega, hT⟩)
      obtain ⟨n, hn⟩ : ∃ n, farI dn dk dr nr (fi + zz) = n := ⟨_, rfl⟩
      have fb := farI_bd (dn := dn) (dk := dk) (t := fi + zz) ⟨K2.out.d1, K2.out.d2⟩ ⟨K2.out.n1, K2.out.n2⟩
      rw [hn] at fb
      have FN := Lib.hid hn
      obtain ⟨v, hv⟩ : ∃ v, sureB ax ay dr nr fi ev dn dk xl xh yl yh z = v := ⟨_, rfl⟩
      have V := Lib.hid hv
      have V' : Hid (allB ax ay xl xh yl yh n = v) := Lib.hid (by rw [← hv, ← hn, ← hzz]; rfl)
      have j1 : IntKind.i64.wrap zz = zz := IntWalk.i64_in _ (by omega)
      have j2 : IntKind.i64.wrap (fi + zz) = fi + zz := IntWalk.i64_in _ (by omega)
      have AR := K2.out.at'
      have AV := Lib.hid AR
      clear hv hn AR
      go_wp2_with fail
      have q1 := cellsR (block_later hbr P1.out)
      have q2 := cellsR (block_later hbr P2.out)
      have q3 := cellsR (block_later hbr P3.out)
      (refine wp_region_quiet_below (by kernel_rfl) (by kernel_rfl) ?_; (repeat (refine wpQuiet_step (fun K hK => ?_); replace hK := Lib.hid hK; go_simp; first | (refine hK.out _ ?_; clear hK K) | (apply Exists.intro; refine ⟨fun _ => ?_, hK.out _ ?_⟩; (first | (go_at_call 43; exact Calls.regrown_of (r31Far_any _ _ _ _ _ _ _ _ _ _ _ T.out FN.out)) | (go_at_call 48; exact Calls.regrown_of (r31All_any _ _ _ _ _ _ _ _ AV.out K1.out fb.1 fb.2 V'.out))); clear hK K))); refine wpQuiet_nil ?_)
      intro w5 hr5
      have hb5 := regrown_below hr5
      clear hr5 q1 q2 q3 j1 j2 hzz c4
      have hbr5 := below_step hbr hb5
      have hown5 := owns_later hown hb5
      have hsz := hbr5.size
      have hlen := pickL_length (sureB ax ay dr nr fi ev dn dk xl xh yl yh) a m
      clear hown hbr
      cases v
      · have e1 := pickL_miss Z.out V.out
        have OW := Lib.hid hown5
        have E1 := Lib.hid e1
        clear e1 hown5
        go_wp2_with fail
        go_roundw
        case rel => exact ⟨m + 1, z + 1, by omega, by have := Z.out; omega, rfl, hbr5, by rw [E1.out]; exact OW.out⟩
        case measure => simp [intOf]; omega
      · have e1 := pickL_hit Z.out V.out
        have E1 := Lib.hid e1
        clear e1
        go_wp2_with (at_builtin; refine wpList_append_own _ rfl _ _ 43 rfl W4.heap.size 3 i0 (.int .i64 0) 1 8 Try.underlying43 hi hz0 (by assumption) hz2 rfl (by decide) _ _ _ rfl (hown5.alloc _) ⟨w5.heap.size, 0, none⟩ 1 1 [.int .i64 z] rfl rfl ?c1 ?c2 ?c3 ?c4 ?c5 ?_)
        case c1 =>
          intro j u hj
          match j, hj with
          | 0, hj => simp at hj; subst hj; simp [Addr.add]
        case c2 => intro u hu; simp at hu; subst hu; rfl
        case c3 => unfold maxLen; omega
        case c4 => omega
        case c5 => simp; omega
        intro v' w6 hown6 hgrow _
        have hbr6 : Below W4.heap.size W4 w6 := (hbr5.alloc hbr5.size _).grown hgrow (by simp; omega) (fun k hk => (hown5.lt k hk).1)
        have OW := Lib.hid hown6
        clear hown5 hown6 hgrow
        go_wp2_with fail
        go_roundw
        case rel => exact ⟨m + 1, z + 1, by omega, by have := Z.out; omega, rfl, hbr6, by rw [E1.out, List.map_append, List.length_append]; exact OW.out⟩
        case measure => simp [intOf]; omega
    · have hmN : m = N := by omega
      have OW := Lib.hid hown
      subst hmN
      have hz1 : b - 1 < z := by have := Z.out; have := AB.out; omega
      clear hown
      go_wp2_with fail
      go_ret2
      exact ⟨_, rfl, below_step hB4 hbr, owns_lower OW.out hB4.size⟩
theorem r31Light_any (dn dk t : Int) (w : World) {v : Bool} {e : Int} (h : lightR dn dk t = (v, e)) :
    Calls Try.prog 15 #[.agg #[.int .i64 dn, .int .i64 dk], .int .i64 t] w fun x w' => x = .returned (.tuple #[.bool v, .int .i64 e]) ∧ Below w.heap.size w w' := by
  unfold lightR at h
  split at h <;> rename_i g <;> cases h
  · exact r31Light_yes _ _ _ w g.1 g.2 rfl
  · exact r31Light_no _ _ _ w g
theorem r31Range_any (id ax ay dr nr fi ev dn dk t : Int) (w : World) {v e : Int} (h : rangeR id ax ay dr nr fi ev dn dk t = (v, e)) :
    Calls Try.prog 17 #[.agg #[.int .i64 id, .int .i64 ax, .int .i64 ay, .int .i64 dr, .int .i64 nr, .int .i64 fi, .int .i64 ev], .agg #[.int .i64 dn, .int .i64 dk], .int .i64 t] w fun x w' => x = .returned (.tuple #[.int .i64 v, .int .i64 e]) ∧ Below w.heap.size w w' := by
  unfold rangeR at h
  split at h <;> rename_i g <;> cases h
  · exact r31Range_yes _ _ _ _ _ _ _ _ _ _ w g.1 g.2.1 g.2.2 rfl
  · exact r31Range_no _ _ _ _ _ _ _ _ _ _ w g
theorem r31Hears_any (id ax ay dr nr fi ev dn dk xl xh yl yh t : Int) (w : World) {v e : Int} (h : hearsR id ax ay dr nr fi ev dn dk xl xh yl yh t = (v, e)) :
    Calls Try.prog 19 #[.agg #[.int .i64 id, .int .i64 ax, .int .i64 ay, .int .i64 dr, .int .i64 nr, .int .i64 fi, .int .i64 ev], .agg #[.int .i64 dn, .int .i64 dk], .agg #[.int .i64 xl, .int .i64 xh, .int .i64 yl, .int .i64 yh], .int .i64 t] w fun x w' => x = .returned (.tuple #[.int .i64 v, .int .i64 e]) ∧ Below w.heap.size w w' := by
  unfold hearsR at h
  split at h <;> rename_i g <;> cases h
  · exact r31Hears_yes _ _ _ _ _ _ _ _ _ _ _ _ _ _ w g.1 g.2.1 g.2.2.1 g.2.2.2 rfl
  · exact r31Hears_no _ _ _ _ _ _ _ _ _ _ _ _ _ _ w g
theorem r31Slots_any (id ax ay dr nr fi ev t t2 : Int) (w : World) {a b e : Int} (h : slotsR id ax ay dr nr fi ev t t2 = (a, b, e)) :
    Calls Try.prog 23 #[.agg #[.int .i64 id, .int .i64 ax, .int .i64 ay, .int .i64 dr, .int .i64 nr, .int .i64 fi, .int .i64 ev], .int .i64 t, .int .i64 t2] w fun x w' => x = .returned (.tuple #[.agg #[.int .i64 a, .int .i64 b], .int .i64 e]) ∧ Below w.heap.size w w' := by
  unfold slotsR at h
  split at h
  · rename_i g
    split at h <;> rename_i g2 <;> cases h
    · exact r31Slots_none _ _ _ _ _ _ _ _ _ w g.1 g.2.1 g.2.2.1 g.2.2.2 rfl rfl g2
    · exact r31Slots_yes _ _ _ _ _ _ _ _ _ w g.1 g.2.1 g.2.2.1 g.2.2.2 rfl rfl g2 rfl
  · rename_i g
    cases h
    by_cases hs : Stn id ax ay dr nr fi ev ∧ Tm t ∧ Tm t2
    · exact r31Slots_gt _ _ _ _ _ _ _ _ _ w hs.1 hs.2.1 hs.2.2 (by rcases Int.lt_or_le t2 t with h | h; exact h; exact absurd ⟨hs.1, hs.2.1, hs.2.2, h⟩ g)
    · exact r31Slots_no _ _ _ _ _ _ _ _ _ w hs
theorem r31Next_any (id ax ay dr nr fi ev t : Int) (w : World) {v e : Int} (h : nextR id ax ay dr nr fi ev t = (v, e)) :
    Calls Try.prog 28 #[.agg #[.int .i64 id, .int .i64 ax, .int .i64 ay, .int .i64 dr, .int .i64 nr, .int .i64 fi, .int .i64 ev], .int .i64 t] w fun x w' => x = .returned (.tuple #[.int .i64 v, .int .i64 e]) ∧ Below w.heap.size w w' := by
  unfold nextR at h
  split at h
  · rename_i g
    split at h <;> rename_i g2 <;> cases h
    · exact r31Next_yes _ _ _ _ _ _ _ _ w g.1 g.2 rfl g2
    · exact r31Next_none _ _ _ _ _ _ _ _ w g.1 g.2 rfl (by omega)
  · rename_i g
    cases h
    exact r31Next_no _ _ _ _ _ _ _ _ w g
theorem r31Sure_any (id ax ay dr nr fi ev dn dk xl xh yl yh t t2 : Int) (w : World) {L : List Int} {e : Int} (h : sureR id ax ay dr nr fi ev dn dk xl xh yl yh t t2 = (L, e)) :
    Calls Try.prog 25 #[.agg #[.int .i64 id, .int .i64 ax, .int .i64 ay, .int .i64 dr, .int .i64 nr, .int .i64 fi, .int .i64 ev], .agg #[.int .i64 dn, .int .i64 dk], .agg #[.int .i64 xl, .int .i64 xh, .int .i64 yl, .int .i64 yh], .int .i64 t, .int .i64 t2] w (SureP L e w) := by
  unfold sureR at h
  by_cases g : Sn dn dk ∧ Bx xl xh yl yh
  · rw [if_pos g] at h
    by_cases k : Stn id ax ay dr nr fi ev ∧ Tm t ∧ Tm t2 ∧ t ≤ t2
    · rw [if_pos k] at h
      obtain ⟨k0, k1, k2, k3⟩ := k
      have hm := ahead_mono (fi := fi) k0.e1 k3
      have b1 := aheadI_bd (t := t) k0.f1 k1.2 k0.e1 k0.e2
      have b2 := aheadI_bd (t := t2) k0.f1 k2.2 k0.e1 k0.e2
      by_cases m : aheadI fi ev t2 - aheadI fi ev t ≤ 400
      · rw [if_pos m] at h
        cases h
        by_cases z : aheadI fi ev t = aheadI fi ev t2
        · have e0 : (aheadI fi ev t2 - aheadI fi ev t).toNat = 0 := by omega
          rw [e0]
          exact (r31Sure_none _ _ _ _ _ _ _ _ _ _ _ _ _ _ _ w g.1 g.2 (fun w => r31Slots_none _ _ _ _ _ _ _ _ _ w k0 k1 k2 k3 rfl rfl z)).mono fun _ _ h => sureP_nil h
        · exact (r31Sure_yes _ _ _ _ _ _ _ _ _ _ _ _ _ _ _ w g.1 g.2 k0 k1 k2 k3 rfl rfl (N := (aheadI fi ev t2 - aheadI fi ev t).toNat) (by omega) (by omega) (by omega)).mono
            fun _ _ ⟨sl, h1, h2, h3⟩ => ⟨sl, h1, h2, Lst.owned h3⟩
      · rw [if_neg m] at h
        cases h
        exact (r31Sure_limit _ _ _ _ _ _ _ _ _ _ _ _ _ _ _ w g.1 g.2 (a := aheadI fi ev t) (c := aheadI fi ev t2 - 1) b1.1 (by omega) (by omega) (fun w => r31Slots_yes _ _ _ _ _ _ _ _ _ w k0 k1 k2 k3 rfl rfl (by omega) rfl)).mono fun _ _ h => sureP_nil h
    · rw [if_neg k] at h
      cases h
      refine (r31Sure_err _ _ _ _ _ _ _ _ _ _ _ _ _ _ _ w g.1 g.2 (fun w => r31Slots_any _ _ _ _ _ _ _ _ _ w ?_)).mono fun _ _ h => sureP_nil h
      unfold slotsR
      rw [if_neg k]
  · rw [if_neg g] at h
    cases h
    exact (r31Sure_no _ _ _ _ _ _ _ _ _ _ _ _ _ _ _ w g).mono fun _ _ h => sureP_nil h
end Go.Proofs.Ytnidacjmgekdjaa
