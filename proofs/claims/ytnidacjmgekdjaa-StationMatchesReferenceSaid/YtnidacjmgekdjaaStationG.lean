/- The walks of package station's lists of slots. -/
import Derived.Test.YtnidacjmgekdjaaStationF
namespace Go.Proofs.Ytnidacjmgekdjaa
open Go.RowKit
attribute [local go_sem] bqOp bqAll bqUpon
attribute [local irreducible] wpQuiet wpBQ
theorem aheadI_bd {fi ev t : Int} (h1 : 0 ≤ fi) (h2 : t ≤ 10000000) (h3 : 1 ≤ ev) (h4 : ev ≤ 10000) : 0 ≤ aheadI fi ev t ∧ aheadI fi ev t ≤ 10010000 := by
  unfold aheadI
  have := Int.ediv_nonneg (a := max 0 (t - fi + ev - 1)) (b := ev) (by omega) (by omega)
  have := Int.ediv_le_self (a := max 0 (t - fi + ev - 1)) ev (by omega)
  omega
theorem sSlots_no (id ax ay dr nr fi ev t t2 : Int) (w : World) (hv : ¬ (Stn id ax ay dr nr fi ev ∧ Tm t ∧ Tm t2)) :
    Calls Try.prog 22 #[.agg #[.int .i64 id, .int .i64 ax, .int .i64 ay, .int .i64 dr, .int .i64 nr, .int .i64 fi, .int .i64 ev], .int .i64 t, .int .i64 t2] w fun e w' => e = .returned (.tuple #[.agg #[.int .i64 0, .int .i64 0], .int .i64 1]) ∧ Below w.heap.size w w' := by
  have HV := Lib.hid hv
  clear hv
  obtain ⟨v0, h0⟩ : ∃ v, decide (Stn id ax ay dr nr fi ev) = v := ⟨_, rfl⟩
  have H0 := Lib.hid h0
  clear h0
  obtain ⟨v1, h1⟩ : ∃ v, decide (Tm t) = v := ⟨_, rfl⟩
  have H1 := Lib.hid h1
  clear h1
  obtain ⟨v2, h2⟩ : ∃ v, decide (Tm t2) = v := ⟨_, rfl⟩
  have H2 := Lib.hid h2
  clear h2
  go_enter Try.func22, Try.ntmps22
  go_wp2_with fail
  refine calls_named fun W hW => ?_
  obtain ⟨p1, p2, hB⟩ := box2 hW
  clear hW
  (with_reducible refine (sValid_any _ _ _ _ _ _ _ _ H0.out).mono ?_)
  rintro e w1 ⟨rfl, hb1⟩
  have q1 := cellsL p1
  have PC := Lib.hid p2
  clear p1 p2
  have hW1 := hb1
  have hB1 := below_step hB hW1
  cases v0
  · have f9 := free_block (block_later hW1 PC.out)
    have c8 := cell_block (block_later hW1 PC.out)
    go_wp2_with fail
    have c9 := cell_block (block_set (i := 1) (block_set (i := 0) (block_later hW1 PC.out) (.int .i64 0)) (.int .i64 0))
    exact bodyPost_ret (v := .tuple #[.agg #[.int .i64 0, .int .i64 0], .int .i64 1]) (by simp [results, Try.results22, go_sem, c9]) rfl ⟨rfl, (hB1.setCell (by dsimp only; omega) _).setCell (by dsimp only; omega) _⟩
  go_wp2_with fail
  (with_reducible refine (moment_any _ _ H1.out).mono ?_)
  rintro e w2 ⟨rfl, hb2⟩
  have hW2 := below_step hW1 hb2
  have hB2 := below_step hB hW2
  cases v1
  · have f9 := free_block (block_later hW2 PC.out)
    have c8 := cell_block (block_later hW2 PC.out)
    go_wp2_with fail
    have c9 := cell_block (block_set (i := 1) (block_set (i := 0) (block_later hW2 PC.out) (.int .i64 0)) (.int .i64 0))
    exact bodyPost_ret (v := .tuple #[.agg #[.int .i64 0, .int .i64 0], .int .i64 1]) (by simp [results, Try.results22, go_sem, c9]) rfl ⟨rfl, (hB2.setCell (by dsimp only; omega) _).setCell (by dsimp only; omega) _⟩
  go_wp2_with fail
  (with_reducible refine (moment_any _ _ H2.out).mono ?_)
  rintro e w3 ⟨rfl, hb3⟩
  have hW3 := below_step hW2 hb3
  have hB3 := below_step hB hW3
  cases v2
  · have f9 := free_block (block_later hW3 PC.out)
    have c8 := cell_block (block_later hW3 PC.out)
    go_wp2_with fail
    have c9 := cell_block (block_set (i := 1) (block_set (i := 0) (block_later hW3 PC.out) (.int .i64 0)) (.int .i64 0))
    exact bodyPost_ret (v := .tuple #[.agg #[.int .i64 0, .int .i64 0], .int .i64 1]) (by simp [results, Try.results22, go_sem, c9]) rfl ⟨rfl, (hB3.setCell (by dsimp only; omega) _).setCell (by dsimp only; omega) _⟩
  exact (HV.out ⟨of_decide_eq_true H0.out, of_decide_eq_true H1.out, of_decide_eq_true H2.out⟩).elim
theorem sSlots_gt (id ax ay dr nr fi ev t t2 : Int) (w : World) (g0 : Stn id ax ay dr nr fi ev) (g1 : Tm t) (g2 : Tm t2) (hk : t2 < t) :
    Calls Try.prog 22 #[.agg #[.int .i64 id, .int .i64 ax, .int .i64 ay, .int .i64 dr, .int .i64 nr, .int .i64 fi, .int .i64 ev], .int .i64 t, .int .i64 t2] w fun e w' => e = .returned (.tuple #[.agg #[.int .i64 0, .int .i64 0], .int .i64 1]) ∧ Below w.heap.size w w' := by
  have H0 := Lib.hid (decide_eq_true g0)
  have K0 := Lib.hid g0
  have H1 := Lib.hid (decide_eq_true g1)
  have K1 := Lib.hid g1
  have H2 := Lib.hid (decide_eq_true g2)
  have K2 := Lib.hid g2
  clear g0 g1 g2
  go_enter Try.func22, Try.ntmps22
  go_wp2_with fail
  refine calls_named fun W hW => ?_
  obtain ⟨p1, p2, hB⟩ := box2 hW
  clear hW
  (with_reducible refine (sValid_any _ _ _ _ _ _ _ _ H0.out).mono ?_)
  rintro e w1 ⟨rfl, hb1⟩
  have q1 := cellsL p1
  have P1 := Lib.hid p1
  have PC := Lib.hid p2
  clear p1 p2
  have hW1 := hb1
  have hB1 := below_step hB hW1
  go_wp2_with fail
  (with_reducible refine (moment_any _ _ H1.out).mono ?_)
  rintro e w2 ⟨rfl, hb2⟩
  have hW2 := below_step hW1 hb2
  have hB2 := below_step hB hW2
  go_wp2_with fail
  (with_reducible refine (moment_any _ _ H2.out).mono ?_)
  rintro e w3 ⟨rfl, hb3⟩
  have hW3 := below_step hW2 hb3
  have hB3 := below_step hB hW3
  have f9 := free_block (block_later hW3 PC.out)
  have c8 := cell_block (block_later hW3 PC.out)
  go_wp2_with fail
  have c9 := cell_block (block_set (i := 1) (block_set (i := 0) (block_later hW3 PC.out) (.int .i64 0)) (.int .i64 0))
  exact bodyPost_ret (v := .tuple #[.agg #[.int .i64 0, .int .i64 0], .int .i64 1]) (by simp [results, Try.results22, go_sem, c9]) rfl ⟨rfl, (hB3.setCell (by dsimp only; omega) _).setCell (by dsimp only; omega) _⟩
theorem sSlots_none (id ax ay dr nr fi ev t t2 : Int) (w : World) (g0 : Stn id ax ay dr nr fi ev) (g1 : Tm t) (g2 : Tm t2) (hk : t ≤ t2) {a : Int} (h1 : aheadI fi ev t = a) (h2 : aheadI fi ev t2 = a) :
    Calls Try.prog 22 #[.agg #[.int .i64 id, .int .i64 ax, .int .i64 ay, .int .i64 dr, .int .i64 nr, .int .i64 fi, .int .i64 ev], .int .i64 t, .int .i64 t2] w fun e w' => e = .returned (.tuple #[.agg #[.int .i64 0, .int .i64 0], .int .i64 4]) ∧ Below w.heap.size w w' := by
  have L1 := Lib.hid h1
  have L2 := Lib.hid h2
  have bd1 := aheadI_bd (t := t) g0.f1 g1.2 g0.e1 g0.e2
  have bd2 := aheadI_bd (t := t2) g0.f1 g2.2 g0.e1 g0.e2
  rw [h1] at bd1
  rw [h2] at bd2
  clear h1 h2
  have H0 := Lib.hid (decide_eq_true g0)
  have K0 := Lib.hid g0
  have H1 := Lib.hid (decide_eq_true g1)
  have K1 := Lib.hid g1
  have H2 := Lib.hid (decide_eq_true g2)
  have K2 := Lib.hid g2
  clear g0 g1 g2
  go_enter Try.func22, Try.ntmps22
  go_wp2_with fail
  refine calls_named fun W hW => ?_
  obtain ⟨p1, p2, hB⟩ := box2 hW
  clear hW
  (with_reducible refine (sValid_any _ _ _ _ _ _ _ _ H0.out).mono ?_)
  rintro e w1 ⟨rfl, hb1⟩
  have P1 := Lib.hid p1
  have PC := Lib.hid p2
  clear p1 p2
  have hW1 := hb1
  have hB1 := below_step hB hW1
  go_wp2_with fail
  (with_reducible refine (moment_any _ _ H1.out).mono ?_)
  rintro e w2 ⟨rfl, hb2⟩
  have hW2 := below_step hW1 hb2
  have hB2 := below_step hB hW2
  go_wp2_with fail
  (with_reducible refine (moment_any _ _ H2.out).mono ?_)
  rintro e w3 ⟨rfl, hb3⟩
  have hW3 := below_step hW2 hb3
  have hB3 := below_step hB hW3
  go_wp2_with fail
  have q1 := cellsR (block_later hW3 P1.out)
  (refine wp_region_quiet_below (by kernel_rfl) (by kernel_rfl) ?_; (repeat (refine wpQuiet_step (fun K hK => ?_); replace hK := Lib.hid hK; go_simp; first | (refine hK.out _ ?_; clear hK K) | (apply Exists.intro; refine ⟨fun _ => ?_, hK.out _ ?_⟩; (first | (go_at_call 50; exact Calls.regrown_of (ahead_any _ _ _ _ _ _ _ _ _ K0.out (by first | with_reducible exact K1.out | with_reducible exact K2.out) (by first | with_reducible exact L1.out | with_reducible exact L2.out)))); clear hK K))); refine wpQuiet_nil ?_)
  intro W4 hW4
  have hW4 := below_step hW3 (regrown_below hW4)
  have hB4 := below_step hB hW4
  clear q1
  have f9 := free_block (block_later hW4 PC.out)
  have c8 := cell_block (block_later hW4 PC.out)
  go_wp2_with fail
  have c9 := cell_block (block_set (i := 1) (block_set (i := 0) (block_later hW4 PC.out) (.int .i64 0)) (.int .i64 0))
  exact bodyPost_ret (v := .tuple #[.agg #[.int .i64 0, .int .i64 0], .int .i64 4]) (by simp [results, Try.results22, go_sem, c9]) rfl ⟨rfl, (hB4.setCell (by dsimp only; omega) _).setCell (by dsimp only; omega) _⟩
theorem sSlots_yes (id ax ay dr nr fi ev t t2 : Int) (w : World) (g0 : Stn id ax ay dr nr fi ev) (g1 : Tm t) (g2 : Tm t2) (hk : t ≤ t2) {a b c : Int} (h1 : aheadI fi ev t = a) (h2 : aheadI fi ev t2 = b) (hab : a ≠ b) (hc : b - 1 = c) :
    Calls Try.prog 22 #[.agg #[.int .i64 id, .int .i64 ax, .int .i64 ay, .int .i64 dr, .int .i64 nr, .int .i64 fi, .int .i64 ev], .int .i64 t, .int .i64 t2] w fun e w' => e = .returned (.tuple #[.agg #[.int .i64 a, .int .i64 c], .int .i64 0]) ∧ Below w.heap.size w w' := by
  have L1 := Lib.hid h1
  have L2 := Lib.hid h2
  have bd1 := aheadI_bd (t := t) g0.f1 g1.2 g0.e1 g0.e2
  have bd2 := aheadI_bd (t := t2) g0.f1 g2.2 g0.e1 g0.e2
  rw [h1] at bd1
  rw [h2] at bd2
  clear h1 h2
  subst hc
  have hab' : (a == b) = false := by simp [hab]
  clear hab
  have H0 := Lib.hid (decide_eq_true g0)
  have K0 := Lib.hid g0
  have H1 := Lib.hid (decide_eq_true g1)
  have K1 := Lib.hid g1
  have H2 := Lib.hid (decide_eq_true g2)
  have K2 := Lib.hid g2
  clear g0 g1 g2
  go_enter Try.func22, Try.ntmps22
  go_wp2_with fail
  refine calls_named fun W hW => ?_
  obtain ⟨p1, p2, hB⟩ := box2 hW
  clear hW
  (with_reducible refine (sValid_any _ _ _ _ _ _ _ _ H0.out).mono ?_)
  rintro e w1 ⟨rfl, hb1⟩
  have P1 := Lib.hid p1
  have PC := Lib.hid p2
  clear p1 p2
  have hW1 := hb1
  have hB1 := below_step hB hW1
  go_wp2_with fail
  (with_reducible refine (moment_any _ _ H1.out).mono ?_)
  rintro e w2 ⟨rfl, hb2⟩
  have hW2 := below_step hW1 hb2
  have hB2 := below_step hB hW2
  go_wp2_with fail
  (with_reducible refine (moment_any _ _ H2.out).mono ?_)
  rintro e w3 ⟨rfl, hb3⟩
  have hW3 := below_step hW2 hb3
  have hB3 := below_step hB hW3
  go_wp2_with fail
  have q1 := cellsR (block_later hW3 P1.out)
  (refine wp_region_quiet_below (by kernel_rfl) (by kernel_rfl) ?_; (repeat (refine wpQuiet_step (fun K hK => ?_); replace hK := Lib.hid hK; go_simp; first | (refine hK.out _ ?_; clear hK K) | (apply Exists.intro; refine ⟨fun _ => ?_, hK.out _ ?_⟩; (first | (go_at_call 50; exact Calls.regrown_of (ahead_any _ _ _ _ _ _ _ _ _ K0.out (by first | with_reducible exact K1.out | with_reducible exact K2.out) (by first | with_reducible exact L1.out | with_reducible exact L2.out)))); clear hK K))); refine wpQuiet_nil ?_)
  intro W4 hW4
  have hW4 := below_step hW3 (regrown_below hW4)
  have hB4 := below_step hB hW4
  clear q1
  have f9 := free_block (block_later hW4 PC.out)
  have c8 := cell_block (block_later hW4 PC.out)
  go_wp2_with fail
  have c9 := cell_block (block_set (i := 1) (block_set (i := 0) (block_later hW4 PC.out) (.int .i64 a)) (.int .i64 (b - 1)))
  exact bodyPost_ret (v := .tuple #[.agg #[.int .i64 a, .int .i64 (b - 1)], .int .i64 0]) (by simp [results, Try.results22, go_sem, c9]) rfl ⟨rfl, (hB4.setCell (by dsimp only; omega) _).setCell (by dsimp only; omega) _⟩
theorem sNext_no (id ax ay dr nr fi ev t : Int) (w : World) (hv : ¬ (Stn id ax ay dr nr fi ev ∧ Tm t)) :
    Calls Try.prog 27 #[.agg #[.int .i64 id, .int .i64 ax, .int .i64 ay, .int .i64 dr, .int .i64 nr, .int .i64 fi, .int .i64 ev], .int .i64 t] w fun e w' => e = .returned (.tuple #[.int .i64 0, .int .i64 1]) ∧ Below w.heap.size w w' := by
  have HV := Lib.hid hv
  clear hv
  obtain ⟨v0, h0⟩ : ∃ v, decide (Stn id ax ay dr nr fi ev) = v := ⟨_, rfl⟩
  have H0 := Lib.hid h0
  clear h0
  obtain ⟨v1, h1⟩ : ∃ v, decide (Tm t) = v := ⟨_, rfl⟩
  have H1 := Lib.hid h1
  clear h1
  go_enter Try.func27, Try.ntmps27
  go_wp2_with fail
  refine calls_named fun W hW => ?_
  obtain ⟨p1, hB⟩ := box1 hW
  clear hW
  (with_reducible refine (sValid_any _ _ _ _ _ _ _ _ H0.out).mono ?_)
  rintro e w1 ⟨rfl, hb1⟩
  have q1 := cellsL p1
  clear p1
  have hW1 := hb1
  have hB1 := below_step hB hW1
  cases v0
  · go_wp2_with fail
    go_ret2
    exact ⟨rfl, hB1⟩
  go_wp2_with fail
  (with_reducible refine (moment_any _ _ H1.out).mono ?_)
  rintro e w2 ⟨rfl, hb2⟩
  have hW2 := below_step hW1 hb2
  have hB2 := below_step hB hW2
  cases v1
  · go_wp2_with fail
    go_ret2
    exact ⟨rfl, hB2⟩
  exact (HV.out ⟨of_decide_eq_true H0.out, of_decide_eq_true H1.out⟩).elim
theorem sNext_none (id ax ay dr nr fi ev t : Int) (w : World) (g0 : Stn id ax ay dr nr fi ev) (g1 : Tm t) {a : Int} (h1 : aheadI fi ev t = a) (hf : 10000000 < fi + a * ev) :
    Calls Try.prog 27 #[.agg #[.int .i64 id, .int .i64 ax, .int .i64 ay, .int .i64 dr, .int .i64 nr, .int .i64 fi, .int .i64 ev], .int .i64 t] w fun e w' => e = .returned (.tuple #[.int .i64 0, .int .i64 4]) ∧ Below w.heap.size w w' := by
  have L1 := Lib.hid h1
  have bd1 := aheadI_bd (t := t) g0.f1 g1.2 g0.e1 g0.e2
  rw [h1] at bd1
  have F1 := Lib.hid hf
  clear h1 hf
  have H0 := Lib.hid (decide_eq_true g0)
  have K0 := Lib.hid g0
  have H1 := Lib.hid (decide_eq_true g1)
  have K1 := Lib.hid g1
  clear g0 g1
  go_enter Try.func27, Try.ntmps27
  go_wp2_with fail
  refine calls_named fun W hW => ?_
  obtain ⟨p1, hB⟩ := box1 hW
  clear hW
  (with_reducible refine (sValid_any _ _ _ _ _ _ _ _ H0.out).mono ?_)
  rintro e w1 ⟨rfl, hb1⟩
  have q1 := cellsL p1
  clear p1
  have hW1 := hb1
  have hB1 := below_step hB hW1
  go_wp2_with fail
  (with_reducible refine (moment_any _ _ H1.out).mono ?_)
  rintro e w2 ⟨rfl, hb2⟩
  have hW2 := below_step hW1 hb2
  have hB2 := below_step hB hW2
  go_wp2_with fail
  (with_reducible refine (ahead_any _ _ _ _ _ _ _ _ _ K0.out K1.out L1.out).mono ?_)
  rintro e w3 ⟨rfl, hb3⟩
  have hW3 := below_step hW2 hb3
  have hB3 := below_step hB hW3
  go_wp2_with fail
  (with_reducible refine (sSlot_far _ _ _ _ _ _ _ _ _ K0.out bd1.1 F1.out).mono ?_)
  rintro e w4 ⟨rfl, hb4⟩
  have hB4 := below_step hB3 hb4
  go_wp2_with fail
  go_ret2
  exact ⟨rfl, hB4⟩
theorem sNext_yes (id ax ay dr nr fi ev t : Int) (w : World) (g0 : Stn id ax ay dr nr fi ev) (g1 : Tm t) {a : Int} (h1 : aheadI fi ev t = a) (hf : fi + a * ev ≤ 10000000) :
    Calls Try.prog 27 #[.agg #[.int .i64 id, .int .i64 ax, .int .i64 ay, .int .i64 dr, .int .i64 nr, .int .i64 fi, .int .i64 ev], .int .i64 t] w fun e w' => e = .returned (.tuple #[.int .i64 a, .int .i64 0]) ∧ Below w.heap.size w w' := by
  have L1 := Lib.hid h1
  have bd1 := aheadI_bd (t := t) g0.f1 g1.2 g0.e1 g0.e2
  rw [h1] at bd1
  have F1 := Lib.hid hf
  clear h1 hf
  have H0 := Lib.hid (decide_eq_true g0)
  have K0 := Lib.hid g0
  have H1 := Lib.hid (decide_eq_true g1)
  have K1 := Lib.hid g1
  clear g0 g1
  go_enter Try.func27, Try.ntmps27
  go_wp2_with fail
  refine calls_named fun W hW => ?_
  obtain ⟨p1, hB⟩ := box1 hW
  clear hW
  (with_reducible refine (sValid_any _ _ _ _ _ _ _ _ H0.out).mono ?_)
  rintro e w1 ⟨rfl, hb1⟩
  have q1 := cellsL p1
  clear p1
  have hW1 := hb1
  have hB1 := below_step hB hW1
  go_wp2_with fail
  (with_reducible refine (moment_any _ _ H1.out).mono ?_)
  rintro e w2 ⟨rfl, hb2⟩
  have hW2 := below_step hW1 hb2
  have hB2 := below_step hB hW2
  go_wp2_with fail
  (with_reducible refine (ahead_any _ _ _ _ _ _ _ _ _ K0.out K1.out L1.out).mono ?_)
  rintro e w3 ⟨rfl, hb3⟩
  have hW3 := below_step hW2 hb3
  have hB3 := below_step hB hW3
  go_wp2_with fail
  (with_reducible refine (sSlot_yes _ _ _ _ _ _ _ _ _ K0.out bd1.1 F1.out rfl).mono ?_)
  rintro e w4 ⟨rfl, hb4⟩
  have hB4 := below_step hB3 hb4
  go_wp2_with fail
  go_ret2
  exact ⟨rfl, hB4⟩
end Go.Proofs.Ytnidacjmgekdjaa
