/- The walks of feature.Shown and of slices.EqualFunc of features. -/
import Derived.Test.YtdmegkkifiahdaaGreatFeatD
namespace Go.Proofs.YtdmegkkifiahdaaGreat
open Go.RowKit Go.Shelf
attribute [local go_sem] bqOp bqAll bqUpon sqOp sqAll sqUpon
attribute [local irreducible] wpQuiet wpBQ wpPlan
set_option linter.unusedVariables false
set_option maxHeartbeats 1000000 in
theorem ftShown_no (l : List Feat) (v0 : Value) (qx qy : Int) (w : World) (h : FeatsAt w v0 l) (hn : ¬ (FeatsOk l ∧ Vld qx qy)) :
    Calls Tryz.prog 132 #[v0, .agg #[.int .i64 qx, .int .i64 qy]] w fun e w' => e = .returned (.tuple #[.int .i64 0, .int .i64 1]) ∧ Below w.heap.size w w' := by
  obtain ⟨ad, c, rfl, h1, _, _⟩ := h.form
  have H := Lib.hid h1
  obtain ⟨u1, hu1⟩ : ∃ k, decide (FeatsOk l) = k := ⟨_, rfl⟩
  obtain ⟨u2, hu2⟩ : ∃ k, decide (Vld qx qy) = k := ⟨_, rfl⟩
  have HN : Hid (u1 = true → u2 = true → False) := Lib.hid (fun e1 e2 => by subst e1 e2; exact hn ⟨of_decide_eq_true hu1, of_decide_eq_true hu2⟩)
  have U1 := Lib.hid hu1
  have U2 := Lib.hid hu2
  clear h h1 hn hu1 hu2
  go_enter Tryz.func132, Tryz.ntmps132
  go_wp2_with fail
  refine calls_named fun W hW => ?_
  obtain ⟨p1, hB⟩ := box1 hW
  clear hW
  (with_reducible refine (ftList_any l _ _ (H.out.later hB) U1.out).mono ?_)
  rintro e w1 ⟨rfl, hb1⟩
  have hB1 := below_step hB hb1
  have r1 := block_later hb1 p1
  have c0 := cell_block r1 0
  have c1 := cell_block r1 1
  cases u1
  · go_wp2_with fail
    go_ret2
    exact ⟨rfl, hB1⟩
  go_wp2_with fail
  (with_reducible refine (hpValid_any _ _ _ U2.out).mono ?_)
  rintro e w2 ⟨rfl, hb2⟩
  have hB2 := below_step hB1 hb2
  cases u2
  · go_wp2_with fail
    go_ret2
    exact ⟨rfl, hB2⟩
  have hno := HN.out
  simp at hno
set_option maxHeartbeats 2000000 in
theorem ftShown_yes (l : List Feat) (v0 : Value) (qx qy : Int) (w : World) (h : FeatsAt w v0 l) (hl : FeatsOk l) (hq : Vld qx qy) {v : Int} (hv : shownI l qx qy l.length = v) :
    Calls Tryz.prog 132 #[v0, .agg #[.int .i64 qx, .int .i64 qy]] w fun e w' => e = .returned (.tuple #[.int .i64 v, .int .i64 0]) ∧ Below w.heap.size w w' := by
  obtain ⟨ad, c, rfl, h1, hn, hc⟩ := h.form
  have HV := Lib.hid hv
  have H := Lib.hid h1
  have HO := Lib.hid hl
  have HQ := Lib.hid hq
  clear hv h h1 hl hq
  obtain ⟨n, hln⟩ : ∃ n, l.length = n := ⟨_, rfl⟩
  rw [hln] at H hn hc HV
  rw [hln]
  have HL := Lib.hid hln
  clear hln
  go_enter Tryz.func132, Tryz.ntmps132
  go_wp2_with fail
  refine calls_named fun W hW => ?_
  obtain ⟨p1, hB⟩ := box1 hW
  clear hW
  (with_reducible refine (ftList_any l _ _ (H.out.later hB) (decide_eq_true HO.out)).mono ?_)
  rintro e w1 ⟨rfl, hb1⟩
  have hB1 := below_step hB hb1
  have r1 := block_later hb1 p1
  have c0 := cell_block r1 0
  have c1 := cell_block r1 1
  go_wp2_with fail
  (with_reducible refine (hpValid_any _ _ _ (decide_eq_true HQ.out)).mono ?_)
  rintro e w2 ⟨rfl, hb2⟩
  have hB2 := below_step hB1 hb2
  have R2 := Lib.hid (block_later hb2 r1)
  clear c0 c1 r1 p1 hB1 hb1 hb2 hB
  go_wp2_with fail
  go_loopw [6, 19] (fun t i wr => ∃ k : Nat, k ≤ n ∧ i = .int .i64 k ∧ t = .int .i64 (shownI l qx qy k) ∧ Below w.heap.size w wr ∧ wr.heap[w.heap.size]? = some (.cells #[.int .i64 qx, .int .i64 qy] 28 (0, 0))) (fun _ i _ => n - (intOf i).toNat)
  case atStart => exact ⟨0, by omega, rfl, rfl, hB2, R2.out⟩
  case round =>
    clear hB2 R2
    obtain ⟨k, hk, rfl, rfl, hb, p0⟩ := hrel
    have P0 := Lib.hid p0
    clear p0
    rcases Nat.lt_or_ge k n with hlt | hge
    rotate_left
    · obtain rfl : k = n := by omega
      rw [HV.out]
      go_wp2_with fail
      go_ret2
      exact ⟨rfl, hb⟩
    obtain ⟨g, o, va, vs, rfl, fc⟩ := (H.out.later hb).row hlt
    have hok := (HO.out.2 k (by have := HL.out; omega)).1
    obtain ⟨f, hf⟩ : ∃ f, l.getD k noFeat = f := ⟨_, rfl⟩
    rw [hf] at fc hok
    have HOK := Lib.hid hok
    have STEP : Hid (shownI l qx qy (k + 1) = if f.dep < shownI l qx qy k ∧ covB f qx qy = true then f.dep else shownI l qx qy k) := Lib.hid (by rw [← hf]; rfl)
    obtain ⟨le, hle⟩ : ∃ t, shownI l qx qy k = t := ⟨_, rfl⟩
    rw [hle] at STEP ⊢
    clear hf hok hle
    obtain ⟨c0, c1, c2, c3, c4, c5, c6, c7, c8, PA, SA⟩ := fc
    obtain ⟨aa, ca, rfl, _, _, _⟩ := Lists.form PA
    obtain ⟨ab, cb, rfl, _, _, _⟩ := Lists.form SA
    obtain ⟨T, recv, fn, hsh, hm, hcf, hcc⟩ := shape_covers f aa ca qx qy wr HOK.out PA HQ.out
    obtain ⟨cv, hcv⟩ : ∃ c, covB f qx qy = c := ⟨_, rfl⟩
    rw [hcv] at hcc STEP
    have HSH := Lib.hid hsh
    have HM : ∀ w', (method 535 T recv "seamark/feature.covers").run Tryz.prog w' = .ok (fn, recv) w' := fun w' => hm _ w'
    have HC := Lib.hid hcc
    have fl1 := f.area.length
    clear hsh hm hcc hcv PA SA
    obtain ⟨dp, hdp⟩ : ∃ d, f.dep = d := ⟨_, rfl⟩
    rw [hdp] at STEP
    have HDP := Lib.hid hdp
    clear hdp
    by_cases hd : dp < le
    · have hd2 : f.dep < le := by have := HDP.out; omega
      cases cv
      all_goals
        go_wp2_with fail
        refine wp_named fun W hW => ?_
        obtain ⟨p1, hBW⟩ := box1 hW
        clear hW c0 c1 c2 c3 c4 c5 c6 c7 c8
        have q1 := cellsR p1
        have q0 := cellsR (block_later hBW P0.out)
        have hbb : Below wr.heap.size wr W := hBW
        go_wp2_with fail
        refine wp_region_plan (.take 0 (.take 0 (.take 0 (.take 0 (.take 0 (.take 0 (.take 1 (.only 0 (.only 0 (.take 0 .done)))))))))) (by kernel_rfl) (by kernel_rfl) (fun hP => ?_)
        repeat' (first
          | (refine wpPlan_two ?_ ?_)
          | (refine wpPlan_three ?_ ?_ ?_)
          | (refine wpPlan_take rfl (fun K hK => ?_); replace hK := Lib.hid hK; go_simp; first | (refine hK.out _ ?_; clear hK K) | (apply Exists.intro; refine ⟨fun _ => ?_, hK.out _ ?_⟩; (first | with_reducible exact rfl | skip); clear hK K))
          | (refine wpPlan_only rfl (fun K hK => ?_); replace hK := Lib.hid hK; (first | (go_simp; first | (go_at_call 168; (with_reducible refine (ftof_any f aa ab f.area.length ca f.secs.length cb _).mono ?_); rintro e w4 ⟨rfl, hbx⟩; rw [HSH.out]) | (refine (HC.out _ (below_step hbb hP)).mono ?_; rintro e w4 ⟨rfl, hbx⟩) | skip)); refine hK.out _ _ (by first | assumption | exact below_step hP hbx | exact hP.drew | exact hP.alloc hP.size _) (fun hP => ?_); clear hK K))
        all_goals refine wpPlan_done ?_
        have hB4 := below_step (below_step hb hBW) hP
        have P4 := Lib.hid (block_later hP (block_later hBW P0.out))
        have r5 := cell_block (block_later hP p1) 6
        clear q1 q0 p1 hBW hbb hP
        go_wp2_with fail
        go_roundw
        case rel => exact ⟨k + 1, by omega, by go_num, by rw [STEP.out]; simp [HDP.out, hd], hB4, P4.out⟩
        case measure => simp [intOf]; omega
    · have hd2 : ¬ f.dep < le := by have := HDP.out; omega
      have hd3 : decide (f.dep < le) = false := by simpa using hd2
      have hd4 : le ≤ f.dep := by omega
      clear hd2
      go_wp2_with fail
      refine wp_named fun W hW => ?_
      obtain ⟨p1, hBW⟩ := box1 hW
      clear hW c0 c1 c2 c3 c4 c5 c6 c7 c8
      have q1 := cellsR p1
      have q0 := cellsR (block_later hBW P0.out)
      go_wp2_with fail
      refine wp_region_plan (.take 0 (.take 0 (.take 0 (.take 0 (.take 0 (.take 0 (.take 1 (.only 0 (.only 0 (.take 0 .done)))))))))) (by kernel_rfl) (by kernel_rfl) (fun hP => ?_)
      repeat' (first
        | (refine wpPlan_two ?_ ?_)
        | (refine wpPlan_three ?_ ?_ ?_)
        | (refine wpPlan_take rfl (fun K hK => ?_); replace hK := Lib.hid hK; go_simp; first | (refine hK.out _ ?_; clear hK K) | (apply Exists.intro; refine ⟨fun _ => ?_, hK.out _ ?_⟩; (first | with_reducible exact rfl | skip); clear hK K))
        | (refine wpPlan_only rfl (fun K hK => ?_); replace hK := Lib.hid hK; (first | (go_simp; first | skip)); refine hK.out _ _ (by first | assumption | exact below_step hP hbx | exact hP.drew | exact hP.alloc hP.size _) (fun hP => ?_); clear hK K))
      all_goals refine wpPlan_done ?_
      have hB4 := below_step (below_step hb hBW) hP
      have P4 := Lib.hid (block_later hP (block_later hBW P0.out))
      clear q1 q0 p1 hBW hP
      go_wp2_with fail
      go_roundw
      case rel => exact ⟨k + 1, by omega, by go_num, by rw [STEP.out, if_neg (fun h => by have h1 := h.1; have h2 := HDP.out; omega)], hB4, P4.out⟩
      case measure => simp [intOf]; omega
end Go.Proofs.YtdmegkkifiahdaaGreat
