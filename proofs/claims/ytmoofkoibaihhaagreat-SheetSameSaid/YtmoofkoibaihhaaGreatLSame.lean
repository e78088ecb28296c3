/- For any two sheets: the statement SheetSame of chapter 14 (two valid sheets are equal exactly if their integers are): the law's function returns true and leaves its arguments as they were. No condition. -/
import Derived.Test.YtmoofkoibaihhaaGreatShtO
import Derived.Test.YtmoofkoibaihhaaGreatFrameH
namespace Go.Proofs.YtmoofkoibaihhaaGreat
open Go.ChangeShapes Go.WideShapes Go.ChangeAt Go.RowKit
attribute [local go_sem] bqOp bqAll bqUpon sqOp sqAll sqUpon ssOp ssAll
attribute [local irreducible] wpQuiet wpBQ wpPlan wsPlan
set_option linter.unusedVariables false
set_option maxRecDepth 100000 in
set_option maxHeartbeats 8000000 in
theorem sheetSame_walk {s : Sht} {ads afs : Option Addr} {cds cfs : Nat} {t : Sht} {adt aft : Option Addr} {cdt cft : Nat} {w : World} (hds : IntsAt w (.slice ads s.don.length cds) s.don) (hfs : FeatsAt w (.slice afs s.feats.length cfs) s.feats) (ws : I64 s.edition ∧ I64 s.cap) (hdt : IntsAt w (.slice adt t.don.length cdt) t.don) (hft : FeatsAt w (.slice aft t.feats.length cft) t.feats) (wt : I64 t.edition ∧ I64 t.cap) :
    Calls Tryz.prog 6 #[shtV s (.slice ads s.don.length cds) (.slice afs s.feats.length cfs), shtV t (.slice adt t.don.length cdt) (.slice aft t.feats.length cft)] w fun e w' => e = .returned (.bool true) ∧ Below w.heap.size w w' := by
  have HDs := Lib.hid hds
  have HFs := Lib.hid hfs
  have WSs := Lib.hid ws
  clear hds hfs ws
  have HDt := Lib.hid hdt
  have HFt := Lib.hid hft
  have WSt := Lib.hid wt
  clear hdt hft wt
  obtain ⟨v, hv⟩ : ∃ v, decide (s = t) = v := ⟨_, rfl⟩
  have HV := Lib.hid hv
  have HV' : Hid (decide (t = s) = v) := Lib.hid (by rw [← hv]; exact decide_eq_decide.2 ⟨Eq.symm, Eq.symm⟩)
  clear hv
  obtain ⟨os, hos⟩ : ∃ v, decide (ShtOk s) = v := ⟨_, rfl⟩
  have OS := Lib.hid hos
  obtain ⟨ot, hot⟩ : ∃ v, decide (ShtOk t) = v := ⟨_, rfl⟩
  have OT := Lib.hid hot
  clear hos hot
  go_enter Tryz.func6, Tryz.ntmps6
  go_wp2_with fail
  refine calls_named fun W hW => ?_
  obtain ⟨p1, p2, hB⟩ := box2 hW
  clear hW
  have P1 := Lib.hid p1
  clear p1
  have q1 := cellsL P1.out
  have P2 := Lib.hid p2
  clear p2
  have q2 := cellsL P2.out
  (with_reducible refine (head14_true _).mono ?_)
  rintro e w1 ⟨rfl, hB1⟩
  have hC1 := below_step hB hB1
  go_wp2_with fail
  obtain ⟨vs, hvs⟩ : ∃ v, decide (FewS s) = v := ⟨_, rfl⟩
  have HVs := Lib.hid hvs
  clear hvs
  (with_reducible refine (q14Few_any s _ _ _ (intsL HDs.out hC1) (HFs.out.later hC1) HVs.out).mono ?_)
  rintro e w2 ⟨rfl, hb2⟩
  have hB2 := below_step hB1 hb2
  have hC2 := below_step hB hB2
  cases vs
  · go_wp2_with fail
    go_returns
    exact ⟨rfl, hC2⟩
  go_wp2_with fail
  obtain ⟨vt, hvt⟩ : ∃ v, decide (FewS t) = v := ⟨_, rfl⟩
  have HVt := Lib.hid hvt
  clear hvt
  (with_reducible refine (q14Few_any t _ _ _ (intsL HDt.out hC2) (HFt.out.later hC2) HVt.out).mono ?_)
  rintro e w3 ⟨rfl, hb3⟩
  have hB3 := below_step hB2 hb3
  have hC3 := below_step hB hB3
  cases vt
  · go_wp2_with fail
    go_returns
    exact ⟨rfl, hC3⟩
  go_wp2_with fail
  (with_reducible refine (shInts_any s _ _ _ (intsL HDs.out hC3) (HFs.out.later hC3) OS.out).mono ?_)
  rintro e w4 ⟨ais, cis, nis, ers, rfl, hxs, hys, hb4⟩
  have hB4 := below_step hB3 hb4
  have hC4 := below_step hB hB4
  have XS := Lib.hid hxs
  have YS := Lib.hid hys
  clear hxs hys
  go_wp2_with fail
  (with_reducible refine (shInts_any t _ _ _ (intsL HDt.out hC4) (HFt.out.later hC4) OT.out).mono ?_)
  rintro e w5 ⟨ait, cit, nit, ert, rfl, hxt, hyt, hb5⟩
  have hB5 := below_step hB4 hb5
  have hC5 := below_step hB hB5
  have XT := Lib.hid hxt
  have YT := Lib.hid hyt
  clear hxt hyt
  go_wp2_with fail
  have SW := Lib.hid (intsL HDs.out hC5)
  have SF := Lib.hid (HFs.out.later hC5)
  have TW := Lib.hid (intsL HDt.out hC5)
  have TF := Lib.hid (HFt.out.later hC5)
  clear q1 q2
  have q1 := cellsR (block_later hB5 P1.out)
  have q2 := cellsR (block_later hB5 P2.out)
  refine wp_region_plan (.take 0 (.take 0 (.take 0 (.take 0 (.only 0 (.take 0 (.take 0 (.take 0 (.take 0 (.take 1 (.take 1 (.only 0 (.only 0 (.take 0 (.take 0 (.take 0 .done)))))))))))))))) (by kernel_rfl) (by kernel_rfl) (fun hP => ?_)
  repeat' (first
    | (refine wpPlan_two ?_ ?_)
    | (refine wpPlan_three ?_ ?_ ?_)
    | (refine wpPlan_take rfl (fun K hK => ?_); replace hK := Lib.hid hK; go_simp; first | (refine hK.out _ ?_; clear hK K) | (apply Exists.intro; refine ⟨fun _ => ?_, hK.out _ ?_⟩; (first | with_reducible exact rfl | skip); clear hK K))
    | (refine wpPlan_only rfl (fun K hK => ?_); replace hK := Lib.hid hK; (first | (go_simp; first | (go_at_call 21; (with_reducible refine (shSame_any s s _ _ _ _ _ (intsL SW.out hP) (SF.out.later hP) (intsL SW.out hP) (SF.out.later hP) (decide_eq_true rfl)).mono ?_); rintro e wx ⟨rfl, hbx⟩) | (go_at_call 21; (with_reducible refine (shSame_any s t _ _ _ _ _ (intsL SW.out hP) (SF.out.later hP) (intsL TW.out hP) (TF.out.later hP) HV.out).mono ?_); rintro e wx ⟨rfl, hbx⟩) | (go_at_call 21; (with_reducible refine (shSame_any t s _ _ _ _ _ (intsL TW.out hP) (TF.out.later hP) (intsL SW.out hP) (SF.out.later hP) HV'.out).mono ?_); rintro e wx ⟨rfl, hbx⟩)) | (go_simp; first | skip)); refine hK.out _ _ (by first | assumption | exact below_step hP hbx | exact hP.drew | exact hP.alloc hP.size _) (fun hP => ?_); clear hK K))
  all_goals refine wpPlan_done ?_
  obtain ⟨w6, rfl⟩ : ∃ z, z = wx := ⟨_, rfl⟩
  have hb6 := hP
  have hB6 := below_step hB5 hb6
  have hC6 := below_step hB hB6
  clear q1 q2 SW SF TW TF
  have q1 := cellsL P1.out
  have q2 := cellsL P2.out
  cases os <;> cases ot
  · obtain rfl := YS.out (by simp)
    obtain rfl := YT.out (by simp)
    go_wp2_with fail
    (with_reducible refine (shSame_any s t _ _ _ _ _ (intsL HDs.out hC6) (HFs.out.later hC6) (intsL HDt.out hC6) (HFt.out.later hC6) HV.out).mono ?_)
    rintro e w7 ⟨rfl, hb7⟩
    have hB7 := below_step hB6 hb7
    have hC7 := below_step hB hB7
    cases v
    all_goals
      go_wp2_with fail
      go_returns
      exact ⟨rfl, hC7⟩
  · obtain rfl := YS.out (by simp)
    obtain rfl := (XT.out (by simp)).1
    obtain rfl : v = false := by
      rw [← HV.out]
      exact decide_eq_false fun e => by
        subst e
        exact Bool.noConfusion (OS.out.symm.trans OT.out)
    go_wp2_with fail
    (with_reducible refine (shSame_any s t _ _ _ _ _ (intsL HDs.out hC6) (HFs.out.later hC6) (intsL HDt.out hC6) (HFt.out.later hC6) HV.out).mono ?_)
    rintro e w7 ⟨rfl, hb7⟩
    have hB7 := below_step hB6 hb7
    have hC7 := below_step hB hB7
    go_wp2_with fail
    go_returns
    exact ⟨rfl, hC7⟩
  · obtain rfl := (XS.out (by simp)).1
    obtain rfl := YT.out (by simp)
    obtain rfl : v = false := by
      rw [← HV.out]
      exact decide_eq_false fun e => by
        subst e
        exact Bool.noConfusion (OS.out.symm.trans OT.out)
    go_wp2_with fail
    (with_reducible refine (shSame_any s t _ _ _ _ _ (intsL HDs.out hC6) (HFs.out.later hC6) (intsL HDt.out hC6) (HFt.out.later hC6) HV.out).mono ?_)
    rintro e w7 ⟨rfl, hb7⟩
    have hB7 := below_step hB6 hb7
    have hC7 := below_step hB hB7
    go_wp2_with fail
    go_returns
    exact ⟨rfl, hC7⟩
  · obtain rfl := (XS.out (by simp)).1
    obtain rfl := (XT.out (by simp)).1
    go_wp2_with fail
    (with_reducible refine (shSame_any s t _ _ _ _ _ (intsL HDs.out hC6) (HFs.out.later hC6) (intsL HDt.out hC6) (HFt.out.later hC6) HV.out).mono ?_)
    rintro e w7 ⟨rfl, hb7⟩
    have hB7 := below_step hB6 hb7
    have hC7 := below_step hB hB7
    go_wp2_with fail
    obtain ⟨_, rfl, iis⟩ := XS.out (by simp)
    obtain ⟨_, rfl, iit⟩ := XT.out (by simp)
    have HE : Hid (decide (RowsEq 1 (encS s).length (encS t).length (fun i _ => (encS s).getD i 0) (fun i _ => (encS t).getD i 0)) = v) := Lib.hid (by
      rw [← HV.out]
      exact decide_eq_decide.2 ((ints_eq (encS s) (encS t)).trans ⟨enc_inj (of_decide_eq_true OS.out) (of_decide_eq_true OT.out), fun e => by rw [e]⟩))
    have II := Lib.hid iis
    have IT := Lib.hid iit
    clear iis iit
    (with_reducible refine (q08Ints_any _ _ _ _ _ _ _ _ _ (ints_rows (intsL II.out (below_step (below_step hb5 hb6) hb7))) (ints_rows (intsL IT.out (below_step hb6 hb7))) II.out.len IT.out.len HE.out).mono ?_)
    rintro e w8 ⟨rfl, hb8⟩
    have hB8 := below_step hB7 hb8
    have hC8 := below_step hB hB8
    go_wp2_with fail
    go_returns
    exact ⟨rfl, hC8⟩
set_option maxRecDepth 100000 in
theorem sheetSame_lifted (os : Os) (started : os.Started) (H : Type) (enc : TypeId × Value → H) :
    ReturnsInHanded {} Tryz.checked os 6 .any (Rows.sheetSameSpec.pre6 enc Tryz.prog Tryz.f6 Rows.sheetSameRow.domain false) (Rows.sheetSameSpec.post enc Tryz.prog Tryz.f6 false true false false) := by
  refine returnsInHanded_of_change (C := Tryz.checked) own_knob started (by kernel_rfl) Tryz.func6
    (ChangeSpec.witness6 (enc := enc) (C := Tryz.checked) false ⟨#[], #[.agg #[.int .i64 0, .int .i64 0, .int .i64 0, .int .i64 0, .int .i64 0, .int .i64 0, .int .i64 0, .int .i64 0, .int .i64 0, .int .i64 0, .int .i64 0, .slice none 0 0, .slice none 0 0], .agg #[.int .i64 0, .int .i64 0, .int .i64 0, .int .i64 0, .int .i64 0, .int .i64 0, .int .i64 0, .int .i64 0, .int .i64 0, .int .i64 0, .int .i64 0, .slice none 0 0, .slice none 0 0]], []⟩ 8 (by kernel_rfl) (by kernel_rfl) (by kernel_rfl) (by kernel_rfl)) ?_
  intro W base args ds gs before hval0 hW hcnd _
  have hval : ∀ (j : Nat) t v, Tryz.f6.params[j]? = some t → args[j]? = some v → Value.okWide Tryz.prog W .any base t v := hval0
  have hW' := hW
  obtain ⟨p, q, hA0, hV, rfl, hfz, hnd⟩ := hW
  have hA : DataW.TrodAll enc Tryz.prog W 0 (fun _ => true) true Tryz.f6.params.toList args.toList ds p := hA0
  rw [Tryz.params6] at hA hval
  obtain ⟨v0, vs0, d0, ds0, p0, q0, hargs, rfl, rfl, h0, r0⟩ := trodAll_cons hA
  obtain ⟨v1, vs1, d1, ds1, p1, q1, rfl, rfl, rfl, h1, r1⟩ := trodAll_cons r0
  obtain ⟨rfl, rfl, rfl⟩ := trodAll_nil r1
  obtain rfl : args = #[v0, v1] := by cases args; simp_all
  obtain ⟨rfl, rfl⟩ := trodVars_none hV
  simp only [List.append_nil] at hW' hA0
  obtain ⟨s, _, _, _, _, e0, hds, hfs, ws⟩ := open_sheet (hval 0 27 v0 rfl rfl) h0
  subst e0
  obtain ⟨t, _, _, _, _, e1, hdt, hft, wt⟩ := open_sheet (hval 1 27 v1 rfl rfl) h1
  subst e1
  refine (sheetSame_walk  hds hfs ws hdt hft wt).mono fun e W' ⟨he, hg⟩ => ?_
  subst he
  exact ⟨_, rfl, post_law laid_out (by rw [Tryz.params6]; intro t ht; simp only [List.mem_cons, List.not_mem_nil, or_false] at ht; rcases ht with rfl | rfl <;> exact ⟨by kernel_rfl, of_decide_eq_true (by kernel_rfl)⟩) rfl hW' hA0 rfl rfl rfl rfl Tryz.underlying4 hg⟩
theorem sheetSame_over : Rows.sheetSameRow.holds Tryz.pinned (OpenSpec.ofChange Rows.sheetSameSpec) :=
  OpenClaim.holds_of_wide 6 Tryz.f6 rfl rfl rfl rfl rfl rfl rfl ⟨rfl, rfl, rfl, rfl, rfl⟩ rfl rfl rfl rfl rfl (by kernel_rfl) Tryz.func6 (by kernel_rfl)
    (of_decide_eq_true (by kernel_rfl)) (by unfold Func.isWrapper; first | (rw [if_pos (by decide +kernel)]; kernel_rfl) | (rw [if_neg (by decide +kernel)]; exact ⟨rfl, rfl⟩))
    (fun os started H enc _ => sheetSame_lifted os started H enc)
theorem sheetSame_holds : Rows.SheetSameSaid :=
  sheetSame_over
#print axioms sheetSame_holds
end Go.Proofs.YtmoofkoibaihhaaGreat
