/- For any two sheets and any place: the statement SheetElsewhere of chapter 14 (at a place that is covered by no feature in which two sheets differ they show the same, if they have the same cap): the law's function returns true and leaves its arguments as they were. No condition. -/
import Derived.Test.YtmoofkoibaihhaaGreatShtO
import Derived.Test.YtmoofkoibaihhaaGreatFrameH
import Derived.Test.YtmoofkoibaihhaaGreatAppF
namespace Go.Proofs.YtmoofkoibaihhaaGreat
open Go.ChangeShapes Go.WideShapes Go.ChangeAt Go.RowKit
attribute [local go_sem] bqOp bqAll bqUpon sqOp sqAll sqUpon ssOp ssAll
attribute [local irreducible] wpQuiet wpBQ wpPlan wsPlan
set_option linter.unusedVariables false
theorem else_fin {s t : Sht} {lx : List Int} {px py m n : Int} (hs : ShtOk s) (ht : ShtOk t) (hd : DiffL s.feats t.feats lx) (hm : shownQ s px py true = (m, 0)) (hn : shownQ t px py true = (n, 0)) (hc : s.cap = t.cap) (h : ∀ i, i < (s.feats ++ t.feats).length → covB ((s.feats ++ t.feats).getD i noFeat) px py = true → ((s.feats ++ t.feats).getD i noFeat).id ∉ lx) : m = n := by
  have e := shown_same (qx := px) (qy := py) (idsUp_of hs.2.2.2.2.2.2.2) (idsUp_of ht.2.2.2.2.2.2.2) hd (fun f hf hcv hid => by
    obtain ⟨i, hi, e⟩ := mem_getD noFeat (List.mem_append.2 hf)
    exact h i hi (by rw [e]; exact hcv) (by rw [e]; exact hid))
  simp only [shownQ, Prod.mk.injEq, and_true] at hm hn
  rw [← hm, ← hn]
  unfold shownS
  rw [e, hc]
set_option maxRecDepth 100000 in
set_option maxHeartbeats 8000000 in
theorem sheetElsewhere_walk {s : Sht} {ads afs : Option Addr} {cds cfs : Nat} {t : Sht} {adt aft : Option Addr} {cdt cft : Nat} (px py : Int) {w : World} (hds : IntsAt w (.slice ads s.don.length cds) s.don) (hfs : FeatsAt w (.slice afs s.feats.length cfs) s.feats) (ws : I64 s.edition ∧ I64 s.cap) (hdt : IntsAt w (.slice adt t.don.length cdt) t.don) (hft : FeatsAt w (.slice aft t.feats.length cft) t.feats) (wt : I64 t.edition ∧ I64 t.cap) :
    Calls Tryz.prog 8 #[shtV s (.slice ads s.don.length cds) (.slice afs s.feats.length cfs), shtV t (.slice adt t.don.length cdt) (.slice aft t.feats.length cft), .agg #[.int .i64 px, .int .i64 py]] w fun e w' => e = .returned (.bool true) ∧ Below w.heap.size w w' := by
  have HDs := Lib.hid hds
  have HFs := Lib.hid hfs
  have WSs := Lib.hid ws
  clear hds hfs ws
  have HDt := Lib.hid hdt
  have HFt := Lib.hid hft
  have WSt := Lib.hid wt
  clear hdt hft wt
  obtain ⟨o1, ho1⟩ : ∃ v, decide (ShtOk s ∧ ShtOk t) = v := ⟨_, rfl⟩
  have O1 := Lib.hid ho1
  obtain ⟨os, hos⟩ : ∃ v, decide (ShtOk s ∧ Vld px py) = v := ⟨_, rfl⟩
  have OS := Lib.hid hos
  obtain ⟨ot, hot⟩ : ∃ v, decide (ShtOk t ∧ Vld px py) = v := ⟨_, rfl⟩
  have OT := Lib.hid hot
  obtain ⟨m, em, hm⟩ : ∃ m em, shownQ s px py os = (m, em) := ⟨_, _, rfl⟩
  have HM := Lib.hid hm
  obtain ⟨n, en, hn⟩ : ∃ m em, shownQ t px py ot = (m, em) := ⟨_, _, rfl⟩
  have HN := Lib.hid hn
  clear ho1 hos hot hm hn
  go_enter Tryz.func8, Tryz.ntmps8
  go_wp2_with fail
  refine calls_named fun W hW => ?_
  obtain ⟨p1, p2, p3, hB⟩ := box3 hW
  clear hW
  have P1 := Lib.hid p1
  clear p1
  have q1 := cellsL P1.out
  have P2 := Lib.hid p2
  clear p2
  have q2 := cellsL P2.out
  have P3 := Lib.hid p3
  clear p3
  have q3 := cellsL P3.out
  (with_reducible refine (head14_true _).mono ?_)
  rintro e w1 ⟨rfl, hB1⟩
  have hC1 := below_step hB hB1
  go_wp2_with fail
  obtain ⟨vs, hvs⟩ : ∃ v, decide (FewS s) = v := ⟨_, rfl⟩
  have HVs := Lib.hid hvs
  clear hvs
  (with_reducible refine (q14Few_any s _ _ _ (intsL HDs.out hC1) (HFs.out.later hC1) HVs.out).mono ?_)
  rintro e w2 ⟨rfl, hb2⟩
  have hB2 := below_step hB1 hb2
  have hC2 := below_step hB hB2
  cases vs
  · go_wp2_with fail
    go_returns
    exact ⟨rfl, hC2⟩
  go_wp2_with fail
  obtain ⟨vt, hvt⟩ : ∃ v, decide (FewS t) = v := ⟨_, rfl⟩
  have HVt := Lib.hid hvt
  clear hvt
  (with_reducible refine (q14Few_any t _ _ _ (intsL HDt.out hC2) (HFt.out.later hC2) HVt.out).mono ?_)
  rintro e w3 ⟨rfl, hb3⟩
  have hB3 := below_step hB2 hb3
  have hC3 := below_step hB hB3
  cases vt
  · go_wp2_with fail
    go_returns
    exact ⟨rfl, hC3⟩
  go_wp2_with fail
  (with_reducible refine (shDiffer_any s t _ _ _ _ _ (intsL HDs.out hC3) (HFs.out.later hC3) (intsL HDt.out hC3) (HFt.out.later hC3) O1.out).mono ?_)
  rintro e w4 ⟨ax, cx, nx, ex, lx, rfl, xx, yx, hb4⟩
  have hB4 := below_step hB3 hb4
  have hC4 := below_step hB hB4
  have Xx := Lib.hid xx
  have Yx := Lib.hid yx
  clear xx yx
  go_wp2_with fail
  (with_reducible refine (shShown_any s _ _ px py _ (intsL HDs.out hC4) (HFs.out.later hC4) OS.out HM.out).mono ?_)
  rintro e w5 ⟨rfl, hb5⟩
  have hB5 := below_step hB4 hb5
  have hC5 := below_step hB hB5
  go_wp2_with fail
  (with_reducible refine (shShown_any t _ _ px py _ (intsL HDt.out hC5) (HFt.out.later hC5) OT.out HN.out).mono ?_)
  rintro e w6 ⟨rfl, hb6⟩
  have hB6 := below_step hB5 hb6
  have hC6 := below_step hB hB6
  cases o1
  · obtain rfl := Yx.out (by simp)
    go_wp2_with fail
    go_returns
    exact ⟨rfl, hC6⟩
  obtain ⟨rfl, rfl, hn6, hdx, hix⟩ := Xx.out (by simp)
  have OKST := Lib.hid (of_decide_eq_true O1.out)
  have DX := Lib.hid hdx
  have Ix := Lib.hid hix
  clear hdx hix Xx Yx
  by_cases hvp : Vld px py
  rotate_left
  · obtain rfl : os = false := by rw [← OS.out]; exact decide_eq_false fun h => hvp h.2
    obtain rfl : ot = false := by rw [← OT.out]; exact decide_eq_false fun h => hvp h.2
    obtain ⟨rfl, rfl⟩ : (0 : Int) = m ∧ (1 : Int) = em := by simpa [shownQ] using HM.out
    obtain ⟨rfl, rfl⟩ : (0 : Int) = n ∧ (1 : Int) = en := by simpa [shownQ] using HN.out
    go_wp2_with fail
    go_returns
    exact ⟨rfl, hC6⟩
  have HVP := Lib.hid hvp
  obtain rfl : os = true := by rw [← OS.out]; exact decide_eq_true ⟨OKST.out.1, hvp⟩
  obtain rfl : ot = true := by rw [← OT.out]; exact decide_eq_true ⟨OKST.out.2, hvp⟩
  obtain rfl : (0 : Int) = em := by have := HM.out; simp only [shownQ, Prod.mk.injEq] at this; exact this.2
  obtain rfl : (0 : Int) = en := by have := HN.out; simp only [shownQ, Prod.mk.injEq] at this; exact this.2
  clear hvp
  go_wp2_with fail
  clear q1 q2 q3
  have q1 := cellsR (block_later hB6 P1.out)
  have q2 := cellsR (block_later hB6 P2.out)
  have SF := Lib.hid (HFs.out.later hC6)
  have TF := Lib.hid (HFt.out.later hC6)
  have hs300 := OKST.out.1.2.2.2.2.2.2.2.1
  have ht300 := OKST.out.2.2.2.2.2.2.2.2.1
  obtain ⟨N, hN⟩ : ∃ N, ([] ++ s.feats : List Feat).length + t.feats.length = N := ⟨_, rfl⟩
  have HNN := Lib.hid hN
  have hN600 : N ≤ 600 := by rw [← hN, List.nil_append]; omega
  clear hN
  refine wp_region_plan (.take 1 (.take 1 (.take 2 (.take 2 (.only 0 (.only 0 (.only 0 (.take 0 .done)))))))) (by kernel_rfl) (by kernel_rfl) (fun hP => ?_)
  repeat' (first
    | (refine wpPlan_two ?_ ?_)
    | (refine wpPlan_three ?_ ?_ ?_)
    | (refine wpPlan_take rfl (fun K hK => ?_); replace hK := Lib.hid hK; go_simp; first | (refine hK.out _ ?_; clear hK K) | (apply Exists.intro; refine ⟨fun _ => ?_, hK.out _ ?_⟩; (first | with_reducible exact rfl | skip); clear hK K))
    | (refine wpPlan_only rfl (fun K hK => ?_); replace hK := Lib.hid hK; (first | ((refine step_appF (by rfl) _ _ (by rfl) w6.heap.size w6 (.slice (some ⟨w6.heap.size, 0, none⟩) 0 0) [] s.feats (by rfl) OW0 afs s.feats.length cfs (by rfl) rfl SF.out hP (N := s.feats.length) (by simp) (by omega) hP.size ?_); intro ad3 c3 w3' hown3 hb3; have hbx3 := hP.trans hb3; clear OW0) | ((refine step_appF (by rfl) _ _ (by rfl) w6.heap.size w6 (.slice ad3 s.feats.length c3) ([] ++ s.feats) t.feats (by rfl) hown3 aft t.feats.length cft (by rfl) rfl TF.out hP HNN.out (by omega) hP.size ?_); intro ad4 c4 w4' hown4 hb4; have hbx4 := hP.trans hb4; clear hown3) | (go_simp; have hq := block_new w6 (Obj.cells #[] 53); have hBq := ((Below.refl w6.heap.size w6).alloc (Nat.le_refl _) (Obj.cells #[] 53)).drew; generalize hwn : World.drew (World.alloc w6 (Obj.cells #[] 53)) = wn at hBq ⊢; replace hq : wn.heap[w6.heap.size]? = some (Obj.cells #[] 53 (0, 0)) := (by subst hwn; exact hq); clear hwn; have OW0 := OwnFs.box0 w6 hq (Nat.le_refl _)) | (go_simp; first | skip)); refine hK.out _ _ (by first | assumption | exact below_step hP hbx | exact hP.drew | exact hP.alloc hP.size _) (fun hP => ?_); clear hK K))
  all_goals refine wpPlan_done ?_
  obtain ⟨w7, rfl⟩ : ∃ z, z = w4' := ⟨_, rfl⟩
  have hb7 := hP
  have hB7 := below_step hB6 hb7
  have hC7 := below_step hB hB7
  have ALL : Hid (FeatsAt w7 (.slice ad4 N c4) (s.feats ++ t.feats)) := Lib.hid (by
    have h := hown4.feats hP (by rw [List.length_append, HNN.out]; omega)
    rw [List.nil_append] at h
    exact h)
  have ALN : Hid ((s.feats ++ t.feats).length = N) := Lib.hid (by rw [List.length_append, ← HNN.out, List.nil_append])
  have AOK : Hid (∀ i, i < N → FeatOk ((s.feats ++ t.feats).getD i noFeat)) := Lib.hid fun i hi => by
    have hm := getD_mem (d := noFeat) (l := s.feats ++ t.feats) (i := i) (by rw [ALN.out]; exact hi)
    rcases List.mem_append.1 hm with h | h
    · exact featsOk_mem OKST.out.1.2.2.2.2.2.2.2 _ h
    · exact featsOk_mem OKST.out.2.2.2.2.2.2.2.2 _ h
  have Ix := Lib.hid (intsL Ix.out (below_step hb5 hb6))
  clear hown4 q1 q2 SF TF hP hs300 ht300
  have q1 := cellsL P1.out
  have q2 := cellsL P2.out
  go_wp2_with fail
  go_loopw [15] (fun i wr => ∃ k : Nat, k ≤ N ∧ i = .int .i64 k ∧ Below w7.heap.size w7 wr ∧ ∀ i, i < k → covB ((s.feats ++ t.feats).getD i noFeat) px py = true → ((s.feats ++ t.feats).getD i noFeat).id ∉ lx) (fun i _ => N - (intOf i).toNat)
  case atStart => exact ⟨0, by omega, rfl, Below.refl _ _, fun i hi => absurd hi (Nat.not_lt_zero i)⟩
  case round =>
    obtain ⟨k, hk, rfl, hb, hno⟩ := hrel
    have NO := Lib.hid hno
    clear hno
    have hBr := below_step hB7 hb
    have hCr := below_step hC7 hb
    rcases Nat.lt_or_ge k N with hlt | hge
    rotate_left
    · obtain rfl : k = N := by omega
      by_cases hcap : s.cap = t.cap
      · obtain rfl := else_fin OKST.out.1 OKST.out.2 DX.out HM.out HN.out hcap (by rw [ALN.out]; exact NO.out)
        have hcb : (s.cap == t.cap) = true := by simpa using hcap
        clear hcap
        go_wp2_with fail
        all_goals
          go_returns
          exact ⟨rfl, hCr⟩
      · have hcb : (s.cap == t.cap) = false := by simpa using hcap
        go_wp2_with fail
        go_returns
        exact ⟨rfl, hCr⟩
    have AR := Lib.hid (ALL.out.later hb)
    obtain ⟨g, o, va, vs, rfl, fc⟩ := AR.out.row hlt
    have hok := AOK.out k hlt
    obtain ⟨f, hf⟩ : ∃ f, (s.feats ++ t.feats).getD k noFeat = f := ⟨_, rfl⟩
    rw [hf] at fc hok
    have HF := Lib.hid hf
    have HOK := Lib.hid hok
    clear hf hok
    obtain ⟨c0, c1, c2, c3, c4, c5, c6, c7, c8, PA, SA⟩ := fc
    obtain ⟨aa, ca, rfl, _, _, _⟩ := Lists.form PA
    obtain ⟨ab, cb, rfl, _, _, _⟩ := Lists.form SA
    have HPA := Lib.hid PA
    have HSA := Lib.hid SA
    obtain ⟨cv, hcv⟩ : ∃ c, covB f px py = c := ⟨_, rfl⟩
    have HCV := Lib.hid hcv
    have C0 := Lib.hid c0
    have z0 := cellR1 c0
    have z1 := cellR1 c1
    have z2 := cellR1 c2
    have z3 := cellR1 c3
    have z4 := cellR1 c4
    have z5 := cellR1 c5
    have z6 := cellR1 c6
    have z7 := cellR1 c7
    have z8 := cellR1 c8
    have z9 := cellsR (block_later hBr P3.out)
    clear c0 c1 c2 c3 c4 c5 c6 c7 c8 PA SA hcv q1 q2
    go_wp2_with fail
    refine wp_region_plan (.take 0 (.take 0 (.take 0 (.take 0 (.take 0 (.only 0 (.take 0 (.take 0 (.take 0 (.take 0 (.take 0 .done))))))))))) (by kernel_rfl) (by kernel_rfl) (fun hP => ?_)
    repeat' (first
      | (refine wpPlan_two ?_ ?_)
      | (refine wpPlan_three ?_ ?_ ?_)
      | (refine wpPlan_take rfl (fun K hK => ?_); replace hK := Lib.hid hK; go_simp; first | (refine hK.out _ ?_; clear hK K) | (apply Exists.intro; refine ⟨fun _ => ?_, hK.out _ ?_⟩; (first | with_reducible exact rfl | skip); clear hK K))
      | (refine wpPlan_only rfl (fun K hK => ?_); replace hK := Lib.hid hK; (first | (go_simp; first | (go_at_call 23; (with_reducible refine (ftCovers_yes f aa ab ca cb px py _ HOK.out (ptsL HPA.out hP) (secsL HSA.out hP) HVP.out).mono ?_); rw [HCV.out]; rintro e wx ⟨rfl, hbx⟩)) | (go_simp; first | skip)); refine hK.out _ _ (by first | assumption | exact below_step hP hbx | exact hP.drew | exact hP.alloc hP.size _) (fun hP => ?_); clear hK K))
    all_goals refine wpPlan_done ?_
    have hbR := below_step hb hP
    have hBR := below_step hBr hP
    have hCR := below_step hCr hP
    have d0 := cell_later hP C0.out
    have q1 := cellsL P1.out
    have q2 := cellsL P2.out
    clear z0 z1 z2 z3 z4 z5 z6 z7 z8 z9
    cases cv
    · go_wp2_with fail
      go_roundw
      case rel => exact ⟨k + 1, by omega, by go_num, hbR, fun i hi hc => by
        rcases Nat.lt_or_ge i k with h | h
        · exact NO.out i h hc
        · obtain rfl : i = k := by omega
          rw [HF.out, HCV.out] at hc
          cases hc⟩
      case measure => simp [intOf]; omega
    · obtain ⟨hv, hhv⟩ : ∃ b, decide (f.id ∈ lx) = b := ⟨_, rfl⟩
      have HV := Lib.hid hhv
      clear hhv
      go_wp2_with fail
      (with_reducible refine (l14has_any lx _ _ f.id _ (intsL Ix.out (below_step hb7 hbR)) HV.out).mono ?_)
      rintro e w9 ⟨rfl, hb9⟩
      have hbR9 := below_step hbR hb9
      have hBR9 := below_step hBR hb9
      have hCR9 := below_step hCR hb9
      cases hv
      · go_wp2_with fail
        go_roundw
        case rel => exact ⟨k + 1, by omega, by go_num, hbR9, fun i hi hc => by
          rcases Nat.lt_or_ge i k with h | h
          · exact NO.out i h hc
          · obtain rfl : i = k := by omega
            rw [HF.out]
            exact of_decide_eq_false HV.out⟩
        case measure => simp [intOf]; omega
      · go_wp2_with fail
        go_returns
        exact ⟨rfl, hCR9⟩
set_option maxRecDepth 100000 in
theorem sheetElsewhere_lifted (os : Os) (started : os.Started) (H : Type) (enc : TypeId × Value → H) :
    ReturnsInHanded {} Tryz.checked os 8 .any (Rows.sheetElsewhereSpec.pre6 enc Tryz.prog Tryz.f8 Rows.sheetElsewhereRow.domain false) (Rows.sheetElsewhereSpec.post enc Tryz.prog Tryz.f8 false true false false) := by
  refine returnsInHanded_of_change (C := Tryz.checked) own_knob started (by kernel_rfl) Tryz.func8
    (ChangeSpec.witness6 (enc := enc) (C := Tryz.checked) false ⟨#[], #[.agg #[.int .i64 0, .int .i64 0, .int .i64 0, .int .i64 0, .int .i64 0, .int .i64 0, .int .i64 0, .int .i64 0, .int .i64 0, .int .i64 0, .int .i64 0, .slice none 0 0, .slice none 0 0], .agg #[.int .i64 0, .int .i64 0, .int .i64 0, .int .i64 0, .int .i64 0, .int .i64 0, .int .i64 0, .int .i64 0, .int .i64 0, .int .i64 0, .int .i64 0, .slice none 0 0, .slice none 0 0], .agg #[.int .i64 0, .int .i64 0]], []⟩ 8 (by kernel_rfl) (by kernel_rfl) (by kernel_rfl) (by kernel_rfl)) ?_
  intro W base args ds gs before hval0 hW hcnd _
  have hval : ∀ (j : Nat) t v, Tryz.f8.params[j]? = some t → args[j]? = some v → Value.okWide Tryz.prog W .any base t v := hval0
  have hW' := hW
  obtain ⟨p, q, hA0, hV, rfl, hfz, hnd⟩ := hW
  have hA : DataW.TrodAll enc Tryz.prog W 0 (fun _ => true) true Tryz.f8.params.toList args.toList ds p := hA0
  rw [Tryz.params8] at hA hval
  obtain ⟨v0, vs0, d0, ds0, p0, q0, hargs, rfl, rfl, h0, r0⟩ := trodAll_cons hA
  obtain ⟨v1, vs1, d1, ds1, p1, q1, rfl, rfl, rfl, h1, r1⟩ := trodAll_cons r0
  obtain ⟨v2, vs2, d2, ds2, p2, q2, rfl, rfl, rfl, h2, r2⟩ := trodAll_cons r1
  obtain ⟨rfl, rfl, rfl⟩ := trodAll_nil r2
  obtain rfl : args = #[v0, v1, v2] := by cases args; simp_all
  obtain ⟨rfl, rfl⟩ := trodVars_none hV
  simp only [List.append_nil] at hW' hA0
  obtain ⟨s, _, _, _, _, e0, hds, hfs, ws⟩ := open_sheet (hval 0 27 v0 rfl rfl) h0
  subst e0
  obtain ⟨t, _, _, _, _, e1, hdt, hft, wt⟩ := open_sheet (hval 1 27 v1 rfl rfl) h1
  subst e1
  obtain ⟨px, py, e2, _, _⟩ := open_point (hval 2 45 v2 rfl rfl) h2
  subst e2
  refine (sheetElsewhere_walk px py hds hfs ws hdt hft wt).mono fun e W' ⟨he, hg⟩ => ?_
  subst he
  exact ⟨_, rfl, post_law laid_out (by rw [Tryz.params8]; intro t ht; simp only [List.mem_cons, List.not_mem_nil, or_false] at ht; rcases ht with rfl | rfl | rfl <;> exact ⟨by kernel_rfl, of_decide_eq_true (by kernel_rfl)⟩) rfl hW' hA0 rfl rfl rfl rfl Tryz.underlying4 hg⟩
theorem sheetElsewhere_over : Rows.sheetElsewhereRow.holds Tryz.pinned (OpenSpec.ofChange Rows.sheetElsewhereSpec) :=
  OpenClaim.holds_of_wide 8 Tryz.f8 rfl rfl rfl rfl rfl rfl rfl ⟨rfl, rfl, rfl, rfl, rfl⟩ rfl rfl rfl rfl rfl (by kernel_rfl) Tryz.func8 (by kernel_rfl)
    (of_decide_eq_true (by kernel_rfl)) (by unfold Func.isWrapper; first | (rw [if_pos (by decide +kernel)]; kernel_rfl) | (rw [if_neg (by decide +kernel)]; exact ⟨rfl, rfl⟩))
    (fun os started H enc _ => sheetElsewhere_lifted os started H enc)
theorem sheetElsewhere_holds : Rows.SheetElsewhereSaid :=
  sheetElsewhere_over
#print axioms sheetElsewhere_holds
end Go.Proofs.YtmoofkoibaihhaaGreat
