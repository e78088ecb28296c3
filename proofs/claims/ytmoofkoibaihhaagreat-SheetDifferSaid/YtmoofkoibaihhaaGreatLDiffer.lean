/- For any three sheets: the statement SheetDiffer of chapter 14 (sheets differ in no feature exactly if their features are equal; a difference does not depend on the order; what two sheets differ in, each third one differs in from one of both): the law's function returns true and leaves its arguments as they were. No condition. -/
import Derived.Test.YtmoofkoibaihhaaGreatShtO
import Derived.Test.YtmoofkoibaihhaaGreatFrameH
namespace Go.Proofs.YtmoofkoibaihhaaGreat
open Go.ChangeShapes Go.WideShapes Go.ChangeAt Go.RowKit
attribute [local go_sem] bqOp bqAll bqUpon sqOp sqAll sqUpon ssOp ssAll
attribute [local irreducible] wpQuiet wpBQ wpPlan wsPlan
set_option linter.unusedVariables false
set_option maxRecDepth 100000 in
set_option maxHeartbeats 8000000 in
theorem sheetDiffer_walk {s : Sht} {ads afs : Option Addr} {cds cfs : Nat} {t : Sht} {adt aft : Option Addr} {cdt cft : Nat} {u : Sht} {adu afu : Option Addr} {cdu cfu : Nat} {w : World} (hds : IntsAt w (.slice ads s.don.length cds) s.don) (hfs : FeatsAt w (.slice afs s.feats.length cfs) s.feats) (ws : I64 s.edition ∧ I64 s.cap) (hdt : IntsAt w (.slice adt t.don.length cdt) t.don) (hft : FeatsAt w (.slice aft t.feats.length cft) t.feats) (wt : I64 t.edition ∧ I64 t.cap) (hdu : IntsAt w (.slice adu u.don.length cdu) u.don) (hfu : FeatsAt w (.slice afu u.feats.length cfu) u.feats) (wu : I64 u.edition ∧ I64 u.cap) :
    Calls Tryz.prog 5 #[shtV s (.slice ads s.don.length cds) (.slice afs s.feats.length cfs), shtV t (.slice adt t.don.length cdt) (.slice aft t.feats.length cft), shtV u (.slice adu u.don.length cdu) (.slice afu u.feats.length cfu)] w fun e w' => e = .returned (.bool true) ∧ Below w.heap.size w w' := by
  have HDs := Lib.hid hds
  have HFs := Lib.hid hfs
  have WSs := Lib.hid ws
  clear hds hfs ws
  have HDt := Lib.hid hdt
  have HFt := Lib.hid hft
  have WSt := Lib.hid wt
  clear hdt hft wt
  have HDu := Lib.hid hdu
  have HFu := Lib.hid hfu
  have WSu := Lib.hid wu
  clear hdu hfu wu
  obtain ⟨o1, ho1⟩ : ∃ v, decide (ShtOk s ∧ ShtOk t) = v := ⟨_, rfl⟩
  have O1 := Lib.hid ho1
  have O1' : Hid (decide (ShtOk t ∧ ShtOk s) = o1) := Lib.hid (by rw [← ho1]; exact decide_eq_decide.2 and_comm)
  obtain ⟨ou, hou⟩ : ∃ v, decide (ShtOk u) = v := ⟨_, rfl⟩
  have OU := Lib.hid hou
  clear ho1 hou
  obtain ⟨fe, hfe⟩ : ∃ v, decide (s.feats = t.feats) = v := ⟨_, rfl⟩
  have FE := Lib.hid hfe
  clear hfe
  go_enter Tryz.func5, Tryz.ntmps5
  go_wp2_with fail
  refine calls_named fun W hW => ?_
  obtain ⟨p1, p2, p3, hB⟩ := box3 hW
  clear hW
  have P1 := Lib.hid p1
  clear p1
  have q1 := cellsL P1.out
  have P2 := Lib.hid p2
  clear p2
  have q2 := cellsL P2.out
  have P3 := Lib.hid p3
  clear p3
  have q3 := cellsL P3.out
  (with_reducible refine (head14_true _).mono ?_)
  rintro e w1 ⟨rfl, hB1⟩
  have hC1 := below_step hB hB1
  go_wp2_with fail
  obtain ⟨vs, hvs⟩ : ∃ v, decide (FewS s) = v := ⟨_, rfl⟩
  have HVs := Lib.hid hvs
  clear hvs
  (with_reducible refine (q14Few_any s _ _ _ (intsL HDs.out hC1) (HFs.out.later hC1) HVs.out).mono ?_)
  rintro e w2 ⟨rfl, hb2⟩
  have hB2 := below_step hB1 hb2
  have hC2 := below_step hB hB2
  cases vs
  · go_wp2_with fail
    go_returns
    exact ⟨rfl, hC2⟩
  go_wp2_with fail
  obtain ⟨vt, hvt⟩ : ∃ v, decide (FewS t) = v := ⟨_, rfl⟩
  have HVt := Lib.hid hvt
  clear hvt
  (with_reducible refine (q14Few_any t _ _ _ (intsL HDt.out hC2) (HFt.out.later hC2) HVt.out).mono ?_)
  rintro e w3 ⟨rfl, hb3⟩
  have hB3 := below_step hB2 hb3
  have hC3 := below_step hB hB3
  cases vt
  · go_wp2_with fail
    go_returns
    exact ⟨rfl, hC3⟩
  go_wp2_with fail
  obtain ⟨vu, hvu⟩ : ∃ v, decide (FewS u) = v := ⟨_, rfl⟩
  have HVu := Lib.hid hvu
  clear hvu
  (with_reducible refine (q14Few_any u _ _ _ (intsL HDu.out hC3) (HFu.out.later hC3) HVu.out).mono ?_)
  rintro e w4 ⟨rfl, hb4⟩
  have hB4 := below_step hB3 hb4
  have hC4 := below_step hB hB4
  cases vu
  · go_wp2_with fail
    go_returns
    exact ⟨rfl, hC4⟩
  go_wp2_with fail
  (with_reducible refine (shDiffer_any s t _ _ _ _ _ (intsL HDs.out hC4) (HFs.out.later hC4) (intsL HDt.out hC4) (HFt.out.later hC4) O1.out).mono ?_)
  rintro e w5 ⟨ax, cx, nx, ex, lx, rfl, xx, yx, hb5⟩
  have hB5 := below_step hB4 hb5
  have hC5 := below_step hB hB5
  have Xx := Lib.hid xx
  have Yx := Lib.hid yx
  clear xx yx
  go_wp2_with fail
  (with_reducible refine (shDiffer_any t s _ _ _ _ _ (intsL HDt.out hC5) (HFt.out.later hC5) (intsL HDs.out hC5) (HFs.out.later hC5) O1'.out).mono ?_)
  rintro e w6 ⟨ay, cy, ny, ey, ly, rfl, xy, yy, hb6⟩
  have hB6 := below_step hB5 hb6
  have hC6 := below_step hB hB6
  have Xy := Lib.hid xy
  have Yy := Lib.hid yy
  clear xy yy
  cases o1
  · obtain rfl := Yx.out (by simp)
    obtain rfl := Yy.out (by simp)
    go_wp2_with fail
    go_returns
    exact ⟨rfl, hC6⟩
  obtain ⟨rfl, rfl, hn6, hdx, hix⟩ := Xx.out (by simp)
  obtain ⟨rfl, rfl, _, hdy, hiy⟩ := Xy.out (by simp)
  obtain rfl := diffL_sym hdx hdy
  have OKST := Lib.hid (of_decide_eq_true O1.out)
  have DX := Lib.hid hdx
  have Ix := Lib.hid hix
  have Iy := Lib.hid hiy
  have HE : Hid (decide (RowsEq 1 lx.length lx.length (fun i _ => lx.getD i 0) (fun i _ => lx.getD i 0)) = true) := Lib.hid (decide_eq_true ((ints_eq lx lx).2 rfl))
  have hemp : ((lx.length : Int) == 0) = fe := by
    have h := diffL_nil (idsUp_of OKST.out.1.2.2.2.2.2.2.2) (idsUp_of OKST.out.2.2.2.2.2.2.2.2) hdx
    rw [← FE.out]
    refine Bool.eq_iff_iff.2 ?_
    rw [decide_eq_true_iff, ← h]
    simp
  have OA : Hid (decide (ShtOk s ∧ ShtOk u) = ou) := Lib.hid (by rw [← OU.out]; exact decide_eq_decide.2 ⟨fun h => h.2, fun h => ⟨OKST.out.1, h⟩⟩)
  have OB : Hid (decide (ShtOk u ∧ ShtOk t) = ou) := Lib.hid (by rw [← OU.out]; exact decide_eq_decide.2 ⟨fun h => h.1, fun h => ⟨h, OKST.out.2⟩⟩)
  clear hdx hdy hix hiy Xx Yx Xy Yy
  go_wp2_with fail
  (with_reducible refine (q08Ints_any _ _ _ _ _ _ _ _ _ (ints_rows (intsL Ix.out hb6)) (ints_rows (intsL Iy.out (Below.refl _ w6))) Ix.out.len Iy.out.len HE.out).mono ?_)
  rintro e w7 ⟨rfl, hb7⟩
  have hB7 := below_step hB6 hb7
  have hC7 := below_step hB hB7
  go_wp2_with fail
  (with_reducible refine (q07SameList_any s.feats t.feats _ _ _ (HFs.out.later hC7) (HFt.out.later hC7) FE.out).mono ?_)
  rintro e w8 ⟨rfl, hb8⟩
  have hB8 := below_step hB7 hb8
  have hC8 := below_step hB hB8
  go_wp2_with fail
  (with_reducible refine (shDiffer_any s u _ _ _ _ _ (intsL HDs.out hC8) (HFs.out.later hC8) (intsL HDu.out hC8) (HFu.out.later hC8) OA.out).mono ?_)
  rintro e w9 ⟨av, cv, nv, ev, lv, rfl, xv, yv, hb9⟩
  have hB9 := below_step hB8 hb9
  have hC9 := below_step hB hB9
  have Xv := Lib.hid xv
  have Yv := Lib.hid yv
  clear xv yv
  go_wp2_with fail
  (with_reducible refine (shDiffer_any u t _ _ _ _ _ (intsL HDu.out hC9) (HFu.out.later hC9) (intsL HDt.out hC9) (HFt.out.later hC9) OB.out).mono ?_)
  rintro e w10 ⟨aw, cw, nw, ew, lw, rfl, xw, yw, hb10⟩
  have hB10 := below_step hB9 hb10
  have hC10 := below_step hB hB10
  have Xw := Lib.hid xw
  have Yw := Lib.hid yw
  clear xw yw
  cases ou
  · obtain rfl := Yv.out (by simp)
    obtain rfl := Yw.out (by simp)
    go_wp2_with fail
    go_returns
    exact ⟨rfl, hC10⟩
  obtain ⟨rfl, rfl, _, hdv, hiv⟩ := Xv.out (by simp)
  obtain ⟨rfl, rfl, _, hdw, hiw⟩ := Xw.out (by simp)
  have TRI : Hid (∀ id, id ∈ lx → id ∈ lv ∨ id ∈ lw) := Lib.hid fun id h => diffL_tri DX.out hdv hdw h
  have Iv := Lib.hid (intsL hiv hb10)
  have Iw := Lib.hid hiw
  have Ix := Lib.hid (intsL Ix.out (below_step (below_step (below_step (below_step hb6 hb7) hb8) hb9) hb10))
  clear hdv hdw hiv hiw Xv Yv Xw Yw Iy hemp
  have hC0 := hC10
  go_wp2_with fail
  go_loopw [7, 16] (fun up i wr => ∃ k : Nat, k ≤ lx.length ∧ i = .int .i64 k ∧ up = .bool true ∧ Below w10.heap.size w10 wr) (fun _ i _ => lx.length - (intOf i).toNat)
  case atStart => exact ⟨0, by omega, rfl, rfl, Below.refl _ _⟩
  case round =>
    obtain ⟨k, hk, rfl, rfl, hb⟩ := hrel
    rcases Nat.lt_or_ge k lx.length with hlt | hge
    rotate_left
    · obtain rfl : k = lx.length := by omega
      go_wp2_with fail
      go_returns
      exact ⟨rfl, below_step hC0 hb⟩
    obtain ⟨g, o, rfl, hc⟩ := (ints_rows (intsL Ix.out hb)).row hlt
    have c0 := hc 0 (by omega)
    simp only [Nat.mul_one, Nat.add_zero] at c0
    clear hc
    obtain ⟨x, hx⟩ : ∃ x, lx.getD k 0 = x := ⟨_, rfl⟩
    rw [hx] at c0
    have hmem : x ∈ lx := by rw [← hx]; exact getD_mem hlt
    have HXX := Lib.hid hx
    clear hx
    obtain ⟨b1, hb1'⟩ : ∃ b, decide (x ∈ lv) = b := ⟨_, rfl⟩
    have HV1 := Lib.hid hb1'
    obtain ⟨b2, hb2'⟩ : ∃ b, decide (x ∈ lw) = b := ⟨_, rfl⟩
    have HV2 := Lib.hid hb2'
    have hor : b1 = false → b2 = true := fun e => by
      rw [← hb2']
      subst e
      exact decide_eq_true ((TRI.out x hmem).resolve_left (of_decide_eq_false hb1'))
    have HOR := Lib.hid hor
    clear hb1' hb2' hor hmem
    have Vr := Lib.hid (intsL Iv.out hb)
    have Wr' := Lib.hid (intsL Iw.out hb)
    have PREV : Hid (∀ j, k = j + 1 → ∃ y, y < x ∧ wr.cell? ⟨g, o + j, none⟩ = some (.int .i64 y)) := Lib.hid fun j hj => by
      obtain ⟨g', o', e', hc'⟩ := (ints_rows (intsL Ix.out hb)).row (show j < lx.length by omega)
      cases e'
      have c1 := hc' 0 (by omega)
      simp only [Nat.mul_one, Nat.add_zero] at c1
      refine ⟨lx.getD j 0, ?_, c1⟩
      rw [← HXX.out]
      exact rise_at DX.out.1 (by omega) hlt
    rcases Nat.eq_zero_or_pos k with rfl | hkp
    · simp only [Nat.add_zero] at c0
      have q0 := cellR1 c0
      clear c0 PREV
      cases b1
      · obtain rfl := HOR.out rfl
        go_wp2_with fail
        refine wp_region_plan (.take 0 (.take 0 (.take 0 (.take 0 (.take 0 (.take 0 (.take 0 (.only 0 (.take 0 (.take 0 (.take 0 (.take 0 (.take 0 (.take 0 (.only 0 (.take 0 (.take 0 (.take 0 (.take 0 (.take 0 (.take 0 (.take 0 (.take 0 (.take 0 (.take 0 (.take 0 (.take 0 (.take 0 (.take 0 (.take 0 (.take 0 (.take 0 (.take 0 (.take 0 .done)))))))))))))))))))))))))))))))))) (by kernel_rfl) (by kernel_rfl) (fun hP => ?_)
        repeat' (first
          | (refine wpPlan_two ?_ ?_)
          | (refine wpPlan_three ?_ ?_ ?_)
          | (refine wpPlan_take rfl (fun K hK => ?_); replace hK := Lib.hid hK; go_simp; first | (refine hK.out _ ?_; clear hK K) | (apply Exists.intro; refine ⟨fun _ => ?_, hK.out _ ?_⟩; (first | with_reducible exact rfl | skip); clear hK K))
          | (refine wpPlan_only rfl (fun K hK => ?_); replace hK := Lib.hid hK; (first | (go_simp; first | (go_at_call 20; (with_reducible refine (l14has_any lv _ _ x _ (intsL Vr.out hP) HV1.out).mono ?_); rintro e wx ⟨rfl, hbx⟩) | (go_at_call 20; (with_reducible refine (l14has_any lw _ _ x _ (intsL Wr'.out hP) HV2.out).mono ?_); rintro e wx ⟨rfl, hbx⟩)) | (go_simp; first | skip)); refine hK.out _ _ (by first | assumption | exact below_step hP hbx | exact hP.drew | exact hP.alloc hP.size _) (fun hP => ?_); clear hK K))
        all_goals refine wpPlan_done ?_
        have hb' := below_step hb hP
        go_wp2_with fail
        go_roundw
        case rel => exact ⟨1, by omega, by go_num, rfl, hb'⟩
        case measure => simp [intOf]; omega
      · skip
        go_wp2_with fail
        refine wp_region_plan (.take 0 (.take 0 (.take 0 (.take 0 (.take 0 (.take 0 (.take 0 (.only 0 (.take 0 (.take 0 (.take 0 (.take 0 (.take 0 (.take 0 (.only 0 (.take 0 (.take 0 (.take 0 (.take 0 (.take 0 (.take 0 (.take 0 (.take 0 (.take 0 (.take 0 (.take 0 (.take 0 (.take 0 (.take 0 (.take 0 (.take 0 (.take 0 (.take 0 (.take 0 .done)))))))))))))))))))))))))))))))))) (by kernel_rfl) (by kernel_rfl) (fun hP => ?_)
        repeat' (first
          | (refine wpPlan_two ?_ ?_)
          | (refine wpPlan_three ?_ ?_ ?_)
          | (refine wpPlan_take rfl (fun K hK => ?_); replace hK := Lib.hid hK; go_simp; first | (refine hK.out _ ?_; clear hK K) | (apply Exists.intro; refine ⟨fun _ => ?_, hK.out _ ?_⟩; (first | with_reducible exact rfl | skip); clear hK K))
          | (refine wpPlan_only rfl (fun K hK => ?_); replace hK := Lib.hid hK; (first | (go_simp; first | (go_at_call 20; (with_reducible refine (l14has_any lv _ _ x _ (intsL Vr.out hP) HV1.out).mono ?_); rintro e wx ⟨rfl, hbx⟩) | (go_at_call 20; (with_reducible refine (l14has_any lw _ _ x _ (intsL Wr'.out hP) HV2.out).mono ?_); rintro e wx ⟨rfl, hbx⟩)) | (go_simp; first | skip)); refine hK.out _ _ (by first | assumption | exact below_step hP hbx | exact hP.drew | exact hP.alloc hP.size _) (fun hP => ?_); clear hK K))
        all_goals refine wpPlan_done ?_
        have hb' := below_step hb hP
        go_wp2_with fail
        go_roundw
        case rel => exact ⟨1, by omega, by go_num, rfl, hb'⟩
        case measure => simp [intOf]; omega
    · obtain ⟨y, hyx, c1⟩ := PREV.out (k - 1) (by omega)
      obtain ⟨j, hj⟩ : ∃ j, k - 1 = j := ⟨_, rfl⟩
      rw [hj] at c1
      have hkj : (k : Int) - 1 = (j : Int) := by omega
      have hjl : j < lx.length := by omega
      have hwj : IntKind.i64.wrap (j : Int) = (j : Int) := IntWalk.i64_in _ (by omega)
      have hk0 : ((k : Int) == 0) = false := beq_eq_false_iff_ne.2 (by omega)
      have q0 := cellR1 c0
      have q1' := cellR1 c1
      clear c0 c1 PREV hj
      cases b1
      · obtain rfl := HOR.out rfl
        go_wp2_with fail
        refine wp_region_plan (.take 0 (.take 0 (.take 0 (.take 0 (.take 0 (.take 0 (.take 0 (.only 0 (.take 0 (.take 0 (.take 0 (.take 0 (.take 0 (.take 0 (.only 0 (.take 0 (.take 0 (.take 0 (.take 0 (.take 0 (.take 0 (.take 0 (.take 0 (.take 0 (.take 0 (.take 0 (.take 0 (.take 0 (.take 0 (.take 0 (.take 0 (.take 0 (.take 0 (.take 0 .done)))))))))))))))))))))))))))))))))) (by kernel_rfl) (by kernel_rfl) (fun hP => ?_)
        repeat' (first
          | (refine wpPlan_two ?_ ?_)
          | (refine wpPlan_three ?_ ?_ ?_)
          | (refine wpPlan_take rfl (fun K hK => ?_); replace hK := Lib.hid hK; go_simp; first | (refine hK.out _ ?_; clear hK K) | (apply Exists.intro; refine ⟨fun _ => ?_, hK.out _ ?_⟩; (first | with_reducible exact rfl | skip); clear hK K))
          | (refine wpPlan_only rfl (fun K hK => ?_); replace hK := Lib.hid hK; (first | (go_simp; first | (go_at_call 20; (with_reducible refine (l14has_any lv _ _ x _ (intsL Vr.out hP) HV1.out).mono ?_); rintro e wx ⟨rfl, hbx⟩) | (go_at_call 20; (with_reducible refine (l14has_any lw _ _ x _ (intsL Wr'.out hP) HV2.out).mono ?_); rintro e wx ⟨rfl, hbx⟩)) | (go_simp; first | skip)); refine hK.out _ _ (by first | assumption | exact below_step hP hbx | exact hP.drew | exact hP.alloc hP.size _) (fun hP => ?_); clear hK K))
        all_goals refine wpPlan_done ?_
        have hb' := below_step hb hP
        go_wp2_with fail
        go_roundw
        case rel => exact ⟨k + 1, by omega, by go_num, rfl, hb'⟩
        case measure => simp [intOf]; omega
      · skip
        go_wp2_with fail
        refine wp_region_plan (.take 0 (.take 0 (.take 0 (.take 0 (.take 0 (.take 0 (.take 0 (.only 0 (.take 0 (.take 0 (.take 0 (.take 0 (.take 0 (.take 0 (.only 0 (.take 0 (.take 0 (.take 0 (.take 0 (.take 0 (.take 0 (.take 0 (.take 0 (.take 0 (.take 0 (.take 0 (.take 0 (.take 0 (.take 0 (.take 0 (.take 0 (.take 0 (.take 0 (.take 0 .done)))))))))))))))))))))))))))))))))) (by kernel_rfl) (by kernel_rfl) (fun hP => ?_)
        repeat' (first
          | (refine wpPlan_two ?_ ?_)
          | (refine wpPlan_three ?_ ?_ ?_)
          | (refine wpPlan_take rfl (fun K hK => ?_); replace hK := Lib.hid hK; go_simp; first | (refine hK.out _ ?_; clear hK K) | (apply Exists.intro; refine ⟨fun _ => ?_, hK.out _ ?_⟩; (first | with_reducible exact rfl | skip); clear hK K))
          | (refine wpPlan_only rfl (fun K hK => ?_); replace hK := Lib.hid hK; (first | (go_simp; first | (go_at_call 20; (with_reducible refine (l14has_any lv _ _ x _ (intsL Vr.out hP) HV1.out).mono ?_); rintro e wx ⟨rfl, hbx⟩) | (go_at_call 20; (with_reducible refine (l14has_any lw _ _ x _ (intsL Wr'.out hP) HV2.out).mono ?_); rintro e wx ⟨rfl, hbx⟩)) | (go_simp; first | skip)); refine hK.out _ _ (by first | assumption | exact below_step hP hbx | exact hP.drew | exact hP.alloc hP.size _) (fun hP => ?_); clear hK K))
        all_goals refine wpPlan_done ?_
        have hb' := below_step hb hP
        go_wp2_with fail
        go_roundw
        case rel => exact ⟨k + 1, by omega, by go_num, rfl, hb'⟩
        case measure => simp [intOf]; omega
set_option maxRecDepth 100000 in
theorem sheetDiffer_lifted (os : Os) (started : os.Started) (H : Type) (enc : TypeId × Value → H) :
    ReturnsInHanded {} Tryz.checked os 5 .any (Rows.sheetDifferSpec.pre6 enc Tryz.prog Tryz.f5 Rows.sheetDifferRow.domain false) (Rows.sheetDifferSpec.post enc Tryz.prog Tryz.f5 false true false false) := by
  refine returnsInHanded_of_change (C := Tryz.checked) own_knob started (by kernel_rfl) Tryz.func5
    (ChangeSpec.witness6 (enc := enc) (C := Tryz.checked) false ⟨#[], #[.agg #[.int .i64 0, .int .i64 0, .int .i64 0, .int .i64 0, .int .i64 0, .int .i64 0, .int .i64 0, .int .i64 0, .int .i64 0, .int .i64 0, .int .i64 0, .slice none 0 0, .slice none 0 0], .agg #[.int .i64 0, .int .i64 0, .int .i64 0, .int .i64 0, .int .i64 0, .int .i64 0, .int .i64 0, .int .i64 0, .int .i64 0, .int .i64 0, .int .i64 0, .slice none 0 0, .slice none 0 0], .agg #[.int .i64 0, .int .i64 0, .int .i64 0, .int .i64 0, .int .i64 0, .int .i64 0, .int .i64 0, .int .i64 0, .int .i64 0, .int .i64 0, .int .i64 0, .slice none 0 0, .slice none 0 0]], []⟩ 8 (by kernel_rfl) (by kernel_rfl) (by kernel_rfl) (by kernel_rfl)) ?_
  intro W base args ds gs before hval0 hW hcnd _
  have hval : ∀ (j : Nat) t v, Tryz.f5.params[j]? = some t → args[j]? = some v → Value.okWide Tryz.prog W .any base t v := hval0
  have hW' := hW
  obtain ⟨p, q, hA0, hV, rfl, hfz, hnd⟩ := hW
  have hA : DataW.TrodAll enc Tryz.prog W 0 (fun _ => true) true Tryz.f5.params.toList args.toList ds p := hA0
  rw [Tryz.params5] at hA hval
  obtain ⟨v0, vs0, d0, ds0, p0, q0, hargs, rfl, rfl, h0, r0⟩ := trodAll_cons hA
  obtain ⟨v1, vs1, d1, ds1, p1, q1, rfl, rfl, rfl, h1, r1⟩ := trodAll_cons r0
  obtain ⟨v2, vs2, d2, ds2, p2, q2, rfl, rfl, rfl, h2, r2⟩ := trodAll_cons r1
  obtain ⟨rfl, rfl, rfl⟩ := trodAll_nil r2
  obtain rfl : args = #[v0, v1, v2] := by cases args; simp_all
  obtain ⟨rfl, rfl⟩ := trodVars_none hV
  simp only [List.append_nil] at hW' hA0
  obtain ⟨s, _, _, _, _, e0, hds, hfs, ws⟩ := open_sheet (hval 0 27 v0 rfl rfl) h0
  subst e0
  obtain ⟨t, _, _, _, _, e1, hdt, hft, wt⟩ := open_sheet (hval 1 27 v1 rfl rfl) h1
  subst e1
  obtain ⟨u, _, _, _, _, e2, hdu, hfu, wu⟩ := open_sheet (hval 2 27 v2 rfl rfl) h2
  subst e2
  refine (sheetDiffer_walk  hds hfs ws hdt hft wt hdu hfu wu).mono fun e W' ⟨he, hg⟩ => ?_
  subst he
  exact ⟨_, rfl, post_law laid_out (by rw [Tryz.params5]; intro t ht; simp only [List.mem_cons, List.not_mem_nil, or_false] at ht; rcases ht with rfl | rfl | rfl <;> exact ⟨by kernel_rfl, of_decide_eq_true (by kernel_rfl)⟩) rfl hW' hA0 rfl rfl rfl rfl Tryz.underlying4 hg⟩
theorem sheetDiffer_over : Rows.sheetDifferRow.holds Tryz.pinned (OpenSpec.ofChange Rows.sheetDifferSpec) :=
  OpenClaim.holds_of_wide 5 Tryz.f5 rfl rfl rfl rfl rfl rfl rfl ⟨rfl, rfl, rfl, rfl, rfl⟩ rfl rfl rfl rfl rfl (by kernel_rfl) Tryz.func5 (by kernel_rfl)
    (of_decide_eq_true (by kernel_rfl)) (by unfold Func.isWrapper; first | (rw [if_pos (by decide +kernel)]; kernel_rfl) | (rw [if_neg (by decide +kernel)]; exact ⟨rfl, rfl⟩))
    (fun os started H enc _ => sheetDiffer_lifted os started H enc)
theorem sheetDiffer_holds : Rows.SheetDifferSaid :=
  sheetDiffer_over
#print axioms sheetDiffer_holds
end Go.Proofs.YtmoofkoibaihhaaGreat
