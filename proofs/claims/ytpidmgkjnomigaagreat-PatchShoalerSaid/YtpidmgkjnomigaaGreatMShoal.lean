/- For any list of features, any operations and any place: the statement PatchShoaler of chapter 17 (if a patch only inserts features, changes symbols, and gives depths that are not greater than those of the list that it is applied to, nothing is shown deeper than before): the law's function returns true and leaves its arguments as they were. No condition. -/
import Derived.Test.YtpidmgkjnomigaaGreatPatHead
import Derived.Test.YtpidmgkjnomigaaGreatPatCase
import Derived.Test.YtpidmgkjnomigaaGreatFrameO
import Derived.Test.YtpidmgkjnomigaaGreatSame7
import Derived.Test.YtpidmgkjnomigaaGreatFeatE
namespace Go.Proofs.YtpidmgkjnomigaaGreat
open Go.ChangeShapes Go.WideShapes Go.ChangeAt Go.RowKit
attribute [local go_sem] bqOp bqAll bqUpon sqOp sqAll sqUpon ssOp ssAll
attribute [local irreducible] wpQuiet wpBQ wpPlan wsPlan
set_option linter.unusedVariables false
set_option maxRecDepth 100000 in
set_option maxHeartbeats 8000000 in
theorem patchShoaler_walk {l : List Feat} {adl : Option Addr} {cdl : Nat} {o : List Opn} {ado : Option Addr} {cdo : Nat} (px py : Int) {w : World} (hl : FeatsAt w (.slice adl l.length cdl) l) (ho : OpsAt w (.slice ado o.length cdo) o) :
    Calls Tryz.prog 11 #[.slice adl l.length cdl, .slice ado o.length cdo, .agg #[.int .i64 px, .int .i64 py]] w fun e w' => e = .returned (.bool true) ∧ Below w.heap.size w w' := by
  have ll : l.length ≤ 9223372036854775807 := by obtain ⟨_, _, _, _, h, _⟩ := hl.form; exact h
  have kl : l.length ≤ cdl := by obtain ⟨a, c, e, _, _, h⟩ := hl.form; cases e; exact h
  obtain ⟨nl, el⟩ : ∃ n, l.length = n := ⟨_, rfl⟩
  rw [el] at hl ll kl ⊢
  have Hl := Lib.hid hl
  have Nl := Lib.hid el
  clear hl el
  have lo : o.length ≤ 9223372036854775807 := by obtain ⟨_, _, _, _, h, _⟩ := ho.form; exact h
  have ko : o.length ≤ cdo := by obtain ⟨a, c, e, _, _, h⟩ := ho.form; cases e; exact h
  obtain ⟨no, eo⟩ : ∃ n, o.length = n := ⟨_, rfl⟩
  rw [eo] at ho lo ko ⊢
  have Ho := Lib.hid ho
  have No := Lib.hid eo
  clear ho eo
  have hC0 := Below.refl w.heap.size w
  obtain ⟨w0, rfl⟩ : ∃ w0 : World, w0 = w := ⟨_, rfl⟩
  go_enter Tryz.func11, Tryz.ntmps11
  go_wp2_with fail
  refine calls_named fun w1 hw => ?_
  obtain ⟨p1, hb1⟩ := box1 hw
  clear hw
  have hC1 := below_step hC0 hb1
  have PB := Lib.hid p1
  clear p1
  (with_reducible refine (head17_true _).mono ?_)
  rintro e w2 ⟨rfl, hb2⟩
  have hC2 := below_step hC1 hb2
  go_wp2_with fail
  obtain ⟨vVlo, hvVlo⟩ : ∃ v, decide (FewO l o) = v := ⟨_, rfl⟩
  have HVlo := Lib.hid hvVlo
  clear hvVlo
  (with_reducible refine (q17Few_any l o _ _ _ (Hl.out.later hC2) (Ho.out.later hC2) HVlo.out).mono ?_)
  rintro e w3 ⟨rfl, hb3⟩
  have hC3 := below_step hC2 hb3
  cases vVlo
  · go_wp2_with fail
    go_returns
    exact ⟨rfl, hC3⟩
  go_wp2_with fail
  rcases apply_cases l o with ⟨_, ha, _⟩ | ⟨_, i, er, _, _, he, ha, _⟩ | ⟨hok, x, bs, hr, hx, ha, _⟩
  · skip
    (with_reducible refine (paApply_any l o _ _ _ (Hl.out.later hC3) (Ho.out.later hC3) ha).mono ?_)
    rintro e w4 ⟨ad4, n4, c4, hl4, rfl, hf4, hb4⟩
    have hC4 := below_step hC3 hb4
    obtain rfl : 0 = n4 := hl4
    clear hf4
    go_wp2_with fail
    go_returns
    exact ⟨rfl, hC4⟩
  · skip
    have der0 : (er == 0) = false := by rcases he with rfl | rfl | rfl | rfl <;> rfl
    have der1 : (er == 1) = false := by rcases he with rfl | rfl | rfl | rfl <;> rfl
    have fer : (er != 0) = true := by rcases he with rfl | rfl | rfl | rfl <;> rfl
    clear he
    (with_reducible refine (paApply_any l o _ _ _ (Hl.out.later hC3) (Ho.out.later hC3) ha).mono ?_)
    rintro e w4 ⟨ad4, n4, c4, hl4, rfl, hf4, hb4⟩
    have hC4 := below_step hC3 hb4
    obtain rfl : 0 = n4 := hl4
    clear hf4
    go_wp2_with fail
    go_returns
    exact ⟨rfl, hC4⟩
  · have HA := Lib.hid ha
    have OK := Lib.hid hok
    have HR := Lib.hid hr
    have OX := Lib.hid hx
    clear ha hok hr hx
    (with_reducible refine (paApply_any l o _ _ _ (Hl.out.later hC3) (Ho.out.later hC3) HA.out).mono ?_)
    rintro e w4 ⟨ad4, n4, c4, hl4, rfl, hf4, hb4⟩
    have hC4 := below_step hC3 hb4
    have F4 := Lib.hid hf4
    have L4 := Lib.hid hl4
    clear hf4 hl4
    go_wp2_with fail
    go_loopw [11] (fun i wr => ∃ k : Nat, k ≤ no ∧ i = .int .i64 k ∧ (∀ i, i < k → Shoals l (o.getD i noOpn)) ∧ Below w4.heap.size w4 wr) (fun i _ => no - cntV i)
    case atStart => exact ⟨0, by omega, rfl, fun i hi => by omega, Below.refl _ _⟩
    case round =>
      obtain ⟨k, hk, rfl, hall, hb5⟩ := hrel
      have ALL := Lib.hid hall
      clear hall
      obtain ⟨w5, rfl⟩ : ∃ z, z = wr := ⟨_, rfl⟩
      have hC5 := below_step hC4 hb5
      rcases Nat.lt_or_ge k no with hlt | hge
      rotate_left
      · obtain rfl : k = no := by omega
        have HS : Hid (∀ y ∈ o, Shoals l y) := Lib.hid (fun y hy => by
          obtain ⟨i, hi, e⟩ := List.getElem_of_mem hy
          have := ALL.out i (by have := No.out; omega)
          rw [List.getD_eq_getElem?_getD, List.getElem?_eq_getElem hi] at this
          rw [← e]
          exact this)
        have q0 := block_later (below_step (below_step (below_step hb2 hb3) hb4) hb5) PB.out
        have z0 := cell_block q0 0
        have z1 := cell_block q0 1
        by_cases hv : Vld px py
        rotate_left
        · go_wp2_with fail
          (with_reducible refine (ftShown_no l _ px py _ (Hl.out.later hC5) (fun h => absurd h.2 hv)).mono ?_)
          rintro e w6 ⟨rfl, hb6⟩
          have hC6 := below_step hC5 hb6
          have q1 := block_later hb6 q0
          have z2 := cell_block q1 0
          have z3 := cell_block q1 1
          go_wp2_with fail
          (with_reducible refine (ftShown_no x _ px py _ (F4.out.later (below_step hb5 hb6)) (fun h => absurd h.2 hv)).mono ?_)
          rintro e w7 ⟨rfl, hb7⟩
          have hC7 := below_step hC6 hb7
          go_wp2_with fail
          go_returns
          exact ⟨rfl, hC7⟩
        have HV := Lib.hid hv
        clear hv
        obtain ⟨v1, hv1⟩ : ∃ v, shownI l px py l.length = v := ⟨_, rfl⟩
        obtain ⟨v2, hv2⟩ : ∃ v, shownI x px py x.length = v := ⟨_, rfl⟩
        have hle : v2 ≤ v1 := by rw [← hv1, ← hv2]; exact run_shoal OK.out.1 (patch_forms OK.out) HR.out HS.out px py
        have V1 := Lib.hid hv1
        have V2 := Lib.hid hv2
        clear hv1 hv2
        go_wp2_with fail
        (with_reducible refine (ftShown_yes l _ px py _ (Hl.out.later hC5) (patch_feats OK.out) HV.out V1.out).mono ?_)
        rintro e w6 ⟨rfl, hb6⟩
        have hC6 := below_step hC5 hb6
        have q1 := block_later hb6 q0
        have z2 := cell_block q1 0
        have z3 := cell_block q1 1
        go_wp2_with fail
        (with_reducible refine (ftShown_yes x _ px py _ (F4.out.later (below_step hb5 hb6)) OX.out HV.out V2.out).mono ?_)
        rintro e w7 ⟨rfl, hb7⟩
        have hC7 := below_step hC6 hb7
        go_wp2_with fail
        go_returns
        exact ⟨rfl, hC7⟩
      obtain ⟨g, o', va, vs, rfl, fc0⟩ := (Ho.out.later hC5).row hlt
      obtain ⟨q, hq⟩ : ∃ q, o.getD k noOpn = q := ⟨_, rfl⟩
      rw [hq] at fc0
      have y1 := fc0.c1
      have FC := Lib.hid fc0
      have Q := Lib.hid hq
      obtain ⟨ff, hff⟩ : ∃ f, (look l q.id).getD noFeat = f := ⟨_, rfl⟩
      obtain ⟨u, hu⟩ : ∃ u, (look l q.id).isSome = u := ⟨_, rfl⟩
      have FF := Lib.hid hff
      have UU := Lib.hid hu
      clear fc0 hq hff hu
      go_wp2_with fail
      (with_reducible refine (l17find_any l _ q.id _ (Hl.out.later hC5) FF.out UU.out).mono ?_)
      rintro e w6 ⟨hb6, va6, vs6, rfl, hp6⟩
      have hC6 := below_step hC5 hb6
      obtain ⟨a1, c1, a2, c2, rfl, rfl⟩ := hp6.form
      clear hp6 y1
      have fc := FC.out.later hb6
      have b1 := below_step hb5 hb6
      go_wp2_with fail
      refine wp_named fun w7 hw => ?_
      obtain ⟨p7, hb7⟩ := box1 hw
      clear hw
      have hC7 := below_step hC6 hb7
      have b2 := below_step b1 hb7
      have fc2 := fc.later hb7
      have y0 := fc2.c0
      have y14 := fc2.c14
      have r0 := fun d os => cell_later (below_regrown w7 d os) fc2.c0
      have r14 := fun d os => cell_later (below_regrown w7 d os) fc2.c14
      have r6 := fun d os => cell_later (below_regrown w7 d os) (cell_block p7 6)
      have st : ∀ (W : World), Below w7.heap.size w7 W → W.cell? ⟨g, o' + k * 16, none⟩ = some (.int .i64 q.kind) := fun W hW => cell_later hW fc2.c0
      clear fc fc2 p7
      obtain ⟨qk, hqk⟩ : ∃ qk, q.kind = qk := ⟨_, rfl⟩
      obtain ⟨qd, hqd⟩ : ∃ qd, q.dep = qd := ⟨_, rfl⟩
      obtain ⟨fd, hfd⟩ : ∃ fd, ff.dep = fd := ⟨_, rfl⟩
      rw [hqk] at y0 r0 st
      rw [hqd] at y14 r14
      rw [hfd] at r6
      have SH : Hid (qk = 1 ∨ qk = 5 ∨ (qk = 4 ∧ u = true ∧ qd ≤ fd) → Shoals l q) := Lib.hid (fun h => by
        rcases h with h | h | ⟨h, hu, hd⟩
        · exact .inl (hqk.trans h)
        · exact .inr (.inl (hqk.trans h))
        · refine .inr (.inr ⟨hqk.trans h, ff, ?_, by omega⟩)
          have e1 := UU.out
          have e2 := FF.out
          rw [hu] at e1
          obtain ⟨f, hf⟩ := Option.isSome_iff_exists.1 e1
          rw [hf] at e2 ⊢
          exact congrArg some e2)
      clear hqk hqd hfd
      by_cases k1 : qk = 1
      · subst k1
        go_wp2_with fail
        refine wp_region_plan (.take 0 (.take 0 (.take 0 (.take 0 (.take 0 (.take 0 (.take 0 (.take 0 (.take 0 (.take 0 (.take 0 (.take 0 (.take 0 (.take 0 (.take 0 (.take 0 (.take 0 (.take 0 (.take 0 (.take 0 .done)))))))))))))))))))) (by kernel_rfl) (by kernel_rfl) (fun hP => ?_)
        repeat' (first
          | (refine wpPlan_two ?_ ?_)
          | (refine wpPlan_three ?_ ?_ ?_)
          | (refine wpPlan_take rfl (fun K hK => ?_); replace hK := Lib.hid hK; go_simp; first | (refine hK.out _ ?_; clear hK K) | (apply Exists.intro; refine ⟨fun _ => ?_, hK.out _ ?_⟩; (first | with_reducible exact rfl | skip); clear hK K))
          | (refine wpPlan_only rfl (fun K hK => ?_); replace hK := Lib.hid hK; (first | (go_simp; first | skip)); refine hK.out _ _ (by first | assumption | exact below_step hP hbx | exact hP.drew | exact hP.alloc hP.size _) (fun hP => ?_); clear hK K))
        all_goals refine wpPlan_done ?_
        have y0' := st _ hP
        go_wp2_with fail
        go_roundw
        case rel => exact ⟨k + 1, by omega, by go_num, fun i hi => by
          rcases Nat.lt_or_ge i k with h | h
          · exact ALL.out i h
          · obtain rfl : i = k := by omega
            rw [Q.out]
            exact SH.out (by simp), below_step b2 hP⟩
        case measure => simp [cntV]; omega
      have d1 : (qk == 1) = false := by simpa using k1
      have e1 : (qk != 1) = true := by simpa using k1
      by_cases k5 : qk = 5
      · subst k5
        go_wp2_with fail
        refine wp_region_plan (.take 0 (.take 0 (.take 0 (.take 0 (.take 0 (.take 0 (.take 0 (.take 0 (.take 0 (.take 0 (.take 0 (.take 0 (.take 0 (.take 0 (.take 0 (.take 0 (.take 0 (.take 0 (.take 0 (.take 0 .done)))))))))))))))))))) (by kernel_rfl) (by kernel_rfl) (fun hP => ?_)
        repeat' (first
          | (refine wpPlan_two ?_ ?_)
          | (refine wpPlan_three ?_ ?_ ?_)
          | (refine wpPlan_take rfl (fun K hK => ?_); replace hK := Lib.hid hK; go_simp; first | (refine hK.out _ ?_; clear hK K) | (apply Exists.intro; refine ⟨fun _ => ?_, hK.out _ ?_⟩; (first | with_reducible exact rfl | skip); clear hK K))
          | (refine wpPlan_only rfl (fun K hK => ?_); replace hK := Lib.hid hK; (first | (go_simp; first | skip)); refine hK.out _ _ (by first | assumption | exact below_step hP hbx | exact hP.drew | exact hP.alloc hP.size _) (fun hP => ?_); clear hK K))
        all_goals refine wpPlan_done ?_
        have y0' := st _ hP
        go_wp2_with fail
        go_roundw
        case rel => exact ⟨k + 1, by omega, by go_num, fun i hi => by
          rcases Nat.lt_or_ge i k with h | h
          · exact ALL.out i h
          · obtain rfl : i = k := by omega
            rw [Q.out]
            exact SH.out (by simp), below_step b2 hP⟩
        case measure => simp [cntV]; omega
      have d5 : (qk == 5) = false := by simpa using k5
      have e5 : (qk != 5) = true := by simpa using k5
      by_cases k4 : qk = 4
      rotate_left
      · have d4 : (qk == 4) = false := by simpa using k4
        go_wp2_with fail
        refine wp_region_plan (.take 0 (.take 0 (.take 0 (.take 0 (.take 0 (.take 0 (.take 0 (.take 0 (.take 0 (.take 0 (.take 0 (.take 0 (.take 0 (.take 0 (.take 0 (.take 0 (.take 0 (.take 0 (.take 0 (.take 0 .done)))))))))))))))))))) (by kernel_rfl) (by kernel_rfl) (fun hP => ?_)
        repeat' (first
          | (refine wpPlan_two ?_ ?_)
          | (refine wpPlan_three ?_ ?_ ?_)
          | (refine wpPlan_take rfl (fun K hK => ?_); replace hK := Lib.hid hK; go_simp; first | (refine hK.out _ ?_; clear hK K) | (apply Exists.intro; refine ⟨fun _ => ?_, hK.out _ ?_⟩; (first | with_reducible exact rfl | skip); clear hK K))
          | (refine wpPlan_only rfl (fun K hK => ?_); replace hK := Lib.hid hK; (first | (go_simp; first | skip)); refine hK.out _ _ (by first | assumption | exact below_step hP hbx | exact hP.drew | exact hP.alloc hP.size _) (fun hP => ?_); clear hK K))
        all_goals refine wpPlan_done ?_
        have y0' := st _ hP
        go_wp2_with fail
        go_returns
        exact ⟨rfl, below_step hC7 hP⟩
      subst k4
      cases u
      · skip
        go_wp2_with fail
        refine wp_region_plan (.take 0 (.take 0 (.take 0 (.take 0 (.take 0 (.take 0 (.take 0 (.take 0 (.take 0 (.take 0 (.take 0 (.take 0 (.take 0 (.take 0 (.take 0 (.take 0 (.take 0 (.take 0 (.take 0 (.take 0 .done)))))))))))))))))))) (by kernel_rfl) (by kernel_rfl) (fun hP => ?_)
        repeat' (first
          | (refine wpPlan_two ?_ ?_)
          | (refine wpPlan_three ?_ ?_ ?_)
          | (refine wpPlan_take rfl (fun K hK => ?_); replace hK := Lib.hid hK; go_simp; first | (refine hK.out _ ?_; clear hK K) | (apply Exists.intro; refine ⟨fun _ => ?_, hK.out _ ?_⟩; (first | with_reducible exact rfl | skip); clear hK K))
          | (refine wpPlan_only rfl (fun K hK => ?_); replace hK := Lib.hid hK; (first | (go_simp; first | skip)); refine hK.out _ _ (by first | assumption | exact below_step hP hbx | exact hP.drew | exact hP.alloc hP.size _) (fun hP => ?_); clear hK K))
        all_goals refine wpPlan_done ?_
        have y0' := st _ hP
        go_wp2_with fail
        go_returns
        exact ⟨rfl, below_step hC7 hP⟩
      by_cases hd : qd ≤ fd
      rotate_left
      · have hd2 : decide (qd ≤ fd) = false := decide_eq_false hd
        go_wp2_with fail
        refine wp_region_plan (.take 0 (.take 0 (.take 0 (.take 0 (.take 0 (.take 0 (.take 0 (.take 0 (.take 0 (.take 0 (.take 0 (.take 0 (.take 0 (.take 0 (.take 0 (.take 0 (.take 0 (.take 0 (.take 0 (.take 0 .done)))))))))))))))))))) (by kernel_rfl) (by kernel_rfl) (fun hP => ?_)
        repeat' (first
          | (refine wpPlan_two ?_ ?_)
          | (refine wpPlan_three ?_ ?_ ?_)
          | (refine wpPlan_take rfl (fun K hK => ?_); replace hK := Lib.hid hK; go_simp; first | (refine hK.out _ ?_; clear hK K) | (apply Exists.intro; refine ⟨fun _ => ?_, hK.out _ ?_⟩; (first | with_reducible exact rfl | skip); clear hK K))
          | (refine wpPlan_only rfl (fun K hK => ?_); replace hK := Lib.hid hK; (first | (go_simp; first | skip)); refine hK.out _ _ (by first | assumption | exact below_step hP hbx | exact hP.drew | exact hP.alloc hP.size _) (fun hP => ?_); clear hK K))
        all_goals refine wpPlan_done ?_
        have y0' := st _ hP
        go_wp2_with fail
        go_returns
        exact ⟨rfl, below_step hC7 hP⟩
      have hd2 : decide (qd ≤ fd) = true := decide_eq_true hd
      go_wp2_with fail
      refine wp_region_plan (.take 0 (.take 0 (.take 0 (.take 0 (.take 0 (.take 0 (.take 0 (.take 0 (.take 0 (.take 0 (.take 0 (.take 0 (.take 0 (.take 0 (.take 0 (.take 0 (.take 0 (.take 0 (.take 0 (.take 0 .done)))))))))))))))))))) (by kernel_rfl) (by kernel_rfl) (fun hP => ?_)
      repeat' (first
        | (refine wpPlan_two ?_ ?_)
        | (refine wpPlan_three ?_ ?_ ?_)
        | (refine wpPlan_take rfl (fun K hK => ?_); replace hK := Lib.hid hK; go_simp; first | (refine hK.out _ ?_; clear hK K) | (apply Exists.intro; refine ⟨fun _ => ?_, hK.out _ ?_⟩; (first | with_reducible exact rfl | skip); clear hK K))
        | (refine wpPlan_only rfl (fun K hK => ?_); replace hK := Lib.hid hK; (first | (go_simp; first | skip)); refine hK.out _ _ (by first | assumption | exact below_step hP hbx | exact hP.drew | exact hP.alloc hP.size _) (fun hP => ?_); clear hK K))
      all_goals refine wpPlan_done ?_
      have y0' := st _ hP
      go_wp2_with fail
      go_roundw
      case rel => exact ⟨k + 1, by omega, by go_num, fun i hi => by
        rcases Nat.lt_or_ge i k with h | h
        · exact ALL.out i h
        · obtain rfl : i = k := by omega
          rw [Q.out]
          exact SH.out (by simpa using hd), below_step b2 hP⟩
      case measure => simp [cntV]; omega
set_option maxRecDepth 100000 in
theorem patchShoaler_lifted (os : Os) (started : os.Started) (H : Type) (enc : TypeId × Value → H) :
    ReturnsInHanded {} Tryz.checked os 11 .any (Rows.patchShoalerSpec.pre6 enc Tryz.prog Tryz.f11 Rows.patchShoalerRow.domain false) (Rows.patchShoalerSpec.post enc Tryz.prog Tryz.f11 false true false false) := by
  refine returnsInHanded_of_change (C := Tryz.checked) own_knob started (by kernel_rfl) Tryz.func11
    (ChangeSpec.witness6 (enc := enc) (C := Tryz.checked) false ⟨#[], #[.slice none 0 0, .slice none 0 0, .agg #[.int .i64 0, .int .i64 0]], []⟩ 8 (by kernel_rfl) (by kernel_rfl) (by kernel_rfl) (by kernel_rfl)) ?_
  intro W base args ds gs before hval0 hW hcnd _
  have hval : ∀ (j : Nat) t v, Tryz.f11.params[j]? = some t → args[j]? = some v → Value.okWide Tryz.prog W .any base t v := hval0
  have hW' := hW
  obtain ⟨p, q, hA0, hV, rfl, hfz, hnd⟩ := hW
  have hA : DataW.TrodAll enc Tryz.prog W 0 (fun _ => true) true Tryz.f11.params.toList args.toList ds p := hA0
  rw [Tryz.params11] at hA hval
  obtain ⟨v0, vs0, d0, ds0, p0, q0, hargs, rfl, rfl, h0, r0⟩ := trodAll_cons hA
  obtain ⟨v1, vs1, d1, ds1, p1, q1, rfl, rfl, rfl, h1, r1⟩ := trodAll_cons r0
  obtain ⟨v2, vs2, d2, ds2, p2, q2, rfl, rfl, rfl, h2, r2⟩ := trodAll_cons r1
  obtain ⟨rfl, rfl, rfl⟩ := trodAll_nil r2
  obtain rfl : args = #[v0, v1, v2] := by cases args; simp_all
  obtain ⟨rfl, rfl⟩ := trodVars_none hV
  simp only [List.append_nil] at hW' hA0
  obtain ⟨_, _, _, e0, hl⟩ := open_feats (hval 0 22 v0 rfl rfl) h0
  subst e0
  obtain ⟨_, _, _, e1, ho⟩ := open_ops (hval 1 23 v1 rfl rfl) h1
  subst e1
  obtain ⟨px, py, e2, _, _⟩ := open_point (hval 2 42 v2 rfl rfl) h2
  subst e2
  refine (patchShoaler_walk px py hl ho).mono fun e W' ⟨he, hg⟩ => ?_
  subst he
  exact ⟨_, rfl, post_law laid_out (by rw [Tryz.params11]; intro t ht; simp only [List.mem_cons, List.not_mem_nil, or_false] at ht; rcases ht with rfl | rfl | rfl <;> exact ⟨by kernel_rfl, of_decide_eq_true (by kernel_rfl)⟩) rfl hW' hA0 rfl rfl rfl rfl Tryz.underlying4 hg⟩
theorem patchShoaler_over : Rows.patchShoalerRow.holds Tryz.pinned (OpenSpec.ofChange Rows.patchShoalerSpec) :=
  OpenClaim.holds_of_wide 11 Tryz.f11 rfl rfl rfl rfl rfl rfl rfl ⟨rfl, rfl, rfl, rfl, rfl⟩ rfl rfl rfl rfl rfl (by kernel_rfl) Tryz.func11 (by kernel_rfl)
    (of_decide_eq_true (by kernel_rfl)) (by unfold Func.isWrapper; first | (rw [if_pos (by decide +kernel)]; kernel_rfl) | (rw [if_neg (by decide +kernel)]; exact ⟨rfl, rfl⟩))
    (fun os started H enc _ => patchShoaler_lifted os started H enc)
theorem patchShoaler_holds : Rows.PatchShoalerSaid :=
  patchShoaler_over
#print axioms patchShoaler_holds
end Go.Proofs.YtpidmgkjnomigaaGreat
