/- For any list of features, any operations and any ID: the statement PatchApart of chapter 17 (features that a patch does not touch are as before; each feature that is not as before is touched): the law's function returns true and leaves its arguments as they were. No condition. -/
import Derived.Test.YtpidmgkjnomigaaGreatPatHead
import Derived.Test.YtpidmgkjnomigaaGreatPatCase
import Derived.Test.YtpidmgkjnomigaaGreatFrameO
import Derived.Test.YtpidmgkjnomigaaGreatSame7
namespace Go.Proofs.YtpidmgkjnomigaaGreat
open Go.ChangeShapes Go.WideShapes Go.ChangeAt Go.RowKit
attribute [local go_sem] bqOp bqAll bqUpon sqOp sqAll sqUpon ssOp ssAll
attribute [local irreducible] wpQuiet wpBQ wpPlan wsPlan
set_option linter.unusedVariables false
set_option maxRecDepth 100000 in
set_option maxHeartbeats 8000000 in
theorem patchApart_walk {l : List Feat} {adl : Option Addr} {cdl : Nat} {o : List Opn} {ado : Option Addr} {cdo : Nat} (id : Int) {w : World} (hl : FeatsAt w (.slice adl l.length cdl) l) (ho : OpsAt w (.slice ado o.length cdo) o) (wid : (Lit.int .i64 id).wf = true) :
    Calls Tryz.prog 7 #[.slice adl l.length cdl, .slice ado o.length cdo, .int .i64 id] w fun e w' => e = .returned (.bool true) ∧ Below w.heap.size w w' := by
  have ll : l.length ≤ 9223372036854775807 := by obtain ⟨_, _, _, _, h, _⟩ := hl.form; exact h
  have kl : l.length ≤ cdl := by obtain ⟨a, c, e, _, _, h⟩ := hl.form; cases e; exact h
  obtain ⟨nl, el⟩ : ∃ n, l.length = n := ⟨_, rfl⟩
  rw [el] at hl ll kl ⊢
  have Hl := Lib.hid hl
  have Nl := Lib.hid el
  clear hl el
  have lo : o.length ≤ 9223372036854775807 := by obtain ⟨_, _, _, _, h, _⟩ := ho.form; exact h
  have ko : o.length ≤ cdo := by obtain ⟨a, c, e, _, _, h⟩ := ho.form; cases e; exact h
  obtain ⟨no, eo⟩ : ∃ n, o.length = n := ⟨_, rfl⟩
  rw [eo] at ho lo ko ⊢
  have Ho := Lib.hid ho
  have No := Lib.hid eo
  clear ho eo
  have hC0 := Below.refl w.heap.size w
  obtain ⟨w0, rfl⟩ : ∃ w0 : World, w0 = w := ⟨_, rfl⟩
  go_enter Tryz.func7, Tryz.ntmps7
  go_wp2_with fail
  (with_reducible refine (head17_true _).mono ?_)
  rintro e w1 ⟨rfl, hb1⟩
  have hC1 := below_step hC0 hb1
  go_wp2_with fail
  obtain ⟨vVlo, hvVlo⟩ : ∃ v, decide (FewO l o) = v := ⟨_, rfl⟩
  have HVlo := Lib.hid hvVlo
  clear hvVlo
  (with_reducible refine (q17Few_any l o _ _ _ (Hl.out.later hC1) (Ho.out.later hC1) HVlo.out).mono ?_)
  rintro e w2 ⟨rfl, hb2⟩
  have hC2 := below_step hC1 hb2
  cases vVlo
  · go_wp2_with fail
    go_returns
    exact ⟨rfl, hC2⟩
  go_wp2_with fail
  rcases apply_cases l o with ⟨_, ha, _⟩ | ⟨hok, i, er, _, _, he, ha, _⟩ | ⟨hok, x, bs, hr, _, ha, _⟩
  · by_cases ok : OpsOk o
    rotate_left
    (with_reducible refine (paApply_any l o _ _ _ (Hl.out.later hC2) (Ho.out.later hC2) ha).mono ?_)
    rintro e w3 ⟨ad3, n3, c3, hl3, rfl, hf3, hb3⟩
    have hC3 := below_step hC2 hb3
    obtain rfl : 0 = n3 := hl3
    clear hf3
    go_wp2_with fail
    (with_reducible refine (paTouch_no o _ _ (Ho.out.later hC3) ok).mono ?_)
    rintro e w4 ⟨rfl, hb4⟩
    have hC4 := below_step hC3 hb4
    go_wp2_with fail
    go_returns
    exact ⟨rfl, hC4⟩
    (with_reducible refine (paApply_any l o _ _ _ (Hl.out.later hC2) (Ho.out.later hC2) ha).mono ?_)
    rintro e w3 ⟨ad3, n3, c3, hl3, rfl, hf3, hb3⟩
    have hC3 := below_step hC2 hb3
    obtain rfl : 0 = n3 := hl3
    clear hf3
    go_wp2_with fail
    (with_reducible refine (paTouch_yes o _ _ (Ho.out.later hC3) (opsOk_len ok) (opsOk_all ok)).mono ?_)
    rintro e w4 ⟨ad4, n4, c4, ids4, hl4, ht4, rfl, hf4, hb4⟩
    have hC4 := below_step hC3 hb4
    go_wp2_with fail
    go_returns
    exact ⟨rfl, hC4⟩
  · skip
    have der0 : (er == 0) = false := by rcases he with rfl | rfl | rfl | rfl <;> rfl
    have der1 : (er == 1) = false := by rcases he with rfl | rfl | rfl | rfl <;> rfl
    have fer : (er != 0) = true := by rcases he with rfl | rfl | rfl | rfl <;> rfl
    clear he
    (with_reducible refine (paApply_any l o _ _ _ (Hl.out.later hC2) (Ho.out.later hC2) ha).mono ?_)
    rintro e w3 ⟨ad3, n3, c3, hl3, rfl, hf3, hb3⟩
    have hC3 := below_step hC2 hb3
    obtain rfl : 0 = n3 := hl3
    clear hf3
    go_wp2_with fail
    (with_reducible refine (paTouch_yes o _ _ (Ho.out.later hC3) (opsOk_len (patch_ops hok)) (opsOk_all (patch_ops hok))).mono ?_)
    rintro e w4 ⟨ad4, n4, c4, ids4, hl4, ht4, rfl, hf4, hb4⟩
    have hC4 := below_step hC3 hb4
    go_wp2_with fail
    go_returns
    exact ⟨rfl, hC4⟩
  · have HA := Lib.hid ha
    have OK := Lib.hid hok
    have HR := Lib.hid hr
    clear ha hok hr
    (with_reducible refine (paApply_any l o _ _ _ (Hl.out.later hC2) (Ho.out.later hC2) HA.out).mono ?_)
    rintro e w3 ⟨ad3, n3, c3, hl3, rfl, hf3, hb3⟩
    have hC3 := below_step hC2 hb3
    have F3 := Lib.hid hf3
    have L3 := Lib.hid hl3
    clear hf3 hl3
    go_wp2_with fail
    (with_reducible refine (paTouch_yes o _ _ (Ho.out.later hC3) (opsOk_len (patch_ops OK.out)) (opsOk_all (patch_ops OK.out))).mono ?_)
    rintro e w4 ⟨ad4, n4, c4, ids4, hl4, ht4, rfl, hf4, hb4⟩
    have hC4 := below_step hC3 hb4
    have HT := Lib.hid ht4
    have IDS : Hid (Rows 1 w4 (.slice ad4 n4 c4) n4 (fun i _ => ids4.getD i 0)) := Lib.hid (by have h := hf4.rows; rwa [hl4] at h)
    have hn9 : n4 ≤ 9223372036854775807 := by obtain ⟨_, _, _, _, h9, _⟩ := hf4.form; omega
    have LEN := Lib.hid hl4
    obtain ⟨ids, hids⟩ : ∃ ids, ids4 = ids := ⟨_, rfl⟩
    rw [hids] at HT IDS LEN
    obtain ⟨n1, hn1⟩ : ∃ n1, n4 = n1 := ⟨_, rfl⟩
    rw [hn1] at IDS LEN hn9 ⊢
    clear ht4 hf4 hl4 hids hn1
    go_wp2_with fail
    go_loopw [7, 13, 14] (fun u t i wr => ∃ (k : Nat) (b : Bool), k ≤ n1 ∧ u = .bool true ∧ t = .bool b ∧ i = .int .i64 k ∧ b = decide (id ∈ ids.take k) ∧ Below w4.heap.size w4 wr) (fun _ _ i _ => n1 - cntV i)
    case atStart => exact ⟨0, false, by omega, rfl, rfl, rfl, by simp, Below.refl _ _⟩
    case round =>
      obtain ⟨k, b, hk, rfl, rfl, rfl, hbd, hb⟩ := hrel
      have BD := Lib.hid hbd
      clear hbd
      rcases Nat.lt_or_ge k n1 with hlt | hge
      rotate_left
      · obtain rfl : k = n1 := by omega
        cases b
        · skip
          obtain ⟨w5, rfl⟩ : ∃ z, z = wr := ⟨_, rfl⟩
          have hb5 := hb
          have hC5 := below_step hC4 hb5
          have hnot : id ∉ ids := fun hm => by have h := BD.out; rw [List.take_of_length_le (by rw [LEN.out]; omega)] at h; simp [hm] at h
          have hlk : look x id = look l id := run_apart OK.out.1 (patch_forms OK.out) HR.out (fun o ho e => hnot ((HT.out.2 id).2 ⟨o, ho, e⟩))
          obtain ⟨f1, hf1⟩ : ∃ f, (look l id).getD noFeat = f := ⟨_, rfl⟩
          obtain ⟨u1, hu1⟩ : ∃ u, (look l id).isSome = u := ⟨_, rfl⟩
          have hf2 : (look x id).getD noFeat = f1 := by rw [hlk]; exact hf1
          have hu2 : (look x id).isSome = u1 := by rw [hlk]; exact hu1
          clear hnot hlk
          have F1 := Lib.hid hf1
          have U1 := Lib.hid hu1
          have F2 := Lib.hid hf2
          have U2 := Lib.hid hu2
          clear hf1 hu1 hf2 hu2
          go_wp2_with fail
          (with_reducible refine (l17find_any l _ id _ (Hl.out.later hC5) F1.out U1.out).mono ?_)
          rintro e w6 ⟨hb6, va6, vs6, rfl, hp6⟩
          have hC6 := below_step hC5 hb6
          have P1 := Lib.hid hp6
          obtain ⟨a1, c1, a2, c2, rfl, rfl⟩ := hp6.form
          clear hp6
          go_wp2_with fail
          refine calls_named fun w7 hw => ?_
          obtain ⟨p7, hb7⟩ := box1 hw
          clear hw
          have hC7 := below_step hC6 hb7
          have B1 := Lib.hid p7
          clear p7
          (with_reducible refine (l17find_any x _ id _ (F3.out.later (below_step (below_step (below_step hb4 hb5) hb6) hb7)) F2.out U2.out).mono ?_)
          rintro e w8 ⟨hb8, va8, vs8, rfl, hp8⟩
          have hC8 := below_step hC7 hb8
          have P2 := Lib.hid hp8
          obtain ⟨a3, c3, a4, c4, rfl, rfl⟩ := hp8.form
          clear hp8
          have q1 := block_later hb8 B1.out
          have x0 := fun o => cell_later ((Below.refl w8.heap.size w8).alloc (Nat.le_refl _) o) (cell_block q1 0)
          have x1 := fun o => cell_later ((Below.refl w8.heap.size w8).alloc (Nat.le_refl _) o) (cell_block q1 1)
          have x2 := fun o => cell_later ((Below.refl w8.heap.size w8).alloc (Nat.le_refl _) o) (cell_block q1 2)
          have x3 := fun o => cell_later ((Below.refl w8.heap.size w8).alloc (Nat.le_refl _) o) (cell_block q1 3)
          have x4 := fun o => cell_later ((Below.refl w8.heap.size w8).alloc (Nat.le_refl _) o) (cell_block q1 4)
          have x5 := fun o => cell_later ((Below.refl w8.heap.size w8).alloc (Nat.le_refl _) o) (cell_block q1 5)
          have x6 := fun o => cell_later ((Below.refl w8.heap.size w8).alloc (Nat.le_refl _) o) (cell_block q1 6)
          have x7 := fun o => cell_later ((Below.refl w8.heap.size w8).alloc (Nat.le_refl _) o) (cell_block q1 7)
          have x8 := fun o => cell_later ((Below.refl w8.heap.size w8).alloc (Nat.le_refl _) o) (cell_block q1 8)
          clear q1
          cases u1
          · skip
            go_wp2_with fail
            refine calls_named fun w9 hw => ?_
            obtain ⟨p9, hb9⟩ := box1 hw
            clear hw
            have hC9 := below_step hC8 hb9
            (with_reducible refine (q07Same_any f1 f1 _ _ _ _ _ (ptsL (parts_pts P1.out) (below_step (below_step (below_step hb6 hb7) hb8) hb9)) (secsL (parts_secs P1.out) (below_step (below_step (below_step hb6 hb7) hb8) hb9)) (ptsL (parts_pts P2.out) (below_step hb8 hb9)) (secsL (parts_secs P2.out) (below_step hb8 hb9)) (decide_eq_true rfl)).mono ?_)
            rintro e w10 ⟨rfl, hb10⟩
            have hC10 := below_step hC9 hb10
            go_wp2_with fail
            go_returns
            exact ⟨rfl, hC10⟩
          · skip
            go_wp2_with fail
            refine calls_named fun w9 hw => ?_
            obtain ⟨p9, hb9⟩ := box1 hw
            clear hw
            have hC9 := below_step hC8 hb9
            (with_reducible refine (q07Same_any f1 f1 _ _ _ _ _ (ptsL (parts_pts P1.out) (below_step (below_step (below_step hb6 hb7) hb8) hb9)) (secsL (parts_secs P1.out) (below_step (below_step (below_step hb6 hb7) hb8) hb9)) (ptsL (parts_pts P2.out) (below_step hb8 hb9)) (secsL (parts_secs P2.out) (below_step hb8 hb9)) (decide_eq_true rfl)).mono ?_)
            rintro e w10 ⟨rfl, hb10⟩
            have hC10 := below_step hC9 hb10
            go_wp2_with fail
            go_returns
            exact ⟨rfl, hC10⟩
        · skip
          obtain ⟨w5, rfl⟩ : ∃ z, z = wr := ⟨_, rfl⟩
          have hb5 := hb
          have hC5 := below_step hC4 hb5
          obtain ⟨f1, hf1⟩ : ∃ f, (look l id).getD noFeat = f := ⟨_, rfl⟩
          obtain ⟨u1, hu1⟩ : ∃ u, (look l id).isSome = u := ⟨_, rfl⟩
          obtain ⟨f2, hf2⟩ : ∃ f, (look x id).getD noFeat = f := ⟨_, rfl⟩
          obtain ⟨u2, hu2⟩ : ∃ u, (look x id).isSome = u := ⟨_, rfl⟩
          have F1 := Lib.hid hf1
          have U1 := Lib.hid hu1
          have F2 := Lib.hid hf2
          have U2 := Lib.hid hu2
          clear hf1 hu1 hf2 hu2
          go_wp2_with fail
          (with_reducible refine (l17find_any l _ id _ (Hl.out.later hC5) F1.out U1.out).mono ?_)
          rintro e w6 ⟨hb6, va6, vs6, rfl, hp6⟩
          have hC6 := below_step hC5 hb6
          have P1 := Lib.hid hp6
          obtain ⟨a1, c1, a2, c2, rfl, rfl⟩ := hp6.form
          clear hp6
          go_wp2_with fail
          refine calls_named fun w7 hw => ?_
          obtain ⟨p7, hb7⟩ := box1 hw
          clear hw
          have hC7 := below_step hC6 hb7
          have B1 := Lib.hid p7
          clear p7
          (with_reducible refine (l17find_any x _ id _ (F3.out.later (below_step (below_step (below_step hb4 hb5) hb6) hb7)) F2.out U2.out).mono ?_)
          rintro e w8 ⟨hb8, va8, vs8, rfl, hp8⟩
          have hC8 := below_step hC7 hb8
          have P2 := Lib.hid hp8
          obtain ⟨a3, c3, a4, c4, rfl, rfl⟩ := hp8.form
          clear hp8
          go_wp2_with fail
          go_returns
          exact ⟨rfl, hC8.alloc hC8.size _⟩
      obtain ⟨g, o', rfl, hcell⟩ := (IDS.out.later hb).row hlt
      have y0 := hcell 0 (by omega)
      simp only [Nat.mul_one, Nat.add_zero] at y0
      obtain ⟨x1, hx1⟩ : ∃ x1, ids.getD k 0 = x1 := ⟨_, rfl⟩
      rw [hx1] at y0
      have hkl : k < ids.length := by have := LEN.out; omega
      have TK : Hid (ids.take (k + 1) = ids.take k ++ [x1]) := Lib.hid (by rw [take_snoc 0 hkl, hx1])
      have r0 := fun d os => cell_later (below_regrown wr d os) y0
      have IN : Hid (b = false → (x1 == id) = decide (id ∈ ids.take (k + 1))) := Lib.hid (fun e => by
        have h := BD.out
        rw [e] at h
        rw [TK.out]
        have h2 : id ∉ ids.take k := of_decide_eq_false h.symm
        by_cases e2 : x1 = id
        · simp [e2]
        · have e3 : ¬ id = x1 := fun e => e2 e.symm
          simp [h2, e2, e3])
      have IN2 : Hid (b = true → true = decide (id ∈ ids.take (k + 1))) := Lib.hid (fun e => by
        have h := BD.out
        rw [e] at h
        rw [TK.out]
        have h2 : id ∈ ids.take k := of_decide_eq_true h.symm
        simp [h2])
      rcases Nat.eq_zero_or_pos k with hz | hz
      · skip
        subst hz
        clear r0
        rw [Nat.add_zero] at y0
        have r0 := fun d os => cell_later (below_regrown wr d os) y0
        clear hcell hx1 hkl
        cases b
        · go_wp2_with fail
          refine wp_region_plan (.take 0 (.take 0 (.take 0 (.take 0 (.take 0 (.take 0 (.take 0 (.take 0 (.take 0 (.take 0 (.take 0 (.take 0 (.take 0 (.take 0 (.take 0 (.take 0 (.take 0 (.take 0 .done)))))))))))))))))) (by kernel_rfl) (by kernel_rfl) (fun hP => ?_)
          repeat' (first
            | (refine wpPlan_two ?_ ?_)
            | (refine wpPlan_three ?_ ?_ ?_)
            | (refine wpPlan_take rfl (fun K hK => ?_); replace hK := Lib.hid hK; go_simp; first | (refine hK.out _ ?_; clear hK K) | (apply Exists.intro; refine ⟨fun _ => ?_, hK.out _ ?_⟩; (first | with_reducible exact rfl | skip); clear hK K))
            | (refine wpPlan_only rfl (fun K hK => ?_); replace hK := Lib.hid hK; (first | (go_simp; first | skip)); refine hK.out _ _ (by first | assumption | exact below_step hP hbx | exact hP.drew | exact hP.alloc hP.size _) (fun hP => ?_); clear hK K))
          all_goals refine wpPlan_done ?_
          go_wp2_with fail
          go_roundw
          case rel => exact ⟨0 + 1, (x1 == id), by omega, rfl, rfl, by go_num, by first | exact IN.out rfl | exact IN.out trivial, below_step hb hP⟩
          case measure => simp [cntV]; omega
        · go_wp2_with fail
          refine wp_region_plan (.take 0 (.take 0 (.take 0 (.take 0 (.take 0 (.take 0 (.take 0 (.take 0 (.take 0 (.take 0 (.take 0 (.take 0 (.take 0 (.take 0 (.take 0 (.take 0 (.take 0 (.take 0 .done)))))))))))))))))) (by kernel_rfl) (by kernel_rfl) (fun hP => ?_)
          repeat' (first
            | (refine wpPlan_two ?_ ?_)
            | (refine wpPlan_three ?_ ?_ ?_)
            | (refine wpPlan_take rfl (fun K hK => ?_); replace hK := Lib.hid hK; go_simp; first | (refine hK.out _ ?_; clear hK K) | (apply Exists.intro; refine ⟨fun _ => ?_, hK.out _ ?_⟩; (first | with_reducible exact rfl | skip); clear hK K))
            | (refine wpPlan_only rfl (fun K hK => ?_); replace hK := Lib.hid hK; (first | (go_simp; first | skip)); refine hK.out _ _ (by first | assumption | exact below_step hP hbx | exact hP.drew | exact hP.alloc hP.size _) (fun hP => ?_); clear hK K))
          all_goals refine wpPlan_done ?_
          go_wp2_with fail
          go_roundw
          case rel => exact ⟨0 + 1, true, by omega, rfl, rfl, by go_num, by first | exact IN2.out rfl | exact IN2.out trivial, below_step hb hP⟩
          case measure => simp [cntV]; omega
      · skip
        obtain ⟨j, hj⟩ : ∃ j : Nat, k = j + 1 := ⟨k - 1, by omega⟩
        obtain ⟨g2, o2, hgo, hcell2⟩ := (IDS.out.later hb).row (show j < n1 by omega)
        cases hgo
        have y1 := hcell2 0 (by omega)
        simp only [Nat.mul_one, Nat.add_zero] at y1
        obtain ⟨x0, hx0⟩ : ∃ x0, ids.getD j 0 = x0 := ⟨_, rfl⟩
        rw [hx0] at y1
        have r1 := fun d os => cell_later (below_regrown wr d os) y1
        have wk : IntKind.i64.wrap ((k : Int) - 1) = (j : Int) := by rw [IntWalk.i64_in _ (by omega)]; omega
        have hup : x0 < x1 := by
          have h := HT.out.1
          rw [← hx0, ← hx1, List.getD_eq_getElem?_getD, List.getD_eq_getElem?_getD, List.getElem?_eq_getElem (by omega), List.getElem?_eq_getElem hkl]
          exact List.pairwise_iff_getElem.1 h j k (by omega) hkl (by omega)
        have dk : ((k : Int) == 0) = false := by simp; omega
        have hjn : j < n1 := by omega
        clear hcell hcell2 hx0 hx1 hkl hj hz
        cases b
        · go_wp2_with fail
          refine wp_region_plan (.take 0 (.take 0 (.take 0 (.take 0 (.take 0 (.take 0 (.take 0 (.take 0 (.take 0 (.take 0 (.take 0 (.take 0 (.take 0 (.take 0 (.take 0 (.take 0 (.take 0 (.take 0 .done)))))))))))))))))) (by kernel_rfl) (by kernel_rfl) (fun hP => ?_)
          repeat' (first
            | (refine wpPlan_two ?_ ?_)
            | (refine wpPlan_three ?_ ?_ ?_)
            | (refine wpPlan_take rfl (fun K hK => ?_); replace hK := Lib.hid hK; go_simp; first | (refine hK.out _ ?_; clear hK K) | (apply Exists.intro; refine ⟨fun _ => ?_, hK.out _ ?_⟩; (first | with_reducible exact rfl | skip); clear hK K))
            | (refine wpPlan_only rfl (fun K hK => ?_); replace hK := Lib.hid hK; (first | (go_simp; first | skip)); refine hK.out _ _ (by first | assumption | exact below_step hP hbx | exact hP.drew | exact hP.alloc hP.size _) (fun hP => ?_); clear hK K))
          all_goals refine wpPlan_done ?_
          go_wp2_with fail
          go_roundw
          case rel => exact ⟨k + 1, (x1 == id), by omega, rfl, rfl, by go_num, by first | exact IN.out rfl | exact IN.out trivial, below_step hb hP⟩
          case measure => simp [cntV]; omega
        · go_wp2_with fail
          refine wp_region_plan (.take 0 (.take 0 (.take 0 (.take 0 (.take 0 (.take 0 (.take 0 (.take 0 (.take 0 (.take 0 (.take 0 (.take 0 (.take 0 (.take 0 (.take 0 (.take 0 (.take 0 (.take 0 .done)))))))))))))))))) (by kernel_rfl) (by kernel_rfl) (fun hP => ?_)
          repeat' (first
            | (refine wpPlan_two ?_ ?_)
            | (refine wpPlan_three ?_ ?_ ?_)
            | (refine wpPlan_take rfl (fun K hK => ?_); replace hK := Lib.hid hK; go_simp; first | (refine hK.out _ ?_; clear hK K) | (apply Exists.intro; refine ⟨fun _ => ?_, hK.out _ ?_⟩; (first | with_reducible exact rfl | skip); clear hK K))
            | (refine wpPlan_only rfl (fun K hK => ?_); replace hK := Lib.hid hK; (first | (go_simp; first | skip)); refine hK.out _ _ (by first | assumption | exact below_step hP hbx | exact hP.drew | exact hP.alloc hP.size _) (fun hP => ?_); clear hK K))
          all_goals refine wpPlan_done ?_
          go_wp2_with fail
          go_roundw
          case rel => exact ⟨k + 1, true, by omega, rfl, rfl, by go_num, by first | exact IN2.out rfl | exact IN2.out trivial, below_step hb hP⟩
          case measure => simp [cntV]; omega
set_option maxRecDepth 100000 in
theorem patchApart_lifted (os : Os) (started : os.Started) (H : Type) (enc : TypeId × Value → H) :
    ReturnsInHanded {} Tryz.checked os 7 .any (Rows.patchApartSpec.pre6 enc Tryz.prog Tryz.f7 Rows.patchApartRow.domain false) (Rows.patchApartSpec.post enc Tryz.prog Tryz.f7 false true false false) := by
  refine returnsInHanded_of_change (C := Tryz.checked) own_knob started (by kernel_rfl) Tryz.func7
    (ChangeSpec.witness6 (enc := enc) (C := Tryz.checked) false ⟨#[], #[.slice none 0 0, .slice none 0 0, .int .i64 0], []⟩ 8 (by kernel_rfl) (by kernel_rfl) (by kernel_rfl) (by kernel_rfl)) ?_
  intro W base args ds gs before hval0 hW hcnd _
  have hval : ∀ (j : Nat) t v, Tryz.f7.params[j]? = some t → args[j]? = some v → Value.okWide Tryz.prog W .any base t v := hval0
  have hW' := hW
  obtain ⟨p, q, hA0, hV, rfl, hfz, hnd⟩ := hW
  have hA : DataW.TrodAll enc Tryz.prog W 0 (fun _ => true) true Tryz.f7.params.toList args.toList ds p := hA0
  rw [Tryz.params7] at hA hval
  obtain ⟨v0, vs0, d0, ds0, p0, q0, hargs, rfl, rfl, h0, r0⟩ := trodAll_cons hA
  obtain ⟨v1, vs1, d1, ds1, p1, q1, rfl, rfl, rfl, h1, r1⟩ := trodAll_cons r0
  obtain ⟨v2, vs2, d2, ds2, p2, q2, rfl, rfl, rfl, h2, r2⟩ := trodAll_cons r1
  obtain ⟨rfl, rfl, rfl⟩ := trodAll_nil r2
  obtain rfl : args = #[v0, v1, v2] := by cases args; simp_all
  obtain ⟨rfl, rfl⟩ := trodVars_none hV
  simp only [List.append_nil] at hW' hA0
  obtain ⟨_, _, _, e0, hl⟩ := open_feats (hval 0 22 v0 rfl rfl) h0
  subst e0
  obtain ⟨_, _, _, e1, ho⟩ := open_ops (hval 1 23 v1 rfl rfl) h1
  subst e1
  obtain ⟨id, e2, _, _, wid⟩ := open_int Tryz.underlying3 (hval 2 3 v2 rfl rfl) h2
  subst e2
  refine (patchApart_walk id hl ho wid).mono fun e W' ⟨he, hg⟩ => ?_
  subst he
  exact ⟨_, rfl, post_law laid_out (by rw [Tryz.params7]; intro t ht; simp only [List.mem_cons, List.not_mem_nil, or_false] at ht; rcases ht with rfl | rfl | rfl <;> exact ⟨by kernel_rfl, of_decide_eq_true (by kernel_rfl)⟩) rfl hW' hA0 rfl rfl rfl rfl Tryz.underlying4 hg⟩
theorem patchApart_over : Rows.patchApartRow.holds Tryz.pinned (OpenSpec.ofChange Rows.patchApartSpec) :=
  OpenClaim.holds_of_wide 7 Tryz.f7 rfl rfl rfl rfl rfl rfl rfl ⟨rfl, rfl, rfl, rfl, rfl⟩ rfl rfl rfl rfl rfl (by kernel_rfl) Tryz.func7 (by kernel_rfl)
    (of_decide_eq_true (by kernel_rfl)) (by unfold Func.isWrapper; first | (rw [if_pos (by decide +kernel)]; kernel_rfl) | (rw [if_neg (by decide +kernel)]; exact ⟨rfl, rfl⟩))
    (fun os started H enc _ => patchApart_lifted os started H enc)
theorem patchApart_holds : Rows.PatchApartSaid :=
  patchApart_over
#print axioms patchApart_holds
end Go.Proofs.YtpidmgkjnomigaaGreat
