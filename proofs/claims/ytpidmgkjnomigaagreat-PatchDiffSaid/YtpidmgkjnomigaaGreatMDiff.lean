/- For any two lists of features: the statement PatchDiff of chapter 17 (the difference of two lists leads from the one to the other; it is a normal patch; and there is none between equal lists): the law's function returns true and leaves its arguments as they were. No condition. -/
import Derived.Test.YtpidmgkjnomigaaGreatPatHead
import Derived.Test.YtpidmgkjnomigaaGreatPatCase
import Derived.Test.YtpidmgkjnomigaaGreatFrameO
import Derived.Test.YtpidmgkjnomigaaGreatSame7
import Derived.Test.YtpidmgkjnomigaaGreatPatDf
namespace Go.Proofs.YtpidmgkjnomigaaGreat
open Go.ChangeShapes Go.WideShapes Go.ChangeAt Go.RowKit
attribute [local go_sem] bqOp bqAll bqUpon sqOp sqAll sqUpon ssOp ssAll
attribute [local irreducible] wpQuiet wpBQ wpPlan wsPlan
set_option linter.unusedVariables false
theorem diffO_few {a b : List Feat} (ha : FeatsOk a) (hb : FeatsOk b) (la : a.length ≤ 20) (lb : b.length ≤ 20) : diffO a b = (diffL a b, 0) ∧ OpsOk (diffL a b) ∧ applyO a (diffL a b) = (b, -1, 0) := by
  have h1 := diff_len ha hb
  have h2 : (diffL a b).length ≤ 80 := by omega
  have hf := diff_form ha hb
  obtain ⟨bs, hr⟩ := diff_run ha hb (by omega)
  have ok : OpsOk (diffL a b) := ⟨by omega, fun o h => opOk_form (hf o h)⟩
  refine ⟨?_, ok, (apply_ok ⟨ha, ok.1, ok.2⟩ hr).1⟩
  unfold diffO
  rw [if_pos ⟨ha, hb⟩, if_pos (by omega)]
theorem diff_nil {a b : List Feat} (ha : FeatsOk a) (hb : FeatsOk b) (la : a.length ≤ 20) (lb : b.length ≤ 20) (h : diffL a b = []) : a = b := by
  have h1 := (diffO_few ha hb la lb).2.2
  rw [h] at h1
  have p : PatchOk a [] := ⟨ha, by simp, fun o ho => by simp at ho⟩
  rw [(apply_ok p (show runO a [] = .ok (a, []) from rfl)).1] at h1
  simp only [Prod.mk.injEq] at h1
  exact h1.1
theorem diffO_self {a : List Feat} (ha : FeatsOk a) : diffO a a = ([], 0) := by
  unfold diffO
  rw [if_pos ⟨ha, ha⟩, diff_self (featsOk_iff.1 ha).2.1, if_pos (by simp)]
set_option maxRecDepth 100000 in
set_option maxHeartbeats 8000000 in
theorem patchDiff_walk {a : List Feat} {ada : Option Addr} {cda : Nat} {b : List Feat} {adb : Option Addr} {cdb : Nat} {w : World} (ha : FeatsAt w (.slice ada a.length cda) a) (hb : FeatsAt w (.slice adb b.length cdb) b) :
    Calls Tryz.prog 10 #[.slice ada a.length cda, .slice adb b.length cdb] w fun e w' => e = .returned (.bool true) ∧ Below w.heap.size w w' := by
  have la : a.length ≤ 9223372036854775807 := by obtain ⟨_, _, _, _, h, _⟩ := ha.form; exact h
  have ka : a.length ≤ cda := by obtain ⟨a, c, e, _, _, h⟩ := ha.form; cases e; exact h
  obtain ⟨na, ea⟩ : ∃ n, a.length = n := ⟨_, rfl⟩
  rw [ea] at ha la ka ⊢
  have Ha := Lib.hid ha
  have Na := Lib.hid ea
  clear ha ea
  have lb : b.length ≤ 9223372036854775807 := by obtain ⟨_, _, _, _, h, _⟩ := hb.form; exact h
  have kb : b.length ≤ cdb := by obtain ⟨a, c, e, _, _, h⟩ := hb.form; cases e; exact h
  obtain ⟨nb, eb⟩ : ∃ n, b.length = n := ⟨_, rfl⟩
  rw [eb] at hb lb kb ⊢
  have Hb := Lib.hid hb
  have Nb := Lib.hid eb
  clear hb eb
  have hC0 := Below.refl w.heap.size w
  obtain ⟨w0, rfl⟩ : ∃ w0 : World, w0 = w := ⟨_, rfl⟩
  go_enter Tryz.func10, Tryz.ntmps10
  go_wp2_with fail
  (with_reducible refine (head17_true _).mono ?_)
  rintro e w1 ⟨rfl, hb1⟩
  have hC1 := below_step hC0 hb1
  go_wp2_with fail
  obtain ⟨vVa, hvVa⟩ : ∃ v, decide (FewO a ([] : List Opn)) = v := ⟨_, rfl⟩
  have HVa := Lib.hid hvVa
  clear hvVa
  (with_reducible refine (q17Few_any a ([] : List Opn) _ _ _ (Ha.out.later hC1) (ops_nil _) HVa.out).mono ?_)
  rintro e w2 ⟨rfl, hb2⟩
  have hC2 := below_step hC1 hb2
  cases vVa
  · go_wp2_with fail
    go_returns
    exact ⟨rfl, hC2⟩
  go_wp2_with fail
  obtain ⟨vVb, hvVb⟩ : ∃ v, decide (FewO b ([] : List Opn)) = v := ⟨_, rfl⟩
  have HVb := Lib.hid hvVb
  clear hvVb
  (with_reducible refine (q17Few_any b ([] : List Opn) _ _ _ (Hb.out.later hC2) (ops_nil _) HVb.out).mono ?_)
  rintro e w3 ⟨rfl, hb3⟩
  have hC3 := below_step hC2 hb3
  cases vVb
  · go_wp2_with fail
    go_returns
    exact ⟨rfl, hC3⟩
  go_wp2_with fail
  by_cases ok : FeatsOk a ∧ FeatsOk b
  rotate_left
  · have hv : diffO a b = ([], 1) := by unfold diffO; rw [if_neg ok]
    obtain ⟨ua, hua⟩ : ∃ u, decide (FeatsOk a) = u := ⟨_, rfl⟩
    obtain ⟨ub, hub⟩ : ∃ u, decide (FeatsOk b) = u := ⟨_, rfl⟩
    (with_reducible refine (paDiff_any a b _ _ _ (Ha.out.later hC3) (Hb.out.later hC3) hv).mono ?_)
    rintro e w4 ⟨ad4, n4, c4, hl4, rfl, hf4, hb4⟩
    have hC4 := below_step hC3 hb4
    obtain rfl : 0 = n4 := hl4
    clear hf4
    go_wp2_with fail
    (with_reducible refine (ftList_any a _ _ (Ha.out.later hC4) hua).mono ?_)
    rintro e w5 ⟨rfl, hb5⟩
    have hC5 := below_step hC4 hb5
    cases ua
    · go_wp2_with fail
      go_returns
      exact ⟨rfl, hC5⟩
    go_wp2_with fail
    (with_reducible refine (ftList_any b _ _ (Hb.out.later hC5) hub).mono ?_)
    rintro e w6 ⟨rfl, hb6⟩
    have hC6 := below_step hC5 hb6
    cases ub
    · go_wp2_with fail
      go_returns
      exact ⟨rfl, hC6⟩
    exact absurd ⟨of_decide_eq_true hua, of_decide_eq_true hub⟩ ok
  have la : a.length ≤ 20 := (of_decide_eq_true HVa.out).1
  have lb : b.length ≤ 20 := (of_decide_eq_true HVb.out).1
  have DO := Lib.hid (diffO_few ok.1 ok.2 la lb)
  have DN := Lib.hid (diff_nil ok.1 ok.2 la lb)
  have DS := Lib.hid (diffO_self ok.1)
  have OK := Lib.hid ok
  clear ok la lb
  (with_reducible refine (paDiff_any a b _ _ _ (Ha.out.later hC3) (Hb.out.later hC3) DO.out.1).mono ?_)
  rintro e w4 ⟨ad4, n4, c4, hl4, rfl, hf4, hb4⟩
  have hC4 := below_step hC3 hb4
  have FD := Lib.hid hf4
  have LD := Lib.hid hl4
  clear hf4 hl4
  go_wp2_with fail
  (with_reducible refine (paApply_any a (diffL a b) _ _ _ (Ha.out.later hC4) (FD.out.later (Below.refl _ w4)) DO.out.2.2).mono ?_)
  rintro e w5 ⟨ad5, n5, c5, hl5, rfl, hf5, hb5⟩
  have hC5 := below_step hC4 hb5
  have F5 := Lib.hid hf5
  have L5 := Lib.hid hl5
  clear hf5 hl5
  go_wp2_with fail
  (with_reducible refine (paNormal_yes (diffL a b) _ _ (FD.out.later hb5) (opsOk_len DO.out.2.1) (opsOk_all DO.out.2.1)).mono ?_)
  rintro e w6 ⟨ids6, ht6, hb6, hd6⟩
  have hC6 := below_step hC5 hb6
  obtain ⟨hsa, hnn⟩ := diff_norm OK.out.1 OK.out.2 ht6
  rcases hd6 with ⟨_, ad6, n6, c6, hl6, rfl, hf6⟩ | ⟨hno, rfl⟩
  rotate_left
  · exact absurd hsa hno
  rw [hnn] at hl6 hf6
  have FN := Lib.hid hf6
  clear hf6 hl6 hsa hnn ht6
  go_wp2_with fail
  (with_reducible refine (paDiff_any a a _ _ _ (Ha.out.later hC6) (Ha.out.later hC6) DS.out).mono ?_)
  rintro e w7 ⟨ad7, n7, c7, hl7, rfl, hf7, hb7⟩
  have hC7 := below_step hC6 hb7
  obtain rfl : 0 = n7 := hl7
  clear hf7
  go_wp2_with fail
  (with_reducible refine (q07SameList_any b b _ _ _ (F5.out.later (below_step hb6 hb7)) (Hb.out.later hC7) (decide_eq_true rfl)).mono ?_)
  rintro e w8 ⟨rfl, hb8⟩
  have hC8 := below_step hC7 hb8
  go_wp2_with fail
  (with_reducible refine (q16Ops_any (diffL a b) (diffL a b) _ _ _ (FN.out.later (below_step hb7 hb8)) (FD.out.later (below_step (below_step (below_step hb5 hb6) hb7) hb8)) (decide_eq_true rfl)).mono ?_)
  rintro e w9 ⟨rfl, hb9⟩
  have hC9 := below_step hC8 hb9
  rcases Nat.eq_zero_or_pos n4 with hz | hz
  · subst hz
    have hab : a = b := DN.out (List.eq_nil_of_length_eq_zero LD.out)
    have HAB : Hid (decide (a = b) = true) := Lib.hid (decide_eq_true hab)
    clear hab
    go_wp2_with fail
    (with_reducible refine (q07SameList_any a b _ _ _ (Ha.out.later hC9) (Hb.out.later hC9) HAB.out).mono ?_)
    rintro e w10 ⟨rfl, hb10⟩
    have hC10 := below_step hC9 hb10
    go_wp2_with fail
    go_returns
    exact ⟨rfl, hC10⟩
  have hz2 : (0 : Int) < n4 := by omega
  go_wp2_with fail
  go_returns
  exact ⟨rfl, hC9⟩
set_option maxRecDepth 100000 in
theorem patchDiff_lifted (os : Os) (started : os.Started) (H : Type) (enc : TypeId × Value → H) :
    ReturnsInHanded {} Tryz.checked os 10 .any (Rows.patchDiffSpec.pre6 enc Tryz.prog Tryz.f10 Rows.patchDiffRow.domain false) (Rows.patchDiffSpec.post enc Tryz.prog Tryz.f10 false true false false) := by
  refine returnsInHanded_of_change (C := Tryz.checked) own_knob started (by kernel_rfl) Tryz.func10
    (ChangeSpec.witness6 (enc := enc) (C := Tryz.checked) false ⟨#[], #[.slice none 0 0, .slice none 0 0], []⟩ 8 (by kernel_rfl) (by kernel_rfl) (by kernel_rfl) (by kernel_rfl)) ?_
  intro W base args ds gs before hval0 hW hcnd _
  have hval : ∀ (j : Nat) t v, Tryz.f10.params[j]? = some t → args[j]? = some v → Value.okWide Tryz.prog W .any base t v := hval0
  have hW' := hW
  obtain ⟨p, q, hA0, hV, rfl, hfz, hnd⟩ := hW
  have hA : DataW.TrodAll enc Tryz.prog W 0 (fun _ => true) true Tryz.f10.params.toList args.toList ds p := hA0
  rw [Tryz.params10] at hA hval
  obtain ⟨v0, vs0, d0, ds0, p0, q0, hargs, rfl, rfl, h0, r0⟩ := trodAll_cons hA
  obtain ⟨v1, vs1, d1, ds1, p1, q1, rfl, rfl, rfl, h1, r1⟩ := trodAll_cons r0
  obtain ⟨rfl, rfl, rfl⟩ := trodAll_nil r1
  obtain rfl : args = #[v0, v1] := by cases args; simp_all
  obtain ⟨rfl, rfl⟩ := trodVars_none hV
  simp only [List.append_nil] at hW' hA0
  obtain ⟨_, _, _, e0, ha⟩ := open_feats (hval 0 22 v0 rfl rfl) h0
  subst e0
  obtain ⟨_, _, _, e1, hb⟩ := open_feats (hval 1 22 v1 rfl rfl) h1
  subst e1
  refine (patchDiff_walk  ha hb).mono fun e W' ⟨he, hg⟩ => ?_
  subst he
  exact ⟨_, rfl, post_law laid_out (by rw [Tryz.params10]; intro t ht; simp only [List.mem_cons, List.not_mem_nil, or_false] at ht; rcases ht with rfl | rfl <;> exact ⟨by kernel_rfl, of_decide_eq_true (by kernel_rfl)⟩) rfl hW' hA0 rfl rfl rfl rfl Tryz.underlying4 hg⟩
theorem patchDiff_over : Rows.patchDiffRow.holds Tryz.pinned (OpenSpec.ofChange Rows.patchDiffSpec) :=
  OpenClaim.holds_of_wide 10 Tryz.f10 rfl rfl rfl rfl rfl rfl rfl ⟨rfl, rfl, rfl, rfl, rfl⟩ rfl rfl rfl rfl rfl (by kernel_rfl) Tryz.func10 (by kernel_rfl)
    (of_decide_eq_true (by kernel_rfl)) (by unfold Func.isWrapper; first | (rw [if_pos (by decide +kernel)]; kernel_rfl) | (rw [if_neg (by decide +kernel)]; exact ⟨rfl, rfl⟩))
    (fun os started H enc _ => patchDiff_lifted os started H enc)
theorem patchDiff_holds : Rows.PatchDiffSaid :=
  patchDiff_over
#print axioms patchDiff_holds
end Go.Proofs.YtpidmgkjnomigaaGreat
