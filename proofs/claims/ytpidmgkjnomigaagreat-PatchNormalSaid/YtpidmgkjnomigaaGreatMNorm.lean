/- For any list of features and any operations: the statement PatchNormal of chapter 17 (on each list on which a patch is possible its normal patch is, too, and leads to the same; it is not longer, and is its own normal patch; a patch that is not consistent is possible on no list): the law's function returns true and leaves its arguments as they were. No condition. -/
import Derived.Test.YtpidmgkjnomigaaGreatPatHead
import Derived.Test.YtpidmgkjnomigaaGreatPatCase
import Derived.Test.YtpidmgkjnomigaaGreatFrameO
import Derived.Test.YtpidmgkjnomigaaGreatSame7
namespace Go.Proofs.YtpidmgkjnomigaaGreat
open Go.ChangeShapes Go.WideShapes Go.ChangeAt Go.RowKit
attribute [local go_sem] bqOp bqAll bqUpon sqOp sqAll sqUpon ssOp ssAll
attribute [local irreducible] wpQuiet wpBQ wpPlan wsPlan
set_option linter.unusedVariables false
set_option maxRecDepth 100000 in
set_option maxHeartbeats 8000000 in
theorem patchNormal_walk {l : List Feat} {adl : Option Addr} {cdl : Nat} {o : List Opn} {ado : Option Addr} {cdo : Nat} {w : World} (hl : FeatsAt w (.slice adl l.length cdl) l) (ho : OpsAt w (.slice ado o.length cdo) o) :
    Calls Tryz.prog 5 #[.slice adl l.length cdl, .slice ado o.length cdo] w fun e w' => e = .returned (.bool true) ∧ Below w.heap.size w w' := by
  have ll : l.length ≤ 9223372036854775807 := by obtain ⟨_, _, _, _, h, _⟩ := hl.form; exact h
  have kl : l.length ≤ cdl := by obtain ⟨a, c, e, _, _, h⟩ := hl.form; cases e; exact h
  obtain ⟨nl, el⟩ : ∃ n, l.length = n := ⟨_, rfl⟩
  rw [el] at hl ll kl ⊢
  have Hl := Lib.hid hl
  have Nl := Lib.hid el
  clear hl el
  have lo : o.length ≤ 9223372036854775807 := by obtain ⟨_, _, _, _, h, _⟩ := ho.form; exact h
  have ko : o.length ≤ cdo := by obtain ⟨a, c, e, _, _, h⟩ := ho.form; cases e; exact h
  obtain ⟨no, eo⟩ : ∃ n, o.length = n := ⟨_, rfl⟩
  rw [eo] at ho lo ko ⊢
  have Ho := Lib.hid ho
  have No := Lib.hid eo
  clear ho eo
  have hC0 := Below.refl w.heap.size w
  obtain ⟨w0, rfl⟩ : ∃ w0 : World, w0 = w := ⟨_, rfl⟩
  go_enter Tryz.func5, Tryz.ntmps5
  go_wp2_with fail
  (with_reducible refine (head17_true _).mono ?_)
  rintro e w1 ⟨rfl, hb1⟩
  have hC1 := below_step hC0 hb1
  go_wp2_with fail
  obtain ⟨vVlo, hvVlo⟩ : ∃ v, decide (FewO l o) = v := ⟨_, rfl⟩
  have HVlo := Lib.hid hvVlo
  clear hvVlo
  (with_reducible refine (q17Few_any l o _ _ _ (Hl.out.later hC1) (Ho.out.later hC1) HVlo.out).mono ?_)
  rintro e w2 ⟨rfl, hb2⟩
  have hC2 := below_step hC1 hb2
  cases vVlo
  · go_wp2_with fail
    go_returns
    exact ⟨rfl, hC2⟩
  go_wp2_with fail
  by_cases ok : OpsOk o
  rotate_left
  · have pn : ¬ PatchOk l o := fun h => ok ⟨h.2.1, h.2.2⟩
    (with_reducible refine (paNormal_no o _ _ (Ho.out.later hC2) (decide_eq_false ok)).mono ?_)
    rintro e w3 ⟨rfl, hb3⟩
    have hC3 := below_step hC2 hb3
    go_wp2_with fail
    (with_reducible refine (paApply_any l o _ _ _ (Hl.out.later hC3) (Ho.out.later hC3) (apply_no pn).1).mono ?_)
    rintro e w4 ⟨ad4, n4, c4, hl4, rfl, hf4, hb4⟩
    have hC4 := below_step hC3 hb4
    obtain rfl : 0 = n4 := hl4
    clear hf4
    go_wp2_with fail
    go_returns
    exact ⟨rfl, hC4⟩
  have OK := Lib.hid ok
  clear ok
  (with_reducible refine (paNormal_yes o _ _ (Ho.out.later hC2) (opsOk_len OK.out) (opsOk_all OK.out)).mono ?_)
  rintro e w3 ⟨ids, ht, hb3, hd3⟩
  have hC3 := below_step hC2 hb3
  have HT := Lib.hid ht
  clear ht
  have FW := of_decide_eq_true HVlo.out
  unfold FewO at FW
  have HFW := Lib.hid FW
  clear FW
  rcases hd3 with ⟨hy, adn, nn, cn, hln, rfl, hops⟩ | ⟨hno, rfl⟩
  rotate_left
  · have NO := Lib.hid hno
    clear hno
    go_wp2_with fail
    rcases apply_cases l o with ⟨_, ha, _⟩ | ⟨_, i, er, _, _, he, ha, _⟩ | ⟨hok, x, bs, hr, _, ha, _⟩
    · skip
      (with_reducible refine (paApply_any l o _ _ _ (Hl.out.later hC3) (Ho.out.later hC3) ha).mono ?_)
      rintro e w4 ⟨ad4, n4, c4, hl4, rfl, hf4, hb4⟩
      have hC4 := below_step hC3 hb4
      obtain rfl : 0 = n4 := hl4
      clear hf4
      go_wp2_with fail
      go_returns
      exact ⟨rfl, hC4⟩
    · skip
      have der0 : (er == 0) = false := by rcases he with rfl | rfl | rfl | rfl <;> rfl
      have der1 : (er == 1) = false := by rcases he with rfl | rfl | rfl | rfl <;> rfl
      have fer : (er != 0) = true := by rcases he with rfl | rfl | rfl | rfl <;> rfl
      clear he
      (with_reducible refine (paApply_any l o _ _ _ (Hl.out.later hC3) (Ho.out.later hC3) ha).mono ?_)
      rintro e w4 ⟨ad4, n4, c4, hl4, rfl, hf4, hb4⟩
      have hC4 := below_step hC3 hb4
      obtain rfl : 0 = n4 := hl4
      clear hf4
      go_wp2_with fail
      go_returns
      exact ⟨rfl, hC4⟩
    · exact absurd (norm_apply hok HT.out (by have := HFW.out; omega) hr).1 NO.out
  have HN := Lib.hid hln
  have FN := Lib.hid hops
  have NK := Lib.hid (norm_ok OK.out HT.out)
  have hle : (nn : Int) ≤ no := by have h1 := NK.out.2; have h2 := HN.out; have h3 := No.out; omega
  clear hln hops hy
  go_wp2_with fail
  rcases apply_cases l o with ⟨_, ha, _⟩ | ⟨_, i, er, _, _, he, ha, _⟩ | ⟨hok, x, bs, hr, _, ha, _⟩
  · skip
    (with_reducible refine (paApply_any l o _ _ _ (Hl.out.later hC3) (Ho.out.later hC3) ha).mono ?_)
    rintro e w4 ⟨ad4, n4, c4, hl4, rfl, hf4, hb4⟩
    have hC4 := below_step hC3 hb4
    obtain rfl : 0 = n4 := hl4
    clear hf4
    go_wp2_with fail
    (with_reducible refine (paNormal_yes (normL ids o) _ _ (FN.out.later hb4) (opsOk_len NK.out.1) (opsOk_all NK.out.1)).mono ?_)
    rintro e w5 ⟨ids5, ht5, hb5, hd5⟩
    have hC5 := below_step hC4 hb5
    obtain ⟨hsa5, hnn5⟩ := norm_norm (fun o h => opForm (opsOk_all OK.out o h)) HT.out ht5
    rcases hd5 with ⟨_, ad5, n5, c5, hl5, rfl, hf5⟩ | ⟨hno, rfl⟩
    rotate_left
    · exact absurd hsa5 hno
    rw [hnn5] at hl5 hf5
    obtain rfl : nn = n5 := HN.out.symm.trans hl5
    have F5 := Lib.hid hf5
    clear hf5 hl5 hsa5 hnn5 ht5
    go_wp2_with fail
    (with_reducible refine (q16Ops_any (normL ids o) (normL ids o) _ _ _ (F5.out.later (Below.refl _ w5)) (FN.out.later (below_step hb4 hb5)) (decide_eq_true rfl)).mono ?_)
    rintro e w6 ⟨rfl, hb6⟩
    have hC6 := below_step hC5 hb6
    go_wp2_with fail
    go_returns
    exact ⟨rfl, hC6⟩
  · skip
    have der0 : (er == 0) = false := by rcases he with rfl | rfl | rfl | rfl <;> rfl
    have der1 : (er == 1) = false := by rcases he with rfl | rfl | rfl | rfl <;> rfl
    have fer : (er != 0) = true := by rcases he with rfl | rfl | rfl | rfl <;> rfl
    clear he
    (with_reducible refine (paApply_any l o _ _ _ (Hl.out.later hC3) (Ho.out.later hC3) ha).mono ?_)
    rintro e w4 ⟨ad4, n4, c4, hl4, rfl, hf4, hb4⟩
    have hC4 := below_step hC3 hb4
    obtain rfl : 0 = n4 := hl4
    clear hf4
    go_wp2_with fail
    (with_reducible refine (paNormal_yes (normL ids o) _ _ (FN.out.later hb4) (opsOk_len NK.out.1) (opsOk_all NK.out.1)).mono ?_)
    rintro e w5 ⟨ids5, ht5, hb5, hd5⟩
    have hC5 := below_step hC4 hb5
    obtain ⟨hsa5, hnn5⟩ := norm_norm (fun o h => opForm (opsOk_all OK.out o h)) HT.out ht5
    rcases hd5 with ⟨_, ad5, n5, c5, hl5, rfl, hf5⟩ | ⟨hno, rfl⟩
    rotate_left
    · exact absurd hsa5 hno
    rw [hnn5] at hl5 hf5
    obtain rfl : nn = n5 := HN.out.symm.trans hl5
    have F5 := Lib.hid hf5
    clear hf5 hl5 hsa5 hnn5 ht5
    go_wp2_with fail
    (with_reducible refine (q16Ops_any (normL ids o) (normL ids o) _ _ _ (F5.out.later (Below.refl _ w5)) (FN.out.later (below_step hb4 hb5)) (decide_eq_true rfl)).mono ?_)
    rintro e w6 ⟨rfl, hb6⟩
    have hC6 := below_step hC5 hb6
    go_wp2_with fail
    go_returns
    exact ⟨rfl, hC6⟩
  · have HA := Lib.hid ha
    have H1 := Lib.hid (norm_apply hok HT.out (by have := HFW.out; omega) hr).2
    clear ha hok hr
    (with_reducible refine (paApply_any l o _ _ _ (Hl.out.later hC3) (Ho.out.later hC3) HA.out).mono ?_)
    rintro e w4 ⟨ad4, n4, c4, hl4, rfl, hf4, hb4⟩
    have hC4 := below_step hC3 hb4
    have F4 := Lib.hid hf4
    have L4 := Lib.hid hl4
    clear hf4 hl4
    go_wp2_with fail
    (with_reducible refine (paNormal_yes (normL ids o) _ _ (FN.out.later hb4) (opsOk_len NK.out.1) (opsOk_all NK.out.1)).mono ?_)
    rintro e w5 ⟨ids5, ht5, hb5, hd5⟩
    have hC5 := below_step hC4 hb5
    obtain ⟨hsa5, hnn5⟩ := norm_norm (fun o h => opForm (opsOk_all OK.out o h)) HT.out ht5
    rcases hd5 with ⟨_, ad5, n5, c5, hl5, rfl, hf5⟩ | ⟨hno, rfl⟩
    rotate_left
    · exact absurd hsa5 hno
    rw [hnn5] at hl5 hf5
    obtain rfl : nn = n5 := HN.out.symm.trans hl5
    have F5 := Lib.hid hf5
    clear hf5 hl5 hsa5 hnn5 ht5
    go_wp2_with fail
    (with_reducible refine (q16Ops_any (normL ids o) (normL ids o) _ _ _ (F5.out.later (Below.refl _ w5)) (FN.out.later (below_step hb4 hb5)) (decide_eq_true rfl)).mono ?_)
    rintro e w6 ⟨rfl, hb6⟩
    have hC6 := below_step hC5 hb6
    go_wp2_with fail
    (with_reducible refine (paApply_any l (normL ids o) _ _ _ (Hl.out.later hC6) (FN.out.later (below_step (below_step hb4 hb5) hb6)) H1.out).mono ?_)
    rintro e w7 ⟨ad7, n7, c7, hl7, rfl, hf7, hb7⟩
    have hC7 := below_step hC6 hb7
    have F7 := Lib.hid hf7
    have L7 := Lib.hid hl7
    clear hf7 hl7
    go_wp2_with fail
    (with_reducible refine (q07SameList_any x x _ _ _ (F4.out.later (below_step (below_step hb5 hb6) hb7)) (F7.out.later (Below.refl _ w7)) (decide_eq_true rfl)).mono ?_)
    rintro e w8 ⟨rfl, hb8⟩
    have hC8 := below_step hC7 hb8
    go_wp2_with fail
    go_returns
    exact ⟨rfl, hC8⟩
set_option maxRecDepth 100000 in
theorem patchNormal_lifted (os : Os) (started : os.Started) (H : Type) (enc : TypeId × Value → H) :
    ReturnsInHanded {} Tryz.checked os 5 .any (Rows.patchNormalSpec.pre6 enc Tryz.prog Tryz.f5 Rows.patchNormalRow.domain false) (Rows.patchNormalSpec.post enc Tryz.prog Tryz.f5 false true false false) := by
  refine returnsInHanded_of_change (C := Tryz.checked) own_knob started (by kernel_rfl) Tryz.func5
    (ChangeSpec.witness6 (enc := enc) (C := Tryz.checked) false ⟨#[], #[.slice none 0 0, .slice none 0 0], []⟩ 8 (by kernel_rfl) (by kernel_rfl) (by kernel_rfl) (by kernel_rfl)) ?_
  intro W base args ds gs before hval0 hW hcnd _
  have hval : ∀ (j : Nat) t v, Tryz.f5.params[j]? = some t → args[j]? = some v → Value.okWide Tryz.prog W .any base t v := hval0
  have hW' := hW
  obtain ⟨p, q, hA0, hV, rfl, hfz, hnd⟩ := hW
  have hA : DataW.TrodAll enc Tryz.prog W 0 (fun _ => true) true Tryz.f5.params.toList args.toList ds p := hA0
  rw [Tryz.params5] at hA hval
  obtain ⟨v0, vs0, d0, ds0, p0, q0, hargs, rfl, rfl, h0, r0⟩ := trodAll_cons hA
  obtain ⟨v1, vs1, d1, ds1, p1, q1, rfl, rfl, rfl, h1, r1⟩ := trodAll_cons r0
  obtain ⟨rfl, rfl, rfl⟩ := trodAll_nil r1
  obtain rfl : args = #[v0, v1] := by cases args; simp_all
  obtain ⟨rfl, rfl⟩ := trodVars_none hV
  simp only [List.append_nil] at hW' hA0
  obtain ⟨_, _, _, e0, hl⟩ := open_feats (hval 0 22 v0 rfl rfl) h0
  subst e0
  obtain ⟨_, _, _, e1, ho⟩ := open_ops (hval 1 23 v1 rfl rfl) h1
  subst e1
  refine (patchNormal_walk  hl ho).mono fun e W' ⟨he, hg⟩ => ?_
  subst he
  exact ⟨_, rfl, post_law laid_out (by rw [Tryz.params5]; intro t ht; simp only [List.mem_cons, List.not_mem_nil, or_false] at ht; rcases ht with rfl | rfl <;> exact ⟨by kernel_rfl, of_decide_eq_true (by kernel_rfl)⟩) rfl hW' hA0 rfl rfl rfl rfl Tryz.underlying4 hg⟩
theorem patchNormal_over : Rows.patchNormalRow.holds Tryz.pinned (OpenSpec.ofChange Rows.patchNormalSpec) :=
  OpenClaim.holds_of_wide 5 Tryz.f5 rfl rfl rfl rfl rfl rfl rfl ⟨rfl, rfl, rfl, rfl, rfl⟩ rfl rfl rfl rfl rfl (by kernel_rfl) Tryz.func5 (by kernel_rfl)
    (of_decide_eq_true (by kernel_rfl)) (by unfold Func.isWrapper; first | (rw [if_pos (by decide +kernel)]; kernel_rfl) | (rw [if_neg (by decide +kernel)]; exact ⟨rfl, rfl⟩))
    (fun os started H enc _ => patchNormal_lifted os started H enc)
theorem patchNormal_holds : Rows.PatchNormalSaid :=
  patchNormal_over
#print axioms patchNormal_holds
end Go.Proofs.YtpidmgkjnomigaaGreat
