/- For any list of features and any operations: the statement PatchBack of chapter 17 (what was patched and undone is as before, and what was undone can be done again): the law's function returns true and leaves its arguments as they were. No condition. -/
import Derived.Test.YtpidmgkjnomigaaGreatPatHead
import Derived.Test.YtpidmgkjnomigaaGreatPatCase
import Derived.Test.YtpidmgkjnomigaaGreatFrameO
import Derived.Test.YtpidmgkjnomigaaGreatSame7
namespace Go.Proofs.YtpidmgkjnomigaaGreat
open Go.ChangeShapes Go.WideShapes Go.ChangeAt Go.RowKit
attribute [local go_sem] bqOp bqAll bqUpon sqOp sqAll sqUpon ssOp ssAll
attribute [local irreducible] wpQuiet wpBQ wpPlan wsPlan
set_option linter.unusedVariables false
set_option maxRecDepth 100000 in
set_option maxHeartbeats 8000000 in
theorem patchBack_walk {l : List Feat} {adl : Option Addr} {cdl : Nat} {o : List Opn} {ado : Option Addr} {cdo : Nat} {w : World} (hl : FeatsAt w (.slice adl l.length cdl) l) (ho : OpsAt w (.slice ado o.length cdo) o) :
    Calls Tryz.prog 3 #[.slice adl l.length cdl, .slice ado o.length cdo] w fun e w' => e = .returned (.bool true) ∧ Below w.heap.size w w' := by
  have ll : l.length ≤ 9223372036854775807 := by obtain ⟨_, _, _, _, h, _⟩ := hl.form; exact h
  have kl : l.length ≤ cdl := by obtain ⟨a, c, e, _, _, h⟩ := hl.form; cases e; exact h
  obtain ⟨nl, el⟩ : ∃ n, l.length = n := ⟨_, rfl⟩
  rw [el] at hl ll kl ⊢
  have Hl := Lib.hid hl
  have Nl := Lib.hid el
  clear hl el
  have lo : o.length ≤ 9223372036854775807 := by obtain ⟨_, _, _, _, h, _⟩ := ho.form; exact h
  have ko : o.length ≤ cdo := by obtain ⟨a, c, e, _, _, h⟩ := ho.form; cases e; exact h
  obtain ⟨no, eo⟩ : ∃ n, o.length = n := ⟨_, rfl⟩
  rw [eo] at ho lo ko ⊢
  have Ho := Lib.hid ho
  have No := Lib.hid eo
  clear ho eo
  have hC0 := Below.refl w.heap.size w
  obtain ⟨w0, rfl⟩ : ∃ w0 : World, w0 = w := ⟨_, rfl⟩
  go_enter Tryz.func3, Tryz.ntmps3
  go_wp2_with fail
  (with_reducible refine (head17_true _).mono ?_)
  rintro e w1 ⟨rfl, hb1⟩
  have hC1 := below_step hC0 hb1
  go_wp2_with fail
  obtain ⟨vVlo, hvVlo⟩ : ∃ v, decide (FewO l o) = v := ⟨_, rfl⟩
  have HVlo := Lib.hid hvVlo
  clear hvVlo
  (with_reducible refine (q17Few_any l o _ _ _ (Hl.out.later hC1) (Ho.out.later hC1) HVlo.out).mono ?_)
  rintro e w2 ⟨rfl, hb2⟩
  have hC2 := below_step hC1 hb2
  cases vVlo
  · go_wp2_with fail
    go_returns
    exact ⟨rfl, hC2⟩
  rcases apply_cases l o with ⟨_, ha, hu⟩ | ⟨_, i, er, _, _, he, ha, hu⟩ | ⟨hok, x, bs, hr, _, ha, hu⟩
  · go_wp2_with fail
    (with_reducible refine (paApply_any l o _ _ _ (Hl.out.later hC2) (Ho.out.later hC2) ha).mono ?_)
    rintro e w3 ⟨ad3, n3, c3, hl3, rfl, hf3, hb3⟩
    have hC3 := below_step hC2 hb3
    obtain rfl : 0 = n3 := hl3
    clear hf3
    go_wp2_with fail
    (with_reducible refine (paUndo_any l o _ _ _ (Hl.out.later hC3) (Ho.out.later hC3) hu).mono ?_)
    rintro e w4 ⟨ad4, n4, c4, hl4, rfl, hf4, hb4⟩
    have hC4 := below_step hC3 hb4
    obtain rfl : 0 = n4 := hl4
    clear hf4
    go_wp2_with fail
    go_returns
    exact ⟨rfl, hC4⟩
  · skip
    have der0 : (er == 0) = false := by rcases he with rfl | rfl | rfl | rfl <;> rfl
    have der1 : (er == 1) = false := by rcases he with rfl | rfl | rfl | rfl <;> rfl
    clear he
    go_wp2_with fail
    (with_reducible refine (paApply_any l o _ _ _ (Hl.out.later hC2) (Ho.out.later hC2) ha).mono ?_)
    rintro e w3 ⟨ad3, n3, c3, hl3, rfl, hf3, hb3⟩
    have hC3 := below_step hC2 hb3
    obtain rfl : 0 = n3 := hl3
    clear hf3
    go_wp2_with fail
    (with_reducible refine (paUndo_any l o _ _ _ (Hl.out.later hC3) (Ho.out.later hC3) hu).mono ?_)
    rintro e w4 ⟨ad4, n4, c4, hl4, rfl, hf4, hb4⟩
    have hC4 := below_step hC3 hb4
    obtain rfl : 0 = n4 := hl4
    clear hf4
    go_wp2_with fail
    go_returns
    exact ⟨rfl, hC4⟩
  · obtain ⟨hbl, cs, h1, h2, h3⟩ := back_parts hok hr
    have HA := Lib.hid ha
    have HU := Lib.hid hu
    have H1 := Lib.hid h1
    have H2 := Lib.hid h2
    have H3 := Lib.hid h3
    have BL : Hid (bs.reverse.length = no) := Lib.hid (by rw [List.length_reverse, hbl, No.out])
    clear ha hu h1 h2 h3 hbl hr hok
    go_wp2_with fail
    (with_reducible refine (paApply_any l o _ _ _ (Hl.out.later hC2) (Ho.out.later hC2) HA.out).mono ?_)
    rintro e w3 ⟨ad3, n3, c3, hl3, rfl, hf3, hb3⟩
    have hC3 := below_step hC2 hb3
    have F3 := Lib.hid hf3
    have L3 := Lib.hid hl3
    clear hf3 hl3
    go_wp2_with fail
    (with_reducible refine (paUndo_any l o _ _ _ (Hl.out.later hC3) (Ho.out.later hC3) HU.out).mono ?_)
    rintro e w4 ⟨ad4, n4, c4, hl4, rfl, hf4, hb4⟩
    have hC4 := below_step hC3 hb4
    have F4 := Lib.hid hf4
    have L4 := Lib.hid hl4
    clear hf4 hl4
    obtain rfl : no = n4 := BL.out.symm.trans L4.out
    go_wp2_with fail
    (with_reducible refine (paApply_any x bs.reverse _ _ _ (F3.out.later hb4) (F4.out.later (Below.refl _ w4)) H1.out).mono ?_)
    rintro e w5 ⟨ad5, n5, c5, hl5, rfl, hf5, hb5⟩
    have hC5 := below_step hC4 hb5
    have F5 := Lib.hid hf5
    have L5 := Lib.hid hl5
    clear hf5 hl5
    go_wp2_with fail
    (with_reducible refine (paUndo_any x bs.reverse _ _ _ (F3.out.later (below_step hb4 hb5)) (F4.out.later hb5) H2.out).mono ?_)
    rintro e w6 ⟨ad6, n6, c6, hl6, rfl, hf6, hb6⟩
    have hC6 := below_step hC5 hb6
    have F6 := Lib.hid hf6
    have L6 := Lib.hid hl6
    clear hf6 hl6
    go_wp2_with fail
    (with_reducible refine (paApply_any l cs _ _ _ (F5.out.later hb6) (F6.out.later (Below.refl _ w6)) H3.out).mono ?_)
    rintro e w7 ⟨ad7, n7, c7, hl7, rfl, hf7, hb7⟩
    have hC7 := below_step hC6 hb7
    have F7 := Lib.hid hf7
    have L7 := Lib.hid hl7
    clear hf7 hl7
    go_wp2_with fail
    (with_reducible refine (q07SameList_any l l _ _ _ (F5.out.later (below_step hb6 hb7)) (Hl.out.later hC7) (decide_eq_true rfl)).mono ?_)
    rintro e w8 ⟨rfl, hb8⟩
    have hC8 := below_step hC7 hb8
    go_wp2_with fail
    (with_reducible refine (q07SameList_any x x _ _ _ (F7.out.later hb8) (F3.out.later (below_step (below_step (below_step (below_step hb4 hb5) hb6) hb7) hb8)) (decide_eq_true rfl)).mono ?_)
    rintro e w9 ⟨rfl, hb9⟩
    have hC9 := below_step hC8 hb9
    go_wp2_with fail
    go_returns
    exact ⟨rfl, hC9⟩
set_option maxRecDepth 100000 in
theorem patchBack_lifted (os : Os) (started : os.Started) (H : Type) (enc : TypeId × Value → H) :
    ReturnsInHanded {} Tryz.checked os 3 .any (Rows.patchBackSpec.pre6 enc Tryz.prog Tryz.f3 Rows.patchBackRow.domain false) (Rows.patchBackSpec.post enc Tryz.prog Tryz.f3 false true false false) := by
  refine returnsInHanded_of_change (C := Tryz.checked) own_knob started (by kernel_rfl) Tryz.func3
    (ChangeSpec.witness6 (enc := enc) (C := Tryz.checked) false ⟨#[], #[.slice none 0 0, .slice none 0 0], []⟩ 8 (by kernel_rfl) (by kernel_rfl) (by kernel_rfl) (by kernel_rfl)) ?_
  intro W base args ds gs before hval0 hW hcnd _
  have hval : ∀ (j : Nat) t v, Tryz.f3.params[j]? = some t → args[j]? = some v → Value.okWide Tryz.prog W .any base t v := hval0
  have hW' := hW
  obtain ⟨p, q, hA0, hV, rfl, hfz, hnd⟩ := hW
  have hA : DataW.TrodAll enc Tryz.prog W 0 (fun _ => true) true Tryz.f3.params.toList args.toList ds p := hA0
  rw [Tryz.params3] at hA hval
  obtain ⟨v0, vs0, d0, ds0, p0, q0, hargs, rfl, rfl, h0, r0⟩ := trodAll_cons hA
  obtain ⟨v1, vs1, d1, ds1, p1, q1, rfl, rfl, rfl, h1, r1⟩ := trodAll_cons r0
  obtain ⟨rfl, rfl, rfl⟩ := trodAll_nil r1
  obtain rfl : args = #[v0, v1] := by cases args; simp_all
  obtain ⟨rfl, rfl⟩ := trodVars_none hV
  simp only [List.append_nil] at hW' hA0
  obtain ⟨_, _, _, e0, hl⟩ := open_feats (hval 0 22 v0 rfl rfl) h0
  subst e0
  obtain ⟨_, _, _, e1, ho⟩ := open_ops (hval 1 23 v1 rfl rfl) h1
  subst e1
  refine (patchBack_walk  hl ho).mono fun e W' ⟨he, hg⟩ => ?_
  subst he
  exact ⟨_, rfl, post_law laid_out (by rw [Tryz.params3]; intro t ht; simp only [List.mem_cons, List.not_mem_nil, or_false] at ht; rcases ht with rfl | rfl <;> exact ⟨by kernel_rfl, of_decide_eq_true (by kernel_rfl)⟩) rfl hW' hA0 rfl rfl rfl rfl Tryz.underlying4 hg⟩
theorem patchBack_over : Rows.patchBackRow.holds Tryz.pinned (OpenSpec.ofChange Rows.patchBackSpec) :=
  OpenClaim.holds_of_wide 3 Tryz.f3 rfl rfl rfl rfl rfl rfl rfl ⟨rfl, rfl, rfl, rfl, rfl⟩ rfl rfl rfl rfl rfl (by kernel_rfl) Tryz.func3 (by kernel_rfl)
    (of_decide_eq_true (by kernel_rfl)) (by unfold Func.isWrapper; first | (rw [if_pos (by decide +kernel)]; kernel_rfl) | (rw [if_neg (by decide +kernel)]; exact ⟨rfl, rfl⟩))
    (fun os started H enc _ => patchBack_lifted os started H enc)
theorem patchBack_holds : Rows.PatchBackSaid :=
  patchBack_over
#print axioms patchBack_holds
end Go.Proofs.YtpidmgkjnomigaaGreat
