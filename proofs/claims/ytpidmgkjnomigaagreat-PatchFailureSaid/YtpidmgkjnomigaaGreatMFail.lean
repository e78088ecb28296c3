/- For any list of features and any operations: the statement PatchFailure of chapter 17 (the operations before the first failure are possible, and the next one has its error alone behind them): the law's function returns true and leaves its arguments as they were. No condition. -/
import Derived.Test.YtpidmgkjnomigaaGreatPatHead
import Derived.Test.YtpidmgkjnomigaaGreatPatCase
import Derived.Test.YtpidmgkjnomigaaGreatFrameO
import Derived.Test.YtpidmgkjnomigaaGreatSame7
namespace Go.Proofs.YtpidmgkjnomigaaGreat
open Go.ChangeShapes Go.WideShapes Go.ChangeAt Go.RowKit
attribute [local go_sem] bqOp bqAll bqUpon sqOp sqAll sqUpon ssOp ssAll
attribute [local irreducible] wpQuiet wpBQ wpPlan wsPlan
set_option linter.unusedVariables false
set_option maxRecDepth 100000 in
set_option maxHeartbeats 8000000 in
theorem patchFailure_walk {l : List Feat} {adl : Option Addr} {cdl : Nat} {o : List Opn} {ado : Option Addr} {cdo : Nat} {w : World} (hl : FeatsAt w (.slice adl l.length cdl) l) (ho : OpsAt w (.slice ado o.length cdo) o) :
    Calls Tryz.prog 8 #[.slice adl l.length cdl, .slice ado o.length cdo] w fun e w' => e = .returned (.bool true) ∧ Below w.heap.size w w' := by
  have ll : l.length ≤ 9223372036854775807 := by obtain ⟨_, _, _, _, h, _⟩ := hl.form; exact h
  have kl : l.length ≤ cdl := by obtain ⟨a, c, e, _, _, h⟩ := hl.form; cases e; exact h
  obtain ⟨nl, el⟩ : ∃ n, l.length = n := ⟨_, rfl⟩
  rw [el] at hl ll kl ⊢
  have Hl := Lib.hid hl
  have Nl := Lib.hid el
  clear hl el
  have lo : o.length ≤ 9223372036854775807 := by obtain ⟨_, _, _, _, h, _⟩ := ho.form; exact h
  have ko : o.length ≤ cdo := by obtain ⟨a, c, e, _, _, h⟩ := ho.form; cases e; exact h
  obtain ⟨no, eo⟩ : ∃ n, o.length = n := ⟨_, rfl⟩
  rw [eo] at ho lo ko ⊢
  have Ho := Lib.hid ho
  have No := Lib.hid eo
  clear ho eo
  have hC0 := Below.refl w.heap.size w
  obtain ⟨w0, rfl⟩ : ∃ w0 : World, w0 = w := ⟨_, rfl⟩
  go_enter Tryz.func8, Tryz.ntmps8
  go_wp2_with fail
  (with_reducible refine (head17_true _).mono ?_)
  rintro e w1 ⟨rfl, hb1⟩
  have hC1 := below_step hC0 hb1
  go_wp2_with fail
  obtain ⟨vVlo, hvVlo⟩ : ∃ v, decide (FewO l o) = v := ⟨_, rfl⟩
  have HVlo := Lib.hid hvVlo
  clear hvVlo
  (with_reducible refine (q17Few_any l o _ _ _ (Hl.out.later hC1) (Ho.out.later hC1) HVlo.out).mono ?_)
  rintro e w2 ⟨rfl, hb2⟩
  have hC2 := below_step hC1 hb2
  cases vVlo
  · go_wp2_with fail
    go_returns
    exact ⟨rfl, hC2⟩
  rcases apply_cases l o with ⟨_, ha, _⟩ | ⟨hok, i, er, hr, hi, he, ha, _⟩ | ⟨_, x, bs, _, _, ha, _⟩
  · go_wp2_with fail
    (with_reducible refine (paApply_any l o _ _ _ (Hl.out.later hC2) (Ho.out.later hC2) ha).mono ?_)
    rintro e w3 ⟨ad3, n3, c3, hl3, rfl, hf3, hb3⟩
    have hC3 := below_step hC2 hb3
    obtain rfl : 0 = n3 := hl3
    clear hf3
    go_wp2_with fail
    go_returns
    exact ⟨rfl, hC3⟩
  · obtain ⟨x, h1, h2⟩ := fail_parts hok hr
    rw [No.out] at hi
    have g0 : ¬ (i : Int) < 0 := by omega
    have g1 : ¬ (no : Int) ≤ i := by omega
    have g2 : (i : Int) < no := by omega
    have der0 : (er == 0) = false := by rcases he with rfl | rfl | rfl | rfl <;> rfl
    have der1 : (er == 1) = false := by rcases he with rfl | rfl | rfl | rfl <;> rfl
    have HA := Lib.hid ha
    have HX := Lib.hid h1
    have HE := Lib.hid h2
    clear he ha h1 h2 hr hok
    go_wp2_with fail
    (with_reducible refine (paApply_any l o _ _ _ (Hl.out.later hC2) (Ho.out.later hC2) HA.out).mono ?_)
    rintro e w3 ⟨ad3, n3, c3, hl3, rfl, hf3, hb3⟩
    have hC3 := below_step hC2 hb3
    obtain rfl : 0 = n3 := hl3
    clear hf3
    go_wp2_with fail
    (with_reducible refine (paApply_any l (o.take i) _ _ _ (Hl.out.later hC3) (ops_take (Ho.out.later hC3) No.out (by omega)) HX.out).mono ?_)
    rintro e w4 ⟨ad4, n4, c4, hl4, rfl, hf4, hb4⟩
    have hC4 := below_step hC3 hb4
    have F4 := Lib.hid hf4
    have L4 := Lib.hid hl4
    clear hf4 hl4
    go_wp2_with fail
    (with_reducible refine (paApply_any x ((o.drop i).take 1) _ _ _ (F4.out.later (Below.refl _ w4)) (ops_part (Ho.out.later hC4) No.out hi) HE.out).mono ?_)
    rintro e w5 ⟨ad5, n5, c5, hl5, rfl, hf5, hb5⟩
    have hC5 := below_step hC4 hb5
    obtain rfl : 0 = n5 := hl5
    clear hf5
    go_wp2_with fail
    go_returns
    exact ⟨rfl, hC5⟩
  · have HA := Lib.hid ha
    clear ha
    go_wp2_with fail
    (with_reducible refine (paApply_any l o _ _ _ (Hl.out.later hC2) (Ho.out.later hC2) HA.out).mono ?_)
    rintro e w3 ⟨ad3, n3, c3, hl3, rfl, hf3, hb3⟩
    have hC3 := below_step hC2 hb3
    have F3 := Lib.hid hf3
    have L3 := Lib.hid hl3
    clear hf3 hl3
    go_wp2_with fail
    go_returns
    exact ⟨rfl, hC3⟩
set_option maxRecDepth 100000 in
theorem patchFailure_lifted (os : Os) (started : os.Started) (H : Type) (enc : TypeId × Value → H) :
    ReturnsInHanded {} Tryz.checked os 8 .any (Rows.patchFailureSpec.pre6 enc Tryz.prog Tryz.f8 Rows.patchFailureRow.domain false) (Rows.patchFailureSpec.post enc Tryz.prog Tryz.f8 false true false false) := by
  refine returnsInHanded_of_change (C := Tryz.checked) own_knob started (by kernel_rfl) Tryz.func8
    (ChangeSpec.witness6 (enc := enc) (C := Tryz.checked) false ⟨#[], #[.slice none 0 0, .slice none 0 0], []⟩ 8 (by kernel_rfl) (by kernel_rfl) (by kernel_rfl) (by kernel_rfl)) ?_
  intro W base args ds gs before hval0 hW hcnd _
  have hval : ∀ (j : Nat) t v, Tryz.f8.params[j]? = some t → args[j]? = some v → Value.okWide Tryz.prog W .any base t v := hval0
  have hW' := hW
  obtain ⟨p, q, hA0, hV, rfl, hfz, hnd⟩ := hW
  have hA : DataW.TrodAll enc Tryz.prog W 0 (fun _ => true) true Tryz.f8.params.toList args.toList ds p := hA0
  rw [Tryz.params8] at hA hval
  obtain ⟨v0, vs0, d0, ds0, p0, q0, hargs, rfl, rfl, h0, r0⟩ := trodAll_cons hA
  obtain ⟨v1, vs1, d1, ds1, p1, q1, rfl, rfl, rfl, h1, r1⟩ := trodAll_cons r0
  obtain ⟨rfl, rfl, rfl⟩ := trodAll_nil r1
  obtain rfl : args = #[v0, v1] := by cases args; simp_all
  obtain ⟨rfl, rfl⟩ := trodVars_none hV
  simp only [List.append_nil] at hW' hA0
  obtain ⟨_, _, _, e0, hl⟩ := open_feats (hval 0 22 v0 rfl rfl) h0
  subst e0
  obtain ⟨_, _, _, e1, ho⟩ := open_ops (hval 1 23 v1 rfl rfl) h1
  subst e1
  refine (patchFailure_walk  hl ho).mono fun e W' ⟨he, hg⟩ => ?_
  subst he
  exact ⟨_, rfl, post_law laid_out (by rw [Tryz.params8]; intro t ht; simp only [List.mem_cons, List.not_mem_nil, or_false] at ht; rcases ht with rfl | rfl <;> exact ⟨by kernel_rfl, of_decide_eq_true (by kernel_rfl)⟩) rfl hW' hA0 rfl rfl rfl rfl Tryz.underlying4 hg⟩
theorem patchFailure_over : Rows.patchFailureRow.holds Tryz.pinned (OpenSpec.ofChange Rows.patchFailureSpec) :=
  OpenClaim.holds_of_wide 8 Tryz.f8 rfl rfl rfl rfl rfl rfl rfl ⟨rfl, rfl, rfl, rfl, rfl⟩ rfl rfl rfl rfl rfl (by kernel_rfl) Tryz.func8 (by kernel_rfl)
    (of_decide_eq_true (by kernel_rfl)) (by unfold Func.isWrapper; first | (rw [if_pos (by decide +kernel)]; kernel_rfl) | (rw [if_neg (by decide +kernel)]; exact ⟨rfl, rfl⟩))
    (fun os started H enc _ => patchFailure_lifted os started H enc)
theorem patchFailure_holds : Rows.PatchFailureSaid :=
  patchFailure_over
#print axioms patchFailure_holds
end Go.Proofs.YtpidmgkjnomigaaGreat
