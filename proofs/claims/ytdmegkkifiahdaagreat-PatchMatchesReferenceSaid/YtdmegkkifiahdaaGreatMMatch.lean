import Derived.Test.YtdmegkkifiahdaaGreatMMatW
import Derived.Test.YtdmegkkifiahdaaGreatFrameO
namespace Go.Proofs.YtdmegkkifiahdaaGreat
open Go.ChangeShapes Go.WideShapes Go.ChangeAt Go.RowKit
set_option linter.unusedVariables false
theorem and_2 {p q1 q2 : Bool} (h : p = true) (g : (q1 && q2) = true) : (p && q1 && q2) = true := by cases p <;> cases q1 <;> simp_all
theorem and_4 {p q1 q2 q3 q4 : Bool} (h : p = true) (g : (q1 && q2 && q3 && q4) = true) : (p && q1 && q2 && q3 && q4) = true := by cases p <;> cases q1 <;> simp_all
theorem and_5 {p q1 q2 q3 q4 q5 : Bool} (h : p = true) (g : (q1 && q2 && q3 && q4 && q5) = true) : (p && q1 && q2 && q3 && q4 && q5) = true := by cases p <;> cases q1 <;> simp_all
theorem and_8 {p q1 q2 q3 q4 q5 q6 q7 q8 : Bool} (h : p = true) (g : (q1 && q2 && q3 && q4 && q5 && q6 && q7 && q8) = true) : (p && q1 && q2 && q3 && q4 && q5 && q6 && q7 && q8) = true := by cases p <;> cases q1 <;> simp_all
set_option maxRecDepth 100000 in
theorem patchMatchesReference_lifted (os : Os) (started : os.Started) (H : Type) (enc : TypeId × Value → H) :
  ReturnsInHanded {} Tryz.checked os 3 .any (Rows.patchMatchesReferenceSpec.pre6 enc Tryz.prog Tryz.f3 Rows.patchMatchesReferenceRow.domain false) (Rows.patchMatchesReferenceSpec.post enc Tryz.prog Tryz.f3 false true false false) := by
 refine returnsInHanded_of_change (C := Tryz.checked) own_knob started (by kernel_rfl) Tryz.func3
  (ChangeSpec.witness6 (enc := enc) (C := Tryz.checked) false ⟨#[], #[.slice none 0 0, .slice none 0 0, .slice none 0 0, .slice none 0 0], []⟩ 8 (by kernel_rfl) (by kernel_rfl) (by kernel_rfl) (by kernel_rfl)) ?_
 intro W base args ds gs before hval0 hW hcnd _
 have hval : ∀ (j : Nat) t v, Tryz.f3.params[j]? = some t → args[j]? = some v → Value.okWide Tryz.prog W .any base t v := hval0
 have hW' := hW
 obtain ⟨p, q, hA0, hV, rfl, hfz, hnd⟩ := hW
 have hA : DataW.TrodAll enc Tryz.prog W 0 (fun _ => true) true Tryz.f3.params.toList args.toList ds p := hA0
 rw [Tryz.params3] at hA hval
 obtain ⟨v0, vs0, d0, ds0, p0, q0, hargs, rfl, rfl, h0, r0⟩ := trodAll_cons hA
 obtain ⟨v1, vs1, d1, ds1, p1, q1, rfl, rfl, rfl, h1, r1⟩ := trodAll_cons r0
 obtain ⟨v2, vs2, d2, ds2, p2, q2, rfl, rfl, rfl, h2, r2⟩ := trodAll_cons r1
 obtain ⟨v3, vs3, d3, ds3, p3, q3, rfl, rfl, rfl, h3, r3⟩ := trodAll_cons r2
 obtain ⟨rfl, rfl, rfl⟩ := trodAll_nil r3
 obtain rfl : args = #[v0, v1, v2, v3] := by cases args; simp_all
 obtain ⟨rfl, rfl⟩ := trodVars_none hV
 simp only [List.append_nil] at hW' hA0
 obtain ⟨_, _, _, e0, ha⟩ := open_feats (hval 0 22 v0 rfl rfl) h0
 subst e0
 obtain ⟨_, _, _, e1, hb⟩ := open_feats (hval 1 22 v1 rfl rfl) h1
 subst e1
 obtain ⟨_, _, _, e2, hp⟩ := open_ops (hval 2 23 v2 rfl rfl) h2
 subst e2
 obtain ⟨_, _, _, e3, hq⟩ := open_ops (hval 3 23 v3 rfl rfl) h3
 subst e3
 refine (patchMatchesReference_walk  ha hb hp hq).mono fun e W' ⟨he, hg⟩ => ?_
 subst he
 exact ⟨_, rfl, post_law laid_out (by rw [Tryz.params3]; intro t ht; simp only [List.mem_cons, List.not_mem_nil, or_false] at ht; rcases ht with rfl | rfl | rfl | rfl <;> exact ⟨by kernel_rfl, of_decide_eq_true (by kernel_rfl)⟩) rfl hW' hA0 rfl rfl rfl rfl Tryz.underlying4 hg⟩
set_option maxHeartbeats 8000000 in
set_option maxRecDepth 100000 in
theorem patchMatchesReference_closed : joinedFacts Tryz.pinned.checked.prog 3 Tryz.f3 Rows.patchMatchesReferenceSpec Rows.patchMatchesReferenceRow = true := by
 unfold joinedFacts
 refine and_2 (and_4 (and_8 (and_5 (and_4 ?a ?b) ?c) ?d) ?e) ?f
 case a => as_aux_lemma => kernel_rfl
 case b => as_aux_lemma => kernel_rfl
 case c => as_aux_lemma => kernel_rfl
 case d => as_aux_lemma => kernel_rfl
 case e => as_aux_lemma => kernel_rfl
 case f => as_aux_lemma => kernel_rfl
theorem patchMatchesReference_over : Rows.patchMatchesReferenceRow.holds Tryz.pinned (OpenSpec.ofChange Rows.patchMatchesReferenceSpec) :=
 OpenClaim.holds_of_wide 3 Tryz.f3 rfl rfl rfl rfl rfl rfl rfl ⟨rfl, rfl, rfl, rfl, rfl⟩ rfl rfl rfl rfl rfl (by kernel_rfl) Tryz.func3 patchMatchesReference_closed
  (of_decide_eq_true (by kernel_rfl)) (by unfold Func.isWrapper; first | (rw [if_pos (by decide +kernel)]; kernel_rfl) | (rw [if_neg (by decide +kernel)]; exact ⟨rfl, rfl⟩))
  (fun os started H enc _ => patchMatchesReference_lifted os started H enc)
theorem patchMatchesReference_holds : Rows.PatchMatchesReferenceSaid :=
 patchMatchesReference_over
#print axioms patchMatchesReference_holds
end Go.Proofs.YtdmegkkifiahdaaGreat
