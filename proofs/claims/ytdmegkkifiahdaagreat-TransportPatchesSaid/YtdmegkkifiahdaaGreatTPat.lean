/- For any datum, books, features and operations: the statement TransportPatches of chapter 20 (to carry a list and then the patch on it leads to what the patched list is carried to, exactly): the law's function returns true and leaves its arguments as they were. No condition. -/
import Derived.Test.YtdmegkkifiahdaaGreatTPatW
namespace Go.Proofs.YtdmegkkifiahdaaGreat
open Go.ChangeShapes Go.WideShapes Go.ChangeAt Go.RowKit
set_option linter.unusedVariables false
set_option maxRecDepth 100000 in
theorem transportPatches_lifted (os : Os) (started : os.Started) (H : Type) (enc : TypeId × Value → H) :
    ReturnsInHanded {} Tryz.checked os 8 .any (Rows.transportPatchesSpec.pre6 enc Tryz.prog Tryz.f8 Rows.transportPatchesRow.domain false) (Rows.transportPatchesSpec.post enc Tryz.prog Tryz.f8 false true false false) := by
  refine returnsInHanded_of_change (C := Tryz.checked) own_knob started (by kernel_rfl) Tryz.func8
    (ChangeSpec.witness6 (enc := enc) (C := Tryz.checked) false ⟨#[], #[.agg #[.int .i64 0, .int .i64 0, .int .i64 0, .int .i64 0, .int .i64 0, .int .i64 0, .int .i64 0], .agg #[.int .i64 0, .slice none 0 0], .agg #[.int .i64 0, .slice none 0 0], .slice none 0 0, .slice none 0 0], []⟩ 8 (by kernel_rfl) (by kernel_rfl) (by kernel_rfl) (by kernel_rfl)) ?_
  intro W base args ds gs before hval0 hW hcnd _
  have hval : ∀ (j : Nat) t v, Tryz.f8.params[j]? = some t → args[j]? = some v → Value.okWide Tryz.prog W .any base t v := hval0
  have hW' := hW
  obtain ⟨p, q, hA0, hV, rfl, hfz, hnd⟩ := hW
  have hA : DataW.TrodAll enc Tryz.prog W 0 (fun _ => true) true Tryz.f8.params.toList args.toList ds p := hA0
  rw [Tryz.params8] at hA hval
  obtain ⟨v0, vs0, d0, ds0, p0, q0, hargs, rfl, rfl, h0, r0⟩ := trodAll_cons hA
  obtain ⟨v1, vs1, d1, ds1, p1, q1, rfl, rfl, rfl, h1, r1⟩ := trodAll_cons r0
  obtain ⟨v2, vs2, d2, ds2, p2, q2, rfl, rfl, rfl, h2, r2⟩ := trodAll_cons r1
  obtain ⟨v3, vs3, d3, ds3, p3, q3, rfl, rfl, rfl, h3, r3⟩ := trodAll_cons r2
  obtain ⟨v4, vs4, d4, ds4, p4, q4, rfl, rfl, rfl, h4, r4⟩ := trodAll_cons r3
  obtain ⟨rfl, rfl, rfl⟩ := trodAll_nil r4
  obtain rfl : args = #[v0, v1, v2, v3, v4] := by cases args; simp_all
  obtain ⟨rfl, rfl⟩ := trodVars_none hV
  simp only [List.append_nil] at hW' hA0
  obtain ⟨m, e0⟩ := open_dat (hval 0 52 v0 rfl rfl) h0
  subst e0
  obtain ⟨_, _, _, e1, ha⟩ := open_book (hval 1 72 v1 rfl rfl) h1
  subst e1
  obtain ⟨_, _, _, e2, hb⟩ := open_book (hval 2 72 v2 rfl rfl) h2
  subst e2
  obtain ⟨_, _, _, e3, hl⟩ := open_feats (hval 3 22 v3 rfl rfl) h3
  subst e3
  obtain ⟨_, _, _, e4, ho⟩ := open_ops (hval 4 23 v4 rfl rfl) h4
  subst e4
  refine (transportPatches_walk m ha hb hl ho).mono fun e W' ⟨he, hg⟩ => ?_
  subst he
  exact ⟨_, rfl, post_law laid_out (by rw [Tryz.params8]; intro t ht; simp only [List.mem_cons, List.not_mem_nil, or_false] at ht; rcases ht with rfl | rfl | rfl | rfl | rfl <;> exact ⟨by kernel_rfl, of_decide_eq_true (by kernel_rfl)⟩) rfl hW' hA0 rfl rfl rfl rfl Tryz.underlying4 hg⟩
set_option maxHeartbeats 8000000 in
set_option maxRecDepth 100000 in
theorem transportPatches_closed : joinedFacts Tryz.pinned.checked.prog 8 Tryz.f8 Rows.transportPatchesSpec Rows.transportPatchesRow = true := by
  unfold joinedFacts
  refine and_2 (and_4 (and_8 (and_5 (and_4 ?a ?b) ?c) ?d) ?e) ?f
  case a => as_aux_lemma => kernel_rfl
  case b => as_aux_lemma => kernel_rfl
  case c => as_aux_lemma => kernel_rfl
  case d => as_aux_lemma => kernel_rfl
  case e => as_aux_lemma => kernel_rfl
  case f => as_aux_lemma => kernel_rfl
theorem transportPatches_over : Rows.transportPatchesRow.holds Tryz.pinned (OpenSpec.ofChange Rows.transportPatchesSpec) :=
  OpenClaim.holds_of_wide 8 Tryz.f8 rfl rfl rfl rfl rfl rfl rfl ⟨rfl, rfl, rfl, rfl, rfl⟩ rfl rfl rfl rfl rfl (by kernel_rfl) Tryz.func8 transportPatches_closed
    (of_decide_eq_true (by kernel_rfl)) (by unfold Func.isWrapper; first | (rw [if_pos (by decide +kernel)]; kernel_rfl) | (rw [if_neg (by decide +kernel)]; exact ⟨rfl, rfl⟩))
    (fun os started H enc _ => transportPatches_lifted os started H enc)
theorem transportPatches_holds : Rows.TransportPatchesSaid :=
  transportPatches_over
#print axioms transportPatches_holds
end Go.Proofs.YtdmegkkifiahdaaGreat
