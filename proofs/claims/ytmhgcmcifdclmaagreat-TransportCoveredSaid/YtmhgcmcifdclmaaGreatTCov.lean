/- For any datum, books, feature and places: the statement TransportCovered of chapter 20 (if a feature covers a place, the carried feature covers all places that this one may be by the datum): the law's function returns true and leaves its arguments as they were. No condition. -/
import Derived.Test.YtmhgcmcifdclmaaGreatTCovW
namespace Go.Proofs.YtmhgcmcifdclmaaGreat
open Go.ChangeShapes Go.WideShapes Go.ChangeAt Go.RowKit
set_option linter.unusedVariables false
set_option maxRecDepth 100000 in
theorem transportCovered_lifted (os : Os) (started : os.Started) (H : Type) (enc : TypeId × Value → H) :
    ReturnsInHanded {} Tryz.checked os 5 .any (Rows.transportCoveredSpec.pre6 enc Tryz.prog Tryz.f5 Rows.transportCoveredRow.domain false) (Rows.transportCoveredSpec.post enc Tryz.prog Tryz.f5 false true false false) := by
  refine returnsInHanded_of_change (C := Tryz.checked) own_knob started (by kernel_rfl) Tryz.func5
    (ChangeSpec.witness6 (enc := enc) (C := Tryz.checked) false ⟨#[], #[.agg #[.int .i64 0, .int .i64 0, .int .i64 0, .int .i64 0, .int .i64 0, .int .i64 0, .int .i64 0], .agg #[.int .i64 0, .slice none 0 0], .agg #[.int .i64 0, .slice none 0 0], .agg #[.int .i64 0, .int .i64 0, .int .i64 0, .int .i64 0, .int .i64 0, .slice none 0 0, .int .i64 0, .int .i64 0, .slice none 0 0], .agg #[.int .i64 0, .int .i64 0], .agg #[.int .i64 0, .int .i64 0]], []⟩ 8 (by kernel_rfl) (by kernel_rfl) (by kernel_rfl) (by kernel_rfl)) ?_
  intro W base args ds gs before hval0 hW hcnd _
  have hval : ∀ (j : Nat) t v, Tryz.f5.params[j]? = some t → args[j]? = some v → Value.okWide Tryz.prog W .any base t v := hval0
  have hW' := hW
  obtain ⟨p, q, hA0, hV, rfl, hfz, hnd⟩ := hW
  have hA : DataW.TrodAll enc Tryz.prog W 0 (fun _ => true) true Tryz.f5.params.toList args.toList ds p := hA0
  rw [Tryz.params5] at hA hval
  obtain ⟨v0, vs0, d0, ds0, p0, q0, hargs, rfl, rfl, h0, r0⟩ := trodAll_cons hA
  obtain ⟨v1, vs1, d1, ds1, p1, q1, rfl, rfl, rfl, h1, r1⟩ := trodAll_cons r0
  obtain ⟨v2, vs2, d2, ds2, p2, q2, rfl, rfl, rfl, h2, r2⟩ := trodAll_cons r1
  obtain ⟨v3, vs3, d3, ds3, p3, q3, rfl, rfl, rfl, h3, r3⟩ := trodAll_cons r2
  obtain ⟨v4, vs4, d4, ds4, p4, q4, rfl, rfl, rfl, h4, r4⟩ := trodAll_cons r3
  obtain ⟨v5, vs5, d5, ds5, p5, q5, rfl, rfl, rfl, h5, r5⟩ := trodAll_cons r4
  obtain ⟨rfl, rfl, rfl⟩ := trodAll_nil r5
  obtain rfl : args = #[v0, v1, v2, v3, v4, v5] := by cases args; simp_all
  obtain ⟨rfl, rfl⟩ := trodVars_none hV
  simp only [List.append_nil] at hW' hA0
  obtain ⟨m, e0⟩ := open_dat (hval 0 23 v0 rfl rfl) h0
  subst e0
  obtain ⟨_, _, _, e1, ha⟩ := open_book (hval 1 26 v1 rfl rfl) h1
  subst e1
  obtain ⟨_, _, _, e2, hb⟩ := open_book (hval 2 26 v2 rfl rfl) h2
  subst e2
  obtain ⟨_, _, _, _, _, e3, hf⟩ := open_feat (hval 3 32 v3 rfl rfl) h3
  subst e3
  obtain ⟨px, py, e4, _, _⟩ := open_point (hval 4 28 v4 rfl rfl) h4
  subst e4
  obtain ⟨qx, qy, e5, _, _⟩ := open_point (hval 5 28 v5 rfl rfl) h5
  subst e5
  refine (transportCovered_walk m px py qx qy ha hb hf).mono fun e W' ⟨he, hg⟩ => ?_
  subst he
  exact ⟨_, rfl, post_law laid_out (by rw [Tryz.params5]; intro t ht; simp only [List.mem_cons, List.not_mem_nil, or_false] at ht; rcases ht with rfl | rfl | rfl | rfl | rfl | rfl <;> exact ⟨by kernel_rfl, of_decide_eq_true (by kernel_rfl)⟩) rfl hW' hA0 rfl rfl rfl rfl Tryz.underlying4 hg⟩
set_option maxHeartbeats 8000000 in
set_option maxRecDepth 100000 in
theorem transportCovered_closed : joinedFacts Tryz.pinned.checked.prog 5 Tryz.f5 Rows.transportCoveredSpec Rows.transportCoveredRow = true := by
  unfold joinedFacts
  refine and_2 (and_4 (and_8 (and_5 (and_4 ?a ?b) ?c) ?d) ?e) ?f
  case a => as_aux_lemma => kernel_rfl
  case b => as_aux_lemma => kernel_rfl
  case c => as_aux_lemma => kernel_rfl
  case d => as_aux_lemma => kernel_rfl
  case e => as_aux_lemma => kernel_rfl
  case f => as_aux_lemma => kernel_rfl
theorem transportCovered_over : Rows.transportCoveredRow.holds Tryz.pinned (OpenSpec.ofChange Rows.transportCoveredSpec) :=
  OpenClaim.holds_of_wide 5 Tryz.f5 rfl rfl rfl rfl rfl rfl rfl ⟨rfl, rfl, rfl, rfl, rfl⟩ rfl rfl rfl rfl rfl (by kernel_rfl) Tryz.func5 transportCovered_closed
    (of_decide_eq_true (by kernel_rfl)) (by unfold Func.isWrapper; first | (rw [if_pos (by decide +kernel)]; kernel_rfl) | (rw [if_neg (by decide +kernel)]; exact ⟨rfl, rfl⟩))
    (fun os started H enc _ => transportCovered_lifted os started H enc)
theorem transportCovered_holds : Rows.TransportCoveredSaid :=
  transportCovered_over
#print axioms transportCovered_holds
end Go.Proofs.YtmhgcmcifdclmaaGreat
