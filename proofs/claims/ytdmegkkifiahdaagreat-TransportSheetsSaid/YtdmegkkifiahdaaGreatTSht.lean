/- For any datum, books, sheet and numbers: the statement TransportSheets of chapter 20 (a carried sheet is valid, with the same IDs; and what two sheets of the same features are carried to differs in no feature): the law's function returns true and leaves its arguments as they were. No condition. -/
import Derived.Test.YtdmegkkifiahdaaGreatTShtW
namespace Go.Proofs.YtdmegkkifiahdaaGreat
open Go.ChangeShapes Go.WideShapes Go.ChangeAt Go.RowKit
set_option linter.unusedVariables false
set_option maxRecDepth 100000 in
theorem transportSheets_lifted (os : Os) (started : os.Started) (H : Type) (enc : TypeId × Value → H) :
    ReturnsInHanded {} Tryz.checked os 7 .any (Rows.transportSheetsSpec.pre6 enc Tryz.prog Tryz.f7 Rows.transportSheetsRow.domain false) (Rows.transportSheetsSpec.post enc Tryz.prog Tryz.f7 false true false false) := by
  refine returnsInHanded_of_change (C := Tryz.checked) own_knob started (by kernel_rfl) Tryz.func7
    (ChangeSpec.witness6 (enc := enc) (C := Tryz.checked) false ⟨#[], #[.agg #[.int .i64 0, .int .i64 0, .int .i64 0, .int .i64 0, .int .i64 0, .int .i64 0, .int .i64 0], .agg #[.int .i64 0, .slice none 0 0], .agg #[.int .i64 0, .slice none 0 0], .agg #[.int .i64 0, .int .i64 0, .int .i64 0, .int .i64 0, .int .i64 0, .int .i64 0, .int .i64 0, .int .i64 0, .int .i64 0, .int .i64 0, .int .i64 0, .slice none 0 0, .slice none 0 0], .int .i64 0, .int .i64 0, .int .i64 0], []⟩ 8 (by kernel_rfl) (by kernel_rfl) (by kernel_rfl) (by kernel_rfl)) ?_
  intro W base args ds gs before hval0 hW hcnd _
  have hval : ∀ (j : Nat) t v, Tryz.f7.params[j]? = some t → args[j]? = some v → Value.okWide Tryz.prog W .any base t v := hval0
  have hW' := hW
  obtain ⟨p, q, hA0, hV, rfl, hfz, hnd⟩ := hW
  have hA : DataW.TrodAll enc Tryz.prog W 0 (fun _ => true) true Tryz.f7.params.toList args.toList ds p := hA0
  rw [Tryz.params7] at hA hval
  obtain ⟨v0, vs0, d0, ds0, p0, q0, hargs, rfl, rfl, h0, r0⟩ := trodAll_cons hA
  obtain ⟨v1, vs1, d1, ds1, p1, q1, rfl, rfl, rfl, h1, r1⟩ := trodAll_cons r0
  obtain ⟨v2, vs2, d2, ds2, p2, q2, rfl, rfl, rfl, h2, r2⟩ := trodAll_cons r1
  obtain ⟨v3, vs3, d3, ds3, p3, q3, rfl, rfl, rfl, h3, r3⟩ := trodAll_cons r2
  obtain ⟨v4, vs4, d4, ds4, p4, q4, rfl, rfl, rfl, h4, r4⟩ := trodAll_cons r3
  obtain ⟨v5, vs5, d5, ds5, p5, q5, rfl, rfl, rfl, h5, r5⟩ := trodAll_cons r4
  obtain ⟨v6, vs6, d6, ds6, p6, q6, rfl, rfl, rfl, h6, r6⟩ := trodAll_cons r5
  obtain ⟨rfl, rfl, rfl⟩ := trodAll_nil r6
  obtain rfl : args = #[v0, v1, v2, v3, v4, v5, v6] := by cases args; simp_all
  obtain ⟨rfl, rfl⟩ := trodVars_none hV
  simp only [List.append_nil] at hW' hA0
  obtain ⟨m, e0⟩ := open_dat (hval 0 52 v0 rfl rfl) h0
  subst e0
  obtain ⟨_, _, _, e1, ha⟩ := open_book (hval 1 72 v1 rfl rfl) h1
  subst e1
  obtain ⟨_, _, _, e2, hb⟩ := open_book (hval 2 72 v2 rfl rfl) h2
  subst e2
  obtain ⟨s, _, _, _, _, e3, hds, hfs, ws⟩ := open_sheet (hval 3 54 v3 rfl rfl) h3
  subst e3
  obtain ⟨chart, e4, _, _, wchart⟩ := open_int Tryz.underlying3 (hval 4 3 v4 rfl rfl) h4
  subst e4
  obtain ⟨scale, e5, _, _, wscale⟩ := open_int Tryz.underlying3 (hval 5 3 v5 rfl rfl) h5
  subst e5
  obtain ⟨edition, e6, _, _, wedition⟩ := open_int Tryz.underlying3 (hval 6 3 v6 rfl rfl) h6
  subst e6
  refine (transportSheets_walk m chart scale edition ha hb hds hfs ws wchart wscale wedition).mono fun e W' ⟨he, hg⟩ => ?_
  subst he
  exact ⟨_, rfl, post_law laid_out (by rw [Tryz.params7]; intro t ht; simp only [List.mem_cons, List.not_mem_nil, or_false] at ht; rcases ht with rfl | rfl | rfl | rfl | rfl | rfl | rfl <;> exact ⟨by kernel_rfl, of_decide_eq_true (by kernel_rfl)⟩) rfl hW' hA0 rfl rfl rfl rfl Tryz.underlying4 hg⟩
set_option maxHeartbeats 8000000 in
set_option maxRecDepth 100000 in
theorem transportSheets_closed : joinedFacts Tryz.pinned.checked.prog 7 Tryz.f7 Rows.transportSheetsSpec Rows.transportSheetsRow = true := by
  unfold joinedFacts
  refine and_2 (and_4 (and_8 (and_5 (and_4 ?a ?b) ?c) ?d) ?e) ?f
  case a => as_aux_lemma => kernel_rfl
  case b => as_aux_lemma => kernel_rfl
  case c => as_aux_lemma => kernel_rfl
  case d => as_aux_lemma => kernel_rfl
  case e => as_aux_lemma => kernel_rfl
  case f => as_aux_lemma => kernel_rfl
theorem transportSheets_over : Rows.transportSheetsRow.holds Tryz.pinned (OpenSpec.ofChange Rows.transportSheetsSpec) :=
  OpenClaim.holds_of_wide 7 Tryz.f7 rfl rfl rfl rfl rfl rfl rfl ⟨rfl, rfl, rfl, rfl, rfl⟩ rfl rfl rfl rfl rfl (by kernel_rfl) Tryz.func7 transportSheets_closed
    (of_decide_eq_true (by kernel_rfl)) (by unfold Func.isWrapper; first | (rw [if_pos (by decide +kernel)]; kernel_rfl) | (rw [if_neg (by decide +kernel)]; exact ⟨rfl, rfl⟩))
    (fun os started H enc _ => transportSheets_lifted os started H enc)
theorem transportSheets_holds : Rows.TransportSheetsSaid :=
  transportSheets_over
#print axioms transportSheets_holds
end Go.Proofs.YtdmegkkifiahdaaGreat
