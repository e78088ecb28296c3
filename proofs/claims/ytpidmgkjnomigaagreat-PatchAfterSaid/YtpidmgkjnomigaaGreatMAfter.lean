/- For any list of features, any operations and any uint8: the statement PatchAfter of chapter 17 (a patch that consists of two others leads where the second one leads behind the first one, and fails where one of both does): the law's function returns true and leaves its arguments as they were. No condition. -/
import Derived.Test.YtpidmgkjnomigaaGreatPatHead
import Derived.Test.YtpidmgkjnomigaaGreatPatCase
import Derived.Test.YtpidmgkjnomigaaGreatFrameO
import Derived.Test.YtpidmgkjnomigaaGreatSame7
namespace Go.Proofs.YtpidmgkjnomigaaGreat
open Go.ChangeShapes Go.WideShapes Go.ChangeAt Go.RowKit
attribute [local go_sem] bqOp bqAll bqUpon sqOp sqAll sqUpon ssOp ssAll
attribute [local irreducible] wpQuiet wpBQ wpPlan wsPlan
set_option linter.unusedVariables false
set_option maxRecDepth 100000 in
set_option maxHeartbeats 8000000 in
theorem patchAfter_walk {l : List Feat} {adl : Option Addr} {cdl : Nat} {o : List Opn} {ado : Option Addr} {cdo : Nat} (t : Int) {w : World} (hl : FeatsAt w (.slice adl l.length cdl) l) (ho : OpsAt w (.slice ado o.length cdo) o) (wt : (Lit.int .u8 t).wf = true) :
    Calls Tryz.prog 6 #[.slice adl l.length cdl, .slice ado o.length cdo, .int .u8 t] w fun e w' => e = .returned (.bool true) ∧ Below w.heap.size w w' := by
  have ll : l.length ≤ 9223372036854775807 := by obtain ⟨_, _, _, _, h, _⟩ := hl.form; exact h
  have kl : l.length ≤ cdl := by obtain ⟨a, c, e, _, _, h⟩ := hl.form; cases e; exact h
  obtain ⟨nl, el⟩ : ∃ n, l.length = n := ⟨_, rfl⟩
  rw [el] at hl ll kl ⊢
  have Hl := Lib.hid hl
  have Nl := Lib.hid el
  clear hl el
  have lo : o.length ≤ 9223372036854775807 := by obtain ⟨_, _, _, _, h, _⟩ := ho.form; exact h
  have ko : o.length ≤ cdo := by obtain ⟨a, c, e, _, _, h⟩ := ho.form; cases e; exact h
  obtain ⟨no, eo⟩ : ∃ n, o.length = n := ⟨_, rfl⟩
  rw [eo] at ho lo ko ⊢
  have Ho := Lib.hid ho
  have No := Lib.hid eo
  clear ho eo
  have hC0 := Below.refl w.heap.size w
  obtain ⟨w0, rfl⟩ : ∃ w0 : World, w0 = w := ⟨_, rfl⟩
  go_enter Tryz.func6, Tryz.ntmps6
  go_wp2_with fail
  (with_reducible refine (head17_true _).mono ?_)
  rintro e w1 ⟨rfl, hb1⟩
  have hC1 := below_step hC0 hb1
  go_wp2_with fail
  obtain ⟨vVlo, hvVlo⟩ : ∃ v, decide (FewO l o) = v := ⟨_, rfl⟩
  have HVlo := Lib.hid hvVlo
  clear hvVlo
  (with_reducible refine (q17Few_any l o _ _ _ (Hl.out.later hC1) (Ho.out.later hC1) HVlo.out).mono ?_)
  rintro e w2 ⟨rfl, hb2⟩
  have hC2 := below_step hC1 hb2
  cases vVlo
  · go_wp2_with fail
    go_returns
    exact ⟨rfl, hC2⟩
  have FW := of_decide_eq_true HVlo.out
  unfold FewO at FW
  have no12 : no ≤ 12 := by have h1 := No.out; omega
  clear FW
  simp only [Lit.wf, IntKind.min, IntKind.max, IntKind.bits, IntKind.signed] at wt
  have t0 : 0 ≤ t ∧ t ≤ 255 := by simp at wt; omega
  obtain ⟨tn, rfl⟩ : ∃ tn : Nat, t = (tn : Int) := ⟨t.toNat, by omega⟩
  obtain ⟨k, hk⟩ : ∃ k : Nat, tn % (no + 1) = k := ⟨_, rfl⟩
  have hkn : k ≤ no := by have := Nat.mod_lt tn (show 0 < no + 1 by omega); omega
  have m1 : IntKind.i64.wrap ((no : Int) + 1) = (no : Int) + 1 := IntWalk.i64_in _ (by omega)
  have m2 : Int.tmod (tn : Int) ((no : Int) + 1) = (k : Int) := by rw [← hk]; have h := Int.ofNat_tmod tn (no + 1); simpa using h.symm
  have m3 : IntKind.i64.wrap (tn : Int) = (tn : Int) := IntWalk.i64_in _ (by omega)
  have m4 : IntKind.i64.wrap (k : Int) = (k : Int) := IntWalk.i64_in _ (by omega)
  clear hk wt
  go_wp2_with fail
  by_cases hok : PatchOk l o
  rotate_left
  · have ha := (apply_no hok).1
    (with_reducible refine (paApply_any l o _ _ _ (Hl.out.later hC2) (Ho.out.later hC2) ha).mono ?_)
    rintro e w3 ⟨ad3, n3, c3, hl3, rfl, hf3, hb3⟩
    have hC3 := below_step hC2 hb3
    obtain rfl : 0 = n3 := hl3
    clear hf3
    go_wp2_with fail
    go_returns
    exact ⟨rfl, hC3⟩
  rcases after_cases hok k (by have := No.out; omega) with ⟨i, er, he, hi, h1, h2⟩ | ⟨x, j, er, he, hj, h1, h2, h3⟩ | ⟨x, y, h1, h2, h3⟩
  · skip
    have der0 : (er == 0) = false := by rcases he with rfl | rfl | rfl | rfl <;> rfl
    have der1 : (er == 1) = false := by rcases he with rfl | rfl | rfl | rfl <;> rfl
    have fer : (er != 0) = true := by rcases he with rfl | rfl | rfl | rfl <;> rfl
    have g0 : (0 : Int) ≤ i := by omega
    have g1 : (i : Int) < k := by omega
    clear he hok
    (with_reducible refine (paApply_any l o _ _ _ (Hl.out.later hC2) (Ho.out.later hC2) h1).mono ?_)
    rintro e w3 ⟨ad3, n3, c3, hl3, rfl, hf3, hb3⟩
    have hC3 := below_step hC2 hb3
    obtain rfl : 0 = n3 := hl3
    clear hf3
    go_wp2_with fail
    (with_reducible refine (paApply_any l (o.take k) _ _ _ (Hl.out.later hC3) (ops_take (Ho.out.later hC3) No.out hkn) h2).mono ?_)
    rintro e w4 ⟨ad4, n4, c4, hl4, rfl, hf4, hb4⟩
    have hC4 := below_step hC3 hb4
    obtain rfl : 0 = n4 := hl4
    clear hf4
    go_wp2_with fail
    go_returns
    exact ⟨rfl, hC4⟩
  · skip
    have der0 : (er == 0) = false := by rcases he with rfl | rfl | rfl | rfl <;> rfl
    have der1 : (er == 1) = false := by rcases he with rfl | rfl | rfl | rfl <;> rfl
    have fer : (er != 0) = true := by rcases he with rfl | rfl | rfl | rfl <;> rfl
    have g0 : (0 : Int) ≤ j := by omega
    have hjb : (j : Int) ≤ 100000 := by have := No.out; omega
    have gw : IntKind.i64.wrap ((k : Int) + j) = ((k + j : Nat) : Int) := by rw [IntWalk.i64_in _ (by omega)]; omega
    clear hj
    have HX := Lib.hid h2
    have HE := Lib.hid h3
    clear he hok h2 h3
    by_cases hck : cdo = k
    · obtain rfl : k = cdo := hck.symm
      (with_reducible refine (paApply_any l o _ _ _ (Hl.out.later hC2) (Ho.out.later hC2) h1).mono ?_)
      rintro e w3 ⟨ad3, n3, c3, hl3, rfl, hf3, hb3⟩
      have hC3 := below_step hC2 hb3
      obtain rfl : 0 = n3 := hl3
      clear hf3
      go_wp2_with fail
      (with_reducible refine (paApply_any l (o.take k) _ _ _ (Hl.out.later hC3) (ops_take (Ho.out.later hC3) No.out hkn) HX.out).mono ?_)
      rintro e w4 ⟨ad4, n4, c4, hl4, rfl, hf4, hb4⟩
      have hC4 := below_step hC3 hb4
      have F4 := Lib.hid hf4
      have L4 := Lib.hid hl4
      clear hf4 hl4
      go_wp2_with fail
      (with_reducible refine (paApply_any x (o.drop k) _ _ _ (F4.out.later (Below.refl _ w4)) (ops_fromA (Ho.out.later hC4) No.out hkn) HE.out).mono ?_)
      rintro e w5 ⟨ad5, n5, c5, hl5, rfl, hf5, hb5⟩
      have hC5 := below_step hC4 hb5
      obtain rfl : 0 = n5 := hl5
      clear hf5
      go_wp2_with fail
      go_returns
      exact ⟨rfl, hC5⟩
    · skip
      (with_reducible refine (paApply_any l o _ _ _ (Hl.out.later hC2) (Ho.out.later hC2) h1).mono ?_)
      rintro e w3 ⟨ad3, n3, c3, hl3, rfl, hf3, hb3⟩
      have hC3 := below_step hC2 hb3
      obtain rfl : 0 = n3 := hl3
      clear hf3
      go_wp2_with fail
      (with_reducible refine (paApply_any l (o.take k) _ _ _ (Hl.out.later hC3) (ops_take (Ho.out.later hC3) No.out hkn) HX.out).mono ?_)
      rintro e w4 ⟨ad4, n4, c4, hl4, rfl, hf4, hb4⟩
      have hC4 := below_step hC3 hb4
      have F4 := Lib.hid hf4
      have L4 := Lib.hid hl4
      clear hf4 hl4
      go_wp2_with fail
      (with_reducible refine (paApply_any x (o.drop k) _ _ _ (F4.out.later (Below.refl _ w4)) (ops_fromB (Ho.out.later hC4) No.out hkn hck) HE.out).mono ?_)
      rintro e w5 ⟨ad5, n5, c5, hl5, rfl, hf5, hb5⟩
      have hC5 := below_step hC4 hb5
      obtain rfl : 0 = n5 := hl5
      clear hf5
      go_wp2_with fail
      go_returns
      exact ⟨rfl, hC5⟩
  · have HA := Lib.hid h1
    have HX := Lib.hid h2
    have HE := Lib.hid h3
    clear h1 h2 h3 hok
    by_cases hck : cdo = k
    · obtain rfl : k = cdo := hck.symm
      (with_reducible refine (paApply_any l o _ _ _ (Hl.out.later hC2) (Ho.out.later hC2) HA.out).mono ?_)
      rintro e w3 ⟨ad3, n3, c3, hl3, rfl, hf3, hb3⟩
      have hC3 := below_step hC2 hb3
      have F3 := Lib.hid hf3
      have L3 := Lib.hid hl3
      clear hf3 hl3
      go_wp2_with fail
      (with_reducible refine (paApply_any l (o.take k) _ _ _ (Hl.out.later hC3) (ops_take (Ho.out.later hC3) No.out hkn) HX.out).mono ?_)
      rintro e w4 ⟨ad4, n4, c4, hl4, rfl, hf4, hb4⟩
      have hC4 := below_step hC3 hb4
      have F4 := Lib.hid hf4
      have L4 := Lib.hid hl4
      clear hf4 hl4
      go_wp2_with fail
      (with_reducible refine (paApply_any x (o.drop k) _ _ _ (F4.out.later (Below.refl _ w4)) (ops_fromA (Ho.out.later hC4) No.out hkn) HE.out).mono ?_)
      rintro e w5 ⟨ad5, n5, c5, hl5, rfl, hf5, hb5⟩
      have hC5 := below_step hC4 hb5
      have F5 := Lib.hid hf5
      have L5 := Lib.hid hl5
      clear hf5 hl5
      go_wp2_with fail
      (with_reducible refine (q07SameList_any y y _ _ _ (F3.out.later (below_step hb4 hb5)) (F5.out.later (Below.refl _ w5)) (decide_eq_true rfl)).mono ?_)
      rintro e w6 ⟨rfl, hb6⟩
      have hC6 := below_step hC5 hb6
      go_wp2_with fail
      go_returns
      exact ⟨rfl, hC6⟩
    · skip
      (with_reducible refine (paApply_any l o _ _ _ (Hl.out.later hC2) (Ho.out.later hC2) HA.out).mono ?_)
      rintro e w3 ⟨ad3, n3, c3, hl3, rfl, hf3, hb3⟩
      have hC3 := below_step hC2 hb3
      have F3 := Lib.hid hf3
      have L3 := Lib.hid hl3
      clear hf3 hl3
      go_wp2_with fail
      (with_reducible refine (paApply_any l (o.take k) _ _ _ (Hl.out.later hC3) (ops_take (Ho.out.later hC3) No.out hkn) HX.out).mono ?_)
      rintro e w4 ⟨ad4, n4, c4, hl4, rfl, hf4, hb4⟩
      have hC4 := below_step hC3 hb4
      have F4 := Lib.hid hf4
      have L4 := Lib.hid hl4
      clear hf4 hl4
      go_wp2_with fail
      (with_reducible refine (paApply_any x (o.drop k) _ _ _ (F4.out.later (Below.refl _ w4)) (ops_fromB (Ho.out.later hC4) No.out hkn hck) HE.out).mono ?_)
      rintro e w5 ⟨ad5, n5, c5, hl5, rfl, hf5, hb5⟩
      have hC5 := below_step hC4 hb5
      have F5 := Lib.hid hf5
      have L5 := Lib.hid hl5
      clear hf5 hl5
      go_wp2_with fail
      (with_reducible refine (q07SameList_any y y _ _ _ (F3.out.later (below_step hb4 hb5)) (F5.out.later (Below.refl _ w5)) (decide_eq_true rfl)).mono ?_)
      rintro e w6 ⟨rfl, hb6⟩
      have hC6 := below_step hC5 hb6
      go_wp2_with fail
      go_returns
      exact ⟨rfl, hC6⟩
set_option maxRecDepth 100000 in
theorem patchAfter_lifted (os : Os) (started : os.Started) (H : Type) (enc : TypeId × Value → H) :
    ReturnsInHanded {} Tryz.checked os 6 .any (Rows.patchAfterSpec.pre6 enc Tryz.prog Tryz.f6 Rows.patchAfterRow.domain false) (Rows.patchAfterSpec.post enc Tryz.prog Tryz.f6 false true false false) := by
  refine returnsInHanded_of_change (C := Tryz.checked) own_knob started (by kernel_rfl) Tryz.func6
    (ChangeSpec.witness6 (enc := enc) (C := Tryz.checked) false ⟨#[], #[.slice none 0 0, .slice none 0 0, .int .u8 0], []⟩ 8 (by kernel_rfl) (by kernel_rfl) (by kernel_rfl) (by kernel_rfl)) ?_
  intro W base args ds gs before hval0 hW hcnd _
  have hval : ∀ (j : Nat) t v, Tryz.f6.params[j]? = some t → args[j]? = some v → Value.okWide Tryz.prog W .any base t v := hval0
  have hW' := hW
  obtain ⟨p, q, hA0, hV, rfl, hfz, hnd⟩ := hW
  have hA : DataW.TrodAll enc Tryz.prog W 0 (fun _ => true) true Tryz.f6.params.toList args.toList ds p := hA0
  rw [Tryz.params6] at hA hval
  obtain ⟨v0, vs0, d0, ds0, p0, q0, hargs, rfl, rfl, h0, r0⟩ := trodAll_cons hA
  obtain ⟨v1, vs1, d1, ds1, p1, q1, rfl, rfl, rfl, h1, r1⟩ := trodAll_cons r0
  obtain ⟨v2, vs2, d2, ds2, p2, q2, rfl, rfl, rfl, h2, r2⟩ := trodAll_cons r1
  obtain ⟨rfl, rfl, rfl⟩ := trodAll_nil r2
  obtain rfl : args = #[v0, v1, v2] := by cases args; simp_all
  obtain ⟨rfl, rfl⟩ := trodVars_none hV
  simp only [List.append_nil] at hW' hA0
  obtain ⟨_, _, _, e0, hl⟩ := open_feats (hval 0 22 v0 rfl rfl) h0
  subst e0
  obtain ⟨_, _, _, e1, ho⟩ := open_ops (hval 1 23 v1 rfl rfl) h1
  subst e1
  obtain ⟨t, e2, _, _, wt⟩ := open_int Tryz.underlying5 (hval 2 5 v2 rfl rfl) h2
  subst e2
  refine (patchAfter_walk t hl ho wt).mono fun e W' ⟨he, hg⟩ => ?_
  subst he
  exact ⟨_, rfl, post_law laid_out (by rw [Tryz.params6]; intro t ht; simp only [List.mem_cons, List.not_mem_nil, or_false] at ht; rcases ht with rfl | rfl | rfl <;> exact ⟨by kernel_rfl, of_decide_eq_true (by kernel_rfl)⟩) rfl hW' hA0 rfl rfl rfl rfl Tryz.underlying4 hg⟩
theorem patchAfter_over : Rows.patchAfterRow.holds Tryz.pinned (OpenSpec.ofChange Rows.patchAfterSpec) :=
  OpenClaim.holds_of_wide 6 Tryz.f6 rfl rfl rfl rfl rfl rfl rfl ⟨rfl, rfl, rfl, rfl, rfl⟩ rfl rfl rfl rfl rfl (by kernel_rfl) Tryz.func6 (by kernel_rfl)
    (of_decide_eq_true (by kernel_rfl)) (by unfold Func.isWrapper; first | (rw [if_pos (by decide +kernel)]; kernel_rfl) | (rw [if_neg (by decide +kernel)]; exact ⟨rfl, rfl⟩))
    (fun os started H enc _ => patchAfter_lifted os started H enc)
theorem patchAfter_holds : Rows.PatchAfterSaid :=
  patchAfter_over
#print axioms patchAfter_holds
end Go.Proofs.YtpidmgkjnomigaaGreat
