/- For any list of features and any two patches: the statement PatchExchange of chapter 17 (if no operation of a patch cannot be exchanged with one of another patch, and the one is possible behind the other, they lead to the same in both orders): the law's function returns true and leaves its arguments as they were. No condition. -/
import Derived.Test.YtpidmgkjnomigaaGreatPatHead
import Derived.Test.YtpidmgkjnomigaaGreatPatCase
import Derived.Test.YtpidmgkjnomigaaGreatFrameO
import Derived.Test.YtpidmgkjnomigaaGreatSame7
namespace Go.Proofs.YtpidmgkjnomigaaGreat
open Go.ChangeShapes Go.WideShapes Go.ChangeAt Go.RowKit
attribute [local go_sem] bqOp bqAll bqUpon sqOp sqAll sqUpon ssOp ssAll
attribute [local irreducible] wpQuiet wpBQ wpPlan wsPlan
set_option linter.unusedVariables false
set_option maxRecDepth 100000 in
set_option maxHeartbeats 8000000 in
theorem patchExchange_walk {l : List Feat} {adl : Option Addr} {cdl : Nat} {a : List Opn} {ada : Option Addr} {cda : Nat} {b : List Opn} {adb : Option Addr} {cdb : Nat} {w : World} (hl : FeatsAt w (.slice adl l.length cdl) l) (ha : OpsAt w (.slice ada a.length cda) a) (hb : OpsAt w (.slice adb b.length cdb) b) :
    Calls Tryz.prog 4 #[.slice adl l.length cdl, .slice ada a.length cda, .slice adb b.length cdb] w fun e w' => e = .returned (.bool true) ∧ Below w.heap.size w w' := by
  have ll : l.length ≤ 9223372036854775807 := by obtain ⟨_, _, _, _, h, _⟩ := hl.form; exact h
  have kl : l.length ≤ cdl := by obtain ⟨a, c, e, _, _, h⟩ := hl.form; cases e; exact h
  obtain ⟨nl, el⟩ : ∃ n, l.length = n := ⟨_, rfl⟩
  rw [el] at hl ll kl ⊢
  have Hl := Lib.hid hl
  have Nl := Lib.hid el
  clear hl el
  have la : a.length ≤ 9223372036854775807 := by obtain ⟨_, _, _, _, h, _⟩ := ha.form; exact h
  have ka : a.length ≤ cda := by obtain ⟨a, c, e, _, _, h⟩ := ha.form; cases e; exact h
  obtain ⟨na, ea⟩ : ∃ n, a.length = n := ⟨_, rfl⟩
  rw [ea] at ha la ka ⊢
  have Ha := Lib.hid ha
  have Na := Lib.hid ea
  clear ha ea
  have lb : b.length ≤ 9223372036854775807 := by obtain ⟨_, _, _, _, h, _⟩ := hb.form; exact h
  have kb : b.length ≤ cdb := by obtain ⟨a, c, e, _, _, h⟩ := hb.form; cases e; exact h
  obtain ⟨nb, eb⟩ : ∃ n, b.length = n := ⟨_, rfl⟩
  rw [eb] at hb lb kb ⊢
  have Hb := Lib.hid hb
  have Nb := Lib.hid eb
  clear hb eb
  have hC0 := Below.refl w.heap.size w
  obtain ⟨w0, rfl⟩ : ∃ w0 : World, w0 = w := ⟨_, rfl⟩
  go_enter Tryz.func4, Tryz.ntmps4
  go_wp2_with fail
  (with_reducible refine (head17_true _).mono ?_)
  rintro e w1 ⟨rfl, hb1⟩
  have hC1 := below_step hC0 hb1
  go_wp2_with fail
  obtain ⟨vVla, hvVla⟩ : ∃ v, decide (FewO l a) = v := ⟨_, rfl⟩
  have HVla := Lib.hid hvVla
  clear hvVla
  (with_reducible refine (q17Few_any l a _ _ _ (Hl.out.later hC1) (Ha.out.later hC1) HVla.out).mono ?_)
  rintro e w2 ⟨rfl, hb2⟩
  have hC2 := below_step hC1 hb2
  cases vVla
  · go_wp2_with fail
    go_returns
    exact ⟨rfl, hC2⟩
  go_wp2_with fail
  obtain ⟨vVlb, hvVlb⟩ : ∃ v, decide (FewO l b) = v := ⟨_, rfl⟩
  have HVlb := Lib.hid hvVlb
  clear hvVlb
  (with_reducible refine (q17Few_any l b _ _ _ (Hl.out.later hC2) (Hb.out.later hC2) HVlb.out).mono ?_)
  rintro e w3 ⟨rfl, hb3⟩
  have hC3 := below_step hC2 hb3
  cases vVlb
  · go_wp2_with fail
    go_returns
    exact ⟨rfl, hC3⟩
  go_wp2_with fail
  rcases commO_cases a b with ⟨h1, h2⟩ | ⟨_, _, i, k, j, m, hi, hk, hj, hm, h1, h2⟩ | ⟨oa, ob, hf, h1, h2⟩
  · skip
    (with_reducible refine (paCommute_any a b _ _ _ (Ha.out.later hC3) (Hb.out.later hC3) h1).mono ?_)
    rintro e w4 ⟨rfl, hb4⟩
    have hC4 := below_step hC3 hb4
    go_wp2_with fail
    (with_reducible refine (paCommute_any b a _ _ _ (Hb.out.later hC4) (Ha.out.later hC4) h2).mono ?_)
    rintro e w5 ⟨rfl, hb5⟩
    have hC5 := below_step hC4 hb5
    go_wp2_with fail
    go_returns
    exact ⟨rfl, hC5⟩
  · skip
    have di : (i == -1) = false := by simp; omega
    have ei : (i != -1) = true := by simp; omega
    have dk : (k == -1) = false := by simp; omega
    have ek : (k != -1) = true := by simp; omega
    have dj : (j == -1) = false := by simp; omega
    have ej : (j != -1) = true := by simp; omega
    have dm : (m == -1) = false := by simp; omega
    have em : (m != -1) = true := by simp; omega
    clear hi hk hj hm
    (with_reducible refine (paCommute_any a b _ _ _ (Ha.out.later hC3) (Hb.out.later hC3) h1).mono ?_)
    rintro e w4 ⟨rfl, hb4⟩
    have hC4 := below_step hC3 hb4
    go_wp2_with fail
    (with_reducible refine (paCommute_any b a _ _ _ (Hb.out.later hC4) (Ha.out.later hC4) h2).mono ?_)
    rintro e w5 ⟨rfl, hb5⟩
    have hC5 := below_step hC4 hb5
    go_wp2_with fail
    go_returns
    exact ⟨rfl, hC5⟩
  · have OA := Lib.hid oa
    have OB := Lib.hid ob
    have HF := Lib.hid hf
    clear oa ob hf
    (with_reducible refine (paCommute_any a b _ _ _ (Ha.out.later hC3) (Hb.out.later hC3) h1).mono ?_)
    rintro e w4 ⟨rfl, hb4⟩
    have hC4 := below_step hC3 hb4
    go_wp2_with fail
    (with_reducible refine (paCommute_any b a _ _ _ (Hb.out.later hC4) (Ha.out.later hC4) h2).mono ?_)
    rintro e w5 ⟨rfl, hb5⟩
    have hC5 := below_step hC4 hb5
    go_wp2_with fail
    rcases apply_cases l a with ⟨_, ha, _⟩ | ⟨_, i, er, _, _, he, ha, _⟩ | ⟨pa, x, bs, hr, _, ha, _⟩
    · skip
      obtain ⟨⟨x2, i2, e2⟩, hx2⟩ : ∃ r, applyO [] b = r := ⟨_, rfl⟩
      (with_reducible refine (paApply_any l a _ _ _ (Hl.out.later hC5) (Ha.out.later hC5) ha).mono ?_)
      rintro e w6 ⟨ad6, n6, c6, hl6, rfl, hf6, hb6⟩
      have hC6 := below_step hC5 hb6
      have F6 := Lib.hid hf6
      have L6 := Lib.hid hl6
      clear hf6 hl6
      obtain rfl : 0 = n6 := L6.out
      go_wp2_with fail
      (with_reducible refine (paApply_any [] b _ _ _ (F6.out.later (Below.refl _ w6)) (Hb.out.later hC6) hx2).mono ?_)
      rintro e w7 ⟨ad7, n7, c7, hl7, rfl, hf7, hb7⟩
      have hC7 := below_step hC6 hb7
      have F7 := Lib.hid hf7
      have L7 := Lib.hid hl7
      clear hf7 hl7
      go_wp2_with fail
      go_returns
      exact ⟨rfl, hC7⟩
    · skip
      have der0 : (er == 0) = false := by rcases he with rfl | rfl | rfl | rfl <;> rfl
      have der1 : (er == 1) = false := by rcases he with rfl | rfl | rfl | rfl <;> rfl
      clear he
      obtain ⟨⟨x2, i2, e2⟩, hx2⟩ : ∃ r, applyO [] b = r := ⟨_, rfl⟩
      (with_reducible refine (paApply_any l a _ _ _ (Hl.out.later hC5) (Ha.out.later hC5) ha).mono ?_)
      rintro e w6 ⟨ad6, n6, c6, hl6, rfl, hf6, hb6⟩
      have hC6 := below_step hC5 hb6
      have F6 := Lib.hid hf6
      have L6 := Lib.hid hl6
      clear hf6 hl6
      obtain rfl : 0 = n6 := L6.out
      go_wp2_with fail
      (with_reducible refine (paApply_any [] b _ _ _ (F6.out.later (Below.refl _ w6)) (Hb.out.later hC6) hx2).mono ?_)
      rintro e w7 ⟨ad7, n7, c7, hl7, rfl, hf7, hb7⟩
      have hC7 := below_step hC6 hb7
      have F7 := Lib.hid hf7
      have L7 := Lib.hid hl7
      clear hf7 hl7
      go_wp2_with fail
      go_returns
      exact ⟨rfl, hC7⟩
    · have HA := Lib.hid ha
      have PA := Lib.hid pa
      have HR := Lib.hid hr
      clear ha pa hr
      (with_reducible refine (paApply_any l a _ _ _ (Hl.out.later hC5) (Ha.out.later hC5) HA.out).mono ?_)
      rintro e w6 ⟨ad6, n6, c6, hl6, rfl, hf6, hb6⟩
      have hC6 := below_step hC5 hb6
      have F6 := Lib.hid hf6
      have L6 := Lib.hid hl6
      clear hf6 hl6
      go_wp2_with fail
      rcases apply_cases x b with ⟨_, hx, _⟩ | ⟨_, i, er, _, _, he, hx, _⟩ | ⟨_, y, cs, hs, _, hx, _⟩
      · skip
        (with_reducible refine (paApply_any x b _ _ _ (F6.out.later (Below.refl _ w6)) (Hb.out.later hC6) hx).mono ?_)
        rintro e w7 ⟨ad7, n7, c7, hl7, rfl, hf7, hb7⟩
        have hC7 := below_step hC6 hb7
        obtain rfl : 0 = n7 := hl7
        clear hf7
        go_wp2_with fail
        go_returns
        exact ⟨rfl, hC7⟩
      · skip
        have der0 : (er == 0) = false := by rcases he with rfl | rfl | rfl | rfl <;> rfl
        have der1 : (er == 1) = false := by rcases he with rfl | rfl | rfl | rfl <;> rfl
        have fer : (er != 0) = true := by rcases he with rfl | rfl | rfl | rfl <;> rfl
        clear he
        (with_reducible refine (paApply_any x b _ _ _ (F6.out.later (Below.refl _ w6)) (Hb.out.later hC6) hx).mono ?_)
        rintro e w7 ⟨ad7, n7, c7, hl7, rfl, hf7, hb7⟩
        have hC7 := below_step hC6 hb7
        obtain rfl : 0 = n7 := hl7
        clear hf7
        go_wp2_with fail
        go_returns
        exact ⟨rfl, hC7⟩
      · obtain ⟨z, h3, h4⟩ := swap_parts PA.out OB.out HF.out (by have h1 := (of_decide_eq_true HVla.out); have h2 := (of_decide_eq_true HVlb.out); unfold FewO at h1 h2; omega) HR.out hs
        have HX := Lib.hid hx
        have H3 := Lib.hid h3
        have H4 := Lib.hid h4
        clear hx h3 h4 hs
        (with_reducible refine (paApply_any x b _ _ _ (F6.out.later (Below.refl _ w6)) (Hb.out.later hC6) HX.out).mono ?_)
        rintro e w7 ⟨ad7, n7, c7, hl7, rfl, hf7, hb7⟩
        have hC7 := below_step hC6 hb7
        have F7 := Lib.hid hf7
        have L7 := Lib.hid hl7
        clear hf7 hl7
        go_wp2_with fail
        (with_reducible refine (paApply_any l b _ _ _ (Hl.out.later hC7) (Hb.out.later hC7) H3.out).mono ?_)
        rintro e w8 ⟨ad8, n8, c8, hl8, rfl, hf8, hb8⟩
        have hC8 := below_step hC7 hb8
        have F8 := Lib.hid hf8
        have L8 := Lib.hid hl8
        clear hf8 hl8
        go_wp2_with fail
        (with_reducible refine (paApply_any z a _ _ _ (F8.out.later (Below.refl _ w8)) (Ha.out.later hC8) H4.out).mono ?_)
        rintro e w9 ⟨ad9, n9, c9, hl9, rfl, hf9, hb9⟩
        have hC9 := below_step hC8 hb9
        have F9 := Lib.hid hf9
        have L9 := Lib.hid hl9
        clear hf9 hl9
        go_wp2_with fail
        (with_reducible refine (q07SameList_any y y _ _ _ (F7.out.later (below_step hb8 hb9)) (F9.out.later (Below.refl _ w9)) (decide_eq_true rfl)).mono ?_)
        rintro e w10 ⟨rfl, hb10⟩
        have hC10 := below_step hC9 hb10
        go_wp2_with fail
        go_returns
        exact ⟨rfl, hC10⟩
set_option maxRecDepth 100000 in
theorem patchExchange_lifted (os : Os) (started : os.Started) (H : Type) (enc : TypeId × Value → H) :
    ReturnsInHanded {} Tryz.checked os 4 .any (Rows.patchExchangeSpec.pre6 enc Tryz.prog Tryz.f4 Rows.patchExchangeRow.domain false) (Rows.patchExchangeSpec.post enc Tryz.prog Tryz.f4 false true false false) := by
  refine returnsInHanded_of_change (C := Tryz.checked) own_knob started (by kernel_rfl) Tryz.func4
    (ChangeSpec.witness6 (enc := enc) (C := Tryz.checked) false ⟨#[], #[.slice none 0 0, .slice none 0 0, .slice none 0 0], []⟩ 8 (by kernel_rfl) (by kernel_rfl) (by kernel_rfl) (by kernel_rfl)) ?_
  intro W base args ds gs before hval0 hW hcnd _
  have hval : ∀ (j : Nat) t v, Tryz.f4.params[j]? = some t → args[j]? = some v → Value.okWide Tryz.prog W .any base t v := hval0
  have hW' := hW
  obtain ⟨p, q, hA0, hV, rfl, hfz, hnd⟩ := hW
  have hA : DataW.TrodAll enc Tryz.prog W 0 (fun _ => true) true Tryz.f4.params.toList args.toList ds p := hA0
  rw [Tryz.params4] at hA hval
  obtain ⟨v0, vs0, d0, ds0, p0, q0, hargs, rfl, rfl, h0, r0⟩ := trodAll_cons hA
  obtain ⟨v1, vs1, d1, ds1, p1, q1, rfl, rfl, rfl, h1, r1⟩ := trodAll_cons r0
  obtain ⟨v2, vs2, d2, ds2, p2, q2, rfl, rfl, rfl, h2, r2⟩ := trodAll_cons r1
  obtain ⟨rfl, rfl, rfl⟩ := trodAll_nil r2
  obtain rfl : args = #[v0, v1, v2] := by cases args; simp_all
  obtain ⟨rfl, rfl⟩ := trodVars_none hV
  simp only [List.append_nil] at hW' hA0
  obtain ⟨_, _, _, e0, hl⟩ := open_feats (hval 0 22 v0 rfl rfl) h0
  subst e0
  obtain ⟨_, _, _, e1, ha⟩ := open_ops (hval 1 23 v1 rfl rfl) h1
  subst e1
  obtain ⟨_, _, _, e2, hb⟩ := open_ops (hval 2 23 v2 rfl rfl) h2
  subst e2
  refine (patchExchange_walk  hl ha hb).mono fun e W' ⟨he, hg⟩ => ?_
  subst he
  exact ⟨_, rfl, post_law laid_out (by rw [Tryz.params4]; intro t ht; simp only [List.mem_cons, List.not_mem_nil, or_false] at ht; rcases ht with rfl | rfl | rfl <;> exact ⟨by kernel_rfl, of_decide_eq_true (by kernel_rfl)⟩) rfl hW' hA0 rfl rfl rfl rfl Tryz.underlying4 hg⟩
theorem patchExchange_over : Rows.patchExchangeRow.holds Tryz.pinned (OpenSpec.ofChange Rows.patchExchangeSpec) :=
  OpenClaim.holds_of_wide 4 Tryz.f4 rfl rfl rfl rfl rfl rfl rfl ⟨rfl, rfl, rfl, rfl, rfl⟩ rfl rfl rfl rfl rfl (by kernel_rfl) Tryz.func4 (by kernel_rfl)
    (of_decide_eq_true (by kernel_rfl)) (by unfold Func.isWrapper; first | (rw [if_pos (by decide +kernel)]; kernel_rfl) | (rw [if_neg (by decide +kernel)]; exact ⟨rfl, rfl⟩))
    (fun os started H enc _ => patchExchange_lifted os started H enc)
theorem patchExchange_holds : Rows.PatchExchangeSaid :=
  patchExchange_over
#print axioms patchExchange_holds
end Go.Proofs.YtpidmgkjnomigaaGreat
