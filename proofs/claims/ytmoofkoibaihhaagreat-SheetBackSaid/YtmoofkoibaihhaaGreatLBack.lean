/- For any sheet and any integers: the statement SheetBack of chapter 14 (a sheet is the one of its integers; integers are those of their sheet): the law's function returns true and leaves its arguments as they were. No condition. -/
import Derived.Test.YtmoofkoibaihhaaGreatShtO
import Derived.Test.YtmoofkoibaihhaaGreatFrameH
namespace Go.Proofs.YtmoofkoibaihhaaGreat
open Go.ChangeShapes Go.WideShapes Go.ChangeAt Go.RowKit
attribute [local go_sem] bqOp bqAll bqUpon sqOp sqAll sqUpon ssOp ssAll
attribute [local irreducible] wpQuiet wpBQ wpPlan wsPlan
set_option linter.unusedVariables false
set_option maxRecDepth 100000 in
set_option maxHeartbeats 8000000 in
theorem sheetBack_walk {s : Sht} {ads afs : Option Addr} {cds cfs : Nat} {l : List Int} {adl : Option Addr} {cdl : Nat} {w : World} (hds : IntsAt w (.slice ads s.don.length cds) s.don) (hfs : FeatsAt w (.slice afs s.feats.length cfs) s.feats) (ws : I64 s.edition ∧ I64 s.cap) (hl : IntsAt w (.slice adl l.length cdl) l) :
    Calls Tryz.prog 3 #[shtV s (.slice ads s.don.length cds) (.slice afs s.feats.length cfs), .slice adl l.length cdl] w fun e w' => e = .returned (.bool true) ∧ Below w.heap.size w w' := by
  have HDs := Lib.hid hds
  have HFs := Lib.hid hfs
  have WSs := Lib.hid ws
  clear hds hfs ws
  have ll : l.length ≤ 9223372036854775807 := (Lists.form hl).choose_spec.choose_spec.2.2.1
  have Hl := Lib.hid hl
  clear hl
  go_enter Tryz.func3, Tryz.ntmps3
  go_wp2_with fail
  refine calls_named fun W hW => ?_
  obtain ⟨p1, hB⟩ := box1 hW
  clear hW
  have P1 := Lib.hid p1
  clear p1
  have q1 := cellsL P1.out
  (with_reducible refine (head14_true _).mono ?_)
  rintro e w1 ⟨rfl, hB1⟩
  have hC1 := below_step hB hB1
  go_wp2_with fail
  obtain ⟨vs, hvs⟩ : ∃ v, decide (FewS s) = v := ⟨_, rfl⟩
  have HVs := Lib.hid hvs
  clear hvs
  (with_reducible refine (q14Few_any s _ _ _ (intsL HDs.out hC1) (HFs.out.later hC1) HVs.out).mono ?_)
  rintro e w2 ⟨rfl, hb2⟩
  have hB2 := below_step hB1 hb2
  have hC2 := below_step hB hB2
  cases vs
  · go_wp2_with fail
    go_returns
    exact ⟨rfl, hC2⟩
  rcases Nat.lt_or_ge 2000 l.length with big | small
  · go_wp2_with fail
    go_returns
    exact ⟨rfl, hC2⟩
  go_wp2_with fail
  by_cases oks : ShtOk s
  · have OKs := Lib.hid oks
    clear oks
    (with_reducible refine (shInts_yes s _ _ _ (intsL HDs.out hC2) (HFs.out.later hC2) OKs.out).mono ?_)
    rintro e w3 ⟨ais, cis, rfl, his, hb3⟩
    have hB3 := below_step hB2 hb3
    have hC3 := below_step hB hB3
    have Is := Lib.hid his
    clear his
    go_wp2_with fail
    (with_reducible refine (shFrom_yes _ _ _ Is.out (from_enc s OKs.out)).mono ?_)
    rintro e w4 ⟨adu, cdu, afu, cfu, rfl, hdu, hfu, hb4⟩
    have hB4 := below_step hB3 hb4
    have hC4 := below_step hB hB4
    have a4 := fun o => hB4.alloc hB4.size o
    have Du := Lib.hid hdu
    have Fu := Lib.hid hfu
    clear hdu hfu
    go_wp2_with fail
    refine calls_named fun w5 hw => ?_
    obtain ⟨p5_0, hb5⟩ := box1 hw
    clear hw
    have hB5 := below_step hB4 hb5
    have hC5 := below_step hB hB5
    have Q1 := Lib.hid p5_0
    clear p5_0
    have r5 := Lib.hid (Below.refl w5.heap.size w5)
    have qQ1 := cellsL Q1.out
    (with_reducible refine (q14Same_any s s _ _ _ _ _ (intsL HDs.out hC5) (HFs.out.later hC5) (intsL Du.out hb5) (Fu.out.later hb5) (decide_eq_true rfl)).mono ?_)
    rintro e w6 ⟨rfl, hb6⟩
    have hB6 := below_step hB5 hb6
    have hC6 := below_step hB hB6
    go_wp2_with fail
    cases hl : fromL l with
    | none =>
      have HT := Lib.hid hl
      clear hl
      (with_reducible refine (shFrom_no _ _ _ (intsL Hl.out hC6) HT.out).mono ?_)
      rintro e w7 ⟨rfl, hb7⟩
      have hB7 := below_step hB6 hb7
      have hC7 := below_step hB hB7
      go_wp2_with fail
      go_returns
      exact ⟨rfl, hC7.alloc hC7.size _⟩
    | some t =>
      have HT := Lib.hid hl
      clear hl
      have OKt := Lib.hid (from_some HT.out).1
      have HE : Hid (decide (RowsEq 1 (encS t).length l.length (fun i _ => (encS t).getD i 0) (fun i _ => l.getD i 0)) = true) := Lib.hid (decide_eq_true ((ints_eq (encS t) l).2 (from_some HT.out).2))
      (with_reducible refine (shFrom_yes _ _ _ (intsL Hl.out hC6) HT.out).mono ?_)
      rintro e w7 ⟨adt, cdt, aft, cft, rfl, hdt, hft, hb7⟩
      have hB7 := below_step hB6 hb7
      have hC7 := below_step hB hB7
      have a7 := fun o => hB7.alloc hB7.size o
      have Dt := Lib.hid hdt
      have Ft := Lib.hid hft
      clear hdt hft
      go_wp2_with fail
      refine calls_named fun w8 hw => ?_
      obtain ⟨p8_0, hb8⟩ := box1 hw
      clear hw
      have hB8 := below_step hB7 hb8
      have hC8 := below_step hB hB8
      have Q2 := Lib.hid p8_0
      clear p8_0
      have r8 := Lib.hid (Below.refl w8.heap.size w8)
      have qQ2 := cellsL Q2.out
      (with_reducible refine (shInts_yes t _ _ _ (intsL Dt.out hb8) (Ft.out.later hb8) OKt.out).mono ?_)
      rintro e w9 ⟨ait, cit, rfl, hit, hb9⟩
      have hB9 := below_step hB8 hb9
      have hC9 := below_step hB hB9
      have It := Lib.hid hit
      clear hit
      go_wp2_with fail
      (with_reducible refine (q08Ints_any _ _ _ _ _ _ _ _ _ (ints_rows It.out) (ints_rows (intsL Hl.out hC9)) It.out.len Hl.out.len HE.out).mono ?_)
      rintro e w10 ⟨rfl, hb10⟩
      have hB10 := below_step hB9 hb10
      have hC10 := below_step hB hB10
      go_wp2_with fail
      go_returns
      exact ⟨rfl, hC10⟩
  · have OKs := Lib.hid oks
    clear oks
    (with_reducible refine (shInts_no s _ _ _ (intsL HDs.out hC2) (HFs.out.later hC2) OKs.out).mono ?_)
    rintro e w3 ⟨rfl, hb3⟩
    have hB3 := below_step hB2 hb3
    have hC3 := below_step hB hB3
    go_wp2_with fail
    (with_reducible refine (shValid_any s _ _ _ (intsL HDs.out hC3) (HFs.out.later hC3) (decide_eq_false OKs.out)).mono ?_)
    rintro e w4 ⟨rfl, hb4⟩
    have hB4 := below_step hB3 hb4
    have hC4 := below_step hB hB4
    go_wp2_with fail
    cases hl : fromL l with
    | none =>
      have HT := Lib.hid hl
      clear hl
      (with_reducible refine (shFrom_no _ _ _ (intsL Hl.out hC4) HT.out).mono ?_)
      rintro e w5 ⟨rfl, hb5⟩
      have hB5 := below_step hB4 hb5
      have hC5 := below_step hB hB5
      go_wp2_with fail
      go_returns
      exact ⟨rfl, hC5.alloc hC5.size _⟩
    | some t =>
      have HT := Lib.hid hl
      clear hl
      have OKt := Lib.hid (from_some HT.out).1
      have HE : Hid (decide (RowsEq 1 (encS t).length l.length (fun i _ => (encS t).getD i 0) (fun i _ => l.getD i 0)) = true) := Lib.hid (decide_eq_true ((ints_eq (encS t) l).2 (from_some HT.out).2))
      (with_reducible refine (shFrom_yes _ _ _ (intsL Hl.out hC4) HT.out).mono ?_)
      rintro e w5 ⟨adt, cdt, aft, cft, rfl, hdt, hft, hb5⟩
      have hB5 := below_step hB4 hb5
      have hC5 := below_step hB hB5
      have a5 := fun o => hB5.alloc hB5.size o
      have Dt := Lib.hid hdt
      have Ft := Lib.hid hft
      clear hdt hft
      go_wp2_with fail
      refine calls_named fun w6 hw => ?_
      obtain ⟨p6_0, hb6⟩ := box1 hw
      clear hw
      have hB6 := below_step hB5 hb6
      have hC6 := below_step hB hB6
      have Q2 := Lib.hid p6_0
      clear p6_0
      have r6 := Lib.hid (Below.refl w6.heap.size w6)
      have qQ2 := cellsL Q2.out
      (with_reducible refine (shInts_yes t _ _ _ (intsL Dt.out hb6) (Ft.out.later hb6) OKt.out).mono ?_)
      rintro e w7 ⟨ait, cit, rfl, hit, hb7⟩
      have hB7 := below_step hB6 hb7
      have hC7 := below_step hB hB7
      have It := Lib.hid hit
      clear hit
      go_wp2_with fail
      (with_reducible refine (q08Ints_any _ _ _ _ _ _ _ _ _ (ints_rows It.out) (ints_rows (intsL Hl.out hC7)) It.out.len Hl.out.len HE.out).mono ?_)
      rintro e w8 ⟨rfl, hb8⟩
      have hB8 := below_step hB7 hb8
      have hC8 := below_step hB hB8
      go_wp2_with fail
      go_returns
      exact ⟨rfl, hC8⟩
set_option maxRecDepth 100000 in
theorem sheetBack_lifted (os : Os) (started : os.Started) (H : Type) (enc : TypeId × Value → H) :
    ReturnsInHanded {} Tryz.checked os 3 .any (Rows.sheetBackSpec.pre6 enc Tryz.prog Tryz.f3 Rows.sheetBackRow.domain false) (Rows.sheetBackSpec.post enc Tryz.prog Tryz.f3 false true false false) := by
  refine returnsInHanded_of_change (C := Tryz.checked) own_knob started (by kernel_rfl) Tryz.func3
    (ChangeSpec.witness6 (enc := enc) (C := Tryz.checked) false ⟨#[], #[.agg #[.int .i64 0, .int .i64 0, .int .i64 0, .int .i64 0, .int .i64 0, .int .i64 0, .int .i64 0, .int .i64 0, .int .i64 0, .int .i64 0, .int .i64 0, .slice none 0 0, .slice none 0 0], .slice none 0 0], []⟩ 8 (by kernel_rfl) (by kernel_rfl) (by kernel_rfl) (by kernel_rfl)) ?_
  intro W base args ds gs before hval0 hW hcnd _
  have hval : ∀ (j : Nat) t v, Tryz.f3.params[j]? = some t → args[j]? = some v → Value.okWide Tryz.prog W .any base t v := hval0
  have hW' := hW
  obtain ⟨p, q, hA0, hV, rfl, hfz, hnd⟩ := hW
  have hA : DataW.TrodAll enc Tryz.prog W 0 (fun _ => true) true Tryz.f3.params.toList args.toList ds p := hA0
  rw [Tryz.params3] at hA hval
  obtain ⟨v0, vs0, d0, ds0, p0, q0, hargs, rfl, rfl, h0, r0⟩ := trodAll_cons hA
  obtain ⟨v1, vs1, d1, ds1, p1, q1, rfl, rfl, rfl, h1, r1⟩ := trodAll_cons r0
  obtain ⟨rfl, rfl, rfl⟩ := trodAll_nil r1
  obtain rfl : args = #[v0, v1] := by cases args; simp_all
  obtain ⟨rfl, rfl⟩ := trodVars_none hV
  simp only [List.append_nil] at hW' hA0
  obtain ⟨s, _, _, _, _, e0, hds, hfs, ws⟩ := open_sheet (hval 0 27 v0 rfl rfl) h0
  subst e0
  obtain ⟨_, _, _, e1, hl⟩ := open_ints (hval 1 24 v1 rfl rfl) h1
  subst e1
  refine (sheetBack_walk  hds hfs ws hl).mono fun e W' ⟨he, hg⟩ => ?_
  subst he
  exact ⟨_, rfl, post_law laid_out (by rw [Tryz.params3]; intro t ht; simp only [List.mem_cons, List.not_mem_nil, or_false] at ht; rcases ht with rfl | rfl <;> exact ⟨by kernel_rfl, of_decide_eq_true (by kernel_rfl)⟩) rfl hW' hA0 rfl rfl rfl rfl Tryz.underlying4 hg⟩
theorem sheetBack_over : Rows.sheetBackRow.holds Tryz.pinned (OpenSpec.ofChange Rows.sheetBackSpec) :=
  OpenClaim.holds_of_wide 3 Tryz.f3 rfl rfl rfl rfl rfl rfl rfl ⟨rfl, rfl, rfl, rfl, rfl⟩ rfl rfl rfl rfl rfl (by kernel_rfl) Tryz.func3 (by kernel_rfl)
    (of_decide_eq_true (by kernel_rfl)) (by unfold Func.isWrapper; first | (rw [if_pos (by decide +kernel)]; kernel_rfl) | (rw [if_neg (by decide +kernel)]; exact ⟨rfl, rfl⟩))
    (fun os started H enc _ => sheetBack_lifted os started H enc)
theorem sheetBack_holds : Rows.SheetBackSaid :=
  sheetBack_over
#print axioms sheetBack_holds
end Go.Proofs.YtmoofkoibaihhaaGreat
