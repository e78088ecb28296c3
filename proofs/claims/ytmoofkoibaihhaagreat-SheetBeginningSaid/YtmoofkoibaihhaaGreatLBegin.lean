/- For any sheet, any integers and any number: the statement SheetBeginning of chapter 14 (the integers of a sheet, with others behind them, or without their last ones, are those of no sheet): the law's function returns true and leaves its arguments as they were. No condition. -/
import Derived.Test.YtmoofkoibaihhaaGreatShtO
import Derived.Test.YtmoofkoibaihhaaGreatFrameH
namespace Go.Proofs.YtmoofkoibaihhaaGreat
open Go.ChangeShapes Go.WideShapes Go.ChangeAt Go.RowKit
attribute [local go_sem] bqOp bqAll bqUpon sqOp sqAll sqUpon ssOp ssAll
attribute [local irreducible] wpQuiet wpBQ wpPlan wsPlan
set_option linter.unusedVariables false
set_option maxRecDepth 100000 in
set_option maxHeartbeats 8000000 in
theorem sheetBeginning_walk {s : Sht} {ads afs : Option Addr} {cds cfs : Nat} {l : List Int} {adl : Option Addr} {cdl : Nat} (cut : Int) {w : World} (hds : IntsAt w (.slice ads s.don.length cds) s.don) (hfs : FeatsAt w (.slice afs s.feats.length cfs) s.feats) (ws : I64 s.edition ∧ I64 s.cap) (hl : IntsAt w (.slice adl l.length cdl) l) (wcut : (Lit.int .u16 cut).wf = true) :
    Calls Tryz.prog 4 #[shtV s (.slice ads s.don.length cds) (.slice afs s.feats.length cfs), .slice adl l.length cdl, .int .u16 cut] w fun e w' => e = .returned (.bool true) ∧ Below w.heap.size w w' := by
  have HDs := Lib.hid hds
  have HFs := Lib.hid hfs
  have WSs := Lib.hid ws
  clear hds hfs ws
  have ll : l.length ≤ 9223372036854775807 := (Lists.form hl).choose_spec.choose_spec.2.2.1
  have Hl := Lib.hid hl
  clear hl
  have hc0 : 0 ≤ cut := by simp [Lit.wf, IntKind.min, IntKind.max, IntKind.bits, IntKind.signed] at wcut; omega
  have hc1 : cut ≤ 65535 := by simp [Lit.wf, IntKind.min, IntKind.max, IntKind.bits, IntKind.signed] at wcut; omega
  clear wcut
  go_enter Tryz.func4, Tryz.ntmps4
  go_wp2_with fail
  refine calls_named fun W hW => ?_
  obtain ⟨p1, hB⟩ := box1 hW
  clear hW
  have P1 := Lib.hid p1
  clear p1
  have q1 := cellsL P1.out
  (with_reducible refine (head14_true _).mono ?_)
  rintro e w1 ⟨rfl, hB1⟩
  have hC1 := below_step hB hB1
  go_wp2_with fail
  obtain ⟨vs, hvs⟩ : ∃ v, decide (FewS s) = v := ⟨_, rfl⟩
  have HVs := Lib.hid hvs
  clear hvs
  (with_reducible refine (q14Few_any s _ _ _ (intsL HDs.out hC1) (HFs.out.later hC1) HVs.out).mono ?_)
  rintro e w2 ⟨rfl, hb2⟩
  have hB2 := below_step hB1 hb2
  have hC2 := below_step hB hB2
  cases vs
  · go_wp2_with fail
    go_returns
    exact ⟨rfl, hC2⟩
  rcases Nat.lt_or_ge 2000 l.length with big | small
  · go_wp2_with fail
    go_returns
    exact ⟨rfl, hC2⟩
  go_wp2_with fail
  by_cases oks : ShtOk s
  · have OKs := Lib.hid oks
    clear oks
    (with_reducible refine (shInts_yes s _ _ _ (intsL HDs.out hC2) (HFs.out.later hC2) OKs.out).mono ?_)
    rintro e w3 ⟨ais, cis, rfl, his, hb3⟩
    have hB3 := below_step hB2 hb3
    have hC3 := below_step hB hB3
    have hn1 := enc_len s
    have hn2 := encS_len OKs.out.2.1 (OKs.out.2.2.2.2.2.2.2.1) (fewEls_of OKs.out.2.2.2.2.2.2.2)
    have cap1 : (encS s).length ≤ cis := his.2 _ _ _ rfl
    have Is := Lib.hid his
    clear his
    have hne : (0 : Int) < ((encS s).length : Int) := by omega
    obtain ⟨k, hk, hkn⟩ : ∃ k : Nat, cut % ((encS s).length : Int) = (k : Int) ∧ k < (encS s).length := ⟨(cut % ((encS s).length : Int)).toNat, by have := Int.emod_nonneg cut (Int.ne_of_gt hne); omega, by have := Int.emod_nonneg cut (Int.ne_of_gt hne); have := Int.emod_lt_of_pos cut hne; omega⟩
    clear hne
    have FL : Hid (fromL ((encS s).take k) = none) := Lib.hid (from_less OKs.out hkn)
    obtain ⟨n, hn⟩ : ∃ n, (encS s).length = n := ⟨_, rfl⟩
    have HN := Lib.hid hn
    rw [hn] at hk hkn hn1 hn2 cap1 Is ⊢
    clear hn
    have LT : Hid (((encS s).take k).length = k) := Lib.hid (by rw [List.length_take, HN.out]; omega)
    obtain ⟨n2, hn3⟩ : ∃ m, n + l.length = m := ⟨_, rfl⟩
    have HN2 : Hid (([] ++ encS s).length + l.length = n2) := Lib.hid (by rw [List.nil_append, HN.out]; exact hn3)
    have LN2 : Hid ((([] ++ encS s) ++ l).length = n2) := Lib.hid (by rw [List.length_append]; exact HN2.out)
    have hn4 : n2 ≤ 40000 := by omega
    clear hn3
    go_wp2_with fail
    (with_reducible refine (shFrom_noN LT.out _ _ _ (ints_take Is.out HN.out (Nat.le_of_lt hkn)) FL.out).mono ?_)
    rintro e w4 ⟨rfl, hb4⟩
    have hB4 := below_step hB3 hb4
    have hC4 := below_step hB hB4
    rcases Nat.eq_zero_or_pos l.length with hz | hz
    · have HS : Hid ((fromL (([] ++ encS s) ++ l)).isSome = true) := Lib.hid (by
        obtain rfl : l = [] := List.eq_nil_of_length_eq_zero hz
        rw [List.append_nil, List.nil_append, from_enc s OKs.out]
        rfl)
      have HZ := Lib.hid hz
      clear hz
      go_wp2_with (first | (at_builtin; generalize hwn : World.alloc (World.alloc w4 _) _ = wn5; have O5 : OwnI w4.heap.size wn5 (.slice (some ⟨w4.heap.size + 1, 0, none⟩) 0 0) [] := OwnI.lit (w := World.alloc w4 _) [] hwn.symm (by simp) rfl (by omega) (by decide); obtain ⟨_, _, hb5⟩ := box2 hwn.symm; have hs5 := hb5.size; refine wpList_appN rfl _ _ rfl w4.heap.size _ [] (encS s) n rfl O5 ais n cis rfl HN.out (intsL Is.out (below_step hb4 hb5)) (by simp) (by omega) hs5 ?_; intro ad6 c6 w6 hown6 hb6; have hB6 := hb5.trans hb6; clear O5; have hs6 := hB6.size) | (at_builtin; refine wpList_appN rfl _ _ rfl w4.heap.size _ ([] ++ encS s) l n2 rfl hown6 adl l.length cdl rfl rfl (intsL Hl.out (below_step hC4 hB6)) HN2.out (by omega) hs6 ?_; intro ad7 c7 w7 hown7 hb7; have hB7 := hB6.trans hb7; have hs7 := hB7.size; clear hown6))
      (with_reducible refine (shFrom_err LN2.out _ _ _ (hown7.ints (by rw [LN2.out]; omega)) HS.out).mono ?_)
      rintro e w8 ⟨u, au, nu, cu, fu, mu, gu, er, rfl, hy, hz', hb8⟩
      obtain rfl := hy (by simp)
      clear hz'
      have hB8 : Below w.heap.size w w8 := below_step (hC4.trans (hB7.mono hC4.size)) hb8
      have hz := HZ.out
      have hz2 : ((l.length : Int) == 0) = true := by rw [hz]; rfl
      go_wp2_with fail
      go_returns
      exact ⟨rfl, hB8.alloc hB8.size _⟩
    · have HS : Hid ((fromL (([] ++ encS s) ++ l)).isSome = false) := Lib.hid (by
        rw [List.nil_append]
        cases hf : fromL (encS s ++ l) with
        | none => rfl
        | some t =>
          have := (from_more OKs.out l).1 ⟨t, hf⟩
          subst this
          simp at hz)
      have HZ := Lib.hid hz
      clear hz
      go_wp2_with (first | (at_builtin; generalize hwn : World.alloc (World.alloc w4 _) _ = wn5; have O5 : OwnI w4.heap.size wn5 (.slice (some ⟨w4.heap.size + 1, 0, none⟩) 0 0) [] := OwnI.lit (w := World.alloc w4 _) [] hwn.symm (by simp) rfl (by omega) (by decide); obtain ⟨_, _, hb5⟩ := box2 hwn.symm; have hs5 := hb5.size; refine wpList_appN rfl _ _ rfl w4.heap.size _ [] (encS s) n rfl O5 ais n cis rfl HN.out (intsL Is.out (below_step hb4 hb5)) (by simp) (by omega) hs5 ?_; intro ad6 c6 w6 hown6 hb6; have hB6 := hb5.trans hb6; clear O5; have hs6 := hB6.size) | (at_builtin; refine wpList_appN rfl _ _ rfl w4.heap.size _ ([] ++ encS s) l n2 rfl hown6 adl l.length cdl rfl rfl (intsL Hl.out (below_step hC4 hB6)) HN2.out (by omega) hs6 ?_; intro ad7 c7 w7 hown7 hb7; have hB7 := hB6.trans hb7; have hs7 := hB7.size; clear hown6))
      (with_reducible refine (shFrom_err LN2.out _ _ _ (hown7.ints (by rw [LN2.out]; omega)) HS.out).mono ?_)
      rintro e w8 ⟨u, au, nu, cu, fu, mu, gu, er, rfl, hy, hz', hb8⟩
      obtain rfl := hz' (by simp)
      clear hy
      have hB8 : Below w.heap.size w w8 := below_step (hC4.trans (hB7.mono hC4.size)) hb8
      have hz := HZ.out
      have hz2 : ((l.length : Int) == 0) = false := beq_eq_false_iff_ne.2 (by omega)
      go_wp2_with fail
      go_returns
      exact ⟨rfl, hB8.alloc hB8.size _⟩
  · have OKs := Lib.hid oks
    clear oks
    (with_reducible refine (shInts_no s _ _ _ (intsL HDs.out hC2) (HFs.out.later hC2) OKs.out).mono ?_)
    rintro e w3 ⟨rfl, hb3⟩
    have hB3 := below_step hB2 hb3
    have hC3 := below_step hB hB3
    go_wp2_with fail
    go_returns
    exact ⟨rfl, hC3⟩
set_option maxRecDepth 100000 in
theorem sheetBeginning_lifted (os : Os) (started : os.Started) (H : Type) (enc : TypeId × Value → H) :
    ReturnsInHanded {} Tryz.checked os 4 .any (Rows.sheetBeginningSpec.pre6 enc Tryz.prog Tryz.f4 Rows.sheetBeginningRow.domain false) (Rows.sheetBeginningSpec.post enc Tryz.prog Tryz.f4 false true false false) := by
  refine returnsInHanded_of_change (C := Tryz.checked) own_knob started (by kernel_rfl) Tryz.func4
    (ChangeSpec.witness6 (enc := enc) (C := Tryz.checked) false ⟨#[], #[.agg #[.int .i64 0, .int .i64 0, .int .i64 0, .int .i64 0, .int .i64 0, .int .i64 0, .int .i64 0, .int .i64 0, .int .i64 0, .int .i64 0, .int .i64 0, .slice none 0 0, .slice none 0 0], .slice none 0 0, .int .u16 0], []⟩ 8 (by kernel_rfl) (by kernel_rfl) (by kernel_rfl) (by kernel_rfl)) ?_
  intro W base args ds gs before hval0 hW hcnd _
  have hval : ∀ (j : Nat) t v, Tryz.f4.params[j]? = some t → args[j]? = some v → Value.okWide Tryz.prog W .any base t v := hval0
  have hW' := hW
  obtain ⟨p, q, hA0, hV, rfl, hfz, hnd⟩ := hW
  have hA : DataW.TrodAll enc Tryz.prog W 0 (fun _ => true) true Tryz.f4.params.toList args.toList ds p := hA0
  rw [Tryz.params4] at hA hval
  obtain ⟨v0, vs0, d0, ds0, p0, q0, hargs, rfl, rfl, h0, r0⟩ := trodAll_cons hA
  obtain ⟨v1, vs1, d1, ds1, p1, q1, rfl, rfl, rfl, h1, r1⟩ := trodAll_cons r0
  obtain ⟨v2, vs2, d2, ds2, p2, q2, rfl, rfl, rfl, h2, r2⟩ := trodAll_cons r1
  obtain ⟨rfl, rfl, rfl⟩ := trodAll_nil r2
  obtain rfl : args = #[v0, v1, v2] := by cases args; simp_all
  obtain ⟨rfl, rfl⟩ := trodVars_none hV
  simp only [List.append_nil] at hW' hA0
  obtain ⟨s, _, _, _, _, e0, hds, hfs, ws⟩ := open_sheet (hval 0 27 v0 rfl rfl) h0
  subst e0
  obtain ⟨_, _, _, e1, hl⟩ := open_ints (hval 1 24 v1 rfl rfl) h1
  subst e1
  obtain ⟨cut, e2, _, _, wcut⟩ := open_int Tryz.underlying38 (hval 2 38 v2 rfl rfl) h2
  subst e2
  refine (sheetBeginning_walk cut hds hfs ws hl wcut).mono fun e W' ⟨he, hg⟩ => ?_
  subst he
  exact ⟨_, rfl, post_law laid_out (by rw [Tryz.params4]; intro t ht; simp only [List.mem_cons, List.not_mem_nil, or_false] at ht; rcases ht with rfl | rfl | rfl <;> exact ⟨by kernel_rfl, of_decide_eq_true (by kernel_rfl)⟩) rfl hW' hA0 rfl rfl rfl rfl Tryz.underlying4 hg⟩
theorem sheetBeginning_over : Rows.sheetBeginningRow.holds Tryz.pinned (OpenSpec.ofChange Rows.sheetBeginningSpec) :=
  OpenClaim.holds_of_wide 4 Tryz.f4 rfl rfl rfl rfl rfl rfl rfl ⟨rfl, rfl, rfl, rfl, rfl⟩ rfl rfl rfl rfl rfl (by kernel_rfl) Tryz.func4 (by kernel_rfl)
    (of_decide_eq_true (by kernel_rfl)) (by unfold Func.isWrapper; first | (rw [if_pos (by decide +kernel)]; kernel_rfl) | (rw [if_neg (by decide +kernel)]; exact ⟨rfl, rfl⟩))
    (fun os started H enc _ => sheetBeginning_lifted os started H enc)
theorem sheetBeginning_holds : Rows.SheetBeginningSaid :=
  sheetBeginning_over
#print axioms sheetBeginning_holds
end Go.Proofs.YtmoofkoibaihhaaGreat
