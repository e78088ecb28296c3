/- For any net, pieces, track, area, times, need and table: the statement ReachMatchesReference of chapter 33 (all functions return what the reference returns): the law's function returns true and leaves its arguments as they were. No condition. -/
import Derived.Test.YtcpnkhiillgffaaRhB
import Derived.Test.YtcpnkhiillgffaaRhC
import Derived.Test.YtcpnkhiillgffaaRhF
import Derived.Test.YtcpnkhiillgffaaFrameR
namespace Go.Proofs.Ytcpnkhiillgffaa
open Go.ChangeShapes Go.WideShapes Go.ChangeAt Go.RowKit
attribute [local go_sem] bqOp bqAll bqUpon field_stop0 field_stop1
attribute [local irreducible] wpQuiet wpBQ
set_option linter.unusedVariables false
set_option maxRecDepth 100000 in
set_option maxHeartbeats 8000000 in
theorem reachMatchesReference_walk {np c ne c2 na c4 nl c3 m c5 nt ct : Nat} {ad ad2 ad4 ad3 ad5 adt : Option Addr} {X E A L Y T : Nat → Nat → Int} {len : Nat → Nat} (f s u need : Int) {w : World} (hX : Rows 2 w (.slice ad np c) np X) (hE : Rows 4 w (.slice ad2 ne c2) ne E) (hA : Rows 4 w (.slice ad4 na c4) na A) (hL : Rows 2 w (.slice ad3 nl c3) nl L) (hY : Rows 1 w (.slice ad5 m c5) m Y) (hT : Tab w (.slice adt nt ct) nt len T) :
    Calls Try.prog 3 #[.agg #[.slice ad np c, .slice ad2 ne c2], .slice ad4 na c4, .slice ad3 nl c3, .slice ad5 m c5, .int .i64 f, .int .i64 s, .int .i64 u, .int .i64 need, .slice adt nt ct] w fun e w' => e = .returned (.bool true) ∧ Below w.heap.size w w' := by
  have n1 : np ≤ 9223372036854775807 := by obtain ⟨_, _, _, h, _⟩ := hX; exact h
  have n2 : ne ≤ 9223372036854775807 := by obtain ⟨_, _, _, h, _⟩ := hE; exact h
  have n4 : na ≤ 9223372036854775807 := by obtain ⟨_, _, _, h, _⟩ := hA; exact h
  have n3 : nl ≤ 9223372036854775807 := by obtain ⟨_, _, _, h, _⟩ := hL; exact h
  have n5 : m ≤ 9223372036854775807 := by obtain ⟨_, _, _, h, _⟩ := hY; exact h
  have n6 : nt ≤ 9223372036854775807 := by obtain ⟨_, _, _, h, _⟩ := hT; exact h
  have HX := Lib.hid hX
  have HE := Lib.hid hE
  have HA := Lib.hid hA
  have HL := Lib.hid hL
  have HY := Lib.hid hY
  have HT := Lib.hid hT
  clear hX hE hA hL hY hT
  obtain ⟨x1, h⟩ : ∃ r, decide (NetOk np X ne E) = r := ⟨_, rfl⟩
  have V1 := Lib.hid h
  clear h
  obtain ⟨x2, h⟩ : ∃ r, decide (TrackOk np X ne E nl L) = r := ⟨_, rfl⟩
  have V2 := Lib.hid h
  clear h
  obtain ⟨⟨x3, e3⟩, h⟩ : ∃ r, countQ np X ne E nl L na A f = r := ⟨_, rfl⟩
  have V3 := Lib.hid h
  clear h
  obtain ⟨⟨x4, e4⟩, h⟩ : ∃ r, worstQ np X ne E na A m Y f u = r := ⟨_, rfl⟩
  have V4 := Lib.hid h
  clear h
  obtain ⟨⟨x5, e5⟩, h⟩ : ∃ r, checkQ np X ne E na A m Y f s u need nt len T = r := ⟨_, rfl⟩
  have V5 := Lib.hid h
  clear h
  obtain ⟨⟨x6, e6⟩, h⟩ : ∃ r, delayQ np X ne E na A m Y f u need = r := ⟨_, rfl⟩
  have V6 := Lib.hid h
  clear h
  obtain ⟨⟨x7, e7⟩, h⟩ : ∃ r, hearsNR np X ne E (A 0 0) (A 0 1) (A 0 2) (A 0 3) f u = r := ⟨_, rfl⟩
  have V7 := Lib.hid h
  clear h
  obtain ⟨⟨x8, e8⟩, h⟩ : ∃ r, hearsNR np X ne E (A 0 0) (A 0 1) (A 0 2) (A 0 3) s need = r := ⟨_, rfl⟩
  have V8 := Lib.hid h
  clear h
  have V0 := Lib.hid (countR_eq.trans V3.out)
  have C1 := Lib.hid (fun w' (h : Below w.heap.size w w') => hValid_any np c ne c2 ad ad2 X E w' (HX.out.later h) (HE.out.later h) n1 n2 V1.out)
  have C2 := Lib.hid (fun w' (h : Below w.heap.size w w') => q33Valid_any np c ne c2 ad ad2 X E w' (HX.out.later h) (HE.out.later h) n1 n2 V1.out)
  have C3 := Lib.hid (fun w' (h : Below w.heap.size w w') => hTrack_any np c ne c2 nl c3 ad ad2 ad3 X E L w' (HX.out.later h) (HE.out.later h) (HL.out.later h) n1 n2 n3 V2.out)
  have C4 := Lib.hid (fun w' (h : Below w.heap.size w w') => q33Track_any np c ne c2 nl c3 ad ad2 ad3 X E L w' (HX.out.later h) (HE.out.later h) (HL.out.later h) n1 n2 n3 V2.out)
  have C5 := Lib.hid (fun w' (h : Below w.heap.size w w') => hHears_any np c ne c2 ad ad2 X E (A 0 0) (A 0 1) (A 0 2) (A 0 3) f u w' (HX.out.later h) (HE.out.later h) n1 n2 V7.out)
  have C6 := Lib.hid (fun w' (h : Below w.heap.size w w') => q33Hears_any np c ne c2 ad ad2 X E (A 0 0) (A 0 1) (A 0 2) (A 0 3) f u w' (HX.out.later h) (HE.out.later h) n1 n2 V7.out)
  have C7 := Lib.hid (fun w' (h : Below w.heap.size w w') => hHears_any np c ne c2 ad ad2 X E (A 0 0) (A 0 1) (A 0 2) (A 0 3) s need w' (HX.out.later h) (HE.out.later h) n1 n2 V8.out)
  have C8 := Lib.hid (fun w' (h : Below w.heap.size w w') => q33Hears_any np c ne c2 ad ad2 X E (A 0 0) (A 0 1) (A 0 2) (A 0 3) s need w' (HX.out.later h) (HE.out.later h) n1 n2 V8.out)
  go_enter Try.func3, Try.ntmps3
  go_wp2_with fail
  refine calls_named fun W hW => ?_
  obtain ⟨p1, hB⟩ := box1 hW
  clear hW
  have P1 := Lib.hid p1
  clear p1
  have q1 := cellsL P1.out
  (with_reducible refine (head33_true _).mono ?_)
  rintro e w1 ⟨rfl, hB1⟩
  have hC1 := below_step hB hB1
  go_wp2_with fail
  obtain ⟨vf, hvf⟩ : ∃ v, decide (FewOk np ne na E) = v := ⟨_, rfl⟩
  have Hvf := Lib.hid hvf
  clear hvf
  (with_reducible refine (q33Few_any np c ne c2 na c4 ad ad2 ad4 E _ (HE.out.later hC1) Hvf.out).mono ?_)
  rintro e w2 ⟨rfl, hb2⟩
  have hB2 := below_step hB1 hb2
  have hC2 := below_step hB hB2
  clear hb2
  cases vf
  · go_wp2_with fail
    go_returns
    exact ⟨rfl, hC2⟩
  have FEW : FewOk np ne na E := of_decide_eq_true Hvf.out
  have FW := Lib.hid FEW
  clear FEW Hvf
  by_cases z1 : 20 < nl
  · go_wp2_with fail
    go_returns
    exact ⟨rfl, hC2⟩
  by_cases z2 : 20 < m
  · go_wp2_with fail
    go_returns
    exact ⟨rfl, hC2⟩
  go_wp2_with fail
  obtain ⟨vt, hvt⟩ : ∃ v, decide (0 ≤ f ∧ f ≤ u ∧ u ≤ 10000000 ∧ u - f ≤ 400) = v := ⟨_, rfl⟩
  have Hvt := Lib.hid hvt
  clear hvt
  (with_reducible refine (q33Times_any f u _ Hvt.out).mono ?_)
  rintro e w3 ⟨rfl, hb3⟩
  have hB3 := below_step hB2 hb3
  have hC3 := below_step hB hB3
  clear hb3
  cases vt
  · skip
    by_cases z4 : 70 < nt
    · go_wp2_with fail
      go_returns
      exact ⟨rfl, hC3⟩
    go_wp2_with fail
    have q1 := cellsR (block_later hB3 P1.out)
    (refine wp_region_quiet_below (by kernel_rfl) (by kernel_rfl) ?_; (repeat (refine wpQuiet_step (fun K hK => ?_); replace hK := Lib.hid hK; go_simp; first | (refine hK.out _ ?_; clear hK K) | (apply Exists.intro; refine ⟨fun _ => ?_, hK.out _ ?_⟩; (first | (go_at_call 14; exact Calls.regrown_of (C1.out _ (below_step hC3 (below_regrown _ _ _)))) | (go_at_call 15; exact Calls.regrown_of (C2.out _ (below_step hC3 (below_regrown _ _ _)))) | (go_at_call 16; exact Calls.regrown_of (C3.out _ (below_step hC3 (below_regrown _ _ _)))) | (go_at_call 17; exact Calls.regrown_of (C4.out _ (below_step hC3 (below_regrown _ _ _))))); clear hK K))); refine wpQuiet_nil ?_)
    intro w4 hr4
    have hB4 := below_step hB3 (regrown_below hr4)
    have hC4 := below_step hC3 (regrown_below hr4)
    clear hr4 q1
    have q1 := cellsL P1.out
    by_cases z5 : 0 < na
    rotate_left
    · clear C5 C6 C7 C8
      go_wp2_with fail
      (with_reducible refine (hCount_any np c ne c2 na c4 nl c3 ad ad2 ad4 ad3 X E A L f _ (HX.out.later hC4) (HE.out.later hC4) (HA.out.later hC4) (HL.out.later hC4) n1 n2 n3 n4 V0.out).mono ?_)
      rintro e w5 ⟨rfl, hb5⟩
      have hB5 := below_step hB4 hb5
      have hC5 := below_step hB hB5
      clear hb5
      go_wp2_with fail
      (with_reducible refine (q33Count_any np c ne c2 na c4 nl c3 ad ad2 ad4 ad3 X E A L f _ (HX.out.later hC5) (HE.out.later hC5) (HA.out.later hC5) (HL.out.later hC5) n1 n2 n3 n4 V3.out).mono ?_)
      rintro e w6 ⟨rfl, hb6⟩
      have hB6 := below_step hB5 hb6
      have hC6 := below_step hB hB6
      clear hb6
      go_wp2_with fail
      (with_reducible refine (hTable_all np c ne c2 na c4 ad ad2 ad4 X E A f u _ (HX.out.later hC6) (HE.out.later hC6) (HA.out.later hC6) n1 n2 n4).mono ?_)
      rintro e w7 ⟨ta, tc, rfl, hb7, htab⟩
      have hB7 := below_step hB6 hb7
      have hC7 := below_step hB hB7
      clear hb7
      have TT := Lib.hid htab
      clear htab
      have hT7 := Below.refl w7.heap.size w7
      go_wp2_with fail
      (with_reducible refine (q33Table_all np c ne c2 na c4 ad ad2 ad4 X E A f u _ (HX.out.later hC7) (HE.out.later hC7) (HA.out.later hC7) n1 n2 n4).mono ?_)
      rintro e w8 ⟨ua, uc, rfl, hb8, htab⟩
      have hB8 := below_step hB7 hb8
      have hC8 := below_step hB hB8
      have hT8 := below_step hT7 hb8
      clear hb8
      have UU := Lib.hid htab
      clear htab
      have nT : tabN np X ne E na A f u ≤ 9223372036854775807 := by obtain ⟨_, _, _, h, _⟩ := TT.out; exact h
      go_wp2_with fail
      (with_reducible refine (q33Tables_any _ tc _ uc ta ua (fun _ => np) (fun _ => np) (tblI X A E na f u ne) (tblI X A E na f u ne) _ (TT.out.later hT8) UU.out nT nT (decide_eq_true (tabs_same _ _ _))).mono ?_)
      rintro e w9 ⟨rfl, hb9⟩
      have hB9 := below_step hB8 hb9
      have hC9 := below_step hB hB9
      clear hb9
      go_wp2_with fail
      (with_reducible refine (hWorst_any np c ne c2 na c4 m c5 ad ad2 ad4 ad5 X E A Y f u _ (HX.out.later hC9) (HE.out.later hC9) (HA.out.later hC9) (HY.out.later hC9) n1 n2 n4 n5).mono ?_)
      rintro e w10 ⟨hb10, wv, hz, -, -⟩
      have hB10 := below_step hB9 hb10
      have hC10 := below_step hB hB10
      clear hb10
      rw [V4.out] at hz
      subst hz
      go_wp2_with fail
      (with_reducible refine (q33Worst_any np c ne c2 na c4 m c5 ad ad2 ad4 ad5 X E A Y f u _ (HX.out.later hC10) (HE.out.later hC10) (HA.out.later hC10) (HY.out.later hC10) n1 n2 n4 n5 V4.out).mono ?_)
      rintro e w11 ⟨rfl, hb11⟩
      have hB11 := below_step hB10 hb11
      have hC11 := below_step hB hB11
      clear hb11
      go_wp2_with fail
      (with_reducible refine (hCheck_any np c ne c2 na c4 m c5 nt ct ad ad2 ad4 ad5 adt X E A Y T len f s u need _ (HX.out.later hC11) (HE.out.later hC11) (HA.out.later hC11) (HY.out.later hC11) (HT.out.later hC11) n1 n2 n4 n5 n6 V5.out).mono ?_)
      rintro e w12 ⟨rfl, hb12⟩
      have hB12 := below_step hB11 hb12
      have hC12 := below_step hB hB12
      clear hb12
      go_wp2_with fail
      (with_reducible refine (q33Check_any np c ne c2 na c4 m c5 nt ct ad ad2 ad4 ad5 adt X E A Y T len f s u need _ (HX.out.later hC12) (HE.out.later hC12) (HA.out.later hC12) (HY.out.later hC12) (HT.out.later hC12) n1 n2 n4 n5 n6 V5.out).mono ?_)
      rintro e w13 ⟨rfl, hb13⟩
      have hB13 := below_step hB12 hb13
      have hC13 := below_step hB hB13
      clear hb13
      go_wp2_with fail
      (with_reducible refine (hDelay_any np c ne c2 na c4 m c5 ad ad2 ad4 ad5 X E A Y f u need _ (HX.out.later hC13) (HE.out.later hC13) (HA.out.later hC13) (HY.out.later hC13) n1 n2 n4 n5 V6.out).mono ?_)
      rintro e w14 ⟨rfl, hb14⟩
      have hB14 := below_step hB13 hb14
      have hC14 := below_step hB hB14
      clear hb14
      go_wp2_with fail
      (with_reducible refine (q33Delay_any np c ne c2 na c4 m c5 ad ad2 ad4 ad5 X E A Y f u need _ (HX.out.later hC14) (HE.out.later hC14) (HA.out.later hC14) (HY.out.later hC14) n1 n2 n4 n5 V6.out).mono ?_)
      rintro e w15 ⟨rfl, hb15⟩
      have hB15 := below_step hB14 hb15
      have hC15 := below_step hB hB15
      clear hb15
      go_wp2_with fail
      go_returns
      exact ⟨rfl, hC15⟩
    obtain ⟨g, o, rfl, hca⟩ := HA.out.row z5
    have A0 := Lib.hid (hca 0 (by omega))
    have A1 := Lib.hid (hca 1 (by omega))
    have A2 := Lib.hid (hca 2 (by omega))
    have A3 := Lib.hid (hca 3 (by omega))
    clear hca
    simp only [Nat.zero_mul, Nat.add_zero] at A0 A1 A2 A3
    go_wp2_with fail
    have c0 := fun d os => cell_later (below_regrown w4 d os) (cell_later hC4 A0.out)
    have c1 := fun d os => cell_later (below_regrown w4 d os) (cell_later hC4 A1.out)
    have c2 := fun d os => cell_later (below_regrown w4 d os) (cell_later hC4 A2.out)
    have c3 := fun d os => cell_later (below_regrown w4 d os) (cell_later hC4 A3.out)
    have q1 := cellsR (block_later hB4 P1.out)
    (refine wp_region_quiet_below (by kernel_rfl) (by kernel_rfl) ?_; (repeat (refine wpQuiet_step (fun K hK => ?_); replace hK := Lib.hid hK; go_simp; first | (refine hK.out _ ?_; clear hK K) | (apply Exists.intro; refine ⟨fun _ => ?_, hK.out _ ?_⟩; (first | (go_at_call 18; exact Calls.regrown_of (C5.out _ (below_step hC4 (below_regrown _ _ _))))); clear hK K))); refine wpQuiet_nil ?_)
    intro w5 hr5
    have hB5 := below_step hB4 (regrown_below hr5)
    have hC5 := below_step hC4 (regrown_below hr5)
    clear hr5 q1
    have q1 := cellsL P1.out
    clear c0 c1 c2 c3
    go_wp2_with fail
    have c0 := fun d os => cell_later (below_regrown w5 d os) (cell_later hC5 A0.out)
    have c1 := fun d os => cell_later (below_regrown w5 d os) (cell_later hC5 A1.out)
    have c2 := fun d os => cell_later (below_regrown w5 d os) (cell_later hC5 A2.out)
    have c3 := fun d os => cell_later (below_regrown w5 d os) (cell_later hC5 A3.out)
    have q1 := cellsR (block_later hB5 P1.out)
    (refine wp_region_quiet_below (by kernel_rfl) (by kernel_rfl) ?_; (repeat (refine wpQuiet_step (fun K hK => ?_); replace hK := Lib.hid hK; go_simp; first | (refine hK.out _ ?_; clear hK K) | (apply Exists.intro; refine ⟨fun _ => ?_, hK.out _ ?_⟩; (first | (go_at_call 19; exact Calls.regrown_of (C6.out _ (below_step hC5 (below_regrown _ _ _))))); clear hK K))); refine wpQuiet_nil ?_)
    intro w6 hr6
    have hB6 := below_step hB5 (regrown_below hr6)
    have hC6 := below_step hC5 (regrown_below hr6)
    clear hr6 q1
    have q1 := cellsL P1.out
    clear c0 c1 c2 c3
    go_wp2_with fail
    have c0 := fun d os => cell_later (below_regrown w6 d os) (cell_later hC6 A0.out)
    have c1 := fun d os => cell_later (below_regrown w6 d os) (cell_later hC6 A1.out)
    have c2 := fun d os => cell_later (below_regrown w6 d os) (cell_later hC6 A2.out)
    have c3 := fun d os => cell_later (below_regrown w6 d os) (cell_later hC6 A3.out)
    have q1 := cellsR (block_later hB6 P1.out)
    (refine wp_region_quiet_below (by kernel_rfl) (by kernel_rfl) ?_; (repeat (refine wpQuiet_step (fun K hK => ?_); replace hK := Lib.hid hK; go_simp; first | (refine hK.out _ ?_; clear hK K) | (apply Exists.intro; refine ⟨fun _ => ?_, hK.out _ ?_⟩; (first | (go_at_call 18; exact Calls.regrown_of (C7.out _ (below_step hC6 (below_regrown _ _ _))))); clear hK K))); refine wpQuiet_nil ?_)
    intro w7 hr7
    have hB7 := below_step hB6 (regrown_below hr7)
    have hC7 := below_step hC6 (regrown_below hr7)
    clear hr7 q1
    have q1 := cellsL P1.out
    clear c0 c1 c2 c3
    go_wp2_with fail
    have c0 := fun d os => cell_later (below_regrown w7 d os) (cell_later hC7 A0.out)
    have c1 := fun d os => cell_later (below_regrown w7 d os) (cell_later hC7 A1.out)
    have c2 := fun d os => cell_later (below_regrown w7 d os) (cell_later hC7 A2.out)
    have c3 := fun d os => cell_later (below_regrown w7 d os) (cell_later hC7 A3.out)
    have q1 := cellsR (block_later hB7 P1.out)
    (refine wp_region_quiet_below (by kernel_rfl) (by kernel_rfl) ?_; (repeat (refine wpQuiet_step (fun K hK => ?_); replace hK := Lib.hid hK; go_simp; first | (refine hK.out _ ?_; clear hK K) | (apply Exists.intro; refine ⟨fun _ => ?_, hK.out _ ?_⟩; (first | (go_at_call 19; exact Calls.regrown_of (C8.out _ (below_step hC7 (below_regrown _ _ _))))); clear hK K))); refine wpQuiet_nil ?_)
    intro w8 hr8
    have hB8 := below_step hB7 (regrown_below hr8)
    have hC8 := below_step hC7 (regrown_below hr8)
    clear hr8 q1
    have q1 := cellsL P1.out
    clear c0 c1 c2 c3
    go_wp2_with fail
    (with_reducible refine (hCount_any np c ne c2 na c4 nl c3 ad ad2 _ ad3 X E A L f _ (HX.out.later hC8) (HE.out.later hC8) (HA.out.later hC8) (HL.out.later hC8) n1 n2 n3 n4 V0.out).mono ?_)
    rintro e w9 ⟨rfl, hb9⟩
    have hB9 := below_step hB8 hb9
    have hC9 := below_step hB hB9
    clear hb9
    go_wp2_with fail
    (with_reducible refine (q33Count_any np c ne c2 na c4 nl c3 ad ad2 _ ad3 X E A L f _ (HX.out.later hC9) (HE.out.later hC9) (HA.out.later hC9) (HL.out.later hC9) n1 n2 n3 n4 V3.out).mono ?_)
    rintro e w10 ⟨rfl, hb10⟩
    have hB10 := below_step hB9 hb10
    have hC10 := below_step hB hB10
    clear hb10
    go_wp2_with fail
    (with_reducible refine (hTable_all np c ne c2 na c4 ad ad2 _ X E A f u _ (HX.out.later hC10) (HE.out.later hC10) (HA.out.later hC10) n1 n2 n4).mono ?_)
    rintro e w11 ⟨ta, tc, rfl, hb11, htab⟩
    have hB11 := below_step hB10 hb11
    have hC11 := below_step hB hB11
    clear hb11
    have TT := Lib.hid htab
    clear htab
    have hT11 := Below.refl w11.heap.size w11
    go_wp2_with fail
    (with_reducible refine (q33Table_all np c ne c2 na c4 ad ad2 _ X E A f u _ (HX.out.later hC11) (HE.out.later hC11) (HA.out.later hC11) n1 n2 n4).mono ?_)
    rintro e w12 ⟨ua, uc, rfl, hb12, htab⟩
    have hB12 := below_step hB11 hb12
    have hC12 := below_step hB hB12
    have hT12 := below_step hT11 hb12
    clear hb12
    have UU := Lib.hid htab
    clear htab
    have nT : tabN np X ne E na A f u ≤ 9223372036854775807 := by obtain ⟨_, _, _, h, _⟩ := TT.out; exact h
    go_wp2_with fail
    (with_reducible refine (q33Tables_any _ tc _ uc ta ua (fun _ => np) (fun _ => np) (tblI X A E na f u ne) (tblI X A E na f u ne) _ (TT.out.later hT12) UU.out nT nT (decide_eq_true (tabs_same _ _ _))).mono ?_)
    rintro e w13 ⟨rfl, hb13⟩
    have hB13 := below_step hB12 hb13
    have hC13 := below_step hB hB13
    clear hb13
    go_wp2_with fail
    (with_reducible refine (hWorst_any np c ne c2 na c4 m c5 ad ad2 _ ad5 X E A Y f u _ (HX.out.later hC13) (HE.out.later hC13) (HA.out.later hC13) (HY.out.later hC13) n1 n2 n4 n5).mono ?_)
    rintro e w14 ⟨hb14, wv, hz, -, -⟩
    have hB14 := below_step hB13 hb14
    have hC14 := below_step hB hB14
    clear hb14
    rw [V4.out] at hz
    subst hz
    go_wp2_with fail
    (with_reducible refine (q33Worst_any np c ne c2 na c4 m c5 ad ad2 _ ad5 X E A Y f u _ (HX.out.later hC14) (HE.out.later hC14) (HA.out.later hC14) (HY.out.later hC14) n1 n2 n4 n5 V4.out).mono ?_)
    rintro e w15 ⟨rfl, hb15⟩
    have hB15 := below_step hB14 hb15
    have hC15 := below_step hB hB15
    clear hb15
    go_wp2_with fail
    (with_reducible refine (hCheck_any np c ne c2 na c4 m c5 nt ct ad ad2 _ ad5 adt X E A Y T len f s u need _ (HX.out.later hC15) (HE.out.later hC15) (HA.out.later hC15) (HY.out.later hC15) (HT.out.later hC15) n1 n2 n4 n5 n6 V5.out).mono ?_)
    rintro e w16 ⟨rfl, hb16⟩
    have hB16 := below_step hB15 hb16
    have hC16 := below_step hB hB16
    clear hb16
    go_wp2_with fail
    (with_reducible refine (q33Check_any np c ne c2 na c4 m c5 nt ct ad ad2 _ ad5 adt X E A Y T len f s u need _ (HX.out.later hC16) (HE.out.later hC16) (HA.out.later hC16) (HY.out.later hC16) (HT.out.later hC16) n1 n2 n4 n5 n6 V5.out).mono ?_)
    rintro e w17 ⟨rfl, hb17⟩
    have hB17 := below_step hB16 hb17
    have hC17 := below_step hB hB17
    clear hb17
    go_wp2_with fail
    (with_reducible refine (hDelay_any np c ne c2 na c4 m c5 ad ad2 _ ad5 X E A Y f u need _ (HX.out.later hC17) (HE.out.later hC17) (HA.out.later hC17) (HY.out.later hC17) n1 n2 n4 n5 V6.out).mono ?_)
    rintro e w18 ⟨rfl, hb18⟩
    have hB18 := below_step hB17 hb18
    have hC18 := below_step hB hB18
    clear hb18
    go_wp2_with fail
    (with_reducible refine (q33Delay_any np c ne c2 na c4 m c5 ad ad2 _ ad5 X E A Y f u need _ (HX.out.later hC18) (HE.out.later hC18) (HA.out.later hC18) (HY.out.later hC18) n1 n2 n4 n5 V6.out).mono ?_)
    rintro e w19 ⟨rfl, hb19⟩
    have hB19 := below_step hB18 hb19
    have hC19 := below_step hB hB19
    clear hb19
    go_wp2_with fail
    go_returns
    exact ⟨rfl, hC19⟩
  obtain ⟨t1, t2, t3, t4⟩ := of_decide_eq_true Hvt.out
  clear Hvt
  by_cases z3 : 60 < u - f
  · go_wp2_with fail
    go_returns
    exact ⟨rfl, hC3⟩
  by_cases z4 : 70 < nt
  · go_wp2_with fail
    go_returns
    exact ⟨rfl, hC3⟩
  go_wp2_with fail
  have q1 := cellsR (block_later hB3 P1.out)
  (refine wp_region_quiet_below (by kernel_rfl) (by kernel_rfl) ?_; (repeat (refine wpQuiet_step (fun K hK => ?_); replace hK := Lib.hid hK; go_simp; first | (refine hK.out _ ?_; clear hK K) | (apply Exists.intro; refine ⟨fun _ => ?_, hK.out _ ?_⟩; (first | (go_at_call 14; exact Calls.regrown_of (C1.out _ (below_step hC3 (below_regrown _ _ _)))) | (go_at_call 15; exact Calls.regrown_of (C2.out _ (below_step hC3 (below_regrown _ _ _)))) | (go_at_call 16; exact Calls.regrown_of (C3.out _ (below_step hC3 (below_regrown _ _ _)))) | (go_at_call 17; exact Calls.regrown_of (C4.out _ (below_step hC3 (below_regrown _ _ _))))); clear hK K))); refine wpQuiet_nil ?_)
  intro w4 hr4
  have hB4 := below_step hB3 (regrown_below hr4)
  have hC4 := below_step hC3 (regrown_below hr4)
  clear hr4 q1
  have q1 := cellsL P1.out
  by_cases z5 : 0 < na
  rotate_left
  · clear C5 C6 C7 C8
    go_wp2_with fail
    (with_reducible refine (hCount_any np c ne c2 na c4 nl c3 ad ad2 ad4 ad3 X E A L f _ (HX.out.later hC4) (HE.out.later hC4) (HA.out.later hC4) (HL.out.later hC4) n1 n2 n3 n4 V0.out).mono ?_)
    rintro e w5 ⟨rfl, hb5⟩
    have hB5 := below_step hB4 hb5
    have hC5 := below_step hB hB5
    clear hb5
    go_wp2_with fail
    (with_reducible refine (q33Count_any np c ne c2 na c4 nl c3 ad ad2 ad4 ad3 X E A L f _ (HX.out.later hC5) (HE.out.later hC5) (HA.out.later hC5) (HL.out.later hC5) n1 n2 n3 n4 V3.out).mono ?_)
    rintro e w6 ⟨rfl, hb6⟩
    have hB6 := below_step hB5 hb6
    have hC6 := below_step hB hB6
    clear hb6
    go_wp2_with fail
    (with_reducible refine (hTable_all np c ne c2 na c4 ad ad2 ad4 X E A f u _ (HX.out.later hC6) (HE.out.later hC6) (HA.out.later hC6) n1 n2 n4).mono ?_)
    rintro e w7 ⟨ta, tc, rfl, hb7, htab⟩
    have hB7 := below_step hB6 hb7
    have hC7 := below_step hB hB7
    clear hb7
    have TT := Lib.hid htab
    clear htab
    have hT7 := Below.refl w7.heap.size w7
    go_wp2_with fail
    (with_reducible refine (q33Table_all np c ne c2 na c4 ad ad2 ad4 X E A f u _ (HX.out.later hC7) (HE.out.later hC7) (HA.out.later hC7) n1 n2 n4).mono ?_)
    rintro e w8 ⟨ua, uc, rfl, hb8, htab⟩
    have hB8 := below_step hB7 hb8
    have hC8 := below_step hB hB8
    have hT8 := below_step hT7 hb8
    clear hb8
    have UU := Lib.hid htab
    clear htab
    have nT : tabN np X ne E na A f u ≤ 9223372036854775807 := by obtain ⟨_, _, _, h, _⟩ := TT.out; exact h
    go_wp2_with fail
    (with_reducible refine (q33Tables_any _ tc _ uc ta ua (fun _ => np) (fun _ => np) (tblI X A E na f u ne) (tblI X A E na f u ne) _ (TT.out.later hT8) UU.out nT nT (decide_eq_true (tabs_same _ _ _))).mono ?_)
    rintro e w9 ⟨rfl, hb9⟩
    have hB9 := below_step hB8 hb9
    have hC9 := below_step hB hB9
    clear hb9
    go_wp2_with fail
    (with_reducible refine (hWorst_any np c ne c2 na c4 m c5 ad ad2 ad4 ad5 X E A Y f u _ (HX.out.later hC9) (HE.out.later hC9) (HA.out.later hC9) (HY.out.later hC9) n1 n2 n4 n5).mono ?_)
    rintro e w10 ⟨hb10, wv, hz, -, -⟩
    have hB10 := below_step hB9 hb10
    have hC10 := below_step hB hB10
    clear hb10
    rw [V4.out] at hz
    subst hz
    go_wp2_with fail
    (with_reducible refine (q33Worst_any np c ne c2 na c4 m c5 ad ad2 ad4 ad5 X E A Y f u _ (HX.out.later hC10) (HE.out.later hC10) (HA.out.later hC10) (HY.out.later hC10) n1 n2 n4 n5 V4.out).mono ?_)
    rintro e w11 ⟨rfl, hb11⟩
    have hB11 := below_step hB10 hb11
    have hC11 := below_step hB hB11
    clear hb11
    go_wp2_with fail
    (with_reducible refine (hCheck_any np c ne c2 na c4 m c5 nt ct ad ad2 ad4 ad5 adt X E A Y T len f s u need _ (HX.out.later hC11) (HE.out.later hC11) (HA.out.later hC11) (HY.out.later hC11) (HT.out.later hC11) n1 n2 n4 n5 n6 V5.out).mono ?_)
    rintro e w12 ⟨rfl, hb12⟩
    have hB12 := below_step hB11 hb12
    have hC12 := below_step hB hB12
    clear hb12
    go_wp2_with fail
    (with_reducible refine (q33Check_any np c ne c2 na c4 m c5 nt ct ad ad2 ad4 ad5 adt X E A Y T len f s u need _ (HX.out.later hC12) (HE.out.later hC12) (HA.out.later hC12) (HY.out.later hC12) (HT.out.later hC12) n1 n2 n4 n5 n6 V5.out).mono ?_)
    rintro e w13 ⟨rfl, hb13⟩
    have hB13 := below_step hB12 hb13
    have hC13 := below_step hB hB13
    clear hb13
    go_wp2_with fail
    (with_reducible refine (hDelay_any np c ne c2 na c4 m c5 ad ad2 ad4 ad5 X E A Y f u need _ (HX.out.later hC13) (HE.out.later hC13) (HA.out.later hC13) (HY.out.later hC13) n1 n2 n4 n5 V6.out).mono ?_)
    rintro e w14 ⟨rfl, hb14⟩
    have hB14 := below_step hB13 hb14
    have hC14 := below_step hB hB14
    clear hb14
    go_wp2_with fail
    (with_reducible refine (q33Delay_any np c ne c2 na c4 m c5 ad ad2 ad4 ad5 X E A Y f u need _ (HX.out.later hC14) (HE.out.later hC14) (HA.out.later hC14) (HY.out.later hC14) n1 n2 n4 n5 V6.out).mono ?_)
    rintro e w15 ⟨rfl, hb15⟩
    have hB15 := below_step hB14 hb15
    have hC15 := below_step hB hB15
    clear hb15
    go_wp2_with fail
    go_returns
    exact ⟨rfl, hC15⟩
  obtain ⟨g, o, rfl, hca⟩ := HA.out.row z5
  have A0 := Lib.hid (hca 0 (by omega))
  have A1 := Lib.hid (hca 1 (by omega))
  have A2 := Lib.hid (hca 2 (by omega))
  have A3 := Lib.hid (hca 3 (by omega))
  clear hca
  simp only [Nat.zero_mul, Nat.add_zero] at A0 A1 A2 A3
  go_wp2_with fail
  have c0 := fun d os => cell_later (below_regrown w4 d os) (cell_later hC4 A0.out)
  have c1 := fun d os => cell_later (below_regrown w4 d os) (cell_later hC4 A1.out)
  have c2 := fun d os => cell_later (below_regrown w4 d os) (cell_later hC4 A2.out)
  have c3 := fun d os => cell_later (below_regrown w4 d os) (cell_later hC4 A3.out)
  have q1 := cellsR (block_later hB4 P1.out)
  (refine wp_region_quiet_below (by kernel_rfl) (by kernel_rfl) ?_; (repeat (refine wpQuiet_step (fun K hK => ?_); replace hK := Lib.hid hK; go_simp; first | (refine hK.out _ ?_; clear hK K) | (apply Exists.intro; refine ⟨fun _ => ?_, hK.out _ ?_⟩; (first | (go_at_call 18; exact Calls.regrown_of (C5.out _ (below_step hC4 (below_regrown _ _ _))))); clear hK K))); refine wpQuiet_nil ?_)
  intro w5 hr5
  have hB5 := below_step hB4 (regrown_below hr5)
  have hC5 := below_step hC4 (regrown_below hr5)
  clear hr5 q1
  have q1 := cellsL P1.out
  clear c0 c1 c2 c3
  go_wp2_with fail
  have c0 := fun d os => cell_later (below_regrown w5 d os) (cell_later hC5 A0.out)
  have c1 := fun d os => cell_later (below_regrown w5 d os) (cell_later hC5 A1.out)
  have c2 := fun d os => cell_later (below_regrown w5 d os) (cell_later hC5 A2.out)
  have c3 := fun d os => cell_later (below_regrown w5 d os) (cell_later hC5 A3.out)
  have q1 := cellsR (block_later hB5 P1.out)
  (refine wp_region_quiet_below (by kernel_rfl) (by kernel_rfl) ?_; (repeat (refine wpQuiet_step (fun K hK => ?_); replace hK := Lib.hid hK; go_simp; first | (refine hK.out _ ?_; clear hK K) | (apply Exists.intro; refine ⟨fun _ => ?_, hK.out _ ?_⟩; (first | (go_at_call 19; exact Calls.regrown_of (C6.out _ (below_step hC5 (below_regrown _ _ _))))); clear hK K))); refine wpQuiet_nil ?_)
  intro w6 hr6
  have hB6 := below_step hB5 (regrown_below hr6)
  have hC6 := below_step hC5 (regrown_below hr6)
  clear hr6 q1
  have q1 := cellsL P1.out
  clear c0 c1 c2 c3
  go_wp2_with fail
  have c0 := fun d os => cell_later (below_regrown w6 d os) (cell_later hC6 A0.out)
  have c1 := fun d os => cell_later (below_regrown w6 d os) (cell_later hC6 A1.out)
  have c2 := fun d os => cell_later (below_regrown w6 d os) (cell_later hC6 A2.out)
  have c3 := fun d os => cell_later (below_regrown w6 d os) (cell_later hC6 A3.out)
  have q1 := cellsR (block_later hB6 P1.out)
  (refine wp_region_quiet_below (by kernel_rfl) (by kernel_rfl) ?_; (repeat (refine wpQuiet_step (fun K hK => ?_); replace hK := Lib.hid hK; go_simp; first | (refine hK.out _ ?_; clear hK K) | (apply Exists.intro; refine ⟨fun _ => ?_, hK.out _ ?_⟩; (first | (go_at_call 18; exact Calls.regrown_of (C7.out _ (below_step hC6 (below_regrown _ _ _))))); clear hK K))); refine wpQuiet_nil ?_)
  intro w7 hr7
  have hB7 := below_step hB6 (regrown_below hr7)
  have hC7 := below_step hC6 (regrown_below hr7)
  clear hr7 q1
  have q1 := cellsL P1.out
  clear c0 c1 c2 c3
  go_wp2_with fail
  have c0 := fun d os => cell_later (below_regrown w7 d os) (cell_later hC7 A0.out)
  have c1 := fun d os => cell_later (below_regrown w7 d os) (cell_later hC7 A1.out)
  have c2 := fun d os => cell_later (below_regrown w7 d os) (cell_later hC7 A2.out)
  have c3 := fun d os => cell_later (below_regrown w7 d os) (cell_later hC7 A3.out)
  have q1 := cellsR (block_later hB7 P1.out)
  (refine wp_region_quiet_below (by kernel_rfl) (by kernel_rfl) ?_; (repeat (refine wpQuiet_step (fun K hK => ?_); replace hK := Lib.hid hK; go_simp; first | (refine hK.out _ ?_; clear hK K) | (apply Exists.intro; refine ⟨fun _ => ?_, hK.out _ ?_⟩; (first | (go_at_call 19; exact Calls.regrown_of (C8.out _ (below_step hC7 (below_regrown _ _ _))))); clear hK K))); refine wpQuiet_nil ?_)
  intro w8 hr8
  have hB8 := below_step hB7 (regrown_below hr8)
  have hC8 := below_step hC7 (regrown_below hr8)
  clear hr8 q1
  have q1 := cellsL P1.out
  clear c0 c1 c2 c3
  go_wp2_with fail
  (with_reducible refine (hCount_any np c ne c2 na c4 nl c3 ad ad2 _ ad3 X E A L f _ (HX.out.later hC8) (HE.out.later hC8) (HA.out.later hC8) (HL.out.later hC8) n1 n2 n3 n4 V0.out).mono ?_)
  rintro e w9 ⟨rfl, hb9⟩
  have hB9 := below_step hB8 hb9
  have hC9 := below_step hB hB9
  clear hb9
  go_wp2_with fail
  (with_reducible refine (q33Count_any np c ne c2 na c4 nl c3 ad ad2 _ ad3 X E A L f _ (HX.out.later hC9) (HE.out.later hC9) (HA.out.later hC9) (HL.out.later hC9) n1 n2 n3 n4 V3.out).mono ?_)
  rintro e w10 ⟨rfl, hb10⟩
  have hB10 := below_step hB9 hb10
  have hC10 := below_step hB hB10
  clear hb10
  go_wp2_with fail
  (with_reducible refine (hTable_all np c ne c2 na c4 ad ad2 _ X E A f u _ (HX.out.later hC10) (HE.out.later hC10) (HA.out.later hC10) n1 n2 n4).mono ?_)
  rintro e w11 ⟨ta, tc, rfl, hb11, htab⟩
  have hB11 := below_step hB10 hb11
  have hC11 := below_step hB hB11
  clear hb11
  have TT := Lib.hid htab
  clear htab
  have hT11 := Below.refl w11.heap.size w11
  go_wp2_with fail
  (with_reducible refine (q33Table_all np c ne c2 na c4 ad ad2 _ X E A f u _ (HX.out.later hC11) (HE.out.later hC11) (HA.out.later hC11) n1 n2 n4).mono ?_)
  rintro e w12 ⟨ua, uc, rfl, hb12, htab⟩
  have hB12 := below_step hB11 hb12
  have hC12 := below_step hB hB12
  have hT12 := below_step hT11 hb12
  clear hb12
  have UU := Lib.hid htab
  clear htab
  have nT : tabN np X ne E na A f u ≤ 9223372036854775807 := by obtain ⟨_, _, _, h, _⟩ := TT.out; exact h
  go_wp2_with fail
  (with_reducible refine (q33Tables_any _ tc _ uc ta ua (fun _ => np) (fun _ => np) (tblI X A E na f u ne) (tblI X A E na f u ne) _ (TT.out.later hT12) UU.out nT nT (decide_eq_true (tabs_same _ _ _))).mono ?_)
  rintro e w13 ⟨rfl, hb13⟩
  have hB13 := below_step hB12 hb13
  have hC13 := below_step hB hB13
  clear hb13
  go_wp2_with fail
  (with_reducible refine (hWorst_any np c ne c2 na c4 m c5 ad ad2 _ ad5 X E A Y f u _ (HX.out.later hC13) (HE.out.later hC13) (HA.out.later hC13) (HY.out.later hC13) n1 n2 n4 n5).mono ?_)
  rintro e w14 ⟨hb14, wv, hz, -, -⟩
  have hB14 := below_step hB13 hb14
  have hC14 := below_step hB hB14
  clear hb14
  rw [V4.out] at hz
  subst hz
  go_wp2_with fail
  (with_reducible refine (q33Worst_any np c ne c2 na c4 m c5 ad ad2 _ ad5 X E A Y f u _ (HX.out.later hC14) (HE.out.later hC14) (HA.out.later hC14) (HY.out.later hC14) n1 n2 n4 n5 V4.out).mono ?_)
  rintro e w15 ⟨rfl, hb15⟩
  have hB15 := below_step hB14 hb15
  have hC15 := below_step hB hB15
  clear hb15
  go_wp2_with fail
  (with_reducible refine (hCheck_any np c ne c2 na c4 m c5 nt ct ad ad2 _ ad5 adt X E A Y T len f s u need _ (HX.out.later hC15) (HE.out.later hC15) (HA.out.later hC15) (HY.out.later hC15) (HT.out.later hC15) n1 n2 n4 n5 n6 V5.out).mono ?_)
  rintro e w16 ⟨rfl, hb16⟩
  have hB16 := below_step hB15 hb16
  have hC16 := below_step hB hB16
  clear hb16
  go_wp2_with fail
  (with_reducible refine (q33Check_any np c ne c2 na c4 m c5 nt ct ad ad2 _ ad5 adt X E A Y T len f s u need _ (HX.out.later hC16) (HE.out.later hC16) (HA.out.later hC16) (HY.out.later hC16) (HT.out.later hC16) n1 n2 n4 n5 n6 V5.out).mono ?_)
  rintro e w17 ⟨rfl, hb17⟩
  have hB17 := below_step hB16 hb17
  have hC17 := below_step hB hB17
  clear hb17
  go_wp2_with fail
  (with_reducible refine (hDelay_any np c ne c2 na c4 m c5 ad ad2 _ ad5 X E A Y f u need _ (HX.out.later hC17) (HE.out.later hC17) (HA.out.later hC17) (HY.out.later hC17) n1 n2 n4 n5 V6.out).mono ?_)
  rintro e w18 ⟨rfl, hb18⟩
  have hB18 := below_step hB17 hb18
  have hC18 := below_step hB hB18
  clear hb18
  go_wp2_with fail
  (with_reducible refine (q33Delay_any np c ne c2 na c4 m c5 ad ad2 _ ad5 X E A Y f u need _ (HX.out.later hC18) (HE.out.later hC18) (HA.out.later hC18) (HY.out.later hC18) n1 n2 n4 n5 V6.out).mono ?_)
  rintro e w19 ⟨rfl, hb19⟩
  have hB19 := below_step hB18 hb19
  have hC19 := below_step hB hB19
  clear hb19
  go_wp2_with fail
  go_returns
  exact ⟨rfl, hC19⟩
set_option maxRecDepth 100000 in
theorem reachMatchesReference_lifted (os : Os) (started : os.Started) (H : Type) (enc : TypeId × Value → H) :
    ReturnsInHanded {} Try.checked os 3 .any (Rows.reachMatchesReferenceSpec.pre6 enc Try.prog Try.f3 Rows.reachMatchesReferenceRow.domain false) (Rows.reachMatchesReferenceSpec.post enc Try.prog Try.f3 false true false false) := by
  refine returnsInHanded_of_change (C := Try.checked) own_knob started (by kernel_rfl) Try.func3
    (ChangeSpec.witness6 (enc := enc) (C := Try.checked) false ⟨#[], #[.agg #[.slice none 0 0, .slice none 0 0], .slice none 0 0, .slice none 0 0, .slice none 0 0, .int .i64 0, .int .i64 0, .int .i64 0, .int .i64 0, .slice none 0 0], []⟩ 8 (by kernel_rfl) (by kernel_rfl) (by kernel_rfl) (by kernel_rfl)) ?_
  intro W base args ds gs before hval0 hW hcnd _
  have hval : ∀ (j : Nat) t v, Try.f3.params[j]? = some t → args[j]? = some v → Value.okWide Try.prog W .any base t v := hval0
  have hW' := hW
  obtain ⟨p, q, hA0, hV, rfl, hfz, hnd⟩ := hW
  have hA : DataW.TrodAll enc Try.prog W 0 (fun _ => true) true Try.f3.params.toList args.toList ds p := hA0
  rw [Try.params3] at hA hval
  obtain ⟨v0, vs0, d0, ds0, p0, q0, hargs, rfl, rfl, h0, r0⟩ := trodAll_cons hA
  obtain ⟨v1, vs1, d1, ds1, p1, q1, rfl, rfl, rfl, h1, r1⟩ := trodAll_cons r0
  obtain ⟨v2, vs2, d2, ds2, p2, q2, rfl, rfl, rfl, h2, r2⟩ := trodAll_cons r1
  obtain ⟨v3, vs3, d3, ds3, p3, q3, rfl, rfl, rfl, h3, r3⟩ := trodAll_cons r2
  obtain ⟨v4, vs4, d4, ds4, p4, q4, rfl, rfl, rfl, h4, r4⟩ := trodAll_cons r3
  obtain ⟨v5, vs5, d5, ds5, p5, q5, rfl, rfl, rfl, h5, r5⟩ := trodAll_cons r4
  obtain ⟨v6, vs6, d6, ds6, p6, q6, rfl, rfl, rfl, h6, r6⟩ := trodAll_cons r5
  obtain ⟨v7, vs7, d7, ds7, p7, q7, rfl, rfl, rfl, h7, r7⟩ := trodAll_cons r6
  obtain ⟨v8, vs8, d8, ds8, p8, q8, rfl, rfl, rfl, h8, r8⟩ := trodAll_cons r7
  obtain ⟨rfl, rfl, rfl⟩ := trodAll_nil r8
  obtain rfl : args = #[v0, v1, v2, v3, v4, v5, v6, v7, v8] := by cases args; simp_all
  obtain ⟨rfl, rfl⟩ := trodVars_none hV
  simp only [List.append_nil] at hW' hA0
  obtain ⟨_, _, _, _, _, _, _, _, e0, hnX, hnE⟩ := open_net (hval 0 25 v0 rfl rfl) h0
  subst e0
  obtain ⟨_, _, _, _, e1, hairs⟩ := open_airs (hval 1 26 v1 rfl rfl) h1
  subst e1
  obtain ⟨_, _, _, _, e2, hlist⟩ := open_stops (hval 2 27 v2 rfl rfl) h2
  subst e2
  obtain ⟨_, _, _, _, e3, harea⟩ := open_ints (hval 3 28 v3 rfl rfl) h3
  subst e3
  obtain ⟨f, e4, _, _, wf⟩ := open_int Try.underlying3 (hval 4 3 v4 rfl rfl) h4
  subst e4
  obtain ⟨s, e5, _, _, ws⟩ := open_int Try.underlying3 (hval 5 3 v5 rfl rfl) h5
  subst e5
  obtain ⟨u, e6, _, _, wu⟩ := open_int Try.underlying3 (hval 6 3 v6 rfl rfl) h6
  subst e6
  obtain ⟨need, e7, _, _, wneed⟩ := open_int Try.underlying3 (hval 7 3 v7 rfl rfl) h7
  subst e7
  obtain ⟨_, _, _, _, _, e8, htable⟩ := open_tab (hval 8 29 v8 rfl rfl) h8
  subst e8
  refine (reachMatchesReference_walk f s u need hnX hnE hairs hlist harea htable).mono fun e W' ⟨he, hg⟩ => ?_
  subst he
  exact ⟨_, rfl, post_law laid_out (by rw [Try.params3]; intro t ht; simp only [List.mem_cons, List.not_mem_nil, or_false] at ht; rcases ht with rfl | rfl | rfl | rfl | rfl | rfl | rfl | rfl | rfl <;> exact ⟨by kernel_rfl, of_decide_eq_true (by kernel_rfl)⟩) rfl hW' hA0 rfl rfl rfl rfl Try.underlying4 hg⟩
theorem reachMatchesReference_over : Rows.reachMatchesReferenceRow.holds Try.pinned (OpenSpec.ofChange Rows.reachMatchesReferenceSpec) :=
  OpenClaim.holds_of_wide 3 Try.f3 rfl rfl rfl rfl rfl rfl rfl ⟨rfl, rfl, rfl, rfl, rfl⟩ rfl rfl rfl rfl rfl (by kernel_rfl) Try.func3 (by kernel_rfl)
    (of_decide_eq_true (by kernel_rfl)) (by unfold Func.isWrapper; first | (rw [if_pos (by decide +kernel)]; kernel_rfl) | (rw [if_neg (by decide +kernel)]; exact ⟨rfl, rfl⟩))
    (fun os started H enc _ => reachMatchesReference_lifted os started H enc)
theorem reachMatchesReference_holds : Rows.ReachMatchesReferenceSaid :=
  reachMatchesReference_over
#print axioms reachMatchesReference_holds
end Go.Proofs.Ytcpnkhiillgffaa
