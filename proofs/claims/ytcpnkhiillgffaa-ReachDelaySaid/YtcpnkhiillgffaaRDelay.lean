/- For any net, pieces, area, times and need: the statement ReachDelay of chapter 33 (from the delay on the worst tracks have as many pieces as needed, a minute before it not; with no delay not at the last time): the law's function returns true and leaves its arguments as they were. No condition. -/
import Derived.Test.YtcpnkhiillgffaaRhB
import Derived.Test.YtcpnkhiillgffaaRhC
import Derived.Test.YtcpnkhiillgffaaRhF
import Derived.Test.YtcpnkhiillgffaaFrameR
namespace Go.Proofs.Ytcpnkhiillgffaa
open Go.ChangeShapes Go.WideShapes Go.ChangeAt Go.RowKit
attribute [local go_sem] bqOp bqAll bqUpon field_stop0 field_stop1
attribute [local irreducible] wpQuiet wpBQ
set_option linter.unusedVariables false
theorem worst_at {np ne na m : Nat} {X E A Y : Nat → Nat → Int} {f u need : Int} (h : TblOk np X ne E na A f u ∧ AreaOk np m Y) (hm : 1 ≤ m) {k : Nat} (hk : f + (k : Int) ≤ u) :
    ∃ x, worstQ np X ne E na A m Y f (f + (k : Int)) = (x, 0) ∧ (need ≤ x ↔ enoughT m Y (tblI X A E na f u ne) need k = true) := by
  obtain ⟨⟨hN, hA, t1, t2, t3, t4⟩, hY⟩ := h
  refine ⟨minA (tblI X A E na f (f + (k : Int)) ne (f + (k : Int) - f).toNat) Y m, ?_, ?_⟩
  · unfold worstQ
    rw [if_pos ⟨⟨hN, hA, t1, by omega, by omega, by omega⟩, hY⟩, if_neg (by omega)]
  · rw [enough_min hm, show (f + (k : Int) - f).toNat = k by omega]
    unfold enoughT
    rw [decide_eq_true_iff]
    have e : tblI X A E na f (f + (k : Int)) ne k = tblI X A E na f u ne k := by
      funext j
      unfold tblI
      rw [tblN_le X A E na f ne (show k < k + 1 by omega) (show k + 1 ≤ (f + (k : Int) - f + 1).toNat by omega), tblN_le X A E na f ne (show k < k + 1 by omega) (show k + 1 ≤ (u - f + 1).toNat by omega)]
    rw [e]
set_option maxRecDepth 100000 in
set_option maxHeartbeats 8000000 in
theorem reachDelay_walk {np c ne c2 na c4 m c5 : Nat} {ad ad2 ad4 ad5 : Option Addr} {X E A Y : Nat → Nat → Int} (f u need time : Int) {w : World} (hX : Rows 2 w (.slice ad np c) np X) (hE : Rows 4 w (.slice ad2 ne c2) ne E) (hA : Rows 4 w (.slice ad4 na c4) na A) (hY : Rows 1 w (.slice ad5 m c5) m Y) :
    Calls Try.prog 7 #[.agg #[.slice ad np c, .slice ad2 ne c2], .slice ad4 na c4, .slice ad5 m c5, .int .i64 f, .int .i64 u, .int .i64 need, .int .i64 time] w fun e w' => e = .returned (.bool true) ∧ Below w.heap.size w w' := by
  have n1 : np ≤ 9223372036854775807 := by obtain ⟨_, _, _, h, _⟩ := hX; exact h
  have n2 : ne ≤ 9223372036854775807 := by obtain ⟨_, _, _, h, _⟩ := hE; exact h
  have n4 : na ≤ 9223372036854775807 := by obtain ⟨_, _, _, h, _⟩ := hA; exact h
  have n5 : m ≤ 9223372036854775807 := by obtain ⟨_, _, _, h, _⟩ := hY; exact h
  have HX := Lib.hid hX
  have HE := Lib.hid hE
  have HA := Lib.hid hA
  have HY := Lib.hid hY
  clear hX hE hA hY
  go_enter Try.func7, Try.ntmps7
  go_wp2_with fail
  refine calls_named fun W hW => ?_
  obtain ⟨p1, hB⟩ := box1 hW
  clear hW
  have P1 := Lib.hid p1
  clear p1
  have q1 := cellsL P1.out
  (with_reducible refine (head33_true _).mono ?_)
  rintro e w1 ⟨rfl, hB1⟩
  have hC1 := below_step hB hB1
  go_wp2_with fail
  obtain ⟨vf, hvf⟩ : ∃ v, decide (FewOk np ne na E) = v := ⟨_, rfl⟩
  have Hvf := Lib.hid hvf
  clear hvf
  (with_reducible refine (q33Few_any np c ne c2 na c4 ad ad2 ad4 E _ (HE.out.later hC1) Hvf.out).mono ?_)
  rintro e w2 ⟨rfl, hb2⟩
  have hB2 := below_step hB1 hb2
  have hC2 := below_step hB hB2
  clear hb2
  cases vf
  · go_wp2_with fail
    go_returns
    exact ⟨rfl, hC2⟩
  have FEW : FewOk np ne na E := of_decide_eq_true Hvf.out
  have FW := Lib.hid FEW
  clear FEW Hvf
  go_wp2_with fail
  obtain ⟨vt, hvt⟩ : ∃ v, decide (0 ≤ f ∧ f ≤ u ∧ u ≤ 10000000 ∧ u - f ≤ 400) = v := ⟨_, rfl⟩
  have Hvt := Lib.hid hvt
  clear hvt
  (with_reducible refine (q33Times_any f u _ Hvt.out).mono ?_)
  rintro e w3 ⟨rfl, hb3⟩
  have hB3 := below_step hB2 hb3
  have hC3 := below_step hB hB3
  clear hb3
  cases vt
  · go_wp2_with fail
    go_returns
    exact ⟨rfl, hC3⟩
  obtain ⟨t1, t2, t3, t4⟩ := of_decide_eq_true Hvt.out
  have TM := Lib.hid (show TimesOk f u from of_decide_eq_true Hvt.out)
  clear Hvt
  by_cases z2 : 60 < u - f
  · go_wp2_with fail
    go_returns
    exact ⟨rfl, hC3⟩
  by_cases hm : m = 0
  · subst hm
    go_wp2_with fail
    go_returns
    exact ⟨rfl, hC3⟩
  have d0 : ((m : Int) == 0) = false := by simp; omega
  have m1 : 1 ≤ m := by omega
  go_wp2_with fail
  obtain ⟨⟨dv, de⟩, hd⟩ : ∃ r, delayQ np X ne E na A m Y f u need = r := ⟨_, rfl⟩
  have DD := Lib.hid hd
  (with_reducible refine (hDelay_any np c ne c2 na c4 m c5 ad ad2 ad4 ad5 X E A Y f u need _ (HX.out.later hC3) (HE.out.later hC3) (HA.out.later hC3) (HY.out.later hC3) n1 n2 n4 n5 DD.out).mono ?_)
  rintro e w4 ⟨rfl, hb4⟩
  have hB4 := below_step hB3 hb4
  have hC4 := below_step hB hB4
  clear hb4
  clear DD
  unfold delayQ at hd
  by_cases g : TblOk np X ne E na A f u ∧ AreaOk np m Y ∧ (0 ≤ need ∧ need ≤ 400)
  rotate_left
  · rw [if_neg g] at hd
    obtain ⟨rfl, rfl⟩ := Prod.mk.inj hd
    clear hd g
    go_wp2_with fail
    go_returns
    exact ⟨rfl, hC4⟩
  rw [if_pos g] at hd
  have WA := fun k hk => worst_at (need := need) (k := k) ⟨g.1, g.2.1⟩ m1 hk
  have sp := backN_spec (ok := enoughT m Y (tblI X A E na f u ne) need) (u - f + 1).toNat
  obtain ⟨b, hb0⟩ : ∃ b, delayB np X ne E na A m Y f u need = b := ⟨_, rfl⟩
  rw [show backN (enoughT m Y (tblI X A E na f u ne) need) (u - f + 1).toNat = b from hb0] at sp
  rw [hb0] at hd
  obtain ⟨s1, s2, s3⟩ := sp
  clear g hb0
  by_cases hn : b = (u - f + 1).toNat
  · rw [if_pos hn] at hd
    obtain ⟨rfl, rfl⟩ := Prod.mk.inj hd
    obtain ⟨x, hx, hi⟩ := WA (u - f).toNat (by omega)
    rw [show f + ((u - f).toNat : Int) = u by omega] at hx
    have hs := s3 (by omega)
    rw [show b - 1 = (u - f).toNat by omega] at hs
    have hlt : x < need := by
      rcases Int.lt_or_le x need with h | h
      · exact h
      · rw [hi.1 h] at hs; cases hs
    clear hd WA s1 s2 s3 hi hs
    go_wp2_with fail
    (with_reducible refine (hWorst_any np c ne c2 na c4 m c5 ad ad2 ad4 ad5 X E A Y f u _ (HX.out.later hC4) (HE.out.later hC4) (HA.out.later hC4) (HY.out.later hC4) n1 n2 n4 n5).mono ?_)
    rintro e w5 ⟨hb5, lv, hz, -, -⟩
    have hB5 := below_step hB4 hb5
    have hC5 := below_step hB hB5
    clear hb5
    rw [hx] at hz
    subst hz
    go_wp2_with fail
    go_returns
    exact ⟨rfl, hC5⟩
  rw [if_neg hn] at hd
  obtain ⟨rfl, rfl⟩ := Prod.mk.inj hd
  clear hd
  by_cases b0 : 0 < b
  rotate_left
  · obtain rfl : b = 0 := by omega
    by_cases z3 : time < f
    · go_wp2_with fail
      go_returns
      exact ⟨rfl, hC4⟩
    by_cases z4 : u < time
    · go_wp2_with fail
      go_returns
      exact ⟨rfl, hC4⟩
    obtain ⟨x, hx, hi⟩ := WA (time - f).toNat (by omega)
    rw [show f + ((time - f).toNat : Int) = time by omega] at hx
    have hle : need ≤ x := hi.2 (s2 _ (by omega) (by omega))
    clear hi WA s1 s2 s3
    go_wp2_with fail
    (with_reducible refine (hWorst_any np c ne c2 na c4 m c5 ad ad2 ad4 ad5 X E A Y f time _ (HX.out.later hC4) (HE.out.later hC4) (HA.out.later hC4) (HY.out.later hC4) n1 n2 n4 n5).mono ?_)
    rintro e w5 ⟨hb5, lv, hz, -, -⟩
    have hB5 := below_step hB4 hb5
    have hC5 := below_step hB hB5
    clear hb5
    rw [hx] at hz
    subst hz
    go_wp2_with fail
    go_returns
    exact ⟨rfl, hC5⟩
  obtain ⟨x0, hx, hi0⟩ := WA (b - 1) (by omega)
  rw [show f + ((b - 1 : Nat) : Int) = f + (b : Int) - 1 by omega] at hx
  have hlt : x0 < need := by
    have hs := s3 b0
    rcases Int.lt_or_le x0 need with h | h
    · exact h
    · rw [hi0.1 h] at hs; cases hs
  clear hi0
  go_wp2_with fail
  (with_reducible refine (hWorst_any np c ne c2 na c4 m c5 ad ad2 ad4 ad5 X E A Y f (f + (b : Int) - 1) _ (HX.out.later hC4) (HE.out.later hC4) (HA.out.later hC4) (HY.out.later hC4) n1 n2 n4 n5).mono ?_)
  rintro e w5 ⟨hb5, lv, hz, -, -⟩
  have hB5 := below_step hB4 hb5
  have hC5 := below_step hB hB5
  clear hb5
  rw [hx] at hz
  subst hz
  clear hx
  by_cases z3 : time < f + (b : Int)
  · go_wp2_with fail
    go_returns
    exact ⟨rfl, hC5⟩
  by_cases z4 : u < time
  · go_wp2_with fail
    go_returns
    exact ⟨rfl, hC5⟩
  obtain ⟨x, hx, hi⟩ := WA (time - f).toNat (by omega)
  rw [show f + ((time - f).toNat : Int) = time by omega] at hx
  have hle : need ≤ x := hi.2 (s2 _ (by omega) (by omega))
  clear hi WA s1 s2 s3
  go_wp2_with fail
  (with_reducible refine (hWorst_any np c ne c2 na c4 m c5 ad ad2 ad4 ad5 X E A Y f time _ (HX.out.later hC5) (HE.out.later hC5) (HA.out.later hC5) (HY.out.later hC5) n1 n2 n4 n5).mono ?_)
  rintro e w6 ⟨hb6, lv, hz, -, -⟩
  have hB6 := below_step hB5 hb6
  have hC6 := below_step hB hB6
  clear hb6
  rw [hx] at hz
  subst hz
  go_wp2_with fail
  go_returns
  exact ⟨rfl, hC6⟩
set_option maxRecDepth 100000 in
theorem reachDelay_lifted (os : Os) (started : os.Started) (H : Type) (enc : TypeId × Value → H) :
    ReturnsInHanded {} Try.checked os 7 .any (Rows.reachDelaySpec.pre6 enc Try.prog Try.f7 Rows.reachDelayRow.domain false) (Rows.reachDelaySpec.post enc Try.prog Try.f7 false true false false) := by
  refine returnsInHanded_of_change (C := Try.checked) own_knob started (by kernel_rfl) Try.func7
    (ChangeSpec.witness6 (enc := enc) (C := Try.checked) false ⟨#[], #[.agg #[.slice none 0 0, .slice none 0 0], .slice none 0 0, .slice none 0 0, .int .i64 0, .int .i64 0, .int .i64 0, .int .i64 0], []⟩ 8 (by kernel_rfl) (by kernel_rfl) (by kernel_rfl) (by kernel_rfl)) ?_
  intro W base args ds gs before hval0 hW hcnd _
  have hval : ∀ (j : Nat) t v, Try.f7.params[j]? = some t → args[j]? = some v → Value.okWide Try.prog W .any base t v := hval0
  have hW' := hW
  obtain ⟨p, q, hA0, hV, rfl, hfz, hnd⟩ := hW
  have hA : DataW.TrodAll enc Try.prog W 0 (fun _ => true) true Try.f7.params.toList args.toList ds p := hA0
  rw [Try.params7] at hA hval
  obtain ⟨v0, vs0, d0, ds0, p0, q0, hargs, rfl, rfl, h0, r0⟩ := trodAll_cons hA
  obtain ⟨v1, vs1, d1, ds1, p1, q1, rfl, rfl, rfl, h1, r1⟩ := trodAll_cons r0
  obtain ⟨v2, vs2, d2, ds2, p2, q2, rfl, rfl, rfl, h2, r2⟩ := trodAll_cons r1
  obtain ⟨v3, vs3, d3, ds3, p3, q3, rfl, rfl, rfl, h3, r3⟩ := trodAll_cons r2
  obtain ⟨v4, vs4, d4, ds4, p4, q4, rfl, rfl, rfl, h4, r4⟩ := trodAll_cons r3
  obtain ⟨v5, vs5, d5, ds5, p5, q5, rfl, rfl, rfl, h5, r5⟩ := trodAll_cons r4
  obtain ⟨v6, vs6, d6, ds6, p6, q6, rfl, rfl, rfl, h6, r6⟩ := trodAll_cons r5
  obtain ⟨rfl, rfl, rfl⟩ := trodAll_nil r6
  obtain rfl : args = #[v0, v1, v2, v3, v4, v5, v6] := by cases args; simp_all
  obtain ⟨rfl, rfl⟩ := trodVars_none hV
  simp only [List.append_nil] at hW' hA0
  obtain ⟨_, _, _, _, _, _, _, _, e0, hnX, hnE⟩ := open_net (hval 0 25 v0 rfl rfl) h0
  subst e0
  obtain ⟨_, _, _, _, e1, hairs⟩ := open_airs (hval 1 26 v1 rfl rfl) h1
  subst e1
  obtain ⟨_, _, _, _, e2, harea⟩ := open_ints (hval 2 28 v2 rfl rfl) h2
  subst e2
  obtain ⟨f, e3, _, _, wf⟩ := open_int Try.underlying3 (hval 3 3 v3 rfl rfl) h3
  subst e3
  obtain ⟨u, e4, _, _, wu⟩ := open_int Try.underlying3 (hval 4 3 v4 rfl rfl) h4
  subst e4
  obtain ⟨need, e5, _, _, wneed⟩ := open_int Try.underlying3 (hval 5 3 v5 rfl rfl) h5
  subst e5
  obtain ⟨time, e6, _, _, wtime⟩ := open_int Try.underlying3 (hval 6 3 v6 rfl rfl) h6
  subst e6
  refine (reachDelay_walk f u need time hnX hnE hairs harea).mono fun e W' ⟨he, hg⟩ => ?_
  subst he
  exact ⟨_, rfl, post_law laid_out (by rw [Try.params7]; intro t ht; simp only [List.mem_cons, List.not_mem_nil, or_false] at ht; rcases ht with rfl | rfl | rfl | rfl | rfl | rfl | rfl <;> exact ⟨by kernel_rfl, of_decide_eq_true (by kernel_rfl)⟩) rfl hW' hA0 rfl rfl rfl rfl Try.underlying4 hg⟩
theorem reachDelay_over : Rows.reachDelayRow.holds Try.pinned (OpenSpec.ofChange Rows.reachDelaySpec) :=
  OpenClaim.holds_of_wide 7 Try.f7 rfl rfl rfl rfl rfl rfl rfl ⟨rfl, rfl, rfl, rfl, rfl⟩ rfl rfl rfl rfl rfl (by kernel_rfl) Try.func7 (by kernel_rfl)
    (of_decide_eq_true (by kernel_rfl)) (by unfold Func.isWrapper; first | (rw [if_pos (by decide +kernel)]; kernel_rfl) | (rw [if_neg (by decide +kernel)]; exact ⟨rfl, rfl⟩))
    (fun os started H enc _ => reachDelay_lifted os started H enc)
theorem reachDelay_holds : Rows.ReachDelaySaid :=
  reachDelay_over
#print axioms reachDelay_holds
end Go.Proofs.Ytcpnkhiillgffaa
