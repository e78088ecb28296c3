/- For any net, pieces, track and times: the statement ReachLeast of chapter 33 (a ship on a track hears no less than the table says): the law's function returns true and leaves its arguments as they were. No condition. -/
import Derived.Test.YtcpnkhiillgffaaRhB
import Derived.Test.YtcpnkhiillgffaaRhC
import Derived.Test.YtcpnkhiillgffaaRhF
import Derived.Test.YtcpnkhiillgffaaFrameR
namespace Go.Proofs.Ytcpnkhiillgffaa
open Go.ChangeShapes Go.WideShapes Go.ChangeAt Go.RowKit
attribute [local go_sem] bqOp bqAll bqUpon field_stop0 field_stop1
attribute [local irreducible] wpQuiet wpBQ
set_option linter.unusedVariables false
set_option maxRecDepth 100000 in
set_option maxHeartbeats 8000000 in
theorem reachLeast_walk {np c ne c2 na c4 nl c3 : Nat} {ad ad2 ad4 ad3 : Option Addr} {X E A L : Nat → Nat → Int} (f u : Int) {w : World} (hX : Rows 2 w (.slice ad np c) np X) (hE : Rows 4 w (.slice ad2 ne c2) ne E) (hA : Rows 4 w (.slice ad4 na c4) na A) (hL : Rows 2 w (.slice ad3 nl c3) nl L) :
    Calls Try.prog 4 #[.agg #[.slice ad np c, .slice ad2 ne c2], .slice ad4 na c4, .slice ad3 nl c3, .int .i64 f, .int .i64 u] w fun e w' => e = .returned (.bool true) ∧ Below w.heap.size w w' := by
  have n1 : np ≤ 9223372036854775807 := by obtain ⟨_, _, _, h, _⟩ := hX; exact h
  have n2 : ne ≤ 9223372036854775807 := by obtain ⟨_, _, _, h, _⟩ := hE; exact h
  have n4 : na ≤ 9223372036854775807 := by obtain ⟨_, _, _, h, _⟩ := hA; exact h
  have n3 : nl ≤ 9223372036854775807 := by obtain ⟨_, _, _, h, _⟩ := hL; exact h
  have HX := Lib.hid hX
  have HE := Lib.hid hE
  have HA := Lib.hid hA
  have HL := Lib.hid hL
  clear hX hE hA hL
  go_enter Try.func4, Try.ntmps4
  go_wp2_with fail
  refine calls_named fun W hW => ?_
  obtain ⟨p1, hB⟩ := box1 hW
  clear hW
  have P1 := Lib.hid p1
  clear p1
  have q1 := cellsL P1.out
  (with_reducible refine (head33_true _).mono ?_)
  rintro e w1 ⟨rfl, hB1⟩
  have hC1 := below_step hB hB1
  go_wp2_with fail
  obtain ⟨vf, hvf⟩ : ∃ v, decide (FewOk np ne na E) = v := ⟨_, rfl⟩
  have Hvf := Lib.hid hvf
  clear hvf
  (with_reducible refine (q33Few_any np c ne c2 na c4 ad ad2 ad4 E _ (HE.out.later hC1) Hvf.out).mono ?_)
  rintro e w2 ⟨rfl, hb2⟩
  have hB2 := below_step hB1 hb2
  have hC2 := below_step hB hB2
  clear hb2
  cases vf
  · go_wp2_with fail
    go_returns
    exact ⟨rfl, hC2⟩
  have FEW : FewOk np ne na E := of_decide_eq_true Hvf.out
  have FW := Lib.hid FEW
  clear FEW Hvf
  by_cases z0 : nl = 0
  · subst z0
    go_wp2_with fail
    go_returns
    exact ⟨rfl, hC2⟩
  have d0 : ((nl : Int) == 0) = false := by simp; omega
  by_cases z1 : 20 < nl
  · go_wp2_with fail
    go_returns
    exact ⟨rfl, hC2⟩
  go_wp2_with fail
  obtain ⟨vt, hvt⟩ : ∃ v, decide (0 ≤ f ∧ f ≤ u ∧ u ≤ 10000000 ∧ u - f ≤ 400) = v := ⟨_, rfl⟩
  have Hvt := Lib.hid hvt
  clear hvt
  (with_reducible refine (q33Times_any f u _ Hvt.out).mono ?_)
  rintro e w3 ⟨rfl, hb3⟩
  have hB3 := below_step hB2 hb3
  have hC3 := below_step hB hB3
  clear hb3
  cases vt
  · go_wp2_with fail
    go_returns
    exact ⟨rfl, hC3⟩
  obtain ⟨t1, t2, t3, t4⟩ := of_decide_eq_true Hvt.out
  have TM := Lib.hid (show TimesOk f u from of_decide_eq_true Hvt.out)
  clear Hvt
  by_cases z2 : 60 < u - f
  · go_wp2_with fail
    go_returns
    exact ⟨rfl, hC3⟩
  go_wp2_with fail
  obtain ⟨⟨cv, ce⟩, hc⟩ : ∃ r, countR np X ne E nl L na A f = r := ⟨_, rfl⟩
  have CC := Lib.hid hc
  clear hc
  (with_reducible refine (hCount_any np c ne c2 na c4 nl c3 ad ad2 ad4 ad3 X E A L f _ (HX.out.later hC3) (HE.out.later hC3) (HA.out.later hC3) (HL.out.later hC3) n1 n2 n3 n4 CC.out).mono ?_)
  rintro e w4 ⟨rfl, hb4⟩
  have hB4 := below_step hB3 hb4
  have hC4 := below_step hB hB4
  clear hb4
  go_wp2_with fail
  by_cases g : NetOk np X ne E ∧ AirsOk na A ∧ TimesOk f u
  rotate_left
  · have NO := Lib.hid g
    clear g
    (with_reducible refine (hTable_no np c ne c2 na c4 ad ad2 ad4 X E A f u _ (HX.out.later hC4) (HE.out.later hC4) (HA.out.later hC4) n1 n2 n4 NO.out).mono ?_)
    rintro e w5 ⟨rfl, hb5⟩
    have hB5 := below_step hB4 hb5
    have hC5 := below_step hB hB5
    clear hb5
    by_cases hce : ce = 0
    · subst hce
      go_wp2_with fail
      go_returns
      exact ⟨rfl, hC5⟩
    · have d1 : (ce != 0) = true := by simp [hce]
      go_wp2_with fail
      go_returns
      exact ⟨rfl, hC5⟩
  have G := Lib.hid g
  clear g
  (with_reducible refine (hTable_yes np c ne c2 na c4 ad ad2 ad4 X E A f u _ (HX.out.later hC4) (HE.out.later hC4) (HA.out.later hC4) n1 n2 n4 G.out.1 G.out.2.1 G.out.2.2).mono ?_)
  rintro e w5 ⟨tv, rfl, hb5, htab⟩
  have hB5 := below_step hB4 hb5
  have hC5 := below_step hB hB5
  clear hb5
  obtain ⟨atv, ctv, rfl, htt, -⟩ := htab.form
  have TT := Lib.hid htt
  clear htab htt
  have hT5 := Below.refl w5.heap.size w5
  by_cases hce : ce = 0
  rotate_left
  · have d1 : (ce != 0) = true := by simp [hce]
    go_wp2_with fail
    go_returns
    exact ⟨rfl, hC5⟩
  subst hce
  obtain ⟨g, o, rfl, hcl⟩ := HL.out.row (show 0 < nl by omega)
  have c1 := hcl 1 (by omega)
  simp only [Nat.zero_mul, Nat.add_zero] at c1
  clear hcl
  obtain ⟨l0, hl0⟩ : ∃ x, L 0 1 = x := ⟨_, rfl⟩
  obtain ⟨pa, hpa⟩ : ∃ x, L (nl - 1) 0 = x := ⟨_, rfl⟩
  obtain ⟨tb, htb⟩ : ∃ x, L (nl - 1) 1 = x := ⟨_, rfl⟩
  rw [hl0] at c1
  replace c1 := cell_later hC5 c1
  have FA := least_fact TM.out CC.out
  rw [hl0, hpa, htb] at FA
  have PA := Lib.hid hpa
  have TB := Lib.hid htb
  clear hpa htb
  by_cases z3 : f < l0
  · go_wp2_with fail
    go_returns
    exact ⟨rfl, hC5⟩
  replace FA := FA (by omega)
  go_wp2_with fail
  clear c1
  (with_reducible refine (l33ends_any nl c3 _ L _ (HL.out.later hC5) (by omega) PA.out TB.out).mono ?_)
  rintro e w6 ⟨rfl, hb6⟩
  have hB6 := below_step hB5 hb6
  have hC6 := below_step hB hB6
  have hT6 := below_step hT5 hb6
  clear hb6
  by_cases z4 : tb < f
  · go_wp2_with fail
    go_returns
    exact ⟨rfl, hC6⟩
  replace FA := FA (by omega)
  go_wp2_with fail
  (with_reducible refine (l33ends_any nl c3 _ L _ (HL.out.later hC6) (by omega) PA.out TB.out).mono ?_)
  rintro e w7 ⟨rfl, hb7⟩
  have hB7 := below_step hB6 hb7
  have hC7 := below_step hB hB7
  have hT7 := below_step hT6 hb7
  clear hb7
  by_cases z5 : u < tb
  · go_wp2_with fail
    go_returns
    exact ⟨rfl, hC7⟩
  obtain ⟨⟨f1, f2⟩, f3⟩ := FA (by omega)
  go_wp2_with fail
  (with_reducible refine (l33ends_any nl c3 _ L _ (HL.out.later hC7) (by omega) PA.out TB.out).mono ?_)
  rintro e w8 ⟨rfl, hb8⟩
  have hB8 := below_step hB7 hb8
  have hC8 := below_step hB hB8
  have hT8 := below_step hT7 hb8
  clear hb8
  go_wp2_with fail
  (with_reducible refine (l33ends_any nl c3 _ L _ (HL.out.later hC8) (by omega) PA.out TB.out).mono ?_)
  rintro e w9 ⟨rfl, hb9⟩
  have hB9 := below_step hB8 hb9
  have hC9 := below_step hB hB9
  have hT9 := below_step hT8 hb9
  clear hb9
  obtain ⟨t, ht⟩ : ∃ t : Nat, tb - f = (t : Int) := ⟨(tb - f).toNat, by omega⟩
  obtain ⟨q, rfl⟩ : ∃ q : Nat, pa = (q : Int) := ⟨pa.toNat, by omega⟩
  obtain rfl : tb = f + (t : Int) := by omega
  rw [ht, Int.toNat_natCast, Int.toNat_natCast] at f3
  obtain ⟨n, hn⟩ : ∃ n, (u - f + 1).toNat = n := ⟨_, rfl⟩
  rw [hn] at TT f3
  obtain ⟨g2, o2, a2, k2, rfl, hc2, hl2, hr2⟩ := TT.out.row (show t < n by omega)
  obtain ⟨g3, o3, rfl, hc3⟩ := hr2.int (show q < np by omega)
  obtain ⟨y, hy⟩ : ∃ y, tblN X A E na f ne n t q = y := ⟨_, rfl⟩
  rw [hy] at hc3 f3
  have s2 := cell_later hT9 hc2
  have s3 := cell_later hT9 hc3
  have e1 : f + (t : Int) - f = (t : Int) := by omega
  have e2 : ((u - f + 1).toNat : Int) = (n : Int) := by rw [hn]
  have tn : t < n := by omega
  go_wp2_with fail
  go_returns
  exact ⟨rfl, hC9⟩
set_option maxRecDepth 100000 in
theorem reachLeast_lifted (os : Os) (started : os.Started) (H : Type) (enc : TypeId × Value → H) :
    ReturnsInHanded {} Try.checked os 4 .any (Rows.reachLeastSpec.pre6 enc Try.prog Try.f4 Rows.reachLeastRow.domain false) (Rows.reachLeastSpec.post enc Try.prog Try.f4 false true false false) := by
  refine returnsInHanded_of_change (C := Try.checked) own_knob started (by kernel_rfl) Try.func4
    (ChangeSpec.witness6 (enc := enc) (C := Try.checked) false ⟨#[], #[.agg #[.slice none 0 0, .slice none 0 0], .slice none 0 0, .slice none 0 0, .int .i64 0, .int .i64 0], []⟩ 8 (by kernel_rfl) (by kernel_rfl) (by kernel_rfl) (by kernel_rfl)) ?_
  intro W base args ds gs before hval0 hW hcnd _
  have hval : ∀ (j : Nat) t v, Try.f4.params[j]? = some t → args[j]? = some v → Value.okWide Try.prog W .any base t v := hval0
  have hW' := hW
  obtain ⟨p, q, hA0, hV, rfl, hfz, hnd⟩ := hW
  have hA : DataW.TrodAll enc Try.prog W 0 (fun _ => true) true Try.f4.params.toList args.toList ds p := hA0
  rw [Try.params4] at hA hval
  obtain ⟨v0, vs0, d0, ds0, p0, q0, hargs, rfl, rfl, h0, r0⟩ := trodAll_cons hA
  obtain ⟨v1, vs1, d1, ds1, p1, q1, rfl, rfl, rfl, h1, r1⟩ := trodAll_cons r0
  obtain ⟨v2, vs2, d2, ds2, p2, q2, rfl, rfl, rfl, h2, r2⟩ := trodAll_cons r1
  obtain ⟨v3, vs3, d3, ds3, p3, q3, rfl, rfl, rfl, h3, r3⟩ := trodAll_cons r2
  obtain ⟨v4, vs4, d4, ds4, p4, q4, rfl, rfl, rfl, h4, r4⟩ := trodAll_cons r3
  obtain ⟨rfl, rfl, rfl⟩ := trodAll_nil r4
  obtain rfl : args = #[v0, v1, v2, v3, v4] := by cases args; simp_all
  obtain ⟨rfl, rfl⟩ := trodVars_none hV
  simp only [List.append_nil] at hW' hA0
  obtain ⟨_, _, _, _, _, _, _, _, e0, hnX, hnE⟩ := open_net (hval 0 25 v0 rfl rfl) h0
  subst e0
  obtain ⟨_, _, _, _, e1, hairs⟩ := open_airs (hval 1 26 v1 rfl rfl) h1
  subst e1
  obtain ⟨_, _, _, _, e2, hlist⟩ := open_stops (hval 2 27 v2 rfl rfl) h2
  subst e2
  obtain ⟨f, e3, _, _, wf⟩ := open_int Try.underlying3 (hval 3 3 v3 rfl rfl) h3
  subst e3
  obtain ⟨u, e4, _, _, wu⟩ := open_int Try.underlying3 (hval 4 3 v4 rfl rfl) h4
  subst e4
  refine (reachLeast_walk f u hnX hnE hairs hlist).mono fun e W' ⟨he, hg⟩ => ?_
  subst he
  exact ⟨_, rfl, post_law laid_out (by rw [Try.params4]; intro t ht; simp only [List.mem_cons, List.not_mem_nil, or_false] at ht; rcases ht with rfl | rfl | rfl | rfl | rfl <;> exact ⟨by kernel_rfl, of_decide_eq_true (by kernel_rfl)⟩) rfl hW' hA0 rfl rfl rfl rfl Try.underlying4 hg⟩
theorem reachLeast_over : Rows.reachLeastRow.holds Try.pinned (OpenSpec.ofChange Rows.reachLeastSpec) :=
  OpenClaim.holds_of_wide 4 Try.f4 rfl rfl rfl rfl rfl rfl rfl ⟨rfl, rfl, rfl, rfl, rfl⟩ rfl rfl rfl rfl rfl (by kernel_rfl) Try.func4 (by kernel_rfl)
    (of_decide_eq_true (by kernel_rfl)) (by unfold Func.isWrapper; first | (rw [if_pos (by decide +kernel)]; kernel_rfl) | (rw [if_neg (by decide +kernel)]; exact ⟨rfl, rfl⟩))
    (fun os started H enc _ => reachLeast_lifted os started H enc)
theorem reachLeast_holds : Rows.ReachLeastSaid :=
  reachLeast_over
#print axioms reachLeast_holds
end Go.Proofs.Ytcpnkhiillgffaa
