/- For any station, sun, box, times, place and number of days: the statement StationMoved of chapter 31 (station and box moved by the same numbers, First and the times by whole days): the law's function returns true and leaves its arguments as they were. No condition. -/
import Derived.Test.YtnidacjmgekdjaaStationHead
import Derived.Test.YtnidacjmgekdjaaStationR
import Derived.Test.YtnidacjmgekdjaaFrameS
namespace Go.Proofs.Ytnidacjmgekdjaa
open Go.ChangeShapes Go.WideShapes Go.ChangeAt Go.RowKit
attribute [local go_sem] bqOp bqAll bqUpon
attribute [local irreducible] wpQuiet wpBQ
set_option linter.unusedVariables false
theorem farth_moved (x lo hi v : Int) : farthI (x + v) (lo + v) (hi + v) = farthI x lo hi + v := by unfold farthI; split <;> split <;> omega
theorem near_moved (x lo hi v : Int) : nearI (x + v) (lo + v) (hi + v) = nearI x lo hi + v := by unfold nearI; omega
theorem reach_moved (ax ay px py n vx vy : Int) : reachB (ax + vx) (ay + vy) (px + vx) (py + vy) n = reachB ax ay px py n := by
  rw [Bool.eq_iff_iff, reach_def, reach_def, show px + vx - (ax + vx) = px - ax by omega, show py + vy - (ay + vy) = py - ay by omega]
theorem all_moved (ax ay xl xh yl yh n vx vy : Int) : allB (ax + vx) (ay + vy) (xl + vx) (xh + vx) (yl + vy) (yh + vy) n = allB ax ay xl xh yl yh n := by
  unfold allB; rw [farth_moved, farth_moved, reach_moved]
theorem some_moved (ax ay xl xh yl yh n vx vy : Int) : someB (ax + vx) (ay + vy) (xl + vx) (xh + vx) (yl + vy) (yh + vy) n = someB ax ay xl xh yl yh n := by
  unfold someB; rw [near_moved, near_moved, reach_moved]
theorem far_later (dn dk dr nr t d : Int) : farI dn dk dr nr (t + 1440 * d) = farI dn dk dr nr t := by
  unfold farI dayB; rw [Int.add_mul_emod_self_left]
theorem hears_moved (ax ay xl xh yl yh n vx vy : Int) : hearsI (ax + vx) (ay + vy) (xl + vx) (xh + vx) (yl + vy) (yh + vy) n = hearsI ax ay xl xh yl yh n := by
  unfold hearsI; rw [all_moved, some_moved]
theorem ahead_later (fi ev t b : Int) : aheadI (fi + b) ev (t + b) = aheadI fi ev t := by
  unfold aheadI; rw [show t + b - (fi + b) = t - fi by omega]
theorem sure_later (ax ay dr nr fi ev dn dk xl xh yl yh vx vy d : Int) : sureB (ax + vx) (ay + vy) dr nr (fi + 1440 * d) ev dn dk (xl + vx) (xh + vx) (yl + vy) (yh + vy) = sureB ax ay dr nr fi ev dn dk xl xh yl yh := by
  funext k
  unfold sureB
  rw [all_moved, show fi + 1440 * d + k * ev = fi + k * ev + 1440 * d by omega, far_later]
theorem moved_facts {id ax ay dr nr fi ev dn dk xl xh yl yh t t2 vx vy d e x f : Int} {L : List Int} (h1 : sureR id ax ay dr nr fi ev dn dk xl xh yl yh t t2 = (L, e)) (h2 : hearsR id ax ay dr nr fi ev dn dk xl xh yl yh t = (x, f)) (d0 : 0 ≤ d)
    (ho : Stn id (ax + vx) (ay + vy) dr nr (fi + 1440 * d) ev) (hc : Bx (xl + vx) (xh + vx) (yl + vy) (yh + vy)) : (e = 1 ∨ e = 2 ∨ e = 0) ∧ (f = 0 ∨ f = 1) ∧ (e ≠ 1 → 0 ≤ t ∧ t ≤ t2 ∧ t2 ≤ 10000000) ∧ (e ≠ 1 → f ≠ 1 → t2 + 1440 * d ≤ 10000000 →
      sureR id (ax + vx) (ay + vy) dr nr (fi + 1440 * d) ev dn dk (xl + vx) (xh + vx) (yl + vy) (yh + vy) (t + 1440 * d) (t2 + 1440 * d) = (L, e) ∧ hearsR id (ax + vx) (ay + vy) dr nr (fi + 1440 * d) ev dn dk (xl + vx) (xh + vx) (yl + vy) (yh + vy) (t + 1440 * d) = (x, f)) := by
  unfold sureR at h1
  unfold hearsR at h2
  have hf : f = 0 ∨ f = 1 := by split at h2 <;> cases h2 <;> simp
  by_cases c1 : Sn dn dk ∧ Bx xl xh yl yh
  · rw [if_pos c1] at h1
    by_cases c2 : Stn id ax ay dr nr fi ev ∧ Tm t ∧ Tm t2 ∧ t ≤ t2
    · rw [if_pos c2] at h1
      have he : e = 1 ∨ e = 2 ∨ e = 0 := by split at h1 <;> cases h1 <;> simp
      obtain ⟨g0, g1, g2, g3⟩ := c2
      refine ⟨he, hf, fun _ => ⟨g1.1, g3, g2.2⟩, fun ne nf hb => ?_⟩
      have t0 := g1.1
      have m1 : Tm (t + 1440 * d) := ⟨by omega, by omega⟩
      have m2 : Tm (t2 + 1440 * d) := ⟨by omega, hb⟩
      constructor
      · unfold sureR
        rw [if_pos ⟨c1.1, hc⟩, if_pos ⟨ho, m1, m2, by omega⟩, ahead_later, ahead_later, sure_later]
        exact h1
      · unfold hearsR
        rw [if_pos ⟨ho, c1.1, hc, m1⟩, hears_moved, far_later]
        rw [if_pos ⟨g0, c1.1, c1.2, g1⟩] at h2
        exact h2
    · rw [if_neg c2] at h1
      cases h1
      exact ⟨.inl rfl, hf, fun h => absurd rfl h, fun h => absurd rfl h⟩
  · rw [if_neg c1] at h1
    cases h1
    exact ⟨.inl rfl, hf, fun h => absurd rfl h, fun h => absurd rfl h⟩
set_option maxRecDepth 100000 in
set_option maxHeartbeats 4000000 in
theorem stationMoved_walk (id ax ay dr nr fi ev dn dk xl xh yl yh t t2 vx vy d : Int) (hd : (Lit.int .u8 d).wf = true) (w : World) :
    Calls Try.prog 10 #[.agg #[.int .i64 id, .int .i64 ax, .int .i64 ay, .int .i64 dr, .int .i64 nr, .int .i64 fi, .int .i64 ev], .agg #[.int .i64 dn, .int .i64 dk], .agg #[.int .i64 xl, .int .i64 xh, .int .i64 yl, .int .i64 yh], .int .i64 t, .int .i64 t2, .agg #[.int .i64 vx, .int .i64 vy], .int .u8 d] w fun e w' => e = .returned (.bool true) ∧ Below w.heap.size w w' := by
  have d1 : 0 ≤ d := by simp [Lit.wf, IntKind.min, IntKind.max, IntKind.signed, IntKind.bits] at hd; omega
  have d2 : d ≤ 255 := by simp [Lit.wf, IntKind.min, IntKind.max, IntKind.signed, IntKind.bits] at hd; omega
  clear hd
  obtain ⟨b0, h0⟩ : ∃ b0, decide (Stn id ax ay dr nr fi ev) = b0 := ⟨_, rfl⟩
  obtain ⟨b1, h1⟩ : ∃ b1, decide (Bx xl xh yl yh) = b1 := ⟨_, rfl⟩
  obtain ⟨b2, h2⟩ : ∃ b2, decide (Vld vx vy) = b2 := ⟨_, rfl⟩
  have H0 := Lib.hid h0
  have H1 := Lib.hid h1
  have H2 := Lib.hid h2
  clear h0 h1 h2
  go_enter Try.func10, Try.ntmps10
  go_wp2_with fail
  refine calls_named fun W hW => ?_
  obtain ⟨p1, p2, p3, p4, hB⟩ := box4 hW
  clear hW
  have P1 := Lib.hid p1
  have P2 := Lib.hid p2
  have P3 := Lib.hid p3
  have P4 := Lib.hid p4
  have q1 := cellsL p1
  have q2 := cellsL p2
  have q3 := cellsL p3
  have q4 := cellsL p4
  clear p1 p2 p3 p4
  (with_reducible refine (head_true _).mono ?_)
  rintro e' w1 ⟨rfl, hB1⟩
  go_wp2_with fail
  (with_reducible refine (sValid_any _ _ _ _ _ _ _ _ H0.out).mono ?_)
  rintro e' w2 ⟨rfl, hb2⟩
  have hB2 := below_step hB1 hb2
  cases b0
  · go_wp2_with fail
    go_returns
    exact ⟨rfl, below_step hB hB2⟩
  go_wp2_with fail
  (with_reducible refine (r2ValidBox_any _ _ _ _ _ H1.out).mono ?_)
  rintro e' w3 ⟨rfl, hb3⟩
  have hB3 := below_step hB2 hb3
  cases b1
  · go_wp2_with fail
    go_returns
    exact ⟨rfl, below_step hB hB3⟩
  go_wp2_with fail
  (with_reducible refine (rValid_any _ _ _ H2.out).mono ?_)
  rintro e' w4 ⟨rfl, hb4⟩
  have hB4 := below_step hB3 hb4
  cases b2
  · go_wp2_with fail
    go_returns
    exact ⟨rfl, below_step hB hB4⟩
  have g0 := of_decide_eq_true H0.out
  have g1 := of_decide_eq_true H1.out
  have g2 := of_decide_eq_true H2.out
  obtain ⟨i1, i2, ⟨a1, a2, a3, a4⟩, r1, r2, n1, n2, f1, f2, e1, e2⟩ := g0
  obtain ⟨x1, x2, x3, y1, y2, y3⟩ := g1
  obtain ⟨v1, v2, v3, v4⟩ := g2
  clear hb2 hb3 hb4 H0 H1 H2
  have hA := fun o => hB4.alloc hB4.size o
  go_wp2_with fail
  refine calls_named fun y5 hy5 => ?_
  obtain ⟨p5, hy⟩ := box1 hy5
  have hB5 := below_step hB4 hy
  clear hy5 hA hy
  have P5 := Lib.hid p5
  clear p5
  (with_reducible refine (box_any _ _ _ _ _).mono ?_)
  rintro e' w6 ⟨rfl, hb6⟩
  have hB6 := below_step hB5 hb6
  have hA := fun o => hB6.alloc hB6.size o
  obtain ⟨⟨L, e⟩, k1⟩ : ∃ r, sureR id ax ay dr nr fi ev dn dk xl xh yl yh t t2 = r := ⟨_, rfl⟩
  obtain ⟨⟨x, f⟩, k2⟩ : ∃ r, hearsR id ax ay dr nr fi ev dn dk xl xh yl yh t = r := ⟨_, rfl⟩
  have LL := sureR_len k1
  have LN := Lib.hid LL
  have A1 := Lib.hid (fun w => sSure_any id ax ay dr nr fi ev dn dk xl xh yl yh t t2 w k1)
  have A2 := Lib.hid (fun w => sHears_any id ax ay dr nr fi ev dn dk xl xh yl yh t w k2)
  have MF := Lib.hid (fun ho hc => moved_facts (vx := vx) (vy := vy) (d := d) k1 k2 d1 ho hc)
  clear k1 k2 LL
  go_wp2_with fail
  refine calls_named fun y6 hy6 => ?_
  obtain ⟨p6, hy⟩ := box1 hy6
  have hB7 := below_step hB6 hy
  have P6 := Lib.hid p6
  replace P5 := Lib.hid (block_later hy (block_later hb6 P5.out))
  clear hy6 hA hy p6 hb6
  (with_reducible refine (A1.out _).mono ?_)
  rintro e' w8 ⟨sl, rfl, hb8, hl⟩
  have hB8 := below_step hB7 hb8
  have HL := Lib.hid hl
  clear hl
  go_wp2_with fail
  (with_reducible refine (A2.out _).mono ?_)
  rintro e' w9 ⟨rfl, hb9⟩
  have hB9 := below_step hB8 hb9
  replace HL := Lib.hid (HL.out.later hb9)
  replace P5 := Lib.hid (block_later hb9 (block_later hb8 P5.out))
  replace P6 := Lib.hid (block_later hb9 (block_later hb8 P6.out))
  clear hb8 hb9 A1 A2
  have q5 := cellsL P5.out
  have q6 := cellsL P6.out
  have hX0 := Below.refl w9.heap.size w9
  obtain ⟨b3, h3⟩ : ∃ b3, decide (Stn id (ax + vx) (ay + vy) dr nr (fi + 1440 * d) ev) = b3 := ⟨_, rfl⟩
  obtain ⟨b4, h4⟩ : ∃ b4, decide (Bx (xl + vx) (xh + vx) (yl + vy) (yh + vy)) = b4 := ⟨_, rfl⟩
  have H3 := Lib.hid h3
  have H4 := Lib.hid h4
  clear h3 h4
  go_wp2_with fail
  (with_reducible refine (sValid_any _ _ _ _ _ _ _ _ H3.out).mono ?_)
  rintro e' w10 ⟨rfl, hb10⟩
  have hB10 := below_step hB9 hb10
  cases b3
  · go_wp2_with fail
    go_returns
    exact ⟨rfl, below_step hB hB10⟩
  go_wp2_with fail
  (with_reducible refine (r2ValidBox_any _ _ _ _ _ H4.out).mono ?_)
  rintro e' w11 ⟨rfl, hb11⟩
  have hX11 := below_step hb10 hb11
  have hB11 := below_step hB10 hb11
  cases b4
  · go_wp2_with fail
    go_returns
    exact ⟨rfl, below_step hB hB11⟩
  obtain ⟨m1, m2, m3, m4⟩ := MF.out (of_decide_eq_true H3.out) (of_decide_eq_true H4.out)
  have M4 := Lib.hid m4
  clear m4 MF H3 H4
  rcases m1 with rfl | m1
  · clear m2 m3
    go_wp2_with fail
    go_returns
    exact ⟨rfl, below_step hB hB11⟩
  have ne : e ≠ 1 := by omega
  have de : (e == 1) = false := by simp [ne]
  obtain ⟨t1, t3, t4⟩ := m3 ne
  clear m3
  rcases m2 with rfl | rfl
  · by_cases hb : 10000000 < t2 + 1440 * d
    · clear m1 ne
      go_wp2_with fail
      go_returns
      exact ⟨rfl, below_step hB hB11⟩
    · have hb' : decide (10000000 < t2 + 1440 * d) = false := by simpa using hb
      obtain ⟨k1, k2⟩ := M4.out ne (by omega) (by omega)
      have A1 := Lib.hid (fun w => sSure_any id (ax + vx) (ay + vy) dr nr (fi + 1440 * d) ev dn dk (xl + vx) (xh + vx) (yl + vy) (yh + vy) (t + 1440 * d) (t2 + 1440 * d) w k1)
      have A2 := Lib.hid (fun w => sHears_any id (ax + vx) (ay + vy) dr nr (fi + 1440 * d) ev dn dk (xl + vx) (xh + vx) (yl + vy) (yh + vy) (t + 1440 * d) w k2)
      clear k1 k2 M4 m1 ne hb hb10 hb11
      have hb3 : t2 + 1440 * d ≤ 10000000 := by have := of_decide_eq_false hb'; omega
      go_wp2_with fail
      (with_reducible refine (A1.out _).mono ?_)
      rintro e' w12 ⟨sl2, rfl, hb12, hl2⟩
      have hX12 := below_step hX11 hb12
      have hB12 := below_step hB11 hb12
      have HL2 := Lib.hid hl2
      clear hl2
      go_wp2_with fail
      (with_reducible refine (A2.out _).mono ?_)
      rintro e' w13 ⟨rfl, hb13⟩
      have hX13 := below_step hX12 hb13
      have hB13 := below_step hB12 hb13
      go_wp2_with fail
      (with_reducible refine (ints_any _ _ L L _ (by have := LN.out; omega) (HL.out.later hX13) (HL2.out.later hb13) (r := true) (by simp)).mono ?_)
      rintro e' w14 ⟨rfl, hb14⟩
      go_wp2_with fail
      go_returns
      exact ⟨rfl, below_step hB (below_step hB13 hb14)⟩
  · clear m1 ne
    go_wp2_with fail
    go_returns
    exact ⟨rfl, below_step hB hB11⟩
set_option maxRecDepth 100000 in
theorem stationMoved_lifted (os : Os) (started : os.Started) (H : Type) (enc : TypeId × Value → H) :
    ReturnsInHanded {} Try.checked os 10 .any (Rows.stationMovedSpec.pre6 enc Try.prog Try.f10 Rows.stationMovedRow.domain false) (Rows.stationMovedSpec.post enc Try.prog Try.f10 false true false false) := by
  refine returnsInHanded_of_change (C := Try.checked) own_knob started (by kernel_rfl) Try.func10
    (ChangeSpec.witness6 (enc := enc) (C := Try.checked) false ⟨#[], #[.agg #[.int .i64 0, .int .i64 0, .int .i64 0, .int .i64 0, .int .i64 0, .int .i64 0, .int .i64 0], .agg #[.int .i64 0, .int .i64 0], .agg #[.int .i64 0, .int .i64 0, .int .i64 0, .int .i64 0], .int .i64 0, .int .i64 0, .agg #[.int .i64 0, .int .i64 0], .int .u8 0], []⟩ 8 (by kernel_rfl) (by kernel_rfl) (by kernel_rfl) (by kernel_rfl)) ?_
  intro W base args ds gs before hval0 hW hcnd _
  have hval : ∀ (j : Nat) t v, Try.f10.params[j]? = some t → args[j]? = some v → Value.okWide Try.prog W .any base t v := hval0
  have hW' := hW
  obtain ⟨p, q, hA0, hV, rfl, hfz, hnd⟩ := hW
  have hA : DataW.TrodAll enc Try.prog W 0 (fun _ => true) true Try.f10.params.toList args.toList ds p := hA0
  rw [Try.params10] at hA hval
  obtain ⟨v0, vs0, d0, ds0, p0, q0, hargs, rfl, rfl, h0, r0⟩ := trodAll_cons hA
  obtain ⟨v1, vs1, d1, ds1, p1, q1, rfl, rfl, rfl, h1, r1⟩ := trodAll_cons r0
  obtain ⟨v2, vs2, d2, ds2, p2, q2, rfl, rfl, rfl, h2, r2⟩ := trodAll_cons r1
  obtain ⟨v3, vs3, d3, ds3, p3, q3, rfl, rfl, rfl, h3, r3⟩ := trodAll_cons r2
  obtain ⟨v4, vs4, d4, ds4, p4, q4, rfl, rfl, rfl, h4, r4⟩ := trodAll_cons r3
  obtain ⟨v5, vs5, d5, ds5, p5, q5, rfl, rfl, rfl, h5, r5⟩ := trodAll_cons r4
  obtain ⟨v6, vs6, d6, ds6, p6, q6, rfl, rfl, rfl, h6, r6⟩ := trodAll_cons r5
  obtain ⟨rfl, rfl, rfl⟩ := trodAll_nil r6
  obtain rfl : args = #[v0, v1, v2, v3, v4, v5, v6] := by cases args; simp_all
  obtain ⟨rfl, rfl⟩ := trodVars_none hV
  simp only [List.append_nil] at hW' hA0
  obtain ⟨id, ax, ay, dr, nr, fi, ev, e0⟩ := open_station (hval 0 25 v0 rfl rfl) h0
  subst e0
  obtain ⟨dn, dk, e1⟩ := open_sun (hval 1 27 v1 rfl rfl) h1
  subst e1
  obtain ⟨xl, xh, yl, yh, e2⟩ := open_box (hval 2 31 v2 rfl rfl) h2
  subst e2
  obtain ⟨t, e3, _, _, w3⟩ := open_int Try.underlying3 (hval 3 3 v3 rfl rfl) h3
  subst e3
  obtain ⟨t2, e4, _, _, w4⟩ := open_int Try.underlying3 (hval 4 3 v4 rfl rfl) h4
  subst e4
  obtain ⟨vx, vy, e5, wx5, wy5⟩ := open_point (hval 5 23 v5 rfl rfl) h5
  subst e5
  obtain ⟨d, e6, _, _, w6⟩ := open_int Try.underlying5 (hval 6 5 v6 rfl rfl) h6
  subst e6
  refine (stationMoved_walk id ax ay dr nr fi ev dn dk xl xh yl yh t t2 vx vy d w6 W).mono fun e W' ⟨he, hg⟩ => ?_
  subst he
  exact ⟨_, rfl, post_law laid_out (by rw [Try.params10]; intro t ht; simp only [List.mem_cons, List.not_mem_nil, or_false] at ht; rcases ht with rfl | rfl | rfl | rfl | rfl | rfl | rfl <;> exact ⟨by kernel_rfl, of_decide_eq_true (by kernel_rfl)⟩) rfl hW' hA0 rfl rfl rfl rfl Try.underlying4 hg⟩
theorem stationMoved_over : Rows.stationMovedRow.holds Try.pinned (OpenSpec.ofChange Rows.stationMovedSpec) :=
  OpenClaim.holds_of_wide 10 Try.f10 rfl rfl rfl rfl rfl rfl rfl ⟨rfl, rfl, rfl, rfl, rfl⟩ rfl rfl rfl rfl rfl (by kernel_rfl) Try.func10 (by kernel_rfl)
    (of_decide_eq_true (by kernel_rfl)) (by unfold Func.isWrapper; first | (rw [if_pos (by decide +kernel)]; kernel_rfl) | (rw [if_neg (by decide +kernel)]; exact ⟨rfl, rfl⟩))
    (fun os started H enc _ => stationMoved_lifted os started H enc)
theorem stationMoved_holds : Rows.StationMovedSaid :=
  stationMoved_over
#print axioms stationMoved_holds
end Go.Proofs.Ytnidacjmgekdjaa
