/- For any station, sun, boxes, place and time: the statement StationHears of chapter 31 (what a box hears, what a place of it hears, and what a box within it hears): the law's function returns true and leaves its arguments as they were. No condition. -/
import Derived.Test.YtnidacjmgekdjaaStationHead
import Derived.Test.YtnidacjmgekdjaaStationMath
import Derived.Test.YtnidacjmgekdjaaFrameS
namespace Go.Proofs.Ytnidacjmgekdjaa
open Go.ChangeShapes Go.WideShapes Go.ChangeAt Go.RowKit
attribute [local go_sem] bqOp bqAll bqUpon
attribute [local irreducible] wpQuiet wpBQ
set_option linter.unusedVariables false
theorem in_any (xl xh yl yh px py : Int) (w : World) {v : Bool} (hv : decide (InB xl xh yl yh px py) = v) :
    Calls Try.prog 30 #[.agg #[.int .i64 xl, .int .i64 xh, .int .i64 yl, .int .i64 yh], .agg #[.int .i64 px, .int .i64 py]] w fun e w' => e = .returned (.bool v) ∧ Below w.heap.size w w' := by
  have HV := Lib.hid hv
  clear hv
  by_cases h1 : xl ≤ px
  · by_cases h2 : px ≤ xh
    · by_cases h3 : yl ≤ py
      · by_cases h4 : py ≤ yh
        · go_enter Try.func30, Try.ntmps30
          go_wp2
          go_returns
          exact ⟨ret_bool (by rw [← HV.out]; exact (decide_eq_true ⟨h1, h2, h3, h4⟩).symm), by go_grown⟩
        · have h4' : decide (py ≤ yh) = false := by simp; omega
          have h4 : yh < py := by omega
          go_enter Try.func30, Try.ntmps30
          go_wp2
          go_returns
          exact ⟨ret_bool (by rw [← HV.out]; exact (decide_eq_false (fun h => by have := h.2.2.2; omega)).symm), by go_grown⟩
      · have h3' : decide (yl ≤ py) = false := by simp; omega
        have h3 : py < yl := by omega
        go_enter Try.func30, Try.ntmps30
        go_wp2
        go_returns
        exact ⟨ret_bool (by rw [← HV.out]; exact (decide_eq_false (fun h => by have := h.2.2.1; omega)).symm), by go_grown⟩
    · have h2' : decide (px ≤ xh) = false := by simp; omega
      have h2 : xh < px := by omega
      go_enter Try.func30, Try.ntmps30
      go_wp2
      go_returns
      exact ⟨ret_bool (by rw [← HV.out]; exact (decide_eq_false (fun h => by have := h.2.1; omega)).symm), by go_grown⟩
  · have h1' : decide (xl ≤ px) = false := by simp; omega
    have h1 : px < xl := by omega
    go_enter Try.func30, Try.ntmps30
    go_wp2
    go_returns
    exact ⟨ret_bool (by rw [← HV.out]; exact (decide_eq_false (fun h => by have := h.1; omega)).symm), by go_grown⟩
theorem hears_facts {id ax ay dr nr fi ev dn dk xl xh yl yh al ah bl bh px py t x e y f z g : Int} (h1 : hearsR id ax ay dr nr fi ev dn dk xl xh yl yh t = (x, e)) (h2 : hearsR id ax ay dr nr fi ev dn dk al ah bl bh t = (y, f)) (h3 : hearsR id ax ay dr nr fi ev dn dk px px py py t = (z, g)) :
    e = 1 ∧ x = 0 ∨ e = 0 ∧ (x = 1 ∨ x = 0 ∨ x = -1) ∧ (InB xl xh yl yh px py → g = 0 ∧ (z = 1 ∧ x ≠ -1 ∨ z = -1 ∧ x ≠ 1)) ∧ (f = 0 ∧ xl ≤ al ∧ ah ≤ xh ∧ yl ≤ bl ∧ bh ≤ yh → (x = 1 → y = 1) ∧ (x = -1 → y = -1)) := by
  unfold hearsR at h1 h2 h3
  split at h1
  · rename_i k1
    cases h1
    refine .inr ⟨rfl, hears_three _ _ _ _ _ _ _, ?_, ?_⟩
    · intro h
      have hp : Bx px px py py := ⟨by have := k1.2.2.1.x1; have := h.1; omega, by omega, by have := k1.2.2.1.x3; have := h.2.1; omega, by have := k1.2.2.1.y1; have := h.2.2.1; omega, by omega, by have := k1.2.2.1.y3; have := h.2.2.2; omega⟩
      rw [if_pos ⟨k1.1, k1.2.1, hp, k1.2.2.2⟩] at h3
      cases h3
      refine ⟨rfl, ?_⟩
      have hw := hears_within (ax := ax) (ay := ay) (n := farI dn dk dr nr t) (al := px) (ah := px) (bl := py) (bh := py) (by omega) (by omega) h.1 h.2.1 h.2.2.1 h.2.2.2
      have ht : hearsI ax ay px px py py (farI dn dk dr nr t) = 1 ∨ hearsI ax ay px px py py (farI dn dk dr nr t) = -1 := by rw [hears_pt]; split <;> simp
      rcases ht with ht | ht <;> rw [ht] at hw <;> rw [ht]
      · exact .inl ⟨rfl, fun h => by have := hw.2 h; omega⟩
      · exact .inr ⟨rfl, fun h => by have := hw.1 h; omega⟩
    · rintro ⟨hf, g1, g2, g3, g4⟩
      split at h2
      · rename_i k2
        cases h2
        exact hears_within k2.2.2.1.x2 k2.2.2.1.y2 g1 g2 g3 g4
      · cases h2; omega
  · cases h1; exact .inl ⟨rfl, rfl⟩
set_option maxRecDepth 100000 in
set_option maxHeartbeats 2000000 in
theorem stationHears_walk (id ax ay dr nr fi ev dn dk xl xh yl yh al ah bl bh px py t : Int) (w : World) :
    Calls Try.prog 5 #[.agg #[.int .i64 id, .int .i64 ax, .int .i64 ay, .int .i64 dr, .int .i64 nr, .int .i64 fi, .int .i64 ev], .agg #[.int .i64 dn, .int .i64 dk], .agg #[.int .i64 xl, .int .i64 xh, .int .i64 yl, .int .i64 yh], .agg #[.int .i64 al, .int .i64 ah, .int .i64 bl, .int .i64 bh], .agg #[.int .i64 px, .int .i64 py], .int .i64 t] w fun e w' => e = .returned (.bool true) ∧ Below w.heap.size w w' := by
  obtain ⟨⟨x, e⟩, h1⟩ : ∃ r, hearsR id ax ay dr nr fi ev dn dk xl xh yl yh t = r := ⟨_, rfl⟩
  obtain ⟨⟨y, f⟩, h2⟩ : ∃ r, hearsR id ax ay dr nr fi ev dn dk al ah bl bh t = r := ⟨_, rfl⟩
  obtain ⟨⟨z, g⟩, h3⟩ : ∃ r, hearsR id ax ay dr nr fi ev dn dk px px py py t = r := ⟨_, rfl⟩
  have J := Lib.hid (hears_facts h1 h2 h3)
  have A1 := Lib.hid (fun w => sHears_any id ax ay dr nr fi ev dn dk xl xh yl yh t w h1)
  have A2 := Lib.hid (fun w => sHears_any id ax ay dr nr fi ev dn dk al ah bl bh t w h2)
  have A3 := Lib.hid (fun w => sHears_any id ax ay dr nr fi ev dn dk px px py py t w h3)
  clear h1 h2 h3
  obtain ⟨ib, hib⟩ : ∃ ib, decide (InB xl xh yl yh px py) = ib := ⟨_, rfl⟩
  have IB := Lib.hid hib
  obtain ⟨nb, hnb⟩ : ∃ nb, decide (¬ (f = 0 ∧ xl ≤ al ∧ ah ≤ xh ∧ yl ≤ bl ∧ bh ≤ yh)) = nb := ⟨_, rfl⟩
  have NB := Lib.hid hnb
  clear hib hnb
  go_enter Try.func5, Try.ntmps5
  go_wp2_with fail
  refine calls_named fun W hW => ?_
  obtain ⟨p1, p2, p3, p4, p5, hB⟩ := box5 hW
  clear hW
  have P1 := Lib.hid p1
  have P2 := Lib.hid p2
  have P3 := Lib.hid p3
  have P4 := Lib.hid p4
  have P5 := Lib.hid p5
  have q1 := cellsL p1
  have q2 := cellsL p2
  have q3 := cellsL p3
  have q4 := cellsL p4
  clear p1 p2 p3 p4 p5
  (with_reducible refine (head_true _).mono ?_)
  rintro e' w1 ⟨rfl, hB1⟩
  go_wp2_with fail
  (with_reducible refine (A1.out _).mono ?_)
  rintro e' w2 ⟨rfl, hb2⟩
  have hB2 := below_step hB1 hb2
  go_wp2_with fail
  (with_reducible refine (A2.out _).mono ?_)
  rintro e' w3 ⟨rfl, hb3⟩
  have hB3 := below_step hB2 hb3
  clear hb2 hb3
  go_wp2_with fail
  clear q1 q2 q3 q4
  have r1 := cellsR (block_later hB3 P1.out)
  have r2 := cellsR (block_later hB3 P2.out)
  have r5 := cellsR (block_later hB3 P5.out)
  (refine wp_region_quiet_below (by kernel_rfl) (by kernel_rfl) ?_; (repeat (refine wpQuiet_step (fun K hK => ?_); replace hK := Lib.hid hK; go_simp; first | (refine hK.out _ ?_; clear hK K) | (apply Exists.intro; refine ⟨fun _ => ?_, hK.out _ ?_⟩; (first | (go_at_call 29; exact Calls.regrown_of (box_any _ _ _ _ _)) | (go_at_call 18; exact Calls.regrown_of (A3.out _))); clear hK K))); refine wpQuiet_nil ?_)
  intro w4 hr4
  have hB4 := below_step hB3 (regrown_below hr4)
  clear hr4 r1 r2 r5
  rcases J.out with ⟨rfl, rfl⟩ | ⟨rfl, hx, hi, hj⟩
  · go_wp2_with fail
    go_returns
    exact ⟨rfl, below_step hB hB4⟩
  · have x1 : -1 ≤ x := by omega
    have x2 : x ≤ 1 := by omega
    have HX := Lib.hid hx
    have HI := Lib.hid hi
    have HJ := Lib.hid hj
    clear hx hi hj J
    have q3 := cellsL P3.out
    have q5 := cellsL P5.out
    go_wp2_with fail
    (with_reducible refine (in_any _ _ _ _ _ _ _ IB.out).mono ?_)
    rintro e' w5 ⟨rfl, hb5⟩
    have hB5 := below_step hB4 hb5
    clear hb5
    go_upto_if 71 with (fail)
    go_cut [13] from 72 to 96 (fun s wx => s = .bool true ∧ w5 = wx)
    case first =>
      cases ib
      · go_wp2_with fail
        go_meet
        exact ⟨rfl, rfl⟩
      · obtain ⟨rfl, hz⟩ := HI.out (of_decide_eq_true IB.out)
        rcases hz with ⟨rfl, hz⟩ | ⟨rfl, hz⟩
        · rcases HX.out with rfl | rfl | rfl
          · go_wp2_with fail
            go_meet
            exact ⟨rfl, rfl⟩
          · go_wp2_with fail
            go_meet
            exact ⟨rfl, rfl⟩
          · exact (hz rfl).elim
        · rcases HX.out with rfl | rfl | rfl
          · exact (hz rfl).elim
          · go_wp2_with fail
            go_meet
            exact ⟨rfl, rfl⟩
          · go_wp2_with fail
            go_meet
            exact ⟨rfl, rfl⟩
    case rest =>
      obtain ⟨rfl, rfl⟩ := hcut
      clear HI
      have q4 := cellsL P4.out
      go_upto_region 10 with (fail)
      go_cut [134] from 97 to 134 (fun s wx => s = .bool nb ∧ w5 = wx)
      case first =>
        by_cases c0 : f = 0
        · have d0 : (f != 0) = false := by simp [c0]
          have C0 := Lib.hid c0
          clear c0
          by_cases c1 : al < xl
          · go_wp2_with fail
            go_meet
            exact ⟨by rw [← NB.out]; exact congrArg _ (decide_eq_true (by omega)).symm, rfl⟩
          · have d1 : decide (al < xl) = false := by simpa using c1
            by_cases c2 : xh < ah
            · go_wp2_with fail
              go_meet
              exact ⟨by rw [← NB.out]; exact congrArg _ (decide_eq_true (by omega)).symm, rfl⟩
            · have d2 : decide (xh < ah) = false := by simpa using c2
              by_cases c3 : bl < yl
              · go_wp2_with fail
                go_meet
                exact ⟨by rw [← NB.out]; exact congrArg _ (decide_eq_true (by omega)).symm, rfl⟩
              · have d3 : decide (bl < yl) = false := by simpa using c3
                by_cases c4 : yh < bh
                · go_wp2_with fail
                  go_meet
                  exact ⟨by rw [← NB.out]; exact congrArg _ (decide_eq_true (by omega)).symm, rfl⟩
                · have d4 : decide (yh < bh) = false := by simpa using c4
                  go_wp2_with fail
                  go_meet
                  exact ⟨by rw [← NB.out]; exact congrArg _ (decide_eq_false (fun h => h ⟨C0.out, by omega, by omega, by omega, by omega⟩)).symm, rfl⟩
        · have d0 : (f != 0) = true := by simp [c0]
          have C0 := Lib.hid c0
          clear c0
          go_wp2_with fail
          go_meet
          exact ⟨by rw [← NB.out]; exact congrArg _ (decide_eq_true (by intro h; exact C0.out h.1)).symm, rfl⟩
      case rest =>
        obtain ⟨rfl, rfl⟩ := hcut
        cases nb
        · have hj := HJ.out (Decidable.not_not.1 (of_decide_eq_false NB.out))
          rcases HX.out with rfl | rfl | rfl
          · obtain rfl := hj.1 rfl
            clear hj
            go_wp2_with fail
            go_returns
            exact ⟨rfl, below_step hB hB5⟩
          · clear hj
            go_wp2_with fail
            go_returns
            exact ⟨rfl, below_step hB hB5⟩
          · obtain rfl := hj.2 rfl
            clear hj
            go_wp2_with fail
            go_returns
            exact ⟨rfl, below_step hB hB5⟩
        · go_wp2_with fail
          go_returns
          exact ⟨rfl, below_step hB hB5⟩
set_option maxRecDepth 100000 in
theorem stationHears_lifted (os : Os) (started : os.Started) (H : Type) (enc : TypeId × Value → H) :
    ReturnsInHanded {} Try.checked os 5 .any (Rows.stationHearsSpec.pre6 enc Try.prog Try.f5 Rows.stationHearsRow.domain false) (Rows.stationHearsSpec.post enc Try.prog Try.f5 false true false false) := by
  refine returnsInHanded_of_change (C := Try.checked) own_knob started (by kernel_rfl) Try.func5
    (ChangeSpec.witness6 (enc := enc) (C := Try.checked) false ⟨#[], #[.agg #[.int .i64 0, .int .i64 0, .int .i64 0, .int .i64 0, .int .i64 0, .int .i64 0, .int .i64 0], .agg #[.int .i64 0, .int .i64 0], .agg #[.int .i64 0, .int .i64 0, .int .i64 0, .int .i64 0], .agg #[.int .i64 0, .int .i64 0, .int .i64 0, .int .i64 0], .agg #[.int .i64 0, .int .i64 0], .int .i64 0], []⟩ 8 (by kernel_rfl) (by kernel_rfl) (by kernel_rfl) (by kernel_rfl)) ?_
  intro W base args ds gs before hval0 hW hcnd _
  have hval : ∀ (j : Nat) t v, Try.f5.params[j]? = some t → args[j]? = some v → Value.okWide Try.prog W .any base t v := hval0
  have hW' := hW
  obtain ⟨p, q, hA0, hV, rfl, hfz, hnd⟩ := hW
  have hA : DataW.TrodAll enc Try.prog W 0 (fun _ => true) true Try.f5.params.toList args.toList ds p := hA0
  rw [Try.params5] at hA hval
  obtain ⟨v0, vs0, d0, ds0, p0, q0, hargs, rfl, rfl, h0, r0⟩ := trodAll_cons hA
  obtain ⟨v1, vs1, d1, ds1, p1, q1, rfl, rfl, rfl, h1, r1⟩ := trodAll_cons r0
  obtain ⟨v2, vs2, d2, ds2, p2, q2, rfl, rfl, rfl, h2, r2⟩ := trodAll_cons r1
  obtain ⟨v3, vs3, d3, ds3, p3, q3, rfl, rfl, rfl, h3, r3⟩ := trodAll_cons r2
  obtain ⟨v4, vs4, d4, ds4, p4, q4, rfl, rfl, rfl, h4, r4⟩ := trodAll_cons r3
  obtain ⟨v5, vs5, d5, ds5, p5, q5, rfl, rfl, rfl, h5, r5⟩ := trodAll_cons r4
  obtain ⟨rfl, rfl, rfl⟩ := trodAll_nil r5
  obtain rfl : args = #[v0, v1, v2, v3, v4, v5] := by cases args; simp_all
  obtain ⟨rfl, rfl⟩ := trodVars_none hV
  simp only [List.append_nil] at hW' hA0
  obtain ⟨id, ax, ay, dr, nr, fi, ev, e0⟩ := open_station (hval 0 25 v0 rfl rfl) h0
  subst e0
  obtain ⟨dn, dk, e1⟩ := open_sun (hval 1 27 v1 rfl rfl) h1
  subst e1
  obtain ⟨xl, xh, yl, yh, e2⟩ := open_box (hval 2 31 v2 rfl rfl) h2
  subst e2
  obtain ⟨al, ah, bl, bh, e3⟩ := open_box (hval 3 31 v3 rfl rfl) h3
  subst e3
  obtain ⟨px, py, e4, wx4, wy4⟩ := open_point (hval 4 23 v4 rfl rfl) h4
  subst e4
  obtain ⟨t, e5, _, _, w5⟩ := open_int Try.underlying3 (hval 5 3 v5 rfl rfl) h5
  subst e5
  refine (stationHears_walk id ax ay dr nr fi ev dn dk xl xh yl yh al ah bl bh px py t W).mono fun e W' ⟨he, hg⟩ => ?_
  subst he
  exact ⟨_, rfl, post_law laid_out (by rw [Try.params5]; intro t ht; simp only [List.mem_cons, List.not_mem_nil, or_false] at ht; rcases ht with rfl | rfl | rfl | rfl | rfl | rfl <;> exact ⟨by kernel_rfl, of_decide_eq_true (by kernel_rfl)⟩) rfl hW' hA0 rfl rfl rfl rfl Try.underlying4 hg⟩
theorem stationHears_over : Rows.stationHearsRow.holds Try.pinned (OpenSpec.ofChange Rows.stationHearsSpec) :=
  OpenClaim.holds_of_wide 5 Try.f5 rfl rfl rfl rfl rfl rfl rfl ⟨rfl, rfl, rfl, rfl, rfl⟩ rfl rfl rfl rfl rfl (by kernel_rfl) Try.func5 (by kernel_rfl)
    (of_decide_eq_true (by kernel_rfl)) (by unfold Func.isWrapper; first | (rw [if_pos (by decide +kernel)]; kernel_rfl) | (rw [if_neg (by decide +kernel)]; exact ⟨rfl, rfl⟩))
    (fun os started H enc _ => stationHears_lifted os started H enc)
theorem stationHears_holds : Rows.StationHearsSaid :=
  stationHears_over
#print axioms stationHears_holds
end Go.Proofs.Ytnidacjmgekdjaa
