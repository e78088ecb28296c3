/- For any station, sun, box, place, time and further range: the statement StationRanges of chapter 31 (what a place hears, and what a box hears with greater ranges): the law's function returns true and leaves its arguments as they were. No condition. -/
import Derived.Test.YtnidacjmgekdjaaStationHead
import Derived.Test.YtnidacjmgekdjaaStationMath
import Derived.Test.YtnidacjmgekdjaaFrameS
namespace Go.Proofs.Ytnidacjmgekdjaa
open Go.ChangeShapes Go.WideShapes Go.ChangeAt Go.RowKit
attribute [local go_sem] bqOp bqAll bqUpon
attribute [local irreducible] wpQuiet wpBQ
set_option linter.unusedVariables false
theorem place_facts {id ax ay dr nr fi ev dn dk px py t z g n h : Int} (h1 : hearsR id ax ay dr nr fi ev dn dk px px py py t = (z, g)) (h2 : rangeR id ax ay dr nr fi ev dn dk t = (n, h)) (hg : g = 0) :
    h = 0 ∧ 0 ≤ n ∧ n ≤ 3000000 ∧ -2000000 ≤ px - ax ∧ px - ax ≤ 2000000 ∧ -2000000 ≤ py - ay ∧ py - ay ≤ 2000000 ∧
      (z = 1 ∧ (px - ax) * (px - ax) + (py - ay) * (py - ay) ≤ n * n ∨ z = -1 ∧ n * n < (px - ax) * (px - ax) + (py - ay) * (py - ay)) := by
  unfold hearsR at h1
  split at h1
  · rename_i k
    cases h1
    unfold rangeR at h2
    rw [if_pos ⟨k.1, k.2.1, k.2.2.2⟩] at h2
    cases h2
    have fb := farI_bd (dn := dn) (dk := dk) (t := t) ⟨k.1.d1, k.1.d2⟩ ⟨k.1.n1, k.1.n2⟩
    have b := k.2.2.1
    have := b.x1
    have := b.x3
    have := b.y1
    have := b.y3
    have := k.1.at'.x1
    have := k.1.at'.x2
    have := k.1.at'.y1
    have := k.1.at'.y2
    refine ⟨rfl, fb.1, fb.2, by omega, by omega, by omega, by omega, ?_⟩
    rw [hears_pt]
    by_cases hr : reachB ax ay px py (farI dn dk dr nr t) = true
    · rw [if_pos hr]
      exact .inl ⟨rfl, (reach_def _ _ _ _ _).1 hr⟩
    · rw [if_neg hr]
      rw [reach_def] at hr
      exact .inr ⟨rfl, by omega⟩
  · cases h1; omega
theorem more_facts {id ax ay dr nr fi ev dn dk xl xh yl yh t x e y f m : Int} (h1 : hearsR id ax ay dr nr fi ev dn dk xl xh yl yh t = (x, e)) (h2 : hearsR id ax ay (min 3000000 (dr + m)) (min 3000000 (nr + m)) fi ev dn dk xl xh yl yh t = (y, f)) :
    e = 1 ∨ e = 0 ∧ (0 ≤ dr ∧ dr ≤ 3000000 ∧ 0 ≤ nr ∧ nr ≤ 3000000) ∧ (0 ≤ m → m ≤ 3000000 → f = 0 ∧ x ≤ y) := by
  unfold hearsR at h1 h2
  split at h1
  · rename_i k
    cases h1
    refine .inr ⟨rfl, ⟨k.1.d1, k.1.d2, k.1.n1, k.1.n2⟩, fun m0 m1 => ?_⟩
    have := k.1.d1
    have := k.1.d2
    have := k.1.n1
    have := k.1.n2
    have st : Stn id ax ay (min 3000000 (dr + m)) (min 3000000 (nr + m)) fi ev := { k.1 with d1 := by omega, d2 := by omega, n1 := by omega, n2 := by omega }
    rw [if_pos ⟨st, k.2⟩] at h2
    cases h2
    have fb := farI_bd (dn := dn) (dk := dk) (t := t) ⟨k.1.d1, k.1.d2⟩ ⟨k.1.n1, k.1.n2⟩
    refine ⟨rfl, hears_more k.2.2.1.x2 k.2.2.1.y2 fb.1 ?_⟩
    unfold farI
    split <;> omega
  · cases h1; exact .inl rfl
theorem sq_bd {d A : Int} (h1 : -A ≤ d) (h2 : d ≤ A) : 0 ≤ d * d ∧ d * d ≤ A * A := ⟨sq_nn d, sq_le h1 h2⟩
set_option maxRecDepth 100000 in
set_option maxHeartbeats 2000000 in
theorem stationRanges_walk (id ax ay dr nr fi ev dn dk xl xh yl yh t m px py : Int) (w : World) :
    Calls Try.prog 6 #[.agg #[.int .i64 id, .int .i64 ax, .int .i64 ay, .int .i64 dr, .int .i64 nr, .int .i64 fi, .int .i64 ev], .agg #[.int .i64 dn, .int .i64 dk], .agg #[.int .i64 xl, .int .i64 xh, .int .i64 yl, .int .i64 yh], .int .i64 t, .int .i64 m, .agg #[.int .i64 px, .int .i64 py]] w fun e w' => e = .returned (.bool true) ∧ Below w.heap.size w w' := by
  obtain ⟨⟨x, e⟩, h1⟩ : ∃ r, hearsR id ax ay dr nr fi ev dn dk xl xh yl yh t = r := ⟨_, rfl⟩
  obtain ⟨⟨z, g⟩, h3⟩ : ∃ r, hearsR id ax ay dr nr fi ev dn dk px px py py t = r := ⟨_, rfl⟩
  obtain ⟨⟨n, h⟩, h4⟩ : ∃ r, rangeR id ax ay dr nr fi ev dn dk t = r := ⟨_, rfl⟩
  obtain ⟨⟨y, f⟩, h5⟩ : ∃ r, hearsR id ax ay (min 3000000 (dr + m)) (min 3000000 (nr + m)) fi ev dn dk xl xh yl yh t = r := ⟨_, rfl⟩
  have J := Lib.hid (place_facts h3 h4)
  have M := Lib.hid (more_facts h1 h5)
  have A1 := Lib.hid (fun w => sHears_any id ax ay dr nr fi ev dn dk xl xh yl yh t w h1)
  have A3 := Lib.hid (fun w => sHears_any id ax ay dr nr fi ev dn dk px px py py t w h3)
  have A4 := Lib.hid (fun w => sRange_any id ax ay dr nr fi ev dn dk t w h4)
  have A5 := Lib.hid (fun w => sHears_any id ax ay (min 3000000 (dr + m)) (min 3000000 (nr + m)) fi ev dn dk xl xh yl yh t w h5)
  clear h1 h3 h4 h5
  go_enter Try.func6, Try.ntmps6
  go_wp2_with fail
  refine calls_named fun W hW => ?_
  obtain ⟨p1, p2, p3, p4, hB⟩ := box4 hW
  clear hW
  have P1 := Lib.hid p1
  have P2 := Lib.hid p2
  have P3 := Lib.hid p3
  have P4 := Lib.hid p4
  have q1 := cellsL p1
  have q2 := cellsL p2
  have q3 := cellsL p3
  clear p1 p2 p3 p4
  (with_reducible refine (head_true _).mono ?_)
  rintro e' w1 ⟨rfl, hB1⟩
  go_wp2_with fail
  (with_reducible refine (A1.out _).mono ?_)
  rintro e' w2 ⟨rfl, hb2⟩
  have hB2 := below_step hB1 hb2
  go_wp2_with fail
  clear q1 q2 q3
  have r1 := cellsR (block_later hB2 P1.out)
  have r2 := cellsR (block_later hB2 P2.out)
  have r4 := cellsR (block_later hB2 P4.out)
  (refine wp_region_quiet_below (by kernel_rfl) (by kernel_rfl) ?_; (repeat (refine wpQuiet_step (fun K hK => ?_); replace hK := Lib.hid hK; go_simp; first | (refine hK.out _ ?_; clear hK K) | (apply Exists.intro; refine ⟨fun _ => ?_, hK.out _ ?_⟩; (first | (go_at_call 29; exact Calls.regrown_of (box_any _ _ _ _ _)) | (go_at_call 18; exact Calls.regrown_of (A3.out _))); clear hK K))); refine wpQuiet_nil ?_)
  intro w3 hr3
  have hB3 := below_step hB2 (regrown_below hr3)
  clear hr3 r1 r2 r4
  have q1 := cellsL P1.out
  have q2 := cellsL P2.out
  go_wp2_with fail
  (with_reducible refine (A4.out _).mono ?_)
  rintro e' w4 ⟨rfl, hb4⟩
  have hB4 := below_step hB3 hb4
  clear hb4
  go_upto_if 57 with (fail)
  go_cut [13] from 56 to 103 (fun s wx => s = .bool true ∧ Below W.heap.size W wx)
  case first =>
    by_cases hg : g = 0
    · obtain ⟨rfl, n0, n1, u1, u2, v1, v2, hz⟩ := J.out hg
      have d0 : (g == 0) = true := by simp [hg]
      have HG := Lib.hid hg
      clear hg
      have x1 := cell_block (block_later hB4 P1.out)
      have x4 := cell_block (block_later hB4 P4.out)
      have hA := fun o => hB4.alloc hB4.size o
      obtain ⟨u, hu⟩ : ∃ u, px - ax = u := ⟨_, rfl⟩
      obtain ⟨v, hv⟩ : ∃ v, py - ay = v := ⟨_, rfl⟩
      have s1 := sq_bd u1 u2
      have s2 := sq_bd v1 v2
      have s3 := sq_bd (A := 3000000) (d := n) (by omega) n1
      rw [hu] at u1 u2 s1 hz
      rw [hv] at v1 v2 s2 hz
      obtain ⟨uu, huu⟩ : ∃ uu, u * u = uu := ⟨_, rfl⟩
      obtain ⟨vv, hvv⟩ : ∃ vv, v * v = vv := ⟨_, rfl⟩
      obtain ⟨nn, hnn⟩ : ∃ nn, n * n = nn := ⟨_, rfl⟩
      rw [huu] at s1 hz
      rw [hvv] at s2 hz
      rw [hnn] at s3 hz
      rcases hz with ⟨rfl, hz⟩ | ⟨rfl, hz⟩
      · go_wp2_with fail
        go_meet
        exact ⟨rfl, hA _⟩
      · have d6 : decide (uu + vv ≤ nn) = false := by simp; omega
        go_wp2_with fail
        go_meet
        exact ⟨rfl, hA _⟩
    · have d0 : (g == 0) = false := by simp [hg]
      have HG := Lib.hid hg
      clear hg
      go_wp2_with fail
      go_meet
      exact ⟨rfl, hB4⟩
  case rest =>
    obtain ⟨rfl, hB5⟩ := hcut
    have q1 := cellsL P1.out
    have q2 := cellsL P2.out
    have q3 := cellsL P3.out
    rcases M.out with rfl | ⟨rfl, hd, hm⟩
    · go_wp2_with fail
      go_returns
      exact ⟨rfl, below_step hB hB5⟩
    · by_cases m0 : m < 0
      · go_wp2_with fail
        go_returns
        exact ⟨rfl, below_step hB hB5⟩
      · have d0 : decide (m < 0) = false := by simpa using m0
        by_cases m1 : 3000000 < m
        · go_wp2_with fail
          go_returns
          exact ⟨rfl, below_step hB hB5⟩
        · have d1 : decide (3000000 < m) = false := by simpa using m1
          obtain ⟨rfl, hxy⟩ := hm (by omega) (by omega)
          obtain ⟨d2, d3, d4, d5⟩ := hd
          have m2 : 0 ≤ m := by omega
          have m3 : m ≤ 3000000 := by omega
          have hA := fun o => hB5.alloc hB5.size o
          clear J A3 A4
          have A6 := A5.out
          clear A5
          rcases Int.lt_or_le (dr + m) 3000000 with c1 | c1 <;> rcases Int.lt_or_le (nr + m) 3000000 with c2 | c2
          · rw [show min 3000000 (dr + m) = dr + m by omega, show min 3000000 (nr + m) = nr + m by omega] at A6
            have A5 := Lib.hid A6
            clear A6
            go_wp2_with fail
            (with_reducible refine (A5.out _).mono ?_)
            rintro e' w6 ⟨rfl, hb6⟩
            have hB6 := below_step (hA _) hb6
            go_wp2_with fail
            go_returns
            exact ⟨rfl, below_step hB hB6⟩
          · rw [show min 3000000 (dr + m) = dr + m by omega, show min 3000000 (nr + m) = 3000000 by omega] at A6
            have A5 := Lib.hid A6
            clear A6
            go_wp2_with fail
            (with_reducible refine (A5.out _).mono ?_)
            rintro e' w6 ⟨rfl, hb6⟩
            have hB6 := below_step (hA _) hb6
            go_wp2_with fail
            go_returns
            exact ⟨rfl, below_step hB hB6⟩
          · rw [show min 3000000 (dr + m) = 3000000 by omega, show min 3000000 (nr + m) = nr + m by omega] at A6
            have A5 := Lib.hid A6
            clear A6
            go_wp2_with fail
            (with_reducible refine (A5.out _).mono ?_)
            rintro e' w6 ⟨rfl, hb6⟩
            have hB6 := below_step (hA _) hb6
            go_wp2_with fail
            go_returns
            exact ⟨rfl, below_step hB hB6⟩
          · rw [show min 3000000 (dr + m) = 3000000 by omega, show min 3000000 (nr + m) = 3000000 by omega] at A6
            have A5 := Lib.hid A6
            clear A6
            go_wp2_with fail
            (with_reducible refine (A5.out _).mono ?_)
            rintro e' w6 ⟨rfl, hb6⟩
            have hB6 := below_step (hA _) hb6
            go_wp2_with fail
            go_returns
            exact ⟨rfl, below_step hB hB6⟩
set_option maxRecDepth 100000 in
theorem stationRanges_lifted (os : Os) (started : os.Started) (H : Type) (enc : TypeId × Value → H) :
    ReturnsInHanded {} Try.checked os 6 .any (Rows.stationRangesSpec.pre6 enc Try.prog Try.f6 Rows.stationRangesRow.domain false) (Rows.stationRangesSpec.post enc Try.prog Try.f6 false true false false) := by
  refine returnsInHanded_of_change (C := Try.checked) own_knob started (by kernel_rfl) Try.func6
    (ChangeSpec.witness6 (enc := enc) (C := Try.checked) false ⟨#[], #[.agg #[.int .i64 0, .int .i64 0, .int .i64 0, .int .i64 0, .int .i64 0, .int .i64 0, .int .i64 0], .agg #[.int .i64 0, .int .i64 0], .agg #[.int .i64 0, .int .i64 0, .int .i64 0, .int .i64 0], .int .i64 0, .int .i64 0, .agg #[.int .i64 0, .int .i64 0]], []⟩ 8 (by kernel_rfl) (by kernel_rfl) (by kernel_rfl) (by kernel_rfl)) ?_
  intro W base args ds gs before hval0 hW hcnd _
  have hval : ∀ (j : Nat) t v, Try.f6.params[j]? = some t → args[j]? = some v → Value.okWide Try.prog W .any base t v := hval0
  have hW' := hW
  obtain ⟨p, q, hA0, hV, rfl, hfz, hnd⟩ := hW
  have hA : DataW.TrodAll enc Try.prog W 0 (fun _ => true) true Try.f6.params.toList args.toList ds p := hA0
  rw [Try.params6] at hA hval
  obtain ⟨v0, vs0, d0, ds0, p0, q0, hargs, rfl, rfl, h0, r0⟩ := trodAll_cons hA
  obtain ⟨v1, vs1, d1, ds1, p1, q1, rfl, rfl, rfl, h1, r1⟩ := trodAll_cons r0
  obtain ⟨v2, vs2, d2, ds2, p2, q2, rfl, rfl, rfl, h2, r2⟩ := trodAll_cons r1
  obtain ⟨v3, vs3, d3, ds3, p3, q3, rfl, rfl, rfl, h3, r3⟩ := trodAll_cons r2
  obtain ⟨v4, vs4, d4, ds4, p4, q4, rfl, rfl, rfl, h4, r4⟩ := trodAll_cons r3
  obtain ⟨v5, vs5, d5, ds5, p5, q5, rfl, rfl, rfl, h5, r5⟩ := trodAll_cons r4
  obtain ⟨rfl, rfl, rfl⟩ := trodAll_nil r5
  obtain rfl : args = #[v0, v1, v2, v3, v4, v5] := by cases args; simp_all
  obtain ⟨rfl, rfl⟩ := trodVars_none hV
  simp only [List.append_nil] at hW' hA0
  obtain ⟨id, ax, ay, dr, nr, fi, ev, e0⟩ := open_station (hval 0 25 v0 rfl rfl) h0
  subst e0
  obtain ⟨dn, dk, e1⟩ := open_sun (hval 1 27 v1 rfl rfl) h1
  subst e1
  obtain ⟨xl, xh, yl, yh, e2⟩ := open_box (hval 2 31 v2 rfl rfl) h2
  subst e2
  obtain ⟨t, e3, _, _, w3⟩ := open_int Try.underlying3 (hval 3 3 v3 rfl rfl) h3
  subst e3
  obtain ⟨m, e4, _, _, w4⟩ := open_int Try.underlying3 (hval 4 3 v4 rfl rfl) h4
  subst e4
  obtain ⟨px, py, e5, wx5, wy5⟩ := open_point (hval 5 23 v5 rfl rfl) h5
  subst e5
  refine (stationRanges_walk id ax ay dr nr fi ev dn dk xl xh yl yh t m px py W).mono fun e W' ⟨he, hg⟩ => ?_
  subst he
  exact ⟨_, rfl, post_law laid_out (by rw [Try.params6]; intro t ht; simp only [List.mem_cons, List.not_mem_nil, or_false] at ht; rcases ht with rfl | rfl | rfl | rfl | rfl | rfl <;> exact ⟨by kernel_rfl, of_decide_eq_true (by kernel_rfl)⟩) rfl hW' hA0 rfl rfl rfl rfl Try.underlying4 hg⟩
theorem stationRanges_over : Rows.stationRangesRow.holds Try.pinned (OpenSpec.ofChange Rows.stationRangesSpec) :=
  OpenClaim.holds_of_wide 6 Try.f6 rfl rfl rfl rfl rfl rfl rfl ⟨rfl, rfl, rfl, rfl, rfl⟩ rfl rfl rfl rfl rfl (by kernel_rfl) Try.func6 (by kernel_rfl)
    (of_decide_eq_true (by kernel_rfl)) (by unfold Func.isWrapper; first | (rw [if_pos (by decide +kernel)]; kernel_rfl) | (rw [if_neg (by decide +kernel)]; exact ⟨rfl, rfl⟩))
    (fun os started H enc _ => stationRanges_lifted os started H enc)
theorem stationRanges_holds : Rows.StationRangesSaid :=
  stationRanges_over
#print axioms stationRanges_holds
end Go.Proofs.Ytnidacjmgekdjaa
