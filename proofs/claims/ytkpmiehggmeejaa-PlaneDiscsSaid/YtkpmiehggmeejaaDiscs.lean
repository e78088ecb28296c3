/- The statement PlaneDiscs of chapter 1: for any discs and place the law's function returns true and leaves its arguments as they were. No condition. -/
import Derived.Test.YtkpmiehggmeejaaPlaneHead
import Derived.Test.YtkpmiehggmeejaaPlaneMath
import Derived.Test.YtkpmiehggmeejaaFrame
namespace Go.Proofs.Ytkpmiehggmeejaa
open Go.ChangeShapes Go.WideShapes Go.ChangeAt Go.RowKit
set_option linter.unusedVariables false
theorem lies_point {px py xx xy r : Int} (hr : 0 ≤ r) : liesB xx xy 0 px py r = nearB xx xy px py px py r := by
  rw [near_point, sqd_comm xx xy px py]
  unfold liesB
  refine decide_eq_decide.2 ?_
  rw [Int.sub_zero]
  exact ⟨fun h => h.2, fun h => ⟨hr, h⟩⟩
theorem lies_trans {px py qx qy xx xy r s t : Int} (hr : 0 ≤ r) (h1 : liesB px py r qx qy s = true) (h2 : liesB qx qy s xx xy t = true) : liesB px py r xx xy t = true := by
  simp only [liesB, decide_eq_true_eq] at *
  refine ⟨by omega, ?_⟩
  have h := triangle (p := s - r) (q := t - s) (by omega) (by omega) h1.2 h2.2
  rwa [show s - r + (t - s) = t - r by omega] at h
theorem lies_near {px py qx qy xx xy r s : Int} (hr : 0 ≤ r) (h1 : liesB px py r qx qy s = true) (h2 : nearB xx xy px py px py r = true) : nearB xx xy qx qy qx qy s = true := by
  rw [near_point] at *
  simp only [liesB, decide_eq_true_eq] at *
  have h := triangle (p := s - r) (q := r) (by omega) hr (by rw [sqd_comm]; exact h1.2) h2
  rwa [show s - r + r = s by omega] at h
set_option maxRecDepth 100000 in
set_option maxHeartbeats 4000000 in
theorem planeDiscs_walk (px py r qx qy s xx xy t : Int) (w : World) :
    Calls Try.prog 6 #[.agg #[.int .i64 px, .int .i64 py], .int .i64 r, .agg #[.int .i64 qx, .int .i64 qy], .int .i64 s, .agg #[.int .i64 xx, .int .i64 xy], .int .i64 t] w fun e w' => e = .returned (.bool true) ∧ Below w.heap.size w w' := by
  go_enter Try.func6, Try.ntmps6
  go_wp2_with fail
  refine calls_named fun W hW => ?_
  obtain ⟨p1, p2, p3, hB⟩ := box3 hW
  clear hW
  have q1 := cellsL p1
  have q2 := cellsL p2
  have q3 := cellsL p3
  clear p1 p2 p3
  have hX0 := Below.refl W.heap.size W
  (with_reducible refine (head_any _).mono ?_)
  rintro e w1 ⟨rfl, hb⟩
  have hX1 := below_step hX0 hb
  clear hb
  by_cases hv : Vld px py ∧ Vld qx qy ∧ (0 ≤ r ∧ r ≤ 3000000) ∧ 0 ≤ s ∧ s ≤ 3000000
  · obtain ⟨hp, hq, hr, hs⟩ := hv
    obtain ⟨a, ea⟩ : ∃ a, liesB px py r qx qy s = a := ⟨_, rfl⟩
    obtain ⟨b, eb⟩ : ∃ a, liesB qx qy s xx xy t = a := ⟨_, rfl⟩
    obtain ⟨c, ec⟩ : ∃ a, liesB px py r xx xy t = a := ⟨_, rfl⟩
    obtain ⟨d, ed⟩ : ∃ a, nearB xx xy px py px py r = a := ⟨_, rfl⟩
    obtain ⟨i, ei⟩ : ∃ a, nearB xx xy qx qy qx qy s = a := ⟨_, rfl⟩
    have el : liesB xx xy 0 px py r = d := by rw [← ed]; exact lies_point hr.1
    have r1 : a = true → b = true → c = true := fun h1 h2 => by rw [← ec]; exact lies_trans hr.1 (ea.trans h1) (eb.trans h2)
    have r2 : a = true → d = true → i = true := fun h1 h2 => by rw [← ei]; exact lies_near hr.1 (ea.trans h1) (ed.trans h2)
    have la := fun w => Lies_yes px py r qx qy s w hp hq hr hs ea
    have LA := Lib.hid la
    clear la
    by_cases hx : Vld xx xy
    · have lc := fun w => Near_yes xx xy px py px py r w hx hp hp hr ed
      have ld := fun w => Near_yes xx xy qx qy qx qy s w hx hq hq hs ei
      have le := fun w => Lies_yes xx xy 0 px py r w hx hp ⟨by omega, by omega⟩ hr el
      have LC := Lib.hid lc
      have LD := Lib.hid ld
      have LE := Lib.hid le
      clear lc ld le
      clear ea ed ei el
      by_cases ht : 0 ≤ t ∧ t ≤ 3000000
      · have lb := fun w => Lies_yes qx qy s xx xy t w hq hx hs ht eb
        have lf := fun w => Lies_yes px py r xx xy t w hp hx hr ht ec
        have LB := Lib.hid lb
        have LF := Lib.hid lf
        clear lb lf
        clear eb ec
        cases a with
        | false =>
          clear r1 r2
          go_wp2_with fail
          (with_reducible refine (LA.out _).mono ?_)
          rintro e w2 ⟨rfl, hb⟩
          have hX2 := below_step hX1 hb
          clear hb
          go_wp2_with fail
          (with_reducible refine (LB.out _).mono ?_)
          rintro e w3 ⟨rfl, hb⟩
          have hX3 := below_step hX2 hb
          clear hb
          go_wp2_with fail
          (with_reducible refine (LF.out _).mono ?_)
          rintro e w4 ⟨rfl, hb⟩
          have hX4 := below_step hX3 hb
          clear hb
          go_wp2_with fail
          (with_reducible refine (LC.out _).mono ?_)
          rintro e w5 ⟨rfl, hb⟩
          have hX5 := below_step hX4 hb
          clear hb
          go_wp2_with fail
          (with_reducible refine (LD.out _).mono ?_)
          rintro e w6 ⟨rfl, hb⟩
          have hX6 := below_step hX5 hb
          clear hb
          go_wp2_with fail
          (with_reducible refine (LE.out _).mono ?_)
          rintro e w7 ⟨rfl, hb⟩
          have hX7 := below_step hX6 hb
          clear hb
          go_wp2_with fail
          go_returns
          exact ⟨rfl, below_step hB hX7⟩
        | true =>
          cases b with
          | false =>
            cases d with
            | false =>
              clear r1 r2
              go_wp2_with fail
              (with_reducible refine (LA.out _).mono ?_)
              rintro e w2 ⟨rfl, hb⟩
              have hX2 := below_step hX1 hb
              clear hb
              go_wp2_with fail
              (with_reducible refine (LB.out _).mono ?_)
              rintro e w3 ⟨rfl, hb⟩
              have hX3 := below_step hX2 hb
              clear hb
              go_wp2_with fail
              (with_reducible refine (LF.out _).mono ?_)
              rintro e w4 ⟨rfl, hb⟩
              have hX4 := below_step hX3 hb
              clear hb
              go_wp2_with fail
              (with_reducible refine (LC.out _).mono ?_)
              rintro e w5 ⟨rfl, hb⟩
              have hX5 := below_step hX4 hb
              clear hb
              go_wp2_with fail
              (with_reducible refine (LD.out _).mono ?_)
              rintro e w6 ⟨rfl, hb⟩
              have hX6 := below_step hX5 hb
              clear hb
              go_wp2_with fail
              (with_reducible refine (LE.out _).mono ?_)
              rintro e w7 ⟨rfl, hb⟩
              have hX7 := below_step hX6 hb
              clear hb
              go_wp2_with fail
              go_returns
              exact ⟨rfl, below_step hB hX7⟩
            | true =>
              obtain rfl := r2 rfl rfl
              clear r1 r2
              go_wp2_with fail
              (with_reducible refine (LA.out _).mono ?_)
              rintro e w2 ⟨rfl, hb⟩
              have hX2 := below_step hX1 hb
              clear hb
              go_wp2_with fail
              (with_reducible refine (LB.out _).mono ?_)
              rintro e w3 ⟨rfl, hb⟩
              have hX3 := below_step hX2 hb
              clear hb
              go_wp2_with fail
              (with_reducible refine (LF.out _).mono ?_)
              rintro e w4 ⟨rfl, hb⟩
              have hX4 := below_step hX3 hb
              clear hb
              go_wp2_with fail
              (with_reducible refine (LC.out _).mono ?_)
              rintro e w5 ⟨rfl, hb⟩
              have hX5 := below_step hX4 hb
              clear hb
              go_wp2_with fail
              (with_reducible refine (LD.out _).mono ?_)
              rintro e w6 ⟨rfl, hb⟩
              have hX6 := below_step hX5 hb
              clear hb
              go_wp2_with fail
              (with_reducible refine (LE.out _).mono ?_)
              rintro e w7 ⟨rfl, hb⟩
              have hX7 := below_step hX6 hb
              clear hb
              go_wp2_with fail
              go_returns
              exact ⟨rfl, below_step hB hX7⟩
          | true =>
            obtain rfl := r1 rfl rfl
            cases d with
            | false =>
              clear r1 r2
              go_wp2_with fail
              (with_reducible refine (LA.out _).mono ?_)
              rintro e w2 ⟨rfl, hb⟩
              have hX2 := below_step hX1 hb
              clear hb
              go_wp2_with fail
              (with_reducible refine (LB.out _).mono ?_)
              rintro e w3 ⟨rfl, hb⟩
              have hX3 := below_step hX2 hb
              clear hb
              go_wp2_with fail
              (with_reducible refine (LF.out _).mono ?_)
              rintro e w4 ⟨rfl, hb⟩
              have hX4 := below_step hX3 hb
              clear hb
              go_wp2_with fail
              (with_reducible refine (LC.out _).mono ?_)
              rintro e w5 ⟨rfl, hb⟩
              have hX5 := below_step hX4 hb
              clear hb
              go_wp2_with fail
              (with_reducible refine (LD.out _).mono ?_)
              rintro e w6 ⟨rfl, hb⟩
              have hX6 := below_step hX5 hb
              clear hb
              go_wp2_with fail
              (with_reducible refine (LE.out _).mono ?_)
              rintro e w7 ⟨rfl, hb⟩
              have hX7 := below_step hX6 hb
              clear hb
              go_wp2_with fail
              go_returns
              exact ⟨rfl, below_step hB hX7⟩
            | true =>
              obtain rfl := r2 rfl rfl
              clear r1 r2
              go_wp2_with fail
              (with_reducible refine (LA.out _).mono ?_)
              rintro e w2 ⟨rfl, hb⟩
              have hX2 := below_step hX1 hb
              clear hb
              go_wp2_with fail
              (with_reducible refine (LB.out _).mono ?_)
              rintro e w3 ⟨rfl, hb⟩
              have hX3 := below_step hX2 hb
              clear hb
              go_wp2_with fail
              (with_reducible refine (LF.out _).mono ?_)
              rintro e w4 ⟨rfl, hb⟩
              have hX4 := below_step hX3 hb
              clear hb
              go_wp2_with fail
              (with_reducible refine (LC.out _).mono ?_)
              rintro e w5 ⟨rfl, hb⟩
              have hX5 := below_step hX4 hb
              clear hb
              go_wp2_with fail
              (with_reducible refine (LD.out _).mono ?_)
              rintro e w6 ⟨rfl, hb⟩
              have hX6 := below_step hX5 hb
              clear hb
              go_wp2_with fail
              (with_reducible refine (LE.out _).mono ?_)
              rintro e w7 ⟨rfl, hb⟩
              have hX7 := below_step hX6 hb
              clear hb
              go_wp2_with fail
              go_returns
              exact ⟨rfl, below_step hB hX7⟩
      · have n1 : ¬ (Vld qx qy ∧ Vld xx xy ∧ (0 ≤ s ∧ s ≤ 3000000) ∧ 0 ≤ t ∧ t ≤ 3000000) := fun h => ht h.2.2.2
        have n2 : ¬ (Vld px py ∧ Vld xx xy ∧ (0 ≤ r ∧ r ≤ 3000000) ∧ 0 ≤ t ∧ t ≤ 3000000) := fun h => ht h.2.2.2
        clear eb ec r1
        cases a with
        | false =>
          clear r2
          go_wp2_with fail
          (with_reducible refine (LA.out _).mono ?_)
          rintro e w2 ⟨rfl, hb⟩
          have hX2 := below_step hX1 hb
          clear hb
          go_wp2_with fail
          (with_reducible refine (Lies_no _ _ _ _ _ _ _ n1).mono ?_)
          rintro e w3 ⟨rfl, hb⟩
          have hX3 := below_step hX2 hb
          clear hb
          go_wp2_with fail
          (with_reducible refine (Lies_no _ _ _ _ _ _ _ n2).mono ?_)
          rintro e w4 ⟨rfl, hb⟩
          have hX4 := below_step hX3 hb
          clear hb
          go_wp2_with fail
          (with_reducible refine (LC.out _).mono ?_)
          rintro e w5 ⟨rfl, hb⟩
          have hX5 := below_step hX4 hb
          clear hb
          go_wp2_with fail
          (with_reducible refine (LD.out _).mono ?_)
          rintro e w6 ⟨rfl, hb⟩
          have hX6 := below_step hX5 hb
          clear hb
          go_wp2_with fail
          (with_reducible refine (LE.out _).mono ?_)
          rintro e w7 ⟨rfl, hb⟩
          have hX7 := below_step hX6 hb
          clear hb
          go_wp2_with fail
          go_returns
          exact ⟨rfl, below_step hB hX7⟩
        | true =>
          cases d with
          | false =>
            clear r2
            go_wp2_with fail
            (with_reducible refine (LA.out _).mono ?_)
            rintro e w2 ⟨rfl, hb⟩
            have hX2 := below_step hX1 hb
            clear hb
            go_wp2_with fail
            (with_reducible refine (Lies_no _ _ _ _ _ _ _ n1).mono ?_)
            rintro e w3 ⟨rfl, hb⟩
            have hX3 := below_step hX2 hb
            clear hb
            go_wp2_with fail
            (with_reducible refine (Lies_no _ _ _ _ _ _ _ n2).mono ?_)
            rintro e w4 ⟨rfl, hb⟩
            have hX4 := below_step hX3 hb
            clear hb
            go_wp2_with fail
            (with_reducible refine (LC.out _).mono ?_)
            rintro e w5 ⟨rfl, hb⟩
            have hX5 := below_step hX4 hb
            clear hb
            go_wp2_with fail
            (with_reducible refine (LD.out _).mono ?_)
            rintro e w6 ⟨rfl, hb⟩
            have hX6 := below_step hX5 hb
            clear hb
            go_wp2_with fail
            (with_reducible refine (LE.out _).mono ?_)
            rintro e w7 ⟨rfl, hb⟩
            have hX7 := below_step hX6 hb
            clear hb
            go_wp2_with fail
            go_returns
            exact ⟨rfl, below_step hB hX7⟩
          | true =>
            obtain rfl := r2 rfl rfl
            clear r2
            go_wp2_with fail
            (with_reducible refine (LA.out _).mono ?_)
            rintro e w2 ⟨rfl, hb⟩
            have hX2 := below_step hX1 hb
            clear hb
            go_wp2_with fail
            (with_reducible refine (Lies_no _ _ _ _ _ _ _ n1).mono ?_)
            rintro e w3 ⟨rfl, hb⟩
            have hX3 := below_step hX2 hb
            clear hb
            go_wp2_with fail
            (with_reducible refine (Lies_no _ _ _ _ _ _ _ n2).mono ?_)
            rintro e w4 ⟨rfl, hb⟩
            have hX4 := below_step hX3 hb
            clear hb
            go_wp2_with fail
            (with_reducible refine (LC.out _).mono ?_)
            rintro e w5 ⟨rfl, hb⟩
            have hX5 := below_step hX4 hb
            clear hb
            go_wp2_with fail
            (with_reducible refine (LD.out _).mono ?_)
            rintro e w6 ⟨rfl, hb⟩
            have hX6 := below_step hX5 hb
            clear hb
            go_wp2_with fail
            (with_reducible refine (LE.out _).mono ?_)
            rintro e w7 ⟨rfl, hb⟩
            have hX7 := below_step hX6 hb
            clear hb
            go_wp2_with fail
            go_returns
            exact ⟨rfl, below_step hB hX7⟩
    · have n1 : ¬ (Vld qx qy ∧ Vld xx xy ∧ (0 ≤ s ∧ s ≤ 3000000) ∧ 0 ≤ t ∧ t ≤ 3000000) := fun h => hx h.2.1
      have n2 : ¬ (Vld px py ∧ Vld xx xy ∧ (0 ≤ r ∧ r ≤ 3000000) ∧ 0 ≤ t ∧ t ≤ 3000000) := fun h => hx h.2.1
      have n3 : ¬ (Vld xx xy ∧ Vld px py ∧ Vld px py ∧ 0 ≤ r ∧ r ≤ 3000000) := fun h => hx h.1
      have n4 : ¬ (Vld xx xy ∧ Vld qx qy ∧ Vld qx qy ∧ 0 ≤ s ∧ s ≤ 3000000) := fun h => hx h.1
      clear ea eb ec ed ei el r1 r2
      go_wp2_with fail
      (with_reducible refine (LA.out _).mono ?_)
      rintro e w2 ⟨rfl, hb⟩
      have hX2 := below_step hX1 hb
      clear hb
      go_wp2_with fail
      (with_reducible refine (Lies_no _ _ _ _ _ _ _ n1).mono ?_)
      rintro e w3 ⟨rfl, hb⟩
      have hX3 := below_step hX2 hb
      clear hb
      go_wp2_with fail
      (with_reducible refine (Lies_no _ _ _ _ _ _ _ n2).mono ?_)
      rintro e w4 ⟨rfl, hb⟩
      have hX4 := below_step hX3 hb
      clear hb
      go_wp2_with fail
      (with_reducible refine (Near_no _ _ _ _ _ _ _ _ n3).mono ?_)
      rintro e w5 ⟨rfl, hb⟩
      have hX5 := below_step hX4 hb
      clear hb
      go_wp2_with fail
      (with_reducible refine (Near_no _ _ _ _ _ _ _ _ n4).mono ?_)
      rintro e w6 ⟨rfl, hb⟩
      have hX6 := below_step hX5 hb
      clear hb
      go_wp2_with fail
      go_returns
      exact ⟨rfl, below_step hB hX6⟩
  · go_wp2_with fail
    (with_reducible refine (Lies_no _ _ _ _ _ _ _ hv).mono ?_)
    rintro e w2 ⟨rfl, hb⟩
    have hX2 := below_step hX1 hb
    clear hb
    go_wp2_with fail
    go_returns
    exact ⟨rfl, below_step hB hX2⟩
set_option maxRecDepth 100000 in
theorem planeDiscs_lifted (os : Os) (started : os.Started) (H : Type) (enc : TypeId × Value → H) :
    ReturnsInHanded {} Try.checked os 6 .any (Rows.planeDiscsSpec.pre6 enc Try.prog Try.f6 Rows.planeDiscsRow.domain false) (Rows.planeDiscsSpec.post enc Try.prog Try.f6 false true false false) := by
  refine returnsInHanded_of_change (C := Try.checked) own_knob started (by kernel_rfl) Try.func6
    (ChangeSpec.witness6 (enc := enc) (C := Try.checked) false ⟨#[], #[.agg #[.int .i64 0, .int .i64 0], .int .i64 0, .agg #[.int .i64 0, .int .i64 0], .int .i64 0, .agg #[.int .i64 0, .int .i64 0], .int .i64 0], []⟩ 8 (by kernel_rfl) (by kernel_rfl) (by kernel_rfl) (by kernel_rfl)) ?_
  intro W base args ds gs before hval0 hW hcnd _
  have hval : ∀ (j : Nat) t v, Try.f6.params[j]? = some t → args[j]? = some v → Value.okWide Try.prog W .any base t v := hval0
  have hW' := hW
  obtain ⟨p, q, hA0, hV, rfl, hfz, hnd⟩ := hW
  have hA : DataW.TrodAll enc Try.prog W 0 (fun _ => true) true Try.f6.params.toList args.toList ds p := hA0
  rw [Try.params6] at hA hval
  obtain ⟨v0, vs0, d0, ds0, p0, q0, hargs, rfl, rfl, h0, r0⟩ := trodAll_cons hA
  obtain ⟨v1, vs1, d1, ds1, p1, q1, rfl, rfl, rfl, h1, r1⟩ := trodAll_cons r0
  obtain ⟨v2, vs2, d2, ds2, p2, q2, rfl, rfl, rfl, h2, r2⟩ := trodAll_cons r1
  obtain ⟨v3, vs3, d3, ds3, p3, q3, rfl, rfl, rfl, h3, r3⟩ := trodAll_cons r2
  obtain ⟨v4, vs4, d4, ds4, p4, q4, rfl, rfl, rfl, h4, r4⟩ := trodAll_cons r3
  obtain ⟨v5, vs5, d5, ds5, p5, q5, rfl, rfl, rfl, h5, r5⟩ := trodAll_cons r4
  obtain ⟨rfl, rfl, rfl⟩ := trodAll_nil r5
  obtain rfl : args = #[v0, v1, v2, v3, v4, v5] := by cases args; simp_all
  obtain ⟨rfl, rfl⟩ := trodVars_none hV
  simp only [List.append_nil] at hW' hA0
  obtain ⟨px, py, e0, wx0, wy0⟩ := open_point (hval 0 23 v0 rfl rfl) h0
  subst e0
  obtain ⟨r, e1, _, _, w1⟩ := open_int Try.underlying3 (hval 1 3 v1 rfl rfl) h1
  subst e1
  obtain ⟨qx, qy, e2, wx2, wy2⟩ := open_point (hval 2 23 v2 rfl rfl) h2
  subst e2
  obtain ⟨s, e3, _, _, w3⟩ := open_int Try.underlying3 (hval 3 3 v3 rfl rfl) h3
  subst e3
  obtain ⟨xx, xy, e4, wx4, wy4⟩ := open_point (hval 4 23 v4 rfl rfl) h4
  subst e4
  obtain ⟨t, e5, _, _, w5⟩ := open_int Try.underlying3 (hval 5 3 v5 rfl rfl) h5
  subst e5
  refine (planeDiscs_walk px py r qx qy s xx xy t W).mono fun e W' ⟨he, hg⟩ => ?_
  subst he
  exact ⟨_, rfl, post_law laid_out (by rw [Try.params6]; intro t ht; simp only [List.mem_cons, List.not_mem_nil, or_false] at ht; rcases ht with rfl | rfl | rfl | rfl | rfl | rfl <;> exact ⟨by kernel_rfl, of_decide_eq_true (by kernel_rfl)⟩) rfl hW' hA0 rfl rfl rfl rfl Try.underlying4 hg⟩
theorem planeDiscs_over : Rows.planeDiscsRow.holds Try.pinned (OpenSpec.ofChange Rows.planeDiscsSpec) :=
  OpenClaim.holds_of_wide 6 Try.f6 rfl rfl rfl rfl rfl rfl rfl ⟨rfl, rfl, rfl, rfl, rfl⟩ rfl rfl rfl rfl rfl (by kernel_rfl) Try.func6 (by kernel_rfl)
    (of_decide_eq_true (by kernel_rfl)) (by unfold Func.isWrapper; first | (rw [if_pos (by decide +kernel)]; kernel_rfl) | (rw [if_neg (by decide +kernel)]; exact ⟨rfl, rfl⟩))
    (fun os started H enc _ => planeDiscs_lifted os started H enc)
theorem planeDiscs_holds : Rows.PlaneDiscsSaid :=
  planeDiscs_over
#print axioms planeDiscs_holds
end Go.Proofs.Ytkpmiehggmeejaa
