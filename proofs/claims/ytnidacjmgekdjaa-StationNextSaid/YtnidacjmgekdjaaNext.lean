/- For any station and time: the statement StationNext of chapter 31 (the next slot is not before the time, the one before it is, and where there is none the time and Every are above the greatest time): the law's function returns true and leaves its arguments as they were. No condition. -/
import Derived.Test.YtnidacjmgekdjaaStationHead
import Derived.Test.YtnidacjmgekdjaaFrameS
namespace Go.Proofs.Ytnidacjmgekdjaa
open Go.ChangeShapes Go.WideShapes Go.ChangeAt Go.RowKit
set_option linter.unusedVariables false
theorem ahead_zero {fi ev t : Int} (h3 : 1 ≤ ev) (h : aheadI fi ev t = 0) : t ≤ fi := by
  rcases Int.lt_or_le fi t with h1 | h1
  · have := (ahead_lt (fi := fi) (t := t) (k := 0) h3 (by omega)).2 (by omega)
    omega
  · exact h1
theorem ahead_ge {fi ev t : Int} (h3 : 1 ≤ ev) (h0 : 0 ≤ aheadI fi ev t) : t ≤ fi + aheadI fi ev t * ev := by
  rcases Int.lt_or_le (fi + aheadI fi ev t * ev) t with h1 | h1
  · have := (ahead_lt (fi := fi) (t := t) h3 h0).2 h1
    omega
  · exact h1
theorem ahead_before {fi ev t : Int} (h3 : 1 ≤ ev) (h0 : 0 < aheadI fi ev t) : fi + (aheadI fi ev t - 1) * ev < t :=
  (ahead_lt h3 (by omega)).1 (by omega)
set_option maxRecDepth 100000 in
set_option maxHeartbeats 1000000 in
theorem stationNext_walk (id ax ay dr nr fi ev t : Int) (w : World) :
    Calls Try.prog 9 #[.agg #[.int .i64 id, .int .i64 ax, .int .i64 ay, .int .i64 dr, .int .i64 nr, .int .i64 fi, .int .i64 ev], .int .i64 t] w fun e w' => e = .returned (.bool true) ∧ Below w.heap.size w w' := by
  go_enter Try.func9, Try.ntmps9
  go_wp2_with fail
  refine calls_named fun W hW => ?_
  obtain ⟨p1, hB⟩ := box1 hW
  clear hW
  have q1 := cellsL p1
  clear p1
  (with_reducible refine (head_true _).mono ?_)
  rintro e w1 ⟨rfl, hB1⟩
  by_cases hv : Stn id ax ay dr nr fi ev ∧ Tm t
  · obtain ⟨g0, g1⟩ := hv
    obtain ⟨a, ha⟩ : ∃ a, aheadI fi ev t = a := ⟨_, rfl⟩
    have bd := aheadI_bd (t := t) g0.f1 g1.2 g0.e1 g0.e2
    have z1 := g0.f1
    have z2 := g0.f2
    have z3 := g0.e1
    have z4 := g0.e2
    have z5 : 0 ≤ t := g1.1
    have z6 : t ≤ 10000000 := g1.2
    have hge := ahead_ge (fi := fi) (t := t) z3 bd.1
    have hbf := fun h => ahead_before (fi := fi) (t := t) z3 h
    have hz := fun h => ahead_zero (fi := fi) (t := t) z3 h
    rw [ha] at bd hge hbf hz
    rcases Int.lt_or_le 10000000 (fi + a * ev) with hf | hf
    · have hfar : 10000000 < t + ev := by
        rcases Int.lt_or_le 0 a with h | h
        · have := hbf h
          rw [Int.sub_mul] at this
          omega
        · have : a = 0 := by omega
          subst this
          omega
      have N := Lib.hid (fun w => sNext_none id ax ay dr nr fi ev t w g0 g1 ha hf)
      clear hf ha hge hbf hz g0 g1
      go_wp2_with fail
      (with_reducible refine (N.out _).mono ?_)
      rintro e w2 ⟨rfl, hb2⟩
      have hB2 := below_step hB1 hb2
      go_wp2_with fail
      go_returns
      exact ⟨rfl, below_step hB hB2⟩
    · have N := Lib.hid (fun w => sNext_yes id ax ay dr nr fi ev t w g0 g1 ha hf)
      have M := Lib.hid (fun w => sSlot_yes id ax ay dr nr fi ev a w g0 bd.1 hf rfl)
      by_cases h0 : a = 0
      · subst h0
        have hx := hz rfl
        clear hf ha hge hbf hz g1
        simp only [Int.zero_mul, Int.add_zero] at M
        go_wp2_with fail
        (with_reducible refine (N.out _).mono ?_)
        rintro e w2 ⟨rfl, hb2⟩
        have hB2 := below_step hB1 hb2
        go_wp2_with fail
        (with_reducible refine (M.out _).mono ?_)
        rintro e w3 ⟨rfl, hb3⟩
        have hB3 := below_step hB2 hb3
        go_wp2_with fail
        go_returns
        exact ⟨rfl, below_step hB hB3⟩
      · have hp : 0 < a := by omega
        have hbf := hbf hp
        have L := Lib.hid (fun w => sSlot_yes id ax ay dr nr fi ev (a - 1) w g0 (by omega) (by omega) rfl)
        obtain ⟨y, hy⟩ : ∃ y, fi + a * ev = y := ⟨_, rfl⟩
        obtain ⟨z, hz'⟩ : ∃ z, fi + (a - 1) * ev = z := ⟨_, rfl⟩
        rw [hy] at M hge hf
        rw [hz'] at L hbf
        have h0' : (a == 0) = false := by simp [h0]
        clear hy hz' ha hz g1 h0
        go_wp2_with fail
        (with_reducible refine (N.out _).mono ?_)
        rintro e w2 ⟨rfl, hb2⟩
        have hB2 := below_step hB1 hb2
        go_wp2_with fail
        (with_reducible refine (M.out _).mono ?_)
        rintro e w3 ⟨rfl, hb3⟩
        have hB3 := below_step hB2 hb3
        go_wp2_with fail
        (with_reducible refine (L.out _).mono ?_)
        rintro e w4 ⟨rfl, hb4⟩
        have hB4 := below_step hB3 hb4
        go_wp2_with fail
        go_returns
        exact ⟨rfl, below_step hB hB4⟩
  · have HV := Lib.hid hv
    clear hv
    go_wp2_with fail
    (with_reducible refine (sNext_no _ _ _ _ _ _ _ _ _ HV.out).mono ?_)
    rintro e w2 ⟨rfl, hb2⟩
    have hB2 := below_step hB1 hb2
    go_wp2_with fail
    go_returns
    exact ⟨rfl, below_step hB hB2⟩
set_option maxRecDepth 100000 in
theorem stationNext_lifted (os : Os) (started : os.Started) (H : Type) (enc : TypeId × Value → H) :
    ReturnsInHanded {} Try.checked os 9 .any (Rows.stationNextSpec.pre6 enc Try.prog Try.f9 Rows.stationNextRow.domain false) (Rows.stationNextSpec.post enc Try.prog Try.f9 false true false false) := by
  refine returnsInHanded_of_change (C := Try.checked) own_knob started (by kernel_rfl) Try.func9
    (ChangeSpec.witness6 (enc := enc) (C := Try.checked) false ⟨#[], #[.agg #[.int .i64 0, .int .i64 0, .int .i64 0, .int .i64 0, .int .i64 0, .int .i64 0, .int .i64 0], .int .i64 0], []⟩ 8 (by kernel_rfl) (by kernel_rfl) (by kernel_rfl) (by kernel_rfl)) ?_
  intro W base args ds gs before hval0 hW hcnd _
  have hval : ∀ (j : Nat) t v, Try.f9.params[j]? = some t → args[j]? = some v → Value.okWide Try.prog W .any base t v := hval0
  have hW' := hW
  obtain ⟨p, q, hA0, hV, rfl, hfz, hnd⟩ := hW
  have hA : DataW.TrodAll enc Try.prog W 0 (fun _ => true) true Try.f9.params.toList args.toList ds p := hA0
  rw [Try.params9] at hA hval
  obtain ⟨v0, vs0, d0, ds0, p0, q0, hargs, rfl, rfl, h0, r0⟩ := trodAll_cons hA
  obtain ⟨v1, vs1, d1, ds1, p1, q1, rfl, rfl, rfl, h1, r1⟩ := trodAll_cons r0
  obtain ⟨rfl, rfl, rfl⟩ := trodAll_nil r1
  obtain rfl : args = #[v0, v1] := by cases args; simp_all
  obtain ⟨rfl, rfl⟩ := trodVars_none hV
  simp only [List.append_nil] at hW' hA0
  obtain ⟨id, ax, ay, dr, nr, fi, ev, e0⟩ := open_station (hval 0 25 v0 rfl rfl) h0
  subst e0
  obtain ⟨t, e1, _, _, w1⟩ := open_int Try.underlying3 (hval 1 3 v1 rfl rfl) h1
  subst e1
  refine (stationNext_walk id ax ay dr nr fi ev t W).mono fun e W' ⟨he, hg⟩ => ?_
  subst he
  exact ⟨_, rfl, post_law laid_out (by rw [Try.params9]; intro t ht; simp only [List.mem_cons, List.not_mem_nil, or_false] at ht; rcases ht with rfl | rfl <;> exact ⟨by kernel_rfl, of_decide_eq_true (by kernel_rfl)⟩) rfl hW' hA0 rfl rfl rfl rfl Try.underlying4 hg⟩
theorem stationNext_over : Rows.stationNextRow.holds Try.pinned (OpenSpec.ofChange Rows.stationNextSpec) :=
  OpenClaim.holds_of_wide 9 Try.f9 rfl rfl rfl rfl rfl rfl rfl ⟨rfl, rfl, rfl, rfl, rfl⟩ rfl rfl rfl rfl rfl (by kernel_rfl) Try.func9 (by kernel_rfl)
    (of_decide_eq_true (by kernel_rfl)) (by unfold Func.isWrapper; first | (rw [if_pos (by decide +kernel)]; kernel_rfl) | (rw [if_neg (by decide +kernel)]; exact ⟨rfl, rfl⟩))
    (fun os started H enc _ => stationNext_lifted os started H enc)
theorem stationNext_holds : Rows.StationNextSaid :=
  stationNext_over
#print axioms stationNext_holds
end Go.Proofs.Ytnidacjmgekdjaa
