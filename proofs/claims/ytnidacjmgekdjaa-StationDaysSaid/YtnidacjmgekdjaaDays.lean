/- For any station, sun, time and number of days: the statement StationDays of chapter 31 (the light of a later day, the minutes of light of a day, and the range by that): the law's function returns true and leaves its arguments as they were. No condition. -/
import Derived.Test.YtnidacjmgekdjaaStationHead
import Derived.Test.YtnidacjmgekdjaaStationK
import Derived.Test.YtnidacjmgekdjaaFrameS
namespace Go.Proofs.Ytnidacjmgekdjaa
open Go.ChangeShapes Go.WideShapes Go.ChangeAt Go.RowKit
set_option linter.unusedVariables false
/-- The minutes of light before the minute n. -/
def sumB (dn dk : Int) : Nat → Int
  | 0 => 0
  | n + 1 => sumB dn dk n + (if dayB dn dk (n : Int) = true then 1 else 0)
theorem sumB_eq {dn dk : Int} (h : Sn dn dk) (n : Nat) (hn : n ≤ 1440) : sumB dn dk n = max 0 (min (n : Int) dk - dn) := by
  obtain ⟨h1, h2, h3⟩ := h
  induction n with
  | zero => unfold sumB; omega
  | succ n ih =>
    unfold sumB
    rw [ih (by omega)]
    unfold dayB
    have e : (n : Int) % 1440 = n := by omega
    rw [e]
    by_cases c : dn ≤ (n : Int) ∧ (n : Int) ≤ dk - 1
    · rw [if_pos (decide_eq_true c)]; omega
    · rw [if_neg (by simpa using c)]; omega
theorem sumB_bd (dn dk : Int) (n : Nat) : 0 ≤ sumB dn dk n ∧ sumB dn dk n ≤ n := by
  induction n with
  | zero => unfold sumB; omega
  | succ n ih => unfold sumB; split <;> omega
theorem dayB_later (dn dk t d : Int) : dayB dn dk (t + 1440 * d) = dayB dn dk t := by
  unfold dayB
  rw [Int.add_mul_emod_self_left]
theorem sumB_yes {dn dk : Int} {n : Nat} (h : dayB dn dk (n : Int) = true) : sumB dn dk (n + 1) = sumB dn dk n + 1 := by rw [sumB, if_pos h]
theorem sumB_no {dn dk : Int} {n : Nat} (h : dayB dn dk (n : Int) = false) : sumB dn dk (n + 1) = sumB dn dk n := by rw [sumB, h]; simp
set_option maxRecDepth 100000 in
set_option maxHeartbeats 2000000 in
theorem stationDays_walk (id ax ay dr nr fi ev dn dk t d : Int) (hd : (Lit.int .u8 d).wf = true) (w : World) :
    Calls Try.prog 4 #[.agg #[.int .i64 id, .int .i64 ax, .int .i64 ay, .int .i64 dr, .int .i64 nr, .int .i64 fi, .int .i64 ev], .agg #[.int .i64 dn, .int .i64 dk], .int .i64 t, .int .u8 d] w fun e w' => e = .returned (.bool true) ∧ Below w.heap.size w w' := by
  have d1 : 0 ≤ d := by simp [Lit.wf, IntKind.min, IntKind.max, IntKind.signed, IntKind.bits] at hd; omega
  have d2 : d ≤ 255 := by simp [Lit.wf, IntKind.min, IntKind.max, IntKind.signed, IntKind.bits] at hd; omega
  clear hd
  go_enter Try.func4, Try.ntmps4
  go_wp2_with fail
  refine calls_named fun W hW => ?_
  obtain ⟨p1, p2, hB⟩ := box2 hW
  clear hW
  have q1 := cellsL p1
  have q2 := cellsL p2
  have P1 := Lib.hid p1
  have P2 := Lib.hid p2
  clear p1 p2
  (with_reducible refine (head_true _).mono ?_)
  rintro e w1 ⟨rfl, hB1⟩
  by_cases hv : Sn dn dk ∧ Tm t
  · obtain ⟨g0, g1⟩ := hv
    have t1 : 0 ≤ t := g1.1
    have t2 : t ≤ 10000000 := g1.2
    have s1 := g0.a
    have s2 := g0.b
    have s3 := g0.c
    obtain ⟨v, hv⟩ : ∃ v, dayB dn dk t = v := ⟨_, rfl⟩
    have V := Lib.hid hv
    have G0 := Lib.hid g0
    have G1 := Lib.hid g1
    obtain ⟨⟨b, f⟩, hb⟩ : ∃ r, lightR dn dk (t + 1440 * d) = r := ⟨_, rfl⟩
    have L := Lib.hid (fun w => sLight_any dn dk (t + 1440 * d) w hb)
    have F : Hid (t + 1440 * d ≤ 10000000 ∧ f = 0 ∧ b = v ∨ 10000000 < t + 1440 * d ∧ f = 1) := Lib.hid (by
      unfold lightR at hb
      by_cases h : t + 1440 * d ≤ 10000000
      · rw [if_pos ⟨g0, by omega, h⟩, dayB_later, hv] at hb
        cases hb
        exact .inl ⟨h, rfl, rfl⟩
      · rw [if_neg (fun x => h x.2.2)] at hb
        cases hb
        exact .inr ⟨by omega, rfl⟩)
    clear hv hb g0 g1
    go_wp2_with fail
    (with_reducible refine (sLight_yes _ _ _ _ G0.out G1.out V.out).mono ?_)
    rintro e w2 ⟨rfl, hb2⟩
    have hB2 := below_step hB1 hb2
    go_wp2_with fail
    (with_reducible refine (L.out _).mono ?_)
    rintro e w3 ⟨rfl, hb3⟩
    have hB3 := below_step hB2 hb3
    clear hb2 hb3 L
    go_upto_region 7 with (fail)
    go_cut [9] from 46 to 67 (fun s wx => s = .bool true ∧ w3 = wx)
    case first =>
      rcases F.out with ⟨h, rfl, rfl⟩ | ⟨h, rfl⟩
      · go_wp2_with fail
        go_meet
        exact ⟨rfl, rfl⟩
      · go_wp2_with fail
        go_meet
        exact ⟨rfl, rfl⟩
    case rest =>
      obtain ⟨rfl, rfl⟩ := hcut
      clear F
      go_wp2_with fail
      clear q1 q2
      go_loopw [15, 16] (fun s i wr => ∃ k : Nat, k ≤ 1440 ∧ i = .int .i64 k ∧ s = .int .i64 (sumB dn dk k) ∧ Below W.heap.size W wr) (fun _ i _ => 1440 - (intOf i).toNat)
      case atStart => exact ⟨0, by omega, rfl, rfl, hB3⟩
      case round =>
        obtain ⟨k, hk, rfl, rfl, hBr⟩ := hrel
        have bd := sumB_bd dn dk k
        by_cases hlt : k < 1440
        · have q2 := cellsL P2.out
          obtain ⟨c, hc⟩ : ∃ c, dayB dn dk (k : Int) = c := ⟨_, rfl⟩
          have C := Lib.hid hc
          clear hc
          go_wp2_with fail
          (with_reducible refine (sLight_yes _ _ (k : Int) _ G0.out (tm (by omega) (by omega)) C.out).mono ?_)
          rintro e w4 ⟨rfl, hb4⟩
          have hB4 := below_step hBr hb4
          cases c
          · go_wp2_with fail
            go_roundw
            case rel => exact ⟨k + 1, by omega, by go_num, by rw [sumB_no C.out], hB4⟩
            case measure => simp [intOf]; omega
          · go_wp2_with fail
            go_roundw
            case rel => exact ⟨k + 1, by omega, by go_num, by rw [sumB_yes C.out], hB4⟩
            case measure => simp [intOf]; omega
        · have hk' : k = 1440 := by omega
          subst hk'
          have hs := sumB_eq G0.out 1440 (by omega)
          have hs' : sumB dn dk 1440 = dk - dn := by rw [hs]; omega
          rw [hs']
          clear hs hs' bd hlt hk
          have q1 := cellsL P1.out
          have q2 := cellsL P2.out
          by_cases hst : Stn id ax ay dr nr fi ev
          · have ST := Lib.hid hst
            clear hst
            cases v
            · have R : farI dn dk dr nr t = nr := by unfold farI; rw [V.out]; rfl
              have RR := Lib.hid R
              clear R
              go_wp2_with fail
              (with_reducible refine (sRange_yes _ _ _ _ _ _ _ _ _ _ _ ST.out G0.out G1.out RR.out).mono ?_)
              rintro e w4 ⟨rfl, hb4⟩
              have hB4 := below_step hBr hb4
              go_wp2_with fail
              go_returns
              exact ⟨rfl, below_step hB hB4⟩
            · have R : farI dn dk dr nr t = dr := by unfold farI; rw [V.out]; rfl
              have RR := Lib.hid R
              clear R
              go_wp2_with fail
              (with_reducible refine (sRange_yes _ _ _ _ _ _ _ _ _ _ _ ST.out G0.out G1.out RR.out).mono ?_)
              rintro e w4 ⟨rfl, hb4⟩
              have hB4 := below_step hBr hb4
              go_wp2_with fail
              go_returns
              exact ⟨rfl, below_step hB hB4⟩
          · have hn : ¬ (Stn id ax ay dr nr fi ev ∧ Sn dn dk ∧ Tm t) := fun h => hst h.1
            have ST := Lib.hid hst
            have NN := Lib.hid hn
            clear hst hn
            go_wp2_with fail
            (with_reducible refine (sRange_no _ _ _ _ _ _ _ _ _ _ _ NN.out).mono ?_)
            rintro e w4 ⟨rfl, hb4⟩
            have hB4 := below_step hBr hb4
            go_wp2_with fail
            (with_reducible refine (sValid_any _ _ _ _ _ _ _ _ (decide_eq_false ST.out)).mono ?_)
            rintro e w5 ⟨rfl, hb5⟩
            have hB5 := below_step hB4 hb5
            go_wp2_with fail
            go_returns
            exact ⟨rfl, below_step hB hB5⟩
  · have HV := Lib.hid hv
    clear hv
    go_wp2_with fail
    (with_reducible refine (sLight_no _ _ _ _ HV.out).mono ?_)
    rintro e w2 ⟨rfl, hb2⟩
    have hB2 := below_step hB1 hb2
    go_wp2_with fail
    go_returns
    exact ⟨rfl, below_step hB hB2⟩
set_option maxRecDepth 100000 in
theorem stationDays_lifted (os : Os) (started : os.Started) (H : Type) (enc : TypeId × Value → H) :
    ReturnsInHanded {} Try.checked os 4 .any (Rows.stationDaysSpec.pre6 enc Try.prog Try.f4 Rows.stationDaysRow.domain false) (Rows.stationDaysSpec.post enc Try.prog Try.f4 false true false false) := by
  refine returnsInHanded_of_change (C := Try.checked) own_knob started (by kernel_rfl) Try.func4
    (ChangeSpec.witness6 (enc := enc) (C := Try.checked) false ⟨#[], #[.agg #[.int .i64 0, .int .i64 0, .int .i64 0, .int .i64 0, .int .i64 0, .int .i64 0, .int .i64 0], .agg #[.int .i64 0, .int .i64 0], .int .i64 0, .int .u8 0], []⟩ 8 (by kernel_rfl) (by kernel_rfl) (by kernel_rfl) (by kernel_rfl)) ?_
  intro W base args ds gs before hval0 hW hcnd _
  have hval : ∀ (j : Nat) t v, Try.f4.params[j]? = some t → args[j]? = some v → Value.okWide Try.prog W .any base t v := hval0
  have hW' := hW
  obtain ⟨p, q, hA0, hV, rfl, hfz, hnd⟩ := hW
  have hA : DataW.TrodAll enc Try.prog W 0 (fun _ => true) true Try.f4.params.toList args.toList ds p := hA0
  rw [Try.params4] at hA hval
  obtain ⟨v0, vs0, d0, ds0, p0, q0, hargs, rfl, rfl, h0, r0⟩ := trodAll_cons hA
  obtain ⟨v1, vs1, d1, ds1, p1, q1, rfl, rfl, rfl, h1, r1⟩ := trodAll_cons r0
  obtain ⟨v2, vs2, d2, ds2, p2, q2, rfl, rfl, rfl, h2, r2⟩ := trodAll_cons r1
  obtain ⟨v3, vs3, d3, ds3, p3, q3, rfl, rfl, rfl, h3, r3⟩ := trodAll_cons r2
  obtain ⟨rfl, rfl, rfl⟩ := trodAll_nil r3
  obtain rfl : args = #[v0, v1, v2, v3] := by cases args; simp_all
  obtain ⟨rfl, rfl⟩ := trodVars_none hV
  simp only [List.append_nil] at hW' hA0
  obtain ⟨id, ax, ay, dr, nr, fi, ev, e0⟩ := open_station (hval 0 25 v0 rfl rfl) h0
  subst e0
  obtain ⟨dn, dk, e1⟩ := open_sun (hval 1 27 v1 rfl rfl) h1
  subst e1
  obtain ⟨t, e2, _, _, w2⟩ := open_int Try.underlying3 (hval 2 3 v2 rfl rfl) h2
  subst e2
  obtain ⟨d, e3, _, _, w3⟩ := open_int Try.underlying5 (hval 3 5 v3 rfl rfl) h3
  subst e3
  refine (stationDays_walk id ax ay dr nr fi ev dn dk t d w3 W).mono fun e W' ⟨he, hg⟩ => ?_
  subst he
  exact ⟨_, rfl, post_law laid_out (by rw [Try.params4]; intro t ht; simp only [List.mem_cons, List.not_mem_nil, or_false] at ht; rcases ht with rfl | rfl | rfl | rfl <;> exact ⟨by kernel_rfl, of_decide_eq_true (by kernel_rfl)⟩) rfl hW' hA0 rfl rfl rfl rfl Try.underlying4 hg⟩
theorem stationDays_over : Rows.stationDaysRow.holds Try.pinned (OpenSpec.ofChange Rows.stationDaysSpec) :=
  OpenClaim.holds_of_wide 4 Try.f4 rfl rfl rfl rfl rfl rfl rfl ⟨rfl, rfl, rfl, rfl, rfl⟩ rfl rfl rfl rfl rfl (by kernel_rfl) Try.func4 (by kernel_rfl)
    (of_decide_eq_true (by kernel_rfl)) (by unfold Func.isWrapper; first | (rw [if_pos (by decide +kernel)]; kernel_rfl) | (rw [if_neg (by decide +kernel)]; exact ⟨rfl, rfl⟩))
    (fun os started H enc _ => stationDays_lifted os started H enc)
theorem stationDays_holds : Rows.StationDaysSaid :=
  stationDays_over
#print axioms stationDays_holds
end Go.Proofs.Ytnidacjmgekdjaa
