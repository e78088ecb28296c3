/- The walks of slices.EqualFunc of features, of sheet.Same and sheet.Shown. -/
import Derived.Test.YtdmegkkifiahdaaGreatShtD
import Derived.Test.YtdmegkkifiahdaaGreatShtS
namespace Go.Proofs.YtdmegkkifiahdaaGreat
open Go.RowKit
attribute [local go_sem] bqOp bqAll bqUpon sqOp sqAll sqUpon ssOp ssAll
attribute [local irreducible] wpQuiet wpBQ wpPlan wsPlan
set_option linter.unusedVariables false
set_option maxHeartbeats 2000000 in
theorem eqFeats_any (l m : List Feat) (v1 v2 : Value) (w : World) (h1 : FeatsAt w v1 l) (h2 : FeatsAt w v2 m) {v : Bool} (hv : decide (l = m) = v) :
    Calls Tryz.prog 109 #[v1, v2, .func (.func 110) #[] #[]] w fun e w' => e = .returned (.bool v) ∧ Below w.heap.size w w' := by
  obtain ⟨ad, c, rfl, k1, hn, hnc⟩ := h1.form
  obtain ⟨ad', c', rfl, k2, hm, hmc⟩ := h2.form
  have HV := Lib.hid hv
  have H1 := Lib.hid k1
  have H2 := Lib.hid k2
  clear hv h1 h2 k1 k2
  obtain ⟨n, hln⟩ : ∃ n, l.length = n := ⟨_, rfl⟩
  obtain ⟨n', hlm⟩ : ∃ n, m.length = n := ⟨_, rfl⟩
  rw [hln] at H1 hn hnc
  rw [hlm] at H2 hm hmc
  rw [hln, hlm]
  have HL := Lib.hid hln
  have HM := Lib.hid hlm
  clear hln hlm
  by_cases hnm : n = n'
  rotate_left
  · have d : ((n : Int) != (n' : Int)) = true := by simp; omega
    have d2 : (n != n') = true := by simp; omega
    go_enter Tryz.func109, Tryz.ntmps109
    go_wp2_with fail
    go_returns
    exact ⟨ret_bool (by rw [← HV.out]; exact (decide_eq_false (fun h => hnm (by rw [← HL.out, ← HM.out, h]))).symm), Below.refl _ _⟩
  subst hnm
  go_enter Tryz.func109, Tryz.ntmps109
  go_wp2_with fail
  go_loopw [17] (fun i wr => ∃ k : Nat, k ≤ n ∧ i = .int .i64 k ∧ Below w.heap.size w wr ∧ ∀ i, i < k → l.getD i noFeat = m.getD i noFeat) (fun i _ => n - (intOf i).toNat)
  case atStart => exact ⟨0, by omega, rfl, Below.refl _ _, fun m hm => by omega⟩
  case round =>
    obtain ⟨k, hk, rfl, hb, hall⟩ := hrel
    have ALL := Lib.hid hall
    clear hall
    rcases Nat.lt_or_ge k n with hlt | hge
    rotate_left
    · obtain rfl : k = n := by omega
      go_wp2_with fail
      go_returns
      exact ⟨ret_bool (by rw [← HV.out]; exact (decide_eq_true (getD_ext noFeat (by rw [HL.out, HM.out]) (fun i hi => ALL.out i (by have := HL.out; omega)))).symm), hb⟩
    obtain ⟨g, o, va, vs, rfl, fc⟩ := (H1.out.later hb).row hlt
    obtain ⟨g', o', va', vs', rfl, fc'⟩ := (H2.out.later hb).row hlt
    obtain ⟨f, hf⟩ : ∃ f, l.getD k noFeat = f := ⟨_, rfl⟩
    obtain ⟨f', hf'⟩ : ∃ f, m.getD k noFeat = f := ⟨_, rfl⟩
    rw [hf] at fc
    rw [hf'] at fc'
    have F1 := Lib.hid hf
    have F2 := Lib.hid hf'
    clear hf hf'
    obtain ⟨c0, c1, c2, c3, c4, c5, c6, c7, c8, PA, SA⟩ := fc
    obtain ⟨aa, ca, rfl, _, _, _⟩ := Lists.form PA
    obtain ⟨ab, cb, rfl, _, _, _⟩ := Lists.form SA
    have fc2 := fc'
    obtain ⟨_, _, _, _, _, _, _, _, _, PB, SB⟩ := fc2
    obtain ⟨ba, da, rfl, _, _, _⟩ := Lists.form PB
    obtain ⟨bb, db, rfl, _, _, _⟩ := Lists.form SB
    have PA' := Lib.hid PA
    have SA' := Lib.hid SA
    have PB' := Lib.hid PB
    have SB' := Lib.hid SB
    obtain ⟨u, hu⟩ : ∃ u, decide (f = f') = u := ⟨_, rfl⟩
    have HU := Lib.hid hu
    clear hu PA SA PB SB
    have fcb := fc'.later ((Below.refl wr.heap.size wr).alloc (Nat.le_refl _) (.cells #[.int .i64 f.id, .int .i64 f.kind, .int .i64 f.x, .int .i64 f.y, .int .i64 f.rad, .slice aa f.area.length ca, .int .i64 f.dep, .int .i64 f.sym, .slice ab f.secs.length cb] 32))
    obtain ⟨d0, d1, d2, d3, d4, d5, d6, d7, d8, _, _⟩ := fcb
    clear fc'
    go_wp2_with fail
    refine calls_named fun W hW => ?_
    obtain ⟨p1, p2, hBW⟩ := box2 hW
    clear p1 p2 hW c0 c1 c2 c3 c4 c5 c6 c7 c8 d0 d1 d2 d3 d4 d5 d6 d7 d8
    (with_reducible refine (ftSame_any f f' _ _ _ _ _ (ptsL PA'.out hBW) (secsL SA'.out hBW) (ptsL PB'.out hBW) (secsL SB'.out hBW) HU.out).mono ?_)
    rintro e w2 ⟨rfl, hb2⟩
    have hB2 := below_step (below_step hb hBW) hb2
    cases u
    · go_wp2_with fail
      go_returns
      exact ⟨ret_bool (by rw [← HV.out]; exact (decide_eq_false (fun h => of_decide_eq_false HU.out (by rw [← F1.out, ← F2.out, h]))).symm), hB2⟩
    · go_wp2_with fail
      go_roundw
      case rel => exact ⟨k + 1, by omega, by go_num, hB2, fun i hi => by
        rcases Nat.lt_or_ge i k with h | h
        · exact ALL.out i h
        · obtain rfl : i = k := by omega
          rw [F1.out, F2.out]
          exact of_decide_eq_true HU.out⟩
      case measure => simp [intOf]; omega
set_option maxHeartbeats 4000000 in
theorem shSame_raw (chart1 scale1 edition1 a1 b1 c1 d1 e1 f1 r1 cap1 chart2 scale2 edition2 a2 b2 c2 d2 e2 f2 r2 cap2 : Int) (n1 cd1 m1 cf1 n2 cd2 m2 cf2 : Nat) (ad1 af1 ad2 af2 : Option Addr) (D1 D2 : Nat → Nat → Int) (L1 L2 : List Feat) (w : World)
    (hD1 : Rows 1 w (.slice ad1 n1 cd1) n1 D1) (hD2 : Rows 1 w (.slice ad2 n2 cd2) n2 D2) (hn1 : n1 ≤ 9223372036854775807) (hn2 : n2 ≤ 9223372036854775807) (hF1 : FeatsAt w (.slice af1 m1 cf1) L1) (hF2 : FeatsAt w (.slice af2 m2 cf2) L2)
    {v : Bool} (hv : decide ((chart1 = chart2 ∧ scale1 = scale2 ∧ edition1 = edition2 ∧ a1 = a2 ∧ b1 = b2 ∧ c1 = c2 ∧ d1 = d2 ∧ e1 = e2 ∧ f1 = f2 ∧ r1 = r2 ∧ cap1 = cap2) ∧ RowsEq 1 n1 n2 D1 D2 ∧ L1 = L2) = v) :
    Calls Tryz.prog 33 #[.agg #[.int .i64 chart1, .int .i64 scale1, .int .i64 edition1, .int .i64 a1, .int .i64 b1, .int .i64 c1, .int .i64 d1, .int .i64 e1, .int .i64 f1, .int .i64 r1, .int .i64 cap1, .slice ad1 n1 cd1, .slice af1 m1 cf1], .agg #[.int .i64 chart2, .int .i64 scale2, .int .i64 edition2, .int .i64 a2, .int .i64 b2, .int .i64 c2, .int .i64 d2, .int .i64 e2, .int .i64 f2, .int .i64 r2, .int .i64 cap2, .slice ad2 n2 cd2, .slice af2 m2 cf2]] w fun e w' => e = .returned (.bool v) ∧ Below w.heap.size w w' := by
  have HV := Lib.hid hv
  have HD1 := Lib.hid hD1
  have HD2 := Lib.hid hD2
  have HF1 := Lib.hid hF1
  have HF2 := Lib.hid hF2
  clear hv hD1 hD2 hF1 hF2
  by_cases gchart : chart1 = chart2
  rotate_left
  · have d : (chart1 == chart2) = false := by simpa using gchart
    have HF := Lib.hid (show false = v by rw [← HV.out]; exact (decide_eq_false (fun h => gchart h.1.1)).symm)
    clear gchart HV
    go_enter Tryz.func33, Tryz.ntmps33
    go_wp2_with fail
    go_returns
    exact ⟨ret_bool HF.out, by go_grown⟩
  subst gchart
  by_cases gscale : scale1 = scale2
  rotate_left
  · have d : (scale1 == scale2) = false := by simpa using gscale
    have HF := Lib.hid (show false = v by rw [← HV.out]; exact (decide_eq_false (fun h => gscale h.1.2.1)).symm)
    clear gscale HV
    go_enter Tryz.func33, Tryz.ntmps33
    go_wp2_with fail
    go_returns
    exact ⟨ret_bool HF.out, by go_grown⟩
  subst gscale
  by_cases gedition : edition1 = edition2
  rotate_left
  · have d : (edition1 == edition2) = false := by simpa using gedition
    have HF := Lib.hid (show false = v by rw [← HV.out]; exact (decide_eq_false (fun h => gedition h.1.2.2.1)).symm)
    clear gedition HV
    go_enter Tryz.func33, Tryz.ntmps33
    go_wp2_with fail
    go_returns
    exact ⟨ret_bool HF.out, by go_grown⟩
  subst gedition
  by_cases ga : a1 = a2
  rotate_left
  · have d : (a1 == a2) = false := by simpa using ga
    have HF := Lib.hid (show false = v by rw [← HV.out]; exact (decide_eq_false (fun h => ga h.1.2.2.2.1)).symm)
    clear ga HV
    go_enter Tryz.func33, Tryz.ntmps33
    go_wp2_with fail
    go_returns
    exact ⟨ret_bool HF.out, by go_grown⟩
  subst ga
  by_cases gb : b1 = b2
  rotate_left
  · have d : (b1 == b2) = false := by simpa using gb
    have HF := Lib.hid (show false = v by rw [← HV.out]; exact (decide_eq_false (fun h => gb h.1.2.2.2.2.1)).symm)
    clear gb HV
    go_enter Tryz.func33, Tryz.ntmps33
    go_wp2_with fail
    go_returns
    exact ⟨ret_bool HF.out, by go_grown⟩
  subst gb
  by_cases gc : c1 = c2
  rotate_left
  · have d : (c1 == c2) = false := by simpa using gc
    have HF := Lib.hid (show false = v by rw [← HV.out]; exact (decide_eq_false (fun h => gc h.1.2.2.2.2.2.1)).symm)
    clear gc HV
    go_enter Tryz.func33, Tryz.ntmps33
    go_wp2_with fail
    go_returns
    exact ⟨ret_bool HF.out, by go_grown⟩
  subst gc
  by_cases gd : d1 = d2
  rotate_left
  · have d : (d1 == d2) = false := by simpa using gd
    have HF := Lib.hid (show false = v by rw [← HV.out]; exact (decide_eq_false (fun h => gd h.1.2.2.2.2.2.2.1)).symm)
    clear gd HV
    go_enter Tryz.func33, Tryz.ntmps33
    go_wp2_with fail
    go_returns
    exact ⟨ret_bool HF.out, by go_grown⟩
  subst gd
  by_cases ge : e1 = e2
  rotate_left
  · have d : (e1 == e2) = false := by simpa using ge
    have HF := Lib.hid (show false = v by rw [← HV.out]; exact (decide_eq_false (fun h => ge h.1.2.2.2.2.2.2.2.1)).symm)
    clear ge HV
    go_enter Tryz.func33, Tryz.ntmps33
    go_wp2_with fail
    go_returns
    exact ⟨ret_bool HF.out, by go_grown⟩
  subst ge
  by_cases gf : f1 = f2
  rotate_left
  · have d : (f1 == f2) = false := by simpa using gf
    have HF := Lib.hid (show false = v by rw [← HV.out]; exact (decide_eq_false (fun h => gf h.1.2.2.2.2.2.2.2.2.1)).symm)
    clear gf HV
    go_enter Tryz.func33, Tryz.ntmps33
    go_wp2_with fail
    go_returns
    exact ⟨ret_bool HF.out, by go_grown⟩
  subst gf
  by_cases gr : r1 = r2
  rotate_left
  · have d : (r1 == r2) = false := by simpa using gr
    have HF := Lib.hid (show false = v by rw [← HV.out]; exact (decide_eq_false (fun h => gr h.1.2.2.2.2.2.2.2.2.2.1)).symm)
    clear gr HV
    go_enter Tryz.func33, Tryz.ntmps33
    go_wp2_with fail
    go_returns
    exact ⟨ret_bool HF.out, by go_grown⟩
  subst gr
  by_cases gcap : cap1 = cap2
  rotate_left
  · have d : (cap1 == cap2) = false := by simpa using gcap
    have HF := Lib.hid (show false = v by rw [← HV.out]; exact (decide_eq_false (fun h => gcap h.1.2.2.2.2.2.2.2.2.2.2)).symm)
    clear gcap HV
    go_enter Tryz.func33, Tryz.ntmps33
    go_wp2_with fail
    go_returns
    exact ⟨ret_bool HF.out, by go_grown⟩
  subst gcap
  obtain ⟨u1, hu1⟩ : ∃ k, decide (RowsEq 1 n1 n2 D1 D2) = k := ⟨_, rfl⟩
  obtain ⟨u2, hu2⟩ : ∃ k, decide (L1 = L2) = k := ⟨_, rfl⟩
  have U1 := Lib.hid hu1
  have U2 := Lib.hid hu2
  clear hu1 hu2
  go_enter Tryz.func33, Tryz.ntmps33
  go_wp2_with fail
  refine calls_named fun W hW => ?_
  obtain ⟨p1, p2, hB⟩ := box2 hW
  clear hW
  (with_reducible refine (eqInts_any _ _ _ _ _ _ _ _ _ (HD1.out.later hB) (HD2.out.later hB) hn1 hn2 U1.out).mono ?_)
  rintro e w1 ⟨rfl, hb1⟩
  have hB1 := below_step hB hb1
  have r1 := cell_block (block_later hb1 p1) 12
  have r2 := cell_block (block_later hb1 p2) 12
  cases u1
  · go_wp2_with fail
    go_returns
    exact ⟨ret_bool (by rw [← HV.out]; exact (decide_eq_false (fun h => of_decide_eq_false U1.out h.2.1)).symm), hB1⟩
  go_wp2_with fail
  (with_reducible refine (eqFeats_any L1 L2 _ _ _ (HF1.out.later hB1) (HF2.out.later hB1) U2.out).mono ?_)
  rintro e w2 ⟨rfl, hb2⟩
  go_wp2_with fail
  go_returns
  exact ⟨ret_bool (by rw [← HV.out, ← U2.out, decide_eq_decide]; exact ⟨fun h => ⟨by simp, of_decide_eq_true U1.out, h⟩, fun h => h.2.2⟩), below_step hB1 hb2⟩
theorem shSame_any (s t : Sht) (vd vf vd' vf' : Value) (w : World) (hd : IntsAt w vd s.don) (hf : FeatsAt w vf s.feats) (kd : IntsAt w vd' t.don) (kf : FeatsAt w vf' t.feats) {v : Bool} (hv : decide (s = t) = v) :
    Calls Tryz.prog 33 #[shtV s vd vf, shtV t vd' vf'] w fun e w' => e = .returned (.bool v) ∧ Below w.heap.size w w' := by
  obtain ⟨ad, ca, rfl, h1, h2, h3⟩ := Lists.form hd
  obtain ⟨ae, cs, rfl, g1, g2, g3⟩ := hf.form
  obtain ⟨ad', ca', rfl, h1', h2', h3'⟩ := Lists.form kd
  obtain ⟨ae', cs', rfl, g1', g2', g3'⟩ := kf.form
  refine shSame_raw _ _ _ _ _ _ _ _ _ _ _ _ _ _ _ _ _ _ _ _ _ _ _ _ _ _ _ _ _ _ _ _ _ _ _ _ s.feats t.feats w h1.rows h1'.rows h2 h2' g1 g1' ?_
  rw [← hv, decide_eq_decide, ints_eq]
  obtain ⟨_, _, _, ⟨_, _, _, _, _, _, _⟩, _, _, _⟩ := s
  obtain ⟨_, _, _, ⟨_, _, _, _, _, _, _⟩, _, _, _⟩ := t
  simp
  constructor
  · rintro ⟨⟨rfl, rfl, rfl, rfl, rfl, rfl, rfl, rfl, rfl, rfl, rfl⟩, rfl, rfl⟩
    simp
  · rintro ⟨rfl, rfl, rfl, ⟨rfl, rfl, rfl, rfl, rfl, rfl, rfl⟩, rfl, rfl, rfl⟩
    simp
end Go.Proofs.YtdmegkkifiahdaaGreat
