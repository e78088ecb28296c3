/- The walks of datum.Valid, of sheet.within and of sheet.Valid. -/
import Derived.Test.YtdmegkkifiahdaaGreatFeatE
import Derived.Test.YtdmegkkifiahdaaGreatShtMath
namespace Go.Proofs.YtdmegkkifiahdaaGreat
open Go.RowKit
attribute [local go_sem] bqOp bqAll bqUpon sqOp sqAll sqUpon
attribute [local irreducible] wpQuiet wpBQ wpPlan
set_option linter.unusedVariables false
theorem dtdet_any (a b c d e f r : Int) (w : World) (ha : PartOk a) (hb : PartOk b) (hd : PartOk d) (he : PartOk e) {v : Int} (hv : a * e - b * d = v) : Calls Tryz.prog 209 #[.agg #[.int .i64 a, .int .i64 b, .int .i64 c, .int .i64 d, .int .i64 e, .int .i64 f, .int .i64 r]] w fun z w' => z = .returned (.int .i64 v) ∧ Below w.heap.size w w' := by
  have m1 := mul_bd ha.1 ha.2 he.1 he.2
  have m2 := mul_bd hb.1 hb.2 hd.1 hd.2
  obtain ⟨a1, a2⟩ := m1
  obtain ⟨b1, b2⟩ := m2
  have HV := Lib.hid hv
  clear hv ha hb hd he
  go_enter Tryz.func209, Tryz.ntmps209
  go_wp2
  go_returns
  exact ⟨ret_int HV.out, by go_grown⟩
theorem idx4_0 (a b c d : Int) (w : World) : (Instr.index 266 (.agg #[.int .i64 a, .int .i64 b, .int .i64 c, .int .i64 d]) (.int .i64 0)).run Tryz.prog w = .ok (.int .i64 a) w := by kernel_rfl
theorem idx4_1 (a b c d : Int) (w : World) : (Instr.index 266 (.agg #[.int .i64 a, .int .i64 b, .int .i64 c, .int .i64 d]) (.int .i64 1)).run Tryz.prog w = .ok (.int .i64 b) w := by kernel_rfl
theorem idx4_2 (a b c d : Int) (w : World) : (Instr.index 266 (.agg #[.int .i64 a, .int .i64 b, .int .i64 c, .int .i64 d]) (.int .i64 2)).run Tryz.prog w = .ok (.int .i64 c) w := by kernel_rfl
theorem idx4_3 (a b c d : Int) (w : World) : (Instr.index 266 (.agg #[.int .i64 a, .int .i64 b, .int .i64 c, .int .i64 d]) (.int .i64 3)).run Tryz.prog w = .ok (.int .i64 d) w := by kernel_rfl
theorem dtValid_any (m : Dat) (w : World) {v : Bool} (hv : decide (DatOk m) = v) : Calls Tryz.prog 105 #[.agg #[.int .i64 m.a, .int .i64 m.b, .int .i64 m.c, .int .i64 m.d, .int .i64 m.e, .int .i64 m.f, .int .i64 m.r]] w fun z w' => z = .returned (.bool v) ∧ Below w.heap.size w w' := by
  obtain ⟨a, b, c, d, e, f, r⟩ := m
  have HV := Lib.hid (show decide ((PartOk a ∧ PartOk b ∧ PartOk d ∧ PartOk e) ∧ 250000000000 ≤ a * e - b * d ∧ (-100000 ≤ c ∧ c ≤ 100000) ∧ (-100000 ≤ f ∧ f ≤ 100000) ∧ 0 ≤ r ∧ r ≤ 1000) = v from hv)
  clear hv
  have i0 := fun w => idx4_0 a b d e w
  have i1 := fun w => idx4_1 a b d e w
  have i2 := fun w => idx4_2 a b d e w
  have i3 := fun w => idx4_3 a b d e w
  go_enter Tryz.func105, Tryz.ntmps105
  go_wp2_with fail
  refine wp_named fun W hW => ?_
  obtain ⟨p1, hB⟩ := box1 hW
  clear hW
  have q1 := cellsL p1
  have P1 := Lib.hid p1
  have hB0 := Below.refl W.heap.size W
  clear p1
  go_loop [14] (fun i => ∃ k : Nat, k ≤ 4 ∧ i = .int .i64 k ∧ (0 < k → PartOk a) ∧ (1 < k → PartOk b) ∧ (2 < k → PartOk d) ∧ (3 < k → PartOk e)) (fun i => 4 - (intOf i).toNat)
  case atStart => exact ⟨0, by omega, rfl, fun h => by omega, fun h => by omega, fun h => by omega, fun h => by omega⟩
  case round =>
    obtain ⟨k, hk, rfl, h1, h2, h3, h4⟩ := hrel
    have H1 := Lib.hid h1
    have H2 := Lib.hid h2
    have H3 := Lib.hid h3
    have H4 := Lib.hid h4
    clear h1 h2 h3 h4
    obtain rfl | rfl | rfl | rfl | rfl : k = 0 ∨ k = 1 ∨ k = 2 ∨ k = 3 ∨ k = 4 := by omega
    · by_cases g1 : a < -2000000
      · have NO := Lib.hid (show ¬ PartOk a from fun h => by have := h.1; omega)
        go_wp2_with fail
        go_returns
        exact ⟨ret_bool (by rw [← HV.out]; exact (decide_eq_false (fun h => NO.out h.1.1)).symm), hB⟩
      by_cases g2 : 2000000 < a
      · have NO := Lib.hid (show ¬ PartOk a from fun h => by have := h.2; omega)
        have d1 : decide (a < -2000000) = false := by simpa using g1
        have d3 : -2000000 ≤ a := by omega
        clear g1
        go_wp2_with fail
        go_returns
        exact ⟨ret_bool (by rw [← HV.out]; exact (decide_eq_false (fun h => NO.out h.1.1)).symm), hB⟩
      have OK := Lib.hid (show PartOk a from ⟨by omega, by omega⟩)
      have d1 : decide (a < -2000000) = false := by simpa using g1
      have d2 : decide (2000000 < a) = false := by simpa using g2
      have d3 : -2000000 ≤ a := by omega
      have d4 : a ≤ 2000000 := by omega
      clear g1 g2
      go_wp2_with fail
      go_round
      case rel => exact ⟨1, by omega, rfl, fun _ => OK.out, fun h => by omega, fun h => by omega, fun h => by omega⟩
      case measure => simp [intOf]
    · by_cases g1 : b < -2000000
      · have NO := Lib.hid (show ¬ PartOk b from fun h => by have := h.1; omega)
        go_wp2_with fail
        go_returns
        exact ⟨ret_bool (by rw [← HV.out]; exact (decide_eq_false (fun h => NO.out h.1.2.1)).symm), hB⟩
      by_cases g2 : 2000000 < b
      · have NO := Lib.hid (show ¬ PartOk b from fun h => by have := h.2; omega)
        have d1 : decide (b < -2000000) = false := by simpa using g1
        have d3 : -2000000 ≤ b := by omega
        clear g1
        go_wp2_with fail
        go_returns
        exact ⟨ret_bool (by rw [← HV.out]; exact (decide_eq_false (fun h => NO.out h.1.2.1)).symm), hB⟩
      have OK := Lib.hid (show PartOk b from ⟨by omega, by omega⟩)
      have d1 : decide (b < -2000000) = false := by simpa using g1
      have d2 : decide (2000000 < b) = false := by simpa using g2
      have d3 : -2000000 ≤ b := by omega
      have d4 : b ≤ 2000000 := by omega
      clear g1 g2
      go_wp2_with fail
      go_round
      case rel => exact ⟨2, by omega, rfl, fun _ => H1.out (by omega), fun _ => OK.out, fun h => by omega, fun h => by omega⟩
      case measure => simp [intOf]
    · by_cases g1 : d < -2000000
      · have NO := Lib.hid (show ¬ PartOk d from fun h => by have := h.1; omega)
        go_wp2_with fail
        go_returns
        exact ⟨ret_bool (by rw [← HV.out]; exact (decide_eq_false (fun h => NO.out h.1.2.2.1)).symm), hB⟩
      by_cases g2 : 2000000 < d
      · have NO := Lib.hid (show ¬ PartOk d from fun h => by have := h.2; omega)
        have d1 : decide (d < -2000000) = false := by simpa using g1
        have d3 : -2000000 ≤ d := by omega
        clear g1
        go_wp2_with fail
        go_returns
        exact ⟨ret_bool (by rw [← HV.out]; exact (decide_eq_false (fun h => NO.out h.1.2.2.1)).symm), hB⟩
      have OK := Lib.hid (show PartOk d from ⟨by omega, by omega⟩)
      have d1 : decide (d < -2000000) = false := by simpa using g1
      have d2 : decide (2000000 < d) = false := by simpa using g2
      have d3 : -2000000 ≤ d := by omega
      have d4 : d ≤ 2000000 := by omega
      clear g1 g2
      go_wp2_with fail
      go_round
      case rel => exact ⟨3, by omega, rfl, fun _ => H1.out (by omega), fun _ => H2.out (by omega), fun _ => OK.out, fun h => by omega⟩
      case measure => simp [intOf]
    · by_cases g1 : e < -2000000
      · have NO := Lib.hid (show ¬ PartOk e from fun h => by have := h.1; omega)
        go_wp2_with fail
        go_returns
        exact ⟨ret_bool (by rw [← HV.out]; exact (decide_eq_false (fun h => NO.out h.1.2.2.2)).symm), hB⟩
      by_cases g2 : 2000000 < e
      · have NO := Lib.hid (show ¬ PartOk e from fun h => by have := h.2; omega)
        have d1 : decide (e < -2000000) = false := by simpa using g1
        have d3 : -2000000 ≤ e := by omega
        clear g1
        go_wp2_with fail
        go_returns
        exact ⟨ret_bool (by rw [← HV.out]; exact (decide_eq_false (fun h => NO.out h.1.2.2.2)).symm), hB⟩
      have OK := Lib.hid (show PartOk e from ⟨by omega, by omega⟩)
      have d1 : decide (e < -2000000) = false := by simpa using g1
      have d2 : decide (2000000 < e) = false := by simpa using g2
      have d3 : -2000000 ≤ e := by omega
      have d4 : e ≤ 2000000 := by omega
      clear g1 g2
      go_wp2_with fail
      go_round
      case rel => exact ⟨4, by omega, rfl, fun _ => H1.out (by omega), fun _ => H2.out (by omega), fun _ => H3.out (by omega), fun _ => OK.out⟩
      case measure => simp [intOf]
    · have A := Lib.hid (H1.out (by omega))
      have B := Lib.hid (H2.out (by omega))
      have D := Lib.hid (H3.out (by omega))
      have E := Lib.hid (H4.out (by omega))
      obtain ⟨dt, hdt⟩ : ∃ t, a * e - b * d = t := ⟨_, rfl⟩
      have DT := Lib.hid hdt
      clear hdt
      go_wp2_with fail
      (with_reducible refine (dtdet_any _ _ _ _ _ _ _ _ A.out B.out D.out E.out DT.out).mono ?_)
      rintro z w1 ⟨rfl, hb1⟩
      have hB1 := below_step hB hb1
      have q2 := block_later hb1 P1.out
      have c2 := cell_block q2 2
      have c5 := cell_block q2 5
      have c6 := cell_block q2 6
      have HW : Hid (decide (250000000000 ≤ dt ∧ (-100000 ≤ c ∧ c ≤ 100000) ∧ (-100000 ≤ f ∧ f ≤ 100000) ∧ 0 ≤ r ∧ r ≤ 1000) = v) := Lib.hid (by
        rw [← HV.out, decide_eq_decide, ← DT.out]
        exact ⟨fun h => ⟨⟨A.out, B.out, D.out, E.out⟩, h⟩, fun h => h.2⟩)
      clear q1 q2 i0 i1 i2 i3 hb1 HV
      go_wp2
      all_goals
        go_returns
        exact ⟨ret_bool (by rw [← HW.out]; refine Bool.eq_iff_iff.2 ?_; simp only [decide_eq_true_eq, Bool.false_eq_true, false_iff]; omega), hB1⟩
theorem shwithin_any (n m : Int) (w : World) {v : Bool} (hv : decide (1 ≤ n ∧ n ≤ m) = v) : Calls Tryz.prog 104 #[.int .i64 n, .int .i64 m] w fun z w' => z = .returned (.bool v) ∧ Below w.heap.size w w' := by
  have HV := Lib.hid hv
  clear hv
  go_enter Tryz.func104, Tryz.ntmps104
  go_wp2
  all_goals
    go_returns
    exact ⟨ret_bool (by rw [← HV.out]; refine Bool.eq_iff_iff.2 ?_; simp only [decide_eq_true_eq, Bool.false_eq_true, false_iff]; omega), by go_grown⟩
/-- The value of a sheet. -/
@[reducible] def shtV (s : Sht) (vd vf : Value) : Value := .agg #[.int .i64 s.chart, .int .i64 s.scale, .int .i64 s.edition, .int .i64 s.dat.a, .int .i64 s.dat.b, .int .i64 s.dat.c, .int .i64 s.dat.d, .int .i64 s.dat.e, .int .i64 s.dat.f, .int .i64 s.dat.r, .int .i64 s.cap, vd, vf]
def done_step (l : List Int) (k : Nat) : Prop := ∀ i, i < k → lastNo l i < l.getD i 0 ∧ l.getD i 0 ≤ 10000
theorem done_snoc {l : List Int} {k : Nat} (h : done_step l k) (h1 : lastNo l k < l.getD k 0) (h2 : l.getD k 0 ≤ 10000) : done_step l (k + 1) := fun i hi => by
  rcases Nat.lt_or_ge i k with g | g
  · exact h i g
  · obtain rfl : i = k := by omega
    exact ⟨h1, h2⟩
set_option maxHeartbeats 2000000 in
theorem shValid_any (s : Sht) (vd vf : Value) (w : World) (hd : IntsAt w vd s.don) (hf : FeatsAt w vf s.feats) {v : Bool} (hv : decide (ShtOk s) = v) :
    Calls Tryz.prog 31 #[shtV s vd vf] w fun z w' => z = .returned (.bool v) ∧ Below w.heap.size w w' := by
  obtain ⟨ad, cd, rfl, h1, h2, h3⟩ := Lists.form hd
  obtain ⟨af, cf, rfl, g1, g2, g3⟩ := hf.form
  obtain ⟨n, hn⟩ : ∃ n, s.don.length = n := ⟨_, rfl⟩
  obtain ⟨nf, hnf⟩ : ∃ n, s.feats.length = n := ⟨_, rfl⟩
  have HD := Lib.hid h1
  have HF := Lib.hid g1
  have HV := Lib.hid hv
  rw [hn] at HD h2 h3
  rw [hnf] at HF g2 g3
  rw [hn, hnf]
  have HN := Lib.hid hn
  have HNF := Lib.hid hnf
  clear hv h1 g1 hd hf hn hnf
  obtain ⟨chart, scale, edition, m, cap, don, feats⟩ := s
  obtain ⟨a, b, c, d, e, f, r⟩ := m
  dsimp only at HD HF HN HNF
  have HX := Lib.hid (show decide (DoneOk don ∧ don.length ≤ 200 ∧ (1 ≤ chart ∧ chart ≤ 1000) ∧ (1 ≤ scale ∧ scale ≤ 1000) ∧ (1 ≤ edition ∧ edition ≤ 1000) ∧ (1 ≤ cap ∧ cap ≤ 100000) ∧ DatOk ⟨a, b, c, d, e, f, r⟩ ∧ FeatsOk feats) = v from HV.out)
  clear HV
  unfold shtV
  dsimp only
  go_enter Tryz.func31, Tryz.ntmps31
  go_wp2_with fail
  refine wp_named fun W hW => ?_
  obtain ⟨p1, hB⟩ := box1 hW
  clear hW
  have P1 := Lib.hid p1
  clear p1
  go_loop [3, 9] (fun t i => ∃ k : Nat, k ≤ n ∧ i = .int .i64 k ∧ t = .int .i64 (lastNo don k) ∧ done_step don k) (fun _ i => n - (intOf i).toNat)
  case atStart => exact ⟨0, by omega, rfl, rfl, fun m hm => by omega⟩
  case round =>
    obtain ⟨k, hk, rfl, rfl, hall⟩ := hrel
    have ALL := Lib.hid hall
    clear hall
    rcases Nat.lt_or_ge k n with hlt | hge
    · obtain ⟨g, o, rfl, hc⟩ := ((HD.out.rows).later hB).row hlt
      have c0 := hc 0 (by omega)
      simp only [Nat.add_zero, Nat.mul_one] at c0
      clear hc
      obtain ⟨x, hx⟩ : ∃ x, don.getD k 0 = x := ⟨_, rfl⟩
      obtain ⟨ls, hls⟩ : ∃ x, lastNo don k = x := ⟨_, rfl⟩
      rw [hx] at c0
      rw [hls]
      have X := Lib.hid hx
      have LS := Lib.hid hls
      clear hx hls
      have hnk : k < don.length := by have := HN.out; omega
      by_cases g1 : x ≤ ls
      · have NO := Lib.hid (show ¬ DoneOk don from fun h => by have := (h k hnk).1; rw [X.out, LS.out] at this; omega)
        go_wp2_with fail
        go_returns
        exact ⟨ret_bool (by rw [← HX.out]; exact (decide_eq_false (fun h => NO.out h.1)).symm), hB⟩
      have d1 : decide (x ≤ ls) = false := by simpa using g1
      have d2 : ls < x := by omega
      clear g1
      by_cases g2 : 10000 < x
      · have NO := Lib.hid (show ¬ DoneOk don from fun h => by have := (h k hnk).2; rw [X.out] at this; omega)
        go_wp2_with fail
        go_returns
        exact ⟨ret_bool (by rw [← HX.out]; exact (decide_eq_false (fun h => NO.out h.1)).symm), hB⟩
      have d3 : decide (10000 < x) = false := by simpa using g2
      have d4 : x ≤ 10000 := by omega
      clear g2
      have ALL2 := Lib.hid (done_snoc ALL.out (by rw [X.out, LS.out]; exact d2) (by rw [X.out]; exact d4))
      have LN := Lib.hid (show lastNo don (k + 1) = x from X.out)
      go_wp2_with fail
      go_round
      case rel => exact ⟨k + 1, by omega, by go_num, by rw [LN.out], ALL2.out⟩
      case measure => simp [intOf]; omega
    · obtain rfl : k = n := by omega
      have DO := Lib.hid (show DoneOk don from by have := ALL.out; rw [← HN.out] at this; exact this)
      have c0 := cell_block P1.out 0
      have c1 := cell_block P1.out 1
      have c2 := cell_block P1.out 2
      have c10 := cell_block P1.out 10
      have c11 := cell_block P1.out 11
      by_cases g200 : (k : Int) ≤ 200
      rotate_left
      · have NO := Lib.hid (show ¬ don.length ≤ 200 from fun h => by have := HN.out; omega)
        have d1 : decide ((k : Int) ≤ 200) = false := by simpa using g200
        have d1' : decide (k ≤ 200) = false := by simp; omega
        go_wp2_with fail
        go_returns
        exact ⟨ret_bool (by rw [← HX.out]; exact (decide_eq_false (fun h => NO.out h.2.1)).symm), hB⟩
      have L200 := Lib.hid (show don.length ≤ 200 by have := HN.out; omega)
      obtain ⟨u0, hu0⟩ : ∃ u, decide (1 ≤ chart ∧ chart ≤ 1000) = u := ⟨_, rfl⟩
      have U0 := Lib.hid hu0
      clear hu0
      go_wp2_with fail
      (with_reducible refine (shwithin_any _ _ _ U0.out).mono ?_)
      rintro z w1 ⟨rfl, hb⟩
      have hB1 := below_step hB hb
      have P2 := Lib.hid (block_later hb P1.out)
      clear hb c0 c1 c2 c10 c11
      have c1 := cell_block P2.out 1
      cases u0
      · go_wp2_with fail
        go_returns
        exact ⟨ret_bool (by rw [← HX.out]; exact (decide_eq_false (fun h => of_decide_eq_false U0.out h.2.2.1)).symm), hB1⟩
      obtain ⟨u1, hu1⟩ : ∃ u, decide (1 ≤ scale ∧ scale ≤ 1000) = u := ⟨_, rfl⟩
      have U1 := Lib.hid hu1
      clear hu1
      go_wp2_with fail
      (with_reducible refine (shwithin_any _ _ _ U1.out).mono ?_)
      rintro z w2 ⟨rfl, hb⟩
      have hB2 := below_step hB1 hb
      have P3 := Lib.hid (block_later hb P2.out)
      clear hb c1
      have c2 := cell_block P3.out 2
      cases u1
      · go_wp2_with fail
        go_returns
        exact ⟨ret_bool (by rw [← HX.out]; exact (decide_eq_false (fun h => of_decide_eq_false U1.out h.2.2.2.1)).symm), hB2⟩
      obtain ⟨u2, hu2⟩ : ∃ u, decide (1 ≤ edition ∧ edition ≤ 1000) = u := ⟨_, rfl⟩
      have U2 := Lib.hid hu2
      clear hu2
      go_wp2_with fail
      (with_reducible refine (shwithin_any _ _ _ U2.out).mono ?_)
      rintro z w3 ⟨rfl, hb⟩
      have hB3 := below_step hB2 hb
      have P4 := Lib.hid (block_later hb P3.out)
      clear hb c2
      have c10 := cell_block P4.out 10
      cases u2
      · go_wp2_with fail
        go_returns
        exact ⟨ret_bool (by rw [← HX.out]; exact (decide_eq_false (fun h => of_decide_eq_false U2.out h.2.2.2.2.1)).symm), hB3⟩
      obtain ⟨u3, hu3⟩ : ∃ u, decide (1 ≤ cap ∧ cap ≤ 100000) = u := ⟨_, rfl⟩
      have U3 := Lib.hid hu3
      clear hu3
      go_wp2_with fail
      (with_reducible refine (shwithin_any _ _ _ U3.out).mono ?_)
      rintro z w4 ⟨rfl, hb⟩
      have hB4 := below_step hB3 hb
      have P5 := Lib.hid (block_later hb P4.out)
      clear hb c10
      have e3 := cell_block P5.out 3
      have e4 := cell_block P5.out 4
      have e5 := cell_block P5.out 5
      have e6 := cell_block P5.out 6
      have e7 := cell_block P5.out 7
      have e8 := cell_block P5.out 8
      have e9 := cell_block P5.out 9
      cases u3
      · go_wp2_with fail
        go_returns
        exact ⟨ret_bool (by rw [← HX.out]; exact (decide_eq_false (fun h => of_decide_eq_false U3.out h.2.2.2.2.2.1)).symm), hB4⟩
      obtain ⟨u4, hu4⟩ : ∃ u, decide (DatOk ⟨a, b, c, d, e, f, r⟩) = u := ⟨_, rfl⟩
      have U4 := Lib.hid hu4
      clear hu4
      go_wp2_with fail
      (with_reducible refine (dtValid_any ⟨a, b, c, d, e, f, r⟩ _ U4.out).mono ?_)
      rintro z w5 ⟨rfl, hb⟩
      have hB5 := below_step hB4 hb
      have P6 := Lib.hid (block_later hb P5.out)
      clear hb e3 e4 e5 e6 e7 e8 e9
      have c12 := cell_block P6.out 12
      cases u4
      · go_wp2_with fail
        go_returns
        exact ⟨ret_bool (by rw [← HX.out]; exact (decide_eq_false (fun h => of_decide_eq_false U4.out h.2.2.2.2.2.2.1)).symm), hB5⟩
      obtain ⟨u5, hu5⟩ : ∃ u, decide (FeatsOk feats) = u := ⟨_, rfl⟩
      have U5 := Lib.hid hu5
      clear hu5
      go_wp2_with fail
      (with_reducible refine (ftList_any feats _ _ (HF.out.later hB5) U5.out).mono ?_)
      rintro z w6 ⟨rfl, hb⟩
      go_wp2_with fail
      go_returns
      exact ⟨ret_bool (by
        rw [← HX.out, ← U5.out, decide_eq_decide]
        exact ⟨fun h => ⟨DO.out, L200.out, of_decide_eq_true U0.out, of_decide_eq_true U1.out, of_decide_eq_true U2.out, of_decide_eq_true U3.out, of_decide_eq_true U4.out, h⟩, fun h => h.2.2.2.2.2.2.2⟩), below_step hB5 hb⟩
end Go.Proofs.YtdmegkkifiahdaaGreat
