/- The walk of the head of chapter 33's laws. -/
import Derived.Test.YtcpnkhiillgffaaRhA
namespace Go.Proofs.Ytcpnkhiillgffaa
open Go.RowKit
attribute [local go_sem] bqOp bqAll bqUpon
attribute [local irreducible] wpQuiet wpBQ
set_option linter.unusedVariables false
set_option maxRecDepth 100000 in
set_option maxHeartbeats 4000000 in
theorem head33_true (w : World) : Calls Try.prog 11 #[] w fun e w' => e = .returned (.bool true) ∧ Below w.heap.size w w' := by
  go_enter Try.func11, Try.ntmps11
  go_wp2_with fail
  have hB0 := Below.refl w.heap.size w
  (with_reducible refine (l33sea_any _).mono ?_)
  rintro z w1 ⟨hb1, s1, t1, rfl, hx1, he1⟩
  have hB1 := below_step hB0 hb1
  have X1 := Lib.hid hx1
  have E1 := Lib.hid he1
  clear hx1 he1
  go_wp2_with fail
  (with_reducible refine (l33air_any _).mono ?_)
  rintro z w2 ⟨hb2, a2, rfl, ha2⟩
  have hB2 := below_step hB1 hb2
  have A2 := Lib.hid ha2
  clear ha2
  obtain ⟨g, o, e, hc⟩ := A2.out.row (show 0 < 5 by omega)
  obtain ⟨rfl, rfl⟩ : a2 = g ∧ 0 = o := by simpa using e
  have c0 := hc 0 (by omega)
  have c1 := hc 1 (by omega)
  have c2 := hc 2 (by omega)
  have c3 := hc 3 (by omega)
  simp only [Nat.zero_mul, Nat.zero_add, Nat.add_zero] at c0 c1 c2 c3
  clear e hc
  rw [show airA 0 0 = 1 from rfl] at c0
  rw [show airA 0 1 = 0 from rfl] at c1
  rw [show airA 0 2 = 0 from rfl] at c2
  rw [show airA 0 3 = 150 from rfl] at c3
  go_wp2_with fail
  (with_reducible refine (hHears_any _ _ _ _ _ _ _ _ _ _ _ _ _ _ _ (X1.out.later hb2) (E1.out.later hb2) (by omega) (by omega) v_h1).mono ?_)
  rintro z w3 ⟨rfl, hb3⟩
  have hB3 := below_step hB2 hb3
  clear c0 c1 c2 c3 X1 E1 A2
  go_wp2_with fail
  (with_reducible refine (l33sea_any _).mono ?_)
  rintro z w4 ⟨hb4, s4, t4, rfl, hx4, he4⟩
  have hB4 := below_step hB3 hb4
  have X4 := Lib.hid hx4
  have E4 := Lib.hid he4
  clear hx4 he4
  go_wp2_with fail
  (with_reducible refine (l33air_any _).mono ?_)
  rintro z w5 ⟨hb5, a5, rfl, ha5⟩
  have hB5 := below_step hB4 hb5
  have A5 := Lib.hid ha5
  clear ha5
  obtain ⟨g, o, e, hc⟩ := A5.out.row (show 0 < 5 by omega)
  obtain ⟨rfl, rfl⟩ : a5 = g ∧ 0 = o := by simpa using e
  have c0 := hc 0 (by omega)
  have c1 := hc 1 (by omega)
  have c2 := hc 2 (by omega)
  have c3 := hc 3 (by omega)
  simp only [Nat.zero_mul, Nat.zero_add, Nat.add_zero] at c0 c1 c2 c3
  clear e hc
  rw [show airA 0 0 = 1 from rfl] at c0
  rw [show airA 0 1 = 0 from rfl] at c1
  rw [show airA 0 2 = 0 from rfl] at c2
  rw [show airA 0 3 = 150 from rfl] at c3
  go_wp2_with fail
  (with_reducible refine (hHears_any _ _ _ _ _ _ _ _ _ _ _ _ _ _ _ (X4.out.later hb5) (E4.out.later hb5) (by omega) (by omega) v_h2).mono ?_)
  rintro z w6 ⟨rfl, hb6⟩
  have hB6 := below_step hB5 hb6
  clear c0 c1 c2 c3 X4 E4 A5
  go_wp2_with fail
  (with_reducible refine (l33sea_any _).mono ?_)
  rintro z w7 ⟨hb7, s7, t7, rfl, hx7, he7⟩
  have hB7 := below_step hB6 hb7
  have X7 := Lib.hid hx7
  have E7 := Lib.hid he7
  clear hx7 he7
  go_wp2_with fail
  (with_reducible refine (l33air_any _).mono ?_)
  rintro z w8 ⟨hb8, a8, rfl, ha8⟩
  have hB8 := below_step hB7 hb8
  have A8 := Lib.hid ha8
  clear ha8
  obtain ⟨g, o, e, hc⟩ := A8.out.row (show 0 < 5 by omega)
  obtain ⟨rfl, rfl⟩ : a8 = g ∧ 0 = o := by simpa using e
  have c0 := hc 0 (by omega)
  have c1 := hc 1 (by omega)
  have c2 := hc 2 (by omega)
  have c3 := hc 3 (by omega)
  simp only [Nat.zero_mul, Nat.zero_add, Nat.add_zero] at c0 c1 c2 c3
  clear e hc
  rw [show airA 0 0 = 1 from rfl] at c0
  rw [show airA 0 1 = 0 from rfl] at c1
  rw [show airA 0 2 = 0 from rfl] at c2
  rw [show airA 0 3 = 150 from rfl] at c3
  go_wp2_with fail
  (with_reducible refine (hHears_any _ _ _ _ _ _ _ _ _ _ _ _ _ _ _ (X7.out.later hb8) (E7.out.later hb8) (by omega) (by omega) v_h3).mono ?_)
  rintro z w9 ⟨rfl, hb9⟩
  have hB9 := below_step hB8 hb9
  clear c0 c1 c2 c3 X7 E7 A8
  go_wp2_with fail
  (with_reducible refine (l33sea_any _).mono ?_)
  rintro z w10 ⟨hb10, s10, t10, rfl, hx10, he10⟩
  have hB10 := below_step hB9 hb10
  have X10 := Lib.hid hx10
  have E10 := Lib.hid he10
  clear hx10 he10
  go_wp2_with fail
  (with_reducible refine (l33air_any _).mono ?_)
  rintro z w11 ⟨hb11, a11, rfl, ha11⟩
  have hB11 := below_step hB10 hb11
  have A11 := Lib.hid ha11
  clear ha11
  go_wp2_with fail
  refine calls_named fun w12 hw12 => ?_
  obtain ⟨p12_0, hb12⟩ := box1 hw12
  clear hw12
  have hB12 := below_step hB11 hb12
  have rl : Rows 2 w12 (.slice (some ⟨w11.heap.size, 0, none⟩) 3 3) 3 L3 := rows_block (by omega) p12_0 (fun i hi j hj => by
    match i, j, hi, hj with
    | 0, 0, _, _ => rfl
    | 0, 1, _, _ => rfl
    | 1, 0, _, _ => rfl
    | 1, 1, _, _ => rfl
    | 2, 0, _, _ => rfl
    | 2, 1, _, _ => rfl)
  clear p12_0
  (with_reducible refine (hCount_any _ _ _ _ _ _ _ _ _ _ _ _ _ _ _ _ _ _ ((X10.out.later hb11).later hb12) ((E10.out.later hb11).later hb12) (A11.out.later hb12) rl (by omega) (by omega) (by omega) (by omega) v_count).mono ?_)
  rintro z w13 ⟨rfl, hb13⟩
  have hB13 := below_step hB12 hb13
  clear rl X10 E10 A11
  go_wp2_with fail
  (with_reducible refine (l33sea_any _).mono ?_)
  rintro z w14 ⟨hb14, s14, t14, rfl, hx14, he14⟩
  have hB14 := below_step hB13 hb14
  have X14 := Lib.hid hx14
  have E14 := Lib.hid he14
  clear hx14 he14
  go_wp2_with fail
  (with_reducible refine (l33air_any _).mono ?_)
  rintro z w15 ⟨hb15, a15, rfl, ha15⟩
  have hB15 := below_step hB14 hb15
  have A15 := Lib.hid ha15
  clear ha15
  go_wp2_with fail
  (with_reducible refine (hTable_yes _ _ _ _ _ _ _ _ _ _ _ _ 0 3 _ (X14.out.later hb15) (E14.out.later hb15) A15.out (by omega) (by omega) (by omega) v_net v_airs v_times).mono ?_)
  rintro z w16 ⟨tv, rfl, hb16, htab⟩
  have hB16 := below_step hB15 hb16
  replace htab : Tab w16 tv 4 (fun _ => 3) (tblN seaX airA seaE 5 0 2 4) := htab
  obtain ⟨adt, ct, rfl, htt, -⟩ := htab.form
  have TT := Lib.hid htt
  clear htab htt X14 E14 A15
  go_wp2_with fail
  (with_reducible refine (l33sea_any _).mono ?_)
  rintro z w17 ⟨hb17, s17, t17, rfl, hx17, he17⟩
  have hB17 := below_step hB16 hb17
  have X17 := Lib.hid hx17
  have E17 := Lib.hid he17
  clear hx17 he17
  go_wp2_with fail
  (with_reducible refine (l33air_any _).mono ?_)
  rintro z w18 ⟨hb18, a18, rfl, ha18⟩
  have hB18 := below_step hB17 hb18
  have A18 := Lib.hid ha18
  clear ha18
  go_wp2_with fail
  refine calls_named fun w19 hw19 => ?_
  obtain ⟨p19_0, hb19⟩ := box1 hw19
  clear hw19
  have hB19 := below_step hB18 hb19
  have ry : Rows 1 w19 (.slice (some ⟨w18.heap.size, 0, none⟩) 1 1) 1 (fun _ _ => 1) := rows_block (by omega) p19_0 (fun i hi j hj => by
    obtain rfl : i = 0 := by omega
    obtain rfl : j = 0 := by omega
    rfl)
  clear p19_0
  (with_reducible refine (hWorst_any _ _ _ _ _ _ _ _ _ _ _ _ _ _ _ _ 0 3 _ ((X17.out.later hb18).later hb19) ((E17.out.later hb18).later hb19) (A18.out.later hb19) ry (by omega) (by omega) (by omega) (by omega)).mono ?_)
  rintro z w20 ⟨hb20, tv2, hz, -, hok⟩
  have hB20 := below_step hB19 hb20
  rw [v_worst] at hz
  subst hz
  obtain ⟨p, b, hub, hp, ⟨i, hi, hY⟩, -, hrows⟩ := hok ⟨⟨v_net, v_airs, v_times⟩, v_area, by omega⟩
  replace hY : (1 : Int) = (p : Int) := hY
  obtain rfl : p = 1 := by omega
  obtain rfl : b = 3 := by omega
  replace hrows : Rows 2 w20 tv2 trkL.length (fun i j => pairX trkL (trkL.length - 1 - i) j) := hrows
  obtain ⟨adk, ck, rfl, hrk, hlen⟩ := hrows.form
  have RK := Lib.hid hrk
  clear hok hub hp hi hY hrows ry hrk X17 E17 A18
  go_wp2_with fail
  (with_reducible refine (l33sea_any _).mono ?_)
  rintro z w21 ⟨hb21, s21, t21, rfl, hx21, he21⟩
  have hB21 := below_step hB20 hb21
  have X21 := Lib.hid hx21
  have E21 := Lib.hid he21
  clear hx21 he21
  go_wp2_with fail
  (with_reducible refine (l33air_any _).mono ?_)
  rintro z w22 ⟨hb22, a22, rfl, ha22⟩
  have hB22 := below_step hB21 hb22
  have A22 := Lib.hid ha22
  clear ha22
  go_wp2_with fail
  refine calls_named fun w23 hw23 => ?_
  obtain ⟨p23_0, hb23⟩ := box1 hw23
  clear hw23
  have hB23 := below_step hB22 hb23
  have ry : Rows 1 w23 (.slice (some ⟨w22.heap.size, 0, none⟩) 1 1) 1 (fun _ _ => 1) := rows_block (by omega) p23_0 (fun i hi j hj => by
    obtain rfl : i = 0 := by omega
    obtain rfl : j = 0 := by omega
    rfl)
  clear p23_0
  (with_reducible refine (hDelay_any _ _ _ _ _ _ _ _ _ _ _ _ _ _ _ _ _ _ _ _ ((X21.out.later hb22).later hb23) ((E21.out.later hb22).later hb23) (A22.out.later hb23) ry (by omega) (by omega) (by omega) (by omega) v_delay1).mono ?_)
  rintro z w24 ⟨rfl, hb24⟩
  have hB24 := below_step hB23 hb24
  clear ry X21 E21 A22
  go_wp2_with fail
  (with_reducible refine (l33sea_any _).mono ?_)
  rintro z w25 ⟨hb25, s25, t25, rfl, hx25, he25⟩
  have hB25 := below_step hB24 hb25
  have X25 := Lib.hid hx25
  have E25 := Lib.hid he25
  clear hx25 he25
  go_wp2_with fail
  (with_reducible refine (l33air_any _).mono ?_)
  rintro z w26 ⟨hb26, a26, rfl, ha26⟩
  have hB26 := below_step hB25 hb26
  have A26 := Lib.hid ha26
  clear ha26
  go_wp2_with fail
  refine calls_named fun w27 hw27 => ?_
  obtain ⟨p27_0, hb27⟩ := box1 hw27
  clear hw27
  have hB27 := below_step hB26 hb27
  have ry : Rows 1 w27 (.slice (some ⟨w26.heap.size, 0, none⟩) 1 1) 1 (fun _ _ => 1) := rows_block (by omega) p27_0 (fun i hi j hj => by
    obtain rfl : i = 0 := by omega
    obtain rfl : j = 0 := by omega
    rfl)
  clear p27_0
  (with_reducible refine (hDelay_any _ _ _ _ _ _ _ _ _ _ _ _ _ _ _ _ _ _ _ _ ((X25.out.later hb26).later hb27) ((E25.out.later hb26).later hb27) (A26.out.later hb27) ry (by omega) (by omega) (by omega) (by omega) v_delay4).mono ?_)
  rintro z w28 ⟨rfl, hb28⟩
  have hB28 := below_step hB27 hb28
  clear ry X25 E25 A26
  go_wp2_with fail
  refine calls_named fun w29 hw29 => ?_
  obtain ⟨p29_0, p29_1, p29_2, p29_3, p29_4, hb29⟩ := box5 hw29
  clear hw29
  have hB29 := below_step hB28 hb29
  have t4 : Tab w29 (.slice (some ⟨w28.heap.size + 1 + 1 + 1 + 1, 0, none⟩) 4 4) 4 (fun _ => 3) T4 := ⟨_, _, rfl, by omega, fun t ht => by
    match t, ht with
    | 0, _ => exact ⟨_, 0, some ⟨w28.heap.size, 0, none⟩, 3, rfl, cell_block p29_4 0, (show 3 ≤ 9223372036854775807 by omega), rows_block (show 3 ≤ 9223372036854775807 by omega) p29_0 (fun j hj q hq => by
        obtain rfl : q = 0 := by omega
        match j, hj with
        | 0, _ => rfl
        | 1, _ => rfl
        | 2, _ => rfl)⟩
    | 1, _ => exact ⟨_, 0, some ⟨w28.heap.size + 1, 0, none⟩, 3, rfl, cell_block p29_4 1, (show 3 ≤ 9223372036854775807 by omega), rows_block (show 3 ≤ 9223372036854775807 by omega) p29_1 (fun j hj q hq => by
        obtain rfl : q = 0 := by omega
        match j, hj with
        | 0, _ => rfl
        | 1, _ => rfl
        | 2, _ => rfl)⟩
    | 2, _ => exact ⟨_, 0, some ⟨w28.heap.size + 1 + 1, 0, none⟩, 3, rfl, cell_block p29_4 2, (show 3 ≤ 9223372036854775807 by omega), rows_block (show 3 ≤ 9223372036854775807 by omega) p29_2 (fun j hj q hq => by
        obtain rfl : q = 0 := by omega
        match j, hj with
        | 0, _ => rfl
        | 1, _ => rfl
        | 2, _ => rfl)⟩
    | 3, _ => exact ⟨_, 0, some ⟨w28.heap.size + 1 + 1 + 1, 0, none⟩, 3, rfl, cell_block p29_4 3, (show 3 ≤ 9223372036854775807 by omega), rows_block (show 3 ≤ 9223372036854775807 by omega) p29_3 (fun j hj q hq => by
        obtain rfl : q = 0 := by omega
        match j, hj with
        | 0, _ => rfl
        | 1, _ => rfl
        | 2, _ => rfl)⟩⟩
  clear p29_0 p29_1 p29_2 p29_3 p29_4
  have hbt : Below w16.heap.size w16 w29 := (below_step (below_step (below_step (below_step (below_step (below_step (below_step (below_step (below_step (below_step (below_step (below_step hb17 hb18) hb19) hb20) hb21) hb22) hb23) hb24) hb25) hb26) hb27) hb28) hb29)
  (with_reducible refine (q33Tables_any 4 ct 4 4 adt _ _ _ _ _ _ (TT.out.later hbt) t4 (by omega) (by omega) (decide_eq_true v_tab)).mono ?_)
  rintro z w30 ⟨rfl, hb30⟩
  have hB30 := below_step hB29 hb30
  clear t4 hbt
  go_wp2_with fail
  (with_reducible refine (l33sea_any _).mono ?_)
  rintro z w31 ⟨hb31, s31, t31, rfl, hx31, he31⟩
  have hB31 := below_step hB30 hb31
  have X31 := Lib.hid hx31
  have E31 := Lib.hid he31
  clear hx31 he31
  go_wp2_with fail
  (with_reducible refine (l33air_any _).mono ?_)
  rintro z w32 ⟨hb32, a32, rfl, ha32⟩
  have hB32 := below_step hB31 hb32
  have A32 := Lib.hid ha32
  clear ha32
  go_wp2_with fail
  refine calls_named fun w33 hw33 => ?_
  obtain ⟨p33_0, hb33⟩ := box1 hw33
  clear hw33
  have hB33 := below_step hB32 hb33
  have ry : Rows 1 w33 (.slice (some ⟨w32.heap.size, 0, none⟩) 1 1) 1 (fun _ _ => 1) := rows_block (by omega) p33_0 (fun i hi j hj => by
    obtain rfl : i = 0 := by omega
    obtain rfl : j = 0 := by omega
    rfl)
  clear p33_0
  have hbt : Below w16.heap.size w16 w33 := (below_step (below_step (below_step (below_step (below_step (below_step (below_step (below_step (below_step (below_step (below_step (below_step (below_step (below_step (below_step (below_step hb17 hb18) hb19) hb20) hb21) hb22) hb23) hb24) hb25) hb26) hb27) hb28) hb29) hb30) hb31) hb32) hb33)
  (with_reducible refine (hCheck_any _ _ _ _ _ _ _ _ _ _ _ _ _ _ _ _ _ _ _ _ _ _ _ _ _ _ ((X31.out.later hb32).later hb33) ((E31.out.later hb32).later hb33) (A32.out.later hb33) ry (TT.out.later hbt) (by omega) (by omega) (by omega) (by omega) (by omega) v_check).mono ?_)
  rintro z w34 ⟨rfl, hb34⟩
  have hB34 := below_step hB33 hb34
  clear ry hbt X31 E31 A32
  go_wp2_with fail
  (with_reducible refine (l33sea_any _).mono ?_)
  rintro z w35 ⟨hb35, s35, t35, rfl, hx35, he35⟩
  have hB35 := below_step hB34 hb35
  have X35 := Lib.hid hx35
  have E35 := Lib.hid he35
  clear hx35 he35
  have hbt : Below w20.heap.size w20 w35 := (below_step (below_step (below_step (below_step (below_step (below_step (below_step (below_step (below_step (below_step (below_step (below_step (below_step (below_step hb21 hb22) hb23) hb24) hb25) hb26) hb27) hb28) hb29) hb30) hb31) hb32) hb33) hb34) hb35)
  go_wp2_with fail
  (with_reducible refine (hTrack_any _ _ _ _ _ _ _ _ _ _ _ _ _ X35.out E35.out (RK.out.later hbt) (by omega) (by omega) hlen (decide_eq_true v_track)).mono ?_)
  rintro z w36 ⟨rfl, hb36⟩
  have hB36 := below_step hB35 hb36
  clear hbt X35 E35
  go_wp2_with fail
  (with_reducible refine (l33sea_any _).mono ?_)
  rintro z w37 ⟨hb37, s37, t37, rfl, hx37, he37⟩
  have hB37 := below_step hB36 hb37
  have X37 := Lib.hid hx37
  have E37 := Lib.hid he37
  clear hx37 he37
  go_wp2_with fail
  (with_reducible refine (hValid_any _ _ _ _ _ _ _ _ _ X37.out E37.out (by omega) (by omega) (decide_eq_true v_net)).mono ?_)
  rintro z w38 ⟨rfl, hb38⟩
  have hB38 := below_step hB37 hb38
  go_wp2_with fail
  (with_reducible refine (hValid_any 0 0 0 0 none none (fun _ _ => 0) (fun _ _ => 0) _ (rows_nil 2 _ _) (rows_nil 4 _ _) (by omega) (by omega) v_no).mono ?_)
  rintro z w39 ⟨rfl, hb39⟩
  have hB39 := below_step hB38 hb39
  go_wp2_with fail
  go_returns
  exact ⟨rfl, hB39⟩
end Go.Proofs.Ytcpnkhiillgffaa
