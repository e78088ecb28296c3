/- For any net, piece, two of its places and a further place: the statement ReachHeard of chapter 33 (a piece that is surely heard between two places is heard at both and is in range on the segment between them; it does not matter which of them is first): the law's function returns true and leaves its arguments as they were. No condition. -/
import Derived.Test.YtcpnkhiillgffaaRhB
import Derived.Test.YtcpnkhiillgffaaRhC
import Derived.Test.YtcpnkhiillgffaaRhF
import Derived.Test.YtcpnkhiillgffaaFrameR
import Derived.Test.YtcpnkhiillgffaaPlaneMath
namespace Go.Proofs.Ytcpnkhiillgffaa
open Go.ChangeShapes Go.WideShapes Go.ChangeAt Go.RowKit
attribute [local go_sem] bqOp bqAll bqUpon field_stop0 field_stop1
attribute [local irreducible] wpQuiet wpBQ
set_option linter.unusedVariables false
theorem disc_convex {px py ax ay bx by' cx cy m n R : Int} (h : Wt px py ax ay bx by' m n) (hU : sqd ax ay cx cy ≤ R) (hV : sqd bx by' cx cy ≤ R) : sqd px py cx cy ≤ R := by
  obtain ⟨h1, h2, h3, h4, h5⟩ := h
  have hW := sqd_nn ax ay bx by'
  have ex : m * (cx - px) = (m - n) * (cx - ax) + n * (cx - bx) := by grind
  have ey : m * (cy - py) = (m - n) * (cy - ay) + n * (cy - by') := by grind
  have e : (m * m) * sqd px py cx cy = (m * (m - n)) * sqd ax ay cx cy + (m * n) * sqd bx by' cx cy - (n * (m - n)) * sqd ax ay bx by' := by
    have e1 : (m * m) * sqd px py cx cy = (m * (cx - px)) * (m * (cx - px)) + (m * (cy - py)) * (m * (cy - py)) := by unfold sqd; grind
    rw [e1, ex, ey]
    unfold sqd
    grind
  have n1 : 0 ≤ m * (m - n) := Int.mul_nonneg (by omega) (by omega)
  have n2 : 0 ≤ m * n := Int.mul_nonneg (by omega) h2
  have n3 : 0 ≤ (n * (m - n)) * sqd ax ay bx by' := Int.mul_nonneg (Int.mul_nonneg h2 (by omega)) hW
  have l1 := Int.mul_le_mul_of_nonneg_left hU n1
  have l2 := Int.mul_le_mul_of_nonneg_left hV n2
  have e2 : (m * m) * R = (m * (m - n)) * R + (m * n) * R := by grind
  exact nn_lt (Int.mul_pos h1 h1) (by omega)
theorem heard_near {X : Nat → Nat → Int} {x y r px py : Int} {i j : Nat} (h1 : hrB X x y r i = true) (h2 : hrB X x y r j = true) (h : onB px py (X i 0) (X i 1) (X j 0) (X j 1) = true) : nearB px py x y x y r = true := by
  obtain ⟨m, n, hw⟩ := wt_of_on (of_decide_eq_true h)
  rw [near_point]
  refine decide_eq_true ?_
  rw [sqd_comm]
  exact disc_convex hw (of_decide_eq_true h1) (of_decide_eq_true h2)
theorem hears_sym {np ne : Nat} {X E : Nat → Nat → Int} {t x y r p q : Int} : hearsNR np X ne E t x y r q p = hearsNR np X ne E t x y r p q := by
  unfold hearsNR
  by_cases h : NetOk np X ne E ∧ AirOk t x y r ∧ (0 ≤ p ∧ p < (np : Int)) ∧ 0 ≤ q ∧ q < (np : Int)
  · rw [if_pos h, if_pos ⟨h.1, h.2.1, h.2.2.2, h.2.2.1⟩, Bool.and_comm]
  · rw [if_neg h, if_neg fun k => h ⟨k.1, k.2.1, k.2.2.2, k.2.2.1⟩]
theorem hears_yes {np ne : Nat} {X E : Nat → Nat → Int} {t x y r : Int} {i j : Nat} (hN : NetOk np X ne E) (ha : AirOk t x y r) (hi : i < np) (hj : j < np) {b c : Bool} (h1 : hrB X x y r i = b) (h2 : hrB X x y r j = c) : hearsNR np X ne E t x y r (i : Int) (j : Int) = (b && c, 0) := by
  unfold hearsNR
  rw [if_pos ⟨hN, ha, by omega, by omega⟩, Int.toNat_natCast, Int.toNat_natCast, h1, h2]
set_option maxRecDepth 100000 in
set_option maxHeartbeats 8000000 in
theorem reachHeard_walk {np c ne c2 : Nat} {ad ad2 : Option Addr} {X E : Nat → Nat → Int} (a0 a1 a2 a3 f g px py : Int) {w : World} (hX : Rows 2 w (.slice ad np c) np X) (hE : Rows 4 w (.slice ad2 ne c2) ne E) :
    Calls Try.prog 10 #[.agg #[.slice ad np c, .slice ad2 ne c2], .agg #[.int .i64 a0, .int .i64 a1, .int .i64 a2, .int .i64 a3], .int .i64 f, .int .i64 g, .agg #[.int .i64 px, .int .i64 py]] w fun e w' => e = .returned (.bool true) ∧ Below w.heap.size w w' := by
  have n1 : np ≤ 9223372036854775807 := by obtain ⟨_, _, _, h, _⟩ := hX; exact h
  have n2 : ne ≤ 9223372036854775807 := by obtain ⟨_, _, _, h, _⟩ := hE; exact h
  have HX := Lib.hid hX
  have HE := Lib.hid hE
  clear hX hE
  go_enter Try.func10, Try.ntmps10
  go_wp2_with fail
  refine calls_named fun W hW => ?_
  obtain ⟨p1, p2, p3, hB⟩ := box3 hW
  clear hW
  have P1 := Lib.hid p1
  clear p1
  have q1 := cellsL P1.out
  have P2 := Lib.hid p2
  have P3 := Lib.hid p3
  clear p2 p3
  have q2 := cellsL P2.out
  have q3 := cellsL P3.out
  (with_reducible refine (head33_true _).mono ?_)
  rintro e w1 ⟨rfl, hB1⟩
  have hC1 := below_step hB hB1
  go_wp2_with fail
  obtain ⟨vf, hvf⟩ : ∃ v, decide (FewOk np ne 0 E) = v := ⟨_, rfl⟩
  have Hvf := Lib.hid hvf
  clear hvf
  (with_reducible refine (q33Few_any np c ne c2 0 0 ad ad2 none E _ (HE.out.later hC1) Hvf.out).mono ?_)
  rintro e w2 ⟨rfl, hb2⟩
  have hB2 := below_step hB1 hb2
  have hC2 := below_step hB hB2
  clear hb2
  cases vf
  · go_wp2_with fail
    go_returns
    exact ⟨rfl, hC2⟩
  have FEW : FewOk np ne 0 E := of_decide_eq_true Hvf.out
  have FW := Lib.hid FEW
  clear FEW Hvf
  by_cases ok : NetOk np X ne E ∧ AirOk a0 a1 a2 a3 ∧ (0 ≤ f ∧ f < (np : Int)) ∧ 0 ≤ g ∧ g < (np : Int)
  rotate_left
  · have v1 : hearsNR np X ne E a0 a1 a2 a3 f g = (false, 1) := if_neg ok
    have V1 := Lib.hid v1
    have V2 := Lib.hid (hears_sym.trans v1)
    clear v1 ok
    go_wp2_with fail
    (with_reducible refine (hHears_any np c ne c2 _ ad2 X E a0 a1 a2 a3 f g _ (HX.out.later hC2) (HE.out.later hC2) n1 n2 V1.out).mono ?_)
    rintro e w3 ⟨rfl, hb3⟩
    have hB3 := below_step hB2 hb3
    have hC3 := below_step hB hB3
    clear hb3
    go_wp2_with fail
    (with_reducible refine (hHears_any np c ne c2 _ ad2 X E a0 a1 a2 a3 g f _ (HX.out.later hC3) (HE.out.later hC3) n1 n2 V2.out).mono ?_)
    rintro e w4 ⟨rfl, hb4⟩
    have hB4 := below_step hB3 hb4
    have hC4 := below_step hB hB4
    clear hb4
    go_wp2_with fail
    go_returns
    exact ⟨rfl, hC4⟩
  obtain ⟨hN, ha, ⟨f0, f1⟩, g0, g1⟩ := ok
  obtain ⟨i, rfl⟩ : ∃ i : Nat, f = (i : Int) := ⟨f.toNat, by omega⟩
  obtain ⟨j, rfl⟩ : ∃ j : Nat, g = (j : Int) := ⟨g.toNat, by omega⟩
  have hi : i < np := by omega
  have hj : j < np := by omega
  obtain ⟨b, hb⟩ : ∃ b, hrB X a1 a2 a3 i = b := ⟨_, rfl⟩
  obtain ⟨d, hd⟩ : ∃ d, hrB X a1 a2 a3 j = d := ⟨_, rfl⟩
  have V1 := Lib.hid (hears_yes (E := E) (t := a0) hN ha hi hj hb hd)
  have V2 := Lib.hid (hears_yes (E := E) (t := a0) hN ha hj hi hd hb)
  have V3 := Lib.hid (hears_yes (E := E) (t := a0) hN ha hi hi hb hb)
  have V4 := Lib.hid (hears_yes (E := E) (t := a0) hN ha hj hj hd hd)
  have vi := hN.2.2.2.1 i hi
  have vj := hN.2.2.2.1 j hj
  have NR := Lib.hid (fun h1 h2 h3 => heard_near (px := px) (py := py) (hb.trans h1) (hd.trans h2) h3)
  have AO : Hid (Vld a1 a2 ∧ 0 ≤ a3 ∧ a3 ≤ 3000000 ∧ 0 ≤ a0 ∧ a0 ≤ 10000000) := Lib.hid ha
  have VI := Lib.hid vi
  have VJ := Lib.hid vj
  clear hN ha vi vj hb hd f0 g0
  obtain ⟨g1, o1, rfl, hci⟩ := HX.out.row hi
  obtain ⟨g2, o2, e, hcj⟩ := HX.out.row hj
  obtain ⟨rfl, rfl⟩ : g1 = g2 ∧ o1 = o2 := by simpa using e
  have I0 := hci 0 (by omega)
  have I1 := hci 1 (by omega)
  have J0 := hcj 0 (by omega)
  have J1 := hcj 1 (by omega)
  clear hci hcj e
  rw [Nat.add_zero] at I0 J0
  obtain ⟨xi, hxi⟩ : ∃ x, X i 0 = x := ⟨_, rfl⟩
  obtain ⟨yi, hyi⟩ : ∃ x, X i 1 = x := ⟨_, rfl⟩
  obtain ⟨xj, hxj⟩ : ∃ x, X j 0 = x := ⟨_, rfl⟩
  obtain ⟨yj, hyj⟩ : ∃ x, X j 1 = x := ⟨_, rfl⟩
  rw [hxi] at I0 VI NR
  rw [hyi] at I1 VI NR
  rw [hxj] at J0 VJ NR
  rw [hyj] at J1 VJ NR
  clear hxi hyi hxj hyj
  replace I0 := Lib.hid I0
  replace I1 := Lib.hid I1
  replace J0 := Lib.hid J0
  replace J1 := Lib.hid J1
  cases b
  · cases d
    · skip
      go_wp2_with fail
      (with_reducible refine (hHears_any np c ne c2 _ ad2 X E a0 a1 a2 a3 (i : Int) (j : Int) _ (HX.out.later hC2) (HE.out.later hC2) n1 n2 V1.out).mono ?_)
      rintro e w3 ⟨rfl, hb3⟩
      have hB3 := below_step hB2 hb3
      have hC3 := below_step hB hB3
      clear hb3
      go_wp2_with fail
      (with_reducible refine (hHears_any np c ne c2 _ ad2 X E a0 a1 a2 a3 (j : Int) (i : Int) _ (HX.out.later hC3) (HE.out.later hC3) n1 n2 V2.out).mono ?_)
      rintro e w4 ⟨rfl, hb4⟩
      have hB4 := below_step hB3 hb4
      have hC4 := below_step hB hB4
      clear hb4
      go_wp2_with fail
      (with_reducible refine (q33Place_any np c ne c2 _ ad2 (i : Int) _ n1 (decide_eq_true ⟨by omega, by omega⟩)).mono ?_)
      rintro e w5 ⟨rfl, hb5⟩
      have hB5 := below_step hB4 hb5
      have hC5 := below_step hB hB5
      clear hb5
      go_wp2_with fail
      (with_reducible refine (q33Place_any np c ne c2 _ ad2 (j : Int) _ n1 (decide_eq_true ⟨by omega, by omega⟩)).mono ?_)
      rintro e w6 ⟨rfl, hb6⟩
      have hB6 := below_step hB5 hb6
      have hC6 := below_step hB hB6
      clear hb6
      go_wp2_with fail
      (with_reducible refine (hHears_any np c ne c2 _ ad2 X E a0 a1 a2 a3 (i : Int) (i : Int) _ (HX.out.later hC6) (HE.out.later hC6) n1 n2 V3.out).mono ?_)
      rintro e w7 ⟨rfl, hb7⟩
      have hB7 := below_step hB6 hb7
      have hC7 := below_step hB hB7
      clear hb7
      go_wp2_with fail
      (with_reducible refine (hHears_any np c ne c2 _ ad2 X E a0 a1 a2 a3 (j : Int) (j : Int) _ (HX.out.later hC7) (HE.out.later hC7) n1 n2 V4.out).mono ?_)
      rintro e w8 ⟨rfl, hb8⟩
      have hB8 := below_step hB7 hb8
      have hC8 := below_step hB hB8
      clear hb8
      go_wp2_with fail
      by_cases vp : Vld px py
      rotate_left
      · have NP := Lib.hid vp
        clear vp
        clear q1 q2 q3
        have q1 := cellsR (block_later hB8 P1.out)
        have q3 := cellsR (block_later hB8 P3.out)
        have cI0 := fun d os => cell_later (below_regrown w8 d os) (cell_later hC8 I0.out)
        have cI1 := fun d os => cell_later (below_regrown w8 d os) (cell_later hC8 I1.out)
        have cJ0 := fun d os => cell_later (below_regrown w8 d os) (cell_later hC8 J0.out)
        have cJ1 := fun d os => cell_later (below_regrown w8 d os) (cell_later hC8 J1.out)
        (refine wp_region_quiet_below (by kernel_rfl) (by kernel_rfl) ?_; (repeat (refine wpQuiet_step (fun K hK => ?_); replace hK := Lib.hid hK; go_simp; first | (refine hK.out _ ?_; clear hK K) | (apply Exists.intro; refine ⟨fun _ => ?_, hK.out _ ?_⟩; ((go_at_call 35; exact Calls.regrown_of (On_no px py xi yi xj yj _ fun h => NP.out h.1))); clear hK K))); refine wpQuiet_nil ?_)
        intro w9 hr9
        have hB9 := below_step hB8 (regrown_below hr9)
        have hC9 := below_step hC8 (regrown_below hr9)
        clear hr9 q1 q3 cI0 cI1 cJ0 cJ1
        have q2 := cellsL P2.out
        have q3 := cellsL P3.out
        go_wp2_with fail
        go_returns
        exact ⟨rfl, hC9⟩
      have VP := Lib.hid vp
      clear vp
      obtain ⟨o, ho⟩ : ∃ o, onB px py xi yi xj yj = o := ⟨_, rfl⟩
      have OO := Lib.hid ho
      clear ho
      clear q1 q2 q3
      have q1 := cellsR (block_later hB8 P1.out)
      have q3 := cellsR (block_later hB8 P3.out)
      have cI0 := fun d os => cell_later (below_regrown w8 d os) (cell_later hC8 I0.out)
      have cI1 := fun d os => cell_later (below_regrown w8 d os) (cell_later hC8 I1.out)
      have cJ0 := fun d os => cell_later (below_regrown w8 d os) (cell_later hC8 J0.out)
      have cJ1 := fun d os => cell_later (below_regrown w8 d os) (cell_later hC8 J1.out)
      (refine wp_region_quiet_below (by kernel_rfl) (by kernel_rfl) ?_; (repeat (refine wpQuiet_step (fun K hK => ?_); replace hK := Lib.hid hK; go_simp; first | (refine hK.out _ ?_; clear hK K) | (apply Exists.intro; refine ⟨fun _ => ?_, hK.out _ ?_⟩; ((go_at_call 35; exact Calls.regrown_of (On_yes px py xi yi xj yj _ VP.out VI.out VJ.out OO.out))); clear hK K))); refine wpQuiet_nil ?_)
      intro w9 hr9
      have hB9 := below_step hB8 (regrown_below hr9)
      have hC9 := below_step hC8 (regrown_below hr9)
      clear hr9 q1 q3 cI0 cI1 cJ0 cJ1
      have q2 := cellsL P2.out
      have q3 := cellsL P3.out
      cases o
      · go_wp2_with fail
        go_returns
        exact ⟨rfl, hC9⟩
      · go_wp2_with fail
        go_returns
        exact ⟨rfl, hC9⟩
    · skip
      go_wp2_with fail
      (with_reducible refine (hHears_any np c ne c2 _ ad2 X E a0 a1 a2 a3 (i : Int) (j : Int) _ (HX.out.later hC2) (HE.out.later hC2) n1 n2 V1.out).mono ?_)
      rintro e w3 ⟨rfl, hb3⟩
      have hB3 := below_step hB2 hb3
      have hC3 := below_step hB hB3
      clear hb3
      go_wp2_with fail
      (with_reducible refine (hHears_any np c ne c2 _ ad2 X E a0 a1 a2 a3 (j : Int) (i : Int) _ (HX.out.later hC3) (HE.out.later hC3) n1 n2 V2.out).mono ?_)
      rintro e w4 ⟨rfl, hb4⟩
      have hB4 := below_step hB3 hb4
      have hC4 := below_step hB hB4
      clear hb4
      go_wp2_with fail
      (with_reducible refine (q33Place_any np c ne c2 _ ad2 (i : Int) _ n1 (decide_eq_true ⟨by omega, by omega⟩)).mono ?_)
      rintro e w5 ⟨rfl, hb5⟩
      have hB5 := below_step hB4 hb5
      have hC5 := below_step hB hB5
      clear hb5
      go_wp2_with fail
      (with_reducible refine (q33Place_any np c ne c2 _ ad2 (j : Int) _ n1 (decide_eq_true ⟨by omega, by omega⟩)).mono ?_)
      rintro e w6 ⟨rfl, hb6⟩
      have hB6 := below_step hB5 hb6
      have hC6 := below_step hB hB6
      clear hb6
      go_wp2_with fail
      (with_reducible refine (hHears_any np c ne c2 _ ad2 X E a0 a1 a2 a3 (i : Int) (i : Int) _ (HX.out.later hC6) (HE.out.later hC6) n1 n2 V3.out).mono ?_)
      rintro e w7 ⟨rfl, hb7⟩
      have hB7 := below_step hB6 hb7
      have hC7 := below_step hB hB7
      clear hb7
      go_wp2_with fail
      (with_reducible refine (hHears_any np c ne c2 _ ad2 X E a0 a1 a2 a3 (j : Int) (j : Int) _ (HX.out.later hC7) (HE.out.later hC7) n1 n2 V4.out).mono ?_)
      rintro e w8 ⟨rfl, hb8⟩
      have hB8 := below_step hB7 hb8
      have hC8 := below_step hB hB8
      clear hb8
      go_wp2_with fail
      by_cases vp : Vld px py
      rotate_left
      · have NP := Lib.hid vp
        clear vp
        clear q1 q2 q3
        have q1 := cellsR (block_later hB8 P1.out)
        have q3 := cellsR (block_later hB8 P3.out)
        have cI0 := fun d os => cell_later (below_regrown w8 d os) (cell_later hC8 I0.out)
        have cI1 := fun d os => cell_later (below_regrown w8 d os) (cell_later hC8 I1.out)
        have cJ0 := fun d os => cell_later (below_regrown w8 d os) (cell_later hC8 J0.out)
        have cJ1 := fun d os => cell_later (below_regrown w8 d os) (cell_later hC8 J1.out)
        (refine wp_region_quiet_below (by kernel_rfl) (by kernel_rfl) ?_; (repeat (refine wpQuiet_step (fun K hK => ?_); replace hK := Lib.hid hK; go_simp; first | (refine hK.out _ ?_; clear hK K) | (apply Exists.intro; refine ⟨fun _ => ?_, hK.out _ ?_⟩; ((go_at_call 35; exact Calls.regrown_of (On_no px py xi yi xj yj _ fun h => NP.out h.1))); clear hK K))); refine wpQuiet_nil ?_)
        intro w9 hr9
        have hB9 := below_step hB8 (regrown_below hr9)
        have hC9 := below_step hC8 (regrown_below hr9)
        clear hr9 q1 q3 cI0 cI1 cJ0 cJ1
        have q2 := cellsL P2.out
        have q3 := cellsL P3.out
        go_wp2_with fail
        go_returns
        exact ⟨rfl, hC9⟩
      have VP := Lib.hid vp
      clear vp
      obtain ⟨o, ho⟩ : ∃ o, onB px py xi yi xj yj = o := ⟨_, rfl⟩
      have OO := Lib.hid ho
      clear ho
      clear q1 q2 q3
      have q1 := cellsR (block_later hB8 P1.out)
      have q3 := cellsR (block_later hB8 P3.out)
      have cI0 := fun d os => cell_later (below_regrown w8 d os) (cell_later hC8 I0.out)
      have cI1 := fun d os => cell_later (below_regrown w8 d os) (cell_later hC8 I1.out)
      have cJ0 := fun d os => cell_later (below_regrown w8 d os) (cell_later hC8 J0.out)
      have cJ1 := fun d os => cell_later (below_regrown w8 d os) (cell_later hC8 J1.out)
      (refine wp_region_quiet_below (by kernel_rfl) (by kernel_rfl) ?_; (repeat (refine wpQuiet_step (fun K hK => ?_); replace hK := Lib.hid hK; go_simp; first | (refine hK.out _ ?_; clear hK K) | (apply Exists.intro; refine ⟨fun _ => ?_, hK.out _ ?_⟩; ((go_at_call 35; exact Calls.regrown_of (On_yes px py xi yi xj yj _ VP.out VI.out VJ.out OO.out))); clear hK K))); refine wpQuiet_nil ?_)
      intro w9 hr9
      have hB9 := below_step hB8 (regrown_below hr9)
      have hC9 := below_step hC8 (regrown_below hr9)
      clear hr9 q1 q3 cI0 cI1 cJ0 cJ1
      have q2 := cellsL P2.out
      have q3 := cellsL P3.out
      cases o
      · go_wp2_with fail
        go_returns
        exact ⟨rfl, hC9⟩
      · go_wp2_with fail
        go_returns
        exact ⟨rfl, hC9⟩
  · cases d
    · skip
      go_wp2_with fail
      (with_reducible refine (hHears_any np c ne c2 _ ad2 X E a0 a1 a2 a3 (i : Int) (j : Int) _ (HX.out.later hC2) (HE.out.later hC2) n1 n2 V1.out).mono ?_)
      rintro e w3 ⟨rfl, hb3⟩
      have hB3 := below_step hB2 hb3
      have hC3 := below_step hB hB3
      clear hb3
      go_wp2_with fail
      (with_reducible refine (hHears_any np c ne c2 _ ad2 X E a0 a1 a2 a3 (j : Int) (i : Int) _ (HX.out.later hC3) (HE.out.later hC3) n1 n2 V2.out).mono ?_)
      rintro e w4 ⟨rfl, hb4⟩
      have hB4 := below_step hB3 hb4
      have hC4 := below_step hB hB4
      clear hb4
      go_wp2_with fail
      (with_reducible refine (q33Place_any np c ne c2 _ ad2 (i : Int) _ n1 (decide_eq_true ⟨by omega, by omega⟩)).mono ?_)
      rintro e w5 ⟨rfl, hb5⟩
      have hB5 := below_step hB4 hb5
      have hC5 := below_step hB hB5
      clear hb5
      go_wp2_with fail
      (with_reducible refine (q33Place_any np c ne c2 _ ad2 (j : Int) _ n1 (decide_eq_true ⟨by omega, by omega⟩)).mono ?_)
      rintro e w6 ⟨rfl, hb6⟩
      have hB6 := below_step hB5 hb6
      have hC6 := below_step hB hB6
      clear hb6
      go_wp2_with fail
      (with_reducible refine (hHears_any np c ne c2 _ ad2 X E a0 a1 a2 a3 (i : Int) (i : Int) _ (HX.out.later hC6) (HE.out.later hC6) n1 n2 V3.out).mono ?_)
      rintro e w7 ⟨rfl, hb7⟩
      have hB7 := below_step hB6 hb7
      have hC7 := below_step hB hB7
      clear hb7
      go_wp2_with fail
      (with_reducible refine (hHears_any np c ne c2 _ ad2 X E a0 a1 a2 a3 (j : Int) (j : Int) _ (HX.out.later hC7) (HE.out.later hC7) n1 n2 V4.out).mono ?_)
      rintro e w8 ⟨rfl, hb8⟩
      have hB8 := below_step hB7 hb8
      have hC8 := below_step hB hB8
      clear hb8
      go_wp2_with fail
      by_cases vp : Vld px py
      rotate_left
      · have NP := Lib.hid vp
        clear vp
        clear q1 q2 q3
        have q1 := cellsR (block_later hB8 P1.out)
        have q3 := cellsR (block_later hB8 P3.out)
        have cI0 := fun d os => cell_later (below_regrown w8 d os) (cell_later hC8 I0.out)
        have cI1 := fun d os => cell_later (below_regrown w8 d os) (cell_later hC8 I1.out)
        have cJ0 := fun d os => cell_later (below_regrown w8 d os) (cell_later hC8 J0.out)
        have cJ1 := fun d os => cell_later (below_regrown w8 d os) (cell_later hC8 J1.out)
        (refine wp_region_quiet_below (by kernel_rfl) (by kernel_rfl) ?_; (repeat (refine wpQuiet_step (fun K hK => ?_); replace hK := Lib.hid hK; go_simp; first | (refine hK.out _ ?_; clear hK K) | (apply Exists.intro; refine ⟨fun _ => ?_, hK.out _ ?_⟩; ((go_at_call 35; exact Calls.regrown_of (On_no px py xi yi xj yj _ fun h => NP.out h.1))); clear hK K))); refine wpQuiet_nil ?_)
        intro w9 hr9
        have hB9 := below_step hB8 (regrown_below hr9)
        have hC9 := below_step hC8 (regrown_below hr9)
        clear hr9 q1 q3 cI0 cI1 cJ0 cJ1
        have q2 := cellsL P2.out
        have q3 := cellsL P3.out
        go_wp2_with fail
        go_returns
        exact ⟨rfl, hC9⟩
      have VP := Lib.hid vp
      clear vp
      obtain ⟨o, ho⟩ : ∃ o, onB px py xi yi xj yj = o := ⟨_, rfl⟩
      have OO := Lib.hid ho
      clear ho
      clear q1 q2 q3
      have q1 := cellsR (block_later hB8 P1.out)
      have q3 := cellsR (block_later hB8 P3.out)
      have cI0 := fun d os => cell_later (below_regrown w8 d os) (cell_later hC8 I0.out)
      have cI1 := fun d os => cell_later (below_regrown w8 d os) (cell_later hC8 I1.out)
      have cJ0 := fun d os => cell_later (below_regrown w8 d os) (cell_later hC8 J0.out)
      have cJ1 := fun d os => cell_later (below_regrown w8 d os) (cell_later hC8 J1.out)
      (refine wp_region_quiet_below (by kernel_rfl) (by kernel_rfl) ?_; (repeat (refine wpQuiet_step (fun K hK => ?_); replace hK := Lib.hid hK; go_simp; first | (refine hK.out _ ?_; clear hK K) | (apply Exists.intro; refine ⟨fun _ => ?_, hK.out _ ?_⟩; ((go_at_call 35; exact Calls.regrown_of (On_yes px py xi yi xj yj _ VP.out VI.out VJ.out OO.out))); clear hK K))); refine wpQuiet_nil ?_)
      intro w9 hr9
      have hB9 := below_step hB8 (regrown_below hr9)
      have hC9 := below_step hC8 (regrown_below hr9)
      clear hr9 q1 q3 cI0 cI1 cJ0 cJ1
      have q2 := cellsL P2.out
      have q3 := cellsL P3.out
      cases o
      · go_wp2_with fail
        go_returns
        exact ⟨rfl, hC9⟩
      · go_wp2_with fail
        go_returns
        exact ⟨rfl, hC9⟩
    · skip
      go_wp2_with fail
      (with_reducible refine (hHears_any np c ne c2 _ ad2 X E a0 a1 a2 a3 (i : Int) (j : Int) _ (HX.out.later hC2) (HE.out.later hC2) n1 n2 V1.out).mono ?_)
      rintro e w3 ⟨rfl, hb3⟩
      have hB3 := below_step hB2 hb3
      have hC3 := below_step hB hB3
      clear hb3
      go_wp2_with fail
      (with_reducible refine (hHears_any np c ne c2 _ ad2 X E a0 a1 a2 a3 (j : Int) (i : Int) _ (HX.out.later hC3) (HE.out.later hC3) n1 n2 V2.out).mono ?_)
      rintro e w4 ⟨rfl, hb4⟩
      have hB4 := below_step hB3 hb4
      have hC4 := below_step hB hB4
      clear hb4
      go_wp2_with fail
      (with_reducible refine (q33Place_any np c ne c2 _ ad2 (i : Int) _ n1 (decide_eq_true ⟨by omega, by omega⟩)).mono ?_)
      rintro e w5 ⟨rfl, hb5⟩
      have hB5 := below_step hB4 hb5
      have hC5 := below_step hB hB5
      clear hb5
      go_wp2_with fail
      (with_reducible refine (q33Place_any np c ne c2 _ ad2 (j : Int) _ n1 (decide_eq_true ⟨by omega, by omega⟩)).mono ?_)
      rintro e w6 ⟨rfl, hb6⟩
      have hB6 := below_step hB5 hb6
      have hC6 := below_step hB hB6
      clear hb6
      go_wp2_with fail
      (with_reducible refine (hHears_any np c ne c2 _ ad2 X E a0 a1 a2 a3 (i : Int) (i : Int) _ (HX.out.later hC6) (HE.out.later hC6) n1 n2 V3.out).mono ?_)
      rintro e w7 ⟨rfl, hb7⟩
      have hB7 := below_step hB6 hb7
      have hC7 := below_step hB hB7
      clear hb7
      go_wp2_with fail
      (with_reducible refine (hHears_any np c ne c2 _ ad2 X E a0 a1 a2 a3 (j : Int) (j : Int) _ (HX.out.later hC7) (HE.out.later hC7) n1 n2 V4.out).mono ?_)
      rintro e w8 ⟨rfl, hb8⟩
      have hB8 := below_step hB7 hb8
      have hC8 := below_step hB hB8
      clear hb8
      go_wp2_with fail
      by_cases vp : Vld px py
      rotate_left
      · have NP := Lib.hid vp
        clear vp
        clear q1 q2 q3
        have q1 := cellsR (block_later hB8 P1.out)
        have q3 := cellsR (block_later hB8 P3.out)
        have cI0 := fun d os => cell_later (below_regrown w8 d os) (cell_later hC8 I0.out)
        have cI1 := fun d os => cell_later (below_regrown w8 d os) (cell_later hC8 I1.out)
        have cJ0 := fun d os => cell_later (below_regrown w8 d os) (cell_later hC8 J0.out)
        have cJ1 := fun d os => cell_later (below_regrown w8 d os) (cell_later hC8 J1.out)
        (refine wp_region_quiet_below (by kernel_rfl) (by kernel_rfl) ?_; (repeat (refine wpQuiet_step (fun K hK => ?_); replace hK := Lib.hid hK; go_simp; first | (refine hK.out _ ?_; clear hK K) | (apply Exists.intro; refine ⟨fun _ => ?_, hK.out _ ?_⟩; ((go_at_call 35; exact Calls.regrown_of (On_no px py xi yi xj yj _ fun h => NP.out h.1))); clear hK K))); refine wpQuiet_nil ?_)
        intro w9 hr9
        have hB9 := below_step hB8 (regrown_below hr9)
        have hC9 := below_step hC8 (regrown_below hr9)
        clear hr9 q1 q3 cI0 cI1 cJ0 cJ1
        have q2 := cellsL P2.out
        have q3 := cellsL P3.out
        go_wp2_with fail
        go_returns
        exact ⟨rfl, hC9⟩
      have VP := Lib.hid vp
      clear vp
      obtain ⟨o, ho⟩ : ∃ o, onB px py xi yi xj yj = o := ⟨_, rfl⟩
      have OO := Lib.hid ho
      clear ho
      clear q1 q2 q3
      have q1 := cellsR (block_later hB8 P1.out)
      have q3 := cellsR (block_later hB8 P3.out)
      have cI0 := fun d os => cell_later (below_regrown w8 d os) (cell_later hC8 I0.out)
      have cI1 := fun d os => cell_later (below_regrown w8 d os) (cell_later hC8 I1.out)
      have cJ0 := fun d os => cell_later (below_regrown w8 d os) (cell_later hC8 J0.out)
      have cJ1 := fun d os => cell_later (below_regrown w8 d os) (cell_later hC8 J1.out)
      (refine wp_region_quiet_below (by kernel_rfl) (by kernel_rfl) ?_; (repeat (refine wpQuiet_step (fun K hK => ?_); replace hK := Lib.hid hK; go_simp; first | (refine hK.out _ ?_; clear hK K) | (apply Exists.intro; refine ⟨fun _ => ?_, hK.out _ ?_⟩; ((go_at_call 35; exact Calls.regrown_of (On_yes px py xi yi xj yj _ VP.out VI.out VJ.out OO.out))); clear hK K))); refine wpQuiet_nil ?_)
      intro w9 hr9
      have hB9 := below_step hB8 (regrown_below hr9)
      have hC9 := below_step hC8 (regrown_below hr9)
      clear hr9 q1 q3 cI0 cI1 cJ0 cJ1
      have q2 := cellsL P2.out
      have q3 := cellsL P3.out
      cases o
      · go_wp2_with fail
        go_returns
        exact ⟨rfl, hC9⟩
      go_wp2_with fail
      (with_reducible refine (Near_yes px py a1 a2 a1 a2 a3 _ VP.out AO.out.1 AO.out.1 ⟨AO.out.2.1, AO.out.2.2.1⟩ (NR.out (by simp) (by simp) OO.out)).mono ?_)
      rintro e w10 ⟨rfl, hb10⟩
      have hB10 := below_step hB9 hb10
      have hC10 := below_step hB hB10
      clear hb10
      go_wp2_with fail
      go_returns
      exact ⟨rfl, hC10⟩
set_option maxRecDepth 100000 in
theorem reachHeard_lifted (os : Os) (started : os.Started) (H : Type) (enc : TypeId × Value → H) :
    ReturnsInHanded {} Try.checked os 10 .any (Rows.reachHeardSpec.pre6 enc Try.prog Try.f10 Rows.reachHeardRow.domain false) (Rows.reachHeardSpec.post enc Try.prog Try.f10 false true false false) := by
  refine returnsInHanded_of_change (C := Try.checked) own_knob started (by kernel_rfl) Try.func10
    (ChangeSpec.witness6 (enc := enc) (C := Try.checked) false ⟨#[], #[.agg #[.slice none 0 0, .slice none 0 0], .agg #[.int .i64 0, .int .i64 0, .int .i64 0, .int .i64 0], .int .i64 0, .int .i64 0, .agg #[.int .i64 0, .int .i64 0]], []⟩ 8 (by kernel_rfl) (by kernel_rfl) (by kernel_rfl) (by kernel_rfl)) ?_
  intro W base args ds gs before hval0 hW hcnd _
  have hval : ∀ (j : Nat) t v, Try.f10.params[j]? = some t → args[j]? = some v → Value.okWide Try.prog W .any base t v := hval0
  have hW' := hW
  obtain ⟨p, q, hA0, hV, rfl, hfz, hnd⟩ := hW
  have hA : DataW.TrodAll enc Try.prog W 0 (fun _ => true) true Try.f10.params.toList args.toList ds p := hA0
  rw [Try.params10] at hA hval
  obtain ⟨v0, vs0, d0, ds0, p0, q0, hargs, rfl, rfl, h0, r0⟩ := trodAll_cons hA
  obtain ⟨v1, vs1, d1, ds1, p1, q1, rfl, rfl, rfl, h1, r1⟩ := trodAll_cons r0
  obtain ⟨v2, vs2, d2, ds2, p2, q2, rfl, rfl, rfl, h2, r2⟩ := trodAll_cons r1
  obtain ⟨v3, vs3, d3, ds3, p3, q3, rfl, rfl, rfl, h3, r3⟩ := trodAll_cons r2
  obtain ⟨v4, vs4, d4, ds4, p4, q4, rfl, rfl, rfl, h4, r4⟩ := trodAll_cons r3
  obtain ⟨rfl, rfl, rfl⟩ := trodAll_nil r4
  obtain rfl : args = #[v0, v1, v2, v3, v4] := by cases args; simp_all
  obtain ⟨rfl, rfl⟩ := trodVars_none hV
  simp only [List.append_nil] at hW' hA0
  obtain ⟨_, _, _, _, _, _, _, _, e0, hnX, hnE⟩ := open_net (hval 0 25 v0 rfl rfl) h0
  subst e0
  obtain ⟨a0, a1, a2, a3, e1⟩ := open_air (hval 1 41 v1 rfl rfl) h1
  subst e1
  obtain ⟨f, e2, _, _, wf⟩ := open_int Try.underlying3 (hval 2 3 v2 rfl rfl) h2
  subst e2
  obtain ⟨g, e3, _, _, wg⟩ := open_int Try.underlying3 (hval 3 3 v3 rfl rfl) h3
  subst e3
  obtain ⟨px, py, e4, _, _⟩ := open_point (hval 4 39 v4 rfl rfl) h4
  subst e4
  refine (reachHeard_walk a0 a1 a2 a3 f g px py hnX hnE).mono fun e W' ⟨he, hg⟩ => ?_
  subst he
  exact ⟨_, rfl, post_law laid_out (by rw [Try.params10]; intro t ht; simp only [List.mem_cons, List.not_mem_nil, or_false] at ht; rcases ht with rfl | rfl | rfl | rfl | rfl <;> exact ⟨by kernel_rfl, of_decide_eq_true (by kernel_rfl)⟩) rfl hW' hA0 rfl rfl rfl rfl Try.underlying4 hg⟩
theorem reachHeard_over : Rows.reachHeardRow.holds Try.pinned (OpenSpec.ofChange Rows.reachHeardSpec) :=
  OpenClaim.holds_of_wide 10 Try.f10 rfl rfl rfl rfl rfl rfl rfl ⟨rfl, rfl, rfl, rfl, rfl⟩ rfl rfl rfl rfl rfl (by kernel_rfl) Try.func10 (by kernel_rfl)
    (of_decide_eq_true (by kernel_rfl)) (by unfold Func.isWrapper; first | (rw [if_pos (by decide +kernel)]; kernel_rfl) | (rw [if_neg (by decide +kernel)]; exact ⟨rfl, rfl⟩))
    (fun os started H enc _ => reachHeard_lifted os started H enc)
theorem reachHeard_holds : Rows.ReachHeardSaid :=
  reachHeard_over
#print axioms reachHeard_holds
end Go.Proofs.Ytcpnkhiillgffaa
