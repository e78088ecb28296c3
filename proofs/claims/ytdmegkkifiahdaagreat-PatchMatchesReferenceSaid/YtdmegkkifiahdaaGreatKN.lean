import Derived.Test.YtdmegkkifiahdaaGreatKRf
import Derived.Test.YtdmegkkifiahdaaGreatKW
import Derived.Test.YtdmegkkifiahdaaGreatKS2
import Derived.Test.YtdmegkkifiahdaaGreatKFt
import Derived.Test.YtdmegkkifiahdaaGreatShtPure
namespace Go.Proofs.YtdmegkkifiahdaaGreat
open Go.RowKit
attribute [local go_sem] bqOp bqAll bqUpon sqOp sqAll sqUpon
attribute [local irreducible] wpQuiet wpBQ wpPlan
set_option linter.unusedVariables false
theorem q01Valid_any (x y : Int) (w : World) {v : Bool} (hv : decide (Vld x y) = v) : Calls Tryz.prog 76 #[.agg #[.int .i64 x, .int .i64 y]] w fun e w' => e = .returned (.bool v) ∧ Below w.heap.size w w' := by
 cases v
 · exact rValid_no _ _ _ (of_decide_eq_false hv)
 · exact rValid_yes _ _ _ (of_decide_eq_true hv)
theorem q03Next_any (n c i : Nat) (ad : Option Addr) (X : Nat → Nat → Int) (w : World) (hR : Rows 2 w (.slice ad n c) n X) (hn : n ≤ 1000) (hi : i < n) :
  Calls Tryz.prog 277 #[.slice ad n c, .int .i64 i] w fun e w' => e = .returned (.agg #[.int .i64 (X (nxt n i) 0), .int .i64 (X (nxt n i) 1)]) ∧ Below w.heap.size w w' := by
 obtain ⟨k, hk⟩ : ∃ k, nxt n i = k := ⟨_, rfl⟩
 have hkl : k < n := by rw [← hk]; exact nxt_lt hi
 have he : ((i : Int) + 1) % (n : Int) = (k : Int) := by
  rw [← hk]
  unfold nxt
  norm_cast
 rw [hk]
 clear hk
 obtain ⟨g, o, rfl, hc⟩ := hR.row hkl
 have c0 := hc 0 (by omega)
 have c1 := hc 1 (by omega)
 simp only [Nat.add_zero] at c0
 clear hc hR
 have hz : (n : Int) ≠ 0 := by omega
 have hkn : (k : Int) < (n : Int) := by omega
 have c0' := cell_later ((Below.refl w.heap.size w).alloc (Nat.le_refl _) (.cells #[.int .i64 0, .int .i64 0] 28)) c0
 have c1' := cell_later ((Below.refl w.heap.size w).alloc (Nat.le_refl _) (.cells #[.int .i64 0, .int .i64 0] 28)) c1
 go_enter Tryz.func277, Tryz.ntmps277
 go_wp2
 exact bodyPost_ret (v := .agg #[.int .i64 (X k 0), .int .i64 (X k 1)]) (by simp [results, Tryz.results277, go_sem]) rfl ⟨rfl, (Below.refl _ _).alloc (Nat.le_refl _) _⟩
theorem q03less_any (ax ay bx by' : Int) (w : World) {v : Bool} (hv : decide (OrdLt ax ay bx by') = v) :
  Calls Tryz.prog 287 #[.agg #[.int .i64 ax, .int .i64 ay], .agg #[.int .i64 bx, .int .i64 by']] w fun e w' => e = .returned (.bool v) ∧ Below w.heap.size w w' := by
 have HV := Lib.hid hv
 clear hv
 rcases Int.lt_trichotomy ax bx with h | h | h
 · have d1 : decide (ax < bx) = true := decide_eq_true h
   have e : v = true := by rw [← HV.out]; exact decide_eq_true (.inl h)
   clear HV
   go_enter Tryz.func287, Tryz.ntmps287
   go_wp2_with fail
   go_returns
   exact ⟨ret_bool e.symm, by go_grown⟩
 · subst h
   have d1 : decide (ax < ax) = false := decide_eq_false (by omega)
   have d2 : (ax == ax) = true := by simp
   have e : v = decide (ay < by') := by rw [← HV.out, decide_eq_decide]; exact ⟨fun h => by rcases h with h | h <;> omega, fun h => .inr ⟨rfl, h⟩⟩
   clear HV
   go_enter Tryz.func287, Tryz.ntmps287
   go_wp2_with fail
   go_returns
   exact ⟨ret_bool e.symm, by go_grown⟩
 · have d1 : decide (ax < bx) = false := decide_eq_false (by omega)
   have d2 : (ax == bx) = false := by simp; omega
   have e : v = false := by rw [← HV.out]; exact decide_eq_false (fun h => by rcases h with h | h <;> omega)
   clear HV
   go_enter Tryz.func287, Tryz.ntmps287
   go_wp2_with fail
   go_returns
   exact ⟨ret_bool e.symm, by go_grown⟩
theorem q03turn_any (ax ay bx by' cx cy : Int) (w : World) (ha : Vld ax ay) (hb : Vld bx by') (hc : Vld cx cy) {s : Int} (hs : (crs ax ay bx by' cx cy).sign = s) :
  Calls Tryz.prog 288 #[.agg #[.int .i64 ax, .int .i64 ay], .agg #[.int .i64 bx, .int .i64 by'], .agg #[.int .i64 cx, .int .i64 cy]] w fun e w' => e = .returned (.int .i64 s) ∧ Below w.heap.size w w' := by
 obtain ⟨⟨m1, m2⟩, m3, m4⟩ := crs_bd ha hb hc
 obtain ⟨a1, a2, a3, a4⟩ := ha
 obtain ⟨b1, b2, b3, b4⟩ := hb
 obtain ⟨c1, c2, c3, c4⟩ := hc
 unfold crs at hs
 have HS := Lib.hid hs
 clear hs
 go_enter Tryz.func288, Tryz.ntmps288
 go_wp2_with fail
 refine wp_named fun W hW => ?_
 obtain ⟨p1, p2, p3, hB⟩ := box3 hW
 clear hW
 have q1 := cellsR p1
 have q2 := cellsR p2
 have q3 := cellsR p3
 clear p1 p2 p3
 (refine wp_region_quiet_below (by kernel_rfl) (by kernel_rfl) ?_; (repeat (refine wpQuiet_step (fun K hK => ?_); replace hK := Lib.hid hK; go_simp; first | (refine hK.out _ ?_; clear hK K) | (apply Exists.intro; refine ⟨fun _ => ?_, hK.out _ ?_⟩; (first | (go_at_call 365; exact Calls.regrown_of (rMinus_any _ _ _ _ _ (by omega) (by omega) (by omega) (by omega))) | (go_at_call 378; exact Calls.regrown_of (rCross_any _ _ _ _ _ (by omega) (by omega) (by omega) (by omega) (by omega) (by omega))) | (go_at_call 377; exact Calls.regrown_of (rSign_any _ _ HS.out))); clear hK K))); refine wpQuiet_nil ?_)
 intro W1 hW1
 have hB1 := regrown_below hW1
 clear hW1
 go_wp2_with fail
 go_returns
 exact ⟨rfl, below_step hB hB1⟩
theorem sumE_bd' {n : Nat} {X : Nat → Nat → Int} (hv : VldsX n X) {k : Nat} (hk : k ≤ n) (hn : n ≤ 24) : -48000000000000 ≤ twiceN n X k ∧ twiceN n X k ≤ 48000000000000 := by
 have := sumE_bd hv k hk
 omega
set_option maxHeartbeats 1000000 in
theorem q03twice_any (n c : Nat) (ad : Option Addr) (X : Nat → Nat → Int) (w : World) (hR : Rows 2 w (.slice ad n c) n X) (hn : n ≤ 24) (hv : VldsX n X) {v : Int} (hd : twiceN n X n = v) :
  Calls Tryz.prog 290 #[.slice ad n c] w fun e w' => e = .returned (.int .i64 v) ∧ Below w.heap.size w w' := by
 have HR := Lib.hid hR
 have HV := Lib.hid hv
 have HD := Lib.hid hd
 clear hR hv hd
 go_enter Tryz.func290, Tryz.ntmps290
 go_wp2_with fail
 go_loopw [3, 4] (fun s i wr => ∃ k : Nat, k ≤ n ∧ s = .int .i64 (twiceN n X k) ∧ i = .int .i64 k ∧ Below w.heap.size w wr) (fun _ i _ => n - (intOf i).toNat)
 case atStart => exact ⟨0, by omega, rfl, rfl, Below.refl _ _⟩
 case round =>
  obtain ⟨k, hk, rfl, rfl, hb⟩ := hrel
  rcases Nat.lt_or_ge k n with hlt | hge
  rotate_left
  · obtain rfl : k = n := by omega
    go_wp2_with fail
    go_returns
    exact ⟨ret_int HD.out, hb⟩
  obtain ⟨g, o, rfl, hc⟩ := (HR.out.later hb).row hlt
  have r0 := fun d os => cell_later (below_regrown wr d os) (hc 0 (by omega))
  have r1 := fun d os => cell_later (below_regrown wr d os) (hc 1 (by omega))
  simp only [Nat.add_zero] at r0
  clear hc
  have e1 : twiceN n X (k + 1) = twiceN n X k + (X k 0 * X (nxt n k) 1 - X k 1 * X (nxt n k) 0) := rfl
  obtain ⟨s1, s2⟩ := sumE_bd' HV.out hk hn
  obtain ⟨s3, s4⟩ := sumE_bd' HV.out (show k + 1 ≤ n from hlt) hn
  obtain ⟨⟨m1, m2⟩, m3, m4⟩ := termE_bd HV.out hlt
  rw [e1] at s3 s4
  have ES := Lib.hid e1
  have jw : IntKind.i64.wrap (twiceN n X k + (X k 0 * X (nxt n k) 1 - X k 1 * X (nxt n k) 0)) = twiceN n X k + (X k 0 * X (nxt n k) 1 - X k 1 * X (nxt n k) 0) := IntWalk.i64_in _ (by omega)
  clear e1
  go_wp2_with fail
  refine wp_region_plan (.take 0 (.take 0 (.take 0 (.take 0 (.take 0 (.take 0 (.take 0 (.only 0 (.only 0 (.take 0 (.take 0 .done))))))))))) (by kernel_rfl) (by kernel_rfl) (fun hP => ?_)
  repeat' (first
   | (refine wpPlan_two ?_ ?_)
   | (refine wpPlan_three ?_ ?_ ?_)
   | (refine wpPlan_take rfl (fun K hK => ?_); replace hK := Lib.hid hK; go_simp; first | (refine hK.out _ ?_; clear hK K) | (apply Exists.intro; refine ⟨fun _ => ?_, hK.out _ ?_⟩; (first | with_reducible exact rfl | skip); clear hK K))
   | (refine wpPlan_only rfl (fun K hK => ?_); replace hK := Lib.hid hK; (first | (go_simp; first | (go_at_call 277; (with_reducible refine (q03Next_any n c k _ X _ (HR.out.later (below_step hb hP)) (by omega) hlt).mono ?_); rintro e w2 ⟨rfl, hbx⟩) | (go_at_call 378; refine (rCross_any _ _ _ _ _ (by omega) (by omega) (by omega) (by omega) (by omega) (by omega)).mono ?_; rintro e w2 ⟨rfl, hbx⟩) | skip)); refine hK.out _ _ (by first | assumption | exact below_step hP hbx | exact hP.drew | exact hP.alloc hP.size _) (fun hP => ?_); clear hK K))
  all_goals refine wpPlan_done ?_
  have hB2 := below_step hb hP
  go_wp2_with fail
  go_roundw
  case rel => exact ⟨k + 1, by omega, by rw [ES.out], by go_num, hB2⟩
  case measure => simp [intOf]; omega
set_option maxHeartbeats 2000000 in
theorem q03simple_any (n c : Nat) (ad : Option Addr) (X : Nat → Nat → Int) (w : World) (hR : Rows 2 w (.slice ad n c) n X) (hn : n ≤ 24) (hv : VldsX n X) {v : Bool} (hd : decide (∀ i, i < n → ∀ k, k < n → i + 2 ≤ k → (0 < i ∨ k + 1 < n) → meetX n X i k = false) = v) :
  Calls Tryz.prog 289 #[.slice ad n c] w fun e w' => e = .returned (.bool v) ∧ Below w.heap.size w w' := by
 have HR := Lib.hid hR
 have HV := Lib.hid hv
 have HD := Lib.hid hd
 clear hR hv hd
 go_enter Tryz.func289, Tryz.ntmps289
 go_wp2_with fail
 go_loopw [4] (fun i wr => ∃ k : Nat, k ≤ n ∧ i = .int .i64 k ∧ Below w.heap.size w wr ∧ ∀ i, i < k → ∀ k, k < n → i + 2 ≤ k → (0 < i ∨ k + 1 < n) → meetX n X i k = false) (fun i _ => n - (intOf i).toNat)
 case atStart => exact ⟨0, by omega, rfl, Below.refl _ _, fun i hi => by omega⟩
 case round =>
  obtain ⟨i, hi, rfl, hb0, hall⟩ := hrel
  have ALL := Lib.hid hall
  clear hall
  rcases Nat.lt_or_ge i n with hlt | hge
  rotate_left
  · obtain rfl : i = n := by omega
    go_wp2_with fail
    go_returns
    exact ⟨ret_bool (by rw [← HD.out]; exact (decide_eq_true ALL.out).symm), hb0⟩
  go_wp2_with fail
  obtain ⟨WO, hWO⟩ : ∃ x, x = wr := ⟨_, rfl⟩
  subst hWO
  go_loopw [5] (fun k wr => ∃ j : Nat, (j = i + 2 ∨ i + 2 ≤ j ∧ j ≤ n) ∧ k = .int .i64 j ∧ Below w.heap.size w wr ∧ ∀ k, i + 2 ≤ k → k < j → (0 < i ∨ k + 1 < n) → meetX n X i k = false) (fun k _ => n - (intOf k).toNat)
  case atStart => exact ⟨i + 2, .inl rfl, by go_num, hb0, fun k h1 h2 => by omega⟩
  case round =>
   obtain ⟨j, hj, rfl, hb, hin⟩ := hrel
   have IN := Lib.hid hin
   clear hin hb0
   rcases Nat.lt_or_ge j n with jlt | jge
   rotate_left
   · go_wp2_with fail
     go_roundw
     case rel => exact ⟨i + 1, by omega, by go_num, hb, fun x hx => by
      rcases Nat.lt_or_ge x i with h | h
      · exact ALL.out x h
      · obtain rfl : x = i := by omega
        exact fun k h1 h2 h3 => IN.out k h2 (by omega) h3⟩
     case measure => simp [intOf]; omega
   obtain ⟨g, o, rfl, hc⟩ := (HR.out.later hb).row hlt
   have r0 := fun d os => cell_later (below_regrown wr d os) (hc 0 (by omega))
   have r1 := fun d os => cell_later (below_regrown wr d os) (hc 1 (by omega))
   obtain ⟨g', o', e9, hc'⟩ := (HR.out.later hb).row jlt
   cases e9
   have z0 := fun d os => cell_later (below_regrown wr d os) (hc' 0 (by omega))
   have z1 := fun d os => cell_later (below_regrown wr d os) (hc' 1 (by omega))
   simp only [Nat.add_zero] at r0 z0
   clear hc hc'
   have hv1 := HV.out i hlt
   have hv2 := HV.out _ (nxt_lt hlt)
   have hv3 := HV.out j jlt
   have hv4 := HV.out _ (nxt_lt jlt)
   have V1 := Lib.hid hv1
   have V2 := Lib.hid hv2
   have V3 := Lib.hid hv3
   have V4 := Lib.hid hv4
   clear hv1 hv2 hv3 hv4
   obtain ⟨u, hu⟩ : ∃ u, meetX n X i j = u := ⟨_, rfl⟩
   have HU : Hid (meetB (X i 0) (X i 1) (X (nxt n i) 0) (X (nxt n i) 1) (X j 0) (X j 1) (X (nxt n j) 0) (X (nxt n j) 1) = u) := Lib.hid hu
   clear hu
   obtain ⟨a, ha⟩ : ∃ a, decide (0 < i) = a := ⟨_, rfl⟩
   have ha2 : decide (0 < (i : Int)) = a := by rw [← ha, decide_eq_decide]; omega
   obtain ⟨b, hb'⟩ : ∃ b, decide ((j : Int) < (n : Int) - 1) = b := ⟨_, rfl⟩
   have jn : IntKind.i64.wrap ((n : Int) - 1) = (n : Int) - 1 := IntWalk.i64_in _ (by omega)
   have HA := Lib.hid ha
   have HB := Lib.hid hb'
   rcases a with _ | _ <;> rcases b with _ | _ <;> go_wp2_with fail
   · skip
     refine wp_region_plan (.take 0 (.take 0 (.take 0 (.take 0 (.take 0 (.take 0 (.take 0 (.take 0 (.take 0 (.take 0 (.take 0 (.take 0 (.take 0 (.take 0 (.take 0 (.take 1 (.take 1 (.take 1 (.take 1 (.take 1 (.take 1 (.only 0 (.only 0 (.only 0 (.take 0 .done))))))))))))))))))))))))) (by kernel_rfl) (by kernel_rfl) (fun hP => ?_)
     repeat' (first
      | (refine wpPlan_two ?_ ?_)
      | (refine wpPlan_three ?_ ?_ ?_)
      | (refine wpPlan_take rfl (fun K hK => ?_); replace hK := Lib.hid hK; go_simp; first | (refine hK.out _ ?_; clear hK K) | (apply Exists.intro; refine ⟨fun _ => ?_, hK.out _ ?_⟩; (first | with_reducible exact rfl | skip); clear hK K))
      | (refine wpPlan_only rfl (fun K hK => ?_); replace hK := Lib.hid hK; (first | (go_simp; first | (go_at_call 277; (with_reducible refine (q03Next_any n c i _ X _ (HR.out.later (below_step hb hP)) (by omega) hlt).mono ?_); rintro e w2 ⟨rfl, hbx⟩) | (go_at_call 277; (with_reducible refine (q03Next_any n c j _ X _ (HR.out.later (below_step hb hP)) (by omega) jlt).mono ?_); rintro e w2 ⟨rfl, hbx⟩) | (go_at_call 379; (with_reducible refine (rCrosses_any _ _ _ _ _ _ _ _ _ V1.out V2.out V3.out V4.out HU.out).mono ?_); rintro e w2 ⟨rfl, hbx⟩) | skip)); refine hK.out _ _ (by first | assumption | exact below_step hP hbx | exact hP.drew | exact hP.alloc hP.size _) (fun hP => ?_); clear hK K))
     all_goals refine wpPlan_done ?_
     have hB2 := below_step hb hP
     go_wp2_with fail
     go_roundw
     case rel => exact ⟨j + 1, .inr (by omega), by go_num, hB2, fun k h1 h2 h3 => by
      rcases Nat.lt_or_ge k j with h | h
      · exact IN.out k h1 h h3
      · obtain rfl : k = j := by omega
        exact absurd h3 (by have h5 := of_decide_eq_false HA.out; have h6 := of_decide_eq_false HB.out; omega)⟩
     case measure => simp [intOf]; omega
   · skip
     refine wp_region_plan (.take 0 (.take 0 (.take 0 (.take 0 (.take 0 (.take 0 (.take 0 (.take 0 (.take 0 (.take 0 (.take 0 (.take 0 (.take 0 (.take 0 (.take 0 (.take 1 (.take 1 (.take 1 (.take 1 (.take 1 (.take 1 (.only 0 (.only 0 (.only 0 (.take 0 .done))))))))))))))))))))))))) (by kernel_rfl) (by kernel_rfl) (fun hP => ?_)
     repeat' (first
      | (refine wpPlan_two ?_ ?_)
      | (refine wpPlan_three ?_ ?_ ?_)
      | (refine wpPlan_take rfl (fun K hK => ?_); replace hK := Lib.hid hK; go_simp; first | (refine hK.out _ ?_; clear hK K) | (apply Exists.intro; refine ⟨fun _ => ?_, hK.out _ ?_⟩; (first | with_reducible exact rfl | skip); clear hK K))
      | (refine wpPlan_only rfl (fun K hK => ?_); replace hK := Lib.hid hK; (first | (go_simp; first | (go_at_call 277; (with_reducible refine (q03Next_any n c i _ X _ (HR.out.later (below_step hb hP)) (by omega) hlt).mono ?_); rintro e w2 ⟨rfl, hbx⟩) | (go_at_call 277; (with_reducible refine (q03Next_any n c j _ X _ (HR.out.later (below_step hb hP)) (by omega) jlt).mono ?_); rintro e w2 ⟨rfl, hbx⟩) | (go_at_call 379; (with_reducible refine (rCrosses_any _ _ _ _ _ _ _ _ _ V1.out V2.out V3.out V4.out HU.out).mono ?_); rintro e w2 ⟨rfl, hbx⟩) | skip)); refine hK.out _ _ (by first | assumption | exact below_step hP hbx | exact hP.drew | exact hP.alloc hP.size _) (fun hP => ?_); clear hK K))
     all_goals refine wpPlan_done ?_
     have hB2 := below_step hb hP
     cases u
     · go_wp2_with fail
       go_roundw
       case rel => exact ⟨j + 1, .inr (by omega), by go_num, hB2, fun k h1 h2 h3 => by
        rcases Nat.lt_or_ge k j with h | h
        · exact IN.out k h1 h h3
        · obtain rfl : k = j := by omega
          exact HU.out⟩
       case measure => simp [intOf]; omega
     · go_wp2_with fail
       go_returns
       exact ⟨ret_bool (by rw [← HD.out]; exact (decide_eq_false (fun h => by have h7 := h i hlt j jlt (by omega) (.inr (by have := of_decide_eq_true HB.out; omega)); have h8 : meetX n X i j = true := HU.out; rw [h7] at h8; cases h8)).symm), hB2⟩
   · skip
     refine wp_region_plan (.take 0 (.take 0 (.take 0 (.take 0 (.take 0 (.take 0 (.take 0 (.take 0 (.take 0 (.take 0 (.take 0 (.take 0 (.take 0 (.take 0 (.take 0 (.take 1 (.take 1 (.take 1 (.take 1 (.take 1 (.take 1 (.only 0 (.only 0 (.only 0 (.take 0 .done))))))))))))))))))))))))) (by kernel_rfl) (by kernel_rfl) (fun hP => ?_)
     repeat' (first
      | (refine wpPlan_two ?_ ?_)
      | (refine wpPlan_three ?_ ?_ ?_)
      | (refine wpPlan_take rfl (fun K hK => ?_); replace hK := Lib.hid hK; go_simp; first | (refine hK.out _ ?_; clear hK K) | (apply Exists.intro; refine ⟨fun _ => ?_, hK.out _ ?_⟩; (first | with_reducible exact rfl | skip); clear hK K))
      | (refine wpPlan_only rfl (fun K hK => ?_); replace hK := Lib.hid hK; (first | (go_simp; first | (go_at_call 277; (with_reducible refine (q03Next_any n c i _ X _ (HR.out.later (below_step hb hP)) (by omega) hlt).mono ?_); rintro e w2 ⟨rfl, hbx⟩) | (go_at_call 277; (with_reducible refine (q03Next_any n c j _ X _ (HR.out.later (below_step hb hP)) (by omega) jlt).mono ?_); rintro e w2 ⟨rfl, hbx⟩) | (go_at_call 379; (with_reducible refine (rCrosses_any _ _ _ _ _ _ _ _ _ V1.out V2.out V3.out V4.out HU.out).mono ?_); rintro e w2 ⟨rfl, hbx⟩) | skip)); refine hK.out _ _ (by first | assumption | exact below_step hP hbx | exact hP.drew | exact hP.alloc hP.size _) (fun hP => ?_); clear hK K))
     all_goals refine wpPlan_done ?_
     have hB2 := below_step hb hP
     cases u
     · go_wp2_with fail
       go_roundw
       case rel => exact ⟨j + 1, .inr (by omega), by go_num, hB2, fun k h1 h2 h3 => by
        rcases Nat.lt_or_ge k j with h | h
        · exact IN.out k h1 h h3
        · obtain rfl : k = j := by omega
          exact HU.out⟩
       case measure => simp [intOf]; omega
     · go_wp2_with fail
       go_returns
       exact ⟨ret_bool (by rw [← HD.out]; exact (decide_eq_false (fun h => by have h7 := h i hlt j jlt (by omega) (.inl (by have := of_decide_eq_true HA.out; omega)); have h8 : meetX n X i j = true := HU.out; rw [h7] at h8; cases h8)).symm), hB2⟩
   · skip
     refine wp_region_plan (.take 0 (.take 0 (.take 0 (.take 0 (.take 0 (.take 0 (.take 0 (.take 0 (.take 0 (.take 0 (.take 0 (.take 0 (.take 0 (.take 0 (.take 0 (.take 1 (.take 1 (.take 1 (.take 1 (.take 1 (.take 1 (.only 0 (.only 0 (.only 0 (.take 0 .done))))))))))))))))))))))))) (by kernel_rfl) (by kernel_rfl) (fun hP => ?_)
     repeat' (first
      | (refine wpPlan_two ?_ ?_)
      | (refine wpPlan_three ?_ ?_ ?_)
      | (refine wpPlan_take rfl (fun K hK => ?_); replace hK := Lib.hid hK; go_simp; first | (refine hK.out _ ?_; clear hK K) | (apply Exists.intro; refine ⟨fun _ => ?_, hK.out _ ?_⟩; (first | with_reducible exact rfl | skip); clear hK K))
      | (refine wpPlan_only rfl (fun K hK => ?_); replace hK := Lib.hid hK; (first | (go_simp; first | (go_at_call 277; (with_reducible refine (q03Next_any n c i _ X _ (HR.out.later (below_step hb hP)) (by omega) hlt).mono ?_); rintro e w2 ⟨rfl, hbx⟩) | (go_at_call 277; (with_reducible refine (q03Next_any n c j _ X _ (HR.out.later (below_step hb hP)) (by omega) jlt).mono ?_); rintro e w2 ⟨rfl, hbx⟩) | (go_at_call 379; (with_reducible refine (rCrosses_any _ _ _ _ _ _ _ _ _ V1.out V2.out V3.out V4.out HU.out).mono ?_); rintro e w2 ⟨rfl, hbx⟩) | skip)); refine hK.out _ _ (by first | assumption | exact below_step hP hbx | exact hP.drew | exact hP.alloc hP.size _) (fun hP => ?_); clear hK K))
     all_goals refine wpPlan_done ?_
     have hB2 := below_step hb hP
     cases u
     · go_wp2_with fail
       go_roundw
       case rel => exact ⟨j + 1, .inr (by omega), by go_num, hB2, fun k h1 h2 h3 => by
        rcases Nat.lt_or_ge k j with h | h
        · exact IN.out k h1 h h3
        · obtain rfl : k = j := by omega
          exact HU.out⟩
       case measure => simp [intOf]; omega
     · go_wp2_with fail
       go_returns
       exact ⟨ret_bool (by rw [← HD.out]; exact (decide_eq_false (fun h => by have h7 := h i hlt j jlt (by omega) (.inl (by have := of_decide_eq_true HA.out; omega)); have h8 : meetX n X i j = true := HU.out; rw [h7] at h8; cases h8)).symm), hB2⟩
set_option maxHeartbeats 2000000 in
theorem q03Valid_any (n c : Nat) (ad : Option Addr) (X : Nat → Nat → Int) (w : World) (hR : Rows 2 w (.slice ad n c) n X) (hn : n ≤ 9223372036854775807) {v : Bool} (hd : decide (PolyOk n X) = v) :
  Calls Tryz.prog 192 #[.slice ad n c] w fun e w' => e = .returned (.bool v) ∧ Below w.heap.size w w' := by
 have HR := Lib.hid hR
 have HD := Lib.hid hd
 clear hR hd
 by_cases h3 : n < 3
 · have d3 : decide ((n : Int) < 3) = true := by simp; omega
   go_enter Tryz.func192, Tryz.ntmps192
   go_wp2_with fail
   go_returns
   exact ⟨ret_bool (by rw [← HD.out]; exact (decide_eq_false (fun h => by have := h.1; omega)).symm), Below.refl _ _⟩
 have d3 : decide ((n : Int) < 3) = false := by simp; omega
 by_cases h24 : 24 < n
 · have d24 : decide (24 < (n : Int)) = true := by simp; omega
   go_enter Tryz.func192, Tryz.ntmps192
   go_wp2_with fail
   go_returns
   exact ⟨ret_bool (by rw [← HD.out]; exact (decide_eq_false (fun h => by have := h.2.1; omega)).symm), Below.refl _ _⟩
 have d24 : decide (24 < (n : Int)) = false := by simp; omega
 have n3 : 3 ≤ n := by omega
 have n24 : n ≤ 24 := by omega
 clear h3 h24
 go_enter Tryz.func192, Tryz.ntmps192
 go_wp2_with fail
 clear d3 d24
 go_loopw [4] (fun i wr => ∃ k : Nat, k ≤ n ∧ i = .int .i64 k ∧ Below w.heap.size w wr ∧ ∀ i, i < k → Vld (X i 0) (X i 1) ∧ (0 < i → OrdLt (X 0 0) (X 0 1) (X i 0) (X i 1))) (fun i _ => n - (intOf i).toNat)
 case atStart => exact ⟨0, by omega, rfl, Below.refl _ _, fun i hi => by omega⟩
 case round =>
  obtain ⟨i, hi, rfl, hb, hall⟩ := hrel
  have ALL := Lib.hid hall
  clear hall
  rcases Nat.lt_or_ge i n with hlt | hge
  rotate_left
  · obtain rfl : i = n := by omega
    have HV : Hid (VldsX i X) := Lib.hid fun k hk => (ALL.out k hk).1
    go_wp2_with fail
    go_loopw [6] (fun x wr => ∃ k : Nat, k ≤ i ∧ x = .int .i64 k ∧ Below w.heap.size w wr ∧ ∀ m, m < k → turnX X m (nxt i m) ((m + 2) % i) ≠ 0) (fun x _ => i - (intOf x).toNat)
    case atStart => exact ⟨0, by omega, rfl, hb, fun m hm => by omega⟩
    case round =>
     obtain ⟨k, hk, rfl, hb, htu⟩ := hrel
     have TU := Lib.hid htu
     clear htu
     rcases Nat.lt_or_ge k i with klt | kge
     rotate_left
     · obtain rfl : k = i := by omega
       obtain ⟨u, hu⟩ : ∃ u, decide (∀ i, i < k → ∀ j, j < k → i + 2 ≤ j → (0 < i ∨ j + 1 < k) → meetX k X i j = false) = u := ⟨_, rfl⟩
       obtain ⟨t, ht⟩ : ∃ t, twiceN k X k = t := ⟨_, rfl⟩
       have HU := Lib.hid hu
       have HT := Lib.hid ht
       clear hu ht
       go_wp2_with fail
       (with_reducible refine (q03simple_any k c ad X _ (HR.out.later hb) n24 HV.out HU.out).mono ?_)
       rintro e w2 ⟨rfl, hb2⟩
       have hB2 := below_step hb hb2
       cases u
       · go_wp2_with fail
         go_returns
         exact ⟨ret_bool (by rw [← HD.out]; exact (decide_eq_false (fun h => of_decide_eq_false HU.out (poly_ref.1 h).2.2.2.1)).symm), hB2⟩
       go_wp2_with fail
       (with_reducible refine (q03twice_any k c ad X _ (HR.out.later hB2) n24 HV.out HT.out).mono ?_)
       rintro e w3 ⟨rfl, hb3⟩
       have hB3 := below_step hB2 hb3
       go_wp2_with fail
       go_returns
       exact ⟨ret_bool (by
        rw [← HD.out, decide_eq_decide, poly_ref, ← HT.out]
        exact ⟨fun h => ⟨⟨n3, n24⟩, ALL.out, TU.out, of_decide_eq_true HU.out, h⟩, fun h => h.2.2.2.2⟩), hB3⟩
     obtain ⟨p, hp⟩ : ∃ p, (k + 2) % i = p := ⟨_, rfl⟩
     have hpl : p < i := by rw [← hp]; exact Nat.mod_lt _ (by omega)
     have he : ((k : Int) + 2) % (i : Int) = (p : Int) := by
      rw [← hp]
      norm_cast
     have hz : (i : Int) ≠ 0 := by omega
     have hzn : i ≠ 0 := by omega
     have ht : ((k : Int) + 2).tmod (i : Int) = (p : Int) := by rw [Int.tmod_eq_emod_of_nonneg (by omega)]; exact he
     have jk : IntKind.i64.wrap ((k : Int) + 2) = (k : Int) + 2 := IntWalk.i64_in _ (by omega)
     have hpn : (p : Int) < (i : Int) := by omega
     obtain ⟨g, o, rfl, hc⟩ := (HR.out.later hb).row klt
     have r0 := fun d os => cell_later (below_regrown wr d os) (hc 0 (by omega))
     have r1 := fun d os => cell_later (below_regrown wr d os) (hc 1 (by omega))
     obtain ⟨g', o', e9, hc'⟩ := (HR.out.later hb).row hpl
     cases e9
     have z0 := fun d os => cell_later (below_regrown wr d os) (hc' 0 (by omega))
     have z1 := fun d os => cell_later (below_regrown wr d os) (hc' 1 (by omega))
     simp only [Nat.add_zero] at r0 z0
     clear hc hc'
     have hv1 := HV.out k klt
     have hv2 := HV.out _ (nxt_lt klt)
     have hv3 := HV.out _ hpl
     have V1 := Lib.hid hv1
     have V2 := Lib.hid hv2
     have V3 := Lib.hid hv3
     clear hv1 hv2 hv3
     obtain ⟨s, hs⟩ : ∃ s, (crs (X k 0) (X k 1) (X (nxt i k) 0) (X (nxt i k) 1) (X p 0) (X p 1)).sign = s := ⟨_, rfl⟩
     have HS := Lib.hid hs
     have TX : Hid (turnX X k (nxt i k) ((k + 2) % i) = s) := Lib.hid (by rw [hp]; exact hs)
     clear hs hp
     go_wp2_with fail
     refine wp_region_plan (.take 0 (.take 0 (.take 0 (.take 0 (.take 0 (.take 0 (.take 1 (.take 1 (.take 1 (.take 1 (.take 1 (.take 1 (.take 1 (.only 0 (.only 0 (.take 0 .done)))))))))))))))) (by kernel_rfl) (by kernel_rfl) (fun hP => ?_)
     repeat' (first
      | (refine wpPlan_two ?_ ?_)
      | (refine wpPlan_three ?_ ?_ ?_)
      | (refine wpPlan_take rfl (fun K hK => ?_); replace hK := Lib.hid hK; go_simp; first | (refine hK.out _ ?_; clear hK K) | (apply Exists.intro; refine ⟨fun _ => ?_, hK.out _ ?_⟩; (first | with_reducible exact rfl | skip); clear hK K))
      | (refine wpPlan_only rfl (fun K hK => ?_); replace hK := Lib.hid hK; (first | (go_simp; first | (go_at_call 277; (with_reducible refine (q03Next_any i c k _ X _ (HR.out.later (below_step hb hP)) (by omega) klt).mono ?_); rintro e w2 ⟨rfl, hbx⟩) | (go_at_call 288; (with_reducible refine (q03turn_any _ _ _ _ _ _ _ V1.out V2.out V3.out HS.out).mono ?_); rintro e w2 ⟨rfl, hbx⟩) | skip)); refine hK.out _ _ (by first | assumption | exact below_step hP hbx | exact hP.drew | exact hP.alloc hP.size _) (fun hP => ?_); clear hK K))
     all_goals refine wpPlan_done ?_
     have hB2 := below_step hb hP
     by_cases hs0 : s = 0
     · have ds : (s == 0) = true := by simp [hs0]
       have NO := Lib.hid (show ¬ PolyOk i X from fun h => (poly_ref.1 h).2.2.1 k klt (TX.out.trans hs0))
       clear hs0
       go_wp2_with fail
       go_returns
       exact ⟨ret_bool (by rw [← HD.out]; exact (decide_eq_false NO.out).symm), hB2⟩
     · have ds : (s == 0) = false := by simp [hs0]
       have OK := Lib.hid (show turnX X k (nxt i k) ((k + 2) % i) ≠ 0 from fun h => hs0 (TX.out.symm.trans h))
       clear hs0
       go_wp2_with fail
       go_roundw
       case rel => exact ⟨k + 1, by omega, by go_num, hB2, fun m hm => by
        rcases Nat.lt_or_ge m k with h | h
        · exact TU.out m h
        · obtain rfl : m = k := by omega
          exact OK.out⟩
       case measure => simp [intOf]; omega
  obtain ⟨g, o, rfl, hc⟩ := (HR.out.later hb).row hlt
  have c0 := hc 0 (by omega)
  have c1 := hc 1 (by omega)
  simp only [Nat.add_zero] at c0
  obtain ⟨v1, hv1⟩ : ∃ v, decide (Vld (X i 0) (X i 1)) = v := ⟨_, rfl⟩
  have HV1 := Lib.hid hv1
  clear hv1
  go_wp2_with fail
  (with_reducible refine (q01Valid_any _ _ _ HV1.out).mono ?_)
  rintro e w2 ⟨rfl, hb2⟩
  have hB2 := below_step hb hb2
  have r0 := fun d os => cell_later (below_step hb2 (below_regrown w2 d os)) c0
  have r1 := fun d os => cell_later (below_step hb2 (below_regrown w2 d os)) c1
  obtain ⟨g', o', e9, hc'⟩ := (HR.out.later hB2).row (show 0 < n by omega)
  cases e9
  have z0 := fun d os => cell_later (below_regrown w2 d os) (hc' 0 (by omega))
  have z1 := fun d os => cell_later (below_regrown w2 d os) (hc' 1 (by omega))
  simp only [Nat.add_zero, Nat.zero_mul] at z0 z1
  clear hc hc' c0 c1
  have dz : (0 : Int) < (n : Int) := by omega
  have dzn : 0 < n := by omega
  cases v1
  · go_wp2_with fail
    refine wp_region_plan (.take 0 (.take 0 (.take 0 (.take 0 (.take 0 (.take 0 (.take 0 (.take 0 (.take 0 (.take 0 (.take 0 (.take 0 (.take 0 (.only 0 (.take 0 (.take 0 (.take 0 .done))))))))))))))))) (by kernel_rfl) (by kernel_rfl) (fun hP => ?_)
    repeat' (first
     | (refine wpPlan_two ?_ ?_)
     | (refine wpPlan_three ?_ ?_ ?_)
     | (refine wpPlan_take rfl (fun K hK => ?_); replace hK := Lib.hid hK; go_simp; first | (refine hK.out _ ?_; clear hK K) | (apply Exists.intro; refine ⟨fun _ => ?_, hK.out _ ?_⟩; (first | with_reducible exact rfl | skip); clear hK K))
     | (refine wpPlan_only rfl (fun K hK => ?_); replace hK := Lib.hid hK; (first | (go_simp; first | skip)); refine hK.out _ _ (by first | assumption | exact below_step hP hbx | exact hP.drew | exact hP.alloc hP.size _) (fun hP => ?_); clear hK K))
    all_goals refine wpPlan_done ?_
    have hB3 := below_step hB2 hP
    go_wp2_with fail
    go_returns
    exact ⟨ret_bool (by rw [← HD.out]; exact (decide_eq_false (fun h => of_decide_eq_false HV1.out (h.2.2.1 i hlt))).symm), hB3⟩
  rcases Nat.lt_or_ge 0 i with i0 | i0
  rotate_left
  · have di : decide (0 < (i : Int)) = false := by simp; omega
    have din : decide (0 < i) = false := by simp; omega
    have di2 : (i : Int) ≤ 0 := by omega
    go_wp2_with fail
    refine wp_region_plan (.take 0 (.take 0 (.take 0 (.take 0 (.take 0 (.take 0 (.take 0 (.take 0 (.take 0 (.take 0 (.take 0 (.take 0 (.take 0 (.only 0 (.take 0 (.take 0 (.take 0 .done))))))))))))))))) (by kernel_rfl) (by kernel_rfl) (fun hP => ?_)
    repeat' (first
     | (refine wpPlan_two ?_ ?_)
     | (refine wpPlan_three ?_ ?_ ?_)
     | (refine wpPlan_take rfl (fun K hK => ?_); replace hK := Lib.hid hK; go_simp; first | (refine hK.out _ ?_; clear hK K) | (apply Exists.intro; refine ⟨fun _ => ?_, hK.out _ ?_⟩; (first | with_reducible exact rfl | skip); clear hK K))
     | (refine wpPlan_only rfl (fun K hK => ?_); replace hK := Lib.hid hK; (first | (go_simp; first | skip)); refine hK.out _ _ (by first | assumption | exact below_step hP hbx | exact hP.drew | exact hP.alloc hP.size _) (fun hP => ?_); clear hK K))
    all_goals refine wpPlan_done ?_
    have hB3 := below_step hB2 hP
    go_wp2_with fail
    go_roundw
    case rel => exact ⟨i + 1, by omega, by go_num, hB3, fun m hm => ⟨by
     rcases Nat.lt_or_ge m i with h | h
     · exact (ALL.out m h).1
     · obtain rfl : m = i := by omega
       exact of_decide_eq_true HV1.out, fun h => by omega⟩⟩
    case measure => simp [intOf]; omega
  have di : decide (0 < (i : Int)) = true := by simp; omega
  have din : decide (0 < i) = true := by simp; omega
  have di2 : 0 < (i : Int) := by omega
  obtain ⟨lo, hlo⟩ : ∃ v, decide (OrdLt (X 0 0) (X 0 1) (X i 0) (X i 1)) = v := ⟨_, rfl⟩
  have HO := Lib.hid hlo
  clear hlo
  cases lo
  · go_wp2_with fail
    refine wp_region_plan (.take 0 (.take 0 (.take 0 (.take 0 (.take 0 (.take 0 (.take 0 (.take 0 (.take 0 (.take 0 (.take 0 (.take 0 (.take 0 (.only 0 (.take 0 (.take 0 (.take 0 .done))))))))))))))))) (by kernel_rfl) (by kernel_rfl) (fun hP => ?_)
    repeat' (first
     | (refine wpPlan_two ?_ ?_)
     | (refine wpPlan_three ?_ ?_ ?_)
     | (refine wpPlan_take rfl (fun K hK => ?_); replace hK := Lib.hid hK; go_simp; first | (refine hK.out _ ?_; clear hK K) | (apply Exists.intro; refine ⟨fun _ => ?_, hK.out _ ?_⟩; (first | with_reducible exact rfl | skip); clear hK K))
     | (refine wpPlan_only rfl (fun K hK => ?_); replace hK := Lib.hid hK; (first | (go_simp; first | (go_at_call 287; (with_reducible refine (q03less_any _ _ _ _ _ HO.out).mono ?_); rintro e w3 ⟨rfl, hbx⟩) | skip)); refine hK.out _ _ (by first | assumption | exact below_step hP hbx | exact hP.drew | exact hP.alloc hP.size _) (fun hP => ?_); clear hK K))
    all_goals refine wpPlan_done ?_
    have hB3 := below_step hB2 hP
    go_wp2_with fail
    go_returns
    exact ⟨ret_bool (by rw [← HD.out]; exact (decide_eq_false (fun h => of_decide_eq_false HO.out ((h.2.2.2.1 i hlt).1 i0))).symm), hB3⟩
  go_wp2_with fail
  refine wp_region_plan (.take 0 (.take 0 (.take 0 (.take 0 (.take 0 (.take 0 (.take 0 (.take 0 (.take 0 (.take 0 (.take 0 (.take 0 (.take 0 (.only 0 (.take 0 (.take 0 (.take 0 .done))))))))))))))))) (by kernel_rfl) (by kernel_rfl) (fun hP => ?_)
  repeat' (first
   | (refine wpPlan_two ?_ ?_)
   | (refine wpPlan_three ?_ ?_ ?_)
   | (refine wpPlan_take rfl (fun K hK => ?_); replace hK := Lib.hid hK; go_simp; first | (refine hK.out _ ?_; clear hK K) | (apply Exists.intro; refine ⟨fun _ => ?_, hK.out _ ?_⟩; (first | with_reducible exact rfl | skip); clear hK K))
   | (refine wpPlan_only rfl (fun K hK => ?_); replace hK := Lib.hid hK; (first | (go_simp; first | (go_at_call 287; (with_reducible refine (q03less_any _ _ _ _ _ HO.out).mono ?_); rintro e w3 ⟨rfl, hbx⟩) | skip)); refine hK.out _ _ (by first | assumption | exact below_step hP hbx | exact hP.drew | exact hP.alloc hP.size _) (fun hP => ?_); clear hK K))
  all_goals refine wpPlan_done ?_
  have hB3 := below_step hB2 hP
  go_wp2_with fail
  go_roundw
  case rel => exact ⟨i + 1, by omega, by go_num, hB3, fun m hm => by
   rcases Nat.lt_or_ge m i with h | h
   · exact ALL.out m h
   · obtain rfl : m = i := by omega
     exact ⟨of_decide_eq_true HV1.out, fun _ => of_decide_eq_true HO.out⟩⟩
  case measure => simp [intOf]; omega
end Go.Proofs.YtdmegkkifiahdaaGreat
namespace Go.Proofs.YtdmegkkifiahdaaGreat
open Go.RowKit
attribute [local go_sem] bqOp bqAll bqUpon sqOp sqAll sqUpon
attribute [local irreducible] wpQuiet wpBQ wpPlan
set_option linter.unusedVariables false
theorem q05Direction_any (x y : Int) (w : World) {v : Bool} (hv : decide (DirOk x y) = v) : Calls Tryz.prog 373 #[.agg #[.int .i64 x, .int .i64 y]] w fun e w' => e = .returned (.bool v) ∧ Below w.heap.size w w' := by
 have HV := Lib.hid hv
 clear hv
 go_enter Tryz.func373, Tryz.ntmps373
 go_wp2
 all_goals
  go_returns
  exact ⟨ret_bool (by rw [← HV.out]; (refine Bool.eq_iff_iff.2 ?_; simp only [decide_eq_true_eq, Bool.false_eq_true, true_iff, false_iff, bne_iff_ne]; (try unfold DirOk); omega)), by go_grown⟩
theorem q05cross_any (x y u v : Int) (w : World) (h : DirOk x y) (k : DirOk u v) {c : Int} (hc : cprD x y u v = c) : Calls Tryz.prog 381 #[.agg #[.int .i64 x, .int .i64 y], .agg #[.int .i64 u, .int .i64 v]] w fun e w' => e = .returned (.int .i64 c) ∧ Below w.heap.size w w' := by
 obtain ⟨⟨a1, a2⟩, a3, a4⟩ := dir_bd h k
 have HC := Lib.hid (show x * v - y * u = c from hc)
 clear h k hc
 go_enter Tryz.func381, Tryz.ntmps381
 go_wp2
 go_returns
 exact ⟨ret_int HC.out, by go_grown⟩
theorem dir_bd2 {x y u v : Int} (h : DirOk x y) (k : DirOk u v) : (-1000000000000 ≤ x * u ∧ x * u ≤ 1000000000000) ∧ (-1000000000000 ≤ y * v ∧ y * v ≤ 1000000000000) := by
 obtain ⟨_, a1, a2, a3, a4⟩ := h
 obtain ⟨_, b1, b2, b3, b4⟩ := k
 exact ⟨mul_bd a3 a1 b3 b1, mul_bd a4 a2 b4 b2⟩
theorem q05Alike_any (x y u v : Int) (w : World) (h : DirOk x y) (k : DirOk u v) {c : Bool} (hc : alikeD x y u v = c) : Calls Tryz.prog 380 #[.agg #[.int .i64 x, .int .i64 y], .agg #[.int .i64 u, .int .i64 v]] w fun e w' => e = .returned (.bool c) ∧ Below w.heap.size w w' := by
 obtain ⟨⟨a1, a2⟩, a3, a4⟩ := dir_bd2 h k
 obtain ⟨cr, hcr⟩ : ∃ b, cprD x y u v = b := ⟨_, rfl⟩
 have HC : Hid (decide (cr = 0 ∧ 0 < x * u + y * v) = c) := Lib.hid (by rw [← hc, ← hcr]; rfl)
 have CR := Lib.hid hcr
 have H := Lib.hid h
 have K := Lib.hid k
 clear h k hc hcr
 go_enter Tryz.func380, Tryz.ntmps380
 go_wp2_with fail
 refine calls_named fun W hW => ?_
 obtain ⟨p1, p2, hB⟩ := box2 hW
 clear hW
 (with_reducible refine (q05cross_any _ _ _ _ _ H.out K.out CR.out).mono ?_)
 rintro e w1 ⟨rfl, hb1⟩
 have q1 := cell_block (block_later hb1 p1)
 have q2 := cell_block (block_later hb1 p2)
 have hB1 := below_step hB hb1
 clear p1 p2 hb1 hB
 by_cases hz : cr = 0
 · have d : (cr == 0) = true := by simpa using hz
   have Z := Lib.hid hz
   clear hz
   go_wp2_with fail
   go_returns
   exact ⟨ret_bool (by rw [← HC.out, decide_eq_decide]; exact ⟨fun h => ⟨Z.out, h⟩, fun h => h.2⟩), hB1⟩
 · have d : (cr == 0) = false := by simpa using hz
   have Z := Lib.hid hz
   clear hz
   go_wp2_with fail
   go_returns
   exact ⟨ret_bool (by rw [← HC.out]; exact (decide_eq_false fun h => Z.out h.1).symm), hB1⟩
set_option maxHeartbeats 1000000 in
theorem q05has_any (a b c d x y : Int) (w : World) (h1 : DirOk a b) (h2 : DirOk c d) (h3 : DirOk x y) {v : Bool} (hv : hasQ a b c d x y = v) : Calls Tryz.prog 292 #[.agg #[.int .i64 a, .int .i64 b], .agg #[.int .i64 c, .int .i64 d], .agg #[.int .i64 x, .int .i64 y]] w fun e w' => e = .returned (.bool v) ∧ Below w.heap.size w w' := by
 obtain ⟨u1, hu1⟩ : ∃ z, alikeD a b c d = z := ⟨_, rfl⟩
 obtain ⟨u2, hu2⟩ : ∃ z, alikeD a b x y = z := ⟨_, rfl⟩
 obtain ⟨u3, hu3⟩ : ∃ z, alikeD c d x y = z := ⟨_, rfl⟩
 obtain ⟨r1, hr1⟩ : ∃ z, cprD a b x y = z := ⟨_, rfl⟩
 obtain ⟨r2, hr2⟩ : ∃ z, cprD x y c d = z := ⟨_, rfl⟩
 obtain ⟨r3, hr3⟩ : ∃ z, cprD a b c d = z := ⟨_, rfl⟩
 have HV : Hid ((if u1 = true ∨ u2 = true then true else if u3 = true then false else if 0 < r1 then decide (0 < r2 ∨ r3 ≤ 0) else decide (0 < r2 ∧ r3 < 0)) = v) := Lib.hid (by rw [← hv, ← hu1, ← hu2, ← hu3, ← hr1, ← hr2, ← hr3]; rfl)
 have U1 := Lib.hid hu1
 have U2 := Lib.hid hu2
 have U3 := Lib.hid hu3
 have R1 := Lib.hid hr1
 have R2 := Lib.hid hr2
 have R3 := Lib.hid hr3
 have A := Lib.hid h1
 have B := Lib.hid h2
 have C := Lib.hid h3
 clear h1 h2 h3 hv hu1 hu2 hu3 hr1 hr2 hr3
 go_enter Tryz.func292, Tryz.ntmps292
 go_wp2_with fail
 refine calls_named fun W hW => ?_
 obtain ⟨p1, p2, p3, hB⟩ := box3 hW
 clear hW
 (with_reducible refine (q05Alike_any _ _ _ _ _ A.out B.out U1.out).mono ?_)
 rintro e w1 ⟨rfl, hb1⟩
 have hB1 := below_step hB hb1
 have q1 := cell_block (block_later hb1 p1)
 have q2 := cell_block (block_later hb1 p2)
 have q3 := cell_block (block_later hb1 p3)
 cases u1
 rotate_left
 · go_wp2_with fail
   go_returns
   exact ⟨ret_bool (by rw [← HV.out]; rfl), hB1⟩
 go_wp2_with fail
 clear q1 q2 q3
 (with_reducible refine (q05Alike_any _ _ _ _ _ A.out C.out U2.out).mono ?_)
 rintro e w2 ⟨rfl, hb2⟩
 have hB2 := below_step hB1 hb2
 have q1 := cell_block (block_later (below_step hb1 hb2) p1)
 have q2 := cell_block (block_later (below_step hb1 hb2) p2)
 have q3 := cell_block (block_later (below_step hb1 hb2) p3)
 cases u2
 rotate_left
 · go_wp2_with fail
   go_returns
   exact ⟨ret_bool (by rw [← HV.out]; rfl), hB2⟩
 go_wp2_with fail
 clear q1 q2 q3
 (with_reducible refine (q05Alike_any _ _ _ _ _ B.out C.out U3.out).mono ?_)
 rintro e w3 ⟨rfl, hb3⟩
 have hB3 := below_step hB2 hb3
 have q1 := cell_block (block_later (below_step (below_step hb1 hb2) hb3) p1)
 have q2 := cell_block (block_later (below_step (below_step hb1 hb2) hb3) p2)
 have q3 := cell_block (block_later (below_step (below_step hb1 hb2) hb3) p3)
 cases u3
 rotate_left
 · go_wp2_with fail
   go_returns
   exact ⟨ret_bool (by rw [← HV.out]; rfl), hB3⟩
 go_wp2_with fail
 clear q1 q2 q3
 (with_reducible refine (q05cross_any _ _ _ _ _ A.out C.out R1.out).mono ?_)
 rintro e w4 ⟨rfl, hb4⟩
 have hB4 := below_step hB3 hb4
 have q1 := cell_block (block_later (below_step (below_step (below_step hb1 hb2) hb3) hb4) p1)
 have q2 := cell_block (block_later (below_step (below_step (below_step hb1 hb2) hb3) hb4) p2)
 have q3 := cell_block (block_later (below_step (below_step (below_step hb1 hb2) hb3) hb4) p3)
 have HW : Hid ((if 0 < r1 then decide (0 < r2 ∨ r3 ≤ 0) else decide (0 < r2 ∧ r3 < 0)) = v) := Lib.hid (by rw [← HV.out]; rfl)
 clear HV
 by_cases g1 : 0 < r1
 · have d1 : decide (0 < r1) = true := decide_eq_true g1
   have G1 := Lib.hid g1
   clear g1
   go_wp2_with fail
   clear q1 q2 q3
   (with_reducible refine (q05cross_any _ _ _ _ _ C.out B.out R2.out).mono ?_)
   rintro e w5 ⟨rfl, hb5⟩
   have hB5 := below_step hB4 hb5
   have q1 := cell_block (block_later (below_step (below_step (below_step (below_step hb1 hb2) hb3) hb4) hb5) p1)
   have q2 := cell_block (block_later (below_step (below_step (below_step (below_step hb1 hb2) hb3) hb4) hb5) p2)
   have q3 := cell_block (block_later (below_step (below_step (below_step (below_step hb1 hb2) hb3) hb4) hb5) p3)
   by_cases g2 : 0 < r2
   · have d2 : decide (0 < r2) = true := decide_eq_true g2
     have G2 := Lib.hid g2
     clear g2
     go_wp2_with fail
     go_returns
     exact ⟨ret_bool (by rw [← HW.out, if_pos G1.out]; exact (decide_eq_true (.inl G2.out)).symm), hB5⟩
   · have d2 : decide (0 < r2) = false := decide_eq_false g2
     have G2 := Lib.hid g2
     clear g2
     go_wp2_with fail
     clear q1 q2 q3
     (with_reducible refine (q05cross_any _ _ _ _ _ A.out B.out R3.out).mono ?_)
     rintro e w6 ⟨rfl, hb6⟩
     have hB6 := below_step hB5 hb6
     go_wp2_with fail
     go_returns
     exact ⟨ret_bool (by rw [← HW.out, if_pos G1.out, decide_eq_decide]; exact ⟨fun h => .inr h, fun h => h.resolve_left (Int.not_lt.2 G2.out)⟩), hB6⟩
 · have d1 : decide (0 < r1) = false := decide_eq_false g1
   have G1 := Lib.hid g1
   clear g1
   go_wp2_with fail
   clear q1 q2 q3
   (with_reducible refine (q05cross_any _ _ _ _ _ C.out B.out R2.out).mono ?_)
   rintro e w5 ⟨rfl, hb5⟩
   have hB5 := below_step hB4 hb5
   have q1 := cell_block (block_later (below_step (below_step (below_step (below_step hb1 hb2) hb3) hb4) hb5) p1)
   have q2 := cell_block (block_later (below_step (below_step (below_step (below_step hb1 hb2) hb3) hb4) hb5) p2)
   have q3 := cell_block (block_later (below_step (below_step (below_step (below_step hb1 hb2) hb3) hb4) hb5) p3)
   by_cases g2 : 0 < r2
   · have d2 : decide (0 < r2) = true := decide_eq_true g2
     have G2 := Lib.hid g2
     clear g2
     go_wp2_with fail
     clear q1 q2 q3
     (with_reducible refine (q05cross_any _ _ _ _ _ A.out B.out R3.out).mono ?_)
     rintro e w6 ⟨rfl, hb6⟩
     have hB6 := below_step hB5 hb6
     go_wp2_with fail
     go_returns
     exact ⟨ret_bool (by rw [← HW.out, if_neg (Int.not_lt.2 G1.out), decide_eq_decide]; exact ⟨fun h => ⟨G2.out, h⟩, fun h => h.2⟩), hB6⟩
   · have d2 : decide (0 < r2) = false := decide_eq_false g2
     have G2 := Lib.hid g2
     clear g2
     go_wp2_with fail
     go_returns
     exact ⟨ret_bool (by rw [← HW.out, if_neg (Int.not_lt.2 G1.out)]; exact (decide_eq_false fun h => Int.not_lt.2 G2.out h.1).symm), hB5⟩
theorem q05valid_any (fx fy tx ty col rng : Int) (w : World) {v : Bool} (hv : decide (SecOk (Sec.c ⟨fx, fy, tx, ty, col, rng⟩)) = v) : Calls Tryz.prog 291 #[.agg #[.int .i64 fx, .int .i64 fy, .int .i64 tx, .int .i64 ty, .int .i64 col, .int .i64 rng]] w fun e w' => e = .returned (.bool v) ∧ Below w.heap.size w w' := by
 obtain ⟨u1, hu1⟩ : ∃ z, decide (DirOk fx fy) = z := ⟨_, rfl⟩
 obtain ⟨u2, hu2⟩ : ∃ z, decide (DirOk tx ty) = z := ⟨_, rfl⟩
 have HV : Hid (v = decide (u1 = true ∧ u2 = true ∧ 1 ≤ col ∧ col ≤ 3 ∧ 1 ≤ rng ∧ rng ≤ 3000000)) := Lib.hid (by
  rw [← hv, ← hu1, ← hu2, decide_eq_decide, decide_eq_true_iff, decide_eq_true_iff]
  exact Iff.rfl)
 have U1 := Lib.hid hu1
 have U2 := Lib.hid hu2
 clear hv hu1 hu2
 go_enter Tryz.func291, Tryz.ntmps291
 go_wp2_with fail
 refine calls_named fun W hW => ?_
 obtain ⟨p1, hB⟩ := box1 hW
 clear hW
 (with_reducible refine (q05Direction_any _ _ _ U1.out).mono ?_)
 rintro e w1 ⟨rfl, hb1⟩
 have hB1 := below_step hB hb1
 have q1 := cell_block (block_later hb1 p1)
 go_wp2_with fail
 clear q1
 (with_reducible refine (q05Direction_any _ _ _ U2.out).mono ?_)
 rintro e w2 ⟨rfl, hb2⟩
 have hB2 := below_step hB1 hb2
 have q1 := cell_block (block_later (below_step hb1 hb2) p1)
 clear hb1 hb2 p1 hB hB1
 cases u1
 · go_wp2_with fail
   go_returns
   exact ⟨ret_bool (by rw [HV.out]; exact (decide_eq_false fun h => nomatch h.1).symm), hB2⟩
 cases u2
 · go_wp2_with fail
   go_returns
   exact ⟨ret_bool (by rw [HV.out]; exact (decide_eq_false fun h => nomatch h.2.1).symm), hB2⟩
 have HW : Hid (v = decide (1 ≤ col ∧ col ≤ 3 ∧ 1 ≤ rng ∧ rng ≤ 3000000)) := Lib.hid (by
  rw [HV.out, decide_eq_decide]
  exact ⟨fun h => h.2.2, fun h => ⟨rfl, rfl, h⟩⟩)
 clear HV U1 U2
 go_wp2
 all_goals
  go_returns
  exact ⟨ret_bool (by rw [HW.out]; (refine Bool.eq_iff_iff.2 ?_; simp only [decide_eq_true_eq, Bool.false_eq_true, false_iff]; omega)), hB2⟩
set_option maxHeartbeats 4000000 in
theorem q05Valid_any (n c : Nat) (ad : Option Addr) (S : Nat → Nat → Int) (w : World) (hR : Rows 6 w (.slice ad n c) n S) (hn : n ≤ 9223372036854775807) {v : Bool} (hd : decide (SecsOk n S) = v) :
  Calls Tryz.prog 193 #[.slice ad n c] w fun e w' => e = .returned (.bool v) ∧ Below w.heap.size w w' := by
 have HR := Lib.hid hR
 have HD := Lib.hid hd
 clear hR hd
 by_cases h12 : 12 < n
 · have d12 : decide (12 < (n : Int)) = true := by simp; omega
   go_enter Tryz.func193, Tryz.ntmps193
   go_wp2_with fail
   go_returns
   exact ⟨ret_bool (by rw [← HD.out]; exact (decide_eq_false (fun h => by have := h.1; omega)).symm), Below.refl _ _⟩
 have d12 : decide (12 < (n : Int)) = false := by simp; omega
 have n12 : n ≤ 12 := by omega
 clear h12
 go_enter Tryz.func193, Tryz.ntmps193
 go_wp2_with fail
 clear d12
 go_loopw [3] (fun i wr => ∃ k : Nat, k ≤ n ∧ i = .int .i64 k ∧ Below w.heap.size w wr ∧ ∀ i, i < k → SecOk (S i) ∧ ∀ j, j < i → SecsApart (S i) (S j)) (fun i _ => n - (intOf i).toNat)
 case atStart => exact ⟨0, by omega, rfl, Below.refl _ _, fun m hm => by omega⟩
 case round =>
  obtain ⟨k, hk, rfl, hb, hall⟩ := hrel
  have ALL := Lib.hid hall
  clear hall
  rcases Nat.lt_or_ge k n with hlt | hge
  rotate_left
  · obtain rfl : k = n := by omega
    go_wp2_with fail
    go_returns
    exact ⟨ret_bool (by rw [← HD.out]; exact (decide_eq_true ⟨n12, ALL.out⟩).symm), hb⟩
  obtain ⟨g, o, rfl, hc⟩ := (HR.out.later hb).row hlt
  have c0 := hc 0 (by omega)
  have c1 := hc 1 (by omega)
  have c2 := hc 2 (by omega)
  have c3 := hc 3 (by omega)
  have c4 := hc 4 (by omega)
  have c5 := hc 5 (by omega)
  simp only [Nat.add_zero] at c0
  clear hc
  obtain ⟨u, hu⟩ : ∃ u, decide (SecOk (Sec.c ⟨S k 0, S k 1, S k 2, S k 3, S k 4, S k 5⟩)) = u := ⟨_, rfl⟩
  have HU := Lib.hid hu
  clear hu
  go_wp2_with fail
  (with_reducible refine (q05valid_any _ _ _ _ _ _ _ HU.out).mono ?_)
  rintro e w1 ⟨rfl, hb1⟩
  have hB1 := below_step hb hb1
  clear c0 c1 c2 c3 c4 c5 hb1
  cases u
  · go_wp2_with fail
    go_returns
    exact ⟨ret_bool (by rw [← HD.out]; exact (decide_eq_false (fun h => of_decide_eq_false HU.out (h.2 k hlt).1)).symm), hB1⟩
  have OKk := Lib.hid (show SecOk (S k) from of_decide_eq_true HU.out)
  clear HU
  go_wp2_with fail
  go_loopw [5] (fun i wr => ∃ m : Nat, m ≤ k ∧ i = .int .i64 m ∧ Below w.heap.size w wr ∧ ∀ j, j < m → SecsApart (S k) (S j)) (fun i _ => k - (intOf i).toNat)
  case atStart => exact ⟨0, by omega, rfl, hB1, fun m hm => by omega⟩
  case round =>
   clear hB1 hb
   obtain ⟨m, hm, rfl, hb, hap⟩ := hrel
   have AP := Lib.hid hap
   clear hap
   rcases Nat.lt_or_ge m k with hlm | hgm
   rotate_left
   · obtain rfl : m = k := by omega
     go_wp2_with fail
     go_roundw
     case rel => exact ⟨m + 1, by omega, by go_num, hb, fun i hi => by
      rcases Nat.lt_or_ge i m with h | h
      · exact ALL.out i h
      · obtain rfl : i = m := by omega
        exact ⟨OKk.out, AP.out⟩⟩
     case measure => simp [intOf]; omega
   have hmn : m < n := by omega
   obtain ⟨g', o', e', hc⟩ := (HR.out.later hb).row hlt
   cases e'
   have r0 := fun d os => cell_later (below_regrown wr d os) (hc 0 (by omega))
   have r1 := fun d os => cell_later (below_regrown wr d os) (hc 1 (by omega))
   have r2 := fun d os => cell_later (below_regrown wr d os) (hc 2 (by omega))
   have r3 := fun d os => cell_later (below_regrown wr d os) (hc 3 (by omega))
   obtain ⟨g', o', e', hc'⟩ := (HR.out.later hb).row hmn
   cases e'
   have z0 := fun d os => cell_later (below_regrown wr d os) (hc' 0 (by omega))
   have z1 := fun d os => cell_later (below_regrown wr d os) (hc' 1 (by omega))
   have z2 := fun d os => cell_later (below_regrown wr d os) (hc' 2 (by omega))
   have z3 := fun d os => cell_later (below_regrown wr d os) (hc' 3 (by omega))
   simp only [Nat.add_zero] at r0 z0
   clear hc hc'
   have hkm := (ALL.out m hlm).1
   have DM := Lib.hid hkm.1
   have DK := Lib.hid OKk.out.1
   have DM2 := Lib.hid hkm.2.1
   have DK2 := Lib.hid OKk.out.2.1
   clear hkm
   obtain ⟨u1, hu1⟩ : ∃ u, hasQ (S k 0) (S k 1) (S k 2) (S k 3) (S m 0) (S m 1) = u := ⟨_, rfl⟩
   obtain ⟨u2, hu2⟩ : ∃ u, hasQ (S m 0) (S m 1) (S m 2) (S m 3) (S k 0) (S k 1) = u := ⟨_, rfl⟩
   have U1 := Lib.hid hu1
   have U2 := Lib.hid hu2
   have AD : Hid (SecsApart (S k) (S m) ↔ u1 = false ∧ u2 = false) := Lib.hid (by
    unfold SecsApart
    rw [← has_eq DK.out DK2.out DM.out, ← has_eq DM.out DM2.out DK.out, hu1, hu2])
   clear hu1 hu2
   cases u1
   rotate_left
   · go_wp2_with fail
     refine wp_region_plan (.take 0 (.take 0 (.take 0 (.take 0 (.take 0 (.take 0 (.take 0 (.take 0 (.take 0 (.take 0 (.take 0 (.take 0 (.take 0 (.take 0 (.take 0 (.only 0 (.take 0 (.take 0 (.take 0 (.take 0 (.take 0 (.take 0 (.take 0 (.take 0 (.take 0 (.take 0 (.take 0 (.take 0 (.take 0 (.take 0 (.take 0 (.take 0 (.only 0 (.take 0 .done)))))))))))))))))))))))))))))))))) (by kernel_rfl) (by kernel_rfl) (fun hP => ?_)
     repeat' (first
      | (refine wpPlan_two ?_ ?_)
      | (refine wpPlan_three ?_ ?_ ?_)
      | (refine wpPlan_take rfl (fun K hK => ?_); replace hK := Lib.hid hK; go_simp; first | (refine hK.out _ ?_; clear hK K) | (apply Exists.intro; refine ⟨fun _ => ?_, hK.out _ ?_⟩; (first | with_reducible exact rfl | skip); clear hK K))
      | (refine wpPlan_only rfl (fun K hK => ?_); replace hK := Lib.hid hK; (first | (go_simp; first | (go_at_call 292; (with_reducible refine (q05has_any _ _ _ _ _ _ _ DK.out DK2.out DM.out U1.out).mono ?_); rintro e w2 ⟨rfl, hbx⟩) | (go_at_call 292; (with_reducible refine (q05has_any _ _ _ _ _ _ _ DM.out DM2.out DK.out U2.out).mono ?_); rintro e w2 ⟨rfl, hbx⟩) | skip)); refine hK.out _ _ (by first | assumption | exact below_step hP hbx | exact hP.drew | exact hP.alloc hP.size _) (fun hP => ?_); clear hK K))
     all_goals refine wpPlan_done ?_
     have hB2 := below_step hb hP
     go_wp2_with fail
     go_returns
     exact ⟨ret_bool (by rw [← HD.out]; exact (decide_eq_false (fun h => nomatch (AD.out.1 ((h.2 k hlt).2 m hlm)).1)).symm), hB2⟩
   go_wp2_with fail
   refine wp_region_plan (.take 0 (.take 0 (.take 0 (.take 0 (.take 0 (.take 0 (.take 0 (.take 0 (.take 0 (.take 0 (.take 0 (.take 0 (.take 0 (.take 0 (.take 0 (.only 0 (.take 0 (.take 0 (.take 0 (.take 0 (.take 0 (.take 0 (.take 0 (.take 0 (.take 0 (.take 0 (.take 0 (.take 0 (.take 0 (.take 0 (.take 0 (.take 0 (.only 0 (.take 0 .done)))))))))))))))))))))))))))))))))) (by kernel_rfl) (by kernel_rfl) (fun hP => ?_)
   repeat' (first
    | (refine wpPlan_two ?_ ?_)
    | (refine wpPlan_three ?_ ?_ ?_)
    | (refine wpPlan_take rfl (fun K hK => ?_); replace hK := Lib.hid hK; go_simp; first | (refine hK.out _ ?_; clear hK K) | (apply Exists.intro; refine ⟨fun _ => ?_, hK.out _ ?_⟩; (first | with_reducible exact rfl | skip); clear hK K))
    | (refine wpPlan_only rfl (fun K hK => ?_); replace hK := Lib.hid hK; (first | (go_simp; first | (go_at_call 292; (with_reducible refine (q05has_any _ _ _ _ _ _ _ DK.out DK2.out DM.out U1.out).mono ?_); rintro e w2 ⟨rfl, hbx⟩) | (go_at_call 292; (with_reducible refine (q05has_any _ _ _ _ _ _ _ DM.out DM2.out DK.out U2.out).mono ?_); rintro e w2 ⟨rfl, hbx⟩) | skip)); refine hK.out _ _ (by first | assumption | exact below_step hP hbx | exact hP.drew | exact hP.alloc hP.size _) (fun hP => ?_); clear hK K))
   all_goals refine wpPlan_done ?_
   have hB2 := below_step hb hP
   cases u2
   rotate_left
   · go_wp2_with fail
     go_returns
     exact ⟨ret_bool (by rw [← HD.out]; exact (decide_eq_false (fun h => nomatch (AD.out.1 ((h.2 k hlt).2 m hlm)).2)).symm), hB2⟩
   go_wp2_with fail
   go_roundw
   case rel => exact ⟨m + 1, by omega, by go_num, hB2, fun j hj => by
    rcases Nat.lt_or_ge j m with h | h
    · exact AP.out j h
    · obtain rfl : j = m := by omega
      exact AD.out.2 (by simp)⟩
   case measure => simp [intOf]; omega
end Go.Proofs.YtdmegkkifiahdaaGreat
namespace Go.Proofs.YtdmegkkifiahdaaGreat
open Go.RowKit
attribute [local go_sem] bqOp bqAll bqUpon sqOp sqAll sqUpon
attribute [local irreducible] wpQuiet wpBQ wpPlan
set_option linter.unusedVariables false
theorem q07Disc_any (k : Int) (w : World) {v : Bool} (hv : decide (DiscK k) = v) : Calls Tryz.prog 191 #[.int .i64 k] w fun e w' => e = .returned (.bool v) ∧ Below w.heap.size w w' := by
 have HV := Lib.hid hv
 clear hv
 by_cases g0 : k = 1
 · subst g0
   go_enter Tryz.func191, Tryz.ntmps191
   go_wp2_with fail
   go_returns
   exact ⟨ret_bool (by rw [← HV.out]; rfl), by go_grown⟩
 have d0 : (k == 1) = false := by simpa using g0
 by_cases g1 : k = 2
 · subst g1
   go_enter Tryz.func191, Tryz.ntmps191
   go_wp2_with fail
   go_returns
   exact ⟨ret_bool (by rw [← HV.out]; rfl), by go_grown⟩
 have d1 : (k == 2) = false := by simpa using g1
 by_cases g2 : k = 5
 · subst g2
   go_enter Tryz.func191, Tryz.ntmps191
   go_wp2_with fail
   go_returns
   exact ⟨ret_bool (by rw [← HV.out]; rfl), by go_grown⟩
 have d2 : (k == 5) = false := by simpa using g2
 have HF : Hid (v = false) := Lib.hid (by rw [← HV.out]; exact decide_eq_false (by unfold DiscK; omega))
 clear HV g0 g1 g2
 go_enter Tryz.func191, Tryz.ntmps191
 go_wp2_with fail
 go_returns
 exact ⟨ret_bool HF.out.symm, by go_grown⟩
theorem q07Polygon_any (k : Int) (w : World) {v : Bool} (hv : decide (k = 3 ∨ k = 6) = v) : Calls Tryz.prog 179 #[.int .i64 k] w fun e w' => e = .returned (.bool v) ∧ Below w.heap.size w w' := by
 have HV := Lib.hid hv
 clear hv
 by_cases g0 : k = 3
 · subst g0
   go_enter Tryz.func179, Tryz.ntmps179
   go_wp2_with fail
   go_returns
   exact ⟨ret_bool (by rw [← HV.out]; rfl), by go_grown⟩
 have d0 : (k == 3) = false := by simpa using g0
 by_cases g1 : k = 6
 · subst g1
   go_enter Tryz.func179, Tryz.ntmps179
   go_wp2_with fail
   go_returns
   exact ⟨ret_bool (by rw [← HV.out]; rfl), by go_grown⟩
 have d1 : (k == 6) = false := by simpa using g1
 have HF : Hid (v = false) := Lib.hid (by rw [← HV.out]; exact decide_eq_false (by omega))
 clear HV g0 g1
 go_enter Tryz.func179, Tryz.ntmps179
 go_wp2_with fail
 go_returns
 exact ⟨ret_bool HF.out.symm, by go_grown⟩
theorem q07Room_any (x n : Int) (w : World) (h1 : -1000000 ≤ x) (h2 : x ≤ 1000000) (h3 : 0 ≤ n) (h4 : n ≤ 100000) {v : Bool} (hv : decide (-1000000 ≤ x - n ∧ x + n ≤ 1000000) = v) : Calls Tryz.prog 77 #[.int .i64 x, .int .i64 n] w fun e w' => e = .returned (.bool v) ∧ Below w.heap.size w w' := by
 have HV := Lib.hid hv
 clear hv
 by_cases g : -1000000 ≤ x - n
 · have d : decide (-1000000 ≤ x - n) = true := decide_eq_true g
   go_enter Tryz.func77, Tryz.ntmps77
   go_wp2_with fail
   go_returns
   exact ⟨ret_bool (by rw [← HV.out, decide_eq_decide]; exact ⟨fun h => ⟨g, h⟩, fun h => h.2⟩), by go_grown⟩
 · have d : decide (-1000000 ≤ x - n) = false := decide_eq_false g
   go_enter Tryz.func77, Tryz.ntmps77
   go_wp2_with fail
   go_returns
   exact ⟨ret_bool (by rw [← HV.out]; exact (decide_eq_false fun h => by have := h.1; omega).symm), by go_grown⟩
set_option maxHeartbeats 8000000 in
theorem q07Valid_raw (id kind x y rad dep sym : Int) (na ca ns cs : Nat) (ad1 ad2 : Option Addr) (A S : Nat → Nat → Int) (w : World)
  (hA : Rows 2 w (.slice ad1 na ca) na A) (hS : Rows 6 w (.slice ad2 ns cs) ns S) (hna : na ≤ 9223372036854775807) (hns : ns ≤ 9223372036854775807)
  {v : Bool} (hv : decide (NumsR id rad dep sym ∧ FormR kind x y rad dep na A ns S) = v) :
  Calls Tryz.prog 75 #[.agg #[.int .i64 id, .int .i64 kind, .int .i64 x, .int .i64 y, .int .i64 rad, .slice ad1 na ca, .int .i64 dep, .int .i64 sym, .slice ad2 ns cs]] w fun e w' => e = .returned (.bool v) ∧ Below w.heap.size w w' := by
 have HV := Lib.hid hv
 have HA := Lib.hid hA
 have HS := Lib.hid hS
 clear hv hA hS
 by_cases g0 : id < 1
 · have d0 : decide (id < 1) = true := decide_eq_true g0
   go_enter Tryz.func75, Tryz.ntmps75
   go_wp2_with fail
   go_returns
   exact ⟨ret_bool (by rw [← HV.out]; exact (decide_eq_false (fun h => by have := h.1.1.1; omega)).symm), by go_grown⟩
 have d0 : decide (id < 1) = false := decide_eq_false g0
 by_cases g1 : 100000 < id
 · have d1 : decide (100000 < id) = true := decide_eq_true g1
   go_enter Tryz.func75, Tryz.ntmps75
   go_wp2_with fail
   go_returns
   exact ⟨ret_bool (by rw [← HV.out]; exact (decide_eq_false (fun h => by have := h.1.1.2; omega)).symm), by go_grown⟩
 have d1 : decide (100000 < id) = false := decide_eq_false g1
 by_cases g2 : sym < 0
 · have d2 : decide (sym < 0) = true := decide_eq_true g2
   go_enter Tryz.func75, Tryz.ntmps75
   go_wp2_with fail
   go_returns
   exact ⟨ret_bool (by rw [← HV.out]; exact (decide_eq_false (fun h => by have := h.1.2.1.1; omega)).symm), by go_grown⟩
 have d2 : decide (sym < 0) = false := decide_eq_false g2
 by_cases g3 : 999 < sym
 · have d3 : decide (999 < sym) = true := decide_eq_true g3
   go_enter Tryz.func75, Tryz.ntmps75
   go_wp2_with fail
   go_returns
   exact ⟨ret_bool (by rw [← HV.out]; exact (decide_eq_false (fun h => by have := h.1.2.1.2; omega)).symm), by go_grown⟩
 have d3 : decide (999 < sym) = false := decide_eq_false g3
 by_cases g4 : dep < 0
 · have d4 : decide (dep < 0) = true := decide_eq_true g4
   go_enter Tryz.func75, Tryz.ntmps75
   go_wp2_with fail
   go_returns
   exact ⟨ret_bool (by rw [← HV.out]; exact (decide_eq_false (fun h => by have := h.1.2.2.1.1; omega)).symm), by go_grown⟩
 have d4 : decide (dep < 0) = false := decide_eq_false g4
 by_cases g5 : 100000 < dep
 · have d5 : decide (100000 < dep) = true := decide_eq_true g5
   go_enter Tryz.func75, Tryz.ntmps75
   go_wp2_with fail
   go_returns
   exact ⟨ret_bool (by rw [← HV.out]; exact (decide_eq_false (fun h => by have := h.1.2.2.1.2; omega)).symm), by go_grown⟩
 have d5 : decide (100000 < dep) = false := decide_eq_false g5
 by_cases g6 : rad < 0
 · have d6 : decide (rad < 0) = true := decide_eq_true g6
   go_enter Tryz.func75, Tryz.ntmps75
   go_wp2_with fail
   go_returns
   exact ⟨ret_bool (by rw [← HV.out]; exact (decide_eq_false (fun h => by have := h.1.2.2.2.1; omega)).symm), by go_grown⟩
 have d6 : decide (rad < 0) = false := decide_eq_false g6
 by_cases g7 : 100000 < rad
 · have d7 : decide (100000 < rad) = true := decide_eq_true g7
   go_enter Tryz.func75, Tryz.ntmps75
   go_wp2_with fail
   go_returns
   exact ⟨ret_bool (by rw [← HV.out]; exact (decide_eq_false (fun h => by have := h.1.2.2.2.2; omega)).symm), by go_grown⟩
 have d7 : decide (100000 < rad) = false := decide_eq_false g7
 have N : Hid (NumsR id rad dep sym) := Lib.hid ⟨⟨by omega, by omega⟩, ⟨by omega, by omega⟩, ⟨by omega, by omega⟩, by omega, by omega⟩
 have hr0 : 0 ≤ rad := by omega
 have hr1 : rad ≤ 100000 := by omega
 have hd0 : 0 ≤ dep := by omega
 clear g0 g1 g2 g3 g4 g5 g6 g7
 obtain ⟨u1, hu1⟩ : ∃ z, decide (DiscK kind) = z := ⟨_, rfl⟩
 obtain ⟨u2, hu2⟩ : ∃ z, decide (kind = 3 ∨ kind = 6) = z := ⟨_, rfl⟩
 obtain ⟨v1, hv1⟩ : ∃ z, decide (Vld x y) = z := ⟨_, rfl⟩
 have U1 := Lib.hid hu1
 have U2 := Lib.hid hu2
 have V1 := Lib.hid hv1
 clear hu1 hu2 hv1
 go_enter Tryz.func75, Tryz.ntmps75
 go_wp2_with fail
 refine calls_named fun W hW => ?_
 obtain ⟨p1, hB⟩ := box1 hW
 clear hW d0 d1 d2 d3 d4 d5 d6 d7
 (with_reducible refine (q07Disc_any _ _ U1.out).mono ?_)
 rintro e w1 ⟨rfl, hb1⟩
 have hB1 := below_step hB hb1
 have p2 := block_later hb1 p1
 clear p1 hb1 hB
 have q1 := cell_block p2
 cases u1
 rotate_left
 · have HW : Hid (v = decide (v1 = true ∧ RoomOk x y rad ∧ na = 0 ∧ ns = 0)) := Lib.hid (by
    rw [← HV.out, decide_eq_decide]
    unfold FormR
    rw [if_pos (of_decide_eq_true U1.out), ← V1.out, decide_eq_true_iff]
    exact ⟨fun h => h.2, fun h => ⟨N.out, h⟩⟩)
   clear HV U1 U2
   go_wp2_with fail
   clear q1
   (with_reducible refine (q01Valid_any _ _ _ V1.out).mono ?_)
   rintro e w2 ⟨rfl, hb2⟩
   have hB2 := below_step hB1 hb2
   have p3 := block_later hb2 p2
   have q1 := cell_block p3
   clear p2 hb2 hB1
   cases v1
   · go_wp2_with fail
     go_returns
     exact ⟨ret_bool (by rw [HW.out]; exact (decide_eq_false fun h => nomatch h.1).symm), hB2⟩
   have VX := Lib.hid (of_decide_eq_true V1.out)
   clear V1
   obtain ⟨r1, hr1'⟩ : ∃ z, decide (-1000000 ≤ x - rad ∧ x + rad ≤ 1000000) = z := ⟨_, rfl⟩
   obtain ⟨r2, hr2'⟩ : ∃ z, decide (-1000000 ≤ y - rad ∧ y + rad ≤ 1000000) = z := ⟨_, rfl⟩
   have R1 := Lib.hid hr1'
   have R2 := Lib.hid hr2'
   have HR : Hid (RoomOk x y rad ↔ r1 = true ∧ r2 = true) := Lib.hid (by
    obtain ⟨a1, a2, a3, a4⟩ := VX.out
    rw [← hr1', ← hr2', decide_eq_true_iff, decide_eq_true_iff]
    unfold RoomOk
    exact ⟨fun ⟨⟨b1, b2, b3, b4⟩, b5, b6, b7, b8⟩ => ⟨⟨b1, b6⟩, b3, b8⟩, fun ⟨⟨b1, b2⟩, b3, b4⟩ => ⟨⟨b1, by omega, b3, by omega⟩, by omega, b2, by omega, b4⟩⟩)
   clear hr1' hr2'
   go_wp2_with fail
   clear q1
   (with_reducible refine (q07Room_any _ _ _ VX.out.x1 VX.out.x2 hr0 hr1 R1.out).mono ?_)
   rintro e w3 ⟨rfl, hb3⟩
   have hB3 := below_step hB2 hb3
   have p4 := block_later hb3 p3
   have q1 := cell_block p4
   clear p3 hb3 hB2
   cases r1
   · go_wp2_with fail
     go_returns
     exact ⟨ret_bool (by rw [HW.out]; exact (decide_eq_false fun h => nomatch (HR.out.1 h.2.1).1).symm), hB3⟩
   go_wp2_with fail
   clear q1
   (with_reducible refine (q07Room_any _ _ _ VX.out.y1 VX.out.y2 hr0 hr1 R2.out).mono ?_)
   rintro e w4 ⟨rfl, hb4⟩
   have hB4 := below_step hB3 hb4
   have p5 := block_later hb4 p4
   have q1 := cell_block p5
   clear p4 hb4 hB3
   cases r2
   · go_wp2_with fail
     go_returns
     exact ⟨ret_bool (by rw [HW.out]; exact (decide_eq_false fun h => nomatch (HR.out.1 h.2.1).2).symm), hB4⟩
   by_cases k1 : na = 0
   rotate_left
   · have d1 : ((na : Int) == 0) = false := by simpa using k1
     have d2 : (na == 0) = false := by simpa using k1
     go_wp2_with fail
     go_returns
     exact ⟨ret_bool (by rw [HW.out]; exact (decide_eq_false fun h => k1 h.2.2.1).symm), hB4⟩
   subst k1
   by_cases k2 : ns = 0
   rotate_left
   · have d1 : ((ns : Int) == 0) = false := by simpa using k2
     have d2 : (ns == 0) = false := by simpa using k2
     go_wp2_with fail
     go_returns
     exact ⟨ret_bool (by rw [HW.out]; exact (decide_eq_false fun h => k2 h.2.2.2).symm), hB4⟩
   subst k2
   go_wp2_with fail
   go_returns
   exact ⟨ret_bool (by rw [HW.out]; exact (decide_eq_true ⟨by simp, HR.out.2 (by simp), by simp, by simp⟩).symm), hB4⟩
 have ND := Lib.hid (of_decide_eq_false U1.out)
 clear U1
 go_wp2_with fail
 clear q1
 (with_reducible refine (q07Polygon_any _ _ U2.out).mono ?_)
 rintro e w2 ⟨rfl, hb2⟩
 have hB2 := below_step hB1 hb2
 have p3 := block_later hb2 p2
 have q1 := cell_block p3
 clear p2 hb2 hB1
 cases u2
 rotate_left
 · obtain ⟨pv, hpv⟩ : ∃ z, decide (PolyOk na A) = z := ⟨_, rfl⟩
   have PV := Lib.hid hpv
   have HW : Hid (v = decide (pv = true ∧ x = 0 ∧ y = 0 ∧ rad = 0 ∧ ns = 0 ∧ (kind = 3 ∨ dep = 0))) := Lib.hid (by
    have h36 := of_decide_eq_true U2.out
    rw [← HV.out, decide_eq_decide, ← hpv, decide_eq_true_iff]
    unfold FormR
    rw [if_neg ND.out]
    by_cases hk : kind = 3 ∨ kind = 6 ∧ dep ≤ 0
    · rw [if_pos hk]
      exact ⟨fun ⟨_, h1, h2, h3, h4, h5⟩ => ⟨h1, h2, h3, h4, h5, by omega⟩, fun ⟨h1, h2, h3, h4, h5, _⟩ => ⟨N.out, h1, h2, h3, h4, h5⟩⟩
    · rw [if_neg hk]
      exact ⟨fun ⟨_, h, _⟩ => absurd h (by omega), fun ⟨_, _, _, _, _, h⟩ => absurd h (by omega)⟩)
   clear HV U2 hpv
   go_wp2_with fail
   clear q1
   (with_reducible refine (q03Valid_any _ _ _ _ _ (HA.out.later hB2) hna PV.out).mono ?_)
   rintro e w3 ⟨rfl, hb3⟩
   have hB3 := below_step hB2 hb3
   have p4 := block_later hb3 p3
   have q1 := cell_block p4
   clear p3 hb3 hB2
   cases pv
   · go_wp2_with fail
     go_returns
     exact ⟨ret_bool (by rw [HW.out]; exact (decide_eq_false fun h => nomatch h.1).symm), hB3⟩
   by_cases k1 : x = 0
   rotate_left
   · have d1 : (x == 0) = false := by simpa using k1
     have d2 : (x != 0) = true := by simpa using k1
     go_wp2_with fail
     go_returns
     exact ⟨ret_bool (by rw [HW.out]; exact (decide_eq_false fun h => k1 h.2.1).symm), hB3⟩
   subst k1
   by_cases k1 : y = 0
   rotate_left
   · have d1 : (y == 0) = false := by simpa using k1
     have d2 : (y != 0) = true := by simpa using k1
     go_wp2_with fail
     go_returns
     exact ⟨ret_bool (by rw [HW.out]; exact (decide_eq_false fun h => k1 h.2.2.1).symm), hB3⟩
   subst k1
   by_cases k1 : rad = 0
   rotate_left
   · have d1 : (rad == 0) = false := by simpa using k1
     have d2 : (rad != 0) = true := by simpa using k1
     go_wp2_with fail
     go_returns
     exact ⟨ret_bool (by rw [HW.out]; exact (decide_eq_false fun h => k1 h.2.2.2.1).symm), hB3⟩
   subst k1
   by_cases k1 : ns = 0
   rotate_left
   · have d1 : ((ns : Int) == 0) = false := by simpa using k1
     have d2 : (ns == 0) = false := by simpa using k1
     go_wp2_with fail
     go_returns
     exact ⟨ret_bool (by rw [HW.out]; exact (decide_eq_false fun h => k1 h.2.2.2.2.1).symm), hB3⟩
   subst k1
   by_cases k3 : kind = 3
   · subst k3
     go_wp2_with fail
     go_returns
     exact ⟨ret_bool (by rw [HW.out]; exact (decide_eq_true ⟨by simp, by simp, by simp, by simp, by simp, by simp⟩).symm), hB3⟩
   have d3 : (kind == 3) = false := by simpa using k3
   go_wp2_with fail
   go_returns
   exact ⟨ret_bool (by rw [HW.out]; refine Bool.eq_iff_iff.2 ?_; simp only [beq_iff_eq, decide_eq_true_eq]; exact ⟨fun h => ⟨by simp, by simp, by simp, by simp, by simp, .inr h⟩, fun h => h.2.2.2.2.2.resolve_left k3⟩), hB3⟩
 obtain ⟨sv, hsv⟩ : ∃ z, decide (SecsOk ns S) = z := ⟨_, rfl⟩
 have SV := Lib.hid hsv
 have HW : Hid (v = decide (kind = 4 ∧ v1 = true ∧ sv = true ∧ rad = 0 ∧ dep = 0 ∧ na = 0)) := Lib.hid (by
  have h36 := of_decide_eq_false U2.out
  rw [← HV.out, decide_eq_decide, ← hsv, ← V1.out, decide_eq_true_iff, decide_eq_true_iff]
  unfold FormR
  rw [if_neg ND.out, if_neg (fun h => h36 (by omega))]
  exact ⟨fun h => h.2, fun h => ⟨N.out, h⟩⟩)
 clear HV U2 hsv
 by_cases k4 : kind = 4
 rotate_left
 · have d4 : (kind == 4) = false := by simpa using k4
   go_wp2_with fail
   go_returns
   exact ⟨ret_bool (by rw [HW.out]; exact (decide_eq_false fun h => k4 h.1).symm), hB2⟩
 subst k4
 go_wp2_with fail
 clear q1
 (with_reducible refine (q01Valid_any _ _ _ V1.out).mono ?_)
 rintro e w3 ⟨rfl, hb3⟩
 have hB3 := below_step hB2 hb3
 have p4 := block_later hb3 p3
 have q1 := cell_block p4
 clear p3 hb3 hB2
 cases v1
 · go_wp2_with fail
   go_returns
   exact ⟨ret_bool (by rw [HW.out]; exact (decide_eq_false fun h => nomatch h.2.1).symm), hB3⟩
 go_wp2_with fail
 clear q1
 (with_reducible refine (q05Valid_any _ _ _ _ _ (HS.out.later hB3) hns SV.out).mono ?_)
 rintro e w4 ⟨rfl, hb4⟩
 have hB4 := below_step hB3 hb4
 have p5 := block_later hb4 p4
 have q1 := cell_block p5
 clear p4 hb4 hB3
 cases sv
 · go_wp2_with fail
   go_returns
   exact ⟨ret_bool (by rw [HW.out]; exact (decide_eq_false fun h => nomatch h.2.2.1).symm), hB4⟩
 by_cases k1 : rad = 0
 rotate_left
 · have d1 : (rad == 0) = false := by simpa using k1
   have d2 : (rad != 0) = true := by simpa using k1
   go_wp2_with fail
   go_returns
   exact ⟨ret_bool (by rw [HW.out]; exact (decide_eq_false fun h => k1 h.2.2.2.1).symm), hB4⟩
 subst k1
 by_cases k1 : dep = 0
 rotate_left
 · have d1 : (dep == 0) = false := by simpa using k1
   have d2 : (dep != 0) = true := by simpa using k1
   go_wp2_with fail
   go_returns
   exact ⟨ret_bool (by rw [HW.out]; exact (decide_eq_false fun h => k1 h.2.2.2.2.1).symm), hB4⟩
 subst k1
 by_cases k1 : na = 0
 rotate_left
 · have d1 : ((na : Int) == 0) = false := by simpa using k1
   have d2 : (na == 0) = false := by simpa using k1
   go_wp2_with fail
   go_returns
   exact ⟨ret_bool (by rw [HW.out]; exact (decide_eq_false fun h => k1 h.2.2.2.2.2).symm), hB4⟩
 subst k1
 go_wp2_with fail
 go_returns
 exact ⟨ret_bool (by rw [HW.out]; exact (decide_eq_true ⟨by simp, by simp, by simp, by simp, by simp, by simp⟩).symm), hB4⟩
theorem q07Valid_any (f : Feat) (va vs : Value) (w : World) (ha : PtsAt w va f.area) (hs : SecsAt w vs f.secs) {v : Bool} (hv : decide (FeatOk f) = v) :
  Calls Tryz.prog 75 #[featV f va vs] w fun e w' => e = .returned (.bool v) ∧ Below w.heap.size w w' := by
 obtain ⟨ad, ca, rfl, h1, h2, h3⟩ := Lists.form ha
 obtain ⟨ae, cs, rfl, g1, g2, g3⟩ := Lists.form hs
 exact q07Valid_raw _ _ _ _ _ _ _ _ _ _ _ _ _ _ _ w h1.rows g1.rows h2 g2 hv
set_option maxHeartbeats 4000000 in
theorem q07List_any (l : List Feat) (v0 : Value) (w : World) (h : FeatsAt w v0 l) {v : Bool} (hv : decide (FeatsOk l) = v) :
  Calls Tryz.prog 80 #[v0] w fun e w' => e = .returned (.bool v) ∧ Below w.heap.size w w' := by
 obtain ⟨ad, c, rfl, h1, hn, hc⟩ := h.form
 have HV := Lib.hid hv
 have H := Lib.hid h1
 clear hv h h1
 obtain ⟨n, hln⟩ : ∃ n, l.length = n := ⟨_, rfl⟩
 rw [hln] at H hn hc
 rw [hln]
 have HL := Lib.hid hln
 clear hln
 by_cases h300 : 300 < n
 · have d3 : decide (300 < (n : Int)) = true := by simp; omega
   go_enter Tryz.func80, Tryz.ntmps80
   go_wp2_with fail
   go_returns
   exact ⟨ret_bool (by rw [← HV.out]; exact (decide_eq_false (fun h => by have := h.1; rw [HL.out] at this; omega)).symm), Below.refl _ _⟩
 have d3 : decide (300 < (n : Int)) = false := by simp; omega
 have hn3 : n ≤ 300 := by omega
 clear h300
 go_enter Tryz.func80, Tryz.ntmps80
 go_wp2_with fail
 clear d3
 go_loopw [3] (fun i wr => ∃ k : Nat, k ≤ n ∧ i = .int .i64 k ∧ Below w.heap.size w wr ∧ feats_step l k) (fun i _ => n - (intOf i).toNat)
 case atStart => exact ⟨0, by omega, rfl, Below.refl _ _, fun m hm => by omega⟩
 case round =>
  obtain ⟨k, hk, rfl, hb, hall⟩ := hrel
  have ALL := Lib.hid hall
  clear hall
  rcases Nat.lt_or_ge k n with hlt | hge
  rotate_left
  · obtain rfl : k = n := by omega
    go_wp2_with fail
    go_returns
    exact ⟨ret_bool (by rw [← HV.out]; exact (decide_eq_true ⟨by rw [HL.out]; exact hn3, by rw [HL.out]; exact ALL.out⟩).symm), hb⟩
  obtain ⟨g, o, va, vs, rfl, fc⟩ := (H.out.later hb).row hlt
  obtain ⟨f, hf⟩ : ∃ f, l.getD k noFeat = f := ⟨_, rfl⟩
  rw [hf] at fc
  have HF := Lib.hid hf
  clear hf
  obtain ⟨c0, c1, c2, c3, c4, c5, c6, c7, c8, PA, SA⟩ := fc
  obtain ⟨aa, ca, rfl, _, _, _⟩ := Lists.form PA
  obtain ⟨ab, cb, rfl, _, _, _⟩ := Lists.form SA
  obtain ⟨u, hu⟩ : ∃ u, decide (FeatOk f) = u := ⟨_, rfl⟩
  have HU := Lib.hid hu
  have PA' := Lib.hid PA
  have SA' := Lib.hid SA
  clear hu PA SA
  have r0 := fun d os => cell_later (below_regrown wr d os) c0
  have r1 := fun d os => cell_later (below_regrown wr d os) c1
  have r2 := fun d os => cell_later (below_regrown wr d os) c2
  have r3 := fun d os => cell_later (below_regrown wr d os) c3
  have r4 := fun d os => cell_later (below_regrown wr d os) c4
  have r5 := fun d os => cell_later (below_regrown wr d os) c5
  have r6 := fun d os => cell_later (below_regrown wr d os) c6
  have r7 := fun d os => cell_later (below_regrown wr d os) c7
  have r8 := fun d os => cell_later (below_regrown wr d os) c8
  clear c0 c1 c2 c3 c4 c5 c6 c7 c8
  rcases Nat.eq_zero_or_pos k with hk0 | hk0
  · subst hk0
    simp only [Nat.zero_mul, Nat.add_zero] at r0 r1 r2 r3 r4 r5 r6 r7 r8
    cases u
    · go_wp2_with fail
      refine wp_region_plan (.take 0 (.take 0 (.take 0 (.take 0 (.only 0 (.take 0 (.take 0 (.take 0 (.take 0 (.take 0 (.take 0 (.take 0 (.take 0 (.take 0 (.take 0 (.take 0 (.take 0 (.take 0 (.take 0 (.take 0 (.take 0 (.take 0 (.take 0 (.take 0 .done)))))))))))))))))))))))) (by kernel_rfl) (by kernel_rfl) (fun hP => ?_)
      repeat' (first
       | (refine wpPlan_two ?_ ?_)
       | (refine wpPlan_three ?_ ?_ ?_)
       | (refine wpPlan_take rfl (fun K hK => ?_); replace hK := Lib.hid hK; go_simp; first | (refine hK.out _ ?_; clear hK K) | (apply Exists.intro; refine ⟨fun _ => ?_, hK.out _ ?_⟩; (first | with_reducible exact rfl | skip); clear hK K))
       | (refine wpPlan_only rfl (fun K hK => ?_); replace hK := Lib.hid hK; (first | (go_simp; first | (go_at_call 75; (with_reducible refine (q07Valid_any f _ _ _ (ptsL PA'.out hP) (secsL SA'.out hP) HU.out).mono ?_); rintro e w2 ⟨rfl, hbx⟩) | skip)); refine hK.out _ _ (by first | assumption | exact below_step hP hbx | exact hP.drew | exact hP.alloc hP.size _) (fun hP => ?_); clear hK K))
      all_goals refine wpPlan_done ?_
      have hB2 := below_step hb hP
      go_wp2_with fail
      go_returns
      exact ⟨ret_bool (by rw [← HV.out]; exact (decide_eq_false (fun h => by
       have := (h.2 0 (by have := HL.out; omega)).1
       rw [HF.out] at this
       exact of_decide_eq_false HU.out this)).symm), hB2⟩
    have ALL2 : Hid (feats_step l (0 + 1)) := Lib.hid (feats_snoc ALL.out (by rw [HF.out]; exact of_decide_eq_true HU.out) (by rw [HF.out]; exact (of_decide_eq_true HU.out).1.1.1))
    go_wp2_with fail
    refine wp_region_plan (.take 0 (.take 0 (.take 0 (.take 0 (.only 0 (.take 0 (.take 0 (.take 0 (.take 0 (.take 0 (.take 0 (.take 0 (.take 0 (.take 0 (.take 0 (.take 0 (.take 0 (.take 0 (.take 0 (.take 0 (.take 0 (.take 0 (.take 0 (.take 0 .done)))))))))))))))))))))))) (by kernel_rfl) (by kernel_rfl) (fun hP => ?_)
    repeat' (first
     | (refine wpPlan_two ?_ ?_)
     | (refine wpPlan_three ?_ ?_ ?_)
     | (refine wpPlan_take rfl (fun K hK => ?_); replace hK := Lib.hid hK; go_simp; first | (refine hK.out _ ?_; clear hK K) | (apply Exists.intro; refine ⟨fun _ => ?_, hK.out _ ?_⟩; (first | with_reducible exact rfl | skip); clear hK K))
     | (refine wpPlan_only rfl (fun K hK => ?_); replace hK := Lib.hid hK; (first | (go_simp; first | (go_at_call 75; (with_reducible refine (q07Valid_any f _ _ _ (ptsL PA'.out hP) (secsL SA'.out hP) HU.out).mono ?_); rintro e w2 ⟨rfl, hbx⟩) | skip)); refine hK.out _ _ (by first | assumption | exact below_step hP hbx | exact hP.drew | exact hP.alloc hP.size _) (fun hP => ?_); clear hK K))
    all_goals refine wpPlan_done ?_
    have hB2 := below_step hb hP
    go_wp2_with fail
    go_roundw
    case rel => exact ⟨0 + 1, by omega, by go_num, hB2, ALL2.out⟩
    case measure => simp [intOf]; omega
  obtain ⟨j, hj⟩ : ∃ j, k = j + 1 := ⟨k - 1, by omega⟩
  have HJ := Lib.hid hj
  obtain ⟨g', o', va', vs', e', fc'⟩ := (H.out.later hb).row (show j < n by omega)
  cases e'
  have z0 := fun d os => cell_later (below_regrown wr d os) fc'.1
  clear fc'
  obtain ⟨li, hli⟩ : ∃ i, (l.getD j noFeat).id = i := ⟨_, rfl⟩
  rw [hli] at z0
  have HLI : Hid (lastId l k = li) := Lib.hid (by rw [HJ.out]; exact hli)
  clear hli
  have ej : IntKind.i64.wrap ((k : Int) - 1) = (j : Int) := by
   rw [IntWalk.i64_in _ (by omega)]
   omega
  have hjn : (j : Int) < (n : Int) := by omega
  have hjn2 : j < n := by omega
  have dk : decide (0 < (k : Int)) = true := by simp; omega
  have dk2 : decide (0 < k) = true := by simp; omega
  clear hj
  cases u
  · go_wp2_with fail
    refine wp_region_plan (.take 0 (.take 0 (.take 0 (.take 0 (.only 0 (.take 0 (.take 0 (.take 0 (.take 0 (.take 0 (.take 0 (.take 0 (.take 0 (.take 0 (.take 0 (.take 0 (.take 0 (.take 0 (.take 0 (.take 0 (.take 0 (.take 0 (.take 0 (.take 0 .done)))))))))))))))))))))))) (by kernel_rfl) (by kernel_rfl) (fun hP => ?_)
    repeat' (first
     | (refine wpPlan_two ?_ ?_)
     | (refine wpPlan_three ?_ ?_ ?_)
     | (refine wpPlan_take rfl (fun K hK => ?_); replace hK := Lib.hid hK; go_simp; first | (refine hK.out _ ?_; clear hK K) | (apply Exists.intro; refine ⟨fun _ => ?_, hK.out _ ?_⟩; (first | with_reducible exact rfl | skip); clear hK K))
     | (refine wpPlan_only rfl (fun K hK => ?_); replace hK := Lib.hid hK; (first | (go_simp; first | (go_at_call 75; (with_reducible refine (q07Valid_any f _ _ _ (ptsL PA'.out hP) (secsL SA'.out hP) HU.out).mono ?_); rintro e w2 ⟨rfl, hbx⟩) | skip)); refine hK.out _ _ (by first | assumption | exact below_step hP hbx | exact hP.drew | exact hP.alloc hP.size _) (fun hP => ?_); clear hK K))
    all_goals refine wpPlan_done ?_
    have hB2 := below_step hb hP
    go_wp2_with fail
    go_returns
    exact ⟨ret_bool (by rw [← HV.out]; exact (decide_eq_false (fun h => by
     have := (h.2 k (by have := HL.out; omega)).1
     rw [HF.out] at this
     exact of_decide_eq_false HU.out this)).symm), hB2⟩
  by_cases hle : f.id ≤ li
  · have dl : decide (f.id ≤ li) = true := decide_eq_true hle
    go_wp2_with fail
    refine wp_region_plan (.take 0 (.take 0 (.take 0 (.take 0 (.only 0 (.take 0 (.take 0 (.take 0 (.take 0 (.take 0 (.take 0 (.take 0 (.take 0 (.take 0 (.take 0 (.take 0 (.take 0 (.take 0 (.take 0 (.take 0 (.take 0 (.take 0 (.take 0 (.take 0 .done)))))))))))))))))))))))) (by kernel_rfl) (by kernel_rfl) (fun hP => ?_)
    repeat' (first
     | (refine wpPlan_two ?_ ?_)
     | (refine wpPlan_three ?_ ?_ ?_)
     | (refine wpPlan_take rfl (fun K hK => ?_); replace hK := Lib.hid hK; go_simp; first | (refine hK.out _ ?_; clear hK K) | (apply Exists.intro; refine ⟨fun _ => ?_, hK.out _ ?_⟩; (first | with_reducible exact rfl | skip); clear hK K))
     | (refine wpPlan_only rfl (fun K hK => ?_); replace hK := Lib.hid hK; (first | (go_simp; first | (go_at_call 75; (with_reducible refine (q07Valid_any f _ _ _ (ptsL PA'.out hP) (secsL SA'.out hP) HU.out).mono ?_); rintro e w2 ⟨rfl, hbx⟩) | skip)); refine hK.out _ _ (by first | assumption | exact below_step hP hbx | exact hP.drew | exact hP.alloc hP.size _) (fun hP => ?_); clear hK K))
    all_goals refine wpPlan_done ?_
    have hB2 := below_step hb hP
    go_wp2_with fail
    go_returns
    exact ⟨ret_bool (by rw [← HV.out]; exact (decide_eq_false (fun h => by
     have := (h.2 k (by have := HL.out; omega)).2
     rw [HF.out, HLI.out] at this
     omega)).symm), hB2⟩
  have dl : decide (f.id ≤ li) = false := decide_eq_false hle
  have ALL2 := Lib.hid (feats_snoc ALL.out (by rw [HF.out]; exact of_decide_eq_true HU.out) (by rw [HF.out, HLI.out]; omega))
  go_wp2_with fail
  refine wp_region_plan (.take 0 (.take 0 (.take 0 (.take 0 (.only 0 (.take 0 (.take 0 (.take 0 (.take 0 (.take 0 (.take 0 (.take 0 (.take 0 (.take 0 (.take 0 (.take 0 (.take 0 (.take 0 (.take 0 (.take 0 (.take 0 (.take 0 (.take 0 (.take 0 .done)))))))))))))))))))))))) (by kernel_rfl) (by kernel_rfl) (fun hP => ?_)
  repeat' (first
   | (refine wpPlan_two ?_ ?_)
   | (refine wpPlan_three ?_ ?_ ?_)
   | (refine wpPlan_take rfl (fun K hK => ?_); replace hK := Lib.hid hK; go_simp; first | (refine hK.out _ ?_; clear hK K) | (apply Exists.intro; refine ⟨fun _ => ?_, hK.out _ ?_⟩; (first | with_reducible exact rfl | skip); clear hK K))
   | (refine wpPlan_only rfl (fun K hK => ?_); replace hK := Lib.hid hK; (first | (go_simp; first | (go_at_call 75; (with_reducible refine (q07Valid_any f _ _ _ (ptsL PA'.out hP) (secsL SA'.out hP) HU.out).mono ?_); rintro e w2 ⟨rfl, hbx⟩) | skip)); refine hK.out _ _ (by first | assumption | exact below_step hP hbx | exact hP.drew | exact hP.alloc hP.size _) (fun hP => ?_); clear hK K))
  all_goals refine wpPlan_done ?_
  have hB2 := below_step hb hP
  go_wp2_with fail
  go_roundw
  case rel => exact ⟨k + 1, by omega, by go_num, hB2, ALL2.out⟩
  case measure => simp [intOf]; omega
end Go.Proofs.YtdmegkkifiahdaaGreat
namespace Go.Proofs.YtdmegkkifiahdaaGreat
open Go.RowKit
attribute [local go_sem] bqOp bqAll bqUpon sqOp sqAll sqUpon
attribute [local irreducible] wpQuiet wpBQ wpPlan
set_option linter.unusedVariables false
end Go.Proofs.YtdmegkkifiahdaaGreat
namespace Go.Proofs.YtdmegkkifiahdaaGreat
open Go.RowKit
attribute [local go_sem] bqOp bqAll bqUpon sqOp sqAll sqUpon
attribute [local irreducible] wpQuiet wpBQ wpPlan
set_option linter.unusedVariables false
end Go.Proofs.YtdmegkkifiahdaaGreat
