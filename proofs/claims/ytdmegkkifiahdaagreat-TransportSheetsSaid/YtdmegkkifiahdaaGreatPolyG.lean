/- The walk of the validity of a polygon, and of In. -/
import Derived.Test.YtdmegkkifiahdaaGreatPolyF
namespace Go.Proofs.YtdmegkkifiahdaaGreat
open Go.RowKit Go.Shelf
attribute [local go_sem] bqOp bqAll bqUpon sqOp sqAll sqUpon
attribute [local irreducible] wpQuiet wpBQ wpPlan
set_option linter.unusedVariables false
set_option maxHeartbeats 2000000 in
theorem plValid_any (n c : Nat) (ad : Option Addr) (X : Nat → Nat → Int) (w : World) (hR : Rows 2 w (.slice ad n c) n X) (hn : n ≤ 9223372036854775807) {v : Bool} (hd : decide (PolyOk n X) = v) :
    Calls Tryz.prog 144 #[.slice ad n c] w fun e w' => e = .returned (.bool v) ∧ Below w.heap.size w w' := by
  have HR := Lib.hid hR
  have HD := Lib.hid hd
  clear hR hd
  by_cases h3 : (n : Int) < 3
  · go_enter Tryz.func144, Tryz.ntmps144
    go_wp2_with fail
    go_returns
    exact ⟨ret_bool (by rw [← HD.out]; exact (decide_eq_false (fun h => by have := h.1; omega)).symm), Below.refl _ _⟩
  have d3 : decide ((n : Int) < 3) = false := by simpa using h3
  by_cases h24 : 24 < (n : Int)
  · go_enter Tryz.func144, Tryz.ntmps144
    go_wp2_with fail
    go_returns
    exact ⟨ret_bool (by rw [← HD.out]; exact (decide_eq_false (fun h => by have := h.2.1; omega)).symm), Below.refl _ _⟩
  have d24 : decide (24 < (n : Int)) = false := by simpa using h24
  have n3 : 3 ≤ n := by omega
  have n24 : n ≤ 24 := by omega
  clear h3 h24
  obtain ⟨u, hu⟩ : ∃ u, (!decide (VldsX n X)) = u := ⟨_, rfl⟩
  have HU := Lib.hid hu
  clear hu
  go_enter Tryz.func144, Tryz.ntmps144
  go_wp2_with fail
  (with_reducible refine (cfPts_any n c ad X _ HR.out hn HU.out).mono ?_)
  rintro e w1 ⟨rfl, hb1⟩
  clear d3 d24
  cases u
  rotate_left
  · go_wp2_with fail
    go_returns
    exact ⟨ret_bool (by rw [← HD.out]; exact (decide_eq_false (fun h => by have hq := HU.out; rw [decide_eq_true h.2.2.1] at hq; cases hq)).symm), hb1⟩
  have HV := Lib.hid (show VldsX n X from Classical.byContradiction fun h => by have hq := HU.out; rw [decide_eq_false h] at hq; cases hq)
  clear HU
  go_wp2_with fail
  go_loopw [22] (fun i wr => ∃ k : Nat, k ≤ n ∧ i = .int .i64 k ∧ Below w.heap.size w wr ∧ ∀ m, m < k → CornerOk n X m) (fun i _ => n - (intOf i).toNat)
  case atStart => exact ⟨0, by omega, rfl, hb1, fun m hm => by omega⟩
  case round =>
    obtain ⟨k, hk, rfl, hb, hall⟩ := hrel
    have ALL := Lib.hid hall
    clear hall hb1
    rcases Nat.lt_or_ge k n with hlt | hge
    rotate_left
    · obtain rfl : k = n := by omega
      obtain ⟨u, hu⟩ : ∃ u, decide (SimpleOk k X) = u := ⟨_, rfl⟩
      have HU := Lib.hid hu
      clear hu
      go_wp2_with fail
      (with_reducible refine (plsimple_any k c ad X _ (HR.out.later hb) (by omega) HV.out HU.out).mono ?_)
      rintro e w2 ⟨rfl, hb2⟩
      have hB2 := below_step hb hb2
      cases u
      · go_wp2_with fail
        go_returns
        exact ⟨ret_bool (by rw [← HD.out]; exact (decide_eq_false (fun h => of_decide_eq_false HU.out h.2.2.2.2.1)).symm), hB2⟩
      go_wp2_with fail
      (with_reducible refine (pltwice_any k c ad X _ (HR.out.later hB2) (by omega) HV.out).mono ?_)
      rintro e w3 ⟨rfl, hb3⟩
      have hB3 := below_step hB2 hb3
      go_wp2_with fail
      go_returns
      exact ⟨ret_bool (by
        rw [← HD.out, decide_eq_decide]
        exact ⟨fun h => ⟨n3, n24, HV.out, ALL.out, of_decide_eq_true HU.out, h⟩, fun h => h.2.2.2.2.2⟩), hB3⟩
    have hRr := HR.out.later hb
    obtain ⟨g, o, rfl, hc⟩ := hRr.row hlt
    have r0 := fun d os => cell_later (below_regrown wr d os) (hc 0 (by omega))
    have r1 := fun d os => cell_later (below_regrown wr d os) (hc 1 (by omega))
    obtain ⟨g', o', e, hc'⟩ := hRr.row (show 0 < n by omega)
    cases e
    have z0 := fun d os => cell_later (below_regrown wr d os) (hc' 0 (by omega))
    have z1 := fun d os => cell_later (below_regrown wr d os) (hc' 1 (by omega))
    simp only [Nat.add_zero, Nat.zero_mul] at r0 r1 z0 z1
    clear hc hc' hRr
    obtain ⟨s, hs⟩ : ∃ s, (crs (X (prv n k) 0) (X (prv n k) 1) (X k 0) (X k 1) (X (nxt n k) 0) (X (nxt n k) 1)).sign = s := ⟨_, rfl⟩
    have HS := Lib.hid hs
    clear hs
    have jk : IntKind.i64.wrap ((k : Int) + 1) = (k : Int) + 1 := IntWalk.i64_in _ (by omega)
    have jp : IntKind.i64.wrap ((k : Int) - 1) = (k : Int) - 1 := IntWalk.i64_in _ (by omega)
    rcases Nat.lt_or_ge 0 k with k0 | k0
    · have dk : decide (0 < (k : Int)) = true := by simp; omega
      have dk2 : 0 < (k : Int) := by omega
      have dz : (0 : Int) < (n : Int) := by omega
      have dzn : 0 < n := by omega
      obtain ⟨od, ho⟩ : ∃ od, ordI (X 0 0) (X 0 1) (X k 0) (X k 1) = od := ⟨_, rfl⟩
      have HO := Lib.hid ho
      clear ho
      by_cases hod : 0 ≤ od
      · have dod : decide (0 ≤ od) = true := by simpa using hod
        have NO := Lib.hid (show ¬ CornerOk n X k from fun h => by have := (ord_lt (X 0 0) (X 0 1) (X k 0) (X k 1)).2 (h.1 k0); rw [HO.out] at this; omega)
        go_wp2_with fail
        refine wp_region_plan (.take 0 (.take 0 (.take 0 (.take 0 (.take 0 (.take 0 (.take 0 (.take 0 (.take 0 (.take 0 (.only 0 (.take 0 (.take 0 (.take 0 (.take 0 (.take 0 (.take 0 (.take 1 (.take 1 (.take 1 (.take 1 (.take 1 (.take 1 (.take 1 (.only 0 (.only 0 (.only 0 (.take 0 (.take 0 .done))))))))))))))))))))))))))))) (by kernel_rfl) (by kernel_rfl) (fun hP => ?_)
        repeat' (first
          | (refine wpPlan_two ?_ ?_)
          | (refine wpPlan_three ?_ ?_ ?_)
          | (refine wpPlan_take rfl (fun K hK => ?_); replace hK := Lib.hid hK; go_simp; first | (refine hK.out _ ?_; clear hK K) | (apply Exists.intro; refine ⟨fun _ => ?_, hK.out _ ?_⟩; (first | with_reducible exact rfl | skip); clear hK K))
          | (refine wpPlan_only rfl (fun K hK => ?_); replace hK := Lib.hid hK; (first | (go_simp; first | (go_at_call 149; refine (plorder_any _ _ _ _ _ HO.out).mono ?_; rintro e w2 ⟨rfl, hbx⟩) | skip)); refine hK.out _ _ (by first | assumption | exact below_step hP hbx | exact hP.drew | exact hP.alloc hP.size _) (fun hP => ?_); clear hK K))
        all_goals refine wpPlan_done ?_
        have hB2 := below_step hb hP
        go_wp2_with fail
        go_returns
        exact ⟨ret_bool (by rw [← HD.out]; exact (decide_eq_false (fun h => NO.out (h.2.2.2.1 k hlt))).symm), hB2⟩
      · have dod : decide (0 ≤ od) = false := by simpa using hod
        have OLT := Lib.hid (show OrdLt (X 0 0) (X 0 1) (X k 0) (X k 1) from (ord_lt _ _ _ _).1 (by rw [HO.out]; omega))
        clear hod
        go_wp2_with fail
        refine wp_region_plan (.take 0 (.take 0 (.take 0 (.take 0 (.take 0 (.take 0 (.take 0 (.take 0 (.take 0 (.take 0 (.only 0 (.take 0 (.take 0 (.take 0 (.take 0 (.take 0 (.take 0 (.take 1 (.take 1 (.take 1 (.take 1 (.take 1 (.take 1 (.take 1 (.only 0 (.only 0 (.only 0 (.take 0 (.take 0 .done))))))))))))))))))))))))))))) (by kernel_rfl) (by kernel_rfl) (fun hP => ?_)
        repeat' (first
          | (refine wpPlan_two ?_ ?_)
          | (refine wpPlan_three ?_ ?_ ?_)
          | (refine wpPlan_take rfl (fun K hK => ?_); replace hK := Lib.hid hK; go_simp; first | (refine hK.out _ ?_; clear hK K) | (apply Exists.intro; refine ⟨fun _ => ?_, hK.out _ ?_⟩; (first | with_reducible exact rfl | skip); clear hK K))
          | (refine wpPlan_only rfl (fun K hK => ?_); replace hK := Lib.hid hK; (first | (go_simp; first | (go_at_call 149; refine (plorder_any _ _ _ _ _ HO.out).mono ?_; rintro e w2 ⟨rfl, hbx⟩) | (go_at_call 233; (with_reducible refine (plcorner_any n c (prv n k) _ X ((k : Int) - 1) _ (HR.out.later (below_step hb hP)) (by omega) (prv_lt hlt) (corner_prev hlt) (by omega) (by omega) (by omega) (by omega)).mono ?_); rintro e w2 ⟨rfl, hbx⟩) | (go_at_call 233; (with_reducible refine (plcorner_any n c (nxt n k) _ X ((k : Int) + 1) _ (HR.out.later (below_step hb hP)) (by omega) (nxt_lt hlt) (corner_next hlt) (by omega) (by omega) (by omega) (by omega)).mono ?_); rintro e w2 ⟨rfl, hbx⟩) | (go_at_call 232; refine (plturn_any _ _ _ _ _ _ _ (HV.out _ (prv_lt hlt)) (HV.out k hlt) (HV.out _ (nxt_lt hlt)) HS.out).mono ?_; rintro e w2 ⟨rfl, hbx⟩) | skip)); refine hK.out _ _ (by first | assumption | exact below_step hP hbx | exact hP.drew | exact hP.alloc hP.size _) (fun hP => ?_); clear hK K))
        all_goals refine wpPlan_done ?_
        have hB2 := below_step hb hP
        clear hP r0 r1 z0 z1 jk jp
        by_cases hs0 : s = 0
        · have ds : (s == 0) = true := by simp [hs0]
          have NO := Lib.hid (show ¬ CornerOk n X k from fun h => h.2 (by unfold turnX; rw [HS.out]; exact hs0))
          clear hs0
          go_wp2_with fail
          go_returns
          exact ⟨ret_bool (by rw [← HD.out]; exact (decide_eq_false (fun h => NO.out (h.2.2.2.1 k hlt))).symm), hB2⟩
        · have ds : (s == 0) = false := by simp [hs0]
          have OK := Lib.hid (show CornerOk n X k from ⟨fun _ => OLT.out, by unfold turnX; rw [HS.out]; exact hs0⟩)
          clear hs0
          go_wp2_with fail
          go_roundw
          case rel => exact ⟨k + 1, by omega, by go_num, hB2, fun m hm => by
            rcases Nat.lt_or_ge m k with h | h
            · exact ALL.out m h
            · obtain rfl : m = k := by omega
              exact OK.out⟩
          case measure => simp [intOf]; omega
    · have dk : decide (0 < (k : Int)) = false := by simp; omega
      have dk2 : (k : Int) ≤ 0 := by omega
      have dkn : decide (0 < k) = false := by simp; omega
      go_wp2_with fail
      refine wp_region_plan (.take 0 (.take 0 (.take 0 (.take 0 (.take 0 (.take 0 (.take 0 (.take 0 (.take 0 (.take 0 (.only 0 (.take 0 (.take 0 (.take 0 (.take 0 (.take 0 (.take 0 (.take 1 (.take 1 (.take 1 (.take 1 (.take 1 (.take 1 (.take 1 (.only 0 (.only 0 (.only 0 (.take 0 (.take 0 .done))))))))))))))))))))))))))))) (by kernel_rfl) (by kernel_rfl) (fun hP => ?_)
      repeat' (first
        | (refine wpPlan_two ?_ ?_)
        | (refine wpPlan_three ?_ ?_ ?_)
        | (refine wpPlan_take rfl (fun K hK => ?_); replace hK := Lib.hid hK; go_simp; first | (refine hK.out _ ?_; clear hK K) | (apply Exists.intro; refine ⟨fun _ => ?_, hK.out _ ?_⟩; (first | with_reducible exact rfl | skip); clear hK K))
        | (refine wpPlan_only rfl (fun K hK => ?_); replace hK := Lib.hid hK; (first | (go_simp; first | (go_at_call 233; (with_reducible refine (plcorner_any n c (prv n k) _ X ((k : Int) - 1) _ (HR.out.later (below_step hb hP)) (by omega) (prv_lt hlt) (corner_prev hlt) (by omega) (by omega) (by omega) (by omega)).mono ?_); rintro e w2 ⟨rfl, hbx⟩) | (go_at_call 233; (with_reducible refine (plcorner_any n c (nxt n k) _ X ((k : Int) + 1) _ (HR.out.later (below_step hb hP)) (by omega) (nxt_lt hlt) (corner_next hlt) (by omega) (by omega) (by omega) (by omega)).mono ?_); rintro e w2 ⟨rfl, hbx⟩) | (go_at_call 232; refine (plturn_any _ _ _ _ _ _ _ (HV.out _ (prv_lt hlt)) (HV.out k hlt) (HV.out _ (nxt_lt hlt)) HS.out).mono ?_; rintro e w2 ⟨rfl, hbx⟩) | skip)); refine hK.out _ _ (by first | assumption | exact below_step hP hbx | exact hP.drew | exact hP.alloc hP.size _) (fun hP => ?_); clear hK K))
      all_goals refine wpPlan_done ?_
      have hB2 := below_step hb hP
      clear hP r0 r1 z0 z1 jk jp
      by_cases hs0 : s = 0
      · have ds : (s == 0) = true := by simp [hs0]
        have NO := Lib.hid (show ¬ CornerOk n X k from fun h => h.2 (by unfold turnX; rw [HS.out]; exact hs0))
        clear hs0
        go_wp2_with fail
        go_returns
        exact ⟨ret_bool (by rw [← HD.out]; exact (decide_eq_false (fun h => NO.out (h.2.2.2.1 k hlt))).symm), hB2⟩
      · have ds : (s == 0) = false := by simp [hs0]
        have OK := Lib.hid (show CornerOk n X k from ⟨fun h => absurd h (by omega), by unfold turnX; rw [HS.out]; exact hs0⟩)
        clear hs0
        go_wp2_with fail
        go_roundw
        case rel => exact ⟨k + 1, by omega, by go_num, hB2, fun m hm => by
          rcases Nat.lt_or_ge m k with h | h
          · exact ALL.out m h
          · obtain rfl : m = k := by omega
            exact OK.out⟩
        case measure => simp [intOf]; omega
end Go.Proofs.YtdmegkkifiahdaaGreat
