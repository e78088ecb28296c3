import Derived.Test.YtdmegkkifiahdaaGreatPolyE
namespace Go.Proofs.YtdmegkkifiahdaaGreat
open Go.RowKit Go.Shelf
attribute [local go_sem] bqOp bqAll bqUpon sqOp sqAll sqUpon
attribute [local irreducible] wpQuiet wpBQ wpPlan
set_option linter.unusedVariables false
def cmpI (x y : Int) : Int := if x < y then -1 else if y < x then 1 else 0
theorem cmp2_any (x y : Int) (w : World) {v : Int} (hv : cmpI x y = v) :
  Calls Tryz.prog 225 #[.int .i64 x, .int .i64 y] w fun e w' => e = .returned (.int .i64 v) ∧ Below w.heap.size w w' := by
 have HV := Lib.hid hv
 clear hv
 go_enter Tryz.func225, Tryz.ntmps225
 go_wp2
 · go_returns
   exact ⟨ret_int (by rw [← HV.out]; unfold cmpI; rw [if_pos (by assumption)]), by go_grown⟩
 · go_returns
   exact ⟨ret_int (by rw [← HV.out]; unfold cmpI; rw [if_neg (by omega), if_pos (by assumption)]), by go_grown⟩
 · go_returns
   exact ⟨ret_int (by rw [← HV.out]; unfold cmpI; rw [if_neg (by omega), if_neg (by omega)]), by go_grown⟩
theorem cmpOr_two (p q : Int) (b c : Nat) (w : World) (h : w.heap[b]? = some (.cells #[.int .i64 p, .int .i64 q] 3 (0, 0))) {v : Int} (hv : (if p = 0 then q else p) = v) :
  Calls Tryz.prog 240 #[.slice (some ⟨b, 0, none⟩) 2 c] w fun e w' => e = .returned (.int .i64 v) ∧ Below w.heap.size w w' := by
 have HV := Lib.hid hv
 have c0 := cell_block h 0
 have c1 := cell_block h 1
 clear hv h
 go_enter Tryz.func240, Tryz.ntmps240
 go_wp2
 go_loop [8] (fun i => ∃ k : Nat, k ≤ 2 ∧ i = .int .i64 k ∧ (0 < k → p = 0) ∧ (1 < k → q = 0)) (fun i => 2 - (intOf i).toNat)
 case atStart => exact ⟨0, by omega, rfl, fun h => by omega, fun h => by omega⟩
 case round =>
  obtain ⟨k, hk, rfl, h1, h2⟩ := hrel
  rcases Nat.lt_or_ge k 2 with hlt | hge
  · rcases Nat.lt_or_ge k 1 with h0 | h0
    · obtain rfl : k = 0 := by omega
      clear h1 h2
      by_cases hp : p = 0
      · have HP := Lib.hid hp
        have d : (p != 0) = false := by simp [hp]
        clear hp
        go_wp2
        go_round
        case rel => exact ⟨1, by omega, rfl, fun _ => HP.out, fun h => by omega⟩
        case measure => simp [intOf]
      · have d : (p != 0) = true := by simp [hp]
        have HP := Lib.hid hp
        clear hp
        go_wp2
        go_returns
        exact ⟨ret_int (by rw [← HV.out, if_neg HP.out]), Below.refl _ _⟩
    · obtain rfl : k = 1 := by omega
      have HP := Lib.hid (h1 (by omega))
      clear h1 h2
      by_cases hq : q = 0
      · have HQ := Lib.hid hq
        have d : (q != 0) = false := by simp [hq]
        clear hq
        go_wp2
        go_round
        case rel => exact ⟨2, by omega, rfl, fun _ => HP.out, fun h => HQ.out⟩
        case measure => simp [intOf]
      · have d : (q != 0) = true := by simp [hq]
        clear hq
        go_wp2
        go_returns
        exact ⟨ret_int (by rw [← HV.out, if_pos HP.out]), Below.refl _ _⟩
  · obtain rfl : k = 2 := by omega
    have HP := Lib.hid (h1 (by omega))
    have HQ := Lib.hid (h2 (by omega))
    clear h1 h2
    go_wp2
    go_returns
    exact ⟨ret_int (by rw [← HV.out, if_pos HP.out, HQ.out]), Below.refl _ _⟩
def ordI (ax ay bx by' : Int) : Int := if cmpI ax bx = 0 then cmpI ay by' else cmpI ax bx
theorem ord_lt (ax ay bx by' : Int) : ordI ax ay bx by' < 0 ↔ OrdLt ax ay bx by' := by
 unfold ordI cmpI OrdLt
 repeat' split
 all_goals omega
theorem plorder_any (ax ay bx by' : Int) (w : World) {v : Int} (hv : ordI ax ay bx by' = v) :
  Calls Tryz.prog 149 #[.agg #[.int .i64 ax, .int .i64 ay], .agg #[.int .i64 bx, .int .i64 by']] w fun e w' => e = .returned (.int .i64 v) ∧ Below w.heap.size w w' := by
 have HO := Lib.hid (show (if cmpI ax bx = 0 then cmpI ay by' else cmpI ax bx) = v from hv)
 clear hv
 go_enter Tryz.func149, Tryz.ntmps149
 go_wp2_with fail
 refine wp_named fun W hW => ?_
 obtain ⟨p1, p2, hB⟩ := box2 hW
 clear hW
 have q1 := cellsR p1
 have q2 := cellsR p2
 refine wp_region_plan (.take 0 (.take 0 (.take 0 (.take 0 (.take 1 (.take 1 (.take 1 (.take 1 (.only 0 (.only 0 (.only 0 (.only 0 (.take 0 .done))))))))))))) (by kernel_rfl) (by kernel_rfl) (fun hP => ?_)
 repeat' (first
  | (refine wpPlan_two ?_ ?_)
  | (refine wpPlan_three ?_ ?_ ?_)
  | (refine wpPlan_take rfl (fun K hK => ?_); replace hK := Lib.hid hK; go_simp; first | (refine hK.out _ ?_; clear hK K) | (apply Exists.intro; refine ⟨fun _ => ?_, hK.out _ ?_⟩; (first | with_reducible exact rfl | skip); clear hK K))
  | (refine wpPlan_only rfl (fun K hK => ?_); replace hK := Lib.hid hK; (first | (go_simp; first | (go_at_call 225; refine (cmp2_any _ _ _ rfl).mono ?_; rintro e w2 ⟨rfl, hbx⟩) | (go_at_call 240; refine (cmpOr_two _ _ _ _ _ (block_new _ _) HO.out).mono ?_; rintro e w2 ⟨rfl, hbx⟩) | skip)); refine hK.out _ _ (by first | assumption | exact below_step hP hbx | exact hP.drew | exact hP.alloc hP.size _) (fun hP => ?_); clear hK K))
 all_goals refine wpPlan_done ?_
 have hB2 := below_step hB hP
 clear q1 q2 p1 p2
 go_wp2_with fail
 go_returns
 exact ⟨rfl, hB2⟩
theorem plValid1_any (x y : Int) (w : World) {v : Bool} (hv : (!decide (Vld x y)) = v) : Calls Tryz.prog 231 #[.agg #[.int .i64 x, .int .i64 y]] w fun e w' => e = .returned (.bool v) ∧ Below w.heap.size w w' := by
 obtain ⟨u, hu⟩ : ∃ u, decide (Vld x y) = u := ⟨_, rfl⟩
 rw [hu] at hv
 have HV := Lib.hid hv
 have HU := Lib.hid hu
 clear hv hu
 go_enter Tryz.func231, Tryz.ntmps231
 go_wp2_with fail
 refine calls_named fun W hW => ?_
 obtain ⟨p1, hB⟩ := box1 hW
 clear hW
 (with_reducible refine (hpValid_any _ _ _ HU.out).mono ?_)
 rintro e w1 ⟨rfl, hb1⟩
 go_wp2_with fail
 go_returns
 exact ⟨ret_bool (by rw [← HV.out]), below_step hB hb1⟩
theorem ifPts_any (n c : Nat) (ad : Option Addr) (X : Nat → Nat → Int) (w : World) (hR : Rows 2 w (.slice ad n c) n X) (hn : n ≤ 9223372036854775807) {r : Int} (hr : fstI (fun i => !decide (Vld (X i 0) (X i 1))) n = r) :
  Calls Tryz.prog 238 #[.slice ad n c, .func (.func 231) #[] #[]] w fun e w' => e = .returned (.int .i64 r) ∧ Below w.heap.size w w' := by
 have HR := Lib.hid hR
 have RR := Lib.hid hr
 clear hR hr
 go_enter Tryz.func238, Tryz.ntmps238
 go_wp2
 go_loopw [8] (fun i wr => ∃ k : Nat, k ≤ n ∧ i = .int .i64 k ∧ Below w.heap.size w wr ∧ ∀ m, m < k → (!decide (Vld (X m 0) (X m 1))) = false) (fun i _ => n - (intOf i).toNat)
 case atStart => exact ⟨0, by omega, rfl, Below.refl _ _, fun m hm => by omega⟩
 case round =>
  obtain ⟨k, hk, rfl, hb, hall⟩ := hrel
  have ALL := Lib.hid hall
  clear hall
  by_cases hlt : k < n
  · obtain ⟨g, o, rfl, hc⟩ := HR.out.row hlt
    have c0 := cell_later hb (hc 0 (by omega))
    have c1 := cell_later hb (hc 1 (by omega))
    simp only [Nat.add_zero] at c0 
    clear hc
    obtain ⟨v, hv⟩ : ∃ v, (!decide (Vld (X k 0) (X k 1))) = v := ⟨_, rfl⟩
    have V := Lib.hid hv
    clear hv
    go_wp2_with fail
    (with_reducible refine (plValid1_any _ _ _ V.out).mono ?_)
    rintro e w1 ⟨rfl, hb1⟩
    have hb2 := below_step hb hb1
    clear hb1 c0 c1
    cases v
    · go_wp2_with fail
      go_roundw
      case rel => exact ⟨k + 1, by omega, by go_num, hb2, fun m hm => by
       rcases Nat.lt_or_ge m k with h | h
       · exact ALL.out m h
       · obtain rfl : m = k := by omega
         exact V.out⟩
      case measure => simp [intOf]; omega
    · go_wp2_with fail
      go_returns
      exact ⟨ret_int (by rw [← RR.out]; exact (fstI_at hlt ALL.out V.out).symm), hb2⟩
  · obtain rfl : k = n := by omega
    go_wp2_with fail
    go_returns
    exact ⟨ret_int (by rw [← RR.out]; exact (fstI_none ALL.out).symm), hb⟩
theorem any_bad (n : Nat) (X : Nat → Nat → Int) : anyN (fun i => !decide (Vld (X i 0) (X i 1))) n = !decide (VldsX n X) := by
 by_cases h : VldsX n X
 · rw [decide_eq_true h]
   exact decide_eq_false (fun ⟨i, hi, hb⟩ => by dsimp only at hb; rw [decide_eq_true (h i hi)] at hb; cases hb)
 · rw [decide_eq_false h]
   exact decide_eq_true (Classical.byContradiction fun k => h fun i hi => Classical.byContradiction fun u => k ⟨i, hi, by show (!decide (Vld (X i 0) (X i 1))) = true; rw [decide_eq_false u]; rfl⟩)
theorem cfPts_any (n c : Nat) (ad : Option Addr) (X : Nat → Nat → Int) (w : World) (hR : Rows 2 w (.slice ad n c) n X) (hn : n ≤ 9223372036854775807) {r : Bool} (hr : (!decide (VldsX n X)) = r) :
  Calls Tryz.prog 147 #[.slice ad n c, .func (.func 231) #[] #[]] w fun e w' => e = .returned (.bool r) ∧ Below w.heap.size w w' := by
 obtain ⟨q, hq⟩ : ∃ q, fstI (fun i => !decide (Vld (X i 0) (X i 1))) n = q := ⟨_, rfl⟩
 have hqr : decide (0 ≤ q) = r := by
  rw [← hq, fstI_any, ← hr]
  exact any_bad n X
 have Q := Lib.hid hqr
 have HQ := Lib.hid hq
 have HR := Lib.hid hR
 clear hR hr hq hqr
 go_enter Tryz.func147, Tryz.ntmps147
 go_wp2_with fail
 (with_reducible refine (ifPts_any n c ad X _ HR.out hn HQ.out).mono ?_)
 rintro e w1 ⟨rfl, hb1⟩
 go_wp2_with fail
 go_returns
 exact ⟨ret_bool Q.out, hb1⟩
end Go.Proofs.YtdmegkkifiahdaaGreat
namespace Go.Proofs.YtdmegkkifiahdaaGreat
open Go.RowKit Go.Shelf
attribute [local go_sem] bqOp bqAll bqUpon sqOp sqAll sqUpon
attribute [local irreducible] wpQuiet wpBQ wpPlan
set_option linter.unusedVariables false
set_option maxHeartbeats 2000000 in
theorem plValid_any (n c : Nat) (ad : Option Addr) (X : Nat → Nat → Int) (w : World) (hR : Rows 2 w (.slice ad n c) n X) (hn : n ≤ 9223372036854775807) {v : Bool} (hd : decide (PolyOk n X) = v) :
  Calls Tryz.prog 144 #[.slice ad n c] w fun e w' => e = .returned (.bool v) ∧ Below w.heap.size w w' := by
 have HR := Lib.hid hR
 have HD := Lib.hid hd
 clear hR hd
 by_cases h3 : (n : Int) < 3
 · go_enter Tryz.func144, Tryz.ntmps144
   go_wp2_with fail
   go_returns
   exact ⟨ret_bool (by rw [← HD.out]; exact (decide_eq_false (fun h => by have := h.1; omega)).symm), Below.refl _ _⟩
 have d3 : decide ((n : Int) < 3) = false := by simpa using h3
 by_cases h24 : 24 < (n : Int)
 · go_enter Tryz.func144, Tryz.ntmps144
   go_wp2_with fail
   go_returns
   exact ⟨ret_bool (by rw [← HD.out]; exact (decide_eq_false (fun h => by have := h.2.1; omega)).symm), Below.refl _ _⟩
 have d24 : decide (24 < (n : Int)) = false := by simpa using h24
 have n3 : 3 ≤ n := by omega
 have n24 : n ≤ 24 := by omega
 clear h3 h24
 obtain ⟨u, hu⟩ : ∃ u, (!decide (VldsX n X)) = u := ⟨_, rfl⟩
 have HU := Lib.hid hu
 clear hu
 go_enter Tryz.func144, Tryz.ntmps144
 go_wp2_with fail
 (with_reducible refine (cfPts_any n c ad X _ HR.out hn HU.out).mono ?_)
 rintro e w1 ⟨rfl, hb1⟩
 clear d3 d24
 cases u
 rotate_left
 · go_wp2_with fail
   go_returns
   exact ⟨ret_bool (by rw [← HD.out]; exact (decide_eq_false (fun h => by have hq := HU.out; rw [decide_eq_true h.2.2.1] at hq; cases hq)).symm), hb1⟩
 have HV := Lib.hid (show VldsX n X from Classical.byContradiction fun h => by have hq := HU.out; rw [decide_eq_false h] at hq; cases hq)
 clear HU
 go_wp2_with fail
 go_loopw [22] (fun i wr => ∃ k : Nat, k ≤ n ∧ i = .int .i64 k ∧ Below w.heap.size w wr ∧ ∀ m, m < k → CornerOk n X m) (fun i _ => n - (intOf i).toNat)
 case atStart => exact ⟨0, by omega, rfl, hb1, fun m hm => by omega⟩
 case round =>
  obtain ⟨k, hk, rfl, hb, hall⟩ := hrel
  have ALL := Lib.hid hall
  clear hall hb1
  rcases Nat.lt_or_ge k n with hlt | hge
  rotate_left
  · obtain rfl : k = n := by omega
    obtain ⟨u, hu⟩ : ∃ u, decide (SimpleOk k X) = u := ⟨_, rfl⟩
    have HU := Lib.hid hu
    clear hu
    go_wp2_with fail
    (with_reducible refine (plsimple_any k c ad X _ (HR.out.later hb) (by omega) HV.out HU.out).mono ?_)
    rintro e w2 ⟨rfl, hb2⟩
    have hB2 := below_step hb hb2
    cases u
    · go_wp2_with fail
      go_returns
      exact ⟨ret_bool (by rw [← HD.out]; exact (decide_eq_false (fun h => of_decide_eq_false HU.out h.2.2.2.2.1)).symm), hB2⟩
    go_wp2_with fail
    (with_reducible refine (pltwice_any k c ad X _ (HR.out.later hB2) (by omega) HV.out).mono ?_)
    rintro e w3 ⟨rfl, hb3⟩
    have hB3 := below_step hB2 hb3
    go_wp2_with fail
    go_returns
    exact ⟨ret_bool (by
     rw [← HD.out, decide_eq_decide]
     exact ⟨fun h => ⟨n3, n24, HV.out, ALL.out, of_decide_eq_true HU.out, h⟩, fun h => h.2.2.2.2.2⟩), hB3⟩
  have hRr := HR.out.later hb
  obtain ⟨g, o, rfl, hc⟩ := hRr.row hlt
  have r0 := fun d os => cell_later (below_regrown wr d os) (hc 0 (by omega))
  have r1 := fun d os => cell_later (below_regrown wr d os) (hc 1 (by omega))
  obtain ⟨g', o', e, hc'⟩ := hRr.row (show 0 < n by omega)
  cases e
  have z0 := fun d os => cell_later (below_regrown wr d os) (hc' 0 (by omega))
  have z1 := fun d os => cell_later (below_regrown wr d os) (hc' 1 (by omega))
  simp only [Nat.add_zero, Nat.zero_mul] at r0 r1 z0 z1
  clear hc hc' hRr
  obtain ⟨s, hs⟩ : ∃ s, (crs (X (prv n k) 0) (X (prv n k) 1) (X k 0) (X k 1) (X (nxt n k) 0) (X (nxt n k) 1)).sign = s := ⟨_, rfl⟩
  have HS := Lib.hid hs
  clear hs
  have jk : IntKind.i64.wrap ((k : Int) + 1) = (k : Int) + 1 := IntWalk.i64_in _ (by omega)
  have jp : IntKind.i64.wrap ((k : Int) - 1) = (k : Int) - 1 := IntWalk.i64_in _ (by omega)
  rcases Nat.lt_or_ge 0 k with k0 | k0
  · have dk : decide (0 < (k : Int)) = true := by simp; omega
    have dk2 : 0 < (k : Int) := by omega
    have dz : (0 : Int) < (n : Int) := by omega
    have dzn : 0 < n := by omega
    obtain ⟨od, ho⟩ : ∃ od, ordI (X 0 0) (X 0 1) (X k 0) (X k 1) = od := ⟨_, rfl⟩
    have HO := Lib.hid ho
    clear ho
    by_cases hod : 0 ≤ od
    · have dod : decide (0 ≤ od) = true := by simpa using hod
      have NO := Lib.hid (show ¬ CornerOk n X k from fun h => by have := (ord_lt (X 0 0) (X 0 1) (X k 0) (X k 1)).2 (h.1 k0); rw [HO.out] at this; omega)
      go_wp2_with fail
      refine wp_region_plan (.take 0 (.take 0 (.take 0 (.take 0 (.take 0 (.take 0 (.take 0 (.take 0 (.take 0 (.take 0 (.only 0 (.take 0 (.take 0 (.take 0 (.take 0 (.take 0 (.take 0 (.take 1 (.take 1 (.take 1 (.take 1 (.take 1 (.take 1 (.take 1 (.only 0 (.only 0 (.only 0 (.take 0 (.take 0 .done))))))))))))))))))))))))))))) (by kernel_rfl) (by kernel_rfl) (fun hP => ?_)
      repeat' (first
       | (refine wpPlan_two ?_ ?_)
       | (refine wpPlan_three ?_ ?_ ?_)
       | (refine wpPlan_take rfl (fun K hK => ?_); replace hK := Lib.hid hK; go_simp; first | (refine hK.out _ ?_; clear hK K) | (apply Exists.intro; refine ⟨fun _ => ?_, hK.out _ ?_⟩; (first | with_reducible exact rfl | skip); clear hK K))
       | (refine wpPlan_only rfl (fun K hK => ?_); replace hK := Lib.hid hK; (first | (go_simp; first | (go_at_call 149; refine (plorder_any _ _ _ _ _ HO.out).mono ?_; rintro e w2 ⟨rfl, hbx⟩) | skip)); refine hK.out _ _ (by first | assumption | exact below_step hP hbx | exact hP.drew | exact hP.alloc hP.size _) (fun hP => ?_); clear hK K))
      all_goals refine wpPlan_done ?_
      have hB2 := below_step hb hP
      go_wp2_with fail
      go_returns
      exact ⟨ret_bool (by rw [← HD.out]; exact (decide_eq_false (fun h => NO.out (h.2.2.2.1 k hlt))).symm), hB2⟩
    · have dod : decide (0 ≤ od) = false := by simpa using hod
      have OLT := Lib.hid (show OrdLt (X 0 0) (X 0 1) (X k 0) (X k 1) from (ord_lt _ _ _ _).1 (by rw [HO.out]; omega))
      clear hod
      go_wp2_with fail
      refine wp_region_plan (.take 0 (.take 0 (.take 0 (.take 0 (.take 0 (.take 0 (.take 0 (.take 0 (.take 0 (.take 0 (.only 0 (.take 0 (.take 0 (.take 0 (.take 0 (.take 0 (.take 0 (.take 1 (.take 1 (.take 1 (.take 1 (.take 1 (.take 1 (.take 1 (.only 0 (.only 0 (.only 0 (.take 0 (.take 0 .done))))))))))))))))))))))))))))) (by kernel_rfl) (by kernel_rfl) (fun hP => ?_)
      repeat' (first
       | (refine wpPlan_two ?_ ?_)
       | (refine wpPlan_three ?_ ?_ ?_)
       | (refine wpPlan_take rfl (fun K hK => ?_); replace hK := Lib.hid hK; go_simp; first | (refine hK.out _ ?_; clear hK K) | (apply Exists.intro; refine ⟨fun _ => ?_, hK.out _ ?_⟩; (first | with_reducible exact rfl | skip); clear hK K))
       | (refine wpPlan_only rfl (fun K hK => ?_); replace hK := Lib.hid hK; (first | (go_simp; first | (go_at_call 149; refine (plorder_any _ _ _ _ _ HO.out).mono ?_; rintro e w2 ⟨rfl, hbx⟩) | (go_at_call 233; (with_reducible refine (plcorner_any n c (prv n k) _ X ((k : Int) - 1) _ (HR.out.later (below_step hb hP)) (by omega) (prv_lt hlt) (corner_prev hlt) (by omega) (by omega) (by omega) (by omega)).mono ?_); rintro e w2 ⟨rfl, hbx⟩) | (go_at_call 233; (with_reducible refine (plcorner_any n c (nxt n k) _ X ((k : Int) + 1) _ (HR.out.later (below_step hb hP)) (by omega) (nxt_lt hlt) (corner_next hlt) (by omega) (by omega) (by omega) (by omega)).mono ?_); rintro e w2 ⟨rfl, hbx⟩) | (go_at_call 232; refine (plturn_any _ _ _ _ _ _ _ (HV.out _ (prv_lt hlt)) (HV.out k hlt) (HV.out _ (nxt_lt hlt)) HS.out).mono ?_; rintro e w2 ⟨rfl, hbx⟩) | skip)); refine hK.out _ _ (by first | assumption | exact below_step hP hbx | exact hP.drew | exact hP.alloc hP.size _) (fun hP => ?_); clear hK K))
      all_goals refine wpPlan_done ?_
      have hB2 := below_step hb hP
      clear hP r0 r1 z0 z1 jk jp
      by_cases hs0 : s = 0
      · have ds : (s == 0) = true := by simp [hs0]
        have NO := Lib.hid (show ¬ CornerOk n X k from fun h => h.2 (by unfold turnX; rw [HS.out]; exact hs0))
        clear hs0
        go_wp2_with fail
        go_returns
        exact ⟨ret_bool (by rw [← HD.out]; exact (decide_eq_false (fun h => NO.out (h.2.2.2.1 k hlt))).symm), hB2⟩
      · have ds : (s == 0) = false := by simp [hs0]
        have OK := Lib.hid (show CornerOk n X k from ⟨fun _ => OLT.out, by unfold turnX; rw [HS.out]; exact hs0⟩)
        clear hs0
        go_wp2_with fail
        go_roundw
        case rel => exact ⟨k + 1, by omega, by go_num, hB2, fun m hm => by
         rcases Nat.lt_or_ge m k with h | h
         · exact ALL.out m h
         · obtain rfl : m = k := by omega
           exact OK.out⟩
        case measure => simp [intOf]; omega
  · have dk : decide (0 < (k : Int)) = false := by simp; omega
    have dk2 : (k : Int) ≤ 0 := by omega
    have dkn : decide (0 < k) = false := by simp; omega
    go_wp2_with fail
    refine wp_region_plan (.take 0 (.take 0 (.take 0 (.take 0 (.take 0 (.take 0 (.take 0 (.take 0 (.take 0 (.take 0 (.only 0 (.take 0 (.take 0 (.take 0 (.take 0 (.take 0 (.take 0 (.take 1 (.take 1 (.take 1 (.take 1 (.take 1 (.take 1 (.take 1 (.only 0 (.only 0 (.only 0 (.take 0 (.take 0 .done))))))))))))))))))))))))))))) (by kernel_rfl) (by kernel_rfl) (fun hP => ?_)
    repeat' (first
     | (refine wpPlan_two ?_ ?_)
     | (refine wpPlan_three ?_ ?_ ?_)
     | (refine wpPlan_take rfl (fun K hK => ?_); replace hK := Lib.hid hK; go_simp; first | (refine hK.out _ ?_; clear hK K) | (apply Exists.intro; refine ⟨fun _ => ?_, hK.out _ ?_⟩; (first | with_reducible exact rfl | skip); clear hK K))
     | (refine wpPlan_only rfl (fun K hK => ?_); replace hK := Lib.hid hK; (first | (go_simp; first | (go_at_call 233; (with_reducible refine (plcorner_any n c (prv n k) _ X ((k : Int) - 1) _ (HR.out.later (below_step hb hP)) (by omega) (prv_lt hlt) (corner_prev hlt) (by omega) (by omega) (by omega) (by omega)).mono ?_); rintro e w2 ⟨rfl, hbx⟩) | (go_at_call 233; (with_reducible refine (plcorner_any n c (nxt n k) _ X ((k : Int) + 1) _ (HR.out.later (below_step hb hP)) (by omega) (nxt_lt hlt) (corner_next hlt) (by omega) (by omega) (by omega) (by omega)).mono ?_); rintro e w2 ⟨rfl, hbx⟩) | (go_at_call 232; refine (plturn_any _ _ _ _ _ _ _ (HV.out _ (prv_lt hlt)) (HV.out k hlt) (HV.out _ (nxt_lt hlt)) HS.out).mono ?_; rintro e w2 ⟨rfl, hbx⟩) | skip)); refine hK.out _ _ (by first | assumption | exact below_step hP hbx | exact hP.drew | exact hP.alloc hP.size _) (fun hP => ?_); clear hK K))
    all_goals refine wpPlan_done ?_
    have hB2 := below_step hb hP
    clear hP r0 r1 z0 z1 jk jp
    by_cases hs0 : s = 0
    · have ds : (s == 0) = true := by simp [hs0]
      have NO := Lib.hid (show ¬ CornerOk n X k from fun h => h.2 (by unfold turnX; rw [HS.out]; exact hs0))
      clear hs0
      go_wp2_with fail
      go_returns
      exact ⟨ret_bool (by rw [← HD.out]; exact (decide_eq_false (fun h => NO.out (h.2.2.2.1 k hlt))).symm), hB2⟩
    · have ds : (s == 0) = false := by simp [hs0]
      have OK := Lib.hid (show CornerOk n X k from ⟨fun h => absurd h (by omega), by unfold turnX; rw [HS.out]; exact hs0⟩)
      clear hs0
      go_wp2_with fail
      go_roundw
      case rel => exact ⟨k + 1, by omega, by go_num, hB2, fun m hm => by
       rcases Nat.lt_or_ge m k with h | h
       · exact ALL.out m h
       · obtain rfl : m = k := by omega
         exact OK.out⟩
      case measure => simp [intOf]; omega
end Go.Proofs.YtdmegkkifiahdaaGreat
