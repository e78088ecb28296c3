/- The walks of poly.In, of the shapes' covers, and of feature.of. -/
import Derived.Test.YtmhgcmcifdclmaaGreatFeatC
namespace Go.Proofs.YtmhgcmcifdclmaaGreat
open Go.RowKit Go.Shelf
attribute [local go_sem] bqOp bqAll bqUpon sqOp sqAll sqUpon
attribute [local irreducible] wpQuiet wpBQ wpPlan
set_option linter.unusedVariables false
theorem plIn_yes (qx qy : Int) (n c : Nat) (ad : Option Addr) (X : Nat → Nat → Int) (w : World) (hq : Vld qx qy) (hR : Rows 2 w (.slice ad n c) n X) (hn : n ≤ 9223372036854775807) (hp : PolyOk n X) {v : Int} (hv : placeI n X qx qy = v) :
    Calls Tryz.prog 366 #[.agg #[.int .i64 qx, .int .i64 qy], .slice ad n c] w fun e w' => e = .returned (.tuple #[.int .i64 v, .int .i64 0]) ∧ Below w.heap.size w w' := by
  have HQ := Lib.hid hq
  have HP := Lib.hid hp
  have HR := Lib.hid hR
  have HV := Lib.hid hv
  obtain ⟨_, h24, hvs, _⟩ := hp
  have HVS := Lib.hid hvs
  clear hq hR hv hvs
  go_enter Tryz.func366, Tryz.ntmps366
  go_wp2_with fail
  refine calls_named fun W hW => ?_
  obtain ⟨p1, hB⟩ := box1 hW
  clear hW
  (with_reducible refine (hpValid_any _ _ _ (decide_eq_true HQ.out)).mono ?_)
  rintro e w1 ⟨rfl, hb1⟩
  have hB1 := below_step hB hb1
  have p2 := block_later hb1 p1
  go_wp2_with fail
  (with_reducible refine (plValid_any _ _ _ _ _ (HR.out.later hB1) hn (decide_eq_true HP.out)).mono ?_)
  rintro e w2 ⟨rfl, hb2⟩
  have hB2 := below_step hB1 hb2
  have p3 := block_later hb2 p2
  have c0 := cell_block p3 0
  have c1 := cell_block p3 1
  clear p1 p2 p3
  go_wp2_with fail
  (with_reducible refine (plplace_any _ _ _ _ _ _ _ (HR.out.later hB2) (by omega) HVS.out HQ.out HV.out).mono ?_)
  rintro e w3 ⟨rfl, hb3⟩
  go_wp2_with fail
  go_ret2
  exact ⟨rfl, below_step hB2 hb3⟩
theorem ftLcov_any (x y qx qy : Int) (w : World) : Calls Tryz.prog 359 #[.agg #[.int .i64 x, .int .i64 y], .agg #[.int .i64 qx, .int .i64 qy]] w fun e w' => e = .returned (.bool false) ∧ Below w.heap.size w w' := by
  go_enter Tryz.func359, Tryz.ntmps359
  go_wp2
  go_returns
  exact ⟨rfl, by go_grown⟩
theorem ftDcov_any (x y r qx qy : Int) (w : World) (hp : Vld x y) (hq : Vld qx qy) (h0 : 0 ≤ r) (h1 : r ≤ 100000) {v : Bool} (hv : nearB qx qy x y x y r = v) : Calls Tryz.prog 368 #[.agg #[.int .i64 x, .int .i64 y, .int .i64 r], .agg #[.int .i64 qx, .int .i64 qy]] w fun e w' => e = .returned (.bool v) ∧ Below w.heap.size w w' := by
  have HP := Lib.hid hp
  have HQ := Lib.hid hq
  have HV := Lib.hid hv
  clear hp hq hv
  go_enter Tryz.func368, Tryz.ntmps368
  go_wp2_with fail
  refine calls_named fun W hW => ?_
  obtain ⟨p1, p2, hB⟩ := box2 hW
  clear hW
  (with_reducible refine (Near_yes _ _ _ _ _ _ _ _ HQ.out HP.out HP.out ⟨h0, by omega⟩ HV.out).mono ?_)
  rintro e w1 ⟨rfl, hb1⟩
  cases v
  · go_wp2_with fail
    go_returns
    exact ⟨rfl, below_step hB hb1⟩
  · go_wp2_with fail
    go_returns
    exact ⟨rfl, below_step hB hb1⟩
theorem ftAcov_any (n c : Nat) (ad : Option Addr) (X : Nat → Nat → Int) (qx qy : Int) (w : World) (hq : Vld qx qy) (hR : Rows 2 w (.slice ad n c) n X) (hn : n ≤ 9223372036854775807) (hp : PolyOk n X) {v : Bool} (hv : decide (0 ≤ placeI n X qx qy) = v) : Calls Tryz.prog 363 #[.slice ad n c, .agg #[.int .i64 qx, .int .i64 qy]] w fun e w' => e = .returned (.bool v) ∧ Below w.heap.size w w' := by
  obtain ⟨pl, hpl⟩ : ∃ p, placeI n X qx qy = p := ⟨_, rfl⟩
  rw [hpl] at hv
  have PL := Lib.hid hpl
  have HP := Lib.hid hp
  have HQ := Lib.hid hq
  have HR := Lib.hid hR
  have HV := Lib.hid hv
  clear hp hq hv hR hpl
  go_enter Tryz.func363, Tryz.ntmps363
  go_wp2_with fail
  refine calls_named fun W hW => ?_
  obtain ⟨p1, hB⟩ := box1 hW
  clear hW
  (with_reducible refine (plIn_yes _ _ _ _ _ _ _ HQ.out (HR.out.later hB) hn HP.out PL.out).mono ?_)
  rintro e w1 ⟨rfl, hb1⟩
  go_wp2_with fail
  go_returns
  exact ⟨ret_bool HV.out, below_step hB hb1⟩
/-- The shape of a feature. -/
def shapeV (f : Feat) (va : Value) : Value := if f.kind = 4 then .iface 216 (.agg #[.int .i64 f.x, .int .i64 f.y]) else if f.kind = 3 ∨ f.kind = 6 then .iface 217 va else .iface 219 (.agg #[.int .i64 f.x, .int .i64 f.y, .int .i64 f.rad])
theorem ftof_any (f : Feat) (aa ab : Option Addr) (na ca ns cs : Nat) (w : World) : Calls Tryz.prog 72 #[featV f (.slice aa na ca) (.slice ab ns cs)] w fun e w' => e = .returned (shapeV f (.slice aa na ca)) ∧ Below w.heap.size w w' := by
  unfold shapeV
  by_cases h4 : f.kind = 4
  · rw [if_pos h4]
    have d : (f.kind == 4) = true := by simp [h4]
    clear h4
    go_enter Tryz.func72, Tryz.ntmps72
    go_wp2
    go_returns
    exact ⟨rfl, by go_grown⟩
  rw [if_neg h4]
  have d4 : (f.kind == 4) = false := by simpa using h4
  by_cases h3 : f.kind = 3
  · rw [if_pos (.inl h3)]
    have d : (f.kind == 3) = true := by simp [h3]
    clear h4 h3
    go_enter Tryz.func72, Tryz.ntmps72
    go_wp2
    go_returns
    exact ⟨rfl, by go_grown⟩
  have d3 : (f.kind == 3) = false := by simpa using h3
  by_cases h6 : f.kind = 6
  · rw [if_pos (.inr h6)]
    have d : (f.kind == 6) = true := by simp [h6]
    clear h4 h3 h6
    go_enter Tryz.func72, Tryz.ntmps72
    go_wp2
    go_returns
    exact ⟨rfl, by go_grown⟩
  · rw [if_neg (by omega)]
    have d : (f.kind == 6) = false := by simpa using h6
    clear h4 h3 h6
    go_enter Tryz.func72, Tryz.ntmps72
    go_wp2
    go_returns
    exact ⟨rfl, by go_grown⟩
theorem m_light (n : Nat) (x y : Int) (w : World) : (method (n + 1) 216 (.agg #[.int .i64 x, .int .i64 y]) "seamark/feature.covers").run Tryz.prog w = .ok (359, .agg #[.int .i64 x, .int .i64 y]) w := by kernel_rfl
theorem m_area (n : Nat) (ad : Option Addr) (k c : Nat) (w : World) : (method (n + 1) 217 (.slice ad k c) "seamark/feature.covers").run Tryz.prog w = .ok (363, .slice ad k c) w := by kernel_rfl
theorem m_disc (n : Nat) (x y r : Int) (w : World) : (method (n + 1) 219 (.agg #[.int .i64 x, .int .i64 y, .int .i64 r]) "seamark/feature.covers").run Tryz.prog w = .ok (368, .agg #[.int .i64 x, .int .i64 y, .int .i64 r]) w := by kernel_rfl
theorem c_light (args : Array Value) (w : World) : (callFunc 359 args).run Tryz.prog w = .ok (.enter 359 args) w := enters_of Tryz.func359 (by kernel_rfl) rfl args w
theorem c_area (args : Array Value) (w : World) : (callFunc 363 args).run Tryz.prog w = .ok (.enter 363 args) w := enters_of Tryz.func363 (by kernel_rfl) rfl args w
theorem c_disc (args : Array Value) (w : World) : (callFunc 368 args).run Tryz.prog w = .ok (.enter 368 args) w := enters_of Tryz.func368 (by kernel_rfl) rfl args w
/-- Calling covers on the shape of a valid feature. -/
theorem shape_covers (f : Feat) (aa : Option Addr) (ca : Nat) (qx qy : Int) (w : World) (hf : FeatOk f) (hA : PtsAt w (.slice aa f.area.length ca) f.area) (hq : Vld qx qy) :
    ∃ T recv fn, shapeV f (.slice aa f.area.length ca) = .iface T recv ∧ (∀ n w', (method (n + 1) T recv "seamark/feature.covers").run Tryz.prog w' = .ok (fn, recv) w') ∧ (∀ args w', (callFunc fn args).run Tryz.prog w' = .ok (.enter fn args) w') ∧
      ∀ w', Below w.heap.size w w' → Calls Tryz.prog fn #[recv, .agg #[.int .i64 qx, .int .i64 qy]] w' fun e w'' => e = .returned (.bool (covB f qx qy)) ∧ Below w'.heap.size w' w'' := by
  obtain ⟨⟨_, _, _, hr0, hr1⟩, hk⟩ := hf
  unfold shapeV covB
  by_cases h4 : f.kind = 4
  · rw [if_pos h4, if_pos h4]
    exact ⟨_, _, _, rfl, fun n w' => m_light n _ _ w', fun args w' => c_light args w', fun w' _ => ftLcov_any _ _ _ _ w'⟩
  rw [if_neg h4, if_neg h4]
  unfold FormR at hk
  by_cases h3 : f.kind = 3 ∨ f.kind = 6
  · rw [if_pos h3, if_pos h3]
    have hp : PolyOk f.area.length (ptX f.area) := by
      rw [if_neg (by unfold DiscK; omega)] at hk
      split at hk
      · exact hk.1
      · exact absurd hk.1 h4
    obtain ⟨_, _, _, hL, h63, _⟩ := Lists.form hA
    exact ⟨_, _, _, rfl, fun n w' => m_area n _ _ _ w', fun args w' => c_area args w', fun w' hb => ftAcov_any _ _ _ _ _ _ w' hq (Lists.later hA hb).rows h63 hp rfl⟩
  · rw [if_neg h3, if_neg h3]
    have hv : Vld f.x f.y := by
      split at hk
      · exact hk.1
      · split at hk
        · omega
        · exact absurd hk.1 h4
    exact ⟨_, _, _, rfl, fun n w' => m_disc n _ _ _ w', fun args w' => c_disc args w', fun w' _ => ftDcov_any _ _ _ _ _ w' hv hq hr0 hr1 rfl⟩
theorem ftCovers_yes (f : Feat) (aa ab : Option Addr) (ca cb : Nat) (qx qy : Int) (w : World) (hf : FeatOk f) (hA : PtsAt w (.slice aa f.area.length ca) f.area) (hS : SecsAt w (.slice ab f.secs.length cb) f.secs) (hq : Vld qx qy) :
    Calls Tryz.prog 23 #[featV f (.slice aa f.area.length ca) (.slice ab f.secs.length cb), .agg #[.int .i64 qx, .int .i64 qy]] w fun e w' => e = .returned (.tuple #[.bool (covB f qx qy), .int .i64 0]) ∧ Below w.heap.size w w' := by
  obtain ⟨T, recv, fn, hsh, hm, hcf, hc⟩ := shape_covers f aa ca qx qy w hf hA hq
  obtain ⟨cv, hcv⟩ : ∃ c, covB f qx qy = c := ⟨_, rfl⟩
  rw [hcv] at hc ⊢
  clear hcv
  have HSH := Lib.hid hsh
  have HM : ∀ w', (method 474 T recv "seamark/feature.covers").run Tryz.prog w' = .ok (fn, recv) w' := fun w' => hm _ w'
  have HC := Lib.hid hc
  have HF := Lib.hid hf
  have HA := Lib.hid hA
  have HS := Lib.hid hS
  have HQ := Lib.hid hq
  clear hf hA hS hq hsh hm hc
  go_enter Tryz.func23, Tryz.ntmps23
  go_wp2_with fail
  refine calls_named fun W hW => ?_
  obtain ⟨p1, p2, hB⟩ := box2 hW
  clear hW
  (with_reducible refine (ftValid_any f _ _ _ (ptsL HA.out hB) (secsL HS.out hB) (decide_eq_true HF.out)).mono ?_)
  rintro e w1 ⟨rfl, hb1⟩
  have hB1 := below_step hB hb1
  have r1 := block_later hb1 p1
  have r2 := block_later hb1 p2
  have c0 := cell_block r2 0
  have c1 := cell_block r2 1
  go_wp2_with fail
  (with_reducible refine (hpValid_any _ _ _ (decide_eq_true HQ.out)).mono ?_)
  rintro e w2 ⟨rfl, hb2⟩
  have hB2 := below_step hB1 hb2
  have s1 := block_later hb2 r1
  have s2 := block_later hb2 r2
  clear c0 c1 r1 r2 p1 p2 hB1 hb1 hb2 hB
  have q1 := cellsR s1
  have q2 := cellsR s2
  go_wp2_with fail
  refine wp_region_plan (.take 0 (.take 1 (.only 0 (.only 0 (.take 0 (.take 0 .done)))))) (by kernel_rfl) (by kernel_rfl) (fun hP => ?_)
  repeat' (first
    | (refine wpPlan_two ?_ ?_)
    | (refine wpPlan_three ?_ ?_ ?_)
    | (refine wpPlan_take rfl (fun K hK => ?_); replace hK := Lib.hid hK; go_simp; first | (refine hK.out _ ?_; clear hK K) | (apply Exists.intro; refine ⟨fun _ => ?_, hK.out _ ?_⟩; (first | with_reducible exact rfl | skip); clear hK K))
    | (refine wpPlan_only rfl (fun K hK => ?_); replace hK := Lib.hid hK; (first | (go_simp; first | (go_at_call 72; (with_reducible refine (ftof_any f aa ab f.area.length ca f.secs.length cb _).mono ?_); rintro e w3 ⟨rfl, hbx⟩; rw [HSH.out]) | (refine (HC.out _ (below_step hB2 hP)).mono ?_; rintro e w4 ⟨rfl, hbx⟩) | skip)); refine hK.out _ _ (by first | assumption | exact below_step hP hbx | exact hP.drew | exact hP.alloc hP.size _) (fun hP => ?_); clear hK K))
  all_goals refine wpPlan_done ?_
  have hB3 := below_step hB2 hP
  go_wp2_with fail
  go_ret2
  exact ⟨rfl, hB3⟩
end Go.Proofs.YtmhgcmcifdclmaaGreat
