/- The walks of poly.In, of the shapes' covers, and of feature.of. -/
import Derived.Test.YtdmegkkifiahdaaGreatFeatC
namespace Go.Proofs.YtdmegkkifiahdaaGreat
open Go.RowKit Go.Shelf
attribute [local go_sem] bqOp bqAll bqUpon sqOp sqAll sqUpon
attribute [local irreducible] wpQuiet wpBQ wpPlan
set_option linter.unusedVariables false
theorem plIn_yes (qx qy : Int) (n c : Nat) (ad : Option Addr) (X : Nat → Nat → Int) (w : World) (hq : Vld qx qy) (hR : Rows 2 w (.slice ad n c) n X) (hn : n ≤ 9223372036854775807) (hp : PolyOk n X) {v : Int} (hv : placeI n X qx qy = v) :
    Calls Tryz.prog 443 #[.agg #[.int .i64 qx, .int .i64 qy], .slice ad n c] w fun e w' => e = .returned (.tuple #[.int .i64 v, .int .i64 0]) ∧ Below w.heap.size w w' := by
  have HQ := Lib.hid hq
  have HP := Lib.hid hp
  have HR := Lib.hid hR
  have HV := Lib.hid hv
  obtain ⟨_, h24, hvs, _⟩ := hp
  have HVS := Lib.hid hvs
  clear hq hR hv hvs
  go_enter Tryz.func443, Tryz.ntmps443
  go_wp2_with fail
  refine calls_named fun W hW => ?_
  obtain ⟨p1, hB⟩ := box1 hW
  clear hW
  (with_reducible refine (hpValid_any _ _ _ (decide_eq_true HQ.out)).mono ?_)
  rintro e w1 ⟨rfl, hb1⟩
  have hB1 := below_step hB hb1
  have p2 := block_later hb1 p1
  go_wp2_with fail
  (with_reducible refine (plValid_any _ _ _ _ _ (HR.out.later hB1) hn (decide_eq_true HP.out)).mono ?_)
  rintro e w2 ⟨rfl, hb2⟩
  have hB2 := below_step hB1 hb2
  have p3 := block_later hb2 p2
  have c0 := cell_block p3 0
  have c1 := cell_block p3 1
  clear p1 p2 p3
  go_wp2_with fail
  (with_reducible refine (plplace_any _ _ _ _ _ _ _ (HR.out.later hB2) (by omega) HVS.out HQ.out HV.out).mono ?_)
  rintro e w3 ⟨rfl, hb3⟩
  go_wp2_with fail
  go_ret2
  exact ⟨rfl, below_step hB2 hb3⟩
theorem ftLcov_any (x y qx qy : Int) (w : World) : Calls Tryz.prog 436 #[.agg #[.int .i64 x, .int .i64 y], .agg #[.int .i64 qx, .int .i64 qy]] w fun e w' => e = .returned (.bool false) ∧ Below w.heap.size w w' := by
  go_enter Tryz.func436, Tryz.ntmps436
  go_wp2
  go_returns
  exact ⟨rfl, by go_grown⟩
theorem ftDcov_any (x y r qx qy : Int) (w : World) (hp : Vld x y) (hq : Vld qx qy) (h0 : 0 ≤ r) (h1 : r ≤ 100000) {v : Bool} (hv : nearB qx qy x y x y r = v) : Calls Tryz.prog 445 #[.agg #[.int .i64 x, .int .i64 y, .int .i64 r], .agg #[.int .i64 qx, .int .i64 qy]] w fun e w' => e = .returned (.bool v) ∧ Below w.heap.size w w' := by
  have HP := Lib.hid hp
  have HQ := Lib.hid hq
  have HV := Lib.hid hv
  clear hp hq hv
  go_enter Tryz.func445, Tryz.ntmps445
  go_wp2_with fail
  refine calls_named fun W hW => ?_
  obtain ⟨p1, p2, hB⟩ := box2 hW
  clear hW
  (with_reducible refine (Near_yes _ _ _ _ _ _ _ _ HQ.out HP.out HP.out ⟨h0, by omega⟩ HV.out).mono ?_)
  rintro e w1 ⟨rfl, hb1⟩
  cases v
  · go_wp2_with fail
    go_returns
    exact ⟨rfl, below_step hB hb1⟩
  · go_wp2_with fail
    go_returns
    exact ⟨rfl, below_step hB hb1⟩
theorem ftAcov_any (n c : Nat) (ad : Option Addr) (X : Nat → Nat → Int) (qx qy : Int) (w : World) (hq : Vld qx qy) (hR : Rows 2 w (.slice ad n c) n X) (hn : n ≤ 9223372036854775807) (hp : PolyOk n X) {v : Bool} (hv : decide (0 ≤ placeI n X qx qy) = v) : Calls Tryz.prog 440 #[.slice ad n c, .agg #[.int .i64 qx, .int .i64 qy]] w fun e w' => e = .returned (.bool v) ∧ Below w.heap.size w w' := by
  obtain ⟨pl, hpl⟩ : ∃ p, placeI n X qx qy = p := ⟨_, rfl⟩
  rw [hpl] at hv
  have PL := Lib.hid hpl
  have HP := Lib.hid hp
  have HQ := Lib.hid hq
  have HR := Lib.hid hR
  have HV := Lib.hid hv
  clear hp hq hv hR hpl
  go_enter Tryz.func440, Tryz.ntmps440
  go_wp2_with fail
  refine calls_named fun W hW => ?_
  obtain ⟨p1, hB⟩ := box1 hW
  clear hW
  (with_reducible refine (plIn_yes _ _ _ _ _ _ _ HQ.out (HR.out.later hB) hn HP.out PL.out).mono ?_)
  rintro e w1 ⟨rfl, hb1⟩
  go_wp2_with fail
  go_returns
  exact ⟨ret_bool HV.out, below_step hB hb1⟩
/-- The shape of a feature. -/
def shapeV (f : Feat) (va : Value) : Value := if f.kind = 4 then .iface 316 (.agg #[.int .i64 f.x, .int .i64 f.y]) else if f.kind = 3 ∨ f.kind = 6 then .iface 317 va else .iface 319 (.agg #[.int .i64 f.x, .int .i64 f.y, .int .i64 f.rad])
theorem ftof_any (f : Feat) (aa ab : Option Addr) (na ca ns cs : Nat) (w : World) : Calls Tryz.prog 168 #[featV f (.slice aa na ca) (.slice ab ns cs)] w fun e w' => e = .returned (shapeV f (.slice aa na ca)) ∧ Below w.heap.size w w' := by
  unfold shapeV
  by_cases h4 : f.kind = 4
  · rw [if_pos h4]
    have d : (f.kind == 4) = true := by simp [h4]
    clear h4
    go_enter Tryz.func168, Tryz.ntmps168
    go_wp2
    go_returns
    exact ⟨rfl, by go_grown⟩
  rw [if_neg h4]
  have d4 : (f.kind == 4) = false := by simpa using h4
  by_cases h3 : f.kind = 3
  · rw [if_pos (.inl h3)]
    have d : (f.kind == 3) = true := by simp [h3]
    clear h4 h3
    go_enter Tryz.func168, Tryz.ntmps168
    go_wp2
    go_returns
    exact ⟨rfl, by go_grown⟩
  have d3 : (f.kind == 3) = false := by simpa using h3
  by_cases h6 : f.kind = 6
  · rw [if_pos (.inr h6)]
    have d : (f.kind == 6) = true := by simp [h6]
    clear h4 h3 h6
    go_enter Tryz.func168, Tryz.ntmps168
    go_wp2
    go_returns
    exact ⟨rfl, by go_grown⟩
  · rw [if_neg (by omega)]
    have d : (f.kind == 6) = false := by simpa using h6
    clear h4 h3 h6
    go_enter Tryz.func168, Tryz.ntmps168
    go_wp2
    go_returns
    exact ⟨rfl, by go_grown⟩
theorem m_light (n : Nat) (x y : Int) (w : World) : (method (n + 1) 316 (.agg #[.int .i64 x, .int .i64 y]) "seamark/feature.covers").run Tryz.prog w = .ok (436, .agg #[.int .i64 x, .int .i64 y]) w := by kernel_rfl
theorem m_area (n : Nat) (ad : Option Addr) (k c : Nat) (w : World) : (method (n + 1) 317 (.slice ad k c) "seamark/feature.covers").run Tryz.prog w = .ok (440, .slice ad k c) w := by kernel_rfl
theorem m_disc (n : Nat) (x y r : Int) (w : World) : (method (n + 1) 319 (.agg #[.int .i64 x, .int .i64 y, .int .i64 r]) "seamark/feature.covers").run Tryz.prog w = .ok (445, .agg #[.int .i64 x, .int .i64 y, .int .i64 r]) w := by kernel_rfl
theorem c_light (args : Array Value) (w : World) : (callFunc 436 args).run Tryz.prog w = .ok (.enter 436 args) w := enters_of Tryz.func436 (by kernel_rfl) rfl args w
theorem c_area (args : Array Value) (w : World) : (callFunc 440 args).run Tryz.prog w = .ok (.enter 440 args) w := enters_of Tryz.func440 (by kernel_rfl) rfl args w
theorem c_disc (args : Array Value) (w : World) : (callFunc 445 args).run Tryz.prog w = .ok (.enter 445 args) w := enters_of Tryz.func445 (by kernel_rfl) rfl args w
/-- Calling covers on the shape of a valid feature. -/
theorem shape_covers (f : Feat) (aa : Option Addr) (ca : Nat) (qx qy : Int) (w : World) (hf : FeatOk f) (hA : PtsAt w (.slice aa f.area.length ca) f.area) (hq : Vld qx qy) :
    ∃ T recv fn, shapeV f (.slice aa f.area.length ca) = .iface T recv ∧ (∀ n w', (method (n + 1) T recv "seamark/feature.covers").run Tryz.prog w' = .ok (fn, recv) w') ∧ (∀ args w', (callFunc fn args).run Tryz.prog w' = .ok (.enter fn args) w') ∧
      ∀ w', Below w.heap.size w w' → Calls Tryz.prog fn #[recv, .agg #[.int .i64 qx, .int .i64 qy]] w' fun e w'' => e = .returned (.bool (covB f qx qy)) ∧ Below w'.heap.size w' w'' := by
  obtain ⟨⟨_, _, _, hr0, hr1⟩, hk⟩ := hf
  unfold shapeV covB
  by_cases h4 : f.kind = 4
  · rw [if_pos h4, if_pos h4]
    exact ⟨_, _, _, rfl, fun n w' => m_light n _ _ w', fun args w' => c_light args w', fun w' _ => ftLcov_any _ _ _ _ w'⟩
  rw [if_neg h4, if_neg h4]
  unfold FormR at hk
  by_cases h3 : f.kind = 3 ∨ f.kind = 6
  · rw [if_pos h3, if_pos h3]
    have hp : PolyOk f.area.length (ptX f.area) := by
      rw [if_neg (by unfold DiscK; omega)] at hk
      split at hk
      · exact hk.1
      · exact absurd hk.1 h4
    obtain ⟨_, _, _, hL, h63, _⟩ := Lists.form hA
    exact ⟨_, _, _, rfl, fun n w' => m_area n _ _ _ w', fun args w' => c_area args w', fun w' hb => ftAcov_any _ _ _ _ _ _ w' hq (Lists.later hA hb).rows h63 hp rfl⟩
  · rw [if_neg h3, if_neg h3]
    have hv : Vld f.x f.y := by
      split at hk
      · exact hk.1
      · split at hk
        · omega
        · exact absurd hk.1 h4
    exact ⟨_, _, _, rfl, fun n w' => m_disc n _ _ _ w', fun args w' => c_disc args w', fun w' _ => ftDcov_any _ _ _ _ _ w' hv hq hr0 hr1 rfl⟩
end Go.Proofs.YtdmegkkifiahdaaGreat
