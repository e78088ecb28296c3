/- The walks of sheet.one: the integers of a feature. -/
import Derived.Test.YtdmegkkifiahdaaGreatShtB
import Derived.Test.YtdmegkkifiahdaaGreatKB
namespace Go.Proofs.YtdmegkkifiahdaaGreat
open Go.RowKit
attribute [local go_sem] bqOp bqAll bqUpon sqOp sqAll sqUpon ssOp ssAll
attribute [local irreducible] wpQuiet wpBQ wpPlan wsPlan
set_option linter.unusedVariables false
theorem shdisc_any (k : Int) (w : World) {v : Bool} (hv : decide (DiscK k) = v) : Calls Tryz.prog 118 #[.int .i64 k] w fun z w' => z = .returned (.bool v) ∧ Below w.heap.size w w' := by
  have HV := Lib.hid hv
  clear hv
  go_enter Tryz.func118, Tryz.ntmps118
  go_wp2
  all_goals
    go_returns
    exact ⟨ret_bool (by rw [← HV.out]; refine Bool.eq_iff_iff.2 ?_; simp only [decide_eq_true_eq]; unfold DiscK; simp; omega), by go_grown⟩
theorem encFeat_disc {f : Feat} (h : DiscK f.kind) : encFeat f = [f.id, f.kind, f.sym] ++ [f.x, f.y, f.rad, f.dep] := by unfold encFeat; rw [if_pos h]
theorem encFeat_light {f : Feat} (h : f.kind = 4) : encFeat f = [f.id, f.kind, f.sym] ++ [f.x, f.y] ++ putL encSec f.secs := by unfold encFeat; rw [if_neg (by unfold DiscK; omega), if_pos h, List.append_assoc]
theorem encFeat_area {f : Feat} (h : ¬ DiscK f.kind) (h4 : f.kind ≠ 4) : encFeat f = [f.id, f.kind, f.sym] ++ [f.dep] ++ putL encPt f.area := by unfold encFeat; rw [if_neg h, if_neg h4, List.append_assoc]
set_option maxHeartbeats 2000000 in
theorem shone_any (f : Feat) (aa ab : Option Addr) (ca cb : Nat) (w : World) (hA : PtsAt w (.slice aa f.area.length ca) f.area) (hS : SecsAt w (.slice ab f.secs.length cb) f.secs) (la : f.area.length ≤ 24) (ls : f.secs.length ≤ 12) :
    Calls Tryz.prog 217 #[featV f (.slice aa f.area.length ca) (.slice ab f.secs.length cb)] w (GivesL (encFeat f) w) := by
  obtain ⟨u, hu⟩ : ∃ u, decide (DiscK f.kind) = u := ⟨_, rfl⟩
  have HU := Lib.hid hu
  have HA := Lib.hid hA
  have HS := Lib.hid hS
  clear hu hA hS
  go_enter Tryz.func217, Tryz.ntmps217
  go_wp2_with fail
  refine calls_named fun W hW => ?_
  have O0 := Lib.hid (OwnI.lit (base := w.heap.size + 1) [f.id, f.kind, f.sym] hW (by simp) rfl (Nat.le_refl _) (by unfold maxLen; simp))
  obtain ⟨p1, p2, hB⟩ := box2 hW
  have hsW : W.heap.size = w.heap.size + 2 := by rw [hW]; simp
  clear hW p2
  have BX := Lib.hid (fun w' (h : Below (w.heap.size + 1) W w') => (h.block w.heap.size (by omega)).trans p1)
  have FC : ∀ w', Below (w.heap.size + 1) W w' → w'.cell? ⟨w.heap.size, 2, none⟩ = some (.int .i64 f.x) ∧ w'.cell? ⟨w.heap.size, 3, none⟩ = some (.int .i64 f.y) ∧ w'.cell? ⟨w.heap.size, 5, none⟩ = some (.slice aa f.area.length ca) ∧ w'.cell? ⟨w.heap.size, 6, none⟩ = some (.int .i64 f.dep) ∧ w'.cell? ⟨w.heap.size, 8, none⟩ = some (.slice ab f.secs.length cb) := fun w' h => ⟨cell_block (BX.out w' h) 2, cell_block (BX.out w' h) 3, cell_block (BX.out w' h) 5, cell_block (BX.out w' h) 6, cell_block (BX.out w' h) 8⟩
  replace FC := Lib.hid FC
  clear p1
  (with_reducible refine (shdisc_any _ _ HU.out).mono ?_)
  rintro e w1 ⟨rfl, hb1⟩
  have hs1 := hb1.size
  have hB1 := below_step hB hb1
  have O1 := Lib.hid (O0.out.keep hb1)
  have b1 := BX.out w1 (hb1.mono (by omega))
  cases u
  rotate_left
  · have E := Lib.hid (encFeat_disc (of_decide_eq_true HU.out))
    have c2 := cell_block b1 2
    have c3 := cell_block b1 3
    have c4 := cell_block b1 4
    have c6 := cell_block b1 6
    clear b1
    have O2 := Lib.hid (O1.out.keep ((Below.refl w1.heap.size w1).alloc (Nat.le_refl _) (.cells #[.int .i64 f.x, .int .i64 f.y, .int .i64 f.rad, .int .i64 f.dep] 3)))
    go_wp2_with (at_builtin; refine wpList_app rfl _ _ rfl (w.heap.size + 1) _ [f.id, f.kind, f.sym] [f.x, f.y, f.rad, f.dep] rfl O2.out _ 4 _ rfl rfl (lit_ints [f.x, f.y, f.rad, f.dep] rfl rfl rfl (by unfold maxLen; simp)) (by simp) (by simp; omega) ?_; intro ad3 c3 w3 hown3 hb3)
    have O3 := Lib.hid hown3
    have hB3 : Below w.heap.size w w3 := (hB1.trans ((Below.refl w.heap.size w1).alloc (by omega) _)).trans (hb3.mono (by omega))
    clear hown3 hb3
    go_wp2_with fail
    go_returns
    rw [E.out]
    exact ⟨ad3, c3, rfl, O3.out.ints (by simp), hB3⟩
  have ND := of_decide_eq_false HU.out
  have c1 := cell_block b1 1
  clear b1
  by_cases h4 : f.kind = 4
  · have E := Lib.hid (encFeat_light h4)
    have d4 : (f.kind == 4) = true := by simp [h4]
    clear h4
    go_wp2_with fail
    refine wp_region_planS (Below (w.heap.size + 1) W) (.take 0 (.take 0 (.take 0 (.take 0 (.take 0 (.take 0 (.take 0 (.take 2 (.take 2 (.only 0 (.only 0 (.only 0 (.take 0 .done))))))))))))) (by kernel_rfl) (by kernel_rfl) ((hb1.mono (by omega)).drew) (fun hP => ?_)
    repeat' (first
      | (refine wsPlan_two ?_ ?_)
      | (refine wsPlan_three ?_ ?_ ?_)
      | (refine wsPlan_take rfl (fun K hK => ?_); replace hK := Lib.hid hK; go_simp; first | (refine hK.out _ ?_; clear hK K) | (apply Exists.intro; refine ⟨fun w' hw => ?_, hK.out _ ?_⟩; (first | with_reducible exact rfl | (obtain ⟨fc2, fc3, fc5, fc6, fc8⟩ := FC.out w' hw; go_simp; exact rfl)); clear hK K))
      | (refine wsPlan_only rfl (fun K hK => ?_); replace hK := Lib.hid hK; (first | ((refine step_app (by rfl) _ _ (by rfl) (w.heap.size + 1) _ [f.id, f.kind, f.sym] [f.x, f.y] (by rfl) (O1.out.keep (((Below.refl w1.heap.size w1).alloc (Nat.le_refl _) _).drew)) _ 2 _ (by rfl) rfl (lit_ints (w := w1.drew) [f.x, f.y] (by rfl) (by rfl) rfl (by unfold maxLen; simp)) (by simp) (by have := hP.size; omega) ?_); intro ad3 c3 w3 hown3 hb3; have hown4 : OwnI (w.heap.size + 1) w3 (.slice ad3 5 c3) ([f.id, f.kind, f.sym] ++ [f.x, f.y]) := hown3) | (go_simp; first | (go_at_call 310; refine (shputS_any (w.heap.size + 1) _ ([f.id, f.kind, f.sym] ++ [f.x, f.y]) f.secs _ w _ hown4 HS.out (Nat.le_succ _) (hB.trans (hP.mono (Nat.le_succ _))) (by have := hP.size; omega) (by simp; omega)).mono ?_; rintro e w4 ⟨ad5, c5, rfl, hown5, hb5⟩) | skip)); refine hK.out _ _ (by first | assumption | exact hP.trans hb5 | exact hP.trans hb3 | exact hP.alloc (by have := hP.size; omega) _ | exact hP) (fun hP => ?_); clear hK K))
    all_goals refine wsPlan_done ?_
    have O6 := Lib.hid hown5
    have hB6 : Below w.heap.size w w4 := hB.trans (hP.mono (Nat.le_succ _))
    clear hown3 hown4 hown5 hb3 hb5
    go_wp2_with fail
    go_returns
    rw [E.out]
    exact ⟨ad5, c5, rfl, O6.out.ints (by
      have := flat_lenS encSec 6 f.secs (fun x _ => by simp [encSec])
      simp only [putL, List.length_append, List.length_cons, List.length_nil]
      omega), hB6⟩
  · have E := Lib.hid (encFeat_area ND h4)
    have d4 : (f.kind == 4) = false := by simpa using h4
    clear h4
    go_wp2_with fail
    refine wp_region_planS (Below (w.heap.size + 1) W) (.take 0 (.take 0 (.take 0 (.take 2 (.take 2 (.only 0 (.only 0 (.only 0 (.take 0 .done))))))))) (by kernel_rfl) (by kernel_rfl) ((hb1.mono (by omega)).drew) (fun hP => ?_)
    repeat' (first
      | (refine wsPlan_two ?_ ?_)
      | (refine wsPlan_three ?_ ?_ ?_)
      | (refine wsPlan_take rfl (fun K hK => ?_); replace hK := Lib.hid hK; go_simp; first | (refine hK.out _ ?_; clear hK K) | (apply Exists.intro; refine ⟨fun w' hw => ?_, hK.out _ ?_⟩; (first | with_reducible exact rfl | (obtain ⟨fc2, fc3, fc5, fc6, fc8⟩ := FC.out w' hw; go_simp; exact rfl)); clear hK K))
      | (refine wsPlan_only rfl (fun K hK => ?_); replace hK := Lib.hid hK; (first | ((refine step_app (by rfl) _ _ (by rfl) (w.heap.size + 1) _ [f.id, f.kind, f.sym] [f.dep] (by rfl) (O1.out.keep (((Below.refl w1.heap.size w1).alloc (Nat.le_refl _) _).drew)) _ 1 _ (by rfl) rfl (lit_ints (w := w1.drew) [f.dep] (by rfl) (by rfl) rfl (by unfold maxLen; simp)) (by simp) (by have := hP.size; omega) ?_); intro ad3 c3 w3 hown3 hb3; have hown4 : OwnI (w.heap.size + 1) w3 (.slice ad3 4 c3) ([f.id, f.kind, f.sym] ++ [f.dep]) := hown3) | (go_simp; first | (go_at_call 312; refine (shputP_any (w.heap.size + 1) _ ([f.id, f.kind, f.sym] ++ [f.dep]) f.area _ w _ hown4 HA.out (Nat.le_succ _) (hB.trans (hP.mono (Nat.le_succ _))) (by have := hP.size; omega) (by simp; omega)).mono ?_; rintro e w4 ⟨ad5, c5, rfl, hown5, hb5⟩) | skip)); refine hK.out _ _ (by first | assumption | exact hP.trans hb5 | exact hP.trans hb3 | exact hP.alloc (by have := hP.size; omega) _ | exact hP) (fun hP => ?_); clear hK K))
    all_goals refine wsPlan_done ?_
    have O6 := Lib.hid hown5
    have hB6 : Below w.heap.size w w4 := hB.trans (hP.mono (Nat.le_succ _))
    clear hown3 hown4 hown5 hb3 hb5
    go_wp2_with fail
    go_returns
    rw [E.out]
    exact ⟨ad5, c5, rfl, O6.out.ints (by
      have := flat_lenS encPt 2 f.area (fun x _ => by simp [encPt])
      simp only [putL, List.length_append, List.length_cons, List.length_nil]
      omega), hB6⟩
end Go.Proofs.YtdmegkkifiahdaaGreat
