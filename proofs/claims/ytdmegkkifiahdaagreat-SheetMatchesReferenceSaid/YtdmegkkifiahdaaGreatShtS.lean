/- The walk of sheet.Shown. -/
import Derived.Test.YtdmegkkifiahdaaGreatShtA
namespace Go.Proofs.YtdmegkkifiahdaaGreat
open Go.RowKit
attribute [local go_sem] bqOp bqAll bqUpon sqOp sqAll sqUpon ssOp ssAll
attribute [local irreducible] wpQuiet wpBQ wpPlan wsPlan
set_option linter.unusedVariables false
theorem shShown_no (s : Sht) (vd vf : Value) (qx qy : Int) (w : World) (hd : IntsAt w vd s.don) (hf : FeatsAt w vf s.feats) (hn : ¬ (ShtOk s ∧ Vld qx qy)) :
    Calls Tryz.prog 44 #[shtV s vd vf, .agg #[.int .i64 qx, .int .i64 qy]] w fun z w' => z = .returned (.tuple #[.int .i64 0, .int .i64 1]) ∧ Below w.heap.size w w' := by
  obtain ⟨ad, cd, rfl, h1, _, _⟩ := Lists.form hd
  obtain ⟨af, cf, rfl, g1, _, _⟩ := hf.form
  obtain ⟨u, hu⟩ : ∃ k, decide (ShtOk s) = k := ⟨_, rfl⟩
  have HN : Hid (u = true → ¬ (FeatsOk s.feats ∧ Vld qx qy)) := Lib.hid (fun e k => by subst e; exact hn ⟨of_decide_eq_true hu, k.2⟩)
  have HU := Lib.hid hu
  have HD := Lib.hid hd
  have HF := Lib.hid hf
  clear hd hf h1 g1 hn hu
  go_enter Tryz.func44, Tryz.ntmps44
  go_wp2_with fail
  refine calls_named fun W hW => ?_
  obtain ⟨p1, p2, hB⟩ := box2 hW
  clear hW
  (with_reducible refine (shValid_any s _ _ _ (intsL HD.out hB) (HF.out.later hB) HU.out).mono ?_)
  rintro e w1 ⟨rfl, hb1⟩
  have hB1 := below_step hB hb1
  have c12 := cell_block (block_later hb1 p1) 12
  have e0 := cell_block (block_later hb1 p2) 0
  have e1 := cell_block (block_later hb1 p2) 1
  cases u
  · go_wp2_with fail
    go_ret2
    exact ⟨rfl, hB1⟩
  have NO := Lib.hid (HN.out rfl)
  go_wp2_with fail
  (with_reducible refine (ftShown_no s.feats _ _ _ _ (HF.out.later hB1) NO.out).mono ?_)
  rintro e w2 ⟨rfl, hb2⟩
  go_wp2_with fail
  go_ret2
  exact ⟨rfl, below_step hB1 hb2⟩
theorem shShown_yes (s : Sht) (vd vf : Value) (qx qy : Int) (w : World) (hd : IntsAt w vd s.don) (hf : FeatsAt w vf s.feats) (hs : ShtOk s) (hq : Vld qx qy) {v : Int} (hv : shownS s qx qy = v) :
    Calls Tryz.prog 44 #[shtV s vd vf, .agg #[.int .i64 qx, .int .i64 qy]] w fun z w' => z = .returned (.tuple #[.int .i64 v, .int .i64 0]) ∧ Below w.heap.size w w' := by
  obtain ⟨ad, cd, rfl, h1, _, _⟩ := Lists.form hd
  obtain ⟨af, cf, rfl, g1, _, _⟩ := hf.form
  obtain ⟨x, hx⟩ : ∃ x, shownI s.feats qx qy s.feats.length = x := ⟨_, rfl⟩
  have HV := Lib.hid (show min x s.cap = v by rw [← hx]; exact hv)
  have X := Lib.hid hx
  have HU := Lib.hid hs
  have FO := Lib.hid hs.2.2.2.2.2.2.2
  have HQ := Lib.hid hq
  have HD := Lib.hid hd
  have HF := Lib.hid hf
  clear hd hf h1 g1 hs hq hv hx
  go_enter Tryz.func44, Tryz.ntmps44
  go_wp2_with fail
  refine calls_named fun W hW => ?_
  obtain ⟨p1, p2, hB⟩ := box2 hW
  clear hW
  (with_reducible refine (shValid_any s _ _ _ (intsL HD.out hB) (HF.out.later hB) (decide_eq_true HU.out)).mono ?_)
  rintro e w1 ⟨rfl, hb1⟩
  have hB1 := below_step hB hb1
  have r1 := block_later hb1 p1
  have c12 := cell_block r1 12
  have e0 := cell_block (block_later hb1 p2) 0
  have e1 := cell_block (block_later hb1 p2) 1
  go_wp2_with fail
  (with_reducible refine (ftShown_yes s.feats _ _ _ _ (HF.out.later hB1) FO.out HQ.out X.out).mono ?_)
  rintro e w2 ⟨rfl, hb2⟩
  have c10 := cell_block (block_later hb2 r1) 10
  clear c12 e0 e1 p1 p2 r1
  rcases Int.lt_or_le s.cap x with hc | hc
  · have hm : min x s.cap = s.cap := by omega
    go_wp2_with fail
    go_ret2
    exact ⟨by rw [← HV.out, Int.min_eq_right (by omega)]; rfl, below_step hB1 hb2⟩
  · go_wp2_with fail
    go_ret2
    exact ⟨by rw [← HV.out, Int.min_eq_left (by omega)]; rfl, below_step hB1 hb2⟩
end Go.Proofs.YtdmegkkifiahdaaGreat
