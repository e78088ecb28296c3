/- The walks of sheet.Find where no feature has the ID, and of small functions of the law's package. -/
import Derived.Test.YtdmegkkifiahdaaGreatShtG
import Derived.Test.YtdmegkkifiahdaaGreatShtH
namespace Go.Proofs.YtdmegkkifiahdaaGreat
open Go.RowKit
attribute [local go_sem] bqOp bqAll bqUpon sqOp sqAll sqUpon ssOp ssAll
attribute [local irreducible] wpQuiet wpBQ wpPlan wsPlan
set_option linter.unusedVariables false
theorem look_has {l : List Feat} {id : Int} (h : look l id = none) {i : Nat} (hi : i < l.length) (he : (l.getD i noFeat).id = id) : False := look_none h (getD_mem hi) he
theorem shFind_none (s : Sht) (vd vf : Value) (id : Int) (w : World) (hd : IntsAt w vd s.don) (hf : FeatsAt w vf s.feats) (hs : ShtOk s) (h1 : 1 ≤ id) (h2 : id ≤ 100000) (hl : look s.feats id = none) :
    Calls Tryz.prog 41 #[shtV s vd vf, .int .i64 id] w fun z w' => z = .returned (.tuple #[featV noFeat (.slice none 0 0) (.slice none 0 0), .int .i64 4]) ∧ Below w.heap.size w w' := by
  obtain ⟨ad, cd, rfl, g1, _, _⟩ := Lists.form hd
  obtain ⟨af, cf, rfl, g2, _, _⟩ := hf.form
  have HS := Lib.hid hs
  have FS := Lib.hid hs.2.2.2.2.2.2.2
  have HL := Lib.hid hl
  have HD := Lib.hid hd
  have HF := Lib.hid hf
  clear hd hf g1 g2 hs hl
  go_enter Tryz.func41, Tryz.ntmps41
  go_wp2_with fail
  refine calls_named fun W hW => ?_
  obtain ⟨p1, p2, hB⟩ := box2 hW
  clear hW
  (with_reducible refine (shValid_any s _ _ _ (intsL HD.out hB) (HF.out.later hB) (decide_eq_true HS.out)).mono ?_)
  rintro e w1 ⟨rfl, hb1⟩
  have hB1 := below_step hB hb1
  have r1 := block_later hb1 p1
  have r2 := block_later hb1 p2
  have c0 := cell_block r1 0
  have c1 := cell_block r1 1
  have c2 := cell_block r1 2
  have c3 := cell_block r1 3
  have c4 := cell_block r1 4
  have c5 := cell_block r1 5
  have c6 := cell_block r1 6
  have c7 := cell_block r1 7
  have c8 := cell_block r1 8
  have c9 := cell_block r1 9
  have c10 := cell_block r1 10
  have c11 := cell_block r1 11
  have c12 := cell_block r1 12
  clear p1 p2
  have d1 : ¬ id < 1 := by omega
  have d2 : ¬ 100000 < id := by omega
  go_wp2_with fail
  (with_reducible refine (shfind_any s _ _ id _ (intsL HD.out hB1) (HF.out.later hB1) FS.out (by omega) (by omega)).mono ?_)
  rintro e w2 ⟨i, b, rfl, k1, k2, hb2⟩
  have hB2 := below_step hB1 hb2
  have q2 := block_later hb2 r2
  cases b
  rotate_left
  · obtain ⟨hi, he⟩ := k1 rfl
    exact (look_has HL.out hi he).elim
  clear k1 k2
  have f2 := free_block q2
  have z2 := cell_block q2
  have Q2 := Lib.hid q2
  clear r1 r2 q2 c0 c1 c2 c3 c4 c5 c6 c7 c8 c9 c10 c11 c12
  go_wp2_with fail
  have c9 := cell_block (block_set (i := 8) (block_set (i := 7) (block_set (i := 6) (block_set (i := 5) (block_set (i := 4) (block_set (i := 3) (block_set (i := 2) (block_set (i := 1) (block_set (i := 0) Q2.out (.int .i64 0)) (.int .i64 0)) (.int .i64 0)) (.int .i64 0)) (.int .i64 0)) (.slice none 0 0)) (.int .i64 0)) (.int .i64 0)) (.slice none 0 0))
  exact bodyPost_ret (v := .tuple #[featV noFeat (.slice none 0 0) (.slice none 0 0), .int .i64 4]) (by simp [results, Tryz.results41, go_sem, c9, noFeat]) rfl ⟨rfl, (((((((((hB2.setCell (by dsimp only; omega) _).setCell (by dsimp only; omega) _).setCell (by dsimp only; omega) _).setCell (by dsimp only; omega) _).setCell (by dsimp only; omega) _).setCell (by dsimp only; omega) _).setCell (by dsimp only; omega) _).setCell (by dsimp only; omega) _).setCell (by dsimp only; omega) _)⟩
end Go.Proofs.YtdmegkkifiahdaaGreat
