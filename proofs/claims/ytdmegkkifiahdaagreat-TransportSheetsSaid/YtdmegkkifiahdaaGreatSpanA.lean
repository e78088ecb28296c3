/- The walks of package span's join, containment and validity of boxes (as in StationA and StationC). -/
import Derived.Test.YtdmegkkifiahdaaGreatPolyF
import Derived.Test.YtdmegkkifiahdaaGreatKD
namespace Go.Proofs.YtdmegkkifiahdaaGreat
open Go.RowKit
attribute [local go_sem] bqOp bqAll bqUpon
attribute [local irreducible] wpQuiet wpBQ
set_option linter.unusedVariables false
theorem ret_tup2 {j k : IntKind} {a b a' b' : Int} (h1 : a = a') (h2 : b = b') : Ending.returned (.tuple #[.int j a, .int k b]) = Ending.returned (.tuple #[.int j a', .int k b']) := by rw [h1, h2]
theorem spValid_any (lo hi : Int) (w : World) {v : Bool} (hv : decide (-1000000000000 ≤ lo ∧ lo ≤ hi ∧ hi ≤ 1000000000000) = v) : Calls Tryz.prog 400 #[.agg #[.int .i64 lo, .int .i64 hi]] w fun e w' => e = .returned (.bool v) ∧ Below w.heap.size w w' := by
  have HV := Lib.hid hv
  clear hv
  go_enter Tryz.func400, Tryz.ntmps400
  go_wp2
  all_goals (go_returns; exact ⟨ret_bool (by rw [← HV.out]; (refine Bool.eq_iff_iff.2 ?_; (try simp) <;> omega)), by go_grown⟩)
theorem spEnds_any (a b : Int) (w : World) : Calls Tryz.prog 401 #[.int .i64 a, .int .i64 b] w fun e w' => e = .returned (.tuple #[.int .i64 (min a b), .int .i64 (max a b)]) ∧ Below w.heap.size w w' := by
  go_enter Tryz.func401, Tryz.ntmps401
  go_wp2
  all_goals (go_ret2; exact ⟨ret_tup2 (by omega) (by omega), by go_grown⟩)

theorem spJoin_yes (lo hi lo2 hi2 : Int) (w : World) (h1 : -1000000000000 ≤ lo ∧ lo ≤ hi ∧ hi ≤ 1000000000000) (h2 : -1000000000000 ≤ lo2 ∧ lo2 ≤ hi2 ∧ hi2 ≤ 1000000000000) {m M : Int} (hm : min lo lo2 = m) (hM : max hi hi2 = M) :
    Calls Tryz.prog 347 #[.agg #[.int .i64 lo, .int .i64 hi], .agg #[.int .i64 lo2, .int .i64 hi2]] w fun e w' => e = .returned (.tuple #[.agg #[.int .i64 m, .int .i64 M], .int .i64 0]) ∧ Below w.heap.size w w' := by
  subst hm hM
  have g1 := decide_eq_true h1
  have g2 := decide_eq_true h2
  have G1 := Lib.hid g1
  have G2 := Lib.hid g2
  clear h1 h2 g1 g2
  go_enter Tryz.func347, Tryz.ntmps347
  go_wp2_with fail
  refine calls_named fun W hW => ?_
  obtain ⟨p1, p2, p3, hB⟩ := box3 hW
  clear hW
  (with_reducible refine (spValid_any _ _ _ G1.out).mono ?_)
  rintro e w1 ⟨rfl, hb1⟩
  have q1 := cellsL p1
  have q2 := cellsL p2
  have P3 := Lib.hid p3
  clear p1 p2 p3
  go_wp2_with fail
  (with_reducible refine (spValid_any _ _ _ G2.out).mono ?_)
  rintro e w2 ⟨rfl, hb2⟩
  have hW2 := below_step hb1 hb2
  go_wp2_with fail
  (with_reducible refine (spEnds_any _ _ _).mono ?_)
  rintro e w3 ⟨rfl, hb3⟩
  have hW3 := below_step hW2 hb3
  go_wp2_with fail
  (with_reducible refine (spEnds_any _ _ _).mono ?_)
  rintro e w4 ⟨rfl, hb4⟩
  have hW4 := below_step hW3 hb4
  have p3 := block_later hW4 P3.out
  have f3 := free_block p3
  have c3 := cell_block p3
  clear p3
  go_wp2_with fail
  have c9 := cell_block (block_set (i := 1) (block_set (i := 0) (block_later hW4 P3.out) (.int .i64 (min lo lo2))) (.int .i64 (max hi hi2)))
  exact bodyPost_ret (v := .tuple #[.agg #[.int .i64 (min lo lo2), .int .i64 (max hi hi2)], .int .i64 0]) (by simp [results, Tryz.results347, go_sem, c9]) rfl ⟨rfl, ((below_step hB hW4).setCell (by dsimp only; omega) _).setCell (by dsimp only; omega) _⟩
theorem spJoin_no (lo hi lo2 hi2 : Int) (w : World) (h1 : ¬ (-1000000000000 ≤ lo ∧ lo ≤ hi ∧ hi ≤ 1000000000000)) :
    Calls Tryz.prog 347 #[.agg #[.int .i64 lo, .int .i64 hi], .agg #[.int .i64 lo2, .int .i64 hi2]] w fun e w' => e = .returned (.tuple #[.agg #[.int .i64 0, .int .i64 0], .int .i64 1]) ∧ Below w.heap.size w w' := by
  have g1 := decide_eq_false h1
  have G1 := Lib.hid g1
  clear h1 g1
  go_enter Tryz.func347, Tryz.ntmps347
  go_wp2_with fail
  refine calls_named fun W hW => ?_
  obtain ⟨p1, p2, p3, hB⟩ := box3 hW
  clear hW
  (with_reducible refine (spValid_any _ _ _ G1.out).mono ?_)
  rintro e w1 ⟨rfl, hb1⟩
  have q1 := cellsL p1
  have q2 := cellsL p2
  have P3 := Lib.hid p3
  clear p1 p2 p3
  have f3 := free_block (block_later hb1 P3.out)
  have c3 := cell_block (block_later hb1 P3.out)
  go_wp2_with fail
  have c9 := cell_block (block_set (i := 1) (block_set (i := 0) (block_later hb1 P3.out) (.int .i64 0)) (.int .i64 0))
  exact bodyPost_ret (v := .tuple #[.agg #[.int .i64 0, .int .i64 0], .int .i64 1]) (by simp [results, Tryz.results347, go_sem, c9]) rfl ⟨rfl, ((below_step hB hb1).setCell (by dsimp only; omega) _).setCell (by dsimp only; omega) _⟩
def coordsB (lo hi : Int) : Bool := decide (-1000000 ≤ lo ∧ lo ≤ hi ∧ hi ≤ 1000000)
/-- Containment in the span of all coordinates. -/
theorem spWithin_all (lo hi : Int) {x : Bool} (hx : coordsB lo hi = x) : ∃ k : Int, (x = true → k = 0) ∧ ∀ w : World,
    Calls Tryz.prog 402 #[.agg #[.int .i64 lo, .int .i64 hi], .agg #[.int .i64 (-1000000), .int .i64 1000000]] w fun e w' => e = .returned (.tuple #[.bool x, .int .i64 k]) ∧ Below w.heap.size w w' := by
  by_cases hv : -1000000000000 ≤ lo ∧ lo ≤ hi ∧ hi ≤ 1000000000000
  · by_cases hc : -1000000 ≤ lo ∧ hi ≤ 1000000
    · have hx' : x = true := by rw [← hx]; exact decide_eq_true (by omega)
      subst hx'
      refine ⟨0, fun _ => rfl, fun w => ?_⟩
      have e1 : min lo (-1000000) = -1000000 := by omega
      have e2 : max hi 1000000 = 1000000 := by omega
      have E1 := Lib.hid e1
      have E2 := Lib.hid e2
      clear e1 e2 hx
      go_enter Tryz.func402, Tryz.ntmps402
      go_wp2_with fail
      refine calls_named fun W hW => ?_
      obtain ⟨p1, p2, hB⟩ := box2 hW
      clear hW
      (with_reducible refine (spJoin_yes _ _ _ _ _ hv (by omega) E1.out E2.out).mono ?_)
      rintro e w1 ⟨rfl, hb1⟩
      have q1 := cellsL p1
      have q2 := cellsL p2
      clear p1 p2
      have hA1 := fun o => hb1.alloc hb1.size o
      have hB1 := below_step hB hb1
      go_wp2_with fail
      go_ret2
      exact ⟨rfl, hB1.alloc hB1.size _⟩
    · have hx' : x = false := by rw [← hx]; exact decide_eq_false (by omega)
      subst hx'
      refine ⟨0, fun h => by simp at h, fun w => ?_⟩
      obtain ⟨m, e1⟩ : ∃ m, min lo (-1000000) = m := ⟨_, rfl⟩
      obtain ⟨M, e2⟩ : ∃ m, max hi 1000000 = m := ⟨_, rfl⟩
      have e3 : m = -1000000 → M = 1000000 → False := fun h1 h2 => by omega
      have E1 := Lib.hid e1
      have E2 := Lib.hid e2
      have E3 := Lib.hid e3
      clear e1 e2 e3 hx hc
      go_enter Tryz.func402, Tryz.ntmps402
      go_wp2_with fail
      refine calls_named fun W hW => ?_
      obtain ⟨p1, p2, hB⟩ := box2 hW
      clear hW
      (with_reducible refine (spJoin_yes _ _ _ _ _ hv (by omega) E1.out E2.out).mono ?_)
      rintro e w1 ⟨rfl, hb1⟩
      have q1 := cellsL p1
      have q2 := cellsL p2
      clear p1 p2
      have hA1 := fun o => hb1.alloc hb1.size o
      have hB1 := below_step hB hb1
      go_wp2_with fail
      all_goals first
        | exact (E3.out (by assumption) (by assumption)).elim
        | (go_ret2; exact ⟨rfl, hB1.alloc hB1.size _⟩)
  · have hx' : x = false := by rw [← hx]; exact decide_eq_false (by omega)
    subst hx'
    refine ⟨1, fun h => by simp at h, fun w => ?_⟩
    clear hx
    have HV := Lib.hid hv
    clear hv
    go_enter Tryz.func402, Tryz.ntmps402
    go_wp2_with fail
    refine calls_named fun W hW => ?_
    obtain ⟨p1, p2, hB⟩ := box2 hW
    clear hW
    (with_reducible refine (spJoin_no _ _ _ _ _ HV.out).mono ?_)
    rintro e w1 ⟨rfl, hb1⟩
    have q1 := cellsL p1
    have q2 := cellsL p2
    clear p1 p2
    have hA1 := fun o => hb1.alloc hb1.size o
    have hB1 := below_step hB hb1
    go_wp2_with fail
    go_ret2
    exact ⟨rfl, hB1.alloc hB1.size _⟩
theorem spValidBox_any (xl xh yl yh : Int) (w : World) {v : Bool} (hv : decide (BxOk ⟨xl, xh, yl, yh⟩) = v) :
    Calls Tryz.prog 348 #[.agg #[.int .i64 xl, .int .i64 xh, .int .i64 yl, .int .i64 yh]] w fun e w' => e = .returned (.bool v) ∧ Below w.heap.size w w' := by
  obtain ⟨x, hx⟩ : ∃ x, coordsB xl xh = x := ⟨_, rfl⟩
  obtain ⟨y, hy⟩ : ∃ y, coordsB yl yh = y := ⟨_, rfl⟩
  obtain ⟨k1, hk1, c1⟩ := spWithin_all xl xh hx
  obtain ⟨k2, hk2, c2⟩ := spWithin_all yl yh hy
  have hd : (x && y) = v := by
    rw [← hv, ← hx, ← hy, Bool.eq_iff_iff]
    simp only [coordsB, Bool.and_eq_true, decide_eq_true_eq]
    exact Iff.rfl
  have C1 := Lib.hid c1
  have C2 := Lib.hid c2
  clear hv hx hy c1 c2
  go_enter Tryz.func348, Tryz.ntmps348
  go_wp2_with fail
  refine calls_named fun W hW => ?_
  obtain ⟨p1, p2, hB⟩ := box2 hW
  clear hW
  (with_reducible refine (C1.out _).mono ?_)
  rintro e w1 ⟨rfl, hb1⟩
  have q1 := cellsL p1
  have q2 := cellsL p2
  clear p1 p2
  go_wp2_with fail
  (with_reducible refine (C2.out _).mono ?_)
  rintro e w2 ⟨rfl, hb2⟩
  have hW2 := below_step hb1 hb2
  cases x
  · cases y
    all_goals
      subst hd
      clear hk1 hk2
      go_wp2_with fail
      all_goals (go_returns; exact ⟨rfl, below_step hB hW2⟩)
  · cases y
    · subst hd
      replace hk1 := hk1 rfl
      subst hk1
      clear hk2
      go_wp2_with fail
      all_goals (go_returns; exact ⟨rfl, below_step hB hW2⟩)
    · subst hd
      replace hk1 := hk1 rfl
      replace hk2 := hk2 rfl
      subst hk1 hk2
      go_wp2_with fail
      go_returns
      exact ⟨rfl, below_step hB hW2⟩
end Go.Proofs.YtdmegkkifiahdaaGreat
