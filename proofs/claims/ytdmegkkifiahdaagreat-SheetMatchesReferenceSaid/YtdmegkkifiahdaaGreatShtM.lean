/- The walks of Few, has and example, which chapter 14's laws call. -/
import Derived.Test.YtdmegkkifiahdaaGreatShtI
import Derived.Test.YtdmegkkifiahdaaGreatShtJ
namespace Go.Proofs.YtdmegkkifiahdaaGreat
open Go.RowKit
attribute [local go_sem] bqOp bqAll bqUpon sqOp sqAll sqUpon ssOp ssAll
attribute [local irreducible] wpQuiet wpBQ wpPlan wsPlan
set_option linter.unusedVariables false
theorem IntsAt.len {w : World} {v : Value} {l : List Int} (h : IntsAt w v l) : l.length ≤ 9223372036854775807 := by
  obtain ⟨_, _, _, h, _⟩ := h.rows
  exact h
theorem yes_of {v : Bool} {P : Prop} (h : v = true ↔ P) (p : P) : true = v := (h.2 p).symm
theorem no_of {v : Bool} {P : Prop} (h : v = true ↔ P) (p : ¬ P) : false = v := by
  cases v
  · rfl
  · exact (p (h.1 rfl)).elim
def FewS (s : Sht) : Prop := (s.feats.length ≤ 20 ∨ 300 < s.feats.length) ∧ s.don.length ≤ 300
instance (s : Sht) : Decidable (FewS s) := by unfold FewS; exact inferInstance
theorem q14Few_any (s : Sht) (vd vf : Value) (w : World) (hd : IntsAt w vd s.don) (hf : FeatsAt w vf s.feats) {v : Bool} (hv : decide (FewS s) = v) :
    Calls Tryz.prog 30 #[shtV s vd vf] w fun z w' => z = .returned (.bool v) ∧ Below w.heap.size w w' := by
  obtain ⟨ad, cd, rfl, g1, g2, g3⟩ := Lists.form hd
  obtain ⟨af, cf, rfl, g4, g5, g6⟩ := hf.form
  clear hd hf g1 g4
  obtain ⟨n, hn⟩ : ∃ n, s.don.length = n := ⟨_, rfl⟩
  obtain ⟨m, hm⟩ : ∃ n, s.feats.length = n := ⟨_, rfl⟩
  have HV : Hid (v = true ↔ (m ≤ 20 ∨ 300 < m) ∧ n ≤ 300) := Lib.hid (by rw [← hv, decide_eq_true_iff, ← hn, ← hm]; exact Iff.rfl)
  rw [hn] at g2 g3 ⊢
  rw [hm] at g5 g6 ⊢
  clear hn hm hv
  go_enter Tryz.func30, Tryz.ntmps30
  rcases Nat.lt_or_ge 20 m with h1 | h1
  · rcases Nat.lt_or_ge 300 m with h2 | h2
    · rcases Nat.lt_or_ge 300 n with h3 | h3
      all_goals
        go_wp2_with fail
        go_returns
        exact ⟨ret_bool (by first | exact yes_of HV.out (by omega) | exact no_of HV.out (by omega) | exact Bool.eq_iff_iff.2 (by rw [HV.out]; simp; omega)), (Below.refl _ _).alloc (Nat.le_refl _) _⟩
    · go_wp2_with fail
      go_returns
      exact ⟨ret_bool (by first | exact yes_of HV.out (by omega) | exact no_of HV.out (by omega) | exact Bool.eq_iff_iff.2 (by rw [HV.out]; simp; omega)), (Below.refl _ _).alloc (Nat.le_refl _) _⟩
  · rcases Nat.lt_or_ge 300 n with h3 | h3
    all_goals
      go_wp2_with fail
      go_returns
      exact ⟨ret_bool (by first | exact yes_of HV.out (by omega) | exact no_of HV.out (by omega) | exact Bool.eq_iff_iff.2 (by rw [HV.out]; simp; omega)), (Below.refl _ _).alloc (Nat.le_refl _) _⟩
/-- The sheet of the chapter's examples. -/
def exF (d : Int) : Feat := ⟨5, 2, 1, 2, 3, [], d, 6, []⟩
def exS (d : Int) : Sht := ⟨7, 2, 3, ⟨1000000, 0, 0, 0, 1000000, 0, 0⟩, 500, [4, 9], [exF d]⟩
def ExP (d : Int) (w : World) (e : Ending) (w' : World) : Prop := ∃ ad cd af cf, e = .returned (shtV (exS d) (.slice ad 2 cd) (.slice af 1 cf)) ∧ IntsAt w' (.slice ad 2 cd) (exS d).don ∧ FeatsAt w' (.slice af 1 cf) (exS d).feats ∧ Below w.heap.size w w'
theorem feats_one {w : World} {b : Nat} {f : Feat} {T : TypeId} {m : Nat × Nat} {va vs : Value} (h : w.heap[b]? = some (.cells #[.int .i64 f.id, .int .i64 f.kind, .int .i64 f.x, .int .i64 f.y, .int .i64 f.rad, va, .int .i64 f.dep, .int .i64 f.sym, vs] T m)) (ha : PtsAt w va f.area) (hs : SecsAt w vs f.secs) : FeatsAt w (.slice (some ⟨b, 0, none⟩) 1 1) [f] := by
  refine ⟨_, _, rfl, ⟨by simp, by simp⟩, fun i hi => ?_⟩
  obtain rfl : i = 0 := by simpa using hi
  exact ⟨b, 0, va, vs, rfl, cell_block h 0, cell_block h 1, cell_block h 2, cell_block h 3, cell_block h 4, cell_block h 5, cell_block h 6, cell_block h 7, cell_block h 8, ha, hs⟩
theorem nil_at (k : Nat) (w : World) (X : Nat → Nat → Int) : Lists k w (.slice none 0 0) 0 X := ⟨⟨_, _, rfl, by omega, fun i hi => absurd hi (Nat.not_lt_zero i)⟩, fun _ _ _ e => by cases e; exact Nat.le_refl _⟩
theorem l14example_any (d : Int) (w : World) : Calls Tryz.prog 103 #[.int .i64 d] w (ExP d w) := by
  go_enter Tryz.func103, Tryz.ntmps103
  go_wp2_with fail
  generalize hW : World.alloc (World.alloc (World.alloc _ _) _) _ = W
  obtain ⟨p1, p2, p3, hB⟩ := box3 hW.symm
  have c9 := cell_block p1
  refine bodyPost_ret (v := shtV (exS d) (.slice (some ⟨w.heap.size + 1, 0, none⟩) 2 2) (.slice (some ⟨w.heap.size + 1 + 1, 0, none⟩) 1 1)) (by simp [results, Tryz.results103, go_sem, c9, exS]) rfl ⟨_, _, _, _, rfl, ?_, feats_one p3 (nil_at 2 _ _) (nil_at 6 _ _), hB⟩
  exact ⟨⟨_, _, rfl, (by decide : 2 ≤ 9223372036854775807), fun i hi => ⟨_, _, rfl, fun j hj => by
    obtain rfl : j = 0 := by omega
    have hi : i < 2 := hi
    match i, hi with
    | 0, _ => exact cell_block p2 0
    | 1, _ => exact cell_block p2 1⟩⟩, fun _ _ _ e => by cases e; exact Nat.le_refl _⟩
end Go.Proofs.YtdmegkkifiahdaaGreat
