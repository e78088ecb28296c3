/- patch.changed, one contract; patch.field. -/
import Derived.Test.YtpidmgkjnomigaaGreatPatChg
namespace Go.Proofs.YtpidmgkjnomigaaGreat
open Go.RowKit
attribute [local go_sem] bqOp bqAll bqUpon sqOp sqAll sqUpon ssAll
attribute [local irreducible] wpQuiet wpBQ wpPlan wsPlan
set_option linter.unusedVariables false
theorem pachanged_any (f : Feat) (o : Opn) (va vs ua us : Value) (w : World) (hp : PartsAt w f va vs) (hq : PartsAt w o.feat ua us) {g : Feat} {b : Opn} {er : Int} (hv : chgR f o = (g, b, er)) :
    Calls Tryz.prog 79 #[featV f va vs, opV o ua us] w fun e w' => e = .returned (.tuple #[featV g va vs, opV b nilV nilV, .int .i64 er]) ∧ Below w.heap.size w w' := by
  obtain ⟨aa, ca, ab, cb, rfl, rfl⟩ := hp.form
  obtain ⟨ac, cc, ae, ce, rfl, rfl⟩ := hq.form
  clear hp hq
  generalize f.area.length = n1
  generalize f.secs.length = n2
  generalize o.feat.area.length = n3
  generalize o.feat.secs.length = n4
  obtain ⟨kind, id, ⟨oid, okind, ox, oy, orad, oarea, odep, osym, osecs⟩, x, y, rad, dep, sym⟩ := o
  obtain ⟨fid, fk, fx, fy, frad, farea, fdep, fsym, fsecs⟩ := f
  by_cases k3 : kind = 3
  · subst k3
    by_cases f3 : fk = 3
    · subst f3
      obtain ⟨rfl, rfl, rfl⟩ : _ ∧ _ ∧ _ := by simpa [chgR, chgF, bakF] using hv
      exact pachanged_mov3 _ _ _ _ _ _ _ _ _ _ _ _ _ _ _ _ _ _ _ _ _ _ _ _ _ _ _ _ _ _ _ _ _ _ _ _
    by_cases f6 : fk = 6
    · subst f6
      obtain ⟨rfl, rfl, rfl⟩ : _ ∧ _ ∧ _ := by simpa [chgR, chgF, bakF] using hv
      exact pachanged_mov6 _ _ _ _ _ _ _ _ _ _ _ _ _ _ _ _ _ _ _ _ _ _ _ _ _ _ _ _ _ _ _ _ _ _ _ _
    by_cases f4 : fk = 4
    · subst f4
      by_cases hr : rad = 0
      · subst hr
        obtain ⟨rfl, rfl, rfl⟩ : _ ∧ _ ∧ _ := by simpa [chgR, chgF, bakF] using hv
        exact pachanged_mov4z _ _ _ _ _ _ _ _ _ _ 0 _ _ _ _ _ _ _ _ _ _ _ _ _ _ _ _ _ _ _ _ _ _ _ _ _
      · obtain ⟨rfl, rfl, rfl⟩ : _ ∧ _ ∧ _ := by simpa [chgR, chgF, bakF, hr] using hv
        exact pachanged_mov4 _ _ _ _ _ _ _ _ _ _ _ _ _ _ _ _ _ _ _ _ _ _ _ _ _ _ _ _ _ _ _ _ _ _ _ _ hr
    · obtain ⟨rfl, rfl, rfl⟩ : _ ∧ _ ∧ _ := by simpa [chgR, chgF, bakF, f3, f4, f6] using hv
      exact pachanged_mov _ _ _ _ _ _ _ _ _ _ _ _ _ _ _ _ _ _ _ _ _ _ _ _ _ _ _ _ _ _ _ _ _ _ _ _ _ f3 f4 f6
  by_cases k4 : kind = 4
  · subst k4
    by_cases f4 : fk = 4
    · subst f4
      obtain ⟨rfl, rfl, rfl⟩ : _ ∧ _ ∧ _ := by simpa [chgR, chgF, bakF] using hv
      exact pachanged_dep4 _ _ _ _ _ _ _ _ _ _ _ _ _ _ _ _ _ _ _ _ _ _ _ _ _ _ _ _ _ _ _ _ _ _ _ _
    by_cases f6 : fk = 6
    · subst f6
      obtain ⟨rfl, rfl, rfl⟩ : _ ∧ _ ∧ _ := by simpa [chgR, chgF, bakF] using hv
      exact pachanged_dep6 _ _ _ _ _ _ _ _ _ _ _ _ _ _ _ _ _ _ _ _ _ _ _ _ _ _ _ _ _ _ _ _ _ _ _ _
    obtain ⟨rfl, rfl, rfl⟩ : _ ∧ _ ∧ _ := by simpa [chgR, chgF, bakF, f4, f6] using hv
    exact pachanged_dep _ _ _ _ _ _ _ _ _ _ _ _ _ _ _ _ _ _ _ _ _ _ _ _ _ _ _ _ _ _ _ _ _ _ _ _ _ f4 f6
  by_cases f4 : fk = 4
  · subst f4
    obtain ⟨rfl, rfl, rfl⟩ : _ ∧ _ ∧ _ := by simpa [chgR, chgF, bakF, k3, k4] using hv
    exact pachanged_sym4 _ _ _ _ _ _ _ _ _ _ _ _ _ _ _ _ _ _ _ _ _ _ _ _ _ _ _ _ _ _ _ _ _ _ _ _ _ k3 k4
  · obtain ⟨rfl, rfl, rfl⟩ : _ ∧ _ ∧ _ := by simpa [chgR, chgF, bakF, k3, k4] using hv
    exact pachanged_sym _ _ _ _ _ _ _ _ _ _ _ _ _ _ _ _ _ _ _ _ _ _ _ _ _ _ _ _ _ _ _ _ _ _ _ _ _ _ k3 k4 f4
theorem pafield_any (o : Opn) (va vs : Value) (w : World) (hp : PartsAt w o.feat va vs) {v : Bool} (hv : decide (3 ≤ o.kind ∧ o.kind ≤ 5) = v) : Calls Tryz.prog 47 #[opV o va vs] w fun e w' => e = .returned (.bool v) ∧ Below w.heap.size w w' := by
  obtain ⟨aa, ca, ab, cb, rfl, rfl⟩ := hp.form
  clear hp
  generalize o.feat.area.length = n3
  generalize o.feat.secs.length = n4
  obtain ⟨kind, id, ⟨oid, okind, ox, oy, orad, oarea, odep, osym, osecs⟩, x, y, rad, dep, sym⟩ := o
  simp only at hv
  rcases Int.lt_or_le kind 3 with h3 | h3
  · obtain rfl : false = v := by rw [← hv]; exact (decide_eq_false (by omega)).symm
    go_enter Tryz.func47, Tryz.ntmps47
    go_wp2_with fail
    go_returns
    exact ⟨rfl, by go_grown⟩
  rcases Int.lt_or_le 5 kind with h5 | h5
  · obtain rfl : false = v := by rw [← hv]; exact (decide_eq_false (by omega)).symm
    go_enter Tryz.func47, Tryz.ntmps47
    go_wp2_with fail
    go_returns
    exact ⟨ret_bool (decide_eq_false (by omega)), by go_grown⟩
  obtain rfl : true = v := by rw [← hv]; exact (decide_eq_true (by omega)).symm
  go_enter Tryz.func47, Tryz.ntmps47
  go_wp2_with fail
  go_returns
  exact ⟨rfl, by go_grown⟩
end Go.Proofs.YtpidmgkjnomigaaGreat
