/- The answers of package station as plain functions with their error numbers, and one contract a function for every input. -/
import Derived.Test.YtnidacjmgekdjaaStationJ
namespace Go.Proofs.Ytnidacjmgekdjaa
open Go.RowKit
def lightR (dn dk t : Int) : Bool × Int := if Sn dn dk ∧ Tm t then (dayB dn dk t, 0) else (false, 1)
def rangeR (id ax ay dr nr fi ev dn dk t : Int) : Int × Int := if Stn id ax ay dr nr fi ev ∧ Sn dn dk ∧ Tm t then (farI dn dk dr nr t, 0) else (0, 1)
def hearsR (id ax ay dr nr fi ev dn dk xl xh yl yh t : Int) : Int × Int :=
  if Stn id ax ay dr nr fi ev ∧ Sn dn dk ∧ Bx xl xh yl yh ∧ Tm t then (hearsI ax ay xl xh yl yh (farI dn dk dr nr t), 0) else (0, 1)
def slotR (id ax ay dr nr fi ev k : Int) : Int × Int := if Stn id ax ay dr nr fi ev ∧ 0 ≤ k then (if fi + k * ev ≤ 10000000 then (fi + k * ev, 0) else (0, 3)) else (0, 1)
def slotsR (id ax ay dr nr fi ev t t2 : Int) : Int × Int × Int :=
  if Stn id ax ay dr nr fi ev ∧ Tm t ∧ Tm t2 ∧ t ≤ t2 then (if aheadI fi ev t = aheadI fi ev t2 then (0, 0, 4) else (aheadI fi ev t, aheadI fi ev t2 - 1, 0)) else (0, 0, 1)
def nextR (id ax ay dr nr fi ev t : Int) : Int × Int :=
  if Stn id ax ay dr nr fi ev ∧ Tm t then (if fi + aheadI fi ev t * ev ≤ 10000000 then (aheadI fi ev t, 0) else (0, 4)) else (0, 1)
def sureR (id ax ay dr nr fi ev dn dk xl xh yl yh t t2 : Int) : List Int × Int :=
  if Sn dn dk ∧ Bx xl xh yl yh then
    (if Stn id ax ay dr nr fi ev ∧ Tm t ∧ Tm t2 ∧ t ≤ t2 then
      (if aheadI fi ev t2 - aheadI fi ev t ≤ 400 then (pickL (sureB ax ay dr nr fi ev dn dk xl xh yl yh) (aheadI fi ev t) (aheadI fi ev t2 - aheadI fi ev t).toNat, 0) else ([], 2)) else ([], 1)) else ([], 1)
theorem sLight_any (dn dk t : Int) (w : World) {v : Bool} {e : Int} (h : lightR dn dk t = (v, e)) :
    Calls Try.prog 14 #[.agg #[.int .i64 dn, .int .i64 dk], .int .i64 t] w fun x w' => x = .returned (.tuple #[.bool v, .int .i64 e]) ∧ Below w.heap.size w w' := by
  unfold lightR at h
  split at h <;> rename_i g <;> cases h
  · exact sLight_yes _ _ _ w g.1 g.2 rfl
  · exact sLight_no _ _ _ w g
theorem sRange_any (id ax ay dr nr fi ev dn dk t : Int) (w : World) {v e : Int} (h : rangeR id ax ay dr nr fi ev dn dk t = (v, e)) :
    Calls Try.prog 16 #[.agg #[.int .i64 id, .int .i64 ax, .int .i64 ay, .int .i64 dr, .int .i64 nr, .int .i64 fi, .int .i64 ev], .agg #[.int .i64 dn, .int .i64 dk], .int .i64 t] w fun x w' => x = .returned (.tuple #[.int .i64 v, .int .i64 e]) ∧ Below w.heap.size w w' := by
  unfold rangeR at h
  split at h <;> rename_i g <;> cases h
  · exact sRange_yes _ _ _ _ _ _ _ _ _ _ w g.1 g.2.1 g.2.2 rfl
  · exact sRange_no _ _ _ _ _ _ _ _ _ _ w g
theorem sHears_any (id ax ay dr nr fi ev dn dk xl xh yl yh t : Int) (w : World) {v e : Int} (h : hearsR id ax ay dr nr fi ev dn dk xl xh yl yh t = (v, e)) :
    Calls Try.prog 18 #[.agg #[.int .i64 id, .int .i64 ax, .int .i64 ay, .int .i64 dr, .int .i64 nr, .int .i64 fi, .int .i64 ev], .agg #[.int .i64 dn, .int .i64 dk], .agg #[.int .i64 xl, .int .i64 xh, .int .i64 yl, .int .i64 yh], .int .i64 t] w fun x w' => x = .returned (.tuple #[.int .i64 v, .int .i64 e]) ∧ Below w.heap.size w w' := by
  unfold hearsR at h
  split at h <;> rename_i g <;> cases h
  · exact sHears_yes _ _ _ _ _ _ _ _ _ _ _ _ _ _ w g.1 g.2.1 g.2.2.1 g.2.2.2 rfl
  · exact sHears_no _ _ _ _ _ _ _ _ _ _ _ _ _ _ w g
theorem sSlot_any (id ax ay dr nr fi ev k : Int) (w : World) {v e : Int} (h : slotR id ax ay dr nr fi ev k = (v, e)) :
    Calls Try.prog 20 #[.agg #[.int .i64 id, .int .i64 ax, .int .i64 ay, .int .i64 dr, .int .i64 nr, .int .i64 fi, .int .i64 ev], .int .i64 k] w fun x w' => x = .returned (.tuple #[.int .i64 v, .int .i64 e]) ∧ Below w.heap.size w w' := by
  unfold slotR at h
  split at h
  · rename_i g
    split at h <;> rename_i g2 <;> cases h
    · exact sSlot_yes _ _ _ _ _ _ _ _ w g.1 g.2 g2 rfl
    · exact sSlot_far _ _ _ _ _ _ _ _ w g.1 g.2 (by omega)
  · rename_i g
    cases h
    by_cases hs : Stn id ax ay dr nr fi ev
    · exact sSlot_neg _ _ _ _ _ _ _ _ w (by rcases Int.lt_or_le k 0 with h | h; exact h; exact absurd ⟨hs, h⟩ g)
    · exact sSlot_no _ _ _ _ _ _ _ _ w hs
theorem sSlots_any (id ax ay dr nr fi ev t t2 : Int) (w : World) {a b e : Int} (h : slotsR id ax ay dr nr fi ev t t2 = (a, b, e)) :
    Calls Try.prog 22 #[.agg #[.int .i64 id, .int .i64 ax, .int .i64 ay, .int .i64 dr, .int .i64 nr, .int .i64 fi, .int .i64 ev], .int .i64 t, .int .i64 t2] w fun x w' => x = .returned (.tuple #[.agg #[.int .i64 a, .int .i64 b], .int .i64 e]) ∧ Below w.heap.size w w' := by
  unfold slotsR at h
  split at h
  · rename_i g
    split at h <;> rename_i g2 <;> cases h
    · exact sSlots_none _ _ _ _ _ _ _ _ _ w g.1 g.2.1 g.2.2.1 g.2.2.2 rfl g2.symm
    · exact sSlots_yes _ _ _ _ _ _ _ _ _ w g.1 g.2.1 g.2.2.1 g.2.2.2 rfl rfl g2 rfl
  · rename_i g
    cases h
    by_cases hs : Stn id ax ay dr nr fi ev ∧ Tm t ∧ Tm t2
    · exact sSlots_gt _ _ _ _ _ _ _ _ _ w hs.1 hs.2.1 hs.2.2 (by rcases Int.lt_or_le t2 t with h | h; exact h; exact absurd ⟨hs.1, hs.2.1, hs.2.2, h⟩ g)
    · exact sSlots_no _ _ _ _ _ _ _ _ _ w hs
theorem sNext_any (id ax ay dr nr fi ev t : Int) (w : World) {v e : Int} (h : nextR id ax ay dr nr fi ev t = (v, e)) :
    Calls Try.prog 27 #[.agg #[.int .i64 id, .int .i64 ax, .int .i64 ay, .int .i64 dr, .int .i64 nr, .int .i64 fi, .int .i64 ev], .int .i64 t] w fun x w' => x = .returned (.tuple #[.int .i64 v, .int .i64 e]) ∧ Below w.heap.size w w' := by
  unfold nextR at h
  split at h
  · rename_i g
    split at h <;> rename_i g2 <;> cases h
    · exact sNext_yes _ _ _ _ _ _ _ _ w g.1 g.2 rfl g2
    · exact sNext_none _ _ _ _ _ _ _ _ w g.1 g.2 rfl (by omega)
  · rename_i g
    cases h
    exact sNext_no _ _ _ _ _ _ _ _ w g
theorem ahead_mono {fi ev t t2 : Int} (h3 : 1 ≤ ev) (h : t ≤ t2) : aheadI fi ev t ≤ aheadI fi ev t2 := by
  unfold aheadI
  exact Int.ediv_le_ediv (by omega) (by omega)
def SureP (L : List Int) (n : Int) (w : World) (x : Ending) (w' : World) : Prop := ∃ sl, x = .returned (.tuple #[sl, .int .i64 n]) ∧ Below w.heap.size w w' ∧ Lst w' sl L
theorem sureP_nil {n : Int} {w : World} {x : Ending} {w' : World} (h : x = .returned (.tuple #[.slice none 0 0, .int .i64 n]) ∧ Below w.heap.size w w') : SureP [] n w x w' := ⟨_, h.1, h.2, Lst.nil _⟩
theorem sSure_any (id ax ay dr nr fi ev dn dk xl xh yl yh t t2 : Int) (w : World) {L : List Int} {e : Int} (h : sureR id ax ay dr nr fi ev dn dk xl xh yl yh t t2 = (L, e)) :
    Calls Try.prog 24 #[.agg #[.int .i64 id, .int .i64 ax, .int .i64 ay, .int .i64 dr, .int .i64 nr, .int .i64 fi, .int .i64 ev], .agg #[.int .i64 dn, .int .i64 dk], .agg #[.int .i64 xl, .int .i64 xh, .int .i64 yl, .int .i64 yh], .int .i64 t, .int .i64 t2] w (SureP L e w) := by
  unfold sureR at h
  by_cases g : Sn dn dk ∧ Bx xl xh yl yh
  · rw [if_pos g] at h
    by_cases k : Stn id ax ay dr nr fi ev ∧ Tm t ∧ Tm t2 ∧ t ≤ t2
    · rw [if_pos k] at h
      obtain ⟨k0, k1, k2, k3⟩ := k
      have hm := ahead_mono (fi := fi) k0.e1 k3
      have b1 := aheadI_bd (t := t) k0.f1 k1.2 k0.e1 k0.e2
      have b2 := aheadI_bd (t := t2) k0.f1 k2.2 k0.e1 k0.e2
      by_cases m : aheadI fi ev t2 - aheadI fi ev t ≤ 400
      · rw [if_pos m] at h
        cases h
        by_cases z : aheadI fi ev t = aheadI fi ev t2
        · have e0 : (aheadI fi ev t2 - aheadI fi ev t).toNat = 0 := by omega
          rw [e0]
          exact (sSure_none _ _ _ _ _ _ _ _ _ _ _ _ _ _ _ w g.1 g.2 (fun w => sSlots_none _ _ _ _ _ _ _ _ _ w k0 k1 k2 k3 rfl z.symm)).mono fun _ _ h => sureP_nil h
        · exact (sSure_yes _ _ _ _ _ _ _ _ _ _ _ _ _ _ _ w g.1 g.2 k0 k1 k2 k3 rfl rfl (N := (aheadI fi ev t2 - aheadI fi ev t).toNat) (by omega) (by omega) (by omega)).mono
            fun _ _ ⟨sl, h1, h2, h3⟩ => ⟨sl, h1, h2, Lst.owned h3⟩
      · rw [if_neg m] at h
        cases h
        exact (sSure_limit _ _ _ _ _ _ _ _ _ _ _ _ _ _ _ w g.1 g.2 (a := aheadI fi ev t) (c := aheadI fi ev t2 - 1) b1.1 (by omega) (by omega) (fun w => sSlots_yes _ _ _ _ _ _ _ _ _ w k0 k1 k2 k3 rfl rfl (by omega) rfl)).mono fun _ _ h => sureP_nil h
    · rw [if_neg k] at h
      cases h
      refine (sSure_err _ _ _ _ _ _ _ _ _ _ _ _ _ _ _ w g.1 g.2 (fun w => sSlots_any _ _ _ _ _ _ _ _ _ w ?_)).mono fun _ _ h => sureP_nil h
      unfold slotsR
      rw [if_neg k]
  · rw [if_neg g] at h
    cases h
    exact (sSure_no _ _ _ _ _ _ _ _ _ _ _ _ _ _ _ w g).mono fun _ _ h => sureP_nil h
theorem sureR_len {id ax ay dr nr fi ev dn dk xl xh yl yh t t2 : Int} {L : List Int} {e : Int} (h : sureR id ax ay dr nr fi ev dn dk xl xh yl yh t t2 = (L, e)) : L.length ≤ 400 := by
  unfold sureR at h
  split at h
  · split at h
    · split at h
      · cases h
        have := pickL_length (sureB ax ay dr nr fi ev dn dk xl xh yl yh) (aheadI fi ev t) (aheadI fi ev t2 - aheadI fi ev t).toNat
        omega
      · cases h; simp
    · cases h; simp
  · cases h; simp
end Go.Proofs.Ytnidacjmgekdjaa
