/- Plain facts for the law of carried sheets of the same features. -/
import Derived.Test.YtdmegkkifiahdaaGreatTrY
import Derived.Test.YtdmegkkifiahdaaGreatShtI
namespace Go.Proofs.YtdmegkkifiahdaaGreat
open Go.RowKit
set_option linter.unusedVariables false
theorem tsht_bad {m : Dat} {a b : Bk} {s t : Sht} {ch sc k : Int} (h : tshtR m a b s ch sc = (t, k)) (hk : k ≠ 0) : t.feats = [] ∧ t.chart = 0 := by
  unfold tshtR at h
  split at h
  · split at h
    · cases h
      exact ⟨rfl, rfl⟩
    · split at h
      · cases h
        exact ⟨rfl, rfl⟩
      · cases h
        exact absurd rfl hk
  · cases h
    exact ⟨rfl, rfl⟩
/-- Sheets of the same features. -/
theorem tsht_other {m : Dat} {a b : Bk} {s s' t u : Sht} {ch sc k : Int} (hd : s'.dat = s.dat) (hf : s'.feats = s.feats) (hc : s'.cap = s.cap) (h : tshtR m a b s ch sc = (t, 0)) (h' : tshtR m a b s' ch sc = (u, k)) : (k ≠ 0 → k = 1 ∧ ¬ ShtOk s') ∧ (k = 0 → ShtOk u ∧ u.feats = t.feats ∧ u.don = []) := by
  obtain ⟨ha, hok, _, _, _, _, _, hcar⟩ := tsht_zero h
  refine ⟨fun hk => ?_, fun hk => ?_⟩
  · have h2 := h'
    unfold tshtR at h h'
    rw [if_pos ha] at h
    by_cases ha' : ShtArg m a b s' ch sc
    · rw [if_pos ha', hd, hf, hc] at h'
      rw [h] at h'
      cases h'
      exact absurd rfl hk
    · rw [if_neg ha'] at h'
      cases h'
      exact ⟨rfl, fun q => ha' ⟨⟨ha.1.1, q⟩, ha.2⟩⟩
  · subst hk
    obtain ⟨_, hok', _, _, _, _, hdon, hcar'⟩ := tsht_zero h'
    rw [hf, hcar] at hcar'
    exact ⟨hok', (Except.ok.inj hcar').symm, hdon⟩
theorem harg_len {m : Dat} {a b : Bk} {s t : Sht} {ch sc : Int} (h : tshtR m a b s ch sc = (t, 0)) : s.feats.length ≤ 300 := (tsht_zero h).1.1.2.2.2.2.2.2.2.2.1
theorem diff_same {l : List Feat} {d : List Int} (h : DiffL l l d) : d = [] := by
  cases d with
  | nil => rfl
  | cons x d => exact absurd rfl ((h.2 x).1 (by simp))
theorem ids_same {m : Dat} {A B : List Mk} : ∀ {l l' : List Feat}, AllR m A B l l' → ∀ i, i < l.length → (l'.getD i noFeat).id = (l.getD i noFeat).id
  | [], [], _, i, hi => absurd hi (Nat.not_lt_zero i)
  | [], _ :: _, h, _, _ => h.elim
  | _ :: _, [], h, _, _ => h.elim
  | f :: l, g :: l', h, i, hi => by
    cases i with
    | zero => exact (one_same h.1).2.1
    | succ i =>
      have := ids_same h.2 i (by simpa using hi)
      simpa using this
end Go.Proofs.YtdmegkkifiahdaaGreat
