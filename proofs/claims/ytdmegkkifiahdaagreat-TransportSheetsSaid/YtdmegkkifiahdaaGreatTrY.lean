/- Contracts and plain facts for the laws of carried lists and sheets. -/
import Derived.Test.YtdmegkkifiahdaaGreatTrV
import Derived.Test.YtdmegkkifiahdaaGreatFeatE
import Derived.Test.YtdmegkkifiahdaaGreatShtS
namespace Go.Proofs.YtdmegkkifiahdaaGreat
open Go.RowKit
set_option linter.unusedVariables false
theorem ints_none (w : World) : IntsAt w (.slice none 0 0) [] := ⟨⟨none, 0, rfl, by simp, fun i hi => absurd hi (Nat.not_lt_zero i)⟩, by intro ad n c h; cases h; omega⟩
theorem writeR_ok {m d : Dat} (h : writeR m = (d, 0)) : DatOk d := by
  unfold writeR at h
  by_cases hm : DatOk m
  · rw [if_pos hm] at h
    cases h
    exact hm
  · rw [if_neg hm] at h
    cases h
theorem thenR_ok {m n d : Dat} (h : thenR m n = (d, 0)) : DatOk d := by
  unfold thenR at h
  by_cases hm : DatOk m ∧ DatOk n
  · rw [if_pos hm] at h
    exact writeR_ok h
  · rw [if_neg hm] at h
    cases h
theorem tsht_zero {m : Dat} {a b : Bk} {s t : Sht} {ch sc : Int} (h : tshtR m a b s ch sc = (t, 0)) :
    ShtArg m a b s ch sc ∧ ShtOk t ∧ t.chart = ch ∧ t.scale = sc ∧ t.edition = 1 ∧ t.cap = s.cap ∧ t.don = [] ∧ carL m a.marks b.marks s.feats = .ok t.feats := by
  unfold tshtR at h
  by_cases ha : ShtArg m a b s ch sc
  · rw [if_pos ha] at h
    by_cases h1 : (thenR s.dat m).2 ≠ 0
    · rw [if_pos h1] at h
      simp only [Prod.mk.injEq] at h
      exact absurd h.2 h1
    · rw [if_neg h1] at h
      by_cases h2 : (listR m a b s.feats).2 ≠ 0
      · rw [if_pos h2] at h
        simp only [Prod.mk.injEq] at h
        exact absurd h.2 h2
      · rw [if_neg h2] at h
        simp only [ne_eq, Decidable.not_not] at h1 h2
        have hd : DatOk (thenR s.dat m).1 := thenR_ok (show thenR s.dat m = ((thenR s.dat m).1, 0) by rw [← h1])
        obtain ⟨b1, b2, b3⟩ := listR_zero (show listR m a b s.feats = ((listR m a b s.feats).1, 0) by rw [← h2])
        have hf := all_ok (car_all.1 b3) b2
        obtain ⟨⟨_, _, _, _, _, hcap, _, _⟩, hch, hsc⟩ := (⟨ha.1.2, ha.2.1, ha.2.2⟩ : ShtOk s ∧ _ ∧ _)
        cases h
        exact ⟨ha, ⟨fun i hi => absurd hi (Nat.not_lt_zero i), Nat.zero_le _, hch, hsc, ⟨show (1 : Int) ≤ 1 by decide, show (1 : Int) ≤ 1000 by decide⟩, hcap, hd, hf⟩, rfl, rfl, rfl, rfl, rfl, b3⟩
  · rw [if_neg ha] at h
    cases h
end Go.Proofs.YtdmegkkifiahdaaGreat
