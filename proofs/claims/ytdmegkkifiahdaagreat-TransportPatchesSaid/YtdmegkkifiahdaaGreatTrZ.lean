/- Plain facts for the laws of carried patches and of carried sheets of the same features. -/
import Derived.Test.YtdmegkkifiahdaaGreatTrX
namespace Go.Proofs.YtdmegkkifiahdaaGreat
open Go.RowKit
set_option linter.unusedVariables false
theorem opsD_err {m : Dat} {A B : List Mk} : ∀ {ops : List Opn} {l y : List Feat} {bs : List Opn} {e : Int}, FeatsOk l → (∀ o ∈ ops, OpForm o) → runO l ops = .ok (y, bs) → opsD m A B l ops = .error e → e ≠ 0
  | [], l, y, bs, e, hl, ho, hr, hc => by cases hc
  | o :: ops, l, y, bs, e, hl, ho, hr, hc => by
    simp only [runO] at hr
    simp only [opsD] at hc
    have hf := ho o (by simp)
    cases hd : doO l o with
    | error e => rw [hd] at hr; cases hr
    | ok z =>
      obtain ⟨l1, b1⟩ := z
      rw [hd] at hr hc
      simp only at hr hc
      have hl1 := (do_back hl hf hd).1
      cases h1 : opD m A B l1 o with
      | error k =>
        rw [h1] at hc
        cases hc
        by_cases hk : o.kind = 1 ∨ o.kind = 3 ∨ o.kind = 5
        · obtain ⟨f, hlook⟩ := do_look hl hf hd (by omega)
          rw [opD_car hk hlook] at h1
          cases h2 : oneD m A B f with
          | error j => rw [h2] at h1; cases h1; exact one_err h2
          | ok g => rw [h2] at h1; cases h1
        · rw [opD_not hk] at h1
          cases h1
      | ok o' =>
        rw [h1] at hc
        simp only at hc
        cases h2 : runO l1 ops with
        | error j => rw [h2] at hr; cases hr
        | ok z =>
          obtain ⟨z1, z2⟩ := z
          cases h3 : opsD m A B l1 ops with
          | error k =>
            rw [h3] at hc
            cases hc
            exact opsD_err hl1 (fun o ho' => ho o (by simp [ho'])) h2 h3
          | ok r => rw [h3] at hc; cases hc
theorem opsR_zero {m : Dat} {a b : Bk} {l : List Feat} {ops r : List Opn} (h : opsR m a b l ops = (r, 0)) : BooksOk m a b ∧ PatchOk l ops ∧ (∃ y bs, runO l ops = .ok (y, bs)) ∧ opsD m a.marks b.marks l ops = .ok r := by
  unfold opsR at h
  by_cases hb : BooksOk m a b
  · rw [if_pos hb] at h
    by_cases h1 : (applyO l ops).2.2 ≠ 0
    · rw [if_pos h1] at h
      simp only [Prod.mk.injEq] at h
      exact absurd h.2 h1
    · rw [if_neg h1] at h
      simp only [ne_eq, Decidable.not_not] at h1
      obtain ⟨hp, y, bs, hr⟩ := apply_zero (show applyO l ops = ((applyO l ops).1, (applyO l ops).2.1, 0) by rw [← h1])
      cases h2 : opsD m a.marks b.marks l ops with
      | error k =>
        rw [h2] at h
        simp only [Prod.mk.injEq] at h
        exact absurd h.2 (opsD_err hp.1 (fun o ho => opForm (hp.2.2 o ho)) hr h2)
      | ok q =>
        rw [h2] at h
        simp only [Prod.mk.injEq, and_true] at h
        exact ⟨hb, hp, ⟨y, bs, hr⟩, by rw [h]⟩
  · rw [if_neg hb] at h
    cases h
theorem carried_patch {m : Dat} {a b : Bk} {l x l' : List Feat} {ops o' : List Opn} {i : Int} (ha : applyO l ops = (x, i, 0)) (hl : listR m a b l = (l', 0)) (ho : opsR m a b l ops = (o', 0)) : ∃ x', applyO l' o' = (x', -1, 0) ∧ listR m a b x = (x', 0) := by
  obtain ⟨hb, hfl, hc⟩ := listR_zero hl
  obtain ⟨_, hp, ⟨y, bs, hr⟩, hops⟩ := opsR_zero ho
  have hx : y = x := by
    unfold applyO at ha
    rw [if_pos hp, hr] at ha
    exact congrArg Prod.fst ha
  subst hx
  have hforms : ∀ o ∈ ops, OpForm o := fun o h => opForm (hp.2.2 o h)
  obtain ⟨g1, g2, x', bs', g3, g4⟩ := ops_carry hfl hforms (car_all.1 hc) hr hops
  have hp' : PatchOk l' o' := ⟨all_ok (car_all.1 hc) hfl, by rw [g1]; exact hp.2.1, fun o h => opOk_form (g2 o h)⟩
  have hfy := (run_acts ops hfl hforms hr).1
  refine ⟨x', ?_, ?_⟩
  · unfold applyO
    rw [if_pos hp', g3]
  · unfold listR
    rw [if_pos ⟨hb, hfy⟩, car_all.2 g4]
theorem bad_patch {m : Dat} {a b : Bk} {l x : List Feat} {ops o' : List Opn} {i k k2 : Int} (ha : applyO l ops = (x, i, k)) (hk : k ≠ 0) (ho : opsR m a b l ops = (o', k2)) : k2 ≠ 0 := by
  unfold opsR at ho
  by_cases hb : BooksOk m a b
  · rw [if_pos hb, ha, if_pos hk] at ho
    cases ho
    exact hk
  · rw [if_neg hb] at ho
    cases ho
    decide
end Go.Proofs.YtdmegkkifiahdaaGreat
