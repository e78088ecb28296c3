/- Plain laws of chapter 20: lists, patches and sheets that are carried. -/
import Derived.Test.YtdmegkkifiahdaaGreatKD
import Derived.Test.YtdmegkkifiahdaaGreatPatActs
namespace Go.Proofs.YtdmegkkifiahdaaGreat
set_option linter.unusedVariables false
/-- Lists, feature by feature. -/
def AllR (m : Dat) (A B : List Mk) : List Feat → List Feat → Prop
  | [], [] => True
  | f :: l, g :: l' => oneD m A B f = .ok g ∧ AllR m A B l l'
  | _, _ => False
def carL (m : Dat) (A B : List Mk) : List Feat → Except Int (List Feat)
  | [] => .ok []
  | f :: l => match oneD m A B f with
    | .error e => .error e
    | .ok g => match carL m A B l with
      | .error e => .error e
      | .ok r => .ok (g :: r)
section
variable {m : Dat} {A B : List Mk}
theorem one_same {f g : Feat} (h : oneD m A B f = .ok g) : FeatOk g ∧ g.id = f.id ∧ g.kind = f.kind ∧ g.dep = f.dep := by
  obtain ⟨h1, mk, t, _, _, _, h4⟩ := one_ok h
  obtain ⟨a, b, c, _⟩ := carry_same h4
  exact ⟨h1, a, b, c⟩
theorem car_all : ∀ {l l' : List Feat}, carL m A B l = .ok l' ↔ AllR m A B l l'
  | [], l' => by
    unfold carL
    cases l' with
    | nil => exact ⟨fun _ => trivial, fun _ => rfl⟩
    | cons g l' => exact ⟨fun h => (by cases h), fun h => h.elim⟩
  | f :: l, l' => by
    unfold carL
    cases h1 : oneD m A B f with
    | error e => exact ⟨fun h => (by cases h), fun h => by
        cases l' with
        | nil => exact h.elim
        | cons g l' => have := h.1; rw [h1] at this; cases this⟩
    | ok g =>
      simp only
      cases h2 : carL m A B l with
      | error e => exact ⟨fun h => (by cases h), fun h => by
          cases l' with
          | nil => exact h.elim
          | cons g' l' => have := car_all.2 h.2; rw [h2] at this; cases this⟩
      | ok r => exact ⟨fun h => by cases h; exact ⟨h1, car_all.1 h2⟩, fun h => by
          cases l' with
          | nil => exact h.elim
          | cons g' l' =>
            have e1 := h.1
            have e2 := car_all.2 h.2
            rw [h1] at e1
            rw [h2] at e2
            cases e1
            cases e2
            rfl⟩
theorem all_len : ∀ {l l' : List Feat}, AllR m A B l l' → l'.length = l.length
  | [], [], _ => rfl
  | [], _ :: _, h => h.elim
  | _ :: _, [], h => h.elim
  | f :: l, g :: l', h => by rw [List.length_cons, List.length_cons, all_len h.2]
theorem mem_all : ∀ {l l' : List Feat}, AllR m A B l l' → ∀ g ∈ l', ∃ f ∈ l, oneD m A B f = .ok g
  | [], [], _, g, hg => by simp at hg
  | [], _ :: _, h, _, _ => h.elim
  | _ :: _, [], h, _, _ => h.elim
  | f :: l, g :: l', h, x, hx => by
    rcases List.mem_cons.1 hx with rfl | hx
    · exact ⟨f, by simp, h.1⟩
    · obtain ⟨y, hy, e⟩ := mem_all h.2 x hx
      exact ⟨y, List.mem_cons_of_mem _ hy, e⟩
theorem all_up : ∀ {l l' : List Feat}, AllR m A B l l' → idsUp l → idsUp l'
  | [], [], _, _ => List.Pairwise.nil
  | [], _ :: _, h, _ => h.elim
  | _ :: _, [], h, _ => h.elim
  | f :: l, g :: l', h, hu => by
    have hp := List.pairwise_cons.1 hu
    refine List.pairwise_cons.2 ⟨fun y hy => ?_, all_up h.2 hp.2⟩
    obtain ⟨x, hx, e⟩ := mem_all h.2 y hy
    have := hp.1 x hx
    have e1 := (one_same h.1).2.1
    have e2 := (one_same e).2.1
    omega
theorem all_ok {l l' : List Feat} (h : AllR m A B l l') (hl : FeatsOk l) : FeatsOk l' := by
  have hl := featsOk_iff.1 hl
  refine featsOk_iff.2 ⟨by rw [all_len h]; exact hl.1, all_up h hl.2.1, fun g hg => ?_⟩
  obtain ⟨f, _, e⟩ := mem_all h g hg
  exact (one_same e).1
end
end Go.Proofs.YtdmegkkifiahdaaGreat
