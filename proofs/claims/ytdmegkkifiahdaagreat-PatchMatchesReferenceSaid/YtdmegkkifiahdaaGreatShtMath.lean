import Derived.Test.YtdmegkkifiahdaaGreatShtPure
namespace Go.Proofs.YtdmegkkifiahdaaGreat
theorem getD_mem {α : Type} {l : List α} {i : Nat} {d : α} (hi : i < l.length) : l.getD i d ∈ l := by
 rw [List.getD_eq_getElem?_getD, List.getElem?_eq_getElem hi]; exact List.getElem_mem hi
theorem mem_getD {α : Type} {l : List α} {x : α} (d : α) (h : x ∈ l) : ∃ i, i < l.length ∧ l.getD i d = x := by
 obtain ⟨i, hi, rfl⟩ := List.mem_iff_getElem.1 h
 exact ⟨i, hi, by rw [List.getD_eq_getElem?_getD, List.getElem?_eq_getElem hi]; rfl⟩
def look (l : List Feat) (id : Int) : Option Feat := l.find? fun f => decide (f.id = id)
def idsUp (l : List Feat) : Prop := l.Pairwise fun f g => f.id < g.id
theorem idsUp_of {l : List Feat} (h : FeatsOk l) : idsUp l := by
 have step : ∀ i, i + 1 < l.length → (l.getD i noFeat).id < (l.getD (i + 1) noFeat).id := fun i hi => (h.2 (i + 1) hi).2
 have far : ∀ k i, i + k + 1 < l.length → (l.getD i noFeat).id < (l.getD (i + k + 1) noFeat).id := by
  intro k
  induction k with
  | zero => exact fun i hi => step i hi
  | succ k ih => exact fun i hi => Int.lt_trans (ih i (by omega)) (step (i + k + 1) hi)
 refine List.pairwise_iff_getElem.2 fun i j hi hj hij => ?_
 have := far (j - i - 1) i (by omega)
 rw [show i + (j - i - 1) + 1 = j by omega] at this
 rwa [List.getD_eq_getElem?_getD, List.getElem?_eq_getElem hi, List.getD_eq_getElem?_getD, List.getElem?_eq_getElem hj] at this
theorem look_some {l : List Feat} {id : Int} {f : Feat} (h : look l id = some f) : f ∈ l ∧ f.id = id := by
 have h1 := List.mem_of_find?_eq_some h
 have h2 := List.find?_some h
 exact ⟨h1, by simpa using h2⟩
theorem look_mem {l : List Feat} (hl : idsUp l) {f : Feat} (hf : f ∈ l) : look l f.id = some f := by
 cases h : look l f.id with
 | none =>
   have := List.find?_eq_none.1 h f hf
   simp at this
 | some g =>
   obtain ⟨hg, he⟩ := look_some h
   obtain ⟨i, hi, rfl⟩ := List.mem_iff_getElem.1 hf
   obtain ⟨j, hj, rfl⟩ := List.mem_iff_getElem.1 hg
   have hp := List.pairwise_iff_getElem.1 hl
   rcases Nat.lt_trichotomy i j with q | q | q
   · have := hp i j hi hj q; omega
   · subst q; rfl
   · have := hp j i hj hi q; omega
theorem ups_ext : ∀ {a b : List Feat}, idsUp a → idsUp b → (∀ f, f ∈ a ↔ f ∈ b) → a = b
 | [], [], _, _, _ => rfl
 | [], y :: b, _, _, h => absurd ((h y).2 (by simp)) (by simp)
 | x :: a, [], _, _, h => absurd ((h x).1 (by simp)) (by simp)
 | x :: a, y :: b, ha, hb, h => by
   obtain ⟨h1, h2⟩ := List.pairwise_cons.1 ha
   obtain ⟨g1, g2⟩ := List.pairwise_cons.1 hb
   have e : x = y := by
    rcases List.mem_cons.1 ((h x).1 (by simp)) with q | q
    · exact q
    · rcases List.mem_cons.1 ((h y).2 (by simp)) with r | r
      · exact r.symm
      · have := h1 y r; have := g1 x q; omega
   subst e
   congr 1
   refine ups_ext h2 g2 fun f => ?_
   constructor
   · intro hf
     rcases List.mem_cons.1 ((h f).1 (by simp [hf])) with q | q
     · subst q; have := h1 f hf; omega
     · exact q
   · intro hf
     rcases List.mem_cons.1 ((h f).2 (by simp [hf])) with q | q
     · subst q; have := g1 f hf; omega
     · exact q
theorem ups_look {a b : List Feat} (ha : idsUp a) (hb : idsUp b) (h : ∀ id, look a id = look b id) : a = b :=
 ups_ext ha hb fun f => ⟨fun hf => (look_some ((h f.id).symm.trans (look_mem ha hf))).1, fun hf => (look_some ((h f.id).trans (look_mem hb hf))).1⟩
theorem rise_ext : ∀ {a b : List Int}, a.Pairwise (· < ·) → b.Pairwise (· < ·) → (∀ x, x ∈ a ↔ x ∈ b) → a = b
 | [], [], _, _, _ => rfl
 | [], y :: b, _, _, h => absurd ((h y).2 (by simp)) (by simp)
 | x :: a, [], _, _, h => absurd ((h x).1 (by simp)) (by simp)
 | x :: a, y :: b, ha, hb, h => by
   obtain ⟨h1, h2⟩ := List.pairwise_cons.1 ha
   obtain ⟨g1, g2⟩ := List.pairwise_cons.1 hb
   have e : x = y := by
    rcases List.mem_cons.1 ((h x).1 (by simp)) with q | q
    · exact q
    · rcases List.mem_cons.1 ((h y).2 (by simp)) with r | r
      · exact r.symm
      · have := h1 y r; have := g1 x q; omega
   subst e
   congr 1
   refine rise_ext h2 g2 fun f => ?_
   constructor
   · intro hf
     rcases List.mem_cons.1 ((h f).1 (by simp [hf])) with q | q
     · subst q; have := h1 f hf; omega
     · exact q
   · intro hf
     rcases List.mem_cons.1 ((h f).2 (by simp [hf])) with q | q
     · subst q; have := g1 f hf; omega
     · exact q
end Go.Proofs.YtdmegkkifiahdaaGreat
