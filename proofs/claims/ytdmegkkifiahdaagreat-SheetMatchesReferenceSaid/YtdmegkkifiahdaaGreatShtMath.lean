/- Plain mathematics of chapter 14: what is shown, in which features sheets differ, digests. -/
import Derived.Test.YtdmegkkifiahdaaGreatShtPure
namespace Go.Proofs.YtdmegkkifiahdaaGreat
def shownS (s : Sht) (qx qy : Int) : Int := min (shownI s.feats qx qy s.feats.length) s.cap
theorem getD_mem {α : Type} {l : List α} {i : Nat} {d : α} (hi : i < l.length) : l.getD i d ∈ l := by
  rw [List.getD_eq_getElem?_getD, List.getElem?_eq_getElem hi]; exact List.getElem_mem hi
theorem mem_getD {α : Type} {l : List α} {x : α} (d : α) (h : x ∈ l) : ∃ i, i < l.length ∧ l.getD i d = x := by
  obtain ⟨i, hi, rfl⟩ := List.mem_iff_getElem.1 h
  exact ⟨i, hi, by rw [List.getD_eq_getElem?_getD, List.getElem?_eq_getElem hi]; rfl⟩
/-- The feature with an ID. -/
def look (l : List Feat) (id : Int) : Option Feat := l.find? fun f => decide (f.id = id)
def idsUp (l : List Feat) : Prop := l.Pairwise fun f g => f.id < g.id
theorem idsUp_of {l : List Feat} (h : FeatsOk l) : idsUp l := by
  have step : ∀ i, i + 1 < l.length → (l.getD i noFeat).id < (l.getD (i + 1) noFeat).id := fun i hi => (h.2 (i + 1) hi).2
  have far : ∀ k i, i + k + 1 < l.length → (l.getD i noFeat).id < (l.getD (i + k + 1) noFeat).id := by
    intro k
    induction k with
    | zero => exact fun i hi => step i hi
    | succ k ih => exact fun i hi => Int.lt_trans (ih i (by omega)) (step (i + k + 1) hi)
  refine List.pairwise_iff_getElem.2 fun i j hi hj hij => ?_
  have := far (j - i - 1) i (by omega)
  rw [show i + (j - i - 1) + 1 = j by omega] at this
  rwa [List.getD_eq_getElem?_getD, List.getElem?_eq_getElem hi, List.getD_eq_getElem?_getD, List.getElem?_eq_getElem hj] at this
theorem look_some {l : List Feat} {id : Int} {f : Feat} (h : look l id = some f) : f ∈ l ∧ f.id = id := by
  have h1 := List.mem_of_find?_eq_some h
  have h2 := List.find?_some h
  exact ⟨h1, by simpa using h2⟩
theorem look_mem {l : List Feat} (hl : idsUp l) {f : Feat} (hf : f ∈ l) : look l f.id = some f := by
  cases h : look l f.id with
  | none =>
    have := List.find?_eq_none.1 h f hf
    simp at this
  | some g =>
    obtain ⟨hg, he⟩ := look_some h
    obtain ⟨i, hi, rfl⟩ := List.mem_iff_getElem.1 hf
    obtain ⟨j, hj, rfl⟩ := List.mem_iff_getElem.1 hg
    have hp := List.pairwise_iff_getElem.1 hl
    rcases Nat.lt_trichotomy i j with q | q | q
    · have := hp i j hi hj q; omega
    · subst q; rfl
    · have := hp j i hj hi q; omega
theorem look_none {l : List Feat} {id : Int} (h : look l id = none) {f : Feat} (hf : f ∈ l) : f.id ≠ id := by
  have := List.find?_eq_none.1 h f hf
  simpa using this
/-- The IDs in which lists differ, as they are found. -/
def diffIds (a b : List Feat) : List Int := ((a.filter fun f => decide (look b f.id ≠ some f)).map Feat.id) ++ ((b.filter fun f => decide (look a f.id = none)).map Feat.id)
theorem mem_diff {a b : List Feat} (ha : idsUp a) (hb : idsUp b) (id : Int) : id ∈ diffIds a b ↔ look a id ≠ look b id := by
  unfold diffIds
  simp only [List.mem_append, List.mem_map, List.mem_filter, decide_eq_true_eq]
  constructor
  · rintro (⟨f, ⟨hf, hn⟩, rfl⟩ | ⟨f, ⟨hf, hn⟩, rfl⟩)
    · rw [look_mem ha hf]; exact fun h => hn h.symm
    · rw [look_mem hb hf, hn]; simp
  · intro h
    cases hx : look a id with
    | some f =>
      obtain ⟨hf, rfl⟩ := look_some hx
      exact .inl ⟨f, ⟨hf, fun g => h (by rw [hx, g])⟩, rfl⟩
    | none =>
      cases hy : look b id with
      | none => exact absurd (by rw [hx, hy]) h
      | some g =>
        obtain ⟨hg, rfl⟩ := look_some hy
        exact .inr ⟨g, ⟨hg, hx⟩, rfl⟩
theorem ids_nodup {l : List Feat} (h : idsUp l) (p : Feat → Bool) : ((l.filter p).map Feat.id).Nodup := by
  have := (h.filter p).map Feat.id (S := fun a b => a ≠ b) (fun f g hfg => by omega)
  exact this
theorem diff_nodup {a b : List Feat} (ha : idsUp a) (hb : idsUp b) : (diffIds a b).Nodup := by
  unfold diffIds
  refine List.nodup_append.2 ⟨ids_nodup ha _, ids_nodup hb _, ?_⟩
  intro x hx y hy e
  subst e
  simp only [List.mem_map, List.mem_filter, decide_eq_true_eq] at hx hy
  obtain ⟨f, ⟨hf, _⟩, rfl⟩ := hx
  obtain ⟨g, ⟨_, hg⟩, e⟩ := hy
  exact look_none hg hf e.symm
/-- A rising list is the one of what it has. -/
theorem rise_ext : ∀ {a b : List Int}, a.Pairwise (· < ·) → b.Pairwise (· < ·) → (∀ x, x ∈ a ↔ x ∈ b) → a = b
  | [], [], _, _, _ => rfl
  | [], y :: b, _, _, h => absurd ((h y).2 (by simp)) (by simp)
  | x :: a, [], _, _, h => absurd ((h x).1 (by simp)) (by simp)
  | x :: a, y :: b, ha, hb, h => by
    obtain ⟨h1, h2⟩ := List.pairwise_cons.1 ha
    obtain ⟨g1, g2⟩ := List.pairwise_cons.1 hb
    have e : x = y := by
      rcases List.mem_cons.1 ((h x).1 (by simp)) with q | q
      · exact q
      · rcases List.mem_cons.1 ((h y).2 (by simp)) with r | r
        · exact r.symm
        · have := h1 y r; have := g1 x q; omega
    subst e
    congr 1
    refine rise_ext h2 g2 fun f => ?_
    constructor
    · intro hf
      rcases List.mem_cons.1 ((h f).1 (by simp [hf])) with q | q
      · subst q; have := h1 f hf; omega
      · exact q
    · intro hf
      rcases List.mem_cons.1 ((h f).2 (by simp [hf])) with q | q
      · subst q; have := g1 f hf; omega
      · exact q
theorem rise_of {l m : List Int} (hp : l.Perm m) (hn : m.Nodup) (hs : l.Pairwise (· ≤ ·)) : l.Pairwise (· < ·) := by
  have hn' : l.Nodup := hp.nodup_iff.2 hn
  exact (hs.and hn').imp fun h => by omega
/-- What Differ answers: the IDs, rising. -/
def DiffL (a b : List Feat) (l : List Int) : Prop := l.Pairwise (· < ·) ∧ ∀ id, id ∈ l ↔ look a id ≠ look b id
theorem diffL_of {a b : List Feat} {l : List Int} (ha : idsUp a) (hb : idsUp b) (hp : l.Perm (diffIds a b)) (hs : l.Pairwise (· ≤ ·)) : DiffL a b l :=
  ⟨rise_of hp (diff_nodup ha hb) hs, fun id => by rw [hp.mem_iff]; exact mem_diff ha hb id⟩
/-- Digests. -/
def u64N (x : Int) : Nat := (x % 18446744073709551616).toNat
def mixN (y : Nat) : Nat := y ^^^ (y / 4294967296)
def stepD (h : Nat) (x : Int) : Nat := mixN (((h ^^^ u64N x) * 11507291218515648293) % 18446744073709551616)
def digN (l : List Int) : Nat := l.foldl stepD ((11400714819323198485 + l.length) % 18446744073709551616)
theorem mixN_lt {y : Nat} (h : y < 18446744073709551616) : mixN y < 18446744073709551616 :=
  Nat.xor_lt_two_pow (n := 64) h (Nat.lt_of_le_of_lt (Nat.div_le_self _ _) h)
theorem stepD_lt (h : Nat) (x : Int) : stepD h x < 18446744073709551616 := mixN_lt (Nat.mod_lt _ (by decide))
theorem u64N_lt (x : Int) : u64N x < 18446744073709551616 := by unfold u64N; omega
/-- Numbers of valid features and sheets are 64-bit numbers. -/
def I64 (x : Int) : Prop := -9223372036854775808 ≤ x ∧ x ≤ 9223372036854775807
end Go.Proofs.YtdmegkkifiahdaaGreat
