/- Plain mathematics of chapter 14: what is shown, in which features sheets differ, digests. -/
import Derived.Test.YtmhgcmcifdclmaaGreatShtPure
namespace Go.Proofs.YtmhgcmcifdclmaaGreat
/-- What is shown is the least of the depths that cover. -/
theorem shown_le (l : List Feat) (qx qy : Int) : ∀ n, shownI l qx qy n ≤ 100000 ∧ ∀ i, i < n → covB (l.getD i noFeat) qx qy = true → shownI l qx qy n ≤ (l.getD i noFeat).dep
  | 0 => ⟨Int.le_refl _, fun i hi => by omega⟩
  | n + 1 => by
    obtain ⟨h1, h2⟩ := shown_le l qx qy n
    unfold shownI
    split
    · next hh =>
      refine ⟨by omega, fun i hi hc => ?_⟩
      rcases Nat.lt_or_ge i n with h | h
      · have := h2 i h hc; omega
      · obtain rfl : i = n := by omega
        exact Int.le_refl _
    · next hh =>
      refine ⟨h1, fun i hi hc => ?_⟩
      rcases Nat.lt_or_ge i n with h | h
      · exact h2 i h hc
      · obtain rfl : i = n := by omega
        rcases Int.lt_or_le (l.getD i noFeat).dep (shownI l qx qy i) with g | g
        · exact absurd ⟨g, hc⟩ hh
        · exact g
theorem shown_at (l : List Feat) (qx qy : Int) : ∀ n, shownI l qx qy n = 100000 ∨ ∃ i, i < n ∧ covB (l.getD i noFeat) qx qy = true ∧ shownI l qx qy n = (l.getD i noFeat).dep
  | 0 => .inl rfl
  | n + 1 => by
    unfold shownI
    split
    · next hh => exact .inr ⟨n, by omega, hh.2, rfl⟩
    · rcases shown_at l qx qy n with h | ⟨i, hi, h1, h2⟩
      · exact .inl h
      · exact .inr ⟨i, by omega, h1, h2⟩
def shownS (s : Sht) (qx qy : Int) : Int := min (shownI s.feats qx qy s.feats.length) s.cap
theorem getD_mem {α : Type} {l : List α} {i : Nat} {d : α} (hi : i < l.length) : l.getD i d ∈ l := by
  rw [List.getD_eq_getElem?_getD, List.getElem?_eq_getElem hi]; exact List.getElem_mem hi
theorem mem_getD {α : Type} {l : List α} {x : α} (d : α) (h : x ∈ l) : ∃ i, i < l.length ∧ l.getD i d = x := by
  obtain ⟨i, hi, rfl⟩ := List.mem_iff_getElem.1 h
  exact ⟨i, hi, by rw [List.getD_eq_getElem?_getD, List.getElem?_eq_getElem hi]; rfl⟩
/-- What is shown by lists: it is a lower bound, and it is reached. -/
theorem shown_mem_le (l : List Feat) (qx qy : Int) {f : Feat} (hf : f ∈ l) (hc : covB f qx qy = true) : shownI l qx qy l.length ≤ f.dep := by
  obtain ⟨i, hi, rfl⟩ := mem_getD noFeat hf
  exact (shown_le l qx qy l.length).2 i hi hc
theorem shown_mem_at (l : List Feat) (qx qy : Int) : shownI l qx qy l.length = 100000 ∨ ∃ f ∈ l, covB f qx qy = true ∧ shownI l qx qy l.length = f.dep := by
  rcases shown_at l qx qy l.length with h | ⟨i, hi, h1, h2⟩
  · exact .inl h
  · exact .inr ⟨_, getD_mem hi, h1, h2⟩
theorem shown_mono {l m : List Feat} {qx qy : Int} (h : ∀ f ∈ m, covB f qx qy = true → f ∈ l) : shownI l qx qy l.length ≤ shownI m qx qy m.length := by
  rcases shown_mem_at m qx qy with e | ⟨f, hf, hc, e⟩
  · rw [e]; exact (shown_le l qx qy l.length).1
  · rw [e]; exact shown_mem_le l qx qy (h f hf hc) hc
/-- The feature with an ID. -/
def look (l : List Feat) (id : Int) : Option Feat := l.find? fun f => decide (f.id = id)
def idsUp (l : List Feat) : Prop := l.Pairwise fun f g => f.id < g.id
theorem idsUp_of {l : List Feat} (h : FeatsOk l) : idsUp l := by
  have step : ∀ i, i + 1 < l.length → (l.getD i noFeat).id < (l.getD (i + 1) noFeat).id := fun i hi => (h.2 (i + 1) hi).2
  have far : ∀ k i, i + k + 1 < l.length → (l.getD i noFeat).id < (l.getD (i + k + 1) noFeat).id := by
    intro k
    induction k with
    | zero => exact fun i hi => step i hi
    | succ k ih => exact fun i hi => Int.lt_trans (ih i (by omega)) (step (i + k + 1) hi)
  refine List.pairwise_iff_getElem.2 fun i j hi hj hij => ?_
  have := far (j - i - 1) i (by omega)
  rw [show i + (j - i - 1) + 1 = j by omega] at this
  rwa [List.getD_eq_getElem?_getD, List.getElem?_eq_getElem hi, List.getD_eq_getElem?_getD, List.getElem?_eq_getElem hj] at this
theorem look_some {l : List Feat} {id : Int} {f : Feat} (h : look l id = some f) : f ∈ l ∧ f.id = id := by
  have h1 := List.mem_of_find?_eq_some h
  have h2 := List.find?_some h
  exact ⟨h1, by simpa using h2⟩
theorem look_mem {l : List Feat} (hl : idsUp l) {f : Feat} (hf : f ∈ l) : look l f.id = some f := by
  cases h : look l f.id with
  | none =>
    have := List.find?_eq_none.1 h f hf
    simp at this
  | some g =>
    obtain ⟨hg, he⟩ := look_some h
    obtain ⟨i, hi, rfl⟩ := List.mem_iff_getElem.1 hf
    obtain ⟨j, hj, rfl⟩ := List.mem_iff_getElem.1 hg
    have hp := List.pairwise_iff_getElem.1 hl
    rcases Nat.lt_trichotomy i j with q | q | q
    · have := hp i j hi hj q; omega
    · subst q; rfl
    · have := hp j i hj hi q; omega
theorem look_none {l : List Feat} {id : Int} (h : look l id = none) {f : Feat} (hf : f ∈ l) : f.id ≠ id := by
  have := List.find?_eq_none.1 h f hf
  simpa using this
theorem ups_ext : ∀ {a b : List Feat}, idsUp a → idsUp b → (∀ f, f ∈ a ↔ f ∈ b) → a = b
  | [], [], _, _, _ => rfl
  | [], y :: b, _, _, h => absurd ((h y).2 (by simp)) (by simp)
  | x :: a, [], _, _, h => absurd ((h x).1 (by simp)) (by simp)
  | x :: a, y :: b, ha, hb, h => by
    obtain ⟨h1, h2⟩ := List.pairwise_cons.1 ha
    obtain ⟨g1, g2⟩ := List.pairwise_cons.1 hb
    have e : x = y := by
      rcases List.mem_cons.1 ((h x).1 (by simp)) with q | q
      · exact q
      · rcases List.mem_cons.1 ((h y).2 (by simp)) with r | r
        · exact r.symm
        · have := h1 y r; have := g1 x q; omega
    subst e
    congr 1
    refine ups_ext h2 g2 fun f => ?_
    constructor
    · intro hf
      rcases List.mem_cons.1 ((h f).1 (by simp [hf])) with q | q
      · subst q; have := h1 f hf; omega
      · exact q
    · intro hf
      rcases List.mem_cons.1 ((h f).2 (by simp [hf])) with q | q
      · subst q; have := g1 f hf; omega
      · exact q
theorem ups_look {a b : List Feat} (ha : idsUp a) (hb : idsUp b) (h : ∀ id, look a id = look b id) : a = b :=
  ups_ext ha hb fun f => ⟨fun hf => (look_some ((h f.id).symm.trans (look_mem ha hf))).1, fun hf => (look_some ((h f.id).trans (look_mem hb hf))).1⟩
/-- The IDs in which lists differ, as they are found. -/
def diffIds (a b : List Feat) : List Int := ((a.filter fun f => decide (look b f.id ≠ some f)).map Feat.id) ++ ((b.filter fun f => decide (look a f.id = none)).map Feat.id)
theorem mem_diff {a b : List Feat} (ha : idsUp a) (hb : idsUp b) (id : Int) : id ∈ diffIds a b ↔ look a id ≠ look b id := by
  unfold diffIds
  simp only [List.mem_append, List.mem_map, List.mem_filter, decide_eq_true_eq]
  constructor
  · rintro (⟨f, ⟨hf, hn⟩, rfl⟩ | ⟨f, ⟨hf, hn⟩, rfl⟩)
    · rw [look_mem ha hf]; exact fun h => hn h.symm
    · rw [look_mem hb hf, hn]; simp
  · intro h
    cases hx : look a id with
    | some f =>
      obtain ⟨hf, rfl⟩ := look_some hx
      exact .inl ⟨f, ⟨hf, fun g => h (by rw [hx, g])⟩, rfl⟩
    | none =>
      cases hy : look b id with
      | none => exact absurd (by rw [hx, hy]) h
      | some g =>
        obtain ⟨hg, rfl⟩ := look_some hy
        exact .inr ⟨g, ⟨hg, hx⟩, rfl⟩
theorem ids_nodup {l : List Feat} (h : idsUp l) (p : Feat → Bool) : ((l.filter p).map Feat.id).Nodup := by
  have := (h.filter p).map Feat.id (S := fun a b => a ≠ b) (fun f g hfg => by omega)
  exact this
theorem diff_nodup {a b : List Feat} (ha : idsUp a) (hb : idsUp b) : (diffIds a b).Nodup := by
  unfold diffIds
  refine List.nodup_append.2 ⟨ids_nodup ha _, ids_nodup hb _, ?_⟩
  intro x hx y hy e
  subst e
  simp only [List.mem_map, List.mem_filter, decide_eq_true_eq] at hx hy
  obtain ⟨f, ⟨hf, _⟩, rfl⟩ := hx
  obtain ⟨g, ⟨_, hg⟩, e⟩ := hy
  exact look_none hg hf e.symm
/-- A rising list is the one of what it has. -/
theorem rise_ext : ∀ {a b : List Int}, a.Pairwise (· < ·) → b.Pairwise (· < ·) → (∀ x, x ∈ a ↔ x ∈ b) → a = b
  | [], [], _, _, _ => rfl
  | [], y :: b, _, _, h => absurd ((h y).2 (by simp)) (by simp)
  | x :: a, [], _, _, h => absurd ((h x).1 (by simp)) (by simp)
  | x :: a, y :: b, ha, hb, h => by
    obtain ⟨h1, h2⟩ := List.pairwise_cons.1 ha
    obtain ⟨g1, g2⟩ := List.pairwise_cons.1 hb
    have e : x = y := by
      rcases List.mem_cons.1 ((h x).1 (by simp)) with q | q
      · exact q
      · rcases List.mem_cons.1 ((h y).2 (by simp)) with r | r
        · exact r.symm
        · have := h1 y r; have := g1 x q; omega
    subst e
    congr 1
    refine rise_ext h2 g2 fun f => ?_
    constructor
    · intro hf
      rcases List.mem_cons.1 ((h f).1 (by simp [hf])) with q | q
      · subst q; have := h1 f hf; omega
      · exact q
    · intro hf
      rcases List.mem_cons.1 ((h f).2 (by simp [hf])) with q | q
      · subst q; have := g1 f hf; omega
      · exact q
theorem rise_of {l m : List Int} (hp : l.Perm m) (hn : m.Nodup) (hs : l.Pairwise (· ≤ ·)) : l.Pairwise (· < ·) := by
  have hn' : l.Nodup := hp.nodup_iff.2 hn
  exact (hs.and hn').imp fun h => by omega
/-- What Differ answers: the IDs, rising. -/
def DiffL (a b : List Feat) (l : List Int) : Prop := l.Pairwise (· < ·) ∧ ∀ id, id ∈ l ↔ look a id ≠ look b id
theorem diffL_of {a b : List Feat} {l : List Int} (ha : idsUp a) (hb : idsUp b) (hp : l.Perm (diffIds a b)) (hs : l.Pairwise (· ≤ ·)) : DiffL a b l :=
  ⟨rise_of hp (diff_nodup ha hb) hs, fun id => by rw [hp.mem_iff]; exact mem_diff ha hb id⟩
theorem diffL_sym {a b : List Feat} {l m : List Int} (h : DiffL a b l) (h' : DiffL b a m) : l = m :=
  rise_ext h.1 h'.1 fun x => by rw [h.2, h'.2]; exact ⟨fun h => Ne.symm h, fun h => Ne.symm h⟩
theorem diffL_nil {a b : List Feat} {l : List Int} (ha : idsUp a) (hb : idsUp b) (h : DiffL a b l) : l = [] ↔ a = b := by
  constructor
  · rintro rfl
    refine ups_look ha hb fun id => ?_
    have := h.2 id
    simp at this
    exact this
  · rintro rfl
    cases l with
    | nil => rfl
    | cons x l => exact absurd rfl ((h.2 x).1 (by simp))
theorem diffL_tri {a b c : List Feat} {x v w : List Int} (h : DiffL a b x) (hv : DiffL a c v) (hw : DiffL c b w) {id : Int} (hid : id ∈ x) : id ∈ v ∨ id ∈ w := by
  rw [hv.2, hw.2]
  have := (h.2 id).1 hid
  by_cases e : look a id = look c id
  · exact .inr (fun e' => this (e.trans e'))
  · exact .inl e
theorem shown_same {a b : List Feat} {x : List Int} {qx qy : Int} (ha : idsUp a) (hb : idsUp b) (h : DiffL a b x) (hn : ∀ f, f ∈ a ∨ f ∈ b → covB f qx qy = true → f.id ∉ x) : shownI a qx qy a.length = shownI b qx qy b.length := by
  refine Int.le_antisymm (shown_mono fun f hf hc => ?_) (shown_mono fun f hf hc => ?_)
  · have e : look a f.id = look b f.id := by
      have := hn f (.inr hf) hc
      rw [h.2] at this
      exact Classical.not_not.1 this
    exact (look_some (e.trans (look_mem hb hf))).1
  · have e : look a f.id = look b f.id := by
      have := hn f (.inl hf) hc
      rw [h.2] at this
      exact Classical.not_not.1 this
    exact (look_some (e.symm.trans (look_mem ha hf))).1
/-- Digests. -/
def u64N (x : Int) : Nat := (x % 18446744073709551616).toNat
def mixN (y : Nat) : Nat := y ^^^ (y / 4294967296)
def stepD (h : Nat) (x : Int) : Nat := mixN (((h ^^^ u64N x) * 11507291218515648293) % 18446744073709551616)
def digN (l : List Int) : Nat := l.foldl stepD ((11400714819323198485 + l.length) % 18446744073709551616)
theorem mixN_lt {y : Nat} (h : y < 18446744073709551616) : mixN y < 18446744073709551616 :=
  Nat.xor_lt_two_pow (n := 64) h (Nat.lt_of_le_of_lt (Nat.div_le_self _ _) h)
theorem mixN_inv {y : Nat} (h : y < 18446744073709551616) : mixN (mixN y) = y := by
  unfold mixN
  have e : (y ^^^ (y / 4294967296)) / 4294967296 = y / 4294967296 := by
    have h1 : y / 4294967296 = y >>> 32 := by rw [Nat.shiftRight_eq_div_pow]
    have h2 : (y ^^^ y >>> 32) / 4294967296 = (y ^^^ y >>> 32) >>> 32 := by rw [Nat.shiftRight_eq_div_pow (y ^^^ y >>> 32)]
    rw [h1, h2, Nat.shiftRight_xor_distrib, ← Nat.shiftRight_add, Nat.shiftRight_eq_div_pow y (32 + 32), Nat.div_eq_of_lt (by simpa using h), Nat.xor_zero]
  rw [e, Nat.xor_assoc, Nat.xor_self, Nat.xor_zero]
theorem stepD_lt (h : Nat) (x : Int) : stepD h x < 18446744073709551616 := mixN_lt (Nat.mod_lt _ (by decide))
theorem mul_odd_inj {a b : Nat} (ha : a < 18446744073709551616) (hb : b < 18446744073709551616) (h : a * 11507291218515648293 % 18446744073709551616 = b * 11507291218515648293 % 18446744073709551616) : a = b := by
  have key : ∀ c : Nat, c < 18446744073709551616 → c * 11507291218515648293 % 18446744073709551616 * 192419422752744621 % 18446744073709551616 = c := fun c hc => by
    rw [Nat.mod_mul_mod, Nat.mul_assoc, show 11507291218515648293 * 192419422752744621 = 1 + 120033450069394172 * 18446744073709551616 from by decide, Nat.mul_add, Nat.mul_one, ← Nat.mul_assoc, Nat.add_mul_mod_self_right, Nat.mod_eq_of_lt hc]
  rw [← key a ha, ← key b hb, h]
theorem xor_inj_r {a b c : Nat} (h : a ^^^ c = b ^^^ c) : a = b := by
  have := congrArg (· ^^^ c) h
  simpa [Nat.xor_assoc] using this
theorem xor_inj_l {a b c : Nat} (h : c ^^^ a = c ^^^ b) : a = b := by
  have := congrArg (c ^^^ ·) h
  simpa [← Nat.xor_assoc] using this
theorem u64N_lt (x : Int) : u64N x < 18446744073709551616 := by unfold u64N; omega
theorem stepD_inj {h g : Nat} {x y : Int} (hh : h < 18446744073709551616) (hg : g < 18446744073709551616) (e : stepD h x = stepD g y) : h ^^^ u64N x = g ^^^ u64N y := by
  have e1 := congrArg mixN e
  unfold stepD at e1
  rw [mixN_inv (Nat.mod_lt _ (by decide)), mixN_inv (Nat.mod_lt _ (by decide))] at e1
  exact mul_odd_inj (Nat.xor_lt_two_pow (n := 64) hh (u64N_lt x)) (Nat.xor_lt_two_pow (n := 64) hg (u64N_lt y)) e1
theorem fold_lt : ∀ (l : List Int) (h : Nat), h < 18446744073709551616 → l.foldl stepD h < 18446744073709551616
  | [], _, hh => hh
  | x :: l, h, _ => fold_lt l _ (stepD_lt h x)
theorem fold_inj : ∀ (l : List Int) {h g : Nat}, h < 18446744073709551616 → g < 18446744073709551616 → l.foldl stepD h = l.foldl stepD g → h = g
  | [], _, _, _, _, e => e
  | x :: l, h, g, hh, hg, e => by
    have e1 := fold_inj l (stepD_lt h x) (stepD_lt g x) e
    exact xor_inj_r (stepD_inj hh hg e1)
/-- Lists that differ in one number have other digests. -/
theorem dig_one {p s : List Int} {x y : Int} (hx : -9223372036854775808 ≤ x ∧ x ≤ 9223372036854775807) (hy : -9223372036854775808 ≤ y ∧ y ≤ 9223372036854775807) (e : digN (p ++ x :: s) = digN (p ++ y :: s)) : x = y := by
  unfold digN at e
  simp only [List.length_append, List.length_cons, List.foldl_append, List.foldl_cons] at e
  have h0 := fold_lt p ((11400714819323198485 + (p.length + (s.length + 1))) % 18446744073709551616) (Nat.mod_lt _ (by decide))
  have e1 := fold_inj s (stepD_lt _ x) (stepD_lt _ y) e
  have e2 := xor_inj_l (stepD_inj h0 h0 e1)
  unfold u64N at e2
  omega
/-- Numbers of valid features and sheets are 64-bit numbers. -/
def I64 (x : Int) : Prop := -9223372036854775808 ≤ x ∧ x ≤ 9223372036854775807
theorem dig_mid {p s q r : List Int} {x y : Int} (hx : I64 x) (hy : I64 y) (e : digN (p ++ (q ++ x :: r) ++ s) = digN (p ++ (q ++ y :: r) ++ s)) : x = y := by
  simp only [List.append_assoc, List.cons_append] at e
  rw [← List.append_assoc, ← List.append_assoc] at e
  exact dig_one hx hy e
theorem dig_dep {f : Feat} {n : Int} {p s : List Int} (h : FeatOk f) (h' : FeatOk { f with dep := n }) (e : digN (p ++ encFeat f ++ s) = digN (p ++ encFeat { f with dep := n } ++ s)) : f.dep = n := by
  obtain ⟨id, kind, x, y, rad, area, dep, sym, secs⟩ := f
  obtain ⟨⟨_, _, ⟨a1, a2⟩, _⟩, hk⟩ := h
  obtain ⟨⟨_, _, ⟨b1, b2⟩, _⟩, hk'⟩ := h'
  unfold FormR at hk hk'
  unfold encFeat at e
  simp only [] at hk hk' e a1 a2 b1 b2 ⊢
  have i1 : I64 dep := ⟨by omega, by omega⟩
  have i2 : I64 n := ⟨by omega, by omega⟩
  by_cases h1 : DiscK kind
  · simp only [if_pos h1] at e
    exact dig_mid (q := [id, kind, sym, x, y, rad]) (r := []) i1 i2 e
  · rw [if_neg h1] at hk hk'
    by_cases h4 : kind = 4
    · subst h4
      rw [if_neg (by omega)] at hk hk'
      obtain ⟨_, _, _, _, e1, _⟩ := hk
      obtain ⟨_, _, _, _, e2, _⟩ := hk'
      omega
    · simp only [if_neg h1, if_neg h4] at e
      exact dig_mid (q := [id, kind, sym]) (r := putL encPt area) i1 i2 e
theorem dig_sym {f : Feat} {n : Int} {p s : List Int} (h : FeatOk f) (h' : FeatOk { f with sym := n }) (e : digN (p ++ encFeat f ++ s) = digN (p ++ encFeat { f with sym := n } ++ s)) : f.sym = n := by
  obtain ⟨id, kind, x, y, rad, area, dep, sym, secs⟩ := f
  obtain ⟨⟨_, ⟨a1, a2⟩, _, _⟩, _⟩ := h
  obtain ⟨⟨_, ⟨b1, b2⟩, _, _⟩, _⟩ := h'
  unfold encFeat at e
  simp only [] at e a1 a2 b1 b2 ⊢
  exact dig_mid (q := [id, kind]) (r := if DiscK kind then [x, y, rad, dep] else if kind = 4 then [x, y] ++ putL encSec secs else [dep] ++ putL encPt area) ⟨by omega, by omega⟩ ⟨by omega, by omega⟩ e
theorem flat_set (l : List Feat) (k : Nat) (g : Feat) (hk : k < l.length) : l.flatMap encFeat = (l.take k).flatMap encFeat ++ encFeat (l.getD k noFeat) ++ (l.drop (k + 1)).flatMap encFeat ∧ (l.set k g).flatMap encFeat = (l.take k).flatMap encFeat ++ encFeat g ++ (l.drop (k + 1)).flatMap encFeat := by
  constructor
  · have e : l = l.take k ++ l.getD k noFeat :: l.drop (k + 1) := by
      rw [List.getD_eq_getElem?_getD, List.getElem?_eq_getElem hk]
      simp
    have := congrArg (List.flatMap encFeat) e
    rw [this]
    simp
  · rw [List.set_eq_take_append_cons_drop, if_pos hk]
    simp
theorem getD_set {l : List Feat} {k : Nat} {g : Feat} (hk : k < l.length) : (l.set k g).getD k noFeat = g := by
  rw [List.getD_eq_getElem?_getD]
  simp [hk]
theorem dig_feat (s : Sht) (k : Nat) (g : Feat) (hk : k < s.feats.length) (e : digN (encS s) = digN (encS { s with feats := s.feats.set k g })) : ∃ p t, digN (p ++ encFeat (s.feats.getD k noFeat) ++ t) = digN (p ++ encFeat g ++ t) := by
  obtain ⟨h1, h2⟩ := flat_set s.feats k g hk
  refine ⟨encHead s ++ putL encInt s.don ++ (s.feats.length : Int) :: (s.feats.take k).flatMap encFeat, (s.feats.drop (k + 1)).flatMap encFeat, ?_⟩
  unfold encS putL at e
  simp only [List.length_set] at e
  rw [h1, h2] at e
  unfold putL
  simp only [List.append_assoc, List.cons_append] at e ⊢
  exact e
theorem featOk_at {l : List Feat} (h : FeatsOk l) {k : Nat} (hk : k < l.length) : FeatOk (l.getD k noFeat) := (h.2 k hk).1
theorem digests_dep {s : Sht} {k : Nat} {n : Int} (hk : k < s.feats.length) (hs : FeatsOk s.feats) (ht : FeatsOk (s.feats.set k { s.feats.getD k noFeat with dep := n })) : digN (encS s) = digN (encS { s with feats := s.feats.set k { s.feats.getD k noFeat with dep := n } }) ↔ (s.feats.getD k noFeat).dep = n := by
  constructor
  · intro e
    obtain ⟨p, t, e⟩ := dig_feat s k _ hk e
    have h2 := featOk_at ht (k := k) (by simpa using hk)
    rw [getD_set hk] at h2
    exact dig_dep (featOk_at hs hk) h2 e
  · intro e
    have e2 : { s.feats.getD k noFeat with dep := n } = s.feats.getD k noFeat := by rw [← e]
    rw [e2]
    have e3 : s.feats.set k (s.feats.getD k noFeat) = s.feats := by
      rw [List.getD_eq_getElem?_getD, List.getElem?_eq_getElem hk]
      simp
    rw [e3]
theorem digests_sym {s : Sht} {k : Nat} {n : Int} (hk : k < s.feats.length) (hs : FeatsOk s.feats) (ht : FeatsOk (s.feats.set k { s.feats.getD k noFeat with sym := n })) : digN (encS s) = digN (encS { s with feats := s.feats.set k { s.feats.getD k noFeat with sym := n } }) ↔ (s.feats.getD k noFeat).sym = n := by
  constructor
  · intro e
    obtain ⟨p, t, e⟩ := dig_feat s k _ hk e
    have h2 := featOk_at ht (k := k) (by simpa using hk)
    rw [getD_set hk] at h2
    exact dig_sym (featOk_at hs hk) h2 e
  · intro e
    have e2 : { s.feats.getD k noFeat with sym := n } = s.feats.getD k noFeat := by rw [← e]
    rw [e2]
    have e3 : s.feats.set k (s.feats.getD k noFeat) = s.feats := by
      rw [List.getD_eq_getElem?_getD, List.getElem?_eq_getElem hk]
      simp
    rw [e3]
theorem digests_edition {s : Sht} {n : Int} (h : I64 s.edition) (h' : I64 n) : digN (encS s) = digN (encS { s with edition := n }) ↔ s.edition = n := by
  constructor
  · intro e
    unfold encS encHead at e
    simp only [List.append_assoc, List.cons_append] at e
    exact dig_one (p := [s.chart, s.scale]) h h' e
  · rintro rfl; rfl
theorem digests_cap {s : Sht} {n : Int} (h : I64 s.cap) (h' : I64 n) : digN (encS s) = digN (encS { s with cap := n }) ↔ s.cap = n := by
  constructor
  · intro e
    unfold encS encHead at e
    simp only [List.append_assoc, List.cons_append] at e
    exact dig_one (p := [s.chart, s.scale, s.edition, s.dat.a, s.dat.b, s.dat.c, s.dat.d, s.dat.e, s.dat.f, s.dat.r]) h h' e
  · rintro rfl; rfl
end Go.Proofs.YtmhgcmcifdclmaaGreat
