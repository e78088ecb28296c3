/- Contracts and plain facts for the laws of carried lists and sheets. -/
import Derived.Test.YtmhgcmcifdclmaaGreatTrV
import Derived.Test.YtmhgcmcifdclmaaGreatFeatE
import Derived.Test.YtmhgcmcifdclmaaGreatShtS
namespace Go.Proofs.YtmhgcmcifdclmaaGreat
open Go.RowKit
set_option linter.unusedVariables false
/-- What feature.Shown answers. -/
def shownF (l : List Feat) (x y : Int) : Int × Int := if FeatsOk l ∧ Vld x y then (shownI l x y l.length, 0) else (0, 1)
theorem ftShown_any (l : List Feat) (v0 : Value) (qx qy : Int) (w : World) (h : FeatsAt w v0 l) {v k : Int} (hr : shownF l qx qy = (v, k)) :
    Calls Tryz.prog 27 #[v0, .agg #[.int .i64 qx, .int .i64 qy]] w fun e w' => e = .returned (.tuple #[.int .i64 v, .int .i64 k]) ∧ Below w.heap.size w w' := by
  unfold shownF at hr
  by_cases hv : FeatsOk l ∧ Vld qx qy
  · rw [if_pos hv] at hr
    cases hr
    exact ftShown_yes l v0 qx qy w h hv.1 hv.2 rfl
  · rw [if_neg hv] at hr
    cases hr
    exact ftShown_no l v0 qx qy w h hv
/-- What sheet.Shown answers. -/
def shownT (s : Sht) (x y : Int) : Int × Int := if ShtOk s ∧ Vld x y then (shownS s x y, 0) else (0, 1)
theorem shShown_all (s : Sht) (vd vf : Value) (qx qy : Int) (w : World) (hd : IntsAt w vd s.don) (hf : FeatsAt w vf s.feats) {v k : Int} (hr : shownT s qx qy = (v, k)) :
    Calls Tryz.prog 29 #[shtV s vd vf, .agg #[.int .i64 qx, .int .i64 qy]] w fun e w' => e = .returned (.tuple #[.int .i64 v, .int .i64 k]) ∧ Below w.heap.size w w' := by
  unfold shownT at hr
  by_cases hv : ShtOk s ∧ Vld qx qy
  · rw [if_pos hv] at hr
    cases hr
    exact shShown_yes s vd vf qx qy w hd hf hv.1 hv.2 rfl
  · rw [if_neg hv] at hr
    cases hr
    exact shShown_no s vd vf qx qy w hd hf hv
theorem ints_none (w : World) : IntsAt w (.slice none 0 0) [] := ⟨⟨none, 0, rfl, by simp, fun i hi => absurd hi (Nat.not_lt_zero i)⟩, by intro ad n c h; cases h; omega⟩
theorem carL_err {m : Dat} {A B : List Mk} : ∀ {l : List Feat} {k : Int}, carL m A B l = .error k → k ≠ 0
  | [], k, h => by cases h
  | f :: l, k, h => by
    unfold carL at h
    cases e : oneD m A B f with
    | error j =>
      rw [e] at h
      cases h
      exact one_err e
    | ok g =>
      rw [e] at h
      simp only at h
      cases e2 : carL m A B l with
      | error j =>
        rw [e2] at h
        cases h
        exact carL_err e2
      | ok r => rw [e2] at h; cases h
theorem listR_zero {m : Dat} {a b : Bk} {l r : List Feat} (h : listR m a b l = (r, 0)) : BooksOk m a b ∧ FeatsOk l ∧ carL m a.marks b.marks l = .ok r := by
  unfold listR at h
  by_cases hv : BooksOk m a b ∧ FeatsOk l
  · rw [if_pos hv] at h
    cases e : carL m a.marks b.marks l with
    | error k =>
      rw [e] at h
      simp only [Prod.mk.injEq] at h
      exact absurd h.2 (carL_err e)
    | ok x =>
      rw [e] at h
      simp only [Prod.mk.injEq, and_true] at h
      exact ⟨hv.1, hv.2, by rw [h]⟩
  · rw [if_neg hv] at h
    cases h
theorem listR_len {m : Dat} {a b : Bk} {l r : List Feat} {k : Int} (h : listR m a b l = (r, k)) : r.length ≤ 300 := by
  unfold listR at h
  by_cases hv : BooksOk m a b ∧ FeatsOk l
  · rw [if_pos hv] at h
    cases e : carL m a.marks b.marks l with
    | error k =>
      rw [e] at h
      cases h
      simp
    | ok x =>
      rw [e] at h
      cases h
      rw [carL_len e]
      exact hv.2.1
  · rw [if_neg hv] at h
    cases h
    simp
theorem writeR_ok {m d : Dat} (h : writeR m = (d, 0)) : DatOk d := by
  unfold writeR at h
  by_cases hm : DatOk m
  · rw [if_pos hm] at h
    cases h
    exact hm
  · rw [if_neg hm] at h
    cases h
theorem thenR_ok {m n d : Dat} (h : thenR m n = (d, 0)) : DatOk d := by
  unfold thenR at h
  by_cases hm : DatOk m ∧ DatOk n
  · rw [if_pos hm] at h
    exact writeR_ok h
  · rw [if_neg hm] at h
    cases h
theorem thenR_err {m n d : Dat} {k : Int} (h : thenR m n = (d, k)) (hk : k ≠ 0) : k = 1 ∨ k = 3 := by
  unfold thenR writeR at h
  split at h
  · split at h
    · cases h
      exact absurd rfl hk
    · cases h
      exact .inr rfl
  · cases h
    exact .inl rfl
theorem tsht_zero {m : Dat} {a b : Bk} {s t : Sht} {ch sc : Int} (h : tshtR m a b s ch sc = (t, 0)) :
    ShtArg m a b s ch sc ∧ ShtOk t ∧ t.chart = ch ∧ t.scale = sc ∧ t.edition = 1 ∧ t.cap = s.cap ∧ t.don = [] ∧ carL m a.marks b.marks s.feats = .ok t.feats := by
  unfold tshtR at h
  by_cases ha : ShtArg m a b s ch sc
  · rw [if_pos ha] at h
    by_cases h1 : (thenR s.dat m).2 ≠ 0
    · rw [if_pos h1] at h
      simp only [Prod.mk.injEq] at h
      exact absurd h.2 h1
    · rw [if_neg h1] at h
      by_cases h2 : (listR m a b s.feats).2 ≠ 0
      · rw [if_pos h2] at h
        simp only [Prod.mk.injEq] at h
        exact absurd h.2 h2
      · rw [if_neg h2] at h
        simp only [ne_eq, Decidable.not_not] at h1 h2
        have hd : DatOk (thenR s.dat m).1 := thenR_ok (show thenR s.dat m = ((thenR s.dat m).1, 0) by rw [← h1])
        obtain ⟨b1, b2, b3⟩ := listR_zero (show listR m a b s.feats = ((listR m a b s.feats).1, 0) by rw [← h2])
        have hf := all_ok (car_all.1 b3) b2
        obtain ⟨⟨_, _, _, _, _, hcap, _, _⟩, hch, hsc⟩ := (⟨ha.1.2, ha.2.1, ha.2.2⟩ : ShtOk s ∧ _ ∧ _)
        cases h
        exact ⟨ha, ⟨fun i hi => absurd hi (Nat.not_lt_zero i), Nat.zero_le _, hch, hsc, ⟨show (1 : Int) ≤ 1 by decide, show (1 : Int) ≤ 1000 by decide⟩, hcap, hd, hf⟩, rfl, rfl, rfl, rfl, rfl, b3⟩
  · rw [if_neg ha] at h
    cases h
theorem tsht_err {m : Dat} {a b : Bk} {s t : Sht} {ch sc k : Int} {l : List Feat} (h : tshtR m a b s ch sc = (t, k)) (hk : k ≠ 0) (hl : listR m a b s.feats = (l, 0)) : k = 1 ∨ k = 3 := by
  unfold tshtR at h
  rw [hl] at h
  by_cases ha : ShtArg m a b s ch sc
  · rw [if_pos ha] at h
    by_cases h1 : (thenR s.dat m).2 ≠ 0
    · rw [if_pos h1] at h
      cases h
      exact thenR_err rfl hk
    · rw [if_neg h1, if_neg (fun q => q rfl)] at h
      cases h
      exact absurd rfl hk
  · rw [if_neg ha] at h
    cases h
    exact .inl rfl
theorem shownF_zero {l : List Feat} {x y v : Int} (h : shownF l x y = (v, 0)) : FeatsOk l ∧ Vld x y ∧ shownI l x y l.length = v := by
  unfold shownF at h
  by_cases hv : FeatsOk l ∧ Vld x y
  · rw [if_pos hv] at h
    exact ⟨hv.1, hv.2, congrArg Prod.fst h⟩
  · rw [if_neg hv] at h
    cases h
theorem shown_list {m : Dat} {a b : Bk} {l r : List Feat} {px py qx qy c d e : Int} (hl : listR m a b l = (r, 0)) (hc : shownF l px py = (c, 0)) (hf : fitsR m (px, py) (qx, qy) = (true, 0)) (hd : shownF r qx qy = (d, e)) : e = 0 ∧ d ≤ c := by
  obtain ⟨hb, h1, h2⟩ := listR_zero hl
  obtain ⟨_, _, rfl⟩ := shownF_zero hc
  obtain ⟨hm, _, hq, hfit⟩ := fitsR_zero hf
  have ha := car_all.1 h2
  have hq' : Vld qx qy := hq
  have : shownF r qx qy = (shownI r qx qy r.length, 0) := if_pos ⟨all_ok ha h1, hq'⟩
  rw [this] at hd
  cases hd
  exact ⟨rfl, all_shown (p := (px, py)) (q := (qx, qy)) hm ha h1 (hfit rfl)⟩
theorem shown_sheet {m : Dat} {a b : Bk} {s t : Sht} {ch sc px py qx qy u v e1 e2 : Int} (ht : tshtR m a b s ch sc = (t, 0)) (hf : fitsR m (px, py) (qx, qy) = (true, 0)) (hu : shownT s px py = (u, e1)) (hv : shownT t qx qy = (v, e2)) : e1 = 0 ∧ e2 = 0 ∧ v ≤ u := by
  obtain ⟨hmm, hp, hq, hfit⟩ := fitsR_zero hf
  obtain ⟨harg, hok, _, _, _, hcap, _, hcar⟩ := tsht_zero ht
  have h1 : shownT s px py = (shownS s px py, 0) := if_pos ⟨harg.1.2, hp⟩
  have h2 : shownT t qx qy = (shownS t qx qy, 0) := if_pos ⟨hok, hq⟩
  rw [h1] at hu
  rw [h2] at hv
  cases hu
  cases hv
  have := all_shown (p := (px, py)) (q := (qx, qy)) hmm (car_all.1 hcar) harg.1.2.2.2.2.2.2.2.2 (hfit rfl)
  refine ⟨rfl, rfl, ?_⟩
  unfold shownS
  rw [hcap]
  simp only at this
  omega
end Go.Proofs.YtmhgcmcifdclmaaGreat
