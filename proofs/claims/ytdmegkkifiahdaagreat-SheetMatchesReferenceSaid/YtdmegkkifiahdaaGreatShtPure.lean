/- Plain mathematics of chapter 14: the integers of a sheet, and the sheet of integers. -/
import Derived.Test.YtdmegkkifiahdaaGreatKB
namespace Go.Proofs.YtdmegkkifiahdaaGreat
structure Dat where
  (a b c d e f r : Int)
instance : DecidableEq Dat := fun x y => decidable_of_iff (x.a = y.a ∧ x.b = y.b ∧ x.c = y.c ∧ x.d = y.d ∧ x.e = y.e ∧ x.f = y.f ∧ x.r = y.r) (by cases x; cases y; simp)
def PartOk (n : Int) : Prop := -2000000 ≤ n ∧ n ≤ 2000000
instance (n : Int) : Decidable (PartOk n) := by unfold PartOk; exact inferInstance
def DatOk (m : Dat) : Prop := (PartOk m.a ∧ PartOk m.b ∧ PartOk m.d ∧ PartOk m.e) ∧ 250000000000 ≤ m.a * m.e - m.b * m.d ∧ (-100000 ≤ m.c ∧ m.c ≤ 100000) ∧ (-100000 ≤ m.f ∧ m.f ≤ 100000) ∧ 0 ≤ m.r ∧ m.r ≤ 1000
instance (m : Dat) : Decidable (DatOk m) := by unfold DatOk; exact inferInstance
structure Sht where
  (chart scale edition : Int)
  dat : Dat
  cap : Int
  don : List Int
  feats : List Feat
instance : DecidableEq Sht := fun x y => decidable_of_iff (x.chart = y.chart ∧ x.scale = y.scale ∧ x.edition = y.edition ∧ x.dat = y.dat ∧ x.cap = y.cap ∧ x.don = y.don ∧ x.feats = y.feats) (by cases x; cases y; simp)
def lastNo (l : List Int) : Nat → Int
  | 0 => 0
  | n + 1 => l.getD n 0
def DoneOk (l : List Int) : Prop := ∀ i, i < l.length → lastNo l i < l.getD i 0 ∧ l.getD i 0 ≤ 10000
instance (l : List Int) : Decidable (DoneOk l) := by unfold DoneOk; exact inferInstance
def ShtOk (s : Sht) : Prop := DoneOk s.don ∧ s.don.length ≤ 200 ∧ (1 ≤ s.chart ∧ s.chart ≤ 1000) ∧ (1 ≤ s.scale ∧ s.scale ≤ 1000) ∧ (1 ≤ s.edition ∧ s.edition ≤ 1000) ∧ (1 ≤ s.cap ∧ s.cap ≤ 100000) ∧ DatOk s.dat ∧ FeatsOk s.feats
instance (s : Sht) : Decidable (ShtOk s) := by unfold ShtOk; exact inferInstance
def encPt (p : Int × Int) : List Int := [p.1, p.2]
def encSec (s : Sec) : List Int := [s.fx, s.fy, s.tx, s.ty, s.col, s.rng]
def putL {α : Type} (enc : α → List Int) (l : List α) : List Int := (l.length : Int) :: l.flatMap enc
def encFeat (f : Feat) : List Int :=
  [f.id, f.kind, f.sym] ++ (if DiscK f.kind then [f.x, f.y, f.rad, f.dep] else if f.kind = 4 then [f.x, f.y] ++ putL encSec f.secs else [f.dep] ++ putL encPt f.area)
def encInt (n : Int) : List Int := [n]
def encHead (s : Sht) : List Int := [s.chart, s.scale, s.edition, s.dat.a, s.dat.b, s.dat.c, s.dat.d, s.dat.e, s.dat.f, s.dat.r, s.cap]
def encS (s : Sht) : List Int := encHead s ++ putL encInt s.don ++ putL encFeat s.feats
/-- Reading: what is missing is 0. -/
def getN {α : Type} (rd : List Int → α × List Int) : Nat → List Int → List α × List Int
  | 0, l => ([], l)
  | n + 1, l => ((rd l).1 :: (getN rd n (rd l).2).1, (getN rd n (rd l).2).2)
def getL {α : Type} (rd : List Int → α × List Int) (most : Int) (l : List Int) : List α × List Int :=
  if l.getD 0 0 < 0 ∨ most < l.getD 0 0 then ([], l.drop 1) else getN rd (l.getD 0 0).toNat (l.drop 1)
def rdInt (l : List Int) : Int × List Int := (l.getD 0 0, l.drop 1)
def rdPt (l : List Int) : (Int × Int) × List Int := ((l.getD 0 0, l.getD 1 0), l.drop 2)
def rdSec (l : List Int) : Sec × List Int := (⟨l.getD 0 0, l.getD 1 0, l.getD 2 0, l.getD 3 0, l.getD 4 0, l.getD 5 0⟩, l.drop 6)
def rdFeat (l : List Int) : Feat × List Int :=
  if DiscK (l.getD 1 0) then (⟨l.getD 0 0, l.getD 1 0, l.getD 3 0, l.getD 4 0, l.getD 5 0, [], l.getD 6 0, l.getD 2 0, []⟩, l.drop 7)
  else if l.getD 1 0 = 4 then (⟨l.getD 0 0, l.getD 1 0, l.getD 3 0, l.getD 4 0, 0, [], 0, l.getD 2 0, (getL rdSec 12 (l.drop 5)).1⟩, (getL rdSec 12 (l.drop 5)).2)
  else (⟨l.getD 0 0, l.getD 1 0, 0, 0, 0, (getL rdPt 24 (l.drop 4)).1, l.getD 3 0, l.getD 2 0, []⟩, (getL rdPt 24 (l.drop 4)).2)
def rdS (l : List Int) : Sht × List Int :=
  (⟨l.getD 0 0, l.getD 1 0, l.getD 2 0, ⟨l.getD 3 0, l.getD 4 0, l.getD 5 0, l.getD 6 0, l.getD 7 0, l.getD 8 0, l.getD 9 0⟩, l.getD 10 0, (getL rdInt 200 (l.drop 11)).1, (getL rdFeat 300 (getL rdInt 200 (l.drop 11)).2).1⟩, (getL rdFeat 300 (getL rdInt 200 (l.drop 11)).2).2)
theorem getN_enc {α : Type} {rd : List Int → α × List Int} {enc : α → List Int} : ∀ (l : List α) (t : List Int), (∀ x ∈ l, ∀ t, rd (enc x ++ t) = (x, t)) → getN rd l.length (l.flatMap enc ++ t) = (l, t)
  | [], t, _ => rfl
  | x :: l, t, h => by
    have h1 := h x (by simp) (l.flatMap enc ++ t)
    have h2 := getN_enc l t (fun y hy => h y (by simp [hy]))
    simp only [List.length_cons, getN, List.flatMap_cons, List.append_assoc]
    rw [h1, h2]
theorem getL_enc {α : Type} {rd : List Int → α × List Int} {enc : α → List Int} {most : Int} (l : List α) (t : List Int) (hm : (l.length : Int) ≤ most) (h : ∀ x ∈ l, ∀ t, rd (enc x ++ t) = (x, t)) : getL rd most (putL enc l ++ t) = (l, t) := by
  unfold getL putL
  simp only [List.cons_append, List.getD_cons_zero, List.drop_succ_cons, List.drop_zero]
  rw [if_neg (by omega), Int.toNat_natCast]
  exact getN_enc l t h
theorem rdInt_enc (n : Int) (t : List Int) : rdInt (encInt n ++ t) = (n, t) := rfl
theorem rdPt_enc (p : Int × Int) (t : List Int) : rdPt (encPt p ++ t) = (p, t) := rfl
theorem rdSec_enc (s : Sec) (t : List Int) : rdSec (encSec s ++ t) = (s, t) := rfl
theorem len0 {α : Type} {l : List α} (h : l.length = 0) : l = [] := List.eq_nil_of_length_eq_zero h
theorem rdFeat_enc (f : Feat) (t : List Int) (hf : FeatOk f) : rdFeat (encFeat f ++ t) = (f, t) := by
  obtain ⟨_, hk⟩ := hf
  obtain ⟨id, kind, x, y, rad, area, dep, sym, secs⟩ := f
  unfold FormR at hk
  unfold encFeat rdFeat
  simp only [] at hk ⊢
  by_cases h1 : DiscK kind
  · rw [if_pos h1] at hk ⊢
    obtain ⟨_, _, h3, h4⟩ := hk
    obtain rfl := len0 h3
    obtain rfl := len0 h4
    simp [h1]
  · rw [if_neg h1] at hk ⊢
    by_cases h2 : kind = 3 ∨ kind = 6 ∧ dep ≤ 0
    · rw [if_pos h2] at hk
      obtain ⟨hp, rfl, rfl, rfl, h4⟩ := hk
      obtain rfl := len0 h4
      have h3 : ¬ kind = 4 := by omega
      rw [if_neg h3]
      have hg := getL_enc (rd := rdPt) (enc := encPt) (most := 24) area t (by have := hp.2.1; omega) (fun p _ t => rdPt_enc p t)
      simp [h1, h3, hg]
    · rw [if_neg h2] at hk
      obtain ⟨rfl, _, hs, rfl, rfl, h4⟩ := hk
      obtain rfl := len0 h4
      rw [if_pos rfl]
      have hg := getL_enc (rd := rdSec) (enc := encSec) (most := 12) secs t (by have := hs.1; omega) (fun p _ t => rdSec_enc p t)
      simp [h1, hg]
theorem featsOk_mem {l : List Feat} (h : FeatsOk l) : ∀ f ∈ l, FeatOk f := by
  intro f hf
  obtain ⟨i, hi, rfl⟩ := List.mem_iff_getElem.1 hf
  have := (h.2 i hi).1
  rwa [List.getD_eq_getElem?_getD, List.getElem?_eq_getElem hi] at this
theorem rdS_enc (s : Sht) (t : List Int) (hs : ShtOk s) : rdS (encS s ++ t) = (s, t) := by
  obtain ⟨_, hd, _, _, _, _, _, hf⟩ := hs
  obtain ⟨chart, scale, edition, ⟨a, b, c, d, e, f, r⟩, cap, don, feats⟩ := s
  have hg := getL_enc (rd := rdFeat) (enc := encFeat) (most := 300) feats t (by have := hf.1; simp only [] at this; omega) (fun p hp t => rdFeat_enc p t (featsOk_mem hf p hp))
  have hg2 := getL_enc (rd := rdInt) (enc := encInt) (most := 200) don (putL encFeat feats ++ t) (by simp only [] at hd; omega) (fun p _ t => rdInt_enc p t)
  unfold rdS encS encHead
  simp [hg, hg2]
/-- The sheet of integers, if there is one. -/
def fromL (l : List Int) : Option Sht := if ShtOk (rdS l).1 ∧ encS (rdS l).1 = l then some (rdS l).1 else none
theorem from_enc (s : Sht) (hs : ShtOk s) : fromL (encS s) = some s := by
  have h := rdS_enc s [] hs
  rw [List.append_nil] at h
  unfold fromL
  rw [h, if_pos ⟨hs, rfl⟩]
theorem from_some {l : List Int} {s : Sht} (h : fromL l = some s) : ShtOk s ∧ encS s = l := by
  unfold fromL at h
  split at h
  · next hh => cases h; exact hh
  · cases h
end Go.Proofs.YtdmegkkifiahdaaGreat
