import Derived.Test.YtdmegkkifiahdaaGreatKB
namespace Go.Proofs.YtdmegkkifiahdaaGreat
structure Dat where
 (a b c d e f r : Int)
instance : DecidableEq Dat := fun x y => decidable_of_iff (x.a = y.a ∧ x.b = y.b ∧ x.c = y.c ∧ x.d = y.d ∧ x.e = y.e ∧ x.f = y.f ∧ x.r = y.r) (by cases x; cases y; simp)
def PartOk (n : Int) : Prop := -2000000 ≤ n ∧ n ≤ 2000000
instance (n : Int) : Decidable (PartOk n) := by unfold PartOk; exact inferInstance
def DatOk (m : Dat) : Prop := (PartOk m.a ∧ PartOk m.b ∧ PartOk m.d ∧ PartOk m.e) ∧ 250000000000 ≤ m.a * m.e - m.b * m.d ∧ (-100000 ≤ m.c ∧ m.c ≤ 100000) ∧ (-100000 ≤ m.f ∧ m.f ≤ 100000) ∧ 0 ≤ m.r ∧ m.r ≤ 1000
instance (m : Dat) : Decidable (DatOk m) := by unfold DatOk; exact inferInstance
structure Sht where
 (chart scale edition : Int)
 dat : Dat
 cap : Int
 don : List Int
 feats : List Feat
instance : DecidableEq Sht := fun x y => decidable_of_iff (x.chart = y.chart ∧ x.scale = y.scale ∧ x.edition = y.edition ∧ x.dat = y.dat ∧ x.cap = y.cap ∧ x.don = y.don ∧ x.feats = y.feats) (by cases x; cases y; simp)
def lastNo (l : List Int) : Nat → Int
 | 0 => 0
 | n + 1 => l.getD n 0
def DoneOk (l : List Int) : Prop := ∀ i, i < l.length → lastNo l i < l.getD i 0 ∧ l.getD i 0 ≤ 10000
instance (l : List Int) : Decidable (DoneOk l) := by unfold DoneOk; exact inferInstance
def ShtOk (s : Sht) : Prop := DoneOk s.don ∧ s.don.length ≤ 200 ∧ (1 ≤ s.chart ∧ s.chart ≤ 1000) ∧ (1 ≤ s.scale ∧ s.scale ≤ 1000) ∧ (1 ≤ s.edition ∧ s.edition ≤ 1000) ∧ (1 ≤ s.cap ∧ s.cap ≤ 100000) ∧ DatOk s.dat ∧ FeatsOk s.feats
instance (s : Sht) : Decidable (ShtOk s) := by unfold ShtOk; exact inferInstance
theorem featsOk_mem {l : List Feat} (h : FeatsOk l) : ∀ f ∈ l, FeatOk f := by
 intro f hf
 obtain ⟨i, hi, rfl⟩ := List.mem_iff_getElem.1 hf
 have := (h.2 i hi).1
 rwa [List.getD_eq_getElem?_getD, List.getElem?_eq_getElem hi] at this
end Go.Proofs.YtdmegkkifiahdaaGreat
