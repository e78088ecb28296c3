/- Plain mathematics of chapter 17: operations, and what they do to lists of features. -/
import Derived.Test.YtdmegkkifiahdaaGreatShtMath
namespace Go.Proofs.YtdmegkkifiahdaaGreat
structure Opn where
  (kind id : Int)
  feat : Feat
  (x y rad dep sym : Int)
instance : DecidableEq Opn := fun a b => decidable_of_iff (a.kind = b.kind ∧ a.id = b.id ∧ a.feat = b.feat ∧ a.x = b.x ∧ a.y = b.y ∧ a.rad = b.rad ∧ a.dep = b.dep ∧ a.sym = b.sym) (by cases a; cases b; simp)
def noOpn : Opn := ⟨0, 0, noFeat, 0, 0, 0, 0, 0⟩
def bareO (o : Opn) : Opn := if o.kind = 1 then { o with feat := noFeat } else if o.kind = 3 then { o with x := 0, y := 0, rad := 0 } else if o.kind = 4 then { o with dep := 0 } else if o.kind = 5 then { o with sym := 0 } else o
def IdOk (id : Int) : Prop := 1 ≤ id ∧ id ≤ 100000
instance (id : Int) : Decidable (IdOk id) := by unfold IdOk; exact inferInstance
def BodyOk (o : Opn) : Prop :=
  if o.kind = 1 then o.feat.id = o.id ∧ FeatOk o.feat
  else if o.kind = 2 then True
  else if o.kind = 3 then (0 ≤ o.rad ∧ o.rad ≤ 100000) ∧ Vld o.x o.y ∧ RoomOk o.x o.y o.rad
  else if o.kind = 4 then 0 ≤ o.dep ∧ o.dep ≤ 100000
  else if o.kind = 5 then 0 ≤ o.sym ∧ o.sym ≤ 999
  else False
instance (o : Opn) : Decidable (BodyOk o) := by unfold BodyOk; exact inferInstance
def OpOk (o : Opn) : Prop := IdOk o.id ∧ bareO o = { noOpn with kind := o.kind, id := o.id } ∧ BodyOk o
instance (o : Opn) : Decidable (OpOk o) := by unfold OpOk; exact inferInstance
def insO (f : Feat) : Opn := ⟨1, f.id, f, 0, 0, 0, 0, 0⟩
def delO (id : Int) : Opn := ⟨2, id, noFeat, 0, 0, 0, 0, 0⟩
def movO (id x y rad : Int) : Opn := ⟨3, id, noFeat, x, y, rad, 0, 0⟩
def depO (id d : Int) : Opn := ⟨4, id, noFeat, 0, 0, 0, d, 0⟩
def symO (id n : Int) : Opn := ⟨5, id, noFeat, 0, 0, 0, 0, n⟩
inductive OpForm : Opn → Prop
  | ins (f : Feat) (h : FeatOk f) : OpForm (insO f)
  | del (id : Int) (h : IdOk id) : OpForm (delO id)
  | mov (id x y rad : Int) (h : IdOk id) (hr : 0 ≤ rad ∧ rad ≤ 100000) (hv : Vld x y) (ho : RoomOk x y rad) : OpForm (movO id x y rad)
  | dep (id d : Int) (h : IdOk id) (hd : 0 ≤ d ∧ d ≤ 100000) : OpForm (depO id d)
  | sym (id n : Int) (h : IdOk id) (hn : 0 ≤ n ∧ n ≤ 999) : OpForm (symO id n)
end Go.Proofs.YtdmegkkifiahdaaGreat
