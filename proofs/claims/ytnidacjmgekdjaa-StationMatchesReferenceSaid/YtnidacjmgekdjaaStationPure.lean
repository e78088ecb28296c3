/- The answers of package station as plain functions on integers. -/
import Derived.Test.YtnidacjmgekdjaaPlanePure
namespace Go.Proofs.Ytnidacjmgekdjaa
structure Stn (id ax ay dr nr fi ev : Int) : Prop where
  i1 : 1 ≤ id
  i2 : id ≤ 26
  at' : Vld ax ay
  d1 : 0 ≤ dr
  d2 : dr ≤ 3000000
  n1 : 0 ≤ nr
  n2 : nr ≤ 3000000
  f1 : 0 ≤ fi
  f2 : fi ≤ 10000000
  e1 : 1 ≤ ev
  e2 : ev ≤ 10000
structure Sn (dn dk : Int) : Prop where
  a : 0 ≤ dn
  b : dn < dk
  c : dk ≤ 1440
structure Bx (xl xh yl yh : Int) : Prop where
  x1 : -1000000 ≤ xl
  x2 : xl ≤ xh
  x3 : xh ≤ 1000000
  y1 : -1000000 ≤ yl
  y2 : yl ≤ yh
  y3 : yh ≤ 1000000
def Tm (t : Int) : Prop := 0 ≤ t ∧ t ≤ 10000000
instance (t : Int) : Decidable (Tm t) := by unfold Tm; exact inferInstance
theorem sn_iff {dn dk : Int} : Sn dn dk ↔ 0 ≤ dn ∧ dn < dk ∧ dk ≤ 1440 := ⟨fun ⟨a, b, c⟩ => ⟨a, b, c⟩, fun ⟨a, b, c⟩ => ⟨a, b, c⟩⟩
theorem bx_iff {xl xh yl yh : Int} : Bx xl xh yl yh ↔ (-1000000 ≤ xl ∧ xl ≤ xh ∧ xh ≤ 1000000) ∧ -1000000 ≤ yl ∧ yl ≤ yh ∧ yh ≤ 1000000 := ⟨fun ⟨a, b, c, d, e, f⟩ => ⟨⟨a, b, c⟩, d, e, f⟩, fun ⟨⟨a, b, c⟩, d, e, f⟩ => ⟨a, b, c, d, e, f⟩⟩
theorem vld_iff {x y : Int} : Vld x y ↔ -1000000 ≤ x ∧ x ≤ 1000000 ∧ -1000000 ≤ y ∧ y ≤ 1000000 := ⟨fun ⟨a, b, c, d⟩ => ⟨a, b, c, d⟩, fun ⟨a, b, c, d⟩ => ⟨a, b, c, d⟩⟩
instance (dn dk : Int) : Decidable (Sn dn dk) := decidable_of_iff _ sn_iff.symm
instance (xl xh yl yh : Int) : Decidable (Bx xl xh yl yh) := decidable_of_iff _ bx_iff.symm
instance (x y : Int) : Decidable (Vld x y) := decidable_of_iff _ vld_iff.symm
def dayB (dn dk t : Int) : Bool := decide (dn ≤ t % 1440 ∧ t % 1440 ≤ dk - 1)
def farI (dn dk dr nr t : Int) : Int := if dayB dn dk t = true then dr else nr
def farthI (x lo hi : Int) : Int := if x - lo > hi - x then lo else hi
def nearI (x lo hi : Int) : Int := max lo (min x hi)
def reachB (ax ay px py n : Int) : Bool := decide (sqd ax ay px py ≤ n * n)
def allB (ax ay xl xh yl yh n : Int) : Bool := reachB ax ay (farthI ax xl xh) (farthI ay yl yh) n
def someB (ax ay xl xh yl yh n : Int) : Bool := reachB ax ay (nearI ax xl xh) (nearI ay yl yh) n
def hearsI (ax ay xl xh yl yh n : Int) : Int := if allB ax ay xl xh yl yh n = true then 1 else if someB ax ay xl xh yl yh n = true then 0 else -1
def aheadI (fi ev t : Int) : Int := max 0 (t - fi + ev - 1) / ev
theorem near_reach (px py ax ay n : Int) : nearB px py ax ay ax ay n = reachB ax ay px py n := by
  have e : foot px py ax ay ax ay = 0 := by unfold foot; simp
  unfold nearB sqNum sqFac sqDen reachB
  rw [e]
  simp
theorem farI_bd {dn dk dr nr t : Int} (h1 : 0 ≤ dr ∧ dr ≤ 3000000) (h2 : 0 ≤ nr ∧ nr ≤ 3000000) : 0 ≤ farI dn dk dr nr t ∧ farI dn dk dr nr t ≤ 3000000 := by
  unfold farI; split <;> assumption
theorem farthI_bd {x lo hi : Int} (h1 : -1000000 ≤ lo) (h2 : lo ≤ hi) (h3 : hi ≤ 1000000) : -1000000 ≤ farthI x lo hi ∧ farthI x lo hi ≤ 1000000 := by
  unfold farthI; split <;> omega
theorem nearI_bd {x lo hi : Int} (h1 : -1000000 ≤ lo) (h2 : lo ≤ hi) (h3 : hi ≤ 1000000) : -1000000 ≤ nearI x lo hi ∧ nearI x lo hi ≤ 1000000 := by
  unfold nearI; omega
theorem farth_vld {ax ay xl xh yl yh : Int} (h : Bx xl xh yl yh) : Vld (farthI ax xl xh) (farthI ay yl yh) :=
  ⟨(farthI_bd h.x1 h.x2 h.x3).1, (farthI_bd h.x1 h.x2 h.x3).2, (farthI_bd h.y1 h.y2 h.y3).1, (farthI_bd h.y1 h.y2 h.y3).2⟩
theorem near_vld {ax ay xl xh yl yh : Int} (h : Bx xl xh yl yh) : Vld (nearI ax xl xh) (nearI ay yl yh) :=
  ⟨(nearI_bd h.x1 h.x2 h.x3).1, (nearI_bd h.x1 h.x2 h.x3).2, (nearI_bd h.y1 h.y2 h.y3).1, (nearI_bd h.y1 h.y2 h.y3).2⟩
theorem stn_iff {id ax ay dr nr fi ev : Int} : Stn id ax ay dr nr fi ev ↔ ((1 ≤ id ∧ id ≤ 26) ∧ Vld ax ay ∧ ((0 ≤ dr ∧ dr ≤ 3000000) ∧ 0 ≤ nr ∧ nr ≤ 3000000) ∧ Tm fi ∧ 1 ≤ ev ∧ ev ≤ 10000) :=
  ⟨fun ⟨a, b, c, d, e, f, g, h, i, j, k⟩ => ⟨⟨a, b⟩, c, ⟨⟨d, e⟩, f, g⟩, ⟨h, i⟩, j, k⟩, fun ⟨⟨a, b⟩, c, ⟨⟨d, e⟩, f, g⟩, ⟨h, i⟩, j, k⟩ => ⟨a, b, c, d, e, f, g, h, i, j, k⟩⟩
instance (id ax ay dr nr fi ev : Int) : Decidable (Stn id ax ay dr nr fi ev) := decidable_of_iff _ stn_iff.symm
end Go.Proofs.Ytnidacjmgekdjaa
