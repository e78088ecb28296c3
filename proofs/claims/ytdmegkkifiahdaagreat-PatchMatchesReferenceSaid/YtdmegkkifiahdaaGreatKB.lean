import Derived.Test.YtdmegkkifiahdaaGreatKA
import Derived.Sort.QuietTacIn
import Derived.StillTail
import Derived.WalkKit
import Derived.RangeFuncNested
import Derived.RangeFuncBound
import Derived.RangeFuncCalls
import Derived.RangeFuncLeaves
import Derived.OwnWalkIn
import Derived.TacticsInMore
import Derived.LoopNIn
import Derived.LoopIn
import Derived.IntWalk
import Derived.Shelf.RegionOpen
import Derived.Deep.RegionHeld3
namespace Go.Proofs.YtdmegkkifiahdaaGreat
def prv (n i : Nat) : Nat := (i + n - 1) % n
def nxt (n i : Nat) : Nat := (i + 1) % n
def turnX (X : Nat → Nat → Int) (i j k : Nat) : Int := (crs (X i 0) (X i 1) (X j 0) (X j 1) (X k 0) (X k 1)).sign
def OrdLt (ax ay bx by' : Int) : Prop := ax < bx ∨ ax = bx ∧ ay < by'
instance (ax ay bx by' : Int) : Decidable (OrdLt ax ay bx by') := by unfold OrdLt; exact inferInstance
def meetX (n : Nat) (X : Nat → Nat → Int) (i k : Nat) : Bool := meetB (X i 0) (X i 1) (X (nxt n i) 0) (X (nxt n i) 1) (X k 0) (X k 1) (X (nxt n k) 0) (X (nxt n k) 1)
def FarApart (n i k : Nat) : Prop := i + 1 < k ∧ ¬ (i = 0 ∧ k + 1 = n)
instance (n i k : Nat) : Decidable (FarApart n i k) := by unfold FarApart; exact inferInstance
def SimpleOk (n : Nat) (X : Nat → Nat → Int) : Prop := ∀ i, i < n → ∀ k, k < n → FarApart n i k → meetX n X i k = false
instance (n : Nat) (X : Nat → Nat → Int) : Decidable (SimpleOk n X) := by unfold SimpleOk; exact inferInstance
def twiceN (n : Nat) (X : Nat → Nat → Int) : Nat → Int
 | 0 => 0
 | m + 1 => twiceN n X m + (X m 0 * X (nxt n m) 1 - X m 1 * X (nxt n m) 0)
def CornerOk (n : Nat) (X : Nat → Nat → Int) (i : Nat) : Prop := (0 < i → OrdLt (X 0 0) (X 0 1) (X i 0) (X i 1)) ∧ turnX X (prv n i) i (nxt n i) ≠ 0
instance (n : Nat) (X : Nat → Nat → Int) (i : Nat) : Decidable (CornerOk n X i) := by unfold CornerOk; exact inferInstance
def VldsX (n : Nat) (X : Nat → Nat → Int) : Prop := ∀ i, i < n → Vld (X i 0) (X i 1)
instance (n : Nat) (X : Nat → Nat → Int) : Decidable (VldsX n X) := by unfold VldsX; exact inferInstance
def PolyOk (n : Nat) (X : Nat → Nat → Int) : Prop := 3 ≤ n ∧ n ≤ 24 ∧ VldsX n X ∧ (∀ i, i < n → CornerOk n X i) ∧ SimpleOk n X ∧ 0 < twiceN n X n
instance (n : Nat) (X : Nat → Nat → Int) : Decidable (PolyOk n X) := by unfold PolyOk; exact inferInstance
def DirOk (x y : Int) : Prop := ¬ (x = 0 ∧ y = 0) ∧ x ≤ 1000000 ∧ y ≤ 1000000 ∧ -1000000 ≤ x ∧ -1000000 ≤ y
instance (x y : Int) : Decidable (DirOk x y) := by unfold DirOk; exact inferInstance
def upD (x y : Int) : Bool := decide (0 < y ∨ y = 0 ∧ 0 < x)
def cprD (x y u v : Int) : Int := x * v - y * u
def cmpD (x y u v : Int) : Int := if upD x y ≠ upD u v then (if upD x y = true then -1 else 1) else if 0 < cprD x y u v then -1 else if cprD x y u v < 0 then 1 else 0
def hasD (fx fy tx ty x y : Int) : Bool :=
 if cmpD fx fy tx ty = -1 then decide (cmpD fx fy x y ≤ 0) && !decide (cmpD tx ty x y ≤ 0)
 else if cmpD fx fy tx ty = 1 then decide (cmpD fx fy x y ≤ 0) || !decide (cmpD tx ty x y ≤ 0)
 else true
def SecOk (s : Nat → Int) : Prop := DirOk (s 0) (s 1) ∧ DirOk (s 2) (s 3) ∧ 1 ≤ s 4 ∧ s 4 ≤ 3 ∧ 1 ≤ s 5 ∧ s 5 ≤ 3000000
instance (s : Nat → Int) : Decidable (SecOk s) := by unfold SecOk; exact inferInstance
def SecsApart (s t : Nat → Int) : Prop := hasD (s 0) (s 1) (s 2) (s 3) (t 0) (t 1) = false ∧ hasD (t 0) (t 1) (t 2) (t 3) (s 0) (s 1) = false
instance (s t : Nat → Int) : Decidable (SecsApart s t) := by unfold SecsApart; exact inferInstance
def SecsOk (n : Nat) (S : Nat → Nat → Int) : Prop := n ≤ 12 ∧ ∀ i, i < n → SecOk (S i) ∧ ∀ j, j < i → SecsApart (S i) (S j)
instance (n : Nat) (S : Nat → Nat → Int) : Decidable (SecsOk n S) := by unfold SecsOk; exact inferInstance
structure Sec where
 (fx fy tx ty col rng : Int)
instance : DecidableEq Sec := fun a b => decidable_of_iff (a.fx = b.fx ∧ a.fy = b.fy ∧ a.tx = b.tx ∧ a.ty = b.ty ∧ a.col = b.col ∧ a.rng = b.rng) (by cases a; cases b; simp)
def Sec.c (s : Sec) (j : Nat) : Int := if j = 0 then s.fx else if j = 1 then s.fy else if j = 2 then s.tx else if j = 3 then s.ty else if j = 4 then s.col else s.rng
structure Feat where
 (id kind x y rad : Int)
 area : List (Int × Int)
 (dep sym : Int)
 secs : List Sec
instance : DecidableEq Feat := fun a b => decidable_of_iff (a.id = b.id ∧ a.kind = b.kind ∧ a.x = b.x ∧ a.y = b.y ∧ a.rad = b.rad ∧ a.area = b.area ∧ a.dep = b.dep ∧ a.sym = b.sym ∧ a.secs = b.secs) (by cases a; cases b; simp)
def ptC (p : Int × Int) (j : Nat) : Int := if j = 0 then p.1 else p.2
def ptX (l : List (Int × Int)) (i j : Nat) : Int := ptC (l.getD i (0, 0)) j
def secX (l : List Sec) (i j : Nat) : Int := (l.getD i ⟨0, 0, 0, 0, 0, 0⟩).c j
def noFeat : Feat := ⟨0, 0, 0, 0, 0, [], 0, 0, []⟩
def DiscK (k : Int) : Prop := k = 1 ∨ k = 2 ∨ k = 5
instance (k : Int) : Decidable (DiscK k) := by unfold DiscK; exact inferInstance
def RoomOk (x y n : Int) : Prop := Vld (x - n) (y - n) ∧ Vld (x + n) (y + n)
instance (x y n : Int) : Decidable (RoomOk x y n) := by unfold RoomOk; exact inferInstance
def FormR (kind x y rad dep : Int) (na : Nat) (A : Nat → Nat → Int) (ns : Nat) (S : Nat → Nat → Int) : Prop :=
 if DiscK kind then Vld x y ∧ RoomOk x y rad ∧ na = 0 ∧ ns = 0
 else if kind = 3 ∨ kind = 6 ∧ dep ≤ 0 then PolyOk na A ∧ x = 0 ∧ y = 0 ∧ rad = 0 ∧ ns = 0
 else kind = 4 ∧ Vld x y ∧ SecsOk ns S ∧ rad = 0 ∧ dep = 0 ∧ na = 0
instance (kind x y rad dep : Int) (na : Nat) (A : Nat → Nat → Int) (ns : Nat) (S : Nat → Nat → Int) : Decidable (FormR kind x y rad dep na A ns S) := by unfold FormR; exact inferInstance
def NumsR (id rad dep sym : Int) : Prop := (1 ≤ id ∧ id ≤ 100000) ∧ (0 ≤ sym ∧ sym ≤ 999) ∧ (0 ≤ dep ∧ dep ≤ 100000) ∧ (0 ≤ rad ∧ rad ≤ 100000)
instance (id rad dep sym : Int) : Decidable (NumsR id rad dep sym) := by unfold NumsR; exact inferInstance
def FeatOk (f : Feat) : Prop := NumsR f.id f.rad f.dep f.sym ∧ FormR f.kind f.x f.y f.rad f.dep f.area.length (ptX f.area) f.secs.length (secX f.secs)
instance (f : Feat) : Decidable (FeatOk f) := by unfold FeatOk; exact inferInstance
def lastId (l : List Feat) : Nat → Int
 | 0 => 0
 | n + 1 => (l.getD n noFeat).id
def FeatsOk (l : List Feat) : Prop := l.length ≤ 300 ∧ ∀ i, i < l.length → FeatOk (l.getD i noFeat) ∧ lastId l i < (l.getD i noFeat).id
instance (l : List Feat) : Decidable (FeatsOk l) := by unfold FeatsOk; exact inferInstance
end Go.Proofs.YtdmegkkifiahdaaGreat
namespace Go.Proofs.YtdmegkkifiahdaaGreat
open Go.RowKit
def CapOk (v : Value) : Prop := ∀ ad n c, v = .slice ad n c → n ≤ c
structure Lists (k : Nat) (w : World) (v : Value) (n : Nat) (X : Nat → Nat → Int) : Prop where
 rows : Rows k w v n X
 cap : CapOk v
theorem Lists.later {k : Nat} {w w' : World} {v : Value} {n : Nat} {X : Nat → Nat → Int} (h : Lists k w v n X) (hb : Below w.heap.size w w') : Lists k w' v n X := ⟨h.rows.later hb, h.cap⟩
theorem Lists.form {k : Nat} {w : World} {v : Value} {n : Nat} {X : Nat → Nat → Int} (h : Lists k w v n X) : ∃ ad c, v = .slice ad n c ∧ Lists k w (.slice ad n c) n X ∧ n ≤ 9223372036854775807 ∧ n ≤ c := by
 obtain ⟨ad, c, rfl, h1, h2⟩ := h.rows.form
 exact ⟨ad, c, rfl, h, h2, h.cap _ _ _ rfl⟩
def IntsAt (w : World) (v : Value) (l : List Int) : Prop := Lists 1 w v l.length (fun i _ => l.getD i 0)
def PtsAt (w : World) (v : Value) (l : List (Int × Int)) : Prop := Lists 2 w v l.length (ptX l)
def SecsAt (w : World) (v : Value) (l : List Sec) : Prop := Lists 6 w v l.length (secX l)
structure FeatCells (w : World) (g o : Nat) (f : Feat) (va vs : Value) : Prop where
 c0 : w.cell? ⟨g, o, none⟩ = some (.int .i64 f.id)
 c1 : w.cell? ⟨g, o + 1, none⟩ = some (.int .i64 f.kind)
 c2 : w.cell? ⟨g, o + 2, none⟩ = some (.int .i64 f.x)
 c3 : w.cell? ⟨g, o + 3, none⟩ = some (.int .i64 f.y)
 c4 : w.cell? ⟨g, o + 4, none⟩ = some (.int .i64 f.rad)
 c5 : w.cell? ⟨g, o + 5, none⟩ = some va
 c6 : w.cell? ⟨g, o + 6, none⟩ = some (.int .i64 f.dep)
 c7 : w.cell? ⟨g, o + 7, none⟩ = some (.int .i64 f.sym)
 c8 : w.cell? ⟨g, o + 8, none⟩ = some vs
 area : PtsAt w va f.area
 secs : SecsAt w vs f.secs
theorem FeatCells.later {w w' : World} {g o : Nat} {f : Feat} {va vs : Value} (h : FeatCells w g o f va vs) (hb : Below w.heap.size w w') : FeatCells w' g o f va vs :=
 ⟨cell_later hb h.c0, cell_later hb h.c1, cell_later hb h.c2, cell_later hb h.c3, cell_later hb h.c4, cell_later hb h.c5, cell_later hb h.c6, cell_later hb h.c7, cell_later hb h.c8, Lists.later h.area hb, Lists.later h.secs hb⟩
def FeatsAt (w : World) (v : Value) (l : List Feat) : Prop :=
 ∃ ad c, v = .slice ad l.length c ∧ (l.length ≤ 9223372036854775807 ∧ l.length ≤ c) ∧ ∀ i, i < l.length → ∃ g o va vs, ad = some ⟨g, o, none⟩ ∧ FeatCells w g (o + i * 9) (l.getD i noFeat) va vs
theorem FeatsAt.later {w w' : World} {v : Value} {l : List Feat} (h : FeatsAt w v l) (hb : Below w.heap.size w w') : FeatsAt w' v l := by
 obtain ⟨ad, c, hv, hn, hc⟩ := h
 exact ⟨ad, c, hv, hn, fun i hi => by obtain ⟨g, o, va, vs, hg, h⟩ := hc i hi; exact ⟨g, o, va, vs, hg, h.later hb⟩⟩
theorem FeatsAt.row {w : World} {ad : Option Addr} {c n : Nat} {l : List Feat} (h : FeatsAt w (.slice ad n c) l) {i : Nat} (hi : i < n) : ∃ g o va vs, ad = some ⟨g, o, none⟩ ∧ FeatCells w g (o + i * 9) (l.getD i noFeat) va vs := by
 obtain ⟨ad', c', e, _, hc⟩ := h
 cases e
 exact hc i hi
theorem FeatsAt.form {w : World} {v : Value} {l : List Feat} (h : FeatsAt w v l) : ∃ ad c, v = .slice ad l.length c ∧ FeatsAt w (.slice ad l.length c) l ∧ l.length ≤ 9223372036854775807 ∧ l.length ≤ c := by
 obtain ⟨ad, c, rfl, hn, hc⟩ := h
 exact ⟨ad, c, rfl, ⟨ad, c, rfl, hn, hc⟩, hn.1, hn.2⟩
@[reducible] def featV (f : Feat) (va vs : Value) : Value := .agg #[.int .i64 f.id, .int .i64 f.kind, .int .i64 f.x, .int .i64 f.y, .int .i64 f.rad, va, .int .i64 f.dep, .int .i64 f.sym, vs]
theorem Rows.congr {k : Nat} {w : World} {v : Value} {n : Nat} {X Y : Nat → Nat → Int} (h : Rows k w v n X) (e : ∀ i, i < n → ∀ j, j < k → X i j = Y i j) : Rows k w v n Y := by
 obtain ⟨ad, c, hv, hn, hc⟩ := h
 refine ⟨ad, c, hv, hn, fun i hi => ?_⟩
 obtain ⟨g, o, hg, h⟩ := hc i hi
 exact ⟨g, o, hg, fun j hj => by rw [h j hj, e i hi j hj]⟩
theorem range_getD {α : Type} (n : Nat) (F : Nat → α) (d : α) {i : Nat} (hi : i < n) : ((List.range n).map F).getD i d = F i := by
 rw [List.getD_eq_getElem?_getD]
 simp [hi]
theorem Lists.congr {k : Nat} {w : World} {v : Value} {n : Nat} {X Y : Nat → Nat → Int} (h : Lists k w v n X) (e : ∀ i, i < n → ∀ j, j < k → X i j = Y i j) : Lists k w v n Y := ⟨h.rows.congr e, h.cap⟩
theorem Lists.pts {w : World} {v : Value} {n : Nat} {X : Nat → Nat → Int} (h : Lists 2 w v n X) : ∃ l : List (Int × Int), l.length = n ∧ PtsAt w v l := by
 refine ⟨(List.range n).map fun i => (X i 0, X i 1), by simp, ?_⟩
 unfold PtsAt
 rw [List.length_map, List.length_range]
 exact Lists.congr h fun i hi j hj => by
  unfold ptX
  rw [range_getD n _ _ hi]
  match j, hj with
  | 0, _ => rfl
  | 1, _ => rfl
theorem Lists.secs {w : World} {v : Value} {n : Nat} {X : Nat → Nat → Int} (h : Lists 6 w v n X) : ∃ l : List Sec, l.length = n ∧ SecsAt w v l := by
 refine ⟨(List.range n).map fun i => ⟨X i 0, X i 1, X i 2, X i 3, X i 4, X i 5⟩, by simp, ?_⟩
 unfold SecsAt
 rw [List.length_map, List.length_range]
 exact Lists.congr h fun i hi j hj => by
  unfold secX
  rw [range_getD n _ _ hi]
  match j, hj with
  | 0, _ => rfl
  | 1, _ => rfl
  | 2, _ => rfl
  | 3, _ => rfl
  | 4, _ => rfl
  | 5, _ => rfl
end Go.Proofs.YtdmegkkifiahdaaGreat
namespace Go.Proofs.YtdmegkkifiahdaaGreat
open Go.RowKit
attribute [local go_sem] bqOp bqAll bqUpon
attribute [local irreducible] wpQuiet wpBQ
set_option linter.unusedVariables false
theorem hpValid_any (x y : Int) (w : World) {v : Bool} (hv : decide (Vld x y) = v) : Calls Tryz.prog 142 #[.agg #[.int .i64 x, .int .i64 y]] w fun e w' => e = .returned (.bool v) ∧ Below w.heap.size w w' := by
 cases v
 · exact valid_no _ _ _ (of_decide_eq_false hv)
 · exact valid_yes _ _ _ (of_decide_eq_true hv)
theorem plcorner_any (n c k : Nat) (ad : Option Addr) (X : Nat → Nat → Int) (i : Int) (w : World) (hR : Rows 2 w (.slice ad n c) n X) (hn : n ≤ 9223372036854775807) (hk : k < n) (he : (i + (n : Int)) % (n : Int) = (k : Int)) (h0 : 0 ≤ i + (n : Int)) (h1 : i + (n : Int) ≤ 9223372036854775807) (h2 : -9223372036854775808 ≤ i) (h3 : i ≤ 9223372036854775807) :
  Calls Tryz.prog 233 #[.slice ad n c, .int .i64 i] w fun e w' => e = .returned (.agg #[.int .i64 (X k 0), .int .i64 (X k 1)]) ∧ Below w.heap.size w w' := by
 obtain ⟨g, o, rfl, hc⟩ := hR.row hk
 have c0 := hc 0 (by omega)
 have c1 := hc 1 (by omega)
 simp only [Nat.add_zero] at c0
 clear hc hR
 have hz : (n : Int) ≠ 0 := by omega
 have hkn : (k : Int) < (n : Int) := by omega
 have c0' := cell_later ((Below.refl w.heap.size w).alloc (Nat.le_refl _) (.cells #[.int .i64 0, .int .i64 0] 28)) c0
 have c1' := cell_later ((Below.refl w.heap.size w).alloc (Nat.le_refl _) (.cells #[.int .i64 0, .int .i64 0] 28)) c1
 go_enter Tryz.func233, Tryz.ntmps233
 go_wp2
 exact bodyPost_ret (v := .agg #[.int .i64 (X k 0), .int .i64 (X k 1)]) (by simp [results, Tryz.results233, go_sem]) rfl ⟨rfl, (Below.refl _ _).alloc (Nat.le_refl _) _⟩
theorem pledges_any (n c : Nat) (ad : Option Addr) (w : World) :
  Calls Tryz.prog 260 #[.slice ad n c] w fun e w' => e = .returned (.func (.func 353) #[] #[.pointer (some ⟨w.heap.size, 0, none⟩)]) ∧ w' = w.alloc (.cells #[.slice ad n c] 284) := by
 go_enter Tryz.func260, Tryz.ntmps260
 go_wp2
 go_returns
 exact ⟨rfl, rfl⟩
theorem plturn_any (ax ay bx by' cx cy : Int) (w : World) (ha : Vld ax ay) (hb : Vld bx by') (hc : Vld cx cy) {s : Int} (hs : (crs ax ay bx by' cx cy).sign = s) :
  Calls Tryz.prog 232 #[.agg #[.int .i64 ax, .int .i64 ay], .agg #[.int .i64 bx, .int .i64 by'], .agg #[.int .i64 cx, .int .i64 cy]] w fun e w' => e = .returned (.int .i64 s) ∧ Below w.heap.size w w' := by
 have HA := Lib.hid ha
 have HB := Lib.hid hb
 have HC := Lib.hid hc
 have HS := Lib.hid hs
 clear ha hb hc hs
 go_enter Tryz.func232, Tryz.ntmps232
 go_wp2_with fail
 refine calls_named fun W hW => ?_
 obtain ⟨p1, p2, p3, hB⟩ := box3 hW
 clear hW
 (with_reducible refine (Turn_yes _ _ _ _ _ _ _ HA.out HB.out HC.out HS.out).mono ?_)
 rintro e w1 ⟨rfl, hb1⟩
 go_wp2_with fail
 go_returns
 exact ⟨rfl, below_step hB hb1⟩
end Go.Proofs.YtdmegkkifiahdaaGreat
namespace Go.Proofs.YtdmegkkifiahdaaGreat
open Go.RowKit
section
variable {F : Fence} {m : Nat} {P : Program} {ops : Array Oper} {md : Region.Mode} {C : World → Prop}
def headIn (F : Fence) (m : Nat) (P : Program) (md : Region.Mode) (ops : Array Oper) (C : World → Prop) (n : Nat) (L : Array Bool → Act → Prop) : Nat → Array Bool → Act → Prop
 | 0, listed, a => L listed a
 | f + 1, listed, a =>
   Region.ready md ops listed ≠ [] ∧ ∀ i ∈ Region.ready md ops listed, i < n ∧ qOpIn F m P ops C i (headIn F m P md ops C n L f (listed.setIfInBounds i true)) a
theorem headIn_first {n i : Nat} {oi : Oper} {v : Value} {L : Array Bool → Act → Prop} (hi : ops[i]? = some oi) (hsel : ∀ (j : Nat) (o : Oper) cs b, ops[j]? = some o → o.op ≠ .select cs b)
  (hs : Region.sinkB md ops n = true) (hc : Region.chainB md ops n = true) (hn : n < ops.size) (hin : i < n)
  (hdone : ∀ listed a, L listed a → ∀ j ∈ Region.ready md ops listed, n ≤ j) :
  ∀ (f : Nat) (listed : Array Bool) (a : Act), HeadInv md ops n listed →
    (∀ j oj, ops[j]? = some oj → j ≠ i → listed.getD j true = false → (∀ e ∈ oj.after, Region.binds md e = true → e.on ≠ i) → oi.apart ops oj = true) →
    i ∈ Region.ready md ops listed → YieldsQuiet F m P ops C oi v a →
    headIn F m P md ops C n L f (listed.setIfInBounds i true) (a.put oi.dst v) → headIn F m P md ops C n L (f + 1) listed a := by
 have early : ∀ (listed : Array Bool), HeadInv md ops n listed → i ∈ Region.ready md ops listed → ∀ j ∈ Region.ready md ops listed, j < n := fun listed inv hr j hj => by
  rcases Nat.lt_or_ge j n with h | h
  · exact h
  · exact absurd hj (tail_waits hs hc hn inv _ i rfl hin (mem_ready.1 hr).1 j h)
 have some1 : ∀ (listed : Array Bool), i ∈ Region.ready md ops listed → Region.ready md ops listed ≠ [] := fun listed hr h => by rw [h] at hr; cases hr
 intro f
 induction f with
 | zero =>
   intro listed a inv _ hr hy H
   refine ⟨some1 _ hr, fun j hj => ⟨early _ inv hr j hj, ?_⟩⟩
   by_cases hji : j = i
   · subst hji; exact hy.qOpIn hi H
   · have h1 := hdone _ _ H j (ready_mono hj hji)
     have h2 := early _ inv hr j hj
     omega
 | succ f ih =>
   intro listed a inv hfree hr hy H
   have hun := (mem_ready.1 hr).1
   refine ⟨some1 _ hr, fun j hj => ?_⟩
   have hjn := early _ inv hr j hj
   refine ⟨hjn, ?_⟩
   by_cases hji : j = i
   · subst hji; exact hy.qOpIn hi H
   · have h1 := (H.2 j (ready_mono hj hji)).2
     obtain ⟨hjun, oj, hoj, hall⟩ := mem_ready.1 hj
     have hnot : ∀ e ∈ oj.after, Region.binds md e = true → e.on ≠ i := fun e he hb heq => by
      have h1 := hall e he hb
      rw [heq, getD_both hun] at h1
      cases h1
     have h2 := qOpIn_put hoj (hfree j oj hoj hji hjun hnot) (fun cs b => hsel i oi cs b hi) (fun cs b => hsel j oj cs b hoj) hy h1
     refine qOpIn_mono (fun a' h3 => ih (listed.setIfInBounds j true) a' (inv.set hj hjn) (fun k ok hk hki hku hno => hfree k ok hk hki ?_ hno) (ready_mono hr (Ne.symm hji)) h3.1 ?_) h2
     · by_cases hjk : j = k
       · subst hjk; exact hjun
       · rw [getD_set_ne true hjk] at hku; exact hku
     · rw [Array.setIfInBounds_comm _ _ hji]
       exact h3.2
def noDefer (ops : Array Oper) : Bool := ops.all fun o => match o.op with | .defer _ => false | _ => true
theorem noDefer_spec (h : noDefer ops = true) {i : Nat} {o : Oper} (hi : ops[i]? = some o) (ro : Option Nat) (ρ : Operand → Value) : o.semAt ro ρ = execOp ρ o := by
 refine Oper.semAt_eq ro ρ o (fun c hc => ?_)
 unfold noDefer at h
 rw [Array.all_eq_true] at h
 obtain ⟨hlt, he⟩ := Array.getElem?_eq_some_iff.1 hi
 have := h i hlt
 rw [he, hc] at this
 cases this
theorem wpIn_of_q {i : Nat} {o : Oper} {a : Act} {K : Act → Prop} {K' : Act → World → Prop} {Q' : Exit → Act → World → Prop} {w : World} (hd : noDefer ops = true) (hi : ops[i]? = some o) (hw : C w) (h : ∀ a w', C w' → K a → K' a w')
  (ha : o.askedIn F P a C) (hh : o.quietIn F m P a C K) : o.wpIn F m P a w K' Q' := by
 obtain ⟨v, h1, h2⟩ := hh
 have h3 := h1 w hw
 unfold Oper.quietAtIn at h3
 unfold Oper.wpIn
 refine ⟨ha w hw, ?_⟩
 rw [noDefer_spec hd hi]
 generalize (execOp a.eval o).run P w = r at *
 cases r with
 | halt x w' => simp only [Oper.quietUponIn] at h3
 | ok x w' =>
   cases x <;> simp only [Oper.quietUponIn] at h3 <;> simp only [Oper.uponIn]
   case value u =>
    rw [h3.1, h3.2]
    exact h _ _ hw h2
   case skip =>
    rw [h3.1, ← h3.2]
    exact h _ _ hw h2
   case enter f args =>
    rw [h3.1]
    exact ⟨h3.2.1, h3.2.2.mono fun e w'' hb => by rw [hb.1]; exact h _ _ hb.2 h2⟩
theorem wpOpIn_of_q {i : Nat} {a : Act} {K : Act → Prop} {K' : Act → World → Prop} {Q' : Exit → Act → World → Prop} {w : World} (hd : noDefer ops = true) (hC : C w) (h : ∀ a w', C w' → K a → K' a w')
  (hh : qOpIn F m P ops C i K a) : wpOpIn F m P ops Q' i K' a w := by
 unfold qOpIn at hh
 unfold wpOpIn
 cases ho : ops[i]? with
 | none => simp only [ho] at hh ⊢; exact h _ _ hC hh
 | some o =>
   simp only [ho] at hh ⊢
   by_cases hw : Region.wanted o (yielded ops a.tmps) = true
   · simp only [hw, if_true] at hh ⊢; exact wpIn_of_q hd ho hC h hh.1 hh.2
   · simp only [hw] at hh ⊢; exact ⟨hh.1 w hC, h _ _ hC hh.2⟩
theorem anyIn_of_head {n g : Nat} {L : Array Bool → Act → Prop} {Q' : Exit → Act → World → Prop} (hd : noDefer ops = true) (hL : ∀ listed a w, C w → L listed a → wpAnyIn F m P md ops Q' g listed a w) :
  ∀ (f : Nat) (listed : Array Bool) (a : Act) (w : World), C w → headIn F m P md ops C n L f listed a → wpAnyIn F m P md ops Q' (f + g) listed a w
 | 0, listed, a, w, hw, h => by rw [Nat.zero_add]; exact hL _ _ _ hw h
 | f + 1, listed, a, w, hw, h => by
   rw [show f + 1 + g = (f + g) + 1 by omega]
   exact ⟨fun h0 => absurd h0 h.1, fun i hi => wpOpIn_of_q hd hw (fun a' w' hw' h' => anyIn_of_head hd hL f _ a' w' hw' h') (h.2 i hi).2⟩
theorem anyIn_of_seq {Q' : Exit → Act → World → Prop} : ∀ (l : List Oper) (k : Nat) (listed : Array Bool) (a : Act) (w : World), (∀ j, l[j]? = ops[k + j]?) →
  Region.seqB md ops l.length k listed = true → wpListIn F m P ops Q' l a w → wpAnyIn F m P md ops Q' l.length listed a w
 | [], _, _, _, _, _, hB, h => ⟨by simpa [Region.seqB] using hB, h⟩
 | o :: l, k, listed, a, w, hl, hB, h => by
   have h0 : ops[k]? = some o := by simpa using (hl 0).symm
   simp only [List.length_cons, Region.seqB, Bool.and_eq_true, decide_eq_true_eq] at hB
   refine ⟨fun h1 => (by rw [hB.1] at h1; cases h1), fun i hi => ?_⟩
   rw [hB.1] at hi
   obtain rfl : i = k := by simpa using hi
   have hw : wpOpIn F m P ops Q' i (wpListIn F m P ops Q' l) a w := by unfold wpOpIn; simp only [h0]; exact h
   exact wpOpIn_mono (fun a' w' h' => anyIn_of_seq l (i + 1) _ a' w' (fun j => by have := hl (j + 1); simpa [Nat.add_assoc, Nat.add_comm 1 j] using this) hB.2 h') hw
theorem headIn_lex {n g : Nat} {Lq : Act → Prop} (hsel : Region.noSelect ops = true) (hs : Region.sinkB md ops n = true) (hc : Region.chainB md ops n = true) (hn : n < ops.size) :
  ∀ (l : List Oper) (k : Nat) (listed : Array Bool) (a : Act), (∀ j, j < l.length → l[j]? = ops[k + j]?) → k + l.length = n → HeadInv md ops n listed →
  Region.lexHead md ops g l.length k listed = true → wpQuietIn F m P ops C Lq l a →
  headIn F m P md ops C n (fun listed' a' => Region.seqB md ops g n listed' = true ∧ Lq a') l.length listed a
 | [], k, listed, a, _, hk, _, hB, h => by
   obtain rfl : k = n := by simpa using hk
   exact ⟨by simpa [Region.lexHead] using hB, h⟩
 | o :: l, k, listed, a, hl, hk, inv, hB, h => by
   have h0 : ops[k]? = some o := by simpa using (hl 0 (by simp)).symm
   simp only [List.length_cons, Region.lexHead, Bool.and_eq_true] at hB
   obtain ⟨⟨hr, hf⟩, hB'⟩ := hB
   have hkn : k < n := by simp only [List.length_cons] at hk; omega
   have hr' : k ∈ Region.ready md ops listed := by simpa using hr
   have hst : qOpIn F m P ops C k (wpQuietIn F m P ops C Lq l) a := by unfold qOpIn; simp only [h0]; exact h
   obtain ⟨v, hy, hK⟩ := yieldsQuiet_of_qOpIn h0 hst
   exact headIn_first h0 (Region.noSelect_spec hsel) hs hc hn hkn (fun listed' a' hL => seqB_ready hL.1) l.length listed a inv (Region.free_spec h0 hf) hr' hy
    (headIn_lex hsel hs hc hn l (k + 1) _ _ (fun j hj => by have := hl (j + 1) (by simp; omega); simpa [Nat.add_assoc, Nat.add_comm 1 j] using this) (by simp only [List.length_cons] at hk; omega) (inv.set hr' hkn) hB' hK)
theorem wpIn_region_class_tail {id : Nat} {Q : Exit → Act → World → Prop} {a : Act} {w : World} {l : List Oper} (n : Nat) (hd : noDefer l.toArray = true) (hm : P.follows .mixedOrders = true) (hB : Region.lexTailB .any l.toArray n = true) (hC : C { w with drawn := w.drawn + 1 })
  (h : wpQuietIn F m P l.toArray C (fun a' => ∀ w', C w' → wpListIn F m P l.toArray Q (l.drop n) a' w') (l.take n) a) : (Code.region id l.toArray true).wpIn F m P Q a w := by
 simp only [Region.lexTailB, Bool.and_eq_true, decide_eq_true_eq] at hB
 obtain ⟨⟨⟨⟨hsel, hn⟩, hs⟩, hc⟩, hlex⟩ := hB
 have hn' : n < l.length := by simpa using hn
 have htl : (l.take n).length = n := by simp; omega
 have hdl : (l.drop n).length = l.toArray.size - n := by simp
 have inv0 : HeadInv .any l.toArray n (Array.replicate l.toArray.size false) :=
  ⟨by simp, fun j oj _ hl => (by rw [getD_replicate_false] at hl; cases hl), fun t _ ht => getD_in (by simpa using ht) (getD_replicate_false _ _)⟩
 have H := headIn_lex (F := F) (m := m) (P := P) (C := C) (md := .any) (g := l.toArray.size - n) hsel hs hc hn (l.take n) 0 _ a (fun j hj => by
  have hj' : j < n := by rw [htl] at hj; exact hj
  simp [hj']) (by simpa using htl) inv0 (by rw [htl]; exact hlex) h
 refine wpIn_region_any hm ?_
 have := anyIn_of_head (Q' := Q) (g := l.toArray.size - n) hd (fun listed a' w' hw' hL => by
  have := anyIn_of_seq (F := F) (m := m) (P := P) (md := .any) (Q' := Q) (l.drop n) n listed a' w' (fun j => by simp [List.getElem?_drop]) (by rw [hdl]; exact hL.1) (hL.2 w' hw')
  rwa [hdl] at this) _ _ _ { w with drawn := w.drawn + 1 } hC H
 rw [htl, show n + (l.toArray.size - n) = l.toArray.size by omega] at this
 exact this
end
end Go.Proofs.YtdmegkkifiahdaaGreat
namespace Go.Proofs.YtdmegkkifiahdaaGreat
open Go.RowKit
attribute [local go_sem] bqOp bqAll bqUpon
attribute [local irreducible] wpQuiet wpBQ
attribute [local go_sem] Oper.semAt_some
set_option linter.unusedVariables false
theorem corner_next {m n : Nat} (hm : m < n) : ((m : Int) + 1 + (n : Int)) % (n : Int) = (nxt n m : Int) := by
 unfold nxt
 rw [Int.add_emod_right]
 norm_cast
theorem corner_prev {m n : Nat} (hm : m < n) : ((m : Int) - 1 + (n : Int)) % (n : Int) = (prv n m : Int) := by
 unfold prv
 rw [show (m : Int) - 1 + (n : Int) = ((m + n - 1 : Nat) : Int) by omega]
 norm_cast
theorem nxt_lt {n m : Nat} (h : m < n) : nxt n m < n := Nat.mod_lt _ (by omega)
theorem prv_lt {n m : Nat} (h : m < n) : prv n m < n := Nat.mod_lt _ (by omega)
def encE (n : Nat) (X : Nat → Nat → Int) (i : Nat) : Array Value := #[.int .i64 (i : Int), .agg #[.int .i64 (X i 0), .int .i64 (X i 1), .int .i64 (X (nxt n i) 0), .int .i64 (X (nxt n i) 1)]]
structure EdgeK (n₀ Bn : Nat) (w w' : World) : Prop where
 below : Below n₀ w w'
 blk : w'.heap[Bn]? = w.heap[Bn]?
theorem EdgeK.refl (n₀ Bn : Nat) (w : World) : EdgeK n₀ Bn w w := ⟨Below.refl _ _, rfl⟩
theorem EdgeK.trans {n₀ Bn : Nat} {a b c : World} (h : EdgeK n₀ Bn a b) (k : EdgeK n₀ Bn b c) : EdgeK n₀ Bn a c := ⟨h.below.trans k.below, k.blk.trans h.blk⟩
theorem EdgeK.of_below {n₀ Bn : Nat} {a b : World} (h : Below a.heap.size a b) (hn : n₀ ≤ a.heap.size) (hb : Bn < a.heap.size) : EdgeK n₀ Bn a b := ⟨h.mono hn, h.block _ hb⟩
theorem edgeK_b {n₀ Bn : Nat} {w : World} (hn : n₀ ≤ w.heap.size) (hb : Bn < w.heap.size) (W : World) (l : Nat) (o o' : Obj) (hl : w.heap.size ≤ l) (h : W.heap[l]? = some o) (h1 : o.isCells = false) (h2 : o.isWalk = false) : EdgeK n₀ Bn W (W.putObj l o') :=
 ⟨belowK_b hn W l o o' hl h h1 h2, World.putObj_heap_other (by omega)⟩
theorem grown_of_below {w w' : World} (h : Below w.heap.size w w') : w.grownBy w' none := ⟨h.os, h.tape, h.output, h.size, fun i hi _ => h.block i hi⟩
def preN (n k : Nat) : List (Fin n) := (List.finRange n).take k
theorem preN_snoc {n k : Nat} (h : k < n) : preN n (k + 1) = preN n k ++ [⟨k, h⟩] := by
 unfold preN
 rw [List.take_succ_eq_append_getElem (by simpa using h)]
 simp
theorem preN_all (n : Nat) : preN n n = List.finRange n := List.take_of_length_le (by simp)
theorem preN_len {n k : Nat} (h : k ≤ n) : (preN n k).length = k := by simp [preN]; omega
theorem preN_pre (n k : Nat) : preN n k <+: List.finRange n := List.take_prefix _ _
def EdgeC {α : Type} (J : α → World → Prop) (n₀ Bn : Nat) (W : World) (b : Nat) (x y : Int) (s : α) (w : World) : Prop :=
 J s w ∧ EdgeK n₀ Bn W w ∧ w.heap[b]? = some (.cells #[.int .i64 x, .int .i64 y] 28 (0, 0))
set_option maxRecDepth 20000 in
set_option maxHeartbeats 1000000 in
theorem pledges1_stops (n c : Nat) (ad : Option Addr) (X : Nat → Nat → Int) (Bn n₀ m : Nat) (hm : 2 ≤ m) (w0 w : World) (hR : Rows 2 w0 (.slice ad n c) n X) (hn : n ≤ 1000) (hb0 : Below w0.heap.size w0 w) (h0 : w0.heap.size ≤ n₀) (hn0 : n₀ ≤ w.heap.size) (hBn : Bn < w.heap.size)
  (hblk : w.heap[Bn]? = some (.cells #[.slice ad n c] 284 (0, 0))) :
  SeqStopsK Fence.wide m Tryz.prog 353 #[.pointer (some ⟨Bn, 0, none⟩)] (fun i : Fin n => encE n X i.1) (EdgeK n₀ Bn) (fun ys => ys = List.finRange n) (fun pre => pre <+: List.finRange n) n w := by
 intro l J Jx W hW hJ hJx hY hJ0
 have hm1 : 1 ≤ m := by omega
 have hm2 : 1 ≤ m - 1 := by omega
 have HJ := Lib.hid (fun s A B (h : J s A) (hb : Below A.heap.size A B) => hJ s A B none h (grown_of_below hb) (fun r e => by cases e))
 have HY := Lib.hid hY
 have HR := Lib.hid hR
 have J0 := Lib.hid hJ0
 have hsz := hW.size
 have W0 := Lib.hid (hb0.trans (hW.mono hb0.size))
 have BK := Lib.hid (show W.heap[Bn]? = some (.cells #[.slice ad n c] 284 (0, 0)) from (hW.block Bn hBn).trans hblk)
 clear hJ hJx hY hJ0 hW hblk hb0 hR
 have c0 := cell_block BK.out 0
 refine callsIn_of_wp Tryz.func353 rfl trivial ?_ rfl
 simp only [Tryz.ntmps353, List.append_toArray, List.cons_append, List.nil_append, List.size_toArray, List.length_cons, List.length_nil, Nat.reduceAdd, Nat.reduceSub, Array.replicate_succ, Array.replicate_zero, List.push_toArray]
 gi_wp2
 gi_loopw [7] (fun i wr => ∃ k : Nat, k ≤ n ∧ i = .int .i64 k ∧ J (preN n k) wr ∧ EdgeK n₀ Bn W wr) (fun i _ => n - (intOf i).toNat)
 case atStart => exact ⟨0, by omega, rfl, J0.out, EdgeK.refl _ _ _⟩
 case round =>
  obtain ⟨k, hk, rfl, hJr, hKr⟩ := hrel
  have JR := Lib.hid hJr
  have KR := Lib.hid hKr
  clear hJr hKr
  obtain ⟨wo, rfl⟩ : ∃ wo : World, wo = wr := ⟨_, rfl⟩
  by_cases hlt : k < n
  rotate_left
  · obtain rfl : k = n := by omega
    gi_wp2
    go_end0
    exact ⟨⟨_, rfl⟩, .inl ⟨_, rfl, by rw [← preN_all]; exact JR.out⟩⟩
  have hs2 : W.heap.size ≤ wo.heap.size := KR.out.below.size
  have hRr : Rows 2 wo (.slice ad n c) n X := HR.out.later (W0.out.trans (KR.out.below.mono h0))
  obtain ⟨g, o, rfl, hc⟩ := hRr.row hlt
  have r0 := hc 0 (by omega)
  have r1 := hc 1 (by omega)
  have b0 := cell_block (KR.out.blk.trans BK.out) 0
  simp only [Nat.add_zero] at r0
  clear hc hRr
  have hbl := (Below.refl wo.heap.size wo).alloc (Nat.le_refl _) (.cells #[.int .i64 (X k 0), .int .i64 (X k 1)] 28)
  have hbn : Bn < wo.heap.size := by omega
  have hn1 : n₀ ≤ wo.heap.size := by omega
  have HK1 := Lib.hid (KR.out.trans (EdgeK.of_below hbl.drew hn1 hbn))
  have HJ1 := Lib.hid (HJ.out _ _ _ JR.out hbl.drew)
  have HB1 := Lib.hid (block_new wo (.cells #[.int .i64 (X k 0), .int .i64 (X k 1)] 28))
  clear hbl
  have FC : ∀ w', EdgeC J n₀ Bn W wo.heap.size (X k 0) (X k 1) (preN n k) w' → w'.cell? ⟨wo.heap.size, 0, none⟩ = some (.int .i64 (X k 0)) ∧ w'.cell? ⟨wo.heap.size, 1, none⟩ = some (.int .i64 (X k 1)) ∧ w'.cell? ⟨Bn, 0, none⟩ = some (.slice (some ⟨g, o, none⟩) n c) := fun w' h => ⟨cell_block h.2.2 0, cell_block h.2.2 1, cell_block (h.2.1.blk.trans BK.out) 0⟩
  replace FC := Lib.hid FC
  have CALL : ∀ w', EdgeC J n₀ Bn W wo.heap.size (X k 0) (X k 1) (preN n k) w' → CallsIn Fence.wide (m - 1) Tryz.prog 233 #[.slice (some ⟨g, o, none⟩) n c, .int .i64 ((k : Int) + 1)] w' fun e w'' => e = .returned (.agg #[.int .i64 (X (nxt n k) 0), .int .i64 (X (nxt n k) 1)]) ∧ EdgeC J n₀ Bn W wo.heap.size (X k 0) (X k 1) (preN n k) w'' := fun w' h => by
   have hR' : Rows 2 w' (.slice (some ⟨g, o, none⟩) n c) n X := HR.out.later (W0.out.trans (h.2.1.below.mono h0))
   refine callsIn_wide.2 ((plcorner_any n c (nxt n k) _ X _ w' hR' (by omega) (nxt_lt hlt) (corner_next hlt) (by omega) (by omega) (by omega) (by omega)).mono ?_)
   rintro e w'' ⟨rfl, hb⟩
   have hs' := lt_block h.2.2
   exact ⟨rfl, HJ.out _ _ _ h.1 hb, h.2.1.trans (EdgeK.of_below hb (by omega) (by omega)), block_later hb h.2.2⟩
  replace CALL := Lib.hid CALL
  have jk : IntKind.i64.wrap ((k : Int) + 1) = (k : Int) + 1 := IntWalk.i64_in _ (by omega)
  gi_wp2
  refine wpIn_region_class_tail (C := EdgeC J n₀ Bn W wo.heap.size (X k 0) (X k 1) (preN n k)) 8 (by kernel_rfl) (by kernel_rfl) (by kernel_rfl) ⟨HJ1.out, HK1.out, HB1.out⟩ ?_
  simp only [List.take_succ_cons, List.take_zero, List.drop_succ_cons, List.drop_zero]
  (repeat (refine wpQuietIn_step (fun _ _ _ _ => trivial) (fun K hK => ?_); replace hK := Lib.hid hK; go_simp; first | (refine hK.out _ ?_; clear hK K) | (apply Exists.intro; refine ⟨fun w' hw => ?_, hK.out _ ?_⟩; (first | with_reducible exact rfl | ((first | with_reducible exact CALL.out w' hw | (obtain ⟨fc1, fc2, fc3⟩ := FC.out w' hw; go_simp; exact rfl)))); clear hK K)))
  refine wpQuietIn_nil ?_
  rintro w1 ⟨hJ1, hK1, hb1⟩
  obtain ⟨fn, tmps, assign, body, hy, hR⟩ := HY.out (preN n k) ⟨k, hlt⟩ w1 hJ1 (by rw [preN_len hk]; exact hlt)
  unfold encE at hy
  dsimp only at hy
  have K1 := Lib.hid hK1
  clear hJ1 hK1 hb1 r0 r1 b0 jk
  gi_wp2
  refine hR.mono ?_
  rintro e w2 (⟨rfl, hJ2, hk2⟩ | ⟨rfl, hJ2⟩)
  · have J2 := Lib.hid hJ2
    have K2 := Lib.hid (K1.out.trans hk2)
    clear hJ2 hk2 hy hR
    gi_wp2
    go_roundw
    case rel => exact ⟨k + 1, by omega, by go_num, by rw [preN_snoc hlt]; exact J2.out, K2.out⟩
    case measure => simp [intOf]; omega
  · have J2 := Lib.hid hJ2
    clear hJ2 hy hR
    gi_wp2
    refine bodyPost_ret (results_none rfl _ _ _) rfl ⟨⟨_, rfl⟩, .inr ⟨preN n k ++ [⟨k, hlt⟩], by rw [← preN_snoc hlt]; exact preN_pre _ _, J2.out⟩⟩
end Go.Proofs.YtdmegkkifiahdaaGreat
namespace Go.Proofs.YtdmegkkifiahdaaGreat
open Go.RowKit Go.Shelf
set_option linter.unusedVariables false
structure Turned (B : Nat) (W W2 : World) : Prop where
 os : W2.os = W.os
 tape : W2.tape = W.tape
 output : W2.output = W.output
 size : W.heap.size ≤ W2.heap.size
 block : ∀ k, k < B → k < W.heap.size → W2.heap[k]? = W.heap[k]?
 cells : ∀ (k : Nat) (o : Obj), W.heap[k]? = some o → o.isCells = true → W2.heap[k]? = some o
theorem Turned.refl (B : Nat) (W : World) : Turned B W W := ⟨rfl, rfl, rfl, Nat.le_refl _, fun _ _ _ => rfl, fun _ _ h _ => h⟩
theorem Turned.step {B : Nat} {W W1 W2 : World} {row : Option Nat} (hg : W.grownBy W1 row) (hr : ∀ r, row = some r → B ≤ r ∧ ∃ o : Obj, W.heap[r]? = some o ∧ o.isCells = false) (h : Turned B W1 W2) : Turned B W W2 :=
 ⟨h.os.trans hg.os, h.tape.trans hg.tape, h.output.trans hg.output, Nat.le_trans hg.size h.size,
  fun k hk hs => (h.block k hk (Nat.lt_of_lt_of_le hs hg.size)).trans (hg.block k hs (fun e => by have := (hr k e.symm).1; omega)),
  fun k o ho hc => h.cells k o ((hg.block k (Array.getElem?_eq_some_iff.1 ho).1 (fun e => by obtain ⟨_, o', h1, h2⟩ := hr k e.symm; rw [ho] at h1; cases h1; rw [hc] at h2; cases h2)).trans ho) hc⟩
theorem Turned.cs {B : Nat} {W W2 : World} (h : Turned B W W2) {k : Nat} {cs : Array Value} {t : TypeId} {m : Nat × Nat} (hk : W.heap[k]? = some (.cells cs t m)) : W2.heap[k]? = some (.cells cs t m) := h.cells k _ hk rfl
theorem Turned.below {B n₀ : Nat} {a W W2 : World} (h : Turned B W W2) (hb : Below n₀ a W) (hn : n₀ ≤ B) (ha : n₀ ≤ a.heap.size) : Below n₀ a W2 :=
 hb.trans ⟨h.os, h.tape, h.output, h.size, fun k hk => h.block k (Nat.lt_of_lt_of_le hk hn) (Nat.lt_of_lt_of_le hk (Nat.le_trans ha hb.size))⟩
theorem blk_own {β : Type} {B b : Nat} {f : β → Array Value} {t : TypeId} {m : Nat × Nat} : OwnFrom B (fun (s : β) W => W.heap[b]? = some (.cells (f s) t m)) := fun s X Y row hs hg hr =>
 (hg.block b (Array.getElem?_eq_some_iff.1 hs).1 (fun e => by obtain ⟨_, o, ho, hc⟩ := hr b e.symm; rw [hs] at ho; cases ho; cases hc)).trans hs
section
variable {F : Fence} {n : Nat} {P : Program}
theorem wpIn_rangeFunc_round {α : Type} {g : Operand} {ps : Array Tmp} {assign body : Code} {Q : Exit → Act → World → Prop} {a : Act} {w : World}
  (hro : F.round = none) (h1 : 1 ≤ n) {gf : Nat} {lb : Array Value} (hg : a.eval g = .func (.func gf) #[] lb) (hFg : F.fn gf) (eg : ∀ args w, (callFunc gf args).run P w = .ok (.enter gf args) w)
  {encs : α → Array Value} {Kp : World → World → Prop} {S Sp : List α → Prop} {N : Nat} {w0 : World} (hseq : SeqStopsK F (n - 1) P gf lb encs Kp S Sp N w0)
  (hKt : ∀ {A B C : World}, Kp A B → Kp B C → Kp A C) (hKb : ∀ (W : World) (l : Nat) (o o' : Obj), w.heap.size ≤ l → W.heap[l]? = some o → o.isCells = false → o.isWalk = false → Kp W (W.putObj l o')) (hb0 : Below w0.heap.size w0 w) (hps : ∀ x, (encs x).size = ps.size)
  (I : List α → World → Prop) (Ix : Code → List α → World → Prop) (hI : OwnFrom w.heap.size I) (hIx : ∀ c, OwnFrom w.heap.size (Ix c)) (h0 : I [] w)
  (hround : ∀ (l : Nat) (pre : List α) (x : α) (W : World), I pre W → assign.wpIn (F.inRound l) (n - 1 - 1) P (Exit.then (fun a' W' => KeepsFrom w.heap.size W W' ∧ Kp W W' ∧ I pre W' ∧
    ∀ (l2 : Nat) (pre2 : List α) (W2 : World), Turned w.heap.size W' W2 → w.heap.size ≤ l2 → (∃ r, W2.heap[l2]? = some (.loop r)) → I pre2 W2 → pre2.length < N → body.wpIn (F.inRound l2) (n - 1 - 1) P (ownPostG w.heap.size Kp I Ix (pre2 ++ [x]) W2) a' W2) (fun _ _ _ => False))
    { tmps := (ps.zip (encs x)).foldl (fun t (p, v) => t.setIfInBounds p v) a.tmps, defers := [] } W)
  (hdone : ∀ (D : Nat) (xs : List α) (W : World), w.heap.size ≤ D → S xs → I xs W → W.heap[D]? = some (.deferred (some [])) → Q .normal { a with defers := { target := .collected D, args := #[] } :: a.defers } W)
  (hstop : ∀ (D : Nat) (c : Code) (pre : List α) (W : World), w.heap.size ≤ D → Sp pre → Ix c pre W → W.heap[D]? = some (.deferred (some [])) → c.wpIn F n P Q { a with defers := { target := .collected D, args := #[] } :: a.defers } W) :
  (Code.rangeFunc g ps assign body).wpIn F n P Q a w := by
 refine wpIn_rangeFunc_ownH hro h1 hg hFg eg hseq hKt hKb hb0 hps I Ix hI hIx h0
  (fun x a' W' => ∀ (l2 : Nat) (pre2 : List α) (W2 : World), Turned w.heap.size W' W2 → w.heap.size ≤ l2 → (∃ r, W2.heap[l2]? = some (.loop r)) → I pre2 W2 → pre2.length < N → body.wpIn (F.inRound l2) (n - 1 - 1) P (ownPostG w.heap.size Kp I Ix (pre2 ++ [x]) W2) a' W2)
  (fun x a' _ A B row hs hg hr l2 pre2 W2 hT => hs l2 pre2 W2 (Turned.step hg hr hT)) ?_ ?_ hdone hstop
 · intro l pre x W K hi hK
   refine wpIn_mono (hround l pre x W hi) ?_
   intro e a' W' h
   cases e with
   | normal => exact hK a' W' h.1 h.2.1 h.2.2.1 h.2.2.2
   | _ => exact h
 · intro l pre x a' W hl hr hi hA hlen
   exact hA l pre W (Turned.refl _ _) hl hr hi hlen
theorem wpIn_rangeFunc_roundN {α : Type} {g : Operand} {ps : Array Tmp} {assign body : Code} {Q : Exit → Act → World → Prop} {a : Act} {w : World}
  {l₀ : Nat} {r₀ : Loop} (hro : F.round = some l₀) (hl₀ : w.heap[l₀]? = some (.loop r₀)) (h1 : 1 ≤ n) {gf : Nat} {lb : Array Value} (hg : a.eval g = .func (.func gf) #[] lb) (hFg : F.fn gf) (eg : ∀ args w, (callFunc gf args).run P w = .ok (.enter gf args) w)
  {encs : α → Array Value} {Kp : World → World → Prop} {S Sp : List α → Prop} {N : Nat} {w0 : World} (hseq : SeqStopsK F (n - 1) P gf lb encs Kp S Sp N w0)
  (hKt : ∀ {A B C : World}, Kp A B → Kp B C → Kp A C) (hKb : ∀ (W : World) (l : Nat) (o o' : Obj), w.heap.size ≤ l → W.heap[l]? = some o → o.isCells = false → o.isWalk = false → Kp W (W.putObj l o')) (hb0 : Below w0.heap.size w0 w) (hps : ∀ x, (encs x).size = ps.size)
  (I : List α → World → Prop) (Ix : Code → List α → World → Prop) (hI : OwnFrom w.heap.size I) (hIx : ∀ c, OwnFrom w.heap.size (Ix c)) (h0 : I [] w)
  (hround : ∀ (l : Nat) (pre : List α) (x : α) (W : World), I pre W → assign.wpIn (F.inRound l) (n - 1 - 1) P (Exit.then (fun a' W' => KeepsFrom w.heap.size W W' ∧ Kp W W' ∧ I pre W' ∧
    ∀ (l2 : Nat) (pre2 : List α) (W2 : World), Turned w.heap.size W' W2 → w.heap.size ≤ l2 → (∃ r, W2.heap[l2]? = some (.loop r)) → I pre2 W2 → pre2.length < N → body.wpIn (F.inRound l2) (n - 1 - 1) P (ownPostG w.heap.size Kp I Ix (pre2 ++ [x]) W2) a' W2) (fun _ _ _ => False))
    { tmps := (ps.zip (encs x)).foldl (fun t (p, v) => t.setIfInBounds p v) a.tmps, defers := [] } W)
  (hdone : ∀ (xs : List α) (W : World), S xs → I xs W → Q .normal a W)
  (hstop : ∀ (c : Code) (pre : List α) (W : World), Sp pre → Ix c pre W → c.wpIn F n P Q a W) :
  (Code.rangeFunc g ps assign body).wpIn F n P Q a w := by
 refine wpIn_rangeFunc_ownN hro hl₀ h1 hg hFg eg hseq hKt hKb hb0 hps I Ix hI hIx h0
  (fun x a' W' => ∀ (l2 : Nat) (pre2 : List α) (W2 : World), Turned w.heap.size W' W2 → w.heap.size ≤ l2 → (∃ r, W2.heap[l2]? = some (.loop r)) → I pre2 W2 → pre2.length < N → body.wpIn (F.inRound l2) (n - 1 - 1) P (ownPostG w.heap.size Kp I Ix (pre2 ++ [x]) W2) a' W2)
  (fun x a' _ A B row hs hg hr l2 pre2 W2 hT => hs l2 pre2 W2 (Turned.step hg hr hT)) ?_ ?_ hdone hstop
 · intro l pre x W K hi hK
   refine wpIn_mono (hround l pre x W hi) ?_
   intro e a' W' h
   cases e with
   | normal => exact hK a' W' h.1 h.2.1 h.2.2.1 h.2.2.2
   | _ => exact h
 · intro l pre x a' W hl hr hi hA hlen
   exact hA l pre W (Turned.refl _ _) hl hr hi hlen
end
end Go.Proofs.YtdmegkkifiahdaaGreat
namespace Go.Proofs.YtdmegkkifiahdaaGreat
open Go.RowKit Go.Shelf
attribute [local go_sem] bqOp bqAll bqUpon
attribute [local irreducible] wpQuiet wpBQ
attribute [local go_sem] Oper.semAt_some
set_option linter.unusedVariables false
def termE (n : Nat) (X : Nat → Nat → Int) (m : Nat) : Int := X m 0 * X (nxt n m) 1 - X m 1 * X (nxt n m) 0
def sumE (n : Nat) (X : Nat → Nat → Int) (l : List (Fin n)) : Int := l.foldl (fun s i => s + termE n X i.1) 0
theorem sumE_snoc (n : Nat) (X : Nat → Nat → Int) (l : List (Fin n)) (i : Fin n) : sumE n X (l ++ [i]) = sumE n X l + termE n X i.1 := by simp [sumE]
theorem sumE_pre (n : Nat) (X : Nat → Nat → Int) : ∀ k, k ≤ n → sumE n X (preN n k) = twiceN n X k
 | 0, _ => rfl
 | k + 1, h => by rw [preN_snoc (by omega : k < n), sumE_snoc, sumE_pre n X k (by omega)]; rfl
theorem sumE_all (n : Nat) (X : Nat → Nat → Int) : sumE n X (List.finRange n) = twiceN n X n := by rw [← preN_all, sumE_pre n X n (Nat.le_refl _)]
theorem termE_bd {n : Nat} {X : Nat → Nat → Int} (hv : VldsX n X) {m : Nat} (h : m < n) : (-1000000000000 ≤ X m 0 * X (nxt n m) 1 ∧ X m 0 * X (nxt n m) 1 ≤ 1000000000000) ∧ (-1000000000000 ≤ X m 1 * X (nxt n m) 0 ∧ X m 1 * X (nxt n m) 0 ≤ 1000000000000) := by
 obtain ⟨a1, a2, a3, a4⟩ := hv m h
 obtain ⟨b1, b2, b3, b4⟩ := hv _ (nxt_lt h)
 exact ⟨mul_bd a1 a2 b3 b4, mul_bd a3 a4 b1 b2⟩
theorem sumE_bd {n : Nat} {X : Nat → Nat → Int} (hv : VldsX n X) : ∀ k, k ≤ n → -(2000000000000 * (k : Int)) ≤ twiceN n X k ∧ twiceN n X k ≤ 2000000000000 * (k : Int)
 | 0, _ => by simp [twiceN]
 | k + 1, h => by
   have h1 := sumE_bd hv k (by omega)
   have h2 := termE_bd hv (show k < n by omega)
   unfold twiceN
   omega
theorem sumL_bd {n : Nat} {X : Nat → Nat → Int} (hv : VldsX n X) (l : List (Fin n)) : -(2000000000000 * (l.length : Int)) ≤ sumE n X l ∧ sumE n X l ≤ 2000000000000 * (l.length : Int) := by
 unfold sumE
 suffices h : ∀ (l : List (Fin n)) (s : Int), s - 2000000000000 * (l.length : Int) ≤ l.foldl (fun s i => s + termE n X i.1) s ∧ l.foldl (fun s i => s + termE n X i.1) s ≤ s + 2000000000000 * (l.length : Int) by
  have := h l 0; omega
 intro l
 induction l with
 | nil => intro s; simp
 | cons i l ih =>
   intro s
   have h1 := ih (s + termE n X i.1)
   have h2 := termE_bd hv i.2
   have h3 : termE n X i.1 = X i.1 0 * X (nxt n i.1) 1 - X i.1 1 * X (nxt n i.1) 0 := rfl
   simp only [List.foldl_cons, List.length_cons]
   omega
theorem edgeK_own {β : Type} {n₀ Bn B : Nat} {w₀ : World} (hn : n₀ ≤ w₀.heap.size) (hB : n₀ ≤ B) (hb : Bn < B) (hb' : Bn < w₀.heap.size) : OwnFrom B (fun (_ : β) W => EdgeK n₀ Bn w₀ W) := fun s X Y row hs hg hr =>
 ⟨(ownFrom_below (β := β) hn hB) s X Y row hs.below hg hr, (hg.block Bn (Nat.lt_of_lt_of_le hb' hs.below.size) (fun e => by have := (hr Bn e.symm).1; omega)).trans hs.blk⟩
theorem EdgeK.set {n₀ Bn b : Nat} (W : World) (i : Nat) (v : Value) (hn : n₀ ≤ b) (hb : Bn ≠ b) : EdgeK n₀ Bn W (W.setCell ⟨b, i, none⟩ v) :=
 ⟨(Below.refl _ _).setCell (p := ⟨b, i, none⟩) hn v, Below.heap_setCell _ _ _ _ hb⟩
set_option maxRecDepth 20000 in
set_option maxHeartbeats 1000000 in
theorem pltwice_any (n c : Nat) (ad : Option Addr) (X : Nat → Nat → Int) (w : World) (hR : Rows 2 w (.slice ad n c) n X) (hn : n ≤ 1000) (hv : VldsX n X) :
  Calls Tryz.prog 235 #[.slice ad n c] w fun e w' => e = .returned (.int .i64 (twiceN n X n)) ∧ Below w.heap.size w w' := by
 have HV := Lib.hid hv
 have HR := Lib.hid hR
 clear hv hR
 refine (callsIn_wide (n := 4)).1 ?_
 refine callsIn_of_wp_marks Tryz.func235 rfl trivial ?_ rfl
 simp only [Tryz.ntmps235, List.append_toArray, List.cons_append, List.nil_append, List.size_toArray, List.length_cons, List.length_nil, Nat.reduceAdd, Nat.reduceSub, Array.replicate_succ, Array.replicate_zero, List.push_toArray]
 gi_wp2
 refine ⟨trivial, ?_⟩
 refine (callsIn_wide.2 (pledges_any n c ad _)).mono ?_
 rintro e w' ⟨rfl, rfl⟩
 gi_wp2
 generalize hW0 : (World.alloc _ _) = W0
 have hs0 : W0.heap.size = w.heap.size + 2 := by subst hW0; simp
 obtain ⟨p1, p2, hB0⟩ := box2 hW0.symm
 clear hW0
 refine wpIn_rangeFunc_round (F := Fence.wide) (n := 4) rfl (by omega) (gf := 353) (lb := #[.pointer (some ⟨w.heap.size + 1, 0, none⟩)]) rfl trivial (enters_of Tryz.func353 (by kernel_rfl) rfl)
  (pledges1_stops n c ad X (w.heap.size + 1) w.heap.size 3 (by omega) w W0 HR.out hn hB0 (Nat.le_refl _) (by omega) (by omega) p2)
  EdgeK.trans (edgeK_b (by omega) (by omega)) (Below.refl _ _) (fun _ => rfl)
  (fun pre W => W.heap[w.heap.size]? = some (.cells #[.int .i64 (sumE n X pre)] 3 (0, 0)) ∧ EdgeK w.heap.size (w.heap.size + 1) W0 W)
  (fun _ _ _ => False) (OwnFrom.and blk_own (edgeK_own (by omega) (by omega) (by omega) (by omega))) (fun c s W W' row h _ _ => h.elim) ⟨p1, EdgeK.refl _ _ _⟩ ?round ?done ?stop
 case round =>
  rintro l pre x W ⟨q1, hK⟩
  have hsW := hK.below.size
  dsimp only [encE]
  gi_wp2
  have hbl := (Below.refl W.heap.size W).alloc (Nat.le_refl _) (.cells #[.int .i64 (X x 0), .int .i64 (X x 1), .int .i64 (X (nxt n x) 0), .int .i64 (X (nxt n x) 1)] 314)
  refine ⟨(KeepsOthers.alloc _ _).from _, EdgeK.of_below hbl (by omega) (by omega), ⟨block_later hbl q1, hK.trans (EdgeK.of_below hbl (by omega) (by omega))⟩, ?_⟩
  rintro l2 pre2 W2 hT hl2 hr2 ⟨q2, hK2⟩ hlen
  have hbx := hT.cs (block_new W (.cells #[.int .i64 (X x 0), .int .i64 (X x 1), .int .i64 (X (nxt n x) 0), .int .i64 (X (nxt n x) 1)] 314))
  have x0 := cell_block hbx 0
  have x1 := cell_block hbx 1
  have x2 := cell_block hbx 2
  have x3 := cell_block hbx 3
  have s0 := cell_block q2 0
  have s1 := free_block q2 0
  obtain ⟨⟨t1, t2⟩, t3, t4⟩ := termE_bd HV.out x.2
  obtain ⟨y1, y2⟩ := sumL_bd HV.out pre2
  obtain ⟨S, hS⟩ : ∃ S, sumE n X pre2 = S := ⟨_, rfl⟩
  rw [hS] at s0 y1 y2
  have H2 := Lib.hid (show sumE n X (pre2 ++ [x]) = S + (X x 0 * X (nxt n x) 1 - X x 1 * X (nxt n x) 0) by rw [sumE_snoc, hS]; rfl)
  have Q2 := Lib.hid q2
  have K2 := Lib.hid hK2
  clear q2 hK2 hT hS q1 hK hbx hbl
  gi_wp2
  exact ⟨(KeepsOthers.setCell _ _ _).from _, EdgeK.set _ _ _ (by omega) (by omega), by rw [H2.out]; exact block_set Q2.out _, K2.out.trans (EdgeK.set _ _ _ (by omega) (by omega))⟩
 case done =>
  rintro D xs W hD rfl ⟨q1, hK⟩ hdef
  rw [sumE_all] at q1
  have s0 := cell_block q1 0
  have HD := Lib.hid hdef
  have K := Lib.hid hK
  clear q1 hdef hK
  gi_wp2
  refine ⟨by simp, .inl ⟨_, _, rfl, run_takeDeferred HD.out, ?_⟩⟩
  exact ⟨_, results_tmp rfl _ _ _, rfl, hB0.trans (K.out.below.trans (belowK_b (w := w) (Nat.le_refl _) W D _ _ (by omega) HD.out rfl rfl))⟩
 case stop =>
  rintro D c pre W _ _ h _
  exact h.elim
end Go.Proofs.YtdmegkkifiahdaaGreat
namespace Go.Proofs.YtdmegkkifiahdaaGreat
open Go.RowKit Go.Shelf
attribute [local go_sem] bqOp bqAll bqUpon
attribute [local irreducible] wpQuiet wpBQ
attribute [local go_sem] Oper.semAt_some
set_option linter.unusedVariables false
def RowClear (n : Nat) (X : Nat → Nat → Int) (i k : Nat) : Prop := FarApart n i k → meetX n X i k = false
theorem simple_yes {n : Nat} {X : Nat → Nat → Int} (h : ∀ i ∈ List.finRange n, ∀ k : Fin n, RowClear n X i.1 k.1) : decide (SimpleOk n X) = true :=
 decide_eq_true fun i hi k hk hf => h ⟨i, hi⟩ (List.mem_finRange _) ⟨k, hk⟩ hf
theorem simple_no {n : Nat} {X : Nat → Nat → Int} {i k : Fin n} (hf : FarApart n i.1 k.1) (h : meetX n X i.1 k.1 = true) : decide (SimpleOk n X) = false :=
 decide_eq_false fun g => by rw [g i.1 i.2 k.1 k.2 hf] at h; cases h
theorem keeps_below {B : Nat} {W W' : World} (h : Below W.heap.size W W') : KeepsFrom B W W' := ⟨h.size, fun k o _ hk _ => (h.block k (Array.getElem?_eq_some_iff.1 hk).1).trans hk⟩
set_option maxRecDepth 20000 in
set_option maxHeartbeats 4000000 in
theorem plsimple_any (n c : Nat) (ad : Option Addr) (X : Nat → Nat → Int) (w : World) (hR : Rows 2 w (.slice ad n c) n X) (hn : n ≤ 1000) (hv : VldsX n X) {v : Bool} (hd : decide (SimpleOk n X) = v) :
  Calls Tryz.prog 234 #[.slice ad n c] w fun e w' => e = .returned (.bool v) ∧ Below w.heap.size w w' := by
 have HV := Lib.hid hv
 have HR := Lib.hid hR
 have HD := Lib.hid hd
 clear hv hR hd
 refine (callsIn_wide (n := 8)).1 ?_
 refine callsIn_of_wp_marks Tryz.func234 rfl trivial ?_ rfl
 simp only [Tryz.ntmps234, List.append_toArray, List.cons_append, List.nil_append, List.size_toArray, List.length_cons, List.length_nil, Nat.reduceAdd, Nat.reduceSub, Array.replicate_succ, Array.replicate_zero, List.push_toArray]
 gi_wp2
 refine ⟨trivial, ?_⟩
 refine (callsIn_wide.2 (pledges_any n c ad _)).mono ?_
 rintro e w' ⟨rfl, rfl⟩
 gi_wp2
 generalize hW0 : (World.alloc _ _) = W0
 have hs0 : W0.heap.size = w.heap.size + 4 := by subst hW0; simp
 obtain ⟨p1, p2, p3, p4, hB0⟩ := box4 hW0.symm
 clear hW0
 refine wpIn_rangeFunc_round (F := Fence.wide) (n := 8) rfl (by omega) (gf := 353) (lb := #[.pointer (some ⟨w.heap.size + 3, 0, none⟩)]) rfl trivial (enters_of Tryz.func353 (by kernel_rfl) rfl)
  (pledges1_stops n c ad X (w.heap.size + 3) w.heap.size 7 (by omega) w W0 HR.out hn hB0 (Nat.le_refl _) (by omega) (by omega) p4)
  EdgeK.trans (edgeK_b (by omega) (by omega)) (Below.refl _ _) (fun _ => rfl)
  (fun pre W => (∀ i ∈ pre, ∀ k : Fin n, RowClear n X i.1 k.1) ∧ W.heap[w.heap.size]? = some (.cells #[.slice ad n c] 284 (0, 0)) ∧ W.heap[w.heap.size + 1]? = some (.cells #[.bool false] 4 (0, 0)) ∧ W.heap[w.heap.size + 2]? = some (.cells #[.int .i64 (n : Int)] 3 (0, 0)) ∧ EdgeK w.heap.size (w.heap.size + 3) W0 W)
  (fun c pre W => (c = .ret ∧ decide (SimpleOk n X) = false) ∧ W.heap[w.heap.size + 1]? = some (.cells #[.bool false] 4 (0, 0)) ∧ EdgeK w.heap.size (w.heap.size + 3) W0 W)
  (OwnFrom.and (ownFrom_pure _ _) (OwnFrom.and blk_own (OwnFrom.and blk_own (OwnFrom.and blk_own (edgeK_own (by omega) (by omega) (by omega) (by omega))))))
  (fun c => OwnFrom.and (ownFrom_pure _ _) (OwnFrom.and blk_own (edgeK_own (by omega) (by omega) (by omega) (by omega)))) ⟨fun i hi => by simp at hi, p1, p2, p3, EdgeK.refl _ _ _⟩ ?round ?done ?stop
 case round =>
  rintro l pre x W ⟨hpre0, q1, q2, q3, hK⟩
  have hsW := hK.below.size
  dsimp only [encE]
  gi_wp2
  generalize hWb : (World.alloc _ _) = Wb
  obtain ⟨b1, b2, hbl⟩ := box2 hWb.symm
  have hsb : Wb.heap.size = W.heap.size + 2 := by subst hWb; simp
  have hke : KeepsOthers W Wb := by subst hWb; exact (KeepsOthers.alloc _ _).trans (KeepsOthers.alloc _ _)
  clear hWb
  refine ⟨hke.from _, EdgeK.of_below hbl (by omega) (by omega), ⟨hpre0, block_later hbl q1, block_later hbl q2, block_later hbl q3, hK.trans (EdgeK.of_below hbl (by omega) (by omega))⟩, ?_⟩
  rintro l2 pre2 W2 hT hl2 ⟨r2, hr2⟩ ⟨hpre, u1, u2, u3, hK2⟩ hlen
  have e1 := hT.cs b1
  have e2 := hT.cs b2
  have hs2 := hK2.below.size
  have hsT := hT.size
  clear hT b1 b2 hbl hke q1 q2 q3 hK hpre0
  have s0 := cell_block u1 0
  have U2 := Lib.hid u2
  have U3 := Lib.hid u3
  have U1 := Lib.hid u1
  have E1 := Lib.hid e1
  have E2 := Lib.hid e2
  have K2 := Lib.hid hK2
  have HP := Lib.hid hpre
  have R2 := Lib.hid hr2
  clear u1 u2 u3 e1 e2 hK2 hpre hr2
  gi_wp2
  refine ⟨trivial, ?_⟩
  refine (CallsIn.inRound l2 (callsIn_wide.2 (pledges_any n c ad _))).mono ?_
  rintro e w' ⟨rfl, rfl⟩
  gi_wp2
  have hr' : (W2.alloc (.cells #[.slice ad n c] 284)).heap[l2]? = some (.loop r2) := block_alloc R2.out
  have bN := block_new W2 (.cells #[.slice ad n c] 284)
  have hbc := (Below.refl W2.heap.size W2).alloc (Nat.le_refl _) (.cells #[.slice ad n c] 284)
  have hsc : (W2.alloc (.cells #[.slice ad n c] 284)).heap.size = W2.heap.size + 1 := by simp
  have hkc := KeepsOthers.alloc W2 (.cells #[.slice ad n c] 284)
  generalize (W2.alloc (.cells #[.slice ad n c] 284)) = Wc at hr' bN hbc hsc hkc ⊢
  have hlx := x.2
  have KC := Lib.hid (K2.out.trans (EdgeK.of_below hbc (by omega) (by omega)))
  refine wpIn_rangeFunc_roundN (F := Fence.wide.inRound l2) (n := 8 - 1 - 1) (l₀ := l2) (r₀ := r2) rfl hr' (by omega) (gf := 353) (lb := #[.pointer (some ⟨W2.heap.size, 0, none⟩)]) rfl trivial (enters_of Tryz.func353 (by kernel_rfl) rfl)
   ((pledges1_stops n c ad X W2.heap.size w.heap.size (8 - 1 - 1 - 1) (by omega) w Wc HR.out hn (hB0.trans KC.out.below) (Nat.le_refl _) (by omega) (by omega) bN).inRound l2)
   EdgeK.trans (edgeK_b (by omega) (by omega)) (Below.refl _ _) (fun _ => rfl)
   (fun pre W' => (∀ k ∈ pre, RowClear n X x.1 k.1) ∧ W'.heap[w.heap.size]? = some (.cells #[.slice ad n c] 284 (0, 0)) ∧ W'.heap[w.heap.size + 1]? = some (.cells #[.bool false] 4 (0, 0)) ∧ W'.heap[w.heap.size + 2]? = some (.cells #[.int .i64 (n : Int)] 3 (0, 0))
    ∧ W'.heap[W.heap.size]? = some (.cells #[.int .i64 (x.1 : Int)] 3 (0, 0)) ∧ W'.heap[W.heap.size + 1]? = some (.cells #[.int .i64 (X x 0), .int .i64 (X x 1), .int .i64 (X (nxt n x) 0), .int .i64 (X (nxt n x) 1)] 314 (0, 0)) ∧ EdgeK w.heap.size (w.heap.size + 3) Wc W' ∧ KeepsFrom W0.heap.size Wc W')
   (fun c pre W' => (c = .ret ∧ decide (SimpleOk n X) = false) ∧ W'.heap[w.heap.size + 1]? = some (.cells #[.bool false] 4 (0, 0)) ∧ EdgeK w.heap.size (w.heap.size + 3) Wc W' ∧ KeepsFrom W0.heap.size Wc W')
   (OwnFrom.and (ownFrom_pure _ _) (OwnFrom.and blk_own (OwnFrom.and blk_own (OwnFrom.and blk_own (OwnFrom.and blk_own (OwnFrom.and blk_own (OwnFrom.and (edgeK_own (by omega) (by omega) (by omega) (by omega)) (ownFrom_keepsFrom (Nat.le_refl _)))))))))
   (fun c => OwnFrom.and (ownFrom_pure _ _) (OwnFrom.and blk_own (OwnFrom.and (edgeK_own (by omega) (by omega) (by omega) (by omega)) (ownFrom_keepsFrom (Nat.le_refl _)))))
   ⟨fun k hk => by simp at hk, block_later hbc U1.out, block_later hbc U2.out, block_later hbc U3.out, block_later hbc E1.out, block_later hbc E2.out, EdgeK.refl _ _ _, KeepsFrom.refl _ _⟩ ?round2 ?done2 ?stop2
  case round2 =>
   rintro l3 pre3 y W3 ⟨hq, v1, v2, v3, v4, v5, hK3, hF3⟩
   have hs3 := hK3.below.size
   dsimp only [encE]
   gi_wp2
   have hb3 := (Below.refl W3.heap.size W3).alloc (Nat.le_refl _) (.cells #[.int .i64 (X y 0), .int .i64 (X y 1), .int .i64 (X (nxt n y) 0), .int .i64 (X (nxt n y) 1)] 314)
   refine ⟨(KeepsOthers.alloc _ _).from _, EdgeK.of_below hb3 (by omega) (by omega), ⟨hq, block_later hb3 v1, block_later hb3 v2, block_later hb3 v3, block_later hb3 v4, block_later hb3 v5, hK3.trans (EdgeK.of_below hb3 (by omega) (by omega)), hF3.trans ((KeepsOthers.alloc _ _).from _)⟩, ?_⟩
   rintro l4 pre4 W4 hT4 hl4 _ ⟨hq4, x1, x2, x3, x4, x5, hK4, hF4⟩ hlen4
   have hs4 := hK4.below.size
   have f := hT4.cs (block_new W3 (.cells #[.int .i64 (X y 0), .int .i64 (X y 1), .int .i64 (X (nxt n y) 0), .int .i64 (X (nxt n y) 1)] 314))
   have f0 := cell_block f 0
   have f1 := cell_block f 1
   have f2 := cell_block f 2
   have f3 := cell_block f 3
   have g0 := cell_block x5 0
   have g1 := cell_block x5 1
   have g2 := cell_block x5 2
   have g3 := cell_block x5 3
   have i0 := cell_block x4 0
   have n0 := cell_block x3 0
   have z0 := free_block x2 0
   have z1 := cell_block x2 0
   clear hb3 hT4 f hq v1 v2 v3 v4 v5 hK3 hF3
   have hly := y.2
   have keep : RowClear n X x.1 y.1 → ∀ W5, Below W4.heap.size W4 W5 → KeepsFrom Wc.heap.size W4 W5 ∧ EdgeK w.heap.size W2.heap.size W4 W5 ∧ (∀ k ∈ pre4 ++ [y], RowClear n X x.1 k.1) ∧ W5.heap[w.heap.size]? = some (.cells #[.slice ad n c] 284 (0, 0)) ∧ W5.heap[w.heap.size + 1]? = some (.cells #[.bool false] 4 (0, 0)) ∧ W5.heap[w.heap.size + 2]? = some (.cells #[.int .i64 (n : Int)] 3 (0, 0))
    ∧ W5.heap[W.heap.size]? = some (.cells #[.int .i64 (x.1 : Int)] 3 (0, 0)) ∧ W5.heap[W.heap.size + 1]? = some (.cells #[.int .i64 (X x 0), .int .i64 (X x 1), .int .i64 (X (nxt n x) 0), .int .i64 (X (nxt n x) 1)] 314 (0, 0)) ∧ EdgeK w.heap.size (w.heap.size + 3) Wc W5 ∧ KeepsFrom W0.heap.size Wc W5 := fun hc W5 h5 =>
    ⟨keeps_below h5, EdgeK.of_below h5 (by omega) (by omega), fun k hk => by
     rcases List.mem_append.1 hk with h | h
     · exact hq4 k h
     · obtain rfl : k = y := by simpa using h
       exact hc, block_later h5 x1, block_later h5 x2, block_later h5 x3, block_later h5 x4, block_later h5 x5, hK4.trans (EdgeK.of_below h5 (by omega) (by omega)), hF4.trans (keeps_below h5)⟩
   have KEEP := Lib.hid keep
   have X2 := Lib.hid x2
   have K4 := Lib.hid hK4
   have F4 := Lib.hid hF4
   clear keep hq4 x1 x2 x3 x4 x5 hK4 hF4
   by_cases c1 : (y.1 : Int) ≤ (x.1 : Int) + 1
   · gi_wp2
     exact KEEP.out (fun h => by have := h.1; omega) _ (Below.refl _ _)
   have c1' : decide ((y.1 : Int) ≤ (x.1 : Int) + 1) = false := by simpa using c1
   have c0 : (x.1 : Int) + 1 < (y.1 : Int) := by omega
   clear c1
   obtain ⟨v2, hv2⟩ : ∃ v2, meetX n X x.1 y.1 = v2 := ⟨_, rfl⟩
   have V2 := Lib.hid hv2
   have V2' := Lib.hid (show meetB (X x.1 0) (X x.1 1) (X (nxt n x.1) 0) (X (nxt n x.1) 1) (X y.1 0) (X y.1 1) (X (nxt n y.1) 0) (X (nxt n y.1) 1) = v2 from hv2)
   clear hv2
   have Z0 := Lib.hid (fun W5 (h : Below W4.heap.size W4 W5) => free_block (block_later h X2.out) 0)
   have Z1 := Lib.hid (fun W5 (h : Below W4.heap.size W4 W5) => cell_block (block_later h X2.out) 0)
   clear z0 z1
   by_cases c2 : x.1 = 0
   · have c2' : ((x.1 : Int) == 0) = true := by simp [c2]
     by_cases c3 : y.1 + 1 = n
     · have c3' : ((y.1 : Int) == (n : Int) - 1) = true := by simp; omega
       have C23 := Lib.hid (And.intro c2 c3)
       clear c2 c3
       gi_wp2
       exact KEEP.out (fun h => absurd C23.out h.2) _ (Below.refl _ _)
     · have c3' : ((y.1 : Int) == (n : Int) - 1) = false := by simp; omega
       have HF := Lib.hid (show FarApart n x.1 y.1 from ⟨by omega, fun h => c3 h.2⟩)
       clear c2 c3
       gi_wp2
       refine ⟨trivial, ?_⟩
       refine (CallsIn.inRound l4 (callsIn_wide.2 (Meet_yes _ _ _ _ _ _ _ _ _ (HV.out x.1 hlx) (HV.out _ (nxt_lt hlx)) (HV.out y.1 hly) (HV.out _ (nxt_lt hly)) V2'.out))).mono ?_
       rintro e w5 ⟨rfl, hb5⟩
       have z0 := Z0.out w5 hb5
       have z1 := Z1.out w5 hb5
       cases v2
       · gi_wp2
         exact KEEP.out (fun _ => V2.out) _ hb5
       · gi_wp2
         exact ⟨(keeps_below hb5).trans ((KeepsOthers.setCell _ _ _).from _), ⟨rfl, simple_no HF.out V2.out⟩, block_set (block_later hb5 X2.out) _, (K4.out.trans (EdgeK.of_below hb5 (by omega) (by omega))).trans (EdgeK.set _ _ _ (by omega) (by omega)), (F4.out.trans (keeps_below hb5)).trans ((KeepsOthers.setCell _ _ _).from _)⟩
   · have c2' : ((x.1 : Int) == 0) = false := by simp; omega
     have HF := Lib.hid (show FarApart n x.1 y.1 from ⟨by omega, fun h => c2 h.1⟩)
     clear c2
     gi_wp2
     refine ⟨trivial, ?_⟩
     refine (CallsIn.inRound l4 (callsIn_wide.2 (Meet_yes _ _ _ _ _ _ _ _ _ (HV.out x.1 hlx) (HV.out _ (nxt_lt hlx)) (HV.out y.1 hly) (HV.out _ (nxt_lt hly)) V2'.out))).mono ?_
     rintro e w5 ⟨rfl, hb5⟩
     have z0 := Z0.out w5 hb5
     have z1 := Z1.out w5 hb5
     cases v2
     · gi_wp2
       exact KEEP.out (fun _ => V2.out) _ hb5
     · gi_wp2
       exact ⟨(keeps_below hb5).trans ((KeepsOthers.setCell _ _ _).from _), ⟨rfl, simple_no HF.out V2.out⟩, block_set (block_later hb5 X2.out) _, (K4.out.trans (EdgeK.of_below hb5 (by omega) (by omega))).trans (EdgeK.set _ _ _ (by omega) (by omega)), (F4.out.trans (keeps_below hb5)).trans ((KeepsOthers.setCell _ _ _).from _)⟩
  case done2 =>
   rintro xs W5 rfl ⟨hq, v1, v2, v3, v4, v5, hK5, hF5⟩
   gi_wp2
   exact ⟨(hkc.from _).trans hF5, (EdgeK.of_below hbc (by omega) (by omega)).trans hK5, fun i hi => by
    rcases List.mem_append.1 hi with h | h
    · exact HP.out i h
    · obtain rfl : i = x := by simpa using h
      exact fun k => hq k (List.mem_finRange _), v1, v2, v3, KC.out.trans hK5⟩
  case stop2 =>
   rintro c pre3 W5 hpre ⟨⟨rfl, hds⟩, v2, hK5, hF5⟩
   gi_wp2
   exact ⟨(hkc.from _).trans hF5, ⟨rfl, hds⟩, v2, KC.out.trans hK5⟩
 case done =>
  rintro D xs W hD rfl ⟨hq, q1, q2, q3, hK⟩ hdef
  have s0 := cell_block q2 0
  have s1 := free_block q2 0
  have HDF := Lib.hid hdef
  have Q2 := Lib.hid q2
  have K := Lib.hid hK
  have HQ := Lib.hid hq
  clear q1 q2 q3 hdef hK hq
  gi_wp2
  have hK' := (KeepsOthers.setCell W ⟨w.heap.size + 1, 0, none⟩ (.bool true)).same D _ HDF.out rfl
  refine ⟨by simp, .inl ⟨_, _, rfl, run_takeDeferred hK', ?_⟩⟩
  have hc5 := cell_block ((World.putObj_heap_other (w := W.setCell ⟨w.heap.size + 1, 0, none⟩ (.bool true)) (r := D) (show w.heap.size + 1 ≠ D by omega) (o := .deferred none)).trans (block_set Q2.out (.bool true))) 0
  refine ⟨.bool true, ?_, by rw [← HD.out, simple_yes HQ.out], hB0.trans ((K.out.below.setCell (p := ⟨w.heap.size + 1, 0, none⟩) (by simp) _).trans (belowK_b (w := w) (Nat.le_refl _) _ D _ _ (by omega) hK' rfl rfl))⟩
  simp [results, Tryz.results234, go_sem, hc5]
 case stop =>
  rintro D c pre W hD hpre ⟨⟨rfl, hds⟩, q2, hK⟩ hdef
  have HDF := Lib.hid hdef
  gi_wp2
  refine ⟨by simp, .inl ⟨_, _, rfl, run_takeDeferred HDF.out, ?_⟩⟩
  have hc5 := cell_block ((World.putObj_heap_other (w := W) (r := D) (show w.heap.size + 1 ≠ D by omega) (o := .deferred none)).trans q2) 0
  refine ⟨.bool false, ?_, by rw [← HD.out, hds], hB0.trans (hK.below.trans (belowK_b (w := w) (Nat.le_refl _) W D _ _ (by omega) HDF.out rfl rfl))⟩
  simp [results, Tryz.results234, go_sem, hc5]
end Go.Proofs.YtdmegkkifiahdaaGreat
namespace Go.Proofs.YtdmegkkifiahdaaGreat
open Go.RowKit Go.Sort
def bring {α : Type} : Nat → List α → List α
 | 0, l => l
 | _ + 1, [] => []
 | n + 1, x :: l => match bring n l with
   | [] => [x]
   | y :: r => y :: x :: r
theorem bring_map {α β : Type} (f : α → β) : ∀ (n : Nat) (l : List α), bring n (l.map f) = (bring n l).map f
 | 0, _ => rfl
 | _ + 1, [] => rfl
 | n + 1, x :: l => by
   simp only [List.map_cons, bring, bring_map f n l]
   cases bring n l <;> rfl
section
variable {P : Program} {ops : Array Oper} {md : Region.Mode} {W : World} {Q : Exit → Act → World → Prop}
def sqUpon (w : World) (v : Value) : Result Next → Prop
 | .ok (.value u) w' => w' = w ∧ u = v
 | _ => False
def sqAll (P : Program) (W : World) (s : Sem Next) (v : Value) : Prop := ∀ p : Regrown, sqUpon (grow (redrawn W p.d) p.os) v (s.run P (grow (redrawn W p.d) p.os))
def sqOp (P : Program) (o : Oper) (a : Act) (W : World) (next : Act → Prop) : Prop := ∃ v, sqAll P W (execOp a.eval o) v ∧ next (a.put o.dst v)
inductive Plan where
 | done
 | take (b : Nat) (rest : Plan)
 | only (b : Nat) (rest : Plan)
 | two (b1 : Nat) (p1 : Plan) (b2 : Nat) (p2 : Plan)
 | three (b1 : Nat) (p1 : Plan) (b2 : Nat) (p2 : Plan) (b3 : Nat) (p3 : Plan)
def Plan.size : Plan → Nat
 | .done => 0
 | .take _ r => r.size + 1
 | .only _ r => r.size + 1
 | .two _ r _ _ => r.size + 1
 | .three _ r _ _ _ _ => r.size + 1
def planB (md : Region.Mode) (ops : Array Oper) : Plan → List Nat → Array Bool → Bool
 | .done, _, listed => decide (Region.ready md ops listed = [])
 | .take b p, is, listed => match bring b is with
   | [] => false
   | i :: rest => Region.free md ops listed i && (Region.ready md ops listed).contains i && planB md ops p rest (listed.setIfInBounds i true)
 | .only b p, is, listed => match bring b is with
   | [] => false
   | i :: rest => decide (Region.ready md ops listed = [i]) && planB md ops p rest (listed.setIfInBounds i true)
 | .two b1 p1 b2 p2, is, listed => match bring b1 is, bring b2 is with
   | i1 :: r1, i2 :: r2 => decide (Region.ready md ops listed = [i1, i2]) && decide (p1.size = p2.size) && planB md ops p1 r1 (listed.setIfInBounds i1 true) && planB md ops p2 r2 (listed.setIfInBounds i2 true)
   | _, _ => false
 | .three b1 p1 b2 p2 b3 p3, is, listed => match bring b1 is, bring b2 is, bring b3 is with
   | i1 :: r1, i2 :: r2, i3 :: r3 => decide (Region.ready md ops listed = [i1, i2, i3]) && decide (p1.size = p2.size ∧ p1.size = p3.size) && planB md ops p1 r1 (listed.setIfInBounds i1 true) && planB md ops p2 r2 (listed.setIfInBounds i2 true) && planB md ops p3 r3 (listed.setIfInBounds i3 true)
   | _, _, _ => false
def wpOnly (P : Program) (ops : Array Oper) (W : World) (Q : Exit → Act → World → Prop) (K : List Oper → Act → World → Prop) (l : List Oper) (a : Act) (w : World) : Prop :=
 match l with
 | [] => False
 | o :: rest => if Region.wanted o (yielded ops a.tmps) then Oper.wp P o a w (fun a' w' => Below W.heap.size W w' ∧ K rest a' w') Q else K rest (a.put o.dst undef) w
def wpPlan (P : Program) (ops : Array Oper) (W : World) (Q : Exit → Act → World → Prop) : Plan → List Oper → Act → World → Prop
 | .done, _, a, w => Q .normal a w
 | .take b p, l, a, w => match bring b l with
   | [] => False
   | o :: rest => if Region.wanted o (yielded ops a.tmps) then sqOp P o a W (fun a' => wpPlan P ops W Q p rest a' w) else wpPlan P ops W Q p rest (a.put o.dst undef) w
 | .only b p, l, a, w => wpOnly P ops W Q (wpPlan P ops W Q p) (bring b l) a w
 | .two b1 p1 b2 p2, l, a, w => wpOnly P ops W Q (wpPlan P ops W Q p1) (bring b1 l) a w ∧ wpOnly P ops W Q (wpPlan P ops W Q p2) (bring b2 l) a w
 | .three b1 p1 b2 p2 b3 p3, l, a, w => wpOnly P ops W Q (wpPlan P ops W Q p1) (bring b1 l) a w ∧ wpOnly P ops W Q (wpPlan P ops W Q p2) (bring b2 l) a w ∧ wpOnly P ops W Q (wpPlan P ops W Q p3) (bring b3 l) a w
theorem wpPlan_done {l : List Oper} {a : Act} {w : World} (h : Q .normal a w) : wpPlan P ops W (NoPanic Q) .done l a w := h
theorem wpPlan_take {b : Nat} {p : Plan} {l rest : List Oper} {o : Oper} {a : Act} {w : World} (hb : bring b l = o :: rest)
  (h : ∀ K : Act → Prop, (∀ a, wpPlan P ops W Q p rest a w → K a) → if Region.wanted o (yielded ops a.tmps) then sqOp P o a W K else K (a.put o.dst undef)) : wpPlan P ops W Q (.take b p) l a w := by
 unfold wpPlan
 rw [hb]
 exact h _ (fun _ h => h)
theorem wpPlan_only {b : Nat} {p : Plan} {l rest : List Oper} {o : Oper} {a : Act} {w : World} (hb : bring b l = o :: rest)
  (h : ∀ K : Act → World → Prop, (∀ a w, Below W.heap.size W w → (Below W.heap.size W w → wpPlan P ops W Q p rest a w) → K a w) → if Region.wanted o (yielded ops a.tmps) = true then Oper.wp P o a w K Q else K (a.put o.dst undef) w) : wpPlan P ops W Q (.only b p) l a w := by
 unfold wpPlan wpOnly
 rw [hb]
 have := h (fun a' w' => Below W.heap.size W w' ∧ wpPlan P ops W Q p rest a' w') (fun a w h1 h2 => ⟨h1, h2 h1⟩)
 show if _ then _ else _
 split
 · rename_i hw'; rw [if_pos hw'] at this; exact this
 · rename_i hw'; rw [if_neg hw'] at this; exact this.2
theorem wpPlan_two {b1 b2 : Nat} {p1 p2 : Plan} {l : List Oper} {a : Act} {w : World} (h1 : wpPlan P ops W Q (.only b1 p1) l a w) (h2 : wpPlan P ops W Q (.only b2 p2) l a w) : wpPlan P ops W Q (.two b1 p1 b2 p2) l a w := ⟨h1, h2⟩
theorem wpPlan_three {b1 b2 b3 : Nat} {p1 p2 p3 : Plan} {l : List Oper} {a : Act} {w : World} (h1 : wpPlan P ops W Q (.only b1 p1) l a w) (h2 : wpPlan P ops W Q (.only b2 p2) l a w) (h3 : wpPlan P ops W Q (.only b3 p3) l a w) : wpPlan P ops W Q (.three b1 p1 b2 p2 b3 p3) l a w := ⟨h1, h2, h3⟩
theorem yieldsIf_of_sq {o : Oper} {v : Value} {a : Act} (hw : Region.wanted o (yielded ops a.tmps) = true) (h : sqAll P W (execOp a.eval o) v) : YieldsIf P ops (Below W.heap.size W) o v a :=
 .inl ⟨hw, fun w' hb => by
  obtain ⟨p, rfl⟩ := regrown_of_below hb
  have h1 := h p
  generalize (execOp a.eval o).run P (grow (redrawn W p.d) p.os) = r at *
  cases r with
  | halt x w' => exact h1.elim
  | ok x w' =>
    cases x with
    | value u => obtain ⟨rfl, rfl⟩ := h1; rfl
    | _ => exact h1.elim⟩
theorem bring_some {b i : Nat} {is is' : List Nat} {l : List Oper} (hl : l.map some = is.map (fun i => ops[i]?)) (hi : bring b is = i :: is') : ∃ o rest, bring b l = o :: rest ∧ ops[i]? = some o ∧ rest.map some = is'.map (fun i => ops[i]?) := by
 have e := bring_map some b l
 rw [hl, bring_map, hi] at e
 cases ho : bring b l with
 | nil => rw [ho] at e; cases e
 | cons o rest =>
   rw [ho] at e
   simp only [List.map_cons, List.cons.injEq] at e
   exact ⟨o, rest, rfl, e.1, e.2.symm⟩
theorem wpOp_of_only {i b n : Nat} {is is' : List Nat} {l : List Oper} {p : Plan} {listed : Array Bool} {a : Act} {w : World} (hl : l.map some = is.map (fun i => ops[i]?)) (hi : bring b is = i :: is') (hw : Below W.heap.size W w)
  (IH : ∀ (l' : List Oper) (a' : Act) (w' : World), l'.map some = is'.map (fun i => ops[i]?) → Below W.heap.size W w' → wpPlan P ops W Q p l' a' w' → wpAnyH P md ops Q (Below W.heap.size W) n (listed.setIfInBounds i true) a' w')
  (h : wpOnly P ops W Q (wpPlan P ops W Q p) (bring b l) a w) :
  wpOp P ops Q i (fun a' w' => Below W.heap.size W w' ∧ wpAnyH P md ops Q (Below W.heap.size W) n (listed.setIfInBounds i true) a' w') a w := by
 obtain ⟨o, rest, e0, e1, e2⟩ := bring_some hl hi
 rw [e0] at h
 unfold wpOnly at h
 refine wpOp_step e1 (fun K' hK => ?_)
 by_cases hwt : Region.wanted o (yielded ops a.tmps) = true
 · rw [if_pos hwt]
   simp only [hwt, if_true] at h
   exact Oper.wp_mono (fun a' w' h' => hK a' w' ⟨h'.1, IH _ _ _ e2 h'.1 h'.2⟩) h
 · rw [if_neg hwt]
   simp only [hwt] at h
   exact hK _ _ ⟨hw, IH _ _ _ e2 hw h⟩
theorem anyH_of_plan (hs : Region.noSelect ops = true) (hQ : ∀ c a d v w, Q (.panic c) (a.put d v) w → Q (.panic c) a w) (k : Nat) : ∀ (p : Plan) (is : List Nat) (l : List Oper) (listed : Array Bool) (a : Act) (w : World),
  l.map some = is.map (fun i => ops[i]?) → planB md ops p is listed = true → Below W.heap.size W w → wpPlan P ops W Q p l a w → wpAnyH P md ops Q (Below W.heap.size W) (p.size + k) listed a w
 | .done, is, l, listed, a, w, _, hB, _, h => wpAnyH_done (by simpa [planB] using hB) h _
 | .take b p, is, l, listed, a, w, hl, hB, hw, h => by
   unfold planB at hB
   unfold wpPlan at h
   rw [show (Plan.take b p).size + k = (p.size + k) + 1 by simp only [Plan.size]; omega]
   split at hB
   · cases hB
   · rename_i i is' hi
     obtain ⟨o, rest, e0, e1, e2⟩ := bring_some hl hi
     rw [e0] at h
     simp only [Bool.and_eq_true] at hB
     obtain ⟨⟨hB1, hB2⟩, hB3⟩ := hB
     have IH := fun a' w' hw' h' => anyH_of_plan hs hQ k p is' rest (listed.setIfInBounds i true) a' w' e2 hB3 hw' h'
     by_cases hwt : Region.wanted o (yielded ops a.tmps) = true
     · simp only [hwt, if_true] at h
       obtain ⟨v, h1, h2⟩ := h
       exact wpAnyH_take e1 hs hB1 hB2 (fun c a w => hQ c a _ _ w) (yieldsIf_of_sq hwt h1) hw (IH _ _ hw h2)
     · simp only [hwt] at h
       exact wpAnyH_take (v := undef) e1 hs hB1 hB2 (fun c a w => hQ c a _ _ w) (.inr ⟨by simpa using hwt, rfl⟩) hw (IH _ _ hw h)
 | .only b p, is, l, listed, a, w, hl, hB, hw, h => by
   unfold planB at hB
   unfold wpPlan at h
   rw [show (Plan.only b p).size + k = (p.size + k) + 1 by simp only [Plan.size]; omega]
   split at hB
   · cases hB
   · rename_i i is' hi
     simp only [Bool.and_eq_true] at hB
     refine wpAnyH_all (rs := [i]) (of_decide_eq_true hB.1) (by simp) (fun j hj => ?_)
     obtain rfl : j = i := by simpa using hj
     exact wpOp_of_only hl hi hw (fun l' a' w' e hw' h' => anyH_of_plan hs hQ k p is' l' _ a' w' e hB.2 hw' h') h
 | .two b1 p1 b2 p2, is, l, listed, a, w, hl, hB, hw, h => by
   unfold planB at hB
   unfold wpPlan at h
   rw [show (Plan.two b1 p1 b2 p2).size + k = (p1.size + k) + 1 by simp only [Plan.size]; omega]
   split at hB
   · rename_i i1 r1 i2 r2 hi1 hi2
     simp only [Bool.and_eq_true] at hB
     obtain ⟨⟨⟨hr, hsz⟩, hB1⟩, hB2⟩ := hB
     have hsz := of_decide_eq_true hsz
     refine wpAnyH_all (rs := [i1, i2]) (of_decide_eq_true hr) (by simp) (fun j hj => ?_)
     simp only [List.mem_cons, List.not_mem_nil, or_false] at hj
     rcases hj with rfl | rfl
     · exact wpOp_of_only hl hi1 hw (fun l' a' w' e hw' h' => anyH_of_plan hs hQ k p1 r1 l' _ a' w' e hB1 hw' h') h.1
     · exact wpOp_of_only hl hi2 hw (fun l' a' w' e hw' h' => by rw [hsz]; exact anyH_of_plan hs hQ k p2 r2 l' _ a' w' e hB2 hw' h') h.2
   · cases hB
 | .three b1 p1 b2 p2 b3 p3, is, l, listed, a, w, hl, hB, hw, h => by
   unfold planB at hB
   unfold wpPlan at h
   rw [show (Plan.three b1 p1 b2 p2 b3 p3).size + k = (p1.size + k) + 1 by simp only [Plan.size]; omega]
   split at hB
   · rename_i i1 r1 i2 r2 i3 r3 hi1 hi2 hi3
     simp only [Bool.and_eq_true] at hB
     obtain ⟨⟨⟨⟨hr, hsz⟩, hB1⟩, hB2⟩, hB3⟩ := hB
     have hsz := of_decide_eq_true hsz
     refine wpAnyH_all (rs := [i1, i2, i3]) (of_decide_eq_true hr) (by simp) (fun j hj => ?_)
     simp only [List.mem_cons, List.not_mem_nil, or_false] at hj
     rcases hj with rfl | rfl | rfl
     · exact wpOp_of_only hl hi1 hw (fun l' a' w' e hw' h' => anyH_of_plan hs hQ k p1 r1 l' _ a' w' e hB1 hw' h') h.1
     · exact wpOp_of_only hl hi2 hw (fun l' a' w' e hw' h' => by rw [hsz.1]; exact anyH_of_plan hs hQ k p2 r2 l' _ a' w' e hB2 hw' h') h.2.1
     · exact wpOp_of_only hl hi3 hw (fun l' a' w' e hw' h' => by rw [hsz.2]; exact anyH_of_plan hs hQ k p3 r3 l' _ a' w' e hB3 hw' h') h.2.2
   · cases hB
theorem wp_region_plan {id : Nat} {a : Act} {l : List Oper} (p : Plan) (hm : P.follows .mixedOrders = true)
  (hB : (Region.noSelect l.toArray && planB .any l.toArray p (List.range l.length) (Array.replicate l.length false) && decide (p.size ≤ l.length)) = true)
  (h : Below W.heap.size W W.drew → wpPlan P l.toArray W (NoPanic Q) p l a W.drew) : (Code.region id l.toArray true).wp P Q a W := by
 simp only [Bool.and_eq_true, decide_eq_true_eq] at hB
 obtain ⟨⟨hs, hB⟩, hlen⟩ := hB
 refine wp_region_noPanic (wp_region_held (S := Below W.heap.size W) hm ?_)
 have := anyH_of_plan (md := .any) (Q := NoPanic Q) hs (fun _ _ _ _ _ h => h) (l.length - p.size) p (List.range l.length) l (Array.replicate l.length false) a W.drew (by
  apply List.ext_getElem?
  intro n
  by_cases hn : n < l.length
  · simp [hn]
  · simp [Nat.not_lt.1 hn]) hB (Below.refl _ _).drew (h (Below.refl _ _).drew)
 rw [show p.size + (l.length - p.size) = l.toArray.size by simp; omega] at this
 simpa using this
end
end Go.Proofs.YtdmegkkifiahdaaGreat
namespace Go.Proofs.YtdmegkkifiahdaaGreat
open Go.RowKit Go.Shelf
section
variable {P : Program} {ops : Array Oper} {md : Region.Mode} {l n : Nat}
end
end Go.Proofs.YtdmegkkifiahdaaGreat
namespace Go.Proofs.YtdmegkkifiahdaaGreat
open Go.RowKit Go.Sort Go.Shelf
end Go.Proofs.YtdmegkkifiahdaaGreat
namespace Go.Proofs.YtdmegkkifiahdaaGreat
open Go.RowKit Go.Sort Go.Shelf
section
variable {P : Program} {ops : Array Oper} {md : Region.Mode} {S : World → Prop} {Q : Exit → Act → World → Prop}
def ssAll (P : Program) (S : World → Prop) (s : Sem Next) (v : Value) : Prop := ∀ w, S w → sqUpon w v (s.run P w)
def ssOp (P : Program) (o : Oper) (a : Act) (S : World → Prop) (next : Act → Prop) : Prop := ∃ v, ssAll P S (execOp a.eval o) v ∧ next (a.put o.dst v)
def wsOnly (P : Program) (ops : Array Oper) (S : World → Prop) (Q : Exit → Act → World → Prop) (K : List Oper → Act → World → Prop) (l : List Oper) (a : Act) (w : World) : Prop :=
 match l with
 | [] => False
 | o :: rest => if Region.wanted o (yielded ops a.tmps) then Oper.wp P o a w (fun a' w' => S w' ∧ K rest a' w') Q else K rest (a.put o.dst undef) w
def wsPlan (P : Program) (ops : Array Oper) (S : World → Prop) (Q : Exit → Act → World → Prop) : Plan → List Oper → Act → World → Prop
 | .done, _, a, w => Q .normal a w
 | .take b p, l, a, w => match bring b l with
   | [] => False
   | o :: rest => if Region.wanted o (yielded ops a.tmps) then ssOp P o a S (fun a' => wsPlan P ops S Q p rest a' w) else wsPlan P ops S Q p rest (a.put o.dst undef) w
 | .only b p, l, a, w => wsOnly P ops S Q (wsPlan P ops S Q p) (bring b l) a w
 | .two b1 p1 b2 p2, l, a, w => wsOnly P ops S Q (wsPlan P ops S Q p1) (bring b1 l) a w ∧ wsOnly P ops S Q (wsPlan P ops S Q p2) (bring b2 l) a w
 | .three b1 p1 b2 p2 b3 p3, l, a, w => wsOnly P ops S Q (wsPlan P ops S Q p1) (bring b1 l) a w ∧ wsOnly P ops S Q (wsPlan P ops S Q p2) (bring b2 l) a w ∧ wsOnly P ops S Q (wsPlan P ops S Q p3) (bring b3 l) a w
theorem wsPlan_done {l : List Oper} {a : Act} {w : World} (h : Q .normal a w) : wsPlan P ops S (NoPanic Q) .done l a w := h
theorem wsPlan_take {b : Nat} {p : Plan} {l rest : List Oper} {o : Oper} {a : Act} {w : World} (hb : bring b l = o :: rest)
  (h : ∀ K : Act → Prop, (∀ a, wsPlan P ops S Q p rest a w → K a) → if Region.wanted o (yielded ops a.tmps) then ssOp P o a S K else K (a.put o.dst undef)) : wsPlan P ops S Q (.take b p) l a w := by
 unfold wsPlan
 rw [hb]
 exact h _ (fun _ h => h)
theorem wsPlan_only {b : Nat} {p : Plan} {l rest : List Oper} {o : Oper} {a : Act} {w : World} (hb : bring b l = o :: rest)
  (h : ∀ K : Act → World → Prop, (∀ a w, S w → (S w → wsPlan P ops S Q p rest a w) → K a w) → if Region.wanted o (yielded ops a.tmps) = true then Oper.wp P o a w K Q else K (a.put o.dst undef) w) : wsPlan P ops S Q (.only b p) l a w := by
 unfold wsPlan wsOnly
 rw [hb]
 have := h (fun a' w' => S w' ∧ wsPlan P ops S Q p rest a' w') (fun a w h1 h2 => ⟨h1, h2 h1⟩)
 show if _ then _ else _
 split
 · rename_i hw'; rw [if_pos hw'] at this; exact this
 · rename_i hw'; rw [if_neg hw'] at this; exact this.2
theorem wsPlan_two {b1 b2 : Nat} {p1 p2 : Plan} {l : List Oper} {a : Act} {w : World} (h1 : wsPlan P ops S Q (.only b1 p1) l a w) (h2 : wsPlan P ops S Q (.only b2 p2) l a w) : wsPlan P ops S Q (.two b1 p1 b2 p2) l a w := ⟨h1, h2⟩
theorem yieldsIf_of_ss {o : Oper} {v : Value} {a : Act} (hw : Region.wanted o (yielded ops a.tmps) = true) (h : ssAll P S (execOp a.eval o) v) : YieldsIf P ops S o v a :=
 .inl ⟨hw, fun w' hb => by
  have h1 := h w' hb
  generalize (execOp a.eval o).run P w' = r at *
  cases r with
  | halt x w' => exact h1.elim
  | ok x w' =>
    cases x with
    | value u => obtain ⟨rfl, rfl⟩ := h1; rfl
    | _ => exact h1.elim⟩
theorem wpOp_of_onlyS {i b n : Nat} {is is' : List Nat} {l : List Oper} {p : Plan} {listed : Array Bool} {a : Act} {w : World} (hl : l.map some = is.map (fun i => ops[i]?)) (hi : bring b is = i :: is') (hw : S w)
  (IH : ∀ (l' : List Oper) (a' : Act) (w' : World), l'.map some = is'.map (fun i => ops[i]?) → S w' → wsPlan P ops S Q p l' a' w' → wpAnyH P md ops Q S n (listed.setIfInBounds i true) a' w')
  (h : wsOnly P ops S Q (wsPlan P ops S Q p) (bring b l) a w) :
  wpOp P ops Q i (fun a' w' => S w' ∧ wpAnyH P md ops Q S n (listed.setIfInBounds i true) a' w') a w := by
 obtain ⟨o, rest, e0, e1, e2⟩ := bring_some hl hi
 rw [e0] at h
 unfold wsOnly at h
 refine wpOp_step e1 (fun K' hK => ?_)
 by_cases hwt : Region.wanted o (yielded ops a.tmps) = true
 · rw [if_pos hwt]
   simp only [hwt, if_true] at h
   exact Oper.wp_mono (fun a' w' h' => hK a' w' ⟨h'.1, IH _ _ _ e2 h'.1 h'.2⟩) h
 · rw [if_neg hwt]
   simp only [hwt] at h
   exact hK _ _ ⟨hw, IH _ _ _ e2 hw h⟩
theorem anyH_of_planS (hs : Region.noSelect ops = true) (hQ : ∀ c a d v w, Q (.panic c) (a.put d v) w → Q (.panic c) a w) (k : Nat) : ∀ (p : Plan) (is : List Nat) (l : List Oper) (listed : Array Bool) (a : Act) (w : World),
  l.map some = is.map (fun i => ops[i]?) → planB md ops p is listed = true → S w → wsPlan P ops S Q p l a w → wpAnyH P md ops Q S (p.size + k) listed a w
 | .done, is, l, listed, a, w, _, hB, _, h => wpAnyH_done (by simpa [planB] using hB) h _
 | .take b p, is, l, listed, a, w, hl, hB, hw, h => by
   unfold planB at hB
   unfold wsPlan at h
   rw [show (Plan.take b p).size + k = (p.size + k) + 1 by simp only [Plan.size]; omega]
   split at hB
   · cases hB
   · rename_i i is' hi
     obtain ⟨o, rest, e0, e1, e2⟩ := bring_some hl hi
     rw [e0] at h
     simp only [Bool.and_eq_true] at hB
     obtain ⟨⟨hB1, hB2⟩, hB3⟩ := hB
     have IH := fun a' w' hw' h' => anyH_of_planS hs hQ k p is' rest (listed.setIfInBounds i true) a' w' e2 hB3 hw' h'
     by_cases hwt : Region.wanted o (yielded ops a.tmps) = true
     · simp only [hwt, if_true] at h
       obtain ⟨v, h1, h2⟩ := h
       exact wpAnyH_take e1 hs hB1 hB2 (fun c a w => hQ c a _ _ w) (yieldsIf_of_ss hwt h1) hw (IH _ _ hw h2)
     · simp only [hwt] at h
       exact wpAnyH_take (v := undef) e1 hs hB1 hB2 (fun c a w => hQ c a _ _ w) (.inr ⟨by simpa using hwt, rfl⟩) hw (IH _ _ hw h)
 | .only b p, is, l, listed, a, w, hl, hB, hw, h => by
   unfold planB at hB
   unfold wsPlan at h
   rw [show (Plan.only b p).size + k = (p.size + k) + 1 by simp only [Plan.size]; omega]
   split at hB
   · cases hB
   · rename_i i is' hi
     simp only [Bool.and_eq_true] at hB
     refine wpAnyH_all (rs := [i]) (of_decide_eq_true hB.1) (by simp) (fun j hj => ?_)
     obtain rfl : j = i := by simpa using hj
     exact wpOp_of_onlyS hl hi hw (fun l' a' w' e hw' h' => anyH_of_planS hs hQ k p is' l' _ a' w' e hB.2 hw' h') h
 | .two b1 p1 b2 p2, is, l, listed, a, w, hl, hB, hw, h => by
   unfold planB at hB
   unfold wsPlan at h
   rw [show (Plan.two b1 p1 b2 p2).size + k = (p1.size + k) + 1 by simp only [Plan.size]; omega]
   split at hB
   · rename_i i1 r1 i2 r2 hi1 hi2
     simp only [Bool.and_eq_true] at hB
     obtain ⟨⟨⟨hr, hsz⟩, hB1⟩, hB2⟩ := hB
     have hsz := of_decide_eq_true hsz
     refine wpAnyH_all (rs := [i1, i2]) (of_decide_eq_true hr) (by simp) (fun j hj => ?_)
     simp only [List.mem_cons, List.not_mem_nil, or_false] at hj
     rcases hj with rfl | rfl
     · exact wpOp_of_onlyS hl hi1 hw (fun l' a' w' e hw' h' => anyH_of_planS hs hQ k p1 r1 l' _ a' w' e hB1 hw' h') h.1
     · exact wpOp_of_onlyS hl hi2 hw (fun l' a' w' e hw' h' => by rw [hsz]; exact anyH_of_planS hs hQ k p2 r2 l' _ a' w' e hB2 hw' h') h.2
   · cases hB
 | .three b1 p1 b2 p2 b3 p3, is, l, listed, a, w, hl, hB, hw, h => by
   unfold planB at hB
   unfold wsPlan at h
   rw [show (Plan.three b1 p1 b2 p2 b3 p3).size + k = (p1.size + k) + 1 by simp only [Plan.size]; omega]
   split at hB
   · rename_i i1 r1 i2 r2 i3 r3 hi1 hi2 hi3
     simp only [Bool.and_eq_true] at hB
     obtain ⟨⟨⟨⟨hr, hsz⟩, hB1⟩, hB2⟩, hB3⟩ := hB
     have hsz := of_decide_eq_true hsz
     refine wpAnyH_all (rs := [i1, i2, i3]) (of_decide_eq_true hr) (by simp) (fun j hj => ?_)
     simp only [List.mem_cons, List.not_mem_nil, or_false] at hj
     rcases hj with rfl | rfl | rfl
     · exact wpOp_of_onlyS hl hi1 hw (fun l' a' w' e hw' h' => anyH_of_planS hs hQ k p1 r1 l' _ a' w' e hB1 hw' h') h.1
     · exact wpOp_of_onlyS hl hi2 hw (fun l' a' w' e hw' h' => by rw [hsz.1]; exact anyH_of_planS hs hQ k p2 r2 l' _ a' w' e hB2 hw' h') h.2.1
     · exact wpOp_of_onlyS hl hi3 hw (fun l' a' w' e hw' h' => by rw [hsz.2]; exact anyH_of_planS hs hQ k p3 r3 l' _ a' w' e hB3 hw' h') h.2.2
   · cases hB
theorem wp_region_planS {id : Nat} {a : Act} {w : World} {l : List Oper} (S : World → Prop) (p : Plan) (hm : P.follows .mixedOrders = true)
  (hB : (Region.noSelect l.toArray && planB .any l.toArray p (List.range l.length) (Array.replicate l.length false) && decide (p.size ≤ l.length)) = true) (hS : S w.drew)
  (h : S w.drew → wsPlan P l.toArray S (NoPanic Q) p l a w.drew) : (Code.region id l.toArray true).wp P Q a w := by
 simp only [Bool.and_eq_true, decide_eq_true_eq] at hB
 obtain ⟨⟨hs, hB⟩, hlen⟩ := hB
 refine wp_region_noPanic (wp_region_held (S := S) hm ?_)
 have := anyH_of_planS (md := .any) (Q := NoPanic Q) hs (fun _ _ _ _ _ h => h) (l.length - p.size) p (List.range l.length) l (Array.replicate l.length false) a w.drew (by
  apply List.ext_getElem?
  intro n
  by_cases hn : n < l.length
  · simp [hn]
  · simp [Nat.not_lt.1 hn]) hB hS (h hS)
 rw [show p.size + (l.length - p.size) = l.toArray.size by simp; omega] at this
 simpa using this
end
end Go.Proofs.YtdmegkkifiahdaaGreat
