/- HullMath, HullMath2, HullMath3, CoverMath, TrPure, TrMath, TrNum: joined. -/
import Derived.Test.YtdmegkkifiahdaaGreatKB
import Derived.Test.YtdmegkkifiahdaaGreatShtPure
import Derived.Test.YtdmegkkifiahdaaGreatShtMath
import Derived.Test.YtdmegkkifiahdaaGreatPatPure
/- Plain geometry for chapter 20: half planes and parity, convex polygons, hulls. -/
namespace Go.Proofs.YtdmegkkifiahdaaGreat
set_option linter.unusedVariables false
theorem mul_nn {a b : Int} (h : 0 ≤ a) (k : 0 ≤ b) : 0 ≤ a * b := Int.mul_nonneg h k
end Go.Proofs.YtdmegkkifiahdaaGreat
/- Plain geometry for chapter 20: the chains of a hull. -/
namespace Go.Proofs.YtdmegkkifiahdaaGreat
set_option linter.unusedVariables false
abbrev Pt := Int × Int
def crsP (a b c : Pt) : Int := crs a.1 a.2 b.1 b.2 c.1 c.2
def LexLt (a b : Pt) : Prop := OrdLt a.1 a.2 b.1 b.2
theorem LexLt.trans {a b c : Pt} (h : LexLt a b) (k : LexLt b c) : LexLt a c := by
  unfold LexLt OrdLt at *
  omega
def popR (q : Pt) : List Pt → List Pt
  | s :: t :: r => if crsP t s q ≤ 0 then popR q (t :: r) else s :: t :: r
  | l => l
def halfR (l : List Pt) : List Pt := l.foldl (fun st q => q :: popR q st) []
end Go.Proofs.YtdmegkkifiahdaaGreat
/- Plain geometry for chapter 20: the hull of places has all of them on the left of its edges, or on these. -/
namespace Go.Proofs.YtdmegkkifiahdaaGreat
set_option linter.unusedVariables false
def hullL (asc : List Pt) : List Pt := (halfR asc).reverse.dropLast ++ (halfR asc.reverse).reverse.dropLast
end Go.Proofs.YtdmegkkifiahdaaGreat
/- Plain geometry for chapter 20: what is covered stays covered. -/
namespace Go.Proofs.YtdmegkkifiahdaaGreat
set_option linter.unusedVariables false
/-- A million times the coordinates of the middle of a place. -/
def atX (m : Dat) (p : Pt) : Int := m.a * p.1 + m.b * p.2 + 1000000 * m.c
def atY (m : Dat) (p : Pt) : Int := m.d * p.1 + m.e * p.2 + 1000000 * m.f
def FitsD (m : Dat) (p q : Pt) : Prop := (-(1000000 * m.r) ≤ 1000000 * q.1 - atX m p ∧ 1000000 * q.1 - atX m p ≤ 1000000 * m.r) ∧ (-(1000000 * m.r) ≤ 1000000 * q.2 - atY m p ∧ 1000000 * q.2 - atY m p ≤ 1000000 * m.r)
structure Bx where
  (lx hx ly hy : Int)
instance : DecidableEq Bx := fun a b => decidable_of_iff (a.lx = b.lx ∧ a.hx = b.hx ∧ a.ly = b.ly ∧ a.hy = b.hy) (by cases a; cases b; simp)
def dnM (n : Int) : Int := n / 1000000
def upM (n : Int) : Int := -((-n) / 1000000)
def boxOf (m : Dat) (p : Pt) : Bx := ⟨dnM (atX m p - 1000000 * m.r), upM (atX m p + 1000000 * m.r), dnM (atY m p - 1000000 * m.r), upM (atY m p + 1000000 * m.r)⟩
def cornersB (b : Bx) : List Pt := [(b.lx, b.ly), (b.lx, b.hy), (b.hx, b.ly), (b.hx, b.hy)]
end Go.Proofs.YtdmegkkifiahdaaGreat
/- Plain definitions of chapter 20: books of symbols, and what a datum makes of features. -/
namespace Go.Proofs.YtdmegkkifiahdaaGreat
set_option linter.unusedVariables false
/-- Books. -/
structure Mk where
  (sym kind cls : Int)
instance : DecidableEq Mk := fun a b => decidable_of_iff (a.sym = b.sym ∧ a.kind = b.kind ∧ a.cls = b.cls) (by cases a; cases b; simp)
def noMk : Mk := ⟨0, 0, 0⟩
structure Bk where
  office : Int
  marks : List Mk
def MkOk (m : Mk) : Prop := (0 ≤ m.sym ∧ m.sym ≤ 999) ∧ (1 ≤ m.kind ∧ m.kind ≤ 6) ∧ 0 ≤ m.cls ∧ m.cls ≤ 9
instance (m : Mk) : Decidable (MkOk m) := by unfold MkOk; exact inferInstance
def lastSym (l : List Mk) : Nat → Int
  | 0 => -1
  | i + 1 => (l.getD i noMk).sym
def MarksOk (l : List Mk) : Prop := ∀ i, i < l.length → MkOk (l.getD i noMk) ∧ lastSym l i < (l.getD i noMk).sym
instance (l : List Mk) : Decidable (MarksOk l) := by unfold MarksOk; exact inferInstance
def BkOk (b : Bk) : Prop := (1 ≤ b.office ∧ b.office ≤ 20) ∧ b.marks.length ≤ 100 ∧ MarksOk b.marks
instance (b : Bk) : Decidable (BkOk b) := by unfold BkOk; exact inferInstance
def findM (l : List Mk) (n : Int) : Option Mk := l.find? fun m => decide (m.sym = n)
/-- The first one of the least class among those that fit. -/
def bestM (m : Mk) : List Mk → Mk → Mk
  | [], b => b
  | x :: l, b => bestM m l (if x.kind = m.kind ∧ m.cls ≤ x.cls ∧ x.cls < b.cls then x else b)
def transM (l : List Mk) (m : Mk) : Option Mk := if (bestM m l ⟨0, 0, 10⟩).cls ≤ 9 then some (bestM m l ⟨0, 0, 10⟩) else none
theorem marks_up {l : List Mk} (h : MarksOk l) : l.Pairwise fun a b => a.sym < b.sym := by
  have key : ∀ j, j < l.length → ∀ i, i < j → (l.getD i noMk).sym < (l.getD j noMk).sym := by
    intro j
    induction j with
    | zero => intro _ i hi; omega
    | succ j ih =>
      intro hj i hi
      have h1 : (l.getD j noMk).sym < (l.getD (j + 1) noMk).sym := (h (j + 1) hj).2
      rcases Nat.lt_or_ge i j with h2 | h2
      · have := ih (by omega) i h2
        omega
      · obtain rfl : i = j := by omega
        exact h1
  rw [List.pairwise_iff_getElem]
  intro i j hi hj hij
  have := key j hj i hij
  rwa [List.getD_eq_getElem?_getD, List.getD_eq_getElem?_getD, List.getElem?_eq_getElem hi, List.getElem?_eq_getElem hj] at this
theorem find_mem {l : List Mk} (h : MarksOk l) {m : Mk} (hm : m ∈ l) : findM l m.sym = some m := by
  have hu := marks_up h
  unfold findM
  clear h
  induction l with
  | nil => simp at hm
  | cons x l ih =>
    have hp := List.pairwise_cons.1 hu
    rw [List.find?_cons]
    rcases List.mem_cons.1 hm with rfl | hm
    · simp
    · have := hp.1 m hm
      rw [show decide (x.sym = m.sym) = false from decide_eq_false (by omega)]
      exact ih hm hp.2
/-- The numbers of a datum. -/
def stretchD (m : Dat) : Int := dHi (max (m.a * m.a + m.d * m.d) (m.b * m.b + m.e * m.e) + max (m.a * m.b + m.d * m.e) (-(m.a * m.b + m.d * m.e)))
def WholeD (m : Dat) : Prop := m.a % 1000000 = 0 ∧ m.b % 1000000 = 0 ∧ m.d % 1000000 = 0 ∧ m.e % 1000000 = 0
instance (m : Dat) : Decidable (WholeD m) := by unfold WholeD; exact inferInstance
def resD (m : Dat) : Int := if WholeD m then m.r else m.r + 1
def slackD (m : Dat) : Int := dHi (2 * resD m * resD m)
def shrinkD (m : Dat) : Int := (m.a * m.e - m.b * m.d) / stretchD m
def BxOk (b : Bx) : Prop := (-1000000 ≤ b.lx ∧ b.lx ≤ b.hx ∧ b.hx ≤ 1000000) ∧ -1000000 ≤ b.ly ∧ b.ly ≤ b.hy ∧ b.hy ≤ 1000000
instance (b : Bx) : Decidable (BxOk b) := by unfold BxOk; exact inferInstance
def midB (b : Bx) : Pt := ((b.lx + b.hx) / 2, (b.ly + b.hy) / 2)
def grownD (m : Dat) (r : Int) : Int := (r * stretchD m + 999999) / 1000000
/-- The corners of the boxes; none: one is out of range. -/
def allD (m : Dat) (l : List Pt) : Option (List Pt) := if ∀ p ∈ l, BxOk (boxOf m p) then some (l.flatMap fun p => cornersB (boxOf m p)) else none
def joinB (a b : Bx) : Bx := ⟨min a.lx b.lx, max a.hx b.hx, min a.ly b.ly, max a.hy b.hy⟩
def joinL (m : Dat) : List Pt → Bx
  | [] => ⟨0, 0, 0, 0⟩
  | p :: l => l.foldl (fun b q => joinB b (boxOf m q)) (boxOf m p)
def rectB (b : Bx) : Option (List Pt) := if b.lx = b.hx ∨ b.ly = b.hy then none else some [(b.lx, b.ly), (b.hx, b.ly), (b.hx, b.hy), (b.lx, b.hy)]
def lePt (a b : Pt) : Bool := decide (a.1 < b.1 ∨ a.1 = b.1 ∧ a.2 ≤ b.2)
def onceP : List Pt → List Pt
  | a :: b :: r => if a = b then onceP (b :: r) else a :: onceP (b :: r)
  | l => l
def ascL (l : List Pt) : List Pt := onceP (l.mergeSort lePt)
/-- The hull of places: none and false: there is none; none and true: it has too many corners. -/
def hullP (l : List Pt) : Option (List Pt) := if (hullL (ascL l)).length < 3 then none else some (hullL (ascL l))
def areaD (m : Dat) (l : List Pt) : Option (List Pt) :=
  match allD m l with
  | none => none
  | some all => match hullP all with
    | none => none
    | some h => if 24 < h.length then rectB (joinL m l) else some h
theorem once_mem (x : Pt) : ∀ l : List Pt, x ∈ onceP l ↔ x ∈ l
  | [] => Iff.rfl
  | [_] => Iff.rfl
  | a :: b :: r => by
    unfold onceP
    by_cases h : a = b
    · rw [if_pos h, once_mem x (b :: r), h]
      simp
    · rw [if_neg h, List.mem_cons, List.mem_cons, once_mem x (b :: r)]
theorem asc_mem (x : Pt) (l : List Pt) : x ∈ ascL l ↔ x ∈ l := by
  unfold ascL
  rw [once_mem, List.mem_mergeSort]
end Go.Proofs.YtdmegkkifiahdaaGreat
/- Plain laws of chapter 20: what is carried covers; symbols; lists. -/
namespace Go.Proofs.YtdmegkkifiahdaaGreat
set_option linter.unusedVariables false
def dirD (m : Dat) (vx vy : Int) : Option Pt :=
  let x := m.a * vx + m.b * vy
  let y := m.d * vx + m.e * vy
  let g : Int := Int.gcd x y
  if (-1000000 ≤ x / g ∧ x / g ≤ 1000000) ∧ -1000000 ≤ y / g ∧ y / g ≤ 1000000 then some (x / g, y / g) else none
def rangeD (m : Dat) (r : Int) : Int := min 3000000 (r * shrinkD m / 1000000 - slackD m)
/-- Sectors as they are carried; none: a direction is out of range. -/
def secsD (m : Dat) : List Sec → Option (List Sec)
  | [] => some []
  | s :: l => match dirD m s.fx s.fy, dirD m s.tx s.ty, secsD m l with
    | some u, some v, some r => some (if 0 < rangeD m s.rng then ⟨u.1, u.2, v.1, v.2, s.col, rangeD m s.rng⟩ :: r else r)
    | _, _, _ => none
def carryF (m : Dat) (f : Feat) (n : Int) : Option Feat :=
  if f.kind = 3 ∨ f.kind = 6 then (areaD m f.area).map fun g => { f with area := g, sym := n }
  else if ¬ BxOk (boxOf m (f.x, f.y)) then none
  else if f.kind = 4 then (secsD m f.secs).map fun s => { f with x := (midB (boxOf m (f.x, f.y))).1, y := (midB (boxOf m (f.x, f.y))).2, secs := s, sym := n }
  else some { f with x := (midB (boxOf m (f.x, f.y))).1, y := (midB (boxOf m (f.x, f.y))).2, rad := grownD m f.rad + slackD m, sym := n }
def oneD (m : Dat) (A B : List Mk) (f : Feat) : Except Int Feat :=
  match findM A f.sym with
  | none => .error 11
  | some mk => if mk.kind ≠ f.kind then .error 12 else match transM B mk with
    | none => .error 4
    | some t => match carryF m f t.sym with
      | none => .error 3
      | some g => if FeatOk g then .ok g else .error 3
theorem dHi_sq {n : Int} (h : 0 ≤ n) : n ≤ dHi n * dHi n ∧ 0 ≤ dHi n := by
  have h1 := isq_lt h
  have h2 := isq_nn n
  unfold dHi
  split
  · next e => rw [e]; exact ⟨Int.le_refl _, h2⟩
  · exact ⟨by omega, by omega⟩
theorem carry_same {m : Dat} {f g : Feat} {n : Int} (h : carryF m f n = some g) : g.id = f.id ∧ g.kind = f.kind ∧ g.dep = f.dep ∧ g.sym = n := by
  unfold carryF at h
  split at h
  · cases ha : areaD m f.area with
    | none => rw [ha] at h; cases h
    | some a => rw [ha] at h; cases h; exact ⟨rfl, rfl, rfl, rfl⟩
  · split at h
    · cases h
    · split at h
      · cases hs : secsD m f.secs with
        | none => rw [hs] at h; cases h
        | some s => rw [hs] at h; cases h; exact ⟨rfl, rfl, rfl, rfl⟩
      · cases h; exact ⟨rfl, rfl, rfl, rfl⟩
/-- What one feature is carried to. -/
theorem one_ok {m : Dat} {A B : List Mk} {f g : Feat} (h : oneD m A B f = .ok g) : FeatOk g ∧ ∃ mk t, findM A f.sym = some mk ∧ mk.kind = f.kind ∧ transM B mk = some t ∧ carryF m f t.sym = some g := by
  unfold oneD at h
  split at h
  · cases h
  · next mk hmk =>
    split at h
    · cases h
    · next hk =>
      split at h
      · cases h
      · next t ht =>
        split at h
        · cases h
        · next g' hg' =>
          split at h
          · next hok =>
            cases h
            exact ⟨hok, mk, t, hmk, Classical.byContradiction fun hn => hk hn, ht, hg'⟩
          · cases h
end Go.Proofs.YtdmegkkifiahdaaGreat
/- Plain facts for the walks of chapter 20: the least root, the bounds of stretch, shrink and slack; directions. -/
namespace Go.Proofs.YtdmegkkifiahdaaGreat
set_option linter.unusedVariables false
theorem sq_mono {a b : Int} (h0 : 0 ≤ a) (h : a ≤ b) : a * a ≤ b * b := Int.mul_le_mul h h h0 (by omega)
theorem dHi_iff {n r : Int} (hn : 0 ≤ n) (hr : 0 ≤ r) : n ≤ r * r ↔ dHi n ≤ r := by
  have h := dHi_sq hn
  constructor
  · intro h1
    refine Int.not_lt.1 fun hc => ?_
    have h2 := isq_le hn
    have h3 := isq_nn n
    unfold dHi at hc
    split at hc
    · next e =>
      have := sq_mono hr (show r ≤ isq n - 1 by omega)
      have e2 : (isq n - 1) * (isq n - 1) = isq n * isq n - 2 * isq n + 1 := by grind
      omega
    · next e =>
      have := sq_mono hr (show r ≤ isq n by omega)
      omega
  · intro h1
    have := sq_mono h.2 h1
    omega
theorem dHi_le {n r : Int} (hn : 0 ≤ n) (hr : 0 ≤ r) (h : n ≤ r * r) : dHi n ≤ r := (dHi_iff hn hr).1 h
/-- What the stretch is the root of. -/
def stretchN (m : Dat) : Int := max (m.a * m.a + m.d * m.d) (m.b * m.b + m.e * m.e) + max (m.a * m.b + m.d * m.e) (-(m.a * m.b + m.d * m.e))
theorem stretch_eq (m : Dat) : stretchD m = dHi (stretchN m) := rfl
theorem part_sq {x : Int} (h : PartOk x) : 0 ≤ x * x ∧ x * x ≤ 4000000000000 := by
  have := mul_bd h.1 h.2 h.1 h.2
  exact ⟨sq_nn x, by omega⟩
theorem part_mul {x y : Int} (h : PartOk x) (k : PartOk y) : -4000000000000 ≤ x * y ∧ x * y ≤ 4000000000000 := by
  have := mul_bd h.1 h.2 k.1 k.2
  omega
theorem stretchN_bd {m : Dat} (h : DatOk m) : 250000000000 ≤ stretchN m ∧ stretchN m ≤ 16000000000000 ∧ m.a * m.e - m.b * m.d ≤ stretchN m := by
  obtain ⟨⟨ha, hb, hd, he⟩, hdet, _⟩ := h
  have a2 := part_sq ha
  have b2 := part_sq hb
  have d2 := part_sq hd
  have e2 := part_sq he
  have ab := part_mul ha hb
  have de := part_mul hd he
  have s1 := sq_nn (m.a - m.e)
  have s2 := sq_nn (m.b + m.d)
  have e1 : (m.a - m.e) * (m.a - m.e) = m.a * m.a + m.e * m.e - 2 * (m.a * m.e) := by grind
  have e3 : (m.b + m.d) * (m.b + m.d) = m.b * m.b + m.d * m.d + 2 * (m.b * m.d) := by grind
  unfold stretchN
  omega
theorem stretch_bd {m : Dat} (h : DatOk m) : 1 ≤ stretchD m ∧ stretchD m ≤ 4000000 ∧ m.a * m.e - m.b * m.d ≤ stretchD m * stretchD m := by
  obtain ⟨h1, h2, h3⟩ := stretchN_bd h
  have h4 := dHi_sq (n := stretchN m) (by omega)
  have h5 := dHi_le (n := stretchN m) (r := 4000000) (by omega) (by omega) (by omega)
  rw [stretch_eq]
  refine ⟨?_, h5, by omega⟩
  rcases Int.lt_or_le 0 (dHi (stretchN m)) with h6 | h6
  · omega
  · have h7 : dHi (stretchN m) = 0 := by omega
    rw [h7] at h4
    omega
theorem shrink_bd {m : Dat} (h : DatOk m) : 0 ≤ shrinkD m ∧ shrinkD m ≤ 4000000 := by
  obtain ⟨h1, h2, h3⟩ := stretch_bd h
  have hd := h.2.1
  unfold shrinkD
  refine ⟨Int.ediv_nonneg (by omega) (by omega), ?_⟩
  have := Int.ediv_le_ediv (c := stretchD m) (by omega) h3
  rw [Int.mul_ediv_cancel _ (by omega)] at this
  omega
theorem res_bd {m : Dat} (h : DatOk m) : 0 ≤ resD m ∧ resD m ≤ 1001 := by
  have := h.2.2.2.2
  unfold resD
  split <;> omega
theorem slack_bd {m : Dat} (h : DatOk m) : 0 ≤ slackD m ∧ slackD m ≤ 1416 := by
  have h1 := res_bd h
  have h2 := sq_mono h1.1 h1.2
  have h3 := sq_nn (resD m)
  have e : 2 * resD m * resD m = 2 * (resD m * resD m) := Int.mul_assoc ..
  unfold slackD
  rw [e]
  exact ⟨(dHi_sq (by omega)).2, dHi_le (by omega) (by omega) (by omega)⟩
theorem grown_bd {m : Dat} (h : DatOk m) {r : Int} (h0 : 0 ≤ r) (h1 : r ≤ 100000) : 0 ≤ r * stretchD m ∧ r * stretchD m ≤ 400000000000 ∧ 0 ≤ grownD m r ∧ grownD m r ≤ 400001 := by
  obtain ⟨s1, s2, _⟩ := stretch_bd h
  have a1 := mul_nn h0 (show 0 ≤ stretchD m by omega)
  have a2 := (mul_bd (a := r) (b := stretchD m) (A := 100000) (B := 4000000) (by omega) h1 (by omega) s2).2
  unfold grownD
  omega
/-- A direction stays one. -/
theorem dir_stays {m : Dat} (h : DatOk m) {x y : Int} (hv : ¬ (x = 0 ∧ y = 0)) : ¬ (m.a * x + m.b * y = 0 ∧ m.d * x + m.e * y = 0) := by
  rintro ⟨h1, h2⟩
  have hd := h.2.1
  have e1 : (m.a * m.e - m.b * m.d) * x = m.e * (m.a * x + m.b * y) - m.b * (m.d * x + m.e * y) := by grind
  have e2 : (m.a * m.e - m.b * m.d) * y = m.a * (m.d * x + m.e * y) - m.d * (m.a * x + m.b * y) := by grind
  rw [h1, h2] at e1 e2
  simp only [Int.mul_zero, Int.sub_zero] at e1 e2
  rcases Int.mul_eq_zero.1 e1 with h3 | h3
  · omega
  · rcases Int.mul_eq_zero.1 e2 with h4 | h4
    · omega
    · exact hv ⟨h3, h4⟩
end Go.Proofs.YtdmegkkifiahdaaGreat
