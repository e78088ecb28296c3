/- Base, PlanePure, PlaneA, Region, PlaneB, PlaneC, PlaneD, PlaneE, PlaneF, ReachA, AppRows: joined. -/
import Derived.WalkKit
import Derived.Lib.QuietBelow
import Derived.Lib.Hide
import Derived.WalkSpells
import Derived.Test.YtdmegkkifiahdaaGreatProg
import Derived.Lib.Mul64
import Derived.Laws.Bits64b
import Derived.BigQuiet
import Derived.Handy
import Derived.StillTail
import Derived.Deep.QuietTactic
import Derived.Outline
import Derived.IntWalk
import Derived.Deep.AppendLies
import Derived.Laws.OwnMore
/- Small lemmas that every walk of this seat uses: a name for the world at hand, equal results, cells and freezes that stay. -/
namespace Go.Proofs.YtdmegkkifiahdaaGreat
open Go.RowKit
theorem wp_named {P : Program} {c : Code} {Q : Exit → Act → World → Prop} {a : Act} {w0 : World} (h : ∀ W, W = w0 → c.wp P Q a W) : c.wp P Q a w0 := h _ rfl
theorem calls_named {P : Program} {f : FuncId} {args : Array Value} {R : Ending → World → Prop} {w0 : World} (h : ∀ W, W = w0 → Calls P f args W R) : Calls P f args w0 R := h _ rfl
theorem ret_bool {a b : Bool} (h : a = b) : Ending.returned (.bool a) = Ending.returned (.bool b) := by rw [h]
theorem ret_int {k : IntKind} {a b : Int} (h : a = b) : Ending.returned (.int k a) = Ending.returned (.int k b) := by rw [h]
theorem below_step {w W w1 : World} (h : Below w.heap.size w W) (h1 : Below W.heap.size W w1) : Below w.heap.size w w1 := h.trans (h1.mono h.size)
theorem lt_block {w : World} {b : Nat} {o : Obj} (h : w.heap[b]? = some o) : b < w.heap.size := (Array.getElem?_eq_some_iff.1 h).1
theorem cell_block {w : World} {b : Nat} {cs : Array Value} {t : TypeId} {m : Nat × Nat} (h : w.heap[b]? = some (.cells cs t m)) (i : Nat) : w.cell? ⟨b, i, none⟩ = cs[i]? := by simp [World.cell?, h]
theorem free_block {w : World} {b : Nat} {cs : Array Value} {t : TypeId} (h : w.heap[b]? = some (.cells cs t (0, 0))) (i : Nat) : w.frozen? ⟨b, i, none⟩ = false := by simp [World.frozen?, h]
theorem block_set {w : World} {b i : Nat} {cs : Array Value} {t : TypeId} {m : Nat × Nat} (h : w.heap[b]? = some (.cells cs t m)) (v : Value) : (w.setCell ⟨b, i, none⟩ v).heap[b]? = some (.cells (cs.setIfInBounds i v) t m) := by
  have hlt := lt_block h
  have h' : w.heap[b] = .cells cs t m := by simpa [Array.getElem?_eq_getElem hlt] using h
  show (w.heap.modify b _)[b]? = _
  rw [Array.getElem?_eq_getElem (by simpa using hlt), Array.getElem_modify_self, h']
  rfl
theorem block_far {w : World} {a : Addr} {b : Nat} {o : Obj} (h : w.heap[b]? = some o) (hne : b ≠ a.block) (v : Value) : (w.setCell a v).heap[b]? = some o := by rw [Below.heap_setCell _ _ _ _ hne]; exact h
theorem block_later {w w1 : World} {b : Nat} {o : Obj} (hb : Below w.heap.size w w1) (h : w.heap[b]? = some o) : w1.heap[b]? = some o := by rw [hb.block _ (lt_block h)]; exact h
theorem block_alloc {w : World} {b : Nat} {o o' : Obj} (h : w.heap[b]? = some o) : (w.alloc o').heap[b]? = some o := by rw [Below.heap_alloc _ _ _ (lt_block h)]; exact h
theorem block_new (w : World) (o : Obj) : (w.alloc o).heap[w.heap.size]? = some o := by show (w.heap.push o)[w.heap.size]? = _; simp
theorem block_new_at {w : World} {k : Nat} (o : Obj) (h : w.heap.size = k) : (w.alloc o).heap[k]? = some o := by subst h; exact block_new w o
theorem box1 {w W : World} {o1 : Obj} (h : W = w.alloc o1) : W.heap[w.heap.size]? = some o1 ∧ Below w.heap.size w W := by
  subst h
  exact ⟨block_new_at _ (by simp), (Below.refl _ _).alloc (Nat.le_refl _) _⟩
theorem box2 {w W : World} {o1 o2 : Obj} (h : W = (w.alloc o1).alloc o2) : W.heap[w.heap.size]? = some o1 ∧ W.heap[w.heap.size + 1]? = some o2 ∧ Below w.heap.size w W := by
  subst h
  exact ⟨block_alloc (block_new_at _ (by simp)), block_new_at _ (by simp), ((Below.refl _ _).alloc (Nat.le_refl _) _).alloc (by simp only [World.size_alloc]; omega) _⟩
theorem box3 {w W : World} {o1 o2 o3 : Obj} (h : W = ((w.alloc o1).alloc o2).alloc o3) : W.heap[w.heap.size]? = some o1 ∧ W.heap[w.heap.size + 1]? = some o2 ∧ W.heap[w.heap.size + 2]? = some o3 ∧ Below w.heap.size w W := by
  subst h
  exact ⟨block_alloc (block_alloc (block_new_at _ (by simp))), block_alloc (block_new_at _ (by simp)), block_new_at _ (by simp), (((Below.refl _ _).alloc (Nat.le_refl _) _).alloc (by simp only [World.size_alloc]; omega) _).alloc (by simp only [World.size_alloc]; omega) _⟩
theorem box4 {w W : World} {o1 o2 o3 o4 : Obj} (h : W = (((w.alloc o1).alloc o2).alloc o3).alloc o4) : W.heap[w.heap.size]? = some o1 ∧ W.heap[w.heap.size + 1]? = some o2 ∧ W.heap[w.heap.size + 2]? = some o3 ∧ W.heap[w.heap.size + 3]? = some o4 ∧ Below w.heap.size w W := by
  subst h
  exact ⟨block_alloc (block_alloc (block_alloc (block_new_at _ (by simp)))), block_alloc (block_alloc (block_new_at _ (by simp))), block_alloc (block_new_at _ (by simp)), block_new_at _ (by simp), ((((Below.refl _ _).alloc (Nat.le_refl _) _).alloc (by simp only [World.size_alloc]; omega) _).alloc (by simp only [World.size_alloc]; omega) _).alloc (by simp only [World.size_alloc]; omega) _⟩
theorem box5 {w W : World} {o1 o2 o3 o4 o5 : Obj} (h : W = ((((w.alloc o1).alloc o2).alloc o3).alloc o4).alloc o5) : W.heap[w.heap.size]? = some o1 ∧ W.heap[w.heap.size + 1]? = some o2 ∧ W.heap[w.heap.size + 2]? = some o3 ∧ W.heap[w.heap.size + 3]? = some o4 ∧ W.heap[w.heap.size + 4]? = some o5 ∧ Below w.heap.size w W := by
  subst h
  exact ⟨block_alloc (block_alloc (block_alloc (block_alloc (block_new_at _ (by simp))))), block_alloc (block_alloc (block_alloc (block_new_at _ (by simp)))), block_alloc (block_alloc (block_new_at _ (by simp))), block_alloc (block_new_at _ (by simp)), block_new_at _ (by simp), (((((Below.refl _ _).alloc (Nat.le_refl _) _).alloc (by simp only [World.size_alloc]; omega) _).alloc (by simp only [World.size_alloc]; omega) _).alloc (by simp only [World.size_alloc]; omega) _).alloc (by simp only [World.size_alloc]; omega) _⟩
theorem regrown_below {W w' : World} (h : ∃ p : Regrown, w' = Sort.grow (redrawn W p.d) p.os) : Below W.heap.size W w' := by
  obtain ⟨p, rfl⟩ := h
  exact below_regrown W p.d p.os
/-- The cells of a block that is known, in every later world. -/
theorem cellsL {W : World} {b : Nat} {cs : Array Value} {t : TypeId} {m : Nat × Nat} (h : W.heap[b]? = some (.cells cs t m)) (w' : World) (hb : Below W.heap.size W w') (i : Nat) : w'.cell? ⟨b, i, none⟩ = cs[i]? := cell_block (block_later hb h) i
/-- The same, in the worlds of a region that draws its order. -/
theorem cellsR {W : World} {b : Nat} {cs : Array Value} {t : TypeId} {m : Nat × Nat} (h : W.heap[b]? = some (.cells cs t m)) (d : Nat) (os : Array Obj) (i : Nat) : (Sort.grow (redrawn W d) os).cell? ⟨b, i, none⟩ = cs[i]? := cell_block (block_later (below_regrown W d os) h) i
theorem mul_bd {a b A B : Int} (h1 : -A ≤ a) (h2 : a ≤ A) (h3 : -B ≤ b) (h4 : b ≤ B) : -(A * B) ≤ a * b ∧ a * b ≤ A * B := by
  have e1 := Int.mul_nonneg (show 0 ≤ A - a by omega) (show 0 ≤ B - b by omega)
  have e2 := Int.mul_nonneg (show 0 ≤ A + a by omega) (show 0 ≤ B + b by omega)
  have e3 := Int.mul_nonneg (show 0 ≤ A - a by omega) (show 0 ≤ B + b by omega)
  have e4 := Int.mul_nonneg (show 0 ≤ A + a by omega) (show 0 ≤ B - b by omega)
  simp only [Int.sub_mul, Int.mul_sub, Int.add_mul, Int.mul_add] at e1 e2 e3 e4
  omega
theorem sign_bd (a : Int) : -1 ≤ a.sign ∧ a.sign ≤ 1 := by
  rcases Int.lt_trichotomy a 0 with h | h | h
  · simp [Int.sign_eq_neg_one_of_neg h]
  · simp [h]
  · simp [Int.sign_eq_one_of_pos h]
theorem sq_nn (a : Int) : 0 ≤ a * a := by
  rcases Int.le_total 0 a with h | h
  · exact Int.mul_nonneg h h
  · have := Int.mul_nonneg (show 0 ≤ -a by omega) (show 0 ≤ -a by omega)
    rwa [Int.neg_mul_neg] at this
end Go.Proofs.YtdmegkkifiahdaaGreat
/- The answers of package plane as plain functions on integers. -/
namespace Go.Proofs.YtdmegkkifiahdaaGreat
structure Vld (x y : Int) : Prop where
  x1 : -1000000 ≤ x
  x2 : x ≤ 1000000
  y1 : -1000000 ≤ y
  y2 : y ≤ 1000000
def crs (ax ay bx by' cx cy : Int) : Int := (bx - ax) * (cy - ay) - (by' - ay) * (cx - ax)
def OnS (px py ax ay bx by' : Int) : Prop := crs ax ay bx by' px py = 0 ∧ min ax bx ≤ px ∧ px ≤ max ax bx ∧ min ay by' ≤ py ∧ py ≤ max ay by'
instance (px py ax ay bx by' : Int) : Decidable (OnS px py ax ay bx by') := by unfold OnS; exact inferInstance
def onB (px py ax ay bx by' : Int) : Bool := decide (OnS px py ax ay bx by')
def crossB (ax ay bx by' cx cy dx dy : Int) : Bool := decide ((crs ax ay bx by' cx cy).sign * (crs ax ay bx by' dx dy).sign < 0 ∧ (crs cx cy dx dy ax ay).sign * (crs cx cy dx dy bx by').sign < 0)
def meetB (ax ay bx by' cx cy dx dy : Int) : Bool := crossB ax ay bx by' cx cy dx dy || (onB ax ay cx cy dx dy || (onB bx by' cx cy dx dy || (onB cx cy ax ay bx by' || onB dx dy ax ay bx by')))
def foot (px py ax ay bx by' : Int) : Int := (bx - ax) * (px - ax) + (by' - ay) * (py - ay)
def sqd (ax ay bx by' : Int) : Int := (bx - ax) * (bx - ax) + (by' - ay) * (by' - ay)
/-- The square of the distance of a place and a segment is num * fac / den. -/
def sqNum (px py ax ay bx by' : Int) : Int := if foot px py ax ay bx by' ≤ 0 then sqd ax ay px py else if sqd ax ay bx by' ≤ foot px py ax ay bx by' then sqd bx by' px py else max (crs ax ay bx by' px py) (-crs ax ay bx by' px py)
def sqFac (px py ax ay bx by' : Int) : Int := if foot px py ax ay bx by' ≤ 0 then 1 else if sqd ax ay bx by' ≤ foot px py ax ay bx by' then 1 else max (crs ax ay bx by' px py) (-crs ax ay bx by' px py)
def sqDen (px py ax ay bx by' : Int) : Int := if foot px py ax ay bx by' ≤ 0 then 1 else if sqd ax ay bx by' ≤ foot px py ax ay bx by' then 1 else sqd ax ay bx by'
def nearB (px py ax ay bx by' d : Int) : Bool := decide (sqNum px py ax ay bx by' * sqFac px py ax ay bx by' ≤ d * d * sqDen px py ax ay bx by')
end Go.Proofs.YtdmegkkifiahdaaGreat
/- The walks of the small functions of package plane: vectors, signs, validity, the comparison of products. -/
namespace Go.Proofs.YtdmegkkifiahdaaGreat
open Go.RowKit
theorem from_any (ax ay bx by' : Int) (w : World) (h1 : -4000000 ≤ bx - ax) (h2 : bx - ax ≤ 4000000) (h3 : -4000000 ≤ by' - ay) (h4 : by' - ay ≤ 4000000) :
    Calls Tryz.prog 344 #[.agg #[.int .i64 ax, .int .i64 ay], .agg #[.int .i64 bx, .int .i64 by']] w fun e w' => e = .returned (.agg #[.int .i64 (bx - ax), .int .i64 (by' - ay)]) ∧ Below w.heap.size w w' := by
  go_enter Tryz.func344, Tryz.ntmps344
  go_wp2
  go_returns
  exact ⟨rfl, by go_grown⟩
theorem cross_any (ax ay bx by' : Int) (w : World) (h1 : -9000000000000000000 ≤ ax * by') (h1' : ax * by' ≤ 9000000000000000000) (h2 : -9000000000000000000 ≤ ay * bx) (h2' : ay * bx ≤ 9000000000000000000)
   (h3 : -9000000000000000000 ≤ ax * by' - ay * bx) (h3' : ax * by' - ay * bx ≤ 9000000000000000000) :
    Calls Tryz.prog 410 #[.agg #[.int .i64 ax, .int .i64 ay], .agg #[.int .i64 bx, .int .i64 by']] w fun e w' => e = .returned (.int .i64 (ax * by' - ay * bx)) ∧ Below w.heap.size w w' := by
  go_enter Tryz.func410, Tryz.ntmps410
  go_wp2
  go_returns
  exact ⟨rfl, by go_grown⟩
theorem dot_any (ax ay bx by' : Int) (w : World) (h1 : -9000000000000000000 ≤ ax * bx) (h1' : ax * bx ≤ 9000000000000000000) (h2 : -9000000000000000000 ≤ ay * by') (h2' : ay * by' ≤ 9000000000000000000)
   (h3 : -9000000000000000000 ≤ ax * bx + ay * by') (h3' : ax * bx + ay * by' ≤ 9000000000000000000) :
    Calls Tryz.prog 345 #[.agg #[.int .i64 ax, .int .i64 ay], .agg #[.int .i64 bx, .int .i64 by']] w fun e w' => e = .returned (.int .i64 (ax * bx + ay * by')) ∧ Below w.heap.size w w' := by
  go_enter Tryz.func345, Tryz.ntmps345
  go_wp2
  go_returns
  exact ⟨rfl, by go_grown⟩
theorem cmp_any (x : Int) (w : World) :
    Calls Tryz.prog 225 #[.int .i64 x, .int .i64 0] w fun e w' => e = .returned (.int .i64 x.sign) ∧ Below w.heap.size w w' := by
  go_enter Tryz.func225, Tryz.ntmps225
  go_wp2
  · go_returns
    exact ⟨ret_int (Int.sign_eq_neg_one_of_neg (by assumption)).symm, by go_grown⟩
  · go_returns
    exact ⟨ret_int (Int.sign_eq_one_of_pos (by assumption)).symm, by go_grown⟩
  · go_returns
    exact ⟨ret_int (by rw [show x = 0 by omega]; rfl), by go_grown⟩
theorem valid_yes (x y : Int) (w : World) (h : Vld x y) : Calls Tryz.prog 142 #[.agg #[.int .i64 x, .int .i64 y]] w fun e w' => e = .returned (.bool true) ∧ Below w.heap.size w w' := by
  obtain ⟨h1, h2, h3, h4⟩ := h
  have m1 : max x y ≤ 1000000 := by omega
  have m2 : -1000000 ≤ min x y := by omega
  go_enter Tryz.func142, Tryz.ntmps142
  go_wp2
  all_goals (go_returns; exact ⟨ret_bool (by simp <;> omega), by go_grown⟩)
theorem valid_no (x y : Int) (w : World) (h : ¬ Vld x y) : Calls Tryz.prog 142 #[.agg #[.int .i64 x, .int .i64 y]] w fun e w' => e = .returned (.bool false) ∧ Below w.heap.size w w' := by
  by_cases m1 : max x y ≤ 1000000
  · have m2 : min x y < -1000000 := by
      rcases Int.lt_or_le (min x y) (-1000000) with h' | h'
      · exact h'
      · exact absurd ⟨by omega, by omega, by omega, by omega⟩ h
    go_enter Tryz.func142, Tryz.ntmps142
    go_wp2
    all_goals (go_returns; exact ⟨ret_bool (by simp <;> omega), by go_grown⟩)
  · have m1 : 1000000 < max x y := by omega
    go_enter Tryz.func142, Tryz.ntmps142
    go_wp2
    all_goals (go_returns; exact ⟨ret_bool (by simp <;> omega), by go_grown⟩)
theorem dist_yes (d : Int) (w : World) (h1 : 0 ≤ d) (h2 : d ≤ 3000000) : Calls Tryz.prog 343 #[.int .i64 d] w fun e w' => e = .returned (.bool true) ∧ Below w.heap.size w w' := by
  go_enter Tryz.func343, Tryz.ntmps343
  go_wp2
  all_goals (go_returns; exact ⟨ret_bool (by simp <;> omega), by go_grown⟩)
theorem valids_yes (b n c : Nat) (X Y : Nat → Int) (w : World) (hn : n ≤ 1000) (hc : ∀ i, i < n → w.cell? ⟨b, i * 2, none⟩ = some (.int .i64 (X i)) ∧ w.cell? ⟨b, i * 2 + 1, none⟩ = some (.int .i64 (Y i)))
    (hv : ∀ i, i < n → Vld (X i) (Y i)) :
    Calls Tryz.prog 342 #[.slice (some ⟨b, 0, none⟩) n c] w fun e w' => e = .returned (.bool true) ∧ Below w.heap.size w w' := by
  have HC := Lib.hid hc; clear hc
  have HV := Lib.hid hv; clear hv
  go_enter Tryz.func342, Tryz.ntmps342
  go_wp2
  go_loopw [7] (fun i wr => ∃ k : Nat, k ≤ n ∧ i = .int .i64 k ∧ Below w.heap.size w wr) (fun i _ => n - (intOf i).toNat)
  case atStart => exact ⟨0, by omega, rfl, Below.refl _ _⟩
  case round =>
    obtain ⟨k, hk, rfl, hb⟩ := hrel
    by_cases hlt : k < n
    · obtain ⟨c1, c2⟩ := HC.out k hlt
      replace c1 := cell_later hb c1
      replace c2 := cell_later hb c2
      have v1 := HV.out k hlt
      go_wp2_with (go_at_call 142; refine (valid_yes _ _ _ v1).mono ?_; rintro e w1 ⟨rfl, hb1⟩)
      go_roundw
      case rel => exact ⟨k + 1, by omega, by go_num, hb.trans (((Below.refl _ _).alloc (by exact hb.size) _).trans (hb1.mono (by simp; have := hb.size; omega)))⟩
      case measure => simp [intOf]; omega
    · go_wp2
      go_returns
      exact ⟨rfl, hb⟩
theorem maskN (a : Nat) (ha : a < 18446744073709551616) : bits .and .u64 (a : Int) 4294967295 = ((a % 4294967296 : Nat) : Int) := by
  have h := bits_and_u64_nat a 4294967295 ha (by omega)
  have e : a &&& 4294967295 = a % 4294967296 := Nat.and_two_pow_sub_one_eq_mod a 32
  rw [e] at h
  exact h
theorem divN (a : Nat) : (a : Int) / 4294967296 = ((a / 4294967296 : Nat) : Int) := by omega
theorem mulN (a b : Nat) : (a : Int) * (b : Int) = ((a * b : Nat) : Int) := (Int.natCast_mul a b).symm
theorem addN (a b : Nat) : (a : Int) + (b : Int) = ((a + b : Nat) : Int) := (Int.natCast_add a b).symm
theorem wrapN (a : Nat) (ha : a < 18446744073709551616) : IntKind.u64.wrap (a : Int) = (a : Int) := by rw [IntKind.wrap_u64]; omega
theorem wrapM (a : Nat) : IntKind.u64.wrap (a : Int) = ((a % 18446744073709551616 : Nat) : Int) := by rw [IntKind.wrap_u64]; omega
set_option maxHeartbeats 1000000 in
theorem mul64_any (x y : Nat) (hx : x < 18446744073709551616) (hy : y < 18446744073709551616) (w : World) :
    Calls Tryz.prog 452 #[.int .u64 x, .int .u64 y] w fun e w' => e = .returned (.tuple #[.int .u64 ((x * y / 18446744073709551616 : Nat) : Int), .int .u64 ((x * y % 18446744073709551616 : Nat) : Int)]) ∧ w = w' := by
  obtain ⟨bd, bt, bw, hhi⟩ := Lib.mul64_hi x y hx hy
  have ba := Lib.half_mul_le (a := x / 4294967296) (b := y / 4294967296) (by omega) (by omega)
  have bb := Lib.half_mul_le (a := x / 4294967296) (b := y % 4294967296) (by omega) (by omega)
  have bc := Lib.half_mul_le (a := x % 4294967296) (b := y / 4294967296) (by omega) (by omega)
  have ba' : x / 4294967296 * (y / 4294967296) < 18446744073709551616 := by omega
  have bb' : x / 4294967296 * (y % 4294967296) < 18446744073709551616 := by omega
  have bc' : x % 4294967296 * (y / 4294967296) < 18446744073709551616 := by omega
  have bh1 : x / 4294967296 * (y / 4294967296) + (x / 4294967296 * (y % 4294967296) + x % 4294967296 * (y % 4294967296) / 4294967296) / 4294967296 < 18446744073709551616 := by omega
  have bh : x / 4294967296 * (y / 4294967296) + (x / 4294967296 * (y % 4294967296) + x % 4294967296 * (y % 4294967296) / 4294967296) / 4294967296 + ((x / 4294967296 * (y % 4294967296) + x % 4294967296 * (y % 4294967296) / 4294967296) % 4294967296 + x % 4294967296 * (y / 4294967296)) / 4294967296 < 18446744073709551616 := by omega
  go_enter Tryz.func452, Tryz.ntmps452
  go_wp2
  simp only [maskN x hx, maskN y hy, divN, mulN, addN, wrapN _ bd, wrapN _ bb', wrapN _ bt, maskN _ bt, wrapN _ bc', wrapN _ bw, wrapN _ ba', wrapN _ bh1, wrapN _ bh, wrapM (x * y)]
  rw [hhi]
  go_ret2
  exact ⟨rfl, rfl⟩
end Go.Proofs.YtdmegkkifiahdaaGreat
/- A region that draws its order, of this make: first operations that only read and calls that only make memory, then new variables, then a tail that waits for all of them: one walk of the text's order serves every order. -/
namespace Go.Proofs.YtdmegkkifiahdaaGreat
open Go.RowKit Go.Sort
section
variable {P : Program} {ops : Array Oper} {md : Region.Mode} {W : World}
/-- Nothing that was there has turned (a word of its own, so that a walk leaves it as it stands). -/
def Stays (w w' : World) : Prop := Below w.heap.size w w'
/-- What an operation yields in one world: the value v, the world as it was; or a call that hands v back and turns nothing that was there. -/
def bqUpon (P : Program) (w : World) (v : Value) : Result Next → Prop
  | .ok (.value u) w' => w' = w ∧ u = v
  | .ok .skip w' => w' = w ∧ v = undef
  | .ok (.enter f args) w' => w' = w ∧ Calls P f args w (fun e w'' => e = .returned v ∧ Stays w w'')
  | _ => False
def bqAll (P : Program) (W : World) (s : Sem Next) (v : Value) : Prop := ∀ p : Regrown, bqUpon P (grow (redrawn W p.d) p.os) v (s.run P (grow (redrawn W p.d) p.os))
def bqOp (P : Program) (o : Oper) (a : Act) (W : World) (next : Act → Prop) : Prop := ∃ v, bqAll P W (execOp a.eval o) v ∧ next (a.put o.dst v)
def wpBQ (P : Program) (ops : Array Oper) (W : World) (Q : Act → Prop) : List Oper → Act → Prop
  | [], a => Q a
  | o :: rest, a => if Region.wanted o (yielded ops a.tmps) then bqOp P o a W (wpBQ P ops W Q rest) else wpBQ P ops W Q rest (a.put o.dst undef)
theorem wpBQ_nil {Q : Act → Prop} {a : Act} (h : Q a) : wpBQ P ops W Q [] a := h
theorem wpBQ_step {Q : Act → Prop} {a : Act} {o : Oper} {rest : List Oper}
    (h : ∀ K : Act → Prop, (∀ a, wpBQ P ops W Q rest a → K a) → if Region.wanted o (yielded ops a.tmps) then bqOp P o a W K else K (a.put o.dst undef)) : wpBQ P ops W Q (o :: rest) a :=
  h _ (fun _ h => h)
def ptr (b : Nat) : Value := .pointer (some ⟨b, 0, none⟩)
/-- In state 'a' the operation 'o' yields 'v', whatever has been made meanwhile. -/
def YB (P : Program) (ops : Array Oper) (W : World) (o : Oper) (v : Value) (a : Act) : Prop :=
  (Region.wanted o (yielded ops a.tmps) = true ∧ bqAll P W (execOp a.eval o) v) ∨ (Region.wanted o (yielded ops a.tmps) = false ∧ v = undef)
/-- One operation of the head: below m one that yields its value; from m on a new variable, wherever it lies. -/
def hOp (P : Program) (ops : Array Oper) (W : World) (m i : Nat) (K : Act → Prop) (a : Act) : Prop :=
  match ops[i]? with
  | none => K a
  | some o => if i < m then ∃ v, YB P ops W o v a ∧ K (a.put o.dst v) else ∀ b, K (a.put o.dst (ptr b))
theorem hOp_mono {m i : Nat} {K K' : Act → Prop} {a : Act} (h : ∀ a, K a → K' a) (hh : hOp P ops W m i K a) : hOp P ops W m i K' a := by
  unfold hOp at *
  split
  · exact h _ (by simpa [*] using hh)
  · rename_i o ho
    simp only [ho] at hh
    split
    · rename_i hi; rw [if_pos hi] at hh; obtain ⟨v, h1, h2⟩ := hh; exact ⟨v, h1, h _ h2⟩
    · rename_i hi; rw [if_neg hi] at hh; exact fun b => h _ (hh b)
theorem YB.of_same {o : Oper} {v : Value} {a a' : Act} (hy : YB P ops W o v a) (he : execOp a'.eval o = execOp a.eval o)
    (hw : Region.wanted o (yielded ops a'.tmps) = Region.wanted o (yielded ops a.tmps)) : YB P ops W o v a' := by
  unfold YB at *
  rw [he, hw]
  exact hy
theorem YB.put {oi oj : Oper} {v : Value} {a : Act} (hy : YB P ops W oi v a) (hsi : ∀ cs b, oi.op ≠ .select cs b) (h3 : ∀ d, oj.dst = some d → d ∉ oi.looksAt ops) (u : Value) : YB P ops W oi v (a.put oj.dst u) :=
  hy.of_same (execOp_put oi hsi a oj.dst u h3) (wanted_put oi a oj.dst u h3)
theorem hOp_put {m j : Nat} {oi oj : Oper} {v : Value} (hj : ops[j]? = some oj) (hap : oi.apart ops oj = true)
    (hsi : ∀ cs b, oi.op ≠ .select cs b) (hsj : ∀ cs b, oj.op ≠ .select cs b) {K : Act → Prop} {a : Act}
    (hy : YB P ops W oi v a) (h : hOp P ops W m j K (a.put oi.dst v)) : hOp P ops W m j (fun a' => YB P ops W oi v a' ∧ K (a'.put oi.dst v)) a := by
  obtain ⟨h1, h2, h3⟩ := Oper.apart_spec hap
  unfold hOp at *
  simp only [hj] at *
  split
  · rename_i hi
    rw [if_pos hi] at h
    obtain ⟨u, hu, hn⟩ := h
    refine ⟨u, ?_, hy.put hsi h3 u, by rw [← Act.put_comm a v u h2]; exact hn⟩
    exact hu.of_same (execOp_put oj hsj a oi.dst v h1).symm (wanted_put oj a oi.dst v h1).symm
  · rename_i hi
    rw [if_neg hi] at h
    exact fun b => ⟨hy.put hsi h3 _, by rw [← Act.put_comm a v _ h2]; exact h b⟩
def wpHead (P : Program) (md : Region.Mode) (ops : Array Oper) (W : World) (m n : Nat) (L : Array Bool → Act → Prop) : Nat → Array Bool → Act → Prop
  | 0, listed, a => L listed a
  | f + 1, listed, a =>
    Region.ready md ops listed ≠ [] ∧ ∀ i ∈ Region.ready md ops listed, i < n ∧ hOp P ops W m i (wpHead P md ops W m n L f (listed.setIfInBounds i true)) a
theorem head_first {m n i : Nat} {oi : Oper} {v : Value} {L : Array Bool → Act → Prop} (hi : ops[i]? = some oi) (him : i < m) (hsel : ∀ (j : Nat) (o : Oper) cs b, ops[j]? = some o → o.op ≠ .select cs b)
    (hs : Region.sinkB md ops n = true) (hc : Region.chainB md ops n = true) (hn : n < ops.size) (hin : i < n)
    (hdone : ∀ listed a, L listed a → ∀ j ∈ Region.ready md ops listed, n ≤ j) :
    ∀ (f : Nat) (listed : Array Bool) (a : Act), HeadInv md ops n listed →
      (∀ j oj, ops[j]? = some oj → j ≠ i → listed.getD j true = false → (∀ e ∈ oj.after, Region.binds md e = true → e.on ≠ i) → oi.apart ops oj = true) →
      i ∈ Region.ready md ops listed → YB P ops W oi v a →
      wpHead P md ops W m n L f (listed.setIfInBounds i true) (a.put oi.dst v) → wpHead P md ops W m n L (f + 1) listed a := by
  have fire : ∀ (K : Act → Prop) (a : Act), YB P ops W oi v a → K (a.put oi.dst v) → hOp P ops W m i K a := fun K a hy hK => by
    unfold hOp
    simp only [hi]
    rw [if_pos him]
    exact ⟨v, hy, hK⟩
  intro f
  induction f with
  | zero =>
    intro listed a inv _ hr hy H
    have hun := (mem_ready.1 hr).1
    refine ⟨fun h => (by rw [h] at hr; cases hr), fun j hj => ?_⟩
    have hjn : j < n := by
      rcases Nat.lt_or_ge j n with h | h
      · exact h
      · exact absurd hj (tail_waits hs hc hn inv _ i rfl hin hun j h)
    refine ⟨hjn, ?_⟩
    by_cases hji : j = i
    · subst hji; exact fire _ _ hy H
    · have := hdone _ _ H j (ready_mono hj hji)
      omega
  | succ f ih =>
    intro listed a inv hfree hr hy H
    have hun := (mem_ready.1 hr).1
    refine ⟨fun h => (by rw [h] at hr; cases hr), fun j hj => ?_⟩
    have hjn : j < n := by
      rcases Nat.lt_or_ge j n with h | h
      · exact h
      · exact absurd hj (tail_waits hs hc hn inv _ i rfl hin hun j h)
    refine ⟨hjn, ?_⟩
    by_cases hji : j = i
    · subst hji; exact fire _ _ hy H
    · have h1 := (H.2 j (ready_mono hj hji)).2
      obtain ⟨hjun, oj, hoj, hall⟩ := mem_ready.1 hj
      have hnot : ∀ e ∈ oj.after, Region.binds md e = true → e.on ≠ i := fun e he hb heq => by
        have h1 := hall e he hb
        rw [heq, getD_both hun] at h1
        cases h1
      have h2 := hOp_put hoj (hfree j oj hoj hji hjun hnot) (fun cs b => hsel i oi cs b hi) (fun cs b => hsel j oj cs b hoj) hy h1
      have hfree' : ∀ k ok, ops[k]? = some ok → k ≠ i → (listed.setIfInBounds j true).getD k true = false →
          (∀ e ∈ ok.after, Region.binds md e = true → e.on ≠ i) → oi.apart ops ok = true := fun k ok hk hki hun hno => by
        refine hfree k ok hk hki ?_ hno
        by_cases hjk : j = k
        · subst hjk; exact hjun
        · rw [getD_set_ne true hjk] at hun; exact hun
      refine hOp_mono (fun a' h3 => ih (listed.setIfInBounds j true) a' (inv.set hj hjn) hfree' (ready_mono hr (Ne.symm hji)) h3.1 ?_) h2
      rw [Array.setIfInBounds_comm _ _ hji]
      exact h3.2
/-- Where all operations below m have come up, a new variable may be made first. -/
theorem head_alloc {m n i : Nat} {oi : Oper} {L : Array Bool → Act → Prop} (hi : ops[i]? = some oi) (him : m ≤ i)
    (hs : Region.sinkB md ops n = true) (hc : Region.chainB md ops n = true) (hn : n < ops.size) (hin : i < n)
    (hdone : ∀ listed a, L listed a → ∀ j ∈ Region.ready md ops listed, n ≤ j) :
    ∀ (f : Nat) (listed : Array Bool) (a : Act), HeadInv md ops n listed → (∀ j, j < m → listed.getD j true = true) →
      (∀ j oj, ops[j]? = some oj → j ≠ i → listed.getD j true = false → (∀ e ∈ oj.after, Region.binds md e = true → e.on ≠ i) → oi.apart ops oj = true) →
      i ∈ Region.ready md ops listed →
      (∀ b, wpHead P md ops W m n L f (listed.setIfInBounds i true) (a.put oi.dst (ptr b))) → wpHead P md ops W m n L (f + 1) listed a := by
  have fire : ∀ (K : Act → Prop) (a : Act), (∀ b, K (a.put oi.dst (ptr b))) → hOp P ops W m i K a := fun K a hK => by
    unfold hOp
    simp only [hi]
    rw [if_neg (by omega)]
    exact hK
  intro f
  induction f with
  | zero =>
    intro listed a inv _ _ hr H
    have hun := (mem_ready.1 hr).1
    refine ⟨fun h => (by rw [h] at hr; cases hr), fun j hj => ?_⟩
    have hjn : j < n := by
      rcases Nat.lt_or_ge j n with h | h
      · exact h
      · exact absurd hj (tail_waits hs hc hn inv _ i rfl hin hun j h)
    refine ⟨hjn, ?_⟩
    by_cases hji : j = i
    · subst hji; exact fire _ _ H
    · have := hdone _ _ (H 0) j (ready_mono hj hji)
      omega
  | succ f ih =>
    intro listed a inv hm hfree hr H
    have hun := (mem_ready.1 hr).1
    refine ⟨fun h => (by rw [h] at hr; cases hr), fun j hj => ?_⟩
    have hjn : j < n := by
      rcases Nat.lt_or_ge j n with h | h
      · exact h
      · exact absurd hj (tail_waits hs hc hn inv _ i rfl hin hun j h)
    refine ⟨hjn, ?_⟩
    by_cases hji : j = i
    · subst hji; exact fire _ _ H
    · obtain ⟨hjun, oj, hoj, hall⟩ := mem_ready.1 hj
      have hjm : ¬ j < m := fun h => by rw [hm j h] at hjun; cases hjun
      have hnot : ∀ e ∈ oj.after, Region.binds md e = true → e.on ≠ i := fun e he hb heq => by
        have h1 := hall e he hb
        rw [heq, getD_both hun] at h1
        cases h1
      obtain ⟨_, h2, _⟩ := Oper.apart_spec (hfree j oj hoj hji hjun hnot)
      have hfree' : ∀ k ok, ops[k]? = some ok → k ≠ i → (listed.setIfInBounds j true).getD k true = false →
          (∀ e ∈ ok.after, Region.binds md e = true → e.on ≠ i) → oi.apart ops ok = true := fun k ok hk hki hun hno => by
        refine hfree k ok hk hki ?_ hno
        by_cases hjk : j = k
        · subst hjk; exact hjun
        · rw [getD_set_ne true hjk] at hun; exact hun
      unfold hOp
      simp only [hoj]
      rw [if_neg hjm]
      intro b'
      refine ih (listed.setIfInBounds j true) _ (inv.set hj hjn) (fun k hk => by rw [getD_set_ne true (by omega)]; exact hm k hk) hfree' (ready_mono hr (Ne.symm hji)) (fun b => ?_)
      have h1 := ((H b).2 j (ready_mono hj hji)).2
      unfold hOp at h1
      simp only [hoj] at h1
      rw [if_neg hjm] at h1
      rw [Array.setIfInBounds_comm _ _ hji, ← Act.put_comm a _ _ h2]
      exact h1 b'
/-- The new variables, in the text's order. -/
def wpNew (Q : (Nat → Nat) → Act → Prop) : List Oper → Nat → (Nat → Nat) → Act → Prop
  | [], _, β, a => Q β a
  | o :: rest, k, β, a => ∀ b, wpNew Q rest (k + 1) (fun j => if j = k then b else β j) (a.put o.dst (ptr b))
/-- Operations m to n - 1 are new variables: each writes a slot of its own, below N, that no other operation of the head writes. -/
def newB (ops : Array Oper) (m n N : Nat) : Bool :=
  (List.range n).all fun j => decide (j < m) || match ops[j]? with
    | some o => (match o.dst with | some d => decide (d < N) && ((List.range n).all fun i => i == j || match ops[i]? with | some oi => oi.dst != some d | none => true) | none => false) && o.guard == none
    | none => false
theorem newB_spec {m n N : Nat} (h : newB ops m n N = true) {j : Nat} (h1 : m ≤ j) (h2 : j < n) : ∃ o d, ops[j]? = some o ∧ o.dst = some d ∧ d < N ∧ o.guard = none ∧ ∀ i oi, i < n → i ≠ j → ops[i]? = some oi → oi.dst ≠ some d := by
  have h3 := List.all_eq_true.1 h j (List.mem_range.2 h2)
  simp only [Bool.or_eq_true, decide_eq_true_eq] at h3
  rcases h3 with h3 | h3
  · omega
  cases ho : ops[j]? with
  | none => simp [ho] at h3
  | some o =>
    simp only [ho, Bool.and_eq_true, beq_iff_eq] at h3
    cases hd : o.dst with
    | none => simp [hd] at h3
    | some d =>
      simp only [hd, Bool.and_eq_true, decide_eq_true_eq] at h3
      refine ⟨o, d, rfl, hd, h3.1.1, h3.2, fun i oi hin hij hoi => ?_⟩
      have h4 := List.all_eq_true.1 h3.1.2 i (List.mem_range.2 hin)
      simp only [hoi, Bool.or_eq_true, beq_iff_eq, bne_iff_ne] at h4
      exact h4.resolve_left hij
/-- What is known of the world and the frame on the way: nothing that was there has turned; each variable made lies in a block of its own. -/
structure NewInv (ops : Array Oper) (W : World) (m n N : Nat) (ob : Nat → Obj) (listed : Array Bool) (a : Act) (w : World) (β : Nat → Nat) : Prop where
  below : Below W.heap.size W w
  size : a.tmps.size = N
  at' : ∀ j o d, m ≤ j → j < n → ops[j]? = some o → o.dst = some d → listed.getD j false = true → a.tmps.getD d undef = ptr (β j) ∧ W.heap.size ≤ β j ∧ w.heap[β j]? = some (ob j)
  ne : ∀ j j', m ≤ j → j < n → m ≤ j' → j' < n → listed.getD j false = true → listed.getD j' false = true → j ≠ j' → β j ≠ β j'
theorem put_getD_ne {a : Act} {x : Option Tmp} {v : Value} {d : Nat} (h : x ≠ some d) : (a.put x v).tmps.getD d undef = a.tmps.getD d undef := by
  cases x with
  | none => rfl
  | some e => simp [Act.put, Array.getElem?_setIfInBounds_ne (show e ≠ d from fun h' => h (by rw [h']))]
theorem put_getD_same {a : Act} {v : Value} {d : Nat} (h : d < a.tmps.size) : (a.put (some d) v).tmps.getD d undef = v := by
  simp [Act.put, h]
theorem put_size (a : Act) (x : Option Tmp) (v : Value) : (a.put x v).tmps.size = a.tmps.size := by
  cases x <;> simp [Act.put]
theorem head_sound {m n N g : Nat} {ob : Nat → Obj} {L : Array Bool → Act → Prop} {Q' : Exit → Act → World → Prop} (hmn : m ≤ n) (hnew : newB ops m n N = true)
    (hob : ∀ j o, m ≤ j → j < n → ops[j]? = some o → ∀ ρ w, (execOp ρ o).run P w = .ok (.value (ptr w.heap.size)) (w.alloc (ob j)))
    (hL : ∀ listed a w β, L listed a → NewInv ops W m n N ob listed a w β → wpAny P md ops Q' g listed a w) :
    ∀ (f : Nat) (listed : Array Bool) (a : Act) (w : World) (β : Nat → Nat), NewInv ops W m n N ob listed a w β → listed.size = ops.size → wpHead P md ops W m n L f listed a → wpAny P md ops Q' (f + g) listed a w
  | 0, listed, a, w, β, J, _, h => by rw [Nat.zero_add]; exact hL _ _ _ _ h J
  | f + 1, listed, a, w, β, J, hls, h => by
    rw [show f + 1 + g = (f + g) + 1 by omega]
    refine ⟨fun h0 => absurd h0 h.1, fun i hi => ?_⟩
    obtain ⟨hin, hh⟩ := h.2 i hi
    obtain ⟨hun, o, ho, _⟩ := mem_ready.1 hi
    have hil : i < listed.size := by rw [hls]; exact (Array.getElem?_eq_some_iff.1 ho).1
    unfold hOp at hh
    simp only [ho] at hh
    by_cases him : i < m
    · rw [if_pos him] at hh
      obtain ⟨v, hy, hK⟩ := hh
      have keep : ∀ w', Below w.heap.size w w' → wpAny P md ops Q' (f + g) (listed.setIfInBounds i true) (a.put o.dst v) w' := fun w' hb => by
        refine head_sound hmn hnew hob hL f _ _ _ β ⟨below_step J.below hb, by rw [put_size]; exact J.size, fun j oj d h1 h2 h3 h4 h5 => ?_, fun j j' h1 h2 h3 h4 h5 h6 => ?_⟩ (by simp [hls]) hK
        · obtain ⟨o', d', e1, e2, _, _, e5⟩ := newB_spec hnew h1 h2
          have : o' = oj := Option.some.inj (e1.symm.trans h3)
          subst this
          have : d' = d := Option.some.inj (e2.symm.trans h4)
          subst this
          have hij : i ≠ j := by omega
          rw [getD_set_ne false hij] at h5
          obtain ⟨q1, q2, q3⟩ := J.at' j o' d' h1 h2 h3 h4 h5
          refine ⟨by rw [put_getD_ne (e5 i o hin hij ho)]; exact q1, q2, ?_⟩
          rw [hb.block _ (Array.getElem?_eq_some_iff.1 q3).1]; exact q3
        · have hij : i ≠ j := by omega
          have hij' : i ≠ j' := by omega
          rw [getD_set_ne false hij] at h5
          rw [getD_set_ne false hij'] at h6
          exact J.ne j j' h1 h2 h3 h4 h5 h6
      unfold wpOp
      simp only [ho]
      rcases hy with ⟨hw, hv⟩ | ⟨hw, rfl⟩
      · simp only [hw, if_true]
        refine .inl ?_
        obtain ⟨p, hp⟩ := regrown_of_below J.below
        have h3 := hv p
        rw [← hp] at h3
        unfold Oper.wp
        generalize (execOp a.eval o).run P w = r at *
        cases r with
        | ok nx w' =>
          cases nx <;> simp only [bqUpon] at h3 <;> simp only [Oper.upon]
          case value u => obtain ⟨rfl, rfl⟩ := h3; exact keep _ (Below.refl _ _)
          case skip => obtain ⟨rfl, rfl⟩ := h3; exact keep _ (Below.refl _ _)
          case enter fn args =>
            obtain ⟨rfl, hc⟩ := h3
            exact hc.mono fun e w'' ⟨he, hw''⟩ => by subst he; exact keep _ hw''
        | halt x w' => simp only [bqUpon] at h3
      · simp only [hw, Bool.false_eq_true, if_false]
        exact keep _ (Below.refl _ _)
    · rw [if_neg him] at hh
      obtain ⟨o', d, e1, e2, e3, e4, e5⟩ := newB_spec hnew (show m ≤ i by omega) hin
      have : o' = o := Option.some.inj (e1.symm.trans ho)
      subst this
      unfold wpOp
      simp only [ho]
      have hw : Region.wanted o' (yielded ops a.tmps) = true := by simp [Region.wanted, e4]
      simp only [hw, if_true]
      refine .inl ?_
      unfold Oper.wp
      rw [hob i o' (by omega) hin ho]
      simp only [Oper.upon]
      refine head_sound hmn hnew hob hL f _ _ _ (fun j => if j = i then w.heap.size else β j) ⟨J.below.alloc J.below.size _, by rw [put_size]; exact J.size, fun j oj d' h1 h2 h3 h4 h5 => ?_, fun j j' h1 h2 h3 h4 h5 h6 hne => ?_⟩ (by simp [hls]) (hh w.heap.size)
      · by_cases hij : j = i
        · subst hij
          have : o' = oj := Option.some.inj (ho.symm.trans h3)
          subst this
          have : d = d' := Option.some.inj (e2.symm.trans h4)
          subst this
          refine ⟨?_, ?_, ?_⟩
          · rw [e2, if_pos rfl]; exact put_getD_same (by rw [J.size]; exact e3)
          · rw [if_pos rfl]; exact J.below.size
          · rw [if_pos rfl]; show (w.heap.push _)[w.heap.size]? = _; simp
        · rw [getD_set_ne false (Ne.symm hij)] at h5
          obtain ⟨q1, q2, q3⟩ := J.at' j oj d' h1 h2 h3 h4 h5
          refine ⟨?_, ?_, ?_⟩
          · rw [if_neg hij, put_getD_ne]
            · exact q1
            · intro hd
              have := e5 j oj h2 hij h3
              rw [h4] at this
              rw [e2] at hd
              exact this hd.symm
          · rw [if_neg hij]; exact q2
          · rw [if_neg hij, Below.heap_alloc _ _ _ (Array.getElem?_eq_some_iff.1 q3).1]; exact q3
      · have lt : ∀ k, m ≤ k → k < n → k ≠ i → (listed.setIfInBounds i true).getD k false = true → β k < w.heap.size := fun k k1 k2 k3 k4 => by
          obtain ⟨ok, dk, f1, f2, _, _, _⟩ := newB_spec hnew k1 k2
          rw [getD_set_ne false (Ne.symm k3)] at k4
          exact (Array.getElem?_eq_some_iff.1 (J.at' k ok dk k1 k2 f1 f2 k4).2.2).1
        by_cases a1 : j = i
        · by_cases a2 : j' = i
          · omega
          · show (if j = i then w.heap.size else β j) ≠ (if j' = i then w.heap.size else β j')
            rw [if_pos a1, if_neg a2]; have := lt j' h3 h4 a2 h6; omega
        · by_cases a2 : j' = i
          · show (if j = i then w.heap.size else β j) ≠ (if j' = i then w.heap.size else β j')
            rw [if_neg a1, if_pos a2]; have := lt j h1 h2 a1 h5; omega
          · show (if j = i then w.heap.size else β j) ≠ (if j' = i then w.heap.size else β j')
            rw [if_neg a1, if_neg a2]
            rw [getD_set_ne false (Ne.symm a1)] at h5
            rw [getD_set_ne false (Ne.symm a2)] at h6
            exact J.ne j j' h1 h2 h3 h4 h5 h6 hne
/-- What holds where the head has come up whole. -/
def HeadDone (md : Region.Mode) (ops : Array Oper) (m n g : Nat) (Lq : (Nat → Nat) → Act → Prop) (listed : Array Bool) (a : Act) : Prop :=
  Region.seqB md ops g n listed = true ∧ (∀ j, j < n → listed.getD j false = true) ∧ ∃ β : Nat → Nat, (∀ j o d, m ≤ j → j < n → ops[j]? = some o → o.dst = some d → a.tmps.getD d undef = ptr (β j)) ∧ Lq β a
theorem lex_new {m n g N : Nat} {Lq : (Nat → Nat) → Act → Prop} (hs : Region.sinkB md ops n = true) (hc : Region.chainB md ops n = true) (hn : n < ops.size) (hnew : newB ops m n N = true) :
    ∀ (l : List Oper) (k : Nat) (listed : Array Bool) (β : Nat → Nat) (a : Act), (∀ j, j < l.length → l[j]? = ops[k + j]?) → k + l.length = n → m ≤ k → HeadInv md ops n listed → listed.size = ops.size → (∀ j, j < k → listed.getD j false = true) →
    Region.lexHead md ops g l.length k listed = true → a.tmps.size = N → (∀ j o d, m ≤ j → j < k → ops[j]? = some o → o.dst = some d → a.tmps.getD d undef = ptr (β j)) → wpNew Lq l k β a →
    wpHead P md ops W m n (HeadDone md ops m n g Lq) l.length listed a
  | [], k, listed, β, a, _, hk, _, _, _, hd, hB, _, ht, h => by
    have : k = n := by simpa using hk
    subst this
    exact ⟨by simpa [Region.lexHead] using hB, hd, β, ht, h⟩
  | o :: l, k, listed, β, a, hl, hk, hmk, inv, hls, hd, hB, hN, ht, h => by
    have h0 : ops[k]? = some o := by simpa using (hl 0 (by simp)).symm
    simp only [List.length_cons, Region.lexHead, Bool.and_eq_true] at hB
    obtain ⟨⟨hr, hf⟩, hB'⟩ := hB
    have hkn : k < n := by simp only [List.length_cons] at hk; omega
    have hr' : k ∈ Region.ready md ops listed := by simpa using hr
    obtain ⟨o', d, e1, e2, e3, e4, e5⟩ := newB_spec hnew hmk hkn
    have : o' = o := Option.some.inj (e1.symm.trans h0)
    subst this
    have hkl : k < listed.size := by rw [hls]; exact (Array.getElem?_eq_some_iff.1 h0).1
    refine head_alloc h0 hmk hs hc hn hkn (fun listed' a' hL => seqB_ready hL.1) l.length listed a inv (fun j hj => ?_) (Region.free_spec h0 hf) hr' (fun b => ?_)
    · have h1 := hd j (by omega)
      have h2 : j < listed.size := by
        rcases Nat.lt_or_ge j listed.size with h' | h'
        · exact h'
        · simp [Array.getElem?_eq_none h'] at h1
      simp [h2] at h1 ⊢; exact h1
    · refine lex_new hs hc hn hnew l (k + 1) _ (fun j => if j = k then b else β j) _ (fun j hj => by have := hl (j + 1) (by simp; omega); simpa [Nat.add_assoc, Nat.add_comm 1 j] using this) (by simp only [List.length_cons] at hk; omega) (by omega) (inv.set hr' hkn) (by simp [hls]) (fun j hj => ?_) hB' (by rw [put_size]; exact hN) (fun j oj dj h1 h2 h3 h4 => ?_) (h b)
      · by_cases hjk : k = j
        · subst hjk; simp [hkl]
        · rw [getD_set_ne false hjk]; exact hd j (by omega)
      · by_cases hjk : j = k
        · subst hjk
          have : o' = oj := Option.some.inj (h0.symm.trans h3)
          subst this
          have : d = dj := Option.some.inj (e2.symm.trans h4)
          subst this
          rw [e2, if_pos rfl]; exact put_getD_same (by rw [hN]; exact e3)
        · rw [if_neg hjk, put_getD_ne]
          · exact ht j oj dj h1 (by omega) h3 h4
          · intro hd'
            have := e5 j oj (by omega) hjk h3
            rw [h4] at this
            rw [e2] at hd'
            exact this hd'.symm
theorem lex_quiet {m n g N : Nat} {Lq : (Nat → Nat) → Act → Prop} (hsel : Region.noSelect ops = true) (hs : Region.sinkB md ops n = true) (hc : Region.chainB md ops n = true) (hn : n < ops.size) (hmn : m ≤ n) (hnew : newB ops m n N = true) (l2 : List Oper) (hl2 : ∀ j, j < l2.length → l2[j]? = ops[m + j]?) (hk2 : m + l2.length = n) (β : Nat → Nat) :
    ∀ (l : List Oper) (k : Nat) (listed : Array Bool) (a : Act), (∀ j, j < l.length → l[j]? = ops[k + j]?) → k + l.length = m → HeadInv md ops n listed → listed.size = ops.size → (∀ j, j < k → listed.getD j false = true) →
    Region.lexHead md ops g (l.length + l2.length) k listed = true → a.tmps.size = N → wpBQ P ops W (fun a' => wpNew Lq l2 m β a') l a →
    wpHead P md ops W m n (HeadDone md ops m n g Lq) (l.length + l2.length) listed a
  | [], k, listed, a, _, hk, inv, hls, hd, hB, hN, h => by
    have : k = m := by simpa using hk
    subst this
    simp only [List.length_nil, Nat.zero_add] at hB ⊢
    exact lex_new hs hc hn hnew l2 k listed β a hl2 hk2 (Nat.le_refl _) inv hls hd hB hN (fun j o d h1 h2 _ _ => by omega) h
  | o :: l, k, listed, a, hl, hk, inv, hls, hd, hB, hN, h => by
    have h0 : ops[k]? = some o := by simpa using (hl 0 (by simp)).symm
    rw [show (o :: l).length + l2.length = (l.length + l2.length) + 1 by simp only [List.length_cons]; omega] at hB ⊢
    simp only [Region.lexHead, Bool.and_eq_true] at hB
    obtain ⟨⟨hr, hf⟩, hB'⟩ := hB
    have hkm : k < m := by simp only [List.length_cons] at hk; omega
    have hkn : k < n := by omega
    have hr' : k ∈ Region.ready md ops listed := by simpa using hr
    have hkl : k < listed.size := by rw [hls]; exact (Array.getElem?_eq_some_iff.1 h0).1
    have hy : ∃ v, YB P ops W o v a ∧ wpBQ P ops W (fun a' => wpNew Lq l2 m β a') l (a.put o.dst v) := by
      unfold wpBQ at h
      by_cases hw : Region.wanted o (yielded ops a.tmps) = true
      · simp only [hw, if_true] at h
        obtain ⟨v, h1, h2⟩ := h
        exact ⟨v, .inl ⟨hw, h1⟩, h2⟩
      · simp only [hw] at h
        exact ⟨undef, .inr ⟨by simpa using hw, rfl⟩, h⟩
    obtain ⟨v, hy, hK⟩ := hy
    exact head_first h0 hkm (Region.noSelect_spec hsel) hs hc hn hkn (fun listed' a' hL => seqB_ready hL.1) (l.length + l2.length) listed a inv (Region.free_spec h0 hf) hr' hy
      (lex_quiet hsel hs hc hn hmn hnew l2 hl2 hk2 β l (k + 1) _ _ (fun j hj => by have := hl (j + 1) (by simp; omega); simpa [Nat.add_assoc, Nat.add_comm 1 j] using this) (by simp only [List.length_cons] at hk; omega) (inv.set hr' hkn) (by simp [hls]) (fun j hj => by
        by_cases hjk : k = j
        · subst hjk; simp [hkl]
        · rw [getD_set_ne false hjk]; exact hd j (by omega)) hB' (by rw [put_size]; exact hN) hK)
/-- **A region that draws its order: operations 0 to m - 1 read or call, m to n - 1 make variables, the rest waits for all of them, each for the one before: one walk in the text's order.** -/
theorem wpAny_tail {Q : Exit → Act → World → Prop} {a : Act} {l : List Oper} (m n N : Nat) (ob : Nat → Obj) (hmn : m ≤ n) (hB : Region.lexTailB .any l.toArray n = true) (hnew : newB l.toArray m n N = true)
    (hob : ∀ j o, m ≤ j → j < n → l[j]? = some o → ∀ ρ w, (execOp ρ o).run P w = .ok (.value (ptr w.heap.size)) (w.alloc (ob j))) (hN : a.tmps.size = N)
    (h : wpBQ P l.toArray W (wpNew (fun β a' => ∀ w', Below W.heap.size W w' → (∀ j, m ≤ j → j < n → W.heap.size ≤ β j ∧ w'.heap[β j]? = some (ob j)) → (∀ j j', m ≤ j → j < n → m ≤ j' → j' < n → j ≠ j' → β j ≠ β j') → wpList P l.toArray Q (l.drop n) a' w') ((l.take n).drop m) m (fun _ => 0)) (l.take m) a) :
    wpAny P .any l.toArray Q l.toArray.size (Array.replicate l.toArray.size false) a { W with drawn := W.drawn + 1 } := by
  simp only [Region.lexTailB, Bool.and_eq_true, decide_eq_true_eq] at hB
  obtain ⟨⟨⟨⟨hsel, hn⟩, hs⟩, hc⟩, hlex⟩ := hB
  have hn' : n < l.length := by simpa using hn
  have htl : (l.take m).length = m := by simp; omega
  have ht2 : ((l.take n).drop m).length = n - m := by simp; omega
  have hdl : (l.drop n).length = l.toArray.size - n := by simp
  have inv0 : HeadInv .any l.toArray n (Array.replicate l.toArray.size false) :=
    ⟨by simp, fun j oj _ hl => (by rw [getD_replicate_false] at hl; cases hl), fun t _ ht => getD_in (by simpa using ht) (getD_replicate_false _ _)⟩
  have H := lex_quiet (P := P) (W := W) (md := .any) (g := l.toArray.size - n) hsel hs hc hn hmn hnew ((l.take n).drop m) (fun j hj => by
      have hj' : m + j < n := by rw [ht2] at hj; omega
      simp [List.getElem?_drop, hj']) (by rw [ht2]; omega) (fun _ => 0) (l.take m) 0 _ a (fun j hj => by
      have hj' : j < m := by rw [htl] at hj; exact hj
      simp [hj']) (by simpa using htl) inv0 (by simp) (fun j hj => by omega) (by rw [htl, ht2, show m + (n - m) = n by omega]; exact hlex) hN h
  have := head_sound (P := P) (W := W) (md := .any) (N := N) (ob := ob) (Q' := Q) (g := l.toArray.size - n) hmn hnew (fun j o h1 h2 h3 => hob j o h1 h2 (by simpa using h3)) (fun listed a' w' β' hL J => by
    obtain ⟨hq, hd, β, ht, hK⟩ := hL
    have hβ : ∀ j, m ≤ j → j < n → β j = β' j := fun j h1 h2 => by
      obtain ⟨o, d, e1, e2, _, _, _⟩ := newB_spec hnew h1 h2
      have q1 := ht j o d h1 h2 e1 e2
      have q2 := (J.at' j o d h1 h2 e1 e2 (hd j h2)).1
      rw [q1] at q2
      simpa [ptr] using q2
    have := wpAny_of_seq (md := .any) (Q' := Q) (l.drop n) n listed a' w' (fun j => by simp [List.getElem?_drop]) (by rw [hdl]; exact hq) (hK w' J.below (fun j h1 h2 => by
        obtain ⟨o, d, e1, e2, _, _, _⟩ := newB_spec hnew h1 h2
        rw [hβ j h1 h2]; exact (J.at' j o d h1 h2 e1 e2 (hd j h2)).2) (fun j j' h1 h2 h3 h4 h5 => by
        rw [hβ j h1 h2, hβ j' h3 h4]; exact J.ne j j' h1 h2 h3 h4 (hd j h2) (hd j' h4) h5))
    rwa [hdl] at this) _ _ _ { W with drawn := W.drawn + 1 } (fun _ => 0) ⟨⟨rfl, rfl, rfl, Nat.le_refl _, fun _ _ => rfl⟩, hN, fun j o d _ _ _ _ h5 => (by rw [getD_replicate_false] at h5; cases h5), fun j j' _ _ _ _ h5 => (by rw [getD_replicate_false] at h5; cases h5)⟩ (by simp) H
  rw [htl, ht2, show m + (n - m) + (l.toArray.size - n) = l.toArray.size by omega] at this
  exact this
theorem wp_region_tail {id : Nat} {Q : Exit → Act → World → Prop} {a : Act} {l : List Oper} (m n N : Nat) (ob : Nat → Obj) (hm : P.follows .mixedOrders = true) (hmn : m ≤ n) (hB : Region.lexTailB .any l.toArray n = true) (hnew : newB l.toArray m n N = true)
    (hob : ∀ j o, m ≤ j → j < n → l[j]? = some o → ∀ ρ w, (execOp ρ o).run P w = .ok (.value (ptr w.heap.size)) (w.alloc (ob j))) (hN : a.tmps.size = N)
    (h : wpBQ P l.toArray W (wpNew (fun β a' => ∀ w', Below W.heap.size W w' → (∀ j, m ≤ j → j < n → W.heap.size ≤ β j ∧ w'.heap[β j]? = some (ob j)) → (∀ j j', m ≤ j → j < n → m ≤ j' → j' < n → j ≠ j' → β j ≠ β j') → wpList P l.toArray Q (l.drop n) a' w') ((l.take n).drop m) m (fun _ => 0)) (l.take m) a) :
    (Code.region id l.toArray true).wp P Q a W :=
  wp_region_any hm (wpAny_tail m n N ob hmn hB hnew hob hN h)
end
end Go.Proofs.YtdmegkkifiahdaaGreat
/- The walks of package plane's inner functions: turns, places on segments, meeting segments, squares of distances, nearness, roots. -/
namespace Go.Proofs.YtdmegkkifiahdaaGreat
open Go.RowKit
attribute [local go_sem] bqOp bqAll bqUpon
attribute [local irreducible] wpQuiet wpBQ
theorem crs_bd {ax ay bx by' cx cy : Int} (ha : Vld ax ay) (hb : Vld bx by') (hc : Vld cx cy) :
    (-4000000000000 ≤ (bx - ax) * (cy - ay) ∧ (bx - ax) * (cy - ay) ≤ 4000000000000) ∧ (-4000000000000 ≤ (by' - ay) * (cx - ax) ∧ (by' - ay) * (cx - ax) ≤ 4000000000000) := by
  obtain ⟨a1, a2, a3, a4⟩ := ha
  obtain ⟨b1, b2, b3, b4⟩ := hb
  obtain ⟨c1, c2, c3, c4⟩ := hc
  exact ⟨mul_bd (A := 2000000) (B := 2000000) (by omega) (by omega) (by omega) (by omega), mul_bd (A := 2000000) (B := 2000000) (by omega) (by omega) (by omega) (by omega)⟩
theorem turn_any (ax ay bx by' cx cy : Int) (w : World) (ha : Vld ax ay) (hb : Vld bx by') (hc : Vld cx cy) {s : Int} (hs : (crs ax ay bx by' cx cy).sign = s) :
    Calls Tryz.prog 387 #[.agg #[.int .i64 ax, .int .i64 ay], .agg #[.int .i64 bx, .int .i64 by'], .agg #[.int .i64 cx, .int .i64 cy]] w fun e w' => e = .returned (.int .i64 s) ∧ Below w.heap.size w w' := by
  subst hs
  obtain ⟨⟨m1, m2⟩, m3, m4⟩ := crs_bd ha hb hc
  obtain ⟨a1, a2, a3, a4⟩ := ha
  obtain ⟨b1, b2, b3, b4⟩ := hb
  obtain ⟨c1, c2, c3, c4⟩ := hc
  go_enter Tryz.func387, Tryz.ntmps387
  go_wp2
  refine wp_named fun W hW => ?_
  obtain ⟨p1, p2, p3, hB⟩ := box3 hW
  clear hW
  have q1 := cellsR p1
  have q2 := cellsR p2
  have q3 := cellsR p3
  clear p1 p2 p3
  (refine wp_region_quiet_below (by kernel_rfl) (by kernel_rfl) ?_; (repeat (refine wpQuiet_step (fun K hK => ?_); replace hK := Lib.hid hK; go_simp; first | (refine hK.out _ ?_; clear hK K) | (apply Exists.intro; refine ⟨fun _ => ?_, hK.out _ ?_⟩; (first | (go_at_call 344; exact Calls.regrown_of (from_any _ _ _ _ _ (by omega) (by omega) (by omega) (by omega))) | (go_at_call 410; exact Calls.regrown_of (cross_any _ _ _ _ _ (by omega) (by omega) (by omega) (by omega) (by omega) (by omega))) | (go_at_call 225; exact Calls.regrown_of (cmp_any _ _))); clear hK K))); refine wpQuiet_nil ?_)
  intro W1 hW1
  have hB1 := regrown_below hW1
  clear hW1
  go_wp2
  go_returns
  exact ⟨rfl, below_step hB hB1⟩
theorem sign_cases (x : Int) : x.sign = -1 ∨ x.sign = 0 ∨ x.sign = 1 := by
  rcases Int.lt_trichotomy x 0 with h | h | h
  · exact .inl (Int.sign_eq_neg_one_of_neg h)
  · exact .inr (.inl (by rw [h]; rfl))
  · exact .inr (.inr (Int.sign_eq_one_of_pos h))
theorem on_any (px py ax ay bx by' : Int) (w : World) (hp : Vld px py) (ha : Vld ax ay) (hb : Vld bx by') {v : Bool} (hv : onB px py ax ay bx by' = v) :
    Calls Tryz.prog 411 #[.agg #[.int .i64 px, .int .i64 py], .agg #[.int .i64 ax, .int .i64 ay], .agg #[.int .i64 bx, .int .i64 by']] w fun e w' => e = .returned (.bool v) ∧ Below w.heap.size w w' := by
  have key : ∀ s, (crs ax ay bx by' px py).sign = s → s = -1 ∨ s = 0 ∨ s = 1 := fun s h => h ▸ sign_cases _
  obtain ⟨s, hs⟩ : ∃ s, (crs ax ay bx by' px py).sign = s := ⟨_, rfl⟩
  have hc := key s hs
  clear key
  have c0 : s = 0 ↔ crs ax ay bx by' px py = 0 := by rw [← hs]; exact Int.sign_eq_zero_iff_zero
  have HV : Hid (∀ u : Bool, (u = true ↔ OnS px py ax ay bx by') → u = v) := Lib.hid (fun u hu => by
    rw [← hv, onB]
    by_cases h : OnS px py ax ay bx by'
    · simp [h, hu]
    · simp [h]; cases u <;> simp_all)
  have C0 := Lib.hid c0
  have HS := Lib.hid hs
  clear c0 hv hs
  go_enter Tryz.func411, Tryz.ntmps411
  go_wp2_with fail
  refine calls_named fun W hW => ?_
  obtain ⟨p1, p2, p3, hB⟩ := box3 hW
  clear hW
  have q1 := cellsL p1
  have q2 := cellsL p2
  have q3 := cellsL p3
  clear p1 p2 p3
  refine (turn_any _ _ _ _ _ _ _ ha hb hp HS.out).mono ?_
  rintro e w1 ⟨rfl, hb1⟩
  rcases hc with rfl | rfl | rfl
  · have hz : crs ax ay bx by' px py ≠ 0 := fun h => by have := C0.out.2 h; omega
    have HZ := Lib.hid hz
    clear hz C0
    go_wp2
    go_returns
    exact ⟨ret_bool (HV.out _ ⟨fun h => by simp at h, fun h => absurd h.1 HZ.out⟩), below_step hB hb1⟩
  · have hz : crs ax ay bx by' px py = 0 := C0.out.1 rfl
    have HZ := Lib.hid hz
    clear hz C0
    go_wp2
    all_goals (go_returns; exact ⟨ret_bool (HV.out _ ⟨fun h => ⟨HZ.out, by simp at h <;> omega⟩, fun h => by have := h.2; simp <;> omega⟩), below_step hB hb1⟩)
  · have hz : crs ax ay bx by' px py ≠ 0 := fun h => by have := C0.out.2 h; omega
    have HZ := Lib.hid hz
    clear hz C0
    go_wp2
    go_returns
    exact ⟨ret_bool (HV.out _ ⟨fun h => by simp at h, fun h => absurd h.1 HZ.out⟩), below_step hB hb1⟩
end Go.Proofs.YtdmegkkifiahdaaGreat
/- The walks of package plane's meeting segments, squares of distances, nearness, and roots. -/
namespace Go.Proofs.YtdmegkkifiahdaaGreat
open Go.RowKit
attribute [local go_sem] bqOp bqAll bqUpon
attribute [local irreducible] wpQuiet wpBQ
set_option maxHeartbeats 1000000 in
theorem meet_any (ax ay bx by' cx cy dx dy : Int) (w : World) (ha : Vld ax ay) (hb : Vld bx by') (hc : Vld cx cy) (hd : Vld dx dy) {v : Bool} (hv : meetB ax ay bx by' cx cy dx dy = v) :
    Calls Tryz.prog 388 #[.agg #[.int .i64 ax, .int .i64 ay], .agg #[.int .i64 bx, .int .i64 by'], .agg #[.int .i64 cx, .int .i64 cy], .agg #[.int .i64 dx, .int .i64 dy]] w fun e w' => e = .returned (.bool v) ∧ Below w.heap.size w w' := by
  obtain ⟨s1, h1⟩ : ∃ s, (crs ax ay bx by' cx cy).sign = s := ⟨_, rfl⟩
  obtain ⟨s2, h2⟩ : ∃ s, (crs ax ay bx by' dx dy).sign = s := ⟨_, rfl⟩
  obtain ⟨s3, h3⟩ : ∃ s, (crs cx cy dx dy ax ay).sign = s := ⟨_, rfl⟩
  obtain ⟨s4, h4⟩ : ∃ s, (crs cx cy dx dy bx by').sign = s := ⟨_, rfl⟩
  obtain ⟨v1, g1⟩ : ∃ s, onB ax ay cx cy dx dy = s := ⟨_, rfl⟩
  obtain ⟨v2, g2⟩ : ∃ s, onB bx by' cx cy dx dy = s := ⟨_, rfl⟩
  obtain ⟨v3, g3⟩ : ∃ s, onB cx cy ax ay bx by' = s := ⟨_, rfl⟩
  obtain ⟨v4, g4⟩ : ∃ s, onB dx dy ax ay bx by' = s := ⟨_, rfl⟩
  have hv' : (decide (s1 * s2 < 0 ∧ s3 * s4 < 0) || (v1 || (v2 || (v3 || v4)))) = v := by rw [← hv, meetB, crossB, h1, h2, h3, h4, g1, g2, g3, g4]
  have b1 := h1 ▸ sign_bd (crs ax ay bx by' cx cy)
  have b2 := h2 ▸ sign_bd (crs ax ay bx by' dx dy)
  have b3 := h3 ▸ sign_bd (crs cx cy dx dy ax ay)
  have b4 := h4 ▸ sign_bd (crs cx cy dx dy bx by')
  obtain ⟨m1, m2⟩ := mul_bd (a := s1) (b := s2) (A := 1) (B := 1) (by omega) (by omega) (by omega) (by omega)
  obtain ⟨m3, m4⟩ := mul_bd (a := s3) (b := s4) (A := 1) (B := 1) (by omega) (by omega) (by omega) (by omega)
  clear hv b1 b2 b3 b4
  have w1 : IntKind.i64.wrap (s1 * s2) = s1 * s2 := IntWalk.i64_in _ (by omega)
  have w2 : IntKind.i64.wrap (s3 * s4) = s3 * s4 := IntWalk.i64_in _ (by omega)
  have HV := Lib.hid hv'
  clear hv'
  go_enter Tryz.func388, Tryz.ntmps388
  go_wp2_with fail
  refine wp_named fun W hW => ?_
  obtain ⟨p1, p2, p3, p4, hB⟩ := box4 hW
  clear hW
  have q1 := cellsR p1
  have q2 := cellsR p2
  have q3 := cellsR p3
  have q4 := cellsR p4
  by_cases t12 : s1 * s2 < 0 ∧ s3 * s4 < 0
  · obtain ⟨t1, t2⟩ := t12
    (refine wp_region_quiet_below (by kernel_rfl) (by kernel_rfl) ?_; (repeat (refine wpQuiet_step (fun K hK => ?_); replace hK := Lib.hid hK; go_simp; first | (refine hK.out _ ?_; clear hK K) | (apply Exists.intro; refine ⟨fun _ => ?_, hK.out _ ?_⟩; (first | (go_at_call 387; exact Calls.regrown_of (turn_any _ _ _ _ _ _ _ (by assumption) (by assumption) (by assumption) (by assumption)))); clear hK K))); refine wpQuiet_nil ?_)
    intro W1 hW1
    have hB1 := regrown_below hW1
    clear hW1
    go_wp2
    go_returns
    exact ⟨ret_bool (by rw [← HV.out]; simp [t1, t2]), below_step hB hB1⟩
  · have HV' : Hid ((v1 || (v2 || (v3 || v4))) = v) := Lib.hid (by rw [← HV.out]; simp only [t12, decide_false, Bool.false_or])
    clear HV
    by_cases t1 : s1 * s2 < 0
    · have t2 : 0 ≤ s3 * s4 := by omega
      clear t12
      (refine wp_region_quiet_below (by kernel_rfl) (by kernel_rfl) ?_; (repeat (refine wpQuiet_step (fun K hK => ?_); replace hK := Lib.hid hK; go_simp; first | (refine hK.out _ ?_; clear hK K) | (apply Exists.intro; refine ⟨fun _ => ?_, hK.out _ ?_⟩; (first | (go_at_call 387; exact Calls.regrown_of (turn_any _ _ _ _ _ _ _ (by assumption) (by assumption) (by assumption) (by assumption)))); clear hK K))); refine wpQuiet_nil ?_)
      intro W1 hW1
      have hB1 := regrown_below hW1
      clear hW1 q1 q2 q3 q4
      have q1 := cellsL p1
      have q2 := cellsL p2
      have q3 := cellsL p3
      have q4 := cellsL p4
      clear p1 p2 p3 p4
      go_wp2_with fail
      (with_reducible refine (on_any _ _ _ _ _ _ _ ha hc hd g1).mono ?_)
      rintro e w2 ⟨rfl, hb2⟩
      have hB2 := below_step hB1 hb2
      clear hb2
      cases v1 with
      | true =>
        go_wp2_with fail
        go_returns
        exact ⟨ret_bool (by rw [← HV'.out]; simp), below_step hB hB2⟩
      | false =>
        go_wp2_with fail
        (with_reducible refine (on_any _ _ _ _ _ _ _ hb hc hd g2).mono ?_)
        rintro e w3 ⟨rfl, hb3⟩
        have hB3 := below_step hB2 hb3
        clear hb3
        cases v2 with
        | true =>
          go_wp2_with fail
          go_returns
          exact ⟨ret_bool (by rw [← HV'.out]; simp), below_step hB hB3⟩
        | false =>
          go_wp2_with fail
          (with_reducible refine (on_any _ _ _ _ _ _ _ hc ha hb g3).mono ?_)
          rintro e w4 ⟨rfl, hb4⟩
          have hB4 := below_step hB3 hb4
          clear hb4
          cases v3 with
          | true =>
            go_wp2_with fail
            go_returns
            exact ⟨ret_bool (by rw [← HV'.out]; simp), below_step hB hB4⟩
          | false =>
            go_wp2_with fail
            (with_reducible refine (on_any _ _ _ _ _ _ _ hd ha hb g4).mono ?_)
            rintro e w5 ⟨rfl, hb5⟩
            have hB5 := below_step hB4 hb5
            clear hb5
            go_wp2_with fail
            go_returns
            exact ⟨ret_bool (by rw [← HV'.out]; simp), below_step hB hB5⟩
    · have d1 : decide (s1 * s2 < 0) = false := by simp only [decide_eq_false_iff_not]; exact t1
      clear t1
      clear t12
      (refine wp_region_quiet_below (by kernel_rfl) (by kernel_rfl) ?_; (repeat (refine wpQuiet_step (fun K hK => ?_); replace hK := Lib.hid hK; go_simp; first | (refine hK.out _ ?_; clear hK K) | (apply Exists.intro; refine ⟨fun _ => ?_, hK.out _ ?_⟩; (first | (go_at_call 387; exact Calls.regrown_of (turn_any _ _ _ _ _ _ _ (by assumption) (by assumption) (by assumption) (by assumption)))); clear hK K))); refine wpQuiet_nil ?_)
      intro W1 hW1
      have hB1 := regrown_below hW1
      clear hW1 q1 q2 q3 q4
      have q1 := cellsL p1
      have q2 := cellsL p2
      have q3 := cellsL p3
      have q4 := cellsL p4
      clear p1 p2 p3 p4
      go_wp2_with fail
      (with_reducible refine (on_any _ _ _ _ _ _ _ ha hc hd g1).mono ?_)
      rintro e w2 ⟨rfl, hb2⟩
      have hB2 := below_step hB1 hb2
      clear hb2
      cases v1 with
      | true =>
        go_wp2_with fail
        go_returns
        exact ⟨ret_bool (by rw [← HV'.out]; simp), below_step hB hB2⟩
      | false =>
        go_wp2_with fail
        (with_reducible refine (on_any _ _ _ _ _ _ _ hb hc hd g2).mono ?_)
        rintro e w3 ⟨rfl, hb3⟩
        have hB3 := below_step hB2 hb3
        clear hb3
        cases v2 with
        | true =>
          go_wp2_with fail
          go_returns
          exact ⟨ret_bool (by rw [← HV'.out]; simp), below_step hB hB3⟩
        | false =>
          go_wp2_with fail
          (with_reducible refine (on_any _ _ _ _ _ _ _ hc ha hb g3).mono ?_)
          rintro e w4 ⟨rfl, hb4⟩
          have hB4 := below_step hB3 hb4
          clear hb4
          cases v3 with
          | true =>
            go_wp2_with fail
            go_returns
            exact ⟨ret_bool (by rw [← HV'.out]; simp), below_step hB hB4⟩
          | false =>
            go_wp2_with fail
            (with_reducible refine (on_any _ _ _ _ _ _ _ hd ha hb g4).mono ?_)
            rintro e w5 ⟨rfl, hb5⟩
            have hB5 := below_step hB4 hb5
            clear hb5
            go_wp2_with fail
            go_returns
            exact ⟨ret_bool (by rw [← HV'.out]; simp), below_step hB hB5⟩
end Go.Proofs.YtdmegkkifiahdaaGreat
/- The walks of package plane's squares of distances, the comparison of products, nearness, and roots. -/
namespace Go.Proofs.YtdmegkkifiahdaaGreat
open Go.RowKit
attribute [local go_sem] bqOp bqAll bqUpon
attribute [local irreducible] wpQuiet wpBQ
theorem most_any (a b c d : Int) (w : World) (ha : 0 ≤ a) (ha' : a ≤ 9000000000000000000) (hb : 0 ≤ b) (hb' : b ≤ 9000000000000000000) (hc : 0 ≤ c) (hc' : c ≤ 9000000000000000000) (hd : 0 ≤ d) (hd' : d ≤ 9000000000000000000) {v : Bool} (hv : decide (a * b ≤ c * d) = v) :
    Calls Tryz.prog 451 #[.int .i64 a, .int .i64 b, .int .i64 c, .int .i64 d] w fun e w' => e = .returned (.bool v) ∧ w = w' := by
  obtain ⟨a, rfl⟩ := Int.eq_ofNat_of_zero_le ha
  obtain ⟨b, rfl⟩ := Int.eq_ofNat_of_zero_le hb
  obtain ⟨c, rfl⟩ := Int.eq_ofNat_of_zero_le hc
  obtain ⟨d, rfl⟩ := Int.eq_ofNat_of_zero_le hd
  have key : (a * b / 18446744073709551616 < c * d / 18446744073709551616 ∨ (a * b / 18446744073709551616 = c * d / 18446744073709551616 ∧ a * b % 18446744073709551616 ≤ c * d % 18446744073709551616)) ↔ ((a : Int) * b ≤ c * d) := by
    rw [← Int.natCast_mul, ← Int.natCast_mul]; omega
  replace hv : decide (a * b / 18446744073709551616 < c * d / 18446744073709551616 ∨ (a * b / 18446744073709551616 = c * d / 18446744073709551616 ∧ a * b % 18446744073709551616 ≤ c * d % 18446744073709551616)) = v := by rw [← hv]; exact decide_eq_decide.2 key
  clear key
  have x1 := mul64_any a b (by omega) (by omega)
  have x2 := mul64_any c d (by omega) (by omega)
  generalize a * b / 18446744073709551616 = h at *
  generalize a * b % 18446744073709551616 = l at *
  generalize c * d / 18446744073709551616 = i at *
  generalize c * d % 18446744073709551616 = m at *
  have X1 := Lib.hid x1
  have X2 := Lib.hid x2
  have HV := Lib.hid hv
  clear x1 x2 hv
  have c1 : IntKind.u64.wrap (a : Int) = a := wrapN a (by omega)
  have c2 : IntKind.u64.wrap (b : Int) = b := wrapN b (by omega)
  have c3 : IntKind.u64.wrap (c : Int) = c := wrapN c (by omega)
  have c4 : IntKind.u64.wrap (d : Int) = d := wrapN d (by omega)
  go_enter Tryz.func451, Tryz.ntmps451
  go_wp2_with fail
  refine (X1.out _).mono ?_
  rintro e w1 ⟨rfl, rfl⟩
  go_wp2_with fail
  refine (X2.out _).mono ?_
  rintro e w1 ⟨rfl, rfl⟩
  by_cases t1 : (h : Int) < i
  · go_wp2
    go_returns
    exact ⟨ret_bool (by rw [← HV.out]; simp; omega), rfl⟩
  · by_cases t2 : (h : Int) = i
    · have t3 : ((h : Int) == i) = true := by simp [t2]
      have T2 := Lib.hid t2
      clear t2
      go_wp2
      go_returns
      refine ⟨ret_bool ?_, rfl⟩
      rw [← HV.out]
      have := T2.out
      rw [Bool.eq_iff_iff]
      simp
      omega
    · have t3 : ((h : Int) == i) = false := by simp [t2]
      go_wp2
      go_returns
      exact ⟨ret_bool (by rw [← HV.out]; exact decide_eq_decide.2 ⟨fun x => .inl x, fun x => x.elim id (fun y => absurd (congrArg Int.ofNat y.1) t2)⟩), rfl⟩
theorem ret_tup3 {j k l : IntKind} {a b c a' b' c' : Int} (h1 : a = a') (h2 : b = b') (h3 : c = c') : Ending.returned (.tuple #[.int j a, .int k b, .int l c]) = Ending.returned (.tuple #[.int j a', .int k b', .int l c']) := by rw [h1, h2, h3]
theorem sqd_bd {ax ay bx by' : Int} (ha : Vld ax ay) (hb : Vld bx by') : (0 ≤ (bx - ax) * (bx - ax) ∧ (bx - ax) * (bx - ax) ≤ 4000000000000) ∧ (0 ≤ (by' - ay) * (by' - ay) ∧ (by' - ay) * (by' - ay) ≤ 4000000000000) := by
  obtain ⟨a1, a2, a3, a4⟩ := ha
  obtain ⟨b1, b2, b3, b4⟩ := hb
  have m1 := mul_bd (a := bx - ax) (b := bx - ax) (A := 2000000) (B := 2000000) (by omega) (by omega) (by omega) (by omega)
  have m2 := mul_bd (a := by' - ay) (b := by' - ay) (A := 2000000) (B := 2000000) (by omega) (by omega) (by omega) (by omega)
  exact ⟨⟨sq_nn _, by omega⟩, sq_nn _, by omega⟩
theorem foot_bd {px py ax ay bx by' : Int} (hp : Vld px py) (ha : Vld ax ay) (hb : Vld bx by') : (-4000000000000 ≤ (bx - ax) * (px - ax) ∧ (bx - ax) * (px - ax) ≤ 4000000000000) ∧ (-4000000000000 ≤ (by' - ay) * (py - ay) ∧ (by' - ay) * (py - ay) ≤ 4000000000000) := by
  obtain ⟨a1, a2, a3, a4⟩ := ha
  obtain ⟨b1, b2, b3, b4⟩ := hb
  obtain ⟨c1, c2, c3, c4⟩ := hp
  exact ⟨mul_bd (A := 2000000) (B := 2000000) (by omega) (by omega) (by omega) (by omega), mul_bd (A := 2000000) (B := 2000000) (by omega) (by omega) (by omega) (by omega)⟩
set_option maxHeartbeats 1000000 in
theorem square_any (px py ax ay bx by' : Int) (w : World) (hp : Vld px py) (ha : Vld ax ay) (hb : Vld bx by') {n k d : Int} (hn : sqNum px py ax ay bx by' = n) (hk : sqFac px py ax ay bx by' = k) (hd : sqDen px py ax ay bx by' = d) :
    Calls Tryz.prog 450 #[.agg #[.int .i64 px, .int .i64 py], .agg #[.int .i64 ax, .int .i64 ay], .agg #[.int .i64 bx, .int .i64 by']] w fun e w' => e = .returned (.tuple #[.int .i64 n, .int .i64 k, .int .i64 d]) ∧ Below w.heap.size w w' := by
  obtain ⟨⟨m1, m2⟩, m3, m4⟩ := crs_bd ha hb hp
  obtain ⟨⟨m5, m6⟩, m7, m8⟩ := sqd_bd ha hb
  obtain ⟨⟨m9, m10⟩, m11, m12⟩ := foot_bd hp ha hb
  obtain ⟨⟨m13, m14⟩, m15, m16⟩ := sqd_bd ha hp
  obtain ⟨⟨m17, m18⟩, m19, m20⟩ := sqd_bd hb hp
  obtain ⟨a1, a2, a3, a4⟩ := ha
  obtain ⟨b1, b2, b3, b4⟩ := hb
  obtain ⟨c1, c2, c3, c4⟩ := hp
  have HN := Lib.hid hn
  have HK := Lib.hid hk
  have HD := Lib.hid hd
  clear hn hk hd
  go_enter Tryz.func450, Tryz.ntmps450
  go_wp2_with fail
  refine wp_named fun W hW => ?_
  obtain ⟨p1, p2, p3, hB⟩ := box3 hW
  clear hW
  have q1 := cellsR p1
  have q2 := cellsR p2
  have q3 := cellsR p3
  have P1 := Lib.hid p1
  have P2 := Lib.hid p2
  have P3 := Lib.hid p3
  clear p1 p2 p3
  refine wp_region_tail 6 8 53 (fun _ => .cells #[.int .i64 0, .int .i64 0] 366) (by kernel_rfl) (by omega) (by kernel_rfl) (by kernel_rfl) (fun j o h1 h2 h3 ρ w => ?_) (by rfl) ?_
  · obtain rfl | rfl : j = 6 ∨ j = 7 := by omega
    all_goals (simp only [List.getElem?_cons_succ, List.getElem?_cons_zero, Option.some.injEq] at h3; subst h3; clear q1 q2 q3; unfold ptr; go_simp)
  simp only [List.take_succ_cons, List.take_zero, List.drop_succ_cons, List.drop_zero]
  (repeat (refine wpBQ_step (fun K hK => ?_); replace hK := Lib.hid hK; go_simp; first | (refine hK.out _ ?_; clear hK K) | (apply Exists.intro; refine ⟨fun _ => ?_, hK.out _ ?_⟩; (first | (go_at_call 344; exact from_any _ _ _ _ _ (by omega) (by omega) (by omega) (by omega))); clear hK K)))
  refine wpBQ_nil ?_
  intro b9 b10 W2 hW2 hob hne
  have o9 : W.heap.size ≤ b9 ∧ W2.heap[b9]? = some (.cells #[.int .i64 0, .int .i64 0] 366) := hob 6 (by omega) (by omega)
  have o10 : W.heap.size ≤ b10 ∧ W2.heap[b10]? = some (.cells #[.int .i64 0, .int .i64 0] 366) := hob 7 (by omega) (by omega)
  have n1 : b9 ≠ b10 := hne 6 7 (by omega) (by omega) (by omega) (by omega) (by omega)
  have n2 : b10 ≠ b9 := Ne.symm n1
  clear hob hne q1 q2 q3
  have l9 := o9.1
  have l10 := o10.1
  have c9 := cell_block o9.2
  have c10 := cell_block o10.2
  have f9 := free_block o9.2
  have f10 := free_block o10.2
  have O9 := Lib.hid o9.2
  have O10 := Lib.hid o10.2
  clear o9 o10
  simp only [ptr]
  go_wp2_with fail
  refine wp_named fun W3 hW3 => ?_
  have hB3 : Below w.heap.size w W3 := by rw [hW3]; exact (((((below_step hB hW2).setCell (Nat.le_trans hB.size l9) _).setCell (Nat.le_trans hB.size l9) _).setCell (Nat.le_trans hB.size l10) _).setCell (Nat.le_trans hB.size l10) _)
  have hWB : Below W.heap.size W W3 := by rw [hW3]; exact ((((hW2.setCell l9 _).setCell l9 _).setCell l10 _).setCell l10 _)
  have p9 : W3.heap[b9]? = some (.cells #[.int .i64 (bx - ax), .int .i64 (by' - ay)] 366) := by rw [hW3]; exact block_far (block_far (block_set (block_set O9.out _) _) n1 _) n1 _
  have p10 : W3.heap[b10]? = some (.cells #[.int .i64 (px - ax), .int .i64 (py - ay)] 366) := by rw [hW3]; exact block_set (block_set (block_far (block_far O10.out n2 _) n2 _) _) _
  have p1 := block_later hWB P1.out
  have p2 := block_later hWB P2.out
  have p3 := block_later hWB P3.out
  clear hW3 c9 c10 f9 f10 O9 O10 hW2 P1 P2 P3 n1 n2 l9 l10 hWB hB
  have q9 := cellsR p9
  have q10 := cellsR p10
  (refine wp_region_quiet_below (by kernel_rfl) (by kernel_rfl) ?_; (repeat (refine wpQuiet_step (fun K hK => ?_); replace hK := Lib.hid hK; go_simp; first | (refine hK.out _ ?_; clear hK K) | (apply Exists.intro; refine ⟨fun _ => ?_, hK.out _ ?_⟩; (first | (go_at_call 345; exact Calls.regrown_of (dot_any _ _ _ _ _ (by omega) (by omega) (by omega) (by omega) (by omega) (by omega)))); clear hK K))); refine wpQuiet_nil ?_)
  intro W4 hW4
  have hB4 := regrown_below hW4
  have hB5 := below_step hB3 hB4
  clear hW4 q9 q10
  have q9 := cellsL p9
  have q10 := cellsL p10
  have q1 := cellsL p1
  have q2 := cellsL p2
  have q3 := cellsL p3
  clear p9 p10 p1 p2 p3
  by_cases t1 : foot px py ax ay bx by' ≤ 0
  · have e1 := HN.out; have e2 := HK.out; have e3 := HD.out
    rw [sqNum, if_pos t1] at e1
    rw [sqFac, if_pos t1] at e2
    rw [sqDen, if_pos t1] at e3
    subst e1 e2 e3
    unfold foot at t1
    clear HN HK HD
    go_wp2_with fail
    (with_reducible refine (dot_any _ _ _ _ _ (by omega) (by omega) (by omega) (by omega) (by omega) (by omega)).mono ?_)
    rintro e w5 ⟨rfl, hb5⟩
    have hB6 := below_step hB5 hb5
    go_wp2_with fail
    go_returns
    exact ⟨rfl, hB6⟩
  · by_cases t2 : sqd ax ay bx by' ≤ foot px py ax ay bx by'
    · have e1 := HN.out; have e2 := HK.out; have e3 := HD.out
      rw [sqNum, if_neg t1, if_pos t2] at e1
      rw [sqFac, if_neg t1, if_pos t2] at e2
      rw [sqDen, if_neg t1, if_pos t2] at e3
      subst e1 e2 e3
      unfold foot at t1 t2
      unfold sqd at t2
      clear HN HK HD
      go_wp2_with fail
      (with_reducible refine (from_any _ _ _ _ _ (by omega) (by omega) (by omega) (by omega)).mono ?_)
      rintro e w5 ⟨rfl, hb5⟩
      have hB6 := below_step hB5 hb5
      go_wp2_with fail
      refine calls_named fun W7 hW7 => ?_
      have hB7 : Below w.heap.size w W7 := by rw [hW7]; exact hB6.alloc hB6.size _
      (with_reducible refine (dot_any _ _ _ _ _ (by omega) (by omega) (by omega) (by omega) (by omega) (by omega)).mono ?_)
      rintro e w6 ⟨rfl, hb6⟩
      go_wp2_with fail
      go_returns
      exact ⟨rfl, below_step hB7 hb6⟩
    · have e1 := HN.out; have e2 := HK.out; have e3 := HD.out
      rw [sqNum, if_neg t1, if_neg t2] at e1
      rw [sqFac, if_neg t1, if_neg t2] at e2
      rw [sqDen, if_neg t1, if_neg t2] at e3
      subst e1 e2 e3
      unfold foot at t1 t2
      unfold sqd at t2
      clear HN HK HD
      go_wp2_with fail
      (with_reducible refine (cross_any _ _ _ _ _ (by omega) (by omega) (by omega) (by omega) (by omega) (by omega)).mono ?_)
      rintro e w5 ⟨rfl, hb5⟩
      have hB6 := below_step hB5 hb5
      go_wp2_with fail
      all_goals
        go_returns
        exact ⟨ret_tup3 (by unfold crs; omega) (by unfold crs; omega) rfl, hB6⟩
theorem sq_bds {px py ax ay bx by' : Int} (hp : Vld px py) (ha : Vld ax ay) (hb : Vld bx by') : (0 ≤ sqNum px py ax ay bx by' ∧ sqNum px py ax ay bx by' ≤ 8000000000000) ∧ (0 ≤ sqFac px py ax ay bx by' ∧ sqFac px py ax ay bx by' ≤ 8000000000000) ∧ (1 ≤ sqDen px py ax ay bx by' ∧ sqDen px py ax ay bx by' ≤ 8000000000000) := by
  obtain ⟨⟨m1, m2⟩, m3, m4⟩ := crs_bd ha hb hp
  obtain ⟨⟨m5, m6⟩, m7, m8⟩ := sqd_bd ha hb
  obtain ⟨⟨m9, m10⟩, m11, m12⟩ := foot_bd hp ha hb
  obtain ⟨⟨m13, m14⟩, m15, m16⟩ := sqd_bd ha hp
  obtain ⟨⟨m17, m18⟩, m19, m20⟩ := sqd_bd hb hp
  unfold sqNum sqFac sqDen foot sqd crs
  by_cases t1 : (bx - ax) * (px - ax) + (by' - ay) * (py - ay) ≤ 0
  · simp only [t1, if_true]; omega
  · by_cases t2 : (bx - ax) * (bx - ax) + (by' - ay) * (by' - ay) ≤ (bx - ax) * (px - ax) + (by' - ay) * (py - ay)
    · simp only [t1, t2, if_true, if_false]; omega
    · simp only [t1, t2, if_false]; omega
theorem near_any (px py ax ay bx by' r : Int) (w : World) (hp : Vld px py) (ha : Vld ax ay) (hb : Vld bx by') (h1 : 0 ≤ r) (h2 : r ≤ 3000000) {v : Bool} (hv : nearB px py ax ay bx by' r = v) :
    Calls Tryz.prog 449 #[.agg #[.int .i64 px, .int .i64 py], .agg #[.int .i64 ax, .int .i64 ay], .agg #[.int .i64 bx, .int .i64 by'], .int .i64 r] w fun e w' => e = .returned (.bool v) ∧ Below w.heap.size w w' := by
  obtain ⟨⟨n1, n2⟩, ⟨k1, k2⟩, d1, d2⟩ := sq_bds hp ha hb
  obtain ⟨n, hn⟩ : ∃ n, sqNum px py ax ay bx by' = n := ⟨_, rfl⟩
  obtain ⟨k, hk⟩ : ∃ n, sqFac px py ax ay bx by' = n := ⟨_, rfl⟩
  obtain ⟨d, hd⟩ : ∃ n, sqDen px py ax ay bx by' = n := ⟨_, rfl⟩
  rw [nearB, hn, hk, hd] at hv
  rw [hn] at n1 n2
  rw [hk] at k1 k2
  rw [hd] at d1 d2
  obtain ⟨r1, r2⟩ := mul_bd (a := r) (b := r) (A := 3000000) (B := 3000000) (by omega) (by omega) (by omega) (by omega)
  have r3 := sq_nn r
  have hsq := fun w => square_any px py ax ay bx by' w hp ha hb hn hk hd
  have HSQ := Lib.hid hsq
  have HV := Lib.hid hv
  clear hn hk hd hv hsq
  go_enter Tryz.func449, Tryz.ntmps449
  go_wp2_with fail
  refine calls_named fun W hW => ?_
  obtain ⟨p1, p2, p3, hB⟩ := box3 hW
  clear hW p1 p2 p3
  (with_reducible refine (HSQ.out _).mono ?_)
  rintro e w1 ⟨rfl, hb1⟩
  have hB1 := below_step hB hb1
  go_wp2_with fail
  (with_reducible refine (most_any _ _ _ _ _ (by omega) (by omega) (by omega) (by omega) (by omega) (by omega) (by omega) (by omega) HV.out).mono ?_)
  rintro e w2 ⟨rfl, rfl⟩
  go_wp2_with fail
  go_returns
  exact ⟨rfl, hB1⟩
end Go.Proofs.YtdmegkkifiahdaaGreat
/- The walks of package plane's exported functions. -/
namespace Go.Proofs.YtdmegkkifiahdaaGreat
open Go.RowKit
attribute [local go_sem] bqOp bqAll bqUpon
attribute [local irreducible] wpQuiet wpBQ
theorem valids3_yes (ax ay bx by' cx cy : Int) (b c0 : Nat) (w : World) (h : w.heap[b]? = some (.cells #[.int .i64 ax, .int .i64 ay, .int .i64 bx, .int .i64 by', .int .i64 cx, .int .i64 cy] 28)) (hv : Vld ax ay ∧ Vld bx by' ∧ Vld cx cy) :
    Calls Tryz.prog 342 #[.slice (some ⟨b, 0, none⟩) 3 c0] w fun e w' => e = .returned (.bool true) ∧ Below w.heap.size w w' :=
  valids_yes b 3 c0 (fun i => if i = 0 then ax else if i = 1 then bx else cx) (fun i => if i = 0 then ay else if i = 1 then by' else cy) w (by omega) (fun i hi => by rw [cell_block h, cell_block h]; match i, hi with | 0, _ => exact ⟨rfl, rfl⟩ | 1, _ => exact ⟨rfl, rfl⟩ | 2, _ => exact ⟨rfl, rfl⟩)
    (fun i hi => by obtain ⟨h0, h1, h2⟩ := hv; match i, hi with | 0, _ => exact h0 | 1, _ => exact h1 | 2, _ => exact h2)
theorem valids4_yes (ax ay bx by' cx cy dx dy : Int) (b c0 : Nat) (w : World) (h : w.heap[b]? = some (.cells #[.int .i64 ax, .int .i64 ay, .int .i64 bx, .int .i64 by', .int .i64 cx, .int .i64 cy, .int .i64 dx, .int .i64 dy] 28)) (hv : Vld ax ay ∧ Vld bx by' ∧ Vld cx cy ∧ Vld dx dy) :
    Calls Tryz.prog 342 #[.slice (some ⟨b, 0, none⟩) 4 c0] w fun e w' => e = .returned (.bool true) ∧ Below w.heap.size w w' :=
  valids_yes b 4 c0 (fun i => if i = 0 then ax else if i = 1 then bx else if i = 2 then cx else dx) (fun i => if i = 0 then ay else if i = 1 then by' else if i = 2 then cy else dy) w (by omega) (fun i hi => by rw [cell_block h, cell_block h]; match i, hi with | 0, _ => exact ⟨rfl, rfl⟩ | 1, _ => exact ⟨rfl, rfl⟩ | 2, _ => exact ⟨rfl, rfl⟩ | 3, _ => exact ⟨rfl, rfl⟩)
    (fun i hi => by obtain ⟨h0, h1, h2, h3⟩ := hv; match i, hi with | 0, _ => exact h0 | 1, _ => exact h1 | 2, _ => exact h2 | 3, _ => exact h3)
end Go.Proofs.YtdmegkkifiahdaaGreat
/- The walks of package plane's exported functions Turn, On, Meet, Near, Apart, Lies. -/
namespace Go.Proofs.YtdmegkkifiahdaaGreat
open Go.RowKit
theorem Turn_yes (ax ay bx by' cx cy : Int) (w : World) (ha : Vld ax ay) (hb : Vld bx by') (hc : Vld cx cy) {s : Int} (hs : (crs ax ay bx by' cx cy).sign = s) :
    Calls Tryz.prog 319 #[.agg #[.int .i64 ax, .int .i64 ay], .agg #[.int .i64 bx, .int .i64 by'], .agg #[.int .i64 cx, .int .i64 cy]] w fun e w' => e = .returned (.tuple #[.int .i64 s, .int .i64 0]) ∧ Below w.heap.size w w' := by
  go_enter Tryz.func319, Tryz.ntmps319
  go_wp2_with fail
  refine calls_named fun W hW => ?_
  obtain ⟨p1, p2, p3, p4, hB⟩ := box4 hW
  clear hW
  (with_reducible refine (valids3_yes _ _ _ _ _ _ _ _ _ p4 ⟨ha, hb, hc⟩).mono ?_)
  rintro e w1 ⟨rfl, hb1⟩
  have hB1 := below_step hB hb1
  have q1 := cellsL p1
  have q2 := cellsL p2
  have q3 := cellsL p3
  have q4 := cellsL p4
  clear p1 p2 p3 p4
  go_wp2_with fail
  (with_reducible refine (turn_any _ _ _ _ _ _ _ ha hb hc hs).mono ?_)
  rintro e w2 ⟨rfl, hb2⟩
  have hB2 := below_step hB1 hb2
  go_wp2_with fail
  go_ret2
  exact ⟨rfl, hB2⟩
theorem On_yes (px py ax ay bx by' : Int) (w : World) (hp : Vld px py) (ha : Vld ax ay) (hb : Vld bx by') {v : Bool} (hv : onB px py ax ay bx by' = v) :
    Calls Tryz.prog 404 #[.agg #[.int .i64 px, .int .i64 py], .agg #[.int .i64 ax, .int .i64 ay], .agg #[.int .i64 bx, .int .i64 by']] w fun e w' => e = .returned (.tuple #[.bool v, .int .i64 0]) ∧ Below w.heap.size w w' := by
  go_enter Tryz.func404, Tryz.ntmps404
  go_wp2_with fail
  refine calls_named fun W hW => ?_
  obtain ⟨p1, p2, p3, p4, hB⟩ := box4 hW
  clear hW
  (with_reducible refine (valids3_yes _ _ _ _ _ _ _ _ _ p4 ⟨hp, ha, hb⟩).mono ?_)
  rintro e w1 ⟨rfl, hb1⟩
  have hB1 := below_step hB hb1
  have q1 := cellsL p1
  have q2 := cellsL p2
  have q3 := cellsL p3
  have q4 := cellsL p4
  clear p1 p2 p3 p4
  go_wp2_with fail
  (with_reducible refine (on_any _ _ _ _ _ _ _ hp ha hb hv).mono ?_)
  rintro e w2 ⟨rfl, hb2⟩
  have hB2 := below_step hB1 hb2
  go_wp2_with fail
  go_ret2
  exact ⟨rfl, hB2⟩
theorem Meet_yes (ax ay bx by' cx cy dx dy : Int) (w : World) (ha : Vld ax ay) (hb : Vld bx by') (hc : Vld cx cy) (hd : Vld dx dy) {v : Bool} (hv : meetB ax ay bx by' cx cy dx dy = v) :
    Calls Tryz.prog 320 #[.agg #[.int .i64 ax, .int .i64 ay], .agg #[.int .i64 bx, .int .i64 by'], .agg #[.int .i64 cx, .int .i64 cy], .agg #[.int .i64 dx, .int .i64 dy]] w fun e w' => e = .returned (.tuple #[.bool v, .int .i64 0]) ∧ Below w.heap.size w w' := by
  go_enter Tryz.func320, Tryz.ntmps320
  go_wp2_with fail
  refine calls_named fun W hW => ?_
  obtain ⟨p1, p2, p3, p4, p5, hB⟩ := box5 hW
  clear hW
  (with_reducible refine (valids4_yes _ _ _ _ _ _ _ _ _ _ _ p5 ⟨ha, hb, hc, hd⟩).mono ?_)
  rintro e w1 ⟨rfl, hb1⟩
  have hB1 := below_step hB hb1
  have q1 := cellsL p1
  have q2 := cellsL p2
  have q3 := cellsL p3
  have q4 := cellsL p4
  have q5 := cellsL p5
  clear p1 p2 p3 p4 p5
  go_wp2_with fail
  (with_reducible refine (meet_any _ _ _ _ _ _ _ _ _ ha hb hc hd hv).mono ?_)
  rintro e w2 ⟨rfl, hb2⟩
  have hB2 := below_step hB1 hb2
  go_wp2_with fail
  go_ret2
  exact ⟨rfl, hB2⟩
theorem Near_yes (px py ax ay bx by' r : Int) (w : World) (hp : Vld px py) (ha : Vld ax ay) (hb : Vld bx by') (hr : 0 ≤ r ∧ r ≤ 3000000) {v : Bool} (hv : nearB px py ax ay bx by' r = v) :
    Calls Tryz.prog 448 #[.agg #[.int .i64 px, .int .i64 py], .agg #[.int .i64 ax, .int .i64 ay], .agg #[.int .i64 bx, .int .i64 by'], .int .i64 r] w fun e w' => e = .returned (.tuple #[.bool v, .int .i64 0]) ∧ Below w.heap.size w w' := by
  go_enter Tryz.func448, Tryz.ntmps448
  go_wp2_with fail
  refine calls_named fun W hW => ?_
  obtain ⟨p1, p2, p3, p4, hB⟩ := box4 hW
  clear hW
  (with_reducible refine (valids3_yes _ _ _ _ _ _ _ _ _ p4 ⟨hp, ha, hb⟩).mono ?_)
  rintro e w1 ⟨rfl, hb1⟩
  have hB1 := below_step hB hb1
  have q1 := cellsL p1
  have q2 := cellsL p2
  have q3 := cellsL p3
  have q4 := cellsL p4
  clear p1 p2 p3 p4
  go_wp2_with fail
  (with_reducible refine (dist_yes _ _ hr.1 hr.2).mono ?_)
  rintro e w2 ⟨rfl, hb2⟩
  have hB2 := below_step hB1 hb2
  have hW2 := below_step hb1 hb2
  go_wp2_with fail
  (with_reducible refine (near_any _ _ _ _ _ _ _ _ hp ha hb hr.1 hr.2 hv).mono ?_)
  rintro e w3 ⟨rfl, hb3⟩
  have hB3 := below_step hB2 hb3
  go_wp2_with fail
  go_ret2
  exact ⟨rfl, hB3⟩
end Go.Proofs.YtdmegkkifiahdaaGreat
/- The walks of the small functions of package reach: rows of integers in memory, IndexFunc and ContainsFunc, validity. -/
namespace Go.Proofs.YtdmegkkifiahdaaGreat
open Go.RowKit
attribute [local go_sem] bqOp bqAll bqUpon
attribute [local irreducible] wpQuiet wpBQ
set_option linter.unusedVariables false
theorem vld_iff {x y : Int} : Vld x y ↔ -1000000 ≤ x ∧ x ≤ 1000000 ∧ -1000000 ≤ y ∧ y ≤ 1000000 := ⟨fun ⟨a, b, c, d⟩ => ⟨a, b, c, d⟩, fun ⟨a, b, c, d⟩ => ⟨a, b, c, d⟩⟩
instance (x y : Int) : Decidable (Vld x y) := decidable_of_iff _ vld_iff.symm
/-- The slice v has n rows of k integers, X i j. -/
def Rows (k : Nat) (w : World) (v : Value) (n : Nat) (X : Nat → Nat → Int) : Prop :=
  ∃ ad c, v = .slice ad n c ∧ n ≤ 9223372036854775807 ∧ ∀ i, i < n → ∃ g o, ad = some ⟨g, o, none⟩ ∧ ∀ j, j < k → w.cell? ⟨g, o + i * k + j, none⟩ = some (.int .i64 (X i j))
theorem Rows.later {k : Nat} {w w' : World} {v : Value} {n : Nat} {X : Nat → Nat → Int} (h : Rows k w v n X) (hb : Below w.heap.size w w') : Rows k w' v n X := by
  obtain ⟨ad, c, hv, hn, hc⟩ := h
  exact ⟨ad, c, hv, hn, fun i hi => by obtain ⟨g, o, hg, h⟩ := hc i hi; exact ⟨g, o, hg, fun j hj => cell_later hb (h j hj)⟩⟩
theorem Rows.form {k : Nat} {w : World} {v : Value} {n : Nat} {X : Nat → Nat → Int} (h : Rows k w v n X) : ∃ ad c, v = .slice ad n c ∧ Rows k w (.slice ad n c) n X ∧ n ≤ 9223372036854775807 := by
  obtain ⟨ad, c, rfl, hn, hc⟩ := h
  exact ⟨ad, c, rfl, ⟨ad, c, rfl, hn, hc⟩, hn⟩
theorem Rows.row {k : Nat} {w : World} {ad : Option Addr} {c n : Nat} {X : Nat → Nat → Int} (h : Rows k w (.slice ad n c) n X) {i : Nat} (hi : i < n) :
    ∃ g o, ad = some ⟨g, o, none⟩ ∧ ∀ j, j < k → w.cell? ⟨g, o + i * k + j, none⟩ = some (.int .i64 (X i j)) := by
  obtain ⟨ad', c', e, _, hc⟩ := h
  cases e
  exact hc i hi
def fstI (B : Nat → Bool) : Nat → Int
  | 0 => -1
  | n + 1 => if 0 ≤ fstI B n then fstI B n else if B n = true then (n : Int) else -1
theorem fstI_none {B : Nat → Bool} {n : Nat} (h : ∀ i, i < n → B i = false) : fstI B n = -1 := by
  induction n with
  | zero => rfl
  | succ n ih =>
    unfold fstI
    rw [ih (fun i hi => h i (by omega)), h n (by omega)]
    simp
theorem fstI_at {B : Nat → Bool} {m n : Nat} (hm : m < n) (h : ∀ i, i < m → B i = false) (hb : B m = true) : fstI B n = m := by
  induction n with
  | zero => omega
  | succ n ih =>
    unfold fstI
    rcases Nat.lt_or_ge m n with g | g
    · rw [ih g, if_pos (by omega)]
    · obtain rfl : m = n := by omega
      rw [fstI_none h, if_neg (by omega), if_pos hb]
def anyN (B : Nat → Bool) (n : Nat) : Bool := decide (∃ i, i < n ∧ B i = true)
theorem fstI_any (B : Nat → Bool) (n : Nat) : decide (0 ≤ fstI B n) = anyN B n := by
  unfold anyN
  rw [decide_eq_decide]
  constructor
  · intro h
    induction n with
    | zero => simp [fstI] at h
    | succ n ih =>
      unfold fstI at h
      split at h
      · obtain ⟨i, hi, hb⟩ := ih h; exact ⟨i, by omega, hb⟩
      · split at h
        · exact ⟨n, by omega, by assumption⟩
        · omega
  · rintro ⟨i, hi, hb⟩
    induction n with
    | zero => omega
    | succ n ih =>
      unfold fstI
      by_cases g : 0 ≤ fstI B n
      · rw [if_pos g]; exact g
      · rw [if_neg g]
        rcases Nat.lt_or_ge i n with q | q
        · exact absurd (ih q) g
        · obtain rfl : i = n := by omega
          rw [if_pos hb]; omega
theorem fstI_bd (B : Nat → Bool) (n : Nat) : -1 ≤ fstI B n ∧ fstI B n < n := by
  induction n with
  | zero => simp [fstI]
  | succ n ih => unfold fstI; split <;> (try split) <;> omega
end Go.Proofs.YtdmegkkifiahdaaGreat
/- Appends of rows of integers: what append leaves when its second argument is a slice of rows, empty or not. -/
namespace Go.Proofs.YtdmegkkifiahdaaGreat
open Go.RowKit
set_option linter.unusedVariables false
/-- The cells of n rows of k integers. -/
def rowCells (k n : Nat) (X : Nat → Nat → Int) : List Value := (List.range (n * k)).map fun j => .int .i64 (X (j / k) (j % k))
theorem rowCells_len (k n : Nat) (X : Nat → Nat → Int) : (rowCells k n X).length = n * k := by simp [rowCells]
theorem rowCells_get {k n i j : Nat} {X : Nat → Nat → Int} (hi : i < n) (hj : j < k) : (rowCells k n X)[i * k + j]? = some (.int .i64 (X i j)) := by
  have hlt : i * k + j < n * k := by
    have h := Nat.mul_le_mul_right k (show i + 1 ≤ n by omega)
    rw [Nat.add_mul] at h
    omega
  have e1 : (i * k + j) / k = i := by rw [Nat.mul_comm, Nat.mul_add_div (by omega), Nat.div_eq_of_lt hj]; omega
  have e2 : (i * k + j) % k = j := by rw [Nat.mul_comm, Nat.mul_add_mod, Nat.mod_eq_of_lt hj]
  simp [rowCells, hlt, e1, e2]
theorem rowCells_one (k n : Nat) (X : Nat → Nat → Int) : ∀ u ∈ rowCells k n X, u.oneCell' = true := by
  intro u hu
  simp only [rowCells, List.mem_map, List.mem_range] at hu
  obtain ⟨j, _, rfl⟩ := hu
  rfl
theorem Rows.news {k n c : Nat} {w : World} {g o : Nat} {X : Nat → Nat → Int} (hk : 0 < k) (h : Rows k w (.slice (some ⟨g, o, none⟩) n c) n X) : ∀ j u, (rowCells k n X)[j]? = some u → w.cell? ((⟨g, o, none⟩ : Addr).add j) = some u := fun j u hu => by
  have hadd : (⟨g, o, none⟩ : Addr).add j = ⟨g, o + j, none⟩ := by unfold Addr.add; split <;> simp_all
  have hlt : j < n * k := by
    have := (List.getElem?_eq_some_iff.1 hu).1
    rwa [rowCells_len] at this
  have hi : j / k < n := (Nat.div_lt_iff_lt_mul hk).2 hlt
  obtain ⟨g', o', e, hc⟩ := h.row hi
  cases e
  have hm := Nat.mod_lt j hk
  have e := Nat.div_add_mod j k
  have h1 := hc (j % k) hm
  rw [show o + j / k * k + j % k = o + j by rw [Nat.mul_comm]; omega] at h1
  rw [hadd, h1, ← hu, ← rowCells_get (X := X) hi hm, show j / k * k + j % k = j by rw [Nat.mul_comm]; omega]
/-- What is owned reads as rows. -/
theorem owns_rows {k n base : Nat} {w : World} {e : TypeId} {v : Value} {xs : List Value} {X : Nat → Nat → Int} (hn : n ≤ 9223372036854775807) (h : w.ownsRow base e k v n xs) (hx : ∀ i, i < n → ∀ j, j < k → xs[i * k + j]? = some (.int .i64 (X i j))) : Rows k w v n X := by
  rcases h.2 with ⟨rfl, rfl⟩ | ⟨g, cap, cur, rfl, _, hg, _, _, _, ht⟩
  · exact ⟨none, 0, rfl, by omega, fun i hi => by omega⟩
  · refine ⟨_, _, rfl, hn, fun i hi => ⟨g, 0, rfl, fun j hj => ?_⟩⟩
    have hlt : i * k + j < n * k := by
      have h := Nat.mul_le_mul_right k (show i + 1 ≤ n by omega)
      rw [Nat.add_mul] at h
      omega
    have h1 := hx i hi j hj
    rw [← ht, List.getElem?_take_of_lt hlt] at h1
    rw [Nat.zero_add, cell_block hg, ← h1]
    simp
theorem owns_form {k n base : Nat} {w : World} {e : TypeId} {v : Value} {xs : List Value} (h : w.ownsRow base e k v n xs) : ∃ ad c, v = .slice ad n c := by
  rcases h.2 with ⟨rfl, rfl⟩ | ⟨g, cap, cur, rfl, _⟩
  · exact ⟨_, _, rfl⟩
  · exact ⟨_, _, rfl⟩
section
variable {P : Program} (w : World)
theorem grownBy_refl (w : World) (row : Option Nat) : w.grownBy w row := ⟨rfl, rfl, rfl, Nat.le_refl _, fun _ _ _ => rfl⟩
theorem append_none (base : Nat) (t ty e : TypeId) (i : TypeInfo) (size : Nat) (ht : P.underlying t = some (.slice e)) (hi : P.info? e = some i)
    (v : Value) (n : Nat) (xs : List Value) (hown : w.ownsRow base e size v n xs) {c : Nat} :
    (Builtin.append_ #[t, t] ty #[v, .slice none 0 c]).run P w = .ok v w := by
  rcases hown.2 with ⟨rfl, rfl⟩ | ⟨g, cap, cur, rfl, _, _, hnc, _⟩
  · simp [Builtin.append_, run_underlying ht, sizeOf, typeInfo, hi, Builtin.lenOf, Builtin.firstCells]
  · simp [Builtin.append_, run_underlying ht, sizeOf, typeInfo, hi, Builtin.lenOf, Builtin.firstCells, hnc, storeCells]
/-- append of rows: whatever slice they lie in, and if there are none. -/
theorem run_append_rows (base : Nat) (t ty e : TypeId) (i : TypeInfo) (z : Value) (k bytes : Nat) (ht : P.underlying t = some (.slice e)) (hi : P.info? e = some i) (hz : i.zero = some z)
    (hsize : i.size = k) (hby : i.bytes = bytes) (hzs : z.cells.size = k) (hk : 0 < k)
    (v : Value) (n : Nat) (xs : List Value) (hown : w.ownsRow base e k v n xs)
    (ad : Option Addr) (m c : Nat) (X : Nat → Nat → Int) (hX : Rows k w (.slice ad m c) m X)  (h63 : n + m ≤ maxLen) (hbytes : (n + m) * bytes ≤ 140737488355328) (hbase : base ≤ w.heap.size) :
    ∃ ad' c' w', (Builtin.append_ #[t, t] ty #[v, .slice ad m c]).run P w = .ok (.slice ad' (n + m) c') w' ∧ w'.ownsRow base e k (.slice ad' (n + m) c') (n + m) (xs ++ rowCells k m X) ∧ w.grownBy w' v.ownBlock := by
  by_cases hm : m = 0
  · subst hm
    cases ad with
    | none =>
      obtain ⟨ad', c', rfl⟩ := owns_form hown
      refine ⟨ad', c', w, append_none w base t ty e i k ht hi _ n xs hown, ?_, grownBy_refl w _⟩
      simpa [rowCells] using hown
    | some a =>
      obtain ⟨v', w', hr, h2, h3, _⟩ := run_append_own (P := P) w base t ty e i z k bytes ht hi hz hsize hby hzs hk v n xs hown a 0 c [] (by simp) (fun j u hu => by simp at hu) (fun u hu => by simp at hu) h63 hbytes hbase
      obtain ⟨ad', c', rfl⟩ := owns_form h2
      exact ⟨ad', c', w', hr, by simpa [rowCells] using h2, h3⟩
  · obtain ⟨g, o, rfl, _⟩ := hX.row (show 0 < m by omega)
    obtain ⟨v', w', hr, h2, h3, _⟩ := run_append_own (P := P) w base t ty e i z k bytes ht hi hz hsize hby hzs hk v n xs hown ⟨g, o, none⟩ m c (rowCells k m X) (rowCells_len k m X) (hX.news hk) (rowCells_one k m X) h63 hbytes hbase
    obtain ⟨ad', c', rfl⟩ := owns_form h2
    exact ⟨ad', c', w', hr, h2, h3⟩
end
section
variable {P : Program} (w : World)
theorem wp_append_rows {o : Oper} {a : Act} {K : Act → World → Prop} {Q : Exit → Act → World → Prop} (s x : Operand) (t : TypeId)
    (ho : o.op = .call { callee := .builtin .append, args := #[s, x], argTypes := #[t, t] })
    (base : Nat) (e : TypeId) (i : TypeInfo) (z : Value) (k bytes : Nat) (ht : P.underlying t = some (.slice e)) (hi : P.info? e = some i) (hz : i.zero = some z)
    (hsize : i.size = k) (hby : i.bytes = bytes) (hzs : z.cells.size = k) (hk : 0 < k)
    (v : Value) (n : Nat) (xs : List Value) (hs : a.eval s = v) (hown : w.ownsRow base e k v n xs)
    (ad : Option Addr) (m c : Nat) (X : Nat → Nat → Int) (hx : a.eval x = .slice ad m c) (hX : Rows k w (.slice ad m c) m X)  (h63 : n + m ≤ maxLen) (hbytes : (n + m) * bytes ≤ 140737488355328) (hbase : base ≤ w.heap.size)
    (h : ∀ ad' c' w', w'.ownsRow base e k (.slice ad' (n + m) c') (n + m) (xs ++ rowCells k m X) → w.grownBy w' v.ownBlock → K (a.put o.dst (.slice ad' (n + m) c')) w') : o.wp P a w K Q := by
  obtain ⟨ad', c', w', hr, h2, h3⟩ := run_append_rows (P := P) w base t o.type e i z k bytes ht hi hz hsize hby hzs hk v n xs hown ad m c X hX h63 hbytes hbase
  unfold Oper.wp execOp
  simp only [ho, resolve, invoke, builtin, Sem.run_bind, Sem.run_pure, Result.andThen_ok, List.map_toArray, List.map_cons, List.map_nil, hs, hx, hr]
  exact h ad' c' w' h2 h3
theorem step_append_rows {ops : Array Oper} {o : Oper} {a : Act} {K : Act → World → Prop} {Q : Exit → Act → World → Prop} {E : Prop} (hgd : o.guard = none) (s x : Operand) (t : TypeId)
    (ho : o.op = .call { callee := .builtin .append, args := #[s, x], argTypes := #[t, t] })
    (base : Nat) (e : TypeId) (i : TypeInfo) (z : Value) (k bytes : Nat) (ht : P.underlying t = some (.slice e)) (hi : P.info? e = some i) (hz : i.zero = some z)
    (hsize : i.size = k) (hby : i.bytes = bytes) (hzs : z.cells.size = k) (hk : 0 < k)
    (v : Value) (n : Nat) (xs : List Value) (hs : a.eval s = v) (hown : w.ownsRow base e k v n xs)
    (ad : Option Addr) (m c : Nat) (X : Nat → Nat → Int) (hx : a.eval x = .slice ad m c) (hX : Rows k w (.slice ad m c) m X)  (h63 : n + m ≤ maxLen) (hbytes : (n + m) * bytes ≤ 140737488355328) (hbase : base ≤ w.heap.size)
    (h : ∀ ad' c' w', w'.ownsRow base e k (.slice ad' (n + m) c') (n + m) (xs ++ rowCells k m X) → w.grownBy w' v.ownBlock → K (a.put o.dst (.slice ad' (n + m) c')) w') :
    if Region.wanted o (yielded ops a.tmps) = true then Oper.wp P o a w K Q else E := by
  have hw : Region.wanted o (yielded ops a.tmps) = true := by simp [Region.wanted, hgd]
  rw [if_pos hw]
  exact wp_append_rows w s x t ho base e i z k bytes ht hi hz hsize hby hzs hk v n xs hs hown ad m c X hx hX h63 hbytes hbase h
theorem wpList_append_rows {ops : Array Oper} {rest : List Oper} {o : Oper} {a : Act} {Q : Exit → Act → World → Prop} (hgd : o.guard = none) (s x : Operand) (t : TypeId)
    (ho : o.op = .call { callee := .builtin .append, args := #[s, x], argTypes := #[t, t] })
    (base : Nat) (e : TypeId) (i : TypeInfo) (z : Value) (k bytes : Nat) (ht : P.underlying t = some (.slice e)) (hi : P.info? e = some i) (hz : i.zero = some z)
    (hsize : i.size = k) (hby : i.bytes = bytes) (hzs : z.cells.size = k) (hk : 0 < k)
    (v : Value) (n : Nat) (xs : List Value) (hs : a.eval s = v) (hown : w.ownsRow base e k v n xs)
    (ad : Option Addr) (m c : Nat) (X : Nat → Nat → Int) (hx : a.eval x = .slice ad m c) (hX : Rows k w (.slice ad m c) m X)  (h63 : n + m ≤ maxLen) (hbytes : (n + m) * bytes ≤ 140737488355328) (hbase : base ≤ w.heap.size)
    (h : ∀ ad' c' w', w'.ownsRow base e k (.slice ad' (n + m) c') (n + m) (xs ++ rowCells k m X) → w.grownBy w' v.ownBlock → wpList P ops Q rest (a.put o.dst (.slice ad' (n + m) c')) w') : wpList P ops Q (o :: rest) a w :=
  wpList_plain hgd fun _ hK => wp_append_rows w s x t ho base e i z k bytes ht hi hz hsize hby hzs hk v n xs hs hown ad m c X hx hX h63 hbytes hbase fun ad' c' w' h2 h3 => hK _ _ (h ad' c' w' h2 h3)
end
end Go.Proofs.YtdmegkkifiahdaaGreat
