import Derived.WalkKit
import Derived.Lib.QuietBelow
import Derived.Lib.Hide
import Derived.WalkSpells
import Derived.Test.YtdmegkkifiahdaaGreatProg
import Derived.Lib.Mul64
import Derived.Laws.Bits64b
import Derived.BigQuiet
import Derived.Handy
import Derived.StillTail
import Derived.Deep.QuietTactic
import Derived.Outline
import Derived.IntWalk
import Derived.Deep.AppendLies
import Derived.Laws.OwnMore
namespace Go.Proofs.YtdmegkkifiahdaaGreat
open Go.RowKit
theorem wp_named {P : Program} {c : Code} {Q : Exit → Act → World → Prop} {a : Act} {w0 : World} (h : ∀ W, W = w0 → c.wp P Q a W) : c.wp P Q a w0 := h _ rfl
theorem calls_named {P : Program} {f : FuncId} {args : Array Value} {R : Ending → World → Prop} {w0 : World} (h : ∀ W, W = w0 → Calls P f args W R) : Calls P f args w0 R := h _ rfl
theorem ret_bool {a b : Bool} (h : a = b) : Ending.returned (.bool a) = Ending.returned (.bool b) := by rw [h]
theorem ret_int {k : IntKind} {a b : Int} (h : a = b) : Ending.returned (.int k a) = Ending.returned (.int k b) := by rw [h]
theorem below_step {w W w1 : World} (h : Below w.heap.size w W) (h1 : Below W.heap.size W w1) : Below w.heap.size w w1 := h.trans (h1.mono h.size)
theorem lt_block {w : World} {b : Nat} {o : Obj} (h : w.heap[b]? = some o) : b < w.heap.size := (Array.getElem?_eq_some_iff.1 h).1
theorem cell_block {w : World} {b : Nat} {cs : Array Value} {t : TypeId} {m : Nat × Nat} (h : w.heap[b]? = some (.cells cs t m)) (i : Nat) : w.cell? ⟨b, i, none⟩ = cs[i]? := by simp [World.cell?, h]
theorem free_block {w : World} {b : Nat} {cs : Array Value} {t : TypeId} (h : w.heap[b]? = some (.cells cs t (0, 0))) (i : Nat) : w.frozen? ⟨b, i, none⟩ = false := by simp [World.frozen?, h]
theorem block_set {w : World} {b i : Nat} {cs : Array Value} {t : TypeId} {m : Nat × Nat} (h : w.heap[b]? = some (.cells cs t m)) (v : Value) : (w.setCell ⟨b, i, none⟩ v).heap[b]? = some (.cells (cs.setIfInBounds i v) t m) := by
 have hlt := lt_block h
 have h' : w.heap[b] = .cells cs t m := by simpa [Array.getElem?_eq_getElem hlt] using h
 show (w.heap.modify b _)[b]? = _
 rw [Array.getElem?_eq_getElem (by simpa using hlt), Array.getElem_modify_self, h']
 rfl
theorem block_far {w : World} {a : Addr} {b : Nat} {o : Obj} (h : w.heap[b]? = some o) (hne : b ≠ a.block) (v : Value) : (w.setCell a v).heap[b]? = some o := by rw [Below.heap_setCell _ _ _ _ hne]; exact h
theorem block_later {w w1 : World} {b : Nat} {o : Obj} (hb : Below w.heap.size w w1) (h : w.heap[b]? = some o) : w1.heap[b]? = some o := by rw [hb.block _ (lt_block h)]; exact h
theorem block_alloc {w : World} {b : Nat} {o o' : Obj} (h : w.heap[b]? = some o) : (w.alloc o').heap[b]? = some o := by rw [Below.heap_alloc _ _ _ (lt_block h)]; exact h
theorem block_new (w : World) (o : Obj) : (w.alloc o).heap[w.heap.size]? = some o := by show (w.heap.push o)[w.heap.size]? = _; simp
theorem block_new_at {w : World} {k : Nat} (o : Obj) (h : w.heap.size = k) : (w.alloc o).heap[k]? = some o := by subst h; exact block_new w o
theorem box1 {w W : World} {o1 : Obj} (h : W = w.alloc o1) : W.heap[w.heap.size]? = some o1 ∧ Below w.heap.size w W := by
 subst h
 exact ⟨block_new_at _ (by simp), (Below.refl _ _).alloc (Nat.le_refl _) _⟩
theorem box2 {w W : World} {o1 o2 : Obj} (h : W = (w.alloc o1).alloc o2) : W.heap[w.heap.size]? = some o1 ∧ W.heap[w.heap.size + 1]? = some o2 ∧ Below w.heap.size w W := by
 subst h
 exact ⟨block_alloc (block_new_at _ (by simp)), block_new_at _ (by simp), ((Below.refl _ _).alloc (Nat.le_refl _) _).alloc (by simp only [World.size_alloc]; omega) _⟩
theorem box3 {w W : World} {o1 o2 o3 : Obj} (h : W = ((w.alloc o1).alloc o2).alloc o3) : W.heap[w.heap.size]? = some o1 ∧ W.heap[w.heap.size + 1]? = some o2 ∧ W.heap[w.heap.size + 2]? = some o3 ∧ Below w.heap.size w W := by
 subst h
 exact ⟨block_alloc (block_alloc (block_new_at _ (by simp))), block_alloc (block_new_at _ (by simp)), block_new_at _ (by simp), (((Below.refl _ _).alloc (Nat.le_refl _) _).alloc (by simp only [World.size_alloc]; omega) _).alloc (by simp only [World.size_alloc]; omega) _⟩
theorem box4 {w W : World} {o1 o2 o3 o4 : Obj} (h : W = (((w.alloc o1).alloc o2).alloc o3).alloc o4) : W.heap[w.heap.size]? = some o1 ∧ W.heap[w.heap.size + 1]? = some o2 ∧ W.heap[w.heap.size + 2]? = some o3 ∧ W.heap[w.heap.size + 3]? = some o4 ∧ Below w.heap.size w W := by
 subst h
 exact ⟨block_alloc (block_alloc (block_alloc (block_new_at _ (by simp)))), block_alloc (block_alloc (block_new_at _ (by simp))), block_alloc (block_new_at _ (by simp)), block_new_at _ (by simp), ((((Below.refl _ _).alloc (Nat.le_refl _) _).alloc (by simp only [World.size_alloc]; omega) _).alloc (by simp only [World.size_alloc]; omega) _).alloc (by simp only [World.size_alloc]; omega) _⟩
theorem box5 {w W : World} {o1 o2 o3 o4 o5 : Obj} (h : W = ((((w.alloc o1).alloc o2).alloc o3).alloc o4).alloc o5) : W.heap[w.heap.size]? = some o1 ∧ W.heap[w.heap.size + 1]? = some o2 ∧ W.heap[w.heap.size + 2]? = some o3 ∧ W.heap[w.heap.size + 3]? = some o4 ∧ W.heap[w.heap.size + 4]? = some o5 ∧ Below w.heap.size w W := by
 subst h
 exact ⟨block_alloc (block_alloc (block_alloc (block_alloc (block_new_at _ (by simp))))), block_alloc (block_alloc (block_alloc (block_new_at _ (by simp)))), block_alloc (block_alloc (block_new_at _ (by simp))), block_alloc (block_new_at _ (by simp)), block_new_at _ (by simp), (((((Below.refl _ _).alloc (Nat.le_refl _) _).alloc (by simp only [World.size_alloc]; omega) _).alloc (by simp only [World.size_alloc]; omega) _).alloc (by simp only [World.size_alloc]; omega) _).alloc (by simp only [World.size_alloc]; omega) _⟩
theorem box6 {w W : World} {o1 o2 o3 o4 o5 o6 : Obj} (h : W = (((((w.alloc o1).alloc o2).alloc o3).alloc o4).alloc o5).alloc o6) : W.heap[w.heap.size]? = some o1 ∧ W.heap[w.heap.size + 1]? = some o2 ∧ W.heap[w.heap.size + 2]? = some o3 ∧ W.heap[w.heap.size + 3]? = some o4 ∧ W.heap[w.heap.size + 4]? = some o5 ∧ W.heap[w.heap.size + 5]? = some o6 ∧ Below w.heap.size w W := by
 subst h
 exact ⟨block_alloc (block_alloc (block_alloc (block_alloc (block_alloc (block_new_at _ (by simp)))))), block_alloc (block_alloc (block_alloc (block_alloc (block_new_at _ (by simp))))), block_alloc (block_alloc (block_alloc (block_new_at _ (by simp)))), block_alloc (block_alloc (block_new_at _ (by simp))), block_alloc (block_new_at _ (by simp)), block_new_at _ (by simp), ((((((Below.refl _ _).alloc (Nat.le_refl _) _).alloc (by simp only [World.size_alloc]; omega) _).alloc (by simp only [World.size_alloc]; omega) _).alloc (by simp only [World.size_alloc]; omega) _).alloc (by simp only [World.size_alloc]; omega) _).alloc (by simp only [World.size_alloc]; omega) _⟩
theorem regrown_below {W w' : World} (h : ∃ p : Regrown, w' = Sort.grow (redrawn W p.d) p.os) : Below W.heap.size W w' := by
 obtain ⟨p, rfl⟩ := h
 exact below_regrown W p.d p.os
theorem cellsL {W : World} {b : Nat} {cs : Array Value} {t : TypeId} {m : Nat × Nat} (h : W.heap[b]? = some (.cells cs t m)) (w' : World) (hb : Below W.heap.size W w') (i : Nat) : w'.cell? ⟨b, i, none⟩ = cs[i]? := cell_block (block_later hb h) i
theorem cellsR {W : World} {b : Nat} {cs : Array Value} {t : TypeId} {m : Nat × Nat} (h : W.heap[b]? = some (.cells cs t m)) (d : Nat) (os : Array Obj) (i : Nat) : (Sort.grow (redrawn W d) os).cell? ⟨b, i, none⟩ = cs[i]? := cell_block (block_later (below_regrown W d os) h) i
theorem mul_bd {a b A B : Int} (h1 : -A ≤ a) (h2 : a ≤ A) (h3 : -B ≤ b) (h4 : b ≤ B) : -(A * B) ≤ a * b ∧ a * b ≤ A * B := by
 have e1 := Int.mul_nonneg (show 0 ≤ A - a by omega) (show 0 ≤ B - b by omega)
 have e2 := Int.mul_nonneg (show 0 ≤ A + a by omega) (show 0 ≤ B + b by omega)
 have e3 := Int.mul_nonneg (show 0 ≤ A - a by omega) (show 0 ≤ B + b by omega)
 have e4 := Int.mul_nonneg (show 0 ≤ A + a by omega) (show 0 ≤ B - b by omega)
 simp only [Int.sub_mul, Int.mul_sub, Int.add_mul, Int.mul_add] at e1 e2 e3 e4
 omega
theorem sign_bd (a : Int) : -1 ≤ a.sign ∧ a.sign ≤ 1 := by
 rcases Int.lt_trichotomy a 0 with h | h | h
 · simp [Int.sign_eq_neg_one_of_neg h]
 · simp [h]
 · simp [Int.sign_eq_one_of_pos h]
theorem sq_nn (a : Int) : 0 ≤ a * a := by
 rcases Int.le_total 0 a with h | h
 · exact Int.mul_nonneg h h
 · have := Int.mul_nonneg (show 0 ≤ -a by omega) (show 0 ≤ -a by omega)
   rwa [Int.neg_mul_neg] at this
end Go.Proofs.YtdmegkkifiahdaaGreat
namespace Go.Proofs.YtdmegkkifiahdaaGreat
structure Vld (x y : Int) : Prop where
 x1 : -1000000 ≤ x
 x2 : x ≤ 1000000
 y1 : -1000000 ≤ y
 y2 : y ≤ 1000000
def crs (ax ay bx by' cx cy : Int) : Int := (bx - ax) * (cy - ay) - (by' - ay) * (cx - ax)
def OnS (px py ax ay bx by' : Int) : Prop := crs ax ay bx by' px py = 0 ∧ min ax bx ≤ px ∧ px ≤ max ax bx ∧ min ay by' ≤ py ∧ py ≤ max ay by'
instance (px py ax ay bx by' : Int) : Decidable (OnS px py ax ay bx by') := by unfold OnS; exact inferInstance
def onB (px py ax ay bx by' : Int) : Bool := decide (OnS px py ax ay bx by')
def crossB (ax ay bx by' cx cy dx dy : Int) : Bool := decide ((crs ax ay bx by' cx cy).sign * (crs ax ay bx by' dx dy).sign < 0 ∧ (crs cx cy dx dy ax ay).sign * (crs cx cy dx dy bx by').sign < 0)
def meetB (ax ay bx by' cx cy dx dy : Int) : Bool := crossB ax ay bx by' cx cy dx dy || (onB ax ay cx cy dx dy || (onB bx by' cx cy dx dy || (onB cx cy ax ay bx by' || onB dx dy ax ay bx by')))
end Go.Proofs.YtdmegkkifiahdaaGreat
namespace Go.Proofs.YtdmegkkifiahdaaGreat
open Go.RowKit
theorem from_any (ax ay bx by' : Int) (w : World) (h1 : -4000000 ≤ bx - ax) (h2 : bx - ax ≤ 4000000) (h3 : -4000000 ≤ by' - ay) (h4 : by' - ay ≤ 4000000) :
  Calls Tryz.prog 344 #[.agg #[.int .i64 ax, .int .i64 ay], .agg #[.int .i64 bx, .int .i64 by']] w fun e w' => e = .returned (.agg #[.int .i64 (bx - ax), .int .i64 (by' - ay)]) ∧ Below w.heap.size w w' := by
 go_enter Tryz.func344, Tryz.ntmps344
 go_wp2
 go_returns
 exact ⟨rfl, by go_grown⟩
theorem cross_any (ax ay bx by' : Int) (w : World) (h1 : -9000000000000000000 ≤ ax * by') (h1' : ax * by' ≤ 9000000000000000000) (h2 : -9000000000000000000 ≤ ay * bx) (h2' : ay * bx ≤ 9000000000000000000)
  (h3 : -9000000000000000000 ≤ ax * by' - ay * bx) (h3' : ax * by' - ay * bx ≤ 9000000000000000000) :
   Calls Tryz.prog 410 #[.agg #[.int .i64 ax, .int .i64 ay], .agg #[.int .i64 bx, .int .i64 by']] w fun e w' => e = .returned (.int .i64 (ax * by' - ay * bx)) ∧ Below w.heap.size w w' := by
 go_enter Tryz.func410, Tryz.ntmps410
 go_wp2
 go_returns
 exact ⟨rfl, by go_grown⟩
theorem cmp_any (x : Int) (w : World) :
  Calls Tryz.prog 225 #[.int .i64 x, .int .i64 0] w fun e w' => e = .returned (.int .i64 x.sign) ∧ Below w.heap.size w w' := by
 go_enter Tryz.func225, Tryz.ntmps225
 go_wp2
 · go_returns
   exact ⟨ret_int (Int.sign_eq_neg_one_of_neg (by assumption)).symm, by go_grown⟩
 · go_returns
   exact ⟨ret_int (Int.sign_eq_one_of_pos (by assumption)).symm, by go_grown⟩
 · go_returns
   exact ⟨ret_int (by rw [show x = 0 by omega]; rfl), by go_grown⟩
theorem valid_yes (x y : Int) (w : World) (h : Vld x y) : Calls Tryz.prog 142 #[.agg #[.int .i64 x, .int .i64 y]] w fun e w' => e = .returned (.bool true) ∧ Below w.heap.size w w' := by
 obtain ⟨h1, h2, h3, h4⟩ := h
 have m1 : max x y ≤ 1000000 := by omega
 have m2 : -1000000 ≤ min x y := by omega
 go_enter Tryz.func142, Tryz.ntmps142
 go_wp2
 all_goals (go_returns; exact ⟨ret_bool (by simp <;> omega), by go_grown⟩)
theorem valid_no (x y : Int) (w : World) (h : ¬ Vld x y) : Calls Tryz.prog 142 #[.agg #[.int .i64 x, .int .i64 y]] w fun e w' => e = .returned (.bool false) ∧ Below w.heap.size w w' := by
 by_cases m1 : max x y ≤ 1000000
 · have m2 : min x y < -1000000 := by
    rcases Int.lt_or_le (min x y) (-1000000) with h' | h'
    · exact h'
    · exact absurd ⟨by omega, by omega, by omega, by omega⟩ h
   go_enter Tryz.func142, Tryz.ntmps142
   go_wp2
   all_goals (go_returns; exact ⟨ret_bool (by simp <;> omega), by go_grown⟩)
 · have m1 : 1000000 < max x y := by omega
   go_enter Tryz.func142, Tryz.ntmps142
   go_wp2
   all_goals (go_returns; exact ⟨ret_bool (by simp <;> omega), by go_grown⟩)
theorem valids_yes (b n c : Nat) (X Y : Nat → Int) (w : World) (hn : n ≤ 1000) (hc : ∀ i, i < n → w.cell? ⟨b, i * 2, none⟩ = some (.int .i64 (X i)) ∧ w.cell? ⟨b, i * 2 + 1, none⟩ = some (.int .i64 (Y i)))
  (hv : ∀ i, i < n → Vld (X i) (Y i)) :
  Calls Tryz.prog 342 #[.slice (some ⟨b, 0, none⟩) n c] w fun e w' => e = .returned (.bool true) ∧ Below w.heap.size w w' := by
 have HC := Lib.hid hc; clear hc
 have HV := Lib.hid hv; clear hv
 go_enter Tryz.func342, Tryz.ntmps342
 go_wp2
 go_loopw [7] (fun i wr => ∃ k : Nat, k ≤ n ∧ i = .int .i64 k ∧ Below w.heap.size w wr) (fun i _ => n - (intOf i).toNat)
 case atStart => exact ⟨0, by omega, rfl, Below.refl _ _⟩
 case round =>
  obtain ⟨k, hk, rfl, hb⟩ := hrel
  by_cases hlt : k < n
  · obtain ⟨c1, c2⟩ := HC.out k hlt
    replace c1 := cell_later hb c1
    replace c2 := cell_later hb c2
    have v1 := HV.out k hlt
    go_wp2_with (go_at_call 142; refine (valid_yes _ _ _ v1).mono ?_; rintro e w1 ⟨rfl, hb1⟩)
    go_roundw
    case rel => exact ⟨k + 1, by omega, by go_num, hb.trans (((Below.refl _ _).alloc (by exact hb.size) _).trans (hb1.mono (by simp; have := hb.size; omega)))⟩
    case measure => simp [intOf]; omega
  · go_wp2
    go_returns
    exact ⟨rfl, hb⟩
end Go.Proofs.YtdmegkkifiahdaaGreat
namespace Go.Proofs.YtdmegkkifiahdaaGreat
open Go.RowKit Go.Sort
section
variable {P : Program} {ops : Array Oper} {md : Region.Mode} {W : World}
def Stays (w w' : World) : Prop := Below w.heap.size w w'
def bqUpon (P : Program) (w : World) (v : Value) : Result Next → Prop
 | .ok (.value u) w' => w' = w ∧ u = v
 | .ok .skip w' => w' = w ∧ v = undef
 | .ok (.enter f args) w' => w' = w ∧ Calls P f args w (fun e w'' => e = .returned v ∧ Stays w w'')
 | _ => False
def bqAll (P : Program) (W : World) (s : Sem Next) (v : Value) : Prop := ∀ p : Regrown, bqUpon P (grow (redrawn W p.d) p.os) v (s.run P (grow (redrawn W p.d) p.os))
def bqOp (P : Program) (o : Oper) (a : Act) (W : World) (next : Act → Prop) : Prop := ∃ v, bqAll P W (execOp a.eval o) v ∧ next (a.put o.dst v)
def wpBQ (P : Program) (ops : Array Oper) (W : World) (Q : Act → Prop) : List Oper → Act → Prop
 | [], a => Q a
 | o :: rest, a => if Region.wanted o (yielded ops a.tmps) then bqOp P o a W (wpBQ P ops W Q rest) else wpBQ P ops W Q rest (a.put o.dst undef)
def YB (P : Program) (ops : Array Oper) (W : World) (o : Oper) (v : Value) (a : Act) : Prop :=
 (Region.wanted o (yielded ops a.tmps) = true ∧ bqAll P W (execOp a.eval o) v) ∨ (Region.wanted o (yielded ops a.tmps) = false ∧ v = undef)
theorem YB.of_same {o : Oper} {v : Value} {a a' : Act} (hy : YB P ops W o v a) (he : execOp a'.eval o = execOp a.eval o)
  (hw : Region.wanted o (yielded ops a'.tmps) = Region.wanted o (yielded ops a.tmps)) : YB P ops W o v a' := by
 unfold YB at *
 rw [he, hw]
 exact hy
theorem YB.put {oi oj : Oper} {v : Value} {a : Act} (hy : YB P ops W oi v a) (hsi : ∀ cs b, oi.op ≠ .select cs b) (h3 : ∀ d, oj.dst = some d → d ∉ oi.looksAt ops) (u : Value) : YB P ops W oi v (a.put oj.dst u) :=
 hy.of_same (execOp_put oi hsi a oj.dst u h3) (wanted_put oi a oj.dst u h3)
end
end Go.Proofs.YtdmegkkifiahdaaGreat
namespace Go.Proofs.YtdmegkkifiahdaaGreat
open Go.RowKit
attribute [local go_sem] bqOp bqAll bqUpon
attribute [local irreducible] wpQuiet wpBQ
theorem crs_bd {ax ay bx by' cx cy : Int} (ha : Vld ax ay) (hb : Vld bx by') (hc : Vld cx cy) :
  (-4000000000000 ≤ (bx - ax) * (cy - ay) ∧ (bx - ax) * (cy - ay) ≤ 4000000000000) ∧ (-4000000000000 ≤ (by' - ay) * (cx - ax) ∧ (by' - ay) * (cx - ax) ≤ 4000000000000) := by
 obtain ⟨a1, a2, a3, a4⟩ := ha
 obtain ⟨b1, b2, b3, b4⟩ := hb
 obtain ⟨c1, c2, c3, c4⟩ := hc
 exact ⟨mul_bd (A := 2000000) (B := 2000000) (by omega) (by omega) (by omega) (by omega), mul_bd (A := 2000000) (B := 2000000) (by omega) (by omega) (by omega) (by omega)⟩
theorem turn_any (ax ay bx by' cx cy : Int) (w : World) (ha : Vld ax ay) (hb : Vld bx by') (hc : Vld cx cy) {s : Int} (hs : (crs ax ay bx by' cx cy).sign = s) :
  Calls Tryz.prog 387 #[.agg #[.int .i64 ax, .int .i64 ay], .agg #[.int .i64 bx, .int .i64 by'], .agg #[.int .i64 cx, .int .i64 cy]] w fun e w' => e = .returned (.int .i64 s) ∧ Below w.heap.size w w' := by
 subst hs
 obtain ⟨⟨m1, m2⟩, m3, m4⟩ := crs_bd ha hb hc
 obtain ⟨a1, a2, a3, a4⟩ := ha
 obtain ⟨b1, b2, b3, b4⟩ := hb
 obtain ⟨c1, c2, c3, c4⟩ := hc
 go_enter Tryz.func387, Tryz.ntmps387
 go_wp2
 refine wp_named fun W hW => ?_
 obtain ⟨p1, p2, p3, hB⟩ := box3 hW
 clear hW
 have q1 := cellsR p1
 have q2 := cellsR p2
 have q3 := cellsR p3
 clear p1 p2 p3
 (refine wp_region_quiet_below (by kernel_rfl) (by kernel_rfl) ?_; (repeat (refine wpQuiet_step (fun K hK => ?_); replace hK := Lib.hid hK; go_simp; first | (refine hK.out _ ?_; clear hK K) | (apply Exists.intro; refine ⟨fun _ => ?_, hK.out _ ?_⟩; (first | (go_at_call 344; exact Calls.regrown_of (from_any _ _ _ _ _ (by omega) (by omega) (by omega) (by omega))) | (go_at_call 410; exact Calls.regrown_of (cross_any _ _ _ _ _ (by omega) (by omega) (by omega) (by omega) (by omega) (by omega))) | (go_at_call 225; exact Calls.regrown_of (cmp_any _ _))); clear hK K))); refine wpQuiet_nil ?_)
 intro W1 hW1
 have hB1 := regrown_below hW1
 clear hW1
 go_wp2
 go_returns
 exact ⟨rfl, below_step hB hB1⟩
theorem sign_cases (x : Int) : x.sign = -1 ∨ x.sign = 0 ∨ x.sign = 1 := by
 rcases Int.lt_trichotomy x 0 with h | h | h
 · exact .inl (Int.sign_eq_neg_one_of_neg h)
 · exact .inr (.inl (by rw [h]; rfl))
 · exact .inr (.inr (Int.sign_eq_one_of_pos h))
theorem on_any (px py ax ay bx by' : Int) (w : World) (hp : Vld px py) (ha : Vld ax ay) (hb : Vld bx by') {v : Bool} (hv : onB px py ax ay bx by' = v) :
  Calls Tryz.prog 411 #[.agg #[.int .i64 px, .int .i64 py], .agg #[.int .i64 ax, .int .i64 ay], .agg #[.int .i64 bx, .int .i64 by']] w fun e w' => e = .returned (.bool v) ∧ Below w.heap.size w w' := by
 have key : ∀ s, (crs ax ay bx by' px py).sign = s → s = -1 ∨ s = 0 ∨ s = 1 := fun s h => h ▸ sign_cases _
 obtain ⟨s, hs⟩ : ∃ s, (crs ax ay bx by' px py).sign = s := ⟨_, rfl⟩
 have hc := key s hs
 clear key
 have c0 : s = 0 ↔ crs ax ay bx by' px py = 0 := by rw [← hs]; exact Int.sign_eq_zero_iff_zero
 have HV : Hid (∀ u : Bool, (u = true ↔ OnS px py ax ay bx by') → u = v) := Lib.hid (fun u hu => by
  rw [← hv, onB]
  by_cases h : OnS px py ax ay bx by'
  · simp [h, hu]
  · simp [h]; cases u <;> simp_all)
 have C0 := Lib.hid c0
 have HS := Lib.hid hs
 clear c0 hv hs
 go_enter Tryz.func411, Tryz.ntmps411
 go_wp2_with fail
 refine calls_named fun W hW => ?_
 obtain ⟨p1, p2, p3, hB⟩ := box3 hW
 clear hW
 have q1 := cellsL p1
 have q2 := cellsL p2
 have q3 := cellsL p3
 clear p1 p2 p3
 refine (turn_any _ _ _ _ _ _ _ ha hb hp HS.out).mono ?_
 rintro e w1 ⟨rfl, hb1⟩
 rcases hc with rfl | rfl | rfl
 · have hz : crs ax ay bx by' px py ≠ 0 := fun h => by have := C0.out.2 h; omega
   have HZ := Lib.hid hz
   clear hz C0
   go_wp2
   go_returns
   exact ⟨ret_bool (HV.out _ ⟨fun h => by simp at h, fun h => absurd h.1 HZ.out⟩), below_step hB hb1⟩
 · have hz : crs ax ay bx by' px py = 0 := C0.out.1 rfl
   have HZ := Lib.hid hz
   clear hz C0
   go_wp2
   all_goals (go_returns; exact ⟨ret_bool (HV.out _ ⟨fun h => ⟨HZ.out, by simp at h <;> omega⟩, fun h => by have := h.2; simp <;> omega⟩), below_step hB hb1⟩)
 · have hz : crs ax ay bx by' px py ≠ 0 := fun h => by have := C0.out.2 h; omega
   have HZ := Lib.hid hz
   clear hz C0
   go_wp2
   go_returns
   exact ⟨ret_bool (HV.out _ ⟨fun h => by simp at h, fun h => absurd h.1 HZ.out⟩), below_step hB hb1⟩
end Go.Proofs.YtdmegkkifiahdaaGreat
namespace Go.Proofs.YtdmegkkifiahdaaGreat
open Go.RowKit
attribute [local go_sem] bqOp bqAll bqUpon
attribute [local irreducible] wpQuiet wpBQ
set_option maxHeartbeats 1000000 in
theorem meet_any (ax ay bx by' cx cy dx dy : Int) (w : World) (ha : Vld ax ay) (hb : Vld bx by') (hc : Vld cx cy) (hd : Vld dx dy) {v : Bool} (hv : meetB ax ay bx by' cx cy dx dy = v) :
  Calls Tryz.prog 388 #[.agg #[.int .i64 ax, .int .i64 ay], .agg #[.int .i64 bx, .int .i64 by'], .agg #[.int .i64 cx, .int .i64 cy], .agg #[.int .i64 dx, .int .i64 dy]] w fun e w' => e = .returned (.bool v) ∧ Below w.heap.size w w' := by
 obtain ⟨s1, h1⟩ : ∃ s, (crs ax ay bx by' cx cy).sign = s := ⟨_, rfl⟩
 obtain ⟨s2, h2⟩ : ∃ s, (crs ax ay bx by' dx dy).sign = s := ⟨_, rfl⟩
 obtain ⟨s3, h3⟩ : ∃ s, (crs cx cy dx dy ax ay).sign = s := ⟨_, rfl⟩
 obtain ⟨s4, h4⟩ : ∃ s, (crs cx cy dx dy bx by').sign = s := ⟨_, rfl⟩
 obtain ⟨v1, g1⟩ : ∃ s, onB ax ay cx cy dx dy = s := ⟨_, rfl⟩
 obtain ⟨v2, g2⟩ : ∃ s, onB bx by' cx cy dx dy = s := ⟨_, rfl⟩
 obtain ⟨v3, g3⟩ : ∃ s, onB cx cy ax ay bx by' = s := ⟨_, rfl⟩
 obtain ⟨v4, g4⟩ : ∃ s, onB dx dy ax ay bx by' = s := ⟨_, rfl⟩
 have hv' : (decide (s1 * s2 < 0 ∧ s3 * s4 < 0) || (v1 || (v2 || (v3 || v4)))) = v := by rw [← hv, meetB, crossB, h1, h2, h3, h4, g1, g2, g3, g4]
 have b1 := h1 ▸ sign_bd (crs ax ay bx by' cx cy)
 have b2 := h2 ▸ sign_bd (crs ax ay bx by' dx dy)
 have b3 := h3 ▸ sign_bd (crs cx cy dx dy ax ay)
 have b4 := h4 ▸ sign_bd (crs cx cy dx dy bx by')
 obtain ⟨m1, m2⟩ := mul_bd (a := s1) (b := s2) (A := 1) (B := 1) (by omega) (by omega) (by omega) (by omega)
 obtain ⟨m3, m4⟩ := mul_bd (a := s3) (b := s4) (A := 1) (B := 1) (by omega) (by omega) (by omega) (by omega)
 clear hv b1 b2 b3 b4
 have w1 : IntKind.i64.wrap (s1 * s2) = s1 * s2 := IntWalk.i64_in _ (by omega)
 have w2 : IntKind.i64.wrap (s3 * s4) = s3 * s4 := IntWalk.i64_in _ (by omega)
 have HV := Lib.hid hv'
 clear hv'
 go_enter Tryz.func388, Tryz.ntmps388
 go_wp2_with fail
 refine wp_named fun W hW => ?_
 obtain ⟨p1, p2, p3, p4, hB⟩ := box4 hW
 clear hW
 have q1 := cellsR p1
 have q2 := cellsR p2
 have q3 := cellsR p3
 have q4 := cellsR p4
 by_cases t12 : s1 * s2 < 0 ∧ s3 * s4 < 0
 · obtain ⟨t1, t2⟩ := t12
   (refine wp_region_quiet_below (by kernel_rfl) (by kernel_rfl) ?_; (repeat (refine wpQuiet_step (fun K hK => ?_); replace hK := Lib.hid hK; go_simp; first | (refine hK.out _ ?_; clear hK K) | (apply Exists.intro; refine ⟨fun _ => ?_, hK.out _ ?_⟩; (first | (go_at_call 387; exact Calls.regrown_of (turn_any _ _ _ _ _ _ _ (by assumption) (by assumption) (by assumption) (by assumption)))); clear hK K))); refine wpQuiet_nil ?_)
   intro W1 hW1
   have hB1 := regrown_below hW1
   clear hW1
   go_wp2
   go_returns
   exact ⟨ret_bool (by rw [← HV.out]; simp [t1, t2]), below_step hB hB1⟩
 · have HV' : Hid ((v1 || (v2 || (v3 || v4))) = v) := Lib.hid (by rw [← HV.out]; simp only [t12, decide_false, Bool.false_or])
   clear HV
   by_cases t1 : s1 * s2 < 0
   · have t2 : 0 ≤ s3 * s4 := by omega
     clear t12
     (refine wp_region_quiet_below (by kernel_rfl) (by kernel_rfl) ?_; (repeat (refine wpQuiet_step (fun K hK => ?_); replace hK := Lib.hid hK; go_simp; first | (refine hK.out _ ?_; clear hK K) | (apply Exists.intro; refine ⟨fun _ => ?_, hK.out _ ?_⟩; (first | (go_at_call 387; exact Calls.regrown_of (turn_any _ _ _ _ _ _ _ (by assumption) (by assumption) (by assumption) (by assumption)))); clear hK K))); refine wpQuiet_nil ?_)
     intro W1 hW1
     have hB1 := regrown_below hW1
     clear hW1 q1 q2 q3 q4
     have q1 := cellsL p1
     have q2 := cellsL p2
     have q3 := cellsL p3
     have q4 := cellsL p4
     clear p1 p2 p3 p4
     go_wp2_with fail
     (with_reducible refine (on_any _ _ _ _ _ _ _ ha hc hd g1).mono ?_)
     rintro e w2 ⟨rfl, hb2⟩
     have hB2 := below_step hB1 hb2
     clear hb2
     cases v1 with
     | true =>
       go_wp2_with fail
       go_returns
       exact ⟨ret_bool (by rw [← HV'.out]; simp), below_step hB hB2⟩
     | false =>
       go_wp2_with fail
       (with_reducible refine (on_any _ _ _ _ _ _ _ hb hc hd g2).mono ?_)
       rintro e w3 ⟨rfl, hb3⟩
       have hB3 := below_step hB2 hb3
       clear hb3
       cases v2 with
       | true =>
         go_wp2_with fail
         go_returns
         exact ⟨ret_bool (by rw [← HV'.out]; simp), below_step hB hB3⟩
       | false =>
         go_wp2_with fail
         (with_reducible refine (on_any _ _ _ _ _ _ _ hc ha hb g3).mono ?_)
         rintro e w4 ⟨rfl, hb4⟩
         have hB4 := below_step hB3 hb4
         clear hb4
         cases v3 with
         | true =>
           go_wp2_with fail
           go_returns
           exact ⟨ret_bool (by rw [← HV'.out]; simp), below_step hB hB4⟩
         | false =>
           go_wp2_with fail
           (with_reducible refine (on_any _ _ _ _ _ _ _ hd ha hb g4).mono ?_)
           rintro e w5 ⟨rfl, hb5⟩
           have hB5 := below_step hB4 hb5
           clear hb5
           go_wp2_with fail
           go_returns
           exact ⟨ret_bool (by rw [← HV'.out]; simp), below_step hB hB5⟩
   · have d1 : decide (s1 * s2 < 0) = false := by simp only [decide_eq_false_iff_not]; exact t1
     clear t1
     clear t12
     (refine wp_region_quiet_below (by kernel_rfl) (by kernel_rfl) ?_; (repeat (refine wpQuiet_step (fun K hK => ?_); replace hK := Lib.hid hK; go_simp; first | (refine hK.out _ ?_; clear hK K) | (apply Exists.intro; refine ⟨fun _ => ?_, hK.out _ ?_⟩; (first | (go_at_call 387; exact Calls.regrown_of (turn_any _ _ _ _ _ _ _ (by assumption) (by assumption) (by assumption) (by assumption)))); clear hK K))); refine wpQuiet_nil ?_)
     intro W1 hW1
     have hB1 := regrown_below hW1
     clear hW1 q1 q2 q3 q4
     have q1 := cellsL p1
     have q2 := cellsL p2
     have q3 := cellsL p3
     have q4 := cellsL p4
     clear p1 p2 p3 p4
     go_wp2_with fail
     (with_reducible refine (on_any _ _ _ _ _ _ _ ha hc hd g1).mono ?_)
     rintro e w2 ⟨rfl, hb2⟩
     have hB2 := below_step hB1 hb2
     clear hb2
     cases v1 with
     | true =>
       go_wp2_with fail
       go_returns
       exact ⟨ret_bool (by rw [← HV'.out]; simp), below_step hB hB2⟩
     | false =>
       go_wp2_with fail
       (with_reducible refine (on_any _ _ _ _ _ _ _ hb hc hd g2).mono ?_)
       rintro e w3 ⟨rfl, hb3⟩
       have hB3 := below_step hB2 hb3
       clear hb3
       cases v2 with
       | true =>
         go_wp2_with fail
         go_returns
         exact ⟨ret_bool (by rw [← HV'.out]; simp), below_step hB hB3⟩
       | false =>
         go_wp2_with fail
         (with_reducible refine (on_any _ _ _ _ _ _ _ hc ha hb g3).mono ?_)
         rintro e w4 ⟨rfl, hb4⟩
         have hB4 := below_step hB3 hb4
         clear hb4
         cases v3 with
         | true =>
           go_wp2_with fail
           go_returns
           exact ⟨ret_bool (by rw [← HV'.out]; simp), below_step hB hB4⟩
         | false =>
           go_wp2_with fail
           (with_reducible refine (on_any _ _ _ _ _ _ _ hd ha hb g4).mono ?_)
           rintro e w5 ⟨rfl, hb5⟩
           have hB5 := below_step hB4 hb5
           clear hb5
           go_wp2_with fail
           go_returns
           exact ⟨ret_bool (by rw [← HV'.out]; simp), below_step hB hB5⟩
end Go.Proofs.YtdmegkkifiahdaaGreat
namespace Go.Proofs.YtdmegkkifiahdaaGreat
open Go.RowKit
attribute [local go_sem] bqOp bqAll bqUpon
attribute [local irreducible] wpQuiet wpBQ
end Go.Proofs.YtdmegkkifiahdaaGreat
namespace Go.Proofs.YtdmegkkifiahdaaGreat
open Go.RowKit
attribute [local go_sem] bqOp bqAll bqUpon
attribute [local irreducible] wpQuiet wpBQ
theorem valids3_yes (ax ay bx by' cx cy : Int) (b c0 : Nat) (w : World) (h : w.heap[b]? = some (.cells #[.int .i64 ax, .int .i64 ay, .int .i64 bx, .int .i64 by', .int .i64 cx, .int .i64 cy] 28)) (hv : Vld ax ay ∧ Vld bx by' ∧ Vld cx cy) :
  Calls Tryz.prog 342 #[.slice (some ⟨b, 0, none⟩) 3 c0] w fun e w' => e = .returned (.bool true) ∧ Below w.heap.size w w' :=
 valids_yes b 3 c0 (fun i => if i = 0 then ax else if i = 1 then bx else cx) (fun i => if i = 0 then ay else if i = 1 then by' else cy) w (by omega) (fun i hi => by rw [cell_block h, cell_block h]; match i, hi with | 0, _ => exact ⟨rfl, rfl⟩ | 1, _ => exact ⟨rfl, rfl⟩ | 2, _ => exact ⟨rfl, rfl⟩)
  (fun i hi => by obtain ⟨h0, h1, h2⟩ := hv; match i, hi with | 0, _ => exact h0 | 1, _ => exact h1 | 2, _ => exact h2)
theorem valids4_yes (ax ay bx by' cx cy dx dy : Int) (b c0 : Nat) (w : World) (h : w.heap[b]? = some (.cells #[.int .i64 ax, .int .i64 ay, .int .i64 bx, .int .i64 by', .int .i64 cx, .int .i64 cy, .int .i64 dx, .int .i64 dy] 28)) (hv : Vld ax ay ∧ Vld bx by' ∧ Vld cx cy ∧ Vld dx dy) :
  Calls Tryz.prog 342 #[.slice (some ⟨b, 0, none⟩) 4 c0] w fun e w' => e = .returned (.bool true) ∧ Below w.heap.size w w' :=
 valids_yes b 4 c0 (fun i => if i = 0 then ax else if i = 1 then bx else if i = 2 then cx else dx) (fun i => if i = 0 then ay else if i = 1 then by' else if i = 2 then cy else dy) w (by omega) (fun i hi => by rw [cell_block h, cell_block h]; match i, hi with | 0, _ => exact ⟨rfl, rfl⟩ | 1, _ => exact ⟨rfl, rfl⟩ | 2, _ => exact ⟨rfl, rfl⟩ | 3, _ => exact ⟨rfl, rfl⟩)
  (fun i hi => by obtain ⟨h0, h1, h2, h3⟩ := hv; match i, hi with | 0, _ => exact h0 | 1, _ => exact h1 | 2, _ => exact h2 | 3, _ => exact h3)
end Go.Proofs.YtdmegkkifiahdaaGreat
namespace Go.Proofs.YtdmegkkifiahdaaGreat
open Go.RowKit
theorem Turn_yes (ax ay bx by' cx cy : Int) (w : World) (ha : Vld ax ay) (hb : Vld bx by') (hc : Vld cx cy) {s : Int} (hs : (crs ax ay bx by' cx cy).sign = s) :
  Calls Tryz.prog 319 #[.agg #[.int .i64 ax, .int .i64 ay], .agg #[.int .i64 bx, .int .i64 by'], .agg #[.int .i64 cx, .int .i64 cy]] w fun e w' => e = .returned (.tuple #[.int .i64 s, .int .i64 0]) ∧ Below w.heap.size w w' := by
 go_enter Tryz.func319, Tryz.ntmps319
 go_wp2_with fail
 refine calls_named fun W hW => ?_
 obtain ⟨p1, p2, p3, p4, hB⟩ := box4 hW
 clear hW
 (with_reducible refine (valids3_yes _ _ _ _ _ _ _ _ _ p4 ⟨ha, hb, hc⟩).mono ?_)
 rintro e w1 ⟨rfl, hb1⟩
 have hB1 := below_step hB hb1
 have q1 := cellsL p1
 have q2 := cellsL p2
 have q3 := cellsL p3
 have q4 := cellsL p4
 clear p1 p2 p3 p4
 go_wp2_with fail
 (with_reducible refine (turn_any _ _ _ _ _ _ _ ha hb hc hs).mono ?_)
 rintro e w2 ⟨rfl, hb2⟩
 have hB2 := below_step hB1 hb2
 go_wp2_with fail
 go_ret2
 exact ⟨rfl, hB2⟩
theorem Meet_yes (ax ay bx by' cx cy dx dy : Int) (w : World) (ha : Vld ax ay) (hb : Vld bx by') (hc : Vld cx cy) (hd : Vld dx dy) {v : Bool} (hv : meetB ax ay bx by' cx cy dx dy = v) :
  Calls Tryz.prog 320 #[.agg #[.int .i64 ax, .int .i64 ay], .agg #[.int .i64 bx, .int .i64 by'], .agg #[.int .i64 cx, .int .i64 cy], .agg #[.int .i64 dx, .int .i64 dy]] w fun e w' => e = .returned (.tuple #[.bool v, .int .i64 0]) ∧ Below w.heap.size w w' := by
 go_enter Tryz.func320, Tryz.ntmps320
 go_wp2_with fail
 refine calls_named fun W hW => ?_
 obtain ⟨p1, p2, p3, p4, p5, hB⟩ := box5 hW
 clear hW
 (with_reducible refine (valids4_yes _ _ _ _ _ _ _ _ _ _ _ p5 ⟨ha, hb, hc, hd⟩).mono ?_)
 rintro e w1 ⟨rfl, hb1⟩
 have hB1 := below_step hB hb1
 have q1 := cellsL p1
 have q2 := cellsL p2
 have q3 := cellsL p3
 have q4 := cellsL p4
 have q5 := cellsL p5
 clear p1 p2 p3 p4 p5
 go_wp2_with fail
 (with_reducible refine (meet_any _ _ _ _ _ _ _ _ _ ha hb hc hd hv).mono ?_)
 rintro e w2 ⟨rfl, hb2⟩
 have hB2 := below_step hB1 hb2
 go_wp2_with fail
 go_ret2
 exact ⟨rfl, hB2⟩
end Go.Proofs.YtdmegkkifiahdaaGreat
namespace Go.Proofs.YtdmegkkifiahdaaGreat
open Go.RowKit
attribute [local go_sem] bqOp bqAll bqUpon
attribute [local irreducible] wpQuiet wpBQ
set_option linter.unusedVariables false
theorem vld_iff {x y : Int} : Vld x y ↔ -1000000 ≤ x ∧ x ≤ 1000000 ∧ -1000000 ≤ y ∧ y ≤ 1000000 := ⟨fun ⟨a, b, c, d⟩ => ⟨a, b, c, d⟩, fun ⟨a, b, c, d⟩ => ⟨a, b, c, d⟩⟩
instance (x y : Int) : Decidable (Vld x y) := decidable_of_iff _ vld_iff.symm
def Rows (k : Nat) (w : World) (v : Value) (n : Nat) (X : Nat → Nat → Int) : Prop :=
 ∃ ad c, v = .slice ad n c ∧ n ≤ 9223372036854775807 ∧ ∀ i, i < n → ∃ g o, ad = some ⟨g, o, none⟩ ∧ ∀ j, j < k → w.cell? ⟨g, o + i * k + j, none⟩ = some (.int .i64 (X i j))
theorem Rows.later {k : Nat} {w w' : World} {v : Value} {n : Nat} {X : Nat → Nat → Int} (h : Rows k w v n X) (hb : Below w.heap.size w w') : Rows k w' v n X := by
 obtain ⟨ad, c, hv, hn, hc⟩ := h
 exact ⟨ad, c, hv, hn, fun i hi => by obtain ⟨g, o, hg, h⟩ := hc i hi; exact ⟨g, o, hg, fun j hj => cell_later hb (h j hj)⟩⟩
theorem Rows.form {k : Nat} {w : World} {v : Value} {n : Nat} {X : Nat → Nat → Int} (h : Rows k w v n X) : ∃ ad c, v = .slice ad n c ∧ Rows k w (.slice ad n c) n X ∧ n ≤ 9223372036854775807 := by
 obtain ⟨ad, c, rfl, hn, hc⟩ := h
 exact ⟨ad, c, rfl, ⟨ad, c, rfl, hn, hc⟩, hn⟩
theorem Rows.row {k : Nat} {w : World} {ad : Option Addr} {c n : Nat} {X : Nat → Nat → Int} (h : Rows k w (.slice ad n c) n X) {i : Nat} (hi : i < n) :
  ∃ g o, ad = some ⟨g, o, none⟩ ∧ ∀ j, j < k → w.cell? ⟨g, o + i * k + j, none⟩ = some (.int .i64 (X i j)) := by
 obtain ⟨ad', c', e, _, hc⟩ := h
 cases e
 exact hc i hi
def fstI (B : Nat → Bool) : Nat → Int
 | 0 => -1
 | n + 1 => if 0 ≤ fstI B n then fstI B n else if B n = true then (n : Int) else -1
theorem fstI_none {B : Nat → Bool} {n : Nat} (h : ∀ i, i < n → B i = false) : fstI B n = -1 := by
 induction n with
 | zero => rfl
 | succ n ih =>
   unfold fstI
   rw [ih (fun i hi => h i (by omega)), h n (by omega)]
   simp
theorem fstI_at {B : Nat → Bool} {m n : Nat} (hm : m < n) (h : ∀ i, i < m → B i = false) (hb : B m = true) : fstI B n = m := by
 induction n with
 | zero => omega
 | succ n ih =>
   unfold fstI
   rcases Nat.lt_or_ge m n with g | g
   · rw [ih g, if_pos (by omega)]
   · obtain rfl : m = n := by omega
     rw [fstI_none h, if_neg (by omega), if_pos hb]
def anyN (B : Nat → Bool) (n : Nat) : Bool := decide (∃ i, i < n ∧ B i = true)
theorem fstI_any (B : Nat → Bool) (n : Nat) : decide (0 ≤ fstI B n) = anyN B n := by
 unfold anyN
 rw [decide_eq_decide]
 constructor
 · intro h
   induction n with
   | zero => simp [fstI] at h
   | succ n ih =>
     unfold fstI at h
     split at h
     · obtain ⟨i, hi, hb⟩ := ih h; exact ⟨i, by omega, hb⟩
     · split at h
       · exact ⟨n, by omega, by assumption⟩
       · omega
 · rintro ⟨i, hi, hb⟩
   induction n with
   | zero => omega
   | succ n ih =>
     unfold fstI
     by_cases g : 0 ≤ fstI B n
     · rw [if_pos g]; exact g
     · rw [if_neg g]
       rcases Nat.lt_or_ge i n with q | q
       · exact absurd (ih q) g
       · obtain rfl : i = n := by omega
         rw [if_pos hb]; omega
end Go.Proofs.YtdmegkkifiahdaaGreat
namespace Go.Proofs.YtdmegkkifiahdaaGreat
open Go.RowKit
set_option linter.unusedVariables false
def rowCells (k n : Nat) (X : Nat → Nat → Int) : List Value := (List.range (n * k)).map fun j => .int .i64 (X (j / k) (j % k))
theorem rowCells_len (k n : Nat) (X : Nat → Nat → Int) : (rowCells k n X).length = n * k := by simp [rowCells]
theorem rowCells_get {k n i j : Nat} {X : Nat → Nat → Int} (hi : i < n) (hj : j < k) : (rowCells k n X)[i * k + j]? = some (.int .i64 (X i j)) := by
 have hlt : i * k + j < n * k := by
  have h := Nat.mul_le_mul_right k (show i + 1 ≤ n by omega)
  rw [Nat.add_mul] at h
  omega
 have e1 : (i * k + j) / k = i := by rw [Nat.mul_comm, Nat.mul_add_div (by omega), Nat.div_eq_of_lt hj]; omega
 have e2 : (i * k + j) % k = j := by rw [Nat.mul_comm, Nat.mul_add_mod, Nat.mod_eq_of_lt hj]
 simp [rowCells, hlt, e1, e2]
theorem Rows.news {k n c : Nat} {w : World} {g o : Nat} {X : Nat → Nat → Int} (hk : 0 < k) (h : Rows k w (.slice (some ⟨g, o, none⟩) n c) n X) : ∀ j u, (rowCells k n X)[j]? = some u → w.cell? ((⟨g, o, none⟩ : Addr).add j) = some u := fun j u hu => by
 have hadd : (⟨g, o, none⟩ : Addr).add j = ⟨g, o + j, none⟩ := by unfold Addr.add; split <;> simp_all
 have hlt : j < n * k := by
  have := (List.getElem?_eq_some_iff.1 hu).1
  rwa [rowCells_len] at this
 have hi : j / k < n := (Nat.div_lt_iff_lt_mul hk).2 hlt
 obtain ⟨g', o', e, hc⟩ := h.row hi
 cases e
 have hm := Nat.mod_lt j hk
 have e := Nat.div_add_mod j k
 have h1 := hc (j % k) hm
 rw [show o + j / k * k + j % k = o + j by rw [Nat.mul_comm]; omega] at h1
 rw [hadd, h1, ← hu, ← rowCells_get (X := X) hi hm, show j / k * k + j % k = j by rw [Nat.mul_comm]; omega]
theorem owns_rows {k n base : Nat} {w : World} {e : TypeId} {v : Value} {xs : List Value} {X : Nat → Nat → Int} (hn : n ≤ 9223372036854775807) (h : w.ownsRow base e k v n xs) (hx : ∀ i, i < n → ∀ j, j < k → xs[i * k + j]? = some (.int .i64 (X i j))) : Rows k w v n X := by
 rcases h.2 with ⟨rfl, rfl⟩ | ⟨g, cap, cur, rfl, _, hg, _, _, _, ht⟩
 · exact ⟨none, 0, rfl, by omega, fun i hi => by omega⟩
 · refine ⟨_, _, rfl, hn, fun i hi => ⟨g, 0, rfl, fun j hj => ?_⟩⟩
   have hlt : i * k + j < n * k := by
    have h := Nat.mul_le_mul_right k (show i + 1 ≤ n by omega)
    rw [Nat.add_mul] at h
    omega
   have h1 := hx i hi j hj
   rw [← ht, List.getElem?_take_of_lt hlt] at h1
   rw [Nat.zero_add, cell_block hg, ← h1]
   simp
theorem owns_form {k n base : Nat} {w : World} {e : TypeId} {v : Value} {xs : List Value} (h : w.ownsRow base e k v n xs) : ∃ ad c, v = .slice ad n c := by
 rcases h.2 with ⟨rfl, rfl⟩ | ⟨g, cap, cur, rfl, _⟩
 · exact ⟨_, _, rfl⟩
 · exact ⟨_, _, rfl⟩
section
variable {P : Program} (w : World)
theorem grownBy_refl (w : World) (row : Option Nat) : w.grownBy w row := ⟨rfl, rfl, rfl, Nat.le_refl _, fun _ _ _ => rfl⟩
theorem append_none (base : Nat) (t ty e : TypeId) (i : TypeInfo) (size : Nat) (ht : P.underlying t = some (.slice e)) (hi : P.info? e = some i)
  (v : Value) (n : Nat) (xs : List Value) (hown : w.ownsRow base e size v n xs) {c : Nat} :
  (Builtin.append_ #[t, t] ty #[v, .slice none 0 c]).run P w = .ok v w := by
 rcases hown.2 with ⟨rfl, rfl⟩ | ⟨g, cap, cur, rfl, _, _, hnc, _⟩
 · simp [Builtin.append_, run_underlying ht, sizeOf, typeInfo, hi, Builtin.lenOf, Builtin.firstCells]
 · simp [Builtin.append_, run_underlying ht, sizeOf, typeInfo, hi, Builtin.lenOf, Builtin.firstCells, hnc, storeCells]
end
section
variable {P : Program} (w : World)
end
end Go.Proofs.YtdmegkkifiahdaaGreat
