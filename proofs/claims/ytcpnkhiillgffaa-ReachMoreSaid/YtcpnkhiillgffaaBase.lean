/- Small lemmas that every walk of this seat uses: a name for the world at hand, equal results, cells and freezes that stay. -/
import Derived.WalkKit
import Derived.Lib.QuietBelow
import Derived.Lib.Hide
import Derived.WalkSpells
namespace Go.Proofs.Ytcpnkhiillgffaa
open Go.RowKit
theorem wp_named {P : Program} {c : Code} {Q : Exit → Act → World → Prop} {a : Act} {w0 : World} (h : ∀ W, W = w0 → c.wp P Q a W) : c.wp P Q a w0 := h _ rfl
theorem calls_named {P : Program} {f : FuncId} {args : Array Value} {R : Ending → World → Prop} {w0 : World} (h : ∀ W, W = w0 → Calls P f args W R) : Calls P f args w0 R := h _ rfl
theorem ret_bool {a b : Bool} (h : a = b) : Ending.returned (.bool a) = Ending.returned (.bool b) := by rw [h]
theorem ret_int {k : IntKind} {a b : Int} (h : a = b) : Ending.returned (.int k a) = Ending.returned (.int k b) := by rw [h]
theorem below_step {w W w1 : World} (h : Below w.heap.size w W) (h1 : Below W.heap.size W w1) : Below w.heap.size w w1 := h.trans (h1.mono h.size)
theorem lt_block {w : World} {b : Nat} {o : Obj} (h : w.heap[b]? = some o) : b < w.heap.size := (Array.getElem?_eq_some_iff.1 h).1
theorem cell_block {w : World} {b : Nat} {cs : Array Value} {t : TypeId} {m : Nat × Nat} (h : w.heap[b]? = some (.cells cs t m)) (i : Nat) : w.cell? ⟨b, i, none⟩ = cs[i]? := by simp [World.cell?, h]
theorem free_block {w : World} {b : Nat} {cs : Array Value} {t : TypeId} (h : w.heap[b]? = some (.cells cs t (0, 0))) (i : Nat) : w.frozen? ⟨b, i, none⟩ = false := by simp [World.frozen?, h]
theorem block_set {w : World} {b i : Nat} {cs : Array Value} {t : TypeId} {m : Nat × Nat} (h : w.heap[b]? = some (.cells cs t m)) (v : Value) : (w.setCell ⟨b, i, none⟩ v).heap[b]? = some (.cells (cs.setIfInBounds i v) t m) := by
  have hlt := lt_block h
  have h' : w.heap[b] = .cells cs t m := by simpa [Array.getElem?_eq_getElem hlt] using h
  show (w.heap.modify b _)[b]? = _
  rw [Array.getElem?_eq_getElem (by simpa using hlt), Array.getElem_modify_self, h']
  rfl
theorem block_far {w : World} {a : Addr} {b : Nat} {o : Obj} (h : w.heap[b]? = some o) (hne : b ≠ a.block) (v : Value) : (w.setCell a v).heap[b]? = some o := by rw [Below.heap_setCell _ _ _ _ hne]; exact h
theorem block_later {w w1 : World} {b : Nat} {o : Obj} (hb : Below w.heap.size w w1) (h : w.heap[b]? = some o) : w1.heap[b]? = some o := by rw [hb.block _ (lt_block h)]; exact h
theorem block_alloc {w : World} {b : Nat} {o o' : Obj} (h : w.heap[b]? = some o) : (w.alloc o').heap[b]? = some o := by rw [Below.heap_alloc _ _ _ (lt_block h)]; exact h
theorem block_new (w : World) (o : Obj) : (w.alloc o).heap[w.heap.size]? = some o := by show (w.heap.push o)[w.heap.size]? = _; simp
theorem block_new_at {w : World} {k : Nat} (o : Obj) (h : w.heap.size = k) : (w.alloc o).heap[k]? = some o := by subst h; exact block_new w o
theorem box1 {w W : World} {o1 : Obj} (h : W = w.alloc o1) : W.heap[w.heap.size]? = some o1 ∧ Below w.heap.size w W := by
  subst h
  exact ⟨block_new_at _ (by simp), (Below.refl _ _).alloc (Nat.le_refl _) _⟩
theorem box2 {w W : World} {o1 o2 : Obj} (h : W = (w.alloc o1).alloc o2) : W.heap[w.heap.size]? = some o1 ∧ W.heap[w.heap.size + 1]? = some o2 ∧ Below w.heap.size w W := by
  subst h
  exact ⟨block_alloc (block_new_at _ (by simp)), block_new_at _ (by simp), ((Below.refl _ _).alloc (Nat.le_refl _) _).alloc (by simp only [World.size_alloc]; omega) _⟩
theorem box3 {w W : World} {o1 o2 o3 : Obj} (h : W = ((w.alloc o1).alloc o2).alloc o3) : W.heap[w.heap.size]? = some o1 ∧ W.heap[w.heap.size + 1]? = some o2 ∧ W.heap[w.heap.size + 2]? = some o3 ∧ Below w.heap.size w W := by
  subst h
  exact ⟨block_alloc (block_alloc (block_new_at _ (by simp))), block_alloc (block_new_at _ (by simp)), block_new_at _ (by simp), (((Below.refl _ _).alloc (Nat.le_refl _) _).alloc (by simp only [World.size_alloc]; omega) _).alloc (by simp only [World.size_alloc]; omega) _⟩
theorem box4 {w W : World} {o1 o2 o3 o4 : Obj} (h : W = (((w.alloc o1).alloc o2).alloc o3).alloc o4) : W.heap[w.heap.size]? = some o1 ∧ W.heap[w.heap.size + 1]? = some o2 ∧ W.heap[w.heap.size + 2]? = some o3 ∧ W.heap[w.heap.size + 3]? = some o4 ∧ Below w.heap.size w W := by
  subst h
  exact ⟨block_alloc (block_alloc (block_alloc (block_new_at _ (by simp)))), block_alloc (block_alloc (block_new_at _ (by simp))), block_alloc (block_new_at _ (by simp)), block_new_at _ (by simp), ((((Below.refl _ _).alloc (Nat.le_refl _) _).alloc (by simp only [World.size_alloc]; omega) _).alloc (by simp only [World.size_alloc]; omega) _).alloc (by simp only [World.size_alloc]; omega) _⟩
theorem box5 {w W : World} {o1 o2 o3 o4 o5 : Obj} (h : W = ((((w.alloc o1).alloc o2).alloc o3).alloc o4).alloc o5) : W.heap[w.heap.size]? = some o1 ∧ W.heap[w.heap.size + 1]? = some o2 ∧ W.heap[w.heap.size + 2]? = some o3 ∧ W.heap[w.heap.size + 3]? = some o4 ∧ W.heap[w.heap.size + 4]? = some o5 ∧ Below w.heap.size w W := by
  subst h
  exact ⟨block_alloc (block_alloc (block_alloc (block_alloc (block_new_at _ (by simp))))), block_alloc (block_alloc (block_alloc (block_new_at _ (by simp)))), block_alloc (block_alloc (block_new_at _ (by simp))), block_alloc (block_new_at _ (by simp)), block_new_at _ (by simp), (((((Below.refl _ _).alloc (Nat.le_refl _) _).alloc (by simp only [World.size_alloc]; omega) _).alloc (by simp only [World.size_alloc]; omega) _).alloc (by simp only [World.size_alloc]; omega) _).alloc (by simp only [World.size_alloc]; omega) _⟩
theorem box6 {w W : World} {o1 o2 o3 o4 o5 o6 : Obj} (h : W = (((((w.alloc o1).alloc o2).alloc o3).alloc o4).alloc o5).alloc o6) : W.heap[w.heap.size]? = some o1 ∧ W.heap[w.heap.size + 1]? = some o2 ∧ W.heap[w.heap.size + 2]? = some o3 ∧ W.heap[w.heap.size + 3]? = some o4 ∧ W.heap[w.heap.size + 4]? = some o5 ∧ W.heap[w.heap.size + 5]? = some o6 ∧ Below w.heap.size w W := by
  subst h
  exact ⟨block_alloc (block_alloc (block_alloc (block_alloc (block_alloc (block_new_at _ (by simp)))))), block_alloc (block_alloc (block_alloc (block_alloc (block_new_at _ (by simp))))), block_alloc (block_alloc (block_alloc (block_new_at _ (by simp)))), block_alloc (block_alloc (block_new_at _ (by simp))), block_alloc (block_new_at _ (by simp)), block_new_at _ (by simp), ((((((Below.refl _ _).alloc (Nat.le_refl _) _).alloc (by simp only [World.size_alloc]; omega) _).alloc (by simp only [World.size_alloc]; omega) _).alloc (by simp only [World.size_alloc]; omega) _).alloc (by simp only [World.size_alloc]; omega) _).alloc (by simp only [World.size_alloc]; omega) _⟩
theorem box7 {w W : World} {o1 o2 o3 o4 o5 o6 o7 : Obj} (h : W = ((((((w.alloc o1).alloc o2).alloc o3).alloc o4).alloc o5).alloc o6).alloc o7) : W.heap[w.heap.size]? = some o1 ∧ W.heap[w.heap.size + 1]? = some o2 ∧ W.heap[w.heap.size + 2]? = some o3 ∧ W.heap[w.heap.size + 3]? = some o4 ∧ W.heap[w.heap.size + 4]? = some o5 ∧ W.heap[w.heap.size + 5]? = some o6 ∧ W.heap[w.heap.size + 6]? = some o7 ∧ Below w.heap.size w W := by
  subst h
  exact ⟨block_alloc (block_alloc (block_alloc (block_alloc (block_alloc (block_alloc (block_new_at _ (by simp))))))), block_alloc (block_alloc (block_alloc (block_alloc (block_alloc (block_new_at _ (by simp)))))), block_alloc (block_alloc (block_alloc (block_alloc (block_new_at _ (by simp))))), block_alloc (block_alloc (block_alloc (block_new_at _ (by simp)))), block_alloc (block_alloc (block_new_at _ (by simp))), block_alloc (block_new_at _ (by simp)), block_new_at _ (by simp), (((((((Below.refl _ _).alloc (Nat.le_refl _) _).alloc (by simp only [World.size_alloc]; omega) _).alloc (by simp only [World.size_alloc]; omega) _).alloc (by simp only [World.size_alloc]; omega) _).alloc (by simp only [World.size_alloc]; omega) _).alloc (by simp only [World.size_alloc]; omega) _).alloc (by simp only [World.size_alloc]; omega) _⟩
theorem regrown_below {W w' : World} (h : ∃ p : Regrown, w' = Sort.grow (redrawn W p.d) p.os) : Below W.heap.size W w' := by
  obtain ⟨p, rfl⟩ := h
  exact below_regrown W p.d p.os
/-- The cells of a block that is known, in every later world. -/
theorem cellsL {W : World} {b : Nat} {cs : Array Value} {t : TypeId} {m : Nat × Nat} (h : W.heap[b]? = some (.cells cs t m)) (w' : World) (hb : Below W.heap.size W w') (i : Nat) : w'.cell? ⟨b, i, none⟩ = cs[i]? := cell_block (block_later hb h) i
/-- The same, in the worlds of a region that draws its order. -/
theorem cellsR {W : World} {b : Nat} {cs : Array Value} {t : TypeId} {m : Nat × Nat} (h : W.heap[b]? = some (.cells cs t m)) (d : Nat) (os : Array Obj) (i : Nat) : (Sort.grow (redrawn W d) os).cell? ⟨b, i, none⟩ = cs[i]? := cell_block (block_later (below_regrown W d os) h) i
theorem mul_bd {a b A B : Int} (h1 : -A ≤ a) (h2 : a ≤ A) (h3 : -B ≤ b) (h4 : b ≤ B) : -(A * B) ≤ a * b ∧ a * b ≤ A * B := by
  have e1 := Int.mul_nonneg (show 0 ≤ A - a by omega) (show 0 ≤ B - b by omega)
  have e2 := Int.mul_nonneg (show 0 ≤ A + a by omega) (show 0 ≤ B + b by omega)
  have e3 := Int.mul_nonneg (show 0 ≤ A - a by omega) (show 0 ≤ B + b by omega)
  have e4 := Int.mul_nonneg (show 0 ≤ A + a by omega) (show 0 ≤ B - b by omega)
  simp only [Int.sub_mul, Int.mul_sub, Int.add_mul, Int.mul_add] at e1 e2 e3 e4
  omega
theorem sign_bd (a : Int) : -1 ≤ a.sign ∧ a.sign ≤ 1 := by
  rcases Int.lt_trichotomy a 0 with h | h | h
  · simp [Int.sign_eq_neg_one_of_neg h]
  · simp [h]
  · simp [Int.sign_eq_one_of_pos h]
theorem sq_nn (a : Int) : 0 ≤ a * a := by
  rcases Int.le_total 0 a with h | h
  · exact Int.mul_nonneg h h
  · have := Int.mul_nonneg (show 0 ≤ -a by omega) (show 0 ≤ -a by omega)
    rwa [Int.neg_mul_neg] at this
end Go.Proofs.Ytcpnkhiillgffaa
