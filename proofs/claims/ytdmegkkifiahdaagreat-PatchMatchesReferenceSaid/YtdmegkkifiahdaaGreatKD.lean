import Derived.Test.YtdmegkkifiahdaaGreatKB
import Derived.Test.YtdmegkkifiahdaaGreatShtPure
import Derived.Test.YtdmegkkifiahdaaGreatShtMath
import Derived.Test.YtdmegkkifiahdaaGreatPatPure
namespace Go.Proofs.YtdmegkkifiahdaaGreat
set_option linter.unusedVariables false
theorem mul_nn {a b : Int} (h : 0 ≤ a) (k : 0 ≤ b) : 0 ≤ a * b := Int.mul_nonneg h k
theorem prv_nxt {n i : Nat} (hi : i < n) : prv n (nxt n i) = i := by
 unfold nxt prv
 rcases Nat.lt_or_ge (i + 1) n with h | h
 · rw [Nat.mod_eq_of_lt h, show i + 1 + n - 1 = i + n by omega, Nat.add_mod_right, Nat.mod_eq_of_lt hi]
 · obtain rfl : n = i + 1 := by omega
   rw [Nat.mod_self, show 0 + (i + 1) - 1 = i by omega, Nat.mod_eq_of_lt hi]
end Go.Proofs.YtdmegkkifiahdaaGreat
namespace Go.Proofs.YtdmegkkifiahdaaGreat
set_option linter.unusedVariables false
abbrev Pt := Int × Int
def LexLt (a b : Pt) : Prop := OrdLt a.1 a.2 b.1 b.2
theorem LexLt.trans {a b c : Pt} (h : LexLt a b) (k : LexLt b c) : LexLt a c := by
 unfold LexLt OrdLt at *
 omega
def negP (p : Pt) : Pt := (-p.1, -p.2)
theorem neg_neg (p : Pt) : negP (negP p) = p := by
 unfold negP
 simp
end Go.Proofs.YtdmegkkifiahdaaGreat
namespace Go.Proofs.YtdmegkkifiahdaaGreat
set_option linter.unusedVariables false
end Go.Proofs.YtdmegkkifiahdaaGreat
namespace Go.Proofs.YtdmegkkifiahdaaGreat
set_option linter.unusedVariables false
structure Bx where
 (lx hx ly hy : Int)
instance : DecidableEq Bx := fun a b => decidable_of_iff (a.lx = b.lx ∧ a.hx = b.hx ∧ a.ly = b.ly ∧ a.hy = b.hy) (by cases a; cases b; simp)
end Go.Proofs.YtdmegkkifiahdaaGreat
namespace Go.Proofs.YtdmegkkifiahdaaGreat
set_option linter.unusedVariables false
structure Mk where
 (sym kind cls : Int)
instance : DecidableEq Mk := fun a b => decidable_of_iff (a.sym = b.sym ∧ a.kind = b.kind ∧ a.cls = b.cls) (by cases a; cases b; simp)
def noMk : Mk := ⟨0, 0, 0⟩
structure Bk where
 office : Int
 marks : List Mk
def MkOk (m : Mk) : Prop := (0 ≤ m.sym ∧ m.sym ≤ 999) ∧ (1 ≤ m.kind ∧ m.kind ≤ 6) ∧ 0 ≤ m.cls ∧ m.cls ≤ 9
instance (m : Mk) : Decidable (MkOk m) := by unfold MkOk; exact inferInstance
def lastSym (l : List Mk) : Nat → Int
 | 0 => -1
 | i + 1 => (l.getD i noMk).sym
def MarksOk (l : List Mk) : Prop := ∀ i, i < l.length → MkOk (l.getD i noMk) ∧ lastSym l i < (l.getD i noMk).sym
instance (l : List Mk) : Decidable (MarksOk l) := by unfold MarksOk; exact inferInstance
def BkOk (b : Bk) : Prop := (1 ≤ b.office ∧ b.office ≤ 20) ∧ b.marks.length ≤ 100 ∧ MarksOk b.marks
instance (b : Bk) : Decidable (BkOk b) := by unfold BkOk; exact inferInstance
def WholeD (m : Dat) : Prop := m.a % 1000000 = 0 ∧ m.b % 1000000 = 0 ∧ m.d % 1000000 = 0 ∧ m.e % 1000000 = 0
instance (m : Dat) : Decidable (WholeD m) := by unfold WholeD; exact inferInstance
def BxOk (b : Bx) : Prop := (-1000000 ≤ b.lx ∧ b.lx ≤ b.hx ∧ b.hx ≤ 1000000) ∧ -1000000 ≤ b.ly ∧ b.ly ≤ b.hy ∧ b.hy ≤ 1000000
instance (b : Bx) : Decidable (BxOk b) := by unfold BxOk; exact inferInstance
end Go.Proofs.YtdmegkkifiahdaaGreat
namespace Go.Proofs.YtdmegkkifiahdaaGreat
set_option linter.unusedVariables false
end Go.Proofs.YtdmegkkifiahdaaGreat
namespace Go.Proofs.YtdmegkkifiahdaaGreat
set_option linter.unusedVariables false
end Go.Proofs.YtdmegkkifiahdaaGreat
