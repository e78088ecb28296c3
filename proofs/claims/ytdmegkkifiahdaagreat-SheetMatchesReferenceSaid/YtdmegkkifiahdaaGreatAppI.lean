/- Lists of integers that a call owns, and append to them. -/
import Derived.Test.YtdmegkkifiahdaaGreatKA
import Derived.Test.YtdmegkkifiahdaaGreatFeatC
import Derived.Test.YtdmegkkifiahdaaGreatShtMath
namespace Go.Proofs.YtdmegkkifiahdaaGreat
open Go.RowKit
set_option linter.unusedVariables false
/-- The slice v is the call's own list of integers l. -/
def OwnI (base : Nat) (w : World) (v : Value) (l : List Int) : Prop := w.ownsRow base 3 1 v l.length (l.map (Value.int .i64))
theorem OwnI.form {base : Nat} {w : World} {v : Value} {l : List Int} (h : OwnI base w v l) : ∃ ad c, v = .slice ad l.length c := by
  rcases h.2 with ⟨rfl, h0⟩ | ⟨g, cap, cur, rfl, _⟩
  · exact ⟨none, 0, by rw [h0]⟩
  · exact ⟨_, _, rfl⟩
theorem OwnI.keep {base : Nat} {w w' : World} {v : Value} {l : List Int} (h : OwnI base w v l) (hb : Below w.heap.size w w') : OwnI base w' v l := by
  refine ⟨h.1, ?_⟩
  rcases h.2 with h | ⟨g, cap, cur, rfl, hg, hh, hr⟩
  · exact .inl h
  · exact .inr ⟨g, cap, cur, rfl, hg, block_later hb hh, hr⟩
theorem OwnI.ints {base : Nat} {w : World} {v : Value} {l : List Int} (h : OwnI base w v l) (hl : l.length ≤ 9223372036854775807) : IntsAt w v l := by
  refine ⟨owns_rows hl h fun i hi j hj => ?_, fun ad n c e => ?_⟩
  · obtain rfl : j = 0 := by omega
    simp [hi]
  · rcases h.2 with ⟨rfl, h0⟩ | ⟨g, cap, cur, rfl, _, _, hnc, _⟩
    · cases e; exact Nat.le_refl _
    · cases e; exact hnc
theorem OwnI.block {base : Nat} {w : World} {v : Value} {l : List Int} (h : OwnI base w v l) : ∀ k, v.ownBlock = some k → base ≤ k := by
  intro k hk
  rcases h.2 with ⟨rfl, h0⟩ | ⟨g, cap, cur, rfl, hg, _⟩
  · simp [Value.ownBlock] at hk
  · simp [Value.ownBlock] at hk; omega
theorem OwnI.nil (base : Nat) (w : World) : OwnI base w (.slice none 0 0) [] := ⟨rfl, .inl ⟨rfl, rfl⟩⟩
theorem OwnI.lit {base b n : Nat} {w W : World} (l : List Int) (h : W = w.alloc (.cells (l.map (Value.int .i64)).toArray 3)) (hw : w.heap.size = b) (hn : l.length = n) (hb : base ≤ b) (hl : l.length ≤ maxLen) : OwnI base W (.slice (some ⟨b, 0, none⟩) n n) l := by
  subst h hw hn
  have := World.ownsRow_lit (base := base) (e := 3) (size := 1) w (l.map (Value.int .i64)).toArray l.length hb hl (by simp)
  unfold OwnI
  simpa using this
theorem rowCells_ints (l : List Int) : rowCells 1 l.length (fun i _ => l.getD i 0) = l.map (Value.int .i64) := by
  apply List.ext_getElem?
  intro i
  unfold rowCells
  rcases Nat.lt_or_ge i l.length with h | h
  · simp [h, Nat.div_one]
  · simp [h]
theorem info_int : (Tryz.prog.info? 3).map (fun i => (i.zero, i.size, i.bytes)) = some (some (.int .i64 0), 1, 8) := by kernel_rfl
/-- append of a list of integers to the call's own one. -/
theorem wpList_app {ops : Array Oper} {rest : List Oper} {o : Oper} {a : Act} {Q : Exit → Act → World → Prop} {w : World} (hgd : o.guard = none) (s x : Operand)
    (ho : o.op = .call { callee := .builtin .append, args := #[s, x], argTypes := #[46, 46] }) (base : Nat) (v : Value) (l m : List Int) (hs : a.eval s = v) (hown : OwnI base w v l)
    (ad : Option Addr) (n c : Nat) (hx : a.eval x = .slice ad n c) (hn : m.length = n) (hX : IntsAt w (.slice ad n c) m) (hsz : l.length + n ≤ 1000000) (hbase : base ≤ w.heap.size)
    (h : ∀ ad' c' w', OwnI base w' (.slice ad' (l.length + n) c') (l ++ m) → Below base w w' → wpList Tryz.prog ops Q rest (a.put o.dst (.slice ad' (l.length + n) c')) w') : wpList Tryz.prog ops Q (o :: rest) a w := by
  obtain ⟨i0, hi0, hz0, hz1, hz2⟩ := info_parts info_int
  subst hn
  refine wpList_append_rows w hgd s x 46 ho base 3 i0 (.int .i64 0) 1 8 Tryz.underlying46 hi0 hz0 hz1 hz2 rfl (by decide) v l.length _ hs hown ad m.length c (fun i _ => m.getD i 0) hx hX.rows (by unfold maxLen; omega) (by omega) hbase ?_
  intro ad' c' w' h2 hg
  rw [rowCells_ints, ← List.map_append] at h2
  refine h ad' c' w' (by unfold OwnI; rw [List.length_append]; exact h2) ((Below.refl base w).grown hg hbase hown.block)
theorem step_app {ops : Array Oper} {o : Oper} {a : Act} {K : Act → World → Prop} {Q : Exit → Act → World → Prop} {E : Prop} {w : World} (hgd : o.guard = none) (s x : Operand)
    (ho : o.op = .call { callee := .builtin .append, args := #[s, x], argTypes := #[46, 46] }) (base : Nat) (v : Value) (l m : List Int) (hs : a.eval s = v) (hown : OwnI base w v l)
    (ad : Option Addr) (n c : Nat) (hx : a.eval x = .slice ad n c) (hn : m.length = n) (hX : IntsAt w (.slice ad n c) m) (hsz : l.length + n ≤ 1000000) (hbase : base ≤ w.heap.size)
    (h : ∀ ad' c' w', OwnI base w' (.slice ad' (l.length + n) c') (l ++ m) → Below base w w' → K (a.put o.dst (.slice ad' (l.length + n) c')) w') :
    if Region.wanted o (yielded ops a.tmps) = true then Oper.wp Tryz.prog o a w K Q else E := by
  obtain ⟨i0, hi0, hz0, hz1, hz2⟩ := info_parts info_int
  subst hn
  refine step_append_rows w hgd s x 46 ho base 3 i0 (.int .i64 0) 1 8 Tryz.underlying46 hi0 hz0 hz1 hz2 rfl (by decide) v l.length _ hs hown ad m.length c (fun i _ => m.getD i 0) hx hX.rows (by unfold maxLen; omega) (by omega) hbase ?_
  intro ad' c' w' h2 hg
  rw [rowCells_ints, ← List.map_append] at h2
  refine h ad' c' w' (by unfold OwnI; rw [List.length_append]; exact h2) ((Below.refl base w).grown hg hbase hown.block)
/-- What a call gives: a list of integers. -/
def GivesL (l : List Int) (w : World) (e : Ending) (w' : World) : Prop := ∃ ad c, e = .returned (.slice ad l.length c) ∧ IntsAt w' (.slice ad l.length c) l ∧ Below w.heap.size w w'
/-- What put gives: its own list, longer. -/
def PutsL (base : Nat) (l : List Int) (w : World) (e : Ending) (w' : World) : Prop := ∃ ad c, e = .returned (.slice ad l.length c) ∧ OwnI base w' (.slice ad l.length c) l ∧ Below base w w'
theorem lit_ints {b n : Nat} {w W : World} (l : List Int) (h : W = w.alloc (.cells (l.map (Value.int .i64)).toArray 3)) (hw : w.heap.size = b) (hn : l.length = n) (hl : l.length ≤ maxLen) : IntsAt W (.slice (some ⟨b, 0, none⟩) n n) l :=
  (OwnI.lit (base := 0) l h hw hn (Nat.zero_le _) hl).ints (by unfold maxLen at hl; omega)
end Go.Proofs.YtdmegkkifiahdaaGreat
