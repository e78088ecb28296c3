/- What is left of a list while From reads it: one box that holds the rest; the walk of From$1 (next). -/
import Derived.Test.YtdmegkkifiahdaaGreatShtB
import Derived.Test.YtdmegkkifiahdaaGreatShtPure
namespace Go.Proofs.YtdmegkkifiahdaaGreat
open Go.RowKit
set_option linter.unusedVariables false
/-- From w to w' at most block b was written, and new blocks were laid. -/
def Wr (b : Nat) (w w' : World) : Prop := w.grownBy w' (some b)
theorem Wr.refl (b : Nat) (w : World) : Wr b w w := ⟨rfl, rfl, rfl, Nat.le_refl _, fun _ _ _ => rfl⟩
theorem Wr.trans {b : Nat} {w1 w2 w3 : World} (h : Wr b w1 w2) (k : Wr b w2 w3) : Wr b w1 w3 :=
  ⟨k.os.trans h.os, k.tape.trans h.tape, k.output.trans h.output, Nat.le_trans h.size k.size, fun i hi hne => (k.block i (Nat.lt_of_lt_of_le hi h.size) hne).trans (h.block i hi hne)⟩
theorem Wr.of_below {b : Nat} {w w' : World} (h : Below w.heap.size w w') : Wr b w w' := ⟨h.os, h.tape, h.output, h.size, fun i hi _ => h.block i hi⟩
theorem Wr.block_ne {b i : Nat} {w w' : World} {o : Obj} (h : Wr b w w') (hi : w.heap[i]? = some o) (hne : i ≠ b) : w'.heap[i]? = some o := (h.block i (lt_block hi) (fun e => hne (Option.some.inj e))).trans hi
/-- A block that lies below B keeps, if b does not. -/
theorem Wr.below {b B : Nat} {w w' : World} (h : Wr b w w') (hB : B ≤ b) (hw : B ≤ w.heap.size) : Below B w w' := ⟨h.os, h.tape, h.output, h.size, fun i hi => h.block i (Nat.lt_of_lt_of_le hi hw) (fun e => by have := Option.some.inj e; omega)⟩
theorem Wr.set {b i : Nat} {w : World} (v : Value) : Wr b w (w.setCell ⟨b, i, none⟩ v) := by
  refine ⟨rfl, rfl, rfl, by simp, fun j hj hne => ?_⟩
  have hne' : b ≠ j := fun e => hne (by rw [e])
  show (w.heap.modify b _)[j]? = _
  rw [Array.getElem?_modify, if_neg hne']
/-- The box br holds what is left, l, of a list that lay in w0. -/
def RestAt (w0 : World) (br : Nat) (w : World) (l : List Int) : Prop :=
  ∃ ad c, w.heap[br]? = some (.cells #[.slice ad l.length c] 46 (0, 0)) ∧ IntsAt w0 (.slice ad l.length c) l ∧ Below w0.heap.size w0 w ∧ w0.heap.size ≤ br
theorem RestAt.later {w0 w w' : World} {br : Nat} {l : List Int} (h : RestAt w0 br w l) (hb : Below w.heap.size w w') : RestAt w0 br w' l := by
  obtain ⟨ad, c, h1, h2, h3, h4⟩ := h
  exact ⟨ad, c, block_later hb h1, h2, below_step h3 hb, h4⟩
theorem ints_tail {w : World} {g o n c : Nat} {x : Int} {l : List Int} (h : IntsAt w (.slice (some ⟨g, o, none⟩) (n + 1) c) (x :: l)) (hn : l.length = n) : IntsAt w (.slice (some ⟨g, o + 1, none⟩) n (c - 1)) l := by
  subst hn
  refine ⟨?_, fun ad n' c' e => ?_⟩
  · refine ⟨_, _, rfl, by obtain ⟨_, _, e, h2, _⟩ := h.rows; cases e; have := h2; simp only [List.length_cons] at this; omega, fun i hi => ⟨g, o + 1, rfl, fun j hj => ?_⟩⟩
    obtain ⟨_, _, e, h2, h3⟩ := h.rows
    cases e
    obtain ⟨g', o', e', h4⟩ := h3 (i + 1) (by simp; omega)
    cases e'
    have h5 := h4 j hj
    rw [show o + (i + 1) * 1 + j = o + 1 + i * 1 + j by omega] at h5
    simpa using h5
  · cases e
    have := h.cap _ _ _ rfl
    omega
set_option maxHeartbeats 1000000 in
theorem shFrom1_any (w0 : World) (br : Nat) (l : List Int) (w : World) (h : RestAt w0 br w l) :
    Calls Tryz.prog 113 #[.pointer (some ⟨br, 0, none⟩)] w fun e w' => e = .returned (.int .i64 (l.getD 0 0)) ∧ RestAt w0 br w' (l.drop 1) ∧ Wr br w w' := by
  obtain ⟨ad, c, h1, h2, h3, h4⟩ := h
  have c0 := cell_block h1 0
  have f0 := free_block h1 0
  cases l with
  | nil =>
    have HH := Lib.hid (show RestAt w0 br w [] from ⟨ad, c, h1, h2, h3, h4⟩)
    clear h1 h2 h3 h4
    go_enter Tryz.func113, Tryz.ntmps113
    go_wp2_with fail
    go_returns
    exact ⟨rfl, HH.out, Wr.refl _ _⟩
  | cons x l =>
    obtain ⟨n, hn⟩ : ∃ n, l.length = n := ⟨_, rfl⟩
    simp only [List.length_cons] at c0 h1 h2
    rw [hn] at c0 h1 h2
    have hlen : (x :: l).length = n + 1 := by simp [hn]
    have hr := h2.rows
    rw [hlen] at hr
    obtain ⟨g, o, rfl, hc⟩ := hr.row (show 0 < n + 1 by omega)
    clear hr hlen
    have x0 := cell_later h3 (hc 0 (by omega))
    simp only [Nat.zero_mul, Nat.add_zero, List.getD_cons_zero] at x0
    have hcap : n + 1 ≤ c := h2.cap _ _ _ rfl
    have hmx : n + 1 ≤ 9223372036854775807 := by obtain ⟨_, _, e, h5, _⟩ := h2.rows; cases e; exact h5
    have H1 := Lib.hid h1
    have HT := Lib.hid (ints_tail h2 hn)
    have HN := Lib.hid hn
    have HZ : Hid (c = 1 → IntsAt w0 (.slice (some ⟨g, o, none⟩) n 0) l) := Lib.hid (fun e => by
      obtain rfl : n = 0 := by omega
      have : l = [] := List.eq_nil_of_length_eq_zero hn
      subst this
      exact ⟨⟨_, _, rfl, by omega, fun i hi => absurd hi (Nat.not_lt_zero i)⟩, fun _ _ _ e => by cases e; exact Nat.le_refl _⟩)
    have H3 := Lib.hid h3
    clear h1 h2 hc h3 hn
    go_enter Tryz.func113, Tryz.ntmps113
    go_wp2_with fail
    · go_returns
      refine ⟨rfl, ⟨some ⟨g, o, none⟩, 0, ?_, ?_, H3.out.trans ((Below.refl _ _).setCell h4 _), h4⟩, Wr.set _⟩
      · rw [HN.out]
        exact block_set H1.out _
      · rw [HN.out]
        exact HZ.out (by assumption)
    · go_returns
      refine ⟨rfl, ⟨some ⟨g, o + 1, none⟩, c - 1, ?_, ?_, H3.out.trans ((Below.refl _ _).setCell h4 _), h4⟩, Wr.set _⟩
      · rw [HN.out]
        exact block_set H1.out _
      · rw [HN.out]
        exact HT.out
/-- What a reading call gives: a value, and the rest t. -/
def ReadsP (w0 : World) (br : Nat) (v : Value) (t : List Int) (w : World) (e : Ending) (w' : World) : Prop := e = .returned v ∧ RestAt w0 br w' t ∧ Wr br w w'
theorem shFrom1_at (w0 : World) (br : Nat) (l : List Int) (w : World) (h : RestAt w0 br w l) {x : Int} {t : List Int} (hx : l.getD 0 0 = x) (ht : l.drop 1 = t) : Calls Tryz.prog 113 #[.pointer (some ⟨br, 0, none⟩)] w (ReadsP w0 br (.int .i64 x) t w) := by
  subst hx ht
  exact shFrom1_any w0 br l w h
end Go.Proofs.YtdmegkkifiahdaaGreat
