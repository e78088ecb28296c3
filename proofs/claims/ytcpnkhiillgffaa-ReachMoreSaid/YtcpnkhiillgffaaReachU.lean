/- What stays where only the block of a map is written: the relation Bes. -/
import Derived.Test.YtcpnkhiillgffaaReachT
namespace Go.Proofs.Ytcpnkhiillgffaa
open Go.RowKit
set_option linter.unusedVariables false
/-- From w to w' at most block b was written, and new blocks were laid. -/
def Bes (b : Nat) (w w' : World) : Prop := w.grownBy w' (some b)
theorem Bes.refl (b : Nat) (w : World) : Bes b w w := ⟨rfl, rfl, rfl, Nat.le_refl _, fun _ _ _ => rfl⟩
theorem Bes.trans {b : Nat} {w1 w2 w3 : World} (h : Bes b w1 w2) (k : Bes b w2 w3) : Bes b w1 w3 :=
  ⟨k.os.trans h.os, k.tape.trans h.tape, k.output.trans h.output, Nat.le_trans h.size k.size, fun i hi hne => (k.block i (Nat.lt_of_lt_of_le hi h.size) hne).trans (h.block i hi hne)⟩
theorem Bes.of_below {b : Nat} {w w' : World} (h : Below w.heap.size w w') : Bes b w w' := ⟨h.os, h.tape, h.output, h.size, fun i hi _ => h.block i hi⟩
theorem Bes.block_ne {b i : Nat} {w w' : World} {o : Obj} (h : Bes b w w') (hi : w.heap[i]? = some o) (hne : i ≠ b) : w'.heap[i]? = some o := (h.block i (lt_block hi) (fun e => hne (Option.some.inj e))).trans hi
/-- A block that lies below B keeps, if b does not. -/
theorem Bes.below {b B : Nat} {w w' : World} (h : Bes b w w') (hB : B ≤ b) (hw : B ≤ w.heap.size) : Below B w w' := ⟨h.os, h.tape, h.output, h.size, fun i hi => h.block i (Nat.lt_of_lt_of_le hi hw) (fun e => by have := Option.some.inj e; omega)⟩
theorem cell_bes {b : Nat} {w w' : World} {es : Array MapEntry} {clock : Nat} {ad : Addr} {v : Value} (hm : w.heap[b]? = some (.map es clock)) (h : Bes b w w') (hc : w.cell? ad = some v) : w'.cell? ad = some v := by
  have hne : ad.block ≠ b := fun e => by
    rw [← e] at hm
    unfold World.cell? at hc
    rw [hm] at hc
    simp at hc
  have hlt : ad.block < w.heap.size := by
    rcases Nat.lt_or_ge ad.block w.heap.size with h' | h'
    · exact h'
    · exfalso
      unfold World.cell? at hc
      rw [Array.getElem?_eq_none h'] at hc
      simp at hc
  exact (World.cell?_of_block (h.block _ hlt (fun e => hne (Option.some.inj e)))).trans hc
theorem Rows.bes {b k : Nat} {w w' : World} {es : Array MapEntry} {clock : Nat} {v : Value} {n : Nat} {X : Nat → Nat → Int} (h : Rows k w v n X) (hm : w.heap[b]? = some (.map es clock)) (hb : Bes b w w') : Rows k w' v n X := by
  obtain ⟨ad, c, hv, hn, hc⟩ := h
  exact ⟨ad, c, hv, hn, fun i hi => by obtain ⟨g, o, hg, h⟩ := hc i hi; exact ⟨g, o, hg, fun j hj => cell_bes hm hb (h j hj)⟩⟩
theorem Tab.bes {b : Nat} {w w' : World} {es : Array MapEntry} {clock : Nat} {v : Value} {n : Nat} {len : Nat → Nat} {T : Nat → Nat → Int} (h : Tab w v n len T) (hm : w.heap[b]? = some (.map es clock)) (hb : Bes b w w') : Tab w' v n len T := by
  obtain ⟨ad, c, hv, hn, hc⟩ := h
  exact ⟨ad, c, hv, hn, fun t ht => by
    obtain ⟨g, o, a, k, h1, h2, h3, h4⟩ := hc t ht
    exact ⟨g, o, a, k, h1, cell_bes hm hb h2, h3, h4.bes hm hb⟩⟩
end Go.Proofs.Ytcpnkhiillgffaa
