/- A cell of a feature of a call's own list of features. -/
import Derived.Test.YtmoofkoibaihhaaGreatAppF
namespace Go.Proofs.YtmoofkoibaihhaaGreat
open Go.RowKit
theorem OwnFs.spot {base : Nat} {w0 w : World} {ad : Option Addr} {N c : Nat} {l : List Feat} (h : OwnFs base w0 w (.slice ad N c) l) (hb : Below w0.heap.size w0 w) (hl : l.length = N) (hN : N ≤ 9223372036854775807) {k : Nat} (hk : k < N) :
    ∃ g va vs, ad = some ⟨g, 0, none⟩ ∧ base ≤ g ∧ (∀ i, w.frozen? ⟨g, i, none⟩ = false) ∧ FeatCells w g (k * 9) (l.getD k noFeat) va vs := by
  obtain ⟨g, o, va, vs, e, fc⟩ := (h.feats hb (by omega)).row hk
  obtain ⟨items, rfl, ho, _⟩ := h
  rw [List.length_map] at hl
  rcases ho.2 with ⟨_, h0⟩ | ⟨g', cap, cur, e', hg, hh, _⟩
  · omega
  · simp only [Value.slice.injEq] at e'
    obtain ⟨rfl, _, _⟩ := e'
    cases e
    rw [Nat.zero_add] at fc
    exact ⟨g, va, vs, rfl, hg, fun i => free_block hh i, fc⟩
end Go.Proofs.YtmoofkoibaihhaaGreat
