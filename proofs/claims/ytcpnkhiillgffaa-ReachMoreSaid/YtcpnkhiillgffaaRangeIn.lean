/- A law for a range over a function whose iterator writes a map of the caller's: the caller's invariant abides the iterator's own steps (the relation E), and the iterator may read that invariant. -/
import Derived.WalkKit
import Derived.RangeFuncNested
import Derived.RangeFuncBound
import Derived.RangeFuncCalls
import Derived.RangeFuncLeaves
import Derived.OwnWalkIn
import Derived.TacticsInMore
import Derived.LoopNIn
import Derived.LoopIn
namespace Go.Proofs.Ytcpnkhiillgffaa
open Go.RowKit
set_option linter.unusedVariables false
/-- How a round's body must end: it goes on. -/
def goesOn {α : Type} (B : Nat) (Kp : World → World → Prop) (I : List α → World → Prop) (xs : List α) (W : World) : Exit → Act → World → Prop
  | .normal, _, W' => KeepsFrom B W W' ∧ Kp W W' ∧ I xs W'
  | .ret, _, _ => False
  | .exit _, _, _ => False
  | .goto _, _, _ => False
  | .panic _, _, _ => False
  | .outgrown, _, _ => False
theorem wpIn_rangeFunc_steps {F : Fence} {n : Nat} {P : Program} {α : Type} {g : Operand} {ps : Array Tmp} {assign body : Code} {Q : Exit → Act → World → Prop} {a : Act} {w : World}
    (hro : F.round = none) (h1 : 1 ≤ n) {gf : Nat} {lb : Array Value} (hg : a.eval g = .func (.func gf) #[] lb) (hFg : F.fn gf) (eg : ∀ args w, (callFunc gf args).run P w = .ok (.enter gf args) w)
    {encs : α → Array Value} (hps : ∀ x, (encs x).size = ps.size) (xs : List α) (Kp E : World → World → Prop) (I : List α → World → Prop)
    (hKt : ∀ {A B C : World}, Kp A B → Kp B C → Kp A C) (hKb : ∀ (W : World) (l : Nat) (o o' : Obj), w.heap.size ≤ l → l ≤ w.heap.size + 1 → W.heap[l]? = some o → Kp W (W.putObj l o'))
    (hE : ∀ A B, E A B → ∀ k o, w.heap.size ≤ k → A.heap[k]? = some o → o.isCells = false → B.heap[k]? = some o) (hIE : ∀ s A B, I s A → E A B → I s B)
    (hI : OwnFrom w.heap.size I) (h0 : I [] w)
    (hseq : ∀ (l : Nat) (J : List α → World → Prop) (W : World), W.heap.size = w.heap.size + 2 → (∀ s A, J s A → I s A ∧ w.heap.size + 2 ≤ A.heap.size) → (∀ s A B, J s A → E A B → J s B) →
      (∀ pre x W1, J pre W1 → (pre ++ [x]) <+: xs → YieldAt F (n - 1 - 1) P l (encs x) W1 fun e W' => e = .returned (.bool true) ∧ J (pre ++ [x]) W' ∧ Kp W1 W') → J [] W →
      CallsIn F (n - 1) P gf (#[.func (.yield l) #[] #[]] ++ lb) W fun e W' => (∃ v, e = .returned v) ∧ J xs W')
    (Ax : α → Act → World → Prop) (hAx : ∀ x a', OwnFrom w.heap.size (fun (_ : Unit) W => Ax x a' W))
    (hassign : ∀ (l : Nat) (pre : List α) (x : α) (W : World) (K : Act → World → Prop), I pre W → (∀ a' W', KeepsFrom w.heap.size W W' → Kp W W' → I pre W' → Ax x a' W' → K a' W') →
      assign.wpIn (F.inRound l) (n - 1 - 1) P (Exit.then K (fun _ _ _ => False)) { tmps := (ps.zip (encs x)).foldl (fun t (p, v) => t.setIfInBounds p v) a.tmps, defers := [] } W)
    (hbody : ∀ (l : Nat) (pre : List α) (x : α) (a' : Act) (W : World), w.heap.size ≤ l → I pre W → Ax x a' W → (pre ++ [x]) <+: xs → body.wpIn (F.inRound l) (n - 1 - 1) P (goesOn w.heap.size Kp I (pre ++ [x]) W) a' W)
    (hdone : ∀ (D : Nat) (W : World), w.heap.size ≤ D → I xs W → W.heap[D]? = some (.deferred (some [])) → Q .normal { a with defers := { target := .collected D, args := #[] } :: a.defers } W) :
    (Code.rangeFunc g ps assign body).wpIn F n P Q a w := by
  refine wpIn_rangeFunc ?_
  intro fn hfn
  rw [hro]
  obtain ⟨rec, hrec⟩ : ∃ rec : LoopState → Option Code → Loop, rec = fun st pe => { state := st, pending := pe, fn, tmps := a.tmps, params := ps, assign, body, defers := w.heap.size } := ⟨_, rfl⟩
  obtain ⟨W1, hW1⟩ : ∃ W1, (w.alloc (.deferred (some []))).alloc (.loop (rec .ready none)) = W1 := ⟨_, rfl⟩
  have hL1 : W1.heap[w.heap.size + 1]? = some (.loop (rec .ready none)) := by
    rw [← hW1]; have := World.alloc_heap_new (w.alloc (.deferred (some []))) (.loop (rec .ready none)); rwa [World.size_alloc] at this
  have hK1 : W1.heap[w.heap.size]? = some (.deferred (some [])) := by
    rw [← hW1]; exact (Below.heap_alloc _ _ _ (by simp)).trans (World.alloc_heap_new w _)
  have hI1 : I [] W1 := by rw [← hW1]; exact hI.alloc _ (hI.alloc _ h0)
  have hs1 : W1.heap.size = w.heap.size + 2 := by rw [← hW1]; simp
  refine ⟨w.heap.size + 1, [{ target := .collected w.heap.size, args := #[] }], W1, { target := .fn (.func gf) lb, args := #[.func (.yield (w.heap.size + 1)) #[] #[]] }, W1, gf,
    #[.func (.yield (w.heap.size + 1)) #[] #[]] ++ lb, W1, ?_, ?_, ?_, ?_, fun _ => h1, ?_⟩
  · rw [← hW1, hrec]; exact run_enterLoop_outer _ _ _ _ _
  · simp only [resolve, hg]
    simp [go_sem]
  · intro f' hf'; simp [Target.leads] at hf'; subst hf'; exact hFg
  · simp [invoke, go_sem, eg]
  · refine (hseq (w.heap.size + 1)
      (fun pre W => I pre W ∧ W.heap[w.heap.size + 1]? = some (.loop (rec .ready none)) ∧ W.heap[w.heap.size]? = some (.deferred (some [])))
      W1 hs1 (fun s A h => ⟨h.1, (Array.getElem?_eq_some_iff.1 h.2.1).1⟩)
      (fun s A B hs he => ⟨hIE s A B hs.1 he, hE A B he _ _ (by omega) hs.2.1 rfl, hE A B he _ _ (Nat.le_refl _) hs.2.2 rfl⟩) ?_ ⟨hI1, hL1, hK1⟩).mono ?_
    · rintro pre x W ⟨hi, hl, hk⟩ hlen
      have hy := run_yield (P := P) (args := encs x) hl (by rw [hrec]; exact hps x)
      rw [hrec] at hy
      refine ⟨fn, _, assign, body, hy, roundIn_of_wpIn hfn (hassign _ pre x W _ hi ?_)⟩
      clear hy
      intro a' Wa hkfa hkpa hia hax
      have hla := hkfa.same _ _ (by omega) hl rfl
      have hka := hkfa.same _ _ (Nat.le_refl _) hk rfl
      have hlt := (Array.getElem?_eq_some_iff.1 hla).1
      refine ⟨_, run_beginRound hla (by rw [hrec]), ?_⟩
      have hl2 : (Wa.putObj (w.heap.size + 1) (.loop { rec .ready none with state := .busy })).heap[w.heap.size + 1]? = some (.loop { rec .ready none with state := .busy }) := World.putObj_heap_same hlt
      have hk2 : (Wa.putObj (w.heap.size + 1) (.loop { rec .ready none with state := .busy })).heap[w.heap.size]? = some (.deferred (some [])) := (World.putObj_heap_other (by omega)).trans hka
      have hw2 : Kp Wa (Wa.putObj (w.heap.size + 1) (.loop { rec .ready none with state := .busy })) := hKb _ _ _ _ (by omega) (by omega) hla
      refine wpIn_mono (hbody _ pre x a' _ (by omega) (hI.putObj _ hia (by omega) hla rfl) ((hAx x a').putObj (s := ()) _ hax (by omega) hla rfl) hlen) ?_
      rintro e a3 W3 hp
      cases e with
      | normal =>
        obtain ⟨hk3, hkp3, hi3⟩ := hp
        have hl3 := hk3.same _ _ (by omega) hl2 rfl
        have hr := run_endRound (P := P) none hl3
        have hlt3 := (Array.getElem?_eq_some_iff.1 hl3).1
        refine ⟨_, _, hr, rfl, ⟨hI.putObj _ hi3 (by omega) hl3 rfl, ?_, (World.putObj_heap_other (by omega)).trans (hk3.same _ _ (Nat.le_refl _) hk2 rfl)⟩, hKt hkpa (hKt (hKt hw2 hkp3) (hKb _ _ _ _ (by omega) (by omega) hl3))⟩
        rw [World.putObj_heap_same hlt3, hrec]
        rfl
      | ret => exact hp.elim
      | exit id => exact hp.elim
      | goto t => exact hp.elim
      | panic ch => exact hp.elim
      | outgrown => exact hp.elim
    · rintro e W2 ⟨⟨v, rfl⟩, hi, hl, hk⟩
      exact ⟨none, _, by have := run_endLoop (P := P) hl (by rw [hrec]; simp); rw [hrec] at this; exact this, hdone _ _ (Nat.le_refl _) (hI.putObj _ hi (by omega) hl rfl) ((World.putObj_heap_other (by omega)).trans hk)⟩
end Go.Proofs.Ytcpnkhiillgffaa
