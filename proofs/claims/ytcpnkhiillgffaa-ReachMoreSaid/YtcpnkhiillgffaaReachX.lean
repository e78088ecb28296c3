/- The walks of over (the net with its pieces, and the memo) and ways (the iterator's value). -/
import Derived.Test.YtcpnkhiillgffaaReachW
import Derived.Test.YtcpnkhiillgffaaRangeIn
import Derived.Test.YtcpnkhiillgffaaTailIn
import Derived.Laws.EntriesVeiled
namespace Go.Proofs.Ytcpnkhiillgffaa
open Go.RowKit
attribute [local go_sem] bqOp bqAll bqUpon
attribute [local irreducible] wpQuiet wpBQ
set_option linter.unusedVariables false
/-- The value of a water: the net, the first time, and the closure with what it has captured. -/
def waterV (ad ad2 : Option Addr) (np c ne c2 : Nat) (f : Int) (bs bu bf ba bn : Nat) : Value :=
  .agg #[.slice ad np c, .slice ad2 ne c2, .int .i64 f, .func (.func 85) #[] #[.pointer (some ⟨bs, 0, none⟩), .pointer (some ⟨bu, 0, none⟩), .pointer (some ⟨bf, 0, none⟩), .pointer (some ⟨ba, 0, none⟩), .pointer (some ⟨bn, 0, none⟩)]]
/-- What the closure has captured lies in these blocks. -/
structure Wat (w : World) (ad ad2 ad4 : Option Addr) (np c ne c2 na c4 : Nat) (f u : Int) (b bs bu bf ba bn : Nat) : Prop where
  s : w.heap[bs]? = some (.cells #[.map (some b)] 112 (0, 0))
  u : w.heap[bu]? = some (.cells #[.int .i64 u] 3 (0, 0))
  f : w.heap[bf]? = some (.cells #[.int .i64 f] 3 (0, 0))
  a : ∃ t4, w.heap[ba]? = some (.cells #[.slice ad4 na c4] t4 (0, 0))
  n : ∃ t5, w.heap[bn]? = some (.cells #[.slice ad np c, .slice ad2 ne c2] t5 (0, 0))
theorem Wat.bes {w w' : World} {ad ad2 ad4 : Option Addr} {np c ne c2 na c4 : Nat} {f u : Int} {b bs bu bf ba bn : Nat} {es : Array MapEntry} {clock : Nat} (h : Wat w ad ad2 ad4 np c ne c2 na c4 f u b bs bu bf ba bn) (hm : w.heap[b]? = some (.map es clock)) (hb : Bes b w w') : Wat w' ad ad2 ad4 np c ne c2 na c4 f u b bs bu bf ba bn := by
  have key : ∀ (k : Nat) (cs : Array Value) (t : TypeId) (m : Nat × Nat), w.heap[k]? = some (.cells cs t m) → w'.heap[k]? = some (.cells cs t m) := fun k cs t m hk => hb.block_ne hk (fun e => by subst e; rw [hm] at hk; cases hk)
  obtain ⟨h1, h2, h3, ⟨t4, h4⟩, t5, h5⟩ := h
  exact ⟨key _ _ _ _ h1, key _ _ _ _ h2, key _ _ _ _ h3, ⟨t4, key _ _ _ _ h4⟩, t5, key _ _ _ _ h5⟩
theorem Wat.same {w w' : World} {ad ad2 ad4 : Option Addr} {np c ne c2 na c4 : Nat} {f u : Int} {b bs bu bf ba bn : Nat} (h : Wat w ad ad2 ad4 np c ne c2 na c4 f u b bs bu bf ba bn) (hb : Below w.heap.size w w') : Wat w' ad ad2 ad4 np c ne c2 na c4 f u b bs bu bf ba bn := by
  obtain ⟨h1, h2, h3, ⟨t4, h4⟩, t5, h5⟩ := h
  exact ⟨block_later hb h1, block_later hb h2, block_later hb h3, ⟨t4, block_later hb h4⟩, t5, block_later hb h5⟩
/-- What over leaves. -/
def OverP (ad ad2 ad4 : Option Addr) (np c ne c2 na c4 : Nat) (f u : Int) (w : World) (z : Ending) (w' : World) : Prop :=
  ∃ b bs bu bf ba bn, z = .returned (waterV ad ad2 np c ne c2 f bs bu bf ba bn) ∧ Below w.heap.size w w' ∧ w.heap.size ≤ b ∧ Wat w' ad ad2 ad4 np c ne c2 na c4 f u b bs bu bf ba bn ∧ ∃ clock, w'.heap[b]? = some (.map #[] clock)
theorem hOver_any (ad ad2 ad4 : Option Addr) (np c ne c2 na c4 : Nat) (f u : Int) (w : World) :
    Calls Try.prog 56 #[.agg #[.slice ad np c, .slice ad2 ne c2], .slice ad4 na c4, .int .i64 f, .int .i64 u] w (OverP ad ad2 ad4 np c ne c2 na c4 f u w) := by
  have hmm := @run_makeMap Try.prog
  go_enter Try.func56, Try.ntmps56
  go_wp2
  refine bodyPost_ret (v := waterV ad ad2 np c ne c2 f (w.heap.size + 6) (w.heap.size + 3) (w.heap.size + 2) (w.heap.size + 1) w.heap.size) (by simp [waterV, results, Try.results56, go_sem]) rfl ?_
  generalize hW : (World.alloc _ _) = W
  obtain ⟨p1, p2, p3, p4, p5, p6, p7, hB⟩ := box7 hW.symm
  exact ⟨w.heap.size + 5, _, _, _, _, _, rfl, hB, by omega, ⟨p7, p4, p3, ⟨_, p2⟩, _, p1⟩, _, p6⟩
/-- The iterator's value. -/
theorem hWays_any (ad ad2 : Option Addr) (np c ne c2 : Nat) (f t p : Int) (bs bu bf ba bn : Nat) (w : World) :
    Calls Try.prog 90 #[waterV ad ad2 np c ne c2 f bs bu bf ba bn, .int .i64 t, .int .i64 p] w fun z w' =>
      z = .returned (.func (.func 100) #[] #[.pointer (some ⟨w.heap.size + 1, 0, none⟩), .pointer (some ⟨w.heap.size + 2, 0, none⟩), .pointer (some ⟨w.heap.size, 0, none⟩)]) ∧ Below w.heap.size w w' ∧ w'.heap.size = w.heap.size + 3 ∧
      (∃ ty, w'.heap[w.heap.size]? = some (.cells #[.slice ad np c, .slice ad2 ne c2, .int .i64 f, .func (.func 85) #[] #[.pointer (some ⟨bs, 0, none⟩), .pointer (some ⟨bu, 0, none⟩), .pointer (some ⟨bf, 0, none⟩), .pointer (some ⟨ba, 0, none⟩), .pointer (some ⟨bn, 0, none⟩)]] ty (0, 0))) ∧
      w'.heap[w.heap.size + 1]? = some (.cells #[.int .i64 t] 3 (0, 0)) ∧ w'.heap[w.heap.size + 2]? = some (.cells #[.int .i64 p] 3 (0, 0)) := by
  unfold waterV
  go_enter Try.func90, Try.ntmps90
  go_wp2
  go_returns
  refine ⟨rfl, ?_⟩
  generalize hW : (World.alloc _ _) = W
  have hs : W.heap.size = w.heap.size + 3 := by subst hW; simp
  obtain ⟨p1, p2, p3, hB⟩ := box3 hW.symm
  exact ⟨hB, hs, ⟨_, p1⟩, p2, p3⟩
end Go.Proofs.Ytcpnkhiillgffaa
