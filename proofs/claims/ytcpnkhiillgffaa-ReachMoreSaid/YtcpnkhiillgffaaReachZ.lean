/- The walk of best: the least count with which a ship comes to a place at a time, and the way. -/
import Derived.Test.YtcpnkhiillgffaaReachY
import Derived.Shelf.RegionOpen
namespace Go.Proofs.Ytcpnkhiillgffaa
open Go.RowKit
attribute [local go_sem] bqOp bqAll bqUpon
attribute [local go_sem] Oper.semAt_some
attribute [local irreducible] wpQuiet wpBQ wpQuietIn
set_option linter.unusedVariables false
/-- What a way is worth by a table. -/
def valW (T : Nat → Nat → Int) (x : Way) : Int := if x.adds = true then x.hears + T x.time.toNat x.place.toNat else x.hears
/-- The state of best's loop: the least, its way, and whether none has come yet. -/
structure Best where
  least : Int
  way : Way
  first : Bool
def stepW (T : Nat → Nat → Int) (s : Best) (x : Way) : Best := if s.first = true ∨ valW T x < s.least then ⟨valW T x, x, false⟩ else s
def bestW (T : Nat → Nat → Int) (l : List Way) : Best := l.foldl (stepW T) ⟨0, ⟨0, 0, 0, false⟩, true⟩
theorem bestW_snoc (T : Nat → Nat → Int) (l : List Way) (x : Way) : bestW T (l ++ [x]) = stepW T (bestW T l) x := by
  unfold bestW
  rw [List.foldl_append]
  rfl
/-- A way of the list is one that the walk of best can follow. -/
def WayOk (np t : Nat) (x : Way) : Prop := 0 ≤ x.hears ∧ x.hears ≤ 800 ∧ (x.adds = true → (0 ≤ x.time ∧ x.time < (t : Int)) ∧ 0 ≤ x.place ∧ x.place < (np : Int))
theorem innerW_mem {X A E : Nat → Nat → Int} {na : Nat} {f : Int} {p t k m : Nat} {x : Way} (h : x ∈ innerW X A E na f p t k m) : ∃ i, i < m ∧ x = sailW X A E na f p t k (E k 2 + (i : Int)) := by
  induction m with
  | zero => simp [innerW] at h
  | succ m ih =>
    unfold innerW at h
    rcases List.mem_append.1 h with h | h
    · obtain ⟨i, h1, h2⟩ := ih h
      exact ⟨i, by omega, h2⟩
    · exact ⟨m, by omega, by simpa using h⟩
theorem edgeW_mem {X A E : Nat → Nat → Int} {na : Nat} {f : Int} {p t k : Nat} {x : Way} (h : x ∈ edgeW X A E na f p t k) : E k 1 = (p : Int) ∧ ((∃ i, i < edgeN E t k ∧ x = sailW X A E na f p t k (E k 2 + (i : Int))) ∨ ((t : Int) < E k 3 ∧ x = lastW X A E na f p t k)) := by
  unfold edgeW at h
  split at h
  · rename_i he
    refine ⟨he, ?_⟩
    rcases List.mem_append.1 h with h | h
    · exact .inl (innerW_mem h)
    · split at h
      · rename_i hl; exact .inr ⟨hl, by simpa using h⟩
      · simp at h
  · simp at h
theorem edgesW_mem {X A E : Nat → Nat → Int} {na : Nat} {f : Int} {p t ne : Nat} {x : Way} (h : x ∈ edgesW X A E na f p t ne) : x = stayW X A na f p t ∨ ∃ k, k < ne ∧ x ∈ edgeW X A E na f p t k := by
  induction ne with
  | zero => left; simpa [edgesW] using h
  | succ n ih =>
    unfold edgesW at h
    rcases List.mem_append.1 h with h | h
    · rcases ih h with h | ⟨k, h1, h2⟩
      · exact .inl h
      · exact .inr ⟨k, by omega, h2⟩
    · exact .inr ⟨n, by omega, h⟩
theorem waysW_ok {np : Nat} {X A E : Nat → Nat → Int} {na : Nat} {f : Int} {p t ne : Nat} (ha : na ≤ 400) (he : ∀ k, k < ne → EdgeOk np (E k)) (hp : p < np) {x : Way} (h : x ∈ waysW X A E na f p t ne) : WayOk np t x := by
  unfold waysW at h
  split at h
  · obtain rfl : x = ⟨p, 0, 0, false⟩ := by simpa using h
    exact ⟨by simp, by simp, fun h => by cases h⟩
  · rename_i ht
    rcases edgesW_mem h with rfl | ⟨k, hk, h⟩
    · have b := cntN_bd (btwB X A p p (f + ((t : Int) - 1)) (f + (t : Int))) na
      exact ⟨b.1, by show cntN _ _ ≤ 800; omega, fun _ => ⟨⟨by show 0 ≤ (t : Int) - 1; omega, by show (t : Int) - 1 < t; omega⟩, by show 0 ≤ (p : Int); omega, by show (p : Int) < np; omega⟩⟩
    · obtain ⟨⟨e0, e1⟩, _, e4, e5, e6, e7⟩ := he k hk
      rcases (edgeW_mem h).2 with ⟨i, hi, rfl⟩ | ⟨hl, rfl⟩
      · unfold edgeN at hi
        have b1 := cntN_bd (btwB X A (E k 0).toNat (E k 0).toNat (f + ((t : Int) - (E k 2 + (i : Int)))) (f + ((t : Int) - (E k 2 + (i : Int)) + 1))) na
        have b2 := cntN_bd (btwB X A (E k 0).toNat p (f + ((t : Int) - (E k 2 + (i : Int)) + 1)) (f + (t : Int))) na
        refine ⟨?_, ?_, fun _ => ⟨⟨?_, ?_⟩, e0, e1⟩⟩
        · show 0 ≤ cntN _ _ + cntN _ _; omega
        · show cntN _ _ + cntN _ _ ≤ 800; omega
        · show 0 ≤ (t : Int) - (E k 2 + (i : Int)); omega
        · show (t : Int) - (E k 2 + (i : Int)) < t; omega
      · have b1 := cntN_bd (btwB X A (E k 0).toNat p f (f + (t : Int))) na
        exact ⟨b1.1, by show cntN _ _ ≤ 800; omega, fun h => by cases h⟩
theorem mem_of_pre {α : Type} {pre xs : List α} {x : α} (h : pre ++ [x] <+: xs) : x ∈ xs := h.subset (by simp)
/-- Av, and best's own blocks. -/
def AvB (Av : Nat → Prop) (B0 g : Nat) : Prop := Av g ∨ (B0 ≤ g ∧ g < B0 + 11)
/-- What best's loop knows: B0 is where its own variables begin. -/
structure BestI (ad ad2 : Option Addr) (np c ne c2 na : Nat) (X A : Nat → Nat → Int) (f : Int) (p t n : Nat) (Av : Nat → Prop) (b bs bu bf ba bn B0 : Nat) (tv : Value) (T : Nat → Nat → Int) (w0 : World) (pre : List Way) (w : World) : Prop where
  bes : Bes b w0 w
  sums : Sums w (AvB Av B0) b n (sumF X A na f)
  tb : ∃ ty, w.heap[B0 + 1]? = some (.cells #[tv] ty (0, 0))
  res : ∃ ty, w.heap[B0 + 2]? = some (.cells #[.int .i64 0, .int .i64 0, .int .i64 0, .bool false] ty (0, 0))
  least : w.heap[B0 + 3]? = some (.cells #[.int .i64 (bestW T pre).least] 3 (0, 0))
  way : ∃ ty, w.heap[B0 + 4]? = some (.cells #[.int .i64 (bestW T pre).way.place, .int .i64 (bestW T pre).way.time, .int .i64 (bestW T pre).way.hears, .bool (bestW T pre).way.adds] ty (0, 0))
  first : w.heap[B0 + 5]? = some (.cells #[.bool (bestW T pre).first] 4 (0, 0))
  wv : ∃ ty, w.heap[B0 + 6]? = some (.cells #[.slice ad np c, .slice ad2 ne c2, .int .i64 f, .func (.func 85) #[] #[.pointer (some ⟨bs, 0, none⟩), .pointer (some ⟨bu, 0, none⟩), .pointer (some ⟨bf, 0, none⟩), .pointer (some ⟨ba, 0, none⟩), .pointer (some ⟨bn, 0, none⟩)]] ty (0, 0))
  t : w.heap[B0 + 7]? = some (.cells #[.int .i64 (t : Int)] 3 (0, 0))
  p : w.heap[B0 + 8]? = some (.cells #[.int .i64 (p : Int)] 3 (0, 0))
theorem Sums.moveC {w w' : World} {Av : Nat → Prop} {b n : Nat} {F : Int → Int → Nat → Int} (h : Sums w Av b n F) (hb : w'.heap[b]? = w.heap[b]?) (hk : ∀ (k : Nat) (cs : Array Value) (ty : TypeId) (m : Nat × Nat), w.heap[k]? = some (.cells cs ty m) → ¬ Av k → w'.heap[k]? = w.heap[k]?) : Sums w' Av b n F := by
  obtain ⟨es, clock, hbk, hes⟩ := h
  exact ⟨es, clock, hb.trans hbk, fun e he => by
    obtain ⟨p, q, h1, g, c, cur, h2, h3, h4, h5, h6⟩ := hes e he
    exact ⟨p, q, h1, g, c, cur, h2, h3, h4, (hk g _ _ _ h5 h3).trans h5, h6⟩⟩
section
variable {ad ad2 : Option Addr} {np c ne c2 na : Nat} {X A : Nat → Nat → Int} {f : Int} {p t n : Nat} {Av : Nat → Prop} {b bs bu bf ba bn B0 : Nat} {tv : Value} {T : Nat → Nat → Int} {w0 : World} {pre : List Way}
/-- What keeps the blocks of cells that best's loop speaks of. -/
theorem BestI.carry {w w' : World} (h : BestI ad ad2 np c ne c2 na X A f p t n Av b bs bu bf ba bn B0 tv T w0 pre w) (hb : Bes b w0 w') (hs : Sums w' (AvB Av B0) b n (sumF X A na f)) (hk : ∀ (k : Nat) (cs : Array Value) (ty : TypeId) (m : Nat × Nat), w.heap[k]? = some (.cells cs ty m) → w'.heap[k]? = some (.cells cs ty m)) : BestI ad ad2 np c ne c2 na X A f p t n Av b bs bu bf ba bn B0 tv T w0 pre w' := by
  obtain ⟨_, _, ⟨_, h3⟩, ⟨_, h4⟩, h5, ⟨_, h6⟩, h7, ⟨_, h8⟩, h9, h10⟩ := h
  exact ⟨hb, hs, ⟨_, hk _ _ _ _ h3⟩, ⟨_, hk _ _ _ _ h4⟩, hk _ _ _ _ h5, ⟨_, hk _ _ _ _ h6⟩, hk _ _ _ _ h7, ⟨_, hk _ _ _ _ h8⟩, hk _ _ _ _ h9, hk _ _ _ _ h10⟩
theorem Sums.cells_ne {w : World} {Av : Nat → Prop} {b n : Nat} {F : Int → Int → Nat → Int} (h : Sums w Av b n F) {k : Nat} {cs : Array Value} {ty : TypeId} {m : Nat × Nat} (hk : w.heap[k]? = some (.cells cs ty m)) : k ≠ b := by
  obtain ⟨es, clock, hm, _⟩ := h
  rintro rfl
  rw [hm] at hk
  cases hk
theorem BestI.step {w w' : World} (h : BestI ad ad2 np c ne c2 na X A f p t n Av b bs bu bf ba bn B0 tv T w0 pre w) (hb : Bes b w w') (hs : Sums w' (AvB Av B0) b n (sumF X A na f)) : BestI ad ad2 np c ne c2 na X A f p t n Av b bs bu bf ba bn B0 tv T w0 pre w' :=
  h.carry (h.bes.trans hb) hs (fun _ _ _ _ hk => hb.block_ne hk (h.sums.cells_ne hk))
theorem BestI.below {w w' : World} (h : BestI ad ad2 np c ne c2 na X A f p t n Av b bs bu bf ba bn B0 tv T w0 pre w) (hb : Below w.heap.size w w') : BestI ad ad2 np c ne c2 na X A f p t n Av b bs bu bf ba bn B0 tv T w0 pre w' :=
  h.step (Bes.of_below hb) (h.sums.later hb)
theorem BestI.own {L : Nat} (hL : w0.heap.size ≤ L) (hbL : b < w0.heap.size) : OwnFrom L (BestI ad ad2 np c ne c2 na X A f p t n Av b bs bu bf ba bn B0 tv T w0) := fun pre w w' row h hg hr => by
  have key : ∀ (k : Nat) (cs : Array Value) (ty : TypeId) (m : Nat × Nat), w.heap[k]? = some (.cells cs ty m) → w'.heap[k]? = some (.cells cs ty m) := fun k cs ty m hk =>
    (hg.block k (lt_block hk) (fun e => by obtain ⟨_, o, ho, hc⟩ := hr k e.symm; rw [hk] at ho; cases ho; cases hc)).trans hk
  have low : ∀ k, k < w0.heap.size → w'.heap[k]? = w.heap[k]? := fun k hk => hg.block k (Nat.lt_of_lt_of_le hk h.bes.size) (fun e => by obtain ⟨h1, _⟩ := hr k e.symm; omega)
  exact h.carry ⟨hg.os.trans h.bes.os, hg.tape.trans h.bes.tape, hg.output.trans h.bes.output, Nat.le_trans h.bes.size hg.size, fun i hi hne => (low i hi).trans (h.bes.block i hi hne)⟩ (h.sums.moveC (low b hbL) (fun k cs ty m hk _ => (key k cs ty m hk).trans hk.symm)) key
theorem BestI.pool {ad4 : Option Addr} {c4 : Nat} {E : Nat → Nat → Int} {u : Int} {w : World} (h : BestI ad ad2 np c ne c2 na X A f p t n Av b bs bu bf ba bn B0 tv T w0 pre w) (hsz : B0 + 11 ≤ w.heap.size) (hW : Wat w0 ad ad2 ad4 np c ne c2 na c4 f u b bs bu bf ba bn) (hS : Sums w0 Av b n (sumF X A na f)) (hav : ∀ g, Av g → g < w0.heap.size)
    (hX : Rows 2 w0 (.slice ad np c) np X) (hA : Rows 4 w0 (.slice ad4 na c4) na A) (hE : Rows 4 w0 (.slice ad2 ne c2) ne E) : Pool ad ad2 ad4 np c ne c2 na c4 X A E f u p t n (AvB Av B0) b bs bu bf ba bn (B0 + 7) (B0 + 8) (B0 + 6) w := by
  obtain ⟨es, clock, hm, _⟩ := hS
  exact ⟨hW.bes hm h.bes, h.sums, hX.bes hm h.bes, hA.bes hm h.bes, hE.bes hm h.bes, h.t, h.p, h.wv, fun g hg => hg.elim (fun h' => Nat.lt_of_lt_of_le (hav g h') h.bes.size) (fun h' => by omega)⟩
theorem kp_put {Av : Nat → Prop} (W : World) (l : Nat) (o : Obj) (h1 : Av l) : Kp Av W (W.putObj l o) :=
  ⟨by simp, fun k _ hn => World.putObj_heap_other (fun e => hn (by rw [e]; exact h1))⟩
theorem kp_below {Av : Nat → Prop} {W W' : World} (h : Below W.heap.size W W') : Kp Av W W' := ⟨h.size, fun k hk _ => h.block k hk⟩
theorem kp_set {Av : Nat → Prop} (W : World) (k i : Nat) (v : Value) (h1 : Av k) : Kp Av W (W.setCell ⟨k, i, none⟩ v) :=
  ⟨by show W.heap.size ≤ (W.heap.modify _ _).size; rw [Array.size_modify]; exact Nat.le_refl _, fun j _ hn => Below.heap_setCell W _ v j (fun e => hn (by subst e; exact h1))⟩
/-- best's three stores. -/
def takes (B0 : Nat) (v : Int) (x : Way) (W : World) : World := (((((W.setCell ⟨B0 + 3, 0, none⟩ (.int .i64 v)).setCell ⟨B0 + 4, 0, none⟩ (.int .i64 x.place)).setCell ⟨B0 + 4, 1, none⟩ (.int .i64 x.time)).setCell ⟨B0 + 4, 2, none⟩ (.int .i64 x.hears)).setCell ⟨B0 + 4, 3, none⟩ (.bool x.adds)).setCell ⟨B0 + 5, 0, none⟩ (.bool false)
theorem takes_kp (Av : Nat → Prop) (h3 : Av (B0 + 3)) (h4 : Av (B0 + 4)) (h5 : Av (B0 + 5)) (v : Int) (x : Way) (W : World) : Kp Av W (takes B0 v x W) :=
  (((((kp_set _ _ _ _ h3).trans (kp_set _ _ _ _ h4)).trans (kp_set _ _ _ _ h4)).trans (kp_set _ _ _ _ h4)).trans (kp_set _ _ _ _ h4)).trans (kp_set _ _ _ _ h5)
theorem takes_keeps (v : Int) (x : Way) (W : World) : KeepsOthers W (takes B0 v x W) :=
  (((((KeepsOthers.setCell _ _ _).trans (KeepsOthers.setCell _ _ _)).trans (KeepsOthers.setCell _ _ _)).trans (KeepsOthers.setCell _ _ _)).trans (KeepsOthers.setCell _ _ _)).trans (KeepsOthers.setCell _ _ _)
theorem takes_blocks {w : World} {v : Int} {x : Way} {c3 : Value} {t3 : TypeId} {k0 k1 k2 k3 : Value} {t4 : TypeId} {c5 : Value} {t5 : TypeId} (h3 : w.heap[B0 + 3]? = some (.cells #[c3] t3 (0, 0))) (h4 : w.heap[B0 + 4]? = some (.cells #[k0, k1, k2, k3] t4 (0, 0))) (h5 : w.heap[B0 + 5]? = some (.cells #[c5] t5 (0, 0))) :
    (takes B0 v x w).heap[B0 + 3]? = some (.cells #[.int .i64 v] t3 (0, 0)) ∧ (takes B0 v x w).heap[B0 + 4]? = some (.cells #[.int .i64 x.place, .int .i64 x.time, .int .i64 x.hears, .bool x.adds] t4 (0, 0)) ∧ (takes B0 v x w).heap[B0 + 5]? = some (.cells #[.bool false] t5 (0, 0)) := by
  unfold takes
  have a34 : B0 + 3 ≠ B0 + 4 := by omega
  have a35 : B0 + 3 ≠ B0 + 5 := by omega
  have a45 : B0 + 4 ≠ B0 + 5 := by omega
  have x3 := block_set h3 (i := 0) (.int .i64 v)
  have x4 := block_far h4 (a := ⟨B0 + 3, 0, none⟩) a34.symm (.int .i64 v)
  have x5 := block_far h5 (a := ⟨B0 + 3, 0, none⟩) a35.symm (.int .i64 v)
  generalize w.setCell ⟨B0 + 3, 0, none⟩ (.int .i64 v) = w1 at x3 x4 x5 ⊢
  have y3 := block_far (block_far (block_far (block_far x3 (a := ⟨B0 + 4, 0, none⟩) a34 (.int .i64 x.place)) (a := ⟨B0 + 4, 1, none⟩) a34 (.int .i64 x.time)) (a := ⟨B0 + 4, 2, none⟩) a34 (.int .i64 x.hears)) (a := ⟨B0 + 4, 3, none⟩) a34 (.bool x.adds)
  have y5 := block_far (block_far (block_far (block_far x5 (a := ⟨B0 + 4, 0, none⟩) a45.symm (.int .i64 x.place)) (a := ⟨B0 + 4, 1, none⟩) a45.symm (.int .i64 x.time)) (a := ⟨B0 + 4, 2, none⟩) a45.symm (.int .i64 x.hears)) (a := ⟨B0 + 4, 3, none⟩) a45.symm (.bool x.adds)
  have y4 := block_set (block_set (block_set (block_set x4 (i := 0) (.int .i64 x.place)) (i := 1) (.int .i64 x.time)) (i := 2) (.int .i64 x.hears)) (i := 3) (.bool x.adds)
  generalize (((w1.setCell ⟨B0 + 4, 0, none⟩ (.int .i64 x.place)).setCell ⟨B0 + 4, 1, none⟩ (.int .i64 x.time)).setCell ⟨B0 + 4, 2, none⟩ (.int .i64 x.hears)).setCell ⟨B0 + 4, 3, none⟩ (.bool x.adds) = w2 at y3 y4 y5 ⊢
  exact ⟨block_far y3 (a := ⟨B0 + 5, 0, none⟩) a35 _, block_far y4 (a := ⟨B0 + 5, 0, none⟩) a45 _, block_set y5 (i := 0) _⟩
theorem takes_same (B0 : Nat) (v : Int) (x : Way) (w : World) : (takes B0 v x w).os = w.os ∧ (takes B0 v x w).tape = w.tape ∧ (takes B0 v x w).output = w.output := by
  have h : Below 0 w (takes B0 v x w) := by
    unfold takes
    exact ((((((Below.refl 0 w).setCell (Nat.zero_le _) _).setCell (Nat.zero_le _) _).setCell (Nat.zero_le _) _).setCell (Nat.zero_le _) _).setCell (Nat.zero_le _) _).setCell (Nat.zero_le _) _
  exact ⟨h.os, h.tape, h.output⟩
theorem takes_best {w : World} (h : BestI ad ad2 np c ne c2 na X A f p t n Av b bs bu bf ba bn B0 tv T w0 pre w) (hB : w0.heap.size ≤ B0) (hb0 : b < w0.heap.size) {x : Way} {v : Int} (hs : bestW T (pre ++ [x]) = ⟨v, x, false⟩) : BestI ad ad2 np c ne c2 na X A f p t n Av b bs bu bf ba bn B0 tv T w0 (pre ++ [x]) (takes B0 v x w) := by
  have kp := takes_kp (B0 := B0) (fun g => B0 + 3 ≤ g ∧ g < B0 + 6) ⟨by omega, by omega⟩ ⟨by omega, by omega⟩ ⟨by omega, by omega⟩ v x w
  have same := takes_same B0 v x w
  obtain ⟨i1, i2, ⟨_, i3⟩, ⟨_, i4⟩, i5, ⟨ty6, i6⟩, i7, ⟨_, i8⟩, i9, i10⟩ := h
  obtain ⟨n3, n4, n5⟩ := takes_blocks (v := v) (x := x) i5 i6 i7
  generalize takes B0 v x w = w' at kp same n3 n4 n5 ⊢
  have far : ∀ {k : Nat} {o : Obj}, w.heap[k]? = some o → (k < B0 + 3 ∨ B0 + 6 ≤ k) → w'.heap[k]? = some o := fun hk hr => (kp.block _ (lt_block hk) (by omega)).trans hk
  refine ⟨⟨same.1.trans i1.os, same.2.1.trans i1.tape, same.2.2.trans i1.output, Nat.le_trans i1.size kp.size, fun k hk hne => (kp.block k (Nat.lt_of_lt_of_le hk i1.size) (by omega)).trans (i1.block k hk hne)⟩, i2.move (kp.block b i2.lt (by omega)) (fun k hk hn => kp.block k hk (fun h => hn (.inr (by omega)))), ⟨_, far i3 (by omega)⟩, ⟨_, far i4 (by omega)⟩, by rw [hs]; exact n3, ⟨_, by rw [hs]; exact n4⟩, by rw [hs]; exact n5, ⟨_, far i8 (by omega)⟩, far i9 (by omega), far i10 (by omega)⟩
theorem keeps_best {w : World} (h : BestI ad ad2 np c ne c2 na X A f p t n Av b bs bu bf ba bn B0 tv T w0 pre w) {x : Way} (hs : bestW T (pre ++ [x]) = bestW T pre) : BestI ad ad2 np c ne c2 na X A f p t n Av b bs bu bf ba bn B0 tv T w0 (pre ++ [x]) w := by
  obtain ⟨i1, i2, i3, i4, i5, i6, i7, i8, i9, i10⟩ := h
  exact ⟨i1, i2, i3, i4, by rw [hs]; exact i5, by rw [hs]; exact i6, by rw [hs]; exact i7, i8, i9, i10⟩
end
/-- I holds, and block k is o. -/
def AtBox (I : World → Prop) (k : Nat) (o : Obj) (w : World) : Prop := I w ∧ w.heap[k]? = some o
/-- The same world but for the count of draws. -/
structure Redrawn (w w' : World) : Prop where
  heap : w'.heap = w.heap
  os : w'.os = w.os
  tape : w'.tape = w.tape
  output : w'.output = w.output
theorem Redrawn.refl (w : World) : Redrawn w w := ⟨rfl, rfl, rfl, rfl⟩
theorem Redrawn.drew (w : World) : Redrawn w w.drew := ⟨rfl, rfl, rfl, rfl⟩
theorem Redrawn.below {w w' : World} (h : Redrawn w w') : Below w.heap.size w w' := ⟨h.os, h.tape, h.output, by rw [h.heap]; exact Nat.le_refl _, fun k _ => by rw [h.heap]⟩
theorem Redrawn.cell {w w' : World} (h : Redrawn w w') (a : Addr) : w'.cell? a = w.cell? a := World.cell?_of_block (by rw [h.heap])
theorem Redrawn.others {w w' : World} (h : Redrawn w w') : KeepsOthers w w' := ⟨by rw [h.heap]; exact Nat.le_refl _, fun k o hk _ => by rw [h.heap]; exact hk⟩
section
variable {ad ad2 : Option Addr} {np c ne c2 na : Nat} {X A : Nat → Nat → Int} {f : Int} {p t n : Nat} {Av : Nat → Prop} {b bs bu bf ba bn B0 L : Nat} {tv : Value} {T : Nat → Nat → Int} {w0 : World} {pre : List Way}
theorem end_take {W w1 : World} {a : Act} {v : Int} {x : Way} (h : BestI ad ad2 np c ne c2 na X A f p t n Av b bs bu bf ba bn B0 tv T w0 pre W) (hB : w0.heap.size ≤ B0) (hb0 : b < w0.heap.size) (hr : Redrawn W w1) (hs : bestW T (pre ++ [x]) = ⟨v, x, false⟩) :
    goesOn L (Kp (AvB Av B0)) (BestI ad ad2 np c ne c2 na X A f p t n Av b bs bu bf ba bn B0 tv T w0) (pre ++ [x]) W .normal a (takes B0 v x w1).drew := by
  have hd := Redrawn.drew (takes B0 v x w1)
  refine ⟨((hr.others.trans (takes_keeps v x w1)).trans hd.others).from _, ((kp_below hr.below).trans (takes_kp _ (.inr (by omega)) (.inr (by omega)) (.inr (by omega)) v x w1)).trans (kp_below hd.below), ?_⟩
  exact (takes_best (h.below hr.below) hB hb0 hs).below hd.below
theorem end_keep {W w1 : World} {a : Act} {x : Way} (h : BestI ad ad2 np c ne c2 na X A f p t n Av b bs bu bf ba bn B0 tv T w0 pre W) (hr : Redrawn W w1) (hs : bestW T (pre ++ [x]) = bestW T pre) :
    goesOn L (Kp (AvB Av B0)) (BestI ad ad2 np c ne c2 na X A f p t n Av b bs bu bf ba bn B0 tv T w0) (pre ++ [x]) W .normal a w1 :=
  ⟨hr.others.from _, kp_below hr.below, keeps_best (h.below hr.below) hs⟩
end
/-- best's frame in a round. -/
def bestAct (ad ad2 adt : Option Addr) (np c ne c2 nt ct : Nat) (f : Int) (t p bs bu bf ba bn B0 Bx : Nat) (x : Way) : Act :=
  { tmps := #[.agg #[.slice ad np c, .slice ad2 ne c2, .int .i64 f, .func (.func 85) #[] #[.pointer (some ⟨bs, 0, none⟩), .pointer (some ⟨bu, 0, none⟩), .pointer (some ⟨bf, 0, none⟩), .pointer (some ⟨ba, 0, none⟩), .pointer (some ⟨bn, 0, none⟩)]],
      .slice adt nt ct, .int .i64 (t : Int), .int .i64 (p : Int), .pointer (some ⟨B0, 0, none⟩), .pointer (some ⟨B0 + 1, 0, none⟩), undef, undef, .int .i64 0, .pointer (some ⟨B0 + 2, 0, none⟩), .pointer (some ⟨B0 + 3, 0, none⟩), .pointer (some ⟨B0 + 4, 0, none⟩), .pointer (some ⟨B0 + 5, 0, none⟩), .pointer (some ⟨Bx, 0, none⟩), undef,
      .agg #[.int .i64 0, .int .i64 0, .int .i64 0, .bool false],
      .agg #[.slice ad np c, .slice ad2 ne c2, .int .i64 f, .func (.func 85) #[] #[.pointer (some ⟨bs, 0, none⟩), .pointer (some ⟨bu, 0, none⟩), .pointer (some ⟨bf, 0, none⟩), .pointer (some ⟨ba, 0, none⟩), .pointer (some ⟨bn, 0, none⟩)]],
      .int .i64 (t : Int), .int .i64 (p : Int), .func (.func 100) #[] #[.pointer (some ⟨B0 + 7, 0, none⟩), .pointer (some ⟨B0 + 8, 0, none⟩), .pointer (some ⟨B0 + 6, 0, none⟩)],
      .agg #[.int .i64 x.place, .int .i64 x.time, .int .i64 x.hears, .bool x.adds], undef, undef, undef, undef, undef, undef, undef, undef, undef, undef, undef, undef, undef, undef, undef, undef, undef, undef, undef, undef, undef, undef, undef, undef, undef, undef, undef], defers := [] }
/-- What best leaves. -/
def BestP (X A E : Nat → Nat → Int) (na : Nat) (f : Int) (p t ne n : Nat) (Av : Nat → Prop) (b : Nat) (T : Nat → Nat → Int) (w : World) (z : Ending) (w' : World) : Prop :=
  z = .returned (.tuple #[.int .i64 (bestW T (waysW X A E na f p t ne)).least, encW (bestW T (waysW X A E na f p t ne)).way]) ∧ Bes b w w' ∧ Sums w' Av b n (sumF X A na f)
set_option maxRecDepth 20000 in
set_option maxHeartbeats 1000000 in
theorem hBest_in (ad ad2 ad4 adt : Option Addr) (np c ne c2 na c4 nt ct : Nat) (X A E T : Nat → Nat → Int) (len : Nat → Nat) (f u : Int) (p t n : Nat) (Av : Nat → Prop) (b bs bu bf ba bn : Nat) (m : Nat) (hm : 4 ≤ m) (w : World) (hn : u - f + 2 = (n : Int))
    (hn1 : np ≤ 64) (ha : AirsOk na A) (hv : ∀ i, i < np → Vld (X i 0) (X i 1)) (he : ∀ k, k < ne → EdgeOk np (E k)) (hne : ne ≤ 80) (f0 : 0 ≤ f) (fu : f ≤ u) (u0 : u ≤ 10000000) (uf : u - f ≤ 400) (hp : p < np) (ht : (t : Int) ≤ u - f)
    (hX : Rows 2 w (.slice ad np c) np X) (hA : Rows 4 w (.slice ad4 na c4) na A) (hE : Rows 4 w (.slice ad2 ne c2) ne E) (hT : Tab w (.slice adt nt ct) nt len T) (htn : t ≤ nt) (hTR : RowsOk np (t : Int) len T)
    (hW : Wat w ad ad2 ad4 np c ne c2 na c4 f u b bs bu bf ba bn) (hS : Sums w Av b n (sumF X A na f)) (hav : ∀ g, Av g → g < w.heap.size) :
    CallsIn Fence.wide m Try.prog 68 #[waterV ad ad2 np c ne c2 f bs bu bf ba bn, .slice adt nt ct, .int .i64 (t : Int), .int .i64 (p : Int)] w (BestP X A E na f p t ne n Av b T w) := by
  have HN := Lib.hid hn
  have HE := Lib.hid he
  have VX := Lib.hid hv
  have VA := Lib.hid ha
  have HX := Lib.hid hX
  have HA := Lib.hid hA
  have HEE := Lib.hid hE
  have HT := Lib.hid hT
  have HTR := Lib.hid hTR
  have HW := Lib.hid hW
  have HS := Lib.hid hS
  clear hn he hv ha hX hA hE hT hTR hW hS
  unfold waterV
  refine callsIn_of_wp_marks Try.func68 rfl trivial ?_ rfl
  simp only [Try.ntmps68, List.append_toArray, List.cons_append, List.nil_append, List.size_toArray, List.length_cons, List.length_nil, Nat.reduceAdd, Nat.reduceSub, Array.replicate_succ, Array.replicate_zero, List.push_toArray]
  gi_wp2
  refine ⟨trivial, fun _ => by omega, ?_⟩
  generalize hW0 : (World.alloc _ _) = W0
  have hs0 : W0.heap.size = w.heap.size + 6 := by subst hW0; simp
  obtain ⟨p1, p2, p3, p4, p5, p6, hB0⟩ := box6 hW0.symm
  clear hW0
  have C := hWays_any ad ad2 np c ne c2 f (t : Int) (p : Int) bs bu bf ba bn W0
  unfold waterV at C
  refine (callsIn_wide.2 C).mono ?_
  clear C
  rintro e w1 ⟨rfl, hb1, hs1, ⟨ty, q1⟩, q2, q3⟩
  rw [hs0] at q1 q2 q3 hs1
  gi_wp2
  have hbw := HS.out.lt
  have hbes0 : Bes b w w1 := (Bes.of_below hB0).trans (Bes.of_below hb1)
  have hbase : BestI ad ad2 np c ne c2 na X A f p t n Av b bs bu bf ba bn w.heap.size (.slice adt nt ct) T w [] w1 := ⟨hbes0, (((HS.out.span (Av' := AvB Av w.heap.size) (fun g hg h => h.elim id (fun h' => by omega))).later hB0).later hb1), ⟨_, block_later hb1 p2⟩, ⟨_, block_later hb1 p3⟩, block_later hb1 p4, ⟨_, block_later hb1 p5⟩, block_later hb1 p6, ⟨_, q1⟩, q2, q3⟩
  clear p1 p2 p3 p4 p5 p6 q1 q2 q3
  refine wpIn_rangeFunc_steps (F := Fence.wide) (n := m) rfl (by omega) (gf := 100) (lb := #[.pointer (some ⟨w.heap.size + 7, 0, none⟩), .pointer (some ⟨w.heap.size + 8, 0, none⟩), .pointer (some ⟨w.heap.size + 6, 0, none⟩)]) rfl trivial (enters_of Try.func100 (by kernel_rfl) rfl) (encs := fun x => #[encW x]) (fun _ => rfl) (waysW X A E na f p t ne)
    (Kp (AvB Av w.heap.size)) (fun A' B' => Bes b A' B' ∧ Sums B' (AvB Av w.heap.size) b n (sumF X A na f)) (BestI ad ad2 np c ne c2 na X A f p t n Av b bs bu bf ba bn w.heap.size (.slice adt nt ct) T w)
    (fun h k => h.trans k) (fun W l _ o' h1 h2 _ => kp_put W l o' (.inr (by omega))) (fun A' B' h k o hk ho hc => h.1.block_ne ho (by omega)) (fun s A' B' h k => h.step k.1 k.2) (BestI.own (by omega) hbw) hbase ?seq
    (fun x a' W => ∃ Bx ty, w.heap.size + 9 ≤ Bx ∧ W.heap[Bx]? = some (.cells #[.int .i64 x.place, .int .i64 x.time, .int .i64 x.hears, .bool x.adds] ty (0, 0)) ∧ a' = bestAct ad ad2 adt np c ne c2 nt ct f t p bs bu bf ba bn w.heap.size Bx x) ?ax ?assign ?body ?done
  case seq =>
    intro l J W hW hJI hJE hY h0
    refine hWays1_in ad ad2 ad4 np c ne c2 na c4 X A E f u p t n (AvB Av w.heap.size) b bs bu bf ba bn (w.heap.size + 7) (w.heap.size + 8) (w.heap.size + 6) (m - 1) l (by omega) HN.out hn1 VA.out VX.out HE.out hne f0 fu u0 uf hp ht J (fun s w' h => ?_) (fun s w' w2 h h1 h2 => hJE s w' w2 h ⟨h1, h2⟩) hY W h0
    obtain ⟨h1, h2⟩ := hJI s w' h
    exact h1.pool (by omega) HW.out HS.out hav HX.out HA.out HEE.out
  case ax =>
    rintro x a' ⟨⟩ W W' row ⟨Bx, ty, h1, h2, h3⟩ hg hr
    exact ⟨Bx, ty, h1, (hg.block Bx (lt_block h2) (fun e => by obtain ⟨_, o, ho, hc⟩ := hr Bx e.symm; rw [h2] at ho; cases ho; cases hc)).trans h2, h3⟩
  case assign =>
    intro l pre x W K hI hK
    dsimp only [encW]
    gi_wp2
    have hbl := (Below.refl W.heap.size W).alloc (Nat.le_refl _) (.cells #[.int .i64 x.place, .int .i64 x.time, .int .i64 x.hears, .bool x.adds] 96)
    refine hK _ _ ((KeepsOthers.alloc _ _).from _) (kp_below hbl) (hI.below hbl) ⟨W.heap.size, _, ?_, block_new _ _, rfl⟩
    have := lt_block hI.p
    omega
  case body =>
    rintro l pre x a' W hl hI ⟨Bx, ty, hBx, hbx, rfl⟩ hpre
    have ok := waysW_ok VA.out.1 HE.out hp (mem_of_pre hpre)
    have hmx : Try.prog.follows .mixedOrders = true := by kernel_rfl
    have hsz : w.heap.size ≤ w.heap.size := Nat.le_refl _
    obtain ⟨pl, tm, hr, xa⟩ := x
    obtain ⟨o1, o2, o3⟩ := ok
    dsimp only at o1 o2 o3 hbx
    obtain ⟨s, hs⟩ : ∃ s, bestW T pre = s := ⟨_, rfl⟩
    obtain ⟨le, wy, fi⟩ := s
    have HSS := Lib.hid hs
    have HI := Lib.hid hI
    have HBX := Lib.hid hbx
    clear hs hI hbx hpre
    unfold bestAct
    dsimp only
    cases xa
    · have HV := Lib.hid (show valW T ⟨pl, tm, hr, false⟩ = hr from if_neg (by simp))
      clear o3
      have x0 := cell_block HBX.out 0
      have x1 := cell_block HBX.out 1
      have x2 := cell_block HBX.out 2
      have x3 := cell_block HBX.out 3
      have l0 := cell_block HI.out.least 0
      have g0 := cell_block HI.out.first 0
      obtain ⟨ty4, hw4⟩ := HI.out.way
      have m0 := cell_block hw4 0
      have m1 := cell_block hw4 1
      have m2 := cell_block hw4 2
      have m3 := cell_block hw4 3
      have z3 := fun i => free_block HI.out.least i
      have z4 := fun i => free_block hw4 i
      have z5 := fun i => free_block HI.out.first i
      rw [HSS.out] at l0 g0 m0 m1 m2 m3
      dsimp only at l0 g0 m0 m1 m2 m3
      clear hw4
      cases fi
      · by_cases hlt : hr < le
        · gi_wp2
          gi_region_with_o (fail)
          all_goals gi_wp2
          all_goals exact end_take HI.out hsz hbw (Redrawn.refl W) (by rw [bestW_snoc, HSS.out]; unfold stepW; rw [if_pos (.inr (by rw [HV.out]; exact hlt)), HV.out])
        · have hge : le ≤ hr := by omega
          have hd : decide (hr < le) = false := by simp; omega
          gi_wp2
          exact end_keep HI.out (Redrawn.refl W) (by rw [bestW_snoc, HSS.out]; unfold stepW; rw [if_neg (fun h => h.elim (fun h => by cases h) (fun h => by rw [HV.out] at h; dsimp only at h; omega))])
      · gi_wp2
        gi_region_with_o (fail)
        all_goals gi_wp2
        all_goals exact end_take HI.out hsz hbw (Redrawn.refl W) (by rw [bestW_snoc, HSS.out]; unfold stepW; rw [if_pos (.inl rfl), HV.out])
    · obtain ⟨⟨q1, q2⟩, q3, q4⟩ := o3 rfl
      obtain ⟨τ, rfl⟩ : ∃ k : Nat, tm = (k : Int) := ⟨tm.toNat, by omega⟩
      obtain ⟨π, rfl⟩ : ∃ k : Nat, pl = (k : Int) := ⟨pl.toNat, by omega⟩
      clear q1 q3 o3
      have hτ : τ < nt := by omega
      have hτ2 : (τ : Int) < (nt : Int) := by omega
      obtain ⟨hl, hT2⟩ := HTR.out τ q2
      have hπ : π < np := by omega
      obtain ⟨u1, u2⟩ := hT2 π hπ
      obtain ⟨tg, tq, ta, tk, rfl, tc, tl, trow⟩ := HT.out.row hτ
      obtain ⟨rg, ro, rfl, rc⟩ := trow.int (show π < len τ by omega)
      obtain ⟨es, clock, hm0, _⟩ := HS.out
      obtain ⟨vv, hvv⟩ : ∃ vv, T τ π = vv := ⟨_, rfl⟩
      rw [hl] at tc
      rw [hvv] at u1 u2 rc
      have HV := Lib.hid (show valW T ⟨(π : Int), (τ : Int), hr, true⟩ = hr + vv from by unfold valW; rw [if_pos rfl]; simp only [Int.toNat_natCast, hvv])
      have jv : IntKind.i64.wrap (hr + vv) = hr + vv := IntWalk.i64_in _ (by omega)
      have FC : ∀ w', Redrawn W w' → w'.cell? ⟨w.heap.size + 1, 0, none⟩ = some (.slice (some ⟨tg, tq, none⟩) nt ct) ∧ w'.cell? ⟨Bx, 0, none⟩ = some (.int .i64 (π : Int)) ∧ w'.cell? ⟨Bx, 1, none⟩ = some (.int .i64 (τ : Int)) ∧ w'.cell? ⟨tg, tq + τ, none⟩ = some (.slice (some ⟨rg, ro, none⟩) np tk) ∧ w'.cell? ⟨rg, ro + π, none⟩ = some (.int .i64 vv) := fun w' h => by
        obtain ⟨ty1, t1⟩ := HI.out.tb
        rw [h.cell, h.cell, h.cell, h.cell, h.cell]
        exact ⟨cell_block t1 0, cell_block HBX.out 0, cell_block HBX.out 1, cell_bes hm0 HI.out.bes tc, cell_bes hm0 HI.out.bes rc⟩
      replace FC := Lib.hid FC
      clear hvv tc rc trow tl hT2 hm0
      have x2 := cell_block HBX.out 2
      have x3 := cell_block HBX.out 3
      gi_wp2
      refine wpIn_region_class (C := Redrawn W) (by kernel_rfl) (by kernel_rfl) (by kernel_rfl) (Redrawn.drew _) ?_
      clear x2 x3
      (repeat (refine wpQuietIn_step (fun _ _ _ _ => trivial) (fun K hK => ?_); replace hK := Lib.hid hK; go_simp; first | (refine hK.out _ ?_; clear hK K) | (apply Exists.intro; refine ⟨fun w' hw => ?_, hK.out _ ?_⟩; (first | with_reducible exact rfl | ((obtain ⟨fc1, fc2, fc3, fc4, fc5⟩ := FC.out w' hw; go_simp; exact rfl))); clear hK K)))
      refine wpQuietIn_nil ?_
      intro w3 hre
      have HRE := Lib.hid hre
      have HI3 := Lib.hid (HI.out.below hre.below)
      have HBX3 := Lib.hid (block_later hre.below HBX.out)
      clear hre
      have x0 := cell_block HBX3.out 0
      have x1 := cell_block HBX3.out 1
      have x2 := cell_block HBX3.out 2
      have x3 := cell_block HBX3.out 3
      have l0 := cell_block HI3.out.least 0
      have g0 := cell_block HI3.out.first 0
      obtain ⟨ty4, hw4⟩ := HI3.out.way
      have m0 := cell_block hw4 0
      have m1 := cell_block hw4 1
      have m2 := cell_block hw4 2
      have m3 := cell_block hw4 3
      have z3 := fun i => free_block HI3.out.least i
      have z4 := fun i => free_block hw4 i
      have z5 := fun i => free_block HI3.out.first i
      rw [HSS.out] at l0 g0 m0 m1 m2 m3
      dsimp only at l0 g0 m0 m1 m2 m3
      clear hw4
      cases fi
      · by_cases hlt : hr + vv < le
        · gi_wp2
          gi_region_with_o (fail)
          all_goals gi_wp2
          all_goals exact end_take HI.out hsz hbw HRE.out (by rw [bestW_snoc, HSS.out]; unfold stepW; rw [if_pos (.inr (by rw [HV.out]; exact hlt)), HV.out])
        · have hge : le ≤ hr + vv := by omega
          have hd : decide (hr + vv < le) = false := by simp; omega
          gi_wp2
          exact end_keep HI.out HRE.out (by rw [bestW_snoc, HSS.out]; unfold stepW; rw [if_neg (fun h => h.elim (fun h => by cases h) (fun h => by rw [HV.out] at h; dsimp only at h; omega))])
      · gi_wp2
        gi_region_with_o (fail)
        all_goals gi_wp2
        all_goals exact end_take HI.out hsz hbw HRE.out (by rw [bestW_snoc, HSS.out]; unfold stepW; rw [if_pos (.inl rfl), HV.out])
  case done =>
    intro D W hD hI hK
    obtain ⟨s, hs⟩ : ∃ s, bestW T (waysW X A E na f p t ne) = s := ⟨_, rfl⟩
    have HSS := Lib.hid hs
    clear hs
    have FC : ∀ w', AtBox (BestI ad ad2 np c ne c2 na X A f p t n Av b bs bu bf ba bn w.heap.size (.slice adt nt ct) T w (waysW X A E na f p t ne)) D (.deferred (some [])) w' → w'.cell? ⟨w.heap.size + 1 + 1 + 1, 0, none⟩ = some (.int .i64 s.least) ∧ w'.cell? ⟨w.heap.size + 1 + 1 + 1 + 1, 0, none⟩ = some (.int .i64 s.way.place) ∧ w'.cell? ⟨w.heap.size + 1 + 1 + 1 + 1, 1, none⟩ = some (.int .i64 s.way.time) ∧ w'.cell? ⟨w.heap.size + 1 + 1 + 1 + 1, 2, none⟩ = some (.int .i64 s.way.hears) ∧ w'.cell? ⟨w.heap.size + 1 + 1 + 1 + 1, 3, none⟩ = some (.bool s.way.adds) := fun w' h => by
      rw [← HSS.out]
      obtain ⟨ty, h4⟩ := h.1.way
      exact ⟨cell_block h.1.least 0, cell_block h4 0, cell_block h4 1, cell_block h4 2, cell_block h4 3⟩
    replace FC := Lib.hid FC
    gi_wp2
    refine wpIn_region_class_tail (C := fun w' => AtBox (BestI ad ad2 np c ne c2 na X A f p t n Av b bs bu bf ba bn w.heap.size (.slice adt nt ct) T w (waysW X A E na f p t ne)) D (.deferred (some [])) w') 3 (by kernel_rfl) (by kernel_rfl) (by kernel_rfl) ⟨hI.below ((Below.refl _ _).drew), hK⟩ ?_
    simp only [List.take_succ_cons, List.take_zero, List.drop_succ_cons, List.drop_zero]
    (repeat (refine wpQuietIn_step (fun _ _ _ _ => trivial) (fun K hK => ?_); replace hK := Lib.hid hK; go_simp; first | (refine hK.out _ ?_; clear hK K) | (apply Exists.intro; refine ⟨fun w' hw => ?_, hK.out _ ?_⟩; (first | with_reducible exact rfl | ((obtain ⟨fc1, fc2, fc3, fc4, fc5⟩ := FC.out w' hw; go_simp; exact rfl))); clear hK K)))
    refine wpQuietIn_nil ?_
    rintro w3 ⟨hI3, hK3⟩
    obtain ⟨ty2, r3⟩ := hI3.res
    have f0 := cell_block r3 0
    have f1 := cell_block r3 1
    have f2 := cell_block r3 2
    have f3 := cell_block r3 3
    have f4 := fun i => free_block r3 i
    gi_wp2
    have x4 := block_set (block_set (block_set (block_set r3 (i := 0) (.int .i64 s.way.place)) (i := 1) (.int .i64 s.way.time)) (i := 2) (.int .i64 s.way.hears)) (i := 3) (.bool s.way.adds)
    have k4 := (((kp_set (Av := fun g => g = w.heap.size + 2) w3 (w.heap.size + 2) 0 (.int .i64 s.way.place) rfl).trans (kp_set _ _ 1 (.int .i64 s.way.time) rfl)).trans (kp_set _ _ 2 (.int .i64 s.way.hears) rfl)).trans (kp_set _ _ 3 (.bool s.way.adds) rfl)
    have b4 := ((((Below.refl (w.heap.size + 2) w3).setCell (p := ⟨w.heap.size + 2, 0, none⟩) (Nat.le_refl _) (.int .i64 s.way.place)).setCell (p := ⟨w.heap.size + 2, 1, none⟩) (Nat.le_refl _) (.int .i64 s.way.time)).setCell (p := ⟨w.heap.size + 2, 2, none⟩) (Nat.le_refl _) (.int .i64 s.way.hears)).setCell (p := ⟨w.heap.size + 2, 3, none⟩) (Nat.le_refl _) (.bool s.way.adds)
    generalize (((w3.setCell ⟨w.heap.size + 2, 0, none⟩ (.int .i64 s.way.place)).setCell ⟨w.heap.size + 2, 1, none⟩ (.int .i64 s.way.time)).setCell ⟨w.heap.size + 2, 2, none⟩ (.int .i64 s.way.hears)).setCell ⟨w.heap.size + 2, 3, none⟩ (.bool s.way.adds) = w4 at x4 k4 b4
    have hD9 : w.heap.size + 9 ≤ D := by omega
    have hK4 : w4.heap[D]? = some (.deferred (some [])) := (k4.block D (lt_block hK3) (by omega)).trans hK3
    have x5 := (World.putObj_heap_other (w := w4) (r := D) (show w.heap.size + 2 ≠ D by omega) (o := .deferred none)).trans x4
    have c9 := cell_block x5
    rw [show w.heap.size + 1 + 1 = w.heap.size + 2 from rfl]
    refine ⟨by simp, .inl ⟨_, _, rfl, run_takeDeferred hK4, ?_⟩⟩
    refine ⟨.tuple #[.int .i64 s.least, .agg #[.int .i64 s.way.place, .int .i64 s.way.time, .int .i64 s.way.hears, .bool s.way.adds]], by simp [results, Try.results68, go_sem, c9], ?_⟩
    have hfin : ∀ k, k < w.heap.size → k ≠ b → (w4.putObj D (.deferred none)).heap[k]? = w.heap[k]? := fun k hk hne => (World.putObj_heap_other (show k ≠ D by omega)).trans ((k4.block k (Nat.lt_of_lt_of_le hk hI3.bes.size) (by omega)).trans (hI3.bes.block k hk (fun e => hne (Option.some.inj e))))
    refine ⟨by rw [HSS.out]; rfl, ⟨b4.os.trans hI3.bes.os, b4.tape.trans hI3.bes.tape, b4.output.trans hI3.bes.output, by have := hI3.bes.size; have := k4.size; simp; omega, fun k hk hne => hfin k hk (fun e => hne (by rw [e]))⟩, ?_⟩
    have hs4 : Sums w4 (AvB Av w.heap.size) b n (sumF X A na f) := hI3.sums.move (k4.block b hI3.sums.lt (by omega)) (fun k hk hn => k4.block k hk (fun h => hn (.inr (by omega))))
    exact (hs4.moveC (World.putObj_heap_other (show b ≠ D by omega)) (fun k cs ty m hk _ => World.putObj_heap_other (fun e => by rw [e, hK4] at hk; cases hk))).span (fun g _ h => .inl h)
end Go.Proofs.Ytcpnkhiillgffaa
