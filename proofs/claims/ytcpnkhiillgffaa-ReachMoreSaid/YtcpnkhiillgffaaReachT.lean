/- The memo map of over: keys of two integers. -/
import Derived.Test.YtcpnkhiillgffaaReachS
import Derived.DeepKeys
import Derived.Maps.OwnSet
namespace Go.Proofs.Ytcpnkhiillgffaa
open Go.RowKit
set_option linter.unusedVariables false
theorem und_pair : Try.prog.underlying 114 = some (.array 2 3) := by kernel_rfl
theorem und_int : Try.prog.underlying 3 = some (.int .i64) := by kernel_rfl
theorem run_part0 (w : World) (p q : Int) : (part 3 #[.int .i64 p, .int .i64 q] 0).run Try.prog w = .ok (.int .i64 p) w := by
  simp [part]
theorem run_part1 (w : World) (p q : Int) : (part 3 #[.int .i64 p, .int .i64 q] 1).run Try.prog w = .ok (.int .i64 q) w := by
  simp [part]
theorem run_size (w : World) : (sizeOf 3).run Try.prog w = .ok 1 w := by
  simp [sizeOf]
  kernel_rfl
theorem eq_pair_in (d : Nat) (w : World) (p q p' q' : Int) : (Op.equalIn (d + 2) 114 (.agg #[.int .i64 p, .int .i64 q]) (.agg #[.int .i64 p', .int .i64 q'])).run Try.prog w = .ok (p == p' && q == q') w := by
  rw [Op.equalIn]
  simp only [Sem.run_bind, run_underlying und_pair, Result.andThen_ok, run_size]
  rw [Std.Legacy.Range.forIn_eq_forIn_range']
  simp [Std.Legacy.Range.size, List.range'_succ]
  have e1 := run_equalIn_int w d 3 .i64 .i64 p p' und_int
  have e2 := run_equalIn_int w d 3 .i64 .i64 q q' und_int
  simp only [run_part0, run_part1, Result.andThen_ok, e1, e2]
  by_cases h1 : p = p'
  · by_cases h2 : q = q'
    · simp [h1, h2]
    · simp [h1, h2]
  · simp [h1]
theorem eq_pair (w : World) (p q p' q' : Int) : (Op.equal 114 (.agg #[.int .i64 p, .int .i64 q]) (.agg #[.int .i64 p', .int .i64 q'])).run Try.prog w = .ok (p == p' && q == q') w := eq_pair_in 9998 w p q p' q'
/-- The key of two integers. -/
def pair (p q : Int) : Value := .agg #[.int .i64 p, .int .i64 q]
theorem run_findAsking (w : World) (p q : Int) : ∀ (l : List MapEntry) (i : Nat), (∀ e ∈ l, ∃ p' q', e.key = pair p' q') →
    (∃ j e, e ∈ l ∧ e.key = pair p q ∧ (Instr.findAsking 114 (pair p q) l i).run Try.prog w = .ok (some (j, e.val)) w) ∨ ((∀ e ∈ l, e.key ≠ pair p q) ∧ (Instr.findAsking 114 (pair p q) l i).run Try.prog w = .ok none w)
  | [], i, _ => by
    right
    exact ⟨fun e he => by simp at he, by simp [Instr.findAsking]⟩
  | e :: es, i, h => by
    obtain ⟨p', q', hk⟩ := h e (by simp)
    have hq := eq_pair w p q p' q'
    unfold Instr.findAsking
    rw [hk]
    unfold pair
    simp only [Sem.run_bind, hq, Result.andThen_ok]
    by_cases h1 : p = p' ∧ q = q'
    · obtain ⟨rfl, rfl⟩ := h1
      left
      exact ⟨i, e, by simp, hk, by simp⟩
    · have hf : (p == p' && q == q') = false := by
        cases hb : (p == p' && q == q')
        · rfl
        · simp at hb; exact absurd hb h1
      rw [hf]
      rcases run_findAsking w p q es (i + 1) (fun x hx => h x (by simp [hx])) with ⟨j, e', he', hk', hr⟩ | ⟨hne, hr⟩
      · left
        exact ⟨j, e', by simp [he'], hk', by simpa [pair] using hr⟩
      · right
        refine ⟨fun x hx => ?_, by simpa [pair] using hr⟩
        rcases List.mem_cons.1 hx with rfl | hx
        · rw [hk]; intro h'; simp [pair] at h'; exact h1 ⟨h'.1.symm, h'.2.symm⟩
        · exact hne x hx
theorem run_findKey_pair (w : World) (p q : Int) (l : List MapEntry) (h : ∀ e ∈ l, ∃ p' q', e.key = pair p' q') :
    (∃ j e, e ∈ l ∧ e.key = pair p q ∧ (Instr.findKey 114 (pair p q) l).run Try.prog w = .ok (some (j, e.val)) w) ∨ ((∀ e ∈ l, e.key ≠ pair p q) ∧ (Instr.findKey 114 (pair p q) l).run Try.prog w = .ok none w) := by
  unfold Instr.findKey
  simp only [Sem.run_bind, run_underlying und_pair, Result.andThen_ok]
  cases l with
  | nil => right; exact ⟨fun e he => by simp at he, by simp [Instr.findNow]⟩
  | cons e es =>
    have hn : Instr.findNow (.array 2 3) (pair p q) (e :: es) 0 = none := by simp [Instr.findNow, Instr.sameNow]
    rw [hn]
    exact run_findAsking w p q (e :: es) 0 h
theorem run_checkKey_pair (b : Bool) (d : Nat) (w : World) (p q : Int) : (Instr.checkKey b (d + 2) 114 (pair p q)).run Try.prog w = .ok () w := by
  unfold pair
  rw [Instr.checkKey]
  simp only [Sem.run_bind, run_underlying und_pair, Result.andThen_ok]
  rw [Std.Legacy.Range.forIn_eq_forIn_range']
  simp [Std.Legacy.Range.size, List.range'_succ]
  have c1 : ∀ x : Int, (Instr.checkKey b (d + 1) 3 (.int .i64 x)).run Try.prog w = .ok () w := fun x => by
    rw [Instr.checkKey]
    simp only [Sem.run_bind, run_underlying und_int, Result.andThen_ok]
    rfl
  simp only [run_part0, run_part1, Result.andThen_ok, c1]
theorem und_memo : Try.prog.underlying 112 = some (.map 114 28) := by kernel_rfl
theorem zero_ints (w : World) : (zeroValue 28).run Try.prog w = .ok (.slice none 0 0) w := by
  have h : (Try.prog.info? 28).map (fun i => i.zero) = some (some (.slice none 0 0)) := by kernel_rfl
  cases hi : Try.prog.info? 28 with
  | none => simp [hi] at h
  | some i =>
    simp [hi] at h
    simp [zeroValue, typeInfo, hi, h]
/-- Block b is a map whose keys are pairs; the value at p and q satisfies G p q; no entry is asked for. -/
def Memo (w : World) (b : Nat) (G : Int → Int → Value → Prop) : Prop :=
  ∃ es clock, w.heap[b]? = some (.map es clock) ∧ ∀ e ∈ es.toList, ∃ p q, e.key = pair p q ∧ G p q e.val
/-- The map of block b has no entry at p and q. -/
def MemoNot (w : World) (b : Nat) (p q : Int) : Prop := ∀ es clock, w.heap[b]? = some (.map es clock) → ∀ e ∈ es.toList, e.key ≠ pair p q
theorem pair_inj {p q p' q' : Int} (h : pair p q = pair p' q') : p = p' ∧ q = q' := by simpa [pair] using h
theorem run_lookup_memo {w : World} {b : Nat} {G : Int → Int → Value → Prop} (h : Memo w b G) (p q : Int) :
    (∃ v, G p q v ∧ (Instr.lookup 112 (.map (some b)) (pair p q) true).run Try.prog w = .ok (.tuple #[v, .bool true]) w) ∨
    (MemoNot w b p q ∧ (Instr.lookup 112 (.map (some b)) (pair p q) true).run Try.prog w = .ok (.tuple #[.slice none 0 0, .bool false]) w) := by
  obtain ⟨es, clock, hb, hes⟩ := h
  have hc := run_checkKey_pair es.isEmpty 9998 w p q
  have hz := zero_ints w
  unfold Instr.lookup
  simp only [Sem.run_bind, run_underlying und_memo, Result.andThen_ok, MapKept.run_getObj_map hb]
  rcases run_findKey_pair w p q es.toList (fun e he => by obtain ⟨p', q', h1, _⟩ := hes e he; exact ⟨p', q', h1⟩) with ⟨j, e, he, hk, hr⟩ | ⟨hne, hr⟩
  · left
    obtain ⟨p', q', h1, h2⟩ := hes e he
    obtain ⟨rfl, rfl⟩ := pair_inj (h1.symm.trans hk)
    refine ⟨e.val, h2, ?_⟩
    simp [hc, hr, Result.andThen]
  · right
    refine ⟨fun es' clock' hb' e he => ?_, ?_⟩
    · rw [hb] at hb'
      cases hb'
      exact hne e he
    · simp [hc, hr, hz, Result.andThen]
theorem run_update_memo {w : World} {b : Nat} {G : Int → Int → Value → Prop} (h : Memo w b G) {p q : Int} (hn : MemoNot w b p q) {v : Value} (hv : G p q v) :
    ∃ w', (Instr.mapUpdate 112 (.map (some b)) (pair p q) v).run Try.prog w = .ok () w' ∧ Memo w' b G ∧ w.grownBy w' (some b) := by
  obtain ⟨es, clock, hb, hes⟩ := h
  have hc := run_checkKey_pair false 9998 w p q
  have hne := hn es clock hb
  rcases run_findKey_pair w p q es.toList (fun e he => by obtain ⟨p', q', h1, _⟩ := hes e he; exact ⟨p', q', h1⟩) with ⟨j, e, he, hk, hr⟩ | ⟨_, hr⟩
  · exact absurd hk (hne e he)
  · refine ⟨{ w with heap := w.heap.setIfInBounds b (.map (es.push { key := pair p q, val := v, born := clock }) (clock + 1)) }, ?_, ⟨_, _, (MapKept.heap_set hb).1, fun e he => ?_⟩, ⟨rfl, rfl, rfl, by simp, fun k hk hne => (MapKept.heap_set hb).2 k (fun e => hne (by rw [e]))⟩⟩
    · unfold Instr.mapUpdate
      simp only [Sem.run_bind, run_underlying und_memo, Result.andThen_ok, MapKept.run_getObj_map hb, hc, hr, MapKept.run_setObj_map _ hb]
    · simp only [Array.toList_push, List.mem_append, List.mem_singleton] at he
      rcases he with he | rfl
      · exact hes e he
      · exact ⟨p, q, rfl, hv⟩
/-- At the operation, for the walk. -/
theorem wpList_lookup_memo (w : World) {ops : Array Oper} {rest : List Oper} {o : Oper} {a : Act} {Q : Exit → Act → World → Prop} (hg : o.guard = none) (m x : Operand) (hop : o.op = Op.lookup 112 m x true)
    (b : Nat) (G : Int → Int → Value → Prop) (hm : a.eval m = .map (some b)) (h : Memo w b G) (p q : Int) (hx : a.eval x = pair p q)
    (h1 : ∀ v, G p q v → wpList Try.prog ops Q rest (a.put o.dst (.tuple #[v, .bool true])) w)
    (h2 : MemoNot w b p q → wpList Try.prog ops Q rest (a.put o.dst (.tuple #[.slice none 0 0, .bool false])) w) :
    wpList Try.prog ops Q (o :: rest) a w := by
  refine wpList_plain hg fun K' hK' => ?_
  rcases run_lookup_memo h p q with ⟨v, hv, hrun⟩ | ⟨hn, hrun⟩
  · unfold Oper.wp
    simp [execOp, hop, hm, hx, hrun, Result.andThen]
    exact hK' _ _ (h1 v hv)
  · unfold Oper.wp
    simp [execOp, hop, hm, hx, hrun, Result.andThen]
    exact hK' _ _ (h2 hn)
theorem wpList_update_memo (w : World) {ops : Array Oper} {rest : List Oper} {o : Oper} {a : Act} {Q : Exit → Act → World → Prop} (hg : o.guard = none) (m x y : Operand) (hop : o.op = Op.mapUpdate 112 m x y)
    (b : Nat) (G : Int → Int → Value → Prop) (hm : a.eval m = .map (some b)) (h : Memo w b G) (p q : Int) (hx : a.eval x = pair p q) (hn : MemoNot w b p q) (v : Value) (hy : a.eval y = v) (hv : G p q v)
    (hK : ∀ w', Memo w' b G → w.grownBy w' (some b) → wpList Try.prog ops Q rest (a.put o.dst undef) w') :
    wpList Try.prog ops Q (o :: rest) a w := by
  refine wpList_plain hg fun K' hK' => ?_
  obtain ⟨w', hrun, r1, r2⟩ := run_update_memo h hn hv
  unfold Oper.wp
  simp [execOp, hop, hm, hx, hy, hrun, Result.andThen]
  exact hK' _ _ (hK w' r1 r2)
/-- A row of n integers F, in a block of its own other than b and where Av does not hold. -/
def RowB (w : World) (Av : Nat → Prop) (b n : Nat) (F : Nat → Int) (v : Value) : Prop :=
  ∃ g c cur, v = .slice (some ⟨g, 0, none⟩) n c ∧ ¬ Av g ∧ g ≠ b ∧ w.heap[g]? = some (.cells cur 3 (0, 0)) ∧ ∀ j, j < n → cur[j]? = some (.int .i64 (F j))
theorem RowB.kept {w w' : World} {Av : Nat → Prop} {b n : Nat} {F : Nat → Int} {v : Value} (h : RowB w Av b n F v) (hg : w.grownBy w' (some b)) : RowB w' Av b n F v := by
  obtain ⟨g, c, cur, rfl, h1, h2, h3, h4⟩ := h
  exact ⟨g, c, cur, rfl, h1, h2, (hg.block g (lt_block h3) (fun e => h2 (Option.some.inj e))).trans h3, h4⟩
/-- The memo of sums: the map of block b holds, at p and q, the row F p q. -/
def Sums (w : World) (Av : Nat → Prop) (b n : Nat) (F : Int → Int → Nat → Int) : Prop := Memo w b (fun p q v => RowB w Av b n (F p q) v)
theorem Memo.mono {w : World} {b : Nat} {G G' : Int → Int → Value → Prop} (h : Memo w b G) (hG : ∀ p q v, G p q v → G' p q v) : Memo w b G' := by
  obtain ⟨es, clock, hb, hes⟩ := h
  exact ⟨es, clock, hb, fun e he => by obtain ⟨p, q, h1, h2⟩ := hes e he; exact ⟨p, q, h1, hG p q _ h2⟩⟩
/-- What keeps block b, and all blocks where Av does not hold, keeps the memo. -/
theorem Sums.move {w w' : World} {Av : Nat → Prop} {b n : Nat} {F : Int → Int → Nat → Int} (h : Sums w Av b n F) (hb : w'.heap[b]? = w.heap[b]?) (hk : ∀ k, k < w.heap.size → ¬ Av k → w'.heap[k]? = w.heap[k]?) : Sums w' Av b n F := by
  obtain ⟨es, clock, hbk, hes⟩ := h
  exact ⟨es, clock, hb.trans hbk, fun e he => by
    obtain ⟨p, q, h1, g, c, cur, h2, h3, h4, h5, h6⟩ := hes e he
    exact ⟨p, q, h1, g, c, cur, h2, h3, h4, (hk g (lt_block h5) h3).trans h5, h6⟩⟩
theorem Sums.lt {w : World} {Av : Nat → Prop} {b n : Nat} {F : Int → Int → Nat → Int} (h : Sums w Av b n F) : b < w.heap.size := by
  obtain ⟨es, clock, hbk, _⟩ := h
  exact lt_block hbk
theorem Sums.later {w w' : World} {Av : Nat → Prop} {b n : Nat} {F : Int → Int → Nat → Int} (h : Sums w Av b n F) (hb : Below w.heap.size w w') : Sums w' Av b n F :=
  h.move (hb.block b h.lt) (fun k hk _ => hb.block k hk)
theorem Sums.kept {w w' : World} {Av : Nat → Prop} {b n : Nat} {F : Int → Int → Nat → Int} (h : Sums w Av b n F) (hg : w.grownBy w' none) : Sums w' Av b n F :=
  h.move (hg.block b h.lt (by simp)) (fun k hk _ => hg.block k hk (by simp))
theorem Sums.stored {w w' : World} {Av : Nat → Prop} {b n : Nat} {F : Int → Int → Nat → Int} (h : Memo w' b (fun p q v => RowB w Av b n (F p q) v)) (hg : w.grownBy w' (some b)) : Sums w' Av b n F := h.mono fun p q v hv => hv.kept hg
/-- Other blocks may be avoided, if among those that are there they are avoided already. -/
theorem Sums.span {w : World} {Av Av' : Nat → Prop} {b n : Nat} {F : Int → Int → Nat → Int} (h : Sums w Av b n F) (hl : ∀ g, g < w.heap.size → Av' g → Av g) : Sums w Av' b n F := by
  obtain ⟨es, clock, hbk, hes⟩ := h
  exact ⟨es, clock, hbk, fun e he => by
    obtain ⟨p, q, h1, g, c, cur, h2, h3, h4, h5, h6⟩ := hes e he
    exact ⟨p, q, h1, g, c, cur, h2, fun h' => h3 (hl g (lt_block h5) h'), h4, h5, h6⟩⟩
end Go.Proofs.Ytcpnkhiillgffaa
