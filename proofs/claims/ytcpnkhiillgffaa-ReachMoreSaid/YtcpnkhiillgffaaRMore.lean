/- For any net, pieces, a further piece, a further edge and times: the statement ReachMore of chapter 33 (with a further piece or a greater range no integer of the table becomes less, with a further edge none greater): the law's function returns true and leaves its arguments as they were. No condition. -/
import Derived.Test.YtcpnkhiillgffaaRhB
import Derived.Test.YtcpnkhiillgffaaRhC
import Derived.Test.YtcpnkhiillgffaaRhF
import Derived.Test.YtcpnkhiillgffaaFrameR
import Derived.Test.YtcpnkhiillgffaaPlan
import Derived.Deep.RegionHeld3
import Derived.Deep.CutRange
import Derived.Deep.AppendLies
import Derived.Laws.OwnMore
namespace Go.Proofs.Ytcpnkhiillgffaa
open Go.ChangeShapes Go.WideShapes Go.ChangeAt Go.RowKit
attribute [local go_sem] bqOp bqAll bqUpon sqOp sqAll sqUpon field_stop0 field_stop1
attribute [local irreducible] wpQuiet wpBQ wpPlan
set_option linter.unusedVariables false
/-- The cells of n rows of k integers. -/
def rowCells (k n : Nat) (X : Nat → Nat → Int) : List Value := (List.range (n * k)).map fun j => .int .i64 (X (j / k) (j % k))
theorem rowCells_len (k n : Nat) (X : Nat → Nat → Int) : (rowCells k n X).length = n * k := by simp [rowCells]
theorem rowCells_get {k n i j : Nat} {X : Nat → Nat → Int} (hi : i < n) (hj : j < k) : (rowCells k n X)[i * k + j]? = some (.int .i64 (X i j)) := by
  have hlt : i * k + j < n * k := by
    have h := Nat.mul_le_mul_right k (show i + 1 ≤ n by omega)
    rw [Nat.add_mul] at h
    omega
  have e1 : (i * k + j) / k = i := by rw [Nat.mul_comm, Nat.mul_add_div (by omega), Nat.div_eq_of_lt hj]; omega
  have e2 : (i * k + j) % k = j := by rw [Nat.mul_comm, Nat.mul_add_mod, Nat.mod_eq_of_lt hj]
  simp [rowCells, hlt, e1, e2]
theorem rowCells_one (k n : Nat) (X : Nat → Nat → Int) : ∀ u ∈ rowCells k n X, u.oneCell' = true := by
  intro u hu
  simp only [rowCells, List.mem_map, List.mem_range] at hu
  obtain ⟨j, _, rfl⟩ := hu
  rfl
theorem Rows.news {k n c : Nat} {w : World} {g o : Nat} {X : Nat → Nat → Int} (hk : 0 < k) (h : Rows k w (.slice (some ⟨g, o, Option.none⟩) n c) n X) : ∀ j u, (rowCells k n X)[j]? = some u → w.cell? ((⟨g, o, Option.none⟩ : Addr).add j) = some u := fun j u hu => by
  have hadd : (⟨g, o, Option.none⟩ : Addr).add j = ⟨g, o + j, Option.none⟩ := by unfold Addr.add; split <;> simp_all
  have hlt : j < n * k := by
    have := (List.getElem?_eq_some_iff.1 hu).1
    rwa [rowCells_len] at this
  have hi : j / k < n := (Nat.div_lt_iff_lt_mul hk).2 hlt
  obtain ⟨g', o', e, hc⟩ := h.row hi
  cases e
  have hm := Nat.mod_lt j hk
  have e := Nat.div_add_mod j k
  have h1 := hc (j % k) hm
  rw [show o + j / k * k + j % k = o + j by rw [Nat.mul_comm]; omega] at h1
  rw [hadd, h1, ← hu, ← rowCells_get (X := X) hi hm, show j / k * k + j % k = j by rw [Nat.mul_comm]; omega]
/-- What is owned reads as rows. -/
theorem owns_rows {k n base : Nat} {w : World} {e : TypeId} {v : Value} {xs : List Value} {X : Nat → Nat → Int} (hn : n ≤ 9223372036854775807) (h : w.ownsRow base e k v n xs) (hx : ∀ i, i < n → ∀ j, j < k → xs[i * k + j]? = some (.int .i64 (X i j))) : Rows k w v n X := by
  rcases h.2 with ⟨rfl, rfl⟩ | ⟨g, cap, cur, rfl, _, hg, _, _, _, ht⟩
  · exact ⟨Option.none, 0, rfl, by omega, fun i hi => by omega⟩
  · refine ⟨_, _, rfl, hn, fun i hi => ⟨g, 0, rfl, fun j hj => ?_⟩⟩
    have hlt : i * k + j < n * k := by
      have h := Nat.mul_le_mul_right k (show i + 1 ≤ n by omega)
      rw [Nat.add_mul] at h
      omega
    have h1 := hx i hi j hj
    rw [← ht, List.getElem?_take_of_lt hlt] at h1
    rw [Nat.zero_add, cell_block hg, ← h1]
    simp
theorem owns_form {k n base : Nat} {w : World} {e : TypeId} {v : Value} {xs : List Value} (h : w.ownsRow base e k v n xs) : ∃ ad c, v = .slice ad n c := by
  rcases h.2 with ⟨rfl, rfl⟩ | ⟨g, cap, cur, rfl, _⟩
  · exact ⟨_, _, rfl⟩
  · exact ⟨_, _, rfl⟩
section
variable {P : Program} (w : World)
theorem grownBy_refl (w : World) (row : Option Nat) : w.grownBy w row := ⟨rfl, rfl, rfl, Nat.le_refl _, fun _ _ _ => rfl⟩
theorem append_none (base : Nat) (t ty e : TypeId) (i : TypeInfo) (size : Nat) (ht : P.underlying t = some (.slice e)) (hi : P.info? e = some i)
    (v : Value) (n : Nat) (xs : List Value) (hown : w.ownsRow base e size v n xs) {c : Nat} :
    (Builtin.append_ #[t, t] ty #[v, .slice Option.none 0 c]).run P w = .ok v w := by
  rcases hown.2 with ⟨rfl, rfl⟩ | ⟨g, cap, cur, rfl, _, _, hnc, _⟩
  · simp [Builtin.append_, run_underlying ht, sizeOf, typeInfo, hi, Builtin.lenOf, Builtin.firstCells]
  · simp [Builtin.append_, run_underlying ht, sizeOf, typeInfo, hi, Builtin.lenOf, Builtin.firstCells, hnc, storeCells]
/-- append of rows: whatever slice they lie in, and if there are Option.none. -/
theorem run_append_rows (base : Nat) (t ty e : TypeId) (i : TypeInfo) (z : Value) (k bytes : Nat) (ht : P.underlying t = some (.slice e)) (hi : P.info? e = some i) (hz : i.zero = some z)
    (hsize : i.size = k) (hby : i.bytes = bytes) (hzs : z.cells.size = k) (hk : 0 < k)
    (v : Value) (n : Nat) (xs : List Value) (hown : w.ownsRow base e k v n xs)
    (ad : Option Addr) (m c : Nat) (X : Nat → Nat → Int) (hX : Rows k w (.slice ad m c) m X)  (h63 : n + m ≤ maxLen) (hbytes : (n + m) * bytes ≤ 140737488355328) (hbase : base ≤ w.heap.size) :
    ∃ ad' c' w', (Builtin.append_ #[t, t] ty #[v, .slice ad m c]).run P w = .ok (.slice ad' (n + m) c') w' ∧ w'.ownsRow base e k (.slice ad' (n + m) c') (n + m) (xs ++ rowCells k m X) ∧ w.grownBy w' v.ownBlock := by
  by_cases hm : m = 0
  · subst hm
    cases ad with
    | none =>
      obtain ⟨ad', c', rfl⟩ := owns_form hown
      refine ⟨ad', c', w, append_none w base t ty e i k ht hi _ n xs hown, ?_, grownBy_refl w _⟩
      simpa [rowCells] using hown
    | some a =>
      obtain ⟨v', w', hr, h2, h3, _⟩ := run_append_own (P := P) w base t ty e i z k bytes ht hi hz hsize hby hzs hk v n xs hown a 0 c [] (by simp) (fun j u hu => by simp at hu) (fun u hu => by simp at hu) h63 hbytes hbase
      obtain ⟨ad', c', rfl⟩ := owns_form h2
      exact ⟨ad', c', w', hr, by simpa [rowCells] using h2, h3⟩
  · obtain ⟨g, o, rfl, _⟩ := hX.row (show 0 < m by omega)
    obtain ⟨v', w', hr, h2, h3, _⟩ := run_append_own (P := P) w base t ty e i z k bytes ht hi hz hsize hby hzs hk v n xs hown ⟨g, o, Option.none⟩ m c (rowCells k m X) (rowCells_len k m X) (hX.news hk) (rowCells_one k m X) h63 hbytes hbase
    obtain ⟨ad', c', rfl⟩ := owns_form h2
    exact ⟨ad', c', w', hr, h2, h3⟩
end
section
variable {P : Program} (w : World)
theorem wp_append_rows {o : Oper} {a : Act} {K : Act → World → Prop} {Q : Exit → Act → World → Prop} (s x : Operand) (t : TypeId)
    (ho : o.op = .call { callee := .builtin .append, args := #[s, x], argTypes := #[t, t] })
    (base : Nat) (e : TypeId) (i : TypeInfo) (z : Value) (k bytes : Nat) (ht : P.underlying t = some (.slice e)) (hi : P.info? e = some i) (hz : i.zero = some z)
    (hsize : i.size = k) (hby : i.bytes = bytes) (hzs : z.cells.size = k) (hk : 0 < k)
    (v : Value) (n : Nat) (xs : List Value) (hs : a.eval s = v) (hown : w.ownsRow base e k v n xs)
    (ad : Option Addr) (m c : Nat) (X : Nat → Nat → Int) (hx : a.eval x = .slice ad m c) (hX : Rows k w (.slice ad m c) m X)  (h63 : n + m ≤ maxLen) (hbytes : (n + m) * bytes ≤ 140737488355328) (hbase : base ≤ w.heap.size)
    (h : ∀ ad' c' w', w'.ownsRow base e k (.slice ad' (n + m) c') (n + m) (xs ++ rowCells k m X) → w.grownBy w' v.ownBlock → K (a.put o.dst (.slice ad' (n + m) c')) w') : o.wp P a w K Q := by
  obtain ⟨ad', c', w', hr, h2, h3⟩ := run_append_rows (P := P) w base t o.type e i z k bytes ht hi hz hsize hby hzs hk v n xs hown ad m c X hX h63 hbytes hbase
  unfold Oper.wp execOp
  simp only [ho, resolve, invoke, builtin, Sem.run_bind, Sem.run_pure, Result.andThen_ok, List.map_toArray, List.map_cons, List.map_nil, hs, hx, hr]
  exact h ad' c' w' h2 h3
theorem step_append_rows {ops : Array Oper} {o : Oper} {a : Act} {K : Act → World → Prop} {Q : Exit → Act → World → Prop} {E : Prop} (hgd : o.guard = Option.none) (s x : Operand) (t : TypeId)
    (ho : o.op = .call { callee := .builtin .append, args := #[s, x], argTypes := #[t, t] })
    (base : Nat) (e : TypeId) (i : TypeInfo) (z : Value) (k bytes : Nat) (ht : P.underlying t = some (.slice e)) (hi : P.info? e = some i) (hz : i.zero = some z)
    (hsize : i.size = k) (hby : i.bytes = bytes) (hzs : z.cells.size = k) (hk : 0 < k)
    (v : Value) (n : Nat) (xs : List Value) (hs : a.eval s = v) (hown : w.ownsRow base e k v n xs)
    (ad : Option Addr) (m c : Nat) (X : Nat → Nat → Int) (hx : a.eval x = .slice ad m c) (hX : Rows k w (.slice ad m c) m X)  (h63 : n + m ≤ maxLen) (hbytes : (n + m) * bytes ≤ 140737488355328) (hbase : base ≤ w.heap.size)
    (h : ∀ ad' c' w', w'.ownsRow base e k (.slice ad' (n + m) c') (n + m) (xs ++ rowCells k m X) → w.grownBy w' v.ownBlock → K (a.put o.dst (.slice ad' (n + m) c')) w') :
    if Region.wanted o (yielded ops a.tmps) = true then Oper.wp P o a w K Q else E := by
  have hw : Region.wanted o (yielded ops a.tmps) = true := by simp [Region.wanted, hgd]
  rw [if_pos hw]
  exact wp_append_rows w s x t ho base e i z k bytes ht hi hz hsize hby hzs hk v n xs hs hown ad m c X hx hX h63 hbytes hbase h
theorem wpList_append_rows {ops : Array Oper} {rest : List Oper} {o : Oper} {a : Act} {Q : Exit → Act → World → Prop} (hgd : o.guard = Option.none) (s x : Operand) (t : TypeId)
    (ho : o.op = .call { callee := .builtin .append, args := #[s, x], argTypes := #[t, t] })
    (base : Nat) (e : TypeId) (i : TypeInfo) (z : Value) (k bytes : Nat) (ht : P.underlying t = some (.slice e)) (hi : P.info? e = some i) (hz : i.zero = some z)
    (hsize : i.size = k) (hby : i.bytes = bytes) (hzs : z.cells.size = k) (hk : 0 < k)
    (v : Value) (n : Nat) (xs : List Value) (hs : a.eval s = v) (hown : w.ownsRow base e k v n xs)
    (ad : Option Addr) (m c : Nat) (X : Nat → Nat → Int) (hx : a.eval x = .slice ad m c) (hX : Rows k w (.slice ad m c) m X)  (h63 : n + m ≤ maxLen) (hbytes : (n + m) * bytes ≤ 140737488355328) (hbase : base ≤ w.heap.size)
    (h : ∀ ad' c' w', w'.ownsRow base e k (.slice ad' (n + m) c') (n + m) (xs ++ rowCells k m X) → w.grownBy w' v.ownBlock → wpList P ops Q rest (a.put o.dst (.slice ad' (n + m) c')) w') : wpList P ops Q (o :: rest) a w :=
  wpList_plain hgd fun _ hK => wp_append_rows w s x t ho base e i z k bytes ht hi hz hsize hby hzs hk v n xs hs hown ad m c X hx hX h63 hbytes hbase fun ad' c' w' h2 h3 => hK _ _ (h ad' c' w' h2 h3)
end

theorem info_air : (Try.prog.info? 41).map (fun i => (i.zero, i.size, i.bytes)) = some (some (.agg #[.int .i64 0, .int .i64 0, .int .i64 0, .int .i64 0]), 4, 32) := by kernel_rfl
theorem info_edge : (Try.prog.info? 60).map (fun i => (i.zero, i.size, i.bytes)) = some (some (.agg #[.int .i64 0, .int .i64 0, .int .i64 0, .int .i64 0]), 4, 32) := by kernel_rfl
/-- The form's own reach: a slice of pieces takes at most so many bytes. -/
theorem airs_size {H : Type} {enc : TypeId × Value → H} {w : World} {base : Nat} {spare : Nat → Bool} {held : Bool} {d : DataW H} {p : List MemPlace} {ad : Option Addr} {n c : Nat} (h : DataW.Trod enc Try.prog w base spare held 26 (.slice ad n c) d p)
    (hs : ∀ el sp, d = .slice el sp → (el.length + sp.length) * 32 ≤ reachBytes) : n * 32 ≤ 140737488351232 := by
  obtain ⟨fuel, hf⟩ := h
  rcases Go.Deep.open_slice Try.underlying26 hf with ⟨h0, _⟩ | ⟨a, len, cap, m, f, D, Pl, hcs, _, _, _, _, hx, _⟩
  · have h1 : ad = none ∧ n = 0 ∧ c = 0 := by simpa [Value.cells] using h0
    omega
  · have h1 : ad = some a ∧ n = len ∧ c = cap := by simpa [Value.cells] using hcs
    have h2 := hs _ _ (Prod.mk.inj hx).1
    rw [List.length_map, List.length_range] at h2
    have e : reachBytes = 140737488351232 := by decide
    rw [e] at h2
    have := h1.2.1
    omega
/-- Four integers as a row. -/
def row4 (a b c d : Int) (j : Nat) : Int := match j with
  | 0 => a
  | 1 => b
  | 2 => c
  | _ => d
/-- A further row. -/
def more4 (n : Nat) (A : Nat → Nat → Int) (R : Nat → Int) (i j : Nat) : Int := if i < n then A i j else R j
theorem row_one {w : World} {b : Nat} {a1 a2 a3 a4 : Int} {ty : TypeId} {m : Nat × Nat} (h : w.heap[b]? = some (.cells #[.int .i64 a1, .int .i64 a2, .int .i64 a3, .int .i64 a4] ty m)) : Rows 4 w (.slice (some ⟨b, 0, none⟩) 1 1) 1 (fun _ => row4 a1 a2 a3 a4) :=
  rows_block (by omega) h fun i hi j hj => by
    obtain rfl : i = 0 := by omega
    match j, hj with
    | 0, _ => rfl
    | 1, _ => rfl
    | 2, _ => rfl
    | 3, _ => rfl
theorem rows_more {n base : Nat} {w : World} {e : TypeId} {v : Value} {A : Nat → Nat → Int} {R : Nat → Int} (hn : n + 1 ≤ 9223372036854775807) (h : w.ownsRow base e 4 v (n + 1) (rowCells 4 n A ++ rowCells 4 1 (fun _ => R))) : Rows 4 w v (n + 1) (more4 n A R) := by
  refine owns_rows hn h fun i hi j hj => ?_
  unfold more4
  by_cases hin : i < n
  · rw [if_pos hin, List.getElem?_append_left (by rw [rowCells_len]; omega)]
    exact rowCells_get hin hj
  · obtain rfl : i = n := by omega
    rw [if_neg hin, List.getElem?_append_right (by rw [rowCells_len]; omega), rowCells_len]
    have := rowCells_get (k := 4) (n := 1) (X := fun _ => R) (i := 0) (by omega) hj
    rw [show i * 4 + j - i * 4 = 0 * 4 + j by omega]
    exact this
theorem rows_same {n base : Nat} {w : World} {e : TypeId} {v : Value} {A : Nat → Nat → Int} (hn : n ≤ 9223372036854775807) (h : w.ownsRow base e 4 v (0 + n) ([] ++ rowCells 4 n A)) : Rows 4 w v n A := by
  rw [Nat.zero_add, List.nil_append] at h
  exact owns_rows hn h fun i hi j hj => rowCells_get hi hj
theorem below_alloc {a w : World} {o : Obj} (h : Below a.heap.size a w) : Below a.heap.size a (w.alloc o) := h.alloc h.size o
theorem grow_block {w w' : World} {row : Option Nat} {b : Nat} {o : Obj} (hg : w.grownBy w' row) (hb : w.heap[b]? = some o) (hne : some b ≠ row) : w'.heap[b]? = some o :=
  (hg.block b (lt_block hb) hne).trans hb
theorem grow_other {w w' : World} {base k n b : Nat} {e ty : TypeId} {v : Value} {xs : List Value} {cs : Array Value} {m : Nat × Nat} (hg : w.grownBy w' v.ownBlock) (hown : w.ownsRow base e k v n xs) (hne : ty ≠ e) (hb : w.heap[b]? = some (.cells cs ty m)) : w'.heap[b]? = some (.cells cs ty m) :=
  grow_block hg hb fun h => by
    rcases hown.2 with ⟨rfl, _⟩ | ⟨g, cap, cur, rfl, _, hg', _⟩
    · simp [Value.ownBlock] at h
    · simp only [Value.ownBlock, Option.some.injEq] at h
      subst h
      rw [hb] at hg'
      cases hg'
      exact hne rfl
theorem own_set {w : World} {base k n b i : Nat} {e ty : TypeId} {v u : Value} {xs : List Value} {cs : Array Value} {m : Nat × Nat} (hown : w.ownsRow base e k v n xs) (hb : w.heap[b]? = some (.cells cs ty m)) (hne : ty ≠ e) : (w.setCell ⟨b, i, none⟩ u).ownsRow base e k v n xs := by
  refine ⟨hown.1, ?_⟩
  rcases hown.2 with h | ⟨g, cap, cur, hv, hbg, hg', rest⟩
  · exact .inl h
  · refine .inr ⟨g, cap, cur, hv, hbg, ?_, rest⟩
    rw [Below.heap_setCell _ _ _ _ (fun e => by
      subst e
      rw [hb] at hg'
      cases hg'
      exact hne rfl)]
    exact hg'
theorem store_aid {P : Program} {o : Oper} {y : Nat → Option Bool} {c : Act} {K : Act → World → Prop} {Q : Exit → Act → World → Prop} {E : Prop} {a w : World} {b : Nat} {ty : TypeId} (t : TypeId) (x v : Operand) (ho : o.op = .store t x v) (hx : c.eval x = .pointer (some ⟨b, 0, none⟩)) (cs : Array Value) (hP : Below a.heap.size a w) (hz : w.heap[b]? = some (.cells cs ty (0, 0)))
    (k : Hid (w.heap[b]? = some (.cells cs ty (0, 0))) → (∀ i, w.frozen? ⟨b, i, none⟩ = false) → (∀ i, w.cell? ⟨b, i, none⟩ = cs[i]?) → if Region.wanted o y = true then Oper.wp P o c w K Q else E) : if Region.wanted o y = true then Oper.wp P o c w K Q else E :=
  k (Lib.hid hz) (free_block hz) (cell_block hz)
/-- An empty slice of one's own, and a block, by the number that the walk has. -/
theorem own_nil {w : World} {e : TypeId} {base k : Nat} (hb : base ≤ w.heap.size) (hk : w.heap.size = k) : (w.alloc (.cells #[] e)).ownsRow base e 4 (.slice (some ⟨k, 0, none⟩) 0 0) 0 [] := by
  subst hk
  exact World.ownsRow_lit w #[] 0 hb (by decide) rfl
/-- A piece more. -/
theorem airs_more {na : Nat} {A : Nat → Nat → Int} {R : Nat → Int} (h : AirsOk na A) (hn : na + 1 ≤ 400) (hr : AirOk (R 0) (R 1) (R 2) (R 3)) : AirsOk (na + 1) (more4 na A R) := by
  refine ⟨hn, fun i hi => ?_⟩
  unfold more4
  by_cases hin : i < na
  · rw [if_pos hin, if_pos hin, if_pos hin, if_pos hin]; exact h.2 i hin
  · rw [if_neg hin, if_neg hin, if_neg hin, if_neg hin]; exact hr
theorem cnt_more {na : Nat} {X A : Nat → Nat → Int} {R : Nat → Int} (p q : Nat) (s u : Int) : cntN (btwB X A p q s u) na ≤ cntN (btwB X (more4 na A R) p q s u) (na + 1) := by
  have e : cntN (btwB X (more4 na A R) p q s u) na = cntN (btwB X A p q s u) na := cntN_congr fun i hi => by
    refine Bool.eq_iff_iff.2 ?_
    rw [btw_iff, btw_iff]
    unfold more4
    rw [if_pos hi, if_pos hi, if_pos hi, if_pos hi]
  rw [← e]
  show _ ≤ cntN _ na + _
  split <;> omega
/-- A piece with a greater range. -/
def wide4 (k : Nat) (r : Int) (A : Nat → Nat → Int) (i j : Nat) : Int := if i = k ∧ j = 3 then r else A i j
theorem airs_wide {na k : Nat} {A : Nat → Nat → Int} {r : Int} (h : AirsOk na A) (hr3 : r ≤ 3000000) (h0 : 0 ≤ r) : AirsOk na (wide4 k r A) := by
  refine ⟨h.1, fun i hi => ?_⟩
  obtain ⟨h1, h2, h3, h4, h5⟩ := h.2 i hi
  unfold wide4
  rw [if_neg (by omega), if_neg (by omega), if_neg (by omega)]
  split
  · exact ⟨h1, h0, hr3, h4, h5⟩
  · exact ⟨h1, h2, h3, h4, h5⟩
theorem hr_wide {X : Nat → Nat → Int} {x y r r' : Int} {p : Nat} (h0 : 0 ≤ r) (hr : r ≤ r') (h : hrB X x y r p = true) : hrB X x y r' p = true := by
  have h1 : sqd (X p 0) (X p 1) x y ≤ r * r := of_decide_eq_true h
  have h2 : r * r ≤ r' * r' := Int.mul_le_mul hr hr h0 (by omega)
  exact decide_eq_true (Int.le_trans h1 h2)
theorem cnt_wide {na k : Nat} {X A : Nat → Nat → Int} {r : Int} (h0 : 0 ≤ A k 3) (hr : A k 3 ≤ r) (p q : Nat) (s u : Int) : cntN (btwB X A p q s u) na ≤ cntN (btwB X (wide4 k r A) p q s u) na := by
  refine cntN_mono fun i hi h => ?_
  rw [btw_iff] at h ⊢
  unfold wide4
  rw [if_neg (by omega), if_neg (by omega), if_neg (by omega)]
  by_cases hik : i = k
  · subst hik
    rw [if_pos ⟨rfl, rfl⟩]
    exact ⟨h.1, hr_wide h0 hr h.2.1, hr_wide h0 hr h.2.2⟩
  · rw [if_neg (fun e => hik e.1)]
    exact h
theorem edges_more {ne : Nat} {E : Nat → Nat → Int} {R : Nat → Int} (i : Nat) (hi : i < ne) (j : Nat) (hj : j < 4) : more4 ne E R i j = E i j := if_pos hi
/-- A stored range. -/
theorem rows_wide {g n cap k : Nat} {w : World} {cs : Array Value} {ty : TypeId} {m : Nat × Nat} {A : Nat → Nat → Int} {r : Int} (hn : n ≤ 9223372036854775807) (hk : k < n) (hsz : n * 4 ≤ cs.size) (h : w.heap[g]? = some (.cells cs ty m)) (hR : Rows 4 w (.slice (some ⟨g, 0, none⟩) n cap) n A) :
    Rows 4 (w.setCell ⟨g, k * 4 + 3, none⟩ (.int .i64 r)) (.slice (some ⟨g, 0, none⟩) n cap) n (wide4 k r A) := by
  refine ⟨_, _, rfl, hn, fun i hi => ⟨g, 0, rfl, fun j hj => ?_⟩⟩
  obtain ⟨g', o', e, hc⟩ := hR.row hi
  cases e
  have h1 := hc j hj
  rw [Nat.zero_add, cell_block h] at h1
  rw [Nat.zero_add, cell_block (block_set h _), Array.getElem?_setIfInBounds]
  unfold wide4
  by_cases hik : k * 4 + 3 = i * 4 + j
  · rw [if_pos hik, if_pos (by omega), if_pos ⟨by omega, by omega⟩]
  · rw [if_neg hik, if_neg (fun e => hik (by omega)), h1]
set_option maxRecDepth 100000 in
set_option maxHeartbeats 40000000 in
theorem reachMore_walk {np c ne c2 na c4 : Nat} {ad ad2 ad4 : Option Addr} {X E A : Nat → Nat → Int} (a0 a1 a2 a3 e0 e1 e2 e3 ix wd f u : Int) {w : World} (hX : Rows 2 w (.slice ad np c) np X) (hE : Rows 4 w (.slice ad2 ne c2) ne E) (hA : Rows 4 w (.slice ad4 na c4) na A) (wix : (Lit.int .u8 ix).wf = true) (wwd : (Lit.int .u16 wd).wf = true) (sz : na * 32 ≤ 140737488351232) :
    Calls Try.prog 8 #[.agg #[.slice ad np c, .slice ad2 ne c2], .slice ad4 na c4, .agg #[.int .i64 a0, .int .i64 a1, .int .i64 a2, .int .i64 a3], .agg #[.int .i64 e0, .int .i64 e1, .int .i64 e2, .int .i64 e3], .int .u8 ix, .int .u16 wd, .int .i64 f, .int .i64 u] w fun e w' => e = .returned (.bool true) ∧ Below w.heap.size w w' := by
  have n1 : np ≤ 9223372036854775807 := by obtain ⟨_, _, _, h, _⟩ := hX; exact h
  have n2 : ne ≤ 9223372036854775807 := by obtain ⟨_, _, _, h, _⟩ := hE; exact h
  have n4 : na ≤ 9223372036854775807 := by obtain ⟨_, _, _, h, _⟩ := hA; exact h
  have HX := Lib.hid hX
  have HE := Lib.hid hE
  have HA := Lib.hid hA
  clear hX hE hA
  obtain ⟨i0, hi0, hz0, hz1, hz2⟩ := info_parts info_air
  obtain ⟨j0, hj0, hy0, hy1, hy2⟩ := info_parts info_edge
  go_enter Try.func8, Try.ntmps8
  go_wp2_with fail
  refine calls_named fun W hW => ?_
  obtain ⟨p1, p2, p3, hB⟩ := box3 hW
  clear hW
  have P1 := Lib.hid p1
  clear p1
  have q1 := cellsL P1.out
  have P2 := Lib.hid p2
  have P3 := Lib.hid p3
  clear p2 p3
  have q2 := cellsL P2.out
  have q3 := cellsL P3.out
  (with_reducible refine (head33_true _).mono ?_)
  rintro e w1 ⟨rfl, hB1⟩
  have hC1 := below_step hB hB1
  go_wp2_with fail
  obtain ⟨vf, hvf⟩ : ∃ v, decide (FewOk np ne (1 + na) E) = v := ⟨_, rfl⟩
  have Hvf := Lib.hid hvf
  clear hvf
  obtain ⟨vt, hvt⟩ : ∃ v, decide (0 ≤ f ∧ f ≤ u ∧ u ≤ 10000000 ∧ u - f ≤ 400) = v := ⟨_, rfl⟩
  have Hvt := Lib.hid hvt
  clear hvt
  cases vf
  · skip
    clear q1 q2 q3
    have q1 := cellsR (block_later hB1 P1.out)
    have q2 := cellsR (block_later hB1 P2.out)
    have q3 := cellsR (block_later hB1 P3.out)
    refine wp_region_plan (.take 0 (.take 0 (.take 1 (.only 0 (.only 0 (.only 0 (.take 0 (.take 0 (.take 0 (.take 0 (.only 0 (.take 0 (.take 0 (.take 0 (.take 0 (.take 0 (.take 0 (.take 0 (.take 0 (.take 0 (.take 0 (.take 0 (.take 0 (.take 0 (.take 0 (.take 0 (.take 0 (.take 0 (.take 0 (.take 0 .done)))))))))))))))))))))))))))))) (by kernel_rfl) (by kernel_rfl) (fun hP => ?_)
    repeat' (first
      | (refine wpPlan_two ?_ ?_)
      | (refine wpPlan_three ?_ ?_ ?_)
      | (refine wpPlan_take rfl (fun K hK => ?_); replace hK := Lib.hid hK; go_simp; first | (refine hK.out _ ?_; clear hK K) | (apply Exists.intro; refine ⟨fun _ => ?_, hK.out _ ?_⟩; (first | with_reducible exact rfl | skip); clear hK K))
      | (refine wpPlan_only rfl (fun K hK => ?_); replace hK := Lib.hid hK; (first | ((refine step_append_rows _ (by rfl) _ _ _ (by rfl) w1.heap.size 41 i0 _ 4 32 Try.underlying26 hi0 hz0 hz1 hz2 (by rfl) (by decide) _ 1 [.int .i64 a0, .int .i64 a1, .int .i64 a2, .int .i64 a3] (by rfl) (World.ownsRow_lit _ #[.int .i64 a0, .int .i64 a1, .int .i64 a2, .int .i64 a3] 1 (by simp) (by decide) (by rfl)) _ na c4 A (by rfl) (HA.out.later (below_step hC1 hP)) (by unfold maxLen; omega) (by omega) hP.size ?_); intro ad' c' w2 hown2 hgrow2) | (go_simp; first | (go_at_call 12; refine (q33Few_any np c ne c2 (1 + na) _ ad ad2 _ E _ (HE.out.later (below_step hC1 hP)) Hvf.out).mono ?_; rintro e w2 ⟨rfl, hbx⟩) | (go_at_call 13; refine (q33Times_any f u _ Hvt.out).mono ?_; rintro e w2 ⟨rfl, hbx⟩) | skip)); refine hK.out _ _ (by first | assumption | exact hP.grown hgrow2 hP.size (fun k hk => by simp [Value.ownBlock] at hk; omega) | exact below_step hP hbx | exact hP.drew | exact hP.alloc hP.size _) (fun hP => ?_); clear hK K))
    all_goals refine wpPlan_done ?_
    have hB2 := below_step hB1 hP
    have hC2 := below_step hC1 hP
    clear q1 q2 q3
    have q1 := cellsL P1.out
    have q2 := cellsL P2.out
    have q3 := cellsL P3.out
    go_wp2_with fail
    go_returns
    exact ⟨rfl, hC2⟩
  cases vt
  · skip
    clear q1 q2 q3
    have q1 := cellsR (block_later hB1 P1.out)
    have q2 := cellsR (block_later hB1 P2.out)
    have q3 := cellsR (block_later hB1 P3.out)
    refine wp_region_plan (.take 0 (.take 0 (.take 1 (.only 0 (.only 0 (.only 0 (.take 0 (.take 0 (.take 0 (.take 0 (.only 0 (.take 0 (.take 0 (.take 0 (.take 0 (.take 0 (.take 0 (.take 0 (.take 0 (.take 0 (.take 0 (.take 0 (.take 0 (.take 0 (.take 0 (.take 0 (.take 0 (.take 0 (.take 0 (.take 0 .done)))))))))))))))))))))))))))))) (by kernel_rfl) (by kernel_rfl) (fun hP => ?_)
    repeat' (first
      | (refine wpPlan_two ?_ ?_)
      | (refine wpPlan_three ?_ ?_ ?_)
      | (refine wpPlan_take rfl (fun K hK => ?_); replace hK := Lib.hid hK; go_simp; first | (refine hK.out _ ?_; clear hK K) | (apply Exists.intro; refine ⟨fun _ => ?_, hK.out _ ?_⟩; (first | with_reducible exact rfl | skip); clear hK K))
      | (refine wpPlan_only rfl (fun K hK => ?_); replace hK := Lib.hid hK; (first | ((refine step_append_rows _ (by rfl) _ _ _ (by rfl) w1.heap.size 41 i0 _ 4 32 Try.underlying26 hi0 hz0 hz1 hz2 (by rfl) (by decide) _ 1 [.int .i64 a0, .int .i64 a1, .int .i64 a2, .int .i64 a3] (by rfl) (World.ownsRow_lit _ #[.int .i64 a0, .int .i64 a1, .int .i64 a2, .int .i64 a3] 1 (by simp) (by decide) (by rfl)) _ na c4 A (by rfl) (HA.out.later (below_step hC1 hP)) (by unfold maxLen; omega) (by omega) hP.size ?_); intro ad' c' w2 hown2 hgrow2) | (go_simp; first | (go_at_call 12; refine (q33Few_any np c ne c2 (1 + na) _ ad ad2 _ E _ (HE.out.later (below_step hC1 hP)) Hvf.out).mono ?_; rintro e w2 ⟨rfl, hbx⟩) | (go_at_call 13; refine (q33Times_any f u _ Hvt.out).mono ?_; rintro e w2 ⟨rfl, hbx⟩) | skip)); refine hK.out _ _ (by first | assumption | exact hP.grown hgrow2 hP.size (fun k hk => by simp [Value.ownBlock] at hk; omega) | exact below_step hP hbx | exact hP.drew | exact hP.alloc hP.size _) (fun hP => ?_); clear hK K))
    all_goals refine wpPlan_done ?_
    have hB2 := below_step hB1 hP
    have hC2 := below_step hC1 hP
    clear q1 q2 q3
    have q1 := cellsL P1.out
    have q2 := cellsL P2.out
    have q3 := cellsL P3.out
    go_wp2_with fail
    go_returns
    exact ⟨rfl, hC2⟩
  obtain ⟨t1, t2, t3, t4⟩ := of_decide_eq_true Hvt.out
  have TM := Lib.hid (show TimesOk f u from of_decide_eq_true Hvt.out)
  have jw : IntKind.i64.wrap (u - f) = u - f := IntWalk.i64_in _ (by omega)
  by_cases z1 : 60 < u - f
  · have b1 := decide_eq_true z1
    clear q1 q2 q3
    have q1 := cellsR (block_later hB1 P1.out)
    have q2 := cellsR (block_later hB1 P2.out)
    have q3 := cellsR (block_later hB1 P3.out)
    refine wp_region_plan (.take 0 (.take 0 (.take 1 (.only 0 (.only 0 (.only 0 (.take 0 (.take 0 (.take 0 (.take 0 (.only 0 (.take 0 (.take 0 (.take 0 (.take 0 (.take 0 (.take 0 (.take 0 (.take 0 (.take 0 (.take 0 (.take 0 (.take 0 (.take 0 (.take 0 (.take 0 (.take 0 (.take 0 (.take 0 (.take 0 .done)))))))))))))))))))))))))))))) (by kernel_rfl) (by kernel_rfl) (fun hP => ?_)
    repeat' (first
      | (refine wpPlan_two ?_ ?_)
      | (refine wpPlan_three ?_ ?_ ?_)
      | (refine wpPlan_take rfl (fun K hK => ?_); replace hK := Lib.hid hK; go_simp; first | (refine hK.out _ ?_; clear hK K) | (apply Exists.intro; refine ⟨fun _ => ?_, hK.out _ ?_⟩; (first | with_reducible exact rfl | skip); clear hK K))
      | (refine wpPlan_only rfl (fun K hK => ?_); replace hK := Lib.hid hK; (first | ((refine step_append_rows _ (by rfl) _ _ _ (by rfl) w1.heap.size 41 i0 _ 4 32 Try.underlying26 hi0 hz0 hz1 hz2 (by rfl) (by decide) _ 1 [.int .i64 a0, .int .i64 a1, .int .i64 a2, .int .i64 a3] (by rfl) (World.ownsRow_lit _ #[.int .i64 a0, .int .i64 a1, .int .i64 a2, .int .i64 a3] 1 (by simp) (by decide) (by rfl)) _ na c4 A (by rfl) (HA.out.later (below_step hC1 hP)) (by unfold maxLen; omega) (by omega) hP.size ?_); intro ad' c' w2 hown2 hgrow2) | (go_simp; first | (go_at_call 12; refine (q33Few_any np c ne c2 (1 + na) _ ad ad2 _ E _ (HE.out.later (below_step hC1 hP)) Hvf.out).mono ?_; rintro e w2 ⟨rfl, hbx⟩) | (go_at_call 13; refine (q33Times_any f u _ Hvt.out).mono ?_; rintro e w2 ⟨rfl, hbx⟩) | skip)); refine hK.out _ _ (by first | assumption | exact hP.grown hgrow2 hP.size (fun k hk => by simp [Value.ownBlock] at hk; omega) | exact below_step hP hbx | exact hP.drew | exact hP.alloc hP.size _) (fun hP => ?_); clear hK K))
    all_goals refine wpPlan_done ?_
    have hB2 := below_step hB1 hP
    have hC2 := below_step hC1 hP
    clear q1 q2 q3
    have q1 := cellsL P1.out
    have q2 := cellsL P2.out
    have q3 := cellsL P3.out
    go_wp2_with fail
    go_returns
    exact ⟨rfl, hC2⟩
  have b1 := decide_eq_false z1
  by_cases z2 : 12 < e3
  · have b2 := decide_eq_true z2
    clear q1 q2 q3
    have q1 := cellsR (block_later hB1 P1.out)
    have q2 := cellsR (block_later hB1 P2.out)
    have q3 := cellsR (block_later hB1 P3.out)
    refine wp_region_plan (.take 0 (.take 0 (.take 1 (.only 0 (.only 0 (.only 0 (.take 0 (.take 0 (.take 0 (.take 0 (.only 0 (.take 0 (.take 0 (.take 0 (.take 0 (.take 0 (.take 0 (.take 0 (.take 0 (.take 0 (.take 0 (.take 0 (.take 0 (.take 0 (.take 0 (.take 0 (.take 0 (.take 0 (.take 0 (.take 0 .done)))))))))))))))))))))))))))))) (by kernel_rfl) (by kernel_rfl) (fun hP => ?_)
    repeat' (first
      | (refine wpPlan_two ?_ ?_)
      | (refine wpPlan_three ?_ ?_ ?_)
      | (refine wpPlan_take rfl (fun K hK => ?_); replace hK := Lib.hid hK; go_simp; first | (refine hK.out _ ?_; clear hK K) | (apply Exists.intro; refine ⟨fun _ => ?_, hK.out _ ?_⟩; (first | with_reducible exact rfl | skip); clear hK K))
      | (refine wpPlan_only rfl (fun K hK => ?_); replace hK := Lib.hid hK; (first | ((refine step_append_rows _ (by rfl) _ _ _ (by rfl) w1.heap.size 41 i0 _ 4 32 Try.underlying26 hi0 hz0 hz1 hz2 (by rfl) (by decide) _ 1 [.int .i64 a0, .int .i64 a1, .int .i64 a2, .int .i64 a3] (by rfl) (World.ownsRow_lit _ #[.int .i64 a0, .int .i64 a1, .int .i64 a2, .int .i64 a3] 1 (by simp) (by decide) (by rfl)) _ na c4 A (by rfl) (HA.out.later (below_step hC1 hP)) (by unfold maxLen; omega) (by omega) hP.size ?_); intro ad' c' w2 hown2 hgrow2) | (go_simp; first | (go_at_call 12; refine (q33Few_any np c ne c2 (1 + na) _ ad ad2 _ E _ (HE.out.later (below_step hC1 hP)) Hvf.out).mono ?_; rintro e w2 ⟨rfl, hbx⟩) | (go_at_call 13; refine (q33Times_any f u _ Hvt.out).mono ?_; rintro e w2 ⟨rfl, hbx⟩) | skip)); refine hK.out _ _ (by first | assumption | exact hP.grown hgrow2 hP.size (fun k hk => by simp [Value.ownBlock] at hk; omega) | exact below_step hP hbx | exact hP.drew | exact hP.alloc hP.size _) (fun hP => ?_); clear hK K))
    all_goals refine wpPlan_done ?_
    have hB2 := below_step hB1 hP
    have hC2 := below_step hC1 hP
    clear q1 q2 q3
    have q1 := cellsL P1.out
    have q2 := cellsL P2.out
    have q3 := cellsL P3.out
    go_wp2_with fail
    go_returns
    exact ⟨rfl, hC2⟩
  have b2 := decide_eq_false z2
  by_cases z3 : 10 ≤ ne
  · have b3 := decide_eq_true z3
    clear q1 q2 q3
    have q1 := cellsR (block_later hB1 P1.out)
    have q2 := cellsR (block_later hB1 P2.out)
    have q3 := cellsR (block_later hB1 P3.out)
    refine wp_region_plan (.take 0 (.take 0 (.take 1 (.only 0 (.only 0 (.only 0 (.take 0 (.take 0 (.take 0 (.take 0 (.only 0 (.take 0 (.take 0 (.take 0 (.take 0 (.take 0 (.take 0 (.take 0 (.take 0 (.take 0 (.take 0 (.take 0 (.take 0 (.take 0 (.take 0 (.take 0 (.take 0 (.take 0 (.take 0 (.take 0 .done)))))))))))))))))))))))))))))) (by kernel_rfl) (by kernel_rfl) (fun hP => ?_)
    repeat' (first
      | (refine wpPlan_two ?_ ?_)
      | (refine wpPlan_three ?_ ?_ ?_)
      | (refine wpPlan_take rfl (fun K hK => ?_); replace hK := Lib.hid hK; go_simp; first | (refine hK.out _ ?_; clear hK K) | (apply Exists.intro; refine ⟨fun _ => ?_, hK.out _ ?_⟩; (first | with_reducible exact rfl | skip); clear hK K))
      | (refine wpPlan_only rfl (fun K hK => ?_); replace hK := Lib.hid hK; (first | ((refine step_append_rows _ (by rfl) _ _ _ (by rfl) w1.heap.size 41 i0 _ 4 32 Try.underlying26 hi0 hz0 hz1 hz2 (by rfl) (by decide) _ 1 [.int .i64 a0, .int .i64 a1, .int .i64 a2, .int .i64 a3] (by rfl) (World.ownsRow_lit _ #[.int .i64 a0, .int .i64 a1, .int .i64 a2, .int .i64 a3] 1 (by simp) (by decide) (by rfl)) _ na c4 A (by rfl) (HA.out.later (below_step hC1 hP)) (by unfold maxLen; omega) (by omega) hP.size ?_); intro ad' c' w2 hown2 hgrow2) | (go_simp; first | (go_at_call 12; refine (q33Few_any np c ne c2 (1 + na) _ ad ad2 _ E _ (HE.out.later (below_step hC1 hP)) Hvf.out).mono ?_; rintro e w2 ⟨rfl, hbx⟩) | (go_at_call 13; refine (q33Times_any f u _ Hvt.out).mono ?_; rintro e w2 ⟨rfl, hbx⟩) | skip)); refine hK.out _ _ (by first | assumption | exact hP.grown hgrow2 hP.size (fun k hk => by simp [Value.ownBlock] at hk; omega) | exact below_step hP hbx | exact hP.drew | exact hP.alloc hP.size _) (fun hP => ?_); clear hK K))
    all_goals refine wpPlan_done ?_
    have hB2 := below_step hB1 hP
    have hC2 := below_step hC1 hP
    clear q1 q2 q3
    have q1 := cellsL P1.out
    have q2 := cellsL P2.out
    have q3 := cellsL P3.out
    go_wp2_with fail
    go_returns
    exact ⟨rfl, hC2⟩
  have b3 := decide_eq_false z3
  clear q1 q2 q3
  have q1 := cellsR (block_later hB1 P1.out)
  have q2 := cellsR (block_later hB1 P2.out)
  have q3 := cellsR (block_later hB1 P3.out)
  refine wp_region_plan (.take 0 (.take 0 (.take 1 (.only 0 (.only 0 (.only 0 (.take 0 (.take 0 (.take 0 (.take 0 (.only 0 (.take 0 (.take 0 (.take 0 (.take 0 (.take 0 (.take 0 (.take 0 (.take 0 (.take 0 (.take 0 (.take 0 (.take 0 (.take 0 (.take 0 (.take 0 (.take 0 (.take 0 (.take 0 (.take 0 .done)))))))))))))))))))))))))))))) (by kernel_rfl) (by kernel_rfl) (fun hP => ?_)
  repeat' (first
    | (refine wpPlan_two ?_ ?_)
    | (refine wpPlan_three ?_ ?_ ?_)
    | (refine wpPlan_take rfl (fun K hK => ?_); replace hK := Lib.hid hK; go_simp; first | (refine hK.out _ ?_; clear hK K) | (apply Exists.intro; refine ⟨fun _ => ?_, hK.out _ ?_⟩; (first | with_reducible exact rfl | skip); clear hK K))
    | (refine wpPlan_only rfl (fun K hK => ?_); replace hK := Lib.hid hK; (first | ((refine step_append_rows _ (by rfl) _ _ _ (by rfl) w1.heap.size 41 i0 _ 4 32 Try.underlying26 hi0 hz0 hz1 hz2 (by rfl) (by decide) _ 1 [.int .i64 a0, .int .i64 a1, .int .i64 a2, .int .i64 a3] (by rfl) (World.ownsRow_lit _ #[.int .i64 a0, .int .i64 a1, .int .i64 a2, .int .i64 a3] 1 (by simp) (by decide) (by rfl)) _ na c4 A (by rfl) (HA.out.later (below_step hC1 hP)) (by unfold maxLen; omega) (by omega) hP.size ?_); intro ad' c' w2 hown2 hgrow2) | (go_simp; first | (go_at_call 12; refine (q33Few_any np c ne c2 (1 + na) _ ad ad2 _ E _ (HE.out.later (below_step hC1 hP)) Hvf.out).mono ?_; rintro e w2 ⟨rfl, hbx⟩) | (go_at_call 13; refine (q33Times_any f u _ Hvt.out).mono ?_; rintro e w2 ⟨rfl, hbx⟩) | skip)); refine hK.out _ _ (by first | assumption | exact hP.grown hgrow2 hP.size (fun k hk => by simp [Value.ownBlock] at hk; omega) | exact below_step hP hbx | exact hP.drew | exact hP.alloc hP.size _) (fun hP => ?_); clear hK K))
  all_goals refine wpPlan_done ?_
  have hB2 := below_step hB1 hP
  have hC2 := below_step hC1 hP
  clear q1 q2 q3
  have q1 := cellsL P1.out
  have q2 := cellsL P2.out
  have q3 := cellsL P3.out
  have FW := Lib.hid (show FewOk np ne (1 + na) E from of_decide_eq_true Hvf.out)
  have na11 : na ≤ 11 := by have := FW.out.2.2.1; omega
  have ne9 : ne ≤ 9 := by omega
  clear Hvf Hvt
  go_wp2_with fail
  (with_reducible refine (hTable_all np c ne c2 na c4 ad ad2 ad4 X E A f u _ (HX.out.later hC2) (HE.out.later hC2) (HA.out.later hC2) n1 n2 n4).mono ?_)
  rintro e w3 ⟨ta, tc, rfl, hb3, htab⟩
  have hB3 := below_step hB2 hb3
  have hC3 := below_step hB hB3
  clear hb3
  have TT := Lib.hid htab
  clear htab
  have hT3 := Below.refl w3.heap.size w3
  by_cases ok : NetOk np X ne E ∧ AirsOk na A
  rotate_left
  · have hte1 : tabE np X ne E na A f u = 1 := if_neg fun h => ok ⟨h.1, h.2.1⟩
    rw [hte1]
    clear TT hte1 ok
    go_wp2_with fail
    go_returns
    exact ⟨rfl, hC3⟩
  obtain ⟨hN, hA⟩ := ok
  obtain ⟨n, hn⟩ : ∃ n, (u - f + 1).toNat = n := ⟨_, rfl⟩
  have hte1 : tabE np X ne E na A f u = 0 := if_pos ⟨hN, hA, TM.out⟩
  have hte2 : tabN np X ne E na A f u = n := (if_pos ⟨hN, hA, TM.out⟩).trans hn
  rw [hte1, hte2]
  rw [hte2] at TT
  have HN := Lib.hid hn
  have NO := Lib.hid hN
  have AO := Lib.hid hA
  have nn : n ≤ 9223372036854775807 := by omega
  clear hte1 hte2 hn hN hA
  go_wp2_with fail
  go_cut [20] from 77 to 82 (fun v20 wx => ∃ (ad5 : Option Addr) (c5 : Nat), v20 = .slice ad5 (na + 1) c5 ∧ Below w3.heap.size w3 wx ∧ Rows 4 wx (.slice ad5 (na + 1) c5) (na + 1) (more4 na A (row4 a0 a1 a2 a3)))
  case first =>
    clear q1 q2 q3
    have q1 := cellsR (block_later hB3 P1.out)
    have q2 := cellsR (block_later hB3 P2.out)
    have q3 := cellsR (block_later hB3 P3.out)
    refine wp_region_plan (.take 1 (.take 2 (.two 0 (.two 0 (.only 0 (.only 0 (.take 0 .done))) 1 (.only 0 (.only 0 (.take 0 .done)))) 2 (.only 0 (.only 0 (.only 0 (.take 0 .done))))))) (by kernel_rfl) (by kernel_rfl) (fun hP => ?_)
    repeat' (first
      | (refine wpPlan_two ?_ ?_)
      | (refine wpPlan_three ?_ ?_ ?_)
      | (refine wpPlan_take rfl (fun K hK => ?_); replace hK := Lib.hid hK; go_simp; first | (refine hK.out _ ?_; clear hK K) | (apply Exists.intro; refine ⟨fun _ => ?_, hK.out _ ?_⟩; (first | with_reducible exact rfl | skip); clear hK K))
      | (refine wpPlan_only rfl (fun K hK => ?_); replace hK := Lib.hid hK; (first | ((refine step_append_rows _ (by rfl) _ _ _ (by rfl) w3.heap.size 41 i0 _ 4 32 Try.underlying26 hi0 hz0 hz1 hz2 (by rfl) (by decide) (.slice adP na cP) na (rowCells 4 na A) (by rfl) (by first | exact hownP | exact hownP.alloc _ | exact (hownP.alloc _).alloc _) _ 1 1 (fun _ => row4 a0 a1 a2 a3) (by rfl) (by first | exact row_one (block_new_at _ (by first | rfl | (simp; done))) | exact row_one (block_alloc (block_new_at _ (by first | rfl | (simp; done)))) | exact row_one (grow_block hgrowP (block_new_at _ (by first | rfl | (simp; done))) (by first | (simp [Value.ownBlock]; done) | (simp [Value.ownBlock]; omega))) | exact row_one (grow_block hgrowP (block_alloc (block_new_at _ (by first | rfl | (simp; done)))) (by first | (simp [Value.ownBlock]; done) | (simp [Value.ownBlock]; omega))) | exact row_one (grow_block hgrowP (block_alloc (block_alloc (block_new_at _ (by first | rfl | (simp; done))))) (by first | (simp [Value.ownBlock]; done) | (simp [Value.ownBlock]; omega))) | exact row_one (block_alloc (grow_block hgrowP (block_new_at _ (by first | rfl | (simp; done))) (by first | (simp [Value.ownBlock]; done) | (simp [Value.ownBlock]; omega)))) | exact row_one (block_alloc (grow_block hgrowP (block_alloc (block_new_at _ (by first | rfl | (simp; done)))) (by first | (simp [Value.ownBlock]; done) | (simp [Value.ownBlock]; omega))))) (by unfold maxLen; omega) (by omega) hP.size ?_); intro adQ cQ wQ hownQ hgrowQ) | ((refine step_append_rows _ (by rfl) _ _ _ (by rfl) w3.heap.size 41 i0 _ 4 32 Try.underlying26 hi0 hz0 hz1 hz2 (by rfl) (by decide) (.slice (some ⟨_, 0, none⟩) 0 0) 0 [] (by rfl) (by first | exact own_nil (by first | exact Nat.le_refl _ | (simp; done) | (simp; omega)) (by first | rfl | (simp; done)) | exact (own_nil (by first | exact Nat.le_refl _ | (simp; done) | (simp; omega)) (by first | rfl | (simp; done))).alloc _ | exact ((own_nil (by first | exact Nat.le_refl _ | (simp; done) | (simp; omega)) (by first | rfl | (simp; done))).alloc _).alloc _) _ na c4 A (by rfl) (HA.out.later (below_step hC3 hP)) (by unfold maxLen; omega) (by omega) hP.size ?_); intro adP cP wP hownP hgrowP; rw [Nat.zero_add]; rw [Nat.zero_add, List.nil_append] at hownP) | (go_simp; first | skip)); refine hK.out _ _ (by first | assumption | exact hP.grown hgrowP hP.size (fun k hk => by simp [Value.ownBlock] at hk; omega) | exact hP.grown hgrowQ hP.size (fun k hk => (hownP.lt k hk).1) | exact below_alloc (by assumption) | exact (hP.setCell (by first | exact Nat.le_refl _ | (simp; done) | (simp; omega) | (have h1 := (show Below w3.heap.size w3 wP by assumption).size; simp; omega) | (have h1 := (show Below w3.heap.size w3 wQ by assumption).size; simp; omega)) _).setCell (by first | exact Nat.le_refl _ | (simp; done) | (simp; omega) | (have h1 := (show Below w3.heap.size w3 wP by assumption).size; simp; omega) | (have h1 := (show Below w3.heap.size w3 wQ by assumption).size; simp; omega)) _ | exact below_step hP hbx | exact hP.drew | exact hP.alloc hP.size _) (fun hP => ?_); clear hK K))
    all_goals refine wpPlan_done ?_
    all_goals (go_wp2_with fail; go_meet; exact ⟨adQ, cQ, rfl, hP, rows_more (by omega) hownQ⟩)
  case rest =>
    obtain ⟨ad5, c5, rfl, hcB, hr5⟩ := hcut
    obtain ⟨w4, rfl⟩ : ∃ w', w' = wc := ⟨_, rfl⟩
    have hB4 := below_step hB3 hcB
    have hC4 := below_step hC3 hcB
    have hT4 := below_step hT3 hcB
    have hM4 := Below.refl w4.heap.size w4
    have R5 := Lib.hid hr5
    clear hcB hr5
    clear q1 q2 q3
    have q1 := cellsL P1.out
    have q2 := cellsL P2.out
    have q3 := cellsL P3.out
    go_wp2_with fail
    obtain ⟨va, hva⟩ : ∃ v, decide (AirOk a0 a1 a2 a3) = v := ⟨_, rfl⟩
    have Hva := Lib.hid hva
    clear hva
    (with_reducible refine (q33Air_any a0 a1 a2 a3 _ Hva.out).mono ?_)
    rintro e w5 ⟨rfl, hb5⟩
    have hB5 := below_step hB4 hb5
    have hC5 := below_step hB hB5
    have hT5 := below_step hT4 hb5
    have hM5 := below_step hM4 hb5
    clear hb5
    have hc5 := Below.refl w5.heap.size w5
    go_upto_if 84 with fail
    go_cut [17, 21, 22] from 85 to 102 (fun v17 v21 v22 wx => v17 = .bool true ∧ Below w5.heap.size w5 wx)
    case first =>
      cases va
      · go_wp2_with fail
        go_meet
        exact ⟨rfl, hc5⟩
      have VA := Lib.hid (show AirOk a0 a1 a2 a3 from of_decide_eq_true Hva.out)
      clear Hva
      go_wp2_with fail
      (with_reducible refine (hTable_all np c ne c2 (na + 1) c5 ad ad2 ad5 X E (more4 na A (row4 a0 a1 a2 a3)) f u _ (HX.out.later hC5) (HE.out.later hC5) (R5.out.later hM5) n1 (by omega) (by omega)).mono ?_)
      rintro e w6 ⟨ua, uc, rfl, hb6, htab⟩
      have hB6 := below_step hB5 hb6
      have hC6 := below_step hB hB6
      have hT6 := below_step hT5 hb6
      have hM6 := below_step hM5 hb6
      have hc6 := below_step hc5 hb6
      clear hb6
      have UU := Lib.hid htab
      have hte1 : tabE np X ne (E) (na + 1) ((more4 na A (row4 a0 a1 a2 a3))) f u = 0 := if_pos (⟨NO.out, airs_more AO.out (by omega) VA.out, TM.out⟩)
      have hte2 : tabN np X ne (E) (na + 1) ((more4 na A (row4 a0 a1 a2 a3))) f u = n := (if_pos (⟨NO.out, airs_more AO.out (by omega) VA.out, TM.out⟩)).trans HN.out
      rw [hte1, hte2]
      rw [hte2] at UU
      clear htab hte1 hte2
      have hU6 := Below.refl w6.heap.size w6
      have BV := Lib.hid (decide_eq_true (show TabsLe n n (fun _ => np) (fun _ => np) (tblI X A E na f u ne) (tblI X (more4 na A (row4 a0 a1 a2 a3)) E (na + 1) f u ne) from ⟨rfl, fun t ht => ⟨rfl, fun j _ => by
        unfold tblI
        rw [HN.out]
        exact tbl_more (fun i hi => (NO.out.2.2.2.2 i hi).2.2.2.1) (fun p q s u => cnt_more p q s u) t ht j⟩⟩))
      go_wp2_with fail
      (with_reducible refine (l33below_any n _ n _ ta ua (fun _ => np) (fun _ => np) (tblI X A E na f u ne) (tblI X (more4 na A (row4 a0 a1 a2 a3)) E (na + 1) f u ne) _ (TT.out.later hT6) (UU.out.later hU6) nn nn BV.out).mono ?_)
      rintro e w7 ⟨rfl, hb7⟩
      have hB7 := below_step hB6 hb7
      have hC7 := below_step hB hB7
      have hT7 := below_step hT6 hb7
      have hM7 := below_step hM6 hb7
      have hc7 := below_step hc6 hb7
      have hU7 := below_step hU6 hb7
      clear hb7
      clear BV
      go_wp2_with fail
      go_meet
      exact ⟨rfl, hc7⟩
    case rest =>
      obtain ⟨rfl, hcB⟩ := hcut
      obtain ⟨w6, rfl⟩ : ∃ w', w' = wc := ⟨_, rfl⟩
      have hB6 := below_step hB5 hcB
      have hC6 := below_step hC5 hcB
      have hT6 := below_step hT5 hcB
      have hc6 := Below.refl w6.heap.size w6
      clear hcB
      clear q1 q2 q3
      have q1 := cellsL P1.out
      have q2 := cellsL P2.out
      have q3 := cellsL P3.out
      go_upto_if 105 with fail
      go_cut [17, 23, 24, 25, 26] from 103 to 144 (fun v17 v23 v24 v25 v26 wx => v17 = .bool true ∧ Below w6.heap.size w6 wx)
      case first =>
        by_cases z0 : 0 < na
        rotate_left
        · skip
          go_wp2_with fail
          go_meet
          exact ⟨rfl, hc6⟩
        obtain ⟨wo, hwo⟩ : ∃ x, x = w6 := ⟨_, rfl⟩
        go_wp2_with (at_builtin; refine wpList_append_rows _ rfl _ _ 26 rfl w6.heap.size 41 i0 _ 4 32 Try.underlying26 hi0 hz0 hz1 hz2 rfl (by decide) _ 0 [] rfl (World.ownsRow_lit w6 #[] 0 (Nat.le_refl _) (by decide) rfl) ad4 na c4 A rfl (HA.out.later (below_step hC6 ((Below.refl w6.heap.size w6).alloc (Nat.le_refl _) _))) (by unfold maxLen; omega) (by omega) (by simp) ?_)
        intro ad7 c7 w7 hown7 hgrow7
        try simp only [Nat.zero_add, List.nil_append] at hown7
        rcases hown7.2 with ⟨_, h0⟩ | ⟨g7, cap7, cur7, e7, hb7, hh7, hle7, hcp7, hsz7, htk7⟩
        · omega
        obtain ⟨rfl, rfl⟩ : ad7 = some ⟨g7, 0, none⟩ ∧ c7 = cap7 := by simpa using e7
        have R7 := Lib.hid (owns_rows (X := A) (by omega) hown7 (fun i hi j hj => rowCells_get hi hj))
        have HH := Lib.hid hh7
        have SZ := Lib.hid hsz7
        have hb8 := hb7
        have hPn : Below w6.heap.size w6 w7 := (((Below.refl w6.heap.size w6).alloc (Nat.le_refl _) (.cells #[] 41)).grown hgrow7 (by simp) (fun k hk => by simp [Value.ownBlock] at hk; omega))
        clear hown7 hgrow7 hh7 hsz7 htk7
        obtain ⟨x0, x1⟩ : 0 ≤ ix ∧ ix ≤ 255 := by simp [Lit.wf, IntKind.min, IntKind.max, IntKind.signed, IntKind.bits] at wix; omega
        obtain ⟨y0, y1⟩ : 0 ≤ wd ∧ wd ≤ 65535 := by simp [Lit.wf, IntKind.min, IntKind.max, IntKind.signed, IntKind.bits] at wwd; omega
        obtain ⟨k0, rfl⟩ : ∃ k0 : Nat, ix = (k0 : Int) := ⟨ix.toNat, by omega⟩
        obtain ⟨kk, hkk⟩ : ∃ kk, k0 % na = kk := ⟨_, rfl⟩
        have hkl : kk < na := by rw [← hkk]; exact Nat.mod_lt _ z0
        have htm : Int.tmod (k0 : Int) (na : Int) = (kk : Int) := by rw [← hkk]; exact (Int.ofNat_tmod _ _).symm
        have hnz : (na : Int) ≠ 0 := by omega
        obtain ⟨r0, hr0⟩ : ∃ r0, A kk 3 = r0 := ⟨_, rfl⟩
        obtain ⟨_, ra, rb, _, _⟩ := AO.out.2 kk hkl
        rw [hr0] at ra rb
        have cR : w7.cell? ⟨g7, kk * 4 + 3, none⟩ = some (.int .i64 r0) := by
          obtain ⟨g', o', e, hc⟩ := R7.out.row hkl
          cases e
          have h := hc 3 (by omega)
          rwa [Nat.zero_add, hr0] at h
        have fR := free_block HH.out (kk * 4 + 3)
        have RR := Lib.hid hr0
        have HK := Lib.hid hkk
        clear hkk hr0
        have hB7 := below_step hB6 hPn
        have hC7 := below_step hC6 hPn
        have hT7 := below_step hT6 hPn
        clear q1 q2 q3
        have q1 := cellsL P1.out
        have q2 := cellsL P2.out
        have q3 := cellsL P3.out
        by_cases hr : r0 + wd ≤ 3000000
        · skip
          go_wp2_with fail
          have RW := Lib.hid (rows_wide (r := (r0 + wd)) (by omega) hkl (by have h := SZ.out; have h2 := Nat.mul_le_mul_right 4 (show na ≤ c7 by omega); omega) HH.out R7.out)
          have hW0 := hPn.setCell (p := ⟨g7, kk * 4 + 3, none⟩) hb8 (.int .i64 (r0 + wd))
          generalize hW8 : World.setCell _ _ _ = w8 at RW hW0
          clear hW8 hPn cR fR
          have hB8 := below_step hB6 hW0
          have hC8 := below_step hC6 hW0
          have hT8 := below_step hT6 hW0
          have hc8 := below_step hc6 hW0
          have hR8 := Below.refl w8.heap.size w8
          (with_reducible refine (hTable_all np c ne c2 na c7 ad ad2 (some ⟨g7, 0, none⟩) X E (wide4 kk (r0 + wd) A) f u _ (HX.out.later hC8) (HE.out.later hC8) (RW.out.later hR8) n1 n2 (by omega)).mono ?_)
          rintro e w9 ⟨ya, yc, rfl, hb9, htab⟩
          have hB9 := below_step hB8 hb9
          have hC9 := below_step hB hB9
          have hT9 := below_step hT8 hb9
          have hR9 := below_step hR8 hb9
          have hc9 := below_step hc8 hb9
          clear hb9
          have YY := Lib.hid htab
          have hte1 : tabE np X ne E na (wide4 kk (r0 + wd) A) f u = 0 := if_pos ⟨NO.out, airs_wide AO.out (by omega) (by omega), TM.out⟩
          have hte2 : tabN np X ne E na (wide4 kk (r0 + wd) A) f u = n := (if_pos ⟨NO.out, airs_wide AO.out (by omega) (by omega), TM.out⟩).trans HN.out
          rw [hte1, hte2]
          rw [hte2] at YY
          clear htab hte1 hte2
          have hY9 := Below.refl w9.heap.size w9
          have BV := Lib.hid (decide_eq_true (show TabsLe n n (fun _ => np) (fun _ => np) (tblI X A E na f u ne) (tblI X (wide4 kk (r0 + wd) A) E na f u ne) from ⟨rfl, fun t ht => ⟨rfl, fun j _ => by
            unfold tblI
            rw [HN.out]
            exact tbl_more (fun i hi => (NO.out.2.2.2.2 i hi).2.2.2.1) (fun p q s u => cnt_wide (by rw [RR.out]; omega) (by rw [RR.out]; omega) p q s u) t ht j⟩⟩))
          go_wp2_with fail
          (with_reducible refine (l33below_any n _ n _ ta ya (fun _ => np) (fun _ => np) (tblI X A E na f u ne) (tblI X (wide4 kk (r0 + wd) A) E na f u ne) _ (TT.out.later hT9) (YY.out.later hY9) nn nn BV.out).mono ?_)
          rintro e w10 ⟨rfl, hb10⟩
          have hB10 := below_step hB9 hb10
          have hC10 := below_step hB hB10
          have hT10 := below_step hT9 hb10
          have hY10 := below_step hY9 hb10
          have hc10 := below_step hc9 hb10
          clear hb10
          clear BV
          go_wp2_with fail
          go_meet
          exact ⟨rfl, hc10⟩
        · skip
          go_wp2_with fail
          have RW := Lib.hid (rows_wide (r := 3000000) (by omega) hkl (by have h := SZ.out; have h2 := Nat.mul_le_mul_right 4 (show na ≤ c7 by omega); omega) HH.out R7.out)
          have hW0 := hPn.setCell (p := ⟨g7, kk * 4 + 3, none⟩) hb8 (.int .i64 3000000)
          generalize hW8 : World.setCell _ _ _ = w8 at RW hW0
          clear hW8 hPn cR fR
          have hB8 := below_step hB6 hW0
          have hC8 := below_step hC6 hW0
          have hT8 := below_step hT6 hW0
          have hc8 := below_step hc6 hW0
          have hR8 := Below.refl w8.heap.size w8
          (with_reducible refine (hTable_all np c ne c2 na c7 ad ad2 (some ⟨g7, 0, none⟩) X E (wide4 kk 3000000 A) f u _ (HX.out.later hC8) (HE.out.later hC8) (RW.out.later hR8) n1 n2 (by omega)).mono ?_)
          rintro e w9 ⟨ya, yc, rfl, hb9, htab⟩
          have hB9 := below_step hB8 hb9
          have hC9 := below_step hB hB9
          have hT9 := below_step hT8 hb9
          have hR9 := below_step hR8 hb9
          have hc9 := below_step hc8 hb9
          clear hb9
          have YY := Lib.hid htab
          have hte1 : tabE np X ne E na (wide4 kk 3000000 A) f u = 0 := if_pos ⟨NO.out, airs_wide AO.out (by omega) (by omega), TM.out⟩
          have hte2 : tabN np X ne E na (wide4 kk 3000000 A) f u = n := (if_pos ⟨NO.out, airs_wide AO.out (by omega) (by omega), TM.out⟩).trans HN.out
          rw [hte1, hte2]
          rw [hte2] at YY
          clear htab hte1 hte2
          have hY9 := Below.refl w9.heap.size w9
          have BV := Lib.hid (decide_eq_true (show TabsLe n n (fun _ => np) (fun _ => np) (tblI X A E na f u ne) (tblI X (wide4 kk 3000000 A) E na f u ne) from ⟨rfl, fun t ht => ⟨rfl, fun j _ => by
            unfold tblI
            rw [HN.out]
            exact tbl_more (fun i hi => (NO.out.2.2.2.2 i hi).2.2.2.1) (fun p q s u => cnt_wide (by rw [RR.out]; omega) (by rw [RR.out]; omega) p q s u) t ht j⟩⟩))
          go_wp2_with fail
          (with_reducible refine (l33below_any n _ n _ ta ya (fun _ => np) (fun _ => np) (tblI X A E na f u ne) (tblI X (wide4 kk 3000000 A) E na f u ne) _ (TT.out.later hT9) (YY.out.later hY9) nn nn BV.out).mono ?_)
          rintro e w10 ⟨rfl, hb10⟩
          have hB10 := below_step hB9 hb10
          have hC10 := below_step hB hB10
          have hT10 := below_step hT9 hb10
          have hY10 := below_step hY9 hb10
          have hc10 := below_step hc9 hb10
          clear hb10
          clear BV
          go_wp2_with fail
          go_meet
          exact ⟨rfl, hc10⟩
      case rest =>
        obtain ⟨rfl, hcB⟩ := hcut
        obtain ⟨w7, rfl⟩ : ∃ w', w' = wc := ⟨_, rfl⟩
        have hB7 := below_step hB6 hcB
        have hC7 := below_step hC6 hcB
        have hT7 := below_step hT6 hcB
        clear hcB
        clear q1 q2 q3
        have q1 := cellsL P1.out
        have q2 := cellsL P2.out
        have q3 := cellsL P3.out
        go_wp2_with fail
        go_cut [27] from 145 to 154 (fun v27 wx => ∃ (b ad9c : Nat) (ad9 : Option Addr), v27 = .pointer (some ⟨b, 0, none⟩) ∧ Below w7.heap.size w7 wx ∧ wx.heap[b]? = some (.cells #[.slice ad np c, .slice ad9 (ne + 1) ad9c] 25) ∧ Rows 4 wx (.slice ad9 (ne + 1) ad9c) (ne + 1) (more4 ne E (row4 e0 e1 e2 e3)))
        case first =>
          clear q1 q2 q3
          have q1 := cellsR (block_later hB7 P1.out)
          have q2 := cellsR (block_later hB7 P2.out)
          have q3 := cellsR (block_later hB7 P3.out)
          refine wp_region_plan (.take 0 (.take 0 (.take 1 (.take 1 (.take 2 (.three 0 (.three 0 (.two 0 (.two 0 (.take 0 (.only 0 (.only 0 .done))) 2 (.only 0 (.take 0 (.only 0 .done)))) 3 (.only 0 (.only 0 (.take 0 (.only 0 .done))))) 1 (.two 0 (.two 0 (.take 0 (.only 0 (.only 0 .done))) 2 (.only 0 (.take 0 (.only 0 .done)))) 3 (.only 0 (.only 0 (.take 0 (.only 0 .done))))) 4 (.two 0 (.only 0 (.only 0 (.take 0 (.only 0 .done)))) 1 (.only 0 (.only 0 (.take 0 (.only 0 .done)))))) 2 (.two 0 (.two 0 (.two 0 (.take 0 (.only 0 (.only 0 .done))) 2 (.only 0 (.take 0 (.only 0 .done)))) 3 (.only 0 (.only 0 (.take 0 (.only 0 .done))))) 4 (.only 0 (.only 0 (.only 0 (.take 0 (.only 0 .done)))))) 5 (.two 0 (.two 0 (.only 0 (.only 0 (.take 0 (.only 0 .done)))) 1 (.only 0 (.only 0 (.take 0 (.only 0 .done))))) 2 (.only 0 (.only 0 (.only 0 (.take 0 (.only 0 .done)))))))))))) (by kernel_rfl) (by kernel_rfl) (fun hP => ?_)
          repeat' (first
            | (refine wpPlan_two ?_ ?_)
            | (refine wpPlan_three ?_ ?_ ?_)
            | (refine wpPlan_take rfl (fun K hK => ?_); replace hK := Lib.hid hK; go_simp; first | (refine hK.out _ ?_; clear hK K) | (apply Exists.intro; refine ⟨fun _ => ?_, hK.out _ ?_⟩; (first | with_reducible exact rfl | skip); clear hK K))
            | (refine wpPlan_only rfl (fun K hK => ?_); replace hK := Lib.hid hK; (first | ((refine step_append_rows _ (by rfl) _ _ _ (by rfl) w7.heap.size 60 j0 _ 4 32 Try.underlying23 hj0 hy0 hy1 hy2 (by rfl) (by decide) (.slice adP ne cP) ne (rowCells 4 ne E) (by rfl) (by first | exact hownP | exact hownP.alloc _ | exact (hownP.alloc _).alloc _) _ 1 1 (fun _ => row4 e0 e1 e2 e3) (by rfl) (by first | exact row_one (block_new_at _ (by first | rfl | (simp; done))) | exact row_one (block_alloc (block_new_at _ (by first | rfl | (simp; done)))) | exact row_one (grow_block hgrowP (block_new_at _ (by first | rfl | (simp; done))) (by first | (simp [Value.ownBlock]; done) | (simp [Value.ownBlock]; omega))) | exact row_one (grow_block hgrowP (block_alloc (block_new_at _ (by first | rfl | (simp; done)))) (by first | (simp [Value.ownBlock]; done) | (simp [Value.ownBlock]; omega))) | exact row_one (grow_block hgrowP (block_alloc (block_alloc (block_new_at _ (by first | rfl | (simp; done))))) (by first | (simp [Value.ownBlock]; done) | (simp [Value.ownBlock]; omega))) | exact row_one (block_alloc (grow_block hgrowP (block_new_at _ (by first | rfl | (simp; done))) (by first | (simp [Value.ownBlock]; done) | (simp [Value.ownBlock]; omega)))) | exact row_one (block_alloc (grow_block hgrowP (block_alloc (block_new_at _ (by first | rfl | (simp; done)))) (by first | (simp [Value.ownBlock]; done) | (simp [Value.ownBlock]; omega))))) (by unfold maxLen; omega) (by omega) hP.size ?_); intro adQ cQ wQ hownQ hgrowQ) | ((refine step_append_rows _ (by rfl) _ _ _ (by rfl) w7.heap.size 60 j0 _ 4 32 Try.underlying23 hj0 hy0 hy1 hy2 (by rfl) (by decide) (.slice (some ⟨_, 0, none⟩) 0 0) 0 [] (by rfl) (by first | exact own_nil (by first | exact Nat.le_refl _ | (simp; done) | (simp; omega)) (by first | rfl | (simp; done)) | exact (own_nil (by first | exact Nat.le_refl _ | (simp; done) | (simp; omega)) (by first | rfl | (simp; done))).alloc _ | exact ((own_nil (by first | exact Nat.le_refl _ | (simp; done) | (simp; omega)) (by first | rfl | (simp; done))).alloc _).alloc _) _ ne c2 E (by rfl) (HE.out.later (below_step hC7 hP)) (by unfold maxLen; omega) (by omega) hP.size ?_); intro adP cP wP hownP hgrowP; rw [Nat.zero_add]; rw [Nat.zero_add, List.nil_append] at hownP) | (refine store_aid (ty := 25) _ _ _ (by rfl) (by rfl) #[.slice none 0 0, .slice none 0 0] hP ?_ (fun HZ hfz hcz => ?_); (focus ((repeat (first | exact block_new_at _ (by first | rfl | (simp; done)) | refine block_alloc ?_ | refine grow_other hgrowQ (by first | exact hownP | exact hownP.alloc _ | exact (hownP.alloc _).alloc _) (by decide) ?_ | refine grow_other hgrowP (by first | exact own_nil (by first | exact Nat.le_refl _ | (simp; done) | (simp; omega)) (by first | rfl | (simp; done)) | exact (own_nil (by first | exact Nat.le_refl _ | (simp; done) | (simp; omega)) (by first | rfl | (simp; done))).alloc _ | exact ((own_nil (by first | exact Nat.le_refl _ | (simp; done) | (simp; omega)) (by first | rfl | (simp; done))).alloc _).alloc _) (by decide) ?_)); done)); go_simp) | (go_simp; first | skip)); refine hK.out _ _ (by first | assumption | exact hP.grown hgrowP hP.size (fun k hk => by simp [Value.ownBlock] at hk; omega) | exact hP.grown hgrowQ hP.size (fun k hk => (hownP.lt k hk).1) | exact below_alloc (by assumption) | exact (hP.setCell (by first | exact Nat.le_refl _ | (simp; done) | (simp; omega) | (have h1 := (show Below w7.heap.size w7 wP by assumption).size; simp; omega) | (have h1 := (show Below w7.heap.size w7 wQ by assumption).size; simp; omega)) _).setCell (by first | exact Nat.le_refl _ | (simp; done) | (simp; omega) | (have h1 := (show Below w7.heap.size w7 wP by assumption).size; simp; omega) | (have h1 := (show Below w7.heap.size w7 wQ by assumption).size; simp; omega)) _ | exact below_step hP hbx | exact hP.drew | exact hP.alloc hP.size _) (fun hP => ?_); clear hK K))
          all_goals refine wpPlan_done ?_
          all_goals (go_wp2_with fail; go_meet; first | exact ⟨_, cQ, adQ, rfl, hP, block_new_at _ (by first | rfl | (simp; done)), rows_more (by omega) (hownQ.alloc _)⟩ | exact ⟨_, cQ, adQ, rfl, hP, block_set (block_set HZ.out _) _, rows_more (by omega) (own_set (own_set hownQ HZ.out (by decide)) (block_set HZ.out _) (by decide))⟩ | exact ⟨_, cQ, adQ, rfl, hP, block_set (block_set HZ.out _) _, rows_more (by omega) (own_set (own_set (hownQ.alloc _) HZ.out (by decide)) (block_set HZ.out _) (by decide))⟩)
        case rest =>
          obtain ⟨b, c9, ad9, rfl, hcB, hp9, hr9⟩ := hcut
          obtain ⟨w8, rfl⟩ : ∃ w', w' = wc := ⟨_, rfl⟩
          have hB8 := below_step hB7 hcB
          have hC8 := below_step hC7 hcB
          have hT8 := below_step hT7 hcB
          have hE8 := Below.refl w8.heap.size w8
          have R9 := Lib.hid hr9
          have P9 := Lib.hid hp9
          clear hcB hr9 hp9
          clear q1 q2 q3
          have q1 := cellsL P1.out
          have q2 := cellsL P2.out
          have q3 := cellsL P3.out
          have q9 := cellsL P9.out
          go_wp2_with fail
          obtain ⟨vm, hvm⟩ : ∃ v, decide (NetOk np X (ne + 1) (more4 ne E (row4 e0 e1 e2 e3))) = v := ⟨_, rfl⟩
          have Hvm := Lib.hid hvm
          clear hvm
          (with_reducible refine (q33Valid_any np c (ne + 1) c9 ad ad9 X (more4 ne E (row4 e0 e1 e2 e3)) _ (HX.out.later hC8) (R9.out.later hE8) n1 (by omega) Hvm.out).mono ?_)
          rintro e w9 ⟨rfl, hb9⟩
          have hB9 := below_step hB8 hb9
          have hC9 := below_step hB hB9
          have hT9 := below_step hT8 hb9
          have hE9 := below_step hE8 hb9
          clear hb9
          cases vm
          · go_wp2_with fail
            go_returns
            exact ⟨rfl, hC9⟩
          have NM := Lib.hid (show NetOk np X (ne + 1) (more4 ne E (row4 e0 e1 e2 e3)) from of_decide_eq_true Hvm.out)
          clear Hvm
          go_wp2_with fail
          (with_reducible refine (hTable_all np c (ne + 1) c9 na c4 ad ad9 ad4 X (more4 ne E (row4 e0 e1 e2 e3)) A f u _ (HX.out.later hC9) (R9.out.later hE9) (HA.out.later hC9) n1 (by omega) (by omega)).mono ?_)
          rintro e w10 ⟨va, vc, rfl, hb10, htab⟩
          have hB10 := below_step hB9 hb10
          have hC10 := below_step hB hB10
          have hT10 := below_step hT9 hb10
          have hE10 := below_step hE9 hb10
          clear hb10
          have VV := Lib.hid htab
          have hte1 : tabE np X (ne + 1) ((more4 ne E (row4 e0 e1 e2 e3))) na (A) f u = 0 := if_pos (⟨NM.out, AO.out, TM.out⟩)
          have hte2 : tabN np X (ne + 1) ((more4 ne E (row4 e0 e1 e2 e3))) na (A) f u = n := (if_pos (⟨NM.out, AO.out, TM.out⟩)).trans HN.out
          rw [hte1, hte2]
          rw [hte2] at VV
          clear htab hte1 hte2
          have hV10 := Below.refl w10.heap.size w10
          have BV := Lib.hid (decide_eq_true (show TabsLe n n (fun _ => np) (fun _ => np) (tblI X A (more4 ne E (row4 e0 e1 e2 e3)) na f u (ne + 1)) (tblI X A E na f u ne) from ⟨rfl, fun t ht => ⟨rfl, fun j _ => by
            unfold tblI
            rw [HN.out]
            exact tbl_edges (fun i hi => (NO.out.2.2.2.2 i hi).2.2.2.1) (fun i hi => (NM.out.2.2.2.2 i hi).2.2.2.1) (by omega) (fun i hi j hj => edges_more i hi j hj) t ht j⟩⟩))
          go_wp2_with fail
          (with_reducible refine (l33below_any n _ n _ va ta (fun _ => np) (fun _ => np) (tblI X A (more4 ne E (row4 e0 e1 e2 e3)) na f u (ne + 1)) (tblI X A E na f u ne) _ (VV.out.later hV10) (TT.out.later hT10) nn nn BV.out).mono ?_)
          rintro e w11 ⟨rfl, hb11⟩
          have hB11 := below_step hB10 hb11
          have hC11 := below_step hB hB11
          have hT11 := below_step hT10 hb11
          have hE11 := below_step hE10 hb11
          have hV11 := below_step hV10 hb11
          clear hb11
          clear BV
          go_wp2_with fail
          go_returns
          exact ⟨rfl, hC11⟩
set_option maxRecDepth 100000 in
theorem reachMore_lifted (os : Os) (started : os.Started) (H : Type) (enc : TypeId × Value → H) :
    ReturnsInHanded {} Try.checked os 8 .any (Rows.reachMoreSpec.pre6 enc Try.prog Try.f8 Rows.reachMoreRow.domain false) (Rows.reachMoreSpec.post enc Try.prog Try.f8 false true false false) := by
  refine returnsInHanded_of_change_sized (C := Try.checked) own_knob started (by kernel_rfl) Try.func8
    (ChangeSpec.witness6 (enc := enc) (C := Try.checked) false ⟨#[], #[.agg #[.slice none 0 0, .slice none 0 0], .slice none 0 0, .agg #[.int .i64 0, .int .i64 0, .int .i64 0, .int .i64 0], .agg #[.int .i64 0, .int .i64 0, .int .i64 0, .int .i64 0], .int .u8 0, .int .u16 0, .int .i64 0, .int .i64 0], []⟩ 8 (by kernel_rfl) (by kernel_rfl) (by kernel_rfl) (by kernel_rfl)) ?_
  intro W base args ds gs before hval0 hW hcnd hsz _
  have hval : ∀ (j : Nat) t v, Try.f8.params[j]? = some t → args[j]? = some v → Value.okWide Try.prog W .any base t v := hval0
  have hW' := hW
  obtain ⟨p, q, hA0, hV, rfl, hfz, hnd⟩ := hW
  have hA : DataW.TrodAll enc Try.prog W 0 (fun _ => true) true Try.f8.params.toList args.toList ds p := hA0
  rw [Try.params8] at hA hval hsz
  obtain ⟨v0, vs0, d0, ds0, p0, q0, hargs, rfl, rfl, h0, r0⟩ := trodAll_cons hA
  obtain ⟨v1, vs1, d1, ds1, p1, q1, rfl, rfl, rfl, h1, r1⟩ := trodAll_cons r0
  obtain ⟨v2, vs2, d2, ds2, p2, q2, rfl, rfl, rfl, h2, r2⟩ := trodAll_cons r1
  obtain ⟨v3, vs3, d3, ds3, p3, q3, rfl, rfl, rfl, h3, r3⟩ := trodAll_cons r2
  obtain ⟨v4, vs4, d4, ds4, p4, q4, rfl, rfl, rfl, h4, r4⟩ := trodAll_cons r3
  obtain ⟨v5, vs5, d5, ds5, p5, q5, rfl, rfl, rfl, h5, r5⟩ := trodAll_cons r4
  obtain ⟨v6, vs6, d6, ds6, p6, q6, rfl, rfl, rfl, h6, r6⟩ := trodAll_cons r5
  obtain ⟨v7, vs7, d7, ds7, p7, q7, rfl, rfl, rfl, h7, r7⟩ := trodAll_cons r6
  obtain ⟨rfl, rfl, rfl⟩ := trodAll_nil r7
  obtain rfl : args = #[v0, v1, v2, v3, v4, v5, v6, v7] := by cases args; simp_all
  obtain ⟨rfl, rfl⟩ := trodVars_none hV
  simp only [List.append_nil] at hW' hA0
  obtain ⟨_, _, _, _, _, _, _, _, e0, hnX, hnE⟩ := open_net (hval 0 25 v0 rfl rfl) h0
  subst e0
  obtain ⟨_, _, _, _, e1, hairs⟩ := open_airs (hval 1 26 v1 rfl rfl) h1
  subst e1
  obtain ⟨a0, a1, a2, a3, e2⟩ := open_air (hval 2 41 v2 rfl rfl) h2
  subst e2
  obtain ⟨e0, e1, e2, e3, e3⟩ := open_edge (hval 3 60 v3 rfl rfl) h3
  subst e3
  obtain ⟨ix, e4, _, _, wix⟩ := open_int Try.underlying5 (hval 4 5 v4 rfl rfl) h4
  subst e4
  obtain ⟨wd, e5, _, _, wwd⟩ := open_int Try.underlying61 (hval 5 61 v5 rfl rfl) h5
  subst e5
  obtain ⟨f, e6, _, _, wf⟩ := open_int Try.underlying3 (hval 6 3 v6 rfl rfl) h6
  subst e6
  obtain ⟨u, e7, _, _, wu⟩ := open_int Try.underlying3 (hval 7 3 v7 rfl rfl) h7
  subst e7
  have hby : Try.checked.prog.bytesOf 41 = 32 := by kernel_rfl
  have sz := airs_size h1 (fun el sp e => by
    have h := sized_slice hsz (j := 1) (t := 26) (elems := el) (spare := sp) rfl (by rw [e]; rfl) Try.underlying26
    rwa [hby] at h)
  refine (reachMore_walk a0 a1 a2 a3 e0 e1 e2 e3 ix wd f u hnX hnE hairs wix wwd sz).mono fun e W' ⟨he, hg⟩ => ?_
  subst he
  exact ⟨_, rfl, post_law laid_out (by rw [Try.params8]; intro t ht; simp only [List.mem_cons, List.not_mem_nil, or_false] at ht; rcases ht with rfl | rfl | rfl | rfl | rfl | rfl | rfl | rfl <;> exact ⟨by kernel_rfl, of_decide_eq_true (by kernel_rfl)⟩) rfl hW' hA0 rfl rfl rfl rfl Try.underlying4 hg⟩
theorem reachMore_over : Rows.reachMoreRow.holds Try.pinned (OpenSpec.ofChange Rows.reachMoreSpec) :=
  OpenClaim.holds_of_wide 8 Try.f8 rfl rfl rfl rfl rfl rfl rfl ⟨rfl, rfl, rfl, rfl, rfl⟩ rfl rfl rfl rfl rfl (by kernel_rfl) Try.func8 (by kernel_rfl)
    (of_decide_eq_true (by kernel_rfl)) (by unfold Func.isWrapper; first | (rw [if_pos (by decide +kernel)]; kernel_rfl) | (rw [if_neg (by decide +kernel)]; exact ⟨rfl, rfl⟩))
    (fun os started H enc _ => reachMore_lifted os started H enc)
theorem reachMore_holds : Rows.ReachMoreSaid :=
  reachMore_over
#print axioms reachMore_holds
end Go.Proofs.Ytcpnkhiillgffaa
