/- Lists of structs that a call owns, and append of one. -/
import Derived.Test.YtdmegkkifiahdaaGreatShtL
namespace Go.Proofs.YtdmegkkifiahdaaGreat
open Go.RowKit
set_option linter.unusedVariables false
theorem flat_get {α : Type} (f : α → List Value) (k : Nat) (hk : ∀ x, (f x).length = k) (d : α) : ∀ (l : List α) (i j : Nat), i < l.length → j < k → (l.flatMap f)[i * k + j]? = (f (l.getD i d))[j]?
  | [], i, j, h, _ => absurd h (Nat.not_lt_zero i)
  | x :: l, 0, j, _, hj => by
    rw [List.flatMap_cons, Nat.zero_mul, Nat.zero_add, List.getElem?_append_left (by rw [hk]; exact hj)]
    rfl
  | x :: l, i + 1, j, h, hj => by
    have e : (i + 1) * k + j = k + (i * k + j) := by rw [Nat.add_mul]; omega
    rw [List.flatMap_cons, e, List.getElem?_append_right (by rw [hk]; omega), hk, Nat.add_sub_cancel_left]
    rw [flat_get f k hk d l i j (by simpa using h) hj]
    rfl
def ptCells (p : Int × Int) : List Value := [.int .i64 p.1, .int .i64 p.2]
def secCells (s : Sec) : List Value := [.int .i64 s.fx, .int .i64 s.fy, .int .i64 s.tx, .int .i64 s.ty, .int .i64 s.col, .int .i64 s.rng]
def OwnP (base : Nat) (w : World) (v : Value) (l : List (Int × Int)) : Prop := w.ownsRow base 28 2 v l.length (l.flatMap ptCells)
def OwnS (base : Nat) (w : World) (v : Value) (l : List Sec) : Prop := w.ownsRow base 151 6 v l.length (l.flatMap secCells)
theorem own_cap {base k n : Nat} {w : World} {e : TypeId} {v : Value} {xs : List Value} (h : w.ownsRow base e k v n xs) : CapOk v := fun ad n' c e' => by
  rcases h.2 with ⟨rfl, h0⟩ | ⟨g, cap, cur, rfl, _, _, hnc, _⟩
  · cases e'; exact Nat.le_refl _
  · cases e'; exact hnc
theorem OwnP.pts {base : Nat} {w : World} {v : Value} {l : List (Int × Int)} (h : OwnP base w v l) (hl : l.length ≤ 9223372036854775807) : PtsAt w v l :=
  ⟨owns_rows hl h fun i hi j hj => by
    rw [flat_get ptCells 2 (fun _ => rfl) (0, 0) l i j hi hj]
    match j, hj with
    | 0, _ => rfl
    | 1, _ => rfl, own_cap h⟩
theorem OwnS.secs {base : Nat} {w : World} {v : Value} {l : List Sec} (h : OwnS base w v l) (hl : l.length ≤ 9223372036854775807) : SecsAt w v l :=
  ⟨owns_rows hl h fun i hi j hj => by
    rw [flat_get secCells 6 (fun _ => rfl) ⟨0, 0, 0, 0, 0, 0⟩ l i j hi hj]
    match j, hj with
    | 0, _ => rfl
    | 1, _ => rfl
    | 2, _ => rfl
    | 3, _ => rfl
    | 4, _ => rfl
    | 5, _ => rfl, own_cap h⟩
theorem own_nil (base : Nat) (w : World) (e : TypeId) (k : Nat) : w.ownsRow base e k (.slice none 0 0) 0 [] := ⟨by simp, .inl ⟨rfl, rfl⟩⟩
theorem own_wr {base br k n : Nat} {w w' : World} {e : TypeId} {v : Value} {xs : List Value} (h : w.ownsRow base e k v n xs) (hb : Wr br w w') (hlt : br < base) : w'.ownsRow base e k v n xs := by
  refine ⟨h.1, ?_⟩
  rcases h.2 with h | ⟨g, cap, cur, rfl, hg, hh, hr⟩
  · exact .inl h
  · exact .inr ⟨g, cap, cur, rfl, hg, hb.block_ne hh (by omega), hr⟩
theorem own_keep {base k n : Nat} {w w' : World} {e : TypeId} {v : Value} {xs : List Value} (h : w.ownsRow base e k v n xs) (hb : Below w.heap.size w w') : w'.ownsRow base e k v n xs := by
  refine ⟨h.1, ?_⟩
  rcases h.2 with h | ⟨g, cap, cur, rfl, hg, hh, hr⟩
  · exact .inl h
  · exact .inr ⟨g, cap, cur, rfl, hg, block_later hb hh, hr⟩
theorem own_block {base k n : Nat} {w : World} {e : TypeId} {v : Value} {xs : List Value} (h : w.ownsRow base e k v n xs) : ∀ j, v.ownBlock = some j → base ≤ j := by
  intro j hj
  rcases h.2 with ⟨rfl, h0⟩ | ⟨g, cap, cur, rfl, hg, _⟩
  · simp [Value.ownBlock] at hj
  · simp [Value.ownBlock] at hj; omega
/-- append of one struct, laid as a literal, to the call's own list. -/
theorem wpList_app1 {ops : Array Oper} {rest : List Oper} {o : Oper} {a : Act} {Q : Exit → Act → World → Prop} {w : World} (hgd : o.guard = none) (s x : Operand) (t e : TypeId) (k bytes : Nat) (z : Value)
    (ho : o.op = .call { callee := .builtin .append, args := #[s, x], argTypes := #[t, t] }) (ht : Tryz.prog.underlying t = some (.slice e))
    (hi : (Tryz.prog.info? e).map (fun i => (i.zero, i.size, i.bytes)) = some (some z, k, bytes)) (hzs : z.cells.size = k) (hk : 0 < k)
    (base : Nat) (v : Value) (n : Nat) (xs : List Value) (hs : a.eval s = v) (hown : w.ownsRow base e k v n xs)
    (b : Nat) (news : List Value) (hx : a.eval x = .slice (some ⟨b, 0, none⟩) 1 1) (hb : w.heap[b]? = some (.cells news.toArray e (0, 0))) (hl : news.length = k) (h1 : ∀ u ∈ news, u.oneCell' = true)
    (hsz : n + 1 ≤ maxLen) (hby : (n + 1) * bytes ≤ 140737488355328) (hbase : base ≤ w.heap.size)
    (h : ∀ ad' c' w', w'.ownsRow base e k (.slice ad' (n + 1) c') (n + 1) (xs ++ news) → w.grownBy w' v.ownBlock → Below base w w' → wpList Tryz.prog ops Q rest (a.put o.dst (.slice ad' (n + 1) c')) w') : wpList Tryz.prog ops Q (o :: rest) a w := by
  obtain ⟨i0, hi0, hz0, hz1, hz2⟩ := info_parts hi
  refine wpList_plain hgd fun _ hK => ?_
  obtain ⟨v', w', hr, h2, h3, _⟩ := run_append_own (P := Tryz.prog) w base t o.type e i0 z k bytes ht hi0 hz0 hz1 hz2 hzs hk v n xs hown ⟨b, 0, none⟩ 1 1 news (by rw [hl, Nat.one_mul]) (fun j u hu => by
    have hadd : (⟨b, 0, none⟩ : Addr).add j = ⟨b, j, none⟩ := by unfold Addr.add; split <;> simp_all
    rw [hadd, cell_block hb, ← hu]
    simp) h1 hsz hby hbase
  obtain ⟨ad', c', rfl⟩ := owns_form h2
  unfold Oper.wp execOp
  simp only [ho, resolve, invoke, builtin, Sem.run_bind, Sem.run_pure, Result.andThen_ok, List.map_toArray, List.map_cons, List.map_nil, hs, hx, hr]
  exact hK _ _ (h ad' c' w' h2 h3 ((Below.refl base w).grown h3 hbase (own_block hown)))
end Go.Proofs.YtdmegkkifiahdaaGreat
