import Derived.Test.YtdmegkkifiahdaaGreatKB
import Derived.Deep.Slices
import Derived.Test.YtdmegkkifiahdaaGreatPatPure
import Derived.Laws.Tables
import Derived.Laws.CopyOwn
import Derived.Maps.OwnSet
import Derived.Lib.SlKeysI
namespace Go.Proofs.YtdmegkkifiahdaaGreat
open Go.RowKit
set_option linter.unusedVariables false
theorem flat_get {α : Type} (f : α → List Value) (k : Nat) (hk : ∀ x, (f x).length = k) (d : α) : ∀ (l : List α) (i j : Nat), i < l.length → j < k → (l.flatMap f)[i * k + j]? = (f (l.getD i d))[j]?
 | [], i, j, h, _ => absurd h (Nat.not_lt_zero i)
 | x :: l, 0, j, _, hj => by
   rw [List.flatMap_cons, Nat.zero_mul, Nat.zero_add, List.getElem?_append_left (by rw [hk]; exact hj)]
   rfl
 | x :: l, i + 1, j, h, hj => by
   have e : (i + 1) * k + j = k + (i * k + j) := by rw [Nat.add_mul]; omega
   rw [List.flatMap_cons, e, List.getElem?_append_right (by rw [hk]; omega), hk, Nat.add_sub_cancel_left]
   rw [flat_get f k hk d l i j (by simpa using h) hj]
   rfl
theorem own_cap {base k n : Nat} {w : World} {e : TypeId} {v : Value} {xs : List Value} (h : w.ownsRow base e k v n xs) : CapOk v := fun ad n' c e' => by
 rcases h.2 with ⟨rfl, h0⟩ | ⟨g, cap, cur, rfl, _, _, hnc, _⟩
 · cases e'; exact Nat.le_refl _
 · cases e'; exact hnc
theorem own_nil (base : Nat) (w : World) (e : TypeId) (k : Nat) : w.ownsRow base e k (.slice none 0 0) 0 [] := ⟨by simp, .inl ⟨rfl, rfl⟩⟩
theorem own_keep {base k n : Nat} {w w' : World} {e : TypeId} {v : Value} {xs : List Value} (h : w.ownsRow base e k v n xs) (hb : Below w.heap.size w w') : w'.ownsRow base e k v n xs := by
 refine ⟨h.1, ?_⟩
 rcases h.2 with h | ⟨g, cap, cur, rfl, hg, hh, hr⟩
 · exact .inl h
 · exact .inr ⟨g, cap, cur, rfl, hg, block_later hb hh, hr⟩
theorem own_other {base k n : Nat} {w w' : World} {e : TypeId} {v : Value} {xs : List Value} {row : Option Nat} (h : w.ownsRow base e k v n xs) (hg : w.grownBy w' row) (hne : ∀ j, v.ownBlock = some j → row ≠ some j) : w'.ownsRow base e k v n xs := by
 refine ⟨h.1, ?_⟩
 rcases h.2 with h | ⟨g, cap, cur, rfl, hbg, hh, hr⟩
 · exact .inl h
 · exact .inr ⟨g, cap, cur, rfl, hbg, (hg.block g (lt_block hh) (fun e => hne g rfl e.symm)).trans hh, hr⟩
theorem own_block {base k n : Nat} {w : World} {e : TypeId} {v : Value} {xs : List Value} (h : w.ownsRow base e k v n xs) : ∀ j, v.ownBlock = some j → base ≤ j := by
 intro j hj
 rcases h.2 with ⟨rfl, h0⟩ | ⟨g, cap, cur, rfl, hg, _⟩
 · simp [Value.ownBlock] at hj
 · simp [Value.ownBlock] at hj; omega
section
variable {α : Type} (f : α → List Value) (k : Nat) (e : TypeId)
def OwnT (base : Nat) (w : World) (v : Value) (l : List α) : Prop := w.ownsRow base e k v l.length (l.flatMap f)
def SrcAt (w : World) (ad : Option Addr) (l : List α) : Prop := ∀ j u, (l.flatMap f)[j]? = some u → ∃ g o, ad = some ⟨g, o, none⟩ ∧ w.cell? ⟨g, o + j, none⟩ = some u
variable {f k e}
theorem SrcAt.later {w w' : World} {ad : Option Addr} {l : List α} (h : SrcAt f w ad l) (hb : Below w.heap.size w w') : SrcAt f w' ad l := fun j u hj => by
 obtain ⟨g, o, e, hc⟩ := h j u hj
 exact ⟨g, o, e, cell_later hb hc⟩
theorem SrcAt.one {w : World} {b : Nat} {news : List Value} {T : TypeId} {x : α} (hb : w.heap[b]? = some (.cells news.toArray T (0, 0))) (hx : f x = news) : SrcAt f w (some ⟨b, 0, none⟩) [x] := fun j u hj => by
 refine ⟨b, 0, rfl, ?_⟩
 rw [List.flatMap_cons, List.flatMap_nil, List.append_nil, hx] at hj
 rw [Nat.zero_add, cell_block hb]
 simpa using hj
theorem flat_len (hk : ∀ x, (f x).length = k) : ∀ l : List α, (l.flatMap f).length = l.length * k
 | [] => (Nat.zero_mul _).symm
 | x :: l => by rw [List.flatMap_cons, List.length_append, flat_len hk l, hk, List.length_cons, Nat.add_mul]; omega
theorem OwnT.form {base : Nat} {w : World} {v : Value} {l : List α} (h : OwnT f k e base w v l) : ∃ ad c, v = .slice ad l.length c := by
 exact owns_form h
theorem OwnT.nil (base : Nat) (w : World) : OwnT f k e base w (.slice none 0 0) [] := own_nil _ _ _ _
theorem run_appT (hkf : ∀ x, (f x).length = k) (hk0 : 0 < k) {t : TypeId} {z : Value} {bytes : Nat} (ht : Tryz.prog.underlying t = some (.slice e)) (hi : (Tryz.prog.info? e).map (fun i => (i.zero, i.size, i.bytes)) = some (some z, k, bytes)) (hzs : z.cells.size = k)
  (base : Nat) (w : World) (ty : TypeId) (v : Value) (l m : List α) (hown : OwnT f k e base w v l) (ad : Option Addr) (n c : Nat) (hn : m.length = n) (hX : SrcAt f w ad m) (hone : ∀ u ∈ m.flatMap f, u.oneCell' = true) (hsz : l.length + n ≤ maxLen) (hby : (l.length + n) * bytes ≤ 140737488355328) (hbase : base ≤ w.heap.size) :
  ∃ ad' c' w', (Builtin.append_ #[t, t] ty #[v, .slice ad n c]).run Tryz.prog w = .ok (.slice ad' (l.length + n) c') w' ∧ OwnT f k e base w' (.slice ad' (l.length + n) c') (l ++ m) ∧ w.grownBy w' v.ownBlock ∧ Below base w w' := by
 subst hn
 obtain ⟨i0, hi0, hz0, hz1, hz2⟩ := info_parts hi
 cases ad with
 | none =>
   have h0 : m = [] := by
    cases m with
    | nil => rfl
    | cons x m =>
      have hp : 0 < (f x).length := by rw [hkf]; exact hk0
      have hlt : 0 < ((x :: m).flatMap f).length := by rw [List.flatMap_cons, List.length_append]; omega
      obtain ⟨g, o, e, _⟩ := hX 0 _ (List.getElem?_eq_getElem hlt)
      cases e
   subst h0
   obtain ⟨ad', c', rfl⟩ := owns_form hown
   refine ⟨ad', c', w, append_none w base t ty e i0 k ht hi0 _ l.length _ hown, ?_, grownBy_refl w _, Below.refl _ _⟩
   rw [List.append_nil]
   exact hown
 | some a =>
   by_cases hj : m = []
   · subst hj
     obtain ⟨v', w', hrun, h2, h3, _⟩ := run_append_own (P := Tryz.prog) w base t ty e i0 z k bytes ht hi0 hz0 hz1 hz2 hzs hk0 v l.length _ hown a 0 c [] (by simp) (fun j u hu => by simp at hu) (fun u hu => by simp at hu) (by simpa using hsz) (by simpa using hby) hbase
     obtain ⟨ad', c', rfl⟩ := owns_form h2
     refine ⟨ad', c', w', hrun, ?_, h3, (Below.refl base w).grown h3 hbase (own_block hown)⟩
     unfold OwnT
     simpa using h2
   · obtain ⟨x, m', rfl⟩ := List.exists_cons_of_ne_nil hj
     have hp : 0 < (f x).length := by rw [hkf]; exact hk0
     have hlt : 0 < ((x :: m').flatMap f).length := by rw [List.flatMap_cons, List.length_append]; omega
     obtain ⟨g, o, e1, _⟩ := hX 0 _ (List.getElem?_eq_getElem hlt)
     cases e1
     obtain ⟨v', w', hrun, h2, h3, _⟩ := run_append_own (P := Tryz.prog) w base t ty e i0 z k bytes ht hi0 hz0 hz1 hz2 hzs hk0 v l.length _ hown ⟨g, o, none⟩ (x :: m').length c ((x :: m').flatMap f) (flat_len hkf _) (fun j u hu => by
      obtain ⟨g', o', e', hcell⟩ := hX j u hu
      cases e'
      have hadd : (⟨g, o, none⟩ : Addr).add j = ⟨g, o + j, none⟩ := by unfold Addr.add; split <;> simp_all
      rw [hadd]
      exact hcell) hone hsz hby hbase
     obtain ⟨ad', c', rfl⟩ := owns_form h2
     refine ⟨ad', c', w', hrun, ?_, h3, (Below.refl base w).grown h3 hbase (own_block hown)⟩
     unfold OwnT
     rw [List.length_append, List.flatMap_append]
     exact h2
theorem wp_appT (hkf : ∀ x, (f x).length = k) (hk0 : 0 < k) {t : TypeId} {z : Value} {bytes : Nat} (ht : Tryz.prog.underlying t = some (.slice e)) (hi : (Tryz.prog.info? e).map (fun i => (i.zero, i.size, i.bytes)) = some (some z, k, bytes)) (hzs : z.cells.size = k)
  {o : Oper} {a : Act} {K : Act → World → Prop} {Q : Exit → Act → World → Prop} {w : World} (s x : Operand)
  (ho : o.op = .call { callee := .builtin .append, args := #[s, x], argTypes := #[t, t] }) (base : Nat) (v : Value) (l m : List α) (hs : a.eval s = v) (hown : OwnT f k e base w v l)
  (ad : Option Addr) (n c : Nat) (hx : a.eval x = .slice ad n c) (hn : m.length = n) (hX : SrcAt f w ad m) (hone : ∀ u ∈ m.flatMap f, u.oneCell' = true) {N : Nat} (hN : l.length + n = N) (hsz : N ≤ maxLen) (hby : N * bytes ≤ 140737488355328) (hbase : base ≤ w.heap.size)
  (h : ∀ ad' c' w', OwnT f k e base w' (.slice ad' N c') (l ++ m) → w.grownBy w' v.ownBlock → Below base w w' → K (a.put o.dst (.slice ad' N c')) w') : o.wp Tryz.prog a w K Q := by
 subst hN
 obtain ⟨ad', c', w', hr, h2, h3, h4⟩ := run_appT hkf hk0 ht hi hzs base w o.type v l m hown ad n c hn hX hone hsz hby hbase
 unfold Oper.wp execOp
 simp only [ho, resolve, invoke, builtin, Sem.run_bind, Sem.run_pure, Result.andThen_ok, List.map_toArray, List.map_cons, List.map_nil, hs, hx, hr]
 exact h ad' c' w' h2 h3 h4
theorem wpList_appT (hkf : ∀ x, (f x).length = k) (hk0 : 0 < k) {t : TypeId} {z : Value} {bytes : Nat} (ht : Tryz.prog.underlying t = some (.slice e)) (hi : (Tryz.prog.info? e).map (fun i => (i.zero, i.size, i.bytes)) = some (some z, k, bytes)) (hzs : z.cells.size = k)
  {ops : Array Oper} {rest : List Oper} {o : Oper} {a : Act} {Q : Exit → Act → World → Prop} {w : World} (hgd : o.guard = none) (s x : Operand)
  (ho : o.op = .call { callee := .builtin .append, args := #[s, x], argTypes := #[t, t] }) (base : Nat) (v : Value) (l m : List α) (hs : a.eval s = v) (hown : OwnT f k e base w v l)
  (ad : Option Addr) (n c : Nat) (hx : a.eval x = .slice ad n c) (hn : m.length = n) (hX : SrcAt f w ad m) (hone : ∀ u ∈ m.flatMap f, u.oneCell' = true) {N : Nat} (hN : l.length + n = N) (hsz : N ≤ maxLen) (hby : N * bytes ≤ 140737488355328) (hbase : base ≤ w.heap.size)
  (h : ∀ ad' c' w', OwnT f k e base w' (.slice ad' N c') (l ++ m) → w.grownBy w' v.ownBlock → Below base w w' → wpList Tryz.prog ops Q rest (a.put o.dst (.slice ad' N c')) w') : wpList Tryz.prog ops Q (o :: rest) a w :=
 wpList_plain hgd fun _ hK => wp_appT hkf hk0 ht hi hzs s x ho base v l m hs hown ad n c hx hn hX hone hN hsz hby hbase fun ad' c' w' h2 h3 h4 => hK _ _ (h ad' c' w' h2 h3 h4)
theorem OwnT.cell (hkf : ∀ x, (f x).length = k) {base : Nat} {w : World} {ad : Option Addr} {n c : Nat} {l : List α} (d : α) (h : OwnT f k e base w (.slice ad n c) l) (hn : l.length = n) (hne : 0 < n) : ∃ g, ad = some ⟨g, 0, none⟩ ∧ base ≤ g ∧ ∀ i, i < n → ∀ j, j < k → w.cell? ⟨g, 0 + i * k + j, none⟩ = (f (l.getD i d))[j]? := by
 subst hn
 rcases h.2 with ⟨e, h0⟩ | ⟨g, cap, cur, e, hg, hh, hnc, hcm, hcs, ht⟩
 · exfalso
   omega
 · cases e
   refine ⟨g, rfl, hg, fun i hi j hj => ?_⟩
   rw [cell_block hh, Nat.zero_add, ← flat_get f k hkf d l i j hi hj, ← ht]
   have hlen : i * k + j < l.length * k := by
    have h := Nat.mul_le_mul_right k (show i + 1 ≤ l.length from hi)
    rw [Nat.add_mul] at h
    omega
   simp [hlen]
theorem items_of {P : Nat → α → Prop} [Inhabited α] {n : Nat} (h : ∀ i, i < n → ∃ x, P i x) : ∃ l : List α, l.length = n ∧ ∀ i, i < n → P i (l.getD i default) := by
 obtain ⟨Q, hQ⟩ := Go.Deep.choose_lt (α := α) h
 refine ⟨(List.range n).map Q, by simp, fun i hi => ?_⟩
 rw [show ((List.range n).map Q).getD i default = Q i by rw [List.getD_eq_getElem?_getD]; simp [hi]]
 exact hQ i hi
theorem srcAt_of (hkf : ∀ x, (f x).length = k) (d : α) {w : World} {ad : Option Addr} {l : List α} (h : ∀ i, i < l.length → ∃ g o, ad = some ⟨g, o, none⟩ ∧ ∀ j, j < k → w.cell? ⟨g, o + i * k + j, none⟩ = (f (l.getD i d))[j]?) : SrcAt f w ad l := fun j u hj => by
 have hlt := (List.getElem?_eq_some_iff.1 hj).1
 rw [flat_len hkf] at hlt
 have hk : 0 < k := by
  rcases Nat.eq_zero_or_pos k with e | e
  · rw [e] at hlt; omega
  · exact e
 have hi : j / k < l.length := Nat.div_lt_of_lt_mul (by rw [Nat.mul_comm]; exact hlt)
 obtain ⟨g, o, hg, hc⟩ := h (j / k) hi
 refine ⟨g, o, hg, ?_⟩
 have hm := Nat.mod_lt j hk
 have e := Nat.div_add_mod j k
 have e2 : j / k * k + j % k = j := by rw [Nat.mul_comm]; omega
 have h1 := hc (j % k) hm
 rw [← flat_get f k hkf d l (j / k) (j % k) hi hm, e2, hj, Nat.add_assoc, e2] at h1
 exact h1
end
end Go.Proofs.YtdmegkkifiahdaaGreat
namespace Go.Proofs.YtdmegkkifiahdaaGreat
open Go.RowKit
set_option linter.unusedVariables false
abbrev FItem := Feat × Value × Value
def noItem : FItem := (noFeat, .slice none 0 0, .slice none 0 0)
instance : Inhabited FItem := ⟨noItem⟩
def featCells (x : FItem) : List Value := [.int .i64 x.1.id, .int .i64 x.1.kind, .int .i64 x.1.x, .int .i64 x.1.y, .int .i64 x.1.rad, x.2.1, .int .i64 x.1.dep, .int .i64 x.1.sym, x.2.2]
theorem featCells_len (x : FItem) : (featCells x).length = 9 := rfl
def PartsAt (w : World) (f : Feat) (va vs : Value) : Prop := PtsAt w va f.area ∧ SecsAt w vs f.secs
theorem PartsAt.later {w w' : World} {f : Feat} {va vs : Value} (h : PartsAt w f va vs) (hb : Below w.heap.size w w') : PartsAt w' f va vs := ⟨Lists.later h.1 hb, Lists.later h.2 hb⟩
theorem PartsAt.zero (w : World) : PartsAt w noFeat (.slice none 0 0) (.slice none 0 0) :=
 ⟨⟨⟨none, 0, rfl, Nat.zero_le _, fun i hi => absurd hi (Nat.not_lt_zero i)⟩, fun _ _ _ e => by cases e; exact Nat.le_refl _⟩, ⟨⟨none, 0, rfl, Nat.zero_le _, fun i hi => absurd hi (Nat.not_lt_zero i)⟩, fun _ _ _ e => by cases e; exact Nat.le_refl _⟩⟩
theorem PartsAt.form {w : World} {f : Feat} {va vs : Value} (h : PartsAt w f va vs) : ∃ a c b d, va = .slice a f.area.length c ∧ vs = .slice b f.secs.length d := by
 obtain ⟨a, c, e1, _⟩ := Lists.form h.1
 obtain ⟨b, d, e2, _⟩ := Lists.form h.2
 exact ⟨a, c, b, d, e1, e2⟩
def Reads (w : World) (l : List FItem) : Prop := ∀ x ∈ l, PartsAt w x.1 x.2.1 x.2.2
theorem Reads.later {w w' : World} {l : List FItem} (h : Reads w l) (hb : Below w.heap.size w w') : Reads w' l := fun x hx => (h x hx).later hb
theorem Reads.append {w : World} {l m : List FItem} (h : Reads w l) (k : Reads w m) : Reads w (l ++ m) := fun x hx => by
 rw [List.mem_append] at hx
 exact hx.elim (h x) (k x)
theorem featCells_one {w : World} {x : FItem} (h : PartsAt w x.1 x.2.1 x.2.2) : ∀ u ∈ featCells x, u.oneCell' = true := by
 intro u hu
 obtain ⟨a, c, b, d, e1, e2⟩ := h.form
 simp only [featCells, List.mem_cons, List.not_mem_nil, or_false] at hu
 rw [e1, e2] at hu
 rcases hu with rfl | rfl | rfl | rfl | rfl | rfl | rfl | rfl | rfl <;> rfl
theorem items_one {w : World} {l : List FItem} (h : Reads w l) : ∀ u ∈ l.flatMap featCells, u.oneCell' = true := by
 intro u hu
 rw [List.mem_flatMap] at hu
 obtain ⟨x, hx, hu⟩ := hu
 exact featCells_one (h x hx) u hu
theorem info_feat : (Tryz.prog.info? 32).map (fun i => (i.zero, i.size, i.bytes)) = some (some (.agg #[.int .i64 0, .int .i64 0, .int .i64 0, .int .i64 0, .int .i64 0, .slice none 0 0, .int .i64 0, .int .i64 0, .slice none 0 0]), 9, 104) := by kernel_rfl
def OwnFs (base : Nat) (w0 w : World) (v : Value) (l : List Feat) : Prop := ∃ items : List FItem, items.map Prod.fst = l ∧ OwnT featCells 9 32 base w v items ∧ Reads w0 items
theorem OwnFs.form {base : Nat} {w0 w : World} {v : Value} {l : List Feat} (h : OwnFs base w0 w v l) : ∃ ad c, v = .slice ad l.length c := by
 obtain ⟨items, rfl, ho, _⟩ := h
 rw [List.length_map]
 exact OwnT.form ho
theorem OwnFs.keep {base : Nat} {w0 w w' : World} {v : Value} {l : List Feat} (h : OwnFs base w0 w v l) (hb : Below w.heap.size w w') : OwnFs base w0 w' v l := by
 obtain ⟨items, rfl, ho, hr⟩ := h
 exact ⟨items, rfl, own_keep ho hb, hr⟩
theorem OwnFs.nil (base : Nat) (w0 w : World) : OwnFs base w0 w (.slice none 0 0) [] := ⟨[], rfl, own_nil _ _ _ _, fun x hx => by simp at hx⟩
theorem featCells_at {w : World} {g o : Nat} {x : FItem} (hp : PartsAt w x.1 x.2.1 x.2.2) (h : ∀ j, j < 9 → w.cell? ⟨g, o + j, none⟩ = (featCells x)[j]?) : FeatCells w g o x.1 x.2.1 x.2.2 :=
 ⟨h 0 (by omega), h 1 (by omega), h 2 (by omega), h 3 (by omega), h 4 (by omega), h 5 (by omega), h 6 (by omega), h 7 (by omega), h 8 (by omega), hp.1, hp.2⟩
theorem FeatCells.at {w : World} {g o : Nat} {f : Feat} {va vs : Value} (h : FeatCells w g o f va vs) : ∀ j, j < 9 → w.cell? ⟨g, o + j, none⟩ = (featCells (f, va, vs))[j]? := fun j hj =>
 match j, hj with
 | 0, _ => h.c0
 | 1, _ => h.c1
 | 2, _ => h.c2
 | 3, _ => h.c3
 | 4, _ => h.c4
 | 5, _ => h.c5
 | 6, _ => h.c6
 | 7, _ => h.c7
 | 8, _ => h.c8
theorem fst_getD {α β : Type} {l : List (α × β)} {i : Nat} (hi : i < l.length) (d : α × β) (d' : α) : (l.map Prod.fst).getD i d' = (l.getD i d).1 := by
 rw [List.getD_eq_getElem?_getD, List.getD_eq_getElem?_getD, List.getElem?_map, List.getElem?_eq_getElem hi]
 rfl
theorem getD_memD {α : Type} {l : List α} {i : Nat} (hi : i < l.length) (d : α) : l.getD i d ∈ l := by
 rw [List.getD_eq_getElem?_getD, List.getElem?_eq_getElem hi]
 exact List.getElem_mem hi
theorem OwnFs.feats {base : Nat} {w0 w : World} {v : Value} {l : List Feat} (h : OwnFs base w0 w v l) (hb : Below w0.heap.size w0 w) (hl : l.length ≤ 9223372036854775807) : FeatsAt w v l := by
 obtain ⟨l, rfl, h, hp⟩ := h
 rw [List.length_map] at hl
 have hc := own_cap h
 obtain ⟨ad, c, rfl⟩ := OwnT.form h
 refine ⟨ad, c, by simp, ⟨by simpa using hl, by rw [List.length_map]; exact hc _ _ _ rfl⟩, fun i hi => ?_⟩
 rw [List.length_map] at hi
 obtain ⟨g, rfl, hg, hcell⟩ := OwnT.cell featCells_len noItem h rfl (by omega)
 refine ⟨g, 0, (l.getD i noItem).2.1, (l.getD i noItem).2.2, rfl, ?_⟩
 rw [fst_getD hi noItem]
 exact featCells_at ((hp _ (getD_memD hi noItem)).later hb) (fun j hj => hcell i hi j hj)
theorem getD_extD {α : Type} {l m : List α} (d : α) (hl : l.length = m.length) (h : ∀ i, i < l.length → l.getD i d = m.getD i d) : l = m := by
 apply List.ext_getElem hl
 intro i h1 h2
 have := h i h1
 rw [List.getD_eq_getElem?_getD, List.getD_eq_getElem?_getD, List.getElem?_eq_getElem h1, List.getElem?_eq_getElem h2] at this
 exact this
theorem feats_items {w : World} {ad : Option Addr} {n c : Nat} {l : List Feat} (h : FeatsAt w (.slice ad n c) l) : ∃ items : List FItem, items.map Prod.fst = l ∧ Reads w items ∧ SrcAt featCells w ad items := by
 obtain ⟨ad', c', e, hn, hc⟩ := h
 cases e
 obtain ⟨items, hlen, hI⟩ := items_of (α := FItem) (n := l.length) (P := fun i q => q.1 = l.getD i noFeat ∧ PartsAt w q.1 q.2.1 q.2.2 ∧ ∃ g o, ad = some ⟨g, o, none⟩ ∧ ∀ j, j < 9 → w.cell? ⟨g, o + i * 9 + j, none⟩ = (featCells q)[j]?) (fun i hi => by
  obtain ⟨g, o, va, vs, hg, h⟩ := hc i hi
  exact ⟨(l.getD i noFeat, va, vs), rfl, ⟨h.area, h.secs⟩, g, o, hg, h.at⟩)
 have e1 : items.map Prod.fst = l := getD_extD noFeat (by rw [List.length_map, hlen]) fun i hi => by
  rw [List.length_map] at hi
  rw [fst_getD hi default, (hI i (by omega)).1]
 refine ⟨items, e1, fun x hx => ?_, srcAt_of featCells_len default (fun i hi => (hI i (by omega)).2.2)⟩
 obtain ⟨i, hi, rfl⟩ := List.getElem_of_mem hx
 have h2 := (hI i (by omega)).2.1
 rw [List.getD_eq_getElem?_getD, List.getElem?_eq_getElem hi] at h2
 exact h2
abbrev OItem := Opn × Value × Value
def noOItem : OItem := (noOpn, .slice none 0 0, .slice none 0 0)
instance : Inhabited OItem := ⟨noOItem⟩
def opCells (x : OItem) : List Value := [.int .i64 x.1.kind, .int .i64 x.1.id, .int .i64 x.1.feat.id, .int .i64 x.1.feat.kind, .int .i64 x.1.feat.x, .int .i64 x.1.feat.y, .int .i64 x.1.feat.rad, x.2.1, .int .i64 x.1.feat.dep, .int .i64 x.1.feat.sym, x.2.2, .int .i64 x.1.x, .int .i64 x.1.y, .int .i64 x.1.rad, .int .i64 x.1.dep, .int .i64 x.1.sym]
@[reducible] def opV (p : Opn) (va vs : Value) : Value := .agg #[.int .i64 p.kind, .int .i64 p.id, .int .i64 p.feat.id, .int .i64 p.feat.kind, .int .i64 p.feat.x, .int .i64 p.feat.y, .int .i64 p.feat.rad, va, .int .i64 p.feat.dep, .int .i64 p.feat.sym, vs, .int .i64 p.x, .int .i64 p.y, .int .i64 p.rad, .int .i64 p.dep, .int .i64 p.sym]
theorem opCells_len (x : OItem) : (opCells x).length = 16 := rfl
structure OpCells (w : World) (g o : Nat) (p : Opn) (va vs : Value) : Prop where
 c0 : w.cell? ⟨g, o, none⟩ = some (.int .i64 p.kind)
 c1 : w.cell? ⟨g, o + 1, none⟩ = some (.int .i64 p.id)
 c2 : w.cell? ⟨g, o + 2, none⟩ = some (.int .i64 p.feat.id)
 c3 : w.cell? ⟨g, o + 3, none⟩ = some (.int .i64 p.feat.kind)
 c4 : w.cell? ⟨g, o + 4, none⟩ = some (.int .i64 p.feat.x)
 c5 : w.cell? ⟨g, o + 5, none⟩ = some (.int .i64 p.feat.y)
 c6 : w.cell? ⟨g, o + 6, none⟩ = some (.int .i64 p.feat.rad)
 c7 : w.cell? ⟨g, o + 7, none⟩ = some va
 c8 : w.cell? ⟨g, o + 8, none⟩ = some (.int .i64 p.feat.dep)
 c9 : w.cell? ⟨g, o + 9, none⟩ = some (.int .i64 p.feat.sym)
 c10 : w.cell? ⟨g, o + 10, none⟩ = some vs
 c11 : w.cell? ⟨g, o + 11, none⟩ = some (.int .i64 p.x)
 c12 : w.cell? ⟨g, o + 12, none⟩ = some (.int .i64 p.y)
 c13 : w.cell? ⟨g, o + 13, none⟩ = some (.int .i64 p.rad)
 c14 : w.cell? ⟨g, o + 14, none⟩ = some (.int .i64 p.dep)
 c15 : w.cell? ⟨g, o + 15, none⟩ = some (.int .i64 p.sym)
 parts : PartsAt w p.feat va vs
theorem OpCells.later {w w' : World} {g o : Nat} {p : Opn} {va vs : Value} (h : OpCells w g o p va vs) (hb : Below w.heap.size w w') : OpCells w' g o p va vs :=
 ⟨cell_later hb h.c0, cell_later hb h.c1, cell_later hb h.c2, cell_later hb h.c3, cell_later hb h.c4, cell_later hb h.c5, cell_later hb h.c6, cell_later hb h.c7, cell_later hb h.c8, cell_later hb h.c9, cell_later hb h.c10, cell_later hb h.c11, cell_later hb h.c12, cell_later hb h.c13, cell_later hb h.c14, cell_later hb h.c15, h.parts.later hb⟩
theorem OpCells.at {w : World} {g o : Nat} {p : Opn} {va vs : Value} (h : OpCells w g o p va vs) : ∀ j, j < 16 → w.cell? ⟨g, o + j, none⟩ = (opCells (p, va, vs))[j]? := fun j hj =>
 match j, hj with
 | 0, _ => h.c0
 | 1, _ => h.c1
 | 2, _ => h.c2
 | 3, _ => h.c3
 | 4, _ => h.c4
 | 5, _ => h.c5
 | 6, _ => h.c6
 | 7, _ => h.c7
 | 8, _ => h.c8
 | 9, _ => h.c9
 | 10, _ => h.c10
 | 11, _ => h.c11
 | 12, _ => h.c12
 | 13, _ => h.c13
 | 14, _ => h.c14
 | 15, _ => h.c15
 | j + 16, hj => absurd hj (by omega)
theorem opCells_at {w : World} {g o : Nat} {x : OItem} (hp : PartsAt w x.1.feat x.2.1 x.2.2) (h : ∀ j, j < 16 → w.cell? ⟨g, o + j, none⟩ = (opCells x)[j]?) : OpCells w g o x.1 x.2.1 x.2.2 :=
 ⟨h 0 (by omega), h 1 (by omega), h 2 (by omega), h 3 (by omega), h 4 (by omega), h 5 (by omega), h 6 (by omega), h 7 (by omega), h 8 (by omega), h 9 (by omega), h 10 (by omega), h 11 (by omega), h 12 (by omega), h 13 (by omega), h 14 (by omega), h 15 (by omega), hp⟩
theorem opCells_one {w : World} {x : OItem} (h : PartsAt w x.1.feat x.2.1 x.2.2) : ∀ u ∈ opCells x, u.oneCell' = true := by
 intro u hu
 obtain ⟨a, c, b, d, e1, e2⟩ := h.form
 simp only [opCells, List.mem_cons, List.not_mem_nil, or_false] at hu
 rw [e1, e2] at hu
 rcases hu with rfl | rfl | rfl | rfl | rfl | rfl | rfl | rfl | rfl | rfl | rfl | rfl | rfl | rfl | rfl | rfl <;> rfl
def OpsAt (w : World) (v : Value) (l : List Opn) : Prop :=
 ∃ ad c, v = .slice ad l.length c ∧ (l.length ≤ 9223372036854775807 ∧ l.length ≤ c) ∧ ∀ i, i < l.length → ∃ g o va vs, ad = some ⟨g, o, none⟩ ∧ OpCells w g (o + i * 16) (l.getD i noOpn) va vs
theorem OpsAt.later {w w' : World} {v : Value} {l : List Opn} (h : OpsAt w v l) (hb : Below w.heap.size w w') : OpsAt w' v l := by
 obtain ⟨ad, c, hv, hn, hc⟩ := h
 exact ⟨ad, c, hv, hn, fun i hi => by obtain ⟨g, o, va, vs, hg, h⟩ := hc i hi; exact ⟨g, o, va, vs, hg, h.later hb⟩⟩
theorem OpsAt.row {w : World} {ad : Option Addr} {c n : Nat} {l : List Opn} (h : OpsAt w (.slice ad n c) l) {i : Nat} (hi : i < n) : ∃ g o va vs, ad = some ⟨g, o, none⟩ ∧ OpCells w g (o + i * 16) (l.getD i noOpn) va vs := by
 obtain ⟨ad', c', e, _, hc⟩ := h
 cases e
 exact hc i hi
theorem OpsAt.form {w : World} {v : Value} {l : List Opn} (h : OpsAt w v l) : ∃ ad c, v = .slice ad l.length c ∧ OpsAt w (.slice ad l.length c) l ∧ l.length ≤ 9223372036854775807 ∧ l.length ≤ c := by
 obtain ⟨ad, c, rfl, hn, hc⟩ := h
 exact ⟨ad, c, rfl, ⟨ad, c, rfl, hn, hc⟩, hn.1, hn.2⟩
theorem ops_nil (w : World) : OpsAt w (.slice none 0 0) [] := ⟨none, 0, rfl, ⟨by simp, by simp⟩, fun i hi => absurd hi (Nat.not_lt_zero i)⟩
def OReads (w : World) (l : List OItem) : Prop := ∀ x ∈ l, PartsAt w x.1.feat x.2.1 x.2.2
theorem OReads.later {w w' : World} {l : List OItem} (h : OReads w l) (hb : Below w.heap.size w w') : OReads w' l := fun x hx => (h x hx).later hb
theorem OReads.append {w : World} {l m : List OItem} (h : OReads w l) (k : OReads w m) : OReads w (l ++ m) := fun x hx => by
 rw [List.mem_append] at hx
 exact hx.elim (h x) (k x)
theorem oitems_one {w : World} {l : List OItem} (h : OReads w l) : ∀ u ∈ l.flatMap opCells, u.oneCell' = true := by
 intro u hu
 rw [List.mem_flatMap] at hu
 obtain ⟨x, hx, hu⟩ := hu
 exact opCells_one (h x hx) u hu
theorem info_op : (Tryz.prog.info? 34).map (fun i => (i.zero, i.size, i.bytes)) = some (some (opV noOpn (.slice none 0 0) (.slice none 0 0)), 16, 160) := by kernel_rfl
def OwnOs (base : Nat) (w0 w : World) (v : Value) (l : List Opn) : Prop := ∃ items : List OItem, items.map Prod.fst = l ∧ OwnT opCells 16 34 base w v items ∧ OReads w0 items
theorem OwnOs.form {base : Nat} {w0 w : World} {v : Value} {l : List Opn} (h : OwnOs base w0 w v l) : ∃ ad c, v = .slice ad l.length c := by
 obtain ⟨items, rfl, ho, _⟩ := h
 rw [List.length_map]
 exact OwnT.form ho
theorem OwnOs.keep {base : Nat} {w0 w w' : World} {v : Value} {l : List Opn} (h : OwnOs base w0 w v l) (hb : Below w.heap.size w w') : OwnOs base w0 w' v l := by
 obtain ⟨items, rfl, ho, hr⟩ := h
 exact ⟨items, rfl, own_keep ho hb, hr⟩
theorem OwnOs.nil (base : Nat) (w0 w : World) : OwnOs base w0 w (.slice none 0 0) [] := ⟨[], rfl, own_nil _ _ _ _, fun x hx => by simp at hx⟩
theorem OwnOs.ops {base : Nat} {w0 w : World} {v : Value} {l : List Opn} (h : OwnOs base w0 w v l) (hb : Below w0.heap.size w0 w) (hl : l.length ≤ 9223372036854775807) : OpsAt w v l := by
 obtain ⟨l, rfl, h, hp⟩ := h
 rw [List.length_map] at hl
 have hc := own_cap h
 obtain ⟨ad, c, rfl⟩ := OwnT.form h
 refine ⟨ad, c, by simp, ⟨by simpa using hl, by rw [List.length_map]; exact hc _ _ _ rfl⟩, fun i hi => ?_⟩
 rw [List.length_map] at hi
 obtain ⟨g, rfl, hg, hcell⟩ := OwnT.cell opCells_len noOItem h rfl (by omega)
 refine ⟨g, 0, (l.getD i noOItem).2.1, (l.getD i noOItem).2.2, rfl, ?_⟩
 rw [fst_getD hi noOItem]
 exact opCells_at ((hp _ (getD_memD hi noOItem)).later hb) (fun j hj => hcell i hi j hj)
theorem ops_items {w : World} {ad : Option Addr} {n c : Nat} {l : List Opn} (h : OpsAt w (.slice ad n c) l) : ∃ items : List OItem, items.map Prod.fst = l ∧ OReads w items ∧ SrcAt opCells w ad items := by
 obtain ⟨ad', c', e, hn, hc⟩ := h
 cases e
 obtain ⟨items, hlen, hI⟩ := items_of (α := OItem) (n := l.length) (P := fun i q => q.1 = l.getD i noOpn ∧ PartsAt w q.1.feat q.2.1 q.2.2 ∧ ∃ g o, ad = some ⟨g, o, none⟩ ∧ ∀ j, j < 16 → w.cell? ⟨g, o + i * 16 + j, none⟩ = (opCells q)[j]?) (fun i hi => by
  obtain ⟨g, o, va, vs, hg, h⟩ := hc i hi
  exact ⟨(l.getD i noOpn, va, vs), rfl, h.parts, g, o, hg, h.at⟩)
 have e1 : items.map Prod.fst = l := getD_extD noOpn (by rw [List.length_map, hlen]) fun i hi => by
  rw [List.length_map] at hi
  rw [fst_getD hi default, (hI i (by omega)).1]
 refine ⟨items, e1, fun x hx => ?_, srcAt_of opCells_len default (fun i hi => (hI i (by omega)).2.2)⟩
 obtain ⟨i, hi, rfl⟩ := List.getElem_of_mem hx
 have h2 := (hI i (by omega)).2.1
 rw [List.getD_eq_getElem?_getD, List.getElem?_eq_getElem hi] at h2
 exact h2
theorem wp_appO {o : Oper} {a : Act} {K : Act → World → Prop} {Q : Exit → Act → World → Prop} {w : World} (s x : Operand)
  (ho : o.op = .call { callee := .builtin .append, args := #[s, x], argTypes := #[23, 23] }) (base : Nat) (w0 : World) (v : Value) (l m : List Opn) (hs : a.eval s = v) (hown : OwnOs base w0 w v l)
  (ad : Option Addr) (n c : Nat) (hx : a.eval x = .slice ad n c) (items : List OItem) (hm : items.map Prod.fst = m) (hn : m.length = n) (hr : OReads w0 items) (hX : SrcAt opCells w ad items) {N : Nat} (hN : l.length + n = N) (hsz : N ≤ 800000000000) (hbase : base ≤ w.heap.size)
  (h : ∀ ad' c' w', OwnOs base w0 w' (.slice ad' N c') (l ++ m) → w.grownBy w' v.ownBlock → Below base w w' → K (a.put o.dst (.slice ad' N c')) w') : o.wp Tryz.prog a w K Q := by
 obtain ⟨is, rfl, how, hro⟩ := hown
 subst hm
 rw [List.length_map] at hn hN
 exact wp_appT opCells_len (by omega) Tryz.underlying23 info_op rfl s x ho base v is items hs how ad n c hx hn hX (oitems_one hr) hN (by unfold maxLen; omega) (by omega) hbase fun ad' c' w' h1 h2 h3 =>
  h ad' c' w' ⟨is ++ items, by rw [List.map_append], h1, hro.append hr⟩ h2 h3
theorem wpList_appO {ops : Array Oper} {rest : List Oper} {o : Oper} {a : Act} {Q : Exit → Act → World → Prop} {w : World} (hgd : o.guard = none) (s x : Operand)
  (ho : o.op = .call { callee := .builtin .append, args := #[s, x], argTypes := #[23, 23] }) (base : Nat) (w0 : World) (v : Value) (l m : List Opn) (hs : a.eval s = v) (hown : OwnOs base w0 w v l)
  (ad : Option Addr) (n c : Nat) (hx : a.eval x = .slice ad n c) (items : List OItem) (hm : items.map Prod.fst = m) (hn : m.length = n) (hr : OReads w0 items) (hX : SrcAt opCells w ad items) {N : Nat} (hN : l.length + n = N) (hsz : N ≤ 800000000000) (hbase : base ≤ w.heap.size)
  (h : ∀ ad' c' w', OwnOs base w0 w' (.slice ad' N c') (l ++ m) → w.grownBy w' v.ownBlock → Below base w w' → wpList Tryz.prog ops Q rest (a.put o.dst (.slice ad' N c')) w') : wpList Tryz.prog ops Q (o :: rest) a w :=
 wpList_plain hgd fun _ hK => wp_appO s x ho base w0 v l m hs hown ad n c hx items hm hn hr hX hN hsz hbase fun ad' c' w' h2 h3 h4 => hK _ _ (h ad' c' w' h2 h3 h4)
theorem wp_appF {o : Oper} {a : Act} {K : Act → World → Prop} {Q : Exit → Act → World → Prop} {w : World} (s x : Operand)
  (ho : o.op = .call { callee := .builtin .append, args := #[s, x], argTypes := #[22, 22] }) (base : Nat) (w0 : World) (v : Value) (l m : List Feat) (hs : a.eval s = v) (hown : OwnFs base w0 w v l)
  (ad : Option Addr) (n c : Nat) (hx : a.eval x = .slice ad n c) (items : List FItem) (hm : items.map Prod.fst = m) (hn : m.length = n) (hr : Reads w0 items) (hX : SrcAt featCells w ad items) {N : Nat} (hN : l.length + n = N) (hsz : N ≤ 800000000000) (hbase : base ≤ w.heap.size)
  (h : ∀ ad' c' w', OwnFs base w0 w' (.slice ad' N c') (l ++ m) → w.grownBy w' v.ownBlock → Below base w w' → K (a.put o.dst (.slice ad' N c')) w') : o.wp Tryz.prog a w K Q := by
 obtain ⟨is, rfl, how, hro⟩ := hown
 subst hm
 rw [List.length_map] at hn hN
 exact wp_appT featCells_len (by omega) Tryz.underlying22 info_feat rfl s x ho base v is items hs how ad n c hx hn hX (items_one hr) hN (by unfold maxLen; omega) (by omega) hbase fun ad' c' w' h1 h2 h3 =>
  h ad' c' w' ⟨is ++ items, by rw [List.map_append], h1, hro.append hr⟩ h2 h3
theorem wpList_appF {ops : Array Oper} {rest : List Oper} {o : Oper} {a : Act} {Q : Exit → Act → World → Prop} {w : World} (hgd : o.guard = none) (s x : Operand)
  (ho : o.op = .call { callee := .builtin .append, args := #[s, x], argTypes := #[22, 22] }) (base : Nat) (w0 : World) (v : Value) (l m : List Feat) (hs : a.eval s = v) (hown : OwnFs base w0 w v l)
  (ad : Option Addr) (n c : Nat) (hx : a.eval x = .slice ad n c) (items : List FItem) (hm : items.map Prod.fst = m) (hn : m.length = n) (hr : Reads w0 items) (hX : SrcAt featCells w ad items) {N : Nat} (hN : l.length + n = N) (hsz : N ≤ 800000000000) (hbase : base ≤ w.heap.size)
  (h : ∀ ad' c' w', OwnFs base w0 w' (.slice ad' N c') (l ++ m) → w.grownBy w' v.ownBlock → Below base w w' → wpList Tryz.prog ops Q rest (a.put o.dst (.slice ad' N c')) w') : wpList Tryz.prog ops Q (o :: rest) a w :=
 wpList_plain hgd fun _ hK => wp_appF s x ho base w0 v l m hs hown ad n c hx items hm hn hr hX hN hsz hbase fun ad' c' w' h2 h3 h4 => hK _ _ (h ad' c' w' h2 h3 h4)
end Go.Proofs.YtdmegkkifiahdaaGreat
namespace Go.Proofs.YtdmegkkifiahdaaGreat
open Go.RowKit Go.Sort Go.Shelf
set_option linter.unusedVariables false
theorem ite_of {c : Prop} [Decidable c] {A B : Prop} (hc : c) (h : A) : if c then A else B := by rw [if_pos hc]; exact h
theorem wanted_plain {o : Oper} {ys : Nat → Option Bool} (hg : o.guard = none) : Region.wanted o ys = true := by simp [Region.wanted, hg]
theorem body_named {P : Program} {f : Func} {Q : Ending → World → Prop} {e : Exit} {a : Act} {w : World} (h : ∀ W, W = w → bodyPost P f Q e a W) : bodyPost P f Q e a w := h _ rfl
def KeepB (W : World) (B : Nat) (bs : List Nat) (w : World) : Prop := Below B W w ∧ ∀ b ∈ bs, w.heap[b]? = W.heap[b]?
theorem KeepB.refl {W : World} {B : Nat} {bs : List Nat} : KeepB W B bs W.drew := ⟨(Below.refl _ _).drew, fun b _ => rfl⟩
theorem KeepB.setCell {W w : World} {B g i : Nat} {bs : List Nat} (h : KeepB W B bs w) (hg : B ≤ g) (hb : g ∉ bs) (v : Value) : KeepB W B bs (w.setCell ⟨g, i, none⟩ v) :=
 ⟨h.1.setCell (p := ⟨g, i, none⟩) hg v, fun b hm => (Below.heap_setCell _ _ _ _ (show b ≠ g from fun e => hb (e ▸ hm))).trans (h.2 b hm)⟩
theorem KeepB.setRow {W w : World} {B g : Nat} {bs : List Nat} (h : KeepB W B bs w) (hg : B ≤ g) (hb : g ∉ bs) (cs : Array Value) : KeepB W B bs (w.setRow g cs) :=
 ⟨below_setRow h.1 hg cs, fun b hm => (setRow_other _ _ _ _ (fun e => hb (by rw [← e]; exact hm))).trans (h.2 b hm)⟩
theorem KeepB.at {W w : World} {B b : Nat} {bs : List Nat} {o : Obj} (h : KeepB W B bs w) (hb : b ∈ bs) (p : W.heap[b]? = some o) : w.heap[b]? = some o := (h.2 b hb).trans p
section
variable {P : Program} {ops : Array Oper} {S : World → Prop} {Q : Exit → Act → World → Prop}
theorem ws_load {b : Nat} {p : Plan} {l rest : List Oper} {o : Oper} {a : Act} {w : World} (hb : bring b l = o :: rest) (hgd : o.guard = none) (ty : TypeId) (x : Operand) (ho : o.op = .load ty x)
  (g : Nat) (hx : a.eval x = .pointer (some ⟨g, 0, none⟩)) (t : TypeId) (cs : Array Value) (fr : Nat × Nat) (d : TypeDesc) (hS : ∀ w, S w → w.heap[g]? = some (.cells cs t fr))
  (hu : P.underlying ty = some d) (hd : (match d with | .struct _ | .array _ _ => true | _ => false) = true) (hi : (P.info? ty).map (·.size) = some cs.size)
  (h : wsPlan P ops S Q p rest (a.put o.dst (.agg cs)) w) : wsPlan P ops S Q (.take b p) l a w := by
 refine wsPlan_take hb fun K hK => ?_
 rw [if_pos (wanted_plain hgd)]
 refine ⟨.agg cs, fun w' hw' => ?_, hK _ h⟩
 unfold execOp
 simp only [ho, hx, Instr.loadAt, Instr.sureAddr, Sem.run_bind, Sem.run_pure, Result.andThen_ok, run_loadVar_row w' g t ty cs fr d (hS w' hw') hu hd hi]
 exact ⟨rfl, rfl⟩
theorem ws_store {b : Nat} {p : Plan} {l rest : List Oper} {o : Oper} {a : Act} {w : World} (hb : bring b l = o :: rest) (hgd : o.guard = none) (ty : TypeId) (x y : Operand) (ho : o.op = .store ty x y)
  (g : Nat) (cells : Array Value) (hx : a.eval x = .pointer (some ⟨g, 0, none⟩)) (hy : a.eval y = .agg cells)
  (t : TypeId) (old : Array Value) (hg : w.heap[g]? = some (.cells old t (0, 0))) (hi : (P.info? ty).map (·.size) = some cells.size)
  (hold : old.size = cells.size) (h1 : cells.all (·.oneCell') = true) (hS : S (w.setRow g cells))
  (h : wsPlan P ops S Q p rest (a.put o.dst undef) (w.setRow g cells)) : wsPlan P ops S Q (.only b p) l a w := by
 refine wsPlan_only hb fun K hK => ?_
 rw [if_pos (wanted_plain hgd)]
 exact wp_store_row ty x y ho g cells hx hy t old hg hi hold h1 (hK _ _ hS fun _ => h)
theorem ws_assign {b : Nat} {p : Plan} {l rest : List Oper} {o : Oper} {a : Act} {w : World} (hb : bring b l = o :: rest) (hgd : o.guard = none) (x : Operand) (ho : o.op = .assign x) (v : Value) (hx : a.eval x = v)
  (h : wsPlan P ops S Q p rest (a.put o.dst v) w) : wsPlan P ops S Q (.take b p) l a w := by
 subst hx
 refine wsPlan_take hb fun K hK => ?_
 rw [if_pos (wanted_plain hgd)]
 refine ⟨_, fun w' hw' => ?_, hK _ h⟩
 unfold execOp
 rw [ho]
 exact ⟨rfl, rfl⟩
end
section
variable {P : Program} {ops : Array Oper} {W : World} {Q : Exit → Act → World → Prop}
theorem wp_loadP {b : Nat} {p : Plan} {l rest : List Oper} {o : Oper} {a : Act} {w : World} (hb : bring b l = o :: rest) (hwt : Region.wanted o (yielded ops a.tmps) = true) (ty : TypeId) (x : Operand) (ho : o.op = .load ty x)
  (g : Nat) (hx : a.eval x = .pointer (some ⟨g, 0, none⟩)) (t : TypeId) (cs : Array Value) (fr : Nat × Nat) (d : TypeDesc) (hS : W.heap[g]? = some (.cells cs t fr))
  (hu : P.underlying ty = some d) (hd : (match d with | .struct _ | .array _ _ => true | _ => false) = true) (hi : (P.info? ty).map (·.size) = some cs.size)
  (h : wpPlan P ops W Q p rest (a.put o.dst (.agg cs)) w) : wpPlan P ops W Q (.take b p) l a w := by
 refine wpPlan_take hb fun K hK => ?_
 rw [if_pos hwt]
 refine ⟨.agg cs, fun p => ?_, hK _ h⟩
 unfold execOp
 simp only [ho, hx, Instr.loadAt, Instr.sureAddr, Sem.run_bind, Sem.run_pure, Result.andThen_ok, run_loadVar_row _ g t ty cs fr d (block_later (below_regrown W p.d p.os) hS) hu hd hi]
 exact ⟨rfl, rfl⟩
end
theorem results_cct {P : Program} {fn : Func} {p1 p2 p3 : Tmp} {t1 t2 : TypeId} (h : fn.results = #[.cell p1 t1, .cell p2 t2, .tmp p3]) (tmps : Array Value) (w : World) (g1 g2 : Nat) (c1 c2 : Array Value) (u1 u2 : TypeId) (f1 f2 : Nat × Nat) (d1 d2 : TypeDesc) (v : Value)
  (hp1 : tmps.getD p1 undef = .pointer (some ⟨g1, 0, none⟩)) (hp2 : tmps.getD p2 undef = .pointer (some ⟨g2, 0, none⟩)) (hv : tmps.getD p3 undef = v)
  (hg1 : w.heap[g1]? = some (.cells c1 u1 f1)) (hg2 : w.heap[g2]? = some (.cells c2 u2 f2))
  (hu1 : P.underlying t1 = some d1) (hd1 : (match d1 with | .struct _ | .array _ _ => true | _ => false) = true) (hi1 : (P.info? t1).map (·.size) = some c1.size)
  (hu2 : P.underlying t2 = some d2) (hd2 : (match d2 with | .struct _ | .array _ _ => true | _ => false) = true) (hi2 : (P.info? t2).map (·.size) = some c2.size) :
  (results fn tmps).run P w = .ok (.tuple #[.agg c1, .agg c2, v]) w := by
 have q1 : tmps[p1]?.getD undef = .pointer (some ⟨g1, 0, none⟩) := by simpa using hp1
 have q2 : tmps[p2]?.getD undef = .pointer (some ⟨g2, 0, none⟩) := by simpa using hp2
 have q3 : tmps[p3]?.getD undef = v := by simpa using hv
 simp [results, h, q1, q2, q3, asAddr, run_loadVar_row w g1 u1 t1 c1 f1 d1 hg1 hu1 hd1 hi1, run_loadVar_row w g2 u2 t2 c2 f2 d2 hg2 hu2 hd2 hi2]
theorem results_ct {P : Program} {fn : Func} {p1 p3 : Tmp} {t1 : TypeId} (h : fn.results = #[.cell p1 t1, .tmp p3]) (tmps : Array Value) (w : World) (g1 : Nat) (c1 : Array Value) (u1 : TypeId) (f1 : Nat × Nat) (d1 : TypeDesc) (v : Value)
  (hp1 : tmps.getD p1 undef = .pointer (some ⟨g1, 0, none⟩)) (hv : tmps.getD p3 undef = v) (hg1 : w.heap[g1]? = some (.cells c1 u1 f1))
  (hu1 : P.underlying t1 = some d1) (hd1 : (match d1 with | .struct _ | .array _ _ => true | _ => false) = true) (hi1 : (P.info? t1).map (·.size) = some c1.size) :
  (results fn tmps).run P w = .ok (.tuple #[.agg c1, v]) w := by
 have q1 : tmps[p1]?.getD undef = .pointer (some ⟨g1, 0, none⟩) := by simpa using hp1
 have q3 : tmps[p3]?.getD undef = v := by simpa using hv
 simp [results, h, q1, q3, asAddr, run_loadVar_row w g1 u1 t1 c1 f1 d1 hg1 hu1 hd1 hi1]
end Go.Proofs.YtdmegkkifiahdaaGreat
namespace Go.Proofs.YtdmegkkifiahdaaGreat
open Go.RowKit Go.Maps
set_option linter.unusedVariables false
@[reducible] def keyI (id : Int) : Lit := .int .i64 id
def heldV (v : Value) : Option (DataW Value × List MemPlace) := some (.held v, [])
theorem intKeyed : Keyed Tryz.prog 3 := int_keyed Tryz.underlying3
theorem key_of {a : Int} (h : (Lit.int .i64 a).wf = true) : keyOf Tryz.prog 3 (.int .i64 a) = some (keyI a) := keyOf_int_mk Tryz.underlying3 h
theorem wf_id {a : Int} (h1 : -1000000000 ≤ a) (h2 : a ≤ 1000000000) : (Lit.int .i64 a).wf = true := by
 simp [Lit.wf, IntKind.min, IntKind.max, IntKind.bits, IntKind.signed]
 omega
theorem keyI_lit (a : Int) : WideAt.IsKeyLit (keyI a) := trivial
theorem keyI_inj {a b : Int} (h : keyI a = keyI b) : a = b := by cases h; rfl
section
variable {k : TypeId} {R : Value → Option (DataW Value × List MemPlace)} {w : World} {b n : Nat} {D : DataW Value}
theorem map_tight (h : w.ownsMap Tryz.prog k R b n D) : w.ownsMap Tryz.prog k R b (Maps.size D) D := by
 obtain ⟨es, clock, hb, F, hs, rfl⟩ := h
 refine ⟨es, clock, hb, F, ?_, rfl⟩
 simp [Maps.size, length_sorted]
end
structure ShM (w0 w : World) (b : Nat) (l : List Feat) : Prop where
 up : idsUp l
 map : ∃ D : DataW Value, w.ownsMap Tryz.prog 3 heldV b l.length D ∧ Maps.size D = l.length ∧ (∀ kl, Maps.has D kl = true → ∃ f ∈ l, kl = keyI f.id) ∧ ∀ f ∈ l, ∃ va vs, Maps.has D (keyI f.id) = true ∧ (∀ z, D.atKey (keyI f.id) z = .held (featV f va vs)) ∧ PartsAt w0 f va vs
theorem ShM.lt {w0 w : World} {b : Nat} {l : List Feat} (h : ShM w0 w b l) : b < w.heap.size := by
 obtain ⟨_, D, ho, _⟩ := h
 exact ho.lt
theorem ShM.grown {w0 w w' : World} {b : Nat} {l : List Feat} {row : Option Nat} (h : ShM w0 w b l) (hg : w.grownBy w' row) (hne : row ≠ some b) : ShM w0 w' b l := by
 obtain ⟨hu, D, ho, hr⟩ := h
 exact ⟨hu, D, ho.kept hg (fun e => hne e.symm), hr⟩
theorem ShM.alloc {w0 w : World} {b : Nat} {l : List Feat} (h : ShM w0 w b l) (o : Obj) : ShM w0 (w.alloc o) b l := by
 obtain ⟨hu, D, ho, hr⟩ := h
 exact ⟨hu, D, ho.alloc o, hr⟩
theorem ShM.drew {w0 w : World} {b : Nat} {l : List Feat} (h : ShM w0 w b l) : ShM w0 w.drew b l := by
 obtain ⟨hu, D, ho, hr⟩ := h
 exact ⟨hu, D, ho.drew, hr⟩
theorem ShM.below {w0 w w' : World} {b : Nat} {l : List Feat} (h : ShM w0 w b l) (hb : Below w.heap.size w w') : ShM w0 w' b l := by
 have hlt := h.lt
 obtain ⟨hu, D, ⟨es, clock, hh, r⟩, hr⟩ := h
 exact ⟨hu, D, ⟨es, clock, block_later hb hh, r⟩, hr⟩
theorem ShM.put {w0 w : World} {b g i : Nat} {l : List Feat} (h : ShM w0 w b l) (hne : b ≠ g) (x : Value) : ShM w0 (w.setCell ⟨g, i, none⟩ x) b l := by
 obtain ⟨hu, D, ho, hr⟩ := h
 exact ⟨hu, D, ho.setCell hne x, hr⟩
theorem ShM.made (w0 w : World) : ShM w0 (w.alloc (.map #[] 0)) w.heap.size [] :=
 ⟨List.Pairwise.nil, .map [], World.ownsMap_made w _ _ _, rfl, fun kl h => by simp [Maps.has] at h, fun f hf => by simp at hf⟩
theorem zero_feat (w : World) : (zeroValue 32).run Tryz.prog w = .ok (featV noFeat (.slice none 0 0) (.slice none 0 0)) w := by kernel_rfl
theorem sh_has {w0 w : World} {b : Nat} {l : List Feat} {D : DataW Value} (hu : idsUp l) (h1 : ∀ kl, Maps.has D kl = true → ∃ f ∈ l, kl = keyI f.id) (h2 : ∀ f ∈ l, ∃ va vs, Maps.has D (keyI f.id) = true ∧ (∀ z, D.atKey (keyI f.id) z = .held (featV f va vs)) ∧ PartsAt w0 f va vs) (id : Int) : Maps.has D (keyI id) = (look l id).isSome := by
 cases h : look l id with
 | none =>
   cases hh : Maps.has D (keyI id) with
   | false => rfl
   | true =>
     obtain ⟨f, hf, e⟩ := h1 _ hh
     have := keyI_inj e
     subst this
     rw [look_mem hu hf] at h
     cases h
 | some f =>
   obtain ⟨hf, rfl⟩ := look_some h
   obtain ⟨va, vs, hh, _⟩ := h2 f hf
   exact hh
def LookV (w0 : World) (l : List Feat) (id : Int) (v : Value) : Prop := (∀ f, look l id = some f → ∃ va vs, v = featV f va vs ∧ PartsAt w0 f va vs) ∧ (look l id = none → v = featV noFeat (.slice none 0 0) (.slice none 0 0))
theorem LookV.one {w0 : World} {l : List Feat} {id : Int} {v : Value} (h : LookV w0 l id v) : ∃ f va vs, v = featV f va vs ∧ PartsAt w0 f va vs ∧ f = (look l id).getD noFeat := by
 cases e : look l id with
 | none => exact ⟨noFeat, _, _, h.2 e, PartsAt.zero w0, rfl⟩
 | some f =>
   obtain ⟨va, vs, h1, h2⟩ := h.1 f e
   exact ⟨f, va, vs, h1, h2, rfl⟩
theorem sh_look {w0 w : World} {b : Nat} {l : List Feat} (h : ShM w0 w b l) {t : TypeId} (ht : Tryz.prog.underlying t = some (.map 3 32)) {id : Int} (hw : (Lit.int .i64 id).wf = true) :
  (∃ v, (Instr.lookup t (.map (some b)) (.int .i64 id) true).run Tryz.prog w = .ok (.tuple #[v, .bool (look l id).isSome]) w ∧ LookV w0 l id v) ∧ ∃ v, (Instr.lookup t (.map (some b)) (.int .i64 id) false).run Tryz.prog w = .ok v w ∧ LookV w0 l id v := by
 obtain ⟨hu, D, ho, hs, h1, h2⟩ := h
 have key : ∀ v, DataW.held v = D.atKey (keyI id) (.held (featV noFeat (.slice none 0 0) (.slice none 0 0))) → LookV w0 l id v := by
  intro v hv
  refine ⟨fun f hf => ?_, fun hn => ?_⟩
  · obtain ⟨hm, rfl⟩ := look_some hf
    obtain ⟨va, vs, _, hat, hp⟩ := h2 f hm
    rw [hat] at hv
    cases hv
    exact ⟨va, vs, rfl, hp⟩
  · have hh : Maps.has D (keyI id) = false := by rw [sh_has (w0 := w0) (w := w) (b := b) hu h1 h2, hn]; rfl
    rw [atKey_of_not_has hh] at hv
    cases hv
    rfl
 obtain ⟨v, ps, hrun, hv⟩ := ho.look_ok intKeyed ht (zero_feat w) rfl (key_of hw)
 obtain ⟨v', ps', hrun', hv'⟩ := ho.lookup intKeyed ht (zero_feat w) rfl (key_of hw)
 refine ⟨⟨v, ?_, key v ?_⟩, v', hrun', key v' ?_⟩
 · rw [hrun, sh_has (w0 := w0) (w := w) (b := b) hu h1 h2]
 · simp only [heldV, Option.some.injEq, Prod.mk.injEq] at hv
   exact hv.1
 · simp only [heldV, Option.some.injEq, Prod.mk.injEq] at hv'
   exact hv'.1
theorem sh_store {w0 w : World} {b : Nat} {l : List Feat} (h : ShM w0 w b l) {t : TypeId} (ht : Tryz.prog.underlying t = some (.map 3 32)) {f : Feat} {va vs : Value} (hw : (Lit.int .i64 f.id).wf = true) (hp : PartsAt w0 f va vs) (hn : l.length < maxLen) :
  ∃ w', (Instr.mapUpdate t (.map (some b)) (.int .i64 f.id) (featV f va vs)).run Tryz.prog w = .ok () w' ∧ ShM w0 w' b (putF f l) ∧ w.mapTurned w' b := by
 obtain ⟨hu, D, ho, hs, h1, h2⟩ := h
 obtain ⟨w', hrun, ho', ht'⟩ := ho.store intKeyed ht hn (key_of hw) (rfl : heldV (featV f va vs) = some (.held (featV f va vs), []))
 have hsz : Maps.size (D.put (keyI f.id) (.held (featV f va vs))) = (putF f l).length := by
  rw [size_put (ho.tidy intKeyed), sh_has (w0 := w0) (w := w) (b := b) hu h1 h2, len_put hu, hs]
  cases look l f.id <;> rfl
 refine ⟨w', hrun, ⟨ups_put hu, _, by rw [← hsz]; exact map_tight ho', hsz, fun kl hk => ?_, fun g hg => ?_⟩, ht'⟩
 · by_cases e : kl = keyI f.id
   · exact ⟨f, put_mem f l, e⟩
   · rw [has_put_other e] at hk
     obtain ⟨g, hg, rfl⟩ := h1 kl hk
     have hl := look_mem hu hg
     have h3 : look (putF f l) g.id = some g := by rw [look_put hu, if_neg (fun e2 => e (by rw [e2])), hl]
     exact ⟨g, (look_some h3).1, rfl⟩
 · by_cases e : g.id = f.id
   · have h3 := look_mem (ups_put hu) hg
     rw [look_put hu, if_pos e.symm] at h3
     cases h3
     exact ⟨va, vs, has_put_same ho.isMap (keyI_lit _) _, fun z => atKey_put_same ho.isMap (keyI_lit _) _ z, hp⟩
   · have h3 := look_mem (ups_put hu) hg
     rw [look_put hu, if_neg (fun e2 => e e2.symm)] at h3
     obtain ⟨va', vs', q1, q2, q3⟩ := h2 g (look_some h3).1
     have hne : keyI g.id ≠ keyI f.id := fun e2 => e (keyI_inj e2)
     exact ⟨va', vs', by rw [has_put_other hne]; exact q1, fun z => by rw [atKey_put_other hne]; exact q2 z, q3⟩
theorem sh_drop {w0 w : World} {b : Nat} {l : List Feat} (h : ShM w0 w b l) {t : TypeId} (ht : Tryz.prog.underlying t = some (.map 3 32)) {id : Int} (hw : (Lit.int .i64 id).wf = true) (ty : TypeId) :
  ∃ w', (Builtin.delete_ #[t, 3] ty #[.map (some b), .int .i64 id]).run Tryz.prog w = .ok (.tuple #[]) w' ∧ ShM w0 w' b (delF id l) ∧ w.mapTurned w' b := by
 obtain ⟨hu, D, ho, hs, h1, h2⟩ := h
 obtain ⟨w', hrun, ho', ht'⟩ := ho.drop intKeyed ht (key_of hw) ty
 have hsz : Maps.size (D.del (keyI id)) = (delF id l).length := by
  have h3 := size_del (k := keyI id) (ho.tidy intKeyed)
  rw [sh_has (w0 := w0) (w := w) (b := b) hu h1 h2, hs] at h3
  rw [len_del hu]
  cases e : look l id with
  | none => rw [e] at h3; simpa using h3
  | some f =>
    rw [e] at h3
    simp at h3 ⊢
    omega
 refine ⟨w', hrun, ⟨ups_del hu id, _, by rw [← hsz]; exact map_tight ho', hsz, fun kl hk => ?_, fun g hg => ?_⟩, ht'⟩
 · by_cases e : kl = keyI id
   · rw [e, has_del_same] at hk
     cases hk
   · rw [has_del_other e] at hk
     obtain ⟨g, hg, rfl⟩ := h1 kl hk
     exact ⟨g, mem_del.2 ⟨hg, fun e2 => e (by rw [e2])⟩, rfl⟩
 · obtain ⟨hg1, hg2⟩ := mem_del.1 hg
   obtain ⟨va, vs, q1, q2, q3⟩ := h2 g hg1
   have hne : keyI g.id ≠ keyI id := fun e2 => hg2 (keyI_inj e2)
   exact ⟨va, vs, by rw [has_del_other hne]; exact q1, fun z => by rw [atKey_del_other hne]; exact q2 z, q3⟩
theorem sh_len {w0 w : World} {b : Nat} {l : List Feat} (h : ShM w0 w b l) {t : TypeId} (ht : Tryz.prog.underlying t = some (.map 3 32)) (ty : TypeId) : (Builtin.len_ #[t] ty #[.map (some b)]).run Tryz.prog w = .ok (.int .i64 l.length) w := by
 obtain ⟨hu, D, ho, hs, h1, h2⟩ := h
 rw [ho.len ht ty, hs]
theorem turned_below {w w' : World} {b base : Nat} (h : w.mapTurned w' b) (hb : base ≤ b) (hs : base ≤ w.heap.size) : Below base w w' :=
 (Below.refl base w).grown h.grown hs (fun j hj => by cases hj; exact hb)
theorem sh_keys {w0 w : World} {b : Nat} {l : List Feat} (h : ShM w0 w b l) : ∃ D : DataW Value, w.ownsMap Tryz.prog 3 heldV b l.length D ∧ Maps.size D = l.length ∧ ∀ ss : List Int, ss.Perm (intKeys D) → ss.mergeSort leI = l.map (·.id) := by
 obtain ⟨hu, D, ho, hs, h1, h2⟩ := h
 refine ⟨D, ho, hs, fun ss hss => ?_⟩
 obtain ⟨es, rfl, hpw, hkl⟩ := ho.entries intKeyed
 have hp : (l.map (·.id)).Perm (intKeys (.map es)) := by
  refine perm_intKeys hpw (fun p hp => ?_) ?_ fun x => ?_
  · have : Maps.has (DataW.map es) p.1 = true := by
     rw [has_eq, List.any_eq_true]
     exact ⟨p, hp, WideAt.sameKey_self (hkl p hp)⟩
    obtain ⟨f, _, e⟩ := h1 _ this
    exact ⟨_, e⟩
  · exact List.pairwise_map.2 (hu.imp fun h e => by omega)
  · rw [List.mem_map]
    constructor
    · rintro ⟨f, hf, rfl⟩
      obtain ⟨_, _, q, _⟩ := h2 f hf
      exact q
    · intro hx
      obtain ⟨f, hf, e⟩ := h1 _ hx
      exact ⟨f, hf, (keyI_inj e).symm⟩
 rw [mergeSort_of_perm_i (hss.trans hp.symm)]
 exact List.mergeSort_of_pairwise (List.pairwise_map.2 (hu.imp fun h => by simp [leI]; omega))
section
variable {ops : Array Oper} {rest : List Oper} {o : Oper} {a : Act} {Q : Exit → Act → World → Prop} {w : World}
theorem wpList_shLookOk (hg : o.guard = none) (m x : Operand) (t : TypeId) (hop : o.op = Op.lookup t m x true) (ht : Tryz.prog.underlying t = some (.map 3 32)) {w0 : World} {b : Nat} {l : List Feat} {id : Int} (hm : a.eval m = .map (some b)) (hx : a.eval x = .int .i64 id) (h : ShM w0 w b l) (hw : (Lit.int .i64 id).wf = true)
  (hK : ∀ f va vs, PartsAt w0 f va vs → f = (look l id).getD noFeat → wpList Tryz.prog ops Q rest (a.put o.dst (.tuple #[featV f va vs, .bool (look l id).isSome])) w) : wpList Tryz.prog ops Q (o :: rest) a w := by
 refine wpList_plain hg fun K' hK' => ?_
 obtain ⟨⟨v, hrun, hv⟩, _⟩ := sh_look h ht hw
 obtain ⟨f, va, vs, rfl, hp, hf⟩ := hv.one
 unfold Oper.wp
 simp [execOp, hop, hm, hx, hrun, Result.andThen]
 exact hK' _ _ (hK f va vs hp hf)
theorem wpList_shLook (hg : o.guard = none) (m x : Operand) (t : TypeId) (hop : o.op = Op.lookup t m x false) (ht : Tryz.prog.underlying t = some (.map 3 32)) {w0 : World} {b : Nat} {l : List Feat} {id : Int} (hm : a.eval m = .map (some b)) (hx : a.eval x = .int .i64 id) (h : ShM w0 w b l) (hw : (Lit.int .i64 id).wf = true)
  (hK : ∀ f va vs, PartsAt w0 f va vs → f = (look l id).getD noFeat → wpList Tryz.prog ops Q rest (a.put o.dst (featV f va vs)) w) : wpList Tryz.prog ops Q (o :: rest) a w := by
 refine wpList_plain hg fun K' hK' => ?_
 obtain ⟨_, v, hrun, hv⟩ := sh_look h ht hw
 obtain ⟨f, va, vs, rfl, hp, hf⟩ := hv.one
 unfold Oper.wp
 simp [execOp, hop, hm, hx, hrun, Result.andThen]
 exact hK' _ _ (hK f va vs hp hf)
theorem wpList_shStore (hg : o.guard = none) (m x v : Operand) (t : TypeId) (hop : o.op = Op.mapUpdate t m x v) (ht : Tryz.prog.underlying t = some (.map 3 32)) {w0 : World} {b : Nat} {l : List Feat} {f : Feat} {va vs : Value} (hm : a.eval m = .map (some b)) (hx : a.eval x = .int .i64 f.id) (hv : a.eval v = featV f va vs) (h : ShM w0 w b l) (hw : (Lit.int .i64 f.id).wf = true) (hp : PartsAt w0 f va vs) (hn : l.length < maxLen)
  (hK : ∀ w', ShM w0 w' b (putF f l) → w.mapTurned w' b → wpList Tryz.prog ops Q rest (a.put o.dst undef) w') : wpList Tryz.prog ops Q (o :: rest) a w := by
 refine wpList_plain hg fun K' hK' => ?_
 obtain ⟨w', hrun, r1, r2⟩ := sh_store h ht hw hp hn
 unfold Oper.wp
 simp [execOp, hop, hm, hx, hv, hrun, Result.andThen]
 exact hK' _ _ (hK w' r1 r2)
theorem wpList_shDrop (hg : o.guard = none) (m x : Operand) (t : TypeId) (hop : o.op = Op.call { callee := Callee.builtin Builtin.delete, args := #[m, x], argTypes := #[t, 3] }) (ht : Tryz.prog.underlying t = some (.map 3 32)) {w0 : World} {b : Nat} {l : List Feat} {id : Int} (hm : a.eval m = .map (some b)) (hx : a.eval x = .int .i64 id) (h : ShM w0 w b l) (hw : (Lit.int .i64 id).wf = true)
  (hK : ∀ w', ShM w0 w' b (delF id l) → w.mapTurned w' b → wpList Tryz.prog ops Q rest (a.put o.dst (.tuple #[])) w') : wpList Tryz.prog ops Q (o :: rest) a w := by
 refine wpList_plain hg fun K' hK' => ?_
 obtain ⟨w', hrun, r1, r2⟩ := sh_drop h ht hw o.type
 unfold Oper.wp
 simp [execOp, hop, resolve, invoke, builtin, hm, hx, hrun, Result.andThen]
 exact hK' _ _ (hK w' r1 r2)
theorem wpList_shLen (hg : o.guard = none) (m : Operand) (t : TypeId) (hop : o.op = Op.call { callee := Callee.builtin Builtin.len, args := #[m], argTypes := #[t] }) (ht : Tryz.prog.underlying t = some (.map 3 32)) {w0 : World} {b : Nat} {l : List Feat} (hm : a.eval m = .map (some b)) (h : ShM w0 w b l)
  (hK : wpList Tryz.prog ops Q rest (a.put o.dst (.int .i64 l.length)) w) : wpList Tryz.prog ops Q (o :: rest) a w := by
 refine wpList_plain hg fun K' hK' => ?_
 unfold Oper.wp
 simp [execOp, hop, resolve, invoke, builtin, hm, sh_len h ht o.type, Result.andThen]
 exact hK' _ _ hK
end
def deedV (b : Nat) (k : Int) : Value := .func (.func (if k = 1 then 293 else if k = 2 then 294 else 295)) #[.map (some b)] #[]
def DeedM (w : World) (g b : Nat) (n : Nat) : Prop := ∃ D : DataW Value, w.ownsMap Tryz.prog 3 heldV g n D ∧ ∀ k : Int, 1 ≤ k → k ≤ n → ∀ z, D.atKey (keyI k) z = .held (deedV b k)
theorem DeedM.lt {w : World} {g b n : Nat} (h : DeedM w g b n) : g < w.heap.size := by
 obtain ⟨D, ho, _⟩ := h
 exact ho.lt
theorem DeedM.below {w w' : World} {g b n : Nat} (h : DeedM w g b n) (hb : Below w.heap.size w w') : DeedM w' g b n := by
 obtain ⟨D, ⟨es, clock, hh, r⟩, hr⟩ := h
 exact ⟨D, ⟨es, clock, block_later hb hh, r⟩, hr⟩
theorem DeedM.grown {w w' : World} {g b n : Nat} {row : Option Nat} (h : DeedM w g b n) (hg : w.grownBy w' row) (hne : row ≠ some g) : DeedM w' g b n := by
 obtain ⟨D, ho, hr⟩ := h
 exact ⟨D, ho.kept hg (fun e => hne e.symm), hr⟩
theorem DeedM.made (w : World) (b : Nat) : DeedM (w.alloc (.map #[] 0)) w.heap.size b 0 := ⟨.map [], World.ownsMap_made w _ _ _, fun k h1 h2 => by omega⟩
theorem deed_store {w : World} {g b n : Nat} (h : DeedM w g b n) {t : TypeId} {e : TypeId} (ht : Tryz.prog.underlying t = some (.map 3 e)) (hn : n < 10) {k : Int} (hk : k = n + 1) {v : Value} (hv : v = deedV b k) :
  ∃ w', (Instr.mapUpdate t (.map (some g)) (.int .i64 k) v).run Tryz.prog w = .ok () w' ∧ DeedM w' g b (n + 1) ∧ w.mapTurned w' g := by
 subst hv
 obtain ⟨D, ho, hr⟩ := h
 have hw : (Lit.int .i64 k).wf = true := wf_id (by omega) (by omega)
 obtain ⟨w', hrun, ho', ht'⟩ := ho.store intKeyed ht (by unfold maxLen; omega) (key_of hw) (rfl : heldV (deedV b k) = some (.held (deedV b k), []))
 refine ⟨w', hrun, ⟨_, ho', fun j h1 h2 z => ?_⟩, ht'⟩
 by_cases e : j = k
 · subst e
   exact atKey_put_same ho.isMap (keyI_lit _) _ z
 · rw [atKey_put_other (fun e2 => e (keyI_inj e2))]
   exact hr j h1 (by omega) z
theorem wpList_deedStore {ops : Array Oper} {rest : List Oper} {o : Oper} {a : Act} {Q : Exit → Act → World → Prop} {w : World} (hg : o.guard = none) (m x v : Operand) (t : TypeId) {e : TypeId} (hop : o.op = Op.insert t m x v) (ht : Tryz.prog.underlying t = some (.map 3 e)) {g b n : Nat} {k : Int} {u : Value} (hm : a.eval m = .map (some g)) (hx : a.eval x = .int .i64 k) (hv : a.eval v = u) (h : DeedM w g b n) (hn : n < 10) (hk : k = n + 1) (hu : u = deedV b k)
  (hK : ∀ w', DeedM w' g b (n + 1) → w.mapTurned w' g → wpList Tryz.prog ops Q rest (a.put o.dst undef) w') : wpList Tryz.prog ops Q (o :: rest) a w := by
 refine wpList_plain hg fun K' hK' => ?_
 obtain ⟨w', hrun, r1, r2⟩ := deed_store h ht hn hk hu
 unfold Oper.wp
 simp [execOp, hop, hm, hx, hv, hrun, Result.andThen]
 exact hK' _ _ (hK w' r1 r2)
theorem zero_deed (w : World) : (zeroValue 252).run Tryz.prog w = .ok .nilFunc w := by kernel_rfl
theorem wpList_deedLook {ops : Array Oper} {rest : List Oper} {o : Oper} {a : Act} {Q : Exit → Act → World → Prop} {w : World} (hg : o.guard = none) (m x : Operand) (t : TypeId) (hop : o.op = Op.lookup t m x false) (ht : Tryz.prog.underlying t = some (.map 3 252)) {g b n : Nat} {k : Int} (hm : a.eval m = .map (some g)) (hx : a.eval x = .int .i64 k) (h : DeedM w g b n) (h1 : 1 ≤ k) (h2 : k ≤ n) (hn : n ≤ 10)
  (hK : wpList Tryz.prog ops Q rest (a.put o.dst (deedV b k)) w) : wpList Tryz.prog ops Q (o :: rest) a w := by
 refine wpList_plain hg fun K' hK' => ?_
 obtain ⟨D, ho, hr⟩ := h
 have hw : (Lit.int .i64 k).wf = true := wf_id (by omega) (by omega)
 obtain ⟨v, ps, hrun, hv⟩ := ho.lookup intKeyed ht (zero_deed w) rfl (key_of hw)
 rw [hr k h1 h2] at hv
 simp only [heldV, Option.some.injEq, Prod.mk.injEq] at hv
 have e : v = deedV b k := by have := hv.1; cases this; rfl
 unfold Oper.wp
 simp [execOp, hop, hm, hx, hrun, Result.andThen]
 exact hK' _ _ (by rw [e]; exact hK)
end Go.Proofs.YtdmegkkifiahdaaGreat
