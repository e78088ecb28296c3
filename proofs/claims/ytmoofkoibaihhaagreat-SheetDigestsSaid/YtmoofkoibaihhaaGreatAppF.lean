/- Lists of features that a law makes of lists that it was handed: append of a list of features to an own one. -/
import Derived.Test.YtmoofkoibaihhaaGreatGetF
import Derived.Deep.Slices
namespace Go.Proofs.YtmoofkoibaihhaaGreat
open Go.RowKit
set_option linter.unusedVariables false
/-- The parts of items read as their lists, in the world w. -/
def Reads (w : World) (l : List FItem) : Prop := ∀ x ∈ l, PtsAt w x.2.1 x.1.area ∧ SecsAt w x.2.2 x.1.secs
theorem Reads.later {w w' : World} {l : List FItem} (h : Reads w l) (hb : Below w.heap.size w w') : Reads w' l := fun x hx => ⟨Lists.later (h x hx).1 hb, Lists.later (h x hx).2 hb⟩
theorem Reads.append {w : World} {l m : List FItem} (h : Reads w l) (k : Reads w m) : Reads w (l ++ m) := fun x hx => by
  rw [List.mem_append] at hx
  exact hx.elim (h x) (k x)
theorem featCells_len (x : FItem) : (featCells x).length = 9 := rfl
theorem items_len : ∀ l : List FItem, (l.flatMap featCells).length = l.length * 9
  | [] => rfl
  | x :: l => by rw [List.flatMap_cons, List.length_append, items_len l, featCells_len, List.length_cons]; omega
/-- The slice v is the call's own list of features l, whose parts lie in the world w0. -/
def OwnFs (base : Nat) (w0 w : World) (v : Value) (l : List Feat) : Prop := ∃ items : List FItem, items.map Prod.fst = l ∧ OwnR base w v items ∧ Reads w0 items
theorem OwnFs.form {base : Nat} {w0 w : World} {v : Value} {l : List Feat} (h : OwnFs base w0 w v l) : ∃ ad c, v = .slice ad l.length c := by
  obtain ⟨items, rfl, ho, _⟩ := h
  rw [List.length_map]
  exact owns_form ho
theorem OwnFs.keep {base : Nat} {w0 w w' : World} {v : Value} {l : List Feat} (h : OwnFs base w0 w v l) (hb : Below w.heap.size w w') : OwnFs base w0 w' v l := by
  obtain ⟨items, rfl, ho, hr⟩ := h
  exact ⟨items, rfl, own_keep ho hb, hr⟩
theorem OwnFs.nil (base : Nat) (w0 w : World) : OwnFs base w0 w (.slice none 0 0) [] := ⟨[], rfl, own_nil _ _ _ _, fun x hx => by simp at hx⟩
theorem OwnFs.lit0 {base b : Nat} (w0 : World) {w W : World} (h : W = w.alloc (.cells #[] 53)) (hw : w.heap.size = b) (hb : base ≤ b) : OwnFs base w0 W (.slice (some ⟨b, 0, none⟩) 0 0) [] := by
  subst h hw
  have := World.ownsRow_lit (base := base) (e := 53) (size := 9) w #[] 0 hb (Nat.zero_le _) (by simp)
  exact ⟨[], rfl, this, fun x hx => by simp at hx⟩
theorem OwnFs.box0 {base b : Nat} (w0 : World) {w : World} (h : w.heap[b]? = some (.cells #[] 53 (0, 0))) (hb : base ≤ b) : OwnFs base w0 w (.slice (some ⟨b, 0, none⟩) 0 0) [] :=
  ⟨[], rfl, ⟨by simp, .inr ⟨b, 0, #[], rfl, hb, h, Nat.le_refl _, by simp, by simp, by simp⟩⟩, fun x hx => by simp at hx⟩
theorem OwnFs.feats {base : Nat} {w0 w : World} {v : Value} {l : List Feat} (h : OwnFs base w0 w v l) (hb : Below w0.heap.size w0 w) (hl : l.length ≤ 9223372036854775807) : FeatsAt w v l := by
  obtain ⟨l, rfl, h, hp⟩ := h
  rw [List.length_map] at hl
  have hc := own_cap h
  obtain ⟨ad, c, rfl⟩ := owns_form h
  have key := fun i (hi : i < l.length) j (hj : j < 9) => flat_get featCells 9 (fun _ => rfl) ((noFeat, .slice none 0 0, .slice none 0 0) : FItem) l i j hi hj
  refine ⟨ad, c, by simp, ⟨by simpa using hl, by rw [List.length_map]; exact hc _ _ _ rfl⟩, fun i hi => ?_⟩
  rw [List.length_map] at hi
  obtain ⟨x, hx⟩ : ∃ x, l.getD i ((noFeat, .slice none 0 0, .slice none 0 0) : FItem) = x := ⟨_, rfl⟩
  have hxl : l[i]? = some x := by rw [← hx, List.getD_eq_getElem?_getD, List.getElem?_eq_getElem hi]; rfl
  have hmem : x ∈ l := List.mem_of_getElem? hxl
  have hxf : (l.map Prod.fst).getD i noFeat = x.1 := by rw [List.getD_eq_getElem?_getD, List.getElem?_map, hxl]; rfl
  rw [hxf]
  have kk := fun j (hj : j < 9) => (key i hi j hj).trans (by rw [hx])
  rcases h.2 with ⟨e, h0⟩ | ⟨g, cap, cur, e, hg, hh, hnc, hcm, hcs, ht⟩
  · exfalso
    omega
  · cases e
    refine ⟨g, 0, x.2.1, x.2.2, rfl, ?_⟩
    have cc : ∀ j, j < 9 → w.cell? ⟨g, 0 + i * 9 + j, none⟩ = (featCells x)[j]? := fun j hj => by
      rw [cell_block hh, Nat.zero_add, ← kk j hj, ← ht]
      have hlen : i * 9 + j < l.length * 9 := by have := Nat.mul_le_mul_right 9 (show i + 1 ≤ l.length from hi); omega
      simp [hlen]
    exact ⟨cc 0 (by omega), cc 1 (by omega), cc 2 (by omega), cc 3 (by omega), cc 4 (by omega), cc 5 (by omega), cc 6 (by omega), cc 7 (by omega), cc 8 (by omega), Lists.later (hp x hmem).1 hb, Lists.later (hp x hmem).2 hb⟩
/-- A list of features that was handed in, as items. -/
theorem feats_items {w : World} {ad : Option Addr} {n c : Nat} {l : List Feat} (h : FeatsAt w (.slice ad n c) l) : ∃ items : List FItem, items.map Prod.fst = l ∧ Reads w items ∧ ∀ j u, (items.flatMap featCells)[j]? = some u → ∃ g o, ad = some ⟨g, o, none⟩ ∧ w.cell? ⟨g, o + j, none⟩ = some u := by
  obtain ⟨ad', c', e, hn, hc⟩ := h
  cases e
  have key : ∀ i, i < l.length → ∃ q : FItem, q.1 = l.getD i noFeat ∧ PtsAt w q.2.1 q.1.area ∧ SecsAt w q.2.2 q.1.secs ∧ ∃ g o, ad = some ⟨g, o, none⟩ ∧ ∀ j, j < 9 → w.cell? ⟨g, o + i * 9 + j, none⟩ = (featCells q)[j]? := by
    intro i hi
    obtain ⟨g, o, va, vs, hg, h⟩ := hc i hi
    refine ⟨(l.getD i noFeat, va, vs), rfl, h.area, h.secs, g, o, hg, fun j hj => ?_⟩
    match j, hj with
    | 0, _ => exact h.c0
    | 1, _ => exact h.c1
    | 2, _ => exact h.c2
    | 3, _ => exact h.c3
    | 4, _ => exact h.c4
    | 5, _ => exact h.c5
    | 6, _ => exact h.c6
    | 7, _ => exact h.c7
    | 8, _ => exact h.c8
  haveI : Inhabited FItem := ⟨(noFeat, .slice none 0 0, .slice none 0 0)⟩
  obtain ⟨Q, hQ⟩ := Go.Deep.choose_lt (α := FItem) key
  have hgetD : ∀ i, i < l.length → ((List.range l.length).map Q)[i]? = some (Q i) := fun i hi => by simp [hi]
  refine ⟨(List.range l.length).map Q, ?_, fun x hx => ?_, fun j u hj => ?_⟩
  · apply List.ext_getElem?
    intro i
    rcases Nat.lt_or_ge i l.length with h | h
    · rw [List.getElem?_map, hgetD i h]
      obtain ⟨e, _⟩ := hQ i h
      rw [List.getElem?_eq_getElem h]
      show some (Q i).1 = _
      rw [e, List.getD_eq_getElem?_getD, List.getElem?_eq_getElem h]
      rfl
    · simp [h]
  · rw [List.mem_map] at hx
    obtain ⟨i, hi, rfl⟩ := hx
    obtain ⟨_, h1, h2, _⟩ := hQ i (List.mem_range.1 hi)
    exact ⟨h1, h2⟩
  · have hlt := (List.getElem?_eq_some_iff.1 hj).1
    rw [items_len, List.length_map, List.length_range] at hlt
    have hi : j / 9 < l.length := by omega
    obtain ⟨_, _, _, g, o, hg, hcell⟩ := hQ (j / 9) hi
    refine ⟨g, o, hg, ?_⟩
    have e := hcell (j % 9) (by omega)
    have hgD : ((List.range l.length).map Q).getD (j / 9) default = Q (j / 9) := by rw [List.getD_eq_getElem?_getD, hgetD _ hi]; rfl
    have k := flat_get featCells 9 (fun _ => rfl) (default : FItem) ((List.range l.length).map Q) (j / 9) (j % 9) (by simpa using hi) (by omega)
    rw [hgD, show j / 9 * 9 + j % 9 = j by omega, hj] at k
    rw [show o + j / 9 * 9 + j % 9 = o + j by omega] at e
    exact e.trans k.symm
theorem items_one {w : World} {l : List FItem} (h : Reads w l) : ∀ u ∈ l.flatMap featCells, u.oneCell' = true := by
  intro u hu
  rw [List.mem_flatMap] at hu
  obtain ⟨x, hx, hu⟩ := hu
  obtain ⟨a1, c1, e1, _⟩ := Lists.form (h x hx).1
  obtain ⟨a2, c2, e2, _⟩ := Lists.form (h x hx).2
  simp only [featCells, List.mem_cons, List.not_mem_nil, or_false] at hu
  rw [e1, e2] at hu
  rcases hu with rfl | rfl | rfl | rfl | rfl | rfl | rfl | rfl | rfl <;> rfl
theorem info_feat : (Tryz.prog.info? 53).map (fun i => (i.zero, i.size, i.bytes)) = some (some (.agg #[.int .i64 0, .int .i64 0, .int .i64 0, .int .i64 0, .int .i64 0, .slice none 0 0, .int .i64 0, .int .i64 0, .slice none 0 0]), 9, 104) := by kernel_rfl
theorem run_appF (base : Nat) (w0 w : World) (ty : TypeId) (v : Value) (l m : List Feat) (hown : OwnFs base w0 w v l) (ad : Option Addr) (n c : Nat) (hn : m.length = n) (hX : FeatsAt w0 (.slice ad n c) m) (hb0 : Below w0.heap.size w0 w) (hsz : l.length + n ≤ 1000000000) (hbase : base ≤ w.heap.size) :
    ∃ ad' c' w', (Builtin.append_ #[25, 25] ty #[v, .slice ad n c]).run Tryz.prog w = .ok (.slice ad' (l.length + n) c') w' ∧ OwnFs base w0 w' (.slice ad' (l.length + n) c') (l ++ m) ∧ Below base w w' := by
  subst hn
  obtain ⟨i0, hi0, hz0, hz1, hz2⟩ := info_parts info_feat
  obtain ⟨is, rfl, ho, hr⟩ := hown
  obtain ⟨js, rfl, hr2, hc⟩ := feats_items hX
  have hcw : ∀ j u, (js.flatMap featCells)[j]? = some u → ∃ g o, ad = some ⟨g, o, none⟩ ∧ w.cell? ⟨g, o + j, none⟩ = some u := fun j u hj => by
    obtain ⟨g, o, e, hcell⟩ := hc j u hj
    exact ⟨g, o, e, cell_later hb0 hcell⟩
  rw [List.length_map] at hsz ⊢
  rw [List.length_map] at hsz ⊢
  cases ad with
  | none =>
    have h0 : js = [] := by
      cases js with
      | nil => rfl
      | cons x js =>
        obtain ⟨g, o, e, _⟩ := hcw 0 (.int .i64 x.1.id) rfl
        cases e
    subst h0
    obtain ⟨ad', c', rfl⟩ := owns_form ho
    exact ⟨ad', c', w, append_none w base 25 ty 53 i0 9 Tryz.underlying25 hi0 _ is.length _ ho, ⟨is, by simp, ho, hr⟩, Below.refl _ _⟩
  | some a =>
    by_cases hj : js = []
    · subst hj
      obtain ⟨v', w', hrun, h2, h3, _⟩ := run_append_own (P := Tryz.prog) w base 25 ty 53 i0 _ 9 104 Tryz.underlying25 hi0 hz0 hz1 hz2 rfl (by decide) v is.length _ ho a 0 c [] (by simp) (fun j u hu => by simp at hu) (fun u hu => by simp at hu) (by unfold maxLen; simp at hsz ⊢; omega) (by simp at hsz ⊢; omega) hbase
      obtain ⟨ad', c', rfl⟩ := owns_form h2
      refine ⟨ad', c', w', hrun, ⟨is, by simp, by simpa [OwnR] using h2, hr⟩, (Below.refl base w).grown h3 hbase (own_block ho)⟩
    · have hpos : 0 < js.length := List.length_pos_iff.2 hj
      obtain ⟨x, js', rfl⟩ := List.exists_cons_of_ne_nil hj
      obtain ⟨g, o, e, _⟩ := hcw 0 (.int .i64 x.1.id) rfl
      cases e
      obtain ⟨v', w', hrun, h2, h3, _⟩ := run_append_own (P := Tryz.prog) w base 25 ty 53 i0 _ 9 104 Tryz.underlying25 hi0 hz0 hz1 hz2 rfl (by decide) v is.length _ ho ⟨g, o, none⟩ (x :: js').length c ((x :: js').flatMap featCells) (items_len _) (fun j u hu => by
        obtain ⟨g', o', e', hcell⟩ := hcw j u hu
        cases e'
        have hadd : (⟨g, o, none⟩ : Addr).add j = ⟨g, o + j, none⟩ := by unfold Addr.add; split <;> simp_all
        rw [hadd]
        exact hcell) (items_one hr2) (by unfold maxLen; omega) (by omega) hbase
      obtain ⟨ad', c', rfl⟩ := owns_form h2
      refine ⟨ad', c', w', hrun, ⟨is ++ x :: js', by simp, ?_, hr.append hr2⟩, (Below.refl base w).grown h3 hbase (own_block ho)⟩
      unfold OwnR
      rw [List.length_append, List.flatMap_append]
      exact h2
theorem wp_appF {o : Oper} {a : Act} {K : Act → World → Prop} {Q : Exit → Act → World → Prop} {w : World} (s x : Operand)
    (ho : o.op = .call { callee := .builtin .append, args := #[s, x], argTypes := #[25, 25] }) (base : Nat) (w0 : World) (v : Value) (l m : List Feat) (hs : a.eval s = v) (hown : OwnFs base w0 w v l)
    (ad : Option Addr) (n c : Nat) (hx : a.eval x = .slice ad n c) (hn : m.length = n) (hX : FeatsAt w0 (.slice ad n c) m) (hb0 : Below w0.heap.size w0 w) {N : Nat} (hN : l.length + n = N) (hsz : N ≤ 1000000000) (hbase : base ≤ w.heap.size)
    (h : ∀ ad' c' w', OwnFs base w0 w' (.slice ad' N c') (l ++ m) → Below base w w' → K (a.put o.dst (.slice ad' N c')) w') : o.wp Tryz.prog a w K Q := by
  subst hN
  obtain ⟨ad', c', w', hr, h2, h3⟩ := run_appF base w0 w o.type v l m hown ad n c hn hX hb0 hsz hbase
  unfold Oper.wp execOp
  simp only [ho, resolve, invoke, builtin, Sem.run_bind, Sem.run_pure, Result.andThen_ok, List.map_toArray, List.map_cons, List.map_nil, hs, hx, hr]
  exact h ad' c' w' h2 h3
theorem wpList_appF {ops : Array Oper} {rest : List Oper} {o : Oper} {a : Act} {Q : Exit → Act → World → Prop} {w : World} (hgd : o.guard = none) (s x : Operand)
    (ho : o.op = .call { callee := .builtin .append, args := #[s, x], argTypes := #[25, 25] }) (base : Nat) (w0 : World) (v : Value) (l m : List Feat) (hs : a.eval s = v) (hown : OwnFs base w0 w v l)
    (ad : Option Addr) (n c : Nat) (hx : a.eval x = .slice ad n c) (hn : m.length = n) (hX : FeatsAt w0 (.slice ad n c) m) (hb0 : Below w0.heap.size w0 w) {N : Nat} (hN : l.length + n = N) (hsz : N ≤ 1000000000) (hbase : base ≤ w.heap.size)
    (h : ∀ ad' c' w', OwnFs base w0 w' (.slice ad' N c') (l ++ m) → Below base w w' → wpList Tryz.prog ops Q rest (a.put o.dst (.slice ad' N c')) w') : wpList Tryz.prog ops Q (o :: rest) a w :=
  wpList_plain hgd fun _ hK => wp_appF s x ho base w0 v l m hs hown ad n c hx hn hX hb0 hN hsz hbase fun ad' c' w' h2 h3 => hK _ _ (h ad' c' w' h2 h3)
theorem step_appF {ops : Array Oper} {o : Oper} {a : Act} {K : Act → World → Prop} {Q : Exit → Act → World → Prop} {E : Prop} {w : World} (hgd : o.guard = none) (s x : Operand)
    (ho : o.op = .call { callee := .builtin .append, args := #[s, x], argTypes := #[25, 25] }) (base : Nat) (w0 : World) (v : Value) (l m : List Feat) (hs : a.eval s = v) (hown : OwnFs base w0 w v l)
    (ad : Option Addr) (n c : Nat) (hx : a.eval x = .slice ad n c) (hn : m.length = n) (hX : FeatsAt w0 (.slice ad n c) m) (hb0 : Below w0.heap.size w0 w) {N : Nat} (hN : l.length + n = N) (hsz : N ≤ 1000000000) (hbase : base ≤ w.heap.size)
    (h : ∀ ad' c' w', OwnFs base w0 w' (.slice ad' N c') (l ++ m) → Below base w w' → K (a.put o.dst (.slice ad' N c')) w') :
    if Region.wanted o (yielded ops a.tmps) = true then Oper.wp Tryz.prog o a w K Q else E := by
  have hw : Region.wanted o (yielded ops a.tmps) = true := by simp [Region.wanted, hgd]
  rw [if_pos hw]
  exact wp_appF s x ho base w0 v l m hs hown ad n c hx hn hX hb0 hN hsz hbase h
theorem OwnFs.put {base b : Nat} {w0 w : World} {v : Value} {l : List Feat} (h : OwnFs base w0 w v l) (hlt : b < base) {i : Nat} (x : Value) : OwnFs base w0 (w.setCell ⟨b, i, none⟩ x) v l := by
  obtain ⟨items, rfl, ho, hr⟩ := h
  refine ⟨items, rfl, ⟨ho.1, ?_⟩, hr⟩
  rcases ho.2 with h | ⟨g, cap, cur, hv, hbg, hg', rest⟩
  · exact .inl h
  · refine .inr ⟨g, cap, cur, hv, hbg, ?_, rest⟩
    rw [Below.heap_setCell _ _ _ _ (show g ≠ b by omega)]
    exact hg'
theorem sht_put {w wn : World} {b : Nat} {x0 x1 x2 x3 x4 x5 x6 x7 x8 x9 x10 x11 x12 y0 y1 y2 y3 y4 y5 y6 y7 y8 y9 y10 y11 y12 : Value} {T : TypeId} (h : wn = ((((((((((((w.setCell ⟨b, 0, none⟩ x0).setCell ⟨b, 1, none⟩ x1).setCell ⟨b, 2, none⟩ x2).setCell ⟨b, 3, none⟩ x3).setCell ⟨b, 4, none⟩ x4).setCell ⟨b, 5, none⟩ x5).setCell ⟨b, 6, none⟩ x6).setCell ⟨b, 7, none⟩ x7).setCell ⟨b, 8, none⟩ x8).setCell ⟨b, 9, none⟩ x9).setCell ⟨b, 10, none⟩ x10).setCell ⟨b, 11, none⟩ x11).setCell ⟨b, 12, none⟩ x12) (hb : w.heap[b]? = some (.cells #[y0, y1, y2, y3, y4, y5, y6, y7, y8, y9, y10, y11, y12] T (0, 0))) :
    wn.heap[b]? = some (.cells #[x0, x1, x2, x3, x4, x5, x6, x7, x8, x9, x10, x11, x12] T (0, 0)) ∧ ∀ (B : Nat) (W : World), Below B W w → B ≤ b → Below B W wn := by
  subst h
  refine ⟨by simpa using (block_set (i := 12) (block_set (i := 11) (block_set (i := 10) (block_set (i := 9) (block_set (i := 8) (block_set (i := 7) (block_set (i := 6) (block_set (i := 5) (block_set (i := 4) (block_set (i := 3) (block_set (i := 2) (block_set (i := 1) (block_set (i := 0) hb x0) x1) x2) x3) x4) x5) x6) x7) x8) x9) x10) x11) x12), fun B W h hB => ((((((((((((h.setCell (p := ⟨b, 0, none⟩) hB x0).setCell (p := ⟨b, 1, none⟩) hB x1).setCell (p := ⟨b, 2, none⟩) hB x2).setCell (p := ⟨b, 3, none⟩) hB x3).setCell (p := ⟨b, 4, none⟩) hB x4).setCell (p := ⟨b, 5, none⟩) hB x5).setCell (p := ⟨b, 6, none⟩) hB x6).setCell (p := ⟨b, 7, none⟩) hB x7).setCell (p := ⟨b, 8, none⟩) hB x8).setCell (p := ⟨b, 9, none⟩) hB x9).setCell (p := ⟨b, 10, none⟩) hB x10).setCell (p := ⟨b, 11, none⟩) hB x11).setCell (p := ⟨b, 12, none⟩) hB x12⟩
theorem feats_take {w : World} {ad : Option Addr} {n c k : Nat} {l : List Feat} (h : FeatsAt w (.slice ad n c) l) (hn : l.length = n) (hk : k ≤ n) : FeatsAt w (.slice ad k c) (l.take k) := by
  obtain ⟨ad', c', e, h1, h2⟩ := h
  cases e
  have hl : (l.take k).length = k := by rw [List.length_take]; omega
  refine ⟨ad, c, by rw [hl], ⟨by omega, by omega⟩, fun i hi => ?_⟩
  obtain ⟨g, o, va, vs, e, hf⟩ := h2 i (by omega)
  refine ⟨g, o, va, vs, e, ?_⟩
  rw [show (l.take k).getD i noFeat = l.getD i noFeat by rw [List.getD_eq_getElem?_getD, List.getD_eq_getElem?_getD, List.getElem?_take_of_lt (by omega)]]
  exact hf
theorem feats_drop {w : World} {g o n c k : Nat} {l : List Feat} (h : FeatsAt w (.slice (some ⟨g, o, none⟩) n c) l) (hn : l.length = n) (hk : k ≤ n) : FeatsAt w (.slice (some ⟨g, o + k * 9, none⟩) (n - k) (c - k)) (l.drop k) := by
  obtain ⟨ad', c', e, h1, h2⟩ := h
  cases e
  have hl : (l.drop k).length = l.length - k := List.length_drop
  refine ⟨_, _, by rw [hl], ⟨by omega, by omega⟩, fun i hi => ?_⟩
  obtain ⟨g', o', va, vs, e, hf⟩ := h2 (k + i) (by omega)
  cases e
  refine ⟨g, o + k * 9, va, vs, rfl, ?_⟩
  rw [show (l.drop k).getD i noFeat = l.getD (k + i) noFeat by rw [List.getD_eq_getElem?_getD, List.getD_eq_getElem?_getD, List.getElem?_drop], show o + k * 9 + i * 9 = o + (k + i) * 9 by rw [Nat.add_mul]; omega]
  exact hf
theorem feats_dropI {w : World} {g o n c k : Nat} {l : List Feat} (h : FeatsAt w (.slice (some ⟨g, o, none⟩) n c) l) (hn : l.length = n) (hk : k ≤ n) : FeatsAt w (.slice (if c = k then some ⟨g, o, none⟩ else some ⟨g, o + k * 9, none⟩) (n - k) (c - k)) (l.drop k) := by
  split
  · next e =>
    have h1 : n ≤ c := by
      obtain ⟨_, _, e, hcc, _⟩ := h
      cases e
      exact hcc.2
    have hl : l.drop k = [] := List.drop_eq_nil_of_le (by omega)
    rw [hl]
    exact ⟨_, _, by rw [show n - k = 0 by omega]; rfl, ⟨by simp, by simp⟩, fun i hi => absurd hi (Nat.not_lt_zero i)⟩
  · exact feats_drop h hn hk
end Go.Proofs.YtmoofkoibaihhaaGreat
