/- Two own lists of operations beside each other: an append leaves its list where it was, or in a new block; and marks of deferred calls. -/
import Derived.Maps.AppendAt
import Derived.Test.YtpidmgkjnomigaaGreatPC
namespace Go.Proofs.YtpidmgkjnomigaaGreat
open Go.RowKit Go.Shelf
set_option linter.unusedVariables false
section
variable {α : Type} {f : α → List Value} {k : Nat} {e : TypeId}
theorem run_appT_at (hkf : ∀ x, (f x).length = k) (hk0 : 0 < k) {t : TypeId} {z : Value} {bytes : Nat} (ht : Tryz.prog.underlying t = some (.slice e)) (hi : (Tryz.prog.info? e).map (fun i => (i.zero, i.size, i.bytes)) = some (some z, k, bytes)) (hzs : z.cells.size = k)
    (base : Nat) (w : World) (ty : TypeId) (v : Value) (l m : List α) (hown : OwnT f k e base w v l) (ad : Option Addr) (n c : Nat) (hn : m.length = n) (hX : SrcAt f w ad m) (hone : ∀ u ∈ m.flatMap f, u.oneCell' = true) (hsz : l.length + n ≤ maxLen) (hby : (l.length + n) * bytes ≤ 140737488355328) (hbase : base ≤ w.heap.size) :
    ∃ ad' c' w', (Builtin.append_ #[t, t] ty #[v, .slice ad n c]).run Tryz.prog w = .ok (.slice ad' (l.length + n) c') w' ∧ OwnT f k e base w' (.slice ad' (l.length + n) c') (l ++ m) ∧ w.grownBy w' v.ownBlock ∧ Below base w w' ∧ ((Value.slice ad' (l.length + n) c').ownBlock = v.ownBlock ∨ (Value.slice ad' (l.length + n) c').ownBlock = some w.heap.size) := by
  subst hn
  obtain ⟨i0, hi0, hz0, hz1, hz2⟩ := info_parts hi
  cases ad with
  | none =>
    have h0 : m = [] := by
      cases m with
      | nil => rfl
      | cons x m =>
        have hp : 0 < (f x).length := by rw [hkf]; exact hk0
        have hlt : 0 < ((x :: m).flatMap f).length := by rw [List.flatMap_cons, List.length_append]; omega
        obtain ⟨g, o, e, _⟩ := hX 0 _ (List.getElem?_eq_getElem hlt)
        cases e
    subst h0
    obtain ⟨ad', c', rfl⟩ := owns_form hown
    refine ⟨ad', c', w, append_none w base t ty e i0 k ht hi0 _ l.length _ hown, ?_, grownBy_refl w _, Below.refl _ _, .inl rfl⟩
    rw [List.append_nil]
    exact hown
  | some a =>
    by_cases hj : m = []
    · subst hj
      obtain ⟨v', w', hrun, h2, h3, _, h5⟩ := run_append_own_at (P := Tryz.prog) w base t ty e i0 z k bytes ht hi0 hz0 hz1 hz2 hzs hk0 v l.length _ hown a 0 c [] (by simp) (fun j u hu => by simp at hu) (fun u hu => by simp at hu) (by simpa using hsz) (by simpa using hby) hbase
      obtain ⟨ad', c', rfl⟩ := owns_form h2
      refine ⟨ad', c', w', hrun, ?_, h3, (Below.refl base w).grown h3 hbase (own_block hown), h5⟩
      unfold OwnT
      simpa using h2
    · obtain ⟨x, m', rfl⟩ := List.exists_cons_of_ne_nil hj
      have hp : 0 < (f x).length := by rw [hkf]; exact hk0
      have hlt : 0 < ((x :: m').flatMap f).length := by rw [List.flatMap_cons, List.length_append]; omega
      obtain ⟨g, o, e1, _⟩ := hX 0 _ (List.getElem?_eq_getElem hlt)
      cases e1
      obtain ⟨v', w', hrun, h2, h3, _, h5⟩ := run_append_own_at (P := Tryz.prog) w base t ty e i0 z k bytes ht hi0 hz0 hz1 hz2 hzs hk0 v l.length _ hown ⟨g, o, none⟩ (x :: m').length c ((x :: m').flatMap f) (flat_len hkf _) (fun j u hu => by
        obtain ⟨g', o', e', hcell⟩ := hX j u hu
        cases e'
        have hadd : (⟨g, o, none⟩ : Addr).add j = ⟨g, o + j, none⟩ := by unfold Addr.add; split <;> simp_all
        rw [hadd]
        exact hcell) hone hsz hby hbase
      obtain ⟨ad', c', rfl⟩ := owns_form h2
      refine ⟨ad', c', w', hrun, ?_, h3, (Below.refl base w).grown h3 hbase (own_block hown), h5⟩
      unfold OwnT
      rw [List.length_append, List.flatMap_append]
      exact h2
theorem own_same {base n : Nat} {w w' : World} {v : Value} {xs : List Value} (h : w.ownsRow base e k v n xs) (hb : ∀ j, v.ownBlock = some j → w'.heap[j]? = w.heap[j]?) : w'.ownsRow base e k v n xs := by
  refine ⟨h.1, ?_⟩
  rcases h.2 with h | ⟨g, cap, cur, rfl, hbg, hh, hr⟩
  · exact .inl h
  · exact .inr ⟨g, cap, cur, rfl, hbg, (hb g rfl).trans hh, hr⟩
theorem own_cells {base n : Nat} {w : World} {v : Value} {xs : List Value} (h : w.ownsRow base e k v n xs) : ∀ j, v.ownBlock = some j → ∃ o, w.heap[j]? = some o ∧ o.isCells = true := fun j hj => by
  rcases h.2 with ⟨rfl, _⟩ | ⟨g, cap, cur, rfl, hbg, hh, hr⟩
  · simp [Value.ownBlock] at hj
  · simp only [Value.ownBlock, Option.some.injEq] at hj
    subst hj
    exact ⟨_, hh, rfl⟩
end
theorem OwnOs.same {base : Nat} {w0 w w' : World} {v : Value} {l : List Opn} (h : OwnOs base w0 w v l) (hb : ∀ j, v.ownBlock = some j → w'.heap[j]? = w.heap[j]?) : OwnOs base w0 w' v l := by
  obtain ⟨items, h1, h2, h3⟩ := h
  exact ⟨items, h1, own_same h2 hb, h3⟩
theorem OwnOs.cells {base : Nat} {w0 w : World} {v : Value} {l : List Opn} (h : OwnOs base w0 w v l) : ∀ j, v.ownBlock = some j → ∃ o, w.heap[j]? = some o ∧ o.isCells = true := by
  obtain ⟨items, h1, h2, h3⟩ := h
  exact own_cells h2
theorem OwnOs.lt {base : Nat} {w0 w : World} {v : Value} {l : List Opn} (h : OwnOs base w0 w v l) : ∀ j, v.ownBlock = some j → base ≤ j ∧ j < w.heap.size := fun j hj => by
  obtain ⟨o, ho, _⟩ := h.cells j hj
  obtain ⟨items, h1, h2, h3⟩ := h
  exact ⟨own_block h2 j hj, lt_block ho⟩
/-- append of a list of operations: where the new list lies. -/
theorem wpList_appO_at {ops : Array Oper} {rest : List Oper} {o : Oper} {a : Act} {Q : Exit → Act → World → Prop} {w : World} (hgd : o.guard = none) (s x : Operand)
    (ho : o.op = .call { callee := .builtin .append, args := #[s, x], argTypes := #[23, 23] }) (base : Nat) (w0 : World) (v : Value) (l m : List Opn) (hs : a.eval s = v) (hown : OwnOs base w0 w v l)
    (ad : Option Addr) (n c : Nat) (hx : a.eval x = .slice ad n c) (items : List OItem) (hm : items.map Prod.fst = m) (hn : m.length = n) (hr : OReads w0 items) (hX : SrcAt opCells w ad items) {N : Nat} (hN : l.length + n = N) (hsz : N ≤ 800000000000) (hbase : base ≤ w.heap.size)
    (h : ∀ ad' c' w', OwnOs base w0 w' (.slice ad' N c') (l ++ m) → w.grownBy w' v.ownBlock → Below base w w' → ((Value.slice ad' N c').ownBlock = v.ownBlock ∨ (Value.slice ad' N c').ownBlock = some w.heap.size) → wpList Tryz.prog ops Q rest (a.put o.dst (.slice ad' N c')) w') : wpList Tryz.prog ops Q (o :: rest) a w := by
  refine wpList_plain hgd fun K hK => ?_
  obtain ⟨is, rfl, how, hro⟩ := hown
  subst hm
  rw [List.length_map] at hn hN
  subst hN
  obtain ⟨ad', c', w', hrn, h2, h3, h4, h5⟩ := run_appT_at opCells_len (by omega) Tryz.underlying23 info_op rfl base w o.type v is items how ad n c hn hX (oitems_one hr) (by unfold maxLen; omega) (by omega) hbase
  unfold Oper.wp execOp
  simp only [ho, resolve, invoke, builtin, Sem.run_bind, Sem.run_pure, Result.andThen_ok, List.map_toArray, List.map_cons, List.map_nil, hs, hx, hrn]
  exact hK _ _ (h ad' c' w' ⟨is ++ items, by rw [List.map_append], h2, hro.append hr⟩ h3 h4 h5)
/-- The marks that ranges over functions have left. -/
def Colls (B : Nat) (ds : List Deferred) (w : World) : Prop := ∃ bs : List Nat, ds = bs.map (fun D => { target := .collected D, args := #[] }) ∧ bs.Nodup ∧ ∀ D ∈ bs, B ≤ D ∧ w.heap[D]? = some (.deferred (some []))
theorem Colls.nil (B : Nat) (w : World) : Colls B [] w := ⟨[], rfl, List.nodup_nil, fun D h => by simp at h⟩
theorem Colls.same {B : Nat} {ds : List Deferred} {w w' : World} (h : Colls B ds w) (hb : ∀ D : Nat, B ≤ D → w.heap[D]? = some (.deferred (some [])) → w'.heap[D]? = w.heap[D]?) : Colls B ds w' := by
  obtain ⟨bs, h1, h2, h3⟩ := h
  exact ⟨bs, h1, h2, fun D hD => ⟨(h3 D hD).1, (hb D (h3 D hD).1 (h3 D hD).2).trans (h3 D hD).2⟩⟩
theorem Colls.cons {B D : Nat} {ds : List Deferred} {w : World} (h : Colls B ds w) (hB : B ≤ D) (hD : w.heap[D]? = some (.deferred (some []))) (hn : ∀ d ∈ ds, d.target ≠ .collected D) : Colls B ({ target := .collected D, args := #[] } :: ds) w := by
  obtain ⟨bs, rfl, h2, h3⟩ := h
  refine ⟨D :: bs, rfl, List.nodup_cons.2 ⟨fun hm => hn _ (List.mem_map.2 ⟨D, hm, rfl⟩) rfl, h2⟩, fun x hx => ?_⟩
  rcases List.mem_cons.1 hx with rfl | hx
  · exact ⟨hB, hD⟩
  · exact h3 x hx
/-- What lies elsewhere is as it was. -/
def OffC (B : Nat) (w w' : World) : Prop := (w'.os = w.os ∧ w'.tape = w.tape ∧ w'.output = w.output ∧ w.heap.size ≤ w'.heap.size) ∧ (∀ k, k < B → w'.heap[k]? = w.heap[k]?) ∧ ∀ (k : Nat) (o : Obj), w.heap[k]? = some o → o.isCells = true → w'.heap[k]? = some o
theorem OffC.refl (B : Nat) (w : World) : OffC B w w := ⟨⟨rfl, rfl, rfl, Nat.le_refl _⟩, fun _ _ => rfl, fun _ _ h _ => h⟩
theorem OffC.put {B D : Nat} {w w' : World} (h : OffC B w w') (hD : B ≤ D) {o : Obj} (ho : w'.heap[D]? = some o) (hc : o.isCells = false) (o' : Obj) : OffC B w (w'.putObj D o') := by
  obtain ⟨⟨h1, h2, h3, h4⟩, h5, h6⟩ := h
  have hg := grownBy_putObj' w' D o'
  refine ⟨⟨hg.os.trans h1, hg.tape.trans h2, hg.output.trans h3, Nat.le_trans h4 hg.size⟩, fun k hk => (World.putObj_heap_other (by omega)).trans (h5 k hk), fun k p hp hpc => ?_⟩
  have := h6 k p hp hpc
  rw [World.putObj_heap_other (fun e => by subst e; rw [ho] at this; cases this; rw [hc] at hpc; cases hpc)]
  exact this
theorem leaves_colls {P : Program} {F : Fence} {n : Nat} {fn : Func} {tmps : Array Value} {R : Ending → World → Prop} {B : Nat} : ∀ {ds : List Deferred} {w : World}, Colls B ds w → (∀ w', OffC B w w' → LeavesIn F n P fn tmps R [] .returning w') → LeavesInM F n P fn tmps R ds .returning w := by
  intro ds w ⟨bs, e, hn, hb⟩ hK
  subst e
  suffices h : ∀ (bs : List Nat) (w1 : World), bs.Nodup → (∀ D ∈ bs, B ≤ D ∧ w1.heap[D]? = some (.deferred (some []))) → OffC B w w1 → LeavesInM F n P fn tmps R (bs.map (fun D => { target := .collected D, args := #[] })) .returning w1 from h bs w hn hb (OffC.refl _ _)
  intro bs
  induction bs with
  | nil => exact fun w1 _ _ h => hK w1 h
  | cons D bs ih =>
    intro w1 hn hb h
    obtain ⟨hD1, hD2⟩ := hb D (by simp)
    refine ⟨by simp, .inl ⟨D, w1.putObj D (.deferred none), rfl, run_takeDeferred hD2, ih _ (List.nodup_cons.1 hn).2 (fun x hx => ?_) (h.put hD1 hD2 rfl _)⟩⟩
    have hxD : x ≠ D := fun e => (List.nodup_cons.1 hn).1 (e ▸ hx)
    exact ⟨(hb x (by simp [hx])).1, (World.putObj_heap_other hxD).trans (hb x (by simp [hx])).2⟩
end Go.Proofs.YtpidmgkjnomigaaGreat
