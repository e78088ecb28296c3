import Derived.Test.YtdmegkkifiahdaaGreatPC
import Derived.Deep.WholeRow
import Derived.Maps.AppendAt
import Derived.Test.YtdmegkkifiahdaaGreatPKL
import Derived.Test.YtdmegkkifiahdaaGreatPHr
import Derived.Test.YtdmegkkifiahdaaGreatPatTouch
namespace Go.Proofs.YtdmegkkifiahdaaGreat
open Go.RowKit
set_option linter.unusedVariables false
section
variable {F : Fence} {n : Nat} {P : Program} {ops : Array Oper} {rest : List Oper} {o : Oper} {a : Act} {w : World} {Q : Exit → Act → World → Prop}
theorem wpListIn_load_row (hgd : o.guard = none) (ty : TypeId) (x : Operand) (ho : o.op = .load ty x)
  (g : Nat) (hx : a.eval x = .pointer (some ⟨g, 0, none⟩)) (t : TypeId) (cs : Array Value) (fr : Nat × Nat) (d : TypeDesc) (hg : w.heap[g]? = some (.cells cs t fr))
  (hu : P.underlying ty = some d) (hd : (match d with | .struct _ | .array _ _ => true | _ => false) = true) (hi : (P.info? ty).map (·.size) = some cs.size)
  (h : wpListIn F n P ops Q rest (a.put o.dst (.agg cs)) w) : wpListIn F n P ops Q (o :: rest) a w :=
 wpListIn_plain hgd fun K hK => by
  refine ⟨fun f hf => by simp [Oper.about, ho] at hf, ?_⟩
  rw [Oper.semAt_eq _ _ _ (by intro c; rw [ho]; simp)]
  unfold execOp
  simp only [ho, hx, Instr.loadAt, Instr.sureAddr, Sem.run_bind, Sem.run_pure, Result.andThen_ok, run_loadVar_row w g t ty cs fr d hg hu hd hi]
  exact hK _ _ h
theorem wpListIn_load_mid (hgd : o.guard = none) (ty : TypeId) (x : Operand) (ho : o.op = .load ty x)
  (b i : Nat) (hx : a.eval x = .pointer (some ⟨b, i, none⟩)) (cs : List Value) (d : TypeDesc) (hc : w.rangeAt b i cs)
  (hu : P.underlying ty = some d) (hd : d.isRow = true) (hi : (P.info? ty).map (·.size) = some cs.length)
  (h : wpListIn F n P ops Q rest (a.put o.dst (.agg cs.toArray)) w) : wpListIn F n P ops Q (o :: rest) a w :=
 wpListIn_plain hgd fun K hK => by
  refine ⟨fun f hf => by simp [Oper.about, ho] at hf, ?_⟩
  rw [Oper.semAt_eq _ _ _ (by intro c; rw [ho]; simp)]
  unfold execOp
  simp only [ho, hx, Instr.loadAt, Instr.sureAddr, Sem.run_bind, Sem.run_pure, Result.andThen_ok, run_loadVar_mid w b i ty cs d hc hu hd hi]
  exact hK _ _ h
end
end Go.Proofs.YtdmegkkifiahdaaGreat
namespace Go.Proofs.YtdmegkkifiahdaaGreat
open Go.RowKit Go.Shelf
set_option linter.unusedVariables false
section
variable {α : Type} {f : α → List Value} {k : Nat} {e : TypeId}
theorem run_appT_at (hkf : ∀ x, (f x).length = k) (hk0 : 0 < k) {t : TypeId} {z : Value} {bytes : Nat} (ht : Tryz.prog.underlying t = some (.slice e)) (hi : (Tryz.prog.info? e).map (fun i => (i.zero, i.size, i.bytes)) = some (some z, k, bytes)) (hzs : z.cells.size = k)
  (base : Nat) (w : World) (ty : TypeId) (v : Value) (l m : List α) (hown : OwnT f k e base w v l) (ad : Option Addr) (n c : Nat) (hn : m.length = n) (hX : SrcAt f w ad m) (hone : ∀ u ∈ m.flatMap f, u.oneCell' = true) (hsz : l.length + n ≤ maxLen) (hby : (l.length + n) * bytes ≤ 140737488355328) (hbase : base ≤ w.heap.size) :
  ∃ ad' c' w', (Builtin.append_ #[t, t] ty #[v, .slice ad n c]).run Tryz.prog w = .ok (.slice ad' (l.length + n) c') w' ∧ OwnT f k e base w' (.slice ad' (l.length + n) c') (l ++ m) ∧ w.grownBy w' v.ownBlock ∧ Below base w w' ∧ ((Value.slice ad' (l.length + n) c').ownBlock = v.ownBlock ∨ (Value.slice ad' (l.length + n) c').ownBlock = some w.heap.size) := by
 subst hn
 obtain ⟨i0, hi0, hz0, hz1, hz2⟩ := info_parts hi
 cases ad with
 | none =>
   have h0 : m = [] := by
    cases m with
    | nil => rfl
    | cons x m =>
      have hp : 0 < (f x).length := by rw [hkf]; exact hk0
      have hlt : 0 < ((x :: m).flatMap f).length := by rw [List.flatMap_cons, List.length_append]; omega
      obtain ⟨g, o, e, _⟩ := hX 0 _ (List.getElem?_eq_getElem hlt)
      cases e
   subst h0
   obtain ⟨ad', c', rfl⟩ := owns_form hown
   refine ⟨ad', c', w, append_none w base t ty e i0 k ht hi0 _ l.length _ hown, ?_, grownBy_refl w _, Below.refl _ _, .inl rfl⟩
   rw [List.append_nil]
   exact hown
 | some a =>
   by_cases hj : m = []
   · subst hj
     obtain ⟨v', w', hrun, h2, h3, _, h5⟩ := run_append_own_at (P := Tryz.prog) w base t ty e i0 z k bytes ht hi0 hz0 hz1 hz2 hzs hk0 v l.length _ hown a 0 c [] (by simp) (fun j u hu => by simp at hu) (fun u hu => by simp at hu) (by simpa using hsz) (by simpa using hby) hbase
     obtain ⟨ad', c', rfl⟩ := owns_form h2
     refine ⟨ad', c', w', hrun, ?_, h3, (Below.refl base w).grown h3 hbase (own_block hown), h5⟩
     unfold OwnT
     simpa using h2
   · obtain ⟨x, m', rfl⟩ := List.exists_cons_of_ne_nil hj
     have hp : 0 < (f x).length := by rw [hkf]; exact hk0
     have hlt : 0 < ((x :: m').flatMap f).length := by rw [List.flatMap_cons, List.length_append]; omega
     obtain ⟨g, o, e1, _⟩ := hX 0 _ (List.getElem?_eq_getElem hlt)
     cases e1
     obtain ⟨v', w', hrun, h2, h3, _, h5⟩ := run_append_own_at (P := Tryz.prog) w base t ty e i0 z k bytes ht hi0 hz0 hz1 hz2 hzs hk0 v l.length _ hown ⟨g, o, none⟩ (x :: m').length c ((x :: m').flatMap f) (flat_len hkf _) (fun j u hu => by
      obtain ⟨g', o', e', hcell⟩ := hX j u hu
      cases e'
      have hadd : (⟨g, o, none⟩ : Addr).add j = ⟨g, o + j, none⟩ := by unfold Addr.add; split <;> simp_all
      rw [hadd]
      exact hcell) hone hsz hby hbase
     obtain ⟨ad', c', rfl⟩ := owns_form h2
     refine ⟨ad', c', w', hrun, ?_, h3, (Below.refl base w).grown h3 hbase (own_block hown), h5⟩
     unfold OwnT
     rw [List.length_append, List.flatMap_append]
     exact h2
theorem own_same {base n : Nat} {w w' : World} {v : Value} {xs : List Value} (h : w.ownsRow base e k v n xs) (hb : ∀ j, v.ownBlock = some j → w'.heap[j]? = w.heap[j]?) : w'.ownsRow base e k v n xs := by
 refine ⟨h.1, ?_⟩
 rcases h.2 with h | ⟨g, cap, cur, rfl, hbg, hh, hr⟩
 · exact .inl h
 · exact .inr ⟨g, cap, cur, rfl, hbg, (hb g rfl).trans hh, hr⟩
theorem own_cells {base n : Nat} {w : World} {v : Value} {xs : List Value} (h : w.ownsRow base e k v n xs) : ∀ j, v.ownBlock = some j → ∃ o, w.heap[j]? = some o ∧ o.isCells = true := fun j hj => by
 rcases h.2 with ⟨rfl, _⟩ | ⟨g, cap, cur, rfl, hbg, hh, hr⟩
 · simp [Value.ownBlock] at hj
 · simp only [Value.ownBlock, Option.some.injEq] at hj
   subst hj
   exact ⟨_, hh, rfl⟩
end
theorem OwnOs.same {base : Nat} {w0 w w' : World} {v : Value} {l : List Opn} (h : OwnOs base w0 w v l) (hb : ∀ j, v.ownBlock = some j → w'.heap[j]? = w.heap[j]?) : OwnOs base w0 w' v l := by
 obtain ⟨items, h1, h2, h3⟩ := h
 exact ⟨items, h1, own_same h2 hb, h3⟩
theorem OwnOs.cells {base : Nat} {w0 w : World} {v : Value} {l : List Opn} (h : OwnOs base w0 w v l) : ∀ j, v.ownBlock = some j → ∃ o, w.heap[j]? = some o ∧ o.isCells = true := by
 obtain ⟨items, h1, h2, h3⟩ := h
 exact own_cells h2
theorem OwnOs.lt {base : Nat} {w0 w : World} {v : Value} {l : List Opn} (h : OwnOs base w0 w v l) : ∀ j, v.ownBlock = some j → base ≤ j ∧ j < w.heap.size := fun j hj => by
 obtain ⟨o, ho, _⟩ := h.cells j hj
 obtain ⟨items, h1, h2, h3⟩ := h
 exact ⟨own_block h2 j hj, lt_block ho⟩
theorem wpList_appO_at {ops : Array Oper} {rest : List Oper} {o : Oper} {a : Act} {Q : Exit → Act → World → Prop} {w : World} (hgd : o.guard = none) (s x : Operand)
  (ho : o.op = .call { callee := .builtin .append, args := #[s, x], argTypes := #[23, 23] }) (base : Nat) (w0 : World) (v : Value) (l m : List Opn) (hs : a.eval s = v) (hown : OwnOs base w0 w v l)
  (ad : Option Addr) (n c : Nat) (hx : a.eval x = .slice ad n c) (items : List OItem) (hm : items.map Prod.fst = m) (hn : m.length = n) (hr : OReads w0 items) (hX : SrcAt opCells w ad items) {N : Nat} (hN : l.length + n = N) (hsz : N ≤ 800000000000) (hbase : base ≤ w.heap.size)
  (h : ∀ ad' c' w', OwnOs base w0 w' (.slice ad' N c') (l ++ m) → w.grownBy w' v.ownBlock → Below base w w' → ((Value.slice ad' N c').ownBlock = v.ownBlock ∨ (Value.slice ad' N c').ownBlock = some w.heap.size) → wpList Tryz.prog ops Q rest (a.put o.dst (.slice ad' N c')) w') : wpList Tryz.prog ops Q (o :: rest) a w := by
 refine wpList_plain hgd fun K hK => ?_
 obtain ⟨is, rfl, how, hro⟩ := hown
 subst hm
 rw [List.length_map] at hn hN
 subst hN
 obtain ⟨ad', c', w', hrn, h2, h3, h4, h5⟩ := run_appT_at opCells_len (by omega) Tryz.underlying23 info_op rfl base w o.type v is items how ad n c hn hX (oitems_one hr) (by unfold maxLen; omega) (by omega) hbase
 unfold Oper.wp execOp
 simp only [ho, resolve, invoke, builtin, Sem.run_bind, Sem.run_pure, Result.andThen_ok, List.map_toArray, List.map_cons, List.map_nil, hs, hx, hrn]
 exact hK _ _ (h ad' c' w' ⟨is ++ items, by rw [List.map_append], h2, hro.append hr⟩ h3 h4 h5)
def Colls (B : Nat) (ds : List Deferred) (w : World) : Prop := ∃ bs : List Nat, ds = bs.map (fun D => { target := .collected D, args := #[] }) ∧ bs.Nodup ∧ ∀ D ∈ bs, B ≤ D ∧ w.heap[D]? = some (.deferred (some []))
theorem Colls.nil (B : Nat) (w : World) : Colls B [] w := ⟨[], rfl, List.nodup_nil, fun D h => by simp at h⟩
theorem Colls.same {B : Nat} {ds : List Deferred} {w w' : World} (h : Colls B ds w) (hb : ∀ D : Nat, B ≤ D → w.heap[D]? = some (.deferred (some [])) → w'.heap[D]? = w.heap[D]?) : Colls B ds w' := by
 obtain ⟨bs, h1, h2, h3⟩ := h
 exact ⟨bs, h1, h2, fun D hD => ⟨(h3 D hD).1, (hb D (h3 D hD).1 (h3 D hD).2).trans (h3 D hD).2⟩⟩
theorem Colls.cons {B D : Nat} {ds : List Deferred} {w : World} (h : Colls B ds w) (hB : B ≤ D) (hD : w.heap[D]? = some (.deferred (some []))) (hn : ∀ d ∈ ds, d.target ≠ .collected D) : Colls B ({ target := .collected D, args := #[] } :: ds) w := by
 obtain ⟨bs, rfl, h2, h3⟩ := h
 refine ⟨D :: bs, rfl, List.nodup_cons.2 ⟨fun hm => hn _ (List.mem_map.2 ⟨D, hm, rfl⟩) rfl, h2⟩, fun x hx => ?_⟩
 rcases List.mem_cons.1 hx with rfl | hx
 · exact ⟨hB, hD⟩
 · exact h3 x hx
def OffC (B : Nat) (w w' : World) : Prop := (w'.os = w.os ∧ w'.tape = w.tape ∧ w'.output = w.output ∧ w.heap.size ≤ w'.heap.size) ∧ (∀ k, k < B → w'.heap[k]? = w.heap[k]?) ∧ ∀ (k : Nat) (o : Obj), w.heap[k]? = some o → o.isCells = true → w'.heap[k]? = some o
theorem OffC.refl (B : Nat) (w : World) : OffC B w w := ⟨⟨rfl, rfl, rfl, Nat.le_refl _⟩, fun _ _ => rfl, fun _ _ h _ => h⟩
theorem OffC.put {B D : Nat} {w w' : World} (h : OffC B w w') (hD : B ≤ D) {o : Obj} (ho : w'.heap[D]? = some o) (hc : o.isCells = false) (o' : Obj) : OffC B w (w'.putObj D o') := by
 obtain ⟨⟨h1, h2, h3, h4⟩, h5, h6⟩ := h
 have hg := grownBy_putObj' w' D o'
 refine ⟨⟨hg.os.trans h1, hg.tape.trans h2, hg.output.trans h3, Nat.le_trans h4 hg.size⟩, fun k hk => (World.putObj_heap_other (by omega)).trans (h5 k hk), fun k p hp hpc => ?_⟩
 have := h6 k p hp hpc
 rw [World.putObj_heap_other (fun e => by subst e; rw [ho] at this; cases this; rw [hc] at hpc; cases hpc)]
 exact this
theorem leaves_colls {P : Program} {F : Fence} {n : Nat} {fn : Func} {tmps : Array Value} {R : Ending → World → Prop} {B : Nat} : ∀ {ds : List Deferred} {w : World}, Colls B ds w → (∀ w', OffC B w w' → LeavesIn F n P fn tmps R [] .returning w') → LeavesInM F n P fn tmps R ds .returning w := by
 intro ds w ⟨bs, e, hn, hb⟩ hK
 subst e
 suffices h : ∀ (bs : List Nat) (w1 : World), bs.Nodup → (∀ D ∈ bs, B ≤ D ∧ w1.heap[D]? = some (.deferred (some []))) → OffC B w w1 → LeavesInM F n P fn tmps R (bs.map (fun D => { target := .collected D, args := #[] })) .returning w1 from h bs w hn hb (OffC.refl _ _)
 intro bs
 induction bs with
 | nil => exact fun w1 _ _ h => hK w1 h
 | cons D bs ih =>
   intro w1 hn hb h
   obtain ⟨hD1, hD2⟩ := hb D (by simp)
   refine ⟨by simp, .inl ⟨D, w1.putObj D (.deferred none), rfl, run_takeDeferred hD2, ih _ (List.nodup_cons.1 hn).2 (fun x hx => ?_) (h.put hD1 hD2 rfl _)⟩⟩
   have hxD : x ≠ D := fun e => (List.nodup_cons.1 hn).1 (e ▸ hx)
   exact ⟨(hb x (by simp [hx])).1, (World.putObj_heap_other hxD).trans (hb x (by simp [hx])).2⟩
end Go.Proofs.YtdmegkkifiahdaaGreat
namespace Go.Proofs
open Go.RowKit Go.Maps Go.Sort Go.Shelf
namespace YtdmegkkifiahdaaGreat
theorem keysO_any (mb : Option Nat) (W : World) : Calls Tryz.prog 94 #[.map mb] W fun e w' => e = .returned (.func (.func 205) #[] #[.pointer (some ⟨W.heap.size, 0, none⟩)]) ∧ w' = W.alloc (.cells #[.map mb] 115 (0, 0)) :=
 (callsIn_wide (n := 5)).1 (AnyZI.keys_in Tryz.keysB Fence.wide 5 trivial rfl mb W)
set_option maxHeartbeats 1000000 in
theorem sortedO_any {H : Type} (b nn : Nat) (D0 : DataW H) (R : Value → Option (DataW H × List MemPlace)) (w : World) (hown : w.ownsMap Tryz.prog 3 R b nn D0) (hmax : Maps.size D0 ≤ maxLen) (hbytes : Maps.size D0 * 8 ≤ 140737488355328) :
  Calls Tryz.prog 93 #[.func (.func 205) #[] #[.pointer (some ⟨w.heap.size, 0, none⟩)]] (w.alloc (.cells #[.map (some b)] 115 (0, 0))) fun e w' => ∃ (v : Value) (ss : List Int), e = .returned v ∧ ss.Perm (intKeys D0) ∧
   w'.ownsRow (w.alloc (.cells #[.map (some b)] 115 (0, 0))).heap.size 3 1 v ss.length ((ss.mergeSort (fun x y => decide (x ≤ y))).map encZ) ∧ (v = .slice none 0 0 ↔ ss = []) ∧ Below (w.alloc (.cells #[.map (some b)] 115 (0, 0))).heap.size (w.alloc (.cells #[.map (some b)] 115 (0, 0))) w' := by
 have hbl := hown.lt
 have hseq : SeqGives Fence.wide 2 Tryz.prog 205 #[.pointer (some ⟨w.heap.size, 0, none⟩)] encZ (fun ss => ss.Perm (intKeys D0)) (Maps.size D0) (w.alloc (.cells #[.map (some b)] 115 (0, 0))) :=
  AnyZI.keys_gives (ρ := Tryz.keysB_ren) { Tryz.keysB with } Fence.wide _ trivial rfl (by omega) w.heap.size b nn D0 _ (by simp) (by simp) (by
   obtain ⟨es, clock, hb, Ft, hs, hD⟩ := hown
   exact ⟨es, clock, (Below.heap_alloc _ _ b hbl).trans hb, Ft, hs, hD⟩)
 have cS := AnyZI.sorted_in Tryz.sortedA Fence.wide 5 trivial trivial trivial trivial rfl (by omega) (Tryz.sortsA _) (enters_of Tryz.func101 (by kernel_rfl) rfl) 205 #[.pointer (some ⟨w.heap.size, 0, none⟩)] trivial (enters_of Tryz.func205 (by kernel_rfl) rfl) _ _ hmax hbytes _ hseq
 change CallsIn _ _ Tryz.prog 93 _ _ _ at cS
 refine ((callsIn_wide (n := 5)).1 cS).mono ?_
 rintro e w' ⟨v, ss, h1, h2, h3, h4, h5⟩
 exact ⟨v, ss, h1, h2, h3, h4, h5⟩
end YtdmegkkifiahdaaGreat
end Go.Proofs
namespace Go.Proofs.YtdmegkkifiahdaaGreat
open Go.RowKit Go.Shelf
attribute [local go_sem] bqOp bqAll bqUpon
attribute [local irreducible] wpQuiet wpBQ
attribute [local go_sem] Oper.semAt_some
set_option linter.unusedVariables false
structure OfK (n₀ Ba Bi : Nat) (w w' : World) : Prop where
 below : Below n₀ w w'
 ops : w'.heap[Ba]? = w.heap[Ba]?
 idb : w'.heap[Bi]? = w.heap[Bi]?
theorem OfK.refl (n₀ Ba Bi : Nat) (w : World) : OfK n₀ Ba Bi w w := ⟨Below.refl _ _, rfl, rfl⟩
theorem OfK.trans {n₀ Ba Bi : Nat} {a b c : World} (h : OfK n₀ Ba Bi a b) (k : OfK n₀ Ba Bi b c) : OfK n₀ Ba Bi a c := ⟨h.below.trans k.below, k.ops.trans h.ops, k.idb.trans h.idb⟩
theorem OfK.of_below {n₀ Ba Bi : Nat} {a b : World} (h : Below a.heap.size a b) (hn : n₀ ≤ a.heap.size) (hb : Ba < a.heap.size) (hi : Bi < a.heap.size) : OfK n₀ Ba Bi a b := ⟨h.mono hn, h.block _ hb, h.block _ hi⟩
theorem ofK_b {n₀ Ba Bi : Nat} {w : World} (hn : n₀ ≤ w.heap.size) (hb : Ba < w.heap.size) (hi : Bi < w.heap.size) (W : World) (l : Nat) (o o' : Obj) (hl : w.heap.size ≤ l) (h : W.heap[l]? = some o) (h1 : o.isCells = false) (h2 : o.isWalk = false) : OfK n₀ Ba Bi W (W.putObj l o') :=
 ⟨belowK_b hn W l o o' hl h h1 h2, World.putObj_heap_other (by omega), World.putObj_heap_other (by omega)⟩
def encO (items : List OItem) {n : Nat} (i : Fin n) : Array Value := #[opV (items.getD i.1 noOItem).1 (items.getD i.1 noOItem).2.1 (items.getD i.1 noOItem).2.2]
def ofN (id : Int) (items : List OItem) (n k : Nat) : List (Fin n) := (preN n k).filter fun i => decide ((items.getD i.1 noOItem).1.id = id)
theorem ofN_snoc (id : Int) (items : List OItem) {n k : Nat} (h : k < n) : ofN id items n (k + 1) = ofN id items n k ++ (if (items.getD k noOItem).1.id = id then [⟨k, h⟩] else []) := by
 unfold ofN
 rw [preN_snoc h, List.filter_append]
 congr 1
 by_cases e : (items.getD k noOItem).1.id = id
 · rw [if_pos e, List.filter_cons_of_pos (by simpa using e)]; rfl
 · rw [if_neg e, List.filter_cons_of_neg (by simpa using e)]; rfl
theorem ofN_pre (id : Int) (items : List OItem) (n k : Nat) : ofN id items n k <+: ofN id items n n := by
 unfold ofN
 rw [preN_all]
 exact (preN_pre n k).filter _
theorem ofN_len (id : Int) (items : List OItem) {n k : Nat} (h : k ≤ n) : (ofN id items n k).length ≤ k := by
 unfold ofN
 exact Nat.le_trans (List.length_filter_le _ _) (by rw [preN_len h]; omega)
theorem finRange_get {items : List OItem} {n : Nat} (h : items.length = n) : (List.finRange n).map (fun i => items.getD i.1 noOItem) = items := by
 subst h
 apply List.ext_getElem
 · simp
 · intro i h1 h2
   simp [List.getD_eq_getElem?_getD]
theorem ofN_ops (id : Int) {items : List OItem} {ops : List Opn} {n : Nat} (h : items.length = n) (ho : items.map Prod.fst = ops) : (ofN id items n n).map (fun i => (items.getD i.1 noOItem).1) = ofId id ops := by
 subst ho
 unfold ofN ofId
 rw [preN_all]
 conv => rhs; rw [← finRange_get h]
 rw [List.map_map, List.filter_map]
 rfl
theorem paof_any (ad : Option Addr) (n c : Nat) (id : Int) (w : World) :
  Calls Tryz.prog 91 #[.slice ad n c, .int .i64 id] w fun e w' => e = .returned (.func (.func 202) #[] #[.pointer (some ⟨w.heap.size, 0, none⟩), .pointer (some ⟨w.heap.size + 1, 0, none⟩)]) ∧ w' = (w.alloc (.cells #[.slice ad n c] 23)).alloc (.cells #[.int .i64 id] 3) := by
 go_enter Tryz.func91, Tryz.ntmps91
 go_wp2_with fail
 go_returns
 exact ⟨by simp, rfl⟩
set_option maxRecDepth 20000 in
set_option maxHeartbeats 2000000 in
theorem paof1_stops (n c : Nat) (ad : Option Addr) (id : Int) (items : List OItem) (Ba Bi n₀ m : Nat) (hm : 2 ≤ m) (w0 w : World) (hn : items.length = n) (hn1 : n ≤ 1000) (hr : OReads w0 items) (hs : SrcAt opCells w0 ad items) (hb0 : Below w0.heap.size w0 w) (h0 : w0.heap.size ≤ n₀) (hn0 : n₀ ≤ w.heap.size) (hBa : Ba < w.heap.size) (hBi : Bi < w.heap.size)
  (hblk : w.heap[Ba]? = some (.cells #[.slice ad n c] 23 (0, 0))) (hidb : w.heap[Bi]? = some (.cells #[.int .i64 id] 3 (0, 0))) :
  SeqStopsK Fence.wide m Tryz.prog 202 #[.pointer (some ⟨Ba, 0, none⟩), .pointer (some ⟨Bi, 0, none⟩)] (encO items (n := n)) (OfK n₀ Ba Bi) (fun ys => ys = ofN id items n n) (fun pre => pre <+: ofN id items n n) n w := by
 intro l J Jx W hW hJ hJx hY hJ0
 have hm1 : 1 ≤ m := by omega
 have hm2 : 1 ≤ m - 1 := by omega
 have HJ := Lib.hid (fun s A B (h : J s A) (hb : Below A.heap.size A B) => hJ s A B none h (grown_of_below hb) (fun r e => by cases e))
 have HY := Lib.hid hY
 have HR := Lib.hid hr
 have HS := Lib.hid hs
 have J0 := Lib.hid hJ0
 have HN := Lib.hid hn
 have hsz := hW.size
 have W0 := Lib.hid (hb0.trans (hW.mono hb0.size))
 have BK := Lib.hid (show W.heap[Ba]? = some (.cells #[.slice ad n c] 23 (0, 0)) from (hW.block Ba hBa).trans hblk)
 have BI := Lib.hid (show W.heap[Bi]? = some (.cells #[.int .i64 id] 3 (0, 0)) from (hW.block Bi hBi).trans hidb)
 clear hJ hJx hY hJ0 hW hblk hb0 hr hs hidb hn
 have c0 := cell_block BK.out 0
 refine callsIn_of_wp Tryz.func202 rfl trivial ?_ rfl
 simp only [Tryz.ntmps202, List.append_toArray, List.cons_append, List.nil_append, List.size_toArray, List.length_cons, List.length_nil, Nat.reduceAdd, Nat.reduceSub, Array.replicate_succ, Array.replicate_zero, List.push_toArray]
 gi_wp2
 gi_loopw [8] (fun i wr => ∃ k : Nat, k ≤ n ∧ i = .int .i64 k ∧ J (ofN id items n k) wr ∧ OfK n₀ Ba Bi W wr) (fun i _ => n - (intOf i).toNat)
 case atStart => exact ⟨0, by omega, rfl, J0.out, OfK.refl _ _ _ _⟩
 case round =>
  obtain ⟨k, hk, rfl, hJr, hKr⟩ := hrel
  have JR := Lib.hid hJr
  have KR := Lib.hid hKr
  clear hJr hKr
  obtain ⟨wo, rfl⟩ : ∃ wo : World, wo = wr := ⟨_, rfl⟩
  by_cases hlt : k < n
  rotate_left
  · obtain rfl : k = n := by omega
    gi_wp2
    go_end0
    exact ⟨⟨_, rfl⟩, .inl ⟨_, rfl, JR.out⟩⟩
  have hs2 : W.heap.size ≤ wo.heap.size := KR.out.below.size
  have hlk : k < items.length := by have := HN.out; omega
  have hbw : Below w0.heap.size w0 wo := W0.out.trans (KR.out.below.mono h0)
  have hx : PartsAt w0 (items.getD k noOItem).1.feat (items.getD k noOItem).2.1 (items.getD k noOItem).2.2 := HR.out _ (getD_memD hlk noOItem)
  obtain ⟨x, hxk⟩ : ∃ x, items.getD k noOItem = x := ⟨_, rfl⟩
  have hall : ∀ j, j < 16 → ∃ g o, ad = some ⟨g, o, none⟩ ∧ wo.cell? ⟨g, o + (k * 16 + j), none⟩ = (opCells x)[j]? := fun j hj => by
   have hf := flat_get opCells 16 opCells_len noOItem items k j hlk hj
   rw [hxk] at hf
   obtain ⟨u, hu⟩ : ∃ u, (opCells x)[j]? = some u := ⟨_, List.getElem?_eq_getElem (by rw [opCells_len]; exact hj)⟩
   obtain ⟨g, o, e, hc⟩ := (HS.out.later hbw) (k * 16 + j) u (by rw [hf, hu])
   exact ⟨g, o, e, by rw [hc, hu]⟩
  obtain ⟨g, o, rfl, _⟩ := hall 0 (by omega)
  have hrow : ∀ j, j < 16 → wo.cell? ⟨g, o + k * 16 + j, none⟩ = (opCells x)[j]? := fun j hj => by
   obtain ⟨g', o', e, hc⟩ := hall j hj
   cases e
   rw [Nat.add_assoc]; exact hc
  rw [hxk] at hx
  obtain ⟨p, va, vs⟩ := x
  have HX := Lib.hid (show OpCells wo g (o + k * 16) p va vs from opCells_at (x := (p, va, vs)) (hx.later hbw) hrow)
  have XK := Lib.hid hxk
  obtain ⟨fa, fc, fb, fd, hva, hvs⟩ := hx.form
  dsimp only at hva hvs
  subst hva hvs
  clear hall hrow hx hxk hbw
  have RG0 := HX.out.range
  have RG : Hid (wo.rangeAt g (o + k * 16) [.int .i64 p.kind, .int .i64 p.id, .int .i64 p.feat.id, .int .i64 p.feat.kind, .int .i64 p.feat.x, .int .i64 p.feat.y, .int .i64 p.feat.rad, .slice fa p.feat.area.length fc, .int .i64 p.feat.dep, .int .i64 p.feat.sym, .slice fb p.feat.secs.length fd, .int .i64 p.x, .int .i64 p.y, .int .i64 p.rad, .int .i64 p.dep, .int .i64 p.sym]) := Lib.hid RG0
  clear RG0
  have hba : Ba < wo.heap.size := by omega
  have hbi : Bi < wo.heap.size := by omega
  have hn1' : n₀ ≤ wo.heap.size := by omega
  have i0 := cell_block (KR.out.idb.trans BI.out) 0
  have hbl := (Below.refl wo.heap.size wo).alloc (Nat.le_refl _) (.cells #[.int .i64 p.kind, .int .i64 p.id, .int .i64 p.feat.id, .int .i64 p.feat.kind, .int .i64 p.feat.x, .int .i64 p.feat.y, .int .i64 p.feat.rad, .slice fa p.feat.area.length fc, .int .i64 p.feat.dep, .int .i64 p.feat.sym, .slice fb p.feat.secs.length fd, .int .i64 p.x, .int .i64 p.y, .int .i64 p.rad, .int .i64 p.dep, .int .i64 p.sym] 34)
  have HK1 := Lib.hid (KR.out.trans (OfK.of_below hbl hn1' hba hbi))
  have HJ1 := Lib.hid (HJ.out _ _ _ JR.out hbl)
  clear hbl
  by_cases hpid : p.id = id
  · have SN : Hid (ofN id items n (k + 1) = ofN id items n k ++ [⟨k, hlt⟩]) := Lib.hid (by rw [ofN_snoc id items hlt, XK.out, if_pos hpid])
    have hp2 : (p.id == id) = true := by simpa using hpid
    clear hpid
    have hl := ofN_len id items hk
    obtain ⟨fn, tmps, assign, body, hy, hR⟩ := HY.out (ofN id items n k) ⟨k, hlt⟩ (wo.alloc (.cells #[.int .i64 p.kind, .int .i64 p.id, .int .i64 p.feat.id, .int .i64 p.feat.kind, .int .i64 p.feat.x, .int .i64 p.feat.y, .int .i64 p.feat.rad, .slice fa p.feat.area.length fc, .int .i64 p.feat.dep, .int .i64 p.feat.sym, .slice fb p.feat.secs.length fd, .int .i64 p.x, .int .i64 p.y, .int .i64 p.rad, .int .i64 p.dep, .int .i64 p.sym] 34)) HJ1.out (by omega)
    unfold encO at hy
    dsimp only at hy
    rw [XK.out] at hy
    dsimp only at hy
    gi_wp2_with (first
     | (with_reducible refine wpListIn_load_mid rfl 34 (.tmp 10) rfl g (o + k * 16) rfl _ _ RG.out Tryz.underlying34 rfl (by kernel_rfl) ?_))
    refine hR.mono ?_
    rintro e w2 (⟨rfl, hJ2, hk2⟩ | ⟨rfl, hJ2⟩)
    · have J2 := Lib.hid hJ2
      have K2 := Lib.hid (HK1.out.trans hk2)
      clear hJ2 hk2 hy hR
      gi_wp2
      go_roundw
      case rel => exact ⟨k + 1, by omega, by go_num, by rw [SN.out]; exact J2.out, K2.out⟩
      case measure => simp [intOf]; omega
    · have J2 := Lib.hid hJ2
      clear hJ2 hy hR
      gi_wp2
      refine bodyPost_ret (results_none rfl _ _ _) rfl ⟨⟨_, rfl⟩, .inr ⟨_, ?_, J2.out⟩⟩
      rw [← SN.out]
      exact ofN_pre id items _ _
  · have SN : Hid (ofN id items n (k + 1) = ofN id items n k) := Lib.hid (by rw [ofN_snoc id items hlt, XK.out, if_neg hpid, List.append_nil])
    have hp2 : (p.id == id) = false := by simpa using hpid
    clear hpid
    gi_wp2_with (first
     | (with_reducible refine wpListIn_load_mid rfl 34 (.tmp 10) rfl g (o + k * 16) rfl _ _ RG.out Tryz.underlying34 rfl (by kernel_rfl) ?_))
    refine ⟨fun _ h => (by cases h), ?_⟩
    gi_wp2
    go_roundw
    case rel => exact ⟨k + 1, by omega, by go_num, by rw [SN.out]; exact HJ1.out, HK1.out⟩
    case measure => simp [intOf]; omega
end Go.Proofs.YtdmegkkifiahdaaGreat
namespace Go.Proofs.YtdmegkkifiahdaaGreat
open Go.RowKit Go.Shelf Go.Maps
set_option linter.unusedVariables false
def slotOf (ts : Array Value) (i : Nat) : Value := ts.getD i undef
theorem hear_begun (s : SaidS) (o : Opn) : (hearS s o).1.begun = true := by
 have h1 : (beginS s (decide (o.kind = 1))).begun = true := by
  unfold beginS
  cases h : s.begun <;> simp [h]
 unfold hearS
 generalize beginS s (decide (o.kind = 1)) = t at h1
 unfold stepS putS
 repeat' split
 all_goals exact h1
theorem says_snoc (o : Opn) : ∀ (a : List Opn) (s : SaidS), saysS (a ++ [o]) s = (saysS a s).bind fun t => if (hearS t o).2 = true then some (hearS t o).1 else none
 | [], s => rfl
 | p :: a, s => by
   simp only [List.cons_append, saysS]
   by_cases h : (hearS s p).2 = true
   · rw [if_pos h, if_pos h]; exact says_snoc o a _
   · rw [if_neg h, if_neg h]; rfl
theorem says_none (b : List Opn) : ∀ (a : List Opn) (s : SaidS), saysS a s = none → saysS (a ++ b) s = none
 | [], s, h => by cases h
 | p :: a, s, h => by
   simp only [List.cons_append, saysS] at h ⊢
   by_cases hh : (hearS s p).2 = true
   · rw [if_pos hh] at h ⊢; exact says_none b a _ h
   · rw [if_neg hh]
theorem Wr2.grown {B m : Nat} {w X Y : World} {row : Option Nat} (h : Wr2 B m w X) (hg : X.grownBy Y row) (hr : ∀ r, row = some r → w.heap.size ≤ r) : Wr2 B m w Y :=
 ⟨hg.os.trans h.os, hg.tape.trans h.tape, hg.output.trans h.output, Nat.le_trans h.size hg.size, fun k hk h1 h2 => (hg.block k (Nat.lt_of_lt_of_le hk h.size) (fun e => by have := hr k e.symm; omega)).trans (h.block k hk h1 h2)⟩
theorem SaidAt.grown {B m n : Nat} {w0 X Y : World} {s : SaidS} {row : Option Nat} (h : SaidAt w0 X B m n s) (hg : X.grownBy Y row) (hr : ∀ r, row = some r → B ≠ r ∧ m ≠ r) : SaidAt w0 Y B m n s := by
 obtain ⟨va, vs, h1, h2, h3⟩ := h
 exact ⟨va, vs, (hg.block B (lt_block h1) (fun e => (hr B e.symm).1 rfl)).trans h1, h2, h3.keep (hg.block m h3.lt (fun e => (hr m e.symm).2 rfl))⟩
theorem SaidAt.later {B m n : Nat} {w0 X Y : World} {s : SaidS} (h : SaidAt w0 X B m n s) (hb : Below X.heap.size X Y) : SaidAt w0 Y B m n s := by
 obtain ⟨va, vs, h1, h2, h3⟩ := h
 exact ⟨va, vs, (hb.block B (lt_block h1)).trans h1, h2, h3.keep (hb.block m h3.lt)⟩
def opAt (items : List OItem) {n : Nat} (i : Fin n) : Opn := (items.getD i.1 noOItem).1
def HrI (w W5 : World) (B m : Nat) (items : List OItem) {n : Nat} (pre : List (Fin n)) (W : World) : Prop :=
 Wr2 B m W5 W ∧ ∃ s, saysS (pre.map (opAt items)) said0 = some s ∧ (s.begun = true ∨ s = said0) ∧ SaidAt w W B m pre.length s
theorem hrI_own {w W5 : World} {B m : Nat} {items : List OItem} {n : Nat} {Bd : Nat} (h5 : W5.heap.size ≤ Bd) (hB : B < Bd) (hm : m < Bd) : OwnFrom Bd (fun (pre : List (Fin n)) W => HrI w W5 B m items pre W) := fun pre X Y row hs hg hr => by
 obtain ⟨h1, s, h2, h3, h4⟩ := hs
 exact ⟨h1.grown hg (fun r e => by have := (hr r e).1; omega), s, h2, h3, h4.grown hg (fun r e => by have := (hr r e).1; omega)⟩
theorem HrI.later {w W5 X Y : World} {B m : Nat} {items : List OItem} {n : Nat} {pre : List (Fin n)} (h : HrI w W5 B m items pre X) (hb : Below X.heap.size X Y) : HrI w W5 B m items pre Y := by
 obtain ⟨h1, s, h2, h3, h4⟩ := h
 exact ⟨h1.trans (Wr2.of_below hb), s, h2, h3, h4.later hb⟩
theorem Wr2.keeps {B m Bd : Nat} {X Y : World} (h : Wr2 B m X Y) (hB : B < Bd) (hm : m < Bd) : KeepsFrom Bd X Y := ⟨h.size, fun k o hk ho _ => (h.block k (lt_block ho) (by omega) (by omega)).trans ho⟩
def HrX (W5 : World) (r2 r3 B m : Nat) (items : List OItem) {n : Nat} (pre : List (Fin n)) (W : World) : Prop :=
 saysS (pre.map (opAt items)) said0 = none ∧ W.heap[r2]? = some (.cells #[.slice none 0 0] 23 (0, 0)) ∧ W.heap[r3]? = some (.cells #[.int .i64 6] 35 (0, 0)) ∧ (W.os = W5.os ∧ W.tape = W5.tape ∧ W.output = W5.output ∧ W5.heap.size ≤ W.heap.size) ∧ ∀ k, k < W5.heap.size → k ≠ r2 → k ≠ r3 → k ≠ B → k ≠ m → W.heap[k]? = W5.heap[k]?
theorem hrX_own {W5 : World} {r2 r3 B m : Nat} {items : List OItem} {n : Nat} {Bd : Nat} (h5 : W5.heap.size ≤ Bd) (h2 : r2 < Bd) (h3 : r3 < Bd) : OwnFrom Bd (fun (pre : List (Fin n)) W => HrX W5 r2 r3 B m items pre W) := fun pre X Y row hs hg hr => by
 obtain ⟨h1, g2, g3, ⟨e1, e2, e3, e4⟩, h4⟩ := hs
 refine ⟨h1, (hg.block r2 (lt_block g2) (fun e => by have := (hr r2 e.symm).1; omega)).trans g2, (hg.block r3 (lt_block g3) (fun e => by have := (hr r3 e.symm).1; omega)).trans g3, ⟨hg.os.trans e1, hg.tape.trans e2, hg.output.trans e3, Nat.le_trans e4 hg.size⟩, fun k hk k1 k2 k3 k4 => (hg.block k (by omega) (fun e => by have := (hr k e.symm).1; omega)).trans (h4 k hk k1 k2 k3 k4)⟩
theorem Wr2.ofK {B m n₀ Ba Bi : Nat} {w w' : World} (h : Wr2 B m w w') (h1 : n₀ ≤ B) (h2 : n₀ ≤ m) (h3 : n₀ ≤ w.heap.size) (ha : Ba < w.heap.size) (hi : Bi < w.heap.size) (a1 : Ba ≠ B) (a2 : Ba ≠ m) (i1 : Bi ≠ B) (i2 : Bi ≠ m) : OfK n₀ Ba Bi w w' :=
 ⟨⟨h.os, h.tape, h.output, h.size, fun k hk => h.block k (by omega) (by omega) (by omega)⟩, h.block Ba ha a1 a2, h.block Bi hi i1 i2⟩
def NmI (ops : List Opn) (ids : List Int) (w w1 : World) (k : Nat) (v6 v7 : Value) (ds : List Deferred) (wr : World) : Prop :=
 Below w1.heap.size w1 wr ∧ OwnOs w1.heap.size w wr v6 ((ids.take k).flatMap fun id => delsS id (sayD id ops)) ∧ OwnOs w1.heap.size w wr v7 ((ids.take k).flatMap fun id => othersS id (sayD id ops)) ∧ (∀ j, v6.ownBlock = some j → v7.ownBlock ≠ some j) ∧ Colls w1.heap.size ds wr ∧ ∀ id ∈ ids.take k, (saysS (ofId id ops) said0).isSome = true
theorem hrX_mk {W5 X : World} {r2 r3 B m : Nat} {items : List OItem} {n : Nat} {pre : List (Fin n)} (hs : saysS (pre.map (opAt items)) said0 = none) (h : Wr2 B m W5 X) (hne : r2 ≠ r3) {v2 v3 : Value}
  (h2 : X.heap[r2]? = some (.cells #[v2] 23 (0, 0))) (h3 : X.heap[r3]? = some (.cells #[v3] 35 (0, 0))) : HrX W5 r2 r3 B m items pre ((X.setCell ⟨r2, 0, none⟩ (.slice none 0 0)).setCell ⟨r3, 0, none⟩ (.int .i64 6)) := by
 have b1 := ((Below.refl 0 X).setCell (p := ⟨r2, 0, none⟩) (Nat.zero_le _) (.slice none 0 0)).setCell (p := ⟨r3, 0, none⟩) (Nat.zero_le _) (.int .i64 6)
 refine ⟨hs, (Below.heap_setCell _ _ _ _ hne).trans (block_set h2 _), block_set ((Below.heap_setCell _ _ _ _ (Ne.symm hne)).trans h3) _, ⟨b1.os.trans h.os, b1.tape.trans h.tape, b1.output.trans h.output, Nat.le_trans h.size b1.size⟩, fun k hk k2 k3 k4 k5 => ?_⟩
 rw [Below.heap_setCell _ _ _ _ k3, Below.heap_setCell _ _ _ _ k2]
 exact h.block k hk k4 k5
theorem own_src {base : Nat} {w : World} {ad : Option Addr} {n c : Nat} {l : List OItem} (h : OwnT opCells 16 34 base w (.slice ad n c) l) (hn : l.length = n) : SrcAt opCells w ad l :=
 srcAt_of opCells_len noOItem fun i hi => by
  obtain ⟨g, rfl, _, hc⟩ := OwnT.cell opCells_len noOItem h hn (by omega)
  exact ⟨g, 0, rfl, fun j hj => hc i (by omega) j hj⟩
structure MdI (w w1 : World) (m B P hi nn : Nat) (s : SaidS) (va vs : Value) (L6 L7 : List Opn) (v6 v7 : Value) (ds : List Deferred) (W : World) : Prop where
 below : Below w1.heap.size w1 W
 l6 : OwnOs w1.heap.size w W v6 L6
 l7 : OwnOs w1.heap.size w W v7 L7
 apart : ∀ j, v6.ownBlock = some j → v7.ownBlock ≠ some j
 o6 : ∀ j, v6.ownBlock = some j → j < m ∨ P < j
 o7 : ∀ j, v7.ownBlock = some j → j < m ∨ hi ≤ j
 marks : Colls w1.heap.size ds W
 said : W.heap[B]? = some (.cells (saidC s va vs m) 117 (0, 0))
 box : W.heap[P]? = some (.cells #[.pointer (some ⟨B, 0, none⟩)] 114 (0, 0))
 fld : FldM w W m nn s
 hmB : m < B
 hBP : B < P
 hPh : P < hi
 hhi : hi ≤ W.heap.size
 hm : w1.heap.size ≤ m
section
variable {w w1 : World} {m B P hi nn : Nat} {s : SaidS} {va vs : Value} {L6 L7 : List Opn} {v6 v7 : Value} {ds : List Deferred} {W : World}
theorem MdI.later (h : MdI w w1 m B P hi nn s va vs L6 L7 v6 v7 ds W) {W' : World} (hb : Below W.heap.size W W') : MdI w w1 m B P hi nn s va vs L6 L7 v6 v7 ds W' :=
 ⟨below_step h.below hb, h.l6.keep hb, h.l7.keep hb, h.apart, h.o6, h.o7, h.marks.same fun D _ hD => hb.block D (lt_block hD), block_later hb h.said, block_later hb h.box, h.fld.keep (hb.block m h.fld.lt), h.hmB, h.hBP, h.hPh, Nat.le_trans h.hhi hb.size, h.hm⟩
theorem MdI.raise (h : MdI w w1 m B P hi nn s va vs L6 L7 v6 v7 ds W) (h7 : ∀ j, v7.ownBlock = some j → j < m) {hi' : Nat} (h1 : hi ≤ hi') (h2 : hi' ≤ W.heap.size) : MdI w w1 m B P hi' nn s va vs L6 L7 v6 v7 ds W :=
 ⟨h.below, h.l6, h.l7, h.apart, h.o6, fun j hj => .inl (h7 j hj), h.marks, h.said, h.box, h.fld, h.hmB, h.hBP, Nat.lt_of_lt_of_le h.hPh h1, h2, h.hm⟩
theorem MdI.app6 (h : MdI w w1 m B P hi nn s va vs L6 L7 v6 v7 ds W) {W' : World} {v6' : Value} {L6' : List Opn} (ho : OwnOs w1.heap.size w W' v6' L6') (hg : W.grownBy W' v6.ownBlock) (hb : Below w1.heap.size W W') (hat : v6'.ownBlock = v6.ownBlock ∨ v6'.ownBlock = some W.heap.size) : MdI w w1 m B P hi nn s va vs L6' L7 v6' v7 ds W' := by
 have hBl := lt_block h.said
 have hPl := lt_block h.box
 have hml := h.fld.lt
 have h1 := h.hmB
 have h2 := h.hBP
 have h3 := h.hPh
 have h4 := h.hhi
 have ne : ∀ k, m ≤ k → k ≤ P → some k ≠ v6.ownBlock := fun k hk1 hk2 e => by rcases h.o6 k e.symm with q | q <;> omega
 refine ⟨h.below.trans hb, ho, h.l7.same fun j hj => hg.block j ((h.l7.lt j hj).2) (fun e => h.apart j e.symm hj), fun j hj hj7 => ?_, fun j hj => ?_, h.o7, h.marks.same fun D _ hD => hg.block D (lt_block hD) (fun e => ?_), (hg.block B hBl (ne B (by omega) (by omega))).trans h.said, (hg.block P hPl (ne P (by omega) (by omega))).trans h.box, h.fld.keep (hg.block m hml (ne m (by omega) (by omega))), h1, h2, h3, Nat.le_trans h4 hg.size, h.hm⟩
 · rcases hat with e | e
   · exact h.apart j (by rw [← e, hj]) hj7
   · rw [e] at hj; cases hj
     have := (h.l7.lt _ hj7).2
     omega
 · rcases hat with e | e
   · exact h.o6 j (by rw [← e, hj])
   · rw [e] at hj; cases hj
     exact .inr hPl
 · obtain ⟨o, ho', hc⟩ := h.l6.cells D e.symm
   rw [hD] at ho'; cases ho'; cases hc
theorem MdI.app7 (h : MdI w w1 m B P hi nn s va vs L6 L7 v6 v7 ds W) {W' : World} {v7' : Value} {L7' : List Opn} (ho : OwnOs w1.heap.size w W' v7' L7') (hg : W.grownBy W' v7.ownBlock) (hb : Below w1.heap.size W W') (hat : v7'.ownBlock = v7.ownBlock ∨ v7'.ownBlock = some W.heap.size) : MdI w w1 m B P hi nn s va vs L6 L7' v6 v7' ds W' := by
 have hBl := lt_block h.said
 have hPl := lt_block h.box
 have hml := h.fld.lt
 have h1 := h.hmB
 have h2 := h.hBP
 have h3 := h.hPh
 have h4 := h.hhi
 have ne : ∀ k, m ≤ k → k ≤ P → some k ≠ v7.ownBlock := fun k hk1 hk2 e => by rcases h.o7 k e.symm with q | q <;> omega
 refine ⟨h.below.trans hb, h.l6.same fun j hj => hg.block j ((h.l6.lt j hj).2) (fun e => h.apart j hj e.symm), ho, fun j hj hj7 => ?_, h.o6, fun j hj => ?_, h.marks.same fun D _ hD => hg.block D (lt_block hD) (fun e => ?_), (hg.block B hBl (ne B (by omega) (by omega))).trans h.said, (hg.block P hPl (ne P (by omega) (by omega))).trans h.box, h.fld.keep (hg.block m hml (ne m (by omega) (by omega))), h1, h2, h3, Nat.le_trans h4 hg.size, h.hm⟩
 · rcases hat with e | e
   · exact h.apart j hj (by rw [← e, hj7])
   · rw [e] at hj7; cases hj7
     have := (h.l6.lt _ hj).2
     omega
 · rcases hat with e | e
   · exact h.o7 j (by rw [← e, hj])
   · rw [e] at hj; cases hj
     exact .inr h4
 · obtain ⟨o, ho', hc⟩ := h.l7.cells D e.symm
   rw [hD] at ho'; cases ho'; cases hc
theorem MdI.kinds (h : MdI w w1 m B P hi nn s va vs L6 L7 v6 v7 ds W) {W' : World} (hg : W.grownBy W' v7.ownBlock) {base n : Nat} {v : Value} {xs : List Value} (hr : W.ownsRow base 3 1 v n xs) (hb : m ≤ base) (hlt : ∀ j, v.ownBlock = some j → j < hi) : W'.ownsRow base 3 1 v n xs :=
 own_same hr fun j hj => hg.block j (by have := hlt j hj; have := h.hhi; omega) fun e => by
  have h1 := own_block hr j hj
  have h2 := hlt j hj
  rcases h.o7 j e.symm with q | q <;> omega
end
theorem mdI_start {ops : List Opn} {ids : List Int} {w w1 wr W5 W : World} {k : Nat} {v6 v7 : Value} {ds : List Deferred} {D : Nat} (h : NmI ops ids w w1 k v6 v7 ds wr) (h5 : Below wr.heap.size wr W5) (hs5 : W5.heap.size = wr.heap.size + 5) (hP : W5.heap[wr.heap.size + 2]? = some (.cells #[.pointer (some ⟨wr.heap.size + 1, 0, none⟩)] 114 (0, 0)))
  (hw : Wr2 (wr.heap.size + 1) wr.heap.size W5 W) {s : SaidS} {nn : Nat} (hsd : SaidAt w W (wr.heap.size + 1) wr.heap.size nn s) (hD : W5.heap.size ≤ D) (hdef : W.heap[D]? = some (.deferred (some []))) :
  ∃ va vs, PartsAt w s.feat va vs ∧ (∀ j, v7.ownBlock = some j → j < wr.heap.size) ∧ MdI w w1 wr.heap.size (wr.heap.size + 1) (wr.heap.size + 2) (wr.heap.size + 3) nn s va vs ((ids.take k).flatMap fun id => delsS id (sayD id ops)) ((ids.take k).flatMap fun id => othersS id (sayD id ops)) v6 v7 ({ target := .collected D, args := #[] } :: ds) W := by
 obtain ⟨hb, h6, h7, ha, hc, hy⟩ := h
 obtain ⟨va, vs, q, hp, hf⟩ := hsd
 have hs := hw.size
 have old : ∀ j, j < wr.heap.size → W.heap[j]? = wr.heap[j]? := fun j hj => (hw.block j (by omega) (by omega) (by omega)).trans (h5.block j hj)
 have bw : Below w1.heap.size w1 W := ⟨hw.os.trans (h5.os.trans hb.os), hw.tape.trans (h5.tape.trans hb.tape), hw.output.trans (h5.output.trans hb.output), by have := hb.size; omega, fun j hj => (old j (by have := hb.size; omega)).trans (hb.block j hj)⟩
 have hc' : Colls w1.heap.size ds W := hc.same fun E hE hEd => old E (lt_block hEd)
 refine ⟨va, vs, hp, fun j hj => (h7.lt j hj).2, bw, h6.same fun j hj => old j (h6.lt j hj).2, h7.same fun j hj => old j (h7.lt j hj).2, ha, fun j hj => .inl (h6.lt j hj).2, fun j hj => .inl (h7.lt j hj).2, hc'.cons (by have := hb.size; omega) hdef (fun d hd e => ?_), q, hw.block_ne hP (by omega) (by omega), hf, by omega, by omega, by omega, by omega, hb.size⟩
 obtain ⟨bs, rfl, _, hbs⟩ := hc
 obtain ⟨x, hx, rfl⟩ := List.mem_map.1 hd
 cases e
 have := lt_block (hbs _ hx).2
 omega
theorem MdI.end_ {ops : List Opn} {ids : List Int} {w w1 W : World} {k m B P hi nn : Nat} {s : SaidS} {va vs v6 v7 : Value} {ds : List Deferred} {id : Int} (hid : ids.getD k 0 = id) (hk : k < ids.length) {L6 L7 : List Opn} (h : MdI w w1 m B P hi nn s va vs L6 L7 v6 v7 ds W) (h6 : L6 = (ids.take k).flatMap (fun id => delsS id (sayD id ops)) ++ delsS id (sayD id ops)) (h7 : L7 = (ids.take k).flatMap (fun id => othersS id (sayD id ops)) ++ othersS id (sayD id ops))
  (hy : ∀ id ∈ ids.take k, (saysS (ofId id ops) said0).isSome = true) (hi' : (saysS (ofId id ops) said0).isSome = true) : NmI ops ids w w1 (k + 1) v6 v7 ds W := by
 have ht : ids.take (k + 1) = ids.take k ++ [id] := by rw [take_snoc 0 hk, hid]
 refine ⟨h.below, ?_, ?_, h.apart, h.marks, fun x hx => ?_⟩
 · rw [ht, List.flatMap_append, List.flatMap_cons, List.flatMap_nil, List.append_nil, ← h6]; exact h.l6
 · rw [ht, List.flatMap_append, List.flatMap_cons, List.flatMap_nil, List.append_nil, ← h7]; exact h.l7
 · rw [ht] at hx
   rcases List.mem_append.1 hx with hx | hx
   · exact hy x hx
   · obtain rfl : x = id := by simpa using hx
     exact hi'
theorem nm_len {ops : List Opn} {ids : List Int} (ho : ∀ o ∈ ops, OpOk o) (ht : TouchL ops ids) (hl : ops.length ≤ 100) (k : Nat) : ((ids.take k).flatMap fun id => delsS id (sayD id ops)).length ≤ 100 ∧ ((ids.take k).flatMap fun id => othersS id (sayD id ops)).length ≤ 100 := by
 have h := norm_len (fun o h => opForm (ho o h)) ht
 have pre : ∀ f : Int → List Opn, ((ids.take k).flatMap f).length ≤ (ids.flatMap f).length := fun f => by
  conv => rhs; rw [← List.take_append_drop k ids, List.flatMap_append, List.length_append]
  omega
 have h1 := pre fun id => delsS id (sayD id ops)
 have h2 := pre fun id => othersS id (sayD id ops)
 unfold normL at h
 rw [List.length_append] at h
 omega
theorem others_len {ops : List Opn} {ids : List Int} (ho : ∀ o ∈ ops, OpOk o) (ht : TouchL ops ids) (hl : ops.length ≤ 100) (id : Int) : (delsS id (sayD id ops)).length ≤ 1 ∧ (fieldsS (sayD id ops)).length ≤ 3 := by
 unfold delsS fieldsS
 constructor
 · split <;> simp
 · cases (sayD id ops).mv <;> cases (sayD id ops).dp <;> cases (sayD id ops).sy <;> simp
theorem colls_stop {ops : List Opn} {ids : List Int} {w w1 wr W5 W : World} {k n : Nat} {v6 v7 : Value} {ds : List Deferred} {items : List OItem} {pre : List (Fin n)} {D r2 r3 : Nat} (h : NmI ops ids w w1 k v6 v7 ds wr) (h5 : Below wr.heap.size wr W5) (hs5 : W5.heap.size = wr.heap.size + 5) (hw : HrX W5 r2 r3 (wr.heap.size + 1) wr.heap.size items pre W) (h2 : r2 < w1.heap.size) (h3 : r3 < w1.heap.size) (hD : W5.heap.size ≤ D) (hdef : W.heap[D]? = some (.deferred (some []))) :
  Colls w1.heap.size ({ target := .collected D, args := #[] } :: ds) W := by
 obtain ⟨hb, h6, h7, ha, hc, hy⟩ := h
 obtain ⟨_, _, _, ⟨_, _, _, hs⟩, hk⟩ := hw
 have hc' : Colls w1.heap.size ds W := hc.same fun E hE hEd => by
  have := lt_block hEd
  exact (hk E (by omega) (by omega) (by omega) (by omega) (by omega)).trans (h5.block E this)
 refine hc'.cons (by have := hb.size; omega) hdef (fun d hd e => ?_)
 obtain ⟨bs, rfl, _, hbs⟩ := hc
 obtain ⟨x, hx, rfl⟩ := List.mem_map.1 hd
 cases e
 have := lt_block (hbs _ hx).2
 omega
theorem OffC.below {B B' : Nat} {a W W' : World} (h : OffC B' W W') (hb : Below B a W) (hB : B ≤ B') : Below B a W' :=
 ⟨h.1.1.trans hb.os, h.1.2.1.trans hb.tape, h.1.2.2.1.trans hb.output, Nat.le_trans hb.size h.1.2.2.2, fun k hk => (h.2.1 k (by omega)).trans (hb.block k hk)⟩
theorem hrX_below {w W5 W : World} {r3 B m : Nat} {items : List OItem} {n : Nat} {pre : List (Fin n)} (h : HrX W5 w.heap.size r3 B m items pre W) (hb : Below w.heap.size w W5) (h3 : w.heap.size ≤ r3) (hB : w.heap.size ≤ B) (hm : w.heap.size ≤ m) : Below w.heap.size w W := by
 obtain ⟨_, _, _, ⟨e1, e2, e3, e4⟩, hk⟩ := h
 exact ⟨e1.trans hb.os, e2.trans hb.tape, e3.trans hb.output, Nat.le_trans hb.size e4, fun k hk' => (hk k (by have := hb.size; omega) (by omega) (by omega) (by omega) (by omega)).trans (hb.block k hk')⟩
theorem OwnOs.len {base : Nat} {w0 w : World} {a : Option Addr} {n c : Nat} {l : List Opn} (h : OwnOs base w0 w (.slice a n c) l) : l.length = n := by
 obtain ⟨ad, c', e⟩ := h.form
 cases e
 rfl
theorem dels_tt (id : Int) (b t k : Bool) (f : Feat) (mv dp sy : Option Opn) : delsS id ⟨b, true, true, t, k, f, mv, dp, sy⟩ = [delO id] := rfl
theorem dels_tf (id : Int) (b t k : Bool) (f : Feat) (mv dp sy : Option Opn) : delsS id ⟨b, true, false, t, k, f, mv, dp, sy⟩ = [] := rfl
theorem dels_f (id : Int) (b d t k : Bool) (f : Feat) (mv dp sy : Option Opn) : delsS id ⟨b, false, d, t, k, f, mv, dp, sy⟩ = [] := rfl
theorem others_tt (id : Int) (b p d : Bool) (f : Feat) (mv dp sy : Option Opn) : othersS id ⟨b, p, d, true, true, f, mv, dp, sy⟩ = [⟨1, id, f, 0, 0, 0, 0, 0⟩] := rfl
theorem others_tf (id : Int) (b p d : Bool) (f : Feat) (mv dp sy : Option Opn) : othersS id ⟨b, p, d, true, false, f, mv, dp, sy⟩ = fieldsS ⟨b, p, d, true, false, f, mv, dp, sy⟩ := rfl
theorem others_f (id : Int) (b p d k : Bool) (f : Feat) (mv dp sy : Option Opn) : othersS id ⟨b, p, d, false, k, f, mv, dp, sy⟩ = [] := rfl
theorem says_no {ops : List Opn} {ids : List Int} {items : List OItem} {n : Nat} {id : Int} {pre : List (Fin n)} (hl : items.length = n) (ho : items.map Prod.fst = ops) (hp : pre <+: ofN id items n n) (h : saysS (pre.map (opAt items)) said0 = none) (hm : id ∈ ids) : ¬ SaysAll ids ops := fun ha => by
 have h1 := ha id hm
 obtain ⟨b, hb⟩ := hp
 have h2 : ofId id ops = pre.map (opAt items) ++ b.map (opAt items) := by
  rw [← List.map_append, hb]
  exact (ofN_ops id hl ho).symm
 rw [h2, says_none _ _ _ h] at h1
 cases h1
theorem row_later {base n : Nat} {w w' : World} {v : Value} {xs : List Value} (h : w.ownsRow base 3 1 v n xs) (hb : Below w.heap.size w w') : w'.ownsRow base 3 1 v n xs :=
 own_same h fun j hj => hb.block j (by obtain ⟨o, ho, _⟩ := own_cells h j hj; exact lt_block ho)
def NormP (ops : List Opn) (w : World) (e : Ending) (w' : World) : Prop := ∃ ids : List Int, TouchL ops ids ∧ Below w.heap.size w w' ∧
 ((SaysAll ids ops ∧ ∃ (ad : Option Addr) (n c : Nat), (normL ids ops).length = n ∧ e = .returned (.tuple #[.slice ad n c, .int .i64 0]) ∧ OpsAt w' (.slice ad n c) (normL ids ops)) ∨ (¬ SaysAll ids ops ∧ e = .returned (.tuple #[.slice none 0 0, .int .i64 6])))
end Go.Proofs.YtdmegkkifiahdaaGreat
