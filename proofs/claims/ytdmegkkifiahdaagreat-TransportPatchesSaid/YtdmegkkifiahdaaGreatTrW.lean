/- Plain steps of transport.Ops; the index of a feature by its ID; what stays of lists of features. -/
import Derived.Test.YtdmegkkifiahdaaGreatTrT
import Derived.Test.YtdmegkkifiahdaaGreatPatApp
import Derived.Test.YtdmegkkifiahdaaGreatPRv
namespace Go.Proofs.YtdmegkkifiahdaaGreat
open Go.RowKit Go.Shelf
attribute [local go_sem] bqOp bqAll bqUpon sqOp sqAll sqUpon ssAll ssOp
attribute [local irreducible] wpQuiet wpBQ wpPlan wsPlan
set_option linter.unusedVariables false
theorem setQ {n₀ g i : Nat} {a w : World} (h : Below n₀ a w) (hg : n₀ ≤ g) (v : Value) : Below n₀ a (w.setCell ⟨g, i, none⟩ v) := h.setCell (p := ⟨g, i, none⟩) hg v
theorem setR {w : World} {b i j : Nat} {v : Value} {o : Obj} (h : w.heap[j]? = some o) (hne : j ≠ b) : (w.setCell ⟨b, i, none⟩ v).heap[j]? = some o := by
  show (w.heap.modify b _)[j]? = _
  rw [Array.getElem?_modify, if_neg (fun e => hne e.symm)]
  exact h
/-- What is left to carry of a patch. -/
structure RestO (m : Dat) (A B : List Mk) (l : List Feat) (ops : List Opn) (k : Nat) (x : List Feat) (r : List Opn) : Prop where
  run : ∃ y bs, runO x (ops.drop k) = .ok (y, bs)
  out : opsD m A B l ops = match opsD m A B x (ops.drop k) with | .ok q => .ok (r ++ q) | .error e => .error e
  fine : FeatsOk x
  len : r.length = k
theorem drop_cons {α : Type} {l : List α} {k : Nat} (d : α) (hk : k < l.length) : l.drop k = l.getD k d :: l.drop (k + 1) := by
  rw [List.getD_eq_getElem?_getD, List.getElem?_eq_getElem hk]
  exact List.drop_eq_getElem_cons hk
theorem RestO.step {m : Dat} {A B : List Mk} {l : List Feat} {ops : List Opn} {k : Nat} {x : List Feat} {r : List Opn} (h : RestO m A B l ops k x r) (hk : k < ops.length) (hf : OpForm (ops.getD k noOpn)) :
    ∃ x' b, doO x (ops.getD k noOpn) = .ok (x', b) ∧ FeatsOk x' ∧ applyO x ((ops.drop k).take 1) = (x', -1, 0) ∧ (∀ e, opD m A B x' (ops.getD k noOpn) = .error e → opsD m A B l ops = .error e) ∧ ∀ o', opD m A B x' (ops.getD k noOpn) = .ok o' → RestO m A B l ops (k + 1) x' (r ++ [o']) := by
  obtain ⟨⟨y, bs, hr⟩, ho, hx, hl⟩ := h
  have hd := drop_cons noOpn hk
  rw [hd] at hr ho
  obtain ⟨o, hoe⟩ : ∃ o, ops.getD k noOpn = o := ⟨_, rfl⟩
  rw [hoe] at hr ho hf hd ⊢
  simp only [runO] at hr
  simp only [opsD] at ho
  cases h1 : doO x o with
  | error e => rw [h1] at hr; cases hr
  | ok z =>
    obtain ⟨x', b⟩ := z
    rw [h1] at hr ho
    simp only at hr ho
    have hx' := (do_back hx hf h1).1
    refine ⟨x', b, rfl, hx', ?_, fun e he => ?_, fun o' he => ⟨?_, ?_, hx', by rw [List.length_append, hl]; rfl⟩⟩
    · rw [hd]
      unfold applyO
      rw [if_pos ⟨hx, by simp, fun o2 h2 => by
        have e2 : o2 = o := by simpa using h2
        rw [e2]
        exact opOk_form hf⟩]
      simp only [List.take_succ_cons, List.take_zero, runO]
      rw [h1]
    · rw [ho, he]
    · cases h2 : runO x' (ops.drop (k + 1)) with
      | error e => rw [h2] at hr; cases hr
      | ok z => exact ⟨_, _, rfl⟩
    · rw [ho, he]
      cases opsD m A B x' (ops.drop (k + 1)) with
      | error e => rfl
      | ok q => simp
theorem RestO.done {m : Dat} {A B : List Mk} {l : List Feat} {ops : List Opn} {x : List Feat} {r : List Opn} (h : RestO m A B l ops ops.length x r) : opsD m A B l ops = .ok r := by
  have := h.out
  rw [List.drop_length] at this
  simp only [opsD, List.append_nil] at this
  exact this
theorem RestO.first {m : Dat} {A B : List Mk} {l y : List Feat} {ops bs : List Opn} (h : runO l ops = .ok (y, bs)) (hl : FeatsOk l) : RestO m A B l ops 0 l [] :=
  ⟨⟨y, bs, h⟩, by rw [List.drop_zero]; cases opsD m A B l ops <;> rfl, hl, rfl⟩
theorem do_look {l l' : List Feat} {o b : Opn} (hl : FeatsOk l) (ho : OpForm o) (h : doO l o = .ok (l', b)) (hk : o.kind ≠ 2) : ∃ f, look l' o.id = some f := by
  have h1 := (do_act hl ho h).1
  unfold act at h1
  by_cases k1 : o.kind = 1
  · rw [if_pos k1] at h1
    cases e : look l o.id with
    | some f => rw [e] at h1; cases h1
    | none => rw [e] at h1; injection h1 with h1; exact ⟨_, h1.symm⟩
  · rw [if_neg k1] at h1
    cases e : look l o.id with
    | none => rw [e] at h1; cases h1
    | some f =>
      rw [e] at h1
      simp only [if_neg hk] at h1
      cases e2 : chgF f o with
      | none => rw [e2] at h1; cases h1
      | some g => rw [e2] at h1; injection h1 with h1; exact ⟨_, h1.symm⟩
theorem look_index {l : List Feat} (hl : idsUp l) {id : Int} {f : Feat} (h : look l id = some f) : ∃ k, k < l.length ∧ l.getD k noFeat = f ∧ f.id = id ∧ ∀ i, i < k → (l.getD i noFeat).id ≠ id := by
  obtain ⟨hm, he⟩ := look_some h
  obtain ⟨k, hk, rfl⟩ := List.getElem_of_mem hm
  refine ⟨k, hk, by rw [List.getD_eq_getElem?_getD, List.getElem?_eq_getElem hk]; rfl, he, fun i hi => ?_⟩
  have := List.pairwise_iff_getElem.1 hl i k (by omega) hk hi
  rw [List.getD_eq_getElem?_getD, List.getElem?_eq_getElem (by omega : i < l.length)]
  simp only [Option.getD_some]
  omega
theorem opD_car {m : Dat} {A B : List Mk} {x : List Feat} {o : Opn} {f : Feat} (hk : o.kind = 1 ∨ o.kind = 3 ∨ o.kind = 5) (hl : look x o.id = some f) : opD m A B x o = match oneD m A B f with
      | .error e => .error e
      | .ok g => .ok (if o.kind = 1 then { o with feat := g } else if o.kind = 3 then { o with x := g.x, y := g.y, rad := g.rad } else { o with sym := g.sym }) := by
  unfold opD
  rw [if_pos hk, hl]
  dsimp only
  cases oneD m A B f <;> rfl
theorem opD_not {m : Dat} {A B : List Mk} {x : List Feat} {o : Opn} (hk : ¬ (o.kind = 1 ∨ o.kind = 3 ∨ o.kind = 5)) : opD m A B x o = .ok o := by
  unfold opD
  rw [if_neg hk]
/-- What Ops answers. -/
def opsR (m : Dat) (a b : Bk) (l : List Feat) (ops : List Opn) : List Opn × Int :=
  if BooksOk m a b then (if (applyO l ops).2.2 ≠ 0 then ([], (applyO l ops).2.2) else match opsD m a.marks b.marks l ops with | .ok r => (r, 0) | .error e => ([], e)) else ([], 1)
/-- Blocks below lo and rows of features stay. -/
def KeepF (lo : Nat) (w W : World) : Prop := ∀ (j : Nat) (o : Obj), w.heap[j]? = some o → (j < lo ∨ ∃ (cs : Array Value) (mm : Nat × Nat), o = .cells cs 32 mm) → W.heap[j]? = some o
theorem KeepF.refl (lo : Nat) (w : World) : KeepF lo w w := fun j o h _ => h
theorem KeepF.trans {lo : Nat} {a b c : World} (h : KeepF lo a b) (k : KeepF lo b c) : KeepF lo a c := fun j o hj hp => k j o (h j o hj hp) hp
theorem KeepF.of_below {lo : Nat} {w W : World} (h : Below w.heap.size w W) : KeepF lo w W := fun j o hj _ => (h.block j (Array.getElem?_eq_some_iff.1 hj).1).trans hj
theorem KeepF.set {lo g i : Nat} {w : World} {cs : Array Value} {T : TypeId} {mm : Nat × Nat} (hg : lo ≤ g) (hb : w.heap[g]? = some (.cells cs T mm)) (h1 : T ≠ 32) (v : Value) : KeepF lo w (w.setCell ⟨g, i, none⟩ v) := fun j o hj hp => by
  have hne : j ≠ g := fun e => by
    subst e
    rw [hb] at hj
    cases hj
    rcases hp with hp | ⟨cs', mm', e⟩
    · omega
    · cases e
      exact h1 rfl
  exact (Below.heap_setCell _ _ _ _ hne).trans hj
theorem KeepF.grown {lo : Nat} {w W : World} {α : Type} {f : α → List Value} {k : Nat} {e : TypeId} {base : Nat} {v : Value} {l : List α} (h : OwnT f k e base w v l) (hg : w.grownBy W v.ownBlock) (hb : lo ≤ base) (h1 : e ≠ 32) : KeepF lo w W := fun j o hj hp => by
  refine (hg.block j (Array.getElem?_eq_some_iff.1 hj).1 (fun ee => ?_)).trans hj
  obtain ⟨cs, hcs, hbs⟩ := h.cells j ee.symm
  rw [hcs] at hj
  cases hj
  rcases hp with hp | ⟨cs', mm', e2⟩
  · omega
  · cases e2
    exact h1 rfl
theorem OwnFs.kept {base lo : Nat} {w0 w W : World} {v : Value} {l : List Feat} (h : OwnFs base w0 w v l) (hk : KeepF lo w W) : OwnFs base w0 W v l := by
  obtain ⟨items, e1, e2, e3⟩ := h
  refine ⟨items, e1, ⟨e2.1, ?_⟩, e3⟩
  rcases e2.2 with h | ⟨g, cap, cur, hv, hbg, hg', rest⟩
  · exact .inl h
  · exact .inr ⟨g, cap, cur, hv, hbg, hk _ _ hg' (.inr ⟨_, _, rfl⟩), rest⟩
/-- A list of features that stays while its rows do. -/
def StateAt (w0 w : World) (v : Value) (l : List Feat) : Prop := ∀ W, Below w0.heap.size w0 W → KeepF w0.heap.size w W → Feats2 w0 W v l
theorem StateAt.first {w0 w : World} {v : Value} {l : List Feat} (h : FeatsAt w0 v l) : StateAt w0 w v l := fun W hb _ => h.two hb
theorem StateAt.own {base : Nat} {w0 w : World} {v : Value} {l : List Feat} (h : OwnFs base w0 w v l) (hl : l.length ≤ 9223372036854775807) : StateAt w0 w v l := fun W hb hk => (h.kept hk).two hb hl
theorem StateAt.later {w0 w W : World} {v : Value} {l : List Feat} (h : StateAt w0 w v l) (hk : KeepF w0.heap.size w W) : StateAt w0 W v l := fun W2 hb h2 => h W2 hb (hk.trans h2)
theorem StateAt.two {w0 w W : World} {v : Value} {l : List Feat} (h : StateAt w0 w v l) (hb : Below w0.heap.size w0 W) (hk : KeepF w0.heap.size w W) : Feats2 w0 W v l := h W hb hk
/-- An own list of operations whose parts lie apart. -/
def OwnOp (lo base : Nat) (w : World) (v : Value) (l : List Opn) : Prop := ∃ items : List OItem, items.map Prod.fst = l ∧ OwnT opCells 16 34 base w v items ∧ ∀ x ∈ items, PartsSep lo w x.1.feat x.2.1 x.2.2
theorem OwnOp.nil (lo base : Nat) (w : World) : OwnOp lo base w (.slice none 0 0) [] := ⟨[], rfl, OwnT.nil _ _, fun x hx => by simp at hx⟩
theorem OwnOp.ops {lo base : Nat} {w : World} {v : Value} {l : List Opn} (h : OwnOp lo base w v l) (hl : l.length ≤ 9223372036854775807) : OpsAt w v l := by
  obtain ⟨items, h1, h2, h3⟩ := h
  exact OwnOs.ops (base := base) (w0 := w) ⟨items, h1, h2, fun x hx => (h3 x hx).parts⟩ (Below.refl _ _) hl
def OpsGive (r : List Opn) (k : Int) (w : World) (e : Ending) (w' : World) : Prop :=
  ∃ (ad : Option Addr) (c : Nat), e = .returned (.tuple #[.slice ad r.length c, .int .i64 k]) ∧ OpsAt w' (.slice ad r.length c) r ∧ Below w.heap.size w w'
theorem ops_give {r r' : List Opn} {k k' : Int} {w w' : World} {ad : Option Addr} {n c : Nat} (h : (r', k') = (r, k)) (hn : r'.length = n) (hf : OpsAt w' (.slice ad r'.length c) r') (hb : Below w.heap.size w w') : OpsGive r k w (.returned (.tuple #[.slice ad n c, .int .i64 k'])) w' := by
  subst hn
  cases h
  exact ⟨ad, c, rfl, hf, hb⟩
theorem trOps1_any (f : Feat) (b : Nat) (cs : Array Value) (id : Int) (va vs : Value) (w : World) (hb : w.heap[b]? = some (.cells cs 34 (0, 0))) (h1 : cs[1]? = some (.int .i64 id)) (hp : PartsAt w f va vs) {v : Bool} (hv : decide (f.id = id) = v) :
    Calls Tryz.prog 173 #[featV f va vs, .pointer (some ⟨b, 0, none⟩)] w fun e w' => e = .returned (.bool v) ∧ Below w.heap.size w w' := by
  obtain ⟨aa, ca, ab, cb, rfl, rfl⟩ := hp.form
  have HB := Lib.hid hb
  have H1 := Lib.hid h1
  have HV : Hid ((f.id == id) = v) := Lib.hid (by rw [← hv]; rfl)
  have c1 : ∀ ob, (w.alloc ob).cell? ⟨b, 1, none⟩ = some (.int .i64 id) := fun ob => by rw [cell_block (block_alloc HB.out), H1.out]
  clear hb h1 hp hv
  go_enter Tryz.func173, Tryz.ntmps173
  go_wp2_with fail
  go_returns
  exact ⟨ret_bool HV.out, by go_grown⟩
set_option maxHeartbeats 4000000 in
theorem ifFeat_at (l : List Feat) (v0 : Value) (b : Nat) (cs : Array Value) (id : Int) (w : World) (h : FeatsAt w v0 l) (hb : w.heap[b]? = some (.cells cs 34 (0, 0))) (h1 : cs[1]? = some (.int .i64 id)) {q : Nat} (hq : q < l.length) (hid : (l.getD q noFeat).id = id) (hno : ∀ i, i < q → (l.getD i noFeat).id ≠ id) :
    Calls Tryz.prog 172 #[v0, .func (.func 173) #[] #[.pointer (some ⟨b, 0, none⟩)]] w fun e w' => e = .returned (.int .i64 q) ∧ Below w.heap.size w w' := by
  obtain ⟨ad, c, rfl, h2, hn, hc⟩ := h.form
  have H := Lib.hid h2
  obtain ⟨n, hln⟩ : ∃ n, l.length = n := ⟨_, rfl⟩
  rw [hln] at H hn hc hq
  rw [hln]
  have HB := Lib.hid hb
  have H1 := Lib.hid h1
  have HID := Lib.hid hid
  have HNO := Lib.hid hno
  clear h h2 hln hb h1 hid hno
  go_enter Tryz.func172, Tryz.ntmps172
  go_wp2_with fail
  go_loopw [8] (fun i wr => ∃ k : Nat, k ≤ q ∧ i = .int .i64 k ∧ Below w.heap.size w wr) (fun i _ => n - (Go.RowKit.intOf i).toNat)
  case atStart => exact ⟨0, by omega, rfl, Below.refl _ _⟩
  case round =>
    obtain ⟨k, hk, rfl, hb⟩ := hrel
    have hlt : k < n := by omega
    obtain ⟨g, o, va, vs, rfl, fc⟩ := (H.out.later hb).row hlt
    obtain ⟨f, hf⟩ : ∃ f, l.getD k noFeat = f := ⟨_, rfl⟩
    rw [hf] at fc
    have HF := Lib.hid hf
    have PA : Hid (PartsAt wr f va vs) := Lib.hid ⟨fc.area, fc.secs⟩
    obtain ⟨aa, ca, ab, cb, rfl, rfl⟩ := PA.out.form
    have RG := Lib.hid fc.range
    obtain ⟨u, hu⟩ : ∃ u, decide (f.id = id) = u := ⟨_, rfl⟩
    have HU := Lib.hid hu
    clear fc hu hf
    go_wp2_with (first | (refine wpList_load_mid rfl _ _ rfl g (o + k * 9) rfl [.int .i64 f.id, .int .i64 f.kind, .int .i64 f.x, .int .i64 f.y, .int .i64 f.rad, .slice aa f.area.length ca, .int .i64 f.dep, .int .i64 f.sym, .slice ab f.secs.length cb] _ RG.out Tryz.underlying32 rfl (by kernel_rfl) ?_))
    (with_reducible refine (trOps1_any f b cs id _ _ _ (block_later hb HB.out) H1.out PA.out HU.out).mono ?_)
    rintro e w1 ⟨rfl, hb1⟩
    have hB1 := below_step hb hb1
    rcases Nat.lt_or_ge k q with hkq | hkq
    · obtain rfl : false = u := by rw [← HU.out]; exact (decide_eq_false (by rw [← HF.out]; exact HNO.out k hkq)).symm
      go_wp2_with fail
      go_roundw
      case rel => exact ⟨k + 1, by omega, by go_num, hB1⟩
      case measure => simp [Go.RowKit.intOf]; omega
    · obtain rfl : k = q := by omega
      obtain rfl : true = u := by rw [← HU.out]; exact (decide_eq_true (by rw [← HF.out]; exact HID.out)).symm
      go_wp2_with fail
      go_returns
      exact ⟨rfl, hB1⟩
end Go.Proofs.YtdmegkkifiahdaaGreat
