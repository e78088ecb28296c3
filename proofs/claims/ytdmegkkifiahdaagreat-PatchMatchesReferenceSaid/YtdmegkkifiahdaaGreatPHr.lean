import Derived.Test.YtdmegkkifiahdaaGreatPKL
import Derived.Test.YtdmegkkifiahdaaGreatPatSh4
import Derived.Test.YtdmegkkifiahdaaGreatPatComm
import Derived.Deep.CutRange
import Derived.Test.YtdmegkkifiahdaaGreatPRv
namespace Go.Proofs.YtdmegkkifiahdaaGreat
open Go.RowKit Go.Maps
set_option linter.unusedVariables false
def fldS (s : SaidS) (k : Int) : Option Opn := if k = 3 then s.mv else if k = 4 then s.dp else s.sy
def FldK (k : Int) : Prop := k = 3 ∨ k = 4 ∨ k = 5
def FldM (w0 w : World) (m n : Nat) (s : SaidS) : Prop := ∃ D : DataW Value, w.ownsMap Tryz.prog 3 heldV m n D ∧ (∀ kl, Maps.has D kl = true → ∃ k, FldK k ∧ kl = keyI k) ∧ ∀ k, FldK k → (fldS s k = none → Maps.has D (keyI k) = false) ∧ ∀ o, fldS s k = some o → ∃ va vs, Maps.has D (keyI k) = true ∧ (∀ z, D.atKey (keyI k) z = .held (opV o va vs)) ∧ PartsAt w0 o.feat va vs
theorem FldM.lt {w0 w : World} {m n : Nat} {s : SaidS} (h : FldM w0 w m n s) : m < w.heap.size := by
 obtain ⟨D, ho, _⟩ := h
 exact ho.lt
theorem FldM.keep {w0 w w' : World} {m n : Nat} {s : SaidS} (h : FldM w0 w m n s) (e : w'.heap[m]? = w.heap[m]?) : FldM w0 w' m n s := by
 obtain ⟨D, ⟨es, clock, hh, r⟩, hr⟩ := h
 exact ⟨D, ⟨es, clock, e.trans hh, r⟩, hr⟩
theorem FldM.mono {w0 w : World} {m n n' : Nat} {s : SaidS} (h : FldM w0 w m n s) (hn : n ≤ n') : FldM w0 w m n' s := by
 obtain ⟨D, ho, hr⟩ := h
 exact ⟨D, ho.mono hn, hr⟩
theorem FldM.state {w0 w : World} {m n : Nat} {s s' : SaidS} (h : FldM w0 w m n s) (h1 : s'.mv = s.mv) (h2 : s'.dp = s.dp) (h3 : s'.sy = s.sy) : FldM w0 w m n s' := by
 obtain ⟨D, ho, hk, hr⟩ := h
 have e : ∀ k, fldS s' k = fldS s k := fun k => by unfold fldS; rw [h1, h2, h3]
 exact ⟨D, ho, hk, fun k hkk => by rw [e]; exact hr k hkk⟩
theorem FldM.made (w0 w : World) (s : SaidS) (h1 : s.mv = none) (h2 : s.dp = none) (h3 : s.sy = none) : FldM w0 (w.alloc (.map #[] 0)) w.heap.size 0 s :=
 ⟨.map [], World.ownsMap_made w _ _ _, fun kl h => by simp [Maps.has] at h, fun k hk => ⟨fun _ => by simp [Maps.has], fun o ho => by
  unfold fldS at ho
  rw [h1, h2, h3] at ho
  split at ho
  · cases ho
  · split at ho <;> cases ho⟩⟩
theorem fldS_put {s : SaidS} {o : Opn} (hk : FldK o.kind) (k : Int) (hkk : FldK k) : fldS (putS s o) k = if k = o.kind then some o else fldS s k := by
 unfold fldS putS
 rcases hk with h | h | h <;> rcases hkk with h' | h' | h' <;> simp [h, h']
theorem fld_store {w0 w : World} {m n : Nat} {s : SaidS} (h : FldM w0 w m n s) {t : TypeId} (ht : Tryz.prog.underlying t = some (.map 3 34)) {o : Opn} {va vs : Value} (hk : FldK o.kind) (hp : PartsAt w0 o.feat va vs) (hn : n < maxLen) :
  ∃ w', (Instr.mapUpdate t (.map (some m)) (.int .i64 o.kind) (opV o va vs)).run Tryz.prog w = .ok () w' ∧ FldM w0 w' m (n + 1) (putS s o) ∧ w.mapTurned w' m := by
 obtain ⟨D, ho, h1, h2⟩ := h
 have hw : (Lit.int .i64 o.kind).wf = true := by rcases hk with h | h | h <;> rw [h] <;> decide
 obtain ⟨w', hrun, ho', ht'⟩ := ho.store intKeyed ht hn (key_of hw) (rfl : heldV (opV o va vs) = some (.held (opV o va vs), []))
 refine ⟨w', hrun, ⟨_, ho', fun kl hkl => ?_, fun k hkk => ?_⟩, ht'⟩
 · by_cases e : kl = keyI o.kind
   · exact ⟨o.kind, hk, e⟩
   · rw [has_put_other e] at hkl
     exact h1 kl hkl
 · rw [fldS_put hk k hkk]
   by_cases e : k = o.kind
   · subst e
     rw [if_pos rfl]
     refine ⟨fun h => (by cases h), fun p hpp => ?_⟩
     cases hpp
     exact ⟨va, vs, has_put_same ho.isMap (keyI_lit _) _, fun z => atKey_put_same ho.isMap (keyI_lit _) _ z, hp⟩
   · rw [if_neg e]
     have hne : keyI k ≠ keyI o.kind := fun e2 => e (keyI_inj e2)
     obtain ⟨q1, q2⟩ := h2 k hkk
     refine ⟨fun hn => by rw [has_put_other hne]; exact q1 hn, fun p hpp => ?_⟩
     obtain ⟨va', vs', r1, r2, r3⟩ := q2 p hpp
     exact ⟨va', vs', by rw [has_put_other hne]; exact r1, fun z => by rw [atKey_put_other hne]; exact r2 z, r3⟩
theorem zero_op (w : World) : (zeroValue 34).run Tryz.prog w = .ok (opV noOpn (.slice none 0 0) (.slice none 0 0)) w := by kernel_rfl
theorem fld_look {w0 w : World} {m n : Nat} {s : SaidS} (h : FldM w0 w m n s) {t : TypeId} (ht : Tryz.prog.underlying t = some (.map 3 34)) {k : Int} (hk : FldK k) {o : Opn} (hs : fldS s k = some o) :
  ∃ va vs, (Instr.lookup t (.map (some m)) (.int .i64 k) false).run Tryz.prog w = .ok (opV o va vs) w ∧ PartsAt w0 o.feat va vs := by
 obtain ⟨D, ho, h1, h2⟩ := h
 have hw : (Lit.int .i64 k).wf = true := by rcases hk with h | h | h <;> rw [h] <;> decide
 obtain ⟨va, vs, q1, q2, q3⟩ := (h2 k hk).2 o hs
 obtain ⟨v, ps, hrun, hv⟩ := ho.lookup intKeyed ht (zero_op w) rfl (key_of hw)
 rw [q2] at hv
 simp only [heldV, Option.some.injEq, Prod.mk.injEq] at hv
 have e : v = opV o va vs := by have := hv.1; cases this; rfl
 exact ⟨va, vs, by rw [← e]; exact hrun, q3⟩
def kindsS (s : SaidS) : List Int := (if s.mv.isSome = true then [3] else []) ++ (if s.dp.isSome = true then [4] else []) ++ (if s.sy.isSome = true then [5] else [])
theorem mem_kinds (s : SaidS) (k : Int) : k ∈ kindsS s ↔ FldK k ∧ (fldS s k).isSome = true := by
 have e : k ∈ kindsS s ↔ (s.mv.isSome = true ∧ k = 3) ∨ (s.dp.isSome = true ∧ k = 4) ∨ (s.sy.isSome = true ∧ k = 5) := by
  unfold kindsS
  cases s.mv <;> cases s.dp <;> cases s.sy <;> simp
 rw [e]
 constructor
 · rintro (⟨h, rfl⟩ | ⟨h, rfl⟩ | ⟨h, rfl⟩)
   · exact ⟨.inl rfl, h⟩
   · exact ⟨.inr (.inl rfl), h⟩
   · exact ⟨.inr (.inr rfl), h⟩
 · rintro ⟨rfl | rfl | rfl, h⟩
   · exact .inl ⟨h, rfl⟩
   · exact .inr (.inl ⟨h, rfl⟩)
   · exact .inr (.inr ⟨h, rfl⟩)
theorem kinds_up (s : SaidS) : (kindsS s).Pairwise (· < ·) := by
 unfold kindsS
 cases s.mv <;> cases s.dp <;> cases s.sy <;> simp
theorem fld_keys {w0 w : World} {m n : Nat} {s : SaidS} (h : FldM w0 w m n s) : ∃ D : DataW Value, w.ownsMap Tryz.prog 3 heldV m n D ∧ Maps.size D ≤ n ∧ ∀ ss : List Int, ss.Perm (intKeys D) → ss.mergeSort leI = kindsS s := by
 obtain ⟨D, ho, h1, h2⟩ := h
 refine ⟨D, ho, ho.size_le, fun ss hss => ?_⟩
 obtain ⟨es, rfl, hpw, hkl⟩ := ho.entries intKeyed
 have hp : (kindsS s).Perm (intKeys (.map es)) := by
  refine perm_intKeys hpw (fun p hp => ?_) ((kinds_up s).imp fun h e => by omega) fun x => ?_
  · have : Maps.has (DataW.map es) p.1 = true := by
     rw [has_eq, List.any_eq_true]
     exact ⟨p, hp, WideAt.sameKey_self (hkl p hp)⟩
    obtain ⟨k, _, e⟩ := h1 _ this
    exact ⟨_, e⟩
  · rw [mem_kinds]
    constructor
    · rintro ⟨hk, hs⟩
      obtain ⟨o, ho⟩ := Option.isSome_iff_exists.1 hs
      obtain ⟨_, _, q, _⟩ := (h2 x hk).2 o ho
      exact q
    · intro hx
      obtain ⟨k, hk, e⟩ := h1 _ hx
      have e2 := keyI_inj e
      subst e2
      refine ⟨hk, ?_⟩
      cases hf : fldS s x with
      | some o => rfl
      | none =>
        have := (h2 x hk).1 hf
        rw [hx] at this
        cases this
 rw [mergeSort_of_perm_i (hss.trans hp.symm)]
 exact List.mergeSort_of_pairwise ((kinds_up s).imp fun h => by simp [leI]; omega)
theorem fields_kinds (s : SaidS) : ∃ F : Int → Opn, fieldsS s = (kindsS s).map F ∧ ∀ k ∈ kindsS s, fldS s k = some (F k) := by
 refine ⟨fun k => (fldS s k).getD noOpn, ?_, fun k hk => ?_⟩
 · unfold fieldsS kindsS fldS
   cases s.mv <;> cases s.dp <;> cases s.sy <;> simp
 · obtain ⟨o, ho⟩ := Option.isSome_iff_exists.1 ((mem_kinds s k).1 hk).2
   show fldS s k = some ((fldS s k).getD noOpn)
   rw [ho]
   rfl
theorem wp_fldStore {o : Oper} {a : Act} {K : Act → World → Prop} {Q : Exit → Act → World → Prop} {w : World} (mp x v : Operand) (t : TypeId) (hop : o.op = Op.mapUpdate t mp x v) (ht : Tryz.prog.underlying t = some (.map 3 34)) {w0 : World} {m n : Nat} {s : SaidS} {p : Opn} {va vs : Value} (hm : a.eval mp = .map (some m)) (hx : a.eval x = .int .i64 p.kind) (hv : a.eval v = opV p va vs) (h : FldM w0 w m n s) (hk : FldK p.kind) (hp : PartsAt w0 p.feat va vs) (hn : n < maxLen)
  (hK : ∀ w', FldM w0 w' m (n + 1) (putS s p) → w.mapTurned w' m → K (a.put o.dst undef) w') : o.wp Tryz.prog a w K Q := by
 obtain ⟨w', hrun, r1, r2⟩ := fld_store h ht hk hp hn
 unfold Oper.wp
 simp [execOp, hop, hm, hx, hv, hrun, Result.andThen]
 exact hK w' r1 r2
theorem wpList_fldLook {ops : Array Oper} {rest : List Oper} {o : Oper} {a : Act} {Q : Exit → Act → World → Prop} {w : World} (hg : o.guard = none) (mp x : Operand) (t : TypeId) (hop : o.op = Op.lookup t mp x false) (ht : Tryz.prog.underlying t = some (.map 3 34)) {w0 : World} {m n : Nat} {s : SaidS} {k : Int} {p : Opn} (hm : a.eval mp = .map (some m)) (hx : a.eval x = .int .i64 k) (h : FldM w0 w m n s) (hk : FldK k) (hs : fldS s k = some p)
  (hK : ∀ va vs, PartsAt w0 p.feat va vs → wpList Tryz.prog ops Q rest (a.put o.dst (opV p va vs)) w) : wpList Tryz.prog ops Q (o :: rest) a w := by
 refine wpList_plain hg fun K' hK' => ?_
 obtain ⟨va, vs, hrun, hp⟩ := fld_look h ht hk hs
 unfold Oper.wp
 simp [execOp, hop, hm, hx, hrun, Result.andThen]
 exact hK' _ _ (hK va vs hp)
end Go.Proofs.YtdmegkkifiahdaaGreat
namespace Go.Proofs.YtdmegkkifiahdaaGreat
open Go.RowKit
attribute [local go_sem] bqOp bqAll bqUpon sqOp sqAll sqUpon ssAll
attribute [local irreducible] wpQuiet wpBQ wpPlan wsPlan
set_option linter.unusedVariables false
structure Wr2 (B m : Nat) (w w' : World) : Prop where
 os : w'.os = w.os
 tape : w'.tape = w.tape
 output : w'.output = w.output
 size : w.heap.size ≤ w'.heap.size
 block : ∀ k, k < w.heap.size → k ≠ B → k ≠ m → w'.heap[k]? = w.heap[k]?
theorem Wr2.of_below {B m : Nat} {w w' : World} (h : Below w.heap.size w w') : Wr2 B m w w' := ⟨h.os, h.tape, h.output, h.size, fun k hk _ _ => h.block k hk⟩
theorem Wr2.trans {B m : Nat} {w1 w2 w3 : World} (h : Wr2 B m w1 w2) (k : Wr2 B m w2 w3) : Wr2 B m w1 w3 :=
 ⟨k.os.trans h.os, k.tape.trans h.tape, k.output.trans h.output, Nat.le_trans h.size k.size, fun i hi h1 h2 => (k.block i (Nat.lt_of_lt_of_le hi h.size) h1 h2).trans (h.block i hi h1 h2)⟩
theorem Wr2.setCell {B m i : Nat} {w w' : World} (h : Wr2 B m w w') (v : Value) : Wr2 B m w (w'.setCell ⟨B, i, none⟩ v) :=
 have hb := (Below.refl 0 w').setCell (p := ⟨B, i, none⟩) (Nat.zero_le _) v
 h.trans ⟨hb.os, hb.tape, hb.output, hb.size, fun k hk h1 _ => Below.heap_setCell _ _ _ _ h1⟩
theorem Wr2.drew {B m : Nat} {w w' : World} (h : Wr2 B m w w') : Wr2 B m w w'.drew := ⟨h.os, h.tape, h.output, h.size, h.block⟩
theorem Wr2.turned {B m : Nat} {w w' w2 : World} (h : Wr2 B m w w') (ht : w'.mapTurned w2 m) : Wr2 B m w w2 :=
 h.trans ⟨ht.grown.os, ht.grown.tape, ht.grown.output, ht.grown.size, fun k hk _ h2 => ht.grown.block k hk (fun e => h2 (Option.some.inj e))⟩
theorem Wr2.block_ne {B m i : Nat} {w w' : World} {o : Obj} (h : Wr2 B m w w') (hi : w.heap[i]? = some o) (h1 : i ≠ B) (h2 : i ≠ m) : w'.heap[i]? = some o := (h.block i (lt_block hi) h1 h2).trans hi
theorem there_block {w : World} {B o n : Nat} {cs : Array Value} {T : TypeId} (h : w.heap[B]? = some (.cells cs T (0, 0))) (hle : o + n ≤ cs.size) : w.there B o n := fun j hj => ⟨by
 rw [cell_block h, Array.getElem?_eq_getElem (by omega)]
 rfl, free_block h _⟩
theorem KeepB.setCells {W w : World} {g : Nat} {bs : List Nat} (h : KeepB W 0 bs w) (hb : g ∉ bs) : ∀ (vs : List Value) (o : Nat), KeepB W 0 bs (w.setCells g o vs)
 | [], o => h
 | v :: vs, o => (h.setCell (Nat.zero_le _) hb v).setCells hb vs (o + 1)
theorem said_put {w wn : World} {B m : Nat} {x0 x1 x2 x3 x4 x5 x6 x7 x8 x9 x10 x11 x12 x13 x14 y5 y6 y7 y8 y9 y10 y11 y12 y13 : Value} {T : TypeId} (h : wn = (((((((((w.setCell ⟨B, 5, none⟩ y5).setCell ⟨B, 6, none⟩ y6).setCell ⟨B, 7, none⟩ y7).setCell ⟨B, 8, none⟩ y8).setCell ⟨B, 9, none⟩ y9).setCell ⟨B, 10, none⟩ y10).setCell ⟨B, 11, none⟩ y11).setCell ⟨B, 12, none⟩ y12).setCell ⟨B, 13, none⟩ y13)) (hb : w.heap[B]? = some (.cells #[x0, x1, x2, x3, x4, x5, x6, x7, x8, x9, x10, x11, x12, x13, x14] T (0, 0))) :
  wn.heap[B]? = some (.cells #[x0, x1, x2, x3, x4, y5, y6, y7, y8, y9, y10, y11, y12, y13, x14] T (0, 0)) ∧ (∀ k, k ≠ B → wn.heap[k]? = w.heap[k]?) ∧ Wr2 B m w wn ∧ ∀ (W : World) (bs : List Nat), B ∉ bs → KeepB W 0 bs w → KeepB W 0 bs wn := by
 subst h
 refine ⟨by simpa using (block_set (i := 13) (block_set (i := 12) (block_set (i := 11) (block_set (i := 10) (block_set (i := 9) (block_set (i := 8) (block_set (i := 7) (block_set (i := 6) (block_set (i := 5) hb y5) y6) y7) y8) y9) y10) y11) y12) y13), fun k hk => (Below.heap_setCell _ _ _ _ hk).trans ((Below.heap_setCell _ _ _ _ hk).trans ((Below.heap_setCell _ _ _ _ hk).trans ((Below.heap_setCell _ _ _ _ hk).trans ((Below.heap_setCell _ _ _ _ hk).trans ((Below.heap_setCell _ _ _ _ hk).trans ((Below.heap_setCell _ _ _ _ hk).trans ((Below.heap_setCell _ _ _ _ hk).trans ((Below.heap_setCell _ _ _ _ hk).trans (rfl))))))))), ((((((((((Wr2.of_below (Below.refl _ w)).setCell _).setCell _).setCell _).setCell _).setCell _).setCell _).setCell _).setCell _).setCell _), fun W bs hB h => ?_⟩
 exact (((((((((h.setCell (Nat.zero_le _) hB _).setCell (Nat.zero_le _) hB _).setCell (Nat.zero_le _) hB _).setCell (Nat.zero_le _) hB _).setCell (Nat.zero_le _) hB _).setCell (Nat.zero_le _) hB _).setCell (Nat.zero_le _) hB _).setCell (Nat.zero_le _) hB _).setCell (Nat.zero_le _) hB _)
def saidC (s : SaidS) (va vs : Value) (m : Nat) : Array Value := #[.bool s.begun, .bool s.before, .bool s.deleted, .bool s.there, .bool s.known, .int .i64 s.feat.id, .int .i64 s.feat.kind, .int .i64 s.feat.x, .int .i64 s.feat.y, .int .i64 s.feat.rad, va, .int .i64 s.feat.dep, .int .i64 s.feat.sym, vs, .map (some m)]
def SaidAt (w0 w : World) (B m n : Nat) (s : SaidS) : Prop := ∃ va vs, w.heap[B]? = some (.cells (saidC s va vs m) 117 (0, 0)) ∧ PartsAt w0 s.feat va vs ∧ FldM w0 w m n s
def HearP (w0 : World) (B m n : Nat) (s : SaidS) (o : Opn) (w : World) (e : Ending) (w' : World) : Prop := e = .returned (.bool (hearS s o).2) ∧ ((hearS s o).2 = true → SaidAt w0 w' B m (n + 1) (hearS s o).1) ∧ Wr2 B m w w'
set_option maxHeartbeats 4000000 in
theorem hear_twice (B m n : Nat) (before deleted there known : Bool) (f : Feat) (mv dp sy : Option Opn) (o : Opn) (fa fb aa ab : Option Addr) (n1 n2 m1 m2 fc fd ca cb : Nat) (w0 w : World) (hq : w.heap[B]? = some (.cells #[.bool true, .bool before, .bool deleted, .bool there, .bool known, .int .i64 f.id, .int .i64 f.kind, .int .i64 f.x, .int .i64 f.y, .int .i64 f.rad, (.slice fa n1 fc), .int .i64 f.dep, .int .i64 f.sym, (.slice fb n2 fd), .map (some m)] 117 (0, 0))) (hf : PartsAt w0 f (.slice fa n1 fc) (.slice fb n2 fd)) (hm : FldM w0 w m n ⟨true, before, deleted, there, known, f, mv, dp, sy⟩) (hne : B ≠ m) (ho : PartsAt w0 o.feat (.slice aa m1 ca) (.slice ab m2 cb)) (k1 : o.kind = 1) (ht : there = true) : Calls Tryz.prog 92 #[.pointer (some ⟨B, 0, none⟩), opV o (.slice aa m1 ca) (.slice ab m2 cb)] w (HearP w0 B m n ⟨true, before, deleted, there, known, f, mv, dp, sy⟩ o w) := by
 have HE : Hid (hearS ⟨true, before, deleted, there, known, f, mv, dp, sy⟩ o = (⟨true, before, deleted, there, known, f, mv, dp, sy⟩, false)) := Lib.hid (by unfold hearS beginS stepS; simp [k1, ht])
 have Q0 := Lib.hid hq
 have FM := Lib.hid hm
 have PF := Lib.hid hf
 have PO := Lib.hid ho
 have hml := hm.lt
 have hBl := lt_block hq
 clear hq hm hf ho
 have d1 : (o.kind == 1) = true := by simpa using k1
 subst ht
 clear k1
 go_enter Tryz.func92, Tryz.ntmps92
 go_upto_region 2 with (fail)
 refine wp_named fun W hW => ?_
 obtain ⟨p1, hB⟩ := box1 hW
 clear hW
 have q1 := block_later hB Q0.out
 have F1 := Lib.hid (FM.out.keep (hB.block m hml))
 have R1 : Wr2 B m w W := Wr2.of_below hB
 have k0 := cell_block q1 0
 have k3 := cell_block q1 3
 have kf := free_block q1
 have c0 := cell_block p1 0
 go_wp2_with fail
 go_returns
 exact ⟨(by rw [HE.out]; first | done | rfl), fun h => (by rw [HE.out] at h; cases h), R1⟩
set_option maxHeartbeats 4000000 in
theorem hear_none (B m n : Nat) (before deleted there known : Bool) (f : Feat) (mv dp sy : Option Opn) (o : Opn) (fa fb aa ab : Option Addr) (n1 n2 m1 m2 fc fd ca cb : Nat) (w0 w : World) (hq : w.heap[B]? = some (.cells #[.bool true, .bool before, .bool deleted, .bool there, .bool known, .int .i64 f.id, .int .i64 f.kind, .int .i64 f.x, .int .i64 f.y, .int .i64 f.rad, (.slice fa n1 fc), .int .i64 f.dep, .int .i64 f.sym, (.slice fb n2 fd), .map (some m)] 117 (0, 0))) (hf : PartsAt w0 f (.slice fa n1 fc) (.slice fb n2 fd)) (hm : FldM w0 w m n ⟨true, before, deleted, there, known, f, mv, dp, sy⟩) (hne : B ≠ m) (ho : PartsAt w0 o.feat (.slice aa m1 ca) (.slice ab m2 cb)) (k1 : ¬ o.kind = 1) (ht : there = false) : Calls Tryz.prog 92 #[.pointer (some ⟨B, 0, none⟩), opV o (.slice aa m1 ca) (.slice ab m2 cb)] w (HearP w0 B m n ⟨true, before, deleted, there, known, f, mv, dp, sy⟩ o w) := by
 have HE : Hid (hearS ⟨true, before, deleted, there, known, f, mv, dp, sy⟩ o = (⟨true, before, deleted, there, known, f, mv, dp, sy⟩, false)) := Lib.hid (by unfold hearS beginS stepS; simp [k1, ht])
 have Q0 := Lib.hid hq
 have FM := Lib.hid hm
 have PF := Lib.hid hf
 have PO := Lib.hid ho
 have hml := hm.lt
 have hBl := lt_block hq
 clear hq hm hf ho
 have d1 : (o.kind == 1) = false := by simpa using k1
 subst ht
 clear k1
 go_enter Tryz.func92, Tryz.ntmps92
 go_upto_region 2 with (fail)
 refine wp_named fun W hW => ?_
 obtain ⟨p1, hB⟩ := box1 hW
 clear hW
 have q1 := block_later hB Q0.out
 have F1 := Lib.hid (FM.out.keep (hB.block m hml))
 have R1 : Wr2 B m w W := Wr2.of_below hB
 have k0 := cell_block q1 0
 have k3 := cell_block q1 3
 have kf := free_block q1
 have c0 := cell_block p1 0
 go_wp2_with fail
 go_returns
 exact ⟨(by rw [HE.out]; first | done | rfl), fun h => (by rw [HE.out] at h; cases h), R1⟩
set_option maxHeartbeats 4000000 in
theorem hear_ins (B m n : Nat) (before deleted there known : Bool) (f : Feat) (mv dp sy : Option Opn) (o : Opn) (fa fb aa ab : Option Addr) (n1 n2 m1 m2 fc fd ca cb : Nat) (w0 w : World) (hq : w.heap[B]? = some (.cells #[.bool true, .bool before, .bool deleted, .bool there, .bool known, .int .i64 f.id, .int .i64 f.kind, .int .i64 f.x, .int .i64 f.y, .int .i64 f.rad, (.slice fa n1 fc), .int .i64 f.dep, .int .i64 f.sym, (.slice fb n2 fd), .map (some m)] 117 (0, 0))) (hf : PartsAt w0 f (.slice fa n1 fc) (.slice fb n2 fd)) (hm : FldM w0 w m n ⟨true, before, deleted, there, known, f, mv, dp, sy⟩) (hne : B ≠ m) (ho : PartsAt w0 o.feat (.slice aa m1 ca) (.slice ab m2 cb)) (k1 : o.kind = 1) (ht : there = false) : Calls Tryz.prog 92 #[.pointer (some ⟨B, 0, none⟩), opV o (.slice aa m1 ca) (.slice ab m2 cb)] w (HearP w0 B m n ⟨true, before, deleted, there, known, f, mv, dp, sy⟩ o w) := by
 have HE : Hid (hearS ⟨true, before, deleted, there, known, f, mv, dp, sy⟩ o = (⟨true, before, deleted, true, true, o.feat, mv, dp, sy⟩, true)) := Lib.hid (by unfold hearS beginS stepS; simp [k1, ht])
 have Q0 := Lib.hid hq
 have FM := Lib.hid hm
 have PF := Lib.hid hf
 have PO := Lib.hid ho
 have hml := hm.lt
 have hBl := lt_block hq
 clear hq hm hf ho
 have d1 : (o.kind == 1) = true := by simpa using k1
 subst ht
 clear k1
 go_enter Tryz.func92, Tryz.ntmps92
 go_upto_region 2 with (fail)
 refine wp_named fun W hW => ?_
 obtain ⟨p1, hB⟩ := box1 hW
 clear hW
 have q1 := block_later hB Q0.out
 have F1 := Lib.hid (FM.out.keep (hB.block m hml))
 have R1 : Wr2 B m w W := Wr2.of_below hB
 have F8 : ∀ w', KeepB W 0 [w.heap.size] w' → ∀ i, w'.cell? ⟨w.heap.size, i, none⟩ = #[.int .i64 o.kind, .int .i64 o.id, .int .i64 o.feat.id, .int .i64 o.feat.kind, .int .i64 o.feat.x, .int .i64 o.feat.y, .int .i64 o.feat.rad, (.slice aa m1 ca), .int .i64 o.feat.dep, .int .i64 o.feat.sym, (.slice ab m2 cb), .int .i64 o.x, .int .i64 o.y, .int .i64 o.rad, .int .i64 o.dep, .int .i64 o.sym][i]? := fun w' hw i => cell_block (hw.at (by simp) p1) i
 have k0 := cell_block q1 0
 have k1 := cell_block q1 1
 have k2 := cell_block q1 2
 have k3 := cell_block q1 3
 have k4 := cell_block q1 4
 have k5 := cell_block q1 5
 have k6 := cell_block q1 6
 have k7 := cell_block q1 7
 have k8 := cell_block q1 8
 have k9 := cell_block q1 9
 have k10 := cell_block q1 10
 have k11 := cell_block q1 11
 have k12 := cell_block q1 12
 have k13 := cell_block q1 13
 have k14 := cell_block q1 14
 have kf := free_block q1
 have c0 := cell_block p1 0
 go_upto_region 8 with (fail)
 refine wp_region_planS (KeepB W 0 [w.heap.size]) (.take 0 (.take 0 (.take 0 (.take 0 (.take 0 (.take 0 (.take 0 (.only 0 (.take 0 (.take 0 (.only 0 (.take 0 (.take 0 (.only 0 .done)))))))))))))) (by kernel_rfl) (by kernel_rfl) (KeepB.refl) (fun hP => ?_)
 iterate 7 (refine wsPlan_take rfl (fun K hK => ?_); replace hK := Lib.hid hK; go_simp; first | (refine hK.out _ ?_; clear hK K) | (apply Exists.intro; refine ⟨fun w' hw => ?_, hK.out _ ?_⟩; (first | with_reducible exact rfl | (have f8 := F8 w' hw; go_simp; exact rfl)); clear hK K))
 (refine wsPlan_only rfl (fun K hK => ?_); replace hK := Lib.hid hK; go_simp; refine hK.out _ _ (by exact (hP.setCell (Nat.zero_le _) (by simp <;> omega) _)) (fun hP => ?_); clear hK K)
 iterate 2 (refine wsPlan_take rfl (fun K hK => ?_); replace hK := Lib.hid hK; go_simp; first | (refine hK.out _ ?_; clear hK K) | (apply Exists.intro; refine ⟨fun w' hw => ?_, hK.out _ ?_⟩; (first | with_reducible exact rfl | (have f8 := F8 w' hw; go_simp; exact rfl)); clear hK K))
 (refine wsPlan_only rfl (fun K hK => ?_); replace hK := Lib.hid hK; go_simp; refine hK.out _ _ (by exact (hP.setCell (Nat.zero_le _) (by simp <;> omega) _)) (fun hP => ?_); clear hK K)
 iterate 2 (refine wsPlan_take rfl (fun K hK => ?_); replace hK := Lib.hid hK; go_simp; first | (refine hK.out _ ?_; clear hK K) | (apply Exists.intro; refine ⟨fun w' hw => ?_, hK.out _ ?_⟩; (first | with_reducible exact rfl | (have f8 := F8 w' hw; go_simp; exact rfl)); clear hK K))
 refine ws_storeMid rfl rfl 32 _ _ rfl B 5 (#[.int .i64 o.feat.id, .int .i64 o.feat.kind, .int .i64 o.feat.x, .int .i64 o.feat.y, .int .i64 o.feat.rad, (.slice aa m1 ca), .int .i64 o.feat.dep, .int .i64 o.feat.sym, (.slice ab m2 cb)]) rfl rfl (there_block (block_set (block_set q1 _) _) (by simp)) (by kernel_rfl) (by kernel_rfl) (KeepB.setCells ((KeepB.refl.setCell (Nat.zero_le _) (by simp <;> omega) _).setCell (Nat.zero_le _) (by simp <;> omega) _) (by simp <;> omega) _ _) ?_
 refine wsPlan_done ?_
 simp only [Act.put, List.setIfInBounds_toArray, List.set_cons_zero, List.set_cons_succ]
 clear F8 k0 k1 k2 k3 k4 k5 k6 k7 k8 k9 k10 k11 k12 k13 k14 kf c0
 go_wp2_with fail
 refine body_named fun W9 hW => ?_
 have qa : ((W.drew.setCell ⟨B, 3, none⟩ (.bool true)).setCell ⟨B, 4, none⟩ (.bool true)).heap[B]? = some (.cells #[.bool true, .bool before, .bool deleted, .bool true, .bool true, .int .i64 f.id, .int .i64 f.kind, .int .i64 f.x, .int .i64 f.y, .int .i64 f.rad, (.slice fa n1 fc), .int .i64 f.dep, .int .i64 f.sym, (.slice fb n2 fd), .map (some m)] 117 (0, 0)) := block_set (block_set q1 _) _
 obtain ⟨q9, hot, hwr, _⟩ := said_put (m := m) (hW : W9 = _) qa
 clear hW
 have F9 := Lib.hid (F1.out.keep ((hot m hne.symm).trans ((Below.heap_setCell _ _ _ _ (show m ≠ B by omega)).trans ((Below.heap_setCell _ _ _ _ (show m ≠ B by omega)).trans (rfl)))))
 have R9 : Wr2 B m w W9 := ((R1.drew.setCell _).setCell _).trans hwr
 go_returns
 exact ⟨(by rw [HE.out]; first | done | rfl), fun _ => (by rw [HE.out]; exact ⟨_, _, q9, PO.out, (F9.out.state rfl rfl rfl).mono (by omega)⟩), R9⟩
set_option maxHeartbeats 4000000 in
theorem hear_ins0 (B m n : Nat) (before deleted there known : Bool) (f : Feat) (mv dp sy : Option Opn) (o : Opn) (fa fb aa ab : Option Addr) (n1 n2 m1 m2 fc fd ca cb : Nat) (w0 w : World) (hq : w.heap[B]? = some (.cells #[.bool false, .bool before, .bool deleted, .bool there, .bool known, .int .i64 f.id, .int .i64 f.kind, .int .i64 f.x, .int .i64 f.y, .int .i64 f.rad, (.slice fa n1 fc), .int .i64 f.dep, .int .i64 f.sym, (.slice fb n2 fd), .map (some m)] 117 (0, 0))) (hf : PartsAt w0 f (.slice fa n1 fc) (.slice fb n2 fd)) (hm : FldM w0 w m n ⟨false, before, deleted, there, known, f, mv, dp, sy⟩) (hne : B ≠ m) (ho : PartsAt w0 o.feat (.slice aa m1 ca) (.slice ab m2 cb)) (k1 : o.kind = 1) : Calls Tryz.prog 92 #[.pointer (some ⟨B, 0, none⟩), opV o (.slice aa m1 ca) (.slice ab m2 cb)] w (HearP w0 B m n ⟨false, before, deleted, there, known, f, mv, dp, sy⟩ o w) := by
 have HE : Hid (hearS ⟨false, before, deleted, there, known, f, mv, dp, sy⟩ o = (⟨true, false, deleted, true, true, o.feat, mv, dp, sy⟩, true)) := Lib.hid (by unfold hearS beginS stepS; simp [k1])
 have Q0 := Lib.hid hq
 have FM := Lib.hid hm
 have PF := Lib.hid hf
 have PO := Lib.hid ho
 have hml := hm.lt
 have hBl := lt_block hq
 clear hq hm hf ho
 have d1 : (o.kind == 1) = true := by simpa using k1
 clear k1
 go_enter Tryz.func92, Tryz.ntmps92
 go_upto_region 2 with (fail)
 refine wp_named fun W hW => ?_
 obtain ⟨p1, hB⟩ := box1 hW
 clear hW
 have q1 := block_later hB Q0.out
 have F1 := Lib.hid (FM.out.keep (hB.block m hml))
 have R1 : Wr2 B m w W := Wr2.of_below hB
 have k0 := cell_block q1 0
 have k1 := cell_block q1 1
 have k2 := cell_block q1 2
 have k3 := cell_block q1 3
 have k4 := cell_block q1 4
 have k5 := cell_block q1 5
 have k6 := cell_block q1 6
 have k7 := cell_block q1 7
 have k8 := cell_block q1 8
 have k9 := cell_block q1 9
 have k10 := cell_block q1 10
 have k11 := cell_block q1 11
 have k12 := cell_block q1 12
 have k13 := cell_block q1 13
 have k14 := cell_block q1 14
 have kf := free_block q1
 have c0 := cell_block p1 0
 go_upto_region 4 with (fail)
 refine wp_named fun W2 hW => ?_
 clear k0 k1 k2 k3 k4 k5 k6 k7 k8 k9 k10 k11 k12 k13 k14 kf c0
 have q2 : W2.heap[B]? = some (.cells #[.bool true, .bool false, .bool deleted, .bool false, .bool known, .int .i64 f.id, .int .i64 f.kind, .int .i64 f.x, .int .i64 f.y, .int .i64 f.rad, (.slice fa n1 fc), .int .i64 f.dep, .int .i64 f.sym, (.slice fb n2 fd), .map (some m)] 117 (0, 0)) := by rw [hW]; exact (block_set (block_set (block_set q1 _) _) _)
 have p2 := (congrArg (fun X : World => X.heap[w.heap.size]?) hW).trans ((Below.heap_setCell _ _ _ _ (show w.heap.size ≠ B by omega)).trans ((Below.heap_setCell _ _ _ _ (show w.heap.size ≠ B by omega)).trans ((Below.heap_setCell _ _ _ _ (show w.heap.size ≠ B by omega)).trans (p1))))
 replace p2 : W2.heap[w.heap.size]? = _ := p2
 have F2 := Lib.hid (F1.out.keep ((congrArg (fun X : World => X.heap[m]?) hW).trans ((Below.heap_setCell _ _ _ _ (show m ≠ B by omega)).trans ((Below.heap_setCell _ _ _ _ (show m ≠ B by omega)).trans ((Below.heap_setCell _ _ _ _ (show m ≠ B by omega)).trans (rfl))))))
 have R2 : Wr2 B m w W2 := by rw [hW]; exact (((R1).setCell _).setCell _).setCell _
 clear hW
 have F8 : ∀ w', KeepB W2 0 [w.heap.size] w' → ∀ i, w'.cell? ⟨w.heap.size, i, none⟩ = #[.int .i64 o.kind, .int .i64 o.id, .int .i64 o.feat.id, .int .i64 o.feat.kind, .int .i64 o.feat.x, .int .i64 o.feat.y, .int .i64 o.feat.rad, (.slice aa m1 ca), .int .i64 o.feat.dep, .int .i64 o.feat.sym, (.slice ab m2 cb), .int .i64 o.x, .int .i64 o.y, .int .i64 o.rad, .int .i64 o.dep, .int .i64 o.sym][i]? := fun w' hw i => cell_block (hw.at (by simp) p2) i
 have k0 := cell_block q2 0
 have k1 := cell_block q2 1
 have k2 := cell_block q2 2
 have k3 := cell_block q2 3
 have k4 := cell_block q2 4
 have k5 := cell_block q2 5
 have k6 := cell_block q2 6
 have k7 := cell_block q2 7
 have k8 := cell_block q2 8
 have k9 := cell_block q2 9
 have k10 := cell_block q2 10
 have k11 := cell_block q2 11
 have k12 := cell_block q2 12
 have k13 := cell_block q2 13
 have k14 := cell_block q2 14
 have kf := free_block q2
 have c0 := cell_block p2 0
 go_upto_region 8 with (fail)
 refine wp_region_planS (KeepB W2 0 [w.heap.size]) (.take 0 (.take 0 (.take 0 (.take 0 (.take 0 (.take 0 (.take 0 (.only 0 (.take 0 (.take 0 (.only 0 (.take 0 (.take 0 (.only 0 .done)))))))))))))) (by kernel_rfl) (by kernel_rfl) (KeepB.refl) (fun hP => ?_)
 iterate 7 (refine wsPlan_take rfl (fun K hK => ?_); replace hK := Lib.hid hK; go_simp; first | (refine hK.out _ ?_; clear hK K) | (apply Exists.intro; refine ⟨fun w' hw => ?_, hK.out _ ?_⟩; (first | with_reducible exact rfl | (have f8 := F8 w' hw; go_simp; exact rfl)); clear hK K))
 (refine wsPlan_only rfl (fun K hK => ?_); replace hK := Lib.hid hK; go_simp; refine hK.out _ _ (by exact (hP.setCell (Nat.zero_le _) (by simp <;> omega) _)) (fun hP => ?_); clear hK K)
 iterate 2 (refine wsPlan_take rfl (fun K hK => ?_); replace hK := Lib.hid hK; go_simp; first | (refine hK.out _ ?_; clear hK K) | (apply Exists.intro; refine ⟨fun w' hw => ?_, hK.out _ ?_⟩; (first | with_reducible exact rfl | (have f8 := F8 w' hw; go_simp; exact rfl)); clear hK K))
 (refine wsPlan_only rfl (fun K hK => ?_); replace hK := Lib.hid hK; go_simp; refine hK.out _ _ (by exact (hP.setCell (Nat.zero_le _) (by simp <;> omega) _)) (fun hP => ?_); clear hK K)
 iterate 2 (refine wsPlan_take rfl (fun K hK => ?_); replace hK := Lib.hid hK; go_simp; first | (refine hK.out _ ?_; clear hK K) | (apply Exists.intro; refine ⟨fun w' hw => ?_, hK.out _ ?_⟩; (first | with_reducible exact rfl | (have f8 := F8 w' hw; go_simp; exact rfl)); clear hK K))
 refine ws_storeMid rfl rfl 32 _ _ rfl B 5 (#[.int .i64 o.feat.id, .int .i64 o.feat.kind, .int .i64 o.feat.x, .int .i64 o.feat.y, .int .i64 o.feat.rad, (.slice aa m1 ca), .int .i64 o.feat.dep, .int .i64 o.feat.sym, (.slice ab m2 cb)]) rfl rfl (there_block (block_set (block_set q2 _) _) (by simp)) (by kernel_rfl) (by kernel_rfl) (KeepB.setCells ((KeepB.refl.setCell (Nat.zero_le _) (by simp <;> omega) _).setCell (Nat.zero_le _) (by simp <;> omega) _) (by simp <;> omega) _ _) ?_
 refine wsPlan_done ?_
 simp only [Act.put, List.setIfInBounds_toArray, List.set_cons_zero, List.set_cons_succ]
 clear F8 k0 k1 k2 k3 k4 k5 k6 k7 k8 k9 k10 k11 k12 k13 k14 kf c0
 go_wp2_with fail
 refine body_named fun W9 hW => ?_
 have qa : ((W2.drew.setCell ⟨B, 3, none⟩ (.bool true)).setCell ⟨B, 4, none⟩ (.bool true)).heap[B]? = some (.cells #[.bool true, .bool false, .bool deleted, .bool true, .bool true, .int .i64 f.id, .int .i64 f.kind, .int .i64 f.x, .int .i64 f.y, .int .i64 f.rad, (.slice fa n1 fc), .int .i64 f.dep, .int .i64 f.sym, (.slice fb n2 fd), .map (some m)] 117 (0, 0)) := block_set (block_set q2 _) _
 obtain ⟨q9, hot, hwr, _⟩ := said_put (m := m) (hW : W9 = _) qa
 clear hW
 have F9 := Lib.hid (F2.out.keep ((hot m hne.symm).trans ((Below.heap_setCell _ _ _ _ (show m ≠ B by omega)).trans ((Below.heap_setCell _ _ _ _ (show m ≠ B by omega)).trans (rfl)))))
 have R9 : Wr2 B m w W9 := ((R2.drew.setCell _).setCell _).trans hwr
 go_returns
 exact ⟨(by rw [HE.out]; first | done | rfl), fun _ => (by rw [HE.out]; exact ⟨_, _, q9, PO.out, (F9.out.state rfl rfl rfl).mono (by omega)⟩), R9⟩
set_option maxHeartbeats 4000000 in
theorem hear_del (B m n : Nat) (before deleted there known : Bool) (f : Feat) (mv dp sy : Option Opn) (o : Opn) (fa fb aa ab : Option Addr) (n1 n2 m1 m2 fc fd ca cb : Nat) (w0 w : World) (hq : w.heap[B]? = some (.cells #[.bool true, .bool before, .bool deleted, .bool there, .bool known, .int .i64 f.id, .int .i64 f.kind, .int .i64 f.x, .int .i64 f.y, .int .i64 f.rad, (.slice fa n1 fc), .int .i64 f.dep, .int .i64 f.sym, (.slice fb n2 fd), .map (some m)] 117 (0, 0))) (hf : PartsAt w0 f (.slice fa n1 fc) (.slice fb n2 fd)) (hm : FldM w0 w m n ⟨true, before, deleted, there, known, f, mv, dp, sy⟩) (hne : B ≠ m) (ho : PartsAt w0 o.feat (.slice aa m1 ca) (.slice ab m2 cb)) (k2 : o.kind = 2) (ht : there = true) : Calls Tryz.prog 92 #[.pointer (some ⟨B, 0, none⟩), opV o (.slice aa m1 ca) (.slice ab m2 cb)] w (HearP w0 B m n ⟨true, before, deleted, there, known, f, mv, dp, sy⟩ o w) := by
 have HE : Hid (hearS ⟨true, before, deleted, there, known, f, mv, dp, sy⟩ o = (⟨true, before, true, false, false, f, mv, dp, sy⟩, true)) := Lib.hid (by unfold hearS beginS stepS; simp [k2, ht])
 have Q0 := Lib.hid hq
 have FM := Lib.hid hm
 have PF := Lib.hid hf
 have PO := Lib.hid ho
 have hml := hm.lt
 have hBl := lt_block hq
 clear hq hm hf ho
 have e1 : (o.kind == 1) = false := by rw [k2]; rfl
 have e2 : (o.kind == 2) = true := by rw [k2]; rfl
 subst ht
 clear k2
 go_enter Tryz.func92, Tryz.ntmps92
 go_upto_region 2 with (fail)
 refine wp_named fun W hW => ?_
 obtain ⟨p1, hB⟩ := box1 hW
 clear hW
 have q1 := block_later hB Q0.out
 have F1 := Lib.hid (FM.out.keep (hB.block m hml))
 have R1 : Wr2 B m w W := Wr2.of_below hB
 have k0 := cell_block q1 0
 have k1 := cell_block q1 1
 have k2 := cell_block q1 2
 have k3 := cell_block q1 3
 have k4 := cell_block q1 4
 have k5 := cell_block q1 5
 have k6 := cell_block q1 6
 have k7 := cell_block q1 7
 have k8 := cell_block q1 8
 have k9 := cell_block q1 9
 have k10 := cell_block q1 10
 have k11 := cell_block q1 11
 have k12 := cell_block q1 12
 have k13 := cell_block q1 13
 have k14 := cell_block q1 14
 have kf := free_block q1
 have c0 := cell_block p1 0
 go_wp2_with fail
 refine body_named fun W9 hW => ?_
 have q9 : W9.heap[B]? = some (.cells #[.bool true, .bool before, .bool true, .bool false, .bool false, .int .i64 f.id, .int .i64 f.kind, .int .i64 f.x, .int .i64 f.y, .int .i64 f.rad, (.slice fa n1 fc), .int .i64 f.dep, .int .i64 f.sym, (.slice fb n2 fd), .map (some m)] 117 (0, 0)) := by rw [hW]; exact (block_set (block_set (block_set q1 _) _) _)
 have F9 := Lib.hid (F1.out.keep ((congrArg (fun X : World => X.heap[m]?) hW).trans ((Below.heap_setCell _ _ _ _ (show m ≠ B by omega)).trans ((Below.heap_setCell _ _ _ _ (show m ≠ B by omega)).trans ((Below.heap_setCell _ _ _ _ (show m ≠ B by omega)).trans (rfl))))))
 have R9 : Wr2 B m w W9 := by rw [hW]; exact ((R1.setCell _).setCell _).setCell _
 clear hW
 go_returns
 exact ⟨(by rw [HE.out]; first | done | rfl), fun _ => (by rw [HE.out]; exact ⟨_, _, q9, PF.out, (F9.out.state rfl rfl rfl).mono (by omega)⟩), R9⟩
set_option maxHeartbeats 4000000 in
theorem hear_del0 (B m n : Nat) (before deleted there known : Bool) (f : Feat) (mv dp sy : Option Opn) (o : Opn) (fa fb aa ab : Option Addr) (n1 n2 m1 m2 fc fd ca cb : Nat) (w0 w : World) (hq : w.heap[B]? = some (.cells #[.bool false, .bool before, .bool deleted, .bool there, .bool known, .int .i64 f.id, .int .i64 f.kind, .int .i64 f.x, .int .i64 f.y, .int .i64 f.rad, (.slice fa n1 fc), .int .i64 f.dep, .int .i64 f.sym, (.slice fb n2 fd), .map (some m)] 117 (0, 0))) (hf : PartsAt w0 f (.slice fa n1 fc) (.slice fb n2 fd)) (hm : FldM w0 w m n ⟨false, before, deleted, there, known, f, mv, dp, sy⟩) (hne : B ≠ m) (ho : PartsAt w0 o.feat (.slice aa m1 ca) (.slice ab m2 cb)) (k2 : o.kind = 2) : Calls Tryz.prog 92 #[.pointer (some ⟨B, 0, none⟩), opV o (.slice aa m1 ca) (.slice ab m2 cb)] w (HearP w0 B m n ⟨false, before, deleted, there, known, f, mv, dp, sy⟩ o w) := by
 have HE : Hid (hearS ⟨false, before, deleted, there, known, f, mv, dp, sy⟩ o = (⟨true, true, true, false, false, f, mv, dp, sy⟩, true)) := Lib.hid (by unfold hearS beginS stepS; simp [k2])
 have Q0 := Lib.hid hq
 have FM := Lib.hid hm
 have PF := Lib.hid hf
 have PO := Lib.hid ho
 have hml := hm.lt
 have hBl := lt_block hq
 clear hq hm hf ho
 have e1 : (o.kind == 1) = false := by rw [k2]; rfl
 have e2 : (o.kind == 2) = true := by rw [k2]; rfl
 clear k2
 go_enter Tryz.func92, Tryz.ntmps92
 go_upto_region 2 with (fail)
 refine wp_named fun W hW => ?_
 obtain ⟨p1, hB⟩ := box1 hW
 clear hW
 have q1 := block_later hB Q0.out
 have F1 := Lib.hid (FM.out.keep (hB.block m hml))
 have R1 : Wr2 B m w W := Wr2.of_below hB
 have k0 := cell_block q1 0
 have k1 := cell_block q1 1
 have k2 := cell_block q1 2
 have k3 := cell_block q1 3
 have k4 := cell_block q1 4
 have k5 := cell_block q1 5
 have k6 := cell_block q1 6
 have k7 := cell_block q1 7
 have k8 := cell_block q1 8
 have k9 := cell_block q1 9
 have k10 := cell_block q1 10
 have k11 := cell_block q1 11
 have k12 := cell_block q1 12
 have k13 := cell_block q1 13
 have k14 := cell_block q1 14
 have kf := free_block q1
 have c0 := cell_block p1 0
 go_upto_region 4 with (fail)
 refine wp_named fun W2 hW => ?_
 clear k0 k1 k2 k3 k4 k5 k6 k7 k8 k9 k10 k11 k12 k13 k14 kf c0
 have q2 : W2.heap[B]? = some (.cells #[.bool true, .bool true, .bool deleted, .bool true, .bool known, .int .i64 f.id, .int .i64 f.kind, .int .i64 f.x, .int .i64 f.y, .int .i64 f.rad, (.slice fa n1 fc), .int .i64 f.dep, .int .i64 f.sym, (.slice fb n2 fd), .map (some m)] 117 (0, 0)) := by rw [hW]; exact (block_set (block_set (block_set q1 _) _) _)
 have p2 := (congrArg (fun X : World => X.heap[w.heap.size]?) hW).trans ((Below.heap_setCell _ _ _ _ (show w.heap.size ≠ B by omega)).trans ((Below.heap_setCell _ _ _ _ (show w.heap.size ≠ B by omega)).trans ((Below.heap_setCell _ _ _ _ (show w.heap.size ≠ B by omega)).trans (p1))))
 replace p2 : W2.heap[w.heap.size]? = _ := p2
 have F2 := Lib.hid (F1.out.keep ((congrArg (fun X : World => X.heap[m]?) hW).trans ((Below.heap_setCell _ _ _ _ (show m ≠ B by omega)).trans ((Below.heap_setCell _ _ _ _ (show m ≠ B by omega)).trans ((Below.heap_setCell _ _ _ _ (show m ≠ B by omega)).trans (rfl))))))
 have R2 : Wr2 B m w W2 := by rw [hW]; exact (((R1).setCell _).setCell _).setCell _
 clear hW
 have k0 := cell_block q2 0
 have k1 := cell_block q2 1
 have k2 := cell_block q2 2
 have k3 := cell_block q2 3
 have k4 := cell_block q2 4
 have k5 := cell_block q2 5
 have k6 := cell_block q2 6
 have k7 := cell_block q2 7
 have k8 := cell_block q2 8
 have k9 := cell_block q2 9
 have k10 := cell_block q2 10
 have k11 := cell_block q2 11
 have k12 := cell_block q2 12
 have k13 := cell_block q2 13
 have k14 := cell_block q2 14
 have kf := free_block q2
 have c0 := cell_block p2 0
 go_wp2_with fail
 refine body_named fun W9 hW => ?_
 have q9 : W9.heap[B]? = some (.cells #[.bool true, .bool true, .bool true, .bool false, .bool false, .int .i64 f.id, .int .i64 f.kind, .int .i64 f.x, .int .i64 f.y, .int .i64 f.rad, (.slice fa n1 fc), .int .i64 f.dep, .int .i64 f.sym, (.slice fb n2 fd), .map (some m)] 117 (0, 0)) := by rw [hW]; exact (block_set (block_set (block_set q2 _) _) _)
 have F9 := Lib.hid (F2.out.keep ((congrArg (fun X : World => X.heap[m]?) hW).trans ((Below.heap_setCell _ _ _ _ (show m ≠ B by omega)).trans ((Below.heap_setCell _ _ _ _ (show m ≠ B by omega)).trans ((Below.heap_setCell _ _ _ _ (show m ≠ B by omega)).trans (rfl))))))
 have R9 : Wr2 B m w W9 := by rw [hW]; exact ((R2.setCell _).setCell _).setCell _
 clear hW
 go_returns
 exact ⟨(by rw [HE.out]; first | done | rfl), fun _ => (by rw [HE.out]; exact ⟨_, _, q9, PF.out, (F9.out.state rfl rfl rfl).mono (by omega)⟩), R9⟩
theorem saidC_put (s : SaidS) (p : Opn) (va vs : Value) (m : Nat) : saidC (putS s p) va vs m = saidC s va vs m ∧ (putS s p).feat = s.feat := by
 unfold putS saidC
 split
 · exact ⟨rfl, rfl⟩
 · split <;> exact ⟨rfl, rfl⟩
theorem KeepB.turned {W w w' : World} {m : Nat} {bs : List Nat} (h : KeepB W 0 bs w) (ht : w.mapTurned w' m) (hm : m ∉ bs) (hin : ∀ b ∈ bs, b < w.heap.size) : KeepB W 0 bs w' :=
 ⟨h.1.grown ht.grown (Nat.zero_le _) (fun k _ => Nat.zero_le _), fun b hb => (ht.grown.block b (hin b hb) (fun e => hm (by rw [← Option.some.inj e]; exact hb))).trans (h.2 b hb)⟩
set_option maxHeartbeats 4000000 in
theorem hear_fld (B m n : Nat) (before deleted there known : Bool) (f : Feat) (mv dp sy : Option Opn) (o : Opn) (fa fb aa ab : Option Addr) (n1 n2 m1 m2 fc fd ca cb : Nat) (w0 w : World) (hq : w.heap[B]? = some (.cells #[.bool true, .bool before, .bool deleted, .bool there, .bool known, .int .i64 f.id, .int .i64 f.kind, .int .i64 f.x, .int .i64 f.y, .int .i64 f.rad, (.slice fa n1 fc), .int .i64 f.dep, .int .i64 f.sym, (.slice fb n2 fd), .map (some m)] 117 (0, 0))) (hf : PartsAt w0 f (.slice fa n1 fc) (.slice fb n2 fd)) (hm : FldM w0 w m n ⟨true, before, deleted, there, known, f, mv, dp, sy⟩) (hne : B ≠ m) (ho : PartsAt w0 o.feat (.slice aa m1 ca) (.slice ab m2 cb)) (hk : FldK o.kind) (hn : n ≤ 1000) (ht : there = true) (hkn : known = false) : Calls Tryz.prog 92 #[.pointer (some ⟨B, 0, none⟩), opV o (.slice aa m1 ca) (.slice ab m2 cb)] w (HearP w0 B m n ⟨true, before, deleted, there, known, f, mv, dp, sy⟩ o w) := by
 have HE : Hid (hearS ⟨true, before, deleted, there, known, f, mv, dp, sy⟩ o = (putS ⟨true, before, deleted, true, false, f, mv, dp, sy⟩ o, true)) := Lib.hid (by have ne1 : ¬ o.kind = 1 := (by rcases hk with h | h | h <;> omega); have ne2 : ¬ o.kind = 2 := (by rcases hk with h | h | h <;> omega); unfold hearS beginS stepS; simp [ne1, ne2, ht, hkn])
 have Q0 := Lib.hid hq
 have FM := Lib.hid hm
 have PF := Lib.hid hf
 have PO := Lib.hid ho
 have hml := hm.lt
 have hBl := lt_block hq
 clear hq hm hf ho
 have ne1 : ¬ o.kind = 1 := by rcases hk with h | h | h <;> omega
 have ne2 : ¬ o.kind = 2 := by rcases hk with h | h | h <;> omega
 have e1 : (o.kind == 1) = false := by simpa using ne1
 have e2 : (o.kind == 2) = false := by simpa using ne2
 have KD := Lib.hid hk
 have LN : Hid (n < maxLen) := Lib.hid (by unfold maxLen; omega)
 subst ht hkn
 clear ne1 ne2 hk
 go_enter Tryz.func92, Tryz.ntmps92
 go_upto_region 2 with (fail)
 refine wp_named fun W hW => ?_
 obtain ⟨p1, hB⟩ := box1 hW
 clear hW
 have q1 := block_later hB Q0.out
 have F1 := Lib.hid (FM.out.keep (hB.block m hml))
 have R1 : Wr2 B m w W := Wr2.of_below hB
 have F8 : ∀ w', KeepB W 0 [B, w.heap.size] w' → ∀ i, w'.cell? ⟨w.heap.size, i, none⟩ = #[.int .i64 o.kind, .int .i64 o.id, .int .i64 o.feat.id, .int .i64 o.feat.kind, .int .i64 o.feat.x, .int .i64 o.feat.y, .int .i64 o.feat.rad, (.slice aa m1 ca), .int .i64 o.feat.dep, .int .i64 o.feat.sym, (.slice ab m2 cb), .int .i64 o.x, .int .i64 o.y, .int .i64 o.rad, .int .i64 o.dep, .int .i64 o.sym][i]? := fun w' hw i => cell_block (hw.at (by simp) p1) i
 have G8 : ∀ w', KeepB W 0 [B, w.heap.size] w' → ∀ i, w'.cell? ⟨B, i, none⟩ = #[.bool true, .bool before, .bool deleted, .bool true, .bool false, .int .i64 f.id, .int .i64 f.kind, .int .i64 f.x, .int .i64 f.y, .int .i64 f.rad, (.slice fa n1 fc), .int .i64 f.dep, .int .i64 f.sym, (.slice fb n2 fd), .map (some m)][i]? := fun w' hw i => cell_block (hw.at (by simp) q1) i
 have FF : Hid (FldM w0 W.drew m n ⟨true, before, deleted, true, false, f, mv, dp, sy⟩) := Lib.hid ((F1.out.keep rfl).state rfl rfl rfl)
 have k0 := cell_block q1 0
 have k1 := cell_block q1 1
 have k2 := cell_block q1 2
 have k3 := cell_block q1 3
 have k4 := cell_block q1 4
 have k5 := cell_block q1 5
 have k6 := cell_block q1 6
 have k7 := cell_block q1 7
 have k8 := cell_block q1 8
 have k9 := cell_block q1 9
 have k10 := cell_block q1 10
 have k11 := cell_block q1 11
 have k12 := cell_block q1 12
 have k13 := cell_block q1 13
 have k14 := cell_block q1 14
 have kf := free_block q1
 have c0 := cell_block p1 0
 go_upto_region 6 with (fail)
 refine wp_region_planS (KeepB W 0 [B, w.heap.size]) (.take 0 (.take 0 (.take 0 (.take 0 (.take 0 (.take 0 (.take 0 (.only 0 .done)))))))) (by kernel_rfl) (by kernel_rfl) (KeepB.refl) (fun hP => ?_)
 iterate 6 (refine wsPlan_take rfl (fun K hK => ?_); replace hK := Lib.hid hK; go_simp; first | (refine hK.out _ ?_; clear hK K) | (apply Exists.intro; refine ⟨fun w' hw => ?_, hK.out _ ?_⟩; (first | with_reducible exact rfl | (have f8 := F8 w' hw; have g8 := G8 w' hw; go_simp; exact rfl)); clear hK K))
 refine ws_load rfl rfl 34 _ rfl _ rfl _ _ _ _ (fun w' hw => hw.at (by simp) p1) Tryz.underlying34 rfl (by kernel_rfl) ?_
 refine wsPlan_only rfl (fun K hK => ?_)
 (with_reducible refine ite_of (wanted_plain rfl) ?_)
 (with_reducible refine wp_fldStore _ _ _ _ rfl Tryz.underlying115 (m := m) (n := n) (p := o) (va := (.slice aa m1 ca)) (vs := (.slice ab m2 cb)) ?_ ?_ ?_ FF.out KD.out PO.out LN.out ?_)
 · exact rfl
 · exact rfl
 · exact rfl
 intro w9 hf9 ht9
 refine hK _ _ (KeepB.refl.turned ht9 (by simp <;> omega) (fun x hx => by simp only [List.mem_cons, List.not_mem_nil, or_false] at hx; rcases hx with rfl | rfl; (exact lt_block q1); (exact lt_block p1))) (fun _ => ?_)
 clear hK K
 refine wsPlan_done ?_
 simp only [Act.put, List.setIfInBounds_toArray, List.set_cons_zero, List.set_cons_succ]
 have q9 : w9.heap[B]? = some (.cells #[.bool true, .bool before, .bool deleted, .bool true, .bool false, .int .i64 f.id, .int .i64 f.kind, .int .i64 f.x, .int .i64 f.y, .int .i64 f.rad, (.slice fa n1 fc), .int .i64 f.dep, .int .i64 f.sym, (.slice fb n2 fd), .map (some m)] 117 (0, 0)) := (ht9.grown.block B (lt_block q1) (fun e => hne (Option.some.inj e))).trans q1
 have R9 : Wr2 B m w w9 := R1.drew.turned ht9
 have F9 := Lib.hid hf9
 clear F8 G8 hf9 ht9 k0 k1 k2 k3 k4 k5 k6 k7 k8 k9 k10 k11 k12 k13 k14 kf c0
 go_wp2_with fail
 go_returns
 exact ⟨(by rw [HE.out]; first | done | rfl), fun _ => (by rw [HE.out]; exact ⟨_, _, (by rw [(saidC_put ⟨true, before, deleted, true, false, f, mv, dp, sy⟩ o _ _ m).1]; exact q9), (by rw [(saidC_put ⟨true, before, deleted, true, false, f, mv, dp, sy⟩ o .nilFunc .nilFunc m).2]; exact PF.out), F9.out⟩), R9⟩
set_option maxHeartbeats 4000000 in
theorem hear_fld0 (B m n : Nat) (before deleted there known : Bool) (f : Feat) (mv dp sy : Option Opn) (o : Opn) (fa fb aa ab : Option Addr) (n1 n2 m1 m2 fc fd ca cb : Nat) (w0 w : World) (hq : w.heap[B]? = some (.cells #[.bool false, .bool before, .bool deleted, .bool there, .bool known, .int .i64 f.id, .int .i64 f.kind, .int .i64 f.x, .int .i64 f.y, .int .i64 f.rad, (.slice fa n1 fc), .int .i64 f.dep, .int .i64 f.sym, (.slice fb n2 fd), .map (some m)] 117 (0, 0))) (hf : PartsAt w0 f (.slice fa n1 fc) (.slice fb n2 fd)) (hm : FldM w0 w m n ⟨false, before, deleted, there, known, f, mv, dp, sy⟩) (hne : B ≠ m) (ho : PartsAt w0 o.feat (.slice aa m1 ca) (.slice ab m2 cb)) (hk : FldK o.kind) (hn : n ≤ 1000) (hkn : known = false) : Calls Tryz.prog 92 #[.pointer (some ⟨B, 0, none⟩), opV o (.slice aa m1 ca) (.slice ab m2 cb)] w (HearP w0 B m n ⟨false, before, deleted, there, known, f, mv, dp, sy⟩ o w) := by
 have HE : Hid (hearS ⟨false, before, deleted, there, known, f, mv, dp, sy⟩ o = (putS ⟨true, true, deleted, true, false, f, mv, dp, sy⟩ o, true)) := Lib.hid (by have ne1 : ¬ o.kind = 1 := (by rcases hk with h | h | h <;> omega); have ne2 : ¬ o.kind = 2 := (by rcases hk with h | h | h <;> omega); unfold hearS beginS stepS; simp [ne1, ne2, hkn])
 have Q0 := Lib.hid hq
 have FM := Lib.hid hm
 have PF := Lib.hid hf
 have PO := Lib.hid ho
 have hml := hm.lt
 have hBl := lt_block hq
 clear hq hm hf ho
 have ne1 : ¬ o.kind = 1 := by rcases hk with h | h | h <;> omega
 have ne2 : ¬ o.kind = 2 := by rcases hk with h | h | h <;> omega
 have e1 : (o.kind == 1) = false := by simpa using ne1
 have e2 : (o.kind == 2) = false := by simpa using ne2
 have KD := Lib.hid hk
 have LN : Hid (n < maxLen) := Lib.hid (by unfold maxLen; omega)
 subst hkn
 clear ne1 ne2 hk
 go_enter Tryz.func92, Tryz.ntmps92
 go_upto_region 2 with (fail)
 refine wp_named fun W hW => ?_
 obtain ⟨p1, hB⟩ := box1 hW
 clear hW
 have q1 := block_later hB Q0.out
 have F1 := Lib.hid (FM.out.keep (hB.block m hml))
 have R1 : Wr2 B m w W := Wr2.of_below hB
 have k0 := cell_block q1 0
 have k1 := cell_block q1 1
 have k2 := cell_block q1 2
 have k3 := cell_block q1 3
 have k4 := cell_block q1 4
 have k5 := cell_block q1 5
 have k6 := cell_block q1 6
 have k7 := cell_block q1 7
 have k8 := cell_block q1 8
 have k9 := cell_block q1 9
 have k10 := cell_block q1 10
 have k11 := cell_block q1 11
 have k12 := cell_block q1 12
 have k13 := cell_block q1 13
 have k14 := cell_block q1 14
 have kf := free_block q1
 have c0 := cell_block p1 0
 go_upto_region 4 with (fail)
 refine wp_named fun W2 hW => ?_
 clear k0 k1 k2 k3 k4 k5 k6 k7 k8 k9 k10 k11 k12 k13 k14 kf c0
 have q2 : W2.heap[B]? = some (.cells #[.bool true, .bool true, .bool deleted, .bool true, .bool false, .int .i64 f.id, .int .i64 f.kind, .int .i64 f.x, .int .i64 f.y, .int .i64 f.rad, (.slice fa n1 fc), .int .i64 f.dep, .int .i64 f.sym, (.slice fb n2 fd), .map (some m)] 117 (0, 0)) := by rw [hW]; exact (block_set (block_set (block_set q1 _) _) _)
 have p2 := (congrArg (fun X : World => X.heap[w.heap.size]?) hW).trans ((Below.heap_setCell _ _ _ _ (show w.heap.size ≠ B by omega)).trans ((Below.heap_setCell _ _ _ _ (show w.heap.size ≠ B by omega)).trans ((Below.heap_setCell _ _ _ _ (show w.heap.size ≠ B by omega)).trans (p1))))
 replace p2 : W2.heap[w.heap.size]? = _ := p2
 have F2 := Lib.hid (F1.out.keep ((congrArg (fun X : World => X.heap[m]?) hW).trans ((Below.heap_setCell _ _ _ _ (show m ≠ B by omega)).trans ((Below.heap_setCell _ _ _ _ (show m ≠ B by omega)).trans ((Below.heap_setCell _ _ _ _ (show m ≠ B by omega)).trans (rfl))))))
 have R2 : Wr2 B m w W2 := by rw [hW]; exact (((R1).setCell _).setCell _).setCell _
 clear hW
 have F8 : ∀ w', KeepB W2 0 [B, w.heap.size] w' → ∀ i, w'.cell? ⟨w.heap.size, i, none⟩ = #[.int .i64 o.kind, .int .i64 o.id, .int .i64 o.feat.id, .int .i64 o.feat.kind, .int .i64 o.feat.x, .int .i64 o.feat.y, .int .i64 o.feat.rad, (.slice aa m1 ca), .int .i64 o.feat.dep, .int .i64 o.feat.sym, (.slice ab m2 cb), .int .i64 o.x, .int .i64 o.y, .int .i64 o.rad, .int .i64 o.dep, .int .i64 o.sym][i]? := fun w' hw i => cell_block (hw.at (by simp) p2) i
 have G8 : ∀ w', KeepB W2 0 [B, w.heap.size] w' → ∀ i, w'.cell? ⟨B, i, none⟩ = #[.bool true, .bool true, .bool deleted, .bool true, .bool false, .int .i64 f.id, .int .i64 f.kind, .int .i64 f.x, .int .i64 f.y, .int .i64 f.rad, (.slice fa n1 fc), .int .i64 f.dep, .int .i64 f.sym, (.slice fb n2 fd), .map (some m)][i]? := fun w' hw i => cell_block (hw.at (by simp) q2) i
 have FF : Hid (FldM w0 W2.drew m n ⟨true, true, deleted, true, false, f, mv, dp, sy⟩) := Lib.hid ((F2.out.keep rfl).state rfl rfl rfl)
 have k0 := cell_block q2 0
 have k1 := cell_block q2 1
 have k2 := cell_block q2 2
 have k3 := cell_block q2 3
 have k4 := cell_block q2 4
 have k5 := cell_block q2 5
 have k6 := cell_block q2 6
 have k7 := cell_block q2 7
 have k8 := cell_block q2 8
 have k9 := cell_block q2 9
 have k10 := cell_block q2 10
 have k11 := cell_block q2 11
 have k12 := cell_block q2 12
 have k13 := cell_block q2 13
 have k14 := cell_block q2 14
 have kf := free_block q2
 have c0 := cell_block p2 0
 go_upto_region 6 with (fail)
 refine wp_region_planS (KeepB W2 0 [B, w.heap.size]) (.take 0 (.take 0 (.take 0 (.take 0 (.take 0 (.take 0 (.take 0 (.only 0 .done)))))))) (by kernel_rfl) (by kernel_rfl) (KeepB.refl) (fun hP => ?_)
 iterate 6 (refine wsPlan_take rfl (fun K hK => ?_); replace hK := Lib.hid hK; go_simp; first | (refine hK.out _ ?_; clear hK K) | (apply Exists.intro; refine ⟨fun w' hw => ?_, hK.out _ ?_⟩; (first | with_reducible exact rfl | (have f8 := F8 w' hw; have g8 := G8 w' hw; go_simp; exact rfl)); clear hK K))
 refine ws_load rfl rfl 34 _ rfl _ rfl _ _ _ _ (fun w' hw => hw.at (by simp) p2) Tryz.underlying34 rfl (by kernel_rfl) ?_
 refine wsPlan_only rfl (fun K hK => ?_)
 (with_reducible refine ite_of (wanted_plain rfl) ?_)
 (with_reducible refine wp_fldStore _ _ _ _ rfl Tryz.underlying115 (m := m) (n := n) (p := o) (va := (.slice aa m1 ca)) (vs := (.slice ab m2 cb)) ?_ ?_ ?_ FF.out KD.out PO.out LN.out ?_)
 · exact rfl
 · exact rfl
 · exact rfl
 intro w9 hf9 ht9
 refine hK _ _ (KeepB.refl.turned ht9 (by simp <;> omega) (fun x hx => by simp only [List.mem_cons, List.not_mem_nil, or_false] at hx; rcases hx with rfl | rfl; (exact lt_block q2); (exact lt_block p2))) (fun _ => ?_)
 clear hK K
 refine wsPlan_done ?_
 simp only [Act.put, List.setIfInBounds_toArray, List.set_cons_zero, List.set_cons_succ]
 have q9 : w9.heap[B]? = some (.cells #[.bool true, .bool true, .bool deleted, .bool true, .bool false, .int .i64 f.id, .int .i64 f.kind, .int .i64 f.x, .int .i64 f.y, .int .i64 f.rad, (.slice fa n1 fc), .int .i64 f.dep, .int .i64 f.sym, (.slice fb n2 fd), .map (some m)] 117 (0, 0)) := (ht9.grown.block B (lt_block q2) (fun e => hne (Option.some.inj e))).trans q2
 have R9 : Wr2 B m w w9 := R2.drew.turned ht9
 have F9 := Lib.hid hf9
 clear F8 G8 hf9 ht9 k0 k1 k2 k3 k4 k5 k6 k7 k8 k9 k10 k11 k12 k13 k14 kf c0
 go_wp2_with fail
 go_returns
 exact ⟨(by rw [HE.out]; first | done | rfl), fun _ => (by rw [HE.out]; exact ⟨_, _, (by rw [(saidC_put ⟨true, true, deleted, true, false, f, mv, dp, sy⟩ o _ _ m).1]; exact q9), (by rw [(saidC_put ⟨true, true, deleted, true, false, f, mv, dp, sy⟩ o .nilFunc .nilFunc m).2]; exact PF.out), F9.out⟩), R9⟩
end Go.Proofs.YtdmegkkifiahdaaGreat
namespace Go.Proofs.YtdmegkkifiahdaaGreat
open Go.RowKit
attribute [local go_sem] bqOp bqAll bqUpon sqOp sqAll sqUpon ssAll
attribute [local irreducible] wpQuiet wpBQ wpPlan wsPlan
set_option linter.unusedVariables false
theorem wp_storeP {P : Program} {ops : Array Oper} {W : World} {Q : Exit → Act → World → Prop} {b : Nat} {p : Plan} {l rest : List Oper} {o : Oper} {a : Act} {w : World} (hb : bring b l = o :: rest) (hgd : o.guard = none) (ty : TypeId) (x y : Operand) (ho : o.op = .store ty x y)
  (g : Nat) (cells : Array Value) (hx : a.eval x = .pointer (some ⟨g, 0, none⟩)) (hy : a.eval y = .agg cells)
  (t : TypeId) (old : Array Value) (hg : w.heap[g]? = some (.cells old t (0, 0))) (hi : (P.info? ty).map (·.size) = some cells.size)
  (hold : old.size = cells.size) (h1 : cells.all (·.oneCell') = true) (hS : Below W.heap.size W (w.setRow g cells))
  (h : Below W.heap.size W (w.setRow g cells) → wpPlan P ops W Q p rest (a.put o.dst undef) (w.setRow g cells)) : wpPlan P ops W Q (.only b p) l a w := by
 refine wpPlan_only hb fun K hK => ?_
 rw [if_pos (wanted_plain hgd)]
 exact wp_store_row ty x y ho g cells hx hy t old hg hi hold h1 (hK _ _ hS h)
theorem Wr2.below {B m N : Nat} {w w' : World} (h : Wr2 B m w w') (hB : N ≤ B) (hm : N ≤ m) (hw : N ≤ w.heap.size) : Below N w w' := ⟨h.os, h.tape, h.output, h.size, fun k hk => h.block k (by omega) (by omega) (by omega)⟩
set_option maxHeartbeats 8000000 in
theorem hear_chg_no (B m n : Nat) (before deleted there known : Bool) (f : Feat) (mv dp sy : Option Opn) (o : Opn) (fa fb aa ab : Option Addr) (n1 n2 m1 m2 fc fd ca cb : Nat) (w0 w : World) (g : Feat) (bk : Opn) (er : Int) (hq : w.heap[B]? = some (.cells #[.bool true, .bool before, .bool deleted, .bool there, .bool known, .int .i64 f.id, .int .i64 f.kind, .int .i64 f.x, .int .i64 f.y, .int .i64 f.rad, (.slice fa n1 fc), .int .i64 f.dep, .int .i64 f.sym, (.slice fb n2 fd), .map (some m)] 117 (0, 0))) (hf : PartsAt w0 f (.slice fa n1 fc) (.slice fb n2 fd)) (hm : FldM w0 w m n ⟨true, before, deleted, there, known, f, mv, dp, sy⟩) (hne : B ≠ m) (ho : PartsAt w0 o.feat (.slice aa m1 ca) (.slice ab m2 cb)) (hb0 : Below w0.heap.size w0 w) (hc : chgR f o = (g, bk, er)) (ne1 : ¬ o.kind = 1) (ne2 : ¬ o.kind = 2) (ht : there = true) (hkn : known = true) (hch : chgF f o = none) : Calls Tryz.prog 92 #[.pointer (some ⟨B, 0, none⟩), opV o (.slice aa m1 ca) (.slice ab m2 cb)] w (HearP w0 B m n ⟨true, before, deleted, there, known, f, mv, dp, sy⟩ o w) := by
 have HE : Hid (hearS ⟨true, before, deleted, there, known, f, mv, dp, sy⟩ o = (⟨true, before, deleted, there, known, f, mv, dp, sy⟩, false)) := Lib.hid (by unfold hearS beginS stepS; simp [ne1, ne2, ht, hkn, hch])
 have e1 : (o.kind == 1) = false := by simpa using ne1
 have e2 : (o.kind == 2) = false := by simpa using ne2
 have HC := Lib.hid hc
 have HB0 := Lib.hid hb0
 have hx : chgR f o = (f, ⟨o.kind, o.id, noFeat, 0, 0, 0, 0, 0⟩, 12) := by unfold chgR; rw [hch]
 have dE : (er == 0) = false := by rw [hx] at hc; simp only [Prod.mk.injEq] at hc; rw [← hc.2.2]; rfl
 clear hx hch
 have Q0 := Lib.hid hq
 have FM := Lib.hid hm
 have PF := Lib.hid hf
 have PO := Lib.hid ho
 have hml := hm.lt
 have hBl := lt_block hq
 clear hq hm hf ho
 subst ht hkn
 clear ne1 ne2 hc hb0
 go_enter Tryz.func92, Tryz.ntmps92
 go_upto_region 2 with (fail)
 refine wp_named fun W hW => ?_
 obtain ⟨p1, hB⟩ := box1 hW
 clear hW
 have q1 := block_later hB Q0.out
 have F1 := Lib.hid (FM.out.keep (hB.block m hml))
 have R1 : Wr2 B m w W := Wr2.of_below hB
 have k0 := cell_block q1 0
 have k1 := cell_block q1 1
 have k2 := cell_block q1 2
 have k3 := cell_block q1 3
 have k4 := cell_block q1 4
 have k5 := cell_block q1 5
 have k6 := cell_block q1 6
 have k7 := cell_block q1 7
 have k8 := cell_block q1 8
 have k9 := cell_block q1 9
 have k10 := cell_block q1 10
 have k11 := cell_block q1 11
 have k12 := cell_block q1 12
 have k13 := cell_block q1 13
 have k14 := cell_block q1 14
 have kf := free_block q1
 have c0 := cell_block p1 0
 have kq := cellsR q1
 have kp := cellsR p1
 have BW0 : Below w0.heap.size w0 W := HB0.out.trans (hB.mono HB0.out.size)
 go_upto_region 12 with (fail)
 go_cut [6, 7, 8] from 74 to 83 (fun s6 s7 s8 wx => ∃ b6 : Nat, s6 = .pointer (some ⟨b6, 0, none⟩) ∧ s8 = .int .i64 er ∧ wx.heap[b6]? = some (.cells #[.int .i64 g.id, .int .i64 g.kind, .int .i64 g.x, .int .i64 g.y, .int .i64 g.rad, (.slice fa n1 fc), .int .i64 g.dep, .int .i64 g.sym, (.slice fb n2 fd)] 32 (0, 0)) ∧ Below W.heap.size W wx)
 case first =>
  refine wp_region_plan (.take 0 (.take 0 (.take 0 (.take 0 (.take 0 (.three 0 (.take 0 (.take 0 (.take 0 (.take 0 (.two 0 (.only 0 (.only 0 (.only 0 (.take 0 .done)))) 1 (.only 0 (.only 0 (.only 0 (.take 0 .done))))))))) 5 (.two 0 (.take 0 (.take 0 (.take 0 (.take 0 (.only 0 (.only 0 (.only 0 (.take 0 .done)))))))) 5 (.only 0 (.take 0 (.take 0 (.take 0 (.take 0 (.only 0 (.only 0 (.take 0 .done))))))))) 6 (.two 0 (.take 0 (.take 0 (.take 0 (.take 0 (.only 0 (.only 0 (.only 0 (.take 0 .done)))))))) 5 (.only 0 (.take 0 (.take 0 (.take 0 (.take 0 (.only 0 (.only 0 (.take 0 .done))))))))))))))) (by kernel_rfl) (by kernel_rfl) (fun hP => ?_)
  iterate 4 (refine wpPlan_take rfl (fun K hK => ?_); replace hK := Lib.hid hK; go_simp; first | (refine hK.out _ ?_; clear hK K) | (apply Exists.intro; refine ⟨fun _ => ?_, hK.out _ ?_⟩; (first | with_reducible exact rfl | skip); clear hK K))
  refine wp_loadP rfl (by kernel_rfl) 34 _ rfl _ rfl _ _ _ _ p1 Tryz.underlying34 rfl (by kernel_rfl) ?_
  clear kq kp k0 k1 k2 k3 k4 k5 k6 k7 k8 k9 k10 k11 k12 k13 k14 kf c0
  refine wpPlan_three ?_ ?_ ?_
  · (refine wpPlan_only rfl (fun K hK => ?_); replace hK := Lib.hid hK; go_simp; go_at_call 203; (with_reducible refine (pachanged_any f o _ _ _ _ _ (PF.out.later (BW0.trans (hP.mono BW0.size))) (PO.out.later (BW0.trans (hP.mono BW0.size))) HC.out).mono ?_); rintro e w1 ⟨rfl, hb1⟩; refine hK.out _ _ (below_step hP hb1) (fun hP2 => ?_); clear hK K)
    have hs1 : W.heap.size + 0 ≤ w1.heap.size := Nat.le_trans (Nat.le_of_eq (by first | rfl | (simp only [World.size_alloc]; rfl) | simp)) hb1.size
    clear hP
    have hP := hP2
    clear hP2
    iterate 4 (refine wpPlan_take rfl (fun K hK => ?_); replace hK := Lib.hid hK; go_simp; first | (refine hK.out _ ?_; clear hK K) | (apply Exists.intro; refine ⟨fun _ => ?_, hK.out _ ?_⟩; (first | with_reducible exact rfl | skip); clear hK K))
    refine wpPlan_two ?_ ?_
    · (refine wpPlan_only rfl (fun K hK => ?_); replace hK := Lib.hid hK; go_simp; refine hK.out _ _ (hP.alloc hP.size _) (fun hP2 => ?_); clear hK K)
      have rA : ((w1).alloc (.cells #[.int .i64 0, .int .i64 0, .int .i64 0, .int .i64 0, .int .i64 0, .slice none 0 0, .int .i64 0, .int .i64 0, .slice none 0 0] 32 (0, 0))).heap[w1.heap.size]? = some (.cells #[.int .i64 0, .int .i64 0, .int .i64 0, .int .i64 0, .int .i64 0, .slice none 0 0, .int .i64 0, .int .i64 0, .slice none 0 0] 32 (0, 0)) := block_new_at _ (by first | rfl | (simp only [World.size_alloc] <;> rfl))
      clear hP
      have hP := hP2
      clear hP2
      (refine wpPlan_only rfl (fun K hK => ?_); replace hK := Lib.hid hK; go_simp; refine hK.out _ _ (hP.alloc hP.size _) (fun hP2 => ?_); clear hK K)
      replace rA := block_alloc (o' := .cells #[.int .i64 0, .int .i64 0, .int .i64 0, .int .i64 0, .int .i64 0, .int .i64 0, .int .i64 0, .slice none 0 0, .int .i64 0, .int .i64 0, .slice none 0 0, .int .i64 0, .int .i64 0, .int .i64 0, .int .i64 0, .int .i64 0] 34 (0, 0)) rA
      have rD : (((w1).alloc (.cells #[.int .i64 0, .int .i64 0, .int .i64 0, .int .i64 0, .int .i64 0, .slice none 0 0, .int .i64 0, .int .i64 0, .slice none 0 0] 32 (0, 0))).alloc (.cells #[.int .i64 0, .int .i64 0, .int .i64 0, .int .i64 0, .int .i64 0, .int .i64 0, .int .i64 0, .slice none 0 0, .int .i64 0, .int .i64 0, .slice none 0 0, .int .i64 0, .int .i64 0, .int .i64 0, .int .i64 0, .int .i64 0] 34 (0, 0))).heap[w1.heap.size + 1]? = some (.cells #[.int .i64 0, .int .i64 0, .int .i64 0, .int .i64 0, .int .i64 0, .int .i64 0, .int .i64 0, .slice none 0 0, .int .i64 0, .int .i64 0, .slice none 0 0, .int .i64 0, .int .i64 0, .int .i64 0, .int .i64 0, .int .i64 0] 34 (0, 0)) := block_new_at _ (by first | rfl | (simp only [World.size_alloc] <;> rfl))
      clear hP
      have hP := hP2
      clear hP2
      have hne2 : w1.heap.size ≠ w1.heap.size + 1 := by omega
      have hlA : W.heap.size ≤ w1.heap.size := by omega
      have hlD : W.heap.size ≤ w1.heap.size + 1 := by omega
      refine wp_storeP rfl rfl 32 _ _ rfl _ (#[.int .i64 g.id, .int .i64 g.kind, .int .i64 g.x, .int .i64 g.y, .int .i64 g.rad, (.slice fa n1 fc), .int .i64 g.dep, .int .i64 g.sym, (.slice fb n2 fd)]) rfl rfl _ _ rA (by kernel_rfl) (by kernel_rfl) (by kernel_rfl) (below_setRow hP hlA _) (fun hP => ?_)
      refine wp_storeP rfl rfl 34 _ _ rfl _ (#[.int .i64 bk.kind, .int .i64 bk.id, .int .i64 bk.feat.id, .int .i64 bk.feat.kind, .int .i64 bk.feat.x, .int .i64 bk.feat.y, .int .i64 bk.feat.rad, .slice none 0 0, .int .i64 bk.feat.dep, .int .i64 bk.feat.sym, .slice none 0 0, .int .i64 bk.x, .int .i64 bk.y, .int .i64 bk.rad, .int .i64 bk.dep, .int .i64 bk.sym]) rfl rfl _ _ ((setRow_other _ _ _ _ hne2.symm).trans rD) (by kernel_rfl) (by kernel_rfl) (by kernel_rfl) (below_setRow hP hlD _) (fun hP => ?_)
      (refine wpPlan_take rfl (fun K hK => ?_); replace hK := Lib.hid hK; go_simp; first | (refine hK.out _ ?_; clear hK K) | (apply Exists.intro; refine ⟨fun _ => ?_, hK.out _ ?_⟩; (first | with_reducible exact rfl | skip); clear hK K))
      refine wpPlan_done ?_
      go_wp2_with fail
      go_meet
      exact ⟨_, rfl, rfl, (setRow_other _ _ _ _ hne2).trans (setRow_heap _ _ _ _ _ _ rA), hP⟩
    · (refine wpPlan_only rfl (fun K hK => ?_); replace hK := Lib.hid hK; go_simp; refine hK.out _ _ (hP.alloc hP.size _) (fun hP2 => ?_); clear hK K)
      have rD : ((w1).alloc (.cells #[.int .i64 0, .int .i64 0, .int .i64 0, .int .i64 0, .int .i64 0, .int .i64 0, .int .i64 0, .slice none 0 0, .int .i64 0, .int .i64 0, .slice none 0 0, .int .i64 0, .int .i64 0, .int .i64 0, .int .i64 0, .int .i64 0] 34 (0, 0))).heap[w1.heap.size]? = some (.cells #[.int .i64 0, .int .i64 0, .int .i64 0, .int .i64 0, .int .i64 0, .int .i64 0, .int .i64 0, .slice none 0 0, .int .i64 0, .int .i64 0, .slice none 0 0, .int .i64 0, .int .i64 0, .int .i64 0, .int .i64 0, .int .i64 0] 34 (0, 0)) := block_new_at _ (by first | rfl | (simp only [World.size_alloc] <;> rfl))
      clear hP
      have hP := hP2
      clear hP2
      (refine wpPlan_only rfl (fun K hK => ?_); replace hK := Lib.hid hK; go_simp; refine hK.out _ _ (hP.alloc hP.size _) (fun hP2 => ?_); clear hK K)
      replace rD := block_alloc (o' := .cells #[.int .i64 0, .int .i64 0, .int .i64 0, .int .i64 0, .int .i64 0, .slice none 0 0, .int .i64 0, .int .i64 0, .slice none 0 0] 32 (0, 0)) rD
      have rA : (((w1).alloc (.cells #[.int .i64 0, .int .i64 0, .int .i64 0, .int .i64 0, .int .i64 0, .int .i64 0, .int .i64 0, .slice none 0 0, .int .i64 0, .int .i64 0, .slice none 0 0, .int .i64 0, .int .i64 0, .int .i64 0, .int .i64 0, .int .i64 0] 34 (0, 0))).alloc (.cells #[.int .i64 0, .int .i64 0, .int .i64 0, .int .i64 0, .int .i64 0, .slice none 0 0, .int .i64 0, .int .i64 0, .slice none 0 0] 32 (0, 0))).heap[w1.heap.size + 1]? = some (.cells #[.int .i64 0, .int .i64 0, .int .i64 0, .int .i64 0, .int .i64 0, .slice none 0 0, .int .i64 0, .int .i64 0, .slice none 0 0] 32 (0, 0)) := block_new_at _ (by first | rfl | (simp only [World.size_alloc] <;> rfl))
      clear hP
      have hP := hP2
      clear hP2
      have hne2 : w1.heap.size + 1 ≠ w1.heap.size := by omega
      have hlA : W.heap.size ≤ w1.heap.size + 1 := by omega
      have hlD : W.heap.size ≤ w1.heap.size := by omega
      refine wp_storeP rfl rfl 32 _ _ rfl _ (#[.int .i64 g.id, .int .i64 g.kind, .int .i64 g.x, .int .i64 g.y, .int .i64 g.rad, (.slice fa n1 fc), .int .i64 g.dep, .int .i64 g.sym, (.slice fb n2 fd)]) rfl rfl _ _ rA (by kernel_rfl) (by kernel_rfl) (by kernel_rfl) (below_setRow hP hlA _) (fun hP => ?_)
      refine wp_storeP rfl rfl 34 _ _ rfl _ (#[.int .i64 bk.kind, .int .i64 bk.id, .int .i64 bk.feat.id, .int .i64 bk.feat.kind, .int .i64 bk.feat.x, .int .i64 bk.feat.y, .int .i64 bk.feat.rad, .slice none 0 0, .int .i64 bk.feat.dep, .int .i64 bk.feat.sym, .slice none 0 0, .int .i64 bk.x, .int .i64 bk.y, .int .i64 bk.rad, .int .i64 bk.dep, .int .i64 bk.sym]) rfl rfl _ _ ((setRow_other _ _ _ _ hne2.symm).trans rD) (by kernel_rfl) (by kernel_rfl) (by kernel_rfl) (below_setRow hP hlD _) (fun hP => ?_)
      (refine wpPlan_take rfl (fun K hK => ?_); replace hK := Lib.hid hK; go_simp; first | (refine hK.out _ ?_; clear hK K) | (apply Exists.intro; refine ⟨fun _ => ?_, hK.out _ ?_⟩; (first | with_reducible exact rfl | skip); clear hK K))
      refine wpPlan_done ?_
      go_wp2_with fail
      go_meet
      exact ⟨_, rfl, rfl, (setRow_other _ _ _ _ hne2).trans (setRow_heap _ _ _ _ _ _ rA), hP⟩
  · (refine wpPlan_only rfl (fun K hK => ?_); replace hK := Lib.hid hK; go_simp; refine hK.out _ _ (hP.alloc hP.size _) (fun hP2 => ?_); clear hK K)
    have rA : ((W.drew).alloc (.cells #[.int .i64 0, .int .i64 0, .int .i64 0, .int .i64 0, .int .i64 0, .slice none 0 0, .int .i64 0, .int .i64 0, .slice none 0 0] 32 (0, 0))).heap[W.heap.size]? = some (.cells #[.int .i64 0, .int .i64 0, .int .i64 0, .int .i64 0, .int .i64 0, .slice none 0 0, .int .i64 0, .int .i64 0, .slice none 0 0] 32 (0, 0)) := block_new_at _ (by first | rfl | (simp only [World.size_alloc] <;> rfl))
    clear hP
    have hP := hP2
    clear hP2
    refine wpPlan_two ?_ ?_
    · (refine wpPlan_only rfl (fun K hK => ?_); replace hK := Lib.hid hK; go_simp; go_at_call 203; (with_reducible refine (pachanged_any f o _ _ _ _ _ (PF.out.later (BW0.trans (hP.mono BW0.size))) (PO.out.later (BW0.trans (hP.mono BW0.size))) HC.out).mono ?_); rintro e w1 ⟨rfl, hb1⟩; refine hK.out _ _ (below_step hP hb1) (fun hP2 => ?_); clear hK K)
      replace rA := block_later hb1 rA
      have hs1 : W.heap.size + 1 ≤ w1.heap.size := Nat.le_trans (Nat.le_of_eq (by first | rfl | (simp only [World.size_alloc]; rfl) | simp)) hb1.size
      clear hP
      have hP := hP2
      clear hP2
      iterate 4 (refine wpPlan_take rfl (fun K hK => ?_); replace hK := Lib.hid hK; go_simp; first | (refine hK.out _ ?_; clear hK K) | (apply Exists.intro; refine ⟨fun _ => ?_, hK.out _ ?_⟩; (first | with_reducible exact rfl | skip); clear hK K))
      (refine wpPlan_only rfl (fun K hK => ?_); replace hK := Lib.hid hK; go_simp; refine hK.out _ _ (hP.alloc hP.size _) (fun hP2 => ?_); clear hK K)
      replace rA := block_alloc (o' := .cells #[.int .i64 0, .int .i64 0, .int .i64 0, .int .i64 0, .int .i64 0, .int .i64 0, .int .i64 0, .slice none 0 0, .int .i64 0, .int .i64 0, .slice none 0 0, .int .i64 0, .int .i64 0, .int .i64 0, .int .i64 0, .int .i64 0] 34 (0, 0)) rA
      have rD : ((w1).alloc (.cells #[.int .i64 0, .int .i64 0, .int .i64 0, .int .i64 0, .int .i64 0, .int .i64 0, .int .i64 0, .slice none 0 0, .int .i64 0, .int .i64 0, .slice none 0 0, .int .i64 0, .int .i64 0, .int .i64 0, .int .i64 0, .int .i64 0] 34 (0, 0))).heap[w1.heap.size]? = some (.cells #[.int .i64 0, .int .i64 0, .int .i64 0, .int .i64 0, .int .i64 0, .int .i64 0, .int .i64 0, .slice none 0 0, .int .i64 0, .int .i64 0, .slice none 0 0, .int .i64 0, .int .i64 0, .int .i64 0, .int .i64 0, .int .i64 0] 34 (0, 0)) := block_new_at _ (by first | rfl | (simp only [World.size_alloc] <;> rfl))
      clear hP
      have hP := hP2
      clear hP2
      have hne2 : W.heap.size ≠ w1.heap.size := by omega
      have hlA : W.heap.size ≤ W.heap.size := by omega
      have hlD : W.heap.size ≤ w1.heap.size := by omega
      refine wp_storeP rfl rfl 32 _ _ rfl _ (#[.int .i64 g.id, .int .i64 g.kind, .int .i64 g.x, .int .i64 g.y, .int .i64 g.rad, (.slice fa n1 fc), .int .i64 g.dep, .int .i64 g.sym, (.slice fb n2 fd)]) rfl rfl _ _ rA (by kernel_rfl) (by kernel_rfl) (by kernel_rfl) (below_setRow hP hlA _) (fun hP => ?_)
      refine wp_storeP rfl rfl 34 _ _ rfl _ (#[.int .i64 bk.kind, .int .i64 bk.id, .int .i64 bk.feat.id, .int .i64 bk.feat.kind, .int .i64 bk.feat.x, .int .i64 bk.feat.y, .int .i64 bk.feat.rad, .slice none 0 0, .int .i64 bk.feat.dep, .int .i64 bk.feat.sym, .slice none 0 0, .int .i64 bk.x, .int .i64 bk.y, .int .i64 bk.rad, .int .i64 bk.dep, .int .i64 bk.sym]) rfl rfl _ _ ((setRow_other _ _ _ _ hne2.symm).trans rD) (by kernel_rfl) (by kernel_rfl) (by kernel_rfl) (below_setRow hP hlD _) (fun hP => ?_)
      (refine wpPlan_take rfl (fun K hK => ?_); replace hK := Lib.hid hK; go_simp; first | (refine hK.out _ ?_; clear hK K) | (apply Exists.intro; refine ⟨fun _ => ?_, hK.out _ ?_⟩; (first | with_reducible exact rfl | skip); clear hK K))
      refine wpPlan_done ?_
      go_wp2_with fail
      go_meet
      exact ⟨_, rfl, rfl, (setRow_other _ _ _ _ hne2).trans (setRow_heap _ _ _ _ _ _ rA), hP⟩
    · (refine wpPlan_only rfl (fun K hK => ?_); replace hK := Lib.hid hK; go_simp; refine hK.out _ _ (hP.alloc hP.size _) (fun hP2 => ?_); clear hK K)
      replace rA := block_alloc (o' := .cells #[.int .i64 0, .int .i64 0, .int .i64 0, .int .i64 0, .int .i64 0, .int .i64 0, .int .i64 0, .slice none 0 0, .int .i64 0, .int .i64 0, .slice none 0 0, .int .i64 0, .int .i64 0, .int .i64 0, .int .i64 0, .int .i64 0] 34 (0, 0)) rA
      have rD : (((W.drew).alloc (.cells #[.int .i64 0, .int .i64 0, .int .i64 0, .int .i64 0, .int .i64 0, .slice none 0 0, .int .i64 0, .int .i64 0, .slice none 0 0] 32 (0, 0))).alloc (.cells #[.int .i64 0, .int .i64 0, .int .i64 0, .int .i64 0, .int .i64 0, .int .i64 0, .int .i64 0, .slice none 0 0, .int .i64 0, .int .i64 0, .slice none 0 0, .int .i64 0, .int .i64 0, .int .i64 0, .int .i64 0, .int .i64 0] 34 (0, 0))).heap[W.heap.size + 1]? = some (.cells #[.int .i64 0, .int .i64 0, .int .i64 0, .int .i64 0, .int .i64 0, .int .i64 0, .int .i64 0, .slice none 0 0, .int .i64 0, .int .i64 0, .slice none 0 0, .int .i64 0, .int .i64 0, .int .i64 0, .int .i64 0, .int .i64 0] 34 (0, 0)) := block_new_at _ (by first | rfl | (simp only [World.size_alloc] <;> rfl))
      clear hP
      have hP := hP2
      clear hP2
      (refine wpPlan_only rfl (fun K hK => ?_); replace hK := Lib.hid hK; go_simp; go_at_call 203; (with_reducible refine (pachanged_any f o _ _ _ _ _ (PF.out.later (BW0.trans (hP.mono BW0.size))) (PO.out.later (BW0.trans (hP.mono BW0.size))) HC.out).mono ?_); rintro e w1 ⟨rfl, hb1⟩; refine hK.out _ _ (below_step hP hb1) (fun hP2 => ?_); clear hK K)
      replace rA := block_later hb1 rA
      replace rD := block_later hb1 rD
      have hs1 : W.heap.size + 2 ≤ w1.heap.size := Nat.le_trans (Nat.le_of_eq (by first | rfl | (simp only [World.size_alloc]; rfl) | simp)) hb1.size
      clear hP
      have hP := hP2
      clear hP2
      iterate 4 (refine wpPlan_take rfl (fun K hK => ?_); replace hK := Lib.hid hK; go_simp; first | (refine hK.out _ ?_; clear hK K) | (apply Exists.intro; refine ⟨fun _ => ?_, hK.out _ ?_⟩; (first | with_reducible exact rfl | skip); clear hK K))
      have hne2 : W.heap.size ≠ W.heap.size + 1 := by omega
      have hlA : W.heap.size ≤ W.heap.size := by omega
      have hlD : W.heap.size ≤ W.heap.size + 1 := by omega
      refine wp_storeP rfl rfl 32 _ _ rfl _ (#[.int .i64 g.id, .int .i64 g.kind, .int .i64 g.x, .int .i64 g.y, .int .i64 g.rad, (.slice fa n1 fc), .int .i64 g.dep, .int .i64 g.sym, (.slice fb n2 fd)]) rfl rfl _ _ rA (by kernel_rfl) (by kernel_rfl) (by kernel_rfl) (below_setRow hP hlA _) (fun hP => ?_)
      refine wp_storeP rfl rfl 34 _ _ rfl _ (#[.int .i64 bk.kind, .int .i64 bk.id, .int .i64 bk.feat.id, .int .i64 bk.feat.kind, .int .i64 bk.feat.x, .int .i64 bk.feat.y, .int .i64 bk.feat.rad, .slice none 0 0, .int .i64 bk.feat.dep, .int .i64 bk.feat.sym, .slice none 0 0, .int .i64 bk.x, .int .i64 bk.y, .int .i64 bk.rad, .int .i64 bk.dep, .int .i64 bk.sym]) rfl rfl _ _ ((setRow_other _ _ _ _ hne2.symm).trans rD) (by kernel_rfl) (by kernel_rfl) (by kernel_rfl) (below_setRow hP hlD _) (fun hP => ?_)
      (refine wpPlan_take rfl (fun K hK => ?_); replace hK := Lib.hid hK; go_simp; first | (refine hK.out _ ?_; clear hK K) | (apply Exists.intro; refine ⟨fun _ => ?_, hK.out _ ?_⟩; (first | with_reducible exact rfl | skip); clear hK K))
      refine wpPlan_done ?_
      go_wp2_with fail
      go_meet
      exact ⟨_, rfl, rfl, (setRow_other _ _ _ _ hne2).trans (setRow_heap _ _ _ _ _ _ rA), hP⟩
  · (refine wpPlan_only rfl (fun K hK => ?_); replace hK := Lib.hid hK; go_simp; refine hK.out _ _ (hP.alloc hP.size _) (fun hP2 => ?_); clear hK K)
    have rD : ((W.drew).alloc (.cells #[.int .i64 0, .int .i64 0, .int .i64 0, .int .i64 0, .int .i64 0, .int .i64 0, .int .i64 0, .slice none 0 0, .int .i64 0, .int .i64 0, .slice none 0 0, .int .i64 0, .int .i64 0, .int .i64 0, .int .i64 0, .int .i64 0] 34 (0, 0))).heap[W.heap.size]? = some (.cells #[.int .i64 0, .int .i64 0, .int .i64 0, .int .i64 0, .int .i64 0, .int .i64 0, .int .i64 0, .slice none 0 0, .int .i64 0, .int .i64 0, .slice none 0 0, .int .i64 0, .int .i64 0, .int .i64 0, .int .i64 0, .int .i64 0] 34 (0, 0)) := block_new_at _ (by first | rfl | (simp only [World.size_alloc] <;> rfl))
    clear hP
    have hP := hP2
    clear hP2
    refine wpPlan_two ?_ ?_
    · (refine wpPlan_only rfl (fun K hK => ?_); replace hK := Lib.hid hK; go_simp; go_at_call 203; (with_reducible refine (pachanged_any f o _ _ _ _ _ (PF.out.later (BW0.trans (hP.mono BW0.size))) (PO.out.later (BW0.trans (hP.mono BW0.size))) HC.out).mono ?_); rintro e w1 ⟨rfl, hb1⟩; refine hK.out _ _ (below_step hP hb1) (fun hP2 => ?_); clear hK K)
      replace rD := block_later hb1 rD
      have hs1 : W.heap.size + 1 ≤ w1.heap.size := Nat.le_trans (Nat.le_of_eq (by first | rfl | (simp only [World.size_alloc]; rfl) | simp)) hb1.size
      clear hP
      have hP := hP2
      clear hP2
      iterate 4 (refine wpPlan_take rfl (fun K hK => ?_); replace hK := Lib.hid hK; go_simp; first | (refine hK.out _ ?_; clear hK K) | (apply Exists.intro; refine ⟨fun _ => ?_, hK.out _ ?_⟩; (first | with_reducible exact rfl | skip); clear hK K))
      (refine wpPlan_only rfl (fun K hK => ?_); replace hK := Lib.hid hK; go_simp; refine hK.out _ _ (hP.alloc hP.size _) (fun hP2 => ?_); clear hK K)
      replace rD := block_alloc (o' := .cells #[.int .i64 0, .int .i64 0, .int .i64 0, .int .i64 0, .int .i64 0, .slice none 0 0, .int .i64 0, .int .i64 0, .slice none 0 0] 32 (0, 0)) rD
      have rA : ((w1).alloc (.cells #[.int .i64 0, .int .i64 0, .int .i64 0, .int .i64 0, .int .i64 0, .slice none 0 0, .int .i64 0, .int .i64 0, .slice none 0 0] 32 (0, 0))).heap[w1.heap.size]? = some (.cells #[.int .i64 0, .int .i64 0, .int .i64 0, .int .i64 0, .int .i64 0, .slice none 0 0, .int .i64 0, .int .i64 0, .slice none 0 0] 32 (0, 0)) := block_new_at _ (by first | rfl | (simp only [World.size_alloc] <;> rfl))
      clear hP
      have hP := hP2
      clear hP2
      have hne2 : w1.heap.size ≠ W.heap.size := by omega
      have hlA : W.heap.size ≤ w1.heap.size := by omega
      have hlD : W.heap.size ≤ W.heap.size := by omega
      refine wp_storeP rfl rfl 32 _ _ rfl _ (#[.int .i64 g.id, .int .i64 g.kind, .int .i64 g.x, .int .i64 g.y, .int .i64 g.rad, (.slice fa n1 fc), .int .i64 g.dep, .int .i64 g.sym, (.slice fb n2 fd)]) rfl rfl _ _ rA (by kernel_rfl) (by kernel_rfl) (by kernel_rfl) (below_setRow hP hlA _) (fun hP => ?_)
      refine wp_storeP rfl rfl 34 _ _ rfl _ (#[.int .i64 bk.kind, .int .i64 bk.id, .int .i64 bk.feat.id, .int .i64 bk.feat.kind, .int .i64 bk.feat.x, .int .i64 bk.feat.y, .int .i64 bk.feat.rad, .slice none 0 0, .int .i64 bk.feat.dep, .int .i64 bk.feat.sym, .slice none 0 0, .int .i64 bk.x, .int .i64 bk.y, .int .i64 bk.rad, .int .i64 bk.dep, .int .i64 bk.sym]) rfl rfl _ _ ((setRow_other _ _ _ _ hne2.symm).trans rD) (by kernel_rfl) (by kernel_rfl) (by kernel_rfl) (below_setRow hP hlD _) (fun hP => ?_)
      (refine wpPlan_take rfl (fun K hK => ?_); replace hK := Lib.hid hK; go_simp; first | (refine hK.out _ ?_; clear hK K) | (apply Exists.intro; refine ⟨fun _ => ?_, hK.out _ ?_⟩; (first | with_reducible exact rfl | skip); clear hK K))
      refine wpPlan_done ?_
      go_wp2_with fail
      go_meet
      exact ⟨_, rfl, rfl, (setRow_other _ _ _ _ hne2).trans (setRow_heap _ _ _ _ _ _ rA), hP⟩
    · (refine wpPlan_only rfl (fun K hK => ?_); replace hK := Lib.hid hK; go_simp; refine hK.out _ _ (hP.alloc hP.size _) (fun hP2 => ?_); clear hK K)
      replace rD := block_alloc (o' := .cells #[.int .i64 0, .int .i64 0, .int .i64 0, .int .i64 0, .int .i64 0, .slice none 0 0, .int .i64 0, .int .i64 0, .slice none 0 0] 32 (0, 0)) rD
      have rA : (((W.drew).alloc (.cells #[.int .i64 0, .int .i64 0, .int .i64 0, .int .i64 0, .int .i64 0, .int .i64 0, .int .i64 0, .slice none 0 0, .int .i64 0, .int .i64 0, .slice none 0 0, .int .i64 0, .int .i64 0, .int .i64 0, .int .i64 0, .int .i64 0] 34 (0, 0))).alloc (.cells #[.int .i64 0, .int .i64 0, .int .i64 0, .int .i64 0, .int .i64 0, .slice none 0 0, .int .i64 0, .int .i64 0, .slice none 0 0] 32 (0, 0))).heap[W.heap.size + 1]? = some (.cells #[.int .i64 0, .int .i64 0, .int .i64 0, .int .i64 0, .int .i64 0, .slice none 0 0, .int .i64 0, .int .i64 0, .slice none 0 0] 32 (0, 0)) := block_new_at _ (by first | rfl | (simp only [World.size_alloc] <;> rfl))
      clear hP
      have hP := hP2
      clear hP2
      (refine wpPlan_only rfl (fun K hK => ?_); replace hK := Lib.hid hK; go_simp; go_at_call 203; (with_reducible refine (pachanged_any f o _ _ _ _ _ (PF.out.later (BW0.trans (hP.mono BW0.size))) (PO.out.later (BW0.trans (hP.mono BW0.size))) HC.out).mono ?_); rintro e w1 ⟨rfl, hb1⟩; refine hK.out _ _ (below_step hP hb1) (fun hP2 => ?_); clear hK K)
      replace rD := block_later hb1 rD
      replace rA := block_later hb1 rA
      have hs1 : W.heap.size + 2 ≤ w1.heap.size := Nat.le_trans (Nat.le_of_eq (by first | rfl | (simp only [World.size_alloc]; rfl) | simp)) hb1.size
      clear hP
      have hP := hP2
      clear hP2
      iterate 4 (refine wpPlan_take rfl (fun K hK => ?_); replace hK := Lib.hid hK; go_simp; first | (refine hK.out _ ?_; clear hK K) | (apply Exists.intro; refine ⟨fun _ => ?_, hK.out _ ?_⟩; (first | with_reducible exact rfl | skip); clear hK K))
      have hne2 : W.heap.size + 1 ≠ W.heap.size := by omega
      have hlA : W.heap.size ≤ W.heap.size + 1 := by omega
      have hlD : W.heap.size ≤ W.heap.size := by omega
      refine wp_storeP rfl rfl 32 _ _ rfl _ (#[.int .i64 g.id, .int .i64 g.kind, .int .i64 g.x, .int .i64 g.y, .int .i64 g.rad, (.slice fa n1 fc), .int .i64 g.dep, .int .i64 g.sym, (.slice fb n2 fd)]) rfl rfl _ _ rA (by kernel_rfl) (by kernel_rfl) (by kernel_rfl) (below_setRow hP hlA _) (fun hP => ?_)
      refine wp_storeP rfl rfl 34 _ _ rfl _ (#[.int .i64 bk.kind, .int .i64 bk.id, .int .i64 bk.feat.id, .int .i64 bk.feat.kind, .int .i64 bk.feat.x, .int .i64 bk.feat.y, .int .i64 bk.feat.rad, .slice none 0 0, .int .i64 bk.feat.dep, .int .i64 bk.feat.sym, .slice none 0 0, .int .i64 bk.x, .int .i64 bk.y, .int .i64 bk.rad, .int .i64 bk.dep, .int .i64 bk.sym]) rfl rfl _ _ ((setRow_other _ _ _ _ hne2.symm).trans rD) (by kernel_rfl) (by kernel_rfl) (by kernel_rfl) (below_setRow hP hlD _) (fun hP => ?_)
      (refine wpPlan_take rfl (fun K hK => ?_); replace hK := Lib.hid hK; go_simp; first | (refine hK.out _ ?_; clear hK K) | (apply Exists.intro; refine ⟨fun _ => ?_, hK.out _ ?_⟩; (first | with_reducible exact rfl | skip); clear hK K))
      refine wpPlan_done ?_
      go_wp2_with fail
      go_meet
      exact ⟨_, rfl, rfl, (setRow_other _ _ _ _ hne2).trans (setRow_heap _ _ _ _ _ _ rA), hP⟩
 case rest =>
  obtain ⟨b6, rfl, rfl, r6, hbx⟩ := hcut
  have hBx := below_step hB hbx
  have qx := block_later hbx q1
  have FX := Lib.hid (F1.out.keep (hbx.block m (by have := hB.size; omega)))
  have RX : Wr2 B m w wc := R1.trans (Wr2.of_below hbx)
  clear kq kp k0 k1 k2 k3 k4 k5 k6 k7 k8 k9 k10 k11 k12 k13 k14 kf c0
  go_wp2_with (first
   | (with_reducible refine wpList_load_row rfl 32 (.tmp 6) rfl b6 rfl _ _ _ _ r6 Tryz.underlying32 rfl (by kernel_rfl) ?_)
   | (with_reducible refine wpList_store_mid rfl 32 (.tmp 87) (.tmp 85) rfl B 5 (#[.int .i64 g.id, .int .i64 g.kind, .int .i64 g.x, .int .i64 g.y, .int .i64 g.rad, (.slice fa n1 fc), .int .i64 g.dep, .int .i64 g.sym, (.slice fb n2 fd)]) rfl rfl (there_block qx (by simp)) (by kernel_rfl) (by kernel_rfl) ?_))
  refine body_named fun W9 hW => ?_
  obtain ⟨q9, hot, hwr, _⟩ := said_put (m := m) (hW : W9 = _) qx
  clear hW
  have F9 := Lib.hid (FX.out.keep (hot m hne.symm))
  have R9 := RX.trans hwr
  go_returns
  exact ⟨(by rw [HE.out]; first | done | rfl), fun h => (by rw [HE.out] at h; cases h), R9⟩
set_option maxHeartbeats 8000000 in
theorem hear_chg (B m n : Nat) (before deleted there known : Bool) (f : Feat) (mv dp sy : Option Opn) (o : Opn) (fa fb aa ab : Option Addr) (n1 n2 m1 m2 fc fd ca cb : Nat) (w0 w : World) (g : Feat) (bk : Opn) (er : Int) (hq : w.heap[B]? = some (.cells #[.bool true, .bool before, .bool deleted, .bool there, .bool known, .int .i64 f.id, .int .i64 f.kind, .int .i64 f.x, .int .i64 f.y, .int .i64 f.rad, (.slice fa n1 fc), .int .i64 f.dep, .int .i64 f.sym, (.slice fb n2 fd), .map (some m)] 117 (0, 0))) (hf : PartsAt w0 f (.slice fa n1 fc) (.slice fb n2 fd)) (hm : FldM w0 w m n ⟨true, before, deleted, there, known, f, mv, dp, sy⟩) (hne : B ≠ m) (ho : PartsAt w0 o.feat (.slice aa m1 ca) (.slice ab m2 cb)) (hb0 : Below w0.heap.size w0 w) (hc : chgR f o = (g, bk, er)) (ne1 : ¬ o.kind = 1) (ne2 : ¬ o.kind = 2) (ht : there = true) (hkn : known = true) (hch : chgF f o = some g) : Calls Tryz.prog 92 #[.pointer (some ⟨B, 0, none⟩), opV o (.slice aa m1 ca) (.slice ab m2 cb)] w (HearP w0 B m n ⟨true, before, deleted, there, known, f, mv, dp, sy⟩ o w) := by
 have HE : Hid (hearS ⟨true, before, deleted, there, known, f, mv, dp, sy⟩ o = (⟨true, before, deleted, there, known, g, mv, dp, sy⟩, true)) := Lib.hid (by unfold hearS beginS stepS; simp [ne1, ne2, ht, hkn, hch])
 have e1 : (o.kind == 1) = false := by simpa using ne1
 have e2 : (o.kind == 2) = false := by simpa using ne2
 have HC := Lib.hid hc
 have HB0 := Lib.hid hb0
 have hx : chgR f o = (g, bakF f o, 0) := by unfold chgR; rw [hch]
 have dE : (er == 0) = true := by rw [hx] at hc; simp only [Prod.mk.injEq] at hc; rw [← hc.2.2]; rfl
 have HAR : Hid (g.area = f.area ∧ g.secs = f.secs) := Lib.hid ⟨(chgF_id hch).2.2.1, (chgF_id hch).2.2.2⟩
 clear hx hch
 have Q0 := Lib.hid hq
 have FM := Lib.hid hm
 have PF := Lib.hid hf
 have PO := Lib.hid ho
 have hml := hm.lt
 have hBl := lt_block hq
 clear hq hm hf ho
 subst ht hkn
 clear ne1 ne2 hc hb0
 go_enter Tryz.func92, Tryz.ntmps92
 go_upto_region 2 with (fail)
 refine wp_named fun W hW => ?_
 obtain ⟨p1, hB⟩ := box1 hW
 clear hW
 have q1 := block_later hB Q0.out
 have F1 := Lib.hid (FM.out.keep (hB.block m hml))
 have R1 : Wr2 B m w W := Wr2.of_below hB
 have k0 := cell_block q1 0
 have k1 := cell_block q1 1
 have k2 := cell_block q1 2
 have k3 := cell_block q1 3
 have k4 := cell_block q1 4
 have k5 := cell_block q1 5
 have k6 := cell_block q1 6
 have k7 := cell_block q1 7
 have k8 := cell_block q1 8
 have k9 := cell_block q1 9
 have k10 := cell_block q1 10
 have k11 := cell_block q1 11
 have k12 := cell_block q1 12
 have k13 := cell_block q1 13
 have k14 := cell_block q1 14
 have kf := free_block q1
 have c0 := cell_block p1 0
 have kq := cellsR q1
 have kp := cellsR p1
 have BW0 : Below w0.heap.size w0 W := HB0.out.trans (hB.mono HB0.out.size)
 go_upto_region 12 with (fail)
 go_cut [6, 7, 8] from 74 to 83 (fun s6 s7 s8 wx => ∃ b6 : Nat, s6 = .pointer (some ⟨b6, 0, none⟩) ∧ s8 = .int .i64 er ∧ wx.heap[b6]? = some (.cells #[.int .i64 g.id, .int .i64 g.kind, .int .i64 g.x, .int .i64 g.y, .int .i64 g.rad, (.slice fa n1 fc), .int .i64 g.dep, .int .i64 g.sym, (.slice fb n2 fd)] 32 (0, 0)) ∧ Below W.heap.size W wx)
 case first =>
  refine wp_region_plan (.take 0 (.take 0 (.take 0 (.take 0 (.take 0 (.three 0 (.take 0 (.take 0 (.take 0 (.take 0 (.two 0 (.only 0 (.only 0 (.only 0 (.take 0 .done)))) 1 (.only 0 (.only 0 (.only 0 (.take 0 .done))))))))) 5 (.two 0 (.take 0 (.take 0 (.take 0 (.take 0 (.only 0 (.only 0 (.only 0 (.take 0 .done)))))))) 5 (.only 0 (.take 0 (.take 0 (.take 0 (.take 0 (.only 0 (.only 0 (.take 0 .done))))))))) 6 (.two 0 (.take 0 (.take 0 (.take 0 (.take 0 (.only 0 (.only 0 (.only 0 (.take 0 .done)))))))) 5 (.only 0 (.take 0 (.take 0 (.take 0 (.take 0 (.only 0 (.only 0 (.take 0 .done))))))))))))))) (by kernel_rfl) (by kernel_rfl) (fun hP => ?_)
  iterate 4 (refine wpPlan_take rfl (fun K hK => ?_); replace hK := Lib.hid hK; go_simp; first | (refine hK.out _ ?_; clear hK K) | (apply Exists.intro; refine ⟨fun _ => ?_, hK.out _ ?_⟩; (first | with_reducible exact rfl | skip); clear hK K))
  refine wp_loadP rfl (by kernel_rfl) 34 _ rfl _ rfl _ _ _ _ p1 Tryz.underlying34 rfl (by kernel_rfl) ?_
  clear kq kp k0 k1 k2 k3 k4 k5 k6 k7 k8 k9 k10 k11 k12 k13 k14 kf c0
  refine wpPlan_three ?_ ?_ ?_
  · (refine wpPlan_only rfl (fun K hK => ?_); replace hK := Lib.hid hK; go_simp; go_at_call 203; (with_reducible refine (pachanged_any f o _ _ _ _ _ (PF.out.later (BW0.trans (hP.mono BW0.size))) (PO.out.later (BW0.trans (hP.mono BW0.size))) HC.out).mono ?_); rintro e w1 ⟨rfl, hb1⟩; refine hK.out _ _ (below_step hP hb1) (fun hP2 => ?_); clear hK K)
    have hs1 : W.heap.size + 0 ≤ w1.heap.size := Nat.le_trans (Nat.le_of_eq (by first | rfl | (simp only [World.size_alloc]; rfl) | simp)) hb1.size
    clear hP
    have hP := hP2
    clear hP2
    iterate 4 (refine wpPlan_take rfl (fun K hK => ?_); replace hK := Lib.hid hK; go_simp; first | (refine hK.out _ ?_; clear hK K) | (apply Exists.intro; refine ⟨fun _ => ?_, hK.out _ ?_⟩; (first | with_reducible exact rfl | skip); clear hK K))
    refine wpPlan_two ?_ ?_
    · (refine wpPlan_only rfl (fun K hK => ?_); replace hK := Lib.hid hK; go_simp; refine hK.out _ _ (hP.alloc hP.size _) (fun hP2 => ?_); clear hK K)
      have rA : ((w1).alloc (.cells #[.int .i64 0, .int .i64 0, .int .i64 0, .int .i64 0, .int .i64 0, .slice none 0 0, .int .i64 0, .int .i64 0, .slice none 0 0] 32 (0, 0))).heap[w1.heap.size]? = some (.cells #[.int .i64 0, .int .i64 0, .int .i64 0, .int .i64 0, .int .i64 0, .slice none 0 0, .int .i64 0, .int .i64 0, .slice none 0 0] 32 (0, 0)) := block_new_at _ (by first | rfl | (simp only [World.size_alloc] <;> rfl))
      clear hP
      have hP := hP2
      clear hP2
      (refine wpPlan_only rfl (fun K hK => ?_); replace hK := Lib.hid hK; go_simp; refine hK.out _ _ (hP.alloc hP.size _) (fun hP2 => ?_); clear hK K)
      replace rA := block_alloc (o' := .cells #[.int .i64 0, .int .i64 0, .int .i64 0, .int .i64 0, .int .i64 0, .int .i64 0, .int .i64 0, .slice none 0 0, .int .i64 0, .int .i64 0, .slice none 0 0, .int .i64 0, .int .i64 0, .int .i64 0, .int .i64 0, .int .i64 0] 34 (0, 0)) rA
      have rD : (((w1).alloc (.cells #[.int .i64 0, .int .i64 0, .int .i64 0, .int .i64 0, .int .i64 0, .slice none 0 0, .int .i64 0, .int .i64 0, .slice none 0 0] 32 (0, 0))).alloc (.cells #[.int .i64 0, .int .i64 0, .int .i64 0, .int .i64 0, .int .i64 0, .int .i64 0, .int .i64 0, .slice none 0 0, .int .i64 0, .int .i64 0, .slice none 0 0, .int .i64 0, .int .i64 0, .int .i64 0, .int .i64 0, .int .i64 0] 34 (0, 0))).heap[w1.heap.size + 1]? = some (.cells #[.int .i64 0, .int .i64 0, .int .i64 0, .int .i64 0, .int .i64 0, .int .i64 0, .int .i64 0, .slice none 0 0, .int .i64 0, .int .i64 0, .slice none 0 0, .int .i64 0, .int .i64 0, .int .i64 0, .int .i64 0, .int .i64 0] 34 (0, 0)) := block_new_at _ (by first | rfl | (simp only [World.size_alloc] <;> rfl))
      clear hP
      have hP := hP2
      clear hP2
      have hne2 : w1.heap.size ≠ w1.heap.size + 1 := by omega
      have hlA : W.heap.size ≤ w1.heap.size := by omega
      have hlD : W.heap.size ≤ w1.heap.size + 1 := by omega
      refine wp_storeP rfl rfl 32 _ _ rfl _ (#[.int .i64 g.id, .int .i64 g.kind, .int .i64 g.x, .int .i64 g.y, .int .i64 g.rad, (.slice fa n1 fc), .int .i64 g.dep, .int .i64 g.sym, (.slice fb n2 fd)]) rfl rfl _ _ rA (by kernel_rfl) (by kernel_rfl) (by kernel_rfl) (below_setRow hP hlA _) (fun hP => ?_)
      refine wp_storeP rfl rfl 34 _ _ rfl _ (#[.int .i64 bk.kind, .int .i64 bk.id, .int .i64 bk.feat.id, .int .i64 bk.feat.kind, .int .i64 bk.feat.x, .int .i64 bk.feat.y, .int .i64 bk.feat.rad, .slice none 0 0, .int .i64 bk.feat.dep, .int .i64 bk.feat.sym, .slice none 0 0, .int .i64 bk.x, .int .i64 bk.y, .int .i64 bk.rad, .int .i64 bk.dep, .int .i64 bk.sym]) rfl rfl _ _ ((setRow_other _ _ _ _ hne2.symm).trans rD) (by kernel_rfl) (by kernel_rfl) (by kernel_rfl) (below_setRow hP hlD _) (fun hP => ?_)
      (refine wpPlan_take rfl (fun K hK => ?_); replace hK := Lib.hid hK; go_simp; first | (refine hK.out _ ?_; clear hK K) | (apply Exists.intro; refine ⟨fun _ => ?_, hK.out _ ?_⟩; (first | with_reducible exact rfl | skip); clear hK K))
      refine wpPlan_done ?_
      go_wp2_with fail
      go_meet
      exact ⟨_, rfl, rfl, (setRow_other _ _ _ _ hne2).trans (setRow_heap _ _ _ _ _ _ rA), hP⟩
    · (refine wpPlan_only rfl (fun K hK => ?_); replace hK := Lib.hid hK; go_simp; refine hK.out _ _ (hP.alloc hP.size _) (fun hP2 => ?_); clear hK K)
      have rD : ((w1).alloc (.cells #[.int .i64 0, .int .i64 0, .int .i64 0, .int .i64 0, .int .i64 0, .int .i64 0, .int .i64 0, .slice none 0 0, .int .i64 0, .int .i64 0, .slice none 0 0, .int .i64 0, .int .i64 0, .int .i64 0, .int .i64 0, .int .i64 0] 34 (0, 0))).heap[w1.heap.size]? = some (.cells #[.int .i64 0, .int .i64 0, .int .i64 0, .int .i64 0, .int .i64 0, .int .i64 0, .int .i64 0, .slice none 0 0, .int .i64 0, .int .i64 0, .slice none 0 0, .int .i64 0, .int .i64 0, .int .i64 0, .int .i64 0, .int .i64 0] 34 (0, 0)) := block_new_at _ (by first | rfl | (simp only [World.size_alloc] <;> rfl))
      clear hP
      have hP := hP2
      clear hP2
      (refine wpPlan_only rfl (fun K hK => ?_); replace hK := Lib.hid hK; go_simp; refine hK.out _ _ (hP.alloc hP.size _) (fun hP2 => ?_); clear hK K)
      replace rD := block_alloc (o' := .cells #[.int .i64 0, .int .i64 0, .int .i64 0, .int .i64 0, .int .i64 0, .slice none 0 0, .int .i64 0, .int .i64 0, .slice none 0 0] 32 (0, 0)) rD
      have rA : (((w1).alloc (.cells #[.int .i64 0, .int .i64 0, .int .i64 0, .int .i64 0, .int .i64 0, .int .i64 0, .int .i64 0, .slice none 0 0, .int .i64 0, .int .i64 0, .slice none 0 0, .int .i64 0, .int .i64 0, .int .i64 0, .int .i64 0, .int .i64 0] 34 (0, 0))).alloc (.cells #[.int .i64 0, .int .i64 0, .int .i64 0, .int .i64 0, .int .i64 0, .slice none 0 0, .int .i64 0, .int .i64 0, .slice none 0 0] 32 (0, 0))).heap[w1.heap.size + 1]? = some (.cells #[.int .i64 0, .int .i64 0, .int .i64 0, .int .i64 0, .int .i64 0, .slice none 0 0, .int .i64 0, .int .i64 0, .slice none 0 0] 32 (0, 0)) := block_new_at _ (by first | rfl | (simp only [World.size_alloc] <;> rfl))
      clear hP
      have hP := hP2
      clear hP2
      have hne2 : w1.heap.size + 1 ≠ w1.heap.size := by omega
      have hlA : W.heap.size ≤ w1.heap.size + 1 := by omega
      have hlD : W.heap.size ≤ w1.heap.size := by omega
      refine wp_storeP rfl rfl 32 _ _ rfl _ (#[.int .i64 g.id, .int .i64 g.kind, .int .i64 g.x, .int .i64 g.y, .int .i64 g.rad, (.slice fa n1 fc), .int .i64 g.dep, .int .i64 g.sym, (.slice fb n2 fd)]) rfl rfl _ _ rA (by kernel_rfl) (by kernel_rfl) (by kernel_rfl) (below_setRow hP hlA _) (fun hP => ?_)
      refine wp_storeP rfl rfl 34 _ _ rfl _ (#[.int .i64 bk.kind, .int .i64 bk.id, .int .i64 bk.feat.id, .int .i64 bk.feat.kind, .int .i64 bk.feat.x, .int .i64 bk.feat.y, .int .i64 bk.feat.rad, .slice none 0 0, .int .i64 bk.feat.dep, .int .i64 bk.feat.sym, .slice none 0 0, .int .i64 bk.x, .int .i64 bk.y, .int .i64 bk.rad, .int .i64 bk.dep, .int .i64 bk.sym]) rfl rfl _ _ ((setRow_other _ _ _ _ hne2.symm).trans rD) (by kernel_rfl) (by kernel_rfl) (by kernel_rfl) (below_setRow hP hlD _) (fun hP => ?_)
      (refine wpPlan_take rfl (fun K hK => ?_); replace hK := Lib.hid hK; go_simp; first | (refine hK.out _ ?_; clear hK K) | (apply Exists.intro; refine ⟨fun _ => ?_, hK.out _ ?_⟩; (first | with_reducible exact rfl | skip); clear hK K))
      refine wpPlan_done ?_
      go_wp2_with fail
      go_meet
      exact ⟨_, rfl, rfl, (setRow_other _ _ _ _ hne2).trans (setRow_heap _ _ _ _ _ _ rA), hP⟩
  · (refine wpPlan_only rfl (fun K hK => ?_); replace hK := Lib.hid hK; go_simp; refine hK.out _ _ (hP.alloc hP.size _) (fun hP2 => ?_); clear hK K)
    have rA : ((W.drew).alloc (.cells #[.int .i64 0, .int .i64 0, .int .i64 0, .int .i64 0, .int .i64 0, .slice none 0 0, .int .i64 0, .int .i64 0, .slice none 0 0] 32 (0, 0))).heap[W.heap.size]? = some (.cells #[.int .i64 0, .int .i64 0, .int .i64 0, .int .i64 0, .int .i64 0, .slice none 0 0, .int .i64 0, .int .i64 0, .slice none 0 0] 32 (0, 0)) := block_new_at _ (by first | rfl | (simp only [World.size_alloc] <;> rfl))
    clear hP
    have hP := hP2
    clear hP2
    refine wpPlan_two ?_ ?_
    · (refine wpPlan_only rfl (fun K hK => ?_); replace hK := Lib.hid hK; go_simp; go_at_call 203; (with_reducible refine (pachanged_any f o _ _ _ _ _ (PF.out.later (BW0.trans (hP.mono BW0.size))) (PO.out.later (BW0.trans (hP.mono BW0.size))) HC.out).mono ?_); rintro e w1 ⟨rfl, hb1⟩; refine hK.out _ _ (below_step hP hb1) (fun hP2 => ?_); clear hK K)
      replace rA := block_later hb1 rA
      have hs1 : W.heap.size + 1 ≤ w1.heap.size := Nat.le_trans (Nat.le_of_eq (by first | rfl | (simp only [World.size_alloc]; rfl) | simp)) hb1.size
      clear hP
      have hP := hP2
      clear hP2
      iterate 4 (refine wpPlan_take rfl (fun K hK => ?_); replace hK := Lib.hid hK; go_simp; first | (refine hK.out _ ?_; clear hK K) | (apply Exists.intro; refine ⟨fun _ => ?_, hK.out _ ?_⟩; (first | with_reducible exact rfl | skip); clear hK K))
      (refine wpPlan_only rfl (fun K hK => ?_); replace hK := Lib.hid hK; go_simp; refine hK.out _ _ (hP.alloc hP.size _) (fun hP2 => ?_); clear hK K)
      replace rA := block_alloc (o' := .cells #[.int .i64 0, .int .i64 0, .int .i64 0, .int .i64 0, .int .i64 0, .int .i64 0, .int .i64 0, .slice none 0 0, .int .i64 0, .int .i64 0, .slice none 0 0, .int .i64 0, .int .i64 0, .int .i64 0, .int .i64 0, .int .i64 0] 34 (0, 0)) rA
      have rD : ((w1).alloc (.cells #[.int .i64 0, .int .i64 0, .int .i64 0, .int .i64 0, .int .i64 0, .int .i64 0, .int .i64 0, .slice none 0 0, .int .i64 0, .int .i64 0, .slice none 0 0, .int .i64 0, .int .i64 0, .int .i64 0, .int .i64 0, .int .i64 0] 34 (0, 0))).heap[w1.heap.size]? = some (.cells #[.int .i64 0, .int .i64 0, .int .i64 0, .int .i64 0, .int .i64 0, .int .i64 0, .int .i64 0, .slice none 0 0, .int .i64 0, .int .i64 0, .slice none 0 0, .int .i64 0, .int .i64 0, .int .i64 0, .int .i64 0, .int .i64 0] 34 (0, 0)) := block_new_at _ (by first | rfl | (simp only [World.size_alloc] <;> rfl))
      clear hP
      have hP := hP2
      clear hP2
      have hne2 : W.heap.size ≠ w1.heap.size := by omega
      have hlA : W.heap.size ≤ W.heap.size := by omega
      have hlD : W.heap.size ≤ w1.heap.size := by omega
      refine wp_storeP rfl rfl 32 _ _ rfl _ (#[.int .i64 g.id, .int .i64 g.kind, .int .i64 g.x, .int .i64 g.y, .int .i64 g.rad, (.slice fa n1 fc), .int .i64 g.dep, .int .i64 g.sym, (.slice fb n2 fd)]) rfl rfl _ _ rA (by kernel_rfl) (by kernel_rfl) (by kernel_rfl) (below_setRow hP hlA _) (fun hP => ?_)
      refine wp_storeP rfl rfl 34 _ _ rfl _ (#[.int .i64 bk.kind, .int .i64 bk.id, .int .i64 bk.feat.id, .int .i64 bk.feat.kind, .int .i64 bk.feat.x, .int .i64 bk.feat.y, .int .i64 bk.feat.rad, .slice none 0 0, .int .i64 bk.feat.dep, .int .i64 bk.feat.sym, .slice none 0 0, .int .i64 bk.x, .int .i64 bk.y, .int .i64 bk.rad, .int .i64 bk.dep, .int .i64 bk.sym]) rfl rfl _ _ ((setRow_other _ _ _ _ hne2.symm).trans rD) (by kernel_rfl) (by kernel_rfl) (by kernel_rfl) (below_setRow hP hlD _) (fun hP => ?_)
      (refine wpPlan_take rfl (fun K hK => ?_); replace hK := Lib.hid hK; go_simp; first | (refine hK.out _ ?_; clear hK K) | (apply Exists.intro; refine ⟨fun _ => ?_, hK.out _ ?_⟩; (first | with_reducible exact rfl | skip); clear hK K))
      refine wpPlan_done ?_
      go_wp2_with fail
      go_meet
      exact ⟨_, rfl, rfl, (setRow_other _ _ _ _ hne2).trans (setRow_heap _ _ _ _ _ _ rA), hP⟩
    · (refine wpPlan_only rfl (fun K hK => ?_); replace hK := Lib.hid hK; go_simp; refine hK.out _ _ (hP.alloc hP.size _) (fun hP2 => ?_); clear hK K)
      replace rA := block_alloc (o' := .cells #[.int .i64 0, .int .i64 0, .int .i64 0, .int .i64 0, .int .i64 0, .int .i64 0, .int .i64 0, .slice none 0 0, .int .i64 0, .int .i64 0, .slice none 0 0, .int .i64 0, .int .i64 0, .int .i64 0, .int .i64 0, .int .i64 0] 34 (0, 0)) rA
      have rD : (((W.drew).alloc (.cells #[.int .i64 0, .int .i64 0, .int .i64 0, .int .i64 0, .int .i64 0, .slice none 0 0, .int .i64 0, .int .i64 0, .slice none 0 0] 32 (0, 0))).alloc (.cells #[.int .i64 0, .int .i64 0, .int .i64 0, .int .i64 0, .int .i64 0, .int .i64 0, .int .i64 0, .slice none 0 0, .int .i64 0, .int .i64 0, .slice none 0 0, .int .i64 0, .int .i64 0, .int .i64 0, .int .i64 0, .int .i64 0] 34 (0, 0))).heap[W.heap.size + 1]? = some (.cells #[.int .i64 0, .int .i64 0, .int .i64 0, .int .i64 0, .int .i64 0, .int .i64 0, .int .i64 0, .slice none 0 0, .int .i64 0, .int .i64 0, .slice none 0 0, .int .i64 0, .int .i64 0, .int .i64 0, .int .i64 0, .int .i64 0] 34 (0, 0)) := block_new_at _ (by first | rfl | (simp only [World.size_alloc] <;> rfl))
      clear hP
      have hP := hP2
      clear hP2
      (refine wpPlan_only rfl (fun K hK => ?_); replace hK := Lib.hid hK; go_simp; go_at_call 203; (with_reducible refine (pachanged_any f o _ _ _ _ _ (PF.out.later (BW0.trans (hP.mono BW0.size))) (PO.out.later (BW0.trans (hP.mono BW0.size))) HC.out).mono ?_); rintro e w1 ⟨rfl, hb1⟩; refine hK.out _ _ (below_step hP hb1) (fun hP2 => ?_); clear hK K)
      replace rA := block_later hb1 rA
      replace rD := block_later hb1 rD
      have hs1 : W.heap.size + 2 ≤ w1.heap.size := Nat.le_trans (Nat.le_of_eq (by first | rfl | (simp only [World.size_alloc]; rfl) | simp)) hb1.size
      clear hP
      have hP := hP2
      clear hP2
      iterate 4 (refine wpPlan_take rfl (fun K hK => ?_); replace hK := Lib.hid hK; go_simp; first | (refine hK.out _ ?_; clear hK K) | (apply Exists.intro; refine ⟨fun _ => ?_, hK.out _ ?_⟩; (first | with_reducible exact rfl | skip); clear hK K))
      have hne2 : W.heap.size ≠ W.heap.size + 1 := by omega
      have hlA : W.heap.size ≤ W.heap.size := by omega
      have hlD : W.heap.size ≤ W.heap.size + 1 := by omega
      refine wp_storeP rfl rfl 32 _ _ rfl _ (#[.int .i64 g.id, .int .i64 g.kind, .int .i64 g.x, .int .i64 g.y, .int .i64 g.rad, (.slice fa n1 fc), .int .i64 g.dep, .int .i64 g.sym, (.slice fb n2 fd)]) rfl rfl _ _ rA (by kernel_rfl) (by kernel_rfl) (by kernel_rfl) (below_setRow hP hlA _) (fun hP => ?_)
      refine wp_storeP rfl rfl 34 _ _ rfl _ (#[.int .i64 bk.kind, .int .i64 bk.id, .int .i64 bk.feat.id, .int .i64 bk.feat.kind, .int .i64 bk.feat.x, .int .i64 bk.feat.y, .int .i64 bk.feat.rad, .slice none 0 0, .int .i64 bk.feat.dep, .int .i64 bk.feat.sym, .slice none 0 0, .int .i64 bk.x, .int .i64 bk.y, .int .i64 bk.rad, .int .i64 bk.dep, .int .i64 bk.sym]) rfl rfl _ _ ((setRow_other _ _ _ _ hne2.symm).trans rD) (by kernel_rfl) (by kernel_rfl) (by kernel_rfl) (below_setRow hP hlD _) (fun hP => ?_)
      (refine wpPlan_take rfl (fun K hK => ?_); replace hK := Lib.hid hK; go_simp; first | (refine hK.out _ ?_; clear hK K) | (apply Exists.intro; refine ⟨fun _ => ?_, hK.out _ ?_⟩; (first | with_reducible exact rfl | skip); clear hK K))
      refine wpPlan_done ?_
      go_wp2_with fail
      go_meet
      exact ⟨_, rfl, rfl, (setRow_other _ _ _ _ hne2).trans (setRow_heap _ _ _ _ _ _ rA), hP⟩
  · (refine wpPlan_only rfl (fun K hK => ?_); replace hK := Lib.hid hK; go_simp; refine hK.out _ _ (hP.alloc hP.size _) (fun hP2 => ?_); clear hK K)
    have rD : ((W.drew).alloc (.cells #[.int .i64 0, .int .i64 0, .int .i64 0, .int .i64 0, .int .i64 0, .int .i64 0, .int .i64 0, .slice none 0 0, .int .i64 0, .int .i64 0, .slice none 0 0, .int .i64 0, .int .i64 0, .int .i64 0, .int .i64 0, .int .i64 0] 34 (0, 0))).heap[W.heap.size]? = some (.cells #[.int .i64 0, .int .i64 0, .int .i64 0, .int .i64 0, .int .i64 0, .int .i64 0, .int .i64 0, .slice none 0 0, .int .i64 0, .int .i64 0, .slice none 0 0, .int .i64 0, .int .i64 0, .int .i64 0, .int .i64 0, .int .i64 0] 34 (0, 0)) := block_new_at _ (by first | rfl | (simp only [World.size_alloc] <;> rfl))
    clear hP
    have hP := hP2
    clear hP2
    refine wpPlan_two ?_ ?_
    · (refine wpPlan_only rfl (fun K hK => ?_); replace hK := Lib.hid hK; go_simp; go_at_call 203; (with_reducible refine (pachanged_any f o _ _ _ _ _ (PF.out.later (BW0.trans (hP.mono BW0.size))) (PO.out.later (BW0.trans (hP.mono BW0.size))) HC.out).mono ?_); rintro e w1 ⟨rfl, hb1⟩; refine hK.out _ _ (below_step hP hb1) (fun hP2 => ?_); clear hK K)
      replace rD := block_later hb1 rD
      have hs1 : W.heap.size + 1 ≤ w1.heap.size := Nat.le_trans (Nat.le_of_eq (by first | rfl | (simp only [World.size_alloc]; rfl) | simp)) hb1.size
      clear hP
      have hP := hP2
      clear hP2
      iterate 4 (refine wpPlan_take rfl (fun K hK => ?_); replace hK := Lib.hid hK; go_simp; first | (refine hK.out _ ?_; clear hK K) | (apply Exists.intro; refine ⟨fun _ => ?_, hK.out _ ?_⟩; (first | with_reducible exact rfl | skip); clear hK K))
      (refine wpPlan_only rfl (fun K hK => ?_); replace hK := Lib.hid hK; go_simp; refine hK.out _ _ (hP.alloc hP.size _) (fun hP2 => ?_); clear hK K)
      replace rD := block_alloc (o' := .cells #[.int .i64 0, .int .i64 0, .int .i64 0, .int .i64 0, .int .i64 0, .slice none 0 0, .int .i64 0, .int .i64 0, .slice none 0 0] 32 (0, 0)) rD
      have rA : ((w1).alloc (.cells #[.int .i64 0, .int .i64 0, .int .i64 0, .int .i64 0, .int .i64 0, .slice none 0 0, .int .i64 0, .int .i64 0, .slice none 0 0] 32 (0, 0))).heap[w1.heap.size]? = some (.cells #[.int .i64 0, .int .i64 0, .int .i64 0, .int .i64 0, .int .i64 0, .slice none 0 0, .int .i64 0, .int .i64 0, .slice none 0 0] 32 (0, 0)) := block_new_at _ (by first | rfl | (simp only [World.size_alloc] <;> rfl))
      clear hP
      have hP := hP2
      clear hP2
      have hne2 : w1.heap.size ≠ W.heap.size := by omega
      have hlA : W.heap.size ≤ w1.heap.size := by omega
      have hlD : W.heap.size ≤ W.heap.size := by omega
      refine wp_storeP rfl rfl 32 _ _ rfl _ (#[.int .i64 g.id, .int .i64 g.kind, .int .i64 g.x, .int .i64 g.y, .int .i64 g.rad, (.slice fa n1 fc), .int .i64 g.dep, .int .i64 g.sym, (.slice fb n2 fd)]) rfl rfl _ _ rA (by kernel_rfl) (by kernel_rfl) (by kernel_rfl) (below_setRow hP hlA _) (fun hP => ?_)
      refine wp_storeP rfl rfl 34 _ _ rfl _ (#[.int .i64 bk.kind, .int .i64 bk.id, .int .i64 bk.feat.id, .int .i64 bk.feat.kind, .int .i64 bk.feat.x, .int .i64 bk.feat.y, .int .i64 bk.feat.rad, .slice none 0 0, .int .i64 bk.feat.dep, .int .i64 bk.feat.sym, .slice none 0 0, .int .i64 bk.x, .int .i64 bk.y, .int .i64 bk.rad, .int .i64 bk.dep, .int .i64 bk.sym]) rfl rfl _ _ ((setRow_other _ _ _ _ hne2.symm).trans rD) (by kernel_rfl) (by kernel_rfl) (by kernel_rfl) (below_setRow hP hlD _) (fun hP => ?_)
      (refine wpPlan_take rfl (fun K hK => ?_); replace hK := Lib.hid hK; go_simp; first | (refine hK.out _ ?_; clear hK K) | (apply Exists.intro; refine ⟨fun _ => ?_, hK.out _ ?_⟩; (first | with_reducible exact rfl | skip); clear hK K))
      refine wpPlan_done ?_
      go_wp2_with fail
      go_meet
      exact ⟨_, rfl, rfl, (setRow_other _ _ _ _ hne2).trans (setRow_heap _ _ _ _ _ _ rA), hP⟩
    · (refine wpPlan_only rfl (fun K hK => ?_); replace hK := Lib.hid hK; go_simp; refine hK.out _ _ (hP.alloc hP.size _) (fun hP2 => ?_); clear hK K)
      replace rD := block_alloc (o' := .cells #[.int .i64 0, .int .i64 0, .int .i64 0, .int .i64 0, .int .i64 0, .slice none 0 0, .int .i64 0, .int .i64 0, .slice none 0 0] 32 (0, 0)) rD
      have rA : (((W.drew).alloc (.cells #[.int .i64 0, .int .i64 0, .int .i64 0, .int .i64 0, .int .i64 0, .int .i64 0, .int .i64 0, .slice none 0 0, .int .i64 0, .int .i64 0, .slice none 0 0, .int .i64 0, .int .i64 0, .int .i64 0, .int .i64 0, .int .i64 0] 34 (0, 0))).alloc (.cells #[.int .i64 0, .int .i64 0, .int .i64 0, .int .i64 0, .int .i64 0, .slice none 0 0, .int .i64 0, .int .i64 0, .slice none 0 0] 32 (0, 0))).heap[W.heap.size + 1]? = some (.cells #[.int .i64 0, .int .i64 0, .int .i64 0, .int .i64 0, .int .i64 0, .slice none 0 0, .int .i64 0, .int .i64 0, .slice none 0 0] 32 (0, 0)) := block_new_at _ (by first | rfl | (simp only [World.size_alloc] <;> rfl))
      clear hP
      have hP := hP2
      clear hP2
      (refine wpPlan_only rfl (fun K hK => ?_); replace hK := Lib.hid hK; go_simp; go_at_call 203; (with_reducible refine (pachanged_any f o _ _ _ _ _ (PF.out.later (BW0.trans (hP.mono BW0.size))) (PO.out.later (BW0.trans (hP.mono BW0.size))) HC.out).mono ?_); rintro e w1 ⟨rfl, hb1⟩; refine hK.out _ _ (below_step hP hb1) (fun hP2 => ?_); clear hK K)
      replace rD := block_later hb1 rD
      replace rA := block_later hb1 rA
      have hs1 : W.heap.size + 2 ≤ w1.heap.size := Nat.le_trans (Nat.le_of_eq (by first | rfl | (simp only [World.size_alloc]; rfl) | simp)) hb1.size
      clear hP
      have hP := hP2
      clear hP2
      iterate 4 (refine wpPlan_take rfl (fun K hK => ?_); replace hK := Lib.hid hK; go_simp; first | (refine hK.out _ ?_; clear hK K) | (apply Exists.intro; refine ⟨fun _ => ?_, hK.out _ ?_⟩; (first | with_reducible exact rfl | skip); clear hK K))
      have hne2 : W.heap.size + 1 ≠ W.heap.size := by omega
      have hlA : W.heap.size ≤ W.heap.size + 1 := by omega
      have hlD : W.heap.size ≤ W.heap.size := by omega
      refine wp_storeP rfl rfl 32 _ _ rfl _ (#[.int .i64 g.id, .int .i64 g.kind, .int .i64 g.x, .int .i64 g.y, .int .i64 g.rad, (.slice fa n1 fc), .int .i64 g.dep, .int .i64 g.sym, (.slice fb n2 fd)]) rfl rfl _ _ rA (by kernel_rfl) (by kernel_rfl) (by kernel_rfl) (below_setRow hP hlA _) (fun hP => ?_)
      refine wp_storeP rfl rfl 34 _ _ rfl _ (#[.int .i64 bk.kind, .int .i64 bk.id, .int .i64 bk.feat.id, .int .i64 bk.feat.kind, .int .i64 bk.feat.x, .int .i64 bk.feat.y, .int .i64 bk.feat.rad, .slice none 0 0, .int .i64 bk.feat.dep, .int .i64 bk.feat.sym, .slice none 0 0, .int .i64 bk.x, .int .i64 bk.y, .int .i64 bk.rad, .int .i64 bk.dep, .int .i64 bk.sym]) rfl rfl _ _ ((setRow_other _ _ _ _ hne2.symm).trans rD) (by kernel_rfl) (by kernel_rfl) (by kernel_rfl) (below_setRow hP hlD _) (fun hP => ?_)
      (refine wpPlan_take rfl (fun K hK => ?_); replace hK := Lib.hid hK; go_simp; first | (refine hK.out _ ?_; clear hK K) | (apply Exists.intro; refine ⟨fun _ => ?_, hK.out _ ?_⟩; (first | with_reducible exact rfl | skip); clear hK K))
      refine wpPlan_done ?_
      go_wp2_with fail
      go_meet
      exact ⟨_, rfl, rfl, (setRow_other _ _ _ _ hne2).trans (setRow_heap _ _ _ _ _ _ rA), hP⟩
 case rest =>
  obtain ⟨b6, rfl, rfl, r6, hbx⟩ := hcut
  have hBx := below_step hB hbx
  have qx := block_later hbx q1
  have FX := Lib.hid (F1.out.keep (hbx.block m (by have := hB.size; omega)))
  have RX : Wr2 B m w wc := R1.trans (Wr2.of_below hbx)
  clear kq kp k0 k1 k2 k3 k4 k5 k6 k7 k8 k9 k10 k11 k12 k13 k14 kf c0
  go_wp2_with (first
   | (with_reducible refine wpList_load_row rfl 32 (.tmp 6) rfl b6 rfl _ _ _ _ r6 Tryz.underlying32 rfl (by kernel_rfl) ?_)
   | (with_reducible refine wpList_store_mid rfl 32 (.tmp 87) (.tmp 85) rfl B 5 (#[.int .i64 g.id, .int .i64 g.kind, .int .i64 g.x, .int .i64 g.y, .int .i64 g.rad, (.slice fa n1 fc), .int .i64 g.dep, .int .i64 g.sym, (.slice fb n2 fd)]) rfl rfl (there_block qx (by simp)) (by kernel_rfl) (by kernel_rfl) ?_))
  refine body_named fun W9 hW => ?_
  obtain ⟨q9, hot, hwr, _⟩ := said_put (m := m) (hW : W9 = _) qx
  clear hW
  have F9 := Lib.hid (FX.out.keep (hot m hne.symm))
  have R9 := RX.trans hwr
  go_returns
  exact ⟨(by rw [HE.out]; first | done | rfl), fun _ => (by rw [HE.out]; exact ⟨_, _, q9, (by have h := PF.out; unfold PartsAt at h ⊢; rw [HAR.out.1, HAR.out.2]; exact h), (F9.out.state rfl rfl rfl).mono (by omega)⟩), R9⟩
end Go.Proofs.YtdmegkkifiahdaaGreat
namespace Go.Proofs.YtdmegkkifiahdaaGreat
open Go.RowKit
set_option linter.unusedVariables false
theorem fld_form {o : Opn} (h : OpForm o) (h1 : ¬ o.kind = 1) (h2 : ¬ o.kind = 2) : FldK o.kind := by
 have := kinds_of h
 unfold FldK
 omega
theorem pahear_any (B m n : Nat) (s : SaidS) (o : Opn) (ua us : Value) (w0 w : World) (hf : OpForm o) (hs : s.begun = true ∨ s = said0) (h : SaidAt w0 w B m n s) (hne : B ≠ m) (ho : PartsAt w0 o.feat ua us) (hb0 : Below w0.heap.size w0 w) (hn : n ≤ 1000) :
  Calls Tryz.prog 92 #[.pointer (some ⟨B, 0, none⟩), opV o ua us] w (HearP w0 B m n s o w) := by
 obtain ⟨va, vs, hq, hp, hm⟩ := h
 obtain ⟨fa, fc, fb, fd, rfl, rfl⟩ := hp.form
 obtain ⟨aa, ca, ab, cb, rfl, rfl⟩ := ho.form
 obtain ⟨begun, before, deleted, there, known, f, mv, dp, sy⟩ := s
 rcases hs with hs | hs
 · have hs : begun = true := hs
   subst hs
   by_cases k1 : o.kind = 1
   · cases there
     · exact hear_ins B m n before deleted false known f mv dp sy o fa fb aa ab _ _ _ _ fc fd ca cb w0 w hq hp hm hne ho k1 rfl
     · exact hear_twice B m n before deleted true known f mv dp sy o fa fb aa ab _ _ _ _ fc fd ca cb w0 w hq hp hm hne ho k1 rfl
   · cases there
     · exact hear_none B m n before deleted false known f mv dp sy o fa fb aa ab _ _ _ _ fc fd ca cb w0 w hq hp hm hne ho k1 rfl
     · by_cases k2 : o.kind = 2
       · exact hear_del B m n before deleted true known f mv dp sy o fa fb aa ab _ _ _ _ fc fd ca cb w0 w hq hp hm hne ho k2 rfl
       · have hk := fld_form hf k1 k2
         cases known
         · exact hear_fld B m n before deleted true false f mv dp sy o fa fb aa ab _ _ _ _ fc fd ca cb w0 w hq hp hm hne ho hk hn rfl rfl
         · cases hch : chgF f o with
           | none => exact hear_chg_no B m n before deleted true true f mv dp sy o fa fb aa ab _ _ _ _ fc fd ca cb w0 w _ _ _ hq hp hm hne ho hb0 rfl k1 k2 rfl rfl hch
           | some g =>
             have hc : chgR f o = (g, bakF f o, 0) := by unfold chgR; rw [hch]
             exact hear_chg B m n before deleted true true f mv dp sy o fa fb aa ab _ _ _ _ fc fd ca cb w0 w _ _ _ hq hp hm hne ho hb0 hc k1 k2 rfl rfl hch
 · cases hs
   by_cases k1 : o.kind = 1
   · exact hear_ins0 B m n false false false false noFeat none none none o fa fb aa ab _ _ _ _ fc fd ca cb w0 w hq hp hm hne ho k1
   · by_cases k2 : o.kind = 2
     · exact hear_del0 B m n false false false false noFeat none none none o fa fb aa ab _ _ _ _ fc fd ca cb w0 w hq hp hm hne ho k2
     · exact hear_fld0 B m n false false false false noFeat none none none o fa fb aa ab _ _ _ _ fc fd ca cb w0 w hq hp hm hne ho (fld_form hf k1 k2) hn rfl
end Go.Proofs.YtdmegkkifiahdaaGreat
