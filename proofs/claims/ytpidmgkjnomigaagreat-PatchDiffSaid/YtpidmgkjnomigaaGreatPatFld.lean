/- What a patch says of an ID, in memory: the struct said and its map of operations. -/
import Derived.Test.YtpidmgkjnomigaaGreatPatKeys
import Derived.Test.YtpidmgkjnomigaaGreatPatSh4
namespace Go.Proofs.YtpidmgkjnomigaaGreat
open Go.RowKit Go.Maps
set_option linter.unusedVariables false
def fldS (s : SaidS) (k : Int) : Option Opn := if k = 3 then s.mv else if k = 4 then s.dp else s.sy
def FldK (k : Int) : Prop := k = 3 ∨ k = 4 ∨ k = 5
/-- Block m is the map of the operations that are known of the fields. -/
def FldM (w0 w : World) (m n : Nat) (s : SaidS) : Prop := ∃ D : DataW Value, w.ownsMap Tryz.prog 3 heldV m n D ∧ (∀ kl, Maps.has D kl = true → ∃ k, FldK k ∧ kl = keyI k) ∧ ∀ k, FldK k → (fldS s k = none → Maps.has D (keyI k) = false) ∧ ∀ o, fldS s k = some o → ∃ va vs, Maps.has D (keyI k) = true ∧ (∀ z, D.atKey (keyI k) z = .held (opV o va vs)) ∧ PartsAt w0 o.feat va vs
theorem FldM.lt {w0 w : World} {m n : Nat} {s : SaidS} (h : FldM w0 w m n s) : m < w.heap.size := by
  obtain ⟨D, ho, _⟩ := h
  exact ho.lt
theorem FldM.keep {w0 w w' : World} {m n : Nat} {s : SaidS} (h : FldM w0 w m n s) (e : w'.heap[m]? = w.heap[m]?) : FldM w0 w' m n s := by
  obtain ⟨D, ⟨es, clock, hh, r⟩, hr⟩ := h
  exact ⟨D, ⟨es, clock, e.trans hh, r⟩, hr⟩
theorem FldM.mono {w0 w : World} {m n n' : Nat} {s : SaidS} (h : FldM w0 w m n s) (hn : n ≤ n') : FldM w0 w m n' s := by
  obtain ⟨D, ho, hr⟩ := h
  exact ⟨D, ho.mono hn, hr⟩
theorem FldM.state {w0 w : World} {m n : Nat} {s s' : SaidS} (h : FldM w0 w m n s) (h1 : s'.mv = s.mv) (h2 : s'.dp = s.dp) (h3 : s'.sy = s.sy) : FldM w0 w m n s' := by
  obtain ⟨D, ho, hk, hr⟩ := h
  have e : ∀ k, fldS s' k = fldS s k := fun k => by unfold fldS; rw [h1, h2, h3]
  exact ⟨D, ho, hk, fun k hkk => by rw [e]; exact hr k hkk⟩
theorem FldM.made (w0 w : World) (s : SaidS) (h1 : s.mv = none) (h2 : s.dp = none) (h3 : s.sy = none) : FldM w0 (w.alloc (.map #[] 0)) w.heap.size 0 s :=
  ⟨.map [], World.ownsMap_made w _ _ _, fun kl h => by simp [Maps.has] at h, fun k hk => ⟨fun _ => by simp [Maps.has], fun o ho => by
    unfold fldS at ho
    rw [h1, h2, h3] at ho
    split at ho
    · cases ho
    · split at ho <;> cases ho⟩⟩
theorem fldS_put {s : SaidS} {o : Opn} (hk : FldK o.kind) (k : Int) (hkk : FldK k) : fldS (putS s o) k = if k = o.kind then some o else fldS s k := by
  unfold fldS putS
  rcases hk with h | h | h <;> rcases hkk with h' | h' | h' <;> simp [h, h']
theorem fld_store {w0 w : World} {m n : Nat} {s : SaidS} (h : FldM w0 w m n s) {t : TypeId} (ht : Tryz.prog.underlying t = some (.map 3 53)) {o : Opn} {va vs : Value} (hk : FldK o.kind) (hp : PartsAt w0 o.feat va vs) (hn : n < maxLen) :
    ∃ w', (Instr.mapUpdate t (.map (some m)) (.int .i64 o.kind) (opV o va vs)).run Tryz.prog w = .ok () w' ∧ FldM w0 w' m (n + 1) (putS s o) ∧ w.mapTurned w' m := by
  obtain ⟨D, ho, h1, h2⟩ := h
  have hw : (Lit.int .i64 o.kind).wf = true := by rcases hk with h | h | h <;> rw [h] <;> decide
  obtain ⟨w', hrun, ho', ht'⟩ := ho.store intKeyed ht hn (key_of hw) (rfl : heldV (opV o va vs) = some (.held (opV o va vs), []))
  refine ⟨w', hrun, ⟨_, ho', fun kl hkl => ?_, fun k hkk => ?_⟩, ht'⟩
  · by_cases e : kl = keyI o.kind
    · exact ⟨o.kind, hk, e⟩
    · rw [has_put_other e] at hkl
      exact h1 kl hkl
  · rw [fldS_put hk k hkk]
    by_cases e : k = o.kind
    · subst e
      rw [if_pos rfl]
      refine ⟨fun h => (by cases h), fun p hpp => ?_⟩
      cases hpp
      exact ⟨va, vs, has_put_same ho.isMap (keyI_lit _) _, fun z => atKey_put_same ho.isMap (keyI_lit _) _ z, hp⟩
    · rw [if_neg e]
      have hne : keyI k ≠ keyI o.kind := fun e2 => e (keyI_inj e2)
      obtain ⟨q1, q2⟩ := h2 k hkk
      refine ⟨fun hn => by rw [has_put_other hne]; exact q1 hn, fun p hpp => ?_⟩
      obtain ⟨va', vs', r1, r2, r3⟩ := q2 p hpp
      exact ⟨va', vs', by rw [has_put_other hne]; exact r1, fun z => by rw [atKey_put_other hne]; exact r2 z, r3⟩
theorem zero_op (w : World) : (zeroValue 53).run Tryz.prog w = .ok (opV noOpn (.slice none 0 0) (.slice none 0 0)) w := by kernel_rfl
theorem fld_look {w0 w : World} {m n : Nat} {s : SaidS} (h : FldM w0 w m n s) {t : TypeId} (ht : Tryz.prog.underlying t = some (.map 3 53)) {k : Int} (hk : FldK k) {o : Opn} (hs : fldS s k = some o) :
    ∃ va vs, (Instr.lookup t (.map (some m)) (.int .i64 k) false).run Tryz.prog w = .ok (opV o va vs) w ∧ PartsAt w0 o.feat va vs := by
  obtain ⟨D, ho, h1, h2⟩ := h
  have hw : (Lit.int .i64 k).wf = true := by rcases hk with h | h | h <;> rw [h] <;> decide
  obtain ⟨va, vs, q1, q2, q3⟩ := (h2 k hk).2 o hs
  obtain ⟨v, ps, hrun, hv⟩ := ho.lookup intKeyed ht (zero_op w) rfl (key_of hw)
  rw [q2] at hv
  simp only [heldV, Option.some.injEq, Prod.mk.injEq] at hv
  have e : v = opV o va vs := by have := hv.1; cases this; rfl
  exact ⟨va, vs, by rw [← e]; exact hrun, q3⟩
/-- The kinds of the fields' operations that are known, upward. -/
def kindsS (s : SaidS) : List Int := (if s.mv.isSome = true then [3] else []) ++ (if s.dp.isSome = true then [4] else []) ++ (if s.sy.isSome = true then [5] else [])
theorem mem_kinds (s : SaidS) (k : Int) : k ∈ kindsS s ↔ FldK k ∧ (fldS s k).isSome = true := by
  have e : k ∈ kindsS s ↔ (s.mv.isSome = true ∧ k = 3) ∨ (s.dp.isSome = true ∧ k = 4) ∨ (s.sy.isSome = true ∧ k = 5) := by
    unfold kindsS
    cases s.mv <;> cases s.dp <;> cases s.sy <;> simp
  rw [e]
  constructor
  · rintro (⟨h, rfl⟩ | ⟨h, rfl⟩ | ⟨h, rfl⟩)
    · exact ⟨.inl rfl, h⟩
    · exact ⟨.inr (.inl rfl), h⟩
    · exact ⟨.inr (.inr rfl), h⟩
  · rintro ⟨rfl | rfl | rfl, h⟩
    · exact .inl ⟨h, rfl⟩
    · exact .inr (.inl ⟨h, rfl⟩)
    · exact .inr (.inr ⟨h, rfl⟩)
theorem kinds_up (s : SaidS) : (kindsS s).Pairwise (· < ·) := by
  unfold kindsS
  cases s.mv <;> cases s.dp <;> cases s.sy <;> simp
theorem fld_keys {w0 w : World} {m n : Nat} {s : SaidS} (h : FldM w0 w m n s) : ∃ D : DataW Value, w.ownsMap Tryz.prog 3 heldV m n D ∧ Maps.size D ≤ n ∧ ∀ ss : List Int, ss.Perm (intKeys D) → ss.mergeSort leI = kindsS s := by
  obtain ⟨D, ho, h1, h2⟩ := h
  refine ⟨D, ho, ho.size_le, fun ss hss => ?_⟩
  obtain ⟨es, rfl, hpw, hkl⟩ := ho.entries intKeyed
  have hp : (kindsS s).Perm (intKeys (.map es)) := by
    refine perm_intKeys hpw (fun p hp => ?_) ((kinds_up s).imp fun h e => by omega) fun x => ?_
    · have : Maps.has (DataW.map es) p.1 = true := by
        rw [has_eq, List.any_eq_true]
        exact ⟨p, hp, WideAt.sameKey_self (hkl p hp)⟩
      obtain ⟨k, _, e⟩ := h1 _ this
      exact ⟨_, e⟩
    · rw [mem_kinds]
      constructor
      · rintro ⟨hk, hs⟩
        obtain ⟨o, ho⟩ := Option.isSome_iff_exists.1 hs
        obtain ⟨_, _, q, _⟩ := (h2 x hk).2 o ho
        exact q
      · intro hx
        obtain ⟨k, hk, e⟩ := h1 _ hx
        have e2 := keyI_inj e
        subst e2
        refine ⟨hk, ?_⟩
        cases hf : fldS s x with
        | some o => rfl
        | none =>
          have := (h2 x hk).1 hf
          rw [hx] at this
          cases this
  rw [mergeSort_of_perm_i (hss.trans hp.symm)]
  exact List.mergeSort_of_pairwise ((kinds_up s).imp fun h => by simp [leI]; omega)
theorem fields_kinds (s : SaidS) : ∃ F : Int → Opn, fieldsS s = (kindsS s).map F ∧ ∀ k ∈ kindsS s, fldS s k = some (F k) := by
  refine ⟨fun k => (fldS s k).getD noOpn, ?_, fun k hk => ?_⟩
  · unfold fieldsS kindsS fldS
    cases s.mv <;> cases s.dp <;> cases s.sy <;> simp
  · obtain ⟨o, ho⟩ := Option.isSome_iff_exists.1 ((mem_kinds s k).1 hk).2
    show fldS s k = some ((fldS s k).getD noOpn)
    rw [ho]
    rfl
theorem wp_fldStore {o : Oper} {a : Act} {K : Act → World → Prop} {Q : Exit → Act → World → Prop} {w : World} (mp x v : Operand) (t : TypeId) (hop : o.op = Op.mapUpdate t mp x v) (ht : Tryz.prog.underlying t = some (.map 3 53)) {w0 : World} {m n : Nat} {s : SaidS} {p : Opn} {va vs : Value} (hm : a.eval mp = .map (some m)) (hx : a.eval x = .int .i64 p.kind) (hv : a.eval v = opV p va vs) (h : FldM w0 w m n s) (hk : FldK p.kind) (hp : PartsAt w0 p.feat va vs) (hn : n < maxLen)
    (hK : ∀ w', FldM w0 w' m (n + 1) (putS s p) → w.mapTurned w' m → K (a.put o.dst undef) w') : o.wp Tryz.prog a w K Q := by
  obtain ⟨w', hrun, r1, r2⟩ := fld_store h ht hk hp hn
  unfold Oper.wp
  simp [execOp, hop, hm, hx, hv, hrun, Result.andThen]
  exact hK w' r1 r2
theorem wpList_fldLook {ops : Array Oper} {rest : List Oper} {o : Oper} {a : Act} {Q : Exit → Act → World → Prop} {w : World} (hg : o.guard = none) (mp x : Operand) (t : TypeId) (hop : o.op = Op.lookup t mp x false) (ht : Tryz.prog.underlying t = some (.map 3 53)) {w0 : World} {m n : Nat} {s : SaidS} {k : Int} {p : Opn} (hm : a.eval mp = .map (some m)) (hx : a.eval x = .int .i64 k) (h : FldM w0 w m n s) (hk : FldK k) (hs : fldS s k = some p)
    (hK : ∀ va vs, PartsAt w0 p.feat va vs → wpList Tryz.prog ops Q rest (a.put o.dst (opV p va vs)) w) : wpList Tryz.prog ops Q (o :: rest) a w := by
  refine wpList_plain hg fun K' hK' => ?_
  obtain ⟨va, vs, hrun, hp⟩ := fld_look h ht hk hs
  unfold Oper.wp
  simp [execOp, hop, hm, hx, hrun, Result.andThen]
  exact hK' _ _ (hK va vs hp)
end Go.Proofs.YtpidmgkjnomigaaGreat
