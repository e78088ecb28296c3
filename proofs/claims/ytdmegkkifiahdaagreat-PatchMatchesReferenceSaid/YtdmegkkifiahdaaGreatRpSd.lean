import Derived.Test.YtdmegkkifiahdaaGreatRpAf
import Derived.Test.YtdmegkkifiahdaaGreatPB
import Derived.Deep.CutRange
namespace Go.Proofs.YtdmegkkifiahdaaGreat
set_option linter.unusedVariables false
def rsay0 : RSay := ⟨false, false, false, false, noFeat, []⟩
structure KindsS (t : SaidS) : Prop where
 mv : ∀ o, t.mv = some o → o.kind = 3
 dp : ∀ o, t.dp = some o → o.kind = 4
 sy : ∀ o, t.sy = some o → o.kind = 5
structure RelS (r : RSay) (t : SaidS) : Prop where
 before : r.before = t.before
 there : r.there = t.there
 known : r.known = t.known
 feat : r.feat = t.feat
 fields : r.fields = fieldsS t
 gone : (r.before && r.deleted) = (t.before && t.deleted)
 kinds : KindsS t
theorem rel0 : RelS rsay0 said0 := ⟨rfl, rfl, rfl, rfl, rfl, rfl, ⟨fun o h => (by cases h), fun o h => (by cases h), fun o h => (by cases h)⟩⟩
theorem fieldsS_len (t : SaidS) : (fieldsS t).length ≤ 3 := by
 unfold fieldsS
 cases t.mv <;> cases t.dp <;> cases t.sy <;> simp
theorem filt_none {m : Option Opn} {a k : Int} (h : ∀ o, m = some o → o.kind = a) (hne : a ≠ k) : (m.toList).filter (fun p => decide (p.kind = k)) = [] := by
 cases m with
 | none => rfl
 | some o =>
   have := h o rfl
   simp [this, hne]
theorem filt_all {m : Option Opn} {a : Int} (h : ∀ o, m = some o → o.kind = a) : (m.toList).filter (fun p => decide (p.kind = a)) = m.toList := by
 cases m with
 | none => rfl
 | some o =>
   have := h o rfl
   simp [this]
theorem pick_fields {t : SaidS} (h : KindsS t) (o : Opn) (ho : 3 ≤ o.kind ∧ o.kind ≤ 5) : newFl (fieldsS t) o 3 = fieldsS (putS t o) := by
 have f3 : (fieldsS t).filter (fun p => decide (p.kind = 3)) = t.mv.toList := by
  unfold fieldsS
  rw [List.filter_append, List.filter_append, filt_all h.mv, filt_none h.dp (by decide), filt_none h.sy (by decide), List.append_nil, List.append_nil]
 have f4 : (fieldsS t).filter (fun p => decide (p.kind = 4)) = t.dp.toList := by
  unfold fieldsS
  rw [List.filter_append, List.filter_append, filt_none h.mv (by decide), filt_all h.dp, filt_none h.sy (by decide), List.append_nil, List.nil_append]
 have f5 : (fieldsS t).filter (fun p => decide (p.kind = 5)) = t.sy.toList := by
  unfold fieldsS
  rw [List.filter_append, List.filter_append, filt_none h.mv (by decide), filt_none h.dp (by decide), filt_all h.sy, List.append_nil, List.nil_append]
 have e : newFl (fieldsS t) o 3 = pickK (fieldsS t) o 3 ++ pickK (fieldsS t) o 4 ++ pickK (fieldsS t) o 5 := by
  unfold newFl
  simp [List.range_succ]
 rw [e]
 unfold pickK
 rw [f3, f4, f5]
 unfold putS fieldsS
 have hk : o.kind = 3 ∨ o.kind = 4 ∨ o.kind = 5 := by omega
 rcases hk with k | k | k <;> simp [k]
theorem put_kinds {t : SaidS} (h : KindsS t) (o : Opn) (ho : 3 ≤ o.kind ∧ o.kind ≤ 5) : KindsS (putS t o) := by
 obtain ⟨h1, h2, h3⟩ := h
 unfold putS
 have hk : o.kind = 3 ∨ o.kind = 4 ∨ o.kind = 5 := by omega
 rcases hk with k | k | k
 · rw [if_pos k]
   exact ⟨fun p hp => by cases hp; exact k, h2, h3⟩
 · rw [if_neg (by omega), if_pos k]
   exact ⟨h1, fun p hp => by cases hp; exact k, h3⟩
 · rw [if_neg (by omega), if_neg (by omega)]
   exact ⟨h1, h2, fun p hp => by cases hp; exact k⟩
theorem after_rel {r : RSay} {t : SaidS} {o : Opn} (h : RelS r t) (ho : OpForm o) : (afterR r o).2 = (stepS t o).2 ∧ ((afterR r o).2 = true → RelS (afterR r o).1 (stepS t o).1) := by
 obtain ⟨rb, rd, rt, rk, rf, rfs⟩ := r
 obtain ⟨tg, tb, td, tt, tk, tf, tm, tp, ts⟩ := t
 obtain ⟨h1, h2, h3, h4, h5, h6, h7⟩ := h
 simp only at h1 h2 h3 h4 h5 h6
 subst h1 h2 h3 h4 h5
 have hk : o.kind = 1 ∨ o.kind = 2 ∨ (3 ≤ o.kind ∧ o.kind ≤ 5) := by cases ho <;> simp [insO, delO, movO, depO, symO]
 unfold afterR stepS
 rcases hk with k | k | k
 · rw [if_pos k]
   simp only [k, if_true, decide_true]
   cases rt with
   | true => simp
   | false =>
     simp
     exact ⟨rfl, rfl, rfl, rfl, rfl, h6, h7.1, h7.2, h7.3⟩
 · have n1 : ¬ o.kind = 1 := by omega
   rw [if_neg n1]
   simp only [k, if_true]
   cases rt with
   | false => simp
   | true =>
     simp
     exact ⟨rfl, rfl, rfl, rfl, rfl, by simp only; cases rb <;> simp, h7.1, h7.2, h7.3⟩
 · have n1 : ¬ o.kind = 1 := by omega
   have n2 : ¬ o.kind = 2 := by omega
   rw [if_neg n1]
   simp only [n1, n2, if_false, decide_false]
   cases rt with
   | false => simp
   | true =>
     simp
     cases rk with
     | true =>
       simp
       unfold chgE
       cases hc : chgF rf o with
       | none => simp
       | some g =>
         simp
         exact ⟨rfl, rfl, rfl, rfl, rfl, h6, h7.1, h7.2, h7.3⟩
     | false =>
       simp
       have hp := pick_fields (t := ⟨tg, rb, td, true, false, rf, tm, tp, ts⟩) h7 o k
       have hq := put_kinds (t := ⟨tg, rb, td, true, false, rf, tm, tp, ts⟩) h7 o k
       unfold putS at hp hq ⊢
       have hk : o.kind = 3 ∨ o.kind = 4 ∨ o.kind = 5 := by omega
       rcases hk with k | k | k <;> (simp only [k] at hp hq ⊢; simp at hp hq ⊢; exact ⟨rfl, rfl, rfl, rfl, hp, h6, hq⟩)
def headR (fst : Bool) (r : RSay) (o : Opn) : RSay := if fst = true then { r with before := decide (o.kind ≠ 1), there := decide (o.kind ≠ 1) } else r
theorem head_rel {r : RSay} {t : SaidS} (o : Opn) (h : RelS r t) (h0 : t.begun = false → t = said0 ∧ r = rsay0) : RelS (headR (!t.begun) r o) (beginS t (decide (o.kind = 1))) := by
 unfold headR beginS
 cases hb : t.begun with
 | true => simpa using h
 | false =>
   obtain ⟨e1, e2⟩ := h0 hb
   subst e1 e2
   simp
   by_cases k : o.kind = 1
   · simp [k, rsay0, said0]
     exact ⟨rfl, rfl, rfl, rfl, rfl, rfl, ⟨fun o h => (by cases h), fun o h => (by cases h), fun o h => (by cases h)⟩⟩
   · simp [k, rsay0, said0]
     exact ⟨rfl, rfl, rfl, rfl, rfl, rfl, ⟨fun o h => (by cases h), fun o h => (by cases h), fun o h => (by cases h)⟩⟩
def SaidSt (ops : List Opn) (id : Int) (k : Nat) (fst : Bool) (r : RSay) : Prop := ∃ t, saysS (ofId id (ops.take k)) said0 = some t ∧ RelS r t ∧ fst = !t.begun ∧ (t.begun = false → t = said0 ∧ r = rsay0)
theorem says_app : ∀ (a b : List Opn) (t : SaidS), saysS (a ++ b) t = (saysS a t).bind (saysS b)
 | [], b, t => rfl
 | o :: a, b, t => by
   rw [List.cons_append]
   unfold saysS
   by_cases h : (hearS t o).2 = true
   · rw [if_pos h, if_pos h, says_app a b]
   · rw [if_neg h, if_neg h]
     rfl
theorem saidst0 (ops : List Opn) (id : Int) : SaidSt ops id 0 true rsay0 := ⟨said0, rfl, rel0, rfl, fun _ => ⟨rfl, rfl⟩⟩
theorem saidst_skip {ops : List Opn} {id : Int} {k : Nat} {fst : Bool} {r : RSay} {o : Opn} (h : SaidSt ops id k fst r) (hk : k < ops.length) (ho : ops.getD k noOpn = o) (hne : o.id ≠ id) : SaidSt ops id (k + 1) fst r := by
 obtain ⟨t, h1, h2⟩ := h
 refine ⟨t, ?_, h2⟩
 rw [take_snoc noOpn hk, ho, ofId_append, ofId_cons, if_neg hne, show ofId id [] = [] from rfl, List.append_nil]
 exact h1
theorem saidst_yes {ops : List Opn} {id : Int} {k : Nat} {fst : Bool} {r r' : RSay} {o : Opn} (h : SaidSt ops id k fst r) (hk : k < ops.length) (ho : ops.getD k noOpn = o) (hid : o.id = id) (hf : OpForm o) (ha : afterR (headR fst r o) o = (r', true)) : SaidSt ops id (k + 1) false r' := by
 obtain ⟨t, h1, h2, rfl, h4⟩ := h
 obtain ⟨e1, e2⟩ := after_rel (head_rel o h2 h4) hf
 rw [ha] at e1 e2
 have hh : hearS t o = stepS (beginS t (decide (o.kind = 1))) o := rfl
 have hbeg : (hearS t o).1.begun = true := by
  have hb : (beginS t (decide (o.kind = 1))).begun = true := by
   unfold beginS
   cases hb : t.begun with
   | true => simpa using hb
   | false => simp
  rw [hh]
  unfold stepS
  split
  · exact hb
  · split
    · exact hb
    · split
      · exact hb
      · split
        · split <;> exact hb
        · unfold putS
          split
          · exact hb
          · split <;> exact hb
 refine ⟨(hearS t o).1, ?_, ?_, ?_, fun h => by rw [hbeg] at h; cases h⟩
 · rw [take_snoc noOpn hk, ho, ofId_append, ofId_cons, if_pos hid, show ofId id [] = [] from rfl, says_app, h1]
   show saysS [o] t = _
   unfold saysS
   rw [hh, ← e1, if_pos rfl]
   rfl
 · rw [hh]
   exact e2 rfl
 · rw [hbeg]
   rfl
theorem saidst_no {ops : List Opn} {id : Int} {k : Nat} {fst : Bool} {r r' : RSay} {o : Opn} (h : SaidSt ops id k fst r) (hk : k < ops.length) (ho : ops.getD k noOpn = o) (hid : o.id = id) (hf : OpForm o) (ha : afterR (headR fst r o) o = (r', false)) : saysS (ofId id ops) said0 = none := by
 obtain ⟨t, h1, h2, rfl, h4⟩ := h
 obtain ⟨e1, _⟩ := after_rel (head_rel o h2 h4) hf
 rw [ha] at e1
 have e : ops = ops.take k ++ (o :: ops.drop (k + 1)) := by
  rw [← ho, List.getD_eq_getElem?_getD, List.getElem?_eq_getElem hk, Option.getD_some, ← List.drop_eq_getElem_cons hk, List.take_append_drop]
 rw [e, ofId_append, ofId_cons, if_pos hid, says_app, h1]
 show saysS (o :: ofId id (ops.drop (k + 1))) t = none
 unfold saysS
 rw [show hearS t o = stepS (beginS t (decide (o.kind = 1))) o from rfl, ← e1]
 rfl
end Go.Proofs.YtdmegkkifiahdaaGreat
namespace Go.Proofs.YtdmegkkifiahdaaGreat
open Go.RowKit
attribute [local go_sem] bqOp bqAll bqUpon sqOp sqAll sqUpon ssAll
attribute [local irreducible] wpQuiet wpBQ wpPlan wsPlan
set_option linter.unusedVariables false
theorem OIt.form {base : Nat} {w0 w : World} {v : Value} {l : List Opn} (h : OIt base w0 w v l) : ∃ ad c, v = .slice ad l.length c := by
 obtain ⟨ad, c, items, e, _⟩ := h
 exact ⟨ad, c, e⟩
theorem OIt.row14 {base g : Nat} {w0 w : World} {v : Value} {l : List Opn} {cs cs' : Array Value} {T : TypeId} {m : Nat × Nat} (h : OIt base w0 w v l) (hg : w.heap[g]? = some (.cells cs T m)) (hsz : cs.size ≤ 15) : OIt base w0 (w.setRow g cs') v l := by
 obtain ⟨ad, c, items, e, h1, h2, h3, h4, h5⟩ := h
 refine ⟨ad, c, items, e, h1, h2, fun j u hj => ?_, h4, h5⟩
 obtain ⟨g', o, ea, hc⟩ := h3 j u hj
 refine ⟨g', o, ea, ?_⟩
 by_cases hne : g' = g
 · exfalso
   subst hne
   have hjl : j < items.length * 16 := by
    have := (List.getElem?_eq_some_iff.1 hj).1
    rw [flat_len opCells_len] at this
    exact this
   have key := flat_get opCells 16 opCells_len noOItem items (j / 16) 15 (by omega) (by omega)
   have h15 : (opCells (items.getD (j / 16) noOItem))[15]? = some (.int .i64 (items.getD (j / 16) noOItem).1.sym) := rfl
   rw [h15] at key
   obtain ⟨g2, o2, ea2, hc2⟩ := h3 _ _ key
   rw [ea] at ea2
   cases ea2
   rw [cell_block hg] at hc2
   have := (Array.getElem?_eq_some_iff.1 hc2).1
   omega
 · rw [← hc]
   simp only [World.cell?, setRow_other _ _ _ _ hne]
theorem saidst_len {ops : List Opn} {id : Int} {k : Nat} {fst : Bool} {r : RSay} (h : SaidSt ops id k fst r) : r.fields.length ≤ 3 := by
 obtain ⟨t, _, h2, _⟩ := h
 rw [h2.fields]
 exact fieldsS_len t
def SaidP (w0 : World) (ops : List Opn) (id : Int) (w : World) (e : Ending) (w' : World) : Prop := Below w.heap.size w w' ∧ ∃ (r : RSay) (va vs vf : Value), (∃ t, saysS (ofId id ops) said0 = some t ∧ RelS r t ∧ e = .returned (.tuple #[saysV r va vs vf, .bool true]) ∧ PartsAt w0 r.feat va vs ∧ OIt w.heap.size w0 w' vf r.fields) ∨ (saysS (ofId id ops) said0 = none ∧ e = .returned (.tuple #[saysV rsay0 (.slice none 0 0) (.slice none 0 0) (.slice none 0 0), .bool false]))
theorem saidP_no {w0 : World} {ops : List Opn} {id : Int} {w : World} {e : Ending} {w' : World} (h1 : Below w.heap.size w w') (h2 : saysS (ofId id ops) said0 = none) (h3 : e = .returned (.tuple #[saysV rsay0 (.slice none 0 0) (.slice none 0 0) (.slice none 0 0), .bool false])) : SaidP w0 ops id w e w' := ⟨h1, rsay0, .slice none 0 0, .slice none 0 0, .slice none 0 0, .inr ⟨h2, h3⟩⟩
theorem saidP_yes {w0 : World} {ops : List Opn} {id : Int} {w : World} {e : Ending} {w' : World} {fst : Bool} {r : RSay} {va vs vf : Value} (h1 : Below w.heap.size w w') (h2 : SaidSt ops id ops.length fst r) (h3 : e = .returned (.tuple #[saysV r va vs vf, .bool true])) (h4 : PartsAt w0 r.feat va vs) (h5 : OIt w.heap.size w0 w' vf r.fields) : SaidP w0 ops id w e w' := by
 obtain ⟨t, k1, k2, _⟩ := h2
 rw [List.take_length] at k1
 exact ⟨h1, r, va, vs, vf, .inl ⟨t, k1, k2, h3, h4, h5⟩⟩
set_option maxHeartbeats 16000000 in
set_option maxRecDepth 20000 in
theorem q17Said_any (ops : List Opn) (id : Int) (v0 : Value) (w0 w : World) (h : OpsAt w0 v0 ops) (hb0 : Below w0.heap.size w0 w) (ho : OpsOk ops) : Calls Tryz.prog 95 #[v0, .int .i64 id] w (SaidP w0 ops id w) := by
 obtain ⟨ad, c, rfl, k1, hn1, _⟩ := h.form
 have H1 := Lib.hid k1
 have HB0 := Lib.hid hb0
 have FORMS : Hid (∀ o ∈ ops, OpForm o) := Lib.hid fun o h => opForm (ho.2 o h)
 obtain ⟨n, hln⟩ : ∃ n, ops.length = n := ⟨_, rfl⟩
 have hn100 : n ≤ 100 := by rw [← hln]; exact ho.1
 rw [hln] at H1 hn1
 rw [hln]
 have HN := Lib.hid hln
 clear h k1 hb0 ho hln
 go_enter Tryz.func95, Tryz.ntmps95
 go_upto_region 2 with fail
 refine wp_named fun W hW => ?_
 obtain ⟨p4, p6, hB⟩ := box2 hW
 have hsW : W.heap.size = w.heap.size + 2 := by rw [hW]; simp
 clear hW
 go_wp2_with fail
 go_loopw [7, 8] (fun fi i wr => ∃ (k : Nat) (fst : Bool) (r : RSay) (va vs vf : Value), k ≤ n ∧ i = .int .i64 k ∧ fi = .bool fst ∧ Hid (SaidSt ops id k fst r) ∧ wr.heap[w.heap.size]? = some (.cells #[.bool false, .bool false, .bool false, .bool false, .int .i64 0, .int .i64 0, .int .i64 0, .int .i64 0, .int .i64 0, .slice none 0 0, .int .i64 0, .int .i64 0, .slice none 0 0, .slice none 0 0] 126 (0, 0)) ∧ wr.heap[w.heap.size + 1]? = some (.cells #[.bool r.before, .bool r.deleted, .bool r.there, .bool r.known, .int .i64 r.feat.id, .int .i64 r.feat.kind, .int .i64 r.feat.x, .int .i64 r.feat.y, .int .i64 r.feat.rad, va, .int .i64 r.feat.dep, .int .i64 r.feat.sym, vs, vf] 126 (0, 0)) ∧ PartsAt w0 r.feat va vs ∧ OIt (w.heap.size + 2) w0 wr vf r.fields ∧ Below w.heap.size w wr ∧ w.heap.size + 2 ≤ wr.heap.size) (fun _ i _ => n - cntV i)
 case atStart => exact ⟨0, true, rsay0, .slice none 0 0, .slice none 0 0, .slice none 0 0, Nat.zero_le _, rfl, rfl, Lib.hid (saidst0 ops id), p4, p6, PartsAt.zero _, OIt.nil _ _ _, hB, by omega⟩
 case round =>
  clear p4 p6 hB hsW
  obtain ⟨k, fst, r, va, vs, vf, hk, rfl, rfl, ST, q4, q6, hp, hf, hb, hs⟩ := hrel
  have PP := Lib.hid hp
  have OF := Lib.hid hf
  have Q4 := Lib.hid q4
  have Q6 := Lib.hid q6
  obtain ⟨fa, fca, fb, fcb, rfl, rfl⟩ := hp.form
  obtain ⟨fo, fco, rfl⟩ := OF.out.form
  have FL : Hid (r.fields.length ≤ 3) := Lib.hid (saidst_len ST.out)
  clear hp hf q4 q6
  rcases Nat.lt_or_ge k n with hlt | hge
  rotate_left
  · have hkn : k = n := by omega
    have SE : Hid (SaidSt ops id ops.length fst r) := Lib.hid (by rw [HN.out, ← hkn]; exact ST.out)
    subst hkn
    have c6 := cell_block Q6.out
    have c4 := cell_block Q4.out
    have f4 := free_block Q4.out
    go_wp2_with fail
    have c9 := cell_block (block_set (i := 13) (block_set (i := 12) (block_set (i := 11) (block_set (i := 10) (block_set (i := 9) (block_set (i := 8) (block_set (i := 7) (block_set (i := 6) (block_set (i := 5) (block_set (i := 4) (block_set (i := 3) (block_set (i := 2) (block_set (i := 1) (block_set (i := 0) Q4.out (.bool r.before)) (.bool r.deleted)) (.bool r.there)) (.bool r.known)) (.int .i64 r.feat.id)) (.int .i64 r.feat.kind)) (.int .i64 r.feat.x)) (.int .i64 r.feat.y)) (.int .i64 r.feat.rad)) (.slice fa r.feat.area.length fca)) (.int .i64 r.feat.dep)) (.int .i64 r.feat.sym)) (.slice fb r.feat.secs.length fcb)) (.slice fo r.fields.length fco))
    exact bodyPost_ret (v := .tuple #[.agg #[.bool r.before, .bool r.deleted, .bool r.there, .bool r.known, .int .i64 r.feat.id, .int .i64 r.feat.kind, .int .i64 r.feat.x, .int .i64 r.feat.y, .int .i64 r.feat.rad, .slice fa r.feat.area.length fca, .int .i64 r.feat.dep, .int .i64 r.feat.sym, .slice fb r.feat.secs.length fcb, .slice fo r.fields.length fco], .bool true]) (by simp [results, Tryz.results95, go_sem, c9]) rfl (saidP_yes ((((((((((((((hb.setCell (by dsimp only; omega) _).setCell (by dsimp only; omega) _).setCell (by dsimp only; omega) _).setCell (by dsimp only; omega) _).setCell (by dsimp only; omega) _).setCell (by dsimp only; omega) _).setCell (by dsimp only; omega) _).setCell (by dsimp only; omega) _).setCell (by dsimp only; omega) _).setCell (by dsimp only; omega) _).setCell (by dsimp only; omega) _).setCell (by dsimp only; omega) _).setCell (by dsimp only; omega) _).setCell (by dsimp only; omega) _) SE.out rfl PP.out ((OIt.far (OIt.far (OIt.far (OIt.far (OIt.far (OIt.far (OIt.far (OIt.far (OIt.far (OIt.far (OIt.far (OIt.far (OIt.far (OIt.far OF.out (by omega)) (by omega)) (by omega)) (by omega)) (by omega)) (by omega)) (by omega)) (by omega)) (by omega)) (by omega)) (by omega)) (by omega)) (by omega)) (by omega)).mono (by omega)))
  obtain ⟨g, oo, ua, us, rfl, fc0⟩ := H1.out.row hlt
  obtain ⟨p, hp⟩ : ∃ p, ops.getD k noOpn = p := ⟨_, rfl⟩
  rw [hp] at fc0
  have HPK := Lib.hid hp
  have HKL : Hid (k < ops.length) := Lib.hid (by rw [HN.out]; exact hlt)
  have PF : Hid (OpForm p) := Lib.hid (FORMS.out p (by rw [← hp]; exact getD_memD HKL.out noOpn))
  have HPA := Lib.hid fc0.parts
  obtain ⟨aa, ca, ab, cb, rfl, rfl⟩ := fc0.parts.form
  have hbw : Below w0.heap.size w0 wr := HB0.out.trans (hb.mono HB0.out.size)
  have FC := Lib.hid (fc0.later hbw)
  have FC0 := Lib.hid fc0
  have c0 := FC.out.c0
  have c1 := FC.out.c1
  clear fc0 hp hbw
  by_cases hid : p.id = id
  rotate_left
  · have d1 : (p.id != id) = true := by simpa using hid
    have NX := Lib.hid (saidst_skip ST.out HKL.out HPK.out hid)
    clear hid
    go_wp2_with fail
    go_roundw
    case rel => exact ⟨k + 1, fst, r, _, _, _, by omega, by go_num, rfl, NX, Q4.out, Q6.out, PP.out, OF.out, hb, hs⟩
    case measure => simp [cntV]; omega
  have d1 : (p.id != id) = false := by simpa using hid
  have HID := Lib.hid hid
  clear hid
  go_upto_if 24 with fail
  go_cut [7] from 25 to 34 (fun s7 wx => ∃ (kb kt : Bool), s7 = .bool false ∧ Hid (headR fst r p = { r with before := kb, there := kt }) ∧ wx.heap[w.heap.size]? = some (.cells #[.bool false, .bool false, .bool false, .bool false, .int .i64 0, .int .i64 0, .int .i64 0, .int .i64 0, .int .i64 0, .slice none 0 0, .int .i64 0, .int .i64 0, .slice none 0 0, .slice none 0 0] 126 (0, 0)) ∧ wx.heap[w.heap.size + 1]? = some (.cells #[.bool kb, .bool r.deleted, .bool kt, .bool r.known, .int .i64 r.feat.id, .int .i64 r.feat.kind, .int .i64 r.feat.x, .int .i64 r.feat.y, .int .i64 r.feat.rad, .slice fa r.feat.area.length fca, .int .i64 r.feat.dep, .int .i64 r.feat.sym, .slice fb r.feat.secs.length fcb, .slice fo r.fields.length fco] 126 (0, 0)) ∧ OIt (w.heap.size + 2) w0 wx (.slice fo r.fields.length fco) r.fields ∧ Below w.heap.size w wx ∧ w.heap.size + 2 ≤ wx.heap.size)
  case first =>
   cases fst
   · go_wp2_with fail
     go_meet
     exact ⟨r.before, r.there, rfl, Lib.hid rfl, Q4.out, Q6.out, OF.out, hb, hs⟩
   · obtain ⟨kb, hkb⟩ : ∃ z, decide (p.kind ≠ 1) = z := ⟨_, rfl⟩
     have dk : (p.kind != 1) = kb := by
      rw [← hkb]
      by_cases e : p.kind = 1 <;> simp [e]
     have HR : Hid (headR true r p = { r with before := kb, there := kb }) := Lib.hid (by
      unfold headR
      rw [if_pos rfl, hkb])
     clear hkb
     have c6 := cell_block Q6.out
     have f6 := free_block Q6.out
     go_wp2_with fail
     have n6 := block_set (i := 2) (block_set (i := 0) Q6.out (.bool kb)) (.bool kb)
     simp only [List.setIfInBounds_toArray, List.set_cons_zero, List.set_cons_succ] at n6
     go_meet
     exact ⟨kb, kb, rfl, HR, block_far (a := ⟨w.heap.size + 1, 2, none⟩) (block_far (a := ⟨w.heap.size + 1, 0, none⟩) Q4.out (by dsimp only; omega) (.bool kb)) (by dsimp only; omega) (.bool kb), n6, (OIt.far (OIt.far OF.out (by omega)) (by omega)), ((hb.setCell (by dsimp only; omega) _).setCell (by dsimp only; omega) _), by simp only [World.size_setCell]; exact hs⟩
  case rest =>
   clear c0 c1 d1
   obtain ⟨kb, kt, rfl, HRD, n4, n6, of2, hb2, hs2⟩ := hcut
   have N4 := Lib.hid n4
   have N6 := Lib.hid n6
   have OF2 := Lib.hid of2
   have FCW := Lib.hid (FC0.out.later (HB0.out.trans (hb2.mono HB0.out.size)))
   clear n4 n6 of2
   clear hb hs Q4 Q6 OF FC
   go_wp2_with fail
   obtain ⟨r', ok, hra⟩ : ∃ r' ok, afterR { r with before := kb, there := kt } p = (r', ok) := ⟨_, _, rfl⟩
   have RA := Lib.hid hra
   clear hra
   have hdr : Below wc.heap.size wc wc.drew := (Below.refl _ _).drew
   refine wp_region_planS (Below wc.heap.size wc) (.take 0 (.take 0 (.take 0 (.take 0 (.take 0 (.two 0 (.take 0 (.take 0 (.take 0 (.only 0 (.only 0 (.take 0 .done)))))) 4 (.only 0 (.take 0 (.take 0 (.take 0 (.only 0 (.take 0 .done)))))))))))) (by kernel_rfl) (by kernel_rfl) hdr (fun hP => ?_)
   generalize hVe : wc.drew = V at hP hdr ⊢
   clear hVe
   refine ws_load rfl rfl _ _ rfl _ rfl _ _ _ _ (fun w' hw => block_later hw N6.out) Tryz.underlying126 rfl (by kernel_rfl) ?_
   iterate 3 (refine wsPlan_take rfl (fun K hK => ?_); replace hK := Lib.hid hK; go_simp; first | (refine hK.out _ ?_; clear hK K) | (apply Exists.intro; refine ⟨fun w' hw => ?_, hK.out _ ?_⟩; (first | with_reducible exact rfl | (go_simp; exact rfl)); clear hK K))
   refine ws_loadMidT rfl rfl _ _ rfl g (oo + k * 16) rfl [.int .i64 p.kind, .int .i64 p.id, .int .i64 p.feat.id, .int .i64 p.feat.kind, .int .i64 p.feat.x, .int .i64 p.feat.y, .int .i64 p.feat.rad, .slice aa p.feat.area.length ca, .int .i64 p.feat.dep, .int .i64 p.feat.sym, .slice ab p.feat.secs.length cb, .int .i64 p.x, .int .i64 p.y, .int .i64 p.rad, .int .i64 p.dep, .int .i64 p.sym] _ (fun w' hw => (FCW.out.later hw).range) Tryz.underlying34 rfl (by kernel_rfl) ?_
   refine wsPlan_two ?_ ?_
   · skip
     (refine wsPlan_only rfl (fun K hK => ?_); replace hK := Lib.hid hK; go_simp; go_at_call 206; (with_reducible refine (q17After_any { r with before := kb, there := kt } p _ _ _ _ _ (w.heap.size + 2) w0 _ (by have := hP.size; omega) PP.out HPA.out (OF2.out.later hP) (Nat.le_trans FL.out (by decide)) PF.out RA.out).mono ?_); rintro z y2 ⟨va', vs', vf', rfl, hp', hf', hy⟩; refine hK.out _ _ (below_step hP hy) (fun hP => ?_); clear hK K)
     have PP' := Lib.hid hp'
     have OF' := Lib.hid hf'
     obtain ⟨ga, gca, gb, gcb, rfl, rfl⟩ := hp'.form
     obtain ⟨go, gco, rfl⟩ := OF'.out.form
     clear hp' hf'
     iterate 3 (refine wsPlan_take rfl (fun K hK => ?_); replace hK := Lib.hid hK; go_simp; first | (refine hK.out _ ?_; clear hK K) | (apply Exists.intro; refine ⟨fun w' hw => ?_, hK.out _ ?_⟩; (first | with_reducible exact rfl | (go_simp; exact rfl)); clear hK K))
     have hsz2 := hP.size
     (refine wsPlan_only rfl (fun K hK => ?_); replace hK := Lib.hid hK; go_simp; refine hK.out _ _ (hP.alloc hP.size _) (fun hP => ?_); clear hK K)
     generalize hwa : World.alloc y2 (Obj.cells #[.bool false, .bool false, .bool false, .bool false, .int .i64 0, .int .i64 0, .int .i64 0, .int .i64 0, .int .i64 0, .slice none 0 0, .int .i64 0, .int .i64 0, .slice none 0 0, .slice none 0 0] 126) = y3 at hP ⊢
     obtain ⟨q7, hb7⟩ := box1 hwa.symm
     clear hwa
     refine ws_store rfl rfl _ _ _ rfl _ #[.bool r'.before, .bool r'.deleted, .bool r'.there, .bool r'.known, .int .i64 r'.feat.id, .int .i64 r'.feat.kind, .int .i64 r'.feat.x, .int .i64 r'.feat.y, .int .i64 r'.feat.rad, .slice ga r'.feat.area.length gca, .int .i64 r'.feat.dep, .int .i64 r'.feat.sym, .slice gb r'.feat.secs.length gcb, .slice go r'.fields.length gco] rfl rfl _ _ q7 (by kernel_rfl) (by kernel_rfl) (by kernel_rfl) (below_setRow hP (by have := hdr.size; omega) _) ?_
     (refine wsPlan_take rfl (fun K hK => ?_); replace hK := Lib.hid hK; go_simp; first | (refine hK.out _ ?_; clear hK K) | (apply Exists.intro; refine ⟨fun w' hw => ?_, hK.out _ ?_⟩; (first | with_reducible exact rfl | (go_simp; exact rfl)); clear hK K))
     refine wsPlan_done ?_
     have q8 := setRow_heap y3 y2.heap.size _ #[.bool r'.before, .bool r'.deleted, .bool r'.there, .bool r'.known, .int .i64 r'.feat.id, .int .i64 r'.feat.kind, .int .i64 r'.feat.x, .int .i64 r'.feat.y, .int .i64 r'.feat.rad, .slice ga r'.feat.area.length gca, .int .i64 r'.feat.dep, .int .i64 r'.feat.sym, .slice gb r'.feat.secs.length gcb, .slice go r'.fields.length gco] _ _ q7
     have hS := below_setRow hP (show wc.heap.size ≤ y2.heap.size by have := hdr.size; omega) #[.bool r'.before, .bool r'.deleted, .bool r'.there, .bool r'.known, .int .i64 r'.feat.id, .int .i64 r'.feat.kind, .int .i64 r'.feat.x, .int .i64 r'.feat.y, .int .i64 r'.feat.rad, .slice ga r'.feat.area.length gca, .int .i64 r'.feat.dep, .int .i64 r'.feat.sym, .slice gb r'.feat.secs.length gcb, .slice go r'.fields.length gco]
     have hSr := below_setRow (Below.refl y2.heap.size y3) (Nat.le_refl y2.heap.size) #[.bool r'.before, .bool r'.deleted, .bool r'.there, .bool r'.known, .int .i64 r'.feat.id, .int .i64 r'.feat.kind, .int .i64 r'.feat.x, .int .i64 r'.feat.y, .int .i64 r'.feat.rad, .slice ga r'.feat.area.length gca, .int .i64 r'.feat.dep, .int .i64 r'.feat.sym, .slice gb r'.feat.secs.length gcb, .slice go r'.fields.length gco]
     have O9 : Hid (OIt (w.heap.size + 2) w0 (World.setRow y3 y2.heap.size #[.bool r'.before, .bool r'.deleted, .bool r'.there, .bool r'.known, .int .i64 r'.feat.id, .int .i64 r'.feat.kind, .int .i64 r'.feat.x, .int .i64 r'.feat.y, .int .i64 r'.feat.rad, .slice ga r'.feat.area.length gca, .int .i64 r'.feat.dep, .int .i64 r'.feat.sym, .slice gb r'.feat.secs.length gcb, .slice go r'.fields.length gco]) (.slice go r'.fields.length gco) r'.fields) := Lib.hid (OF'.out.later (below_setRow hb7 (Nat.le_refl _) _))
     try simp only [Act.put, List.setIfInBounds_toArray, List.set_cons_zero, List.set_cons_succ]
     generalize hws : World.setRow y3 y2.heap.size #[.bool r'.before, .bool r'.deleted, .bool r'.there, .bool r'.known, .int .i64 r'.feat.id, .int .i64 r'.feat.kind, .int .i64 r'.feat.x, .int .i64 r'.feat.y, .int .i64 r'.feat.rad, .slice ga r'.feat.area.length gca, .int .i64 r'.feat.dep, .int .i64 r'.feat.sym, .slice gb r'.feat.secs.length gcb, .slice go r'.fields.length gco] = y9 at q8 hS hSr O9 ⊢
     clear hws
     have hB9 := below_step hb2 hS
     have hs9 : w.heap.size + 2 ≤ y9.heap.size := by have := hS.size; omega
     have Q8 := Lib.hid q8
     have Q49 := Lib.hid (block_later hS N4.out)
     have Q69 := Lib.hid (block_later hS N6.out)
     clear q8 hSr hP q7
     cases ok
     · have SN := Lib.hid (saidst_no ST.out HKL.out HPK.out HID.out PF.out (by rw [HRD.out]; exact RA.out))
       have c4 := cell_block Q49.out
       have f4 := free_block Q49.out
       go_wp2_with fail
       have c9 := cell_block (block_set (i := 13) (block_set (i := 12) (block_set (i := 11) (block_set (i := 10) (block_set (i := 9) (block_set (i := 8) (block_set (i := 7) (block_set (i := 6) (block_set (i := 5) (block_set (i := 4) (block_set (i := 3) (block_set (i := 2) (block_set (i := 1) (block_set (i := 0) Q49.out (.bool false)) (.bool false)) (.bool false)) (.bool false)) (.int .i64 0)) (.int .i64 0)) (.int .i64 0)) (.int .i64 0)) (.int .i64 0)) (.slice none 0 0)) (.int .i64 0)) (.int .i64 0)) (.slice none 0 0)) (.slice none 0 0))
       exact bodyPost_ret (v := .tuple #[.agg #[.bool false, .bool false, .bool false, .bool false, .int .i64 0, .int .i64 0, .int .i64 0, .int .i64 0, .int .i64 0, .slice none 0 0, .int .i64 0, .int .i64 0, .slice none 0 0, .slice none 0 0], .bool false]) (by simp [results, Tryz.results95, go_sem, c9]) rfl (saidP_no ((((((((((((((hB9.setCell (by dsimp only; omega) _).setCell (by dsimp only; omega) _).setCell (by dsimp only; omega) _).setCell (by dsimp only; omega) _).setCell (by dsimp only; omega) _).setCell (by dsimp only; omega) _).setCell (by dsimp only; omega) _).setCell (by dsimp only; omega) _).setCell (by dsimp only; omega) _).setCell (by dsimp only; omega) _).setCell (by dsimp only; omega) _).setCell (by dsimp only; omega) _).setCell (by dsimp only; omega) _).setCell (by dsimp only; omega) _) SN.out rfl)
     · have SY := Lib.hid (saidst_yes ST.out HKL.out HPK.out HID.out PF.out (by rw [HRD.out]; exact RA.out))
       have c8 := cell_block Q8.out
       have c6 := cell_block Q69.out
       have f6 := free_block Q69.out
       go_wp2_with fail
       go_roundw
       case rel =>
        have n6 := (block_set (i := 13) (block_set (i := 12) (block_set (i := 11) (block_set (i := 10) (block_set (i := 9) (block_set (i := 8) (block_set (i := 7) (block_set (i := 6) (block_set (i := 5) (block_set (i := 4) (block_set (i := 3) (block_set (i := 2) (block_set (i := 1) (block_set (i := 0) Q69.out (.bool r'.before)) (.bool r'.deleted)) (.bool r'.there)) (.bool r'.known)) (.int .i64 r'.feat.id)) (.int .i64 r'.feat.kind)) (.int .i64 r'.feat.x)) (.int .i64 r'.feat.y)) (.int .i64 r'.feat.rad)) (.slice ga r'.feat.area.length gca)) (.int .i64 r'.feat.dep)) (.int .i64 r'.feat.sym)) (.slice gb r'.feat.secs.length gcb)) (.slice go r'.fields.length gco))
        simp only [List.setIfInBounds_toArray, List.set_cons_zero, List.set_cons_succ] at n6
        exact ⟨k + 1, false, r', .slice ga r'.feat.area.length gca, .slice gb r'.feat.secs.length gcb, .slice go r'.fields.length gco, by omega, by go_num, rfl, SY, (block_far (a := ⟨w.heap.size + 1, 13, none⟩) (block_far (a := ⟨w.heap.size + 1, 12, none⟩) (block_far (a := ⟨w.heap.size + 1, 11, none⟩) (block_far (a := ⟨w.heap.size + 1, 10, none⟩) (block_far (a := ⟨w.heap.size + 1, 9, none⟩) (block_far (a := ⟨w.heap.size + 1, 8, none⟩) (block_far (a := ⟨w.heap.size + 1, 7, none⟩) (block_far (a := ⟨w.heap.size + 1, 6, none⟩) (block_far (a := ⟨w.heap.size + 1, 5, none⟩) (block_far (a := ⟨w.heap.size + 1, 4, none⟩) (block_far (a := ⟨w.heap.size + 1, 3, none⟩) (block_far (a := ⟨w.heap.size + 1, 2, none⟩) (block_far (a := ⟨w.heap.size + 1, 1, none⟩) (block_far (a := ⟨w.heap.size + 1, 0, none⟩) Q49.out (by dsimp only; omega) (.bool r'.before)) (by dsimp only; omega) (.bool r'.deleted)) (by dsimp only; omega) (.bool r'.there)) (by dsimp only; omega) (.bool r'.known)) (by dsimp only; omega) (.int .i64 r'.feat.id)) (by dsimp only; omega) (.int .i64 r'.feat.kind)) (by dsimp only; omega) (.int .i64 r'.feat.x)) (by dsimp only; omega) (.int .i64 r'.feat.y)) (by dsimp only; omega) (.int .i64 r'.feat.rad)) (by dsimp only; omega) (.slice ga r'.feat.area.length gca)) (by dsimp only; omega) (.int .i64 r'.feat.dep)) (by dsimp only; omega) (.int .i64 r'.feat.sym)) (by dsimp only; omega) (.slice gb r'.feat.secs.length gcb)) (by dsimp only; omega) (.slice go r'.fields.length gco)), n6, PP'.out, (OIt.far (OIt.far (OIt.far (OIt.far (OIt.far (OIt.far (OIt.far (OIt.far (OIt.far (OIt.far (OIt.far (OIt.far (OIt.far (OIt.far O9.out (by omega)) (by omega)) (by omega)) (by omega)) (by omega)) (by omega)) (by omega)) (by omega)) (by omega)) (by omega)) (by omega)) (by omega)) (by omega)) (by omega)), ((((((((((((((hB9.setCell (by dsimp only; omega) _).setCell (by dsimp only; omega) _).setCell (by dsimp only; omega) _).setCell (by dsimp only; omega) _).setCell (by dsimp only; omega) _).setCell (by dsimp only; omega) _).setCell (by dsimp only; omega) _).setCell (by dsimp only; omega) _).setCell (by dsimp only; omega) _).setCell (by dsimp only; omega) _).setCell (by dsimp only; omega) _).setCell (by dsimp only; omega) _).setCell (by dsimp only; omega) _).setCell (by dsimp only; omega) _), by simp only [World.size_setCell]; exact hs9⟩
       case measure => simp [cntV]; omega
   · skip
     (refine wsPlan_only rfl (fun K hK => ?_); replace hK := Lib.hid hK; go_simp; refine hK.out _ _ (hP.alloc hP.size _) (fun hP => ?_); clear hK K)
     generalize hwa : World.alloc V (Obj.cells #[.bool false, .bool false, .bool false, .bool false, .int .i64 0, .int .i64 0, .int .i64 0, .int .i64 0, .int .i64 0, .slice none 0 0, .int .i64 0, .int .i64 0, .slice none 0 0, .slice none 0 0] 126) = y2 at hP ⊢
     obtain ⟨q7, hb7⟩ := box1 hwa.symm
     clear hwa
     (refine wsPlan_only rfl (fun K hK => ?_); replace hK := Lib.hid hK; go_simp; go_at_call 206; (with_reducible refine (q17After_any { r with before := kb, there := kt } p _ _ _ _ _ (w.heap.size + 2) w0 _ (by have := hP.size; omega) PP.out HPA.out (OF2.out.later hP) (Nat.le_trans FL.out (by decide)) PF.out RA.out).mono ?_); rintro z y3 ⟨va', vs', vf', rfl, hp', hf', hy⟩; refine hK.out _ _ (below_step hP hy) (fun hP => ?_); clear hK K)
     have PP' := Lib.hid hp'
     have OF' := Lib.hid hf'
     obtain ⟨ga, gca, gb, gcb, rfl, rfl⟩ := hp'.form
     obtain ⟨go, gco, rfl⟩ := OF'.out.form
     clear hp' hf'
     iterate 3 (refine wsPlan_take rfl (fun K hK => ?_); replace hK := Lib.hid hK; go_simp; first | (refine hK.out _ ?_; clear hK K) | (apply Exists.intro; refine ⟨fun w' hw => ?_, hK.out _ ?_⟩; (first | with_reducible exact rfl | (go_simp; exact rfl)); clear hK K))
     have q7b := block_later hy q7
     have hsz2 := hP.size
     clear q7
     refine ws_store rfl rfl _ _ _ rfl _ #[.bool r'.before, .bool r'.deleted, .bool r'.there, .bool r'.known, .int .i64 r'.feat.id, .int .i64 r'.feat.kind, .int .i64 r'.feat.x, .int .i64 r'.feat.y, .int .i64 r'.feat.rad, .slice ga r'.feat.area.length gca, .int .i64 r'.feat.dep, .int .i64 r'.feat.sym, .slice gb r'.feat.secs.length gcb, .slice go r'.fields.length gco] rfl rfl _ _ q7b (by kernel_rfl) (by kernel_rfl) (by kernel_rfl) (below_setRow hP (by have := hdr.size; omega) _) ?_
     (refine wsPlan_take rfl (fun K hK => ?_); replace hK := Lib.hid hK; go_simp; first | (refine hK.out _ ?_; clear hK K) | (apply Exists.intro; refine ⟨fun w' hw => ?_, hK.out _ ?_⟩; (first | with_reducible exact rfl | (go_simp; exact rfl)); clear hK K))
     refine wsPlan_done ?_
     have q8 := setRow_heap y3 V.heap.size _ #[.bool r'.before, .bool r'.deleted, .bool r'.there, .bool r'.known, .int .i64 r'.feat.id, .int .i64 r'.feat.kind, .int .i64 r'.feat.x, .int .i64 r'.feat.y, .int .i64 r'.feat.rad, .slice ga r'.feat.area.length gca, .int .i64 r'.feat.dep, .int .i64 r'.feat.sym, .slice gb r'.feat.secs.length gcb, .slice go r'.fields.length gco] _ _ q7b
     have hS := below_setRow hP (show wc.heap.size ≤ V.heap.size by have := hdr.size; omega) #[.bool r'.before, .bool r'.deleted, .bool r'.there, .bool r'.known, .int .i64 r'.feat.id, .int .i64 r'.feat.kind, .int .i64 r'.feat.x, .int .i64 r'.feat.y, .int .i64 r'.feat.rad, .slice ga r'.feat.area.length gca, .int .i64 r'.feat.dep, .int .i64 r'.feat.sym, .slice gb r'.feat.secs.length gcb, .slice go r'.fields.length gco]
     have hSr := below_setRow (Below.refl V.heap.size y3) (Nat.le_refl V.heap.size) #[.bool r'.before, .bool r'.deleted, .bool r'.there, .bool r'.known, .int .i64 r'.feat.id, .int .i64 r'.feat.kind, .int .i64 r'.feat.x, .int .i64 r'.feat.y, .int .i64 r'.feat.rad, .slice ga r'.feat.area.length gca, .int .i64 r'.feat.dep, .int .i64 r'.feat.sym, .slice gb r'.feat.secs.length gcb, .slice go r'.fields.length gco]
     have O9 : Hid (OIt (w.heap.size + 2) w0 (World.setRow y3 V.heap.size #[.bool r'.before, .bool r'.deleted, .bool r'.there, .bool r'.known, .int .i64 r'.feat.id, .int .i64 r'.feat.kind, .int .i64 r'.feat.x, .int .i64 r'.feat.y, .int .i64 r'.feat.rad, .slice ga r'.feat.area.length gca, .int .i64 r'.feat.dep, .int .i64 r'.feat.sym, .slice gb r'.feat.secs.length gcb, .slice go r'.fields.length gco]) (.slice go r'.fields.length gco) r'.fields) := Lib.hid (OF'.out.row14 q7b (by decide))
     try simp only [Act.put, List.setIfInBounds_toArray, List.set_cons_zero, List.set_cons_succ]
     generalize hws : World.setRow y3 V.heap.size #[.bool r'.before, .bool r'.deleted, .bool r'.there, .bool r'.known, .int .i64 r'.feat.id, .int .i64 r'.feat.kind, .int .i64 r'.feat.x, .int .i64 r'.feat.y, .int .i64 r'.feat.rad, .slice ga r'.feat.area.length gca, .int .i64 r'.feat.dep, .int .i64 r'.feat.sym, .slice gb r'.feat.secs.length gcb, .slice go r'.fields.length gco] = y9 at q8 hS hSr O9 ⊢
     clear hws
     have hB9 := below_step hb2 hS
     have hs9 : w.heap.size + 2 ≤ y9.heap.size := by have := hS.size; omega
     have Q8 := Lib.hid q8
     have Q49 := Lib.hid (block_later hS N4.out)
     have Q69 := Lib.hid (block_later hS N6.out)
     clear q8 hSr hP q7b
     cases ok
     · have SN := Lib.hid (saidst_no ST.out HKL.out HPK.out HID.out PF.out (by rw [HRD.out]; exact RA.out))
       have c4 := cell_block Q49.out
       have f4 := free_block Q49.out
       go_wp2_with fail
       have c9 := cell_block (block_set (i := 13) (block_set (i := 12) (block_set (i := 11) (block_set (i := 10) (block_set (i := 9) (block_set (i := 8) (block_set (i := 7) (block_set (i := 6) (block_set (i := 5) (block_set (i := 4) (block_set (i := 3) (block_set (i := 2) (block_set (i := 1) (block_set (i := 0) Q49.out (.bool false)) (.bool false)) (.bool false)) (.bool false)) (.int .i64 0)) (.int .i64 0)) (.int .i64 0)) (.int .i64 0)) (.int .i64 0)) (.slice none 0 0)) (.int .i64 0)) (.int .i64 0)) (.slice none 0 0)) (.slice none 0 0))
       exact bodyPost_ret (v := .tuple #[.agg #[.bool false, .bool false, .bool false, .bool false, .int .i64 0, .int .i64 0, .int .i64 0, .int .i64 0, .int .i64 0, .slice none 0 0, .int .i64 0, .int .i64 0, .slice none 0 0, .slice none 0 0], .bool false]) (by simp [results, Tryz.results95, go_sem, c9]) rfl (saidP_no ((((((((((((((hB9.setCell (by dsimp only; omega) _).setCell (by dsimp only; omega) _).setCell (by dsimp only; omega) _).setCell (by dsimp only; omega) _).setCell (by dsimp only; omega) _).setCell (by dsimp only; omega) _).setCell (by dsimp only; omega) _).setCell (by dsimp only; omega) _).setCell (by dsimp only; omega) _).setCell (by dsimp only; omega) _).setCell (by dsimp only; omega) _).setCell (by dsimp only; omega) _).setCell (by dsimp only; omega) _).setCell (by dsimp only; omega) _) SN.out rfl)
     · have SY := Lib.hid (saidst_yes ST.out HKL.out HPK.out HID.out PF.out (by rw [HRD.out]; exact RA.out))
       have c8 := cell_block Q8.out
       have c6 := cell_block Q69.out
       have f6 := free_block Q69.out
       go_wp2_with fail
       go_roundw
       case rel =>
        have n6 := (block_set (i := 13) (block_set (i := 12) (block_set (i := 11) (block_set (i := 10) (block_set (i := 9) (block_set (i := 8) (block_set (i := 7) (block_set (i := 6) (block_set (i := 5) (block_set (i := 4) (block_set (i := 3) (block_set (i := 2) (block_set (i := 1) (block_set (i := 0) Q69.out (.bool r'.before)) (.bool r'.deleted)) (.bool r'.there)) (.bool r'.known)) (.int .i64 r'.feat.id)) (.int .i64 r'.feat.kind)) (.int .i64 r'.feat.x)) (.int .i64 r'.feat.y)) (.int .i64 r'.feat.rad)) (.slice ga r'.feat.area.length gca)) (.int .i64 r'.feat.dep)) (.int .i64 r'.feat.sym)) (.slice gb r'.feat.secs.length gcb)) (.slice go r'.fields.length gco))
        simp only [List.setIfInBounds_toArray, List.set_cons_zero, List.set_cons_succ] at n6
        exact ⟨k + 1, false, r', .slice ga r'.feat.area.length gca, .slice gb r'.feat.secs.length gcb, .slice go r'.fields.length gco, by omega, by go_num, rfl, SY, (block_far (a := ⟨w.heap.size + 1, 13, none⟩) (block_far (a := ⟨w.heap.size + 1, 12, none⟩) (block_far (a := ⟨w.heap.size + 1, 11, none⟩) (block_far (a := ⟨w.heap.size + 1, 10, none⟩) (block_far (a := ⟨w.heap.size + 1, 9, none⟩) (block_far (a := ⟨w.heap.size + 1, 8, none⟩) (block_far (a := ⟨w.heap.size + 1, 7, none⟩) (block_far (a := ⟨w.heap.size + 1, 6, none⟩) (block_far (a := ⟨w.heap.size + 1, 5, none⟩) (block_far (a := ⟨w.heap.size + 1, 4, none⟩) (block_far (a := ⟨w.heap.size + 1, 3, none⟩) (block_far (a := ⟨w.heap.size + 1, 2, none⟩) (block_far (a := ⟨w.heap.size + 1, 1, none⟩) (block_far (a := ⟨w.heap.size + 1, 0, none⟩) Q49.out (by dsimp only; omega) (.bool r'.before)) (by dsimp only; omega) (.bool r'.deleted)) (by dsimp only; omega) (.bool r'.there)) (by dsimp only; omega) (.bool r'.known)) (by dsimp only; omega) (.int .i64 r'.feat.id)) (by dsimp only; omega) (.int .i64 r'.feat.kind)) (by dsimp only; omega) (.int .i64 r'.feat.x)) (by dsimp only; omega) (.int .i64 r'.feat.y)) (by dsimp only; omega) (.int .i64 r'.feat.rad)) (by dsimp only; omega) (.slice ga r'.feat.area.length gca)) (by dsimp only; omega) (.int .i64 r'.feat.dep)) (by dsimp only; omega) (.int .i64 r'.feat.sym)) (by dsimp only; omega) (.slice gb r'.feat.secs.length gcb)) (by dsimp only; omega) (.slice go r'.fields.length gco)), n6, PP'.out, (OIt.far (OIt.far (OIt.far (OIt.far (OIt.far (OIt.far (OIt.far (OIt.far (OIt.far (OIt.far (OIt.far (OIt.far (OIt.far (OIt.far O9.out (by omega)) (by omega)) (by omega)) (by omega)) (by omega)) (by omega)) (by omega)) (by omega)) (by omega)) (by omega)) (by omega)) (by omega)) (by omega)) (by omega)), ((((((((((((((hB9.setCell (by dsimp only; omega) _).setCell (by dsimp only; omega) _).setCell (by dsimp only; omega) _).setCell (by dsimp only; omega) _).setCell (by dsimp only; omega) _).setCell (by dsimp only; omega) _).setCell (by dsimp only; omega) _).setCell (by dsimp only; omega) _).setCell (by dsimp only; omega) _).setCell (by dsimp only; omega) _).setCell (by dsimp only; omega) _).setCell (by dsimp only; omega) _).setCell (by dsimp only; omega) _).setCell (by dsimp only; omega) _), by simp only [World.size_setCell]; exact hs9⟩
       case measure => simp [cntV]; omega
end Go.Proofs.YtdmegkkifiahdaaGreat
