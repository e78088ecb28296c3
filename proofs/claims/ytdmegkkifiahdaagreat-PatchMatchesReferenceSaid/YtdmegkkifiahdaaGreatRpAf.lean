import Derived.Test.YtdmegkkifiahdaaGreatRpDo
namespace Go.Proofs.YtdmegkkifiahdaaGreat
open Go.RowKit
attribute [local go_sem] bqOp bqAll bqUpon sqOp sqAll sqUpon ssAll
attribute [local irreducible] wpQuiet wpBQ wpPlan wsPlan
set_option linter.unusedVariables false
structure RSay where
 (before deleted there known : Bool)
 feat : Feat
 fields : List Opn
def pickK (fs : List Opn) (o : Opn) (k : Int) : List Opn := if k = o.kind then [o] else fs.filter fun p => decide (p.kind = k)
def newFl (fs : List Opn) (o : Opn) (j : Nat) : List Opn := (List.range j).flatMap fun (i : Nat) => pickK fs o (3 + (i : Int))
theorem newFl_succ (fs : List Opn) (o : Opn) (j : Nat) : newFl fs o (j + 1) = newFl fs o j ++ pickK fs o (3 + (j : Int)) := by
 unfold newFl
 rw [List.range_succ, List.flatMap_append, List.flatMap_cons, List.flatMap_nil, List.append_nil]
theorem pickK_len (fs : List Opn) (o : Opn) (k : Int) : (pickK fs o k).length ≤ fs.length + 1 := by
 unfold pickK
 split
 · simp
 · have := List.length_filter_le (fun p : Opn => decide (p.kind = k)) fs
   omega
theorem newFl_len (fs : List Opn) (o : Opn) : ∀ j, (newFl fs o j).length ≤ j * (fs.length + 1)
 | 0 => by simp [newFl]
 | j + 1 => by
   rw [newFl_succ, List.length_append, Nat.add_mul]
   have := newFl_len fs o j
   have := pickK_len fs o (3 + (j : Int))
   omega
def afterR (s : RSay) (o : Opn) : RSay × Bool :=
 if o.kind = 1 then ({ s with known := true, feat := o.feat, there := true }, !s.there)
 else if s.there = false then (s, false)
 else if o.kind = 2 then ({ s with deleted := s.before || s.deleted, there := false, known := false }, true)
 else if s.known = true then ({ s with feat := (chgE s.feat o).1 }, (chgE s.feat o).2 == 0)
 else ({ s with fields := newFl s.fields o 3 }, true)
def OIt (base : Nat) (w0 w : World) (v : Value) (l : List Opn) : Prop := ∃ (ad : Option Addr) (c : Nat) (items : List OItem), v = .slice ad l.length c ∧ items.map Prod.fst = l ∧ OReads w0 items ∧ SrcAt opCells w ad items ∧ l.length ≤ c ∧ ∀ a, ad = some a → base ≤ a.block
theorem OIt.later {base : Nat} {w0 w w' : World} {v : Value} {l : List Opn} (h : OIt base w0 w v l) (hb : Below w.heap.size w w') : OIt base w0 w' v l := by
 obtain ⟨ad, c, items, e, h1, h2, h3, h4⟩ := h
 exact ⟨ad, c, items, e, h1, h2, h3.later hb, h4⟩
theorem OIt.mono {base base' : Nat} {w0 w : World} {v : Value} {l : List Opn} (h : OIt base w0 w v l) (hb : base' ≤ base) : OIt base' w0 w v l := by
 obtain ⟨ad, c, items, e, h1, h2, h3, h4, h5⟩ := h
 exact ⟨ad, c, items, e, h1, h2, h3, h4, fun a ha => Nat.le_trans hb (h5 a ha)⟩
theorem OIt.far {base b i : Nat} {w0 w : World} {v u : Value} {l : List Opn} (h : OIt base w0 w v l) (hlt : b < base) : OIt base w0 (w.setCell ⟨b, i, none⟩ u) v l := by
 obtain ⟨ad, c, items, e, h1, h2, h3, h4, h5⟩ := h
 refine ⟨ad, c, items, e, h1, h2, fun j z hj => ?_, h4, h5⟩
 obtain ⟨g, o, ea, hc⟩ := h3 j z hj
 refine ⟨g, o, ea, ?_⟩
 have hg : base ≤ g := h5 _ ea
 rw [World.cell?_setCell_far _ _ _ _ (show b ≠ g by omega)]
 exact hc
theorem OIt.of_own {base : Nat} {w0 w : World} {v : Value} {l : List Opn} (h : OwnOs base w0 w v l) : OIt base w0 w v l := by
 obtain ⟨items, e, ho, hr⟩ := h
 have hbk := own_block ho
 obtain ⟨ad, c, rfl⟩ := OwnT.form ho
 have hc := own_cap ho
 have e2 : items.length = l.length := by rw [← e, List.length_map]
 exact ⟨ad, c, items, by rw [e2], e, hr, SrcAt.own ho, by rw [← e2]; exact hc _ _ _ rfl, fun a ha => hbk a.block (by rw [ha]; rfl)⟩
theorem OIt.nil (base : Nat) (w0 w : World) : OIt base w0 w (.slice none 0 0) [] := ⟨none, 0, [], rfl, rfl, fun x hx => absurd hx (by simp), fun j u hj => by simp at hj, Nat.le_refl _, fun a ha => by cases ha⟩
@[reducible] def saysV (s : RSay) (va vs vf : Value) : Value := .agg #[.bool s.before, .bool s.deleted, .bool s.there, .bool s.known, .int .i64 s.feat.id, .int .i64 s.feat.kind, .int .i64 s.feat.x, .int .i64 s.feat.y, .int .i64 s.feat.rad, va, .int .i64 s.feat.dep, .int .i64 s.feat.sym, vs, vf]
def AfterP (base : Nat) (w0 w : World) (s : RSay) (ok : Bool) (e : Ending) (w' : World) : Prop := ∃ va vs vf, e = .returned (.tuple #[saysV s va vs vf, .bool ok]) ∧ PartsAt w0 s.feat va vs ∧ OIt base w0 w' vf s.fields ∧ Below w.heap.size w w'
end Go.Proofs.YtdmegkkifiahdaaGreat
namespace Go.Proofs.YtdmegkkifiahdaaGreat
open Go.RowKit
attribute [local go_sem] bqOp bqAll bqUpon sqOp sqAll sqUpon ssAll
attribute [local irreducible] wpQuiet wpBQ wpPlan wsPlan
set_option linter.unusedVariables false
set_option maxHeartbeats 8000000 in
set_option maxRecDepth 20000 in
theorem q17After_ins (before deleted there known : Bool) (f : Feat) (fs : List Opn) (o : Opn) (va vs vf ua us : Value) (base : Nat) (w0 w : World) (hbase : base ≤ w.heap.size) (hp : PartsAt w0 f va vs) (hq : PartsAt w0 o.feat ua us) (hf : OIt base w0 w vf fs) (hk1 : o.kind = 1) :
  Calls Tryz.prog 206 #[saysV ⟨before, deleted, there, known, f, fs⟩ va vs vf, opV o ua us] w (AfterP base w0 w ⟨before, deleted, true, true, o.feat, fs⟩ (!there)) := by
 have d1 : (o.kind == 1) = true := by simpa using hk1
 clear hk1
 obtain ⟨fa, fca, fb, fcb, rfl, rfl⟩ := hp.form
 obtain ⟨aa, ca, ab, cb, rfl, rfl⟩ := hq.form
 obtain ⟨fo, fco, items, rfl, _⟩ := id hf
 have HP := Lib.hid hp
 have HQ := Lib.hid hq
 have HF := Lib.hid hf
 clear hp hq hf
 generalize hnfa : f.area.length = nfa at *
 generalize hnfb : f.secs.length = nfb at *
 generalize hnoa : o.feat.area.length = noa at *
 generalize hnob : o.feat.secs.length = nob at *
 generalize hnfo : fs.length = nfo at *
 clear hnfa hnfb hnoa hnob hnfo
 go_enter Tryz.func206, Tryz.ntmps206
 go_upto_region 1 with fail
 refine wp_named fun W hW => ?_
 obtain ⟨p1, p2, p3, hB⟩ := box3 hW
 clear hW
 have P1 := Lib.hid p1
 have P2 := Lib.hid p2
 have P3 := Lib.hid p3
 clear p1 p2 p3
 have c1 := cell_block P1.out
 have c2 := cell_block P2.out
 have c3 := cell_block P3.out
 have f1 := free_block P1.out
 have f3 := free_block P3.out
 go_upto_region 6 with fail
 refine wp_named fun W2 hWn => ?_
 have p1 := (congrArg (fun X : World => X.heap[w.heap.size]?) hWn).trans (block_set (i := 2) (block_set (i := 12) (block_set (i := 11) (block_set (i := 10) (block_set (i := 9) (block_set (i := 8) (block_set (i := 7) (block_set (i := 6) (block_set (i := 5) (block_set (i := 4) (block_set (i := 3) P1.out (.bool true)) (.int .i64 o.feat.id)) (.int .i64 o.feat.kind)) (.int .i64 o.feat.x)) (.int .i64 o.feat.y)) (.int .i64 o.feat.rad)) (.slice aa noa ca)) (.int .i64 o.feat.dep)) (.int .i64 o.feat.sym)) (.slice ab nob cb)) (.bool true))
 replace p1 : W2.heap[w.heap.size]? = _ := p1
 simp only [List.setIfInBounds_toArray, List.set_cons_zero, List.set_cons_succ] at p1
 have p3 := (congrArg (fun X : World => X.heap[w.heap.size + 1 + 1]?) hWn).trans (block_far (a := ⟨w.heap.size, 2, none⟩) (block_far (a := ⟨w.heap.size, 12, none⟩) (block_far (a := ⟨w.heap.size, 11, none⟩) (block_far (a := ⟨w.heap.size, 10, none⟩) (block_far (a := ⟨w.heap.size, 9, none⟩) (block_far (a := ⟨w.heap.size, 8, none⟩) (block_far (a := ⟨w.heap.size, 7, none⟩) (block_far (a := ⟨w.heap.size, 6, none⟩) (block_far (a := ⟨w.heap.size, 5, none⟩) (block_far (a := ⟨w.heap.size, 4, none⟩) (block_far (a := ⟨w.heap.size, 3, none⟩) P3.out (by dsimp only; omega) (.bool true)) (by dsimp only; omega) (.int .i64 o.feat.id)) (by dsimp only; omega) (.int .i64 o.feat.kind)) (by dsimp only; omega) (.int .i64 o.feat.x)) (by dsimp only; omega) (.int .i64 o.feat.y)) (by dsimp only; omega) (.int .i64 o.feat.rad)) (by dsimp only; omega) (.slice aa noa ca)) (by dsimp only; omega) (.int .i64 o.feat.dep)) (by dsimp only; omega) (.int .i64 o.feat.sym)) (by dsimp only; omega) (.slice ab nob cb)) (by dsimp only; omega) (.bool true))
 replace p3 : W2.heap[w.heap.size + 1 + 1]? = _ := p3
 have hBn : Below w.heap.size w W2 := by rw [hWn]; exact (((((((((((hB.setCell (by dsimp only; omega) _).setCell (by dsimp only; omega) _).setCell (by dsimp only; omega) _).setCell (by dsimp only; omega) _).setCell (by dsimp only; omega) _).setCell (by dsimp only; omega) _).setCell (by dsimp only; omega) _).setCell (by dsimp only; omega) _).setCell (by dsimp only; omega) _).setCell (by dsimp only; omega) _).setCell (by dsimp only; omega) _)
 clear hWn
 have PE := Lib.hid p3
 have c1 := cell_block p1
 have c3 := cell_block p3
 have f3 := free_block p3
 clear p1 p3
 go_wp2_with fail
 have c9 := cell_block (block_set (i := 13) (block_set (i := 12) (block_set (i := 11) (block_set (i := 10) (block_set (i := 9) (block_set (i := 8) (block_set (i := 7) (block_set (i := 6) (block_set (i := 5) (block_set (i := 4) (block_set (i := 3) (block_set (i := 2) (block_set (i := 1) (block_set (i := 0) PE.out (.bool before)) (.bool deleted)) (.bool true)) (.bool true)) (.int .i64 o.feat.id)) (.int .i64 o.feat.kind)) (.int .i64 o.feat.x)) (.int .i64 o.feat.y)) (.int .i64 o.feat.rad)) (.slice aa noa ca)) (.int .i64 o.feat.dep)) (.int .i64 o.feat.sym)) (.slice ab nob cb)) (.slice fo nfo fco))
 exact bodyPost_ret (v := .tuple #[.agg #[.bool before, .bool deleted, .bool true, .bool true, .int .i64 o.feat.id, .int .i64 o.feat.kind, .int .i64 o.feat.x, .int .i64 o.feat.y, .int .i64 o.feat.rad, .slice aa noa ca, .int .i64 o.feat.dep, .int .i64 o.feat.sym, .slice ab nob cb, .slice fo nfo fco], .bool (!there)]) (by simp [results, Tryz.results206, go_sem, c9]) rfl ⟨.slice aa noa ca, .slice ab nob cb, .slice fo nfo fco, rfl, HQ.out, HF.out.later ((((((((((((((hBn.setCell (by dsimp only; omega) _).setCell (by dsimp only; omega) _).setCell (by dsimp only; omega) _).setCell (by dsimp only; omega) _).setCell (by dsimp only; omega) _).setCell (by dsimp only; omega) _).setCell (by dsimp only; omega) _).setCell (by dsimp only; omega) _).setCell (by dsimp only; omega) _).setCell (by dsimp only; omega) _).setCell (by dsimp only; omega) _).setCell (by dsimp only; omega) _).setCell (by dsimp only; omega) _).setCell (by dsimp only; omega) _), ((((((((((((((hBn.setCell (by dsimp only; omega) _).setCell (by dsimp only; omega) _).setCell (by dsimp only; omega) _).setCell (by dsimp only; omega) _).setCell (by dsimp only; omega) _).setCell (by dsimp only; omega) _).setCell (by dsimp only; omega) _).setCell (by dsimp only; omega) _).setCell (by dsimp only; omega) _).setCell (by dsimp only; omega) _).setCell (by dsimp only; omega) _).setCell (by dsimp only; omega) _).setCell (by dsimp only; omega) _).setCell (by dsimp only; omega) _)⟩
end Go.Proofs.YtdmegkkifiahdaaGreat
namespace Go.Proofs.YtdmegkkifiahdaaGreat
open Go.RowKit
attribute [local go_sem] bqOp bqAll bqUpon sqOp sqAll sqUpon ssAll
attribute [local irreducible] wpQuiet wpBQ wpPlan wsPlan
set_option linter.unusedVariables false
set_option maxHeartbeats 8000000 in
set_option maxRecDepth 20000 in
theorem q17After_off (before deleted there known : Bool) (f : Feat) (fs : List Opn) (o : Opn) (va vs vf ua us : Value) (base : Nat) (w0 w : World) (hbase : base ≤ w.heap.size) (hp : PartsAt w0 f va vs) (hq : PartsAt w0 o.feat ua us) (hf : OIt base w0 w vf fs) (hk1 : ¬ o.kind = 1) :
  Calls Tryz.prog 206 #[saysV ⟨before, deleted, false, known, f, fs⟩ va vs vf, opV o ua us] w (AfterP base w0 w ⟨before, deleted, false, known, f, fs⟩ false) := by
 have d1 : (o.kind == 1) = false := by simpa using hk1
 clear hk1
 obtain ⟨fa, fca, fb, fcb, rfl, rfl⟩ := hp.form
 obtain ⟨aa, ca, ab, cb, rfl, rfl⟩ := hq.form
 obtain ⟨fo, fco, items, rfl, _⟩ := id hf
 have HP := Lib.hid hp
 have HQ := Lib.hid hq
 have HF := Lib.hid hf
 clear hp hq hf
 generalize hnfa : f.area.length = nfa at *
 generalize hnfb : f.secs.length = nfb at *
 generalize hnoa : o.feat.area.length = noa at *
 generalize hnob : o.feat.secs.length = nob at *
 generalize hnfo : fs.length = nfo at *
 clear hnfa hnfb hnoa hnob hnfo
 go_enter Tryz.func206, Tryz.ntmps206
 go_upto_region 1 with fail
 refine wp_named fun W hW => ?_
 obtain ⟨p1, p2, p3, hB⟩ := box3 hW
 clear hW
 have P1 := Lib.hid p1
 have P2 := Lib.hid p2
 have P3 := Lib.hid p3
 clear p1 p2 p3
 have c1 := cell_block P1.out
 have c2 := cell_block P2.out
 have c3 := cell_block P3.out
 have f1 := free_block P1.out
 have f3 := free_block P3.out
 go_wp2_with fail
 have c9 := cell_block (block_set (i := 13) (block_set (i := 12) (block_set (i := 11) (block_set (i := 10) (block_set (i := 9) (block_set (i := 8) (block_set (i := 7) (block_set (i := 6) (block_set (i := 5) (block_set (i := 4) (block_set (i := 3) (block_set (i := 2) (block_set (i := 1) (block_set (i := 0) P3.out (.bool before)) (.bool deleted)) (.bool false)) (.bool known)) (.int .i64 f.id)) (.int .i64 f.kind)) (.int .i64 f.x)) (.int .i64 f.y)) (.int .i64 f.rad)) (.slice fa nfa fca)) (.int .i64 f.dep)) (.int .i64 f.sym)) (.slice fb nfb fcb)) (.slice fo nfo fco))
 exact bodyPost_ret (v := .tuple #[.agg #[.bool before, .bool deleted, .bool false, .bool known, .int .i64 f.id, .int .i64 f.kind, .int .i64 f.x, .int .i64 f.y, .int .i64 f.rad, .slice fa nfa fca, .int .i64 f.dep, .int .i64 f.sym, .slice fb nfb fcb, .slice fo nfo fco], .bool false]) (by simp [results, Tryz.results206, go_sem, c9]) rfl ⟨.slice fa nfa fca, .slice fb nfb fcb, .slice fo nfo fco, rfl, HP.out, HF.out.later ((((((((((((((hB.setCell (by dsimp only; omega) _).setCell (by dsimp only; omega) _).setCell (by dsimp only; omega) _).setCell (by dsimp only; omega) _).setCell (by dsimp only; omega) _).setCell (by dsimp only; omega) _).setCell (by dsimp only; omega) _).setCell (by dsimp only; omega) _).setCell (by dsimp only; omega) _).setCell (by dsimp only; omega) _).setCell (by dsimp only; omega) _).setCell (by dsimp only; omega) _).setCell (by dsimp only; omega) _).setCell (by dsimp only; omega) _), ((((((((((((((hB.setCell (by dsimp only; omega) _).setCell (by dsimp only; omega) _).setCell (by dsimp only; omega) _).setCell (by dsimp only; omega) _).setCell (by dsimp only; omega) _).setCell (by dsimp only; omega) _).setCell (by dsimp only; omega) _).setCell (by dsimp only; omega) _).setCell (by dsimp only; omega) _).setCell (by dsimp only; omega) _).setCell (by dsimp only; omega) _).setCell (by dsimp only; omega) _).setCell (by dsimp only; omega) _).setCell (by dsimp only; omega) _)⟩
set_option maxHeartbeats 8000000 in
set_option maxRecDepth 20000 in
theorem q17After_del (before deleted there known : Bool) (f : Feat) (fs : List Opn) (o : Opn) (va vs vf ua us : Value) (base : Nat) (w0 w : World) (hbase : base ≤ w.heap.size) (hp : PartsAt w0 f va vs) (hq : PartsAt w0 o.feat ua us) (hf : OIt base w0 w vf fs) (hk1 : ¬ o.kind = 1) (hk2 : o.kind = 2) :
  Calls Tryz.prog 206 #[saysV ⟨before, deleted, true, known, f, fs⟩ va vs vf, opV o ua us] w (AfterP base w0 w ⟨before, before || deleted, false, false, f, fs⟩ true) := by
 have d2 : (o.kind == 2) = true := by simpa using hk2
 clear hk2
 have d1 : (o.kind == 1) = false := by simpa using hk1
 clear hk1
 obtain ⟨fa, fca, fb, fcb, rfl, rfl⟩ := hp.form
 obtain ⟨aa, ca, ab, cb, rfl, rfl⟩ := hq.form
 obtain ⟨fo, fco, items, rfl, _⟩ := id hf
 have HP := Lib.hid hp
 have HQ := Lib.hid hq
 have HF := Lib.hid hf
 clear hp hq hf
 generalize hnfa : f.area.length = nfa at *
 generalize hnfb : f.secs.length = nfb at *
 generalize hnoa : o.feat.area.length = noa at *
 generalize hnob : o.feat.secs.length = nob at *
 generalize hnfo : fs.length = nfo at *
 clear hnfa hnfb hnoa hnob hnfo
 go_enter Tryz.func206, Tryz.ntmps206
 go_upto_region 1 with fail
 refine wp_named fun W hW => ?_
 obtain ⟨p1, p2, p3, hB⟩ := box3 hW
 clear hW
 have P1 := Lib.hid p1
 have P2 := Lib.hid p2
 have P3 := Lib.hid p3
 clear p1 p2 p3
 have c1 := cell_block P1.out
 have c2 := cell_block P2.out
 have c3 := cell_block P3.out
 have f1 := free_block P1.out
 have f3 := free_block P3.out
 cases before
 · go_wp2_with fail
   have c9 := cell_block (block_set (i := 13) (block_set (i := 12) (block_set (i := 11) (block_set (i := 10) (block_set (i := 9) (block_set (i := 8) (block_set (i := 7) (block_set (i := 6) (block_set (i := 5) (block_set (i := 4) (block_set (i := 3) (block_set (i := 2) (block_set (i := 1) (block_set (i := 0) (block_far (a := ⟨w.heap.size, 3, none⟩) (block_far (a := ⟨w.heap.size, 2, none⟩) (block_far (a := ⟨w.heap.size, 1, none⟩) P3.out (by dsimp only; omega) (.bool deleted)) (by dsimp only; omega) (.bool false)) (by dsimp only; omega) (.bool false)) (.bool false)) (.bool deleted)) (.bool false)) (.bool false)) (.int .i64 f.id)) (.int .i64 f.kind)) (.int .i64 f.x)) (.int .i64 f.y)) (.int .i64 f.rad)) (.slice fa nfa fca)) (.int .i64 f.dep)) (.int .i64 f.sym)) (.slice fb nfb fcb)) (.slice fo nfo fco))
   exact bodyPost_ret (v := .tuple #[.agg #[.bool false, .bool deleted, .bool false, .bool false, .int .i64 f.id, .int .i64 f.kind, .int .i64 f.x, .int .i64 f.y, .int .i64 f.rad, .slice fa nfa fca, .int .i64 f.dep, .int .i64 f.sym, .slice fb nfb fcb, .slice fo nfo fco], .bool true]) (by simp [results, Tryz.results206, go_sem, c9]) rfl ⟨.slice fa nfa fca, .slice fb nfb fcb, .slice fo nfo fco, rfl, HP.out, HF.out.later (((((((((((((((((hB.setCell (by dsimp only; omega) _).setCell (by dsimp only; omega) _).setCell (by dsimp only; omega) _).setCell (by dsimp only; omega) _).setCell (by dsimp only; omega) _).setCell (by dsimp only; omega) _).setCell (by dsimp only; omega) _).setCell (by dsimp only; omega) _).setCell (by dsimp only; omega) _).setCell (by dsimp only; omega) _).setCell (by dsimp only; omega) _).setCell (by dsimp only; omega) _).setCell (by dsimp only; omega) _).setCell (by dsimp only; omega) _).setCell (by dsimp only; omega) _).setCell (by dsimp only; omega) _).setCell (by dsimp only; omega) _), (((((((((((((((((hB.setCell (by dsimp only; omega) _).setCell (by dsimp only; omega) _).setCell (by dsimp only; omega) _).setCell (by dsimp only; omega) _).setCell (by dsimp only; omega) _).setCell (by dsimp only; omega) _).setCell (by dsimp only; omega) _).setCell (by dsimp only; omega) _).setCell (by dsimp only; omega) _).setCell (by dsimp only; omega) _).setCell (by dsimp only; omega) _).setCell (by dsimp only; omega) _).setCell (by dsimp only; omega) _).setCell (by dsimp only; omega) _).setCell (by dsimp only; omega) _).setCell (by dsimp only; omega) _).setCell (by dsimp only; omega) _)⟩
 · go_wp2_with fail
   have c9 := cell_block (block_set (i := 13) (block_set (i := 12) (block_set (i := 11) (block_set (i := 10) (block_set (i := 9) (block_set (i := 8) (block_set (i := 7) (block_set (i := 6) (block_set (i := 5) (block_set (i := 4) (block_set (i := 3) (block_set (i := 2) (block_set (i := 1) (block_set (i := 0) (block_far (a := ⟨w.heap.size, 3, none⟩) (block_far (a := ⟨w.heap.size, 2, none⟩) (block_far (a := ⟨w.heap.size, 1, none⟩) P3.out (by dsimp only; omega) (.bool true)) (by dsimp only; omega) (.bool false)) (by dsimp only; omega) (.bool false)) (.bool true)) (.bool true)) (.bool false)) (.bool false)) (.int .i64 f.id)) (.int .i64 f.kind)) (.int .i64 f.x)) (.int .i64 f.y)) (.int .i64 f.rad)) (.slice fa nfa fca)) (.int .i64 f.dep)) (.int .i64 f.sym)) (.slice fb nfb fcb)) (.slice fo nfo fco))
   exact bodyPost_ret (v := .tuple #[.agg #[.bool true, .bool true, .bool false, .bool false, .int .i64 f.id, .int .i64 f.kind, .int .i64 f.x, .int .i64 f.y, .int .i64 f.rad, .slice fa nfa fca, .int .i64 f.dep, .int .i64 f.sym, .slice fb nfb fcb, .slice fo nfo fco], .bool true]) (by simp [results, Tryz.results206, go_sem, c9]) rfl ⟨.slice fa nfa fca, .slice fb nfb fcb, .slice fo nfo fco, rfl, HP.out, HF.out.later (((((((((((((((((hB.setCell (by dsimp only; omega) _).setCell (by dsimp only; omega) _).setCell (by dsimp only; omega) _).setCell (by dsimp only; omega) _).setCell (by dsimp only; omega) _).setCell (by dsimp only; omega) _).setCell (by dsimp only; omega) _).setCell (by dsimp only; omega) _).setCell (by dsimp only; omega) _).setCell (by dsimp only; omega) _).setCell (by dsimp only; omega) _).setCell (by dsimp only; omega) _).setCell (by dsimp only; omega) _).setCell (by dsimp only; omega) _).setCell (by dsimp only; omega) _).setCell (by dsimp only; omega) _).setCell (by dsimp only; omega) _), (((((((((((((((((hB.setCell (by dsimp only; omega) _).setCell (by dsimp only; omega) _).setCell (by dsimp only; omega) _).setCell (by dsimp only; omega) _).setCell (by dsimp only; omega) _).setCell (by dsimp only; omega) _).setCell (by dsimp only; omega) _).setCell (by dsimp only; omega) _).setCell (by dsimp only; omega) _).setCell (by dsimp only; omega) _).setCell (by dsimp only; omega) _).setCell (by dsimp only; omega) _).setCell (by dsimp only; omega) _).setCell (by dsimp only; omega) _).setCell (by dsimp only; omega) _).setCell (by dsimp only; omega) _).setCell (by dsimp only; omega) _)⟩
end Go.Proofs.YtdmegkkifiahdaaGreat
namespace Go.Proofs.YtdmegkkifiahdaaGreat
open Go.RowKit
attribute [local go_sem] bqOp bqAll bqUpon sqOp sqAll sqUpon ssAll
attribute [local irreducible] wpQuiet wpBQ wpPlan wsPlan
set_option linter.unusedVariables false
set_option maxHeartbeats 8000000 in
set_option maxRecDepth 20000 in
theorem q17After_known (before deleted there known : Bool) (f : Feat) (fs : List Opn) (o : Opn) (va vs vf ua us : Value) (base : Nat) (w0 w : World) (hbase : base ≤ w.heap.size) (hp : PartsAt w0 f va vs) (hq : PartsAt w0 o.feat ua us) (hf : OIt base w0 w vf fs) (hk1 : ¬ o.kind = 1) (hk2 : ¬ o.kind = 2) (hk5 : 3 ≤ o.kind ∧ o.kind ≤ 5) {g : Feat} {er : Int} (hg : chgE f o = (g, er)) (hpg : PartsAt w0 g va vs) :
  Calls Tryz.prog 206 #[saysV ⟨before, deleted, true, true, f, fs⟩ va vs vf, opV o ua us] w (AfterP base w0 w ⟨before, deleted, true, true, g, fs⟩ (er == 0)) := by
 have d2 : (o.kind == 2) = false := by simpa using hk2
 have HG := Lib.hid hg
 have HK := Lib.hid hk5
 clear hk2 hg hk5
 have d1 : (o.kind == 1) = false := by simpa using hk1
 clear hk1
 obtain ⟨fa, fca, fb, fcb, rfl, rfl⟩ := hp.form
 obtain ⟨aa, ca, ab, cb, rfl, rfl⟩ := hq.form
 obtain ⟨fo, fco, items, rfl, _⟩ := id hf
 have HP := Lib.hid hp
 have HPG := Lib.hid hpg
 have HQ := Lib.hid hq
 have HF := Lib.hid hf
 clear hp hq hf hpg
 go_enter Tryz.func206, Tryz.ntmps206
 go_upto_region 1 with fail
 refine wp_named fun W hW => ?_
 obtain ⟨p1, p2, p3, hB⟩ := box3 hW
 clear hW
 have P1 := Lib.hid p1
 have P2 := Lib.hid p2
 have P3 := Lib.hid p3
 clear p1 p2 p3
 have c1 := cell_block P1.out
 have c2 := cell_block P2.out
 have c3 := cell_block P3.out
 have f1 := free_block P1.out
 have f3 := free_block P3.out
 go_wp2_with fail
 clear c1 c2 c3 f1 f3
 (with_reducible refine (q17Changed_any f o _ _ _ _ w0 _ HP.out HQ.out HK.out HG.out).mono ?_)
 rintro e w1 ⟨rfl, hb1⟩
 have hB1 := below_step hB hb1
 have B1 := Lib.hid (block_later hb1 P1.out)
 have B3 := Lib.hid (block_later hb1 P3.out)
 clear hb1 P1 P2 P3
 go_upto_region 16 with fail
 refine wp_named fun W2 hW2 => ?_
 obtain ⟨p7, hb2⟩ := box1 hW2
 clear hW2
 have hB2 := below_step hB1 hb2
 have P1 := Lib.hid (block_later hb2 B1.out)
 have P3 := Lib.hid (block_later hb2 B3.out)
 have c7 := cell_block p7
 have c1 := cell_block P1.out
 have c3 := cell_block P3.out
 have f1 := free_block P1.out
 have f3 := free_block P3.out
 have hne7 : ¬ w.heap.size = w1.heap.size := by have := lt_block B1.out; omega
 clear p7 B1 B3
 go_upto_region 17 with fail
 refine wp_named fun W3 hWn => ?_
 have p1 := (congrArg (fun X : World => X.heap[w.heap.size]?) hWn).trans (block_set (i := 12) (block_set (i := 11) (block_set (i := 10) (block_set (i := 9) (block_set (i := 8) (block_set (i := 7) (block_set (i := 6) (block_set (i := 5) (block_set (i := 4) P1.out (.int .i64 g.id)) (.int .i64 g.kind)) (.int .i64 g.x)) (.int .i64 g.y)) (.int .i64 g.rad)) (.slice fa f.area.length fca)) (.int .i64 g.dep)) (.int .i64 g.sym)) (.slice fb f.secs.length fcb))
 replace p1 : W3.heap[w.heap.size]? = _ := p1
 simp only [List.setIfInBounds_toArray, List.set_cons_zero, List.set_cons_succ] at p1
 have p3 := (congrArg (fun X : World => X.heap[w.heap.size + 1 + 1]?) hWn).trans (block_far (a := ⟨w.heap.size, 12, none⟩) (block_far (a := ⟨w.heap.size, 11, none⟩) (block_far (a := ⟨w.heap.size, 10, none⟩) (block_far (a := ⟨w.heap.size, 9, none⟩) (block_far (a := ⟨w.heap.size, 8, none⟩) (block_far (a := ⟨w.heap.size, 7, none⟩) (block_far (a := ⟨w.heap.size, 6, none⟩) (block_far (a := ⟨w.heap.size, 5, none⟩) (block_far (a := ⟨w.heap.size, 4, none⟩) P3.out (by dsimp only; omega) (.int .i64 g.id)) (by dsimp only; omega) (.int .i64 g.kind)) (by dsimp only; omega) (.int .i64 g.x)) (by dsimp only; omega) (.int .i64 g.y)) (by dsimp only; omega) (.int .i64 g.rad)) (by dsimp only; omega) (.slice fa f.area.length fca)) (by dsimp only; omega) (.int .i64 g.dep)) (by dsimp only; omega) (.int .i64 g.sym)) (by dsimp only; omega) (.slice fb f.secs.length fcb))
 replace p3 : W3.heap[w.heap.size + 1 + 1]? = _ := p3
 have hBn : Below w.heap.size w W3 := by rw [hWn]; exact (((((((((hB2.setCell (by dsimp only; omega) _).setCell (by dsimp only; omega) _).setCell (by dsimp only; omega) _).setCell (by dsimp only; omega) _).setCell (by dsimp only; omega) _).setCell (by dsimp only; omega) _).setCell (by dsimp only; omega) _).setCell (by dsimp only; omega) _).setCell (by dsimp only; omega) _)
 clear hWn
 have PE := Lib.hid p3
 have c1 := cell_block p1
 have c3 := cell_block p3
 have f3 := free_block p3
 clear p1 p3
 go_wp2_with fail
 have c9 := cell_block (block_set (i := 13) (block_set (i := 12) (block_set (i := 11) (block_set (i := 10) (block_set (i := 9) (block_set (i := 8) (block_set (i := 7) (block_set (i := 6) (block_set (i := 5) (block_set (i := 4) (block_set (i := 3) (block_set (i := 2) (block_set (i := 1) (block_set (i := 0) PE.out (.bool before)) (.bool deleted)) (.bool true)) (.bool true)) (.int .i64 g.id)) (.int .i64 g.kind)) (.int .i64 g.x)) (.int .i64 g.y)) (.int .i64 g.rad)) (.slice fa f.area.length fca)) (.int .i64 g.dep)) (.int .i64 g.sym)) (.slice fb f.secs.length fcb)) (.slice fo fs.length fco))
 exact bodyPost_ret (v := .tuple #[.agg #[.bool before, .bool deleted, .bool true, .bool true, .int .i64 g.id, .int .i64 g.kind, .int .i64 g.x, .int .i64 g.y, .int .i64 g.rad, .slice fa f.area.length fca, .int .i64 g.dep, .int .i64 g.sym, .slice fb f.secs.length fcb, .slice fo fs.length fco], .bool (er == 0)]) (by simp [results, Tryz.results206, go_sem, c9]) rfl ⟨.slice fa f.area.length fca, .slice fb f.secs.length fcb, .slice fo fs.length fco, rfl, HPG.out, HF.out.later ((((((((((((((hBn.setCell (by dsimp only; omega) _).setCell (by dsimp only; omega) _).setCell (by dsimp only; omega) _).setCell (by dsimp only; omega) _).setCell (by dsimp only; omega) _).setCell (by dsimp only; omega) _).setCell (by dsimp only; omega) _).setCell (by dsimp only; omega) _).setCell (by dsimp only; omega) _).setCell (by dsimp only; omega) _).setCell (by dsimp only; omega) _).setCell (by dsimp only; omega) _).setCell (by dsimp only; omega) _).setCell (by dsimp only; omega) _), ((((((((((((((hBn.setCell (by dsimp only; omega) _).setCell (by dsimp only; omega) _).setCell (by dsimp only; omega) _).setCell (by dsimp only; omega) _).setCell (by dsimp only; omega) _).setCell (by dsimp only; omega) _).setCell (by dsimp only; omega) _).setCell (by dsimp only; omega) _).setCell (by dsimp only; omega) _).setCell (by dsimp only; omega) _).setCell (by dsimp only; omega) _).setCell (by dsimp only; omega) _).setCell (by dsimp only; omega) _).setCell (by dsimp only; omega) _)⟩
end Go.Proofs.YtdmegkkifiahdaaGreat
namespace Go.Proofs.YtdmegkkifiahdaaGreat
open Go.RowKit
attribute [local go_sem] bqOp bqAll bqUpon sqOp sqAll sqUpon ssAll
attribute [local irreducible] wpQuiet wpBQ wpPlan wsPlan
set_option linter.unusedVariables false
theorem range_later {w w' : World} {g o : Nat} {cs : List Value} (h : w.rangeAt g o cs) (hb : Below w.heap.size w w') : w'.rangeAt g o cs := fun j v hv => cell_later hb (h j v hv)
theorem OIt.row {w0 w : World} {ad : Option Addr} {n c : Nat} {l : List Opn} {base : Nat} (h : OIt base w0 w (.slice ad n c) l) {i : Nat} (hi : i < n) : ∃ g o va vs, ad = some ⟨g, o, none⟩ ∧ w.rangeAt g (o + i * 16) (opCells (l.getD i noOpn, va, vs)) ∧ PartsAt w0 (l.getD i noOpn).feat va vs := by
 obtain ⟨ad', c', items, e, hm, hr, hs, hc, _⟩ := h
 cases e
 have hlen : items.length = l.length := by rw [← hm, List.length_map]
 have hi2 : i < items.length := by omega
 have hx : (l.getD i noOpn) = (items.getD i noOItem).1 := by rw [← hm, fst_getD hi2 noOItem]
 have key := fun j (hj : j < 16) => flat_get opCells 16 opCells_len noOItem items i j hi2 hj
 have h0 : (items.flatMap opCells)[i * 16 + 0]? = some (.int .i64 (items.getD i noOItem).1.kind) := by rw [key 0 (by omega)]; rfl
 obtain ⟨g, o, e, _⟩ := hs _ _ h0
 refine ⟨g, o, (items.getD i noOItem).2.1, (items.getD i noOItem).2.2, e, fun j v hv => ?_, ?_⟩
 · rw [hx] at hv
   have hj : j < 16 := by
    have := (List.getElem?_eq_some_iff.1 hv).1
    rw [opCells_len] at this
    exact this
   have hk := key j hj
   have hv2 : (items.flatMap opCells)[i * 16 + j]? = some v := by rw [hk]; exact hv
   obtain ⟨g', o', e', hc'⟩ := hs _ _ hv2
   rw [e] at e'
   cases e'
   rw [Nat.add_assoc]
   exact hc'
 · rw [hx]
   exact hr _ (getD_memD hi2 _)
theorem OwnOs.farO {base b i : Nat} {w0 w : World} {v u : Value} {l : List Opn} (h : OwnOs base w0 w v l) (hlt : b < base) : OwnOs base w0 (w.setCell ⟨b, i, none⟩ u) v l := by
 obtain ⟨items, e, ho, hr⟩ := h
 refine ⟨items, e, ⟨ho.1, ?_⟩, hr⟩
 rcases ho.2 with h | ⟨g, cap, cur, hv, hbg, hh, hrest⟩
 · exact .inl h
 · exact .inr ⟨g, cap, cur, hv, hbg, (Below.heap_setCell _ _ _ _ (show g ≠ b by omega)).trans hh, hrest⟩
def keepO (B : Opn → Bool) (l : List Opn) (k : Nat) : List Opn := (l.take k).filter B
theorem keepO_len (B : Opn → Bool) (l : List Opn) (k : Nat) : (keepO B l k).length ≤ k := by
 have h := List.length_filter_le B (l.take k)
 rw [List.length_take] at h
 unfold keepO
 omega
theorem keepO_yes {B : Opn → Bool} {l : List Opn} {k : Nat} {f : Opn} (hk : k < l.length) (hf : l.getD k noOpn = f) (hB : B f = true) : keepO B l (k + 1) = keepO B l k ++ [f] := by
 unfold keepO
 rw [take_snoc noOpn hk, hf, List.filter_append, List.filter_cons_of_pos hB, List.filter_nil]
theorem keepO_no {B : Opn → Bool} {l : List Opn} {k : Nat} {f : Opn} (hk : k < l.length) (hf : l.getD k noOpn = f) (hB : B f = false) : keepO B l (k + 1) = keepO B l k := by
 unfold keepO
 rw [take_snoc noOpn hk, hf, List.filter_append, List.filter_cons_of_neg (by rw [hB]; decide), List.filter_nil, List.append_nil]
theorem keepO_all {B : Opn → Bool} {l : List Opn} {n : Nat} (h : l.length = n) : keepO B l n = l.filter B := by
 unfold keepO
 rw [List.take_of_length_le (by omega)]
set_option maxHeartbeats 8000000 in
set_option maxRecDepth 20000 in
theorem q17After_fields (before deleted there known : Bool) (f : Feat) (fs : List Opn) (o : Opn) (va vs vf ua us : Value) (base : Nat) (w0 w : World) (hbase : base ≤ w.heap.size) (hp : PartsAt w0 f va vs) (hq : PartsAt w0 o.feat ua us) (hf : OIt base w0 w vf fs) (hk1 : ¬ o.kind = 1) (hk2 : ¬ o.kind = 2) (hfl : fs.length ≤ 1000) :
  Calls Tryz.prog 206 #[saysV ⟨before, deleted, true, false, f, fs⟩ va vs vf, opV o ua us] w (AfterP base w0 w ⟨before, deleted, true, false, f, newFl fs o 3⟩ true) := by
 have d2 : (o.kind == 2) = false := by simpa using hk2
 clear hk2
 have d1 : (o.kind == 1) = false := by simpa using hk1
 clear hk1
 obtain ⟨fa, fca, fb, fcb, rfl, rfl⟩ := hp.form
 obtain ⟨aa, ca, ab, cb, rfl, rfl⟩ := hq.form
 obtain ⟨fo, fco, items, rfl, _⟩ := id hf
 have HP := Lib.hid hp
 have HQ := Lib.hid hq
 have HF := Lib.hid hf
 clear hp hq hf
 generalize hnfa : f.area.length = nfa at *
 generalize hnfb : f.secs.length = nfb at *
 generalize hnoa : o.feat.area.length = noa at *
 generalize hnob : o.feat.secs.length = nob at *
 generalize hnfo : fs.length = nfo at HF hfl ⊢
 have HN := Lib.hid hnfo
 clear hnfa hnfb hnoa hnob hnfo
 go_enter Tryz.func206, Tryz.ntmps206
 go_upto_region 1 with fail
 refine wp_named fun W hW => ?_
 obtain ⟨p1, p2, p3, hB⟩ := box3 hW
 clear hW
 have P1 := Lib.hid p1
 have P2 := Lib.hid p2
 have P3 := Lib.hid p3
 clear p1 p2 p3
 have c1 := cell_block P1.out
 have c2 := cell_block P2.out
 have c3 := cell_block P3.out
 have f1 := free_block P1.out
 have f3 := free_block P3.out
 go_wp2_with fail
 clear c1 c2 c3 f1 f3 d1 d2
 go_loopw [9, 10] (fun a i wr => ∃ (j : Nat) (ad' : Option Addr) (c' : Nat) (m : List Opn), j ≤ 3 ∧ i = .int .i64 (3 + (j : Int)) ∧ a = .slice ad' m.length c' ∧ Hid (newFl fs o j = m) ∧ OwnOs W.heap.size w0 wr (.slice ad' m.length c') m ∧ Below W.heap.size W wr) (fun _ i _ => 6 - (Go.RowKit.intOf i).toNat)
 case atStart => exact ⟨0, none, 0, [], by omega, rfl, rfl, Lib.hid rfl, OwnOs.nil _ _ _, Below.refl _ _⟩
 case round =>
  obtain ⟨j, ad', c', m, hj, rfl, rfl, EM, how, hb⟩ := hrel
  have ML : Hid (m.length ≤ 3003) := Lib.hid (by
   have h1 := newFl_len fs o j
   have h2 : j * (fs.length + 1) ≤ 3 * 1001 := Nat.mul_le_mul hj (by rw [HN.out]; omega)
   rw [← EM.out]
   omega)
  have OW := Lib.hid how
  have hB2 := below_step hB hb
  have hs2 := hb.size
  clear how
  rcases Nat.lt_or_ge j 3 with hlt | hge
  rotate_left
  · have hj3 : j = 3 := by omega
    have EM3 : Hid (newFl fs o 3 = m) := Lib.hid (by rw [← hj3]; exact EM.out)
    have d0 : decide (3 + (j : Int) ≤ 5) = false := decide_eq_false (by omega)
    have B1 := Lib.hid (block_later hb P1.out)
    have B3 := Lib.hid (block_later hb P3.out)
    have c1 := cell_block B1.out
    have f1 := free_block B1.out
    clear hj3
    go_upto_region 30 with fail
    refine wp_named fun W3 hWn => ?_
    have p1 := (congrArg (fun X : World => X.heap[w.heap.size]?) hWn).trans (block_set (i := 13) B1.out (.slice ad' m.length c'))
    replace p1 : W3.heap[w.heap.size]? = _ := p1
    simp only [List.setIfInBounds_toArray, List.set_cons_zero, List.set_cons_succ] at p1
    have p3 := (congrArg (fun X : World => X.heap[w.heap.size + 1 + 1]?) hWn).trans (block_far (a := ⟨w.heap.size, 13, none⟩) B3.out (by dsimp only; omega) (.slice ad' m.length c'))
    replace p3 : W3.heap[w.heap.size + 1 + 1]? = _ := p3
    have hBn : Below w.heap.size w W3 := by rw [hWn]; exact (hB2.setCell (by dsimp only; omega) _)
    have hlt1 := lt_block P1.out
    have hlt3 := lt_block P3.out
    have OWE : Hid (OwnOs W.heap.size w0 W3 (.slice ad' m.length c') m) := Lib.hid (by rw [hWn]; exact OwnOs.farO OW.out hlt1)
    clear hWn
    have PE := Lib.hid p3
    have c1 := cell_block p1
    have c3 := cell_block p3
    have f3 := free_block p3
    clear p1 p3
    go_wp2_with fail
    rw [EM3.out]
    have c9 := cell_block (block_set (i := 13) (block_set (i := 12) (block_set (i := 11) (block_set (i := 10) (block_set (i := 9) (block_set (i := 8) (block_set (i := 7) (block_set (i := 6) (block_set (i := 5) (block_set (i := 4) (block_set (i := 3) (block_set (i := 2) (block_set (i := 1) (block_set (i := 0) PE.out (.bool before)) (.bool deleted)) (.bool true)) (.bool false)) (.int .i64 f.id)) (.int .i64 f.kind)) (.int .i64 f.x)) (.int .i64 f.y)) (.int .i64 f.rad)) (.slice fa nfa fca)) (.int .i64 f.dep)) (.int .i64 f.sym)) (.slice fb nfb fcb)) (.slice ad' m.length c'))
    exact bodyPost_ret (v := .tuple #[.agg #[.bool before, .bool deleted, .bool true, .bool false, .int .i64 f.id, .int .i64 f.kind, .int .i64 f.x, .int .i64 f.y, .int .i64 f.rad, .slice fa nfa fca, .int .i64 f.dep, .int .i64 f.sym, .slice fb nfb fcb, .slice ad' m.length c'], .bool true]) (by simp [results, Tryz.results206, go_sem, c9]) rfl ⟨.slice fa nfa fca, .slice fb nfb fcb, .slice ad' m.length c', rfl, HP.out, (OIt.of_own (OwnOs.farO (OwnOs.farO (OwnOs.farO (OwnOs.farO (OwnOs.farO (OwnOs.farO (OwnOs.farO (OwnOs.farO (OwnOs.farO (OwnOs.farO (OwnOs.farO (OwnOs.farO (OwnOs.farO (OwnOs.farO OWE.out hlt3) hlt3) hlt3) hlt3) hlt3) hlt3) hlt3) hlt3) hlt3) hlt3) hlt3) hlt3) hlt3) hlt3)).mono (Nat.le_trans hbase hB.size), ((((((((((((((hBn.setCell (by dsimp only; omega) _).setCell (by dsimp only; omega) _).setCell (by dsimp only; omega) _).setCell (by dsimp only; omega) _).setCell (by dsimp only; omega) _).setCell (by dsimp only; omega) _).setCell (by dsimp only; omega) _).setCell (by dsimp only; omega) _).setCell (by dsimp only; omega) _).setCell (by dsimp only; omega) _).setCell (by dsimp only; omega) _).setCell (by dsimp only; omega) _).setCell (by dsimp only; omega) _).setCell (by dsimp only; omega) _)⟩
  have d0 : decide (3 + (j : Int) ≤ 5) = true := decide_eq_true (by omega)
  by_cases he : 3 + (j : Int) = o.kind
  · have d1 : (3 + (j : Int) == o.kind) = true := by simpa using he
    have NX : Hid (newFl fs o (j + 1) = m ++ [o]) := Lib.hid (by
     rw [newFl_succ, EM.out]
     unfold pickK
     rw [if_pos he])
    have c2 := cell_block (block_later hb P2.out)
    clear he
    go_wp2_with (first | (refine wpList_appO rfl _ _ rfl W.heap.size w0 _ m [o] rfl (OW.out.keep ((Below.refl _ _).alloc (Nat.le_refl _) _)) _ _ _ rfl [(o, .slice aa noa ca, .slice ab nob cb)] rfl rfl (fun z hz => by obtain rfl := List.mem_singleton.1 hz; exact HQ.out) (SrcAt.one (block_new _ _) rfl) (N := m.length + 1) rfl (by have := ML.out; omega) (by simp only [World.size_alloc]; omega) ?_; intro ad2 c2' w5 how5 hgr hbl))
    go_roundw
    case rel => exact ⟨j + 1, ad2, c2', m ++ [o], by omega, by go_num, by rw [List.length_append]; rfl, NX, by rw [List.length_append]; exact how5, (hb.alloc hb.size _).trans hbl⟩
    case measure => simp [Go.RowKit.intOf]; omega
  have d1 : (3 + (j : Int) == o.kind) = false := by simpa using he
  have HE := Lib.hid he
  have c2 := cell_block (block_later hb P2.out)
  clear he
  go_wp2_with fail
  clear c2
  go_loopw [9, 11] (fun a i wx => ∃ (k : Nat) (ad3 : Option Addr) (c3 : Nat) (m3 : List Opn), k ≤ nfo ∧ i = .int .i64 k ∧ a = .slice ad3 m3.length c3 ∧ Hid (m ++ keepO (fun p => decide (p.kind = 3 + (j : Int))) fs k = m3) ∧ OwnOs W.heap.size w0 wx (.slice ad3 m3.length c3) m3 ∧ Below W.heap.size W wx) (fun _ i _ => nfo - cntV i)
  case atStart => exact ⟨0, ad', c', m, Nat.zero_le _, rfl, rfl, Lib.hid (List.append_nil m), OW.out, hb⟩
  case round =>
   clear hb hB2 hs2 OW
   obtain ⟨k, ad3, c3, m3, hk, rfl, rfl, EM3, how, hb⟩ := hrel
   have OW := Lib.hid how
   have hB2 := below_step hB hb
   have hs2 := hb.size
   have ML0 := ML
   have ML : Hid (m3.length ≤ 4003) := Lib.hid (by
    have h1 := keepO_len (fun p => decide (p.kind = 3 + (j : Int))) fs k
    rw [← EM3.out, List.length_append]
    have := ML0.out
    omega)
   have q1 := cell_block (block_later hb P1.out)
   clear how
   rcases Nat.lt_or_ge k nfo with hkt | hkge
   rotate_left
   · have hkn : k = nfo := by omega
     subst hkn
     have NX : Hid (newFl fs o (j + 1) = m3) := Lib.hid (by
      rw [newFl_succ, EM.out, ← EM3.out, keepO_all HN.out]
      unfold pickK
      rw [if_neg HE.out])
     go_wp2_with fail
     go_roundw
     case rel => exact ⟨j + 1, ad3, c3, m3, by omega, by go_num, rfl, NX, OW.out, hb⟩
     case measure => simp [Go.RowKit.intOf]; omega
   obtain ⟨g, o2, va, vs, rfl, rg, hpp⟩ := (HF.out.later hB2).row hkt
   obtain ⟨p, hp⟩ : ∃ p, fs.getD k noOpn = p := ⟨_, rfl⟩
   rw [hp] at rg hpp
   have PP := Lib.hid hpp
   obtain ⟨pa, pca, pb, pcb, rfl, rfl⟩ := hpp.form
   have RG := Lib.hid rg
   have c0 := rg 0 _ rfl
   rw [Nat.add_zero] at c0
   have HPK := Lib.hid hp
   clear rg hpp hp
   by_cases he : p.kind = 3 + (j : Int)
   · have d3 : (p.kind == 3 + (j : Int)) = true := by simpa using he
     have KY := Lib.hid (keepO_yes (B := fun p => decide (p.kind = 3 + (j : Int))) (l := fs) (k := k) (by rw [HN.out]; exact hkt) HPK.out (decide_eq_true he))
     clear he
     go_wp2_with (first | (refine wpList_load_mid rfl 34 _ rfl g (o2 + k * 16) rfl [.int .i64 p.kind, .int .i64 p.id, .int .i64 p.feat.id, .int .i64 p.feat.kind, .int .i64 p.feat.x, .int .i64 p.feat.y, .int .i64 p.feat.rad, .slice pa p.feat.area.length pca, .int .i64 p.feat.dep, .int .i64 p.feat.sym, .slice pb p.feat.secs.length pcb, .int .i64 p.x, .int .i64 p.y, .int .i64 p.rad, .int .i64 p.dep, .int .i64 p.sym] _ RG.out Tryz.underlying34 rfl (by kernel_rfl) ?_) | (refine wpList_appO rfl _ _ rfl W.heap.size w0 _ m3 [p] rfl (OW.out.keep ((Below.refl _ _).alloc (Nat.le_refl _) _)) _ _ _ rfl [(p, .slice pa p.feat.area.length pca, .slice pb p.feat.secs.length pcb)] rfl rfl (fun z hz => by obtain rfl := List.mem_singleton.1 hz; exact PP.out) (SrcAt.one (block_new _ _) rfl) (N := m3.length + 1) rfl (by have := ML.out; omega) (by simp only [World.size_alloc]; omega) ?_; intro ad2 c2' w5 how5 hgr hbl))
     go_roundw
     case rel => exact ⟨k + 1, ad2, c2', m3 ++ [p], by omega, by go_num, by rw [List.length_append]; rfl, Lib.hid (by rw [KY.out, ← List.append_assoc, EM3.out]), by rw [List.length_append]; exact how5, (hb.alloc hb.size _).trans hbl⟩
     case measure => simp [cntV]; omega
   · have d3 : (p.kind == 3 + (j : Int)) = false := by simpa using he
     have KN := Lib.hid (keepO_no (B := fun p => decide (p.kind = 3 + (j : Int))) (l := fs) (k := k) (by rw [HN.out]; exact hkt) HPK.out (decide_eq_false he))
     clear he
     go_wp2_with fail
     go_roundw
     case rel => exact ⟨k + 1, ad3, c3, m3, by omega, by go_num, rfl, Lib.hid (by rw [KN.out, EM3.out]), OW.out, hb⟩
     case measure => simp [cntV]; omega
end Go.Proofs.YtdmegkkifiahdaaGreat
namespace Go.Proofs.YtdmegkkifiahdaaGreat
open Go.RowKit
attribute [local go_sem] bqOp bqAll bqUpon sqOp sqAll sqUpon ssAll
attribute [local irreducible] wpQuiet wpBQ wpPlan wsPlan
set_option linter.unusedVariables false
theorem q17After_any (s : RSay) (o : Opn) (va vs vf ua us : Value) (base : Nat) (w0 w : World) (hbase : base ≤ w.heap.size) (hp : PartsAt w0 s.feat va vs) (hq : PartsAt w0 o.feat ua us) (hf : OIt base w0 w vf s.fields) (hl : s.fields.length ≤ 1000) (ho : OpForm o) {s' : RSay} {ok : Bool} (hv : afterR s o = (s', ok)) :
  Calls Tryz.prog 206 #[saysV s va vs vf, opV o ua us] w (AfterP base w0 w s' ok) := by
 obtain ⟨before, deleted, there, known, f, fs⟩ := s
 unfold afterR at hv
 by_cases k1 : o.kind = 1
 · rw [if_pos k1] at hv
   cases hv
   exact q17After_ins before deleted there known f fs o va vs vf ua us base w0 w hbase hp hq hf k1
 rw [if_neg k1] at hv
 cases there with
 | false =>
   rw [if_pos rfl] at hv
   cases hv
   exact q17After_off before deleted false known f fs o va vs vf ua us base w0 w hbase hp hq hf k1
 | true =>
   rw [if_neg (by simp)] at hv
   by_cases k2 : o.kind = 2
   · rw [if_pos k2] at hv
     cases hv
     exact q17After_del before deleted true known f fs o va vs vf ua us base w0 w hbase hp hq hf k1 k2
   rw [if_neg k2] at hv
   cases known with
   | true =>
     rw [if_pos rfl] at hv
     cases hv
     have k35 : 3 ≤ o.kind ∧ o.kind ≤ 5 := by cases ho <;> simp_all [insO, delO, movO, depO, symO]
     have hpg : PartsAt w0 (chgE f o).1 va vs := by
      unfold chgE
      cases hc : chgF f o with
      | none => exact hp
      | some g =>
        obtain ⟨i1, i2, i3, i4⟩ := chgF_id hc
        obtain ⟨a1, a2⟩ := hp
        exact ⟨by show PtsAt w0 va g.area; rw [i3]; exact a1, by show SecsAt w0 vs g.secs; rw [i4]; exact a2⟩
     exact q17After_known before deleted true true f fs o va vs vf ua us base w0 w hbase hp hq hf k1 k2 k35 rfl hpg
   | false =>
     rw [if_neg (by simp)] at hv
     cases hv
     exact q17After_fields before deleted true false f fs o va vs vf ua us base w0 w hbase hp hq hf k1 k2 hl
end Go.Proofs.YtdmegkkifiahdaaGreat
