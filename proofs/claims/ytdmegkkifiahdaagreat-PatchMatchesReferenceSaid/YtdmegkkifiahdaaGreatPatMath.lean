import Derived.Test.YtdmegkkifiahdaaGreatPatPure
namespace Go.Proofs.YtdmegkkifiahdaaGreat
theorem put_put {f g : Feat} {l : List Feat} (h : idsUp l) (e : f.id = g.id) : putF f (putF g l) = putF f l := by
 refine ups_look (ups_put (ups_put h)) (ups_put h) fun id => ?_
 rw [look_put (ups_put h), look_put h, look_put h, e]
 split <;> rfl
theorem put_same {f : Feat} {l : List Feat} (h : idsUp l) (e : look l f.id = some f) : putF f l = l := by
 refine ups_look (ups_put h) h fun id => ?_
 rw [look_put h]
 split
 · next h1 => rw [← h1, e]
 · rfl
theorem del_put {f : Feat} {l : List Feat} (h : idsUp l) (e : look l f.id = none) : delF f.id (putF f l) = l := by
 refine ups_look (ups_del (ups_put h) _) h fun id => ?_
 rw [look_del, look_put h]
 split
 · next h1 => rw [← h1, e]
 · rfl
theorem put_del {f : Feat} {l : List Feat} (h : idsUp l) (e : look l f.id = some f) : putF f (delF f.id l) = l := by
 refine ups_look (ups_put (ups_del h _)) h fun id => ?_
 rw [look_put (ups_del h _), look_del]
 split
 · next h1 => rw [← h1, e]
 · rfl
theorem featsOk_put {f : Feat} {l : List Feat} (hl : FeatsOk l) (hf : FeatOk f) (hn : look l f.id ≠ none ∨ l.length < 300) : FeatsOk (putF f l) := by
 obtain ⟨h1, h2, h3⟩ := featsOk_iff.1 hl
 refine featsOk_iff.2 ⟨?_, ups_put h2, fun x hx => ?_⟩
 · rw [len_put h2]
   split
   · next h =>
     rcases hn with hn | hn
     · exact absurd h hn
     · omega
   · exact h1
 · rcases mem_put hx with rfl | hx
   · exact hf
   · exact h3 x hx
theorem featsOk_del {l : List Feat} (hl : FeatsOk l) (id : Int) : FeatsOk (delF id l) := by
 obtain ⟨h1, h2, h3⟩ := featsOk_iff.1 hl
 refine featsOk_iff.2 ⟨?_, ups_del h2 id, fun x hx => h3 x (mem_del.1 hx).1⟩
 rw [len_del h2]
 split <;> omega
theorem look_ok {l : List Feat} (hl : FeatsOk l) {id : Int} {f : Feat} (h : look l id = some f) : FeatOk f ∧ f.id = id := ⟨(featsOk_iff.1 hl).2.2 f (look_some h).1, (look_some h).2⟩
theorem kd1 (f : Feat) : (insO f).kind = 1 := rfl
theorem kd2 (id : Int) : (delO id).kind = 2 := rfl
theorem kd3 (id x y r : Int) : (movO id x y r).kind = 3 := rfl
theorem kd4 (id d : Int) : (depO id d).kind = 4 := rfl
theorem kd5 (id n : Int) : (symO id n).kind = 5 := rfl
theorem do_insE (l : List Feat) (f : Feat) : doO l (insO f) = match look l f.id with
  | some _ => .error 5
  | none => if 300 ≤ l.length then .error 2 else .ok (putF f l, delO f.id) := by
 unfold doO
 rw [if_pos (kd1 f)]
 rfl
theorem do_delE (l : List Feat) (id : Int) : doO l (delO id) = match look l id with
  | none => .error 4
  | some f => .ok (delF id l, insO f) := by
 unfold doO
 rw [if_neg (by rw [kd2]; decide)]
 show (match look l id with | none => _ | some f => _) = _
 cases look l id with
 | none => rfl
 | some f => exact if_pos (kd2 id)
theorem do_ins {l l' : List Feat} {f : Feat} {b : Opn} (h : doO l (insO f) = .ok (l', b)) : look l f.id = none ∧ l.length < 300 ∧ l' = putF f l ∧ b = delO f.id := by
 rw [do_insE] at h
 split at h
 · cases h
 · next hn =>
   split at h
   · cases h
   · cases h
     exact ⟨hn, by omega, rfl, rfl⟩
theorem do_del {l l' : List Feat} {id : Int} {b : Opn} (h : doO l (delO id) = .ok (l', b)) : ∃ f, look l id = some f ∧ l' = delF id l ∧ b = insO f := by
 rw [do_delE] at h
 split at h
 · cases h
 · next f hf =>
   cases h
   exact ⟨f, hf, rfl, rfl⟩
theorem do_chg {l l' : List Feat} {o b : Opn} (h1 : o.kind ≠ 1) (h2 : o.kind ≠ 2) (h : doO l o = .ok (l', b)) : ∃ f g, look l o.id = some f ∧ chgF f o = some g ∧ l' = putF g l ∧ b = bakF f o := by
 unfold doO at h
 rw [if_neg h1] at h
 split at h
 · cases h
 · next f hf =>
   rw [if_neg h2] at h
   split at h
   · cases h
   · next g hg =>
     cases h
     exact ⟨f, g, hf, hg, rfl, rfl⟩
theorem bak_ok {f g : Feat} {o : Opn} (hf : FeatOk f) (ho : OpForm o) (h1 : o.kind ≠ 1) (h2 : o.kind ≠ 2) (h : chgF f o = some g) : OpForm (bakF f o) ∧ chgF g (bakF f o) = some f ∧ (bakF f o).kind = o.kind ∧ (bakF f o).id = o.id := by
 cases ho with
 | ins f h => exact absurd rfl h1
 | del id h => exact absurd rfl h2
 | mov id x y rad hi hr hv hro =>
   clear h1 h2
   rw [chg_mov] at h
   split at h
   · cases h
   · next hk =>
     cases h
     have e : bakF f (movO id x y rad) = movO id f.x f.y f.rad := rfl
     rw [e]
     have hfr := hf.2
     unfold FormR at hfr
     have hrad : f.kind = 4 → f.rad = 0 := fun e => by
      rw [if_neg (by unfold DiscK; omega), if_neg (by omega)] at hfr
      exact hfr.2.2.2.1
     have hvld : Vld f.x f.y ∧ RoomOk f.x f.y f.rad := by
      by_cases hd : DiscK f.kind
      · rw [if_pos hd] at hfr
        exact ⟨hfr.1, hfr.2.1⟩
      · rw [if_neg hd, if_neg (by omega)] at hfr
        refine ⟨hfr.2.1, ?_⟩
        rw [hfr.2.2.2.1]
        unfold RoomOk
        rw [Int.sub_zero, Int.sub_zero, Int.add_zero, Int.add_zero]
        exact ⟨hfr.2.1, hfr.2.1⟩
     refine ⟨.mov id f.x f.y f.rad hi hf.1.2.2.2 hvld.1 hvld.2, ?_, rfl, rfl⟩
     rw [chg_mov, if_neg (by simp only; omega)]
 | dep id d hi hd =>
   clear h1 h2
   rw [chg_dep] at h
   split at h
   · cases h
   · next hk =>
     cases h
     have e : bakF f (depO id d) = depO id f.dep := rfl
     rw [e]
     refine ⟨.dep id f.dep hi hf.1.2.2.1, ?_, rfl, rfl⟩
     rw [chg_dep, if_neg (by simp only; omega)]
 | sym id n hi hs =>
   rw [chg_sym] at h
   cases h
   exact ⟨.sym id f.sym hi hf.1.2.1, by rw [show bakF f (symO id n) = symO id f.sym from rfl, chg_sym], rfl, rfl⟩
theorem do_back {l l' : List Feat} {o b : Opn} (hl : FeatsOk l) (ho : OpForm o) (h : doO l o = .ok (l', b)) : FeatsOk l' ∧ OpForm b ∧ ∃ b', doO l' b = .ok (l, b') := by
 have hl' := featsOk_iff.1 hl
 by_cases k1 : o.kind = 1
 · cases ho with
   | ins f hf =>
     obtain ⟨hn, hlen, rfl, rfl⟩ := do_ins h
     refine ⟨featsOk_put hl hf (.inr hlen), .del f.id (featOk_id hf), insO f, ?_⟩
     rw [do_delE, look_put hl'.2.1, if_pos rfl]
     simp only
     rw [del_put hl'.2.1 hn]
   | del id hi => exact absurd k1 (by rw [kd2]; decide)
   | mov id x y rad hi hr hv hro => exact absurd k1 (by simp [movO])
   | dep id d hi hd => exact absurd k1 (by simp [depO])
   | sym id n hi hs => exact absurd k1 (by simp [symO])
 by_cases k2 : o.kind = 2
 · cases ho with
   | ins f hf => exact absurd rfl k1
   | del id hi =>
     obtain ⟨f, hf, rfl, rfl⟩ := do_del h
     obtain ⟨hfo, rfl⟩ := look_ok hl hf
     refine ⟨featsOk_del hl _, .ins f hfo, delO f.id, ?_⟩
     have hpos := List.length_pos_of_mem (look_some hf).1
     have h300 := hl'.1
     rw [do_insE, look_del, if_pos rfl]
     simp only
     rw [len_del hl'.2.1, hf, if_neg (show ¬ (some f = none) by simp), if_neg (by omega), put_del hl'.2.1 hf]
   | mov id x y rad hi hr hv hro => exact absurd k2 (by simp [movO])
   | dep id d hi hd => exact absurd k2 (by simp [depO])
   | sym id n hi hs => exact absurd k2 (by simp [symO])
 obtain ⟨f, g, hf, hg, rfl, rfl⟩ := do_chg k1 k2 h
 obtain ⟨hfo, hid⟩ := look_ok hl hf
 have hgi := (chgF_id hg).1
 obtain ⟨b1, b2, b3, b4⟩ := bak_ok hfo ho k1 k2 hg
 have hlg : look l g.id = some f := by rw [hgi, hid]; exact hf
 refine ⟨featsOk_put hl (chgF_ok hfo ho k1 k2 hg) (.inl (by rw [hlg]; simp)), b1, bakF g (bakF f o), ?_⟩
 unfold doO
 rw [b3, if_neg k1, b4, look_put hl'.2.1, if_pos (by rw [hgi, hid])]
 simp only
 rw [if_neg k2, b2]
 simp only
 rw [put_put hl'.2.1 hgi.symm, put_same hl'.2.1 (by rw [hid]; exact hf)]
theorem run_append : ∀ (a : List Opn) (l : List Feat) (b : List Opn), runO l (a ++ b) = match runO l a with
  | .error e => .error e
  | .ok (l', bs) => match runO l' b with
    | .error (i, e) => .error (a.length + i, e)
    | .ok (l'', cs) => .ok (l'', bs ++ cs)
 | [], l, b => by
   simp only [List.nil_append, runO]
   cases runO l b with
   | error x => simp
   | ok x => simp
 | o :: a, l, b => by
   simp only [List.cons_append, runO]
   cases doO l o with
   | error e => rfl
   | ok x =>
     obtain ⟨l1, b1⟩ := x
     simp only
     rw [run_append a l1 b]
     cases runO l1 a with
     | error e => rfl
     | ok y =>
       obtain ⟨l2, bs⟩ := y
       simp only
       cases runO l2 b with
       | error z =>
         obtain ⟨i, e⟩ := z
         simp only [List.length_cons]
         rw [show a.length + 1 + i = a.length + i + 1 by omega]
       | ok z => rfl
end Go.Proofs.YtdmegkkifiahdaaGreat
