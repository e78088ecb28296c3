import Derived.Test.YtdmegkkifiahdaaGreatShtMath
namespace Go.Proofs.YtdmegkkifiahdaaGreat
structure Opn where
 (kind id : Int)
 feat : Feat
 (x y rad dep sym : Int)
instance : DecidableEq Opn := fun a b => decidable_of_iff (a.kind = b.kind ∧ a.id = b.id ∧ a.feat = b.feat ∧ a.x = b.x ∧ a.y = b.y ∧ a.rad = b.rad ∧ a.dep = b.dep ∧ a.sym = b.sym) (by cases a; cases b; simp)
def noOpn : Opn := ⟨0, 0, noFeat, 0, 0, 0, 0, 0⟩
def bareO (o : Opn) : Opn := if o.kind = 1 then { o with feat := noFeat } else if o.kind = 3 then { o with x := 0, y := 0, rad := 0 } else if o.kind = 4 then { o with dep := 0 } else if o.kind = 5 then { o with sym := 0 } else o
def IdOk (id : Int) : Prop := 1 ≤ id ∧ id ≤ 100000
instance (id : Int) : Decidable (IdOk id) := by unfold IdOk; exact inferInstance
def BodyOk (o : Opn) : Prop :=
 if o.kind = 1 then o.feat.id = o.id ∧ FeatOk o.feat
 else if o.kind = 2 then True
 else if o.kind = 3 then (0 ≤ o.rad ∧ o.rad ≤ 100000) ∧ Vld o.x o.y ∧ RoomOk o.x o.y o.rad
 else if o.kind = 4 then 0 ≤ o.dep ∧ o.dep ≤ 100000
 else if o.kind = 5 then 0 ≤ o.sym ∧ o.sym ≤ 999
 else False
instance (o : Opn) : Decidable (BodyOk o) := by unfold BodyOk; exact inferInstance
def OpOk (o : Opn) : Prop := IdOk o.id ∧ bareO o = { noOpn with kind := o.kind, id := o.id } ∧ BodyOk o
instance (o : Opn) : Decidable (OpOk o) := by unfold OpOk; exact inferInstance
def insO (f : Feat) : Opn := ⟨1, f.id, f, 0, 0, 0, 0, 0⟩
def delO (id : Int) : Opn := ⟨2, id, noFeat, 0, 0, 0, 0, 0⟩
def movO (id x y rad : Int) : Opn := ⟨3, id, noFeat, x, y, rad, 0, 0⟩
def depO (id d : Int) : Opn := ⟨4, id, noFeat, 0, 0, 0, d, 0⟩
def symO (id n : Int) : Opn := ⟨5, id, noFeat, 0, 0, 0, 0, n⟩
inductive OpForm : Opn → Prop
 | ins (f : Feat) (h : FeatOk f) : OpForm (insO f)
 | del (id : Int) (h : IdOk id) : OpForm (delO id)
 | mov (id x y rad : Int) (h : IdOk id) (hr : 0 ≤ rad ∧ rad ≤ 100000) (hv : Vld x y) (ho : RoomOk x y rad) : OpForm (movO id x y rad)
 | dep (id d : Int) (h : IdOk id) (hd : 0 ≤ d ∧ d ≤ 100000) : OpForm (depO id d)
 | sym (id n : Int) (h : IdOk id) (hn : 0 ≤ n ∧ n ≤ 999) : OpForm (symO id n)
theorem opForm {o : Opn} (h : OpOk o) : OpForm o := by
 obtain ⟨kind, id, feat, x, y, rad, dep, sym⟩ := o
 obtain ⟨h1, h2, h3⟩ := h
 unfold bareO at h2
 unfold BodyOk at h3
 simp only [noOpn] at h1 h2 h3
 by_cases k1 : kind = 1
 · subst k1
   simp at h2 h3
   obtain ⟨rfl, rfl, rfl, rfl, rfl⟩ := h2
   obtain ⟨rfl, hf⟩ := h3
   exact .ins feat hf
 by_cases k2 : kind = 2
 · subst k2
   simp at h2
   obtain ⟨rfl, rfl, rfl, rfl, rfl, rfl⟩ := h2
   exact .del id h1
 by_cases k3 : kind = 3
 · subst k3
   simp at h2 h3
   obtain ⟨rfl, rfl, rfl⟩ := h2
   exact .mov id x y rad h1 h3.1 h3.2.1 h3.2.2
 by_cases k4 : kind = 4
 · subst k4
   simp at h2 h3
   obtain ⟨rfl, rfl, rfl, rfl, rfl⟩ := h2
   exact .dep id dep h1 h3
 by_cases k5 : kind = 5
 · subst k5
   simp at h2 h3
   obtain ⟨rfl, rfl, rfl, rfl, rfl⟩ := h2
   exact .sym id sym h1 h3
 simp [k1, k2, k3, k4, k5] at h3
theorem featOk_id {f : Feat} (h : FeatOk f) : IdOk f.id := h.1.1
theorem opOk_form {o : Opn} (h : OpForm o) : OpOk o := by
 cases h with
 | ins f h => exact ⟨featOk_id h, rfl, ⟨rfl, h⟩⟩
 | del id h => exact ⟨h, rfl, trivial⟩
 | mov id x y rad h hr hv ho => exact ⟨h, rfl, ⟨hr, hv, ho⟩⟩
 | dep id d h hd => exact ⟨h, rfl, hd⟩
 | sym id n h hn => exact ⟨h, rfl, hn⟩
def putF (f : Feat) : List Feat → List Feat
 | [] => [f]
 | g :: l => if f.id < g.id then f :: g :: l else if f.id = g.id then f :: l else g :: putF f l
def delF (id : Int) (l : List Feat) : List Feat := l.filter fun f => decide (f.id ≠ id)
theorem look_cons (g : Feat) (l : List Feat) (id : Int) : look (g :: l) id = if g.id = id then some g else look l id := by
 unfold look
 rw [List.find?_cons]
 by_cases h : g.id = id <;> simp [h]
theorem look_off {l : List Feat} {id : Int} (h : ∀ f ∈ l, f.id ≠ id) : look l id = none := by
 unfold look
 rw [List.find?_eq_none]
 intro f hf
 simpa using h f hf
theorem mem_put {f x : Feat} : ∀ {l : List Feat}, x ∈ putF f l → x = f ∨ x ∈ l
 | [], h => by simpa [putF] using h
 | g :: l, h => by
   unfold putF at h
   split at h
   · simpa using h
   · split at h
     · rcases List.mem_cons.1 h with h | h
       · exact .inl h
       · exact .inr (List.mem_cons_of_mem _ h)
     · rcases List.mem_cons.1 h with h | h
       · exact .inr (by rw [h]; simp)
       · rcases mem_put h with h | h
         · exact .inl h
         · exact .inr (List.mem_cons_of_mem _ h)
theorem put_mem (f : Feat) : ∀ l : List Feat, f ∈ putF f l
 | [] => by simp [putF]
 | g :: l => by
   unfold putF
   split
   · simp
   · split
     · simp
     · simp [put_mem f l]
theorem ups_put {f : Feat} : ∀ {l : List Feat}, idsUp l → idsUp (putF f l)
 | [], _ => List.pairwise_singleton _ _
 | g :: l, h => by
   have hg := List.pairwise_cons.1 h
   unfold putF
   split
   · next h1 => exact List.pairwise_cons.2 ⟨fun x hx => by
      rcases List.mem_cons.1 hx with rfl | hx
      · exact h1
      · exact Int.lt_trans h1 (hg.1 x hx), h⟩
   · split
     · next h1 h2 => exact List.pairwise_cons.2 ⟨fun x hx => by rw [h2]; exact hg.1 x hx, hg.2⟩
     · next h1 h2 => exact List.pairwise_cons.2 ⟨fun x hx => by
        rcases mem_put hx with rfl | hx
        · omega
        · exact hg.1 x hx, ups_put hg.2⟩
theorem look_put {f : Feat} : ∀ {l : List Feat}, idsUp l → ∀ id, look (putF f l) id = if f.id = id then some f else look l id
 | [], _, id => by rw [show putF f [] = [f] from rfl, look_cons]
 | g :: l, h, id => by
   have hg := List.pairwise_cons.1 h
   unfold putF
   split
   · next h1 => rw [look_cons]
   · split
     · next h1 h2 =>
       rw [look_cons, look_cons]
       by_cases e : f.id = id
       · rw [if_pos e, if_pos e]
       · rw [if_neg e, if_neg e, if_neg (by omega)]
     · next h1 h2 =>
       rw [look_cons, look_cons, look_put hg.2]
       by_cases e : g.id = id
       · rw [if_pos e, if_neg (by omega), if_pos e]
       · rw [if_neg e, if_neg e]
theorem len_put {f : Feat} : ∀ {l : List Feat}, idsUp l → (putF f l).length = if look l f.id = none then l.length + 1 else l.length
 | [], _ => rfl
 | g :: l, h => by
   have hg := List.pairwise_cons.1 h
   unfold putF
   split
   · next h1 =>
     rw [look_off (fun x hx => by
      rcases List.mem_cons.1 hx with rfl | hx
      · omega
      · have := hg.1 x hx; omega)]
     rfl
   · split
     · next h1 h2 => rw [look_cons, if_pos h2.symm]; simp
     · next h1 h2 =>
       have e0 : look (g :: l) f.id = look l f.id := by rw [look_cons, if_neg (fun e => h2 e.symm)]
       rw [e0, List.length_cons, List.length_cons, len_put hg.2]
       split <;> rfl
theorem ups_del {l : List Feat} (h : idsUp l) (id : Int) : idsUp (delF id l) := h.filter _
theorem look_del (l : List Feat) (id k : Int) : look (delF id l) k = if id = k then none else look l k := by
 induction l with
 | nil => simp [delF, look]
 | cons g l ih =>
   unfold delF at ih ⊢
   rw [List.filter_cons]
   by_cases e : g.id = id
   · rw [if_neg (by simpa using e), ih, look_cons]
     by_cases e2 : id = k
     · rw [if_pos e2, if_pos e2]
     · rw [if_neg e2, if_neg e2, if_neg (by omega)]
   · rw [if_pos (by simpa using e), look_cons, ih, look_cons]
     by_cases e2 : id = k
     · rw [if_pos e2, if_neg (by omega)]
       rw [if_pos e2]
     · rw [if_neg e2, if_neg e2]
theorem len_del {l : List Feat} (h : idsUp l) (id : Int) : (delF id l).length = if look l id = none then l.length else l.length - 1 := by
 induction l with
 | nil => rfl
 | cons g l ih =>
   have hg := List.pairwise_cons.1 h
   have ih := ih hg.2
   unfold delF at ih ⊢
   rw [List.filter_cons, look_cons]
   by_cases e : g.id = id
   · rw [if_neg (by simpa using e), if_pos e, ih, look_off (fun x hx => by have := hg.1 x hx; omega)]
     simp
   · rw [if_pos (by simpa using e), if_neg e, List.length_cons, ih]
     split
     · rfl
     · next hn =>
       cases hl : look l id with
       | none => exact absurd hl hn
       | some f =>
         have := (look_some hl).1
         have := List.length_pos_of_mem this
         simp only [List.length_cons]
         omega
theorem mem_del {l : List Feat} {id : Int} {x : Feat} : x ∈ delF id l ↔ x ∈ l ∧ x.id ≠ id := by
 unfold delF
 rw [List.mem_filter]
 simp
theorem featsOk_iff {l : List Feat} : FeatsOk l ↔ l.length ≤ 300 ∧ idsUp l ∧ ∀ f ∈ l, FeatOk f := by
 constructor
 · intro h
   exact ⟨h.1, idsUp_of h, fun f hf => featsOk_mem h f hf⟩
 · intro h
   refine ⟨h.1, fun i hi => ⟨h.2.2 _ (getD_mem hi), ?_⟩⟩
   cases i with
   | zero =>
     have := (featOk_id (h.2.2 (l.getD 0 noFeat) (getD_mem hi))).1
     show (0 : Int) < _
     omega
   | succ i =>
     show (l.getD i noFeat).id < _
     rw [List.getD_eq_getElem?_getD, List.getD_eq_getElem?_getD, List.getElem?_eq_getElem hi, List.getElem?_eq_getElem (by omega : i < l.length)]
     exact List.pairwise_iff_getElem.1 h.2.1 i (i + 1) (by omega) hi (by omega)
def chgF (f : Feat) (o : Opn) : Option Feat :=
 if o.kind = 3 ∧ ((f.kind = 3 ∨ f.kind = 6) ∨ f.kind = 4 ∧ o.rad ≠ 0) ∨ o.kind = 4 ∧ (f.kind = 4 ∨ f.kind = 6) then none
 else if o.kind = 3 then some { f with x := o.x, y := o.y, rad := o.rad }
 else if o.kind = 4 then some { f with dep := o.dep }
 else some { f with sym := o.sym }
def bakF (f : Feat) (o : Opn) : Opn :=
 if o.kind = 3 then ⟨3, o.id, noFeat, f.x, f.y, f.rad, 0, 0⟩
 else if o.kind = 4 then ⟨4, o.id, noFeat, 0, 0, 0, f.dep, 0⟩
 else ⟨o.kind, o.id, noFeat, 0, 0, 0, 0, f.sym⟩
def doO (l : List Feat) (o : Opn) : Except Int (List Feat × Opn) :=
 if o.kind = 1 then
  match look l o.id with
  | some _ => .error 5
  | none => if 300 ≤ l.length then .error 2 else .ok (putF o.feat l, delO o.id)
 else
  match look l o.id with
  | none => .error 4
  | some f =>
    if o.kind = 2 then .ok (delF o.id l, insO f)
    else match chgF f o with
     | none => .error 12
     | some g => .ok (putF g l, bakF f o)
def runO : List Feat → List Opn → Except (Nat × Int) (List Feat × List Opn)
 | l, [] => .ok (l, [])
 | l, o :: ops =>
   match doO l o with
   | .error e => .error (0, e)
   | .ok (l', b) =>
     match runO l' ops with
     | .error (i, e) => .error (i + 1, e)
     | .ok (l'', bs) => .ok (l'', b :: bs)
theorem chgF_id {f g : Feat} {o : Opn} (h : chgF f o = some g) : g.id = f.id ∧ g.kind = f.kind ∧ g.area = f.area ∧ g.secs = f.secs := by
 unfold chgF at h
 split at h
 · cases h
 · split at h
   · cases h; exact ⟨rfl, rfl, rfl, rfl⟩
   · split at h <;> · cases h; exact ⟨rfl, rfl, rfl, rfl⟩
theorem chg_mov (f : Feat) (id x y r : Int) : chgF f (movO id x y r) = if (f.kind = 3 ∨ f.kind = 6) ∨ f.kind = 4 ∧ r ≠ 0 then none else some { f with x := x, y := y, rad := r } := by
 simp [chgF, movO]
theorem chg_dep (f : Feat) (id d : Int) : chgF f (depO id d) = if f.kind = 4 ∨ f.kind = 6 then none else some { f with dep := d } := by
 simp [chgF, depO]
theorem chg_sym (f : Feat) (id n : Int) : chgF f (symO id n) = some { f with sym := n } := by
 simp [chgF, symO]
theorem chgF_ok {f g : Feat} {o : Opn} (hf : FeatOk f) (ho : OpForm o) (h1 : o.kind ≠ 1) (h2 : o.kind ≠ 2) (h : chgF f o = some g) : FeatOk g := by
 obtain ⟨hn, hm⟩ := hf
 cases ho with
 | ins f h => exact absurd rfl h1
 | del id h => exact absurd rfl h2
 | mov id x y rad hi hr hv hro =>
   clear h1 h2
   rw [chg_mov] at h
   split at h
   · cases h
   · next hk =>
     cases h
     refine ⟨⟨hn.1, hn.2.1, hn.2.2.1, hr⟩, ?_⟩
     unfold FormR at hm ⊢
     simp only at hm ⊢
     by_cases hd : DiscK f.kind
     · rw [if_pos hd] at hm ⊢
       exact ⟨hv, hro, hm.2.2⟩
     · rw [if_neg hd] at hm ⊢
       by_cases hp : f.kind = 3 ∨ f.kind = 6 ∧ f.dep ≤ 0
       · exfalso
         omega
       · rw [if_neg hp] at hm ⊢
         refine ⟨hm.1, hv, hm.2.2.1, ?_, hm.2.2.2.2⟩
         have := hm.1
         omega
 | dep id d hi hd =>
   clear h1 h2
   rw [chg_dep] at h
   split at h
   · cases h
   · next hk =>
     cases h
     refine ⟨⟨hn.1, hn.2.1, hd, hn.2.2.2⟩, ?_⟩
     unfold FormR at hm ⊢
     simp only at hm ⊢
     by_cases hd : DiscK f.kind
     · rw [if_pos hd] at hm ⊢
       exact hm
     · rw [if_neg hd] at hm ⊢
       by_cases hp : f.kind = 3 ∨ f.kind = 6 ∧ f.dep ≤ 0
       · rw [if_pos hp] at hm
         rw [if_pos (by omega)]
         exact hm
       · rw [if_neg hp] at hm
         have := hm.1
         exfalso
         omega
 | sym id n hi hs =>
   rw [chg_sym] at h
   cases h
   exact ⟨⟨hn.1, hs, hn.2.2.1, hn.2.2.2⟩, hm⟩
end Go.Proofs.YtdmegkkifiahdaaGreat
