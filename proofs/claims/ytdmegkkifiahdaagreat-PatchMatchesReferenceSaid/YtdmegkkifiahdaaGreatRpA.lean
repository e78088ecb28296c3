import Derived.Test.YtdmegkkifiahdaaGreatPB
import Derived.Test.YtdmegkkifiahdaaGreatPatApp
import Derived.Test.YtdmegkkifiahdaaGreatPatComm
namespace Go.Proofs.YtdmegkkifiahdaaGreat
set_option linter.unusedVariables false
def putR (f : Feat) (l : List Feat) : List Feat := l.filter (fun g => decide (g.id < f.id)) ++ [f] ++ l.filter (fun g => decide (f.id < g.id))
theorem putR_eq {f : Feat} : ∀ {l : List Feat}, idsUp l → putR f l = putF f l
 | [], _ => rfl
 | g :: l, h => by
   obtain ⟨h1, h2⟩ := List.pairwise_cons.1 h
   have ih := putR_eq (f := f) h2
   unfold putF
   by_cases c1 : f.id < g.id
   · rw [if_pos c1]
     have e1 : (g :: l).filter (fun g => decide (g.id < f.id)) = [] := List.filter_eq_nil_iff.2 fun x hx => by
      rcases List.mem_cons.1 hx with rfl | hx
      · simp; omega
      · have := h1 x hx
        simp
        omega
     have e2 : (g :: l).filter (fun g => decide (f.id < g.id)) = g :: l := List.filter_eq_self.2 fun x hx => by
      rcases List.mem_cons.1 hx with rfl | hx
      · simpa using c1
      · have := h1 x hx
        simp
        omega
     unfold putR
     rw [e1, e2]
     rfl
   · rw [if_neg c1]
     by_cases c2 : f.id = g.id
     · rw [if_pos c2]
       have e1 : (g :: l).filter (fun g => decide (g.id < f.id)) = [] := List.filter_eq_nil_iff.2 fun x hx => by
        rcases List.mem_cons.1 hx with rfl | hx
        · simp; omega
        · have := h1 x hx
          simp
          omega
       have e2 : (g :: l).filter (fun g => decide (f.id < g.id)) = l := by
        rw [List.filter_cons_of_neg (by simp; omega)]
        exact List.filter_eq_self.2 fun x hx => by
         have := h1 x hx
         simp
         omega
       unfold putR
       rw [e1, e2]
       rfl
     · rw [if_neg c2, ← ih]
       unfold putR
       rw [List.filter_cons_of_pos (by simp; omega), List.filter_cons_of_neg (l := l) (by simp; omega)]
       rfl
theorem putR_del {f : Feat} (l : List Feat) : putR f (delF f.id l) = putR f l := by
 unfold putR delF
 rw [List.filter_filter, List.filter_filter]
 congr 1
 · congr 1
   exact List.filter_congr fun x _ => by
    rw [Bool.eq_iff_iff]
    simp
    omega
 · exact List.filter_congr fun x _ => by
    rw [Bool.eq_iff_iff]
    simp
    omega
def IdxR (l : List Feat) (id r : Int) : Prop := (r = -1 ∧ look l id = none) ∨ ∃ k : Nat, k < l.length ∧ r = k ∧ look l id = some (l.getD k noFeat)
theorem look_first {id : Int} : ∀ {l : List Feat} {k : Nat}, k < l.length → (∀ i, i < k → (l.getD i noFeat).id ≠ id) → (l.getD k noFeat).id = id → look l id = some (l.getD k noFeat)
 | [], k, h, _, _ => absurd h (Nat.not_lt_zero k)
 | g :: l, 0, _, _, h => by
   have h' : g.id = id := h
   rw [look_cons, if_pos h']
   rfl
 | g :: l, k + 1, h, hb, he => by
   have h0 : g.id ≠ id := hb 0 (by omega)
   rw [look_cons, if_neg h0]
   exact look_first (l := l) (k := k) (by simpa using h) (fun i hi => hb (i + 1) (by omega)) he
theorem look_end {id : Int} {l : List Feat} (h : ∀ i, i < l.length → (l.getD i noFeat).id ≠ id) : look l id = none :=
 look_off fun f hf => by
  obtain ⟨i, hi, rfl⟩ := mem_getD noFeat hf
  exact h i hi
def chgE (f : Feat) (o : Opn) : Feat × Int := match chgF f o with | some g => (g, 0) | none => (f, 12)
def doE (l : List Feat) (o : Opn) : List Feat × Int := match doO l o with | .ok (l', _) => (l', 0) | .error e => ([], e)
def backE (l : List Feat) (o : Opn) : Opn :=
 if o.kind = 1 then delO o.id
 else match look l o.id with
  | none => noOpn
  | some f => if o.kind = 2 then ⟨1, o.id, f, 0, 0, 0, 0, 0⟩ else if o.kind = 3 then movO o.id f.x f.y f.rad else if o.kind = 4 then depO o.id f.dep else symO o.id f.sym
theorem backE_eq {l l' : List Feat} {o b : Opn} (ho : OpForm o) (h : doO l o = .ok (l', b)) : backE l o = b := by
 unfold doO at h
 unfold backE
 by_cases k1 : o.kind = 1
 · rw [if_pos k1] at h ⊢
   split at h
   · cases h
   · split at h
     · cases h
     · cases h; rfl
 · rw [if_neg k1] at h ⊢
   split at h
   · cases h
   · next f hf =>
     rw [hf]
     have hid : f.id = o.id := by
      have := List.find?_some hf
      simpa using this
     simp only
     by_cases k2 : o.kind = 2
     · rw [if_pos k2] at h ⊢
       cases h
       rw [← hid]
       rfl
     · rw [if_neg k2] at h ⊢
       split at h
       · cases h
       · cases h
         unfold bakF
         by_cases k3 : o.kind = 3
         · rw [if_pos k3, if_pos k3]; rfl
         · rw [if_neg k3, if_neg k3]
           by_cases k4 : o.kind = 4
           · rw [if_pos k4, if_pos k4]; rfl
           · rw [if_neg k4, if_neg k4]
             have k5 : o.kind = 5 := by
              cases ho <;> simp_all [insO, delO, movO, depO, symO]
             rw [k5]
             rfl
end Go.Proofs.YtdmegkkifiahdaaGreat
