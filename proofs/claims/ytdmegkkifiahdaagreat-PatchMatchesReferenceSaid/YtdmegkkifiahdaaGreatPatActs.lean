import Derived.Test.YtdmegkkifiahdaaGreatPatMath
namespace Go.Proofs.YtdmegkkifiahdaaGreat
def act (o : Opn) (m : Option Feat) : Except Int (Option Feat) :=
 if o.kind = 1 then
  match m with
  | some _ => .error 5
  | none => .ok (some o.feat)
 else
  match m with
  | none => .error 4
  | some f =>
    if o.kind = 2 then .ok none
    else match chgF f o with
     | none => .error 12
     | some g => .ok (some g)
def acts : List Opn → Option Feat → Except Int (Option Feat)
 | [], m => .ok m
 | o :: ops, m =>
   match act o m with
   | .error e => .error e
   | .ok m' => acts ops m'
theorem acts_append : ∀ (a b : List Opn) (m : Option Feat), acts (a ++ b) m = match acts a m with
  | .error e => .error e
  | .ok m' => acts b m'
 | [], b, m => rfl
 | o :: a, b, m => by
   simp only [List.cons_append, acts]
   cases act o m with
   | error e => rfl
   | ok m' => exact acts_append a b m'
theorem ins_id {o : Opn} (h : OpForm o) (k : o.kind = 1) : o.feat.id = o.id := by
 cases h with
 | ins f h => rfl
 | del id h => exact absurd k (by rw [kd2]; decide)
 | mov id x y rad h hr hv ho => exact absurd k (by rw [kd3]; decide)
 | dep id d h hd => exact absurd k (by rw [kd4]; decide)
 | sym id n h hn => exact absurd k (by rw [kd5]; decide)
theorem do_act {l l' : List Feat} {o b : Opn} (hl : FeatsOk l) (ho : OpForm o) (h : doO l o = .ok (l', b)) : act o (look l o.id) = .ok (look l' o.id) ∧ (∀ id, id ≠ o.id → look l' id = look l id) ∧ l'.length ≤ l.length + 1 := by
 have hu := (featsOk_iff.1 hl).2.1
 unfold doO at h
 unfold act
 split at h
 · next k1 =>
   rw [if_pos k1]
   split at h
   · cases h
   · next hn =>
     split at h
     · cases h
     · cases h
       have hi := ins_id ho k1
       refine ⟨?_, fun id hid => ?_, ?_⟩
       · rw [hn, look_put hu, if_pos hi]
       · rw [look_put hu, if_neg (by rw [hi]; exact fun e => hid e.symm)]
       · rw [len_put hu]
         split <;> omega
 · next k1 =>
   rw [if_neg k1]
   split at h
   · cases h
   · next f hf =>
     rw [hf]
     simp only
     split at h
     · next k2 =>
       cases h
       rw [if_pos k2]
       refine ⟨by rw [look_del, if_pos rfl], fun id hid => by rw [look_del, if_neg (fun e => hid e.symm)], ?_⟩
       rw [len_del hu]
       split <;> omega
     · next k2 =>
       rw [if_neg k2]
       split at h
       · cases h
       · next g hg =>
         cases h
         rw [hg]
         have hgi : g.id = o.id := by rw [(chgF_id hg).1]; exact (look_some hf).2
         refine ⟨by rw [look_put hu, if_pos hgi], fun id hid => by rw [look_put hu, if_neg (by rw [hgi]; exact fun e => hid e.symm)], ?_⟩
         rw [len_put hu]
         split <;> omega
def ofId (id : Int) (ops : List Opn) : List Opn := ops.filter fun o => decide (o.id = id)
theorem ofId_cons (id : Int) (o : Opn) (ops : List Opn) : ofId id (o :: ops) = if o.id = id then o :: ofId id ops else ofId id ops := by
 unfold ofId
 rw [List.filter_cons]
 by_cases h : o.id = id <;> simp [h]
theorem ofId_append (id : Int) (a b : List Opn) : ofId id (a ++ b) = ofId id a ++ ofId id b := List.filter_append ..
theorem mem_ofId {id : Int} {o : Opn} {ops : List Opn} : o ∈ ofId id ops ↔ o ∈ ops ∧ o.id = id := by
 unfold ofId
 rw [List.mem_filter]
 simp
theorem run_acts : ∀ (ops : List Opn) {l l' : List Feat} {bs : List Opn}, FeatsOk l → (∀ o ∈ ops, OpForm o) → runO l ops = .ok (l', bs) → FeatsOk l' ∧ l'.length ≤ l.length + ops.length ∧ ∀ id, acts (ofId id ops) (look l id) = .ok (look l' id)
 | [], l, l', bs, hl, _, h => by
   simp only [runO] at h
   cases h
   exact ⟨hl, by simp, fun id => rfl⟩
 | o :: ops, l, l', bs, hl, ho, h => by
   simp only [runO] at h
   cases hd : doO l o with
   | error e => rw [hd] at h; cases h
   | ok x =>
     obtain ⟨l1, b⟩ := x
     rw [hd] at h
     simp only at h
     cases hr : runO l1 ops with
     | error e => rw [hr] at h; cases h
     | ok y =>
       obtain ⟨l2, bs2⟩ := y
       rw [hr] at h
       cases h
       have h1 := (do_back hl (ho o (by simp)) hd).1
       obtain ⟨a1, a2, a3⟩ := do_act hl (ho o (by simp)) hd
       obtain ⟨k1, k2, k3⟩ := run_acts ops h1 (fun o ho' => ho o (by simp [ho'])) hr
       refine ⟨k1, by simp only [List.length_cons]; omega, fun id => ?_⟩
       rw [ofId_cons]
       by_cases e : o.id = id
       · subst e
         rw [if_pos rfl]
         simp only [acts]
         rw [a1]
         exact k3 _
       · rw [if_neg e, ← a2 id (fun h => e h.symm)]
         exact k3 id
def fieldO (o : Opn) : Prop := 3 ≤ o.kind ∧ o.kind ≤ 5
instance (o : Opn) : Decidable (fieldO o) := by unfold fieldO; exact inferInstance
def FreeO (o p : Opn) : Prop := ¬ (o.id = p.id ∧ (o.kind = p.kind ∨ ¬ fieldO o ∨ ¬ fieldO p))
instance (o p : Opn) : Decidable (FreeO o p) := by unfold FreeO; exact inferInstance
theorem chg_act {o : Opn} {f g : Feat} (h1 : o.kind ≠ 1) (h2 : o.kind ≠ 2) (h : chgF f o = some g) : act o (some f) = .ok (some g) := by
 unfold act
 rw [if_neg h1]
 simp only
 rw [if_neg h2, h]
end Go.Proofs.YtdmegkkifiahdaaGreat
