import Derived.Test.YtdmegkkifiahdaaGreatPatActs
namespace Go.Proofs.YtdmegkkifiahdaaGreat
set_option linter.unusedVariables false
structure SaidS where
 (begun before deleted there known : Bool)
 feat : Feat
 (mv dp sy : Option Opn)
def said0 : SaidS := ⟨false, false, false, false, false, noFeat, none, none, none⟩
def beginS (s : SaidS) (ins : Bool) : SaidS := if s.begun then s else { s with begun := true, before := !ins, there := !ins }
def putS (s : SaidS) (o : Opn) : SaidS := if o.kind = 3 then { s with mv := some o } else if o.kind = 4 then { s with dp := some o } else { s with sy := some o }
def stepS (s : SaidS) (o : Opn) : SaidS × Bool :=
 if decide (o.kind = 1) = s.there then (s, false)
 else if o.kind = 1 then ({ s with there := true, known := true, feat := o.feat }, true)
 else if o.kind = 2 then ({ s with there := false, known := false, deleted := true }, true)
 else if s.known = true then
  match chgF s.feat o with
  | none => (s, false)
  | some g => ({ s with feat := g }, true)
 else (putS s o, true)
def hearS (s : SaidS) (o : Opn) : SaidS × Bool := stepS (beginS s (decide (o.kind = 1))) o
def saysS : List Opn → SaidS → Option SaidS
 | [], s => some s
 | o :: ops, s => if (hearS s o).2 = true then saysS ops (hearS s o).1 else none
def fieldsS (s : SaidS) : List Opn := s.mv.toList ++ s.dp.toList ++ s.sy.toList
def delsS (id : Int) (s : SaidS) : List Opn := if s.before = true ∧ s.deleted = true then [delO id] else []
def othersS (id : Int) (s : SaidS) : List Opn := if s.there = true then (if s.known = true then [⟨1, id, s.feat, 0, 0, 0, 0, 0⟩] else fieldsS s) else []
theorem kinds_of {o : Opn} (h : OpForm o) : 1 ≤ o.kind ∧ o.kind ≤ 5 := by
 cases h <;> simp [insO, delO, movO, depO, symO]
end Go.Proofs.YtdmegkkifiahdaaGreat
namespace Go.Proofs.YtdmegkkifiahdaaGreat
set_option linter.unusedVariables false
structure SayOk (id : Int) (s : SaidS) : Prop where
 known : s.known = true → s.feat.id = id ∧ FeatOk s.feat
 mv : ∀ o, s.mv = some o → OpForm o ∧ o.kind = 3 ∧ o.id = id
 dp : ∀ o, s.dp = some o → OpForm o ∧ o.kind = 4 ∧ o.id = id
 sy : ∀ o, s.sy = some o → OpForm o ∧ o.kind = 5 ∧ o.id = id
theorem sayOk0 (id : Int) : SayOk id said0 := ⟨fun h => (by simp [said0] at h), fun o h => (by simp [said0] at h), fun o h => (by simp [said0] at h), fun o h => (by simp [said0] at h)⟩
theorem begin_ok {id : Int} {s : SaidS} (h : SayOk id s) (b : Bool) : SayOk id (beginS s b) := by
 unfold beginS
 split
 · exact h
 · exact ⟨h.known, h.mv, h.dp, h.sy⟩
def costS (s : SaidS) : Nat := (if s.before = true ∧ s.deleted = true then 1 else 0) + (if s.there = true then (if s.known = true then 1 else (fieldsS s).length) else 0)
theorem cost_len (id : Int) (s : SaidS) : (delsS id s).length + (othersS id s).length = costS s := by
 unfold delsS othersS costS
 congr 1
 · split <;> rfl
 · split
   · split <;> rfl
   · rfl
theorem opt_len {α : Type} (x : Option α) : x.toList.length ≤ 1 := by cases x <;> simp
theorem put_len (s : SaidS) (o : Opn) : (fieldsS (putS s o)).length ≤ (fieldsS s).length + 1 := by
 unfold putS
 have h1 := opt_len s.mv
 have h2 := opt_len s.dp
 have h3 := opt_len s.sy
 split
 · simp only [fieldsS, List.length_append, Option.toList_some, List.length_singleton]; omega
 · split
   · simp only [fieldsS, List.length_append, Option.toList_some, List.length_singleton]; omega
   · simp only [fieldsS, List.length_append, Option.toList_some, List.length_singleton]; omega
theorem step_ok {id : Int} {s : SaidS} {o : Opn} (h : SayOk id s) (ho : OpForm o) (hoi : o.id = id) (k : (stepS s o).2 = true) : SayOk id (stepS s o).1 ∧ costS (stepS s o).1 ≤ costS s + 1 := by
 have hk := kinds_of ho
 by_cases h0 : decide (o.kind = 1) = s.there
 · unfold stepS at k
   rw [if_pos h0] at k
   cases k
 by_cases k1 : o.kind = 1
 · have hfo : FeatOk o.feat := by
    cases ho with
    | ins f hf => exact hf
    | del id hi => exact absurd k1 (by rw [kd2]; decide)
    | mov id x y rad h hr hv ho => exact absurd k1 (by rw [kd3]; decide)
    | dep id d h hd => exact absurd k1 (by rw [kd4]; decide)
    | sym id n h hn => exact absurd k1 (by rw [kd5]; decide)
   have e : stepS s o = ({ s with there := true, known := true, feat := o.feat }, true) := by
    unfold stepS
    rw [if_neg h0, if_pos k1]
   rw [e]
   refine ⟨⟨fun _ => ⟨by rw [← hoi]; exact ins_id ho k1, hfo⟩, h.mv, h.dp, h.sy⟩, ?_⟩
   have ht : s.there = false := by
    rw [k1] at h0
    cases hh : s.there with
    | false => rfl
    | true => rw [hh] at h0; exact absurd rfl h0
   unfold costS
   simp only [ht]
   simp
 by_cases k2 : o.kind = 2
 · have e : stepS s o = ({ s with there := false, known := false, deleted := true }, true) := by
    unfold stepS
    rw [if_neg h0, if_neg k1, if_pos k2]
   rw [e]
   refine ⟨⟨fun h => (by cases h), h.mv, h.dp, h.sy⟩, ?_⟩
   unfold costS
   simp only [Bool.false_eq_true, if_false, and_true, Nat.add_zero]
   split <;> omega
 cases hkn : s.known with
 | true =>
   cases hg : chgF s.feat o with
   | none =>
     unfold stepS at k
     rw [if_neg h0, if_neg k1, if_neg k2, if_pos hkn, hg] at k
     cases k
   | some g =>
     have e : stepS s o = ({ s with feat := g }, true) := by
      unfold stepS
      rw [if_neg h0, if_neg k1, if_neg k2, if_pos hkn, hg]
     rw [e]
     obtain ⟨e2, e3⟩ := h.known hkn
     refine ⟨⟨fun _ => ⟨by rw [(chgF_id hg).1]; exact e2, chgF_ok e3 ho k1 k2 hg⟩, h.mv, h.dp, h.sy⟩, ?_⟩
     unfold costS fieldsS
     simp only
     omega
 | false =>
   have e : stepS s o = (putS s o, true) := by
    unfold stepS
    rw [if_neg h0, if_neg k1, if_neg k2, if_neg (by rw [hkn]; simp)]
   rw [e]
   have hl := put_len s o
   refine ⟨⟨?_, ?_, ?_, ?_⟩, ?_⟩
   · intro hh
     unfold putS at hh
     split at hh
     · rw [hkn] at hh; cases hh
     · split at hh <;> · rw [hkn] at hh; cases hh
   · intro x hx
     unfold putS at hx
     split at hx
     · next k3 => cases hx; exact ⟨ho, k3, hoi⟩
     · split at hx <;> exact h.mv x hx
   · intro x hx
     unfold putS at hx
     split at hx
     · exact h.dp x hx
     · split at hx
       · next k4 => cases hx; exact ⟨ho, k4, hoi⟩
       · exact h.dp x hx
   · intro x hx
     unfold putS at hx
     split at hx
     · exact h.sy x hx
     · split at hx
       · exact h.sy x hx
       · cases hx
         exact ⟨ho, by omega, hoi⟩
   · have q : (putS s o).before = s.before ∧ (putS s o).deleted = s.deleted ∧ (putS s o).there = s.there ∧ (putS s o).known = s.known := by
      unfold putS
      split
      · exact ⟨rfl, rfl, rfl, rfl⟩
      · split <;> exact ⟨rfl, rfl, rfl, rfl⟩
     unfold costS
     rw [q.1, q.2.1, q.2.2.1, q.2.2.2, hkn]
     simp only [Bool.false_eq_true, if_false]
     split
     · split <;> omega
     · split <;> omega
theorem begin_cost {s : SaidS} (b : Bool) (h : s.begun = true ∨ s = said0) : costS (beginS s b) ≤ costS s := by
 rcases h with h | h
 · unfold beginS
   rw [if_pos h]
   exact Nat.le_refl _
 · subst h
   cases b <;> decide
theorem step_begun {s : SaidS} {o : Opn} (h : s.begun = true) : (stepS s o).1.begun = true := by
 unfold stepS
 split
 · exact h
 · split
   · exact h
   · split
     · exact h
     · split
       · split <;> exact h
       · unfold putS
         split
         · exact h
         · split <;> exact h
theorem begin_begun (s : SaidS) (b : Bool) : (beginS s b).begun = true := by
 unfold beginS
 split
 · next h => exact h
 · rfl
theorem says_ok {id : Int} : ∀ (a : List Opn) {s s' : SaidS}, SayOk id s → (s.begun = true ∨ s = said0) → (∀ o ∈ a, OpForm o ∧ o.id = id) → saysS a s = some s' → SayOk id s' ∧ costS s' ≤ costS s + a.length
 | [], s, s', h, _, _, k => by
   simp only [saysS, Option.some.injEq] at k
   subst k
   exact ⟨h, by simp⟩
 | o :: a, s, s', h, hs, ha, k => by
   simp only [saysS] at k
   split at k
   · next hk =>
     obtain ⟨hof, hoi⟩ := ha o (by simp)
     have h1 := begin_ok h (decide (o.kind = 1))
     obtain ⟨h2, h3⟩ := step_ok h1 hof hoi hk
     obtain ⟨h4, h5⟩ := says_ok a h2 (.inl (step_begun (begin_begun _ _))) (fun x hx => ha x (by simp [hx])) k
     have := begin_cost (decide (o.kind = 1)) hs
     refine ⟨h4, ?_⟩
     simp only [List.length_cons]
     omega
   · cases k
end Go.Proofs.YtdmegkkifiahdaaGreat
namespace Go.Proofs.YtdmegkkifiahdaaGreat
set_option linter.unusedVariables false
def TouchL (ops : List Opn) (ids : List Int) : Prop := ids.Pairwise (· < ·) ∧ ∀ id, id ∈ ids ↔ ∃ o ∈ ops, o.id = id
def sayD (id : Int) (ops : List Opn) : SaidS := (saysS (ofId id ops) said0).getD said0
def normL (ids : List Int) (ops : List Opn) : List Opn := ids.flatMap (fun id => delsS id (sayD id ops)) ++ ids.flatMap (fun id => othersS id (sayD id ops))
def SaysAll (ids : List Int) (ops : List Opn) : Prop := ∀ id ∈ ids, (saysS (ofId id ops) said0).isSome = true
theorem touch_nodup {ops : List Opn} {ids : List Int} (h : TouchL ops ids) : ids.Nodup := h.1.imp fun h e => by rw [e] at h; exact absurd h (by omega)
theorem sayD_ok {id : Int} {ops : List Opn} (ho : ∀ o ∈ ops, OpForm o) : SayOk id (sayD id ops) ∧ costS (sayD id ops) ≤ (ofId id ops).length := by
 unfold sayD
 cases h : saysS (ofId id ops) said0 with
 | none => exact ⟨sayOk0 id, by simp [costS, said0]⟩
 | some s =>
   obtain ⟨h1, h2⟩ := says_ok (ofId id ops) (sayOk0 id) (.inr rfl) (fun o h => ⟨ho o (mem_ofId.1 h).1, (mem_ofId.1 h).2⟩) h
   refine ⟨h1, ?_⟩
   have : costS said0 = 0 := by decide
   simp only [Option.getD_some]
   omega
theorem part_len (k : Int) : ∀ ops : List Opn, (ofId k ops).length + (ops.filter fun o => decide (o.id ≠ k)).length = ops.length
 | [] => rfl
 | o :: ops => by
   have ih := part_len k ops
   rw [ofId_cons, List.filter_cons]
   by_cases h : o.id = k
   · rw [if_pos h, if_neg (by simpa using h), List.length_cons, List.length_cons]
     omega
   · rw [if_neg h, if_pos (by simpa using h), List.length_cons, List.length_cons]
     omega
theorem sum_len : ∀ (ids : List Int) (ops : List Opn), ids.Nodup → (ids.map fun id => (ofId id ops).length).sum ≤ ops.length
 | [], ops, _ => by simp
 | k :: ids, ops, hn => by
   obtain ⟨h1, h2⟩ := List.nodup_cons.1 hn
   have ih := sum_len ids (ops.filter fun o => decide (o.id ≠ k)) h2
   have e : (ids.map fun id => (ofId id (ops.filter fun o => decide (o.id ≠ k))).length) = ids.map fun id => (ofId id ops).length := by
    apply List.map_congr_left
    intro id hid
    congr 1
    unfold ofId
    rw [List.filter_filter]
    apply List.filter_congr
    intro o _
    by_cases h : o.id = id
    · have : id ≠ k := fun e => h1 (e ▸ hid)
      simp [h, this]
    · simp [h]
   rw [e] at ih
   have hl := part_len k ops
   rw [List.map_cons, List.sum_cons]
   omega
theorem flat_sum (F : Int → List Opn) : ∀ ids : List Int, (ids.flatMap F).length = (ids.map fun id => (F id).length).sum
 | [] => rfl
 | k :: ids => by rw [List.flatMap_cons, List.length_append, List.map_cons, List.sum_cons, flat_sum F ids]
theorem norm_len {ops : List Opn} {ids : List Int} (ho : ∀ o ∈ ops, OpForm o) (ht : TouchL ops ids) : (normL ids ops).length ≤ ops.length := by
 refine Nat.le_trans ?_ (sum_len ids ops (touch_nodup ht))
 unfold normL
 rw [List.length_append, flat_sum, flat_sum]
 clear ht
 induction ids with
 | nil => simp
 | cons k ids ih =>
   simp only [List.map_cons, List.sum_cons]
   have h1 := cost_len k (sayD k ops)
   have h2 := (sayD_ok (id := k) ho).2
   omega
end Go.Proofs.YtdmegkkifiahdaaGreat
namespace Go.Proofs.YtdmegkkifiahdaaGreat
set_option linter.unusedVariables false
def Kept (s : SaidS) : Prop := s.there = true → s.known = false → s.before = true ∧ s.deleted = false
theorem kept_begin {s : SaidS} (b : Bool) (h : Kept s) (hs : s.begun = true ∨ s = said0) : Kept (beginS s b) := by
 rcases hs with hs | hs
 · unfold beginS
   rw [if_pos hs]
   exact h
 · subst hs
   intro ht _
   cases b with
   | true => cases ht
   | false => exact ⟨rfl, rfl⟩
theorem kept_step {s : SaidS} {o : Opn} (h : Kept s) : Kept (stepS s o).1 := by
 unfold stepS
 split
 · exact h
 · split
   · intro _ hk
     cases hk
   · split
     · intro ht _
       cases ht
     · split
       · next hk =>
         split
         · exact h
         · intro _ hk'
           simp only at hk'
           rw [hk] at hk'
           cases hk'
       · unfold putS
         split
         · exact h
         · split <;> exact h
theorem kept_says : ∀ (a : List Opn) {s s' : SaidS}, Kept s → (s.begun = true ∨ s = said0) → saysS a s = some s' → Kept s'
 | [], s, s', h, _, k => by
   simp only [saysS, Option.some.injEq] at k
   subst k
   exact h
 | o :: a, s, s', h, hs, k => by
   simp only [saysS] at k
   split at k
   · exact kept_says a (kept_step (kept_begin _ h hs)) (.inl (step_begun (begin_begun _ _))) k
   · cases k
theorem kept0 : Kept said0 := fun h => by cases h
theorem sayD_kept (id : Int) (ops : List Opn) : Kept (sayD id ops) := by
 unfold sayD
 cases h : saysS (ofId id ops) said0 with
 | none => exact kept0
 | some s => exact kept_says (ofId id ops) kept0 (.inr rfl) h
end Go.Proofs.YtdmegkkifiahdaaGreat
namespace Go.Proofs.YtdmegkkifiahdaaGreat
set_option linter.unusedVariables false
def fieldOps (f g : Feat) : List Opn := (if f.x ≠ g.x ∨ f.y ≠ g.y ∨ f.rad ≠ g.rad then [movO g.id g.x g.y g.rad] else []) ++ (if f.dep ≠ g.dep then [depO g.id g.dep] else []) ++ (if f.sym ≠ g.sym then [symO g.id g.sym] else [])
def diffF (f g : Feat) : Option (List Opn) :=
 match acts (fieldOps f g) (some f) with
 | .ok (some h) => if h = g then some (fieldOps f g) else none
 | _ => none
def goneF (b : List Feat) (f : Feat) : List Opn :=
 match look b f.id with
 | some g => if (diffF f g).isSome = true then [] else [delO f.id]
 | none => [delO f.id]
def newF (a : List Feat) (g : Feat) : List Opn :=
 match look a g.id with
 | some f => match diffF f g with
   | some os => os
   | none => [insO g]
 | none => [insO g]
def diffL (a b : List Feat) : List Opn := a.flatMap (goneF b) ++ b.flatMap (newF a)
theorem diffF_acts {f g : Feat} {os : List Opn} (h : diffF f g = some os) : os = fieldOps f g ∧ acts os (some f) = .ok (some g) := by
 unfold diffF at h
 split at h
 · next k hk =>
   split at h
   · next e =>
     cases h
     rw [e] at hk
     exact ⟨rfl, hk⟩
   · cases h
 · cases h
end Go.Proofs.YtdmegkkifiahdaaGreat
namespace Go.Proofs.YtdmegkkifiahdaaGreat
set_option linter.unusedVariables false
theorem vld_zero : Vld 0 0 := by constructor <;> omega
theorem feat_move {g : Feat} (h : FeatOk g) : OpForm (movO g.id g.x g.y g.rad) := by
 have hm := h.2
 unfold FormR at hm
 refine .mov _ _ _ _ (featOk_id h) h.1.2.2.2 ?_ ?_
 · by_cases hd : DiscK g.kind
   · rw [if_pos hd] at hm
     exact hm.1
   · rw [if_neg hd] at hm
     split at hm
     · rw [hm.2.1, hm.2.2.1]
       exact vld_zero
     · exact hm.2.1
 · by_cases hd : DiscK g.kind
   · rw [if_pos hd] at hm
     exact hm.2.1
   · rw [if_neg hd] at hm
     unfold RoomOk
     split at hm
     · rw [hm.2.1, hm.2.2.1, hm.2.2.2.1]
       exact ⟨vld_zero, vld_zero⟩
     · rw [hm.2.2.2.1, Int.sub_zero, Int.sub_zero, Int.add_zero, Int.add_zero]
       exact ⟨hm.2.1, hm.2.1⟩
theorem fieldOps_form {f g : Feat} (h : FeatOk g) : ∀ o ∈ fieldOps f g, OpForm o := by
 intro o ho
 unfold fieldOps at ho
 rcases List.mem_append.1 ho with ho | ho
 · rcases List.mem_append.1 ho with ho | ho
   · split at ho
     · obtain rfl : o = movO g.id g.x g.y g.rad := by simpa using ho
       exact feat_move h
     · simp at ho
   · split at ho
     · obtain rfl : o = depO g.id g.dep := by simpa using ho
       exact .dep _ _ (featOk_id h) h.1.2.2.1
     · simp at ho
 · split at ho
   · obtain rfl : o = symO g.id g.sym := by simpa using ho
     exact .sym _ _ (featOk_id h) h.1.2.1
   · simp at ho
theorem gone_form {b : List Feat} {f : Feat} (h : FeatOk f) : (∀ o ∈ goneF b f, OpForm o) ∧ (goneF b f).length ≤ 1 := by
 unfold goneF
 split
 · split
   · exact ⟨fun o ho => (by simp at ho), by simp⟩
   · exact ⟨fun o ho => by
      obtain rfl : o = delO f.id := by simpa using ho
      exact .del _ (featOk_id h), by simp⟩
 · exact ⟨fun o ho => by
    obtain rfl : o = delO f.id := by simpa using ho
    exact .del _ (featOk_id h), by simp⟩
theorem fieldOps_len (f g : Feat) : (fieldOps f g).length ≤ 3 := by
 unfold fieldOps
 simp only [List.length_append]
 split <;> split <;> split <;> simp
theorem new_form {a : List Feat} {g : Feat} (h : FeatOk g) : (∀ o ∈ newF a g, OpForm o) ∧ (newF a g).length ≤ 3 := by
 have hi : (∀ o ∈ [insO g], OpForm o) ∧ [insO g].length ≤ 3 := ⟨fun o ho => by
  obtain rfl : o = insO g := by simpa using ho
  exact .ins g h, by simp⟩
 unfold newF
 split
 · split
   · next os hos =>
     rw [(diffF_acts hos).1]
     exact ⟨fieldOps_form h, fieldOps_len _ _⟩
   · exact hi
 · exact hi
theorem flat_most {α β : Type} {F : α → List β} {n : Nat} : ∀ {l : List α}, (∀ x ∈ l, (F x).length ≤ n) → (l.flatMap F).length ≤ l.length * n
 | [], _ => by simp
 | x :: l, h => by
   have ih := flat_most (F := F) (l := l) (fun y hy => h y (by simp [hy]))
   have := h x (by simp)
   rw [List.flatMap_cons, List.length_append, List.length_cons, Nat.add_mul]
   omega
end Go.Proofs.YtdmegkkifiahdaaGreat
