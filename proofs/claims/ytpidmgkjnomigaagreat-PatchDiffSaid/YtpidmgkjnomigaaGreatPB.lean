/- PatNorm, PatNorm2, PatNorm3, PatNorm4, PatDiff, PatDiff2: joined. -/
import Derived.Test.YtpidmgkjnomigaaGreatPatActs
/- Plain laws of chapter 17: what a patch says of an ID, and the normal patch. -/
namespace Go.Proofs.YtpidmgkjnomigaaGreat
set_option linter.unusedVariables false
structure SaidS where
  (begun before deleted there known : Bool)
  feat : Feat
  (mv dp sy : Option Opn)
def said0 : SaidS := ⟨false, false, false, false, false, noFeat, none, none, none⟩
def beginS (s : SaidS) (ins : Bool) : SaidS := if s.begun then s else { s with begun := true, before := !ins, there := !ins }
def putS (s : SaidS) (o : Opn) : SaidS := if o.kind = 3 then { s with mv := some o } else if o.kind = 4 then { s with dp := some o } else { s with sy := some o }
/-- An operation is heard: the state behind it, and whether it was possible. -/
def stepS (s : SaidS) (o : Opn) : SaidS × Bool :=
  if decide (o.kind = 1) = s.there then (s, false)
  else if o.kind = 1 then ({ s with there := true, known := true, feat := o.feat }, true)
  else if o.kind = 2 then ({ s with there := false, known := false, deleted := true }, true)
  else if s.known = true then
    match chgF s.feat o with
    | none => (s, false)
    | some g => ({ s with feat := g }, true)
  else (putS s o, true)
def hearS (s : SaidS) (o : Opn) : SaidS × Bool := stepS (beginS s (decide (o.kind = 1))) o
def saysS : List Opn → SaidS → Option SaidS
  | [], s => some s
  | o :: ops, s => if (hearS s o).2 = true then saysS ops (hearS s o).1 else none
def fieldsS (s : SaidS) : List Opn := s.mv.toList ++ s.dp.toList ++ s.sy.toList
def delsS (id : Int) (s : SaidS) : List Opn := if s.before = true ∧ s.deleted = true then [delO id] else []
def othersS (id : Int) (s : SaidS) : List Opn := if s.there = true then (if s.known = true then [⟨1, id, s.feat, 0, 0, 0, 0, 0⟩] else fieldsS s) else []
/-- What the state says, for what was there first (m) and what is there now (r). -/
structure Says (id : Int) (s : SaidS) (m r : Option Feat) : Prop where
  begun : s.begun = true
  first : s.before = m.isSome
  now : s.there = r.isSome
  known : s.known = true → r = some s.feat ∧ s.feat.id = id ∧ FeatOk s.feat
  open_ : s.there = true → s.known = false → s.before = true ∧ s.deleted = false ∧ acts (fieldsS s) m = .ok r
  gone : s.known = false → s.there = false → True
  undel : s.before = true → s.deleted = false → s.there = true ∧ s.known = false
  new : s.before = false → s.there = true → s.known = true
  mv : ∀ o, s.mv = some o → OpForm o ∧ o.kind = 3 ∧ o.id = id
  dp : ∀ o, s.dp = some o → OpForm o ∧ o.kind = 4 ∧ o.id = id
  sy : ∀ o, s.sy = some o → OpForm o ∧ o.kind = 5 ∧ o.id = id
/-- The normal patch of an ID does the same. -/
theorem says_acts {id : Int} {s : SaidS} {m r : Option Feat} (h : Says id s m r) : acts (delsS id s ++ othersS id s) m = .ok r := by
  obtain ⟨_, hfst, hnow, hkn, hop, _, hun, hnew, _, _, _⟩ := h
  unfold delsS othersS
  cases hb : s.before with
  | false =>
    rw [hb] at hfst
    have hm : m = none := by cases m with
      | none => rfl
      | some f => simp at hfst
    subst hm
    rw [if_neg (by simp)]
    cases ht : s.there with
    | false =>
      rw [ht] at hnow
      rw [if_neg (by simp)]
      cases r with
      | none => rfl
      | some f => simp at hnow
    | true =>
      have hk := hnew hb ht
      rw [if_pos rfl, if_pos hk, (hkn hk).1]
      rfl
  | true =>
    rw [hb] at hfst
    obtain ⟨f0, rfl⟩ : ∃ f0, m = some f0 := by cases m with
      | none => simp at hfst
      | some f => exact ⟨f, rfl⟩
    cases hd : s.deleted with
    | false =>
      obtain ⟨ht, hk⟩ := hun hb hd
      rw [if_neg (by simp), if_pos ht, hk, if_neg (by simp)]
      exact (hop ht hk).2.2
    | true =>
      rw [if_pos ⟨rfl, rfl⟩]
      cases ht : s.there with
      | false =>
        rw [ht] at hnow
        rw [if_neg (by simp)]
        cases r with
        | none => rfl
        | some f => simp at hnow
      | true =>
        cases hk : s.known with
        | false =>
          have := (hop ht hk).2.1
          rw [hd] at this
          cases this
        | true =>
          rw [if_pos rfl, if_pos rfl, (hkn hk).1]
          rfl
/-- Of two operations of one kind the second one counts. -/
theorem chg_over {o p : Opn} {f g g' : Feat} (h1 : o.kind ≠ 1) (h2 : o.kind ≠ 2) (hk : p.kind = o.kind) (h : chgF f o = some g) (k : chgF g p = some g') : chgF f p = some g' := by
  have hid := chgF_id h
  unfold chgF at h k ⊢
  rw [hk] at k ⊢
  rw [hid.2.1] at k
  split at k
  · cases k
  · next hn =>
    rw [if_neg hn]
    split at h
    · cases h
    · split at h
      · next k3 =>
        cases h
        rw [if_pos k3] at k ⊢
        cases k
        rfl
      · next k3 =>
        rw [if_neg k3] at k ⊢
        split at h
        · next k4 =>
          cases h
          rw [if_pos k4] at k ⊢
          cases k
          rfl
        · next k4 =>
          cases h
          rw [if_neg k4] at k ⊢
          cases k
          rfl
theorem opt_over {x : Option Opn} {o : Opn} {m m1 r : Option Feat} (h1 : o.kind ≠ 1) (h2 : o.kind ≠ 2) (hx : ∀ p, x = some p → p.kind = o.kind) (h : acts x.toList m = .ok m1) (k : act o m1 = .ok r) : act o m = .ok r := by
  cases x with
  | none =>
    simp only [Option.toList, acts, Except.ok.injEq] at h
    rw [h]
    exact k
  | some p =>
    have hp := hx p rfl
    simp only [Option.toList, acts] at h
    cases ha : act p m with
    | error e => rw [ha] at h; cases h
    | ok m2 =>
      rw [ha] at h
      simp only [Except.ok.injEq] at h
      subst h
      obtain ⟨f, g, rfl, hg, rfl⟩ := act_chg (by rw [hp]; exact h1) (by rw [hp]; exact h2) ha
      obtain ⟨g0, g', e0, hg', rfl⟩ := act_chg h1 h2 k
      cases e0
      exact chg_act h1 h2 (chg_over (by rw [hp]; exact h1) (by rw [hp]; exact h2) hp.symm hg hg')
theorem acts_two {a b : List Opn} {m r : Option Feat} (h : acts (a ++ b) m = .ok r) : ∃ m1, acts a m = .ok m1 ∧ acts b m1 = .ok r := by
  rw [acts_append] at h
  cases ha : acts a m with
  | error e => rw [ha] at h; cases h
  | ok m1 =>
    rw [ha] at h
    exact ⟨m1, rfl, h⟩
theorem two_acts {a b : List Opn} {m m1 r : Option Feat} (h : acts a m = .ok m1) (k : acts b m1 = .ok r) : acts (a ++ b) m = .ok r := by
  rw [acts_append, h]
  exact k
theorem one_acts {o : Opn} {m r : Option Feat} (h : act o m = .ok r) : acts [o] m = .ok r := by
  simp only [acts]
  rw [h]
theorem free_kinds {o p : Opn} (h1 : fieldO o) (h2 : fieldO p) (h : o.kind ≠ p.kind) : FreeO o p := fun k => k.2.elim h fun e => e.elim (fun e => e h1) fun e => e h2
theorem kinds_of {o : Opn} (h : OpForm o) : 1 ≤ o.kind ∧ o.kind ≤ 5 := by
  cases h <;> simp [insO, delO, movO, depO, symO]
theorem put_fields {id : Int} {s : SaidS} {o : Opn} {m r r' : Option Feat} (ho : OpForm o) (hoi : o.id = id) (h1 : o.kind ≠ 1) (h2 : o.kind ≠ 2)
    (hmv : ∀ o, s.mv = some o → OpForm o ∧ o.kind = 3 ∧ o.id = id) (hdp : ∀ o, s.dp = some o → OpForm o ∧ o.kind = 4 ∧ o.id = id) (hsy : ∀ o, s.sy = some o → OpForm o ∧ o.kind = 5 ∧ o.id = id)
    (h : acts (fieldsS s) m = .ok r) (k : act o r = .ok r') : acts (fieldsS (putS s o)) m = .ok r' := by
  have hk := kinds_of ho
  unfold fieldsS at h
  obtain ⟨m2, h3, h4⟩ := acts_two h
  obtain ⟨m1, h5, h6⟩ := acts_two h3
  have hfo : fieldO o := ⟨by omega, hk.2⟩
  unfold putS
  by_cases k3 : o.kind = 3
  · rw [if_pos k3]
    obtain ⟨m', h7, h8⟩ := acts_one ho hoi (s.dp.toList ++ s.sy.toList) (fun x hx => by
      rcases List.mem_append.1 hx with hx | hx
      · obtain ⟨a, b, c⟩ := hdp x (Option.mem_toList.1 hx)
        exact ⟨a, c, free_kinds ⟨by omega, by omega⟩ hfo (by omega)⟩
      · obtain ⟨a, b, c⟩ := hsy x (Option.mem_toList.1 hx)
        exact ⟨a, c, free_kinds ⟨by omega, by omega⟩ hfo (by omega)⟩) (two_acts h6 h4) k
    have h9 := opt_over h1 h2 (fun p hp => by rw [(hmv p hp).2.1, k3]) h5 h7
    unfold fieldsS
    rw [List.append_assoc]
    exact two_acts (one_acts h9) h8
  · rw [if_neg k3]
    by_cases k4 : o.kind = 4
    · rw [if_pos k4]
      obtain ⟨m', h7, h8⟩ := acts_one ho hoi s.sy.toList (fun x hx => by
        obtain ⟨a, b, c⟩ := hsy x (Option.mem_toList.1 hx)
        exact ⟨a, c, free_kinds ⟨by omega, by omega⟩ hfo (by omega)⟩) h4 k
      have h9 := opt_over h1 h2 (fun p hp => by rw [(hdp p hp).2.1, k4]) h6 h7
      unfold fieldsS
      exact two_acts (two_acts h5 (one_acts h9)) h8
    · rw [if_neg k4]
      have h9 := opt_over h1 h2 (fun p hp => by rw [(hsy p hp).2.1]; omega) h4 k
      unfold fieldsS
      exact two_acts (two_acts h5 h6) (one_acts h9)
theorem step_says {id : Int} {s : SaidS} {o : Opn} {m r r' : Option Feat} (h : Says id s m r) (ho : OpForm o) (hoi : o.id = id) (k : act o r = .ok r') : (stepS s o).2 = true ∧ Says id (stepS s o).1 m r' := by
  have hk := kinds_of ho
  by_cases k1 : o.kind = 1
  · have hr : r = none := by
      unfold act at k
      rw [if_pos k1] at k
      split at k
      · cases k
      · rfl
    subst hr
    have ht : s.there = false := by rw [h.now]; rfl
    have hr' : r' = some o.feat := by
      unfold act at k
      rw [if_pos k1] at k
      cases k
      rfl
    subst hr'
    have hfo : FeatOk o.feat := by
      cases ho with
      | ins f hf => exact hf
      | del id hi => exact absurd k1 (by rw [kd2]; decide)
      | mov id x y rad h hr hv ho => exact absurd k1 (by rw [kd3]; decide)
      | dep id d h hd => exact absurd k1 (by rw [kd4]; decide)
      | sym id n h hn => exact absurd k1 (by rw [kd5]; decide)
    have e : stepS s o = ({ s with there := true, known := true, feat := o.feat }, true) := by
      unfold stepS
      rw [ht, if_neg (by simp [k1]), if_pos k1]
    rw [e]
    exact ⟨rfl, h.begun, h.first, rfl, fun _ => ⟨rfl, by rw [ins_id ho k1, hoi], hfo⟩, fun _ h => (by cases h), fun _ _ => trivial, fun hb hd => (by have := (h.undel hb hd).1; rw [ht] at this; cases this), fun _ _ => rfl, h.mv, h.dp, h.sy⟩
  by_cases k2 : o.kind = 2
  · unfold act at k
    rw [if_neg k1] at k
    split at k
    · cases k
    · next f =>
      rw [if_pos k2] at k
      cases k
      have ht : s.there = true := by rw [h.now]; rfl
      have e : stepS s o = ({ s with there := false, known := false, deleted := true }, true) := by
        unfold stepS
        rw [ht, if_neg (by simp [k1]), if_neg k1, if_pos k2]
      rw [e]
      exact ⟨rfl, h.begun, h.first, rfl, fun h => (by cases h), fun h _ => (by cases h), fun _ _ => trivial, fun _ hd => (by cases hd), fun _ h => (by cases h), h.mv, h.dp, h.sy⟩
  obtain ⟨f, g, rfl, hg, rfl⟩ := act_chg k1 k2 k
  have ht : s.there = true := by rw [h.now]; rfl
  have h0 : ¬ decide (o.kind = 1) = s.there := by rw [ht]; simp [k1]
  cases hkn : s.known with
  | true =>
    obtain ⟨e1, e2, e3⟩ := h.known hkn
    cases e1
    have e : stepS s o = ({ s with feat := g }, true) := by
      unfold stepS
      rw [if_neg h0, if_neg k1, if_neg k2, if_pos hkn, hg]
    rw [e]
    exact ⟨rfl, h.begun, h.first, h.now, fun _ => ⟨rfl, by rw [(chgF_id hg).1]; exact e2, chgF_ok e3 ho k1 k2 hg⟩, fun _ hn => (by rw [hkn] at hn; cases hn), fun _ _ => trivial, h.undel, h.new, h.mv, h.dp, h.sy⟩
  | false =>
    obtain ⟨o1, o2, o3⟩ := h.open_ ht hkn
    have e : stepS s o = (putS s o, true) := by
      unfold stepS
      rw [if_neg h0, if_neg k1, if_neg k2, if_neg (by rw [hkn]; simp)]
    rw [e]
    have hf := put_fields ho hoi k1 k2 h.mv h.dp h.sy o3 k
    have p1 : (putS s o).begun = s.begun ∧ (putS s o).before = s.before ∧ (putS s o).deleted = s.deleted ∧ (putS s o).there = s.there ∧ (putS s o).known = s.known := by
      unfold putS
      split
      · exact ⟨rfl, rfl, rfl, rfl, rfl⟩
      · split <;> exact ⟨rfl, rfl, rfl, rfl, rfl⟩
    obtain ⟨q1, q2, q3, q4, q5⟩ := p1
    refine ⟨rfl, by rw [q1]; exact h.begun, by rw [q2]; exact h.first, by rw [q4]; exact h.now, fun hh => (by rw [q5, hkn] at hh; cases hh), fun _ _ => ⟨by rw [q2]; exact o1, by rw [q3]; exact o2, hf⟩, fun _ _ => trivial, fun _ _ => ⟨by rw [q4]; exact ht, by rw [q5]; exact hkn⟩, fun hb _ => (by rw [q2, o1] at hb; cases hb), ?_, ?_, ?_⟩
    · intro x hx
      unfold putS at hx
      split at hx
      · next k3 => cases hx; exact ⟨ho, k3, hoi⟩
      · split at hx <;> exact h.mv x hx
    · intro x hx
      unfold putS at hx
      split at hx
      · exact h.dp x hx
      · split at hx
        · next k4 => cases hx; exact ⟨ho, k4, hoi⟩
        · exact h.dp x hx
    · intro x hx
      unfold putS at hx
      split at hx
      · exact h.sy x hx
      · split at hx
        · exact h.sy x hx
        · cases hx
          exact ⟨ho, by omega, hoi⟩
theorem says_run {id : Int} : ∀ (a : List Opn) {s : SaidS} {m r r' : Option Feat}, Says id s m r → (∀ o ∈ a, OpForm o ∧ o.id = id) → acts a r = .ok r' → ∃ s', saysS a s = some s' ∧ Says id s' m r'
  | [], s, m, r, r', h, _, k => by
    simp only [acts, Except.ok.injEq] at k
    subst k
    exact ⟨s, rfl, h⟩
  | o :: a, s, m, r, r', h, ha, k => by
    simp only [acts] at k
    cases hc : act o r with
    | error e => rw [hc] at k; cases k
    | ok r1 =>
      rw [hc] at k
      obtain ⟨hof, hoi⟩ := ha o (by simp)
      obtain ⟨h1, h2⟩ := step_says h hof hoi hc
      have e : hearS s o = stepS s o := by
        unfold hearS beginS
        rw [if_pos h.begun]
      simp only [saysS]
      rw [e, if_pos h1]
      exact says_run a h2 (fun x hx => ha x (by simp [hx])) k
/-- The state behind the first word, before the operation itself. -/
theorem begin_says {id : Int} {m : Option Feat} {ins : Bool} (h : ins = !m.isSome) : Says id (beginS said0 ins) m m := by
  have e : beginS said0 ins = { said0 with begun := true, before := m.isSome, there := m.isSome } := by
    unfold beginS
    rw [if_neg (by simp [said0]), h]
    simp
  rw [e]
  exact ⟨rfl, rfl, rfl, fun h => (by simp [said0] at h), fun h _ => ⟨h, rfl, rfl⟩, fun _ _ => trivial, fun h _ => ⟨h, rfl⟩, fun h k => (by simp only at h k; rw [h] at k; cases k), fun o h => (by simp [said0] at h), fun o h => (by simp [said0] at h), fun o h => by simp [said0] at h⟩
theorem says_all {id : Int} {a : List Opn} {m r : Option Feat} (hne : a ≠ []) (ha : ∀ o ∈ a, OpForm o ∧ o.id = id) (h : acts a m = .ok r) : ∃ s, saysS a said0 = some s ∧ Says id s m r := by
  cases a with
  | nil => exact absurd rfl hne
  | cons o a =>
    simp only [acts] at h
    cases hc : act o m with
    | error e => rw [hc] at h; cases h
    | ok r1 =>
      rw [hc] at h
      obtain ⟨hof, hoi⟩ := ha o (by simp)
      have hins : decide (o.kind = 1) = !m.isSome := by
        unfold act at hc
        split at hc
        · next k1 =>
          split at hc
          · cases hc
          · simp [k1]
        · next k1 =>
          split at hc
          · cases hc
          · simp [k1]
      obtain ⟨h1, h2⟩ := step_says (begin_says (id := id) hins) hof hoi hc
      simp only [saysS]
      unfold hearS
      rw [if_pos h1]
      exact says_run a h2 (fun x hx => ha x (by simp [hx])) h
end Go.Proofs.YtpidmgkjnomigaaGreat
/- Plain laws of chapter 17: the normal patch: its forms, its length, what it does, and that it is its own. -/
namespace Go.Proofs.YtpidmgkjnomigaaGreat
set_option linter.unusedVariables false
/-- The forms of what a state holds. -/
structure SayOk (id : Int) (s : SaidS) : Prop where
  known : s.known = true → s.feat.id = id ∧ FeatOk s.feat
  mv : ∀ o, s.mv = some o → OpForm o ∧ o.kind = 3 ∧ o.id = id
  dp : ∀ o, s.dp = some o → OpForm o ∧ o.kind = 4 ∧ o.id = id
  sy : ∀ o, s.sy = some o → OpForm o ∧ o.kind = 5 ∧ o.id = id
theorem sayOk0 (id : Int) : SayOk id said0 := ⟨fun h => (by simp [said0] at h), fun o h => (by simp [said0] at h), fun o h => (by simp [said0] at h), fun o h => (by simp [said0] at h)⟩
theorem begin_ok {id : Int} {s : SaidS} (h : SayOk id s) (b : Bool) : SayOk id (beginS s b) := by
  unfold beginS
  split
  · exact h
  · exact ⟨h.known, h.mv, h.dp, h.sy⟩
/-- How many operations the normal patch of a state has. -/
def costS (s : SaidS) : Nat := (if s.before = true ∧ s.deleted = true then 1 else 0) + (if s.there = true then (if s.known = true then 1 else (fieldsS s).length) else 0)
theorem cost_len (id : Int) (s : SaidS) : (delsS id s).length + (othersS id s).length = costS s := by
  unfold delsS othersS costS
  congr 1
  · split <;> rfl
  · split
    · split <;> rfl
    · rfl
theorem opt_len {α : Type} (x : Option α) : x.toList.length ≤ 1 := by cases x <;> simp
theorem put_len (s : SaidS) (o : Opn) : (fieldsS (putS s o)).length ≤ (fieldsS s).length + 1 := by
  unfold putS
  have h1 := opt_len s.mv
  have h2 := opt_len s.dp
  have h3 := opt_len s.sy
  split
  · simp only [fieldsS, List.length_append, Option.toList_some, List.length_singleton]; omega
  · split
    · simp only [fieldsS, List.length_append, Option.toList_some, List.length_singleton]; omega
    · simp only [fieldsS, List.length_append, Option.toList_some, List.length_singleton]; omega
theorem step_ok {id : Int} {s : SaidS} {o : Opn} (h : SayOk id s) (ho : OpForm o) (hoi : o.id = id) (k : (stepS s o).2 = true) : SayOk id (stepS s o).1 ∧ costS (stepS s o).1 ≤ costS s + 1 := by
  have hk := kinds_of ho
  by_cases h0 : decide (o.kind = 1) = s.there
  · unfold stepS at k
    rw [if_pos h0] at k
    cases k
  by_cases k1 : o.kind = 1
  · have hfo : FeatOk o.feat := by
      cases ho with
      | ins f hf => exact hf
      | del id hi => exact absurd k1 (by rw [kd2]; decide)
      | mov id x y rad h hr hv ho => exact absurd k1 (by rw [kd3]; decide)
      | dep id d h hd => exact absurd k1 (by rw [kd4]; decide)
      | sym id n h hn => exact absurd k1 (by rw [kd5]; decide)
    have e : stepS s o = ({ s with there := true, known := true, feat := o.feat }, true) := by
      unfold stepS
      rw [if_neg h0, if_pos k1]
    rw [e]
    refine ⟨⟨fun _ => ⟨by rw [← hoi]; exact ins_id ho k1, hfo⟩, h.mv, h.dp, h.sy⟩, ?_⟩
    have ht : s.there = false := by
      rw [k1] at h0
      cases hh : s.there with
      | false => rfl
      | true => rw [hh] at h0; exact absurd rfl h0
    unfold costS
    simp only [ht]
    simp
  by_cases k2 : o.kind = 2
  · have e : stepS s o = ({ s with there := false, known := false, deleted := true }, true) := by
      unfold stepS
      rw [if_neg h0, if_neg k1, if_pos k2]
    rw [e]
    refine ⟨⟨fun h => (by cases h), h.mv, h.dp, h.sy⟩, ?_⟩
    unfold costS
    simp only [Bool.false_eq_true, if_false, and_true, Nat.add_zero]
    split <;> omega
  cases hkn : s.known with
  | true =>
    cases hg : chgF s.feat o with
    | none =>
      unfold stepS at k
      rw [if_neg h0, if_neg k1, if_neg k2, if_pos hkn, hg] at k
      cases k
    | some g =>
      have e : stepS s o = ({ s with feat := g }, true) := by
        unfold stepS
        rw [if_neg h0, if_neg k1, if_neg k2, if_pos hkn, hg]
      rw [e]
      obtain ⟨e2, e3⟩ := h.known hkn
      refine ⟨⟨fun _ => ⟨by rw [(chgF_id hg).1]; exact e2, chgF_ok e3 ho k1 k2 hg⟩, h.mv, h.dp, h.sy⟩, ?_⟩
      unfold costS fieldsS
      simp only
      omega
  | false =>
    have e : stepS s o = (putS s o, true) := by
      unfold stepS
      rw [if_neg h0, if_neg k1, if_neg k2, if_neg (by rw [hkn]; simp)]
    rw [e]
    have hl := put_len s o
    refine ⟨⟨?_, ?_, ?_, ?_⟩, ?_⟩
    · intro hh
      unfold putS at hh
      split at hh
      · rw [hkn] at hh; cases hh
      · split at hh <;> · rw [hkn] at hh; cases hh
    · intro x hx
      unfold putS at hx
      split at hx
      · next k3 => cases hx; exact ⟨ho, k3, hoi⟩
      · split at hx <;> exact h.mv x hx
    · intro x hx
      unfold putS at hx
      split at hx
      · exact h.dp x hx
      · split at hx
        · next k4 => cases hx; exact ⟨ho, k4, hoi⟩
        · exact h.dp x hx
    · intro x hx
      unfold putS at hx
      split at hx
      · exact h.sy x hx
      · split at hx
        · exact h.sy x hx
        · cases hx
          exact ⟨ho, by omega, hoi⟩
    · have q : (putS s o).before = s.before ∧ (putS s o).deleted = s.deleted ∧ (putS s o).there = s.there ∧ (putS s o).known = s.known := by
        unfold putS
        split
        · exact ⟨rfl, rfl, rfl, rfl⟩
        · split <;> exact ⟨rfl, rfl, rfl, rfl⟩
      unfold costS
      rw [q.1, q.2.1, q.2.2.1, q.2.2.2, hkn]
      simp only [Bool.false_eq_true, if_false]
      split
      · split <;> omega
      · split <;> omega
theorem begin_cost {s : SaidS} (b : Bool) (h : s.begun = true ∨ s = said0) : costS (beginS s b) ≤ costS s := by
  rcases h with h | h
  · unfold beginS
    rw [if_pos h]
    exact Nat.le_refl _
  · subst h
    cases b <;> decide
theorem step_begun {s : SaidS} {o : Opn} (h : s.begun = true) : (stepS s o).1.begun = true := by
  unfold stepS
  split
  · exact h
  · split
    · exact h
    · split
      · exact h
      · split
        · split <;> exact h
        · unfold putS
          split
          · exact h
          · split <;> exact h
theorem begin_begun (s : SaidS) (b : Bool) : (beginS s b).begun = true := by
  unfold beginS
  split
  · next h => exact h
  · rfl
theorem says_ok {id : Int} : ∀ (a : List Opn) {s s' : SaidS}, SayOk id s → (s.begun = true ∨ s = said0) → (∀ o ∈ a, OpForm o ∧ o.id = id) → saysS a s = some s' → SayOk id s' ∧ costS s' ≤ costS s + a.length
  | [], s, s', h, _, _, k => by
    simp only [saysS, Option.some.injEq] at k
    subst k
    exact ⟨h, by simp⟩
  | o :: a, s, s', h, hs, ha, k => by
    simp only [saysS] at k
    split at k
    · next hk =>
      obtain ⟨hof, hoi⟩ := ha o (by simp)
      have h1 := begin_ok h (decide (o.kind = 1))
      obtain ⟨h2, h3⟩ := step_ok h1 hof hoi hk
      obtain ⟨h4, h5⟩ := says_ok a h2 (.inl (step_begun (begin_begun _ _))) (fun x hx => ha x (by simp [hx])) k
      have := begin_cost (decide (o.kind = 1)) hs
      refine ⟨h4, ?_⟩
      simp only [List.length_cons]
      omega
    · cases k
theorem others_form {id : Int} {s : SaidS} (h : SayOk id s) (hid : IdOk id) : ∀ o ∈ delsS id s ++ othersS id s, OpForm o ∧ o.id = id := by
  intro o ho
  rcases List.mem_append.1 ho with ho | ho
  · unfold delsS at ho
    split at ho
    · obtain rfl : o = delO id := by simpa using ho
      exact ⟨.del id hid, rfl⟩
    · simp at ho
  · unfold othersS at ho
    split at ho
    · split at ho
      · next hk =>
        obtain ⟨e, hf⟩ := h.known hk
        obtain rfl : o = ⟨1, id, s.feat, 0, 0, 0, 0, 0⟩ := by simpa using ho
        rw [← e]
        exact ⟨.ins s.feat hf, rfl⟩
      · unfold fieldsS at ho
        rcases List.mem_append.1 ho with ho | ho
        · rcases List.mem_append.1 ho with ho | ho
          · obtain ⟨a, _, b⟩ := h.mv o (Option.mem_toList.1 ho)
            exact ⟨a, b⟩
          · obtain ⟨a, _, b⟩ := h.dp o (Option.mem_toList.1 ho)
            exact ⟨a, b⟩
        · obtain ⟨a, _, b⟩ := h.sy o (Option.mem_toList.1 ho)
          exact ⟨a, b⟩
    · simp at ho
end Go.Proofs.YtpidmgkjnomigaaGreat
/- Plain laws of chapter 17: the normal patch leads to the same, is not longer, and is its own normal patch. -/
namespace Go.Proofs.YtpidmgkjnomigaaGreat
set_option linter.unusedVariables false
def TouchL (ops : List Opn) (ids : List Int) : Prop := ids.Pairwise (· < ·) ∧ ∀ id, id ∈ ids ↔ ∃ o ∈ ops, o.id = id
def sayD (id : Int) (ops : List Opn) : SaidS := (saysS (ofId id ops) said0).getD said0
def normL (ids : List Int) (ops : List Opn) : List Opn := ids.flatMap (fun id => delsS id (sayD id ops)) ++ ids.flatMap (fun id => othersS id (sayD id ops))
def SaysAll (ids : List Int) (ops : List Opn) : Prop := ∀ id ∈ ids, (saysS (ofId id ops) said0).isSome = true
theorem touch_nodup {ops : List Opn} {ids : List Int} (h : TouchL ops ids) : ids.Nodup := h.1.imp fun h e => by rw [e] at h; exact absurd h (by omega)
theorem ofId_none {id : Int} {l : List Opn} (h : ∀ o ∈ l, o.id ≠ id) : ofId id l = [] := List.filter_eq_nil_iff.2 fun o ho => by simpa using h o ho
theorem ofId_all {id : Int} {l : List Opn} (h : ∀ o ∈ l, o.id = id) : ofId id l = l := List.filter_eq_self.2 fun o ho => by simpa using h o ho
theorem ofId_flat {F : Int → List Opn} (id : Int) : ∀ ids : List Int, ids.Nodup → (∀ k ∈ ids, ∀ o ∈ F k, o.id = k) → ofId id (ids.flatMap F) = if id ∈ ids then F id else []
  | [], _, _ => rfl
  | k :: ids, hn, h => by
    obtain ⟨h1, h2⟩ := List.nodup_cons.1 hn
    have ih := ofId_flat id ids h2 (fun j hj => h j (by simp [hj]))
    rw [List.flatMap_cons, ofId_append, ih]
    by_cases e : k = id
    · subst e
      rw [ofId_all (h k (by simp)), if_neg h1, if_pos (by simp), List.append_nil]
    · rw [ofId_none (fun o ho => by rw [h k (by simp) o ho]; exact e), List.nil_append]
      by_cases hm : id ∈ ids
      · rw [if_pos hm, if_pos (by simp [hm])]
      · rw [if_neg hm, if_neg (by simp [hm]; exact fun h => e h.symm)]
theorem sayD_ok {id : Int} {ops : List Opn} (ho : ∀ o ∈ ops, OpForm o) : SayOk id (sayD id ops) ∧ costS (sayD id ops) ≤ (ofId id ops).length := by
  unfold sayD
  cases h : saysS (ofId id ops) said0 with
  | none => exact ⟨sayOk0 id, by simp [costS, said0]⟩
  | some s =>
    obtain ⟨h1, h2⟩ := says_ok (ofId id ops) (sayOk0 id) (.inr rfl) (fun o h => ⟨ho o (mem_ofId.1 h).1, (mem_ofId.1 h).2⟩) h
    refine ⟨h1, ?_⟩
    have : costS said0 = 0 := by decide
    simp only [Option.getD_some]
    omega
theorem id_ok {ops : List Opn} {ids : List Int} (ho : ∀ o ∈ ops, OpForm o) (ht : TouchL ops ids) {id : Int} (h : id ∈ ids) : IdOk id := by
  obtain ⟨o, hm, rfl⟩ := (ht.2 id).1 h
  exact (opOk_form (ho o hm)).1
theorem norm_form {ops : List Opn} {ids : List Int} (ho : ∀ o ∈ ops, OpForm o) (ht : TouchL ops ids) : ∀ o ∈ normL ids ops, OpForm o ∧ o.id ∈ ids := by
  intro o h
  unfold normL at h
  rcases List.mem_append.1 h with h | h
  · obtain ⟨id, hid, hm⟩ := List.mem_flatMap.1 h
    obtain ⟨a, b⟩ := others_form (sayD_ok ho).1 (id_ok ho ht hid) o (List.mem_append_left _ hm)
    exact ⟨a, by rw [b]; exact hid⟩
  · obtain ⟨id, hid, hm⟩ := List.mem_flatMap.1 h
    obtain ⟨a, b⟩ := others_form (sayD_ok ho).1 (id_ok ho ht hid) o (List.mem_append_right _ hm)
    exact ⟨a, by rw [b]; exact hid⟩
theorem norm_of {ops : List Opn} {ids : List Int} (ho : ∀ o ∈ ops, OpForm o) (ht : TouchL ops ids) (id : Int) : ofId id (normL ids ops) = if id ∈ ids then delsS id (sayD id ops) ++ othersS id (sayD id ops) else [] := by
  unfold normL
  rw [ofId_append, ofId_flat id ids (touch_nodup ht) (fun k hk o h => (others_form (sayD_ok ho).1 (id_ok ho ht hk) o (List.mem_append_left _ h)).2), ofId_flat id ids (touch_nodup ht) (fun k hk o h => (others_form (sayD_ok ho).1 (id_ok ho ht hk) o (List.mem_append_right _ h)).2)]
  split <;> simp
theorem part_len (k : Int) : ∀ ops : List Opn, (ofId k ops).length + (ops.filter fun o => decide (o.id ≠ k)).length = ops.length
  | [] => rfl
  | o :: ops => by
    have ih := part_len k ops
    rw [ofId_cons, List.filter_cons]
    by_cases h : o.id = k
    · rw [if_pos h, if_neg (by simpa using h), List.length_cons, List.length_cons]
      omega
    · rw [if_neg h, if_pos (by simpa using h), List.length_cons, List.length_cons]
      omega
theorem sum_len : ∀ (ids : List Int) (ops : List Opn), ids.Nodup → (ids.map fun id => (ofId id ops).length).sum ≤ ops.length
  | [], ops, _ => by simp
  | k :: ids, ops, hn => by
    obtain ⟨h1, h2⟩ := List.nodup_cons.1 hn
    have ih := sum_len ids (ops.filter fun o => decide (o.id ≠ k)) h2
    have e : (ids.map fun id => (ofId id (ops.filter fun o => decide (o.id ≠ k))).length) = ids.map fun id => (ofId id ops).length := by
      apply List.map_congr_left
      intro id hid
      congr 1
      unfold ofId
      rw [List.filter_filter]
      apply List.filter_congr
      intro o _
      by_cases h : o.id = id
      · have : id ≠ k := fun e => h1 (e ▸ hid)
        simp [h, this]
      · simp [h]
    rw [e] at ih
    have hl := part_len k ops
    rw [List.map_cons, List.sum_cons]
    omega
theorem flat_sum (F : Int → List Opn) : ∀ ids : List Int, (ids.flatMap F).length = (ids.map fun id => (F id).length).sum
  | [] => rfl
  | k :: ids => by rw [List.flatMap_cons, List.length_append, List.map_cons, List.sum_cons, flat_sum F ids]
theorem norm_len {ops : List Opn} {ids : List Int} (ho : ∀ o ∈ ops, OpForm o) (ht : TouchL ops ids) : (normL ids ops).length ≤ ops.length := by
  refine Nat.le_trans ?_ (sum_len ids ops (touch_nodup ht))
  unfold normL
  rw [List.length_append, flat_sum, flat_sum]
  clear ht
  induction ids with
  | nil => simp
  | cons k ids ih =>
    simp only [List.map_cons, List.sum_cons]
    have h1 := cost_len k (sayD k ops)
    have h2 := (sayD_ok (id := k) ho).2
    omega
theorem norm_run {l x : List Feat} {ops bs : List Opn} {ids : List Int} (hl : FeatsOk l) (ho : ∀ o ∈ ops, OpForm o) (ht : TouchL ops ids) (hlen : l.length + ops.length ≤ 300) (h : runO l ops = .ok (x, bs)) : SaysAll ids ops ∧ ∃ cs, runO l (normL ids ops) = .ok (x, cs) := by
  obtain ⟨hx, _, hxa⟩ := run_acts ops hl ho h
  have key : ∀ id ∈ ids, ∃ s, saysS (ofId id ops) said0 = some s ∧ Says id s (look l id) (look x id) := fun id hid => by
    obtain ⟨o, hm, hi⟩ := (ht.2 id).1 hid
    exact says_all (fun e => by
      have : o ∈ ofId id ops := mem_ofId.2 ⟨hm, hi⟩
      rw [e] at this
      simp at this) (fun o h => ⟨ho o (mem_ofId.1 h).1, (mem_ofId.1 h).2⟩) (hxa id)
  refine ⟨fun id hid => by obtain ⟨s, hs, _⟩ := key id hid; rw [hs]; rfl, ?_⟩
  have hof := fun o h => (norm_form ho ht o h).1
  have hall : ∀ id, acts (ofId id (normL ids ops)) (look l id) = .ok (look x id) := fun id => by
    rw [norm_of ho ht]
    by_cases hid : id ∈ ids
    · rw [if_pos hid]
      obtain ⟨s, hs, hsay⟩ := key id hid
      have e : sayD id ops = s := by unfold sayD; rw [hs]; rfl
      rw [e]
      exact says_acts hsay
    · rw [if_neg hid]
      have := hxa id
      rw [ofId_none (fun o h e => hid ((ht.2 id).2 ⟨o, h, e⟩))] at this
      exact this
  have hnl := norm_len ho ht
  obtain ⟨x', cs, hr⟩ := acts_run (normL ids ops) hl hof (by omega) (fun id => ⟨_, hall id⟩)
  obtain ⟨hx', _, hxa'⟩ := run_acts (normL ids ops) hl hof hr
  have : x' = x := ups_look (featsOk_iff.1 hx').2.1 (featsOk_iff.1 hx).2.1 fun id => by
    have h1 := hxa' id
    rw [hall id, Except.ok.injEq] at h1
    exact h1.symm
  subst this
  exact ⟨cs, hr⟩
end Go.Proofs.YtpidmgkjnomigaaGreat
/- Plain laws of chapter 17: the normal patch is its own normal patch. -/
namespace Go.Proofs.YtpidmgkjnomigaaGreat
set_option linter.unusedVariables false
/-- What a state that was reached says: what is there and not known was there first, and never deleted. -/
def Kept (s : SaidS) : Prop := s.there = true → s.known = false → s.before = true ∧ s.deleted = false
theorem kept_begin {s : SaidS} (b : Bool) (h : Kept s) (hs : s.begun = true ∨ s = said0) : Kept (beginS s b) := by
  rcases hs with hs | hs
  · unfold beginS
    rw [if_pos hs]
    exact h
  · subst hs
    intro ht _
    cases b with
    | true => cases ht
    | false => exact ⟨rfl, rfl⟩
theorem kept_step {s : SaidS} {o : Opn} (h : Kept s) : Kept (stepS s o).1 := by
  unfold stepS
  split
  · exact h
  · split
    · intro _ hk
      cases hk
    · split
      · intro ht _
        cases ht
      · split
        · next hk =>
          split
          · exact h
          · intro _ hk'
            simp only at hk'
            rw [hk] at hk'
            cases hk'
        · unfold putS
          split
          · exact h
          · split <;> exact h
theorem kept_says : ∀ (a : List Opn) {s s' : SaidS}, Kept s → (s.begun = true ∨ s = said0) → saysS a s = some s' → Kept s'
  | [], s, s', h, _, k => by
    simp only [saysS, Option.some.injEq] at k
    subst k
    exact h
  | o :: a, s, s', h, hs, k => by
    simp only [saysS] at k
    split at k
    · exact kept_says a (kept_step (kept_begin _ h hs)) (.inl (step_begun (begin_begun _ _))) k
    · cases k
theorem kept0 : Kept said0 := fun h => by cases h
/-- The normal patch of an ID says the same of it. -/
theorem say_again {id : Int} {s : SaidS} (h : SayOk id s) (hk : Kept s) : ∃ s2, saysS (delsS id s ++ othersS id s) said0 = some s2 ∧ delsS id s2 = delsS id s ∧ othersS id s2 = othersS id s := by
  obtain ⟨begun, before, deleted, there, known, feat, mv, dp, sy⟩ := s
  obtain ⟨_, hmv, hdp, hsy⟩ := h
  simp only at hmv hdp hsy
  cases there with
  | false =>
    cases before <;> cases deleted
    · exact ⟨_, rfl, rfl, rfl⟩
    · exact ⟨_, rfl, rfl, rfl⟩
    · exact ⟨_, rfl, rfl, rfl⟩
    · exact ⟨_, rfl, rfl, rfl⟩
  | true =>
    cases known with
    | true =>
      cases before <;> cases deleted
      · exact ⟨_, rfl, rfl, rfl⟩
      · exact ⟨_, rfl, rfl, rfl⟩
      · exact ⟨_, rfl, rfl, rfl⟩
      · exact ⟨_, rfl, rfl, rfl⟩
    | false =>
      obtain ⟨h1, h2⟩ := hk rfl rfl
      simp only at h1 h2
      subst h1 h2
      have e : delsS id ⟨begun, true, false, true, false, feat, mv, dp, sy⟩ ++ othersS id ⟨begun, true, false, true, false, feat, mv, dp, sy⟩ = mv.toList ++ dp.toList ++ sy.toList := rfl
      rw [e]
      have kk : ∀ (o : Opn) (s : SaidS), o.kind ≠ 1 → o.kind ≠ 2 → s.known = false → s.begun = true → s.there = true → (hearS s o) = (putS s o, true) := fun o s k1 k2 hkn hb ht => by
        unfold hearS beginS
        rw [if_pos hb]
        unfold stepS
        rw [ht, if_neg (by simp [k1]), if_neg k1, if_neg k2, if_neg (by rw [hkn]; simp)]
      have k0 : ∀ (o : Opn), o.kind ≠ 1 → o.kind ≠ 2 → hearS said0 o = (putS ⟨true, true, false, true, false, noFeat, none, none, none⟩ o, true) := fun o k1 k2 => by
        unfold hearS beginS
        rw [if_neg (by simp [said0])]
        unfold stepS
        simp only [said0, k1, decide_false, Bool.not_false]
        rw [if_neg (by simp), if_neg (by simp), if_neg k2, if_neg (by simp)]
      have pm : ∀ (o : Opn) (s : SaidS), o.kind = 3 → putS s o = { s with mv := some o } := fun o s k => by unfold putS; rw [if_pos k]
      have pd : ∀ (o : Opn) (s : SaidS), o.kind = 4 → putS s o = { s with dp := some o } := fun o s k => by unfold putS; rw [if_neg (by omega), if_pos k]
      have ps : ∀ (o : Opn) (s : SaidS), o.kind = 5 → putS s o = { s with sy := some o } := fun o s k => by unfold putS; rw [if_neg (by omega), if_neg (by omega)]
      cases mv with
      | none =>
        cases dp with
        | none =>
          cases sy with
          | none => exact ⟨said0, rfl, rfl, rfl⟩
          | some c =>
            obtain ⟨_, c5, _⟩ := hsy c rfl
            refine ⟨⟨true, true, false, true, false, noFeat, none, none, some c⟩, ?_, rfl, rfl⟩
            simp only [Option.toList, List.nil_append, List.append_nil, saysS]
            rw [k0 c (by omega) (by omega), if_pos rfl, ps c _ c5]
        | some b =>
          obtain ⟨_, b4, _⟩ := hdp b rfl
          cases sy with
          | none =>
            refine ⟨⟨true, true, false, true, false, noFeat, none, some b, none⟩, ?_, rfl, rfl⟩
            simp only [Option.toList, List.nil_append, List.append_nil, saysS]
            rw [k0 b (by omega) (by omega), if_pos rfl, pd b _ b4]
          | some c =>
            obtain ⟨_, c5, _⟩ := hsy c rfl
            refine ⟨⟨true, true, false, true, false, noFeat, none, some b, some c⟩, ?_, rfl, rfl⟩
            simp only [Option.toList, List.nil_append, List.cons_append, saysS]
            rw [k0 b (by omega) (by omega), if_pos rfl, pd b _ b4, kk c _ (by omega) (by omega) rfl rfl rfl, if_pos rfl, ps c _ c5]
      | some a =>
        obtain ⟨_, a3, _⟩ := hmv a rfl
        cases dp with
        | none =>
          cases sy with
          | none =>
            refine ⟨⟨true, true, false, true, false, noFeat, some a, none, none⟩, ?_, rfl, rfl⟩
            simp only [Option.toList, List.append_nil, saysS]
            rw [k0 a (by omega) (by omega), if_pos rfl, pm a _ a3]
          | some c =>
            obtain ⟨_, c5, _⟩ := hsy c rfl
            refine ⟨⟨true, true, false, true, false, noFeat, some a, none, some c⟩, ?_, rfl, rfl⟩
            simp only [Option.toList, List.nil_append, List.append_nil, List.cons_append, saysS]
            rw [k0 a (by omega) (by omega), if_pos rfl, pm a _ a3, kk c _ (by omega) (by omega) rfl rfl rfl, if_pos rfl, ps c _ c5]
        | some b =>
          obtain ⟨_, b4, _⟩ := hdp b rfl
          cases sy with
          | none =>
            refine ⟨⟨true, true, false, true, false, noFeat, some a, some b, none⟩, ?_, rfl, rfl⟩
            simp only [Option.toList, List.nil_append, List.append_nil, List.cons_append, saysS]
            rw [k0 a (by omega) (by omega), if_pos rfl, pm a _ a3, kk b _ (by omega) (by omega) rfl rfl rfl, if_pos rfl, pd b _ b4]
          | some c =>
            obtain ⟨_, c5, _⟩ := hsy c rfl
            refine ⟨⟨true, true, false, true, false, noFeat, some a, some b, some c⟩, ?_, rfl, rfl⟩
            simp only [Option.toList, List.nil_append, List.cons_append, saysS]
            rw [k0 a (by omega) (by omega), if_pos rfl, pm a _ a3, kk b _ (by omega) (by omega) rfl rfl rfl, if_pos rfl, pd b _ b4, kk c _ (by omega) (by omega) rfl rfl rfl, if_pos rfl, ps c _ c5]
theorem sayD_kept (id : Int) (ops : List Opn) : Kept (sayD id ops) := by
  unfold sayD
  cases h : saysS (ofId id ops) said0 with
  | none => exact kept0
  | some s => exact kept_says (ofId id ops) kept0 (.inr rfl) h
theorem flat_filter {F : Int → List Opn} {p : Int → Bool} : ∀ ids : List Int, (∀ id ∈ ids, p id = false → F id = []) → (ids.filter p).flatMap F = ids.flatMap F
  | [], _ => rfl
  | k :: ids, h => by
    have ih := flat_filter ids (fun id hid => h id (by simp [hid]))
    rw [List.filter_cons, List.flatMap_cons]
    cases hp : p k with
    | true => rw [if_pos rfl, List.flatMap_cons, ih]
    | false => rw [if_neg (by simp), ih, h k (by simp) hp, List.nil_append]
theorem flat_congr {F G : Int → List Opn} : ∀ {ids : List Int}, (∀ id ∈ ids, F id = G id) → ids.flatMap F = ids.flatMap G
  | [], _ => rfl
  | k :: ids, h => by rw [List.flatMap_cons, List.flatMap_cons, h k (by simp), flat_congr (fun id hid => h id (by simp [hid]))]
theorem norm_norm {ops : List Opn} {ids ids' : List Int} (ho : ∀ o ∈ ops, OpForm o) (ht : TouchL ops ids) (ht' : TouchL (normL ids ops) ids') : SaysAll ids' (normL ids ops) ∧ normL ids' (normL ids ops) = normL ids ops := by
  have again : ∀ id, ∃ s2, saysS (delsS id (sayD id ops) ++ othersS id (sayD id ops)) said0 = some s2 ∧ delsS id s2 = delsS id (sayD id ops) ∧ othersS id s2 = othersS id (sayD id ops) := fun id => say_again (sayD_ok ho).1 (sayD_kept id ops)
  have hids : ids' = ids.filter fun id => !(delsS id (sayD id ops) ++ othersS id (sayD id ops)).isEmpty := by
    refine rise_ext ht'.1 (ht.1.filter _) fun id => ?_
    rw [ht'.2, List.mem_filter]
    constructor
    · rintro ⟨o, hm, hi⟩
      have h1 : o ∈ ofId id (normL ids ops) := mem_ofId.2 ⟨hm, hi⟩
      rw [norm_of ho ht] at h1
      by_cases hid : id ∈ ids
      · rw [if_pos hid] at h1
        refine ⟨hid, ?_⟩
        cases hh : delsS id (sayD id ops) ++ othersS id (sayD id ops) with
        | nil => rw [hh] at h1; simp at h1
        | cons x y => rfl
      · rw [if_neg hid] at h1
        simp at h1
    · rintro ⟨hid, hne⟩
      cases hh : delsS id (sayD id ops) ++ othersS id (sayD id ops) with
      | nil => rw [hh] at hne; simp at hne
      | cons x y =>
        have h1 : x ∈ ofId id (normL ids ops) := by rw [norm_of ho ht, if_pos hid, hh]; simp
        exact ⟨x, (mem_ofId.1 h1).1, (mem_ofId.1 h1).2⟩
  have hsay : ∀ id ∈ ids', saysS (ofId id (normL ids ops)) said0 = saysS (delsS id (sayD id ops) ++ othersS id (sayD id ops)) said0 := fun id hid => by
    rw [hids] at hid
    rw [norm_of ho ht, if_pos (List.mem_filter.1 hid).1]
  refine ⟨fun id hid => ?_, ?_⟩
  · obtain ⟨s2, h2, _⟩ := again id
    rw [hsay id hid, h2]
    rfl
  · have e1 : ids'.flatMap (fun id => delsS id (sayD id (normL ids ops))) = ids'.flatMap fun id => delsS id (sayD id ops) := by
      apply flat_congr
      intro id hid
      obtain ⟨s2, h2, h3, _⟩ := again id
      rw [show sayD id (normL ids ops) = s2 by unfold sayD; rw [hsay id hid, h2]; rfl, h3]
    have e2 : ids'.flatMap (fun id => othersS id (sayD id (normL ids ops))) = ids'.flatMap fun id => othersS id (sayD id ops) := by
      apply flat_congr
      intro id hid
      obtain ⟨s2, h2, _, h4⟩ := again id
      rw [show sayD id (normL ids ops) = s2 by unfold sayD; rw [hsay id hid, h2]; rfl, h4]
    have e3 : normL ids' (normL ids ops) = ids'.flatMap (fun id => delsS id (sayD id (normL ids ops))) ++ ids'.flatMap (fun id => othersS id (sayD id (normL ids ops))) := rfl
    rw [e3, e1, e2, hids]
    have hz : ∀ id ∈ ids, (!(delsS id (sayD id ops) ++ othersS id (sayD id ops)).isEmpty) = false → delsS id (sayD id ops) = [] ∧ othersS id (sayD id ops) = [] := fun id _ h => by
      cases hh : delsS id (sayD id ops) ++ othersS id (sayD id ops) with
      | nil => exact List.append_eq_nil_iff.1 hh
      | cons x y => rw [hh] at h; cases h
    rw [flat_filter ids (fun id hid h => (hz id hid h).1), flat_filter ids (fun id hid h => (hz id hid h).2)]
    rfl
end Go.Proofs.YtpidmgkjnomigaaGreat
/- Plain laws of chapter 17: the difference of two lists. -/
namespace Go.Proofs.YtpidmgkjnomigaaGreat
set_option linter.unusedVariables false
def fieldOps (f g : Feat) : List Opn := (if f.x ≠ g.x ∨ f.y ≠ g.y ∨ f.rad ≠ g.rad then [movO g.id g.x g.y g.rad] else []) ++ (if f.dep ≠ g.dep then [depO g.id g.dep] else []) ++ (if f.sym ≠ g.sym then [symO g.id g.sym] else [])
/-- The operations that make the fields of f those of g; none: more than these differ. -/
def diffF (f g : Feat) : Option (List Opn) :=
  match acts (fieldOps f g) (some f) with
  | .ok (some h) => if h = g then some (fieldOps f g) else none
  | _ => none
def goneF (b : List Feat) (f : Feat) : List Opn :=
  match look b f.id with
  | some g => if (diffF f g).isSome = true then [] else [delO f.id]
  | none => [delO f.id]
def newF (a : List Feat) (g : Feat) : List Opn :=
  match look a g.id with
  | some f => match diffF f g with
    | some os => os
    | none => [insO g]
  | none => [insO g]
def diffL (a b : List Feat) : List Opn := a.flatMap (goneF b) ++ b.flatMap (newF a)
theorem diffF_acts {f g : Feat} {os : List Opn} (h : diffF f g = some os) : os = fieldOps f g ∧ acts os (some f) = .ok (some g) := by
  unfold diffF at h
  split at h
  · next k hk =>
    split at h
    · next e =>
      cases h
      rw [e] at hk
      exact ⟨rfl, hk⟩
    · cases h
  · cases h
theorem fieldOps_id {f g : Feat} : ∀ o ∈ fieldOps f g, o.id = g.id := by
  intro o h
  unfold fieldOps at h
  rcases List.mem_append.1 h with h | h
  · rcases List.mem_append.1 h with h | h
    · split at h
      · obtain rfl : o = movO g.id g.x g.y g.rad := by simpa using h
        rfl
      · simp at h
    · split at h
      · obtain rfl : o = depO g.id g.dep := by simpa using h
        rfl
      · simp at h
  · split at h
    · obtain rfl : o = symO g.id g.sym := by simpa using h
      rfl
    · simp at h
theorem diffF_self (f : Feat) : diffF f f = some [] := by
  have e : fieldOps f f = [] := by simp [fieldOps]
  unfold diffF
  rw [e]
  simp [acts]
theorem diff_self {a : List Feat} (h : idsUp a) : diffL a a = [] := by
  unfold diffL
  rw [List.append_eq_nil_iff]
  constructor
  · rw [List.flatMap_eq_nil_iff]
    intro f hf
    unfold goneF
    rw [look_mem h hf]
    simp only
    rw [diffF_self]
    rfl
  · rw [List.flatMap_eq_nil_iff]
    intro f hf
    unfold newF
    rw [look_mem h hf]
    simp only
    rw [diffF_self]
theorem gone_id {b : List Feat} {f : Feat} : ∀ o ∈ goneF b f, o.id = f.id := by
  intro o h
  unfold goneF at h
  split at h
  · split at h
    · simp at h
    · obtain rfl : o = delO f.id := by simpa using h
      rfl
  · obtain rfl : o = delO f.id := by simpa using h
    rfl
theorem new_id {a : List Feat} {g : Feat} : ∀ o ∈ newF a g, o.id = g.id := by
  intro o h
  unfold newF at h
  split at h
  · split at h
    · next os hos =>
      rw [(diffF_acts hos).1] at h
      exact fieldOps_id o h
    · obtain rfl : o = insO g := by simpa using h
      rfl
  · obtain rfl : o = insO g := by simpa using h
    rfl
theorem ofId_feats {F : Feat → List Opn} (hF : ∀ f, ∀ o ∈ F f, o.id = f.id) (id : Int) : ∀ {l : List Feat}, idsUp l → ofId id (l.flatMap F) = match look l id with
    | some f => F f
    | none => []
  | [], _ => rfl
  | g :: l, h => by
    have hg := List.pairwise_cons.1 h
    rw [List.flatMap_cons, ofId_append, ofId_feats hF id hg.2, look_cons]
    by_cases e : g.id = id
    · rw [if_pos e, ofId_all (fun o ho => by rw [hF g o ho, e]), look_off (fun x hx => by have := hg.1 x hx; omega)]
      simp
    · rw [if_neg e, ofId_none (fun o ho => by rw [hF g o ho]; exact e), List.nil_append]
theorem diff_of {a b : List Feat} (ha : idsUp a) (hb : idsUp b) (id : Int) : ofId id (diffL a b) = (match look a id with | some f => goneF b f | none => []) ++ (match look b id with | some g => newF a g | none => []) := by
  unfold diffL
  rw [ofId_append, ofId_feats (fun f => gone_id) id ha, ofId_feats (fun g => new_id) id hb]
theorem diff_acts {a b : List Feat} (ha : idsUp a) (hb : idsUp b) (id : Int) : acts (ofId id (diffL a b)) (look a id) = .ok (look b id) := by
  rw [diff_of ha hb]
  cases hla : look a id with
  | none =>
    cases hlb : look b id with
    | none => rfl
    | some g =>
      have hg := (look_some hlb).2
      simp only [List.nil_append]
      unfold newF
      rw [hg, hla]
      rfl
  | some f =>
    have hf := (look_some hla).2
    cases hlb : look b id with
    | none =>
      simp only [List.append_nil]
      unfold goneF
      rw [hf, hlb]
      rfl
    | some g =>
      have hg := (look_some hlb).2
      simp only
      unfold goneF newF
      rw [hf, hlb, hg, hla]
      simp only
      cases hd : diffF f g with
      | none => rfl
      | some os =>
        simp only [Option.isSome_some, if_true, List.nil_append]
        exact (diffF_acts hd).2
end Go.Proofs.YtpidmgkjnomigaaGreat
/- Plain laws of chapter 17: the difference leads from the one list to the other, and is a normal patch. -/
namespace Go.Proofs.YtpidmgkjnomigaaGreat
set_option linter.unusedVariables false
theorem vld_zero : Vld 0 0 := by constructor <;> omega
theorem feat_move {g : Feat} (h : FeatOk g) : OpForm (movO g.id g.x g.y g.rad) := by
  have hm := h.2
  unfold FormR at hm
  refine .mov _ _ _ _ (featOk_id h) h.1.2.2.2 ?_ ?_
  · by_cases hd : DiscK g.kind
    · rw [if_pos hd] at hm
      exact hm.1
    · rw [if_neg hd] at hm
      split at hm
      · rw [hm.2.1, hm.2.2.1]
        exact vld_zero
      · exact hm.2.1
  · by_cases hd : DiscK g.kind
    · rw [if_pos hd] at hm
      exact hm.2.1
    · rw [if_neg hd] at hm
      unfold RoomOk
      split at hm
      · rw [hm.2.1, hm.2.2.1, hm.2.2.2.1]
        exact ⟨vld_zero, vld_zero⟩
      · rw [hm.2.2.2.1, Int.sub_zero, Int.sub_zero, Int.add_zero, Int.add_zero]
        exact ⟨hm.2.1, hm.2.1⟩
theorem fieldOps_form {f g : Feat} (h : FeatOk g) : ∀ o ∈ fieldOps f g, OpForm o := by
  intro o ho
  unfold fieldOps at ho
  rcases List.mem_append.1 ho with ho | ho
  · rcases List.mem_append.1 ho with ho | ho
    · split at ho
      · obtain rfl : o = movO g.id g.x g.y g.rad := by simpa using ho
        exact feat_move h
      · simp at ho
    · split at ho
      · obtain rfl : o = depO g.id g.dep := by simpa using ho
        exact .dep _ _ (featOk_id h) h.1.2.2.1
      · simp at ho
  · split at ho
    · obtain rfl : o = symO g.id g.sym := by simpa using ho
      exact .sym _ _ (featOk_id h) h.1.2.1
    · simp at ho
theorem gone_form {b : List Feat} {f : Feat} (h : FeatOk f) : (∀ o ∈ goneF b f, OpForm o) ∧ (goneF b f).length ≤ 1 := by
  unfold goneF
  split
  · split
    · exact ⟨fun o ho => (by simp at ho), by simp⟩
    · exact ⟨fun o ho => by
        obtain rfl : o = delO f.id := by simpa using ho
        exact .del _ (featOk_id h), by simp⟩
  · exact ⟨fun o ho => by
      obtain rfl : o = delO f.id := by simpa using ho
      exact .del _ (featOk_id h), by simp⟩
theorem fieldOps_len (f g : Feat) : (fieldOps f g).length ≤ 3 := by
  unfold fieldOps
  simp only [List.length_append]
  split <;> split <;> split <;> simp
theorem new_form {a : List Feat} {g : Feat} (h : FeatOk g) : (∀ o ∈ newF a g, OpForm o) ∧ (newF a g).length ≤ 3 := by
  have hi : (∀ o ∈ [insO g], OpForm o) ∧ [insO g].length ≤ 3 := ⟨fun o ho => by
    obtain rfl : o = insO g := by simpa using ho
    exact .ins g h, by simp⟩
  unfold newF
  split
  · split
    · next os hos =>
      rw [(diffF_acts hos).1]
      exact ⟨fieldOps_form h, fieldOps_len _ _⟩
    · exact hi
  · exact hi
theorem diff_form {a b : List Feat} (ha : FeatsOk a) (hb : FeatsOk b) : ∀ o ∈ diffL a b, OpForm o := by
  intro o ho
  unfold diffL at ho
  rcases List.mem_append.1 ho with ho | ho
  · obtain ⟨f, hf, hm⟩ := List.mem_flatMap.1 ho
    exact (gone_form (featsOk_mem ha f hf)).1 o hm
  · obtain ⟨g, hg, hm⟩ := List.mem_flatMap.1 ho
    exact (new_form (featsOk_mem hb g hg)).1 o hm
theorem flat_most {α β : Type} {F : α → List β} {n : Nat} : ∀ {l : List α}, (∀ x ∈ l, (F x).length ≤ n) → (l.flatMap F).length ≤ l.length * n
  | [], _ => by simp
  | x :: l, h => by
    have ih := flat_most (F := F) (l := l) (fun y hy => h y (by simp [hy]))
    have := h x (by simp)
    rw [List.flatMap_cons, List.length_append, List.length_cons, Nat.add_mul]
    omega
theorem diff_len {a b : List Feat} (ha : FeatsOk a) (hb : FeatsOk b) : (diffL a b).length ≤ a.length * 1 + b.length * 3 := by
  unfold diffL
  rw [List.length_append]
  have h1 := flat_most (l := a) (F := goneF b) (fun f hf => (gone_form (b := b) (featsOk_mem ha f hf)).2)
  have h2 := flat_most (l := b) (F := newF a) (fun g hg => (new_form (a := a) (featsOk_mem hb g hg)).2)
  omega
theorem diff_run {a b : List Feat} (ha : FeatsOk a) (hb : FeatsOk b) (hlen : a.length + (diffL a b).length ≤ 300) : ∃ bs, runO a (diffL a b) = .ok (b, bs) := by
  have hu := (featsOk_iff.1 ha).2.1
  have hv := (featsOk_iff.1 hb).2.1
  obtain ⟨x, bs, hr⟩ := acts_run (diffL a b) ha (diff_form ha hb) hlen (fun id => ⟨_, diff_acts hu hv id⟩)
  obtain ⟨hx, _, hxa⟩ := run_acts (diffL a b) ha (diff_form ha hb) hr
  have : x = b := ups_look (featsOk_iff.1 hx).2.1 hv fun id => by
    have h1 := hxa id
    rw [diff_acts hu hv id, Except.ok.injEq] at h1
    exact h1.symm
  subst this
  exact ⟨bs, hr⟩
/-- Parts of a difference, by ID. -/
def goneI (a b : List Feat) (id : Int) : List Opn := match look a id with | some f => goneF b f | none => []
def newI (a b : List Feat) (id : Int) : List Opn := match look b id with | some g => newF a g | none => []
theorem ite_toList {p : Prop} [Decidable p] (x : Opn) : (if p then some x else none).toList = if p then [x] else [] := by split <;> rfl
theorem diff_state {a b : List Feat} (ha : FeatsOk a) (hb : FeatsOk b) (id : Int) : ∃ s, SayOk id s ∧ Kept s ∧ delsS id s = goneI a b id ∧ othersS id s = newI a b id := by
  unfold goneI newI
  cases hla : look a id with
  | none =>
    cases hlb : look b id with
    | none => exact ⟨said0, sayOk0 id, kept0, rfl, rfl⟩
    | some g =>
      obtain ⟨hgo, hg⟩ := look_ok hb hlb
      refine ⟨⟨true, false, false, true, true, g, none, none, none⟩, ⟨fun _ => ⟨hg, hgo⟩, fun o h => (by cases h), fun o h => (by cases h), fun o h => (by cases h)⟩, fun _ h => (by cases h), rfl, ?_⟩
      simp only
      unfold newF
      rw [hg, hla]
      show [(⟨1, id, g, 0, 0, 0, 0, 0⟩ : Opn)] = [insO g]
      rw [← hg]
      rfl
  | some f =>
    obtain ⟨hfo, hf⟩ := look_ok ha hla
    cases hlb : look b id with
    | none =>
      refine ⟨⟨true, true, true, false, false, f, none, none, none⟩, ⟨fun h => (by cases h), fun o h => (by cases h), fun o h => (by cases h), fun o h => (by cases h)⟩, fun h => (by cases h), ?_, rfl⟩
      simp only
      unfold goneF
      rw [hf, hlb]
      rfl
    | some g =>
      obtain ⟨hgo, hg⟩ := look_ok hb hlb
      simp only
      unfold goneF newF
      rw [hf, hlb, hg, hla]
      simp only
      cases hd : diffF f g with
      | none =>
        refine ⟨⟨true, true, true, true, true, g, none, none, none⟩, ⟨fun _ => ⟨hg, hgo⟩, fun o h => (by cases h), fun o h => (by cases h), fun o h => (by cases h)⟩, fun _ h => (by cases h), rfl, ?_⟩
        show [(⟨1, id, g, 0, 0, 0, 0, 0⟩ : Opn)] = [insO g]
        rw [← hg]
        rfl
      | some os =>
        rw [(diffF_acts hd).1]
        simp only [Option.isSome_some, if_true]
        refine ⟨⟨true, true, false, true, false, noFeat, (if f.x ≠ g.x ∨ f.y ≠ g.y ∨ f.rad ≠ g.rad then some (movO g.id g.x g.y g.rad) else none), (if f.dep ≠ g.dep then some (depO g.id g.dep) else none), (if f.sym ≠ g.sym then some (symO g.id g.sym) else none)⟩, ⟨fun h => (by cases h), fun o h => ?_, fun o h => ?_, fun o h => ?_⟩, fun _ _ => ⟨rfl, rfl⟩, rfl, ?_⟩
        · simp only at h
          split at h
          · cases h; exact ⟨feat_move hgo, rfl, hg⟩
          · cases h
        · simp only at h
          split at h
          · cases h; exact ⟨.dep _ _ (featOk_id hgo) hgo.1.2.2.1, rfl, hg⟩
          · cases h
        · simp only at h
          split at h
          · cases h; exact ⟨.sym _ _ (featOk_id hgo) hgo.1.2.1, rfl, hg⟩
          · cases h
        · show Option.toList _ ++ Option.toList _ ++ Option.toList _ = fieldOps f g
          unfold fieldOps
          simp only [ite_toList]
theorem flat_ids {F : Feat → List Opn} {G : Int → List Opn} {l : List Feat} {ids : List Int} (hl : idsUp l) (hi : ids.Pairwise (· < ·)) (h1 : ∀ f ∈ l, G f.id = F f) (h2 : ∀ id, G id ≠ [] → id ∈ ids ∧ ∃ f ∈ l, f.id = id) : ids.flatMap G = l.flatMap F := by
  have e1 : l.flatMap F = (l.map Feat.id).flatMap G := by
    clear hl h2
    induction l with
    | nil => rfl
    | cons f l ih => rw [List.flatMap_cons, List.map_cons, List.flatMap_cons, h1 f (by simp), ih (fun g hg => h1 g (by simp [hg]))]
  have hz : ∀ (m : List Int), ∀ id ∈ m, (!(G id).isEmpty) = false → G id = [] := fun m id _ h => by
    cases hh : G id with
    | nil => rfl
    | cons x y => rw [hh] at h; cases h
  rw [e1, ← flat_filter (F := G) (p := fun id => !(G id).isEmpty) ids (hz ids), ← flat_filter (F := G) (p := fun id => !(G id).isEmpty) (l.map Feat.id) (hz _)]
  congr 1
  refine rise_ext (hi.filter _) ((List.pairwise_map.2 hl).filter _) fun id => ?_
  rw [List.mem_filter, List.mem_filter]
  have hne : (!(G id).isEmpty) = true ↔ G id ≠ [] := by
    cases G id <;> simp
  constructor
  · rintro ⟨_, hg⟩
    obtain ⟨_, f, hf, e⟩ := h2 id (hne.1 hg)
    exact ⟨List.mem_map.2 ⟨f, hf, e⟩, hg⟩
  · rintro ⟨_, hg⟩
    exact ⟨(h2 id (hne.1 hg)).1, hg⟩
theorem diff_norm {a b : List Feat} {ids : List Int} (ha : FeatsOk a) (hb : FeatsOk b) (ht : TouchL (diffL a b) ids) : SaysAll ids (diffL a b) ∧ normL ids (diffL a b) = diffL a b := by
  have hu := (featsOk_iff.1 ha).2.1
  have hv := (featsOk_iff.1 hb).2.1
  have again : ∀ id, ∃ s2, saysS (ofId id (diffL a b)) said0 = some s2 ∧ delsS id s2 = goneI a b id ∧ othersS id s2 = newI a b id := fun id => by
    obtain ⟨s, h1, h2, h3, h4⟩ := diff_state ha hb id
    obtain ⟨s2, h5, h6, h7⟩ := say_again h1 h2
    refine ⟨s2, ?_, by rw [h6, h3], by rw [h7, h4]⟩
    rw [h3, h4] at h5
    rw [diff_of hu hv]
    exact h5
  refine ⟨fun id _ => by
    obtain ⟨s2, h, _⟩ := again id
    rw [h]
    rfl, ?_⟩
  have e1 : ids.flatMap (fun id => delsS id (sayD id (diffL a b))) = ids.flatMap (goneI a b) := flat_congr fun id _ => by
    obtain ⟨s2, h2, h3, _⟩ := again id
    rw [show sayD id (diffL a b) = s2 by unfold sayD; rw [h2]; rfl, h3]
  have e2 : ids.flatMap (fun id => othersS id (sayD id (diffL a b))) = ids.flatMap (newI a b) := flat_congr fun id _ => by
    obtain ⟨s2, h2, _, h4⟩ := again id
    rw [show sayD id (diffL a b) = s2 by unfold sayD; rw [h2]; rfl, h4]
  have e3 : normL ids (diffL a b) = ids.flatMap (fun id => delsS id (sayD id (diffL a b))) ++ ids.flatMap (fun id => othersS id (sayD id (diffL a b))) := rfl
  rw [e3, e1, e2]
  have touched : ∀ id, ofId id (diffL a b) ≠ [] → id ∈ ids := fun id h => by
    obtain ⟨o, rest, e⟩ := List.exists_cons_of_ne_nil h
    have hm : o ∈ ofId id (diffL a b) := by rw [e]; simp
    exact (ht.2 id).2 ⟨o, (mem_ofId.1 hm).1, (mem_ofId.1 hm).2⟩
  have hof := fun id => diff_of hu hv id
  rw [flat_ids (F := goneF b) (G := goneI a b) hu ht.1 (fun f hf => by unfold goneI; rw [look_mem hu hf]) (fun id hne => by
      refine ⟨touched id (fun e => ?_), ?_⟩
      · rw [hof id] at e
        exact hne (List.append_eq_nil_iff.1 e).1
      · unfold goneI at hne
        cases hl : look a id with
        | none => rw [hl] at hne; exact absurd rfl hne
        | some f => exact ⟨f, look_some hl⟩),
    flat_ids (F := newF a) (G := newI a b) hv ht.1 (fun f hf => by unfold newI; rw [look_mem hv hf]) (fun id hne => by
      refine ⟨touched id (fun e => ?_), ?_⟩
      · rw [hof id] at e
        exact hne (List.append_eq_nil_iff.1 e).2
      · unfold newI at hne
        cases hl : look b id with
        | none => rw [hl] at hne; exact absurd rfl hne
        | some f => exact ⟨f, look_some hl⟩)]
  rfl
end Go.Proofs.YtpidmgkjnomigaaGreat
