/- Plain laws of chapter 17: a patch read by IDs; patches that can be exchanged; what a patch does not touch; shoaler patches. -/
import Derived.Test.YtmhgcmcifdclmaaGreatPatMath
namespace Go.Proofs.YtmhgcmcifdclmaaGreat
/-- What an operation makes of the feature of its ID. -/
def act (o : Opn) (m : Option Feat) : Except Int (Option Feat) :=
  if o.kind = 1 then
    match m with
    | some _ => .error 5
    | none => .ok (some o.feat)
  else
    match m with
    | none => .error 4
    | some f =>
      if o.kind = 2 then .ok none
      else match chgF f o with
        | none => .error 12
        | some g => .ok (some g)
def acts : List Opn → Option Feat → Except Int (Option Feat)
  | [], m => .ok m
  | o :: ops, m =>
    match act o m with
    | .error e => .error e
    | .ok m' => acts ops m'
theorem acts_append : ∀ (a b : List Opn) (m : Option Feat), acts (a ++ b) m = match acts a m with
    | .error e => .error e
    | .ok m' => acts b m'
  | [], b, m => rfl
  | o :: a, b, m => by
    simp only [List.cons_append, acts]
    cases act o m with
    | error e => rfl
    | ok m' => exact acts_append a b m'
theorem ins_id {o : Opn} (h : OpForm o) (k : o.kind = 1) : o.feat.id = o.id := by
  cases h with
  | ins f h => rfl
  | del id h => exact absurd k (by rw [kd2]; decide)
  | mov id x y rad h hr hv ho => exact absurd k (by rw [kd3]; decide)
  | dep id d h hd => exact absurd k (by rw [kd4]; decide)
  | sym id n h hn => exact absurd k (by rw [kd5]; decide)
theorem do_act {l l' : List Feat} {o b : Opn} (hl : FeatsOk l) (ho : OpForm o) (h : doO l o = .ok (l', b)) : act o (look l o.id) = .ok (look l' o.id) ∧ (∀ id, id ≠ o.id → look l' id = look l id) ∧ l'.length ≤ l.length + 1 := by
  have hu := (featsOk_iff.1 hl).2.1
  unfold doO at h
  unfold act
  split at h
  · next k1 =>
    rw [if_pos k1]
    split at h
    · cases h
    · next hn =>
      split at h
      · cases h
      · cases h
        have hi := ins_id ho k1
        refine ⟨?_, fun id hid => ?_, ?_⟩
        · rw [hn, look_put hu, if_pos hi]
        · rw [look_put hu, if_neg (by rw [hi]; exact fun e => hid e.symm)]
        · rw [len_put hu]
          split <;> omega
  · next k1 =>
    rw [if_neg k1]
    split at h
    · cases h
    · next f hf =>
      rw [hf]
      simp only
      split at h
      · next k2 =>
        cases h
        rw [if_pos k2]
        refine ⟨by rw [look_del, if_pos rfl], fun id hid => by rw [look_del, if_neg (fun e => hid e.symm)], ?_⟩
        rw [len_del hu]
        split <;> omega
      · next k2 =>
        rw [if_neg k2]
        split at h
        · cases h
        · next g hg =>
          cases h
          rw [hg]
          have hgi : g.id = o.id := by rw [(chgF_id hg).1]; exact (look_some hf).2
          refine ⟨by rw [look_put hu, if_pos hgi], fun id hid => by rw [look_put hu, if_neg (by rw [hgi]; exact fun e => hid e.symm)], ?_⟩
          rw [len_put hu]
          split <;> omega
theorem act_do {l : List Feat} {o : Opn} {r : Option Feat} (h : act o (look l o.id) = .ok r) (hlen : l.length < 300) : ∃ l' b, doO l o = .ok (l', b) := by
  unfold act at h
  unfold doO
  split at h
  · next k1 =>
    rw [if_pos k1]
    split at h
    · cases h
    · next hn =>
      rw [hn]
      simp only
      rw [if_neg (by omega)]
      exact ⟨_, _, rfl⟩
  · next k1 =>
    rw [if_neg k1]
    split at h
    · cases h
    · next f hf =>
      rw [hf]
      simp only
      split at h
      · next k2 => rw [if_pos k2]; exact ⟨_, _, rfl⟩
      · next k2 =>
        rw [if_neg k2]
        split at h
        · cases h
        · next g hg => rw [hg]; exact ⟨_, _, rfl⟩
def ofId (id : Int) (ops : List Opn) : List Opn := ops.filter fun o => decide (o.id = id)
theorem ofId_cons (id : Int) (o : Opn) (ops : List Opn) : ofId id (o :: ops) = if o.id = id then o :: ofId id ops else ofId id ops := by
  unfold ofId
  rw [List.filter_cons]
  by_cases h : o.id = id <;> simp [h]
theorem ofId_append (id : Int) (a b : List Opn) : ofId id (a ++ b) = ofId id a ++ ofId id b := List.filter_append ..
theorem mem_ofId {id : Int} {o : Opn} {ops : List Opn} : o ∈ ofId id ops ↔ o ∈ ops ∧ o.id = id := by
  unfold ofId
  rw [List.mem_filter]
  simp
theorem run_acts : ∀ (ops : List Opn) {l l' : List Feat} {bs : List Opn}, FeatsOk l → (∀ o ∈ ops, OpForm o) → runO l ops = .ok (l', bs) → FeatsOk l' ∧ l'.length ≤ l.length + ops.length ∧ ∀ id, acts (ofId id ops) (look l id) = .ok (look l' id)
  | [], l, l', bs, hl, _, h => by
    simp only [runO] at h
    cases h
    exact ⟨hl, by simp, fun id => rfl⟩
  | o :: ops, l, l', bs, hl, ho, h => by
    simp only [runO] at h
    cases hd : doO l o with
    | error e => rw [hd] at h; cases h
    | ok x =>
      obtain ⟨l1, b⟩ := x
      rw [hd] at h
      simp only at h
      cases hr : runO l1 ops with
      | error e => rw [hr] at h; cases h
      | ok y =>
        obtain ⟨l2, bs2⟩ := y
        rw [hr] at h
        cases h
        have h1 := (do_back hl (ho o (by simp)) hd).1
        obtain ⟨a1, a2, a3⟩ := do_act hl (ho o (by simp)) hd
        obtain ⟨k1, k2, k3⟩ := run_acts ops h1 (fun o ho' => ho o (by simp [ho'])) hr
        refine ⟨k1, by simp only [List.length_cons]; omega, fun id => ?_⟩
        rw [ofId_cons]
        by_cases e : o.id = id
        · subst e
          rw [if_pos rfl]
          simp only [acts]
          rw [a1]
          exact k3 _
        · rw [if_neg e, ← a2 id (fun h => e h.symm)]
          exact k3 id
theorem acts_run : ∀ (ops : List Opn) {l : List Feat}, FeatsOk l → (∀ o ∈ ops, OpForm o) → l.length + ops.length ≤ 300 → (∀ id, ∃ r, acts (ofId id ops) (look l id) = .ok r) → ∃ l' bs, runO l ops = .ok (l', bs)
  | [], l, _, _, _, _ => ⟨l, [], rfl⟩
  | o :: ops, l, hl, ho, hlen, h => by
    simp only [List.length_cons] at hlen
    obtain ⟨r, hr⟩ := h o.id
    rw [ofId_cons, if_pos rfl] at hr
    simp only [acts] at hr
    cases ha : act o (look l o.id) with
    | error e => rw [ha] at hr; cases hr
    | ok m =>
      obtain ⟨l1, b, hd⟩ := act_do ha (by omega)
      have h1 := (do_back hl (ho o (by simp)) hd).1
      obtain ⟨a1, a2, a3⟩ := do_act hl (ho o (by simp)) hd
      obtain ⟨l2, bs, h2⟩ := acts_run ops h1 (fun o ho' => ho o (by simp [ho'])) (by omega) (fun id => by
        by_cases e : o.id = id
        · subst e
          rw [a1] at hr
          exact ⟨r, hr⟩
        · rw [a2 id (fun h => e h.symm)]
          obtain ⟨r', hr'⟩ := h id
          rw [ofId_cons, if_neg e] at hr'
          exact ⟨r', hr'⟩)
      refine ⟨l2, b :: bs, ?_⟩
      simp only [runO]
      rw [hd]
      simp only
      rw [h2]
/-- What a patch does not touch is as before. -/
theorem run_apart {ops : List Opn} {l l' : List Feat} {bs : List Opn} (hl : FeatsOk l) (ho : ∀ o ∈ ops, OpForm o) (h : runO l ops = .ok (l', bs)) {id : Int} (hid : ∀ o ∈ ops, o.id ≠ id) : look l' id = look l id := by
  have := (run_acts ops hl ho h).2.2 id
  rw [show ofId id ops = [] from List.filter_eq_nil_iff.2 fun o h => by simpa using hid o h] at this
  simp only [acts, Except.ok.injEq] at this
  exact this.symm
/-- Operations that can be exchanged. -/
def fieldO (o : Opn) : Prop := 3 ≤ o.kind ∧ o.kind ≤ 5
instance (o : Opn) : Decidable (fieldO o) := by unfold fieldO; exact inferInstance
def FreeO (o p : Opn) : Prop := ¬ (o.id = p.id ∧ (o.kind = p.kind ∨ ¬ fieldO o ∨ ¬ fieldO p))
instance (o p : Opn) : Decidable (FreeO o p) := by unfold FreeO; exact inferInstance
theorem free_sym {o p : Opn} (h : FreeO o p) : FreeO p o := fun k => h ⟨k.1.symm, k.2.elim (fun e => .inl e.symm) fun e => e.elim (fun e => .inr (.inr e)) fun e => .inr (.inl e)⟩
theorem act_chg {o : Opn} {m m' : Option Feat} (h1 : o.kind ≠ 1) (h2 : o.kind ≠ 2) (h : act o m = .ok m') : ∃ f g, m = some f ∧ chgF f o = some g ∧ m' = some g := by
  unfold act at h
  rw [if_neg h1] at h
  split at h
  · cases h
  · next f =>
    rw [if_neg h2] at h
    split at h
    · cases h
    · next g hg =>
      cases h
      exact ⟨f, g, rfl, hg, rfl⟩
theorem chg_act {o : Opn} {f g : Feat} (h1 : o.kind ≠ 1) (h2 : o.kind ≠ 2) (h : chgF f o = some g) : act o (some f) = .ok (some g) := by
  unfold act
  rw [if_neg h1]
  simp only
  rw [if_neg h2, h]
theorem chg_swap {o p : Opn} {f g g' : Feat} (ho : OpForm o) (hp : OpForm p) (h1 : fieldO o) (h2 : fieldO p) (hne : o.kind ≠ p.kind) (h : chgF f o = some g) (k : chgF g p = some g') : ∃ e, chgF f p = some e ∧ chgF e o = some g' := by
  unfold fieldO at h1 h2
  cases ho with
  | ins f' hf => rw [kd1] at h1; omega
  | del id hi => rw [kd2] at h1; omega
  | mov id x y rad hi hr hv hro =>
    rw [chg_mov] at h
    split at h
    · cases h
    · next hk =>
      cases h
      cases hp with
      | ins f' hf => rw [kd1] at h2; omega
      | del id hi => rw [kd2] at h2; omega
      | mov => exact absurd rfl hne
      | dep id' d hi' hd =>
        rw [chg_dep] at k ⊢
        simp only at k
        split at k
        · cases k
        · next hk2 =>
          cases k
          rw [if_neg hk2]
          exact ⟨_, rfl, by rw [chg_mov]; simp only; rw [if_neg hk]⟩
      | sym id' n hi' hn =>
        rw [chg_sym] at k ⊢
        cases k
        exact ⟨_, rfl, by rw [chg_mov]; simp only; rw [if_neg hk]⟩
  | dep id d hi hd =>
    rw [chg_dep] at h
    split at h
    · cases h
    · next hk =>
      cases h
      cases hp with
      | ins f' hf => rw [kd1] at h2; omega
      | del id hi => rw [kd2] at h2; omega
      | mov id' x y rad hi' hr hv hro =>
        rw [chg_mov] at k ⊢
        simp only at k
        split at k
        · cases k
        · next hk2 =>
          cases k
          rw [if_neg hk2]
          exact ⟨_, rfl, by rw [chg_dep]; simp only; rw [if_neg hk]⟩
      | dep => exact absurd rfl hne
      | sym id' n hi' hn =>
        rw [chg_sym] at k ⊢
        cases k
        exact ⟨_, rfl, by rw [chg_dep]; simp only; rw [if_neg hk]⟩
  | sym id n hi hs =>
    rw [chg_sym] at h
    cases h
    cases hp with
    | ins f' hf => rw [kd1] at h2; omega
    | del id hi => rw [kd2] at h2; omega
    | mov id' x y rad hi' hr hv hro =>
      rw [chg_mov] at k ⊢
      simp only at k
      split at k
      · cases k
      · next hk2 =>
        cases k
        rw [if_neg hk2]
        exact ⟨_, rfl, by rw [chg_sym]⟩
    | dep id' d hi' hd =>
      rw [chg_dep] at k ⊢
      simp only at k
      split at k
      · cases k
      · next hk2 =>
        cases k
        rw [if_neg hk2]
        exact ⟨_, rfl, by rw [chg_sym]⟩
    | sym => exact absurd rfl hne
theorem act_swap {o p : Opn} {m m1 r : Option Feat} (ho : OpForm o) (hp : OpForm p) (hid : o.id = p.id) (hf : FreeO o p) (h : act o m = .ok m1) (k : act p m1 = .ok r) : ∃ m', act p m = .ok m' ∧ act o m' = .ok r := by
  have hk : o.kind ≠ p.kind := fun e => hf ⟨hid, .inl e⟩
  have h1 : fieldO o := Classical.byContradiction fun e => hf ⟨hid, .inr (.inl e)⟩
  have h2 : fieldO p := Classical.byContradiction fun e => hf ⟨hid, .inr (.inr e)⟩
  have o1 : o.kind ≠ 1 := by have := h1.1; omega
  have o2 : o.kind ≠ 2 := by have := h1.1; omega
  have p1 : p.kind ≠ 1 := by have := h2.1; omega
  have p2 : p.kind ≠ 2 := by have := h2.1; omega
  obtain ⟨f, g, rfl, hg, rfl⟩ := act_chg o1 o2 h
  obtain ⟨g0, g', e0, hg', rfl⟩ := act_chg p1 p2 k
  cases e0
  obtain ⟨e, he, he'⟩ := chg_swap ho hp h1 h2 hk hg hg'
  exact ⟨some e, chg_act p1 p2 he, chg_act o1 o2 he'⟩
theorem acts_one {id : Int} {p : Opn} (hp : OpForm p) (hpi : p.id = id) : ∀ (a : List Opn) {m m1 r : Option Feat}, (∀ o ∈ a, OpForm o ∧ o.id = id ∧ FreeO o p) → acts a m = .ok m1 → act p m1 = .ok r → ∃ m', act p m = .ok m' ∧ acts a m' = .ok r
  | [], m, m1, r, _, h, k => by
    simp only [acts, Except.ok.injEq] at h
    subst h
    exact ⟨r, k, rfl⟩
  | o :: a, m, m1, r, ha, h, k => by
    simp only [acts] at h
    cases ho : act o m with
    | error e => rw [ho] at h; cases h
    | ok m2 =>
      rw [ho] at h
      obtain ⟨m3, h3, h4⟩ := acts_one hp hpi a (fun x hx => ha x (by simp [hx])) h k
      obtain ⟨hof, hoi, hfr⟩ := ha o (by simp)
      obtain ⟨m4, h5, h6⟩ := act_swap hof hp (by rw [hoi, hpi]) hfr ho h3
      refine ⟨m4, h5, ?_⟩
      simp only [acts]
      rw [h6]
      exact h4
theorem acts_swap {id : Int} : ∀ (b : List Opn) {a : List Opn} {m m1 r : Option Feat}, (∀ o ∈ a, OpForm o ∧ o.id = id) → (∀ p ∈ b, OpForm p ∧ p.id = id) → (∀ o ∈ a, ∀ p ∈ b, FreeO o p) → acts a m = .ok m1 → acts b m1 = .ok r → ∃ m', acts b m = .ok m' ∧ acts a m' = .ok r
  | [], a, m, m1, r, _, _, _, h, k => by
    simp only [acts, Except.ok.injEq] at k
    subst k
    exact ⟨m, rfl, h⟩
  | p :: b, a, m, m1, r, ha, hb, hf, h, k => by
    simp only [acts] at k
    cases hp : act p m1 with
    | error e => rw [hp] at k; cases k
    | ok m2 =>
      rw [hp] at k
      obtain ⟨hpf, hpi⟩ := hb p (by simp)
      obtain ⟨m3, h3, h4⟩ := acts_one hpf hpi a (fun o ho => ⟨(ha o ho).1, (ha o ho).2, hf o ho p (by simp)⟩) h hp
      obtain ⟨m5, h5, h6⟩ := acts_swap b ha (fun q hq => hb q (by simp [hq])) (fun o ho q hq => hf o ho q (by simp [hq])) h4 k
      refine ⟨m5, ?_, h6⟩
      simp only [acts]
      rw [h3]
      exact h5
theorem run_swap {l x y : List Feat} {a b bs cs : List Opn} (hl : FeatsOk l) (ha : ∀ o ∈ a, OpForm o) (hb : ∀ p ∈ b, OpForm p) (hf : ∀ o ∈ a, ∀ p ∈ b, FreeO o p) (hlen : l.length + a.length + b.length ≤ 300) (h : runO l a = .ok (x, bs)) (k : runO x b = .ok (y, cs)) :
    ∃ v bs' cs', runO l b = .ok (v, bs') ∧ runO v a = .ok (y, cs') := by
  obtain ⟨hx, hxl, hxa⟩ := run_acts a hl ha h
  obtain ⟨hy, hyl, hya⟩ := run_acts b hx hb k
  have key : ∀ id, ∃ m', acts (ofId id b) (look l id) = .ok m' ∧ acts (ofId id a) m' = .ok (look y id) := fun id =>
    acts_swap (ofId id b) (fun o ho => ⟨ha o (mem_ofId.1 ho).1, (mem_ofId.1 ho).2⟩) (fun p hp => ⟨hb p (mem_ofId.1 hp).1, (mem_ofId.1 hp).2⟩) (fun o ho p hp => hf o (mem_ofId.1 ho).1 p (mem_ofId.1 hp).1) (hxa id) (hya id)
  obtain ⟨v, bs', hv⟩ := acts_run b hl hb (by omega) (fun id => by
    obtain ⟨m', h1, _⟩ := key id
    exact ⟨m', h1⟩)
  obtain ⟨hvo, hvl, hva⟩ := run_acts b hl hb hv
  have key2 : ∀ id, acts (ofId id a) (look v id) = .ok (look y id) := fun id => by
    obtain ⟨m', h1, h2⟩ := key id
    rw [hva id, Except.ok.injEq] at h1
    rw [h1]
    exact h2
  obtain ⟨w, cs', hw⟩ := acts_run a hvo ha (by omega) (fun id => ⟨_, key2 id⟩)
  obtain ⟨hwo, _, hwa⟩ := run_acts a hvo ha hw
  have : w = y := ups_look (featsOk_iff.1 hwo).2.1 (featsOk_iff.1 hy).2.1 fun id => by
    have h1 := hwa id
    rw [key2 id, Except.ok.injEq] at h1
    exact h1.symm
  subst this
  exact ⟨v, bs', cs', hv, hw⟩
/-- A patch that only inserts, changes symbols, and gives lesser depths shows no deeper. -/
def Shoals (l : List Feat) (o : Opn) : Prop := o.kind = 1 ∨ o.kind = 5 ∨ o.kind = 4 ∧ ∃ f, look l o.id = some f ∧ o.dep ≤ f.dep
def LikeF (f g : Feat) : Prop := g.id = f.id ∧ g.kind = f.kind ∧ g.x = f.x ∧ g.y = f.y ∧ g.rad = f.rad ∧ g.area = f.area ∧ g.dep ≤ f.dep
theorem like_cov {f g : Feat} (h : LikeF f g) (qx qy : Int) : covB g qx qy = covB f qx qy := by
  obtain ⟨_, h1, h2, h3, h4, h5, _⟩ := h
  unfold covB
  rw [h1, h2, h3, h4, h5]
theorem acts_shoal {f : Feat} : ∀ (a : List Opn) {g : Feat} {r : Option Feat}, LikeF f g → (∀ o ∈ a, o.kind = 1 ∨ o.kind = 5 ∨ o.kind = 4 ∧ o.dep ≤ f.dep) → acts a (some g) = .ok r → ∃ g', r = some g' ∧ LikeF f g'
  | [], g, r, hg, _, h => by
    simp only [acts, Except.ok.injEq] at h
    exact ⟨g, h.symm, hg⟩
  | o :: a, g, r, hg, ha, h => by
    simp only [acts] at h
    cases ho : act o (some g) with
    | error e => rw [ho] at h; cases h
    | ok m =>
      rw [ho] at h
      have hk := ha o (by simp)
      by_cases k1 : o.kind = 1
      · unfold act at ho
        rw [if_pos k1] at ho
        cases ho
      · have k2 : o.kind ≠ 2 := by omega
        obtain ⟨g0, g1, e0, hc, rfl⟩ := act_chg k1 k2 ho
        cases e0
        refine acts_shoal a ?_ (fun x hx => ha x (by simp [hx])) h
        obtain ⟨e1, e2, e3, e4, e5, e6, e7⟩ := hg
        unfold chgF at hc
        split at hc
        · cases hc
        · rw [if_neg (by omega)] at hc
          split at hc
          · next k4 =>
            cases hc
            exact ⟨e1, e2, e3, e4, e5, e6, by simp only; omega⟩
          · cases hc
            exact ⟨e1, e2, e3, e4, e5, e6, e7⟩
theorem run_shoal {l x : List Feat} {ops bs : List Opn} (hl : FeatsOk l) (ho : ∀ o ∈ ops, OpForm o) (h : runO l ops = .ok (x, bs)) (hs : ∀ o ∈ ops, Shoals l o) (qx qy : Int) : shownI x qx qy x.length ≤ shownI l qx qy l.length := by
  obtain ⟨hx, _, hxa⟩ := run_acts ops hl ho h
  have hu := (featsOk_iff.1 hl).2.1
  rcases shown_mem_at l qx qy with h1 | ⟨f, hf, hc, hd⟩
  · rw [h1]
    exact (shown_le x qx qy x.length).1
  · have hlf := look_mem hu hf
    have h2 := hxa f.id
    rw [hlf] at h2
    obtain ⟨g, hg, hlike⟩ := acts_shoal (f := f) (ofId f.id ops) ⟨rfl, rfl, rfl, rfl, rfl, rfl, Int.le_refl _⟩ (fun o ho' => by
      obtain ⟨hm, hi⟩ := mem_ofId.1 ho'
      rcases hs o hm with h | h | ⟨h, f', hf', hd'⟩
      · exact .inl h
      · exact .inr (.inl h)
      · rw [hi, hlf] at hf'
        cases hf'
        exact .inr (.inr ⟨h, hd'⟩)) h2
    have hgx := (look_some hg).1
    have := shown_mem_le x qx qy hgx (by rw [like_cov hlike]; exact hc)
    have := hlike.2.2.2.2.2.2
    omega
end Go.Proofs.YtmhgcmcifdclmaaGreat
