/- Plain laws of chapter 20: lists, patches and sheets that are carried. -/
import Derived.Test.YtdmegkkifiahdaaGreatKD
import Derived.Test.YtdmegkkifiahdaaGreatPatActs
namespace Go.Proofs.YtdmegkkifiahdaaGreat
set_option linter.unusedVariables false
/-- Lists, feature by feature. -/
def AllR (m : Dat) (A B : List Mk) : List Feat → List Feat → Prop
  | [], [] => True
  | f :: l, g :: l' => oneD m A B f = .ok g ∧ AllR m A B l l'
  | _, _ => False
def carL (m : Dat) (A B : List Mk) : List Feat → Except Int (List Feat)
  | [] => .ok []
  | f :: l => match oneD m A B f with
    | .error e => .error e
    | .ok g => match carL m A B l with
      | .error e => .error e
      | .ok r => .ok (g :: r)
section
variable {m : Dat} {A B : List Mk}
theorem one_same {f g : Feat} (h : oneD m A B f = .ok g) : FeatOk g ∧ g.id = f.id ∧ g.kind = f.kind ∧ g.dep = f.dep := by
  obtain ⟨h1, mk, t, _, _, _, h4⟩ := one_ok h
  obtain ⟨a, b, c, _⟩ := carry_same h4
  exact ⟨h1, a, b, c⟩
theorem car_all : ∀ {l l' : List Feat}, carL m A B l = .ok l' ↔ AllR m A B l l'
  | [], l' => by
    unfold carL
    cases l' with
    | nil => exact ⟨fun _ => trivial, fun _ => rfl⟩
    | cons g l' => exact ⟨fun h => (by cases h), fun h => h.elim⟩
  | f :: l, l' => by
    unfold carL
    cases h1 : oneD m A B f with
    | error e => exact ⟨fun h => (by cases h), fun h => by
        cases l' with
        | nil => exact h.elim
        | cons g l' => have := h.1; rw [h1] at this; cases this⟩
    | ok g =>
      simp only
      cases h2 : carL m A B l with
      | error e => exact ⟨fun h => (by cases h), fun h => by
          cases l' with
          | nil => exact h.elim
          | cons g' l' => have := car_all.2 h.2; rw [h2] at this; cases this⟩
      | ok r => exact ⟨fun h => by cases h; exact ⟨h1, car_all.1 h2⟩, fun h => by
          cases l' with
          | nil => exact h.elim
          | cons g' l' =>
            have e1 := h.1
            have e2 := car_all.2 h.2
            rw [h1] at e1
            rw [h2] at e2
            cases e1
            cases e2
            rfl⟩
theorem all_len : ∀ {l l' : List Feat}, AllR m A B l l' → l'.length = l.length
  | [], [], _ => rfl
  | [], _ :: _, h => h.elim
  | _ :: _, [], h => h.elim
  | f :: l, g :: l', h => by rw [List.length_cons, List.length_cons, all_len h.2]
theorem mem_all : ∀ {l l' : List Feat}, AllR m A B l l' → ∀ g ∈ l', ∃ f ∈ l, oneD m A B f = .ok g
  | [], [], _, g, hg => by simp at hg
  | [], _ :: _, h, _, _ => h.elim
  | _ :: _, [], h, _, _ => h.elim
  | f :: l, g :: l', h, x, hx => by
    rcases List.mem_cons.1 hx with rfl | hx
    · exact ⟨f, by simp, h.1⟩
    · obtain ⟨y, hy, e⟩ := mem_all h.2 x hx
      exact ⟨y, List.mem_cons_of_mem _ hy, e⟩
theorem all_up : ∀ {l l' : List Feat}, AllR m A B l l' → idsUp l → idsUp l'
  | [], [], _, _ => List.Pairwise.nil
  | [], _ :: _, h, _ => h.elim
  | _ :: _, [], h, _ => h.elim
  | f :: l, g :: l', h, hu => by
    have hp := List.pairwise_cons.1 hu
    refine List.pairwise_cons.2 ⟨fun y hy => ?_, all_up h.2 hp.2⟩
    obtain ⟨x, hx, e⟩ := mem_all h.2 y hy
    have := hp.1 x hx
    have e1 := (one_same h.1).2.1
    have e2 := (one_same e).2.1
    omega
theorem all_ok {l l' : List Feat} (h : AllR m A B l l') (hl : FeatsOk l) : FeatsOk l' := by
  have hl := featsOk_iff.1 hl
  refine featsOk_iff.2 ⟨by rw [all_len h]; exact hl.1, all_up h hl.2.1, fun g hg => ?_⟩
  obtain ⟨f, _, e⟩ := mem_all h g hg
  exact (one_same e).1
theorem all_look : ∀ {l l' : List Feat}, AllR m A B l l' → ∀ id, (look l id = none ∧ look l' id = none) ∨ ∃ f g, look l id = some f ∧ look l' id = some g ∧ oneD m A B f = .ok g
  | [], [], _, id => .inl ⟨rfl, rfl⟩
  | [], _ :: _, h, _ => h.elim
  | _ :: _, [], h, _ => h.elim
  | f :: l, g :: l', h, id => by
    have e := (one_same h.1).2.1
    rw [look_cons, look_cons, e]
    by_cases hi : f.id = id
    · rw [if_pos hi, if_pos hi]
      exact .inr ⟨f, g, rfl, rfl, h.1⟩
    · rw [if_neg hi, if_neg hi]
      exact all_look h.2 id
theorem all_put {f g : Feat} (hfg : oneD m A B f = .ok g) : ∀ {l l' : List Feat}, AllR m A B l l' → AllR m A B (putF f l) (putF g l')
  | [], [], _ => ⟨hfg, trivial⟩
  | [], _ :: _, h => h.elim
  | _ :: _, [], h => h.elim
  | x :: l, y :: l', h => by
    have e1 := (one_same hfg).2.1
    have e2 := (one_same h.1).2.1
    unfold putF
    rw [e1, e2]
    by_cases h1 : f.id < x.id
    · rw [if_pos h1, if_pos h1]
      exact ⟨hfg, h⟩
    · rw [if_neg h1, if_neg h1]
      by_cases h2 : f.id = x.id
      · rw [if_pos h2, if_pos h2]
        exact ⟨hfg, h.2⟩
      · rw [if_neg h2, if_neg h2]
        exact ⟨h.1, all_put hfg h.2⟩
theorem all_del (id : Int) : ∀ {l l' : List Feat}, AllR m A B l l' → AllR m A B (delF id l) (delF id l')
  | [], [], _ => trivial
  | [], _ :: _, h => h.elim
  | _ :: _, [], h => h.elim
  | x :: l, y :: l', h => by
    have e2 := (one_same h.1).2.1
    have ih := all_del id h.2
    unfold delF at ih ⊢
    rw [List.filter_cons, List.filter_cons, e2]
    by_cases h1 : x.id = id
    · rw [if_neg (by simpa using h1), if_neg (by simpa using h1)]
      exact ih
    · rw [if_pos (by simpa using h1), if_pos (by simpa using h1)]
      exact ⟨h.1, ih⟩
/-- Depth and symbol do not matter to what is carried. -/
theorem carry_dep (f : Feat) (d n : Int) : carryF m { f with dep := d } n = (carryF m f n).map fun g => { g with dep := d } := by
  unfold carryF
  simp only
  split
  · cases areaD m f.area <;> rfl
  · split
    · rfl
    · split
      · cases secsD m f.secs <;> rfl
      · rfl
theorem carry_sym (f : Feat) (k n n' : Int) : carryF m { f with sym := k } n' = (carryF m f n).map fun g => { g with sym := n' } := by
  unfold carryF
  simp only
  split
  · cases areaD m f.area <;> rfl
  · split
    · rfl
    · split
      · cases secsD m f.secs <;> rfl
      · rfl
theorem one_of {f g : Feat} {mk t : Mk} (h1 : findM A f.sym = some mk) (h2 : mk.kind = f.kind) (h3 : transM B mk = some t) (h4 : carryF m f t.sym = some g) (h5 : FeatOk g) : oneD m A B f = .ok g := by
  unfold oneD
  rw [h1]
  simp only
  rw [if_neg (by omega), h3]
  simp only
  rw [h4]
  simp only
  rw [if_pos h5]
/-- An operation as it is carried, for the list behind it. -/
def opD (m : Dat) (A B : List Mk) (l1 : List Feat) (o : Opn) : Except Int Opn :=
  if o.kind = 1 ∨ o.kind = 3 ∨ o.kind = 5 then
    match look l1 o.id with
    | none => .error 0
    | some f => match oneD m A B f with
      | .error e => .error e
      | .ok g => .ok (if o.kind = 1 then { o with feat := g } else if o.kind = 3 then { o with x := g.x, y := g.y, rad := g.rad } else { o with sym := g.sym })
  else .ok o
def opsD (m : Dat) (A B : List Mk) : List Feat → List Opn → Except Int (List Opn)
  | _, [] => .ok []
  | l, o :: ops => match doO l o with
    | .error _ => .error 0
    | .ok (l1, _) => match opD m A B l1 o with
      | .error e => .error e
      | .ok o' => match opsD m A B l1 ops with
        | .error e => .error e
        | .ok r => .ok (o' :: r)
theorem move_form {f : Feat} (h : FeatOk f) (hk : ¬ (f.kind = 3 ∨ f.kind = 6)) : Vld f.x f.y ∧ RoomOk f.x f.y f.rad ∧ (f.kind = 4 → f.rad = 0) := by
  have hform := h.2
  unfold FormR at hform
  by_cases hd : DiscK f.kind
  · rw [if_pos hd] at hform
    exact ⟨hform.1, hform.2.1, fun e => by unfold DiscK at hd; omega⟩
  · rw [if_neg hd] at hform
    by_cases hz : f.kind = 3 ∨ f.kind = 6 ∧ f.dep ≤ 0
    · exact absurd (by omega) hk
    · rw [if_neg hz] at hform
      obtain ⟨_, hv, _, hr, _⟩ := hform
      refine ⟨hv, ?_, fun _ => hr⟩
      rw [hr]
      unfold RoomOk
      rw [Int.sub_zero, Int.add_zero, Int.sub_zero, Int.add_zero]
      exact ⟨hv, hv⟩
theorem op_carry {l l' l1 : List Feat} {o o' b : Opn} (hl : FeatsOk l) (h : AllR m A B l l') (ho : OpForm o) (hd : doO l o = .ok (l1, b)) (hc : opD m A B l1 o = .ok o') : OpForm o' ∧ ∃ l1' b', doO l' o' = .ok (l1', b') ∧ AllR m A B l1 l1' := by
  have hu := (featsOk_iff.1 hl).2.1
  cases ho with
  | ins f hf =>
    obtain ⟨hn, hlen, rfl, rfl⟩ := do_ins hd
    unfold opD at hc
    rw [if_pos (.inl rfl), show (insO f).id = f.id from rfl, look_put hu, if_pos rfl] at hc
    simp only at hc
    cases he : oneD m A B f with
    | error e => rw [he] at hc; cases hc
    | ok g =>
      rw [he] at hc
      simp only [kd1, if_true, Except.ok.injEq] at hc
      have hg := one_same he
      have e : o' = insO g := by rw [← hc]; unfold insO; rw [hg.2.1]
      subst e
      refine ⟨.ins g hg.1, putF g l', delO g.id, ?_, all_put he h⟩
      rw [do_insE, hg.2.1]
      rcases all_look h f.id with ⟨_, h2⟩ | ⟨x, y, h2, _, _⟩
      · rw [h2]
        simp only
        rw [if_neg (by rw [all_len h]; omega)]
      · rw [hn] at h2; cases h2
  | del id hi =>
    obtain ⟨f, hlk, rfl, rfl⟩ := do_del hd
    unfold opD at hc
    rw [if_neg (by rw [kd2]; decide)] at hc
    cases hc
    rcases all_look h id with ⟨h2, _⟩ | ⟨x, y, h2, h3, e⟩
    · rw [hlk] at h2; cases h2
    · refine ⟨.del id hi, delF id l', insO y, ?_, all_del id h⟩
      rw [do_delE, h3]
  | mov id px py r hi hr hv hro =>
    obtain ⟨f, f1, hlk, hch, rfl, rfl⟩ := do_chg (by rw [kd3]; decide) (by rw [kd3]; decide) hd
    have hfi := (look_some hlk).2
    rw [show (movO id px py r).id = id from rfl] at hlk hfi
    rw [chg_mov] at hch
    split at hch
    · cases hch
    · next hk =>
      cases hch
      unfold opD at hc
      rw [if_pos (.inr (.inl rfl)), show (movO id px py r).id = id from rfl, look_put hu, if_pos hfi] at hc
      simp only at hc
      cases he : oneD m A B { f with x := px, y := py, rad := r } with
      | error e => rw [he] at hc; cases hc
      | ok g1 =>
        rw [he] at hc
        obtain rfl : movO id g1.x g1.y g1.rad = o' := Except.ok.inj hc
        rcases all_look h id with ⟨h2, _⟩ | ⟨f', g0, h2, h3, e⟩
        · rw [hlk] at h2; cases h2
        · rw [hlk] at h2
          cases h2
          obtain ⟨ok1, mk1, t1, a1, a2, a3, a4⟩ := one_ok he
          obtain ⟨ok0, mk0, t0, b1, b2, b3, b4⟩ := one_ok e
          simp only at a1 a2
          rw [b1] at a1
          cases a1
          rw [b3] at a3
          cases a3
          have hs1 := carry_same a4
          have hs0 := carry_same b4
          have k36 : ¬ (f.kind = 3 ∨ f.kind = 6) := fun hh => hk (.inl hh)
          have mf := move_form ok1 (by rw [hs1.2.1]; exact k36)
          have hrr : 0 ≤ g1.rad ∧ g1.rad ≤ 100000 := ok1.1.2.2.2
          refine ⟨.mov id g1.x g1.y g1.rad hi hrr mf.1 mf.2.1, putF g1 l', bakF g0 (movO id g1.x g1.y g1.rad), ?_, all_put he h⟩
          have hg : chgF g0 (movO id g1.x g1.y g1.rad) = some g1 := by
            rw [chg_mov, if_neg]
            · congr 1
              -- the fields beside place and radius are alike
              unfold carryF at a4 b4
              simp only at a4 b4
              rw [if_neg k36] at a4 b4
              split at a4
              · cases a4
              · split at b4
                · cases b4
                · by_cases k4 : f.kind = 4
                  · rw [if_pos k4] at a4 b4
                    cases hs : secsD m f.secs with
                    | none => rw [hs] at b4; cases b4
                    | some s =>
                      rw [hs] at a4 b4
                      cases a4
                      cases b4
                      rfl
                  · rw [if_neg k4] at a4 b4
                    cases a4
                    cases b4
                    rfl
            · rw [hs0.2.1]
              rintro (hh | ⟨h4, hr0⟩)
              · exact k36 hh
              · exact hr0 (mf.2.2 (by rw [hs1.2.1]; exact h4))
          unfold doO
          rw [if_neg (by rw [kd3]; decide), show (movO id g1.x g1.y g1.rad).id = id from rfl, h3]
          simp only
          rw [if_neg (by rw [kd3]; decide), hg]
  | dep id d hi hdd =>
    obtain ⟨f, f1, hlk, hch, rfl, rfl⟩ := do_chg (by rw [kd4]; decide) (by rw [kd4]; decide) hd
    rw [show (depO id d).id = id from rfl] at hlk
    unfold opD at hc
    rw [if_neg (by rw [kd4]; decide)] at hc
    cases hc
    rcases all_look h id with ⟨h2, _⟩ | ⟨f', g0, h2, h3, e⟩
    · rw [hlk] at h2; cases h2
    · rw [hlk] at h2
      cases h2
      obtain ⟨ok0, mk0, t0, b1, b2, b3, b4⟩ := one_ok e
      have hs0 := carry_same b4
      have hch0 : chgF g0 (depO id d) = some { g0 with dep := d } := by
        rw [chg_dep] at hch ⊢
        rw [hs0.2.1]
        split at hch
        · cases hch
        · next hk => rw [if_neg hk]
      have ok1 := chgF_ok ok0 (.dep id d hi hdd) (by rw [kd4]; decide) (by rw [kd4]; decide) hch0
      have hf1 : f1 = { f with dep := d } := by
        rw [chg_dep] at hch
        split at hch
        · cases hch
        · cases hch; rfl
      have he : oneD m A B f1 = .ok { g0 with dep := d } := by
        rw [hf1]
        exact one_of (f := { f with dep := d }) b1 b2 b3 (by rw [carry_dep, b4]; rfl) ok1
      refine ⟨.dep id d hi hdd, putF { g0 with dep := d } l', bakF g0 (depO id d), ?_, all_put he h⟩
      unfold doO
      rw [if_neg (by rw [kd4]; decide), show (depO id d).id = id from rfl, h3]
      simp only
      rw [if_neg (by rw [kd4]; decide), hch0]
  | sym id n hi hn =>
    obtain ⟨f, f1, hlk, hch, rfl, rfl⟩ := do_chg (by rw [kd5]; decide) (by rw [kd5]; decide) hd
    have hfi := (look_some hlk).2
    rw [show (symO id n).id = id from rfl] at hlk hfi
    rw [chg_sym] at hch
    cases hch
    unfold opD at hc
    rw [if_pos (.inr (.inr rfl)), show (symO id n).id = id from rfl, look_put hu, if_pos hfi] at hc
    simp only at hc
    cases he : oneD m A B { f with sym := n } with
    | error e => rw [he] at hc; cases hc
    | ok g1 =>
      rw [he] at hc
      obtain rfl : symO id g1.sym = o' := Except.ok.inj hc
      rcases all_look h id with ⟨h2, _⟩ | ⟨f', g0, h2, h3, e⟩
      · rw [hlk] at h2; cases h2
      · rw [hlk] at h2
        cases h2
        obtain ⟨ok1, mk1, t1, a1, a2, a3, a4⟩ := one_ok he
        obtain ⟨ok0, mk0, t0, b1, b2, b3, b4⟩ := one_ok e
        rw [carry_sym f n t0.sym, b4] at a4
        simp only [Option.map_some, Option.some.injEq] at a4
        have hs : g1.sym = t1.sym := by rw [← a4]
        refine ⟨.sym id g1.sym hi ok1.1.2.1, putF g1 l', bakF g0 (symO id g1.sym), ?_, all_put he h⟩
        unfold doO
        rw [if_neg (by rw [kd5]; decide), show (symO id g1.sym).id = id from rfl, h3]
        simp only
        rw [if_neg (by rw [kd5]; decide), chg_sym, hs, a4]
/-- To carry a list and the patch on it leads to what the patched list is carried to. -/
theorem ops_carry : ∀ {ops ops' : List Opn} {l l' x : List Feat} {bs : List Opn}, FeatsOk l → (∀ o ∈ ops, OpForm o) → AllR m A B l l' → runO l ops = .ok (x, bs) → opsD m A B l ops = .ok ops' →
    ops'.length = ops.length ∧ (∀ o ∈ ops', OpForm o) ∧ ∃ x' bs', runO l' ops' = .ok (x', bs') ∧ AllR m A B x x'
  | [], ops', l, l', x, bs, hl, ho, h, hr, hc => by
    cases hc
    cases hr
    exact ⟨rfl, fun o ho => (by simp at ho), l', [], rfl, h⟩
  | o :: ops, ops', l, l', x, bs, hl, ho, h, hr, hc => by
    simp only [runO] at hr
    simp only [opsD] at hc
    cases hd : doO l o with
    | error e => rw [hd] at hr; cases hr
    | ok y =>
      obtain ⟨l1, b1⟩ := y
      rw [hd] at hr hc
      simp only at hr hc
      cases hr1 : runO l1 ops with
      | error e => rw [hr1] at hr; cases hr
      | ok z =>
        obtain ⟨l2, bs2⟩ := z
        rw [hr1] at hr
        cases hr
        cases ho1 : opD m A B l1 o with
        | error e => rw [ho1] at hc; cases hc
        | ok o' =>
          rw [ho1] at hc
          simp only at hc
          cases hs : opsD m A B l1 ops with
          | error e => rw [hs] at hc; cases hc
          | ok r =>
            rw [hs] at hc
            cases hc
            obtain ⟨f1, l1', b1', e1, e2⟩ := op_carry hl h (ho o (by simp)) hd ho1
            have hl1 := (do_back hl (ho o (by simp)) hd).1
            obtain ⟨g1, g2, x', bs', g3, g4⟩ := ops_carry hl1 (fun o ho' => ho o (by simp [ho'])) e2 hr1 hs
            refine ⟨by simp [g1], fun y hy => ?_, x', b1' :: bs', ?_, g4⟩
            · rcases List.mem_cons.1 hy with rfl | hy
              · exact f1
              · exact g2 y hy
            · simp only [runO]
              rw [e1]
              simp only
              rw [g3]
end
end Go.Proofs.YtdmegkkifiahdaaGreat
