/- Plain cases of chapter 17's laws: what Apply, Undo and Commute answer there. -/
import Derived.Test.YtpidmgkjnomigaaGreatPatApp
import Derived.Test.YtpidmgkjnomigaaGreatPatComm
import Derived.Test.YtpidmgkjnomigaaGreatPB
namespace Go.Proofs.YtpidmgkjnomigaaGreat
set_option linter.unusedVariables false
def ErrO (e : Int) : Prop := e = 5 ∨ e = 2 ∨ e = 4 ∨ e = 12
theorem patch_forms {l : List Feat} {ops : List Opn} (h : PatchOk l ops) : ∀ o ∈ ops, OpForm o := fun o ho => opForm (h.2.2 o ho)
theorem patch_of {l : List Feat} {ops : List Opn} (hl : FeatsOk l) (hn : ops.length ≤ 100) (ho : ∀ o ∈ ops, OpForm o) : PatchOk l ops := ⟨hl, hn, fun o h => opOk_form (ho o h)⟩
theorem apply_ok {l x : List Feat} {ops bs : List Opn} (h : PatchOk l ops) (hr : runO l ops = .ok (x, bs)) : applyO l ops = (x, -1, 0) ∧ undoO l ops = (bs.reverse, 0) := by
  unfold applyO undoO
  rw [if_pos h, if_pos h, hr]
  exact ⟨rfl, rfl⟩
theorem apply_er {l : List Feat} {ops : List Opn} {i : Nat} {e : Int} (h : PatchOk l ops) (hr : runO l ops = .error (i, e)) : applyO l ops = ([], (i : Int), e) ∧ undoO l ops = ([], e) := by
  unfold applyO undoO
  rw [if_pos h, if_pos h, hr]
  exact ⟨rfl, rfl⟩
theorem apply_no {l : List Feat} {ops : List Opn} (h : ¬ PatchOk l ops) : applyO l ops = ([], -1, 1) ∧ undoO l ops = ([], 1) := by
  unfold applyO undoO
  rw [if_neg h, if_neg h]
  exact ⟨rfl, rfl⟩
theorem apply_cases (l : List Feat) (ops : List Opn) : (¬ PatchOk l ops ∧ applyO l ops = ([], -1, 1) ∧ undoO l ops = ([], 1)) ∨
    (PatchOk l ops ∧ ∃ i e, runO l ops = .error (i, e) ∧ i < ops.length ∧ ErrO e ∧ applyO l ops = ([], (i : Int), e) ∧ undoO l ops = ([], e)) ∨
    (PatchOk l ops ∧ ∃ x bs, runO l ops = .ok (x, bs) ∧ FeatsOk x ∧ applyO l ops = (x, -1, 0) ∧ undoO l ops = (bs.reverse, 0)) := by
  by_cases h : PatchOk l ops
  · cases hr : runO l ops with
    | error y =>
      obtain ⟨i, e⟩ := y
      exact .inr (.inl ⟨h, i, e, rfl, run_len ops hr, run_err hr, apply_er h hr⟩)
    | ok y =>
      obtain ⟨x, bs⟩ := y
      exact .inr (.inr ⟨h, x, bs, rfl, (run_back ops h.1 (patch_forms h) hr).2.2.1, apply_ok h hr⟩)
  · exact .inl ⟨h, apply_no h⟩
theorem fail_parts {l : List Feat} {ops : List Opn} {i : Nat} {e : Int} (h : PatchOk l ops) (hr : runO l ops = .error (i, e)) : ∃ x, applyO l (ops.take i) = (x, -1, 0) ∧ applyO x ((ops.drop i).take 1) = ([], 0, e) := by
  obtain ⟨x, bs, h1, h2⟩ := run_fail ops hr
  have hf := patch_forms h
  have p1 : PatchOk l (ops.take i) := patch_of h.1 (by rw [List.length_take]; have := h.2.1; omega) fun o ho => hf o (List.mem_of_mem_take ho)
  have hx := (run_back _ p1.1 (patch_forms p1) h1).2.2.1
  have p2 : PatchOk x ((ops.drop i).take 1) := patch_of hx (by rw [List.length_take]; omega) fun o ho => hf o (List.mem_of_mem_drop (List.mem_of_mem_take ho))
  exact ⟨x, (apply_ok p1 h1).1, (apply_er p2 h2).1⟩
theorem back_parts {l x : List Feat} {ops bs : List Opn} (h : PatchOk l ops) (hr : runO l ops = .ok (x, bs)) : bs.length = ops.length ∧ ∃ cs, applyO x bs.reverse = (l, -1, 0) ∧ undoO x bs.reverse = (cs, 0) ∧ applyO l cs = (x, -1, 0) := by
  obtain ⟨h1, h2, h3, cs, h4⟩ := run_back ops h.1 (patch_forms h) hr
  have p2 : PatchOk x bs.reverse := patch_of h3 (by rw [List.length_reverse, h1]; exact h.2.1) fun o ho => h2 o (List.mem_reverse.1 ho)
  obtain ⟨k1, k2, k3, ds, k4⟩ := run_back _ p2.1 (patch_forms p2) h4
  have p3 : PatchOk l cs.reverse := patch_of h.1 (by rw [List.length_reverse, k1, List.length_reverse, h1]; exact h.2.1) fun o ho => k2 o (List.mem_reverse.1 ho)
  exact ⟨h1, cs.reverse, (apply_ok p2 h4).1, (apply_ok p2 h4).2, (apply_ok p3 k4).1⟩
theorem after_cases {l : List Feat} {ops : List Opn} (h : PatchOk l ops) (k : Nat) (hk : k ≤ ops.length) :
    (∃ (i : Nat) (e : Int), ErrO e ∧ i < k ∧ applyO l ops = ([], (i : Int), e) ∧ applyO l (ops.take k) = ([], (i : Int), e)) ∨
    (∃ (x : List Feat) (j : Nat) (e : Int), ErrO e ∧ j < ops.length ∧ applyO l ops = ([], ((k + j : Nat) : Int), e) ∧ applyO l (ops.take k) = (x, -1, 0) ∧ applyO x (ops.drop k) = ([], (j : Int), e)) ∨
    ∃ x y : List Feat, applyO l ops = (y, -1, 0) ∧ applyO l (ops.take k) = (x, -1, 0) ∧ applyO x (ops.drop k) = (y, -1, 0) := by
  have hf := patch_forms h
  have p1 : PatchOk l (ops.take k) := patch_of h.1 (by rw [List.length_take]; have := h.2.1; omega) fun o ho => hf o (List.mem_of_mem_take ho)
  have ha := run_append (ops.take k) l (ops.drop k)
  rw [List.take_append_drop] at ha
  cases h1 : runO l (ops.take k) with
  | error y =>
    obtain ⟨i, e⟩ := y
    rw [h1] at ha
    have := run_len _ h1
    rw [List.length_take] at this
    exact .inl ⟨i, e, run_err h1, by omega, (apply_er h ha).1, (apply_er p1 h1).1⟩
  | ok y =>
    obtain ⟨x, bs⟩ := y
    rw [h1] at ha
    simp only at ha
    have hx := (run_back _ p1.1 (patch_forms p1) h1).2.2.1
    have p2 : PatchOk x (ops.drop k) := patch_of hx (by rw [List.length_drop]; have := h.2.1; omega) fun o ho => hf o (List.mem_of_mem_drop ho)
    cases h2 : runO x (ops.drop k) with
    | error z =>
      obtain ⟨j, e⟩ := z
      rw [h2] at ha
      simp only [List.length_take, Nat.min_eq_left hk] at ha
      exact .inr (.inl ⟨x, j, e, run_err h2, by have := run_len _ h2; rw [List.length_drop] at this; omega, (apply_er h ha).1, (apply_ok p1 h1).1, (apply_er p2 h2).1⟩)
    | ok z =>
      obtain ⟨y, cs⟩ := z
      rw [h2] at ha
      exact .inr (.inr ⟨x, y, (apply_ok h ha).1, (apply_ok p1 h1).1, (apply_ok p2 h2).1⟩)
theorem opsOk_len {o : List Opn} (h : OpsOk o) : o.length ≤ 100 := h.1
theorem opsOk_all {o : List Opn} (h : OpsOk o) : ∀ x ∈ o, OpOk x := h.2
theorem patch_feats {l : List Feat} {o : List Opn} (h : PatchOk l o) : FeatsOk l := h.1
theorem patch_ops {l : List Feat} {o : List Opn} (h : PatchOk l o) : OpsOk o := h.2
theorem opAddr {g o k : Nat} : (Addr.mk g o none).add k = ⟨g, o + k, none⟩ := by unfold Addr.add; split <;> simp_all
/-- Slices of a patch. -/
theorem ops_from {w : World} {ad : Option Addr} {n c k : Nat} {l : List Opn} (h : OpsAt w (.slice ad n c) l) (hn : l.length = n) (hk : k ≤ n) : OpsAt w (.slice (if c = k then ad else ad.map fun x => x.add (k * 16)) (n - k) (c - k)) (l.drop k) := by
  have hl : (l.drop k).length = n - k := by rw [List.length_drop, hn]
  obtain ⟨ad', c', e, h1, h2⟩ := h
  cases e
  refine ⟨_, _, by rw [hl], ⟨by omega, by omega⟩, fun i hi => ?_⟩
  rw [hl] at hi
  obtain ⟨g, o, va, vs, rfl, hf⟩ := h2 (k + i) (by omega)
  rw [if_neg (by omega)]
  refine ⟨g, o + k * 16, va, vs, by rw [Option.map_some, opAddr], ?_⟩
  rw [show (l.drop k).getD i noOpn = l.getD (k + i) noOpn by rw [List.getD_eq_getElem?_getD, List.getD_eq_getElem?_getD, List.getElem?_drop], show o + k * 16 + i * 16 = o + (k + i) * 16 by rw [Nat.add_mul]; omega]
  exact hf
theorem ops_fromA {w : World} {ad : Option Addr} {n k : Nat} {l : List Opn} (h : OpsAt w (.slice ad n k) l) (hn : l.length = n) (hk : k ≤ n) : OpsAt w (.slice ad 0 0) (l.drop k) := by
  have h1 := ops_from h hn hk
  have hc : n ≤ k := by
    obtain ⟨_, _, e, h2, _⟩ := h
    cases e
    omega
  rw [if_pos rfl, Nat.sub_self, show n - k = 0 by omega] at h1
  exact h1
theorem ops_fromB {w : World} {ad : Option Addr} {n c k : Nat} {l : List Opn} (h : OpsAt w (.slice ad n c) l) (hn : l.length = n) (hk : k ≤ n) (hc : ¬ c = k) : OpsAt w (.slice (ad.map fun x => x.add (k * 16)) (n - k) (c - k)) (l.drop k) := by
  have h1 := ops_from h hn hk
  rw [if_neg hc] at h1
  exact h1
theorem ops_part {w : World} {ad : Option Addr} {n c k : Nat} {l : List Opn} (h : OpsAt w (.slice ad n c) l) (hn : l.length = n) (hk : k < n) : OpsAt w (.slice (ad.map fun x => x.add (k * 16)) 1 (c - k)) ((l.drop k).take 1) := by
  have h1 := ops_from h hn (Nat.le_of_lt hk)
  have hc : n ≤ c := by
    obtain ⟨_, _, e, h2, _⟩ := h
    cases e
    omega
  rw [if_neg (by omega)] at h1
  exact ops_take h1 (by rw [List.length_drop, hn]) (by omega)
theorem first_nn {B : Opn → Bool} {l : List Opn} (h : ∃ o ∈ l, B o = true) : 0 ≤ firstI B l := by
  induction l with
  | nil => obtain ⟨o, ho, _⟩ := h; simp at ho
  | cons x l ih =>
    unfold firstI
    by_cases hx : B x = true
    · rw [if_pos hx]; omega
    · rw [if_neg hx]
      obtain ⟨o, ho, hb⟩ := h
      have : 0 ≤ firstI B l := ih (by
        rcases List.mem_cons.1 ho with rfl | ho
        · exact absurd hb hx
        · exact ⟨o, ho, hb⟩)
      rw [if_neg (by omega)]
      omega
theorem first_neg {B : Opn → Bool} : ∀ {l : List Opn}, (∀ o ∈ l, B o = false) → firstI B l = -1
  | [], _ => rfl
  | x :: l, h => by
    unfold firstI
    rw [if_neg (by rw [h x (by simp)]; decide), if_pos (by rw [first_neg (l := l) (fun o ho => h o (by simp [ho]))]; omega), ]
theorem comm_cases : ∀ (a b : List Opn), ((∀ o ∈ a, ∀ p ∈ b, FreeO o p) ∧ commI a b = (-1, -1)) ∨ ((¬ ∀ o ∈ a, ∀ p ∈ b, FreeO o p) ∧ 0 ≤ (commI a b).1 ∧ 0 ≤ (commI a b).2)
  | [], b => .inl ⟨fun o ho => by simp at ho, rfl⟩
  | x :: a, b => by
    by_cases h : ∀ p ∈ b, FreeO x p
    · have h1 : firstI (fun y => decide (¬ FreeO x y)) b = -1 := first_neg fun o ho => by simpa using h o ho
      unfold commI
      rw [h1, if_neg (by omega)]
      rcases comm_cases a b with ⟨ha, hc⟩ | ⟨ha, hc1, hc2⟩
      · rw [hc, if_pos (by decide)]
        exact .inl ⟨fun o ho p hp => by
          rcases List.mem_cons.1 ho with rfl | ho
          · exact h p hp
          · exact ha o ho p hp, rfl⟩
      · rw [if_neg (by omega)]
        exact .inr ⟨fun hh => ha fun o ho p hp => hh o (by simp [ho]) p hp, by show 0 ≤ (commI a b).1 + 1; omega, hc2⟩
    · have h1 : 0 ≤ firstI (fun y => decide (¬ FreeO x y)) b := first_nn (by
        have h2 : ∃ p, p ∈ b ∧ ¬ FreeO x p := Classical.byContradiction fun hn => h fun p hp => Classical.byContradiction fun hf => hn ⟨p, hp, hf⟩
        obtain ⟨p, hp, hf⟩ := h2
        exact ⟨p, hp, by simpa using hf⟩)
      unfold commI
      rw [if_pos h1]
      exact .inr ⟨fun hh => h fun p hp => hh x (by simp) p hp, Int.le_refl _, h1⟩
/-- What Commute answers both ways round. -/
theorem commO_cases (a b : List Opn) : (commO a b = (0, 0, 1) ∧ commO b a = (0, 0, 1)) ∨
    (OpsOk a ∧ OpsOk b ∧ ∃ i k j l : Int, 0 ≤ i ∧ 0 ≤ k ∧ 0 ≤ j ∧ 0 ≤ l ∧ commO a b = (i, k, 0) ∧ commO b a = (j, l, 0)) ∨
    (OpsOk a ∧ OpsOk b ∧ (∀ o ∈ a, ∀ p ∈ b, FreeO o p) ∧ commO a b = (-1, -1, 0) ∧ commO b a = (-1, -1, 0)) := by
  unfold commO
  by_cases h : OpsOk a ∧ OpsOk b
  · rw [if_pos h, if_pos ⟨h.2, h.1⟩]
    rcases comm_cases a b with ⟨h1, h2⟩ | ⟨h1, h2, h3⟩
    · rcases comm_cases b a with ⟨k1, k2⟩ | ⟨k1, _⟩
      · rw [h2, k2]; exact .inr (.inr ⟨h.1, h.2, h1, rfl, rfl⟩)
      · exact absurd (fun o ho p hp => free_sym (h1 p hp o ho)) k1
    · rcases comm_cases b a with ⟨k1, _⟩ | ⟨k1, k2, k3⟩
      · exact absurd (fun o ho p hp => free_sym (k1 p hp o ho)) h1
      · exact .inr (.inl ⟨h.1, h.2, _, _, _, _, h2, h3, k2, k3, rfl, rfl⟩)
  · rw [if_neg h, if_neg (fun k => h ⟨k.2, k.1⟩)]
    exact .inl ⟨rfl, rfl⟩
theorem swap_parts {l x y : List Feat} {a b bs cs : List Opn} (ha : PatchOk l a) (hb : OpsOk b) (hf : ∀ o ∈ a, ∀ p ∈ b, FreeO o p) (hlen : l.length + a.length + b.length ≤ 300) (h : runO l a = .ok (x, bs)) (k : runO x b = .ok (y, cs)) :
    ∃ v, applyO l b = (v, -1, 0) ∧ applyO v a = (y, -1, 0) := by
  obtain ⟨v, bs', cs', h1, h2⟩ := run_swap ha.1 (patch_forms ha) (fun p hp => opForm (hb.2 p hp)) hf hlen h k
  have p1 : PatchOk l b := ⟨ha.1, hb.1, hb.2⟩
  have hv := (run_back _ p1.1 (patch_forms p1) h1).2.2.1
  exact ⟨v, (apply_ok p1 h1).1, (apply_ok ⟨hv, ha.2.1, ha.2.2⟩ h2).1⟩
theorem norm_ok {ops : List Opn} {ids : List Int} (ho : OpsOk ops) (ht : TouchL ops ids) : OpsOk (normL ids ops) ∧ (normL ids ops).length ≤ ops.length := by
  have hf : ∀ o ∈ ops, OpForm o := fun o h => opForm (ho.2 o h)
  have hl := norm_len hf ht
  exact ⟨⟨Nat.le_trans hl ho.1, fun o h => opOk_form (norm_form hf ht o h).1⟩, hl⟩
theorem norm_apply {l x : List Feat} {ops bs : List Opn} {ids : List Int} (h : PatchOk l ops) (ht : TouchL ops ids) (hlen : l.length + ops.length ≤ 300) (hr : runO l ops = .ok (x, bs)) : SaysAll ids ops ∧ applyO l (normL ids ops) = (x, -1, 0) := by
  obtain ⟨h1, cs, h2⟩ := norm_run h.1 (patch_forms h) ht hlen hr
  have hn := (norm_ok ⟨h.2.1, h.2.2⟩ ht).1
  exact ⟨h1, (apply_ok ⟨h.1, hn.1, hn.2⟩ h2).1⟩
end Go.Proofs.YtpidmgkjnomigaaGreat
