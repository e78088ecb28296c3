/- A region that draws its order, of this make: first operations that only read and calls that only make memory, then new variables, then a tail that waits for all of them: one walk of the text's order serves every order. -/
import Derived.StillTail
import Derived.Deep.QuietTactic
import Derived.Lib.QuietBelow
import Derived.Test.YtcpnkhiillgffaaBase
namespace Go.Proofs.Ytcpnkhiillgffaa
open Go.RowKit Go.Sort
section
variable {P : Program} {ops : Array Oper} {md : Region.Mode} {W : World}
/-- Nothing that was there has turned (a word of its own, so that a walk leaves it as it stands). -/
def Stays (w w' : World) : Prop := Below w.heap.size w w'
/-- What an operation yields in one world: the value v, the world as it was; or a call that hands v back and turns nothing that was there. -/
def bqUpon (P : Program) (w : World) (v : Value) : Result Next → Prop
  | .ok (.value u) w' => w' = w ∧ u = v
  | .ok .skip w' => w' = w ∧ v = undef
  | .ok (.enter f args) w' => w' = w ∧ Calls P f args w (fun e w'' => e = .returned v ∧ Stays w w'')
  | _ => False
def bqAll (P : Program) (W : World) (s : Sem Next) (v : Value) : Prop := ∀ p : Regrown, bqUpon P (grow (redrawn W p.d) p.os) v (s.run P (grow (redrawn W p.d) p.os))
def bqOp (P : Program) (o : Oper) (a : Act) (W : World) (next : Act → Prop) : Prop := ∃ v, bqAll P W (execOp a.eval o) v ∧ next (a.put o.dst v)
def wpBQ (P : Program) (ops : Array Oper) (W : World) (Q : Act → Prop) : List Oper → Act → Prop
  | [], a => Q a
  | o :: rest, a => if Region.wanted o (yielded ops a.tmps) then bqOp P o a W (wpBQ P ops W Q rest) else wpBQ P ops W Q rest (a.put o.dst undef)
theorem wpBQ_nil {Q : Act → Prop} {a : Act} (h : Q a) : wpBQ P ops W Q [] a := h
theorem wpBQ_step {Q : Act → Prop} {a : Act} {o : Oper} {rest : List Oper}
    (h : ∀ K : Act → Prop, (∀ a, wpBQ P ops W Q rest a → K a) → if Region.wanted o (yielded ops a.tmps) then bqOp P o a W K else K (a.put o.dst undef)) : wpBQ P ops W Q (o :: rest) a :=
  h _ (fun _ h => h)
def ptr (b : Nat) : Value := .pointer (some ⟨b, 0, none⟩)
/-- In state 'a' the operation 'o' yields 'v', whatever has been made meanwhile. -/
def YB (P : Program) (ops : Array Oper) (W : World) (o : Oper) (v : Value) (a : Act) : Prop :=
  (Region.wanted o (yielded ops a.tmps) = true ∧ bqAll P W (execOp a.eval o) v) ∨ (Region.wanted o (yielded ops a.tmps) = false ∧ v = undef)
/-- One operation of the head: below m one that yields its value; from m on a new variable, wherever it lies. -/
def hOp (P : Program) (ops : Array Oper) (W : World) (m i : Nat) (K : Act → Prop) (a : Act) : Prop :=
  match ops[i]? with
  | none => K a
  | some o => if i < m then ∃ v, YB P ops W o v a ∧ K (a.put o.dst v) else ∀ b, K (a.put o.dst (ptr b))
theorem hOp_mono {m i : Nat} {K K' : Act → Prop} {a : Act} (h : ∀ a, K a → K' a) (hh : hOp P ops W m i K a) : hOp P ops W m i K' a := by
  unfold hOp at *
  split
  · exact h _ (by simpa [*] using hh)
  · rename_i o ho
    simp only [ho] at hh
    split
    · rename_i hi; rw [if_pos hi] at hh; obtain ⟨v, h1, h2⟩ := hh; exact ⟨v, h1, h _ h2⟩
    · rename_i hi; rw [if_neg hi] at hh; exact fun b => h _ (hh b)
theorem YB.of_same {o : Oper} {v : Value} {a a' : Act} (hy : YB P ops W o v a) (he : execOp a'.eval o = execOp a.eval o)
    (hw : Region.wanted o (yielded ops a'.tmps) = Region.wanted o (yielded ops a.tmps)) : YB P ops W o v a' := by
  unfold YB at *
  rw [he, hw]
  exact hy
theorem YB.put {oi oj : Oper} {v : Value} {a : Act} (hy : YB P ops W oi v a) (hsi : ∀ cs b, oi.op ≠ .select cs b) (h3 : ∀ d, oj.dst = some d → d ∉ oi.looksAt ops) (u : Value) : YB P ops W oi v (a.put oj.dst u) :=
  hy.of_same (execOp_put oi hsi a oj.dst u h3) (wanted_put oi a oj.dst u h3)
theorem hOp_put {m j : Nat} {oi oj : Oper} {v : Value} (hj : ops[j]? = some oj) (hap : oi.apart ops oj = true)
    (hsi : ∀ cs b, oi.op ≠ .select cs b) (hsj : ∀ cs b, oj.op ≠ .select cs b) {K : Act → Prop} {a : Act}
    (hy : YB P ops W oi v a) (h : hOp P ops W m j K (a.put oi.dst v)) : hOp P ops W m j (fun a' => YB P ops W oi v a' ∧ K (a'.put oi.dst v)) a := by
  obtain ⟨h1, h2, h3⟩ := Oper.apart_spec hap
  unfold hOp at *
  simp only [hj] at *
  split
  · rename_i hi
    rw [if_pos hi] at h
    obtain ⟨u, hu, hn⟩ := h
    refine ⟨u, ?_, hy.put hsi h3 u, by rw [← Act.put_comm a v u h2]; exact hn⟩
    exact hu.of_same (execOp_put oj hsj a oi.dst v h1).symm (wanted_put oj a oi.dst v h1).symm
  · rename_i hi
    rw [if_neg hi] at h
    exact fun b => ⟨hy.put hsi h3 _, by rw [← Act.put_comm a v _ h2]; exact h b⟩
def wpHead (P : Program) (md : Region.Mode) (ops : Array Oper) (W : World) (m n : Nat) (L : Array Bool → Act → Prop) : Nat → Array Bool → Act → Prop
  | 0, listed, a => L listed a
  | f + 1, listed, a =>
    Region.ready md ops listed ≠ [] ∧ ∀ i ∈ Region.ready md ops listed, i < n ∧ hOp P ops W m i (wpHead P md ops W m n L f (listed.setIfInBounds i true)) a
theorem head_first {m n i : Nat} {oi : Oper} {v : Value} {L : Array Bool → Act → Prop} (hi : ops[i]? = some oi) (him : i < m) (hsel : ∀ (j : Nat) (o : Oper) cs b, ops[j]? = some o → o.op ≠ .select cs b)
    (hs : Region.sinkB md ops n = true) (hc : Region.chainB md ops n = true) (hn : n < ops.size) (hin : i < n)
    (hdone : ∀ listed a, L listed a → ∀ j ∈ Region.ready md ops listed, n ≤ j) :
    ∀ (f : Nat) (listed : Array Bool) (a : Act), HeadInv md ops n listed →
      (∀ j oj, ops[j]? = some oj → j ≠ i → listed.getD j true = false → (∀ e ∈ oj.after, Region.binds md e = true → e.on ≠ i) → oi.apart ops oj = true) →
      i ∈ Region.ready md ops listed → YB P ops W oi v a →
      wpHead P md ops W m n L f (listed.setIfInBounds i true) (a.put oi.dst v) → wpHead P md ops W m n L (f + 1) listed a := by
  have fire : ∀ (K : Act → Prop) (a : Act), YB P ops W oi v a → K (a.put oi.dst v) → hOp P ops W m i K a := fun K a hy hK => by
    unfold hOp
    simp only [hi]
    rw [if_pos him]
    exact ⟨v, hy, hK⟩
  intro f
  induction f with
  | zero =>
    intro listed a inv _ hr hy H
    have hun := (mem_ready.1 hr).1
    refine ⟨fun h => (by rw [h] at hr; cases hr), fun j hj => ?_⟩
    have hjn : j < n := by
      rcases Nat.lt_or_ge j n with h | h
      · exact h
      · exact absurd hj (tail_waits hs hc hn inv _ i rfl hin hun j h)
    refine ⟨hjn, ?_⟩
    by_cases hji : j = i
    · subst hji; exact fire _ _ hy H
    · have := hdone _ _ H j (ready_mono hj hji)
      omega
  | succ f ih =>
    intro listed a inv hfree hr hy H
    have hun := (mem_ready.1 hr).1
    refine ⟨fun h => (by rw [h] at hr; cases hr), fun j hj => ?_⟩
    have hjn : j < n := by
      rcases Nat.lt_or_ge j n with h | h
      · exact h
      · exact absurd hj (tail_waits hs hc hn inv _ i rfl hin hun j h)
    refine ⟨hjn, ?_⟩
    by_cases hji : j = i
    · subst hji; exact fire _ _ hy H
    · have h1 := (H.2 j (ready_mono hj hji)).2
      obtain ⟨hjun, oj, hoj, hall⟩ := mem_ready.1 hj
      have hnot : ∀ e ∈ oj.after, Region.binds md e = true → e.on ≠ i := fun e he hb heq => by
        have h1 := hall e he hb
        rw [heq, getD_both hun] at h1
        cases h1
      have h2 := hOp_put hoj (hfree j oj hoj hji hjun hnot) (fun cs b => hsel i oi cs b hi) (fun cs b => hsel j oj cs b hoj) hy h1
      have hfree' : ∀ k ok, ops[k]? = some ok → k ≠ i → (listed.setIfInBounds j true).getD k true = false →
          (∀ e ∈ ok.after, Region.binds md e = true → e.on ≠ i) → oi.apart ops ok = true := fun k ok hk hki hun hno => by
        refine hfree k ok hk hki ?_ hno
        by_cases hjk : j = k
        · subst hjk; exact hjun
        · rw [getD_set_ne true hjk] at hun; exact hun
      refine hOp_mono (fun a' h3 => ih (listed.setIfInBounds j true) a' (inv.set hj hjn) hfree' (ready_mono hr (Ne.symm hji)) h3.1 ?_) h2
      rw [Array.setIfInBounds_comm _ _ hji]
      exact h3.2
/-- Where all operations below m have come up, a new variable may be made first. -/
theorem head_alloc {m n i : Nat} {oi : Oper} {L : Array Bool → Act → Prop} (hi : ops[i]? = some oi) (him : m ≤ i)
    (hs : Region.sinkB md ops n = true) (hc : Region.chainB md ops n = true) (hn : n < ops.size) (hin : i < n)
    (hdone : ∀ listed a, L listed a → ∀ j ∈ Region.ready md ops listed, n ≤ j) :
    ∀ (f : Nat) (listed : Array Bool) (a : Act), HeadInv md ops n listed → (∀ j, j < m → listed.getD j true = true) →
      (∀ j oj, ops[j]? = some oj → j ≠ i → listed.getD j true = false → (∀ e ∈ oj.after, Region.binds md e = true → e.on ≠ i) → oi.apart ops oj = true) →
      i ∈ Region.ready md ops listed →
      (∀ b, wpHead P md ops W m n L f (listed.setIfInBounds i true) (a.put oi.dst (ptr b))) → wpHead P md ops W m n L (f + 1) listed a := by
  have fire : ∀ (K : Act → Prop) (a : Act), (∀ b, K (a.put oi.dst (ptr b))) → hOp P ops W m i K a := fun K a hK => by
    unfold hOp
    simp only [hi]
    rw [if_neg (by omega)]
    exact hK
  intro f
  induction f with
  | zero =>
    intro listed a inv _ _ hr H
    have hun := (mem_ready.1 hr).1
    refine ⟨fun h => (by rw [h] at hr; cases hr), fun j hj => ?_⟩
    have hjn : j < n := by
      rcases Nat.lt_or_ge j n with h | h
      · exact h
      · exact absurd hj (tail_waits hs hc hn inv _ i rfl hin hun j h)
    refine ⟨hjn, ?_⟩
    by_cases hji : j = i
    · subst hji; exact fire _ _ H
    · have := hdone _ _ (H 0) j (ready_mono hj hji)
      omega
  | succ f ih =>
    intro listed a inv hm hfree hr H
    have hun := (mem_ready.1 hr).1
    refine ⟨fun h => (by rw [h] at hr; cases hr), fun j hj => ?_⟩
    have hjn : j < n := by
      rcases Nat.lt_or_ge j n with h | h
      · exact h
      · exact absurd hj (tail_waits hs hc hn inv _ i rfl hin hun j h)
    refine ⟨hjn, ?_⟩
    by_cases hji : j = i
    · subst hji; exact fire _ _ H
    · obtain ⟨hjun, oj, hoj, hall⟩ := mem_ready.1 hj
      have hjm : ¬ j < m := fun h => by rw [hm j h] at hjun; cases hjun
      have hnot : ∀ e ∈ oj.after, Region.binds md e = true → e.on ≠ i := fun e he hb heq => by
        have h1 := hall e he hb
        rw [heq, getD_both hun] at h1
        cases h1
      obtain ⟨_, h2, _⟩ := Oper.apart_spec (hfree j oj hoj hji hjun hnot)
      have hfree' : ∀ k ok, ops[k]? = some ok → k ≠ i → (listed.setIfInBounds j true).getD k true = false →
          (∀ e ∈ ok.after, Region.binds md e = true → e.on ≠ i) → oi.apart ops ok = true := fun k ok hk hki hun hno => by
        refine hfree k ok hk hki ?_ hno
        by_cases hjk : j = k
        · subst hjk; exact hjun
        · rw [getD_set_ne true hjk] at hun; exact hun
      unfold hOp
      simp only [hoj]
      rw [if_neg hjm]
      intro b'
      refine ih (listed.setIfInBounds j true) _ (inv.set hj hjn) (fun k hk => by rw [getD_set_ne true (by omega)]; exact hm k hk) hfree' (ready_mono hr (Ne.symm hji)) (fun b => ?_)
      have h1 := ((H b).2 j (ready_mono hj hji)).2
      unfold hOp at h1
      simp only [hoj] at h1
      rw [if_neg hjm] at h1
      rw [Array.setIfInBounds_comm _ _ hji, ← Act.put_comm a _ _ h2]
      exact h1 b'
/-- The new variables, in the text's order. -/
def wpNew (Q : (Nat → Nat) → Act → Prop) : List Oper → Nat → (Nat → Nat) → Act → Prop
  | [], _, β, a => Q β a
  | o :: rest, k, β, a => ∀ b, wpNew Q rest (k + 1) (fun j => if j = k then b else β j) (a.put o.dst (ptr b))
/-- Operations m to n - 1 are new variables: each writes a slot of its own, below N, that no other operation of the head writes. -/
def newB (ops : Array Oper) (m n N : Nat) : Bool :=
  (List.range n).all fun j => decide (j < m) || match ops[j]? with
    | some o => (match o.dst with | some d => decide (d < N) && ((List.range n).all fun i => i == j || match ops[i]? with | some oi => oi.dst != some d | none => true) | none => false) && o.guard == none
    | none => false
theorem newB_spec {m n N : Nat} (h : newB ops m n N = true) {j : Nat} (h1 : m ≤ j) (h2 : j < n) : ∃ o d, ops[j]? = some o ∧ o.dst = some d ∧ d < N ∧ o.guard = none ∧ ∀ i oi, i < n → i ≠ j → ops[i]? = some oi → oi.dst ≠ some d := by
  have h3 := List.all_eq_true.1 h j (List.mem_range.2 h2)
  simp only [Bool.or_eq_true, decide_eq_true_eq] at h3
  rcases h3 with h3 | h3
  · omega
  cases ho : ops[j]? with
  | none => simp [ho] at h3
  | some o =>
    simp only [ho, Bool.and_eq_true, beq_iff_eq] at h3
    cases hd : o.dst with
    | none => simp [hd] at h3
    | some d =>
      simp only [hd, Bool.and_eq_true, decide_eq_true_eq] at h3
      refine ⟨o, d, rfl, hd, h3.1.1, h3.2, fun i oi hin hij hoi => ?_⟩
      have h4 := List.all_eq_true.1 h3.1.2 i (List.mem_range.2 hin)
      simp only [hoi, Bool.or_eq_true, beq_iff_eq, bne_iff_ne] at h4
      exact h4.resolve_left hij
/-- What is known of the world and the frame on the way: nothing that was there has turned; each variable made lies in a block of its own. -/
structure NewInv (ops : Array Oper) (W : World) (m n N : Nat) (ob : Nat → Obj) (listed : Array Bool) (a : Act) (w : World) (β : Nat → Nat) : Prop where
  below : Below W.heap.size W w
  size : a.tmps.size = N
  at' : ∀ j o d, m ≤ j → j < n → ops[j]? = some o → o.dst = some d → listed.getD j false = true → a.tmps.getD d undef = ptr (β j) ∧ W.heap.size ≤ β j ∧ w.heap[β j]? = some (ob j)
  ne : ∀ j j', m ≤ j → j < n → m ≤ j' → j' < n → listed.getD j false = true → listed.getD j' false = true → j ≠ j' → β j ≠ β j'
theorem getD_set_false {listed : Array Bool} {i j : Nat} (h : (listed.setIfInBounds i true).getD j false = true) : i = j ∨ listed.getD j false = true := by
  by_cases hij : i = j
  · exact .inl hij
  · rw [getD_set_ne false hij] at h; exact .inr h
theorem put_getD_ne {a : Act} {x : Option Tmp} {v : Value} {d : Nat} (h : x ≠ some d) : (a.put x v).tmps.getD d undef = a.tmps.getD d undef := by
  cases x with
  | none => rfl
  | some e => simp [Act.put, Array.getElem?_setIfInBounds_ne (show e ≠ d from fun h' => h (by rw [h']))]
theorem put_getD_same {a : Act} {v : Value} {d : Nat} (h : d < a.tmps.size) : (a.put (some d) v).tmps.getD d undef = v := by
  simp [Act.put, h]
theorem put_size (a : Act) (x : Option Tmp) (v : Value) : (a.put x v).tmps.size = a.tmps.size := by
  cases x <;> simp [Act.put]
theorem head_sound {m n N g : Nat} {ob : Nat → Obj} {L : Array Bool → Act → Prop} {Q' : Exit → Act → World → Prop} (hmn : m ≤ n) (hnew : newB ops m n N = true)
    (hob : ∀ j o, m ≤ j → j < n → ops[j]? = some o → ∀ ρ w, (execOp ρ o).run P w = .ok (.value (ptr w.heap.size)) (w.alloc (ob j)))
    (hL : ∀ listed a w β, L listed a → NewInv ops W m n N ob listed a w β → wpAny P md ops Q' g listed a w) :
    ∀ (f : Nat) (listed : Array Bool) (a : Act) (w : World) (β : Nat → Nat), NewInv ops W m n N ob listed a w β → listed.size = ops.size → wpHead P md ops W m n L f listed a → wpAny P md ops Q' (f + g) listed a w
  | 0, listed, a, w, β, J, _, h => by rw [Nat.zero_add]; exact hL _ _ _ _ h J
  | f + 1, listed, a, w, β, J, hls, h => by
    rw [show f + 1 + g = (f + g) + 1 by omega]
    refine ⟨fun h0 => absurd h0 h.1, fun i hi => ?_⟩
    obtain ⟨hin, hh⟩ := h.2 i hi
    obtain ⟨hun, o, ho, _⟩ := mem_ready.1 hi
    have hil : i < listed.size := by rw [hls]; exact (Array.getElem?_eq_some_iff.1 ho).1
    unfold hOp at hh
    simp only [ho] at hh
    by_cases him : i < m
    · rw [if_pos him] at hh
      obtain ⟨v, hy, hK⟩ := hh
      have keep : ∀ w', Below w.heap.size w w' → wpAny P md ops Q' (f + g) (listed.setIfInBounds i true) (a.put o.dst v) w' := fun w' hb => by
        refine head_sound hmn hnew hob hL f _ _ _ β ⟨below_step J.below hb, by rw [put_size]; exact J.size, fun j oj d h1 h2 h3 h4 h5 => ?_, fun j j' h1 h2 h3 h4 h5 h6 => ?_⟩ (by simp [hls]) hK
        · obtain ⟨o', d', e1, e2, _, _, e5⟩ := newB_spec hnew h1 h2
          have : o' = oj := Option.some.inj (e1.symm.trans h3)
          subst this
          have : d' = d := Option.some.inj (e2.symm.trans h4)
          subst this
          have hij : i ≠ j := by omega
          rw [getD_set_ne false hij] at h5
          obtain ⟨q1, q2, q3⟩ := J.at' j o' d' h1 h2 h3 h4 h5
          refine ⟨by rw [put_getD_ne (e5 i o hin hij ho)]; exact q1, q2, ?_⟩
          rw [hb.block _ (Array.getElem?_eq_some_iff.1 q3).1]; exact q3
        · have hij : i ≠ j := by omega
          have hij' : i ≠ j' := by omega
          rw [getD_set_ne false hij] at h5
          rw [getD_set_ne false hij'] at h6
          exact J.ne j j' h1 h2 h3 h4 h5 h6
      unfold wpOp
      simp only [ho]
      rcases hy with ⟨hw, hv⟩ | ⟨hw, rfl⟩
      · simp only [hw, if_true]
        refine .inl ?_
        obtain ⟨p, hp⟩ := regrown_of_below J.below
        have h3 := hv p
        rw [← hp] at h3
        unfold Oper.wp
        generalize (execOp a.eval o).run P w = r at *
        cases r with
        | ok nx w' =>
          cases nx <;> simp only [bqUpon] at h3 <;> simp only [Oper.upon]
          case value u => obtain ⟨rfl, rfl⟩ := h3; exact keep _ (Below.refl _ _)
          case skip => obtain ⟨rfl, rfl⟩ := h3; exact keep _ (Below.refl _ _)
          case enter fn args =>
            obtain ⟨rfl, hc⟩ := h3
            exact hc.mono fun e w'' ⟨he, hw''⟩ => by subst he; exact keep _ hw''
        | halt x w' => simp only [bqUpon] at h3
      · simp only [hw, Bool.false_eq_true, if_false]
        exact keep _ (Below.refl _ _)
    · rw [if_neg him] at hh
      obtain ⟨o', d, e1, e2, e3, e4, e5⟩ := newB_spec hnew (show m ≤ i by omega) hin
      have : o' = o := Option.some.inj (e1.symm.trans ho)
      subst this
      unfold wpOp
      simp only [ho]
      have hw : Region.wanted o' (yielded ops a.tmps) = true := by simp [Region.wanted, e4]
      simp only [hw, if_true]
      refine .inl ?_
      unfold Oper.wp
      rw [hob i o' (by omega) hin ho]
      simp only [Oper.upon]
      refine head_sound hmn hnew hob hL f _ _ _ (fun j => if j = i then w.heap.size else β j) ⟨J.below.alloc J.below.size _, by rw [put_size]; exact J.size, fun j oj d' h1 h2 h3 h4 h5 => ?_, fun j j' h1 h2 h3 h4 h5 h6 hne => ?_⟩ (by simp [hls]) (hh w.heap.size)
      · by_cases hij : j = i
        · subst hij
          have : o' = oj := Option.some.inj (ho.symm.trans h3)
          subst this
          have : d = d' := Option.some.inj (e2.symm.trans h4)
          subst this
          refine ⟨?_, ?_, ?_⟩
          · rw [e2, if_pos rfl]; exact put_getD_same (by rw [J.size]; exact e3)
          · rw [if_pos rfl]; exact J.below.size
          · rw [if_pos rfl]; show (w.heap.push _)[w.heap.size]? = _; simp
        · rw [getD_set_ne false (Ne.symm hij)] at h5
          obtain ⟨q1, q2, q3⟩ := J.at' j oj d' h1 h2 h3 h4 h5
          refine ⟨?_, ?_, ?_⟩
          · rw [if_neg hij, put_getD_ne]
            · exact q1
            · intro hd
              have := e5 j oj h2 hij h3
              rw [h4] at this
              rw [e2] at hd
              exact this hd.symm
          · rw [if_neg hij]; exact q2
          · rw [if_neg hij, Below.heap_alloc _ _ _ (Array.getElem?_eq_some_iff.1 q3).1]; exact q3
      · have lt : ∀ k, m ≤ k → k < n → k ≠ i → (listed.setIfInBounds i true).getD k false = true → β k < w.heap.size := fun k k1 k2 k3 k4 => by
          obtain ⟨ok, dk, f1, f2, _, _, _⟩ := newB_spec hnew k1 k2
          rw [getD_set_ne false (Ne.symm k3)] at k4
          exact (Array.getElem?_eq_some_iff.1 (J.at' k ok dk k1 k2 f1 f2 k4).2.2).1
        by_cases a1 : j = i
        · by_cases a2 : j' = i
          · omega
          · show (if j = i then w.heap.size else β j) ≠ (if j' = i then w.heap.size else β j')
            rw [if_pos a1, if_neg a2]; have := lt j' h3 h4 a2 h6; omega
        · by_cases a2 : j' = i
          · show (if j = i then w.heap.size else β j) ≠ (if j' = i then w.heap.size else β j')
            rw [if_neg a1, if_pos a2]; have := lt j h1 h2 a1 h5; omega
          · show (if j = i then w.heap.size else β j) ≠ (if j' = i then w.heap.size else β j')
            rw [if_neg a1, if_neg a2]
            rw [getD_set_ne false (Ne.symm a1)] at h5
            rw [getD_set_ne false (Ne.symm a2)] at h6
            exact J.ne j j' h1 h2 h3 h4 h5 h6 hne
/-- What holds where the head has come up whole. -/
def HeadDone (md : Region.Mode) (ops : Array Oper) (m n g : Nat) (Lq : (Nat → Nat) → Act → Prop) (listed : Array Bool) (a : Act) : Prop :=
  Region.seqB md ops g n listed = true ∧ (∀ j, j < n → listed.getD j false = true) ∧ ∃ β : Nat → Nat, (∀ j o d, m ≤ j → j < n → ops[j]? = some o → o.dst = some d → a.tmps.getD d undef = ptr (β j)) ∧ Lq β a
theorem lex_new {m n g N : Nat} {Lq : (Nat → Nat) → Act → Prop} (hs : Region.sinkB md ops n = true) (hc : Region.chainB md ops n = true) (hn : n < ops.size) (hnew : newB ops m n N = true) :
    ∀ (l : List Oper) (k : Nat) (listed : Array Bool) (β : Nat → Nat) (a : Act), (∀ j, j < l.length → l[j]? = ops[k + j]?) → k + l.length = n → m ≤ k → HeadInv md ops n listed → listed.size = ops.size → (∀ j, j < k → listed.getD j false = true) →
    Region.lexHead md ops g l.length k listed = true → a.tmps.size = N → (∀ j o d, m ≤ j → j < k → ops[j]? = some o → o.dst = some d → a.tmps.getD d undef = ptr (β j)) → wpNew Lq l k β a →
    wpHead P md ops W m n (HeadDone md ops m n g Lq) l.length listed a
  | [], k, listed, β, a, _, hk, _, _, _, hd, hB, _, ht, h => by
    have : k = n := by simpa using hk
    subst this
    exact ⟨by simpa [Region.lexHead] using hB, hd, β, ht, h⟩
  | o :: l, k, listed, β, a, hl, hk, hmk, inv, hls, hd, hB, hN, ht, h => by
    have h0 : ops[k]? = some o := by simpa using (hl 0 (by simp)).symm
    simp only [List.length_cons, Region.lexHead, Bool.and_eq_true] at hB
    obtain ⟨⟨hr, hf⟩, hB'⟩ := hB
    have hkn : k < n := by simp only [List.length_cons] at hk; omega
    have hr' : k ∈ Region.ready md ops listed := by simpa using hr
    obtain ⟨o', d, e1, e2, e3, e4, e5⟩ := newB_spec hnew hmk hkn
    have : o' = o := Option.some.inj (e1.symm.trans h0)
    subst this
    have hkl : k < listed.size := by rw [hls]; exact (Array.getElem?_eq_some_iff.1 h0).1
    refine head_alloc h0 hmk hs hc hn hkn (fun listed' a' hL => seqB_ready hL.1) l.length listed a inv (fun j hj => ?_) (Region.free_spec h0 hf) hr' (fun b => ?_)
    · have h1 := hd j (by omega)
      have h2 : j < listed.size := by
        rcases Nat.lt_or_ge j listed.size with h' | h'
        · exact h'
        · simp [Array.getElem?_eq_none h'] at h1
      simp [h2] at h1 ⊢; exact h1
    · refine lex_new hs hc hn hnew l (k + 1) _ (fun j => if j = k then b else β j) _ (fun j hj => by have := hl (j + 1) (by simp; omega); simpa [Nat.add_assoc, Nat.add_comm 1 j] using this) (by simp only [List.length_cons] at hk; omega) (by omega) (inv.set hr' hkn) (by simp [hls]) (fun j hj => ?_) hB' (by rw [put_size]; exact hN) (fun j oj dj h1 h2 h3 h4 => ?_) (h b)
      · by_cases hjk : k = j
        · subst hjk; simp [hkl]
        · rw [getD_set_ne false hjk]; exact hd j (by omega)
      · by_cases hjk : j = k
        · subst hjk
          have : o' = oj := Option.some.inj (h0.symm.trans h3)
          subst this
          have : d = dj := Option.some.inj (e2.symm.trans h4)
          subst this
          rw [e2, if_pos rfl]; exact put_getD_same (by rw [hN]; exact e3)
        · rw [if_neg hjk, put_getD_ne]
          · exact ht j oj dj h1 (by omega) h3 h4
          · intro hd'
            have := e5 j oj (by omega) hjk h3
            rw [h4] at this
            rw [e2] at hd'
            exact this hd'.symm
theorem lex_quiet {m n g N : Nat} {Lq : (Nat → Nat) → Act → Prop} (hsel : Region.noSelect ops = true) (hs : Region.sinkB md ops n = true) (hc : Region.chainB md ops n = true) (hn : n < ops.size) (hmn : m ≤ n) (hnew : newB ops m n N = true) (l2 : List Oper) (hl2 : ∀ j, j < l2.length → l2[j]? = ops[m + j]?) (hk2 : m + l2.length = n) (β : Nat → Nat) :
    ∀ (l : List Oper) (k : Nat) (listed : Array Bool) (a : Act), (∀ j, j < l.length → l[j]? = ops[k + j]?) → k + l.length = m → HeadInv md ops n listed → listed.size = ops.size → (∀ j, j < k → listed.getD j false = true) →
    Region.lexHead md ops g (l.length + l2.length) k listed = true → a.tmps.size = N → wpBQ P ops W (fun a' => wpNew Lq l2 m β a') l a →
    wpHead P md ops W m n (HeadDone md ops m n g Lq) (l.length + l2.length) listed a
  | [], k, listed, a, _, hk, inv, hls, hd, hB, hN, h => by
    have : k = m := by simpa using hk
    subst this
    simp only [List.length_nil, Nat.zero_add] at hB ⊢
    exact lex_new hs hc hn hnew l2 k listed β a hl2 hk2 (Nat.le_refl _) inv hls hd hB hN (fun j o d h1 h2 _ _ => by omega) h
  | o :: l, k, listed, a, hl, hk, inv, hls, hd, hB, hN, h => by
    have h0 : ops[k]? = some o := by simpa using (hl 0 (by simp)).symm
    rw [show (o :: l).length + l2.length = (l.length + l2.length) + 1 by simp only [List.length_cons]; omega] at hB ⊢
    simp only [Region.lexHead, Bool.and_eq_true] at hB
    obtain ⟨⟨hr, hf⟩, hB'⟩ := hB
    have hkm : k < m := by simp only [List.length_cons] at hk; omega
    have hkn : k < n := by omega
    have hr' : k ∈ Region.ready md ops listed := by simpa using hr
    have hkl : k < listed.size := by rw [hls]; exact (Array.getElem?_eq_some_iff.1 h0).1
    have hy : ∃ v, YB P ops W o v a ∧ wpBQ P ops W (fun a' => wpNew Lq l2 m β a') l (a.put o.dst v) := by
      unfold wpBQ at h
      by_cases hw : Region.wanted o (yielded ops a.tmps) = true
      · simp only [hw, if_true] at h
        obtain ⟨v, h1, h2⟩ := h
        exact ⟨v, .inl ⟨hw, h1⟩, h2⟩
      · simp only [hw] at h
        exact ⟨undef, .inr ⟨by simpa using hw, rfl⟩, h⟩
    obtain ⟨v, hy, hK⟩ := hy
    exact head_first h0 hkm (Region.noSelect_spec hsel) hs hc hn hkn (fun listed' a' hL => seqB_ready hL.1) (l.length + l2.length) listed a inv (Region.free_spec h0 hf) hr' hy
      (lex_quiet hsel hs hc hn hmn hnew l2 hl2 hk2 β l (k + 1) _ _ (fun j hj => by have := hl (j + 1) (by simp; omega); simpa [Nat.add_assoc, Nat.add_comm 1 j] using this) (by simp only [List.length_cons] at hk; omega) (inv.set hr' hkn) (by simp [hls]) (fun j hj => by
        by_cases hjk : k = j
        · subst hjk; simp [hkl]
        · rw [getD_set_ne false hjk]; exact hd j (by omega)) hB' (by rw [put_size]; exact hN) hK)
/-- **A region that draws its order: operations 0 to m - 1 read or call, m to n - 1 make variables, the rest waits for all of them, each for the one before: one walk in the text's order.** -/
theorem wp_region_tail {id : Nat} {Q : Exit → Act → World → Prop} {a : Act} {l : List Oper} (m n N : Nat) (ob : Nat → Obj) (hm : P.follows .mixedOrders = true) (hmn : m ≤ n) (hB : Region.lexTailB .any l.toArray n = true) (hnew : newB l.toArray m n N = true)
    (hob : ∀ j o, m ≤ j → j < n → l[j]? = some o → ∀ ρ w, (execOp ρ o).run P w = .ok (.value (ptr w.heap.size)) (w.alloc (ob j))) (hN : a.tmps.size = N)
    (h : wpBQ P l.toArray W (wpNew (fun β a' => ∀ w', Below W.heap.size W w' → (∀ j, m ≤ j → j < n → W.heap.size ≤ β j ∧ w'.heap[β j]? = some (ob j)) → (∀ j j', m ≤ j → j < n → m ≤ j' → j' < n → j ≠ j' → β j ≠ β j') → wpList P l.toArray Q (l.drop n) a' w') ((l.take n).drop m) m (fun _ => 0)) (l.take m) a) :
    (Code.region id l.toArray true).wp P Q a W := by
  simp only [Region.lexTailB, Bool.and_eq_true, decide_eq_true_eq] at hB
  obtain ⟨⟨⟨⟨hsel, hn⟩, hs⟩, hc⟩, hlex⟩ := hB
  have hn' : n < l.length := by simpa using hn
  have htl : (l.take m).length = m := by simp; omega
  have ht2 : ((l.take n).drop m).length = n - m := by simp; omega
  have hdl : (l.drop n).length = l.toArray.size - n := by simp
  have inv0 : HeadInv .any l.toArray n (Array.replicate l.toArray.size false) :=
    ⟨by simp, fun j oj _ hl => (by rw [getD_replicate_false] at hl; cases hl), fun t _ ht => getD_in (by simpa using ht) (getD_replicate_false _ _)⟩
  have H := lex_quiet (P := P) (W := W) (md := .any) (g := l.toArray.size - n) hsel hs hc hn hmn hnew ((l.take n).drop m) (fun j hj => by
      have hj' : m + j < n := by rw [ht2] at hj; omega
      simp [List.getElem?_drop, hj']) (by rw [ht2]; omega) (fun _ => 0) (l.take m) 0 _ a (fun j hj => by
      have hj' : j < m := by rw [htl] at hj; exact hj
      simp [hj']) (by simpa using htl) inv0 (by simp) (fun j hj => by omega) (by rw [htl, ht2, show m + (n - m) = n by omega]; exact hlex) hN h
  refine wp_region_any hm ?_
  have := head_sound (P := P) (W := W) (md := .any) (N := N) (ob := ob) (Q' := Q) (g := l.toArray.size - n) hmn hnew (fun j o h1 h2 h3 => hob j o h1 h2 (by simpa using h3)) (fun listed a' w' β' hL J => by
    obtain ⟨hq, hd, β, ht, hK⟩ := hL
    have hβ : ∀ j, m ≤ j → j < n → β j = β' j := fun j h1 h2 => by
      obtain ⟨o, d, e1, e2, _, _, _⟩ := newB_spec hnew h1 h2
      have q1 := ht j o d h1 h2 e1 e2
      have q2 := (J.at' j o d h1 h2 e1 e2 (hd j h2)).1
      rw [q1] at q2
      simpa [ptr] using q2
    have := wpAny_of_seq (md := .any) (Q' := Q) (l.drop n) n listed a' w' (fun j => by simp [List.getElem?_drop]) (by rw [hdl]; exact hq) (hK w' J.below (fun j h1 h2 => by
        obtain ⟨o, d, e1, e2, _, _, _⟩ := newB_spec hnew h1 h2
        rw [hβ j h1 h2]; exact (J.at' j o d h1 h2 e1 e2 (hd j h2)).2) (fun j j' h1 h2 h3 h4 h5 => by
        rw [hβ j h1 h2, hβ j' h3 h4]; exact J.ne j j' h1 h2 h3 h4 (hd j h2) (hd j' h4) h5))
    rwa [hdl] at this) _ _ _ { W with drawn := W.drawn + 1 } (fun _ => 0) ⟨⟨rfl, rfl, rfl, Nat.le_refl _, fun _ _ => rfl⟩, hN, fun j o d _ _ _ _ h5 => (by rw [getD_replicate_false] at h5; cases h5), fun j j' _ _ _ _ h5 => (by rw [getD_replicate_false] at h5; cases h5)⟩ (by simp) H
  rw [htl, ht2, show m + (n - m) + (l.toArray.size - n) = l.toArray.size by omega] at this
  exact this
end
end Go.Proofs.Ytcpnkhiillgffaa
