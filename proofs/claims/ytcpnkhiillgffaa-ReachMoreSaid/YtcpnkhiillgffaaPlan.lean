/- A region that draws its order, walked by a plan: operations that yield the same in every world that keeps what was there may be taken ahead of others; every other one must be the only one that may come up. Guards may be false. -/
import Derived.Deep.RegionHeld3
import Derived.Test.YtcpnkhiillgffaaRegion
namespace Go.Proofs.Ytcpnkhiillgffaa
open Go.RowKit Go.Sort
/-- The element of number n comes to the front. -/
def bring {α : Type} : Nat → List α → List α
  | 0, l => l
  | _ + 1, [] => []
  | n + 1, x :: l => match bring n l with
    | [] => [x]
    | y :: r => y :: x :: r
theorem bring_map {α β : Type} (f : α → β) : ∀ (n : Nat) (l : List α), bring n (l.map f) = (bring n l).map f
  | 0, _ => rfl
  | _ + 1, [] => rfl
  | n + 1, x :: l => by
    simp only [List.map_cons, bring, bring_map f n l]
    cases bring n l <;> rfl
section
variable {P : Program} {ops : Array Oper} {md : Region.Mode} {W : World} {Q : Exit → Act → World → Prop}
/-- What an operation yields that may be taken first: the value v, the world as it was. -/
def sqUpon (w : World) (v : Value) : Result Next → Prop
  | .ok (.value u) w' => w' = w ∧ u = v
  | _ => False
def sqAll (P : Program) (W : World) (s : Sem Next) (v : Value) : Prop := ∀ p : Regrown, sqUpon (grow (redrawn W p.d) p.os) v (s.run P (grow (redrawn W p.d) p.os))
def sqOp (P : Program) (o : Oper) (a : Act) (W : World) (next : Act → Prop) : Prop := ∃ v, sqAll P W (execOp a.eval o) v ∧ next (a.put o.dst v)
/-- A plan: take the one that lies so far behind in what is left of the text first; or it is the only one that may come up; or one of two, of three. -/
inductive Plan where
  | done
  | take (b : Nat) (rest : Plan)
  | only (b : Nat) (rest : Plan)
  | two (b1 : Nat) (p1 : Plan) (b2 : Nat) (p2 : Plan)
  | three (b1 : Nat) (p1 : Plan) (b2 : Nat) (p2 : Plan) (b3 : Nat) (p3 : Plan)
def Plan.size : Plan → Nat
  | .done => 0
  | .take _ r => r.size + 1
  | .only _ r => r.size + 1
  | .two _ r _ _ => r.size + 1
  | .three _ r _ _ _ _ => r.size + 1
/-- Whether a plan may be followed. -/
def planB (md : Region.Mode) (ops : Array Oper) : Plan → List Nat → Array Bool → Bool
  | .done, _, listed => decide (Region.ready md ops listed = [])
  | .take b p, is, listed => match bring b is with
    | [] => false
    | i :: rest => Region.free md ops listed i && (Region.ready md ops listed).contains i && planB md ops p rest (listed.setIfInBounds i true)
  | .only b p, is, listed => match bring b is with
    | [] => false
    | i :: rest => decide (Region.ready md ops listed = [i]) && planB md ops p rest (listed.setIfInBounds i true)
  | .two b1 p1 b2 p2, is, listed => match bring b1 is, bring b2 is with
    | i1 :: r1, i2 :: r2 => decide (Region.ready md ops listed = [i1, i2]) && decide (p1.size = p2.size) && planB md ops p1 r1 (listed.setIfInBounds i1 true) && planB md ops p2 r2 (listed.setIfInBounds i2 true)
    | _, _ => false
  | .three b1 p1 b2 p2 b3 p3, is, listed => match bring b1 is, bring b2 is, bring b3 is with
    | i1 :: r1, i2 :: r2, i3 :: r3 => decide (Region.ready md ops listed = [i1, i2, i3]) && decide (p1.size = p2.size ∧ p1.size = p3.size) && planB md ops p1 r1 (listed.setIfInBounds i1 true) && planB md ops p2 r2 (listed.setIfInBounds i2 true) && planB md ops p3 r3 (listed.setIfInBounds i3 true)
    | _, _, _ => false
/-- One operation that comes up by itself. -/
def wpOnly (P : Program) (ops : Array Oper) (W : World) (Q : Exit → Act → World → Prop) (K : List Oper → Act → World → Prop) (l : List Oper) (a : Act) (w : World) : Prop :=
  match l with
  | [] => False
  | o :: rest => if Region.wanted o (yielded ops a.tmps) then Oper.wp P o a w (fun a' w' => Below W.heap.size W w' ∧ K rest a' w') Q else K rest (a.put o.dst undef) w
/-- The walk of a plan. -/
def wpPlan (P : Program) (ops : Array Oper) (W : World) (Q : Exit → Act → World → Prop) : Plan → List Oper → Act → World → Prop
  | .done, _, a, w => Q .normal a w
  | .take b p, l, a, w => match bring b l with
    | [] => False
    | o :: rest => if Region.wanted o (yielded ops a.tmps) then sqOp P o a W (fun a' => wpPlan P ops W Q p rest a' w) else wpPlan P ops W Q p rest (a.put o.dst undef) w
  | .only b p, l, a, w => wpOnly P ops W Q (wpPlan P ops W Q p) (bring b l) a w
  | .two b1 p1 b2 p2, l, a, w => wpOnly P ops W Q (wpPlan P ops W Q p1) (bring b1 l) a w ∧ wpOnly P ops W Q (wpPlan P ops W Q p2) (bring b2 l) a w
  | .three b1 p1 b2 p2 b3 p3, l, a, w => wpOnly P ops W Q (wpPlan P ops W Q p1) (bring b1 l) a w ∧ wpOnly P ops W Q (wpPlan P ops W Q p2) (bring b2 l) a w ∧ wpOnly P ops W Q (wpPlan P ops W Q p3) (bring b3 l) a w
theorem wpPlan_done {l : List Oper} {a : Act} {w : World} (h : Q .normal a w) : wpPlan P ops W (NoPanic Q) .done l a w := h
theorem wpPlan_take {b : Nat} {p : Plan} {l rest : List Oper} {o : Oper} {a : Act} {w : World} (hb : bring b l = o :: rest)
    (h : ∀ K : Act → Prop, (∀ a, wpPlan P ops W Q p rest a w → K a) → if Region.wanted o (yielded ops a.tmps) then sqOp P o a W K else K (a.put o.dst undef)) : wpPlan P ops W Q (.take b p) l a w := by
  unfold wpPlan
  rw [hb]
  exact h _ (fun _ h => h)
theorem wpPlan_only {b : Nat} {p : Plan} {l rest : List Oper} {o : Oper} {a : Act} {w : World} (hb : bring b l = o :: rest)
    (h : ∀ K : Act → World → Prop, (∀ a w, Below W.heap.size W w → (Below W.heap.size W w → wpPlan P ops W Q p rest a w) → K a w) → if Region.wanted o (yielded ops a.tmps) = true then Oper.wp P o a w K Q else K (a.put o.dst undef) w) : wpPlan P ops W Q (.only b p) l a w := by
  unfold wpPlan wpOnly
  rw [hb]
  have := h (fun a' w' => Below W.heap.size W w' ∧ wpPlan P ops W Q p rest a' w') (fun a w h1 h2 => ⟨h1, h2 h1⟩)
  show if _ then _ else _
  split
  · rename_i hw'; rw [if_pos hw'] at this; exact this
  · rename_i hw'; rw [if_neg hw'] at this; exact this.2
theorem wpPlan_two {b1 b2 : Nat} {p1 p2 : Plan} {l : List Oper} {a : Act} {w : World} (h1 : wpPlan P ops W Q (.only b1 p1) l a w) (h2 : wpPlan P ops W Q (.only b2 p2) l a w) : wpPlan P ops W Q (.two b1 p1 b2 p2) l a w := ⟨h1, h2⟩
theorem wpPlan_three {b1 b2 b3 : Nat} {p1 p2 p3 : Plan} {l : List Oper} {a : Act} {w : World} (h1 : wpPlan P ops W Q (.only b1 p1) l a w) (h2 : wpPlan P ops W Q (.only b2 p2) l a w) (h3 : wpPlan P ops W Q (.only b3 p3) l a w) : wpPlan P ops W Q (.three b1 p1 b2 p2 b3 p3) l a w := ⟨h1, h2, h3⟩
theorem yieldsIf_of_sq {o : Oper} {v : Value} {a : Act} (hw : Region.wanted o (yielded ops a.tmps) = true) (h : sqAll P W (execOp a.eval o) v) : YieldsIf P ops (Below W.heap.size W) o v a :=
  .inl ⟨hw, fun w' hb => by
    obtain ⟨p, rfl⟩ := regrown_of_below hb
    have h1 := h p
    generalize (execOp a.eval o).run P (grow (redrawn W p.d) p.os) = r at *
    cases r with
    | halt x w' => exact h1.elim
    | ok x w' =>
      cases x with
      | value u => obtain ⟨rfl, rfl⟩ := h1; rfl
      | _ => exact h1.elim⟩
theorem bring_some {b i : Nat} {is is' : List Nat} {l : List Oper} (hl : l.map some = is.map (fun i => ops[i]?)) (hi : bring b is = i :: is') : ∃ o rest, bring b l = o :: rest ∧ ops[i]? = some o ∧ rest.map some = is'.map (fun i => ops[i]?) := by
  have e := bring_map some b l
  rw [hl, bring_map, hi] at e
  cases ho : bring b l with
  | nil => rw [ho] at e; cases e
  | cons o rest =>
    rw [ho] at e
    simp only [List.map_cons, List.cons.injEq] at e
    exact ⟨o, rest, rfl, e.1, e.2.symm⟩
theorem wpOp_of_only {i b n : Nat} {is is' : List Nat} {l : List Oper} {p : Plan} {listed : Array Bool} {a : Act} {w : World} (hl : l.map some = is.map (fun i => ops[i]?)) (hi : bring b is = i :: is') (hw : Below W.heap.size W w)
    (IH : ∀ (l' : List Oper) (a' : Act) (w' : World), l'.map some = is'.map (fun i => ops[i]?) → Below W.heap.size W w' → wpPlan P ops W Q p l' a' w' → wpAnyH P md ops Q (Below W.heap.size W) n (listed.setIfInBounds i true) a' w')
    (h : wpOnly P ops W Q (wpPlan P ops W Q p) (bring b l) a w) :
    wpOp P ops Q i (fun a' w' => Below W.heap.size W w' ∧ wpAnyH P md ops Q (Below W.heap.size W) n (listed.setIfInBounds i true) a' w') a w := by
  obtain ⟨o, rest, e0, e1, e2⟩ := bring_some hl hi
  rw [e0] at h
  unfold wpOnly at h
  refine wpOp_step e1 (fun K' hK => ?_)
  by_cases hwt : Region.wanted o (yielded ops a.tmps) = true
  · rw [if_pos hwt]
    simp only [hwt, if_true] at h
    exact Oper.wp_mono (fun a' w' h' => hK a' w' ⟨h'.1, IH _ _ _ e2 h'.1 h'.2⟩) h
  · rw [if_neg hwt]
    simp only [hwt] at h
    exact hK _ _ ⟨hw, IH _ _ _ e2 hw h⟩
theorem anyH_of_plan (hs : Region.noSelect ops = true) (hQ : ∀ c a d v w, Q (.panic c) (a.put d v) w → Q (.panic c) a w) (k : Nat) : ∀ (p : Plan) (is : List Nat) (l : List Oper) (listed : Array Bool) (a : Act) (w : World),
    l.map some = is.map (fun i => ops[i]?) → planB md ops p is listed = true → Below W.heap.size W w → wpPlan P ops W Q p l a w → wpAnyH P md ops Q (Below W.heap.size W) (p.size + k) listed a w
  | .done, is, l, listed, a, w, _, hB, _, h => wpAnyH_done (by simpa [planB] using hB) h _
  | .take b p, is, l, listed, a, w, hl, hB, hw, h => by
    unfold planB at hB
    unfold wpPlan at h
    rw [show (Plan.take b p).size + k = (p.size + k) + 1 by simp only [Plan.size]; omega]
    split at hB
    · cases hB
    · rename_i i is' hi
      obtain ⟨o, rest, e0, e1, e2⟩ := bring_some hl hi
      rw [e0] at h
      simp only [Bool.and_eq_true] at hB
      obtain ⟨⟨hB1, hB2⟩, hB3⟩ := hB
      have IH := fun a' w' hw' h' => anyH_of_plan hs hQ k p is' rest (listed.setIfInBounds i true) a' w' e2 hB3 hw' h'
      by_cases hwt : Region.wanted o (yielded ops a.tmps) = true
      · simp only [hwt, if_true] at h
        obtain ⟨v, h1, h2⟩ := h
        exact wpAnyH_take e1 hs hB1 hB2 (fun c a w => hQ c a _ _ w) (yieldsIf_of_sq hwt h1) hw (IH _ _ hw h2)
      · simp only [hwt] at h
        exact wpAnyH_take (v := undef) e1 hs hB1 hB2 (fun c a w => hQ c a _ _ w) (.inr ⟨by simpa using hwt, rfl⟩) hw (IH _ _ hw h)
  | .only b p, is, l, listed, a, w, hl, hB, hw, h => by
    unfold planB at hB
    unfold wpPlan at h
    rw [show (Plan.only b p).size + k = (p.size + k) + 1 by simp only [Plan.size]; omega]
    split at hB
    · cases hB
    · rename_i i is' hi
      simp only [Bool.and_eq_true] at hB
      refine wpAnyH_all (rs := [i]) (of_decide_eq_true hB.1) (by simp) (fun j hj => ?_)
      obtain rfl : j = i := by simpa using hj
      exact wpOp_of_only hl hi hw (fun l' a' w' e hw' h' => anyH_of_plan hs hQ k p is' l' _ a' w' e hB.2 hw' h') h
  | .two b1 p1 b2 p2, is, l, listed, a, w, hl, hB, hw, h => by
    unfold planB at hB
    unfold wpPlan at h
    rw [show (Plan.two b1 p1 b2 p2).size + k = (p1.size + k) + 1 by simp only [Plan.size]; omega]
    split at hB
    · rename_i i1 r1 i2 r2 hi1 hi2
      simp only [Bool.and_eq_true] at hB
      obtain ⟨⟨⟨hr, hsz⟩, hB1⟩, hB2⟩ := hB
      have hsz := of_decide_eq_true hsz
      refine wpAnyH_all (rs := [i1, i2]) (of_decide_eq_true hr) (by simp) (fun j hj => ?_)
      simp only [List.mem_cons, List.not_mem_nil, or_false] at hj
      rcases hj with rfl | rfl
      · exact wpOp_of_only hl hi1 hw (fun l' a' w' e hw' h' => anyH_of_plan hs hQ k p1 r1 l' _ a' w' e hB1 hw' h') h.1
      · exact wpOp_of_only hl hi2 hw (fun l' a' w' e hw' h' => by rw [hsz]; exact anyH_of_plan hs hQ k p2 r2 l' _ a' w' e hB2 hw' h') h.2
    · cases hB
  | .three b1 p1 b2 p2 b3 p3, is, l, listed, a, w, hl, hB, hw, h => by
    unfold planB at hB
    unfold wpPlan at h
    rw [show (Plan.three b1 p1 b2 p2 b3 p3).size + k = (p1.size + k) + 1 by simp only [Plan.size]; omega]
    split at hB
    · rename_i i1 r1 i2 r2 i3 r3 hi1 hi2 hi3
      simp only [Bool.and_eq_true] at hB
      obtain ⟨⟨⟨⟨hr, hsz⟩, hB1⟩, hB2⟩, hB3⟩ := hB
      have hsz := of_decide_eq_true hsz
      refine wpAnyH_all (rs := [i1, i2, i3]) (of_decide_eq_true hr) (by simp) (fun j hj => ?_)
      simp only [List.mem_cons, List.not_mem_nil, or_false] at hj
      rcases hj with rfl | rfl | rfl
      · exact wpOp_of_only hl hi1 hw (fun l' a' w' e hw' h' => anyH_of_plan hs hQ k p1 r1 l' _ a' w' e hB1 hw' h') h.1
      · exact wpOp_of_only hl hi2 hw (fun l' a' w' e hw' h' => by rw [hsz.1]; exact anyH_of_plan hs hQ k p2 r2 l' _ a' w' e hB2 hw' h') h.2.1
      · exact wpOp_of_only hl hi3 hw (fun l' a' w' e hw' h' => by rw [hsz.2]; exact anyH_of_plan hs hQ k p3 r3 l' _ a' w' e hB3 hw' h') h.2.2
    · cases hB
theorem wp_region_plan {id : Nat} {a : Act} {l : List Oper} (p : Plan) (hm : P.follows .mixedOrders = true)
    (hB : (Region.noSelect l.toArray && planB .any l.toArray p (List.range l.length) (Array.replicate l.length false) && decide (p.size ≤ l.length)) = true)
    (h : Below W.heap.size W W.drew → wpPlan P l.toArray W (NoPanic Q) p l a W.drew) : (Code.region id l.toArray true).wp P Q a W := by
  simp only [Bool.and_eq_true, decide_eq_true_eq] at hB
  obtain ⟨⟨hs, hB⟩, hlen⟩ := hB
  refine wp_region_noPanic (wp_region_held (S := Below W.heap.size W) hm ?_)
  have := anyH_of_plan (md := .any) (Q := NoPanic Q) hs (fun _ _ _ _ _ h => h) (l.length - p.size) p (List.range l.length) l (Array.replicate l.length false) a W.drew (by
    apply List.ext_getElem?
    intro n
    by_cases hn : n < l.length
    · simp [hn]
    · simp [Nat.not_lt.1 hn]) hB (Below.refl _ _).drew (h (Below.refl _ _).drew)
  rw [show p.size + (l.length - p.size) = l.toArray.size by simp; omega] at this
  simpa using this
end
end Go.Proofs.Ytcpnkhiillgffaa
