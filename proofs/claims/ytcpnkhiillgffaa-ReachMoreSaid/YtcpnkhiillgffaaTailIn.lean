/- A region that draws its order, in a fence, over a class C of worlds: operations 0 to n - 1 yield the same in every world of the class and stay in it; the rest waits for all of them, each for the one before: one walk in the text's order. -/
import Derived.Sort.QuietTacIn
import Derived.StillTail
import Derived.WalkKit
namespace Go.Proofs.Ytcpnkhiillgffaa
open Go.RowKit
section
variable {F : Fence} {m : Nat} {P : Program} {ops : Array Oper} {md : Region.Mode} {C : World → Prop}
def headIn (F : Fence) (m : Nat) (P : Program) (md : Region.Mode) (ops : Array Oper) (C : World → Prop) (n : Nat) (L : Array Bool → Act → Prop) : Nat → Array Bool → Act → Prop
  | 0, listed, a => L listed a
  | f + 1, listed, a =>
    Region.ready md ops listed ≠ [] ∧ ∀ i ∈ Region.ready md ops listed, i < n ∧ qOpIn F m P ops C i (headIn F m P md ops C n L f (listed.setIfInBounds i true)) a
theorem headIn_first {n i : Nat} {oi : Oper} {v : Value} {L : Array Bool → Act → Prop} (hi : ops[i]? = some oi) (hsel : ∀ (j : Nat) (o : Oper) cs b, ops[j]? = some o → o.op ≠ .select cs b)
    (hs : Region.sinkB md ops n = true) (hc : Region.chainB md ops n = true) (hn : n < ops.size) (hin : i < n)
    (hdone : ∀ listed a, L listed a → ∀ j ∈ Region.ready md ops listed, n ≤ j) :
    ∀ (f : Nat) (listed : Array Bool) (a : Act), HeadInv md ops n listed →
      (∀ j oj, ops[j]? = some oj → j ≠ i → listed.getD j true = false → (∀ e ∈ oj.after, Region.binds md e = true → e.on ≠ i) → oi.apart ops oj = true) →
      i ∈ Region.ready md ops listed → YieldsQuiet F m P ops C oi v a →
      headIn F m P md ops C n L f (listed.setIfInBounds i true) (a.put oi.dst v) → headIn F m P md ops C n L (f + 1) listed a := by
  have early : ∀ (listed : Array Bool), HeadInv md ops n listed → i ∈ Region.ready md ops listed → ∀ j ∈ Region.ready md ops listed, j < n := fun listed inv hr j hj => by
    rcases Nat.lt_or_ge j n with h | h
    · exact h
    · exact absurd hj (tail_waits hs hc hn inv _ i rfl hin (mem_ready.1 hr).1 j h)
  have some1 : ∀ (listed : Array Bool), i ∈ Region.ready md ops listed → Region.ready md ops listed ≠ [] := fun listed hr h => by rw [h] at hr; cases hr
  intro f
  induction f with
  | zero =>
    intro listed a inv _ hr hy H
    refine ⟨some1 _ hr, fun j hj => ⟨early _ inv hr j hj, ?_⟩⟩
    by_cases hji : j = i
    · subst hji; exact hy.qOpIn hi H
    · have h1 := hdone _ _ H j (ready_mono hj hji)
      have h2 := early _ inv hr j hj
      omega
  | succ f ih =>
    intro listed a inv hfree hr hy H
    have hun := (mem_ready.1 hr).1
    refine ⟨some1 _ hr, fun j hj => ?_⟩
    have hjn := early _ inv hr j hj
    refine ⟨hjn, ?_⟩
    by_cases hji : j = i
    · subst hji; exact hy.qOpIn hi H
    · have h1 := (H.2 j (ready_mono hj hji)).2
      obtain ⟨hjun, oj, hoj, hall⟩ := mem_ready.1 hj
      have hnot : ∀ e ∈ oj.after, Region.binds md e = true → e.on ≠ i := fun e he hb heq => by
        have h1 := hall e he hb
        rw [heq, getD_both hun] at h1
        cases h1
      have h2 := qOpIn_put hoj (hfree j oj hoj hji hjun hnot) (fun cs b => hsel i oi cs b hi) (fun cs b => hsel j oj cs b hoj) hy h1
      refine qOpIn_mono (fun a' h3 => ih (listed.setIfInBounds j true) a' (inv.set hj hjn) (fun k ok hk hki hku hno => hfree k ok hk hki ?_ hno) (ready_mono hr (Ne.symm hji)) h3.1 ?_) h2
      · by_cases hjk : j = k
        · subst hjk; exact hjun
        · rw [getD_set_ne true hjk] at hku; exact hku
      · rw [Array.setIfInBounds_comm _ _ hji]
        exact h3.2
/-- No operation of the region is a defer. -/
def noDefer (ops : Array Oper) : Bool := ops.all fun o => match o.op with | .defer _ => false | _ => true
theorem noDefer_spec (h : noDefer ops = true) {i : Nat} {o : Oper} (hi : ops[i]? = some o) (ro : Option Nat) (ρ : Operand → Value) : o.semAt ro ρ = execOp ρ o := by
  refine Oper.semAt_eq ro ρ o (fun c hc => ?_)
  unfold noDefer at h
  rw [Array.all_eq_true] at h
  obtain ⟨hlt, he⟩ := Array.getElem?_eq_some_iff.1 hi
  have := h i hlt
  rw [he, hc] at this
  cases this
theorem wpIn_of_q {i : Nat} {o : Oper} {a : Act} {K : Act → Prop} {K' : Act → World → Prop} {Q' : Exit → Act → World → Prop} {w : World} (hd : noDefer ops = true) (hi : ops[i]? = some o) (hw : C w) (h : ∀ a w', C w' → K a → K' a w')
    (ha : o.askedIn F P a C) (hh : o.quietIn F m P a C K) : o.wpIn F m P a w K' Q' := by
  obtain ⟨v, h1, h2⟩ := hh
  have h3 := h1 w hw
  unfold Oper.quietAtIn at h3
  unfold Oper.wpIn
  refine ⟨ha w hw, ?_⟩
  rw [noDefer_spec hd hi]
  generalize (execOp a.eval o).run P w = r at *
  cases r with
  | halt x w' => simp only [Oper.quietUponIn] at h3
  | ok x w' =>
    cases x <;> simp only [Oper.quietUponIn] at h3 <;> simp only [Oper.uponIn]
    case value u =>
      rw [h3.1, h3.2]
      exact h _ _ hw h2
    case skip =>
      rw [h3.1, ← h3.2]
      exact h _ _ hw h2
    case enter f args =>
      rw [h3.1]
      exact ⟨h3.2.1, h3.2.2.mono fun e w'' hb => by rw [hb.1]; exact h _ _ hb.2 h2⟩
theorem wpOpIn_of_q {i : Nat} {a : Act} {K : Act → Prop} {K' : Act → World → Prop} {Q' : Exit → Act → World → Prop} {w : World} (hd : noDefer ops = true) (hC : C w) (h : ∀ a w', C w' → K a → K' a w')
    (hh : qOpIn F m P ops C i K a) : wpOpIn F m P ops Q' i K' a w := by
  unfold qOpIn at hh
  unfold wpOpIn
  cases ho : ops[i]? with
  | none => simp only [ho] at hh ⊢; exact h _ _ hC hh
  | some o =>
    simp only [ho] at hh ⊢
    by_cases hw : Region.wanted o (yielded ops a.tmps) = true
    · simp only [hw, if_true] at hh ⊢; exact wpIn_of_q hd ho hC h hh.1 hh.2
    · simp only [hw] at hh ⊢; exact ⟨hh.1 w hC, h _ _ hC hh.2⟩
theorem anyIn_of_q {Q : Act → Prop} {Q' : Exit → Act → World → Prop} (hd : noDefer ops = true) (hQ : ∀ a w, C w → Q a → Q' .normal a w) : ∀ (fuel : Nat) (listed : Array Bool) (a : Act) (w : World), C w →
    wpAnyQIn F m P md ops C Q fuel listed a → wpAnyIn F m P md ops Q' fuel listed a w
  | 0, _, _, _, hw, h => ⟨h.1, hQ _ _ hw h.2⟩
  | fuel + 1, _, _, _, hw, h => ⟨fun h0 => hQ _ _ hw (h.1 h0), fun i hi => wpOpIn_of_q hd hw (fun a' w' hw' => anyIn_of_q hd hQ fuel _ a' w' hw') (h.2 i hi)⟩
theorem anyIn_of_head {n g : Nat} {L : Array Bool → Act → Prop} {Q' : Exit → Act → World → Prop} (hd : noDefer ops = true) (hL : ∀ listed a w, C w → L listed a → wpAnyIn F m P md ops Q' g listed a w) :
    ∀ (f : Nat) (listed : Array Bool) (a : Act) (w : World), C w → headIn F m P md ops C n L f listed a → wpAnyIn F m P md ops Q' (f + g) listed a w
  | 0, listed, a, w, hw, h => by rw [Nat.zero_add]; exact hL _ _ _ hw h
  | f + 1, listed, a, w, hw, h => by
    rw [show f + 1 + g = (f + g) + 1 by omega]
    exact ⟨fun h0 => absurd h0 h.1, fun i hi => wpOpIn_of_q hd hw (fun a' w' hw' h' => anyIn_of_head hd hL f _ a' w' hw' h') (h.2 i hi).2⟩
theorem anyIn_of_seq {Q' : Exit → Act → World → Prop} : ∀ (l : List Oper) (k : Nat) (listed : Array Bool) (a : Act) (w : World), (∀ j, l[j]? = ops[k + j]?) →
    Region.seqB md ops l.length k listed = true → wpListIn F m P ops Q' l a w → wpAnyIn F m P md ops Q' l.length listed a w
  | [], _, _, _, _, _, hB, h => ⟨by simpa [Region.seqB] using hB, h⟩
  | o :: l, k, listed, a, w, hl, hB, h => by
    have h0 : ops[k]? = some o := by simpa using (hl 0).symm
    simp only [List.length_cons, Region.seqB, Bool.and_eq_true, decide_eq_true_eq] at hB
    refine ⟨fun h1 => (by rw [hB.1] at h1; cases h1), fun i hi => ?_⟩
    rw [hB.1] at hi
    obtain rfl : i = k := by simpa using hi
    have hw : wpOpIn F m P ops Q' i (wpListIn F m P ops Q' l) a w := by unfold wpOpIn; simp only [h0]; exact h
    exact wpOpIn_mono (fun a' w' h' => anyIn_of_seq l (i + 1) _ a' w' (fun j => by have := hl (j + 1); simpa [Nat.add_assoc, Nat.add_comm 1 j] using this) hB.2 h') hw
theorem headIn_lex {n g : Nat} {Lq : Act → Prop} (hsel : Region.noSelect ops = true) (hs : Region.sinkB md ops n = true) (hc : Region.chainB md ops n = true) (hn : n < ops.size) :
    ∀ (l : List Oper) (k : Nat) (listed : Array Bool) (a : Act), (∀ j, j < l.length → l[j]? = ops[k + j]?) → k + l.length = n → HeadInv md ops n listed →
    Region.lexHead md ops g l.length k listed = true → wpQuietIn F m P ops C Lq l a →
    headIn F m P md ops C n (fun listed' a' => Region.seqB md ops g n listed' = true ∧ Lq a') l.length listed a
  | [], k, listed, a, _, hk, _, hB, h => by
    obtain rfl : k = n := by simpa using hk
    exact ⟨by simpa [Region.lexHead] using hB, h⟩
  | o :: l, k, listed, a, hl, hk, inv, hB, h => by
    have h0 : ops[k]? = some o := by simpa using (hl 0 (by simp)).symm
    simp only [List.length_cons, Region.lexHead, Bool.and_eq_true] at hB
    obtain ⟨⟨hr, hf⟩, hB'⟩ := hB
    have hkn : k < n := by simp only [List.length_cons] at hk; omega
    have hr' : k ∈ Region.ready md ops listed := by simpa using hr
    have hst : qOpIn F m P ops C k (wpQuietIn F m P ops C Lq l) a := by unfold qOpIn; simp only [h0]; exact h
    obtain ⟨v, hy, hK⟩ := yieldsQuiet_of_qOpIn h0 hst
    exact headIn_first h0 (Region.noSelect_spec hsel) hs hc hn hkn (fun listed' a' hL => seqB_ready hL.1) l.length listed a inv (Region.free_spec h0 hf) hr' hy
      (headIn_lex hsel hs hc hn l (k + 1) _ _ (fun j hj => by have := hl (j + 1) (by simp; omega); simpa [Nat.add_assoc, Nat.add_comm 1 j] using this) (by simp only [List.length_cons] at hk; omega) (inv.set hr' hkn) hB' hK)
theorem wpIn_region_class_tail {id : Nat} {Q : Exit → Act → World → Prop} {a : Act} {w : World} {l : List Oper} (n : Nat) (hd : noDefer l.toArray = true) (hm : P.follows .mixedOrders = true) (hB : Region.lexTailB .any l.toArray n = true) (hC : C { w with drawn := w.drawn + 1 })
    (h : wpQuietIn F m P l.toArray C (fun a' => ∀ w', C w' → wpListIn F m P l.toArray Q (l.drop n) a' w') (l.take n) a) : (Code.region id l.toArray true).wpIn F m P Q a w := by
  simp only [Region.lexTailB, Bool.and_eq_true, decide_eq_true_eq] at hB
  obtain ⟨⟨⟨⟨hsel, hn⟩, hs⟩, hc⟩, hlex⟩ := hB
  have hn' : n < l.length := by simpa using hn
  have htl : (l.take n).length = n := by simp; omega
  have hdl : (l.drop n).length = l.toArray.size - n := by simp
  have inv0 : HeadInv .any l.toArray n (Array.replicate l.toArray.size false) :=
    ⟨by simp, fun j oj _ hl => (by rw [getD_replicate_false] at hl; cases hl), fun t _ ht => getD_in (by simpa using ht) (getD_replicate_false _ _)⟩
  have H := headIn_lex (F := F) (m := m) (P := P) (C := C) (md := .any) (g := l.toArray.size - n) hsel hs hc hn (l.take n) 0 _ a (fun j hj => by
    have hj' : j < n := by rw [htl] at hj; exact hj
    simp [hj']) (by simpa using htl) inv0 (by rw [htl]; exact hlex) h
  refine wpIn_region_any hm ?_
  have := anyIn_of_head (Q' := Q) (g := l.toArray.size - n) hd (fun listed a' w' hw' hL => by
    have := anyIn_of_seq (F := F) (m := m) (P := P) (md := .any) (Q' := Q) (l.drop n) n listed a' w' (fun j => by simp [List.getElem?_drop]) (by rw [hdl]; exact hL.1) (hL.2 w' hw')
    rwa [hdl] at this) _ _ _ { w with drawn := w.drawn + 1 } hC H
  rw [htl, show n + (l.toArray.size - n) = l.toArray.size by omega] at this
  exact this
/-- A region that draws its order and has no tail. -/
theorem wpIn_region_class {id : Nat} {Q : Exit → Act → World → Prop} {a : Act} {w : World} {l : List Oper} (hd : noDefer l.toArray = true) (hm : P.follows .mixedOrders = true) (hB : Region.lexB .any l.toArray = true) (hC : C { w with drawn := w.drawn + 1 })
    (h : wpQuietIn F m P l.toArray C (fun a' => ∀ w', C w' → Q .normal a' w') l a) : (Code.region id l.toArray true).wpIn F m P Q a w := by
  simp only [Region.lexB, Bool.and_eq_true] at hB
  refine wpIn_region_any hm (anyIn_of_q (Q := fun a' => ∀ w', C w' → Q .normal a' w') hd (fun _ w' hw' h => h w' hw') _ _ _ _ hC ?_)
  have := wpAnyQIn_lex (F := F) (n := m) (C := C) (md := .any) hB.1 l 0 (Array.replicate l.toArray.size false) a (by simp) (by simpa using hB.2) h
  simpa using this
end
end Go.Proofs.Ytcpnkhiillgffaa
