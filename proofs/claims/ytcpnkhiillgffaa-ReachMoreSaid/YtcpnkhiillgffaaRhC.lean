/- Plain laws of chapter 33: the two ways to count on a track; the bound as the least of its candidates; a track hears no less than the table says. -/
import Derived.Test.YtcpnkhiillgffaaRtJ
namespace Go.Proofs.Ytcpnkhiillgffaa
set_option linter.unusedVariables false
section
variable {X A E T U : Nat → Nat → Int} {na ne np : Nat} {f t : Int} {p : Nat}
theorem cntN_mono {B C : Nat → Bool} : ∀ {n : Nat}, (∀ i, i < n → B i = true → C i = true) → cntN B n ≤ cntN C n
  | 0, _ => Int.le_refl _
  | n + 1, h => by
    have ih := cntN_mono (n := n) (fun i hi => h i (by omega))
    unfold cntN
    have h1 := h n (by omega)
    cases hb : B n
    · simp only [Bool.false_eq_true, if_false]; split <;> omega
    · rw [h1 hb]; simp only [if_true]; omega
theorem cntN_congr {B C : Nat → Bool} {n : Nat} (h : ∀ i, i < n → B i = C i) : cntN B n = cntN C n :=
  Int.le_antisymm (cntN_mono fun i hi hb => by rw [← h i hi]; exact hb) (cntN_mono fun i hi hb => by rw [h i hi]; exact hb)
theorem cntN_none {B : Nat → Bool} {n : Nat} (h : ∀ i, i < n → B i = false) : cntN B n = 0 := by
  have h1 := cntN_mono (B := B) (C := fun _ => false) (n := n) (fun i hi hb => by rw [h i hi] at hb; exact hb)
  have h2 : ∀ m, cntN (fun _ => false) m = 0 := fun m => by
    induction m with
    | zero => rfl
    | succ m ih => unfold cntN; rw [ih]; rfl
  rw [h2] at h1
  have := (cntN_bd B n).1
  omega
/-- Two classes that do not meet count as their union. -/
theorem cntN_add {B C D : Nat → Bool} : ∀ {n : Nat}, (∀ i, i < n → (B i = true ∧ C i = false ∧ D i = true) ∨ (B i = false ∧ C i = D i)) → cntN D n = cntN B n + cntN C n
  | 0, _ => rfl
  | n + 1, h => by
    have ih := cntN_add (n := n) (fun i hi => h i (by omega))
    unfold cntN
    rw [ih]
    rcases h n (by omega) with ⟨h1, h2, h3⟩ | ⟨h1, h2⟩
    · rw [h1, h2, h3]; simp; omega
    · rw [h1, ← h2]; simp; omega
theorem btw_iff {p q i : Nat} {s u : Int} : btwB X A p q s u i = true ↔ (s ≤ A i 0 ∧ A i 0 < u) ∧ hrB X (A i 1) (A i 2) (A i 3) p = true ∧ hrB X (A i 1) (A i 2) (A i 3) q = true := by
  unfold btwB
  rw [Bool.and_eq_true, Bool.and_eq_true, decide_eq_true_iff]
/-- How many pieces of the times from s on and before u are heard at p and at q. -/
theorem btw_mono {p q : Nat} {s u s' u' : Int} (hs : s' ≤ s) (hu : u ≤ u') (n : Nat) : cntN (btwB X A p q s u) n ≤ cntN (btwB X A p q s' u') n :=
  cntN_mono fun i _ h => by rw [btw_iff] at h ⊢; exact ⟨by omega, h.2⟩
theorem btw_none {p q : Nat} {s u : Int} (h : u ≤ s) (n : Nat) : cntN (btwB X A p q s u) n = 0 :=
  cntN_none fun i _ => by
    cases hb : btwB X A p q s u i
    · rfl
    · rw [btw_iff] at hb; omega
theorem btw_add {p q : Nat} {s m u : Int} (h1 : s ≤ m) (h2 : m ≤ u) (n : Nat) : cntN (btwB X A p q s u) n = cntN (btwB X A p q s m) n + cntN (btwB X A p q m u) n :=
  cntN_add fun i _ => by
    unfold btwB
    by_cases g : A i 0 < m
    · by_cases g1 : s ≤ A i 0
      · rw [decide_eq_true (show s ≤ A i 0 ∧ A i 0 < u by omega), decide_eq_true (show s ≤ A i 0 ∧ A i 0 < m by omega), decide_eq_false (show ¬ (m ≤ A i 0 ∧ A i 0 < u) by omega)]
        cases (hrB X (A i 1) (A i 2) (A i 3) p && hrB X (A i 1) (A i 2) (A i 3) q) <;> simp
      · rw [decide_eq_false (show ¬ (s ≤ A i 0 ∧ A i 0 < u) by omega), decide_eq_false (show ¬ (s ≤ A i 0 ∧ A i 0 < m) by omega), decide_eq_false (show ¬ (m ≤ A i 0 ∧ A i 0 < u) by omega)]
        simp
    · rw [decide_eq_false (show ¬ (s ≤ A i 0 ∧ A i 0 < m) by omega)]
      right
      refine ⟨by simp, ?_⟩
      by_cases g1 : A i 0 < u
      · rw [decide_eq_true (show s ≤ A i 0 ∧ A i 0 < u by omega), decide_eq_true (show m ≤ A i 0 ∧ A i 0 < u by omega)]
      · rw [decide_eq_false (show ¬ (s ≤ A i 0 ∧ A i 0 < u) by omega), decide_eq_false (show ¬ (m ≤ A i 0 ∧ A i 0 < u) by omega)]
/-- Waiting at one place. -/
theorem way_wait {p : Int} {ta tb s : Int} (h : ta < tb) : wayI X A na p ta p tb s = cntN (btwB X A p.toNat p.toNat (max ta s) tb) na := by
  unfold wayI
  rcases Int.lt_or_le ta s with g | g
  · rw [btw_none (by omega), Int.zero_add, show max (ta + 1) s = max ta s by omega]
  · rw [show max ta s = ta by omega, show max (ta + 1) s = ta + 1 by omega, show min (ta + 1) tb = ta + 1 by omega]
    exact (btw_add (by omega) (by omega) na).symm
/-- A way that begins before s. -/
theorem way_past {p q : Int} {ta tb s : Int} (h : ta < s) : wayI X A na p ta q tb s = cntN (btwB X A p.toNat q.toNat s tb) na := by
  unfold wayI
  rw [btw_none (by omega), Int.zero_add, show max (ta + 1) s = s by omega]
theorem way_mono {p q : Int} {ta tb s s' : Int} (h : s' ≤ s) : wayI X A na p ta q tb s ≤ wayI X A na p ta q tb s' := by
  unfold wayI
  have h1 := btw_mono (X := X) (A := A) (p := p.toNat) (q := p.toNat) (s := max ta s) (s' := max ta s') (u := min (ta + 1) tb) (u' := min (ta + 1) tb) (by omega) (by omega) na
  have h2 := btw_mono (X := X) (A := A) (p := p.toNat) (q := q.toNat) (s := max (ta + 1) s) (s' := max (ta + 1) s') (u := tb) (u' := tb) (by omega) (by omega) na
  omega
theorem sumW_mono {L : Nat → Nat → Int} {s s' : Int} (h : s' ≤ s) : ∀ k, sumW X A na L s k ≤ sumW X A na L s' k
  | 0 => Int.le_refl _
  | k + 1 => by
    have h1 := sumW_mono (L := L) h k
    have h2 := way_mono (X := X) (A := A) (na := na) (p := L k 0) (q := L (k + 1) 0) (ta := L k 1) (tb := L (k + 1) 1) h
    unfold sumW
    omega
/-- Two tracks with the same stops count the same. -/
theorem sumW_congr {L M : Nat → Nat → Int} {s : Int} : ∀ k, (∀ i, i ≤ k → L i 0 = M i 0 ∧ L i 1 = M i 1) → sumW X A na L s k = sumW X A na M s k
  | 0, _ => rfl
  | k + 1, h => by
    unfold sumW
    rw [sumW_congr k (fun i hi => h i (by omega)), (h k (by omega)).1, (h k (by omega)).2, (h (k + 1) (by omega)).1, (h (k + 1) (by omega)).2]
end
/-! ### The bound -/
section
variable {X A E T U : Nat → Nat → Int} {na ne np : Nat} {f t : Int} {p : Nat}
/-- What a way to p at t hears that the bound looks at. -/
inductive Cand (X A E T : Nat → Nat → Int) (na : Nat) (f t : Int) (p : Nat) (ne : Nat) : Int → Prop
  | wait : Cand X A E T na f t p ne (T (t - 1).toNat p + cntN (btwB X A p p (f + t - 1) (f + t)) na)
  | sail (k : Nat) (d : Int) : k < ne → E k 1 = (p : Int) → E k 2 ≤ d → d ≤ E k 3 → d ≤ t → Cand X A E T na f t p ne (sailI X A T na f t p (E k 0) d)
  | past (k : Nat) : k < ne → E k 1 = (p : Int) → t < E k 3 → Cand X A E T na f t p ne (cntN (btwB X A (E k 0).toNat p f (f + t)) na)
theorem inner_le {q d0 cur x : Int} : ∀ m : Nat, x ≤ innerI X A T na f t p q d0 cur m ↔ x ≤ cur ∧ ∀ i : Nat, i < m → x ≤ sailI X A T na f t p q (d0 + (i : Int))
  | 0 => ⟨fun h => ⟨h, fun i hi => by omega⟩, fun h => h.1⟩
  | m + 1 => by
    unfold innerI
    rw [Int.le_min, inner_le m]
    constructor
    · rintro ⟨⟨h1, h2⟩, h3⟩
      refine ⟨h1, fun i hi => ?_⟩
      rcases Nat.lt_or_ge i m with g | g
      · exact h2 i g
      · obtain rfl : i = m := by omega
        exact h3
    · rintro ⟨h1, h2⟩
      exact ⟨⟨h1, fun i hi => h2 i (by omega)⟩, h2 m (by omega)⟩
theorem edge_le {k : Nat} {cur x : Int} : x ≤ edgeI X A E T na f t p k cur ↔ x ≤ cur ∧ (E k 1 = (p : Int) → (∀ d, E k 2 ≤ d → d ≤ E k 3 → d ≤ t → x ≤ sailI X A T na f t p (E k 0) d) ∧ (t < E k 3 → x ≤ cntN (btwB X A (E k 0).toNat p f (f + t)) na)) := by
  unfold edgeI
  by_cases h : E k 1 = (p : Int)
  · rw [if_pos h]
    have key : x ≤ innerI X A T na f t p (E k 0) (E k 2) cur (min (E k 3) t - E k 2 + 1).toNat ↔ x ≤ cur ∧ ∀ d, E k 2 ≤ d → d ≤ E k 3 → d ≤ t → x ≤ sailI X A T na f t p (E k 0) d := by
      rw [inner_le]
      constructor
      · rintro ⟨h1, h2⟩
        refine ⟨h1, fun d d1 d2 d3 => ?_⟩
        have := h2 (d - E k 2).toNat (by omega)
        rwa [show E k 2 + ((d - E k 2).toNat : Int) = d by omega] at this
      · rintro ⟨h1, h2⟩
        exact ⟨h1, fun i hi => h2 _ (by omega) (by omega) (by omega)⟩
    by_cases g : t < E k 3
    · rw [if_pos g, Int.le_min, key]
      exact ⟨fun ⟨⟨a, b⟩, c⟩ => ⟨a, fun _ => ⟨b, fun _ => c⟩⟩, fun ⟨a, b⟩ => ⟨⟨a, (b h).1⟩, (b h).2 g⟩⟩
    · rw [if_neg g, key]
      exact ⟨fun ⟨a, b⟩ => ⟨a, fun _ => ⟨b, fun g' => absurd g' g⟩⟩, fun ⟨a, b⟩ => ⟨a, (b h).1⟩⟩
  · rw [if_neg h]
    exact ⟨fun a => ⟨a, fun h' => absurd h' h⟩, fun a => a.1⟩
theorem edges_le {base x : Int} : ∀ m : Nat, x ≤ edgesI X A E T na f t p base m ↔ x ≤ base ∧ ∀ k, k < m → E k 1 = (p : Int) → (∀ d, E k 2 ≤ d → d ≤ E k 3 → d ≤ t → x ≤ sailI X A T na f t p (E k 0) d) ∧ (t < E k 3 → x ≤ cntN (btwB X A (E k 0).toNat p f (f + t)) na)
  | 0 => ⟨fun h => ⟨h, fun k hk => by omega⟩, fun h => h.1⟩
  | m + 1 => by
    unfold edgesI
    rw [edge_le, edges_le m]
    constructor
    · rintro ⟨⟨h1, h2⟩, h3⟩
      refine ⟨h1, fun k hk => ?_⟩
      rcases Nat.lt_or_ge k m with g | g
      · exact h2 k g
      · obtain rfl : k = m := by omega
        exact h3
    · rintro ⟨h1, h2⟩
      exact ⟨⟨h1, fun k hk => h2 k (by omega)⟩, h2 m (by omega)⟩
/-- The bound is the least of its candidates. -/
theorem le_bound {x : Int} (ht : t ≠ 0) : x ≤ boundI X A E T na f t p ne ↔ ∀ c, Cand X A E T na f t p ne c → x ≤ c := by
  unfold boundI
  rw [if_neg ht, edges_le]
  constructor
  · rintro ⟨h1, h2⟩ c hc
    cases hc with
    | wait => exact h1
    | sail k d a b c1 c2 c3 => exact (h2 k a b).1 d c1 c2 c3
    | past k a b c => exact (h2 k a b).2 c
  · intro h
    exact ⟨h _ .wait, fun k hk he => ⟨fun d a b c => h _ (.sail k d hk he a b c), fun a => h _ (.past k hk he a)⟩⟩
theorem bound_cand {c : Int} (ht : t ≠ 0) (hc : Cand X A E T na f t p ne c) : boundI X A E T na f t p ne ≤ c := (le_bound ht).1 (Int.le_refl _) c hc
theorem bound_zero : boundI X A E T na f 0 p ne = 0 := by unfold boundI; rw [if_pos rfl]
/-- The table's row u is the bound of the table. -/
theorem tbl_eq (hE : ∀ i, i < ne → 1 ≤ E i 2) {n u : Nat} (hu : u < n) (j : Nat) : tblN X A E na f ne n u j = boundI X A E (tblN X A E na f ne n) na f (u : Int) j ne := by
  rw [tblN_le X A E na f ne (show u < u + 1 by omega) (show u + 1 ≤ n by omega), tblN_new]
  refine bound_congr (fun v hv j' => ?_) (by omega) hE
  have hv' : v < u := by omega
  exact (tblN_le X A E na f ne hv' (by omega) j').symm
/-- Waiting from the minute a on. -/
theorem tbl_wait (hE : ∀ i, i < ne → 1 ≤ E i 2) {n a : Nat} (j : Nat) : ∀ b : Nat, a + b < n → tblN X A E na f ne n (a + b) j ≤ tblN X A E na f ne n a j + cntN (btwB X A j j (f + (a : Int)) (f + ((a + b : Nat) : Int))) na
  | 0, _ => by rw [Nat.add_zero, btw_none (by omega)]; omega
  | b + 1, h => by
    have ih := tbl_wait hE (n := n) (a := a) j b (by omega)
    rw [tbl_eq hE h]
    have hc := bound_cand (X := X) (A := A) (E := E) (T := tblN X A E na f ne n) (na := na) (ne := ne) (f := f) (p := j) (show ((a + (b + 1) : Nat) : Int) ≠ 0 by omega) .wait
    have e1 : (((a + (b + 1) : Nat) : Int) - 1).toNat = a + b := by omega
    rw [e1] at hc
    have e2 := btw_add (X := X) (A := A) (p := j) (q := j) (s := f + (a : Int)) (m := f + ((a + (b + 1) : Nat) : Int) - 1) (u := f + ((a + (b + 1) : Nat) : Int)) (by omega) (by omega) na
    rw [show f + ((a + (b + 1) : Nat) : Int) - 1 = f + ((a + b : Nat) : Int) by omega] at hc e2
    omega
/-- A ship on a track hears no less than the table says. -/
theorem track_least (hE : ∀ i, i < ne → EdgeOk np (E i)) {n nl : Nat} {L : Nat → Nat → Int} (hL : StopsOk np ne E nl L) (h0 : L 0 1 ≤ f) : ∀ m : Nat, m < nl → f ≤ L m 1 → L m 1 - f < (n : Int) → tblN X A E na f ne n (L m 1 - f).toNat (L m 0).toNat ≤ sumW X A na L f m := by
  have hE2 : ∀ i, i < ne → 1 ≤ E i 2 := fun i hi => (hE i hi).2.2.2.1
  intro m
  induction m with
  | zero =>
    intro _ h1 h2
    rw [show (L 0 1 - f).toNat = 0 by omega, tbl_eq hE2 (by omega)]
    exact Int.le_of_eq bound_zero
  | succ m ih =>
    intro hm h1 h2
    have bd := (sumW_bd X A na L f (m + 1)).1
    have bd0 := (sumW_bd X A na L f m).1
    by_cases ht : L (m + 1) 1 - f = 0
    · rw [show (L (m + 1) 1 - f).toNat = 0 by omega, tbl_eq hE2 (by omega)]
      exact Int.le_trans (Int.le_of_eq bound_zero) bd
    have st := hL.1 (m + 1) hm
    have sm := hL.1 m (by omega)
    obtain ⟨tt, htt⟩ : ∃ tt : Nat, L (m + 1) 1 - f = (tt : Int) := ⟨(L (m + 1) 1 - f).toNat, by omega⟩
    rw [htt, Int.toNat_natCast]
    unfold sumW
    rcases hL.2 m (by omega) with ⟨e, hlt⟩ | ⟨k, hk, e0, e1, e2, e3⟩
    · rw [← e, way_wait hlt]
      by_cases g : f ≤ L m 1
      · have hi := ih (by omega) g (by omega)
        have hw := tbl_wait (X := X) (A := A) (na := na) (f := f) hE2 (n := n) (a := (L m 1 - f).toNat) (L m 0).toNat (tt - (L m 1 - f).toNat) (by omega)
        rw [show (L m 1 - f).toNat + (tt - (L m 1 - f).toNat) = tt by omega, show f + ((L m 1 - f).toNat : Int) = L m 1 by omega, show f + (tt : Int) = L (m + 1) 1 by omega] at hw
        rw [show max (L m 1) f = L m 1 by omega]
        omega
      · have hw := tbl_wait (X := X) (A := A) (na := na) (f := f) hE2 (n := n) (a := 0) (L m 0).toNat tt (by omega)
        rw [Nat.zero_add, show f + (tt : Int) = L (m + 1) 1 by omega, tbl_eq hE2 (show 0 < n by omega)] at hw
        have hz := bound_zero (X := X) (A := A) (E := E) (T := tblN X A E na f ne n) (na := na) (f := f) (p := (L m 0).toNat) (ne := ne)
        rw [show ((0 : Nat) : Int) = 0 from rfl, hz, show f + 0 = f by omega] at hw
        rw [show max (L m 1) f = f by omega]
        omega
    · rw [tbl_eq hE2 (by omega)]
      have d1 := hE2 k hk
      have hp : E k 1 = (((L (m + 1) 0).toNat : Nat) : Int) := by have := st.1; omega
      by_cases g : f ≤ L m 1
      · have hi := ih (by omega) g (by omega)
        have hc := bound_cand (X := X) (A := A) (E := E) (T := tblN X A E na f ne n) (na := na) (f := f) (show (tt : Int) ≠ 0 by omega) (.sail k (L (m + 1) 1 - L m 1) hk hp e2 e3 (by omega))
        unfold sailI at hc
        rw [e0, show ((tt : Int) - (L (m + 1) 1 - L m 1)).toNat = (L m 1 - f).toNat by omega, show f + (tt : Int) - (L (m + 1) 1 - L m 1) = L m 1 by omega, show f + (tt : Int) = L (m + 1) 1 by omega, show (((L (m + 1) 0).toNat : Nat) : Int) = L (m + 1) 0 by have := st.1; omega] at hc
        omega
      · have hc := bound_cand (X := X) (A := A) (E := E) (T := tblN X A E na f ne n) (na := na) (f := f) (show (tt : Int) ≠ 0 by omega) (.past k hk hp (by omega))
        rw [e0, show f + (tt : Int) = L (m + 1) 1 by omega] at hc
        rw [way_past (by omega)]
        omega
end
section
variable {X A E L : Nat → Nat → Int} {na ne np nl : Nat} {f s : Int}
theorem stop_lt (hE : ∀ i, i < ne → EdgeOk np (E i)) (hL : StopsOk np ne E nl L) {i : Nat} (hi : i + 1 < nl) : L i 1 < L (i + 1) 1 := by
  rcases hL.2 i (by omega) with ⟨_, h⟩ | ⟨k, hk, _, _, h, _⟩
  · exact h
  · have := (hE k hk).2.2.2.1; omega
theorem stop_mono (hE : ∀ i, i < ne → EdgeOk np (E i)) (hL : StopsOk np ne E nl L) : ∀ {j i : Nat}, i ≤ j → j < nl → L i 1 ≤ L j 1 := by
  intro j
  induction j with
  | zero => intro i h _; obtain rfl : i = 0 := by omega
            exact Int.le_refl _
  | succ j ih =>
    intro i h hj
    rcases Nat.lt_or_ge i (j + 1) with g | g
    · have h1 := ih (i := i) (by omega) (by omega)
      have h2 := stop_lt hE hL (i := j) hj
      omega
    · obtain rfl : i = j + 1 := by omega
      exact Int.le_refl _
theorem cntB_out {k : Nat} (h : A k 0 < max s (L 0 1) ∨ L (nl - 1) 1 ≤ A k 0) : cntB X L A nl s k = false := by unfold cntB; rw [if_pos h]
/-- The program's count of pieces is the reference's sum over the ways. -/
theorem cnt_sum (hE : ∀ i, i < ne → EdgeOk np (E i)) (hL : StopsOk np ne E nl L) : ∀ m : Nat, m < nl → cntN (cntB X L A (m + 1) s) na = sumW X A na L s m
  | 0, _ => cntN_none fun i _ => cntB_out (by simp only [Nat.zero_add, Nat.sub_self]; omega)
  | m + 1, hm => by
    have ih := cnt_sum hE hL m (by omega)
    have hlt := stop_lt hE hL (i := m) hm
    have h0 := stop_mono hE hL (i := 0) (j := m) (by omega) (by omega)
    unfold sumW wayI
    rw [← ih, ← cntN_add (B := btwB X A (L m 0).toNat (L m 0).toNat (max (L m 1) s) (min (L m 1 + 1) (L (m + 1) 1))) (C := btwB X A (L m 0).toNat (L (m + 1) 0).toNat (max (L m 1 + 1) s) (L (m + 1) 1)) (D := fun i => btwB X A (L m 0).toNat (L m 0).toNat (max (L m 1) s) (min (L m 1 + 1) (L (m + 1) 1)) i || btwB X A (L m 0).toNat (L (m + 1) 0).toNat (max (L m 1 + 1) s) (L (m + 1) 1) i)]
    · refine cntN_add fun i _ => ?_
      have out1 : ∀ q : Nat, ¬ (max (L m 1) s ≤ A i 0 ∧ A i 0 < min (L m 1 + 1) (L (m + 1) 1)) → btwB X A (L m 0).toNat (L m 0).toNat (max (L m 1) s) (min (L m 1 + 1) (L (m + 1) 1)) i = false := fun q h => by
        unfold btwB; rw [decide_eq_false h]; rfl
      have out2 : ¬ (max (L m 1 + 1) s ≤ A i 0 ∧ A i 0 < L (m + 1) 1) → btwB X A (L m 0).toNat (L (m + 1) 0).toNat (max (L m 1 + 1) s) (L (m + 1) 1) i = false := fun h => by
        unfold btwB; rw [decide_eq_false h]; rfl
      by_cases g : A i 0 < max s (L 0 1)
      · right
        rw [cntB_out (.inl g), cntB_out (.inl g), out1 0 (by omega), out2 (by omega)]
        simp
      by_cases g1 : A i 0 < L m 1
      · rw [out1 0 (by omega), out2 (by omega)]
        have e : cntB X L A (m + 1 + 1) s i = cntB X L A (m + 1) s i := by
          have hj : 0 ≤ fstI (fun j => decide (A i 0 < L j 1)) (m + 1) := of_decide_eq_true (by rw [fstI_any]; exact decide_eq_true ⟨m, by omega, decide_eq_true g1⟩)
          have hf : fstI (fun j => decide (A i 0 < L j 1)) (m + 1 + 1) = fstI (fun j => decide (A i 0 < L j 1)) (m + 1) := by
            rw [show fstI (fun j => decide (A i 0 < L j 1)) (m + 1 + 1) = if 0 ≤ fstI (fun j => decide (A i 0 < L j 1)) (m + 1) then fstI (fun j => decide (A i 0 < L j 1)) (m + 1) else if decide (A i 0 < L (m + 1) 1) = true then ((m + 1 : Nat) : Int) else -1 from rfl, if_pos hj]
          unfold cntB
          rw [hf, if_neg (show ¬ (A i 0 < max s (L 0 1) ∨ L (m + 1 + 1 - 1) 1 ≤ A i 0) by simp only [Nat.add_sub_cancel]; omega), if_neg (show ¬ (A i 0 < max s (L 0 1) ∨ L (m + 1 - 1) 1 ≤ A i 0) by simp only [Nat.add_sub_cancel]; omega)]
        rw [e]
        cases cntB X L A (m + 1) s i <;> simp
      · right
        refine ⟨cntB_out (.inr (by simp only [Nat.add_sub_cancel]; omega)), ?_⟩
        by_cases g2 : L (m + 1) 1 ≤ A i 0
        · rw [cntB_out (.inr (by simp only [Nat.add_sub_cancel]; exact g2)), out1 0 (by omega), out2 (by omega)]; rfl
        · have hf : fstI (fun j => decide (A i 0 < L j 1)) (m + 1 + 1) = ((m + 1 : Nat) : Int) := fstI_at (by omega) (fun j hj => decide_eq_false (by have := stop_mono hE hL (i := j) (j := m) (by omega) (by omega); omega)) (decide_eq_true (by omega))
          have hc : cntB X L A (m + 1 + 1) s i = (hrB X (A i 1) (A i 2) (A i 3) (L m 0).toNat && hrB X (A i 1) (A i 2) (A i 3) (if L m 1 = A i 0 then L m 0 else L (m + 1) 0).toNat) := by
            unfold cntB
            rw [if_neg (show ¬ (A i 0 < max s (L 0 1) ∨ L (m + 1 + 1 - 1) 1 ≤ A i 0) by simp only [Nat.add_sub_cancel]; omega), hf, Int.toNat_natCast, Nat.add_sub_cancel]
          rw [hc]
          by_cases g3 : L m 1 = A i 0
          · rw [if_pos g3, out2 (by omega), Bool.or_false]
            unfold btwB
            rw [decide_eq_true (show max (L m 1) s ≤ A i 0 ∧ A i 0 < min (L m 1 + 1) (L (m + 1) 1) by omega)]; rfl
          · rw [if_neg g3, out1 0 (by omega), Bool.false_or]
            unfold btwB
            rw [decide_eq_true (show max (L m 1 + 1) s ≤ A i 0 ∧ A i 0 < L (m + 1) 1 by omega)]; rfl
    · intro i _
      by_cases g : A i 0 < min (L m 1 + 1) (L (m + 1) 1)
      · have e2 : btwB X A (L m 0).toNat (L (m + 1) 0).toNat (max (L m 1 + 1) s) (L (m + 1) 1) i = false := by unfold btwB; rw [decide_eq_false (by omega)]; rfl
        rw [e2]
        cases btwB X A (L m 0).toNat (L m 0).toNat (max (L m 1) s) (min (L m 1 + 1) (L (m + 1) 1)) i <;> simp
      · have e1 : btwB X A (L m 0).toNat (L m 0).toNat (max (L m 1) s) (min (L m 1 + 1) (L (m + 1) 1)) i = false := by unfold btwB; rw [decide_eq_false (by omega)]; rfl
        rw [e1]; simp
theorem countR_eq : countR np X ne E nl L na A s = countQ np X ne E nl L na A s := by
  unfold countR countQ
  by_cases h : CntOk np X ne E nl L na A s
  · rw [if_pos h, if_pos h]
    have n1 := h.1.2.1
    have := cnt_sum (X := X) (A := A) (na := na) (s := s) h.1.1.2.2.2.2 h.1.2.2.2 (nl - 1) (by omega)
    rw [show nl - 1 + 1 = nl by omega] at this
    rw [this]
  · rw [if_neg h, if_neg h]
end
section
variable {X A A' E E' T : Nat → Nat → Int} {na na' ne ne' np n : Nat} {f : Int}
theorem way_le (hc : ∀ p q s u, cntN (btwB X A p q s u) na ≤ cntN (btwB X A' p q s u) na') (p q ta tb s : Int) : wayI X A na p ta q tb s ≤ wayI X A' na' p ta q tb s := by
  unfold wayI
  have h1 := hc p.toNat p.toNat (max ta s) (min (ta + 1) tb)
  have h2 := hc p.toNat q.toNat (max (ta + 1) s) tb
  omega
/-- With pieces that are heard more, no integer of the table becomes less. -/
theorem tbl_more (hE : ∀ i, i < ne → 1 ≤ E i 2) (hc : ∀ p q s u, cntN (btwB X A p q s u) na ≤ cntN (btwB X A' p q s u) na') : ∀ u, u < n → ∀ j, tblN X A E na f ne n u j ≤ tblN X A' E na' f ne n u j := by
  intro u
  induction u using Nat.strongRecOn with
  | _ u ih =>
    intro hu j
    rw [tbl_eq hE hu, tbl_eq hE hu]
    by_cases h0 : u = 0
    · subst h0
      rw [show ((0 : Nat) : Int) = 0 from rfl, bound_zero, bound_zero]
      exact Int.le_refl _
    · rw [le_bound (by omega)]
      intro c h
      cases h with
      | wait =>
        refine Int.le_trans (bound_cand (by omega) .wait) ?_
        have h1 := ih ((u : Int) - 1).toNat (by omega) (by omega) j
        have h2 := hc j j (f + (u : Int) - 1) (f + (u : Int))
        omega
      | sail k d a b c1 c2 c3 =>
        refine Int.le_trans (bound_cand (by omega) (.sail k d a b c1 c2 c3)) ?_
        have := hE k a
        have h1 := ih ((u : Int) - d).toNat (by omega) (by omega) (E k 0).toNat
        have h2 := way_le hc (E k 0) (j : Int) (f + (u : Int) - d) (f + (u : Int)) f
        unfold sailI
        omega
      | past k a b c =>
        refine Int.le_trans (bound_cand (by omega) (.past k a b c)) ?_
        exact hc _ _ _ _
/-- With further edges, no integer of the table becomes greater. -/
theorem tbl_edges (hE : ∀ i, i < ne → 1 ≤ E i 2) (hE' : ∀ i, i < ne' → 1 ≤ E' i 2) (hne : ne ≤ ne') (he : ∀ i, i < ne → ∀ j, j < 4 → E' i j = E i j) : ∀ u, u < n → ∀ j, tblN X A E' na f ne' n u j ≤ tblN X A E na f ne n u j := by
  intro u
  induction u using Nat.strongRecOn with
  | _ u ih =>
    intro hu j
    rw [tbl_eq hE hu, tbl_eq hE' hu]
    by_cases h0 : u = 0
    · subst h0
      rw [show ((0 : Nat) : Int) = 0 from rfl, bound_zero, bound_zero]
      exact Int.le_refl _
    · rw [le_bound (by omega)]
      intro c h
      cases h with
      | wait =>
        refine Int.le_trans (bound_cand (by omega) .wait) ?_
        have h1 := ih ((u : Int) - 1).toNat (by omega) (by omega) j
        omega
      | sail k d a b c1 c2 c3 =>
        have e0 := he k a 0 (by omega)
        have e1 := he k a 1 (by omega)
        have e2 := he k a 2 (by omega)
        have e3 := he k a 3 (by omega)
        refine Int.le_trans (bound_cand (by omega) (.sail k d (by omega) (by omega) (by omega) (by omega) c3)) ?_
        have := hE k a
        have h1 := ih ((u : Int) - d).toNat (by omega) (by omega) (E k 0).toNat
        rw [e0]
        unfold sailI
        omega
      | past k a b c =>
        have e0 := he k a 0 (by omega)
        have e1 := he k a 1 (by omega)
        have e3 := he k a 3 (by omega)
        refine Int.le_trans (bound_cand (by omega) (.past k (by omega) (by omega) (by omega))) ?_
        rw [e0]
        exact Int.le_refl _
/-- From a later minute on, no integer of the table is greater. -/
theorem tbl_later (hE : ∀ i, i < ne → 1 ≤ E i 2) {n' D : Nat} (hD : n' + D ≤ n) : ∀ u, u < n' → ∀ j, tblN X A E na (f + (D : Int)) ne n' u j ≤ tblN X A E na f ne n (u + D) j := by
  intro u
  induction u using Nat.strongRecOn with
  | _ u ih =>
    intro hu j
    rw [tbl_eq hE hu]
    by_cases h0 : u = 0
    · subst h0
      rw [show ((0 : Nat) : Int) = 0 from rfl, bound_zero]
      exact (tblN_bd X A E na f ne n (0 + D) j).1
    · rw [tbl_eq hE (show u + D < n by omega), le_bound (by omega)]
      intro c h
      cases h with
      | wait =>
        refine Int.le_trans (bound_cand (by omega) .wait) ?_
        have h1 := ih ((u : Int) - 1).toNat (by omega) (by omega) j
        rw [show ((u : Int) - 1).toNat + D = (((u + D : Nat) : Int) - 1).toNat by omega] at h1
        rw [show f + (D : Int) + (u : Int) = f + ((u + D : Nat) : Int) by omega]
        omega
      | sail k d a b c1 c2 c3 =>
        have := hE k a
        by_cases g : d ≤ (u : Int)
        · refine Int.le_trans (bound_cand (by omega) (.sail k d a b c1 c2 g)) ?_
          have h1 := ih ((u : Int) - d).toNat (by omega) (by omega) (E k 0).toNat
          rw [show ((u : Int) - d).toNat + D = (((u + D : Nat) : Int) - d).toNat by omega] at h1
          have h2 := way_mono (X := X) (A := A) (na := na) (p := E k 0) (q := (j : Int)) (ta := f + ((u + D : Nat) : Int) - d) (tb := f + ((u + D : Nat) : Int)) (s := f + (D : Int)) (s' := f) (by omega)
          unfold sailI
          rw [show f + (D : Int) + (u : Int) = f + ((u + D : Nat) : Int) by omega]
          omega
        · refine Int.le_trans (bound_cand (by omega) (.past k a b (by omega))) ?_
          have hT := (tblN_bd X A E na f ne n (((u + D : Nat) : Int) - d).toNat (E k 0).toNat).1
          have h2 := way_mono (X := X) (A := A) (na := na) (p := E k 0) (q := (j : Int)) (ta := f + ((u + D : Nat) : Int) - d) (tb := f + ((u + D : Nat) : Int)) (s := f + (D : Int)) (s' := f) (by omega)
          rw [way_past (by omega)] at h2
          unfold sailI
          rw [show f + (D : Int) + (u : Int) = f + ((u + D : Nat) : Int) by omega]
          rw [Int.toNat_natCast] at h2
          omega
      | past k a b c =>
        refine Int.le_trans (bound_cand (by omega) (.past k a b (by omega))) ?_
        exact btw_mono (by omega) (by omega) na
/-- A table that Check accepts is no greater than that of the net. -/
theorem chk_le (hE : ∀ i, i < ne → EdgeOk np (E i)) {nt : Nat} (hn : nt ≤ n) (h : ∀ t, t < nt → ∀ p, p < np → T t p ≤ boundI X A E T na f (t : Int) p ne) : ∀ t, t < nt → ∀ p, p < np → T t p ≤ tblN X A E na f ne n t p := by
  have hE2 : ∀ i, i < ne → 1 ≤ E i 2 := fun i hi => (hE i hi).2.2.2.1
  intro u
  induction u using Nat.strongRecOn with
  | _ u ih =>
    intro hu j hj
    refine Int.le_trans (h u hu j hj) ?_
    rw [tbl_eq hE2 (show u < n by omega)]
    by_cases h0 : u = 0
    · subst h0
      rw [show ((0 : Nat) : Int) = 0 from rfl, bound_zero, bound_zero]
      exact Int.le_refl _
    · rw [le_bound (by omega)]
      intro c h
      cases h with
      | wait =>
        refine Int.le_trans (bound_cand (by omega) .wait) ?_
        have h1 := ih ((u : Int) - 1).toNat (by omega) (by omega) j hj
        omega
      | sail k d a b c1 c2 c3 =>
        refine Int.le_trans (bound_cand (by omega) (.sail k d a b c1 c2 c3)) ?_
        have := hE2 k a
        have h1 := ih ((u : Int) - d).toNat (by omega) (by omega) (E k 0).toNat (by have := (hE k a).1; omega)
        unfold sailI
        omega
      | past k a b c => exact bound_cand (by omega) (.past k a b c)
end
theorem backN_spec {ok : Nat → Bool} : ∀ n : Nat, backN ok n ≤ n ∧ (∀ t, backN ok n ≤ t → t < n → ok t = true) ∧ (0 < backN ok n → ok (backN ok n - 1) = false)
  | 0 => ⟨Nat.le_refl _, fun t _ h => by omega, fun h => by simp [backN] at h⟩
  | n + 1 => by
    have ih := backN_spec (ok := ok) n
    unfold backN
    cases hb : ok n
    · simp only [Bool.false_eq_true, if_false, Nat.add_sub_cancel]
      exact ⟨Nat.le_refl _, fun t h1 h2 => by omega, fun _ => hb⟩
    · simp only [if_true]
      refine ⟨by omega, fun t h1 h2 => ?_, ih.2.2⟩
      rcases Nat.lt_or_ge t n with g | g
      · exact ih.2.1 t h1 g
      · obtain rfl : t = n := by omega
        exact hb
theorem le_minA {R : Nat → Int} {Y : Nat → Nat → Int} {x : Int} : ∀ {m : Nat}, x ≤ minA R Y m ↔ x ≤ R (Y 0 0).toNat ∧ ∀ i, i < m → x ≤ R (Y i 0).toNat
  | 0 => ⟨fun h => ⟨h, fun i hi => by omega⟩, fun h => h.1⟩
  | m + 1 => by
    unfold minA
    rw [Int.le_min, le_minA]
    constructor
    · rintro ⟨⟨h1, h2⟩, h3⟩
      refine ⟨h1, fun i hi => ?_⟩
      rcases Nat.lt_or_ge i m with g | g
      · exact h2 i g
      · obtain rfl : i = m := by omega
        exact h3
    · rintro ⟨h1, h2⟩
      exact ⟨⟨h1, fun i hi => h2 i (by omega)⟩, h2 m (by omega)⟩
theorem enough_min {R : Nat → Int} {Y : Nat → Nat → Int} {x : Int} {m : Nat} (hm : 1 ≤ m) : x ≤ minA R Y m ↔ EnoughOk m Y R x := by
  rw [le_minA]
  exact ⟨fun h i hi => h.2 i hi, fun h => ⟨h 0 (by omega), fun i hi => h i hi⟩⟩
/-- The stops of a list that was collected from the last one back. -/
def backX (l : List (Int × Int)) (i j : Nat) : Int := pairX l (l.length - 1 - i) j
theorem backX_old (x : Int × Int) {l : List (Int × Int)} {i : Nat} (hi : i < l.length) (j : Nat) : backX (x :: l) i j = backX l i j := by
  unfold backX pairX
  rw [List.length_cons, show l.length + 1 - 1 - i = (l.length - 1 - i) + 1 by omega]
  rfl
theorem backX_new (x : Int × Int) (l : List (Int × Int)) : backX (x :: l) l.length 0 = x.1 ∧ backX (x :: l) l.length 1 = x.2 := by
  unfold backX pairX
  rw [List.length_cons, show l.length + 1 - 1 - l.length = 0 by omega]
  exact ⟨rfl, rfl⟩
section
variable {X A E : Nat → Nat → Int} {na ne np n : Nat} {f u : Int}
/-- What holds of the stops up to the minute t at p. -/
def Trk (X A E : Nat → Nat → Int) (na ne np n : Nat) (f : Int) (t p : Nat) (l : List (Int × Int)) : Prop :=
  1 ≤ l.length ∧ l.length ≤ t + 2 ∧ StopsOk np ne E l.length (backX l) ∧ backX l 0 1 ≤ f ∧ backX l (l.length - 1) 0 = (p : Int) ∧ backX l (l.length - 1) 1 = f + (t : Int) ∧ sumW X A na (backX l) f (l.length - 1) = tblN X A E na f ne n t p
theorem stops_one {x : Int × Int} (h : StopOk np (fun j => if j = 0 then x.1 else x.2)) : StopsOk np ne E [x].length (backX [x]) :=
  ⟨fun i hi => by
    have hi' : i < 1 := hi
    obtain rfl : i = 0 := by omega
    exact h, fun i hi => by
    have hi' : i < 1 - 1 := hi
    omega⟩
theorem stops_cons {x : Int × Int} {l : List (Int × Int)} (hl : 1 ≤ l.length) (h : StopsOk np ne E l.length (backX l)) (hx : StopOk np (fun j => if j = 0 then x.1 else x.2)) (hd : LeadsOk ne E (backX l (l.length - 1) 0) (backX l (l.length - 1) 1) x.1 x.2) : StopsOk np ne E (x :: l).length (backX (x :: l)) := by
  obtain ⟨n0, n1⟩ := backX_new x l
  refine ⟨fun i hi => ?_, fun i hi => ?_⟩
  · rcases Nat.lt_or_ge i l.length with g | g
    · have h1 := h.1 i g
      unfold StopOk at h1 ⊢
      rw [backX_old x g, backX_old x g]; exact h1
    · rw [List.length_cons] at hi
      obtain rfl : i = l.length := by omega
      unfold StopOk
      rw [n0, n1]; exact hx
  · rw [List.length_cons] at hi
    rcases Nat.lt_or_ge (i + 1) l.length with g | g
    · rw [backX_old x (by omega), backX_old x (by omega), backX_old x g, backX_old x g]
      exact h.2 i (by omega)
    · obtain rfl : i = l.length - 1 := by omega
      rw [backX_old x (by omega), backX_old x (by omega), show l.length - 1 + 1 = l.length by omega, n0, n1]
      exact hd
theorem sum_cons {x : Int × Int} {l : List (Int × Int)} (hl : 1 ≤ l.length) : sumW X A na (backX (x :: l)) f ((x :: l).length - 1) = sumW X A na (backX l) f (l.length - 1) + wayI X A na (backX l (l.length - 1) 0) (backX l (l.length - 1) 1) x.1 x.2 f := by
  obtain ⟨n0, n1⟩ := backX_new x l
  obtain ⟨m, hm⟩ : ∃ m, l.length = m + 1 := ⟨l.length - 1, by omega⟩
  rw [List.length_cons, show l.length + 1 - 1 = m + 1 by omega, show l.length - 1 = m by omega]
  rw [hm] at n0 n1
  show sumW X A na (backX (x :: l)) f m + wayI X A na (backX (x :: l) m 0) (backX (x :: l) m 1) (backX (x :: l) (m + 1) 0) (backX (x :: l) (m + 1) 1) f = _
  rw [n0, n1, backX_old x (by omega), backX_old x (by omega), sumW_congr m (M := backX l) (fun i hi => ⟨backX_old x (by omega) 0, backX_old x (by omega) 1⟩)]
theorem trk_ok (hN : NetOk np X ne E) (ha : AirsOk na A) (f0 : 0 ≤ f) (fu : f + (n : Int) ≤ 10000001) (n4 : n ≤ 401) : ∀ (t p : Nat), p < np → t < n → Trk X A E na ne np n f t p (((p : Int), f + (t : Int)) :: trk X A E (tblN X A E na f ne n) na f ne (t + 1) t p) := by
  have hE := hN.2.2.2.2
  have hE2 : ∀ i, i < ne → 1 ≤ E i 2 := fun i hi => (hE i hi).2.2.2.1
  intro t
  induction t using Nat.strongRecOn with
  | _ t ih =>
    intro p hp ht
    have hx : ∀ (q : Nat) (b : Int), q < np → -1000 ≤ b → b ≤ 10000000 → StopOk np (fun j => if j = 0 then (((q : Int), b) : Int × Int).1 else (((q : Int), b) : Int × Int).2) := fun q b hq h1 h2 => by
      unfold StopOk
      refine ⟨⟨?_, ?_⟩, ?_, ?_⟩ <;> simp <;> omega
    unfold trk
    by_cases h0 : t = 0
    · subst h0
      have hadd : (byW X A E (tblN X A E na f ne n) na f ne 0 p).adds = false := by
        unfold byW waysW
        rw [if_pos rfl, bestW_one]
      rw [if_neg (by omega), if_neg (by rw [hadd]; simp)]
      refine ⟨Nat.le_refl _, by simp, stops_one (hx p _ hp (by omega) (by omega)), ?_, rfl, rfl, ?_⟩
      · show f + ((0 : Nat) : Int) ≤ f; omega
      · rw [tbl_eq hE2 ht]
        exact (bound_zero (X := X) (A := A) (E := E)).symm
    · have hb := bestW_way (tblN X A E na f ne n) (l := waysW X A E na f p t ne) waysW_ne
      rw [best_bound hE, ← tbl_eq hE2 ht] at hb
      obtain ⟨hm, hv⟩ := hb
      obtain ⟨by_, hby⟩ : ∃ b, byW X A E (tblN X A E na f ne n) na f ne t p = b := ⟨_, rfl⟩
      have hby' : (bestW (tblN X A E na f ne n) (waysW X A E na f p t ne)).way = by_ := hby
      rw [hby'] at hm hv
      rw [hby, if_pos (by omega)]
      clear hby hby'
      unfold waysW at hm
      rw [if_neg h0] at hm
      -- the way that adds, from q at the minute t'
      have step : ∀ (q t' : Nat) (hr : Int), q < np → t' < t → LeadsOk ne E (q : Int) (f + (t' : Int)) (p : Int) (f + (t : Int)) → hr = wayI X A na (q : Int) (f + (t' : Int)) (p : Int) (f + (t : Int)) f → by_ = ⟨(q : Int), (t' : Int), hr, true⟩ →
          Trk X A E na ne np n f t p (((p : Int), f + (t : Int)) :: ([(by_.place, f + by_.time)] ++ if by_.adds = true then trk X A E (tblN X A E na f ne n) na f ne t by_.time.toNat by_.place.toNat else [])) := by
        intro q t' hr hq ht' hlead hhr hbe
        subst hbe
        show Trk X A E na ne np n f t p (((p : Int), f + (t : Int)) :: ((q : Int), f + (t' : Int)) :: trk X A E (tblN X A E na f ne n) na f ne t t' q)
        rw [trk_fuel hN ha t t' q hq ht']
        obtain ⟨i1, i2, i3, i4, i5, i6, i7⟩ := ih t' ht' q hq (by omega)
        generalize hl : (((q : Int), f + (t' : Int)) :: trk X A E (tblN X A E na f ne n) na f ne (t' + 1) t' q) = l at i1 i2 i3 i4 i5 i6 i7
        have hlen : (((p : Int), f + (t : Int)) :: l).length - 1 = l.length := by simp
        obtain ⟨n0, n1⟩ := backX_new ((p : Int), f + (t : Int)) l
        refine ⟨by simp, by simp; omega, stops_cons i1 i3 (hx p _ hp (by omega) (by omega)) (by rw [i5, i6]; exact hlead), ?_, by rw [hlen, n0], by rw [hlen, n1], ?_⟩
        · rw [backX_old _ (by omega)]; exact i4
        · rw [sum_cons i1, i7, i5, i6, ← hv]
          show _ = valW _ ⟨(q : Int), (t' : Int), hr, true⟩
          unfold valW
          rw [if_pos rfl]
          show _ = hr + tblN X A E na f ne n (t' : Int).toNat (q : Int).toNat
          rw [hhr, Int.toNat_natCast, Int.toNat_natCast, Int.add_comm]
      rcases edgesW_mem hm with hs | ⟨k, hk, he⟩
      · refine step p (t - 1) (cntN (btwB X A p p (f + ((t : Int) - 1)) (f + (t : Int))) na) hp (by omega) (.inl ⟨rfl, by omega⟩) ?_ (hs.trans ?_)
        · rw [way_wait (by omega), show max (f + ((t - 1 : Nat) : Int)) f = f + ((t : Int) - 1) by omega, Int.toNat_natCast]
        · unfold stayW
          rw [show ((t - 1 : Nat) : Int) = (t : Int) - 1 by omega]
      · obtain ⟨e1, hw⟩ := edgeW_mem he
        have eo := hE k hk
        obtain ⟨q, hq⟩ : ∃ q : Nat, E k 0 = (q : Int) := ⟨(E k 0).toNat, by have := eo.1; omega⟩
        have hqn : q < np := by have := eo.1; omega
        have e2 := eo.2.2.2.1
        have e23 := eo.2.2.2.2.1
        have e3 := eo.2.2.2.2.2
        rcases hw with ⟨i, hi, hs⟩ | ⟨hlt, hs⟩
        · unfold edgeN at hi
          have hd : E k 2 + (i : Int) ≤ (t : Int) := by omega
          have hd3 : E k 2 + (i : Int) ≤ E k 3 := by omega
          obtain ⟨t', ht'⟩ : ∃ t' : Nat, (t : Int) - (E k 2 + (i : Int)) = (t' : Int) := ⟨((t : Int) - (E k 2 + (i : Int))).toNat, by omega⟩
          refine step q t' (wayI X A na (q : Int) (f + (t' : Int)) (p : Int) (f + (t : Int)) f) hqn (by omega) (.inr ⟨k, hk, hq, e1, by omega, by omega⟩) rfl (hs.trans ?_)
          unfold sailW wayI
          rw [hq, ht', Int.toNat_natCast, Int.toNat_natCast, show max (f + (t' : Int)) f = f + (t' : Int) by omega, show min (f + (t' : Int) + 1) (f + (t : Int)) = f + ((t' : Int) + 1) by omega, show max (f + (t' : Int) + 1) f = f + ((t' : Int) + 1) by omega]
        · subst hs
          show Trk X A E na ne np n f t p [((p : Int), f + (t : Int)), (E k 0, f + ((t : Int) - E k 3))]
          rw [hq]
          obtain ⟨n0, n1⟩ := backX_new ((p : Int), f + (t : Int)) [((q : Int), f + ((t : Int) - E k 3))]
          refine ⟨by simp, by simp, stops_cons (by simp) (stops_one (hx q _ hqn (by omega) (by omega))) (hx p _ hp (by omega) (by omega)) (.inr ⟨k, hk, hq, e1, ?_, ?_⟩), ?_, n0, n1, ?_⟩
          · show E k 2 ≤ f + (t : Int) - (f + ((t : Int) - E k 3)); omega
          · show f + (t : Int) - (f + ((t : Int) - E k 3)) ≤ E k 3; omega
          · show f + ((t : Int) - E k 3) ≤ f; omega
          · rw [sum_cons (by simp), ← hv]
            show (0 : Int) + wayI X A na (q : Int) (f + ((t : Int) - E k 3)) (p : Int) (f + (t : Int)) f = cntN (btwB X A (E k 0).toNat p f (f + (t : Int))) na
            rw [way_past (by omega), hq, Int.toNat_natCast, Int.toNat_natCast, Int.zero_add]
end
theorem least_fact {np ne na nl : Nat} {X E A L : Nat → Nat → Int} {f u : Int} {cv : Int} (hT : TimesOk f u) (h : countR np X ne E nl L na A f = (cv, 0)) (h0 : L 0 1 ≤ f) (h1 : f ≤ L (nl - 1) 1) (h2 : L (nl - 1) 1 ≤ u) :
    (0 ≤ L (nl - 1) 0 ∧ L (nl - 1) 0 < (np : Int)) ∧ tblN X A E na f ne (u - f + 1).toNat (L (nl - 1) 1 - f).toNat (L (nl - 1) 0).toNat ≤ cv := by
  rw [countR_eq] at h
  unfold countQ at h
  split at h
  · next g =>
    have n1 := g.1.2.1
    obtain ⟨t1, t2, t3, t4⟩ := hT
    have key := track_least (X := X) (A := A) (na := na) (f := f) (n := (u - f + 1).toNat) g.1.1.2.2.2.2 g.1.2.2.2 h0 (nl - 1) (by omega) h1 (by omega)
    refine ⟨(g.1.2.2.2.1 (nl - 1) (by omega)).1, ?_⟩
    have := (Prod.mk.inj h).1
    omega
  · cases h
end Go.Proofs.Ytcpnkhiillgffaa
