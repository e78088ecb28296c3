/- The walks of the validity of pieces in the air and of nets, in the program and in the reference. -/
import Derived.Test.YtcpnkhiillgffaaReachA
import Derived.Test.YtcpnkhiillgffaaRefA
namespace Go.Proofs.Ytcpnkhiillgffaa
open Go.RowKit
attribute [local go_sem] bqOp bqAll bqUpon
attribute [local irreducible] wpQuiet wpBQ
set_option linter.unusedVariables false
theorem hpValid_any (x y : Int) (w : World) {v : Bool} (hv : decide (Vld x y) = v) : Calls Try.prog 40 #[.agg #[.int .i64 x, .int .i64 y]] w fun e w' => e = .returned (.bool v) ∧ Below w.heap.size w w' := by
  cases v
  · exact valid_no _ _ _ (of_decide_eq_false hv)
  · exact valid_yes _ _ _ (of_decide_eq_true hv)
theorem rValid_any (x y : Int) (w : World) {v : Bool} (hv : decide (Vld x y) = v) : Calls Try.prog 43 #[.agg #[.int .i64 x, .int .i64 y]] w fun e w' => e = .returned (.bool v) ∧ Below w.heap.size w w' := by
  cases v
  · exact rValid_no _ _ _ (of_decide_eq_false hv)
  · exact rValid_yes _ _ _ (of_decide_eq_true hv)
theorem rRange_any (d : Int) (w : World) {v : Bool} (hv : decide (0 ≤ d ∧ d ≤ 3000000) = v) : Calls Try.prog 74 #[.int .i64 d] w fun e w' => e = .returned (.bool v) ∧ Below w.heap.size w w' := by
  cases v
  · exact rRange_no _ _ (of_decide_eq_false hv)
  · exact rRange_yes _ _ (of_decide_eq_true hv).1 (of_decide_eq_true hv).2
def AirOk (t x y r : Int) : Prop := Vld x y ∧ 0 ≤ r ∧ r ≤ 3000000 ∧ 0 ≤ t ∧ t ≤ 10000000
instance (t x y r : Int) : Decidable (AirOk t x y r) := by unfold AirOk; exact inferInstance
def airB (A : Nat → Nat → Int) (i : Nat) : Bool := decide (AirOk (A i 0) (A i 1) (A i 2) (A i 3))
def AirsOk (na : Nat) (A : Nat → Nat → Int) : Prop := na ≤ 400 ∧ ∀ i, i < na → AirOk (A i 0) (A i 1) (A i 2) (A i 3)
instance (na : Nat) (A : Nat → Nat → Int) : Decidable (AirsOk na A) := by unfold AirsOk; exact inferInstance
def EdgeOk (np : Nat) (E : Nat → Int) : Prop := (0 ≤ E 0 ∧ E 0 < (np : Int)) ∧ (0 ≤ E 1 ∧ E 1 < (np : Int)) ∧ E 0 ≠ E 1 ∧ 1 ≤ E 2 ∧ E 2 ≤ E 3 ∧ E 3 ≤ 400
instance (np : Nat) (E : Nat → Int) : Decidable (EdgeOk np E) := by unfold EdgeOk; exact inferInstance
def NetOk (np : Nat) (X : Nat → Nat → Int) (ne : Nat) (E : Nat → Nat → Int) : Prop := 1 ≤ np ∧ np ≤ 30 ∧ ne ≤ 80 ∧ (∀ i, i < np → Vld (X i 0) (X i 1)) ∧ ∀ i, i < ne → EdgeOk np (E i)
instance (np : Nat) (X : Nat → Nat → Int) (ne : Nat) (E : Nat → Nat → Int) : Decidable (NetOk np X ne E) := by unfold NetOk; exact inferInstance
theorem hIsAir_any (t x y r : Int) (w : World) {v : Bool} (hv : decide (AirOk t x y r) = v) : Calls Try.prog 47 #[.agg #[.int .i64 t, .int .i64 x, .int .i64 y, .int .i64 r]] w fun e w' => e = .returned (.bool v) ∧ Below w.heap.size w w' := by
  have HV := Lib.hid hv
  clear hv
  obtain ⟨v1, gv1⟩ : ∃ v1, decide (Vld x y) = v1 := ⟨_, rfl⟩
  have V1 := Lib.hid gv1
  clear gv1
  go_enter Try.func47, Try.ntmps47
  go_wp2_with fail
  refine calls_named fun W hW => ?_
  obtain ⟨p1, hB⟩ := box1 hW
  clear hW
  have q1 := cellsL p1
  have hB0 := Below.refl W.heap.size W
  (with_reducible refine (hpValid_any _ _ _ V1.out).mono ?_)
  rintro e w1 ⟨rfl, hb1⟩
  have hB1 := below_step hB0 hb1
  cases v1
  · go_wp2_with fail
    go_returns
    exact ⟨ret_bool (by rw [← HV.out]; exact (decide_eq_false (fun h => of_decide_eq_false V1.out h.1)).symm), below_step hB hB1⟩
  by_cases h2 : 0 ≤ r
  rotate_left
  · have d2 : decide (0 ≤ r) = false := by simp; omega
    have n2 : r < 0 := by omega
    clear h2
    go_wp2_with fail
    go_returns
    exact ⟨ret_bool (by rw [← HV.out]; exact (decide_eq_false (fun h => by have := h.2.1; omega)).symm), below_step hB hB1⟩
  by_cases h3 : r ≤ 3000000
  rotate_left
  · have d3 : decide (r ≤ 3000000) = false := by simp; omega
    have n3 : 3000000 < r := by omega
    clear h3
    go_wp2_with fail
    go_returns
    exact ⟨ret_bool (by rw [← HV.out]; exact (decide_eq_false (fun h => by have := h.2.2.1; omega)).symm), below_step hB hB1⟩
  by_cases h4 : 0 ≤ t
  rotate_left
  · have d4 : decide (0 ≤ t) = false := by simp; omega
    have n4 : t < 0 := by omega
    clear h4
    go_wp2_with fail
    go_returns
    exact ⟨ret_bool (by rw [← HV.out]; exact (decide_eq_false (fun h => by have := h.2.2.2.1; omega)).symm), below_step hB hB1⟩
  by_cases h5 : t ≤ 10000000
  rotate_left
  · have d5 : decide (t ≤ 10000000) = false := by simp; omega
    have n5 : 10000000 < t := by omega
    clear h5
    go_wp2_with fail
    go_returns
    exact ⟨ret_bool (by rw [← HV.out]; exact (decide_eq_false (fun h => by have := h.2.2.2.2; omega)).symm), below_step hB hB1⟩
  go_wp2_with fail
  go_returns
  exact ⟨ret_bool (by rw [← HV.out]; exact (decide_eq_true (⟨of_decide_eq_true V1.out, h2, h3, h4, h5⟩)).symm), below_step hB hB1⟩
theorem q33Air_any (t x y r : Int) (w : World) {v : Bool} (hv : decide (AirOk t x y r) = v) : Calls Try.prog 32 #[.agg #[.int .i64 t, .int .i64 x, .int .i64 y, .int .i64 r]] w fun e w' => e = .returned (.bool v) ∧ Below w.heap.size w w' := by
  have HV := Lib.hid hv
  clear hv
  obtain ⟨v1, gv1⟩ : ∃ v1, decide (Vld x y) = v1 := ⟨_, rfl⟩
  have V1 := Lib.hid gv1
  clear gv1
  obtain ⟨v2, gv2⟩ : ∃ v2, decide (0 ≤ r ∧ r ≤ 3000000) = v2 := ⟨_, rfl⟩
  have V2 := Lib.hid gv2
  clear gv2
  go_enter Try.func32, Try.ntmps32
  go_wp2_with fail
  refine calls_named fun W hW => ?_
  obtain ⟨p1, hB⟩ := box1 hW
  clear hW
  have q1 := cellsL p1
  have hB0 := Below.refl W.heap.size W
  (with_reducible refine (rValid_any _ _ _ V1.out).mono ?_)
  rintro e w1 ⟨rfl, hb1⟩
  have hB1 := below_step hB0 hb1
  go_wp2_with fail
  (with_reducible refine (rRange_any _ _ V2.out).mono ?_)
  rintro e w2 ⟨rfl, hb2⟩
  have hB2 := below_step hB1 hb2
  cases v1
  · go_wp2_with fail
    go_returns
    exact ⟨ret_bool (by rw [← HV.out]; exact (decide_eq_false (fun h => of_decide_eq_false V1.out h.1)).symm), below_step hB hB2⟩
  cases v2
  · go_wp2_with fail
    go_returns
    exact ⟨ret_bool (by rw [← HV.out]; exact (decide_eq_false (fun h => of_decide_eq_false V2.out ⟨h.2.1, h.2.2.1⟩)).symm), below_step hB hB2⟩
  by_cases h3 : 0 ≤ t
  rotate_left
  · have d3 : decide (0 ≤ t) = false := by simp; omega
    have n3 : t < 0 := by omega
    clear h3
    go_wp2_with fail
    go_returns
    exact ⟨ret_bool (by rw [← HV.out]; exact (decide_eq_false (fun h => by have := h.2.2.2.1; omega)).symm), below_step hB hB2⟩
  by_cases h4 : t ≤ 10000000
  rotate_left
  · have d4 : decide (t ≤ 10000000) = false := by simp; omega
    have n4 : 10000000 < t := by omega
    clear h4
    go_wp2_with fail
    go_returns
    exact ⟨ret_bool (by rw [← HV.out]; exact (decide_eq_false (fun h => by have := h.2.2.2.2; omega)).symm), below_step hB hB2⟩
  go_wp2_with fail
  go_returns
  exact ⟨ret_bool (by rw [← HV.out]; exact (decide_eq_true (⟨of_decide_eq_true V1.out, (of_decide_eq_true V2.out).1, (of_decide_eq_true V2.out).2, h3, h4⟩)).symm), below_step hB hB2⟩
theorem hAreAirs1_any (t x y r : Int) (w : World) : Calls Try.prog 82 #[.agg #[.int .i64 t, .int .i64 x, .int .i64 y, .int .i64 r]] w fun e w' => e = .returned (.bool (!decide (AirOk t x y r))) ∧ Below w.heap.size w w' := by
  obtain ⟨v, hv⟩ : ∃ v, decide (AirOk t x y r) = v := ⟨_, rfl⟩
  rw [hv]
  have V := Lib.hid hv
  clear hv
  go_enter Try.func82, Try.ntmps82
  go_wp2_with fail
  refine calls_named fun W hW => ?_
  obtain ⟨p1, hB⟩ := box1 hW
  clear hW
  (with_reducible refine (hIsAir_any _ _ _ _ _ V.out).mono ?_)
  rintro e w1 ⟨rfl, hb1⟩
  go_wp2_with fail
  go_returns
  exact ⟨rfl, below_step hB hb1⟩
theorem ifAir_any (n c : Nat) (ad : Option Addr) (X : Nat → Nat → Int) (B : Nat → Bool) (w : World) (hR : Rows 4 w (.slice ad n c) n X) (hn : n ≤ 9223372036854775807)
    (hf : ∀ i, i < n → ∀ w', Below w.heap.size w w' → Calls Try.prog 82 #[.agg #[.int .i64 ((X i 0)), .int .i64 ((X i 1)), .int .i64 ((X i 2)), .int .i64 ((X i 3))]] w' fun e w'' => e = .returned (.bool (B i)) ∧ Below w'.heap.size w' w'') {r : Int} (hr : fstI B n = r) :
    Calls Try.prog 99 #[.slice ad n c, .func (.func 82) #[] #[]] w fun e w' => e = .returned (.int .i64 r) ∧ Below w.heap.size w w' := by
  have HR := Lib.hid hR
  have HF := Lib.hid hf
  have RR := Lib.hid hr
  clear hR hf hr
  go_enter Try.func99, Try.ntmps99
  go_wp2
  go_loopw [8] (fun i wr => ∃ k : Nat, k ≤ n ∧ i = .int .i64 k ∧ Below w.heap.size w wr ∧ ∀ m, m < k → B m = false) (fun i _ => n - (intOf i).toNat)
  case atStart => exact ⟨0, by omega, rfl, Below.refl _ _, fun m hm => by omega⟩
  case round =>
    obtain ⟨k, hk, rfl, hb, hall⟩ := hrel
    have ALL := Lib.hid hall
    clear hall
    by_cases hlt : k < n
    · obtain ⟨g, o, rfl, hc⟩ := HR.out.row hlt
      have c0 := cell_later hb (hc 0 (by omega))
      have c1 := cell_later hb (hc 1 (by omega))
      have c2 := cell_later hb (hc 2 (by omega))
      have c3 := cell_later hb (hc 3 (by omega))
      simp only [Nat.add_zero] at c0 
      clear hc
      obtain ⟨v, hv⟩ : ∃ v, B k = v := ⟨_, rfl⟩
      have F := Lib.hid (HF.out k hlt wr hb)
      rw [hv] at F
      have V := Lib.hid hv
      clear hv
      go_wp2_with fail
      (with_reducible refine F.out.mono ?_)
      rintro e w1 ⟨rfl, hb1⟩
      have hb2 := below_step hb hb1
      clear F hb1 c0 c1 c2 c3
      cases v
      · go_wp2_with fail
        go_roundw
        case rel => exact ⟨k + 1, by omega, by go_num, hb2, fun m hm => by
          rcases Nat.lt_or_ge m k with h | h
          · exact ALL.out m h
          · obtain rfl : m = k := by omega
            exact V.out⟩
        case measure => simp [intOf]; omega
      · go_wp2_with fail
        go_returns
        exact ⟨ret_int (by rw [← RR.out]; exact (fstI_at hlt ALL.out V.out).symm), hb2⟩
    · obtain rfl : k = n := by omega
      go_wp2_with fail
      go_returns
      exact ⟨ret_int (by rw [← RR.out]; exact (fstI_none ALL.out).symm), hb⟩
theorem cfAir_any (n c : Nat) (ad : Option Addr) (X : Nat → Nat → Int) (B : Nat → Bool) (w : World) (hR : Rows 4 w (.slice ad n c) n X) (hn : n ≤ 9223372036854775807)
    (hf : ∀ i, i < n → ∀ w', Below w.heap.size w w' → Calls Try.prog 82 #[.agg #[.int .i64 ((X i 0)), .int .i64 ((X i 1)), .int .i64 ((X i 2)), .int .i64 ((X i 3))]] w' fun e w'' => e = .returned (.bool (B i)) ∧ Below w'.heap.size w' w'') {r : Bool} (hr : anyN B n = r) :
    Calls Try.prog 83 #[.slice ad n c, .func (.func 82) #[] #[]] w fun e w' => e = .returned (.bool r) ∧ Below w.heap.size w w' := by
  obtain ⟨q, hq⟩ : ∃ q, fstI B n = q := ⟨_, rfl⟩
  have F := Lib.hid (fun w' hb => ifAir_any n c ad  X B w' (hR.later hb) hn (fun i hi w'' hb' => hf i hi w'' (below_step hb hb')) hq)
  have hqr : decide (0 ≤ q) = r := by rw [← hq, fstI_any, hr]
  have Q := Lib.hid hqr
  clear hR hf hr hq hqr
  go_enter Try.func83, Try.ntmps83
  go_wp2_with fail
  (with_reducible refine (F.out _ (Below.refl _ _)).mono ?_)
  rintro e w1 ⟨rfl, hb1⟩
  go_wp2_with fail
  go_returns
  exact ⟨ret_bool Q.out, hb1⟩
theorem any_not {B : Nat → Bool} {n : Nat} {v : Bool} (h : anyN (fun i => !B i) n = v) : decide (∀ i, i < n → B i = true) = !v := by
  subst h
  unfold anyN
  rw [← Bool.not_eq_eq_eq_not, Bool.eq_iff_iff]
  simp
theorem hAreAirs_any (na c : Nat) (ad : Option Addr) (A : Nat → Nat → Int) (w : World) (hR : Rows 4 w (.slice ad na c) na A) (hn : na ≤ 9223372036854775807) {v : Bool} (hv : decide (AirsOk na A) = v) :
    Calls Try.prog 50 #[.slice ad na c] w fun e w' => e = .returned (.bool v) ∧ Below w.heap.size w w' := by
  obtain ⟨q, hq⟩ : ∃ q, anyN (fun i => !airB A i) na = q := ⟨_, rfl⟩
  have F := Lib.hid (fun w' hb => cfAir_any na c ad A (fun i => !airB A i) w' (hR.later hb) hn (fun i hi w'' hb' => hAreAirs1_any _ _ _ _ _) hq)
  have hall := any_not hq
  have hiff : (∀ i, i < na → airB A i = true) ↔ ∀ i, i < na → AirOk (A i 0) (A i 1) (A i 2) (A i 3) := by unfold airB; simp
  have HV := Lib.hid hv
  have QA : Hid (q = false ↔ ∀ i, i < na → AirOk (A i 0) (A i 1) (A i 2) (A i 3)) := Lib.hid (by
    rw [← hiff]
    cases q
    · simp only [Bool.not_false, decide_eq_true_eq] at hall
      simpa using hall
    · simp only [Bool.not_true, decide_eq_false_iff_not] at hall
      exact ⟨fun h => (by cases h), fun h => absurd h hall⟩)
  clear hR hq hall hiff hv
  by_cases h1 : na ≤ 400
  · have h1' : (na : Int) ≤ 400 := by omega
    go_enter Try.func50, Try.ntmps50
    go_wp2_with fail
    (with_reducible refine (F.out _ (Below.refl _ _)).mono ?_)
    rintro e w1 ⟨rfl, hb1⟩
    go_wp2_with fail
    go_returns
    refine ⟨ret_bool ?_, hb1⟩
    rw [← HV.out]
    cases q
    · exact (decide_eq_true ⟨h1, QA.out.1 rfl⟩).symm
    · exact (decide_eq_false (fun h => by have := QA.out.2 h.2; cases this)).symm
  · have d1 : decide ((na : Int) ≤ 400) = false := by simp; omega
    have d2 : decide (na ≤ 400) = false := by simp; omega
    go_enter Try.func50, Try.ntmps50
    go_wp2_with fail
    go_returns
    exact ⟨ret_bool (by rw [← HV.out]; exact (decide_eq_false (fun h => h1 h.1)).symm), Below.refl _ _⟩
end Go.Proofs.Ytcpnkhiillgffaa
