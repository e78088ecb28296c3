/- The walks of the small functions of package reach: rows of integers in memory, IndexFunc and ContainsFunc, validity. -/
import Derived.Test.YtcpnkhiillgffaaPlaneF
import Derived.IntWalk
namespace Go.Proofs.Ytcpnkhiillgffaa
open Go.RowKit
attribute [local go_sem] bqOp bqAll bqUpon
attribute [local irreducible] wpQuiet wpBQ
set_option linter.unusedVariables false
theorem vld_iff {x y : Int} : Vld x y ↔ -1000000 ≤ x ∧ x ≤ 1000000 ∧ -1000000 ≤ y ∧ y ≤ 1000000 := ⟨fun ⟨a, b, c, d⟩ => ⟨a, b, c, d⟩, fun ⟨a, b, c, d⟩ => ⟨a, b, c, d⟩⟩
instance (x y : Int) : Decidable (Vld x y) := decidable_of_iff _ vld_iff.symm
/-- The slice v has n rows of k integers, X i j. -/
def Rows (k : Nat) (w : World) (v : Value) (n : Nat) (X : Nat → Nat → Int) : Prop :=
  ∃ ad c, v = .slice ad n c ∧ n ≤ 9223372036854775807 ∧ ∀ i, i < n → ∃ g o, ad = some ⟨g, o, none⟩ ∧ ∀ j, j < k → w.cell? ⟨g, o + i * k + j, none⟩ = some (.int .i64 (X i j))
theorem Rows.later {k : Nat} {w w' : World} {v : Value} {n : Nat} {X : Nat → Nat → Int} (h : Rows k w v n X) (hb : Below w.heap.size w w') : Rows k w' v n X := by
  obtain ⟨ad, c, hv, hn, hc⟩ := h
  exact ⟨ad, c, hv, hn, fun i hi => by obtain ⟨g, o, hg, h⟩ := hc i hi; exact ⟨g, o, hg, fun j hj => cell_later hb (h j hj)⟩⟩
theorem Rows.form {k : Nat} {w : World} {v : Value} {n : Nat} {X : Nat → Nat → Int} (h : Rows k w v n X) : ∃ ad c, v = .slice ad n c ∧ Rows k w (.slice ad n c) n X ∧ n ≤ 9223372036854775807 := by
  obtain ⟨ad, c, rfl, hn, hc⟩ := h
  exact ⟨ad, c, rfl, ⟨ad, c, rfl, hn, hc⟩, hn⟩
theorem Rows.row {k : Nat} {w : World} {ad : Option Addr} {c n : Nat} {X : Nat → Nat → Int} (h : Rows k w (.slice ad n c) n X) {i : Nat} (hi : i < n) :
    ∃ g o, ad = some ⟨g, o, none⟩ ∧ ∀ j, j < k → w.cell? ⟨g, o + i * k + j, none⟩ = some (.int .i64 (X i j)) := by
  obtain ⟨ad', c', e, _, hc⟩ := h
  cases e
  exact hc i hi
def fstI (B : Nat → Bool) : Nat → Int
  | 0 => -1
  | n + 1 => if 0 ≤ fstI B n then fstI B n else if B n = true then (n : Int) else -1
theorem fstI_none {B : Nat → Bool} {n : Nat} (h : ∀ i, i < n → B i = false) : fstI B n = -1 := by
  induction n with
  | zero => rfl
  | succ n ih =>
    unfold fstI
    rw [ih (fun i hi => h i (by omega)), h n (by omega)]
    simp
theorem fstI_at {B : Nat → Bool} {m n : Nat} (hm : m < n) (h : ∀ i, i < m → B i = false) (hb : B m = true) : fstI B n = m := by
  induction n with
  | zero => omega
  | succ n ih =>
    unfold fstI
    rcases Nat.lt_or_ge m n with g | g
    · rw [ih g, if_pos (by omega)]
    · obtain rfl : m = n := by omega
      rw [fstI_none h, if_neg (by omega), if_pos hb]
def anyN (B : Nat → Bool) (n : Nat) : Bool := decide (∃ i, i < n ∧ B i = true)
theorem fstI_any (B : Nat → Bool) (n : Nat) : decide (0 ≤ fstI B n) = anyN B n := by
  unfold anyN
  rw [decide_eq_decide]
  constructor
  · intro h
    induction n with
    | zero => simp [fstI] at h
    | succ n ih =>
      unfold fstI at h
      split at h
      · obtain ⟨i, hi, hb⟩ := ih h; exact ⟨i, by omega, hb⟩
      · split at h
        · exact ⟨n, by omega, by assumption⟩
        · omega
  · rintro ⟨i, hi, hb⟩
    induction n with
    | zero => omega
    | succ n ih =>
      unfold fstI
      by_cases g : 0 ≤ fstI B n
      · rw [if_pos g]; exact g
      · rw [if_neg g]
        rcases Nat.lt_or_ge i n with q | q
        · exact absurd (ih q) g
        · obtain rfl : i = n := by omega
          rw [if_pos hb]; omega
theorem fstI_bd (B : Nat → Bool) (n : Nat) : -1 ≤ fstI B n ∧ fstI B n < n := by
  induction n with
  | zero => simp [fstI]
  | succ n ih => unfold fstI; split <;> (try split) <;> omega
theorem hIsPlace_any (np c ne c2 : Nat) (ad ad2 : Option Addr) (p : Int) (w : World) (hn : np ≤ 9223372036854775807) {v : Bool} (hv : decide (0 ≤ p ∧ p < (np : Int)) = v) : Calls Try.prog 42 #[.agg #[.slice ad np c, .slice ad2 ne c2], .int .i64 p] w fun e w' => e = .returned (.bool v) ∧ Below w.heap.size w w' := by
  have HV := Lib.hid hv
  clear hv
  by_cases h1 : 0 ≤ p
  · skip
    by_cases h2 : p < (np : Int)
    · skip
      go_enter Try.func42, Try.ntmps42
      go_wp2
      go_returns
      exact ⟨ret_bool (by rw [← HV.out]; exact (decide_eq_true (by omega)).symm), by go_grown⟩
    · have d2 : decide (p < (np : Int)) = false := by simp; omega
      have n2 : (np : Int) ≤ p := by omega
      clear h2
      go_enter Try.func42, Try.ntmps42
      go_wp2
      go_returns
      exact ⟨ret_bool (by rw [← HV.out]; exact (decide_eq_false (by omega)).symm), by go_grown⟩
  · have d1 : decide (0 ≤ p) = false := by simp; omega
    have n1 : p < 0 := by omega
    clear h1
    go_enter Try.func42, Try.ntmps42
    go_wp2
    go_returns
    exact ⟨ret_bool (by rw [← HV.out]; exact (decide_eq_false (by omega)).symm), by go_grown⟩
theorem q33Place_any (np c ne c2 : Nat) (ad ad2 : Option Addr) (p : Int) (w : World) (hn : np ≤ 9223372036854775807) {v : Bool} (hv : decide (0 ≤ p ∧ p < (np : Int)) = v) : Calls Try.prog 34 #[.agg #[.slice ad np c, .slice ad2 ne c2], .int .i64 p] w fun e w' => e = .returned (.bool v) ∧ Below w.heap.size w w' := by
  have HV := Lib.hid hv
  clear hv
  by_cases h1 : 0 ≤ p
  · skip
    by_cases h2 : p < (np : Int)
    · skip
      go_enter Try.func34, Try.ntmps34
      go_wp2
      go_returns
      exact ⟨ret_bool (by rw [← HV.out]; exact (decide_eq_true (by omega)).symm), by go_grown⟩
    · have d2 : decide (p < (np : Int)) = false := by simp; omega
      have n2 : (np : Int) ≤ p := by omega
      clear h2
      go_enter Try.func34, Try.ntmps34
      go_wp2
      go_returns
      exact ⟨ret_bool (by rw [← HV.out]; exact (decide_eq_false (by omega)).symm), by go_grown⟩
  · have d1 : decide (0 ≤ p) = false := by simp; omega
    have n1 : p < 0 := by omega
    clear h1
    go_enter Try.func34, Try.ntmps34
    go_wp2
    go_returns
    exact ⟨ret_bool (by rw [← HV.out]; exact (decide_eq_false (by omega)).symm), by go_grown⟩
theorem hIsNeed_any (p : Int) (w : World) {v : Bool} (hv : decide (0 ≤ p ∧ p ≤ 400) = v) : Calls Try.prog 64 #[.int .i64 p] w fun e w' => e = .returned (.bool v) ∧ Below w.heap.size w w' := by
  have HV := Lib.hid hv
  clear hv
  by_cases h1 : 0 ≤ p
  · skip
    by_cases h2 : p ≤ 400
    · skip
      go_enter Try.func64, Try.ntmps64
      go_wp2
      go_returns
      exact ⟨ret_bool (by rw [← HV.out]; exact (decide_eq_true (by omega)).symm), by go_grown⟩
    · have d2 : decide (p ≤ 400) = false := by simp; omega
      have n2 : 400 < p := by omega
      clear h2
      go_enter Try.func64, Try.ntmps64
      go_wp2
      go_returns
      exact ⟨ret_bool (by rw [← HV.out]; exact (decide_eq_false (by omega)).symm), by go_grown⟩
  · have d1 : decide (0 ≤ p) = false := by simp; omega
    have n1 : p < 0 := by omega
    clear h1
    go_enter Try.func64, Try.ntmps64
    go_wp2
    go_returns
    exact ⟨ret_bool (by rw [← HV.out]; exact (decide_eq_false (by omega)).symm), by go_grown⟩
theorem q33Need_any (p : Int) (w : World) {v : Bool} (hv : decide (0 ≤ p ∧ p ≤ 400) = v) : Calls Try.prog 70 #[.int .i64 p] w fun e w' => e = .returned (.bool v) ∧ Below w.heap.size w w' := by
  have HV := Lib.hid hv
  clear hv
  by_cases h1 : 0 ≤ p
  · skip
    by_cases h2 : p ≤ 400
    · skip
      go_enter Try.func70, Try.ntmps70
      go_wp2
      go_returns
      exact ⟨ret_bool (by rw [← HV.out]; exact (decide_eq_true (by omega)).symm), by go_grown⟩
    · have d2 : decide (p ≤ 400) = false := by simp; omega
      have n2 : 400 < p := by omega
      clear h2
      go_enter Try.func70, Try.ntmps70
      go_wp2
      go_returns
      exact ⟨ret_bool (by rw [← HV.out]; exact (decide_eq_false (by omega)).symm), by go_grown⟩
  · have d1 : decide (0 ≤ p) = false := by simp; omega
    have n1 : p < 0 := by omega
    clear h1
    go_enter Try.func70, Try.ntmps70
    go_wp2
    go_returns
    exact ⟨ret_bool (by rw [← HV.out]; exact (decide_eq_false (by omega)).symm), by go_grown⟩
theorem hIsTimes_any (p q : Int) (w : World) {v : Bool} (hv : decide (0 ≤ p ∧ p ≤ q ∧ q ≤ 10000000 ∧ q - p ≤ 400) = v) : Calls Try.prog 55 #[.int .i64 p, .int .i64 q] w fun e w' => e = .returned (.bool v) ∧ Below w.heap.size w w' := by
  have HV := Lib.hid hv
  clear hv
  by_cases h1 : 0 ≤ p
  · skip
    by_cases h2 : p ≤ q
    · skip
      by_cases h3 : q ≤ 10000000
      · skip
        by_cases h4 : q - p ≤ 400
        · skip
          go_enter Try.func55, Try.ntmps55
          go_wp2
          go_returns
          exact ⟨ret_bool (by rw [← HV.out]; exact (decide_eq_true (by omega)).symm), by go_grown⟩
        · have d4 : decide (q - p ≤ 400) = false := by simp; omega
          have n4 : 400 < q - p := by omega
          clear h4
          go_enter Try.func55, Try.ntmps55
          go_wp2
          go_returns
          exact ⟨ret_bool (by rw [← HV.out]; exact (decide_eq_false (by omega)).symm), by go_grown⟩
      · have d3 : decide (q ≤ 10000000) = false := by simp; omega
        have n3 : 10000000 < q := by omega
        clear h3
        go_enter Try.func55, Try.ntmps55
        go_wp2
        go_returns
        exact ⟨ret_bool (by rw [← HV.out]; exact (decide_eq_false (by omega)).symm), by go_grown⟩
    · have d2 : decide (p ≤ q) = false := by simp; omega
      have n2 : q < p := by omega
      clear h2
      go_enter Try.func55, Try.ntmps55
      go_wp2
      go_returns
      exact ⟨ret_bool (by rw [← HV.out]; exact (decide_eq_false (by omega)).symm), by go_grown⟩
  · have d1 : decide (0 ≤ p) = false := by simp; omega
    have n1 : p < 0 := by omega
    clear h1
    go_enter Try.func55, Try.ntmps55
    go_wp2
    go_returns
    exact ⟨ret_bool (by rw [← HV.out]; exact (decide_eq_false (by omega)).symm), by go_grown⟩
theorem q33Times_any (p q : Int) (w : World) {v : Bool} (hv : decide (0 ≤ p ∧ p ≤ q ∧ q ≤ 10000000 ∧ q - p ≤ 400) = v) : Calls Try.prog 13 #[.int .i64 p, .int .i64 q] w fun e w' => e = .returned (.bool v) ∧ Below w.heap.size w w' := by
  have HV := Lib.hid hv
  clear hv
  by_cases h1 : 0 ≤ p
  · skip
    by_cases h2 : p ≤ q
    · skip
      by_cases h3 : q ≤ 10000000
      · skip
        by_cases h4 : q - p ≤ 400
        · skip
          go_enter Try.func13, Try.ntmps13
          go_wp2
          go_returns
          exact ⟨ret_bool (by rw [← HV.out]; exact (decide_eq_true (by omega)).symm), by go_grown⟩
        · have d4 : decide (q - p ≤ 400) = false := by simp; omega
          have n4 : 400 < q - p := by omega
          clear h4
          go_enter Try.func13, Try.ntmps13
          go_wp2
          go_returns
          exact ⟨ret_bool (by rw [← HV.out]; exact (decide_eq_false (by omega)).symm), by go_grown⟩
      · have d3 : decide (q ≤ 10000000) = false := by simp; omega
        have n3 : 10000000 < q := by omega
        clear h3
        go_enter Try.func13, Try.ntmps13
        go_wp2
        go_returns
        exact ⟨ret_bool (by rw [← HV.out]; exact (decide_eq_false (by omega)).symm), by go_grown⟩
    · have d2 : decide (p ≤ q) = false := by simp; omega
      have n2 : q < p := by omega
      clear h2
      go_enter Try.func13, Try.ntmps13
      go_wp2
      go_returns
      exact ⟨ret_bool (by rw [← HV.out]; exact (decide_eq_false (by omega)).symm), by go_grown⟩
  · have d1 : decide (0 ≤ p) = false := by simp; omega
    have n1 : p < 0 := by omega
    clear h1
    go_enter Try.func13, Try.ntmps13
    go_wp2
    go_returns
    exact ⟨ret_bool (by rw [← HV.out]; exact (decide_eq_false (by omega)).symm), by go_grown⟩
theorem hValid1_any (x y : Int) (w : World) : Calls Try.prog 39 #[.agg #[.int .i64 x, .int .i64 y]] w fun e w' => e = .returned (.bool (!decide (Vld x y))) ∧ Below w.heap.size w w' := by
  obtain ⟨v, hv⟩ : ∃ v, decide (Vld x y) = v := ⟨_, rfl⟩
  rw [hv]
  have V := Lib.hid hv
  clear hv
  go_enter Try.func39, Try.ntmps39
  go_wp2_with fail
  refine calls_named fun W hW => ?_
  obtain ⟨p1, hB⟩ := box1 hW
  clear hW
  have C : Calls Try.prog 40 #[.agg #[.int .i64 x, .int .i64 y]] W fun e w' => e = .returned (.bool v) ∧ Below W.heap.size W w' := by
    cases v
    · exact valid_no _ _ _ (of_decide_eq_false V.out)
    · exact valid_yes _ _ _ (of_decide_eq_true V.out)
  (with_reducible refine C.mono ?_)
  rintro e w1 ⟨rfl, hb1⟩
  clear C
  go_wp2_with fail
  go_returns
  exact ⟨rfl, below_step hB hb1⟩
theorem ifPoint_any (n c : Nat) (ad : Option Addr) (X : Nat → Nat → Int) (B : Nat → Bool) (w : World) (hR : Rows 2 w (.slice ad n c) n X) (hn : n ≤ 9223372036854775807)
    (hf : ∀ i, i < n → ∀ w', Below w.heap.size w w' → Calls Try.prog 39 #[.agg #[.int .i64 ((X i 0)), .int .i64 ((X i 1))]] w' fun e w'' => e = .returned (.bool (B i)) ∧ Below w'.heap.size w' w'') {r : Int} (hr : fstI B n = r) :
    Calls Try.prog 79 #[.slice ad n c, .func (.func 39) #[] #[]] w fun e w' => e = .returned (.int .i64 r) ∧ Below w.heap.size w w' := by
  have HR := Lib.hid hR
  have HF := Lib.hid hf
  have RR := Lib.hid hr
  clear hR hf hr
  go_enter Try.func79, Try.ntmps79
  go_wp2
  go_loopw [8] (fun i wr => ∃ k : Nat, k ≤ n ∧ i = .int .i64 k ∧ Below w.heap.size w wr ∧ ∀ m, m < k → B m = false) (fun i _ => n - (intOf i).toNat)
  case atStart => exact ⟨0, by omega, rfl, Below.refl _ _, fun m hm => by omega⟩
  case round =>
    obtain ⟨k, hk, rfl, hb, hall⟩ := hrel
    have ALL := Lib.hid hall
    clear hall
    by_cases hlt : k < n
    · obtain ⟨g, o, rfl, hc⟩ := HR.out.row hlt
      have c0 := cell_later hb (hc 0 (by omega))
      have c1 := cell_later hb (hc 1 (by omega))
      simp only [Nat.add_zero] at c0 
      clear hc
      obtain ⟨v, hv⟩ : ∃ v, B k = v := ⟨_, rfl⟩
      have F := Lib.hid (HF.out k hlt wr hb)
      rw [hv] at F
      have V := Lib.hid hv
      clear hv
      go_wp2_with fail
      (with_reducible refine F.out.mono ?_)
      rintro e w1 ⟨rfl, hb1⟩
      have hb2 := below_step hb hb1
      clear F hb1 c0 c1
      cases v
      · go_wp2_with fail
        go_roundw
        case rel => exact ⟨k + 1, by omega, by go_num, hb2, fun m hm => by
          rcases Nat.lt_or_ge m k with h | h
          · exact ALL.out m h
          · obtain rfl : m = k := by omega
            exact V.out⟩
        case measure => simp [intOf]; omega
      · go_wp2_with fail
        go_returns
        exact ⟨ret_int (by rw [← RR.out]; exact (fstI_at hlt ALL.out V.out).symm), hb2⟩
    · obtain rfl : k = n := by omega
      go_wp2_with fail
      go_returns
      exact ⟨ret_int (by rw [← RR.out]; exact (fstI_none ALL.out).symm), hb⟩
theorem cfPoint_any (n c : Nat) (ad : Option Addr) (X : Nat → Nat → Int) (B : Nat → Bool) (w : World) (hR : Rows 2 w (.slice ad n c) n X) (hn : n ≤ 9223372036854775807)
    (hf : ∀ i, i < n → ∀ w', Below w.heap.size w w' → Calls Try.prog 39 #[.agg #[.int .i64 ((X i 0)), .int .i64 ((X i 1))]] w' fun e w'' => e = .returned (.bool (B i)) ∧ Below w'.heap.size w' w'') {r : Bool} (hr : anyN B n = r) :
    Calls Try.prog 41 #[.slice ad n c, .func (.func 39) #[] #[]] w fun e w' => e = .returned (.bool r) ∧ Below w.heap.size w w' := by
  obtain ⟨q, hq⟩ : ∃ q, fstI B n = q := ⟨_, rfl⟩
  have F := Lib.hid (fun w' hb => ifPoint_any n c ad  X B w' (hR.later hb) hn (fun i hi w'' hb' => hf i hi w'' (below_step hb hb')) hq)
  have hqr : decide (0 ≤ q) = r := by rw [← hq, fstI_any, hr]
  have Q := Lib.hid hqr
  clear hR hf hr hq hqr
  go_enter Try.func41, Try.ntmps41
  go_wp2_with fail
  (with_reducible refine (F.out _ (Below.refl _ _)).mono ?_)
  rintro e w1 ⟨rfl, hb1⟩
  go_wp2_with fail
  go_returns
  exact ⟨ret_bool Q.out, hb1⟩
end Go.Proofs.Ytcpnkhiillgffaa
