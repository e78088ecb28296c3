/- The walks of the validity of lists of pieces and of nets, in the program and in the reference. -/
import Derived.Test.YtcpnkhiillgffaaReachB
namespace Go.Proofs.Ytcpnkhiillgffaa
open Go.RowKit
attribute [local go_sem] bqOp bqAll bqUpon
attribute [local irreducible] wpQuiet wpBQ
set_option linter.unusedVariables false
theorem q33Airs_any (na c : Nat) (ad : Option Addr) (A : Nat → Nat → Int) (w : World) (hR : Rows 4 w (.slice ad na c) na A) (hn : na ≤ 9223372036854775807) {v : Bool} (hv : decide (AirsOk na A) = v) :
    Calls Try.prog 53 #[.slice ad na c] w fun e w' => e = .returned (.bool v) ∧ Below w.heap.size w w' := by
  have HR := Lib.hid hR
  have HV := Lib.hid hv
  clear hR hv
  by_cases h1 : na ≤ 400
  · have h1' : (na : Int) ≤ 400 := by omega
    go_enter Try.func53, Try.ntmps53
    go_wp2
    go_loopw [3] (fun i wr => ∃ k : Nat, k ≤ na ∧ i = .int .i64 k ∧ Below w.heap.size w wr ∧ ∀ m, m < k → AirOk (A m 0) (A m 1) (A m 2) (A m 3)) (fun i _ => na - (intOf i).toNat)
    case atStart => exact ⟨0, by omega, rfl, Below.refl _ _, fun m hm => by omega⟩
    case round =>
      obtain ⟨k, hk, rfl, hb, hall⟩ := hrel
      have ALL := Lib.hid hall
      clear hall
      by_cases hlt : k < na
      · obtain ⟨g, o, rfl, hc⟩ := HR.out.row hlt
        have c0 := cell_later hb (hc 0 (by omega))
        have c1 := cell_later hb (hc 1 (by omega))
        have c2 := cell_later hb (hc 2 (by omega))
        have c3 := cell_later hb (hc 3 (by omega))
        simp only [Nat.add_zero] at c0
        clear hc
        obtain ⟨v1, g1⟩ : ∃ v1, decide (AirOk (A k 0) (A k 1) (A k 2) (A k 3)) = v1 := ⟨_, rfl⟩
        have V1 := Lib.hid g1
        clear g1
        go_wp2_with fail
        (with_reducible refine (q33Air_any _ _ _ _ _ V1.out).mono ?_)
        rintro e w1 ⟨rfl, hb1⟩
        have hb2 := below_step hb hb1
        clear c0 c1 c2 c3 hb1
        cases v1
        · go_wp2_with fail
          go_returns
          exact ⟨ret_bool (by rw [← HV.out]; exact (decide_eq_false (fun h => of_decide_eq_false V1.out (h.2 k hlt))).symm), hb2⟩
        · go_wp2_with fail
          go_roundw
          case rel => exact ⟨k + 1, by omega, by go_num, hb2, fun m hm => by
            rcases Nat.lt_or_ge m k with h | h
            · exact ALL.out m h
            · obtain rfl : m = k := by omega
              exact of_decide_eq_true V1.out⟩
          case measure => simp [intOf]; omega
      · obtain rfl : k = na := by omega
        go_wp2_with fail
        go_returns
        exact ⟨ret_bool (by rw [← HV.out]; exact (decide_eq_true ⟨h1, ALL.out⟩).symm), hb⟩
  · have d1 : decide ((na : Int) ≤ 400) = false := by simp; omega
    have d2 : decide (na ≤ 400) = false := by simp; omega
    have d3 : (400 : Int) < (na : Int) := by omega
    have d4 : 400 < na := by omega
    go_enter Try.func53, Try.ntmps53
    go_wp2_with fail
    go_returns
    exact ⟨ret_bool (by rw [← HV.out]; exact (decide_eq_false (fun h => h1 h.1)).symm), Below.refl _ _⟩
set_option maxHeartbeats 1000000 in
theorem hValid_any (np c ne c2 : Nat) (ad ad2 : Option Addr) (X E : Nat → Nat → Int) (w : World) (hX : Rows 2 w (.slice ad np c) np X) (hE : Rows 4 w (.slice ad2 ne c2) ne E) (hn1 : np ≤ 9223372036854775807) (hn2 : ne ≤ 9223372036854775807) {v : Bool} (hv : decide (NetOk np X ne E) = v) :
    Calls Try.prog 14 #[.agg #[.slice ad np c, .slice ad2 ne c2]] w fun e w' => e = .returned (.bool v) ∧ Below w.heap.size w w' := by
  obtain ⟨q, hq⟩ : ∃ q, anyN (fun i => !decide (Vld (X i 0) (X i 1))) np = q := ⟨_, rfl⟩
  have F := Lib.hid (fun w' hb => cfPoint_any np c ad X (fun i => !decide (Vld (X i 0) (X i 1))) w' (hX.later hb) hn1 (fun i hi w'' hb' => hValid1_any _ _ _) hq)
  have hall := any_not hq
  have QA : Hid (q = false ↔ ∀ i, i < np → Vld (X i 0) (X i 1)) := Lib.hid (by
    simp only [decide_eq_true_eq] at hall
    cases q
    · simp only [Bool.not_false, decide_eq_true_eq] at hall
      simpa using hall
    · simp only [Bool.not_true, decide_eq_false_iff_not] at hall
      exact ⟨fun h => (by cases h), fun h => absurd h hall⟩)
  have HX := Lib.hid hX
  have HE := Lib.hid hE
  have HV := Lib.hid hv
  clear hq hall hX hE hv
  by_cases h1 : np = 0
  · subst h1
    go_enter Try.func14, Try.ntmps14
    go_wp2_with fail
    go_returns
    exact ⟨ret_bool (by rw [← HV.out]; exact (decide_eq_false (fun h => by have := h.1; omega)).symm), by go_grown⟩
  have d1 : ((np : Int) == 0) = false := by simp; omega
  have n1 : 1 ≤ np := by omega
  by_cases h2 : 30 < np
  · have e2 : (30 : Int) < (np : Int) := by omega
    go_enter Try.func14, Try.ntmps14
    go_wp2_with fail
    go_returns
    exact ⟨ret_bool (by rw [← HV.out]; exact (decide_eq_false (fun h => by have := h.2.1; omega)).symm), by go_grown⟩
  have d2 : decide (30 < np) = false := by simp; omega
  have e2 : decide ((30 : Int) < (np : Int)) = false := by simp; omega
  by_cases h3 : 80 < ne
  · have e3 : (80 : Int) < (ne : Int) := by omega
    go_enter Try.func14, Try.ntmps14
    go_wp2_with fail
    go_returns
    exact ⟨ret_bool (by rw [← HV.out]; exact (decide_eq_false (fun h => by have := h.2.2.1; omega)).symm), by go_grown⟩
  have d3 : decide (80 < ne) = false := by simp; omega
  have e3 : decide ((80 : Int) < (ne : Int)) = false := by simp; omega
  go_enter Try.func14, Try.ntmps14
  go_wp2_with fail
  refine calls_named fun W hW => ?_
  obtain ⟨p1, hB⟩ := box1 hW
  clear hW
  have q1 := cellsL p1
  have hB0 := Below.refl W.heap.size W
  have P1 := Lib.hid p1
  clear p1
  (with_reducible refine (F.out _ hB).mono ?_)
  rintro e w1 ⟨rfl, hb1⟩
  have hB1 := below_step hB0 hb1
  cases q
  rotate_left
  · go_wp2_with fail
    go_returns
    exact ⟨ret_bool (by rw [← HV.out]; exact (decide_eq_false (fun h => by have := QA.out.2 h.2.2.2.1; cases this)).symm), below_step hB hB1⟩
  go_wp2_with fail
  clear q1
  go_loopw [31] (fun i wr => ∃ k : Nat, k ≤ ne ∧ i = .int .i64 k ∧ Below W.heap.size W wr ∧ ∀ m, m < k → EdgeOk np (E m)) (fun i _ => ne - (intOf i).toNat)
  case atStart => exact ⟨0, by omega, rfl, hB1, fun m hm => by omega⟩
  case round =>
    obtain ⟨k, hk, rfl, hbr, hall⟩ := hrel
    have ALL := Lib.hid hall
    clear hall
    by_cases hlt : k < ne
    rotate_left
    · obtain rfl : k = ne := by omega
      go_wp2_with fail
      go_returns
      exact ⟨ret_bool (by rw [← HV.out]; exact (decide_eq_true ⟨by omega, by omega, by omega, QA.out.1 (by simp), ALL.out⟩).symm), below_step hB hbr⟩
    obtain ⟨g, o, rfl, hc⟩ := HE.out.row hlt
    have c0 := cell_later (below_step hB hbr) (hc 0 (by omega))
    have c1 := cell_later (below_step hB hbr) (hc 1 (by omega))
    have c2 := cell_later (below_step hB hbr) (hc 2 (by omega))
    have c3 := cell_later (below_step hB hbr) (hc 3 (by omega))
    simp only [Nat.add_zero] at c0
    clear hc
    have q1 := cellsL P1.out
    have hA := fun o => hbr.alloc hbr.size o
    obtain ⟨v1, gv1⟩ : ∃ v1, decide (0 ≤ E k 0 ∧ E k 0 < (np : Int)) = v1 := ⟨_, rfl⟩
    have V1 := Lib.hid gv1
    clear gv1
    obtain ⟨v2, gv2⟩ : ∃ v2, decide (0 ≤ E k 1 ∧ E k 1 < (np : Int)) = v2 := ⟨_, rfl⟩
    have V2 := Lib.hid gv2
    clear gv2
    go_wp2_with fail
    refine calls_named fun y hy => ?_
    obtain ⟨pe, hby⟩ := box1 hy
    have hBy := below_step hbr hby
    clear hy hA c0 c1 c2 c3
    have qe := cellsL pe
    have hy0 := Below.refl y.heap.size y
    (with_reducible refine (hIsPlace_any _ _ _ _ _ _ _ _ hn1 V1.out).mono ?_)
    rintro e w2 ⟨rfl, hb2⟩
    have hB2 := below_step hBy hb2
    cases v1
    · go_wp2_with fail
      go_returns
      exact ⟨ret_bool (by rw [← HV.out]; exact (decide_eq_false (fun h => of_decide_eq_false V1.out (h.2.2.2.2 k hlt).1)).symm), below_step hB hB2⟩
    have hy2 := below_step hy0 hb2
    go_wp2_with fail
    (with_reducible refine (hIsPlace_any _ _ _ _ _ _ _ _ hn1 V2.out).mono ?_)
    rintro e w3 ⟨rfl, hb3⟩
    have hB3 := below_step hB2 hb3
    cases v2
    · go_wp2_with fail
      go_returns
      exact ⟨ret_bool (by rw [← HV.out]; exact (decide_eq_false (fun h => of_decide_eq_false V2.out (h.2.2.2.2 k hlt).2.1)).symm), below_step hB hB3⟩
    have hy3 := below_step hy2 hb3
    by_cases h3 : E k 0 = E k 1
    · have d3 : (E k 0 == E k 1) = true := by simp [h3]
      have H3 := Lib.hid h3
      clear h3
      go_wp2_with fail
      go_returns
      exact ⟨ret_bool (by rw [← HV.out]; exact (decide_eq_false (fun h => (h.2.2.2.2 k hlt).2.2.1 H3.out)).symm), below_step hB hB3⟩
    have d3 : (E k 0 == E k 1) = false := by simp [h3]
    have H3 := Lib.hid h3
    clear h3
    by_cases h4 : E k 2 < 1
    · go_wp2_with fail
      go_returns
      exact ⟨ret_bool (by rw [← HV.out]; exact (decide_eq_false (fun h => by have := (h.2.2.2.2 k hlt).2.2.2.1; omega)).symm), below_step hB hB3⟩
    have d4 : decide (E k 2 < 1) = false := by simp; omega
    have n4 : 1 ≤ E k 2 := by omega
    clear h4
    by_cases h5 : E k 3 < E k 2
    · go_wp2_with fail
      go_returns
      exact ⟨ret_bool (by rw [← HV.out]; exact (decide_eq_false (fun h => by have := (h.2.2.2.2 k hlt).2.2.2.2.1; omega)).symm), below_step hB hB3⟩
    have d5 : decide (E k 3 < E k 2) = false := by simp; omega
    have n5 : E k 2 ≤ E k 3 := by omega
    clear h5
    by_cases h6 : 400 < E k 3
    · go_wp2_with fail
      go_returns
      exact ⟨ret_bool (by rw [← HV.out]; exact (decide_eq_false (fun h => by have := (h.2.2.2.2 k hlt).2.2.2.2.2; omega)).symm), below_step hB hB3⟩
    have d6 : decide (400 < E k 3) = false := by simp; omega
    have n6 : E k 3 ≤ 400 := by omega
    clear h6
    go_wp2_with fail
    go_roundw
    case rel => exact ⟨k + 1, by omega, by go_num, hB3, fun m hm => by
      rcases Nat.lt_or_ge m k with h | h
      · exact ALL.out m h
      · obtain rfl : m = k := by omega
        exact ⟨of_decide_eq_true V1.out, of_decide_eq_true V2.out, H3.out, n4, n5, n6⟩⟩
    case measure => simp [intOf]; omega
set_option maxHeartbeats 1000000 in
theorem q33Valid_any (np c ne c2 : Nat) (ad ad2 : Option Addr) (X E : Nat → Nat → Int) (w : World) (hX : Rows 2 w (.slice ad np c) np X) (hE : Rows 4 w (.slice ad2 ne c2) ne E) (hn1 : np ≤ 9223372036854775807) (hn2 : ne ≤ 9223372036854775807) {v : Bool} (hv : decide (NetOk np X ne E) = v) :
    Calls Try.prog 15 #[.agg #[.slice ad np c, .slice ad2 ne c2]] w fun e w' => e = .returned (.bool v) ∧ Below w.heap.size w w' := by
  have HX := Lib.hid hX
  have HE := Lib.hid hE
  have HV := Lib.hid hv
  clear hX hE hv
  by_cases h1 : np = 0
  · subst h1
    go_enter Try.func15, Try.ntmps15
    go_wp2_with fail
    go_returns
    exact ⟨ret_bool (by rw [← HV.out]; exact (decide_eq_false (fun h => by have := h.1; omega)).symm), by go_grown⟩
  have d1 : decide ((np : Int) < 1) = false := by simp; omega
  have f1 : decide (np < 1) = false := by simp; omega
  have n1 : 1 ≤ np := by omega
  by_cases h2 : 30 < np
  · have e2 : (30 : Int) < (np : Int) := by omega
    go_enter Try.func15, Try.ntmps15
    go_wp2_with fail
    go_returns
    exact ⟨ret_bool (by rw [← HV.out]; exact (decide_eq_false (fun h => by have := h.2.1; omega)).symm), by go_grown⟩
  have d2 : decide (30 < np) = false := by simp; omega
  have e2 : decide ((30 : Int) < (np : Int)) = false := by simp; omega
  by_cases h3 : 80 < ne
  · have e3 : (80 : Int) < (ne : Int) := by omega
    go_enter Try.func15, Try.ntmps15
    go_wp2_with fail
    go_returns
    exact ⟨ret_bool (by rw [← HV.out]; exact (decide_eq_false (fun h => by have := h.2.2.1; omega)).symm), by go_grown⟩
  have d3 : decide (80 < ne) = false := by simp; omega
  have e3 : decide ((80 : Int) < (ne : Int)) = false := by simp; omega
  go_enter Try.func15, Try.ntmps15
  go_wp2_with fail
  refine wp_named fun W hW => ?_
  obtain ⟨p1, hB⟩ := box1 hW
  clear hW
  have hB0 := Below.refl W.heap.size W
  have P1 := Lib.hid p1
  clear p1
  go_loopw [3, 4] (fun i _ wr => ∃ k : Nat, k ≤ np ∧ i = .int .i64 k ∧ Below W.heap.size W wr ∧ ∀ m, m < k → Vld (X m 0) (X m 1)) (fun i _ _ => np - (intOf i).toNat)
  case atStart => exact ⟨0, by omega, rfl, hB0, fun m hm => by omega⟩
  case round =>
    obtain ⟨k, hk, rfl, hbr, hall⟩ := hrel
    have ALL := Lib.hid hall
    clear hall
    have q1 := cellsL P1.out
    by_cases hlt : k < np
    · obtain ⟨g, o, rfl, hc⟩ := HX.out.row hlt
      have c0 := cell_later (below_step hB hbr) (hc 0 (by omega))
      have c1 := cell_later (below_step hB hbr) (hc 1 (by omega))
      simp only [Nat.add_zero] at c0
      clear hc
      obtain ⟨v1, gv1⟩ : ∃ v1, decide (Vld (X k 0) (X k 1)) = v1 := ⟨_, rfl⟩
      have V1 := Lib.hid gv1
      clear gv1
      go_wp2_with fail
      (with_reducible refine (rValid_any _ _ _ V1.out).mono ?_)
      rintro e w1 ⟨rfl, hb1⟩
      have hB1 := below_step hbr hb1
      clear c0 c1
      cases v1
      · go_wp2_with fail
        go_returns
        exact ⟨ret_bool (by rw [← HV.out]; exact (decide_eq_false (fun h => of_decide_eq_false V1.out (h.2.2.2.1 k hlt))).symm), below_step hB hB1⟩
      · go_wp2_with fail
        go_roundw
        case rel => exact ⟨k + 1, by omega, by go_num, hB1, fun m hm => by
          rcases Nat.lt_or_ge m k with h | h
          · exact ALL.out m h
          · obtain rfl : m = k := by omega
            exact of_decide_eq_true V1.out⟩
        case measure => simp [intOf]; omega
    obtain rfl : k = np := by omega
    go_wp2_with fail
    clear q1 hlt
    go_loopw [5, 6, 7, 8] (fun i _ _ _ wr => ∃ m : Nat, m ≤ ne ∧ i = .int .i64 m ∧ Below W.heap.size W wr ∧ ∀ j, j < m → EdgeOk k (E j)) (fun i _ _ _ _ => ne - (intOf i).toNat)
    case atStart => exact ⟨0, by omega, rfl, hbr, fun m hm => by omega⟩
    case round =>
      obtain ⟨m, hm, rfl, hbs, hall⟩ := hrel
      have ALL2 := Lib.hid hall
      clear hall hbr
      have q1 := cellsL P1.out
      by_cases hlt : m < ne
      rotate_left
      · obtain rfl : m = ne := by omega
        go_wp2_with fail
        go_returns
        exact ⟨ret_bool (by rw [← HV.out]; exact (decide_eq_true ⟨by omega, by omega, by omega, ALL.out, ALL2.out⟩).symm), below_step hB hbs⟩
      obtain ⟨g, o, rfl, hc⟩ := HE.out.row hlt
      have c0 := cell_later (below_step hB hbs) (hc 0 (by omega))
      have c1 := cell_later (below_step hB hbs) (hc 1 (by omega))
      have c2 := cell_later (below_step hB hbs) (hc 2 (by omega))
      have c3 := cell_later (below_step hB hbs) (hc 3 (by omega))
      simp only [Nat.add_zero] at c0
      clear hc
      have hA := fun o => hbs.alloc hbs.size o
      obtain ⟨v1, gv1⟩ : ∃ v1, decide (0 ≤ E m 0 ∧ E m 0 < (k : Int)) = v1 := ⟨_, rfl⟩
      have V1 := Lib.hid gv1
      clear gv1
      obtain ⟨v2, gv2⟩ : ∃ v2, decide (0 ≤ E m 1 ∧ E m 1 < (k : Int)) = v2 := ⟨_, rfl⟩
      have V2 := Lib.hid gv2
      clear gv2
      go_wp2_with fail
      refine calls_named fun y hy => ?_
      obtain ⟨pe, hby⟩ := box1 hy
      have hBy := below_step hbs hby
      clear hy hA c0 c1 c2 c3
      have qe := cellsL pe
      have hy0 := Below.refl y.heap.size y
      (with_reducible refine (q33Place_any _ _ _ _ _ _ _ _ hn1 V1.out).mono ?_)
      rintro e w2 ⟨rfl, hb2⟩
      have hB2 := below_step hBy hb2
      have hy2 := below_step hy0 hb2
      go_wp2_with fail
      (with_reducible refine (q33Place_any _ _ _ _ _ _ _ _ hn1 V2.out).mono ?_)
      rintro e w3 ⟨rfl, hb3⟩
      have hB3 := below_step hB2 hb3
      have hy3 := below_step hy2 hb3
      cases v1
      · go_wp2_with fail
        go_returns
        exact ⟨ret_bool (by rw [← HV.out]; exact (decide_eq_false (fun h => of_decide_eq_false V1.out (h.2.2.2.2 m hlt).1)).symm), below_step hB hB3⟩
      cases v2
      · go_wp2_with fail
        go_returns
        exact ⟨ret_bool (by rw [← HV.out]; exact (decide_eq_false (fun h => of_decide_eq_false V2.out (h.2.2.2.2 m hlt).2.1)).symm), below_step hB hB3⟩
      by_cases h5 : E m 0 = E m 1
      · have d5 : (E m 0 == E m 1) = true := by simp [h5]
        have H5 := Lib.hid h5
        clear h5
        go_wp2_with fail
        go_returns
        exact ⟨ret_bool (by rw [← HV.out]; exact (decide_eq_false (fun h => (h.2.2.2.2 m hlt).2.2.1 H5.out)).symm), below_step hB hB3⟩
      have d5 : (E m 0 == E m 1) = false := by simp [h5]
      have H5 := Lib.hid h5
      clear h5
      by_cases h6 : E m 2 < 1
      · go_wp2_with fail
        go_returns
        exact ⟨ret_bool (by rw [← HV.out]; exact (decide_eq_false (fun h => by have := (h.2.2.2.2 m hlt).2.2.2.1; omega)).symm), below_step hB hB3⟩
      have d6 : decide (E m 2 < 1) = false := by simp; omega
      have n6 : 1 ≤ E m 2 := by omega
      clear h6
      by_cases h7 : E m 3 < E m 2
      · go_wp2_with fail
        go_returns
        exact ⟨ret_bool (by rw [← HV.out]; exact (decide_eq_false (fun h => by have := (h.2.2.2.2 m hlt).2.2.2.2.1; omega)).symm), below_step hB hB3⟩
      have d7 : decide (E m 3 < E m 2) = false := by simp; omega
      have n7 : E m 2 ≤ E m 3 := by omega
      clear h7
      by_cases h8 : 400 < E m 3
      · go_wp2_with fail
        go_returns
        exact ⟨ret_bool (by rw [← HV.out]; exact (decide_eq_false (fun h => by have := (h.2.2.2.2 m hlt).2.2.2.2.2; omega)).symm), below_step hB hB3⟩
      have d8 : decide (400 < E m 3) = false := by simp; omega
      have n8 : E m 3 ≤ 400 := by omega
      clear h8
      go_wp2_with fail
      go_roundw
      case rel => exact ⟨m + 1, by omega, by go_num, hB3, fun j hj => by
        rcases Nat.lt_or_ge j m with h | h
        · exact ALL2.out j h
        · obtain rfl : j = m := by omega
          exact ⟨of_decide_eq_true V1.out, of_decide_eq_true V2.out, H5.out, n6, n7, n8⟩⟩
      case measure => simp [intOf]; omega
end Go.Proofs.Ytcpnkhiillgffaa
