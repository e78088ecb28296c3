/- The walks of the reference's comparison of tables and of their shape. -/
import Derived.Test.YtcpnkhiillgffaaReachK
namespace Go.Proofs.Ytcpnkhiillgffaa
open Go.RowKit
attribute [local go_sem] bqOp bqAll bqUpon
attribute [local irreducible] wpQuiet wpBQ
set_option linter.unusedVariables false
set_option maxHeartbeats 2000000 in
theorem q33Tables_any (n c m c2 : Nat) (ad ad2 : Option Addr) (l1 l2 : Nat → Nat) (T U : Nat → Nat → Int) (w : World) (hT : Tab w (.slice ad n c) n l1 T) (hU : Tab w (.slice ad2 m c2) m l2 U) (hn : n ≤ 9223372036854775807) (hm : m ≤ 9223372036854775807)
    {v : Bool} (hv : decide (TabsEq n m l1 l2 T U) = v) :
    Calls Try.prog 24 #[.slice ad n c, .slice ad2 m c2] w fun e w' => e = .returned (.bool v) ∧ Below w.heap.size w w' := by
  have HT := Lib.hid hT
  have HU := Lib.hid hU
  have HV := Lib.hid hv
  clear hT hU hv
  by_cases hnm : n = m
  rotate_left
  · have d1 : ((n : Int) != (m : Int)) = true := by simp; omega
    have d2 : ((n : Int) == (m : Int)) = false := by simp; omega
    have NM := Lib.hid hnm
    clear hnm
    go_enter Try.func24, Try.ntmps24
    go_wp2_with fail
    go_returns
    exact ⟨ret_bool (by rw [← HV.out]; exact (decide_eq_false (fun h => NM.out h.1)).symm), Below.refl _ _⟩
  subst hnm
  go_enter Try.func24, Try.ntmps24
  go_wp2
  go_loopw [5] (fun i wr => ∃ k : Nat, k ≤ n ∧ i = .int .i64 k ∧ Below w.heap.size w wr ∧ ∀ t, t < k → l1 t = l2 t ∧ ∀ j, j < l1 t → T t j = U t j) (fun i _ => n - (intOf i).toNat)
  case atStart => exact ⟨0, by omega, rfl, Below.refl _ _, fun t ht => by omega⟩
  case round =>
    obtain ⟨k, hk, rfl, hbr, hall⟩ := hrel
    have ALL := Lib.hid hall
    clear hall
    by_cases hlt : k < n
    rotate_left
    · obtain rfl : k = n := by omega
      go_wp2_with fail
      go_returns
      exact ⟨ret_bool (by rw [← HV.out]; exact (decide_eq_true ⟨rfl, ALL.out⟩).symm), hbr⟩
    obtain ⟨g, o, a, ca, rfl, hc, hl, hr⟩ := HT.out.row hlt
    obtain ⟨g2, o2, a2, ca2, rfl, hc2, hl2, hr2⟩ := HU.out.row hlt
    have C1 := Lib.hid hc
    have C2 := Lib.hid hc2
    have R1 := Lib.hid hr
    have R2 := Lib.hid hr2
    obtain ⟨x1, e1⟩ : ∃ x1, l1 k = x1 := ⟨_, rfl⟩
    obtain ⟨x2, e2⟩ : ∃ x2, l2 k = x2 := ⟨_, rfl⟩
    rw [e1] at C1 R1 hl
    rw [e2] at C2 R2 hl2
    have E1 := Lib.hid e1
    have E2 := Lib.hid e2
    clear hc hc2 hr hr2 e1 e2
    go_wp2_with fail
    have q1 := fun d os => cell_later (below_regrown wr d os) (cell_later hbr C1.out)
    have q2 := fun d os => cell_later (below_regrown wr d os) (cell_later hbr C2.out)
    by_cases hxx : x1 = x2
    rotate_left
    · have d1 : ((x1 : Int) != (x2 : Int)) = true := by simp; omega
      have d2 : ((x1 : Int) == (x2 : Int)) = false := by simp; omega
      have NX := Lib.hid hxx
      clear hxx
      (refine wp_region_quiet_below (by kernel_rfl) (by kernel_rfl) ?_; (repeat (refine wpQuiet_step (fun K hK => ?_); replace hK := Lib.hid hK; go_simp; first | (refine hK.out _ ?_; clear hK K) | (apply Exists.intro; refine ⟨fun _ => ?_, hK.out _ ?_⟩; (fail); clear hK K))); refine wpQuiet_nil ?_)
      intro w1 hr1
      have hB1 := below_step hbr (regrown_below hr1)
      clear hr1 q1 q2
      go_wp2_with fail
      go_returns
      exact ⟨ret_bool (by rw [← HV.out]; exact (decide_eq_false (fun h => NX.out (by rw [← E1.out, ← E2.out]; exact (h.2 k hlt).1))).symm), hB1⟩
    subst hxx
    have d1 : ((x1 : Int) != (x1 : Int)) = false := by simp
    (refine wp_region_quiet_below (by kernel_rfl) (by kernel_rfl) ?_; (repeat (refine wpQuiet_step (fun K hK => ?_); replace hK := Lib.hid hK; go_simp; first | (refine hK.out _ ?_; clear hK K) | (apply Exists.intro; refine ⟨fun _ => ?_, hK.out _ ?_⟩; (fail); clear hK K))); refine wpQuiet_nil ?_)
    intro w1 hr1
    have hB1 := below_step hbr (regrown_below hr1)
    clear hr1 q1 q2 d1
    go_wp2_with fail
    go_loopw [6] (fun i ws => ∃ j : Nat, j ≤ x1 ∧ i = .int .i64 j ∧ Below w.heap.size w ws ∧ ∀ j', j' < j → T k j' = U k j') (fun i _ => x1 - (intOf i).toNat)
    case atStart => exact ⟨0, by omega, rfl, hB1, fun j' hj => by omega⟩
    case round =>
      obtain ⟨j, hj, rfl, hbs, hall⟩ := hrel
      have ALJ := Lib.hid hall
      clear hall
      have q1 := cell_later hbs C1.out
      by_cases hjt : j < x1
      rotate_left
      · obtain rfl : j = x1 := by omega
        go_wp2_with fail
        go_roundw
        case rel => exact ⟨k + 1, by omega, by go_num, hbs, fun t ht => by
          rcases Nat.lt_or_ge t k with h | h
          · exact ALL.out t h
          · obtain rfl : t = k := by omega
            exact ⟨by rw [E1.out, E2.out], fun j' hj' => ALJ.out j' (by rw [← E1.out]; exact hj')⟩⟩
        case measure => simp [intOf]; omega
      obtain ⟨g3, o3, rfl, hc3⟩ := R1.out.int hjt
      obtain ⟨g4, o4, rfl, hc4⟩ := R2.out.int hjt
      obtain ⟨y1, f1⟩ : ∃ y1, T k j = y1 := ⟨_, rfl⟩
      obtain ⟨y2, f2⟩ : ∃ y2, U k j = y2 := ⟨_, rfl⟩
      rw [f1] at hc3
      rw [f2] at hc4
      have C3 := Lib.hid hc3
      have C4 := Lib.hid hc4
      have Y1 := Lib.hid f1
      have Y2 := Lib.hid f2
      clear hc3 hc4 f1 f2
      go_wp2_with fail
      clear q1
      have q1 := fun d os => cell_later (below_regrown _ d os) (cell_later hbs C1.out)
      have q2 := fun d os => cell_later (below_regrown _ d os) (cell_later hbs C2.out)
      have q3 := fun d os => cell_later (below_regrown _ d os) (cell_later hbs C3.out)
      have q4 := fun d os => cell_later (below_regrown _ d os) (cell_later hbs C4.out)
      (refine wp_region_quiet_below (by kernel_rfl) (by kernel_rfl) ?_; (repeat (refine wpQuiet_step (fun K hK => ?_); replace hK := Lib.hid hK; go_simp; first | (refine hK.out _ ?_; clear hK K) | (apply Exists.intro; refine ⟨fun _ => ?_, hK.out _ ?_⟩; (fail); clear hK K))); refine wpQuiet_nil ?_)
      intro w2 hr2
      have hB2 := below_step hbs (regrown_below hr2)
      clear hr2 q1 q2 q3 q4
      by_cases hyy : y1 = y2
      rotate_left
      · have d1 : (y1 != y2) = true := by simp [hyy]
        have d2 : (y1 == y2) = false := by simp [hyy]
        have NX := Lib.hid hyy
        clear hyy
        go_wp2_with fail
        go_returns
        exact ⟨ret_bool (by rw [← HV.out]; exact (decide_eq_false (fun h => NX.out (by rw [← Y1.out, ← Y2.out]; exact (h.2 k hlt).2 j (by rw [E1.out]; exact hjt)))).symm), hB2⟩
      subst hyy
      go_wp2_with fail
      go_roundw
      case rel => exact ⟨j + 1, by omega, by go_num, hB2, fun j' hj' => by
        rcases Nat.lt_or_ge j' j with h | h
        · exact ALJ.out j' h
        · obtain rfl : j' = j := by omega
          rw [Y1.out, Y2.out]⟩
      case measure => simp [intOf]; omega
end Go.Proofs.Ytcpnkhiillgffaa
