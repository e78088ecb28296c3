/- The walks of the small functions of packages station and span. -/
import Derived.Test.YtnidacjmgekdjaaPlaneF
import Derived.Test.YtnidacjmgekdjaaStationPure
namespace Go.Proofs.Ytnidacjmgekdjaa
open Go.RowKit
attribute [local go_sem] bqOp bqAll bqUpon
attribute [local irreducible] wpQuiet wpBQ
theorem ret_tup2 {j k : IntKind} {a b a' b' : Int} (h1 : a = a') (h2 : b = b') : Ending.returned (.tuple #[.int j a, .int k b]) = Ending.returned (.tuple #[.int j a', .int k b']) := by rw [h1, h2]
theorem within_yes (lo hi : Int) (b n c : Nat) (X : Nat → Int) (w : World) (hn : n ≤ 1000) (hc : ∀ i, i < n → w.cell? ⟨b, i, none⟩ = some (.int .i64 (X i)))
    (hv : ∀ i, i < n → lo ≤ X i ∧ X i ≤ hi) :
    Calls Try.prog 33 #[.int .i64 lo, .int .i64 hi, .slice (some ⟨b, 0, none⟩) n c] w fun e w' => e = .returned (.bool true) ∧ Below w.heap.size w w' := by
  have HC := Lib.hid hc; clear hc
  have HV := Lib.hid hv; clear hv
  go_enter Try.func33, Try.ntmps33
  go_wp2
  go_loopw [11] (fun i wr => ∃ k : Nat, k ≤ n ∧ i = .int .i64 k ∧ Below w.heap.size w wr) (fun i _ => n - (intOf i).toNat)
  case atStart => exact ⟨0, by omega, rfl, Below.refl _ _⟩
  case round =>
    obtain ⟨k, hk, rfl, hb⟩ := hrel
    by_cases hlt : k < n
    · have c1 := cell_later hb (HC.out k hlt)
      have ⟨v1, v2⟩ := HV.out k hlt
      go_wp2
      go_roundw
      case rel => exact ⟨k + 1, by omega, by go_num, hb⟩
      case measure => simp [intOf]; omega
    · go_wp2
      go_returns
      exact ⟨rfl, hb⟩
theorem within_no (lo hi : Int) (b n c m : Nat) (X : Nat → Int) (w : World) (hn : n ≤ 1000) (hc : ∀ i, i < n → w.cell? ⟨b, i, none⟩ = some (.int .i64 (X i)))
    (hm : m < n) (hv : ¬ (lo ≤ X m ∧ X m ≤ hi)) :
    Calls Try.prog 33 #[.int .i64 lo, .int .i64 hi, .slice (some ⟨b, 0, none⟩) n c] w fun e w' => e = .returned (.bool false) ∧ Below w.heap.size w w' := by
  have HC := Lib.hid hc; clear hc
  have HV := Lib.hid hv; clear hv
  go_enter Try.func33, Try.ntmps33
  go_wp2
  go_loopw [11] (fun i wr => ∃ k : Nat, k ≤ m ∧ i = .int .i64 k ∧ Below w.heap.size w wr) (fun i _ => n - (intOf i).toNat)
  case atStart => exact ⟨0, by omega, rfl, Below.refl _ _⟩
  case round =>
    obtain ⟨k, hk, rfl, hb⟩ := hrel
    have hlt : k < n := by omega
    have c1 := cell_later hb (HC.out k hlt)
    by_cases h1 : lo ≤ X k
    · by_cases h2 : X k ≤ hi
      · have hkm : k < m := by
          rcases Nat.lt_or_ge k m with h | h
          · exact h
          · have : k = m := by omega
            subst this
            exact absurd ⟨h1, h2⟩ HV.out
        go_wp2
        go_roundw
        case rel => exact ⟨k + 1, by omega, by go_num, hb⟩
        case measure => simp [intOf]; omega
      · have h2' : hi < X k := by omega
        go_wp2
        go_returns
        exact ⟨rfl, hb⟩
    · have h1' : X k < lo := by omega
      go_wp2
      go_returns
      exact ⟨rfl, hb⟩
theorem within1 (lo hi x : Int) (b c : Nat) (w : World) (h : w.heap[b]? = some (.cells #[.int .i64 x] 3)) {v : Bool} (hv : decide (lo ≤ x ∧ x ≤ hi) = v) :
    Calls Try.prog 33 #[.int .i64 lo, .int .i64 hi, .slice (some ⟨b, 0, none⟩) 1 c] w fun e w' => e = .returned (.bool v) ∧ Below w.heap.size w w' := by
  subst hv
  by_cases hx : lo ≤ x ∧ x ≤ hi
  · rw [decide_eq_true hx]
    exact within_yes lo hi b 1 c (fun _ => x) w (by omega) (fun i hi => by rw [cell_block h]; match i, hi with | 0, _ => rfl) (fun i _ => hx)
  · rw [decide_eq_false hx]
    exact within_no lo hi b 1 c 0 (fun _ => x) w (by omega) (fun i hi => by rw [cell_block h]; match i, hi with | 0, _ => rfl) (by omega) hx
theorem within2 (lo hi x y : Int) (b c : Nat) (w : World) (h : w.heap[b]? = some (.cells #[.int .i64 x, .int .i64 y] 3)) {v : Bool} (hv : decide ((lo ≤ x ∧ x ≤ hi) ∧ lo ≤ y ∧ y ≤ hi) = v) :
    Calls Try.prog 33 #[.int .i64 lo, .int .i64 hi, .slice (some ⟨b, 0, none⟩) 2 c] w fun e w' => e = .returned (.bool v) ∧ Below w.heap.size w w' := by
  subst hv
  have hcell : ∀ i, i < 2 → w.cell? ⟨b, i, none⟩ = some (.int .i64 ((fun i => if i = 0 then x else y) i)) := fun i hi => by rw [cell_block h]; match i, hi with | 0, _ => rfl | 1, _ => rfl
  by_cases hx : lo ≤ x ∧ x ≤ hi
  · by_cases hy : lo ≤ y ∧ y ≤ hi
    · rw [decide_eq_true ⟨hx, hy⟩]
      exact within_yes lo hi b 2 c (fun i => if i = 0 then x else y) w (by omega) hcell (fun i hi => by match i, hi with | 0, _ => exact hx | 1, _ => exact hy)
    · rw [decide_eq_false (fun h => hy h.2)]
      exact within_no lo hi b 2 c 1 (fun i => if i = 0 then x else y) w (by omega) hcell (by omega) hy
  · rw [decide_eq_false (fun h => hx h.1)]
    exact within_no lo hi b 2 c 0 (fun i => if i = 0 then x else y) w (by omega) hcell (by omega) hx
theorem moment_any (t : Int) (w : World) {v : Bool} (hv : decide (Tm t) = v) : Calls Try.prog 35 #[.int .i64 t] w fun e w' => e = .returned (.bool v) ∧ Below w.heap.size w w' := by
  have HV := Lib.hid hv
  clear hv
  go_enter Try.func35, Try.ntmps35
  go_wp2
  all_goals (go_returns; exact ⟨ret_bool (by rw [← HV.out, show decide (Tm t) = decide (0 ≤ t ∧ t ≤ 10000000) from rfl]; simp <;> omega), by go_grown⟩)
theorem sun_any (dn dk : Int) (w : World) {v : Bool} (hv : decide (Sn dn dk) = v) : Calls Try.prog 38 #[.agg #[.int .i64 dn, .int .i64 dk]] w fun e w' => e = .returned (.bool v) ∧ Below w.heap.size w w' := by
  have HV := Lib.hid hv
  clear hv
  go_enter Try.func38, Try.ntmps38
  go_wp2
  all_goals (go_returns; exact ⟨ret_bool (by rw [← HV.out, show decide (Sn dn dk) = decide (0 ≤ dn ∧ dn < dk ∧ dk ≤ 1440) from decide_eq_decide.2 sn_iff]; (refine Bool.eq_iff_iff.2 ?_; (try simp) <;> omega)), by go_grown⟩)
theorem day_any (dn dk t : Int) (w : World) (hs : Sn dn dk) (ht : Tm t) {v : Bool} (hv : dayB dn dk t = v) : Calls Try.prog 39 #[.agg #[.int .i64 dn, .int .i64 dk], .int .i64 t] w fun e w' => e = .returned (.bool v) ∧ Below w.heap.size w w' := by
  obtain ⟨s1, s2, s3⟩ := hs
  obtain ⟨t1, t2⟩ := ht
  replace hv : decide (dn ≤ t % 1440 ∧ t % 1440 ≤ dk - 1) = v := hv
  go_enter Try.func39, Try.ntmps39
  go_wp2_with fail
  refine calls_named fun W hW => ?_
  obtain ⟨p1, p2, hB⟩ := box2 hW
  clear hW
  (with_reducible refine (within1 _ _ _ _ _ _ p2 hv).mono ?_)
  rintro e w1 ⟨rfl, hb1⟩
  have hB1 := below_step hB hb1
  go_wp2_with fail
  go_returns
  exact ⟨rfl, hB1⟩
theorem farthest_any (x lo hi : Int) (w : World) (hx : -1000000 ≤ x ∧ x ≤ 1000000) (hl : -1000000 ≤ lo ∧ lo ≤ 1000000) (hh : -1000000 ≤ hi ∧ hi ≤ 1000000) {v : Int} (hv : farthI x lo hi = v) :
    Calls Try.prog 46 #[.int .i64 x, .agg #[.int .i64 lo, .int .i64 hi]] w fun e w' => e = .returned (.int .i64 v) ∧ Below w.heap.size w w' := by
  have HV := Lib.hid hv
  clear hv
  go_enter Try.func46, Try.ntmps46
  go_wp2
  all_goals (go_returns; exact ⟨ret_int (by rw [← HV.out]; unfold farthI; split <;> omega), by go_grown⟩)
theorem nearest_any (x lo hi : Int) (w : World) {v : Int} (hv : nearI x lo hi = v) :
    Calls Try.prog 47 #[.int .i64 x, .agg #[.int .i64 lo, .int .i64 hi]] w fun e w' => e = .returned (.int .i64 v) ∧ Below w.heap.size w w' := by
  have HV := Lib.hid hv
  clear hv
  go_enter Try.func47, Try.ntmps47
  go_wp2
  all_goals (go_returns; exact ⟨ret_int (by rw [← HV.out]; unfold nearI; omega), by go_grown⟩)
theorem spValid_any (lo hi : Int) (w : World) {v : Bool} (hv : decide (-1000000000000 ≤ lo ∧ lo ≤ hi ∧ hi ≤ 1000000000000) = v) : Calls Try.prog 60 #[.agg #[.int .i64 lo, .int .i64 hi]] w fun e w' => e = .returned (.bool v) ∧ Below w.heap.size w w' := by
  have HV := Lib.hid hv
  clear hv
  go_enter Try.func60, Try.ntmps60
  go_wp2
  all_goals (go_returns; exact ⟨ret_bool (by rw [← HV.out]; (refine Bool.eq_iff_iff.2 ?_; (try simp) <;> omega)), by go_grown⟩)
theorem spEnds_any (a b : Int) (w : World) : Calls Try.prog 61 #[.int .i64 a, .int .i64 b] w fun e w' => e = .returned (.tuple #[.int .i64 (min a b), .int .i64 (max a b)]) ∧ Below w.heap.size w w' := by
  go_enter Try.func61, Try.ntmps61
  go_wp2
  all_goals (go_ret2; exact ⟨ret_tup2 (by omega) (by omega), by go_grown⟩)
end Go.Proofs.Ytnidacjmgekdjaa
