/- The walks of the small functions of package plane: vectors, signs, validity, the comparison of products. -/
import Derived.Test.YtcpnkhiillgffaaProg
import Derived.WalkKit
import Derived.Lib.QuietBelow
import Derived.Lib.Mul64
import Derived.Laws.Bits64b
import Derived.BigQuiet
import Derived.Handy
import Derived.Test.YtcpnkhiillgffaaBase
import Derived.Test.YtcpnkhiillgffaaPlanePure
namespace Go.Proofs.Ytcpnkhiillgffaa
open Go.RowKit
theorem from_any (ax ay bx by' : Int) (w : World) (h1 : -4000000 ≤ bx - ax) (h2 : bx - ax ≤ 4000000) (h3 : -4000000 ≤ by' - ay) (h4 : by' - ay ≤ 4000000) :
    Calls Try.prog 103 #[.agg #[.int .i64 ax, .int .i64 ay], .agg #[.int .i64 bx, .int .i64 by']] w fun e w' => e = .returned (.agg #[.int .i64 (bx - ax), .int .i64 (by' - ay)]) ∧ Below w.heap.size w w' := by
  go_enter Try.func103, Try.ntmps103
  go_wp2
  go_returns
  exact ⟨rfl, by go_grown⟩
theorem cross_any (ax ay bx by' : Int) (w : World) (h1 : -9000000000000000000 ≤ ax * by') (h1' : ax * by' ≤ 9000000000000000000) (h2 : -9000000000000000000 ≤ ay * bx) (h2' : ay * bx ≤ 9000000000000000000)
   (h3 : -9000000000000000000 ≤ ax * by' - ay * bx) (h3' : ax * by' - ay * bx ≤ 9000000000000000000) :
    Calls Try.prog 104 #[.agg #[.int .i64 ax, .int .i64 ay], .agg #[.int .i64 bx, .int .i64 by']] w fun e w' => e = .returned (.int .i64 (ax * by' - ay * bx)) ∧ Below w.heap.size w w' := by
  go_enter Try.func104, Try.ntmps104
  go_wp2
  go_returns
  exact ⟨rfl, by go_grown⟩
theorem dot_any (ax ay bx by' : Int) (w : World) (h1 : -9000000000000000000 ≤ ax * bx) (h1' : ax * bx ≤ 9000000000000000000) (h2 : -9000000000000000000 ≤ ay * by') (h2' : ay * by' ≤ 9000000000000000000)
   (h3 : -9000000000000000000 ≤ ax * bx + ay * by') (h3' : ax * bx + ay * by' ≤ 9000000000000000000) :
    Calls Try.prog 105 #[.agg #[.int .i64 ax, .int .i64 ay], .agg #[.int .i64 bx, .int .i64 by']] w fun e w' => e = .returned (.int .i64 (ax * bx + ay * by')) ∧ Below w.heap.size w w' := by
  go_enter Try.func105, Try.ntmps105
  go_wp2
  go_returns
  exact ⟨rfl, by go_grown⟩
theorem cmp_any (x : Int) (w : World) :
    Calls Try.prog 102 #[.int .i64 x, .int .i64 0] w fun e w' => e = .returned (.int .i64 x.sign) ∧ Below w.heap.size w w' := by
  go_enter Try.func102, Try.ntmps102
  go_wp2
  · go_returns
    exact ⟨ret_int (Int.sign_eq_neg_one_of_neg (by assumption)).symm, by go_grown⟩
  · go_returns
    exact ⟨ret_int (Int.sign_eq_one_of_pos (by assumption)).symm, by go_grown⟩
  · go_returns
    exact ⟨ret_int (by rw [show x = 0 by omega]; rfl), by go_grown⟩
theorem valid_yes (x y : Int) (w : World) (h : Vld x y) : Calls Try.prog 40 #[.agg #[.int .i64 x, .int .i64 y]] w fun e w' => e = .returned (.bool true) ∧ Below w.heap.size w w' := by
  obtain ⟨h1, h2, h3, h4⟩ := h
  have m1 : max x y ≤ 1000000 := by omega
  have m2 : -1000000 ≤ min x y := by omega
  go_enter Try.func40, Try.ntmps40
  go_wp2
  all_goals (go_returns; exact ⟨ret_bool (by simp <;> omega), by go_grown⟩)
theorem valid_no (x y : Int) (w : World) (h : ¬ Vld x y) : Calls Try.prog 40 #[.agg #[.int .i64 x, .int .i64 y]] w fun e w' => e = .returned (.bool false) ∧ Below w.heap.size w w' := by
  by_cases m1 : max x y ≤ 1000000
  · have m2 : min x y < -1000000 := by
      rcases Int.lt_or_le (min x y) (-1000000) with h' | h'
      · exact h'
      · exact absurd ⟨by omega, by omega, by omega, by omega⟩ h
    go_enter Try.func40, Try.ntmps40
    go_wp2
    all_goals (go_returns; exact ⟨ret_bool (by simp <;> omega), by go_grown⟩)
  · have m1 : 1000000 < max x y := by omega
    go_enter Try.func40, Try.ntmps40
    go_wp2
    all_goals (go_returns; exact ⟨ret_bool (by simp <;> omega), by go_grown⟩)
theorem dist_yes (d : Int) (w : World) (h1 : 0 ≤ d) (h2 : d ≤ 3000000) : Calls Try.prog 77 #[.int .i64 d] w fun e w' => e = .returned (.bool true) ∧ Below w.heap.size w w' := by
  go_enter Try.func77, Try.ntmps77
  go_wp2
  all_goals (go_returns; exact ⟨ret_bool (by simp <;> omega), by go_grown⟩)
theorem dist_no (d : Int) (w : World) (h : ¬ (0 ≤ d ∧ d ≤ 3000000)) : Calls Try.prog 77 #[.int .i64 d] w fun e w' => e = .returned (.bool false) ∧ Below w.heap.size w w' := by
  by_cases h1 : 0 ≤ d
  · have h2 : 3000000 < d := by omega
    go_enter Try.func77, Try.ntmps77
    go_wp2
    all_goals (go_returns; exact ⟨ret_bool (by simp <;> omega), by go_grown⟩)
  · have h1 : d < 0 := by omega
    go_enter Try.func77, Try.ntmps77
    go_wp2
    all_goals (go_returns; exact ⟨ret_bool (by simp <;> omega), by go_grown⟩)
theorem valids_yes (b n c : Nat) (X Y : Nat → Int) (w : World) (hn : n ≤ 1000) (hc : ∀ i, i < n → w.cell? ⟨b, i * 2, none⟩ = some (.int .i64 (X i)) ∧ w.cell? ⟨b, i * 2 + 1, none⟩ = some (.int .i64 (Y i)))
    (hv : ∀ i, i < n → Vld (X i) (Y i)) :
    Calls Try.prog 75 #[.slice (some ⟨b, 0, none⟩) n c] w fun e w' => e = .returned (.bool true) ∧ Below w.heap.size w w' := by
  have HC := Lib.hid hc; clear hc
  have HV := Lib.hid hv; clear hv
  go_enter Try.func75, Try.ntmps75
  go_wp2
  go_loopw [7] (fun i wr => ∃ k : Nat, k ≤ n ∧ i = .int .i64 k ∧ Below w.heap.size w wr) (fun i _ => n - (intOf i).toNat)
  case atStart => exact ⟨0, by omega, rfl, Below.refl _ _⟩
  case round =>
    obtain ⟨k, hk, rfl, hb⟩ := hrel
    by_cases hlt : k < n
    · obtain ⟨c1, c2⟩ := HC.out k hlt
      replace c1 := cell_later hb c1
      replace c2 := cell_later hb c2
      have v1 := HV.out k hlt
      go_wp2_with (go_at_call 40; refine (valid_yes _ _ _ v1).mono ?_; rintro e w1 ⟨rfl, hb1⟩)
      go_roundw
      case rel => exact ⟨k + 1, by omega, by go_num, hb.trans (((Below.refl _ _).alloc (by exact hb.size) _).trans (hb1.mono (by simp; have := hb.size; omega)))⟩
      case measure => simp [intOf]; omega
    · go_wp2
      go_returns
      exact ⟨rfl, hb⟩
theorem valids_no (b n c m : Nat) (X Y : Nat → Int) (w : World) (hn : n ≤ 1000) (hc : ∀ i, i < n → w.cell? ⟨b, i * 2, none⟩ = some (.int .i64 (X i)) ∧ w.cell? ⟨b, i * 2 + 1, none⟩ = some (.int .i64 (Y i)))
    (hm : m < n) (hv : ¬ Vld (X m) (Y m)) :
    Calls Try.prog 75 #[.slice (some ⟨b, 0, none⟩) n c] w fun e w' => e = .returned (.bool false) ∧ Below w.heap.size w w' := by
  have HC := Lib.hid hc; clear hc
  have HV := Lib.hid hv; clear hv
  go_enter Try.func75, Try.ntmps75
  go_wp2
  go_loopw [7] (fun i wr => ∃ k : Nat, k ≤ m ∧ i = .int .i64 k ∧ Below w.heap.size w wr) (fun i _ => n - (intOf i).toNat)
  case atStart => exact ⟨0, by omega, rfl, Below.refl _ _⟩
  case round =>
    obtain ⟨k, hk, rfl, hb⟩ := hrel
    have hlt : k < n := by omega
    obtain ⟨c1, c2⟩ := HC.out k hlt
    replace c1 := cell_later hb c1
    replace c2 := cell_later hb c2
    by_cases hkv : Vld (X k) (Y k)
    · have hkm : k < m := by
        rcases Nat.lt_or_ge k m with h | h
        · exact h
        · have : k = m := by omega
          subst this
          exact absurd hkv HV.out
      go_wp2_with (go_at_call 40; refine (valid_yes _ _ _ hkv).mono ?_; rintro e w1 ⟨rfl, hb1⟩)
      go_roundw
      case rel => exact ⟨k + 1, by omega, by go_num, hb.trans (((Below.refl _ _).alloc (by exact hb.size) _).trans (hb1.mono (by simp; have := hb.size; omega)))⟩
      case measure => simp [intOf]; omega
    · go_wp2_with (go_at_call 40; refine (valid_no _ _ _ hkv).mono ?_; rintro e w1 ⟨rfl, hb1⟩)
      go_returns
      exact ⟨rfl, hb.trans (((Below.refl _ _).alloc (by exact hb.size) _).trans (hb1.mono (by simp; have := hb.size; omega)))⟩
theorem maskN (a : Nat) (ha : a < 18446744073709551616) : bits .and .u64 (a : Int) 4294967295 = ((a % 4294967296 : Nat) : Int) := by
  have h := bits_and_u64_nat a 4294967295 ha (by omega)
  have e : a &&& 4294967295 = a % 4294967296 := Nat.and_two_pow_sub_one_eq_mod a 32
  rw [e] at h
  exact h
theorem divN (a : Nat) : (a : Int) / 4294967296 = ((a / 4294967296 : Nat) : Int) := by omega
theorem mulN (a b : Nat) : (a : Int) * (b : Int) = ((a * b : Nat) : Int) := (Int.natCast_mul a b).symm
theorem addN (a b : Nat) : (a : Int) + (b : Int) = ((a + b : Nat) : Int) := (Int.natCast_add a b).symm
theorem wrapN (a : Nat) (ha : a < 18446744073709551616) : IntKind.u64.wrap (a : Int) = (a : Int) := by rw [IntKind.wrap_u64]; omega
theorem wrapM (a : Nat) : IntKind.u64.wrap (a : Int) = ((a % 18446744073709551616 : Nat) : Int) := by rw [IntKind.wrap_u64]; omega
set_option maxHeartbeats 1000000 in
theorem mul64_any (x y : Nat) (hx : x < 18446744073709551616) (hy : y < 18446744073709551616) (w : World) :
    Calls Try.prog 106 #[.int .u64 x, .int .u64 y] w fun e w' => e = .returned (.tuple #[.int .u64 ((x * y / 18446744073709551616 : Nat) : Int), .int .u64 ((x * y % 18446744073709551616 : Nat) : Int)]) ∧ w = w' := by
  obtain ⟨bd, bt, bw, hhi⟩ := Lib.mul64_hi x y hx hy
  have ba := Lib.half_mul_le (a := x / 4294967296) (b := y / 4294967296) (by omega) (by omega)
  have bb := Lib.half_mul_le (a := x / 4294967296) (b := y % 4294967296) (by omega) (by omega)
  have bc := Lib.half_mul_le (a := x % 4294967296) (b := y / 4294967296) (by omega) (by omega)
  have ba' : x / 4294967296 * (y / 4294967296) < 18446744073709551616 := by omega
  have bb' : x / 4294967296 * (y % 4294967296) < 18446744073709551616 := by omega
  have bc' : x % 4294967296 * (y / 4294967296) < 18446744073709551616 := by omega
  have bh1 : x / 4294967296 * (y / 4294967296) + (x / 4294967296 * (y % 4294967296) + x % 4294967296 * (y % 4294967296) / 4294967296) / 4294967296 < 18446744073709551616 := by omega
  have bh : x / 4294967296 * (y / 4294967296) + (x / 4294967296 * (y % 4294967296) + x % 4294967296 * (y % 4294967296) / 4294967296) / 4294967296 + ((x / 4294967296 * (y % 4294967296) + x % 4294967296 * (y % 4294967296) / 4294967296) % 4294967296 + x % 4294967296 * (y / 4294967296)) / 4294967296 < 18446744073709551616 := by omega
  go_enter Try.func106, Try.ntmps106
  go_wp2
  simp only [maskN x hx, maskN y hy, divN, mulN, addN, wrapN _ bd, wrapN _ bb', wrapN _ bt, maskN _ bt, wrapN _ bc', wrapN _ bw, wrapN _ ba', wrapN _ bh1, wrapN _ bh, wrapM (x * y)]
  rw [hhi]
  go_ret2
  exact ⟨rfl, rfl⟩
end Go.Proofs.Ytcpnkhiillgffaa
