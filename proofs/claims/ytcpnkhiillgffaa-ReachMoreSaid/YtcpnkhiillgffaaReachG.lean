/- The walks of the reference's counts of what is heard between two times, and on a track. -/
import Derived.Test.YtcpnkhiillgffaaReachF
namespace Go.Proofs.Ytcpnkhiillgffaa
open Go.RowKit
attribute [local go_sem] bqOp bqAll bqUpon
attribute [local irreducible] wpQuiet wpBQ
set_option linter.unusedVariables false
def cntN (B : Nat → Bool) : Nat → Int
  | 0 => 0
  | n + 1 => cntN B n + (if B n = true then 1 else 0)
theorem cntN_bd (B : Nat → Bool) (n : Nat) : 0 ≤ cntN B n ∧ cntN B n ≤ n := by
  induction n with
  | zero => simp [cntN]
  | succ n ih => unfold cntN; split <;> omega
theorem cntN_yes {B : Nat → Bool} {n : Nat} (h : B n = true) : cntN B (n + 1) = cntN B n + 1 := by rw [cntN, if_pos h]
theorem cntN_no {B : Nat → Bool} {n : Nat} (h : B n = false) : cntN B (n + 1) = cntN B n := by rw [cntN, h]; simp
/-- The piece i is of a time from s on and before u, and is heard at the places p and q. -/
def btwB (X A : Nat → Nat → Int) (p q : Nat) (s u : Int) (i : Nat) : Bool := decide (s ≤ A i 0 ∧ A i 0 < u) && (hrB X (A i 1) (A i 2) (A i 3) p && hrB X (A i 1) (A i 2) (A i 3) q)
def wayI (X A : Nat → Nat → Int) (na : Nat) (pa ta pb tb s : Int) : Int :=
  cntN (btwB X A pa.toNat pa.toNat (max ta s) (min (ta + 1) tb)) na + cntN (btwB X A pa.toNat pb.toNat (max (ta + 1) s) tb) na
theorem wayI_bd (X A : Nat → Nat → Int) (na : Nat) (pa ta pb tb s : Int) : 0 ≤ wayI X A na pa ta pb tb s ∧ wayI X A na pa ta pb tb s ≤ 2 * (na : Int) := by
  unfold wayI
  have h1 := cntN_bd (btwB X A pa.toNat pa.toNat (max ta s) (min (ta + 1) tb)) na
  have h2 := cntN_bd (btwB X A pa.toNat pb.toNat (max (ta + 1) s) tb) na
  omega
set_option maxHeartbeats 1000000 in
theorem q33Between_any (np c ne c2 na c4 : Nat) (ad ad2 ad4 : Option Addr) (X A : Nat → Nat → Int) (p q : Nat) (s u : Int) (w : World) (hX : Rows 2 w (.slice ad np c) np X) (hA : Rows 4 w (.slice ad4 na c4) na A) (hn1 : np ≤ 9223372036854775807)
    (hv : ∀ i, i < np → Vld (X i 0) (X i 1)) (ha : AirsOk na A) (hp : p < np) (hq : q < np) {r : Int} (hr : cntN (btwB X A p q s u) na = r) :
    Calls Try.prog 84 #[.agg #[.slice ad np c, .slice ad2 ne c2], .slice ad4 na c4, .int .i64 (p : Int), .int .i64 (q : Int), .int .i64 s, .int .i64 u] w fun e w' => e = .returned (.int .i64 r) ∧ Below w.heap.size w w' := by
  have HX := Lib.hid hX
  have HA := Lib.hid hA
  have VX := Lib.hid hv
  have VA := Lib.hid ha
  have RR := Lib.hid hr
  have na4 : na ≤ 400 := ha.1
  clear hX hA hv ha hr
  go_enter Try.func84, Try.ntmps84
  go_wp2_with fail
  refine wp_named fun W hW => ?_
  obtain ⟨p1, hB⟩ := box1 hW
  clear hW
  have P1 := Lib.hid p1
  clear p1
  go_loopw [13, 14] (fun s' i wr => ∃ k : Nat, k ≤ na ∧ i = .int .i64 k ∧ s' = .int .i64 (cntN (btwB X A p q s u) k) ∧ Below W.heap.size W wr) (fun _ i _ => na - (intOf i).toNat)
  case atStart => exact ⟨0, by omega, rfl, rfl, Below.refl _ _⟩
  case round =>
    obtain ⟨k, hk, rfl, rfl, hbr⟩ := hrel
    have bd := cntN_bd (btwB X A p q s u) k
    obtain ⟨cc, hcc⟩ : ∃ cc, cntN (btwB X A p q s u) k = cc := ⟨_, rfl⟩
    rw [hcc] at bd
    rw [hcc]
    have CC := Lib.hid hcc
    clear hcc
    by_cases hlt : k < na
    rotate_left
    · obtain rfl : k = na := by omega
      go_wp2_with fail
      go_returns
      exact ⟨ret_int (by rw [← CC.out, RR.out]), below_step hB hbr⟩
    obtain ⟨g, o, rfl, hc⟩ := HA.out.row hlt
    have C0 := Lib.hid (hc 0 (by omega))
    have C1 := Lib.hid (hc 1 (by omega))
    have C2 := Lib.hid (hc 2 (by omega))
    have C3 := Lib.hid (hc 3 (by omega))
    clear hc
    go_wp2_with fail
    have q1 := cellsR (block_later hbr P1.out)
    have c0 := fun d os => cell_later (below_regrown wr d os) (cell_later (below_step hB hbr) C0.out)
    have c1 := fun d os => cell_later (below_regrown wr d os) (cell_later (below_step hB hbr) C1.out)
    have c2' := fun d os => cell_later (below_regrown wr d os) (cell_later (below_step hB hbr) C2.out)
    have c3 := fun d os => cell_later (below_regrown wr d os) (cell_later (below_step hB hbr) C3.out)
    simp only [Nat.add_zero] at c0
    by_cases h1 : s ≤ A k 0
    rotate_left
    · have d1 : decide (s ≤ A k 0) = false := by simp; omega
      have BN : Hid (btwB X A p q s u k = false) := Lib.hid (by unfold btwB; rw [decide_eq_false (fun h => h1 h.1)]; rfl)
      clear h1
      (refine wp_region_quiet_below (by kernel_rfl) (by kernel_rfl) ?_; (repeat (refine wpQuiet_step (fun K hK => ?_); replace hK := Lib.hid hK; go_simp; first | (refine hK.out _ ?_; clear hK K) | (apply Exists.intro; refine ⟨fun _ => ?_, hK.out _ ?_⟩; (fail); clear hK K))); refine wpQuiet_nil ?_)
      intro w3 hr3
      have hB3 := below_step hbr (regrown_below hr3)
      clear hr3 q1 c0 c1 c2' c3
      go_wp2_with fail
      go_roundw
      case rel => exact ⟨k + 1, by omega, by go_num, by rw [cntN_no BN.out, CC.out], hB3⟩
      case measure => simp [intOf]; omega
    by_cases h2 : A k 0 < u
    rotate_left
    · have d2 : decide (A k 0 < u) = false := by simp; omega
      have BN : Hid (btwB X A p q s u k = false) := Lib.hid (by unfold btwB; rw [decide_eq_false (fun h => h2 h.2)]; rfl)
      clear h2
      (refine wp_region_quiet_below (by kernel_rfl) (by kernel_rfl) ?_; (repeat (refine wpQuiet_step (fun K hK => ?_); replace hK := Lib.hid hK; go_simp; first | (refine hK.out _ ?_; clear hK K) | (apply Exists.intro; refine ⟨fun _ => ?_, hK.out _ ?_⟩; (fail); clear hK K))); refine wpQuiet_nil ?_)
      intro w3 hr3
      have hB3 := below_step hbr (regrown_below hr3)
      clear hr3 q1 c0 c1 c2' c3
      go_wp2_with fail
      go_roundw
      case rel => exact ⟨k + 1, by omega, by go_num, by rw [cntN_no BN.out, CC.out], hB3⟩
      case measure => simp [intOf]; omega
    obtain ⟨v, hv⟩ : ∃ v, (hrB X (A k 1) (A k 2) (A k 3) p && hrB X (A k 1) (A k 2) (A k 3) q) = v := ⟨_, rfl⟩
    have BN : Hid (btwB X A p q s u k = v) := Lib.hid (by unfold btwB; rw [decide_eq_true ⟨h1, h2⟩, hv]; rfl)
    have CF := Lib.hid (fun w' hb => q33heard_any np c ne c2 ad ad2 X (A k 0) (A k 1) (A k 2) (A k 3) p q w' (HX.out.later (below_step hB hb)) hn1 hp hq (VX.out p hp) (VX.out q hq) (VA.out.2 k hlt) hv)
    clear hv
    (refine wp_region_quiet_below (by kernel_rfl) (by kernel_rfl) ?_; (repeat (refine wpQuiet_step (fun K hK => ?_); replace hK := Lib.hid hK; go_simp; first | (refine hK.out _ ?_; clear hK K) | (apply Exists.intro; refine ⟨fun _ => ?_, hK.out _ ?_⟩; ((go_at_call 49; exact Calls.regrown_of (CF.out _ (below_step hbr (below_regrown _ _ _))))); clear hK K))); refine wpQuiet_nil ?_)
    intro w3 hr3
    have hB3 := below_step hbr (regrown_below hr3)
    clear hr3 q1 c0 c1 c2' c3 CF
    cases v
    · go_wp2_with fail
      go_roundw
      case rel => exact ⟨k + 1, by omega, by go_num, by rw [cntN_no BN.out, CC.out], hB3⟩
      case measure => simp [intOf]; omega
    · go_wp2_with fail
      go_roundw
      case rel => exact ⟨k + 1, by omega, by go_num, by rw [cntN_yes BN.out, CC.out], hB3⟩
      case measure => simp [intOf]; omega
set_option maxHeartbeats 1000000 in
theorem q33way_any (np c ne c2 na c4 : Nat) (ad ad2 ad4 : Option Addr) (X A : Nat → Nat → Int) (p q : Nat) (ta tb s : Int) (w : World) (hX : Rows 2 w (.slice ad np c) np X) (hA : Rows 4 w (.slice ad4 na c4) na A) (hn1 : np ≤ 9223372036854775807)
    (hv : ∀ i, i < np → Vld (X i 0) (X i 1)) (ha : AirsOk na A) (hp : p < np) (hq : q < np) (a1 : -1000 ≤ ta) (a2 : ta ≤ 10000000) (b1 : -1000 ≤ tb) (b2 : tb ≤ 10000000) {r : Int} (hr : wayI X A na (p : Int) ta (q : Int) tb s = r) :
    Calls Try.prog 54 #[.agg #[.slice ad np c, .slice ad2 ne c2], .slice ad4 na c4, .agg #[.int .i64 ((p : Int)), .int .i64 ta], .agg #[.int .i64 ((q : Int)), .int .i64 tb], .int .i64 s] w fun e w' => e = .returned (.int .i64 r) ∧ Below w.heap.size w w' := by
  unfold wayI at hr
  simp only [Int.toNat_natCast] at hr
  obtain ⟨m1, e1⟩ : ∃ m1, max ta s = m1 := ⟨_, rfl⟩
  obtain ⟨m2, e2⟩ : ∃ m2, min (ta + 1) tb = m2 := ⟨_, rfl⟩
  obtain ⟨m3, e3⟩ : ∃ m3, max (ta + 1) s = m3 := ⟨_, rfl⟩
  rw [e1, e2, e3] at hr
  obtain ⟨r1, h1⟩ : ∃ r1, cntN (btwB X A p p m1 m2) na = r1 := ⟨_, rfl⟩
  obtain ⟨r2, h2⟩ : ∃ r2, cntN (btwB X A p q m3 tb) na = r2 := ⟨_, rfl⟩
  have bd1 := cntN_bd (btwB X A p p m1 m2) na
  have bd2 := cntN_bd (btwB X A p q m3 tb) na
  rw [h1] at bd1 hr
  rw [h2] at bd2 hr
  have na4 : na ≤ 400 := ha.1
  have C1 := Lib.hid (fun w' hb => q33Between_any np c ne c2 na c4 ad ad2 ad4 X A p p m1 m2 w' (hX.later hb) (hA.later hb) hn1 hv ha hp hp h1)
  have C2 := Lib.hid (fun w' hb => q33Between_any np c ne c2 na c4 ad ad2 ad4 X A p q m3 tb w' (hX.later hb) (hA.later hb) hn1 hv ha hp hq h2)
  have RR := Lib.hid hr
  clear hr h1 h2 hX hA hv ha
  rcases Int.lt_or_le ta s with x1 | x1 <;> rcases Int.lt_or_le tb (ta + 1) with x2 | x2 <;> rcases Int.lt_or_le (ta + 1) s with x3 | x3
  · obtain rfl : s = m1 := by omega
    obtain rfl : tb = m2 := by omega
    obtain rfl : s = m3 := by omega
    clear e1 e2 e3
    go_enter Try.func54, Try.ntmps54
    go_upto_region 1 with (fail)
    refine wp_named fun W hW => ?_
    obtain ⟨p1, p2, p3, hB⟩ := box3 hW
    clear hW
    have q1 := cellsL p1
    have q2 := cellsL p2
    have q3 := cellsL p3
    have hB0 := Below.refl W.heap.size W
    clear p1 p2 p3
    go_wp2_with fail
    (with_reducible refine (C1.out _ hB).mono ?_)
    rintro e w1 ⟨rfl, hb1⟩
    go_wp2_with fail
    (with_reducible refine (C2.out _ (below_step hB hb1)).mono ?_)
    rintro e w2 ⟨rfl, hb2⟩
    have hB2 := below_step hb1 hb2
    go_wp2_with fail
    go_returns
    exact ⟨ret_int RR.out, below_step hB hB2⟩
  · obtain rfl : s = m1 := by omega
    obtain rfl : tb = m2 := by omega
    obtain rfl : (ta + 1) = m3 := by omega
    clear e1 e2 e3
    go_enter Try.func54, Try.ntmps54
    go_upto_region 1 with (fail)
    refine wp_named fun W hW => ?_
    obtain ⟨p1, p2, p3, hB⟩ := box3 hW
    clear hW
    have q1 := cellsL p1
    have q2 := cellsL p2
    have q3 := cellsL p3
    have hB0 := Below.refl W.heap.size W
    clear p1 p2 p3
    go_wp2_with fail
    (with_reducible refine (C1.out _ hB).mono ?_)
    rintro e w1 ⟨rfl, hb1⟩
    go_wp2_with fail
    (with_reducible refine (C2.out _ (below_step hB hb1)).mono ?_)
    rintro e w2 ⟨rfl, hb2⟩
    have hB2 := below_step hb1 hb2
    go_wp2_with fail
    go_returns
    exact ⟨ret_int RR.out, below_step hB hB2⟩
  · obtain rfl : s = m1 := by omega
    obtain rfl : (ta + 1) = m2 := by omega
    obtain rfl : s = m3 := by omega
    clear e1 e2 e3
    go_enter Try.func54, Try.ntmps54
    go_upto_region 1 with (fail)
    refine wp_named fun W hW => ?_
    obtain ⟨p1, p2, p3, hB⟩ := box3 hW
    clear hW
    have q1 := cellsL p1
    have q2 := cellsL p2
    have q3 := cellsL p3
    have hB0 := Below.refl W.heap.size W
    clear p1 p2 p3
    go_wp2_with fail
    (with_reducible refine (C1.out _ hB).mono ?_)
    rintro e w1 ⟨rfl, hb1⟩
    go_wp2_with fail
    (with_reducible refine (C2.out _ (below_step hB hb1)).mono ?_)
    rintro e w2 ⟨rfl, hb2⟩
    have hB2 := below_step hb1 hb2
    go_wp2_with fail
    go_returns
    exact ⟨ret_int RR.out, below_step hB hB2⟩
  · obtain rfl : s = m1 := by omega
    obtain rfl : (ta + 1) = m2 := by omega
    obtain rfl : (ta + 1) = m3 := by omega
    clear e1 e2 e3
    go_enter Try.func54, Try.ntmps54
    go_upto_region 1 with (fail)
    refine wp_named fun W hW => ?_
    obtain ⟨p1, p2, p3, hB⟩ := box3 hW
    clear hW
    have q1 := cellsL p1
    have q2 := cellsL p2
    have q3 := cellsL p3
    have hB0 := Below.refl W.heap.size W
    clear p1 p2 p3
    go_wp2_with fail
    (with_reducible refine (C1.out _ hB).mono ?_)
    rintro e w1 ⟨rfl, hb1⟩
    go_wp2_with fail
    (with_reducible refine (C2.out _ (below_step hB hb1)).mono ?_)
    rintro e w2 ⟨rfl, hb2⟩
    have hB2 := below_step hb1 hb2
    go_wp2_with fail
    go_returns
    exact ⟨ret_int RR.out, below_step hB hB2⟩
  · exact absurd x3 (by omega)
  · obtain rfl : ta = m1 := by omega
    obtain rfl : tb = m2 := by omega
    obtain rfl : (ta + 1) = m3 := by omega
    clear e1 e2 e3
    go_enter Try.func54, Try.ntmps54
    go_upto_region 1 with (fail)
    refine wp_named fun W hW => ?_
    obtain ⟨p1, p2, p3, hB⟩ := box3 hW
    clear hW
    have q1 := cellsL p1
    have q2 := cellsL p2
    have q3 := cellsL p3
    have hB0 := Below.refl W.heap.size W
    clear p1 p2 p3
    go_wp2_with fail
    (with_reducible refine (C1.out _ hB).mono ?_)
    rintro e w1 ⟨rfl, hb1⟩
    go_wp2_with fail
    (with_reducible refine (C2.out _ (below_step hB hb1)).mono ?_)
    rintro e w2 ⟨rfl, hb2⟩
    have hB2 := below_step hb1 hb2
    go_wp2_with fail
    go_returns
    exact ⟨ret_int RR.out, below_step hB hB2⟩
  · exact absurd x3 (by omega)
  · obtain rfl : ta = m1 := by omega
    obtain rfl : (ta + 1) = m2 := by omega
    obtain rfl : (ta + 1) = m3 := by omega
    clear e1 e2 e3
    go_enter Try.func54, Try.ntmps54
    go_upto_region 1 with (fail)
    refine wp_named fun W hW => ?_
    obtain ⟨p1, p2, p3, hB⟩ := box3 hW
    clear hW
    have q1 := cellsL p1
    have q2 := cellsL p2
    have q3 := cellsL p3
    have hB0 := Below.refl W.heap.size W
    clear p1 p2 p3
    go_wp2_with fail
    (with_reducible refine (C1.out _ hB).mono ?_)
    rintro e w1 ⟨rfl, hb1⟩
    go_wp2_with fail
    (with_reducible refine (C2.out _ (below_step hB hb1)).mono ?_)
    rintro e w2 ⟨rfl, hb2⟩
    have hB2 := below_step hb1 hb2
    go_wp2_with fail
    go_returns
    exact ⟨ret_int RR.out, below_step hB hB2⟩
end Go.Proofs.Ytcpnkhiillgffaa
