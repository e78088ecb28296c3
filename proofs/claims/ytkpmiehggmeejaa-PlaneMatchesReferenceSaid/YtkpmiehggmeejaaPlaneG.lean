/- The walks of package plane's exported functions Lies, Close, Dist. -/
import Derived.Test.YtkpmiehggmeejaaPlaneF
import Derived.Outline
namespace Go.Proofs.Ytkpmiehggmeejaa
open Go.RowKit
set_option maxHeartbeats 1000000 in
theorem close1_any (px py qx qy cx cy dx dy r : Int) (rb : Nat) (w : World) (hp : Vld px py) (hq : Vld qx qy) (hc : Vld cx cy) (hd : Vld dx dy) (h1 : 0 ≤ r) (h2 : r ≤ 3000000) (hr : w.heap[rb]? = some (.cells #[.int .i64 r] 3)) {v1 v2 : Bool} (hv1 : nearB px py cx cy dx dy r = v1) (hv2 : nearB qx qy cx cy dx dy r = v2) :
    Calls Try.prog 36 #[.agg #[.int .i64 px, .int .i64 py, .int .i64 qx, .int .i64 qy], .agg #[.int .i64 cx, .int .i64 cy], .agg #[.int .i64 dx, .int .i64 dy], .pointer (some ⟨rb, 0, none⟩)] w fun e w' => e = .returned (.bool (v1 || v2)) ∧ Below w.heap.size w w' := by
  have i0 : ∀ w, (Instr.index 52 (.agg #[.int .i64 px, .int .i64 py, .int .i64 qx, .int .i64 qy]) (.int .i64 0)).run Try.prog w = .ok (.agg #[.int .i64 px, .int .i64 py]) w := fun _ => by kernel_rfl
  have i1 : ∀ w, (Instr.index 52 (.agg #[.int .i64 px, .int .i64 py, .int .i64 qx, .int .i64 qy]) (.int .i64 1)).run Try.prog w = .ok (.agg #[.int .i64 qx, .int .i64 qy]) w := fun _ => by kernel_rfl
  go_enter Try.func36, Try.ntmps36
  go_wp2_with fail
  refine wp_named fun W hW => ?_
  obtain ⟨p1, p2, p3, hB⟩ := box3 hW
  clear hW
  have q2 := cellsL p2
  have q3 := cellsL p3
  have q4 := cellsL (block_later hB hr)
  have hW0 := fun o => (Below.refl W.heap.size W).alloc (Nat.le_refl _) o
  clear p1 p2 p3
  have hn1 := fun w => near_any px py cx cy dx dy r w hp hc hd h1 h2 hv1
  have hn2 := fun w => near_any qx qy cx cy dx dy r w hq hc hd h1 h2 hv2
  have HN1 := Lib.hid hn1
  have HN2 := Lib.hid hn2
  clear hv1 hv2 hn1 hn2
  refine wp_loop_rounds 3 ?_
  rw [rounds_succ]
  go_wp2_with fail
  refine calls_named fun W1 hW1 => ?_
  have hB1 : Below W.heap.size W W1 := by rw [hW1]; exact (Below.refl _ _).alloc (Nat.le_refl _) _
  clear hW1
  (with_reducible refine (HN1.out _).mono ?_)
  rintro e w2 ⟨rfl, hb2⟩
  have hB2 := below_step hB1 hb2
  cases v1 with
  | true =>
    go_wp2_with fail
    go_returns
    exact ⟨rfl, below_step hB hB2⟩
  | false =>
    have hW2 := fun o => hB2.alloc hB2.size o
    go_wp2_with fail
    rw [rounds_succ]
    go_wp2_with fail
    refine calls_named fun W3 hW3 => ?_
    have hB3 : Below W.heap.size W W3 := by rw [hW3]; exact hB2.alloc hB2.size _
    clear hW3
    (with_reducible refine (HN2.out _).mono ?_)
    rintro e w4 ⟨rfl, hb4⟩
    have hB4 := below_step hB3 hb4
    cases v2 with
    | true =>
      go_wp2_with fail
      go_returns
      exact ⟨rfl, below_step hB hB4⟩
    | false =>
      go_wp2_with fail
      rw [rounds_succ]
      go_wp2_with fail
      go_returns
      exact ⟨rfl, below_step hB hB4⟩
set_option maxHeartbeats 1000000 in
theorem Close_yes (ax ay bx by' cx cy dx dy r : Int) (w : World) (ha : Vld ax ay) (hb : Vld bx by') (hc : Vld cx cy) (hd : Vld dx dy) (hr : 0 ≤ r ∧ r ≤ 3000000) {v : Bool} (hv : closeB ax ay bx by' cx cy dx dy r = v) :
    Calls Try.prog 14 #[.agg #[.int .i64 ax, .int .i64 ay], .agg #[.int .i64 bx, .int .i64 by'], .agg #[.int .i64 cx, .int .i64 cy], .agg #[.int .i64 dx, .int .i64 dy], .int .i64 r] w fun e w' => e = .returned (.tuple #[.bool v, .int .i64 0]) ∧ Below w.heap.size w w' := by
  obtain ⟨v0, g0⟩ : ∃ s, meetB ax ay bx by' cx cy dx dy = s := ⟨_, rfl⟩
  obtain ⟨v1, g1⟩ : ∃ s, nearB ax ay cx cy dx dy r = s := ⟨_, rfl⟩
  obtain ⟨v2, g2⟩ : ∃ s, nearB bx by' cx cy dx dy r = s := ⟨_, rfl⟩
  obtain ⟨v3, g3⟩ : ∃ s, nearB cx cy ax ay bx by' r = s := ⟨_, rfl⟩
  obtain ⟨v4, g4⟩ : ∃ s, nearB dx dy ax ay bx by' r = s := ⟨_, rfl⟩
  rw [closeB, g0, g1, g2, g3, g4] at hv
  have HV := Lib.hid hv
  have hm := fun w => meet_any ax ay bx by' cx cy dx dy w ha hb hc hd g0
  have hx := fun rb w h => close1_any ax ay bx by' cx cy dx dy r rb w ha hb hc hd hr.1 hr.2 h g1 g2
  have hy := fun rb w h => close1_any cx cy dx dy ax ay bx by' r rb w hc hd ha hb hr.1 hr.2 h g3 g4
  have HM := Lib.hid hm
  have HX := Lib.hid hx
  have HY := Lib.hid hy
  clear hv hm hx hy g0 g1 g2 g3 g4
  go_enter Try.func14, Try.ntmps14
  go_wp2_with fail
  refine calls_named fun W hW => ?_
  obtain ⟨p1, p2, p3, p4, p5, p6, hB⟩ := box6 hW
  clear hW
  (with_reducible refine (valids4_yes _ _ _ _ _ _ _ _ _ _ _ p6 ⟨ha, hb, hc, hd⟩).mono ?_)
  rintro e w1 ⟨rfl, hb1⟩
  have q1 := cellsL p1
  have q2 := cellsL p2
  have q3 := cellsL p3
  have q4 := cellsL p4
  have q5 := cellsL p5
  have P5 := Lib.hid p5
  clear p1 p2 p3 p4 p5 p6
  go_wp2_with fail
  (with_reducible refine (dist_yes _ _ hr.1 hr.2).mono ?_)
  rintro e w2 ⟨rfl, hb2⟩
  have hB2 := below_step hb1 hb2
  clear hb1 hb2
  go_wp2_with fail
  (with_reducible refine (HM.out _).mono ?_)
  rintro e w3 ⟨rfl, hb3⟩
  have hB3 := below_step hB2 hb3
  clear hb3
  cases v0 with
  | true =>
    go_wp2_with fail
    go_ret2
    exact ⟨by rw [← HV.out]; rfl, below_step hB hB3⟩
  | false =>
    go_wp2_with fail
    (with_reducible refine (HX.out _ _ (block_later hB3 P5.out)).mono ?_)
    rintro e w4 ⟨rfl, hb4⟩
    have hB4 := below_step hB3 hb4
    clear hb4
    cases h12 : (v1 || v2) with
    | true =>
      have HV2 : Hid (true = v) := Lib.hid (by rw [← HV.out, ← Bool.or_assoc v1, h12]; rfl)
      clear h12
      go_wp2_with fail
      go_ret2
      exact ⟨by rw [← HV2.out]; rfl, below_step hB hB4⟩
    | false =>
      have HV2 : Hid ((v3 || v4) = v) := Lib.hid (by rw [← HV.out, ← Bool.or_assoc v1, h12]; rfl)
      clear h12
      go_wp2_with fail
      (with_reducible refine (HY.out _ _ (block_later hB4 P5.out)).mono ?_)
      rintro e w5 ⟨rfl, hb5⟩
      have hB5 := below_step hB4 hb5
      clear hb5
      rw [HV2.out]
      go_wp2_with fail
      go_ret2
      exact ⟨rfl, below_step hB hB5⟩
theorem Close_no (ax ay bx by' cx cy dx dy r : Int) (w : World) (hv : ¬ (Vld ax ay ∧ Vld bx by' ∧ Vld cx cy ∧ Vld dx dy ∧ 0 ≤ r ∧ r ≤ 3000000)) :
    Calls Try.prog 14 #[.agg #[.int .i64 ax, .int .i64 ay], .agg #[.int .i64 bx, .int .i64 by'], .agg #[.int .i64 cx, .int .i64 cy], .agg #[.int .i64 dx, .int .i64 dy], .int .i64 r] w fun e w' => e = .returned (.tuple #[.bool false, .int .i64 1]) ∧ Below w.heap.size w w' := by
  by_cases hv' : Vld ax ay ∧ Vld bx by' ∧ Vld cx cy ∧ Vld dx dy
  · have hr : ¬ (0 ≤ r ∧ r ≤ 3000000) := fun h => hv (by obtain ⟨g0, g1, g2, g3⟩ := hv'; exact ⟨g0, g1, g2, g3, h⟩)
    go_enter Try.func14, Try.ntmps14
    go_wp2_with fail
    refine calls_named fun W hW => ?_
    obtain ⟨p1, p2, p3, p4, p5, p6, hB⟩ := box6 hW
    clear hW
    (with_reducible refine (valids4_yes _ _ _ _ _ _ _ _ _ _ _ p6 hv').mono ?_)
    rintro e w1 ⟨rfl, hb1⟩
    have q5 := cellsL p5
    clear p1 p2 p3 p4 p5 p6
    go_wp2_with fail
    (with_reducible refine (dist_no _ _ hr).mono ?_)
    rintro e w2 ⟨rfl, hb2⟩
    go_wp2_with fail
    go_ret2
    exact ⟨rfl, below_step hB (below_step hb1 hb2)⟩
  · go_enter Try.func14, Try.ntmps14
    go_wp2_with fail
    refine calls_named fun W hW => ?_
    obtain ⟨p1, p2, p3, p4, p5, p6, hB⟩ := box6 hW
    clear hW
    (with_reducible refine (valids4_no _ _ _ _ _ _ _ _ _ _ _ p6 hv').mono ?_)
    rintro e w1 ⟨rfl, hb1⟩
    clear p1 p2 p3 p4 p5 p6
    go_wp2_with fail
    go_ret2
    exact ⟨rfl, below_step hB hb1⟩
theorem Lies_yes (px py r qx qy s : Int) (w : World) (hp : Vld px py) (hq : Vld qx qy) (hr : 0 ≤ r ∧ r ≤ 3000000) (hs : 0 ≤ s ∧ s ≤ 3000000) {v : Bool} (hv : liesB px py r qx qy s = v) :
    Calls Try.prog 17 #[.agg #[.int .i64 px, .int .i64 py], .int .i64 r, .agg #[.int .i64 qx, .int .i64 qy], .int .i64 s] w fun e w' => e = .returned (.tuple #[.bool v, .int .i64 0]) ∧ Below w.heap.size w w' := by
  obtain ⟨⟨m1, m2⟩, m3, m4⟩ := sqd_bd hp hq
  obtain ⟨s1, s2⟩ := mul_bd (a := s - r) (b := s - r) (A := 3000000) (B := 3000000) (by omega) (by omega) (by omega) (by omega)
  obtain ⟨r1, r2⟩ := hr
  obtain ⟨z1, z2⟩ := hs
  have HP := Lib.hid hp
  have HQ := Lib.hid hq
  obtain ⟨a1, a2, a3, a4⟩ := hp
  obtain ⟨b1, b2, b3, b4⟩ := hq
  rw [liesB, sqd] at hv
  have HV := Lib.hid hv
  clear hv
  go_enter Try.func17, Try.ntmps17
  go_wp2_with fail
  refine calls_named fun W hW => ?_
  obtain ⟨p1, p2, p3, hB⟩ := box3 hW
  clear hW
  (with_reducible refine (valids2_yes _ _ _ _ _ _ _ p3 ⟨HP.out, HQ.out⟩).mono ?_)
  rintro e w1 ⟨rfl, hb1⟩
  have q1 := cellsL p1
  have q2 := cellsL p2
  clear p1 p2 p3
  go_wp2_with fail
  (with_reducible refine (dist_yes _ _ r1 r2).mono ?_)
  rintro e w2 ⟨rfl, hb2⟩
  have hB2 := below_step hb1 hb2
  clear hb1 hb2
  go_wp2_with fail
  (with_reducible refine (dist_yes _ _ z1 z2).mono ?_)
  rintro e w3 ⟨rfl, hb3⟩
  have hB3 := below_step hB2 hb3
  clear hB2 hb3
  go_wp2_with fail
  (with_reducible refine (from_any _ _ _ _ _ (by omega) (by omega) (by omega) (by omega)).mono ?_)
  rintro e w4 ⟨rfl, hb4⟩
  have hB4 := below_step hB3 hb4
  clear hB3 hb4
  by_cases t : r ≤ s
  · go_wp2_with fail
    refine calls_named fun W5 hW5 => ?_
    have hB5 : Below w.heap.size w W5 := by rw [hW5]; exact (below_step hB hB4).alloc (below_step hB hB4).size _
    clear hW5 hB hB4
    (with_reducible refine (dot_any _ _ _ _ _ (by omega) (by omega) (by omega) (by omega) (by omega) (by omega)).mono ?_)
    rintro e w6 ⟨rfl, hb6⟩
    go_wp2_with fail
    all_goals
      go_ret2
      exact ⟨by rw [← HV.out]; simp [t], below_step hB5 hb6⟩
  · go_wp2_with fail
    go_ret2
    exact ⟨by rw [← HV.out]; have t' : ¬ r ≤ s := by omega
              simp [t'], (below_step hB hB4).alloc (below_step hB hB4).size _⟩
theorem Lies_no (px py r qx qy s : Int) (w : World) (hv : ¬ (Vld px py ∧ Vld qx qy ∧ (0 ≤ r ∧ r ≤ 3000000) ∧ 0 ≤ s ∧ s ≤ 3000000)) :
    Calls Try.prog 17 #[.agg #[.int .i64 px, .int .i64 py], .int .i64 r, .agg #[.int .i64 qx, .int .i64 qy], .int .i64 s] w fun e w' => e = .returned (.tuple #[.bool false, .int .i64 1]) ∧ Below w.heap.size w w' := by
  by_cases hv' : Vld px py ∧ Vld qx qy
  · by_cases hr : 0 ≤ r ∧ r ≤ 3000000
    · have hs : ¬ (0 ≤ s ∧ s ≤ 3000000) := fun h => hv ⟨hv'.1, hv'.2, hr, h⟩
      go_enter Try.func17, Try.ntmps17
      go_wp2_with fail
      refine calls_named fun W hW => ?_
      obtain ⟨p1, p2, p3, hB⟩ := box3 hW
      clear hW
      (with_reducible refine (valids2_yes _ _ _ _ _ _ _ p3 hv').mono ?_)
      rintro e w1 ⟨rfl, hb1⟩
      clear p1 p2 p3
      go_wp2_with fail
      (with_reducible refine (dist_yes _ _ hr.1 hr.2).mono ?_)
      rintro e w2 ⟨rfl, hb2⟩
      have hB2 := below_step hb1 hb2
      go_wp2_with fail
      (with_reducible refine (dist_no _ _ hs).mono ?_)
      rintro e w3 ⟨rfl, hb3⟩
      go_wp2_with fail
      go_ret2
      exact ⟨rfl, below_step hB (below_step hB2 hb3)⟩
    · go_enter Try.func17, Try.ntmps17
      go_wp2_with fail
      refine calls_named fun W hW => ?_
      obtain ⟨p1, p2, p3, hB⟩ := box3 hW
      clear hW
      (with_reducible refine (valids2_yes _ _ _ _ _ _ _ p3 hv').mono ?_)
      rintro e w1 ⟨rfl, hb1⟩
      clear p1 p2 p3
      go_wp2_with fail
      (with_reducible refine (dist_no _ _ hr).mono ?_)
      rintro e w2 ⟨rfl, hb2⟩
      go_wp2_with fail
      go_ret2
      exact ⟨rfl, below_step hB (below_step hb1 hb2)⟩
  · go_enter Try.func17, Try.ntmps17
    go_wp2_with fail
    refine calls_named fun W hW => ?_
    obtain ⟨p1, p2, p3, hB⟩ := box3 hW
    clear hW
    (with_reducible refine (valids2_no _ _ _ _ _ _ _ p3 hv').mono ?_)
    rintro e w1 ⟨rfl, hb1⟩
    clear p1 p2 p3
    go_wp2_with fail
    go_ret2
    exact ⟨rfl, below_step hB hb1⟩
theorem Dist_yes (ax ay bx by' : Int) (w : World) (ha : Vld ax ay) (hb : Vld bx by') {l h : Int} (hl : isq (sqd ax ay bx by') = l) (hh : dHi (sqd ax ay bx by') = h) :
    Calls Try.prog 16 #[.agg #[.int .i64 ax, .int .i64 ay], .agg #[.int .i64 bx, .int .i64 by']] w fun e w' => e = .returned (.tuple #[.agg #[.int .i64 l, .int .i64 h], .int .i64 0]) ∧ Below w.heap.size w w' := by
  obtain ⟨⟨m1, m2⟩, m3, m4⟩ := sqd_bd ha hb
  have HA := Lib.hid ha
  have HB := Lib.hid hb
  obtain ⟨a1, a2, a3, a4⟩ := ha
  obtain ⟨b1, b2, b3, b4⟩ := hb
  have HL := Lib.hid hl
  have HH := Lib.hid hh
  clear hl hh
  by_cases hx : ax = bx
  · by_cases hy : ay = by'
    · subst hx
      subst hy
      have e1 := HL.out
      have e2 := HH.out
      have z0 : sqd ax ay ax ay = 0 := by unfold sqd; simp
      rw [z0, show isq 0 = 0 by rfl] at e1
      rw [z0, show dHi 0 = 0 by rfl] at e2
      subst e1 e2
      clear HL HH z0
      go_enter Try.func16, Try.ntmps16
      go_wp2_with fail
      refine calls_named fun W hW => ?_
      obtain ⟨p1, p2, p3, p4, hB⟩ := box4 hW
      clear hW
      (with_reducible refine (valids2_yes _ _ _ _ _ _ _ p4 ⟨HA.out, HB.out⟩).mono ?_)
      rintro e w1 ⟨rfl, hb1⟩
      have q1 := cellsL p1
      have q2 := cellsL p2
      have f3 := free_block (block_later hb1 p3)
      have c3 := cell_block (block_later hb1 p3)
      have P3 := Lib.hid p3
      clear p1 p2 p3 p4
      go_wp2_with fail
      have c9 := cell_block (block_set (i := 1) (block_set (i := 0) (block_later hb1 P3.out) (.int .i64 0)) (.int .i64 0))
      exact bodyPost_ret (v := .tuple #[.agg #[.int .i64 0, .int .i64 0], .int .i64 0]) (by simp [results, Try.results16, go_sem, c9]) rfl ⟨rfl, ((below_step hB hb1).setCell (by dsimp only; omega) _).setCell (by dsimp only; omega) _⟩
    · have hx' : (ax == bx) = true := by simp [hx]
      have hy' : (ay == by') = false := by simp [hy]
      clear hx hy
      go_enter Try.func16, Try.ntmps16
      go_wp2_with fail
      refine calls_named fun W hW => ?_
      obtain ⟨p1, p2, p3, p4, hB⟩ := box4 hW
      clear hW
      (with_reducible refine (valids2_yes _ _ _ _ _ _ _ p4 ⟨HA.out, HB.out⟩).mono ?_)
      rintro e w1 ⟨rfl, hb1⟩
      have q1 := cellsL p1
      have q2 := cellsL p2
      have f3 := free_block (block_later hb1 p3)
      have c3 := cell_block (block_later hb1 p3)
      have P3 := Lib.hid p3
      clear p1 p2 p3 p4
      go_wp2_with fail
      (with_reducible refine (from_any _ _ _ _ _ (by omega) (by omega) (by omega) (by omega)).mono ?_)
      rintro e w2 ⟨rfl, hb2⟩
      have hB2 := below_step hb1 hb2
      clear f3 c3
      have p3 := block_later hB2 P3.out
      go_wp2_with fail
      refine calls_named fun W3 hW3 => ?_
      have hB3 : Below W.heap.size W W3 := by rw [hW3]; exact hB2.alloc hB2.size _
      have P3' : W3.heap[w.heap.size + 2]? = some (.cells #[.int .i64 0, .int .i64 0] 35) := by rw [hW3]; exact block_alloc p3
      clear hW3 p3
      (with_reducible refine (dot_any _ _ _ _ _ (by omega) (by omega) (by omega) (by omega) (by omega) (by omega)).mono ?_)
      rintro e w4 ⟨rfl, hb4⟩
      have hB4 := below_step hB3 hb4
      have p4 := block_later hb4 P3'
      clear P3' hb4 hB3
      go_wp2_with fail
      (with_reducible refine (root_any _ _ (by omega) (by omega)).mono ?_)
      rintro e w5 ⟨rfl, rfl⟩
      have e1 := HL.out
      have e2 := HH.out
      have z1 := isq_nn ((bx - ax) * (bx - ax) + (by' - ay) * (by' - ay))
      have z2 := isq_le (n := (bx - ax) * (bx - ax) + (by' - ay) * (by' - ay)) (by omega)
      have z3 : isq ((bx - ax) * (bx - ax) + (by' - ay) * (by' - ay)) ≤ 3000000 := by
        rcases Int.lt_or_le 3000000 (isq ((bx - ax) * (bx - ax) + (by' - ay) * (by' - ay))) with h' | h'
        · have := Int.mul_le_mul (Int.le_of_lt h') (Int.le_of_lt h') (by omega) (by omega)
          omega
        · exact h'
      have z5 : (bx - ax) * (bx - ax) + (by' - ay) * (by' - ay) ≤ 8000000000000 := by omega
      rw [dHi] at e2
      unfold sqd at e1 e2
      generalize isq ((bx - ax) * (bx - ax) + (by' - ay) * (by' - ay)) = r at *
      generalize (bx - ax) * (bx - ax) + (by' - ay) * (by' - ay) = n at *
      have f4 := free_block p4
      have c4 := cell_block p4
      have z4 := sq_nn r
      have z6 : r * r ≤ 8000000000000 := by omega
      subst e1
      have B4 := below_step hB hB4
      by_cases t : r * r = n
      · rw [if_pos t] at e2
        subst e2
        have t' : (r * r == n) = true := by simp [t]
        clear t HL HH
        go_wp2_with fail
        have c9 := cell_block (block_set (i := 1) (block_set (i := 0) p4 (.int .i64 r)) (.int .i64 r))
        exact bodyPost_ret (v := .tuple #[.agg #[.int .i64 r, .int .i64 r], .int .i64 0]) (by simp [results, Try.results16, go_sem, c9]) rfl ⟨rfl, (B4.setCell (by dsimp only; omega) _).setCell (by dsimp only; omega) _⟩
      · rw [if_neg t] at e2
        subst e2
        have t' : (r * r == n) = false := by simp [t]
        clear t HL HH
        go_wp2_with fail
        have c9 := cell_block (block_set (i := 1) (block_set (i := 0) p4 (.int .i64 r)) (.int .i64 (r + 1)))
        exact bodyPost_ret (v := .tuple #[.agg #[.int .i64 r, .int .i64 (r + 1)], .int .i64 0]) (by simp [results, Try.results16, go_sem, c9]) rfl ⟨rfl, (B4.setCell (by dsimp only; omega) _).setCell (by dsimp only; omega) _⟩
  · have hx' : (ax == bx) = false := by simp [hx]
    clear hx
    go_enter Try.func16, Try.ntmps16
    go_wp2_with fail
    refine calls_named fun W hW => ?_
    obtain ⟨p1, p2, p3, p4, hB⟩ := box4 hW
    clear hW
    (with_reducible refine (valids2_yes _ _ _ _ _ _ _ p4 ⟨HA.out, HB.out⟩).mono ?_)
    rintro e w1 ⟨rfl, hb1⟩
    have q1 := cellsL p1
    have q2 := cellsL p2
    have f3 := free_block (block_later hb1 p3)
    have c3 := cell_block (block_later hb1 p3)
    have P3 := Lib.hid p3
    clear p1 p2 p3 p4
    go_wp2_with fail
    (with_reducible refine (from_any _ _ _ _ _ (by omega) (by omega) (by omega) (by omega)).mono ?_)
    rintro e w2 ⟨rfl, hb2⟩
    have hB2 := below_step hb1 hb2
    clear f3 c3
    have p3 := block_later hB2 P3.out
    go_wp2_with fail
    refine calls_named fun W3 hW3 => ?_
    have hB3 : Below W.heap.size W W3 := by rw [hW3]; exact hB2.alloc hB2.size _
    have P3' : W3.heap[w.heap.size + 2]? = some (.cells #[.int .i64 0, .int .i64 0] 35) := by rw [hW3]; exact block_alloc p3
    clear hW3 p3
    (with_reducible refine (dot_any _ _ _ _ _ (by omega) (by omega) (by omega) (by omega) (by omega) (by omega)).mono ?_)
    rintro e w4 ⟨rfl, hb4⟩
    have hB4 := below_step hB3 hb4
    have p4 := block_later hb4 P3'
    clear P3' hb4 hB3
    go_wp2_with fail
    (with_reducible refine (root_any _ _ (by omega) (by omega)).mono ?_)
    rintro e w5 ⟨rfl, rfl⟩
    have e1 := HL.out
    have e2 := HH.out
    have z1 := isq_nn ((bx - ax) * (bx - ax) + (by' - ay) * (by' - ay))
    have z2 := isq_le (n := (bx - ax) * (bx - ax) + (by' - ay) * (by' - ay)) (by omega)
    have z3 : isq ((bx - ax) * (bx - ax) + (by' - ay) * (by' - ay)) ≤ 3000000 := by
      rcases Int.lt_or_le 3000000 (isq ((bx - ax) * (bx - ax) + (by' - ay) * (by' - ay))) with h' | h'
      · have := Int.mul_le_mul (Int.le_of_lt h') (Int.le_of_lt h') (by omega) (by omega)
        omega
      · exact h'
    have z5 : (bx - ax) * (bx - ax) + (by' - ay) * (by' - ay) ≤ 8000000000000 := by omega
    rw [dHi] at e2
    unfold sqd at e1 e2
    generalize isq ((bx - ax) * (bx - ax) + (by' - ay) * (by' - ay)) = r at *
    generalize (bx - ax) * (bx - ax) + (by' - ay) * (by' - ay) = n at *
    have f4 := free_block p4
    have c4 := cell_block p4
    have z4 := sq_nn r
    have z6 : r * r ≤ 8000000000000 := by omega
    subst e1
    have B4 := below_step hB hB4
    by_cases t : r * r = n
    · rw [if_pos t] at e2
      subst e2
      have t' : (r * r == n) = true := by simp [t]
      clear t HL HH
      go_wp2_with fail
      have c9 := cell_block (block_set (i := 1) (block_set (i := 0) p4 (.int .i64 r)) (.int .i64 r))
      exact bodyPost_ret (v := .tuple #[.agg #[.int .i64 r, .int .i64 r], .int .i64 0]) (by simp [results, Try.results16, go_sem, c9]) rfl ⟨rfl, (B4.setCell (by dsimp only; omega) _).setCell (by dsimp only; omega) _⟩
    · rw [if_neg t] at e2
      subst e2
      have t' : (r * r == n) = false := by simp [t]
      clear t HL HH
      go_wp2_with fail
      have c9 := cell_block (block_set (i := 1) (block_set (i := 0) p4 (.int .i64 r)) (.int .i64 (r + 1)))
      exact bodyPost_ret (v := .tuple #[.agg #[.int .i64 r, .int .i64 (r + 1)], .int .i64 0]) (by simp [results, Try.results16, go_sem, c9]) rfl ⟨rfl, (B4.setCell (by dsimp only; omega) _).setCell (by dsimp only; omega) _⟩
theorem Dist_no (ax ay bx by' : Int) (w : World) (hv : ¬ (Vld ax ay ∧ Vld bx by')) :
    Calls Try.prog 16 #[.agg #[.int .i64 ax, .int .i64 ay], .agg #[.int .i64 bx, .int .i64 by']] w fun e w' => e = .returned (.tuple #[.agg #[.int .i64 0, .int .i64 0], .int .i64 1]) ∧ Below w.heap.size w w' := by
  go_enter Try.func16, Try.ntmps16
  go_wp2_with fail
  refine calls_named fun W hW => ?_
  obtain ⟨p1, p2, p3, p4, hB⟩ := box4 hW
  clear hW
  (with_reducible refine (valids2_no _ _ _ _ _ _ _ p4 hv).mono ?_)
  rintro e w1 ⟨rfl, hb1⟩
  have f3 := free_block (block_later hb1 p3)
  have c3 := cell_block (block_later hb1 p3)
  have P3 := Lib.hid (block_later hb1 p3)
  clear p1 p2 p3 p4
  go_wp2_with fail
  have c9 := cell_block (block_set (i := 1) (block_set (i := 0) P3.out (.int .i64 0)) (.int .i64 0))
  exact bodyPost_ret (v := .tuple #[.agg #[.int .i64 0, .int .i64 0], .int .i64 1]) (by simp [results, Try.results16, go_sem, c9]) rfl ⟨rfl, ((below_step hB hb1).setCell (by dsimp only; omega) _).setCell (by dsimp only; omega) _⟩
end Go.Proofs.Ytkpmiehggmeejaa
