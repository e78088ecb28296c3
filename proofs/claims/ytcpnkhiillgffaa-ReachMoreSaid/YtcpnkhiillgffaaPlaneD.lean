/- The walks of package plane's squares of distances, the comparison of products, nearness, and roots. -/
import Derived.Test.YtcpnkhiillgffaaPlaneB
namespace Go.Proofs.Ytcpnkhiillgffaa
open Go.RowKit
attribute [local go_sem] bqOp bqAll bqUpon
attribute [local irreducible] wpQuiet wpBQ
theorem most_any (a b c d : Int) (w : World) (ha : 0 ≤ a) (ha' : a ≤ 9000000000000000000) (hb : 0 ≤ b) (hb' : b ≤ 9000000000000000000) (hc : 0 ≤ c) (hc' : c ≤ 9000000000000000000) (hd : 0 ≤ d) (hd' : d ≤ 9000000000000000000) {v : Bool} (hv : decide (a * b ≤ c * d) = v) :
    Calls Try.prog 96 #[.int .i64 a, .int .i64 b, .int .i64 c, .int .i64 d] w fun e w' => e = .returned (.bool v) ∧ w = w' := by
  obtain ⟨a, rfl⟩ := Int.eq_ofNat_of_zero_le ha
  obtain ⟨b, rfl⟩ := Int.eq_ofNat_of_zero_le hb
  obtain ⟨c, rfl⟩ := Int.eq_ofNat_of_zero_le hc
  obtain ⟨d, rfl⟩ := Int.eq_ofNat_of_zero_le hd
  have key : (a * b / 18446744073709551616 < c * d / 18446744073709551616 ∨ (a * b / 18446744073709551616 = c * d / 18446744073709551616 ∧ a * b % 18446744073709551616 ≤ c * d % 18446744073709551616)) ↔ ((a : Int) * b ≤ c * d) := by
    rw [← Int.natCast_mul, ← Int.natCast_mul]; omega
  replace hv : decide (a * b / 18446744073709551616 < c * d / 18446744073709551616 ∨ (a * b / 18446744073709551616 = c * d / 18446744073709551616 ∧ a * b % 18446744073709551616 ≤ c * d % 18446744073709551616)) = v := by rw [← hv]; exact decide_eq_decide.2 key
  clear key
  have x1 := mul64_any a b (by omega) (by omega)
  have x2 := mul64_any c d (by omega) (by omega)
  generalize a * b / 18446744073709551616 = h at *
  generalize a * b % 18446744073709551616 = l at *
  generalize c * d / 18446744073709551616 = i at *
  generalize c * d % 18446744073709551616 = m at *
  have X1 := Lib.hid x1
  have X2 := Lib.hid x2
  have HV := Lib.hid hv
  clear x1 x2 hv
  have c1 : IntKind.u64.wrap (a : Int) = a := wrapN a (by omega)
  have c2 : IntKind.u64.wrap (b : Int) = b := wrapN b (by omega)
  have c3 : IntKind.u64.wrap (c : Int) = c := wrapN c (by omega)
  have c4 : IntKind.u64.wrap (d : Int) = d := wrapN d (by omega)
  go_enter Try.func96, Try.ntmps96
  go_wp2_with fail
  refine (X1.out _).mono ?_
  rintro e w1 ⟨rfl, rfl⟩
  go_wp2_with fail
  refine (X2.out _).mono ?_
  rintro e w1 ⟨rfl, rfl⟩
  by_cases t1 : (h : Int) < i
  · go_wp2
    go_returns
    exact ⟨ret_bool (by rw [← HV.out]; simp; omega), rfl⟩
  · by_cases t2 : (h : Int) = i
    · have t3 : ((h : Int) == i) = true := by simp [t2]
      have T2 := Lib.hid t2
      clear t2
      go_wp2
      go_returns
      refine ⟨ret_bool ?_, rfl⟩
      rw [← HV.out]
      have := T2.out
      rw [Bool.eq_iff_iff]
      simp
      omega
    · have t3 : ((h : Int) == i) = false := by simp [t2]
      go_wp2
      go_returns
      exact ⟨ret_bool (by rw [← HV.out]; exact decide_eq_decide.2 ⟨fun x => .inl x, fun x => x.elim id (fun y => absurd (congrArg Int.ofNat y.1) t2)⟩), rfl⟩
theorem ret_tup3 {j k l : IntKind} {a b c a' b' c' : Int} (h1 : a = a') (h2 : b = b') (h3 : c = c') : Ending.returned (.tuple #[.int j a, .int k b, .int l c]) = Ending.returned (.tuple #[.int j a', .int k b', .int l c']) := by rw [h1, h2, h3]
theorem sqd_bd {ax ay bx by' : Int} (ha : Vld ax ay) (hb : Vld bx by') : (0 ≤ (bx - ax) * (bx - ax) ∧ (bx - ax) * (bx - ax) ≤ 4000000000000) ∧ (0 ≤ (by' - ay) * (by' - ay) ∧ (by' - ay) * (by' - ay) ≤ 4000000000000) := by
  obtain ⟨a1, a2, a3, a4⟩ := ha
  obtain ⟨b1, b2, b3, b4⟩ := hb
  have m1 := mul_bd (a := bx - ax) (b := bx - ax) (A := 2000000) (B := 2000000) (by omega) (by omega) (by omega) (by omega)
  have m2 := mul_bd (a := by' - ay) (b := by' - ay) (A := 2000000) (B := 2000000) (by omega) (by omega) (by omega) (by omega)
  exact ⟨⟨sq_nn _, by omega⟩, sq_nn _, by omega⟩
theorem foot_bd {px py ax ay bx by' : Int} (hp : Vld px py) (ha : Vld ax ay) (hb : Vld bx by') : (-4000000000000 ≤ (bx - ax) * (px - ax) ∧ (bx - ax) * (px - ax) ≤ 4000000000000) ∧ (-4000000000000 ≤ (by' - ay) * (py - ay) ∧ (by' - ay) * (py - ay) ≤ 4000000000000) := by
  obtain ⟨a1, a2, a3, a4⟩ := ha
  obtain ⟨b1, b2, b3, b4⟩ := hb
  obtain ⟨c1, c2, c3, c4⟩ := hp
  exact ⟨mul_bd (A := 2000000) (B := 2000000) (by omega) (by omega) (by omega) (by omega), mul_bd (A := 2000000) (B := 2000000) (by omega) (by omega) (by omega) (by omega)⟩
set_option maxHeartbeats 1000000 in
theorem square_any (px py ax ay bx by' : Int) (w : World) (hp : Vld px py) (ha : Vld ax ay) (hb : Vld bx by') {n k d : Int} (hn : sqNum px py ax ay bx by' = n) (hk : sqFac px py ax ay bx by' = k) (hd : sqDen px py ax ay bx by' = d) :
    Calls Try.prog 95 #[.agg #[.int .i64 px, .int .i64 py], .agg #[.int .i64 ax, .int .i64 ay], .agg #[.int .i64 bx, .int .i64 by']] w fun e w' => e = .returned (.tuple #[.int .i64 n, .int .i64 k, .int .i64 d]) ∧ Below w.heap.size w w' := by
  obtain ⟨⟨m1, m2⟩, m3, m4⟩ := crs_bd ha hb hp
  obtain ⟨⟨m5, m6⟩, m7, m8⟩ := sqd_bd ha hb
  obtain ⟨⟨m9, m10⟩, m11, m12⟩ := foot_bd hp ha hb
  obtain ⟨⟨m13, m14⟩, m15, m16⟩ := sqd_bd ha hp
  obtain ⟨⟨m17, m18⟩, m19, m20⟩ := sqd_bd hb hp
  obtain ⟨a1, a2, a3, a4⟩ := ha
  obtain ⟨b1, b2, b3, b4⟩ := hb
  obtain ⟨c1, c2, c3, c4⟩ := hp
  have HN := Lib.hid hn
  have HK := Lib.hid hk
  have HD := Lib.hid hd
  clear hn hk hd
  go_enter Try.func95, Try.ntmps95
  go_wp2_with fail
  refine wp_named fun W hW => ?_
  obtain ⟨p1, p2, p3, hB⟩ := box3 hW
  clear hW
  have q1 := cellsR p1
  have q2 := cellsR p2
  have q3 := cellsR p3
  have P1 := Lib.hid p1
  have P2 := Lib.hid p2
  have P3 := Lib.hid p3
  clear p1 p2 p3
  refine wp_region_tail 6 8 53 (fun _ => .cells #[.int .i64 0, .int .i64 0] 132) (by kernel_rfl) (by omega) (by kernel_rfl) (by kernel_rfl) (fun j o h1 h2 h3 ρ w => ?_) (by rfl) ?_
  · obtain rfl | rfl : j = 6 ∨ j = 7 := by omega
    all_goals (simp only [List.getElem?_cons_succ, List.getElem?_cons_zero, Option.some.injEq] at h3; subst h3; clear q1 q2 q3; unfold ptr; go_simp)
  simp only [List.take_succ_cons, List.take_zero, List.drop_succ_cons, List.drop_zero]
  (repeat (refine wpBQ_step (fun K hK => ?_); replace hK := Lib.hid hK; go_simp; first | (refine hK.out _ ?_; clear hK K) | (apply Exists.intro; refine ⟨fun _ => ?_, hK.out _ ?_⟩; (first | (go_at_call 103; exact from_any _ _ _ _ _ (by omega) (by omega) (by omega) (by omega))); clear hK K)))
  refine wpBQ_nil ?_
  intro b9 b10 W2 hW2 hob hne
  have o9 : W.heap.size ≤ b9 ∧ W2.heap[b9]? = some (.cells #[.int .i64 0, .int .i64 0] 132) := hob 6 (by omega) (by omega)
  have o10 : W.heap.size ≤ b10 ∧ W2.heap[b10]? = some (.cells #[.int .i64 0, .int .i64 0] 132) := hob 7 (by omega) (by omega)
  have n1 : b9 ≠ b10 := hne 6 7 (by omega) (by omega) (by omega) (by omega) (by omega)
  have n2 : b10 ≠ b9 := Ne.symm n1
  clear hob hne q1 q2 q3
  have l9 := o9.1
  have l10 := o10.1
  have c9 := cell_block o9.2
  have c10 := cell_block o10.2
  have f9 := free_block o9.2
  have f10 := free_block o10.2
  have O9 := Lib.hid o9.2
  have O10 := Lib.hid o10.2
  clear o9 o10
  simp only [ptr]
  go_wp2_with fail
  refine wp_named fun W3 hW3 => ?_
  have hB3 : Below w.heap.size w W3 := by rw [hW3]; exact (((((below_step hB hW2).setCell (Nat.le_trans hB.size l9) _).setCell (Nat.le_trans hB.size l9) _).setCell (Nat.le_trans hB.size l10) _).setCell (Nat.le_trans hB.size l10) _)
  have hWB : Below W.heap.size W W3 := by rw [hW3]; exact ((((hW2.setCell l9 _).setCell l9 _).setCell l10 _).setCell l10 _)
  have p9 : W3.heap[b9]? = some (.cells #[.int .i64 (bx - ax), .int .i64 (by' - ay)] 132) := by rw [hW3]; exact block_far (block_far (block_set (block_set O9.out _) _) n1 _) n1 _
  have p10 : W3.heap[b10]? = some (.cells #[.int .i64 (px - ax), .int .i64 (py - ay)] 132) := by rw [hW3]; exact block_set (block_set (block_far (block_far O10.out n2 _) n2 _) _) _
  have p1 := block_later hWB P1.out
  have p2 := block_later hWB P2.out
  have p3 := block_later hWB P3.out
  clear hW3 c9 c10 f9 f10 O9 O10 hW2 P1 P2 P3 n1 n2 l9 l10 hWB hB
  have q9 := cellsR p9
  have q10 := cellsR p10
  (refine wp_region_quiet_below (by kernel_rfl) (by kernel_rfl) ?_; (repeat (refine wpQuiet_step (fun K hK => ?_); replace hK := Lib.hid hK; go_simp; first | (refine hK.out _ ?_; clear hK K) | (apply Exists.intro; refine ⟨fun _ => ?_, hK.out _ ?_⟩; (first | (go_at_call 105; exact Calls.regrown_of (dot_any _ _ _ _ _ (by omega) (by omega) (by omega) (by omega) (by omega) (by omega)))); clear hK K))); refine wpQuiet_nil ?_)
  intro W4 hW4
  have hB4 := regrown_below hW4
  have hB5 := below_step hB3 hB4
  clear hW4 q9 q10
  have q9 := cellsL p9
  have q10 := cellsL p10
  have q1 := cellsL p1
  have q2 := cellsL p2
  have q3 := cellsL p3
  clear p9 p10 p1 p2 p3
  by_cases t1 : foot px py ax ay bx by' ≤ 0
  · have e1 := HN.out; have e2 := HK.out; have e3 := HD.out
    rw [sqNum, if_pos t1] at e1
    rw [sqFac, if_pos t1] at e2
    rw [sqDen, if_pos t1] at e3
    subst e1 e2 e3
    unfold foot at t1
    clear HN HK HD
    go_wp2_with fail
    (with_reducible refine (dot_any _ _ _ _ _ (by omega) (by omega) (by omega) (by omega) (by omega) (by omega)).mono ?_)
    rintro e w5 ⟨rfl, hb5⟩
    have hB6 := below_step hB5 hb5
    go_wp2_with fail
    go_returns
    exact ⟨rfl, hB6⟩
  · by_cases t2 : sqd ax ay bx by' ≤ foot px py ax ay bx by'
    · have e1 := HN.out; have e2 := HK.out; have e3 := HD.out
      rw [sqNum, if_neg t1, if_pos t2] at e1
      rw [sqFac, if_neg t1, if_pos t2] at e2
      rw [sqDen, if_neg t1, if_pos t2] at e3
      subst e1 e2 e3
      unfold foot at t1 t2
      unfold sqd at t2
      clear HN HK HD
      go_wp2_with fail
      (with_reducible refine (from_any _ _ _ _ _ (by omega) (by omega) (by omega) (by omega)).mono ?_)
      rintro e w5 ⟨rfl, hb5⟩
      have hB6 := below_step hB5 hb5
      go_wp2_with fail
      refine calls_named fun W7 hW7 => ?_
      have hB7 : Below w.heap.size w W7 := by rw [hW7]; exact hB6.alloc hB6.size _
      (with_reducible refine (dot_any _ _ _ _ _ (by omega) (by omega) (by omega) (by omega) (by omega) (by omega)).mono ?_)
      rintro e w6 ⟨rfl, hb6⟩
      go_wp2_with fail
      go_returns
      exact ⟨rfl, below_step hB7 hb6⟩
    · have e1 := HN.out; have e2 := HK.out; have e3 := HD.out
      rw [sqNum, if_neg t1, if_neg t2] at e1
      rw [sqFac, if_neg t1, if_neg t2] at e2
      rw [sqDen, if_neg t1, if_neg t2] at e3
      subst e1 e2 e3
      unfold foot at t1 t2
      unfold sqd at t2
      clear HN HK HD
      go_wp2_with fail
      (with_reducible refine (cross_any _ _ _ _ _ (by omega) (by omega) (by omega) (by omega) (by omega) (by omega)).mono ?_)
      rintro e w5 ⟨rfl, hb5⟩
      have hB6 := below_step hB5 hb5
      go_wp2_with fail
      all_goals
        go_returns
        exact ⟨ret_tup3 (by unfold crs; omega) (by unfold crs; omega) rfl, hB6⟩
theorem sq_bds {px py ax ay bx by' : Int} (hp : Vld px py) (ha : Vld ax ay) (hb : Vld bx by') : (0 ≤ sqNum px py ax ay bx by' ∧ sqNum px py ax ay bx by' ≤ 8000000000000) ∧ (0 ≤ sqFac px py ax ay bx by' ∧ sqFac px py ax ay bx by' ≤ 8000000000000) ∧ (1 ≤ sqDen px py ax ay bx by' ∧ sqDen px py ax ay bx by' ≤ 8000000000000) := by
  obtain ⟨⟨m1, m2⟩, m3, m4⟩ := crs_bd ha hb hp
  obtain ⟨⟨m5, m6⟩, m7, m8⟩ := sqd_bd ha hb
  obtain ⟨⟨m9, m10⟩, m11, m12⟩ := foot_bd hp ha hb
  obtain ⟨⟨m13, m14⟩, m15, m16⟩ := sqd_bd ha hp
  obtain ⟨⟨m17, m18⟩, m19, m20⟩ := sqd_bd hb hp
  unfold sqNum sqFac sqDen foot sqd crs
  by_cases t1 : (bx - ax) * (px - ax) + (by' - ay) * (py - ay) ≤ 0
  · simp only [t1, if_true]; omega
  · by_cases t2 : (bx - ax) * (bx - ax) + (by' - ay) * (by' - ay) ≤ (bx - ax) * (px - ax) + (by' - ay) * (py - ay)
    · simp only [t1, t2, if_true, if_false]; omega
    · simp only [t1, t2, if_false]; omega
theorem near_any (px py ax ay bx by' r : Int) (w : World) (hp : Vld px py) (ha : Vld ax ay) (hb : Vld bx by') (h1 : 0 ≤ r) (h2 : r ≤ 3000000) {v : Bool} (hv : nearB px py ax ay bx by' r = v) :
    Calls Try.prog 78 #[.agg #[.int .i64 px, .int .i64 py], .agg #[.int .i64 ax, .int .i64 ay], .agg #[.int .i64 bx, .int .i64 by'], .int .i64 r] w fun e w' => e = .returned (.bool v) ∧ Below w.heap.size w w' := by
  obtain ⟨⟨n1, n2⟩, ⟨k1, k2⟩, d1, d2⟩ := sq_bds hp ha hb
  obtain ⟨n, hn⟩ : ∃ n, sqNum px py ax ay bx by' = n := ⟨_, rfl⟩
  obtain ⟨k, hk⟩ : ∃ n, sqFac px py ax ay bx by' = n := ⟨_, rfl⟩
  obtain ⟨d, hd⟩ : ∃ n, sqDen px py ax ay bx by' = n := ⟨_, rfl⟩
  rw [nearB, hn, hk, hd] at hv
  rw [hn] at n1 n2
  rw [hk] at k1 k2
  rw [hd] at d1 d2
  obtain ⟨r1, r2⟩ := mul_bd (a := r) (b := r) (A := 3000000) (B := 3000000) (by omega) (by omega) (by omega) (by omega)
  have r3 := sq_nn r
  have hsq := fun w => square_any px py ax ay bx by' w hp ha hb hn hk hd
  have HSQ := Lib.hid hsq
  have HV := Lib.hid hv
  clear hn hk hd hv hsq
  go_enter Try.func78, Try.ntmps78
  go_wp2_with fail
  refine calls_named fun W hW => ?_
  obtain ⟨p1, p2, p3, hB⟩ := box3 hW
  clear hW p1 p2 p3
  (with_reducible refine (HSQ.out _).mono ?_)
  rintro e w1 ⟨rfl, hb1⟩
  have hB1 := below_step hB hb1
  go_wp2_with fail
  (with_reducible refine (most_any _ _ _ _ _ (by omega) (by omega) (by omega) (by omega) (by omega) (by omega) (by omega) (by omega) HV.out).mono ?_)
  rintro e w2 ⟨rfl, rfl⟩
  go_wp2_with fail
  go_returns
  exact ⟨rfl, hB1⟩
end Go.Proofs.Ytcpnkhiillgffaa
