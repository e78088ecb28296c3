import Derived.Test.YtdmegkkifiahdaaGreatKA
import Derived.Outline
import Derived.Test.YtdmegkkifiahdaaGreatKB
namespace Go.Proofs.YtdmegkkifiahdaaGreat
open Go.RowKit
attribute [local go_sem] bqOp bqAll bqUpon
attribute [local irreducible] wpQuiet wpBQ
theorem rMinus_any (bx by' ax ay : Int) (w : World) (h1 : -4000000 ≤ bx - ax) (h2 : bx - ax ≤ 4000000) (h3 : -4000000 ≤ by' - ay) (h4 : by' - ay ≤ 4000000) :
  Calls Tryz.prog 365 #[.agg #[.int .i64 bx, .int .i64 by'], .agg #[.int .i64 ax, .int .i64 ay]] w fun e w' => e = .returned (.agg #[.int .i64 (bx - ax), .int .i64 (by' - ay)]) ∧ Below w.heap.size w w' := by
 go_enter Tryz.func365, Tryz.ntmps365
 go_wp2
 go_returns
 exact ⟨rfl, by go_grown⟩
theorem rCross_any (ax ay bx by' : Int) (w : World) (h1 : -9000000000000000000 ≤ ax * by') (h1' : ax * by' ≤ 9000000000000000000) (h2 : -9000000000000000000 ≤ ay * bx) (h2' : ay * bx ≤ 9000000000000000000)
  (h3 : -9000000000000000000 ≤ ax * by' - ay * bx) (h3' : ax * by' - ay * bx ≤ 9000000000000000000) :
   Calls Tryz.prog 378 #[.agg #[.int .i64 ax, .int .i64 ay], .agg #[.int .i64 bx, .int .i64 by']] w fun e w' => e = .returned (.int .i64 (ax * by' - ay * bx)) ∧ Below w.heap.size w w' := by
 go_enter Tryz.func378, Tryz.ntmps378
 go_wp2
 go_returns
 exact ⟨rfl, by go_grown⟩
theorem rSign_any (x : Int) (w : World) {s : Int} (hs : x.sign = s) :
  Calls Tryz.prog 377 #[.int .i64 x] w fun e w' => e = .returned (.int .i64 s) ∧ Below w.heap.size w w' := by
 subst hs
 go_enter Tryz.func377, Tryz.ntmps377
 go_wp2
 · go_returns
   exact ⟨ret_int (Int.sign_eq_one_of_pos (by assumption)).symm, by go_grown⟩
 · go_returns
   exact ⟨ret_int (Int.sign_eq_neg_one_of_neg (by assumption)).symm, by go_grown⟩
 · go_returns
   exact ⟨ret_int (by rw [show x = 0 by omega]; rfl), by go_grown⟩
theorem rValid_yes (x y : Int) (w : World) (h : Vld x y) : Calls Tryz.prog 76 #[.agg #[.int .i64 x, .int .i64 y]] w fun e w' => e = .returned (.bool true) ∧ Below w.heap.size w w' := by
 obtain ⟨h1, h2, h3, h4⟩ := h
 go_enter Tryz.func76, Tryz.ntmps76
 go_wp2
 all_goals (go_returns; exact ⟨ret_bool (by simp <;> omega), by go_grown⟩)
theorem rValid_no (x y : Int) (w : World) (h : ¬ Vld x y) : Calls Tryz.prog 76 #[.agg #[.int .i64 x, .int .i64 y]] w fun e w' => e = .returned (.bool false) ∧ Below w.heap.size w w' := by
 have h' : -1000000 ≤ x → x ≤ 1000000 → -1000000 ≤ y → ¬ y ≤ 1000000 := fun h1 h2 h3 h4 => h ⟨h1, h2, h3, h4⟩
 have H := Lib.hid h'
 clear h h'
 go_enter Tryz.func76, Tryz.ntmps76
 go_wp2
 all_goals (go_returns; exact ⟨ret_bool (by have := H.out; simp <;> omega), by go_grown⟩)
end Go.Proofs.YtdmegkkifiahdaaGreat
namespace Go.Proofs.YtdmegkkifiahdaaGreat
open Go.RowKit
attribute [local go_sem] bqOp bqAll bqUpon
attribute [local irreducible] wpQuiet wpBQ
theorem rLie_any (px py ax ay bx by' : Int) (w : World) (hp : Vld px py) (ha : Vld ax ay) (hb : Vld bx by') {v : Bool} (hv : onB px py ax ay bx by' = v) :
  Calls Tryz.prog 369 #[.agg #[.int .i64 px, .int .i64 py], .agg #[.int .i64 ax, .int .i64 ay], .agg #[.int .i64 bx, .int .i64 by']] w fun e w' => e = .returned (.bool v) ∧ Below w.heap.size w w' := by
 obtain ⟨⟨m1, m2⟩, m3, m4⟩ := crs_bd ha hb hp
 obtain ⟨a1, a2, a3, a4⟩ := ha
 obtain ⟨b1, b2, b3, b4⟩ := hb
 obtain ⟨c1, c2, c3, c4⟩ := hp
 have HV : Hid (∀ u : Bool, (u = true ↔ OnS px py ax ay bx by') → u = v) := Lib.hid (fun u hu => by
  rw [← hv, onB]
  by_cases h : OnS px py ax ay bx by'
  · simp [h, hu]
  · simp [h]; cases u <;> simp_all)
 clear hv
 go_enter Tryz.func369, Tryz.ntmps369
 go_wp2_with fail
 refine wp_named fun W hW => ?_
 obtain ⟨p1, p2, p3, hB⟩ := box3 hW
 clear hW
 have q1 := cellsR p1
 have q2 := cellsR p2
 have q3 := cellsR p3
 (refine wp_region_quiet_below (by kernel_rfl) (by kernel_rfl) ?_; (repeat (refine wpQuiet_step (fun K hK => ?_); replace hK := Lib.hid hK; go_simp; first | (refine hK.out _ ?_; clear hK K) | (apply Exists.intro; refine ⟨fun _ => ?_, hK.out _ ?_⟩; (first | (go_at_call 365; exact Calls.regrown_of (rMinus_any _ _ _ _ _ (by omega) (by omega) (by omega) (by omega))) | (go_at_call 378; exact Calls.regrown_of (rCross_any _ _ _ _ _ (by omega) (by omega) (by omega) (by omega) (by omega) (by omega)))); clear hK K))); refine wpQuiet_nil ?_)
 intro W1 hW1
 have hB1 := regrown_below hW1
 clear hW1 q1 q2 q3
 have q1 := cellsL p1
 have q2 := cellsL p2
 have q3 := cellsL p3
 clear p1 p2 p3 m1 m2 m3 m4 a1 a2 a3 a4 b1 b2 b3 b4 c1 c2 c3 c4
 by_cases t : (bx - ax) * (py - ay) - (by' - ay) * (px - ax) = 0
 · have t' : ((bx - ax) * (py - ay) - (by' - ay) * (px - ax) != 0) = false := by simp [t]
   have T := Lib.hid t
   clear t
   go_wp2_with fail
   all_goals (go_returns; exact ⟨ret_bool (HV.out _ ⟨fun h => ⟨T.out, by simp at h <;> omega⟩, fun h => by have := h.2; simp <;> omega⟩), below_step hB hB1⟩)
 · have t' : ((bx - ax) * (py - ay) - (by' - ay) * (px - ax) != 0) = true := by simp [t]
   have T := Lib.hid t
   clear t
   go_wp2_with fail
   go_returns
   exact ⟨ret_bool (HV.out _ ⟨fun h => by simp at h, fun h => absurd h.1 T.out⟩), below_step hB hB1⟩
set_option maxHeartbeats 4000000 in
theorem rCrosses_any (ax ay bx by' cx cy dx dy : Int) (w : World) (ha : Vld ax ay) (hb : Vld bx by') (hc : Vld cx cy) (hd : Vld dx dy) {v : Bool} (hv : meetB ax ay bx by' cx cy dx dy = v) :
  Calls Tryz.prog 379 #[.agg #[.int .i64 ax, .int .i64 ay], .agg #[.int .i64 bx, .int .i64 by'], .agg #[.int .i64 cx, .int .i64 cy], .agg #[.int .i64 dx, .int .i64 dy]] w fun e w' => e = .returned (.bool v) ∧ Below w.heap.size w w' := by
 obtain ⟨s1, h1⟩ : ∃ s, (crs ax ay bx by' cx cy).sign = s := ⟨_, rfl⟩
 obtain ⟨s2, h2⟩ : ∃ s, (crs ax ay bx by' dx dy).sign = s := ⟨_, rfl⟩
 obtain ⟨s3, h3⟩ : ∃ s, (crs cx cy dx dy ax ay).sign = s := ⟨_, rfl⟩
 obtain ⟨s4, h4⟩ : ∃ s, (crs cx cy dx dy bx by').sign = s := ⟨_, rfl⟩
 obtain ⟨v1, g1⟩ : ∃ s, onB ax ay cx cy dx dy = s := ⟨_, rfl⟩
 obtain ⟨v2, g2⟩ : ∃ s, onB bx by' cx cy dx dy = s := ⟨_, rfl⟩
 obtain ⟨v3, g3⟩ : ∃ s, onB cx cy ax ay bx by' = s := ⟨_, rfl⟩
 obtain ⟨v4, g4⟩ : ∃ s, onB dx dy ax ay bx by' = s := ⟨_, rfl⟩
 have hv' : (decide (s1 * s2 < 0 ∧ s3 * s4 < 0) || (v1 || (v2 || (v3 || v4)))) = v := by rw [← hv, meetB, crossB, h1, h2, h3, h4, g1, g2, g3, g4]
 have b1 := h1 ▸ sign_bd (crs ax ay bx by' cx cy)
 have b2 := h2 ▸ sign_bd (crs ax ay bx by' dx dy)
 have b3 := h3 ▸ sign_bd (crs cx cy dx dy ax ay)
 have b4 := h4 ▸ sign_bd (crs cx cy dx dy bx by')
 obtain ⟨m1, m2⟩ := mul_bd (a := s1) (b := s2) (A := 1) (B := 1) (by omega) (by omega) (by omega) (by omega)
 obtain ⟨m3, m4⟩ := mul_bd (a := s3) (b := s4) (A := 1) (B := 1) (by omega) (by omega) (by omega) (by omega)
 obtain ⟨⟨c1, c2⟩, c3, c4⟩ := crs_bd ha hb hc
 obtain ⟨⟨c5, c6⟩, c7, c8⟩ := crs_bd ha hb hd
 obtain ⟨⟨c9, c10⟩, c11, c12⟩ := crs_bd hc hd ha
 obtain ⟨⟨c13, c14⟩, c15, c16⟩ := crs_bd hc hd hb
 have ha' := ha
 have hb' := hb
 have hc' := hc
 have hd' := hd
 obtain ⟨a1, a2, a3, a4⟩ := ha'
 obtain ⟨e1, e2, e3, e4⟩ := hb'
 obtain ⟨f1, f2, f3, f4⟩ := hc'
 obtain ⟨i1, i2, i3, i4⟩ := hd'
 unfold crs at h1 h2 h3 h4
 clear hv b1 b2 b3 b4
 have w1 : IntKind.i64.wrap (s1 * s2) = s1 * s2 := IntWalk.i64_in _ (by omega)
 have w2 : IntKind.i64.wrap (s3 * s4) = s3 * s4 := IntWalk.i64_in _ (by omega)
 have HV := Lib.hid hv'
 clear hv'
 go_enter Tryz.func379, Tryz.ntmps379
 go_wp2_with fail
 refine calls_named fun W hW => ?_
 obtain ⟨p1, p2, p3, p4, hB⟩ := box4 hW
 clear hW
 have q1 := cellsL p1
 have q2 := cellsL p2
 have q3 := cellsL p3
 have q4 := cellsL p4
 have Q1 := Lib.hid p1
 have Q2 := Lib.hid p2
 have Q3 := Lib.hid p3
 have Q4 := Lib.hid p4
 clear p1 p2 p3 p4
 have hB0 := Below.refl W.heap.size W
 go_wp2_with fail
 (with_reducible refine (rLie_any _ _ _ _ _ _ _ ha hc hd g1).mono ?_)
 rintro e w1 ⟨rfl, hb1⟩
 have hB1 := below_step hB0 hb1
 clear hb1
 cases v1 with
 | true =>
   go_wp2_with fail
   go_returns
   exact ⟨ret_bool (by rw [← HV.out]; simp), below_step hB hB1⟩
 | false =>
   go_wp2_with fail
   (with_reducible refine (rLie_any _ _ _ _ _ _ _ hb hc hd g2).mono ?_)
   rintro e w2 ⟨rfl, hb2⟩
   have hB2 := below_step hB1 hb2
   clear hb2
   cases v2 with
   | true =>
     go_wp2_with fail
     go_returns
     exact ⟨ret_bool (by rw [← HV.out]; simp), below_step hB hB2⟩
   | false =>
     go_wp2_with fail
     (with_reducible refine (rLie_any _ _ _ _ _ _ _ hc ha hb g3).mono ?_)
     rintro e w3 ⟨rfl, hb3⟩
     have hB3 := below_step hB2 hb3
     clear hb3
     cases v3 with
     | true =>
       go_wp2_with fail
       go_returns
       exact ⟨ret_bool (by rw [← HV.out]; simp), below_step hB hB3⟩
     | false =>
       go_wp2_with fail
       (with_reducible refine (rLie_any _ _ _ _ _ _ _ hd ha hb g4).mono ?_)
       rintro e w4 ⟨rfl, hb4⟩
       have hB4 := below_step hB3 hb4
       clear hb4
       cases v4 with
       | true =>
         go_wp2_with fail
         go_returns
         exact ⟨ret_bool (by rw [← HV.out]; simp), below_step hB hB4⟩
       | false =>
         go_wp2_with fail
         have P1 := Lib.hid (block_later hB4 Q1.out)
         have P2 := Lib.hid (block_later hB4 Q2.out)
         have P3 := Lib.hid (block_later hB4 Q3.out)
         have P4 := Lib.hid (block_later hB4 Q4.out)
         clear q1 q2 q3 q4 Q1 Q2 Q3 Q4
         have q1 := cellsR P1.out
         have q2 := cellsR P2.out
         have q3 := cellsR P3.out
         have q4 := cellsR P4.out
         (refine wp_region_quiet_below (by kernel_rfl) (by kernel_rfl) ?_; (repeat (refine wpQuiet_step (fun K hK => ?_); replace hK := Lib.hid hK; go_simp; first | (refine hK.out _ ?_; clear hK K) | (apply Exists.intro; refine ⟨fun _ => ?_, hK.out _ ?_⟩; (first | (go_at_call 365; exact Calls.regrown_of (rMinus_any _ _ _ _ _ (by omega) (by omega) (by omega) (by omega))) | (go_at_call 378; exact Calls.regrown_of (rCross_any _ _ _ _ _ (by omega) (by omega) (by omega) (by omega) (by omega) (by omega))) | (go_at_call 377; first | exact Calls.regrown_of (rSign_any _ _ h1) | exact Calls.regrown_of (rSign_any _ _ h2) | exact Calls.regrown_of (rSign_any _ _ h3) | exact Calls.regrown_of (rSign_any _ _ h4))); clear hK K))); refine wpQuiet_nil ?_)
         intro W5 hW5
         have hB5 := regrown_below hW5
         clear hW5 q1 q2 q3 q4
         go_wp2_with fail
         have q1 := cellsR (block_later hB5 P1.out)
         have q2 := cellsR (block_later hB5 P2.out)
         have q3 := cellsR (block_later hB5 P3.out)
         have q4 := cellsR (block_later hB5 P4.out)
         (refine wp_region_quiet_below (by kernel_rfl) (by kernel_rfl) ?_; (repeat (refine wpQuiet_step (fun K hK => ?_); replace hK := Lib.hid hK; go_simp; first | (refine hK.out _ ?_; clear hK K) | (apply Exists.intro; refine ⟨fun _ => ?_, hK.out _ ?_⟩; (first | (go_at_call 365; exact Calls.regrown_of (rMinus_any _ _ _ _ _ (by omega) (by omega) (by omega) (by omega))) | (go_at_call 378; exact Calls.regrown_of (rCross_any _ _ _ _ _ (by omega) (by omega) (by omega) (by omega) (by omega) (by omega))) | (go_at_call 377; first | exact Calls.regrown_of (rSign_any _ _ h1) | exact Calls.regrown_of (rSign_any _ _ h2) | exact Calls.regrown_of (rSign_any _ _ h3) | exact Calls.regrown_of (rSign_any _ _ h4))); clear hK K))); refine wpQuiet_nil ?_)
         intro W6 hW6
         have hB6 := below_step hB4 (below_step hB5 (regrown_below hW6))
         clear hW6 q1 q2 q3 q4
         go_wp2_with fail
         all_goals
          go_returns
          exact ⟨ret_bool (by rw [← HV.out]; simp <;> omega), below_step hB hB6⟩
end Go.Proofs.YtdmegkkifiahdaaGreat
namespace Go.Proofs.YtdmegkkifiahdaaGreat
set_option linter.unusedVariables false
def alikeD (x y u v : Int) : Bool := decide (cprD x y u v = 0 ∧ 0 < x * u + y * v)
def hasQ (fx fy tx ty x y : Int) : Bool :=
 if alikeD fx fy tx ty = true ∨ alikeD fx fy x y = true then true
 else if alikeD tx ty x y = true then false
 else if 0 < cprD fx fy x y then decide (0 < cprD x y tx ty ∨ cprD fx fy tx ty ≤ 0)
 else decide (0 < cprD x y tx ty ∧ cprD fx fy tx ty < 0)
def Up (x y : Int) : Prop := 0 < y ∨ y = 0 ∧ 0 < x
instance (x y : Int) : Decidable (Up x y) := by unfold Up; exact inferInstance
theorem up_down {x y : Int} (h : ¬ (x = 0 ∧ y = 0)) (hu : ¬ Up x y) : Up (-x) (-y) := by unfold Up at *; omega
theorem cpr_neg_l (x y u v : Int) : cprD (-x) (-y) u v = -cprD x y u v := by unfold cprD; grind
theorem cpr_neg_r (x y u v : Int) : cprD x y (-u) (-v) = -cprD x y u v := by unfold cprD; grind
theorem cpr_swap (x y u v : Int) : cprD u v x y = -cprD x y u v := by unfold cprD; grind
theorem mul_zero_pos {a b : Int} (h : a * b ≤ 0) (ha : 0 ≤ a) (hb : 0 < b) : a = 0 := by
 rcases Int.lt_or_eq_of_le ha with h1 | h1
 · have := Int.mul_pos h1 hb
   omega
 · exact h1.symm
theorem up_trans {ax ay bx by' cx cy : Int} (ha : Up ax ay) (hb : Up bx by') (hc : Up cx cy) :
  (0 ≤ cprD ax ay bx by' → 0 ≤ cprD bx by' cx cy → 0 ≤ cprD ax ay cx cy) ∧ (0 ≤ cprD ax ay bx by' → 0 < cprD bx by' cx cy → 0 < cprD ax ay cx cy) ∧ (0 < cprD ax ay bx by' → 0 ≤ cprD bx by' cx cy → 0 < cprD ax ay cx cy) := by
 have hay : 0 ≤ ay := by unfold Up at ha; omega
 have hcy : 0 ≤ cy := by unfold Up at hc; omega
 have i1 : by' * cprD ax ay cx cy = cy * cprD ax ay bx by' + ay * cprD bx by' cx cy := by unfold cprD; grind
 rcases hb with hb | ⟨rfl, hb⟩
 · have key : 0 ≤ cprD ax ay bx by' → 0 ≤ cprD bx by' cx cy → (0 < cprD ax ay bx by' ∨ 0 < cprD bx by' cx cy) → 0 < cprD ax ay cx cy := by
    intro hP hQ hor
    refine Classical.byContradiction fun hR => ?_
    have h1 : by' * cprD ax ay cx cy ≤ 0 := Int.mul_nonpos_of_nonneg_of_nonpos (by omega) (by omega)
    have h2 := Int.mul_nonneg hcy hP
    have h3 := Int.mul_nonneg hay hQ
    have hq0 : cy = 0 → cprD bx by' cx cy < 0 := by
     intro e
     have hcx : 0 < cx := by unfold Up at hc; omega
     have := Int.mul_pos hb hcx
     unfold cprD
     rw [e]
     omega
    have hp0 : ay = 0 → 0 < cprD ax ay bx by' := by
     intro e
     have hax : 0 < ax := by unfold Up at ha; omega
     have := Int.mul_pos hax hb
     unfold cprD
     rw [e]
     omega
    have hcz : 0 < cprD ax ay bx by' → cy = 0 := fun h => mul_zero_pos (by omega) hcy h
    have haz : 0 < cprD bx by' cx cy → ay = 0 := fun h => mul_zero_pos (by omega) hay h
    rcases hor with h | h
    · have := hq0 (hcz h)
      omega
    · have := hq0 (hcz (hp0 (haz h)))
      omega
   refine ⟨fun hP hQ => ?_, fun hP hQ => key hP (by omega) (.inr hQ), fun hP hQ => key (by omega) hQ (.inl hP)⟩
   refine Classical.byContradiction fun hR => ?_
   have h1 : by' * cprD ax ay cx cy < 0 := Int.mul_neg_of_pos_of_neg hb (by omega)
   have h2 := Int.mul_nonneg hcy hP
   have h3 := Int.mul_nonneg hay hQ
   omega
 · have hP : 0 ≤ cprD ax ay bx 0 → ay = 0 := by
    intro h
    unfold cprD at h
    exact mul_zero_pos (b := bx) (by omega) hay hb
   have hax : ay = 0 → 0 < ax := by unfold Up at ha; omega
   have hR : ay = 0 → cprD ax ay cx cy = ax * cy := by intro e; unfold cprD; rw [e]; omega
   have hQ : cprD bx 0 cx cy = bx * cy := by unfold cprD; omega
   have hz : ay = 0 → cprD ax ay bx 0 = 0 := by intro e; unfold cprD; rw [e]; omega
   refine ⟨fun h1 h2 => ?_, fun h1 h2 => ?_, fun h1 h2 => ?_⟩
   · rw [hR (hP h1)]
     exact Int.mul_nonneg (by have := hax (hP h1); omega) hcy
   · rw [hR (hP h1)]
     refine Int.mul_pos (hax (hP h1)) ?_
     rcases Int.lt_or_eq_of_le hcy with h | h
     · exact h
     · rw [hQ, ← h] at h2
       omega
   · have := hz (hP (by omega))
     omega
theorem up_dot {ax ay bx by' : Int} (ha : Up ax ay) (hb : Up bx by') (h0 : cprD ax ay bx by' = 0) : 0 < ax * bx + ay * by' := by
 have hay : 0 ≤ ay := by unfold Up at ha; omega
 unfold cprD at h0
 rcases hb with hb | ⟨rfl, hb⟩
 · have i1 : by' * (ax * bx + ay * by') = ay * (bx * bx + by' * by') + bx * (ax * by' - ay * bx) := by grind
   rw [h0, Int.mul_zero, Int.add_zero] at i1
   have hy : ay ≠ 0 := by
    intro e
    have hax : 0 < ax := by unfold Up at ha; omega
    have := Int.mul_pos hax hb
    rw [e] at h0
    omega
   have h1 := Int.mul_pos hb hb
   have h2 : 0 ≤ bx * bx := by
    rcases Int.le_total 0 bx with h | h
    · exact Int.mul_nonneg h h
    · exact Int.mul_nonneg_of_nonpos_of_nonpos h h
   have h3 : 0 < ay * (bx * bx + by' * by') := Int.mul_pos (by omega) (by omega)
   refine Classical.byContradiction fun hR => ?_
   have h4 : by' * (ax * bx + ay * by') ≤ 0 := Int.mul_nonpos_of_nonneg_of_nonpos (by omega) (by omega)
   omega
 · have hz : ay = 0 := mul_zero_pos (b := bx) (by omega) hay hb
   have hax : 0 < ax := by unfold Up at ha; omega
   have := Int.mul_pos hax hb
   rw [hz]
   omega
theorem alike_up {x y u v : Int} (h1 : ¬ (x = 0 ∧ y = 0)) (h2 : ¬ (u = 0 ∧ v = 0)) : alikeD x y u v = decide (cprD x y u v = 0 ∧ upD x y = upD u v) := by
 unfold alikeD
 rw [decide_eq_decide]
 refine and_congr_right fun h0 => ?_
 have hu : upD x y = decide (Up x y) := rfl
 have hv : upD u v = decide (Up u v) := rfl
 rw [hu, hv, decide_eq_decide]
 by_cases a : Up x y <;> by_cases b : Up u v
 · exact ⟨fun _ => iff_of_true a b, fun _ => up_dot a b h0⟩
 · have := up_dot a (up_down h2 b) (by rw [cpr_neg_r]; omega)
   exact ⟨fun h => by rw [Int.mul_neg, Int.mul_neg] at this; omega, fun h => absurd (h.1 a) b⟩
 · have := up_dot (up_down h1 a) b (by rw [cpr_neg_l]; omega)
   exact ⟨fun h => by rw [Int.neg_mul, Int.neg_mul] at this; omega, fun h => absurd (h.2 b) a⟩
 · have := up_dot (up_down h1 a) (up_down h2 b) (by rw [cpr_neg_r, cpr_neg_l]; omega)
   rw [Int.neg_mul_neg, Int.neg_mul_neg] at this
   exact ⟨fun _ => iff_of_false a b, fun _ => this⟩
def TriS (p q r : Bool) (A B C : Int) : Prop :=
 let a := if p = q then A else -A
 let b := if p = r then B else -B
 let c := if r = q then C else -C
 ((0 ≤ b → 0 ≤ c → 0 ≤ a) ∧ (0 ≤ b → 0 < c → 0 < a) ∧ (0 < b → 0 ≤ c → 0 < a)) ∧ ((0 ≤ -c → 0 ≤ -b → 0 ≤ -a) ∧ (0 ≤ -c → 0 < -b → 0 < -a) ∧ (0 < -c → 0 ≤ -b → 0 < -a))
theorem tri_signs {fx fy tx ty x y : Int} (hf : ¬ (fx = 0 ∧ fy = 0)) (ht : ¬ (tx = 0 ∧ ty = 0)) (hv : ¬ (x = 0 ∧ y = 0)) : TriS (upD fx fy) (upD tx ty) (upD x y) (cprD fx fy tx ty) (cprD fx fy x y) (cprD x y tx ty) := by
 have e : ∀ u v, upD u v = decide (Up u v) := fun _ _ => rfl
 unfold TriS
 rw [e, e, e]
 by_cases a : Up fx fy <;> by_cases b : Up tx ty <;> by_cases c : Up x y
 · have h1 := up_trans a c b
   have h2 := up_trans b c a
   rw [cpr_swap x y tx ty, cpr_swap fx fy x y, cpr_swap fx fy tx ty] at h2
   simpa only [a, b, c, decide_true, decide_false, if_true, reduceCtorEq, if_false] using And.intro h1 h2
 · have c' := up_down hv c
   have h1 := up_trans a c' b
   have h2 := up_trans b c' a
   rw [cpr_neg_l, cpr_neg_r] at h1 h2
   rw [cpr_swap x y tx ty, cpr_swap fx fy x y, cpr_swap fx fy tx ty] at h2
   simpa only [a, b, c, decide_true, decide_false, if_true, reduceCtorEq, if_false] using And.intro h1 h2
 · have b' := up_down ht b
   have h1 := up_trans a c b'
   have h2 := up_trans b' c a
   rw [cpr_neg_r, cpr_neg_r] at h1
   rw [cpr_neg_l, cpr_neg_l, cpr_swap x y tx ty, cpr_swap fx fy x y, cpr_swap fx fy tx ty] at h2
   simpa only [a, b, c, decide_true, decide_false, if_true, reduceCtorEq, if_false] using And.intro h1 h2
 · have b' := up_down ht b
   have c' := up_down hv c
   have h1 := up_trans a c' b'
   have h2 := up_trans b' c' a
   simp only [cpr_neg_r, cpr_neg_l, Int.neg_neg] at h1 h2
   rw [cpr_swap x y tx ty, cpr_swap fx fy x y, cpr_swap fx fy tx ty] at h2
   simpa only [a, b, c, decide_true, decide_false, if_true, reduceCtorEq, if_false] using And.intro h1 h2
 · have a' := up_down hf a
   have h1 := up_trans a' c b
   have h2 := up_trans b c a'
   simp only [cpr_neg_r, cpr_neg_l] at h1 h2
   rw [cpr_swap x y tx ty, cpr_swap fx fy x y, cpr_swap fx fy tx ty] at h2
   simpa only [a, b, c, decide_true, decide_false, if_true, reduceCtorEq, if_false] using And.intro h1 h2
 · have a' := up_down hf a
   have c' := up_down hv c
   have h1 := up_trans a' c' b
   have h2 := up_trans b c' a'
   simp only [cpr_neg_r, cpr_neg_l, Int.neg_neg] at h1 h2
   rw [cpr_swap x y tx ty, cpr_swap fx fy x y, cpr_swap fx fy tx ty] at h2
   simpa only [a, b, c, decide_true, decide_false, if_true, reduceCtorEq, if_false] using And.intro h1 h2
 · have a' := up_down hf a
   have b' := up_down ht b
   have h1 := up_trans a' c b'
   have h2 := up_trans b' c a'
   simp only [cpr_neg_r, cpr_neg_l, Int.neg_neg] at h1 h2
   rw [cpr_swap x y tx ty, cpr_swap fx fy x y, cpr_swap fx fy tx ty] at h2
   simpa only [a, b, c, decide_true, decide_false, if_true, reduceCtorEq, if_false] using And.intro h1 h2
 · have a' := up_down hf a
   have b' := up_down ht b
   have c' := up_down hv c
   have h1 := up_trans a' c' b'
   have h2 := up_trans b' c' a'
   simp only [cpr_neg_r, cpr_neg_l, Int.neg_neg] at h1 h2
   rw [cpr_swap x y tx ty, cpr_swap fx fy x y, cpr_swap fx fy tx ty] at h2
   simpa only [a, b, c, decide_true, decide_false, if_true, reduceCtorEq, if_false] using And.intro h1 h2
def cmpC (p q : Bool) (A : Int) : Int := if p ≠ q then (if p = true then -1 else 1) else if 0 < A then -1 else if A < 0 then 1 else 0
theorem has_core (p q r : Bool) (A B C : Int) (T : TriS p q r A B C) :
  (if cmpC p q A = -1 then decide (cmpC p r B ≤ 0) && !decide (cmpC q r (-C) ≤ 0) else if cmpC p q A = 1 then decide (cmpC p r B ≤ 0) || !decide (cmpC q r (-C) ≤ 0) else true)
  = (if decide (A = 0 ∧ p = q) = true ∨ decide (B = 0 ∧ p = r) = true then true else if decide (-C = 0 ∧ q = r) = true then false else if 0 < B then decide (0 < C ∨ A ≤ 0) else decide (0 < C ∧ A < 0)) := by
 unfold TriS at T
 unfold cmpC
 rcases Int.lt_trichotomy A 0 with ha | ha | ha <;> rcases Int.lt_trichotomy B 0 with hb | hb | hb <;> rcases Int.lt_trichotomy C 0 with hc | hc | hc <;> cases p <;> cases q <;> cases r <;> simp only [reduceCtorEq, ne_eq, not_true_eq_false, not_false_eq_true, if_true, if_false] at T ⊢ <;> first | (exfalso; omega) | grind
theorem has_eq {fx fy tx ty x y : Int} (hf : DirOk fx fy) (ht : DirOk tx ty) (hv : DirOk x y) : hasQ fx fy tx ty x y = hasD fx fy tx ty x y := by
 have h := has_core _ _ _ _ _ _ (tri_signs hf.1 ht.1 hv.1)
 have e1 : cmpC (upD fx fy) (upD tx ty) (cprD fx fy tx ty) = cmpD fx fy tx ty := rfl
 have e2 : cmpC (upD fx fy) (upD x y) (cprD fx fy x y) = cmpD fx fy x y := rfl
 have e3 : cmpC (upD tx ty) (upD x y) (cprD tx ty x y) = cmpD tx ty x y := rfl
 rw [← cpr_swap x y tx ty, e1, e2, e3, ← alike_up hf.1 ht.1, ← alike_up hf.1 hv.1, ← alike_up ht.1 hv.1] at h
 exact h.symm
theorem nxt_in {n i : Nat} (h : i + 1 < n) : nxt n i = i + 1 := Nat.mod_eq_of_lt h
theorem nxt_end {n : Nat} (h : 0 < n) : nxt n (n - 1) = 0 := by
 unfold nxt
 rw [Nat.sub_add_cancel h, Nat.mod_self]
theorem prv_in {n i : Nat} (h : i + 1 < n) : prv n (i + 1) = i := by
 unfold prv
 rw [show i + 1 + n - 1 = i + n by omega, Nat.add_mod_right, Nat.mod_eq_of_lt (by omega)]
theorem prv_zero {n : Nat} (h : 0 < n) : prv n 0 = n - 1 := by
 unfold prv
 rw [Nat.zero_add, Nat.mod_eq_of_lt (by omega)]
theorem two_nxt {n i : Nat} (h3 : 3 ≤ n) (hi : i < n) : (i + 2) % n = nxt n (nxt n i) := by
 rcases Nat.lt_or_ge (i + 1) n with h | h
 · rw [nxt_in h]
   rfl
 · obtain rfl : i = n - 1 := by omega
   rw [nxt_end (by omega), show n - 1 + 2 = 1 + n by omega, Nat.add_mod_right]
   rfl
theorem turns_shift {n : Nat} {X : Nat → Nat → Int} (h3 : 3 ≤ n) : (∀ i, i < n → turnX X (prv n i) i (nxt n i) ≠ 0) ↔ ∀ i, i < n → turnX X i (nxt n i) ((i + 2) % n) ≠ 0 := by
 constructor
 · intro h i hi
   rw [two_nxt h3 hi]
   rcases Nat.lt_or_ge (i + 1) n with g | g
   · have := h (i + 1) g
     rwa [prv_in g, ← nxt_in g] at this
   · obtain rfl : i = n - 1 := by omega
     have := h 0 (by omega)
     rwa [prv_zero (by omega), ← nxt_end (show 0 < n by omega)] at this
 · intro h i hi
   cases i with
   | zero =>
     have := h (n - 1) (by omega)
     rw [two_nxt h3 (by omega), nxt_end (by omega)] at this
     rwa [prv_zero (by omega)]
   | succ i =>
     have := h i (by omega)
     rw [two_nxt h3 (by omega), nxt_in hi] at this
     rwa [prv_in hi]
theorem poly_ref {n : Nat} {X : Nat → Nat → Int} : PolyOk n X ↔ (3 ≤ n ∧ n ≤ 24) ∧ (∀ i, i < n → Vld (X i 0) (X i 1) ∧ (0 < i → OrdLt (X 0 0) (X 0 1) (X i 0) (X i 1))) ∧ (∀ i, i < n → turnX X i (nxt n i) ((i + 2) % n) ≠ 0) ∧ (∀ i, i < n → ∀ k, k < n → i + 2 ≤ k → (0 < i ∨ k + 1 < n) → meetX n X i k = false) ∧ 0 < twiceN n X n := by
 constructor
 · rintro ⟨h1, h2, h3, h4, h5, h6⟩
   refine ⟨⟨h1, h2⟩, fun i hi => ⟨h3 i hi, (h4 i hi).1⟩, (turns_shift h1).1 fun i hi => (h4 i hi).2, fun i hi k hkn hk ho => h5 i hi k hkn ⟨by omega, fun hh => by omega⟩, h6⟩
 · rintro ⟨⟨h1, h2⟩, h3, h4, h5, h6⟩
   exact ⟨h1, h2, fun i hi => (h3 i hi).1, fun i hi => ⟨(h3 i hi).2, (turns_shift h1).2 h4 i hi⟩, fun i hi k hk hf => h5 i hi k hk (by have := hf.1; omega) (by have := hf.2; omega), h6⟩
end Go.Proofs.YtdmegkkifiahdaaGreat
