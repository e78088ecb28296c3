/- The walks of what is heard between two places, in the program and in the reference; Few. -/
import Derived.Test.YtcpnkhiillgffaaReachC
namespace Go.Proofs.Ytcpnkhiillgffaa
open Go.RowKit
attribute [local go_sem] bqOp bqAll bqUpon
attribute [local irreducible] wpQuiet wpBQ
set_option linter.unusedVariables false
theorem near_place (px py ax ay n : Int) : nearB px py ax ay ax ay n = decide (sqd ax ay px py ≤ n * n) := by
  have e : foot px py ax ay ax ay = 0 := by unfold foot; simp
  unfold nearB sqNum sqFac sqDen
  rw [e]
  simp
/-- A piece at x, y with the range r is heard at the place i. -/
def hrB (X : Nat → Nat → Int) (x y r : Int) (i : Nat) : Bool := decide (sqd (X i 0) (X i 1) x y ≤ r * r)
theorem sq3 {r : Int} (h0 : 0 ≤ r) (h1 : r ≤ 3000000) : 0 ≤ r * r ∧ r * r ≤ 9000000000000 := by
  have := mul_bd (a := r) (b := r) (A := 3000000) (B := 3000000) (by omega) h1 (by omega) h1
  have := Int.mul_nonneg h0 h0
  omega
set_option maxHeartbeats 1000000 in
theorem hhears_any (np c ne c2 : Nat) (ad ad2 : Option Addr) (X : Nat → Nat → Int) (t x y r : Int) (p q : Nat) (w : World) (hX : Rows 2 w (.slice ad np c) np X) (hn : np ≤ 9223372036854775807) (hp : p < np) (hq : q < np) (vp : Vld (X p 0) (X p 1)) (vq : Vld (X q 0) (X q 1)) (ha : AirOk t x y r) {v : Bool} (hv : (hrB X x y r p && hrB X x y r q) = v) :
    Calls Try.prog 48 #[.agg #[.slice ad np c, .slice ad2 ne c2], .agg #[.int .i64 t, .int .i64 x, .int .i64 y, .int .i64 r], .int .i64 (p : Int), .int .i64 (q : Int)] w fun e w' => e = .returned (.bool v) ∧ Below w.heap.size w w' := by
  obtain ⟨v1, h1⟩ : ∃ v1, hrB X x y r p = v1 := ⟨_, rfl⟩
  obtain ⟨v2, h2⟩ : ∃ v2, hrB X x y r q = v2 := ⟨_, rfl⟩
  rw [h1, h2] at hv
  have N1 : Hid (nearB x y (X p 0) (X p 1) (X p 0) (X p 1) r = v1) := Lib.hid (by rw [near_place]; exact h1)
  have N2 : Hid (nearB x y (X q 0) (X q 1) (X q 0) (X q 1) r = v2) := Lib.hid (by rw [near_place]; exact h2)
  have RR := Lib.hid (show 0 ≤ r ∧ r ≤ 3000000 from ⟨ha.2.1, ha.2.2.1⟩)
  clear h1 h2
  obtain ⟨g, o, rfl, hcp⟩ := hX.row hp
  obtain ⟨g', o', e', hcq⟩ := hX.row hq
  obtain ⟨rfl, rfl⟩ : g = g' ∧ o = o' := by simpa using e'
  obtain ⟨va, r0, r1, t0, t1⟩ := ha
  have P0 := Lib.hid (hcp 0 (by omega))
  have P1 := Lib.hid (hcp 1 (by omega))
  have Q0 := Lib.hid (hcq 0 (by omega))
  have Q1 := Lib.hid (hcq 1 (by omega))
  have VP := Lib.hid vp
  have VQ := Lib.hid vq
  have VA := Lib.hid va
  clear hX hcp hcq e' vp vq va
  go_enter Try.func48, Try.ntmps48
  go_wp2_with fail
  refine wp_named fun W hW => ?_
  obtain ⟨p1, p2, hB⟩ := box2 hW
  clear hW
  have B1 := Lib.hid p1
  have B2 := Lib.hid p2
  have q1 := cellsR p1
  have q2 := cellsR p2
  clear p1 p2
  have s0 := fun d os => cell_later (below_regrown W d os) (cell_later hB P0.out)
  have s1 := fun d os => cell_later (below_regrown W d os) (cell_later hB P1.out)
  simp only [Nat.add_zero] at s0
  (refine wp_region_quiet_below (by kernel_rfl) (by kernel_rfl) ?_; (repeat (refine wpQuiet_step (fun K hK => ?_); replace hK := Lib.hid hK; go_simp; first | (refine hK.out _ ?_; clear hK K) | (apply Exists.intro; refine ⟨fun _ => ?_, hK.out _ ?_⟩; ((go_at_call 36; exact Calls.regrown_of (Near_yes _ _ _ _ _ _ _ _ VA.out VP.out VP.out RR.out N1.out))); clear hK K))); refine wpQuiet_nil ?_)
  intro w1 hr1
  have hB1 := regrown_below hr1
  clear hr1 q1 q2 s0 s1
  go_wp2_with fail
  have q1 := cellsR (block_later hB1 B1.out)
  have q2 := cellsR (block_later hB1 B2.out)
  have s0 := fun d os => cell_later (below_regrown w1 d os) (cell_later (below_step hB hB1) Q0.out)
  have s1 := fun d os => cell_later (below_regrown w1 d os) (cell_later (below_step hB hB1) Q1.out)
  simp only [Nat.add_zero] at s0
  (refine wp_region_quiet_below (by kernel_rfl) (by kernel_rfl) ?_; (repeat (refine wpQuiet_step (fun K hK => ?_); replace hK := Lib.hid hK; go_simp; first | (refine hK.out _ ?_; clear hK K) | (apply Exists.intro; refine ⟨fun _ => ?_, hK.out _ ?_⟩; ((go_at_call 36; exact Calls.regrown_of (Near_yes _ _ _ _ _ _ _ _ VA.out VQ.out VQ.out RR.out N2.out))); clear hK K))); refine wpQuiet_nil ?_)
  intro w2 hr2
  have hB2 := below_step hB1 (regrown_below hr2)
  clear hr2 q1 q2 s0 s1 N1 N2
  subst hv
  cases v1
  · go_wp2_with fail
    go_returns
    exact ⟨rfl, below_step hB hB2⟩
  · go_wp2_with fail
    go_returns
    exact ⟨rfl, below_step hB hB2⟩
set_option maxHeartbeats 1000000 in
theorem q33heard_any (np c ne c2 : Nat) (ad ad2 : Option Addr) (X : Nat → Nat → Int) (t x y r : Int) (p q : Nat) (w : World) (hX : Rows 2 w (.slice ad np c) np X) (hn : np ≤ 9223372036854775807) (hp : p < np) (hq : q < np) (vp : Vld (X p 0) (X p 1)) (vq : Vld (X q 0) (X q 1)) (ha : AirOk t x y r) {v : Bool} (hv : (hrB X x y r p && hrB X x y r q) = v) :
    Calls Try.prog 49 #[.agg #[.slice ad np c, .slice ad2 ne c2], .agg #[.int .i64 t, .int .i64 x, .int .i64 y, .int .i64 r], .int .i64 (p : Int), .int .i64 (q : Int)] w fun e w' => e = .returned (.bool v) ∧ Below w.heap.size w w' := by
  obtain ⟨v1, h1⟩ : ∃ v1, hrB X x y r p = v1 := ⟨_, rfl⟩
  obtain ⟨v2, h2⟩ : ∃ v2, hrB X x y r q = v2 := ⟨_, rfl⟩
  rw [h1, h2] at hv
  unfold hrB at h1 h2
  have H1 := Lib.hid h1
  have H2 := Lib.hid h2
  clear h1 h2
  obtain ⟨g, o, rfl, hcp⟩ := hX.row hp
  obtain ⟨g', o', e', hcq⟩ := hX.row hq
  obtain ⟨rfl, rfl⟩ : g = g' ∧ o = o' := by simpa using e'
  obtain ⟨va, r0, r1, t0, t1⟩ := ha
  have P0 := Lib.hid (hcp 0 (by omega))
  have P1 := Lib.hid (hcp 1 (by omega))
  have Q0 := Lib.hid (hcq 0 (by omega))
  have Q1 := Lib.hid (hcq 1 (by omega))
  have VP := Lib.hid vp
  have VQ := Lib.hid vq
  have VA := Lib.hid va
  clear hX hcp hcq e' vp vq va
  have sq := sq3 r0 r1
  go_enter Try.func49, Try.ntmps49
  go_wp2_with fail
  refine wp_named fun W hW => ?_
  obtain ⟨p1, p2, hB⟩ := box2 hW
  clear hW
  have q1 := cellsR p1
  have q2 := cellsR p2
  clear p1 p2
  have s0 := fun d os => cell_later (below_regrown W d os) (cell_later hB P0.out)
  have s1 := fun d os => cell_later (below_regrown W d os) (cell_later hB P1.out)
  have s2 := fun d os => cell_later (below_regrown W d os) (cell_later hB Q0.out)
  have s3 := fun d os => cell_later (below_regrown W d os) (cell_later hB Q1.out)
  simp only [Nat.add_zero] at s0 s2
  have jw : IntKind.i64.wrap (r * r) = r * r := IntWalk.i64_in _ (by omega)
  have e1 := H1.out
  have e2 := H2.out
  subst hv
  cases v1
  all_goals
    (refine wp_region_quiet_below (by kernel_rfl) (by kernel_rfl) ?_; (repeat (refine wpQuiet_step (fun K hK => ?_); replace hK := Lib.hid hK; go_simp; first | (refine hK.out _ ?_; clear hK K) | (apply Exists.intro; refine ⟨fun _ => ?_, hK.out _ ?_⟩; ((go_at_call 81; exact Calls.regrown_of (rSquare_any _ _ _ _ _ (by first | with_reducible exact VP.out | with_reducible exact VQ.out) VA.out))); clear hK K))); refine wpQuiet_nil ?_)
    intro w1 hr1
    have hB1 := regrown_below hr1
    clear hr1 q1 q2 s0 s1 s2 s3 jw e1 e2
    go_wp2_with fail
    go_returns
    exact ⟨rfl, below_step hB hB1⟩
def hearsNR (np : Nat) (X : Nat → Nat → Int) (ne : Nat) (E : Nat → Nat → Int) (t x y r p q : Int) : Bool × Int :=
  if NetOk np X ne E ∧ AirOk t x y r ∧ (0 ≤ p ∧ p < (np : Int)) ∧ 0 ≤ q ∧ q < (np : Int) then (hrB X x y r p.toNat && hrB X x y r q.toNat, 0) else (false, 1)
set_option maxHeartbeats 1000000 in
theorem hHears_any (np c ne c2 : Nat) (ad ad2 : Option Addr) (X E : Nat → Nat → Int) (t x y r p q : Int) (w : World) (hX : Rows 2 w (.slice ad np c) np X) (hE : Rows 4 w (.slice ad2 ne c2) ne E) (hn1 : np ≤ 9223372036854775807) (hn2 : ne ≤ 9223372036854775807) {v : Bool} {e : Int} (hr : hearsNR np X ne E t x y r p q = (v, e)) :
    Calls Try.prog 18 #[.agg #[.slice ad np c, .slice ad2 ne c2], .agg #[.int .i64 t, .int .i64 x, .int .i64 y, .int .i64 r], .int .i64 p, .int .i64 q] w fun z w' => z = .returned (.tuple #[.bool v, .int .i64 e]) ∧ Below w.heap.size w w' := by
  unfold hearsNR at hr
  have HX := Lib.hid hX
  have HE := Lib.hid hE
  have RR := Lib.hid hr
  clear hX hE hr
  obtain ⟨v1, gv1⟩ : ∃ v1, decide (NetOk np X ne E) = v1 := ⟨_, rfl⟩
  have V1 := Lib.hid gv1
  clear gv1
  obtain ⟨v2, gv2⟩ : ∃ v2, decide (AirOk t x y r) = v2 := ⟨_, rfl⟩
  have V2 := Lib.hid gv2
  clear gv2
  obtain ⟨v3, gv3⟩ : ∃ v3, decide (0 ≤ p ∧ p < (np : Int)) = v3 := ⟨_, rfl⟩
  have V3 := Lib.hid gv3
  clear gv3
  obtain ⟨v4, gv4⟩ : ∃ v4, decide (0 ≤ q ∧ q < (np : Int)) = v4 := ⟨_, rfl⟩
  have V4 := Lib.hid gv4
  clear gv4
  go_enter Try.func18, Try.ntmps18
  go_wp2_with fail
  refine calls_named fun W hW => ?_
  obtain ⟨p1, p2, hB⟩ := box2 hW
  clear hW
  have q1 := cellsL p1
  have q2 := cellsL p2
  have hB0 := Below.refl W.heap.size W
  (with_reducible refine (hValid_any _ _ _ _ _ _ _ _ _ (HX.out.later hB) (HE.out.later hB) hn1 hn2 V1.out).mono ?_)
  rintro z w1 ⟨rfl, hb1⟩
  have hB1 := below_step hB0 hb1
  cases v1
  · have h := RR.out
    rw [if_neg (fun h => of_decide_eq_false V1.out h.1)] at h
    cases h
    clear RR
    go_wp2_with fail
    go_ret2
    exact ⟨rfl, below_step hB hB1⟩
  go_wp2_with fail
  (with_reducible refine (hIsAir_any _ _ _ _ _ V2.out).mono ?_)
  rintro z w2 ⟨rfl, hb2⟩
  have hB2 := below_step hB1 hb2
  cases v2
  · have h := RR.out
    rw [if_neg (fun h => of_decide_eq_false V2.out h.2.1)] at h
    cases h
    clear RR
    go_wp2_with fail
    go_ret2
    exact ⟨rfl, below_step hB hB2⟩
  go_wp2_with fail
  (with_reducible refine (hIsPlace_any _ _ _ _ _ _ _ _ hn1 V3.out).mono ?_)
  rintro z w3 ⟨rfl, hb3⟩
  have hB3 := below_step hB2 hb3
  cases v3
  · have h := RR.out
    rw [if_neg (fun h => of_decide_eq_false V3.out h.2.2.1)] at h
    cases h
    clear RR
    go_wp2_with fail
    go_ret2
    exact ⟨rfl, below_step hB hB3⟩
  go_wp2_with fail
  (with_reducible refine (hIsPlace_any _ _ _ _ _ _ _ _ hn1 V4.out).mono ?_)
  rintro z w4 ⟨rfl, hb4⟩
  have hB4 := below_step hB3 hb4
  cases v4
  · have h := RR.out
    rw [if_neg (fun h => of_decide_eq_false V4.out h.2.2.2)] at h
    cases h
    clear RR
    go_wp2_with fail
    go_ret2
    exact ⟨rfl, below_step hB hB4⟩
  have g1 := of_decide_eq_true V1.out
  have g2 := of_decide_eq_true V2.out
  have g3 := of_decide_eq_true V3.out
  have g4 := of_decide_eq_true V4.out
  have h := RR.out
  rw [if_pos ⟨g1, g2, g3, g4⟩] at h
  cases h
  clear RR
  obtain ⟨i, rfl⟩ : ∃ i : Nat, p = (i : Int) := ⟨p.toNat, by omega⟩
  obtain ⟨j, rfl⟩ : ∃ j : Nat, q = (j : Int) := ⟨q.toNat, by omega⟩
  have C := Lib.hid (hhears_any np c ne c2 ad ad2 X t x y r i j w4 (HX.out.later (below_step hB hB4)) hn1 (by omega) (by omega) (g1.2.2.2.1 i (by omega)) (g1.2.2.2.1 j (by omega)) g2 rfl)
  clear g1 g2 g3 g4
  go_wp2_with fail
  (with_reducible refine C.out.mono ?_)
  rintro z w5 ⟨rfl, hb5⟩
  have hB5 := below_step hB4 hb5
  clear C
  go_wp2_with fail
  go_ret2
  exact ⟨rfl, below_step hB hB5⟩
set_option maxHeartbeats 1000000 in
theorem q33Hears_any (np c ne c2 : Nat) (ad ad2 : Option Addr) (X E : Nat → Nat → Int) (t x y r p q : Int) (w : World) (hX : Rows 2 w (.slice ad np c) np X) (hE : Rows 4 w (.slice ad2 ne c2) ne E) (hn1 : np ≤ 9223372036854775807) (hn2 : ne ≤ 9223372036854775807) {v : Bool} {e : Int} (hr : hearsNR np X ne E t x y r p q = (v, e)) :
    Calls Try.prog 19 #[.agg #[.slice ad np c, .slice ad2 ne c2], .agg #[.int .i64 t, .int .i64 x, .int .i64 y, .int .i64 r], .int .i64 p, .int .i64 q] w fun z w' => z = .returned (.tuple #[.bool v, .int .i64 e]) ∧ Below w.heap.size w w' := by
  unfold hearsNR at hr
  have HX := Lib.hid hX
  have HE := Lib.hid hE
  have RR := Lib.hid hr
  clear hX hE hr
  obtain ⟨v1, gv1⟩ : ∃ v1, decide (NetOk np X ne E) = v1 := ⟨_, rfl⟩
  have V1 := Lib.hid gv1
  clear gv1
  obtain ⟨v2, gv2⟩ : ∃ v2, decide (AirOk t x y r) = v2 := ⟨_, rfl⟩
  have V2 := Lib.hid gv2
  clear gv2
  obtain ⟨v3, gv3⟩ : ∃ v3, decide (0 ≤ p ∧ p < (np : Int)) = v3 := ⟨_, rfl⟩
  have V3 := Lib.hid gv3
  clear gv3
  obtain ⟨v4, gv4⟩ : ∃ v4, decide (0 ≤ q ∧ q < (np : Int)) = v4 := ⟨_, rfl⟩
  have V4 := Lib.hid gv4
  clear gv4
  go_enter Try.func19, Try.ntmps19
  go_wp2_with fail
  refine calls_named fun W hW => ?_
  obtain ⟨p1, p2, hB⟩ := box2 hW
  clear hW
  have q1 := cellsL p1
  have q2 := cellsL p2
  have hB0 := Below.refl W.heap.size W
  (with_reducible refine (q33Valid_any _ _ _ _ _ _ _ _ _ (HX.out.later hB) (HE.out.later hB) hn1 hn2 V1.out).mono ?_)
  rintro z w1 ⟨rfl, hb1⟩
  have hB1 := below_step hB0 hb1
  go_wp2_with fail
  (with_reducible refine (q33Air_any _ _ _ _ _ V2.out).mono ?_)
  rintro z w2 ⟨rfl, hb2⟩
  have hB2 := below_step hB1 hb2
  go_wp2_with fail
  (with_reducible refine (q33Place_any _ _ _ _ _ _ _ _ hn1 V3.out).mono ?_)
  rintro z w3 ⟨rfl, hb3⟩
  have hB3 := below_step hB2 hb3
  go_wp2_with fail
  (with_reducible refine (q33Place_any _ _ _ _ _ _ _ _ hn1 V4.out).mono ?_)
  rintro z w4 ⟨rfl, hb4⟩
  have hB4 := below_step hB3 hb4
  cases v1
  · have h := RR.out
    rw [if_neg (fun h => of_decide_eq_false V1.out h.1)] at h
    cases h
    clear RR
    go_wp2_with fail
    go_ret2
    exact ⟨rfl, below_step hB hB4⟩
  cases v2
  · have h := RR.out
    rw [if_neg (fun h => of_decide_eq_false V2.out h.2.1)] at h
    cases h
    clear RR
    go_wp2_with fail
    go_ret2
    exact ⟨rfl, below_step hB hB4⟩
  cases v3
  · have h := RR.out
    rw [if_neg (fun h => of_decide_eq_false V3.out h.2.2.1)] at h
    cases h
    clear RR
    go_wp2_with fail
    go_ret2
    exact ⟨rfl, below_step hB hB4⟩
  cases v4
  · have h := RR.out
    rw [if_neg (fun h => of_decide_eq_false V4.out h.2.2.2)] at h
    cases h
    clear RR
    go_wp2_with fail
    go_ret2
    exact ⟨rfl, below_step hB hB4⟩
  have g1 := of_decide_eq_true V1.out
  have g2 := of_decide_eq_true V2.out
  have g3 := of_decide_eq_true V3.out
  have g4 := of_decide_eq_true V4.out
  have h := RR.out
  rw [if_pos ⟨g1, g2, g3, g4⟩] at h
  cases h
  clear RR
  obtain ⟨i, rfl⟩ : ∃ i : Nat, p = (i : Int) := ⟨p.toNat, by omega⟩
  obtain ⟨j, rfl⟩ : ∃ j : Nat, q = (j : Int) := ⟨q.toNat, by omega⟩
  have C := Lib.hid (q33heard_any np c ne c2 ad ad2 X t x y r i j w4 (HX.out.later (below_step hB hB4)) hn1 (by omega) (by omega) (g1.2.2.2.1 i (by omega)) (g1.2.2.2.1 j (by omega)) g2 rfl)
  clear g1 g2 g3 g4
  go_wp2_with fail
  (with_reducible refine C.out.mono ?_)
  rintro z w5 ⟨rfl, hb5⟩
  have hB5 := below_step hB4 hb5
  clear C
  go_wp2_with fail
  go_ret2
  exact ⟨rfl, below_step hB hB5⟩
def FewOk (np ne na : Nat) (E : Nat → Nat → Int) : Prop := np ≤ 6 ∧ ne ≤ 10 ∧ na ≤ 12 ∧ ∀ i, i < ne → E i 3 ≤ 12
instance (np ne na : Nat) (E : Nat → Nat → Int) : Decidable (FewOk np ne na E) := by unfold FewOk; exact inferInstance
theorem q33Few_any (np c ne c2 na c3 : Nat) (ad ad2 ad3 : Option Addr) (E : Nat → Nat → Int) (w : World) (hE : Rows 4 w (.slice ad2 ne c2) ne E) {v : Bool} (hv : decide (FewOk np ne na E) = v) :
    Calls Try.prog 12 #[.agg #[.slice ad np c, .slice ad2 ne c2], .slice ad3 na c3] w fun e w' => e = .returned (.bool v) ∧ Below w.heap.size w w' := by
  have HE := Lib.hid hE
  have HV := Lib.hid hv
  clear hE hv
  by_cases h1 : 6 < np
  · have e1 : (6 : Int) < (np : Int) := by omega
    go_enter Try.func12, Try.ntmps12
    go_wp2_with fail
    go_returns
    exact ⟨ret_bool (by rw [← HV.out]; exact (decide_eq_false (fun h => by have := h.1; omega)).symm), by go_grown⟩
  have d1 : decide (6 < np) = false := by simp; omega
  have e1 : decide ((6 : Int) < (np : Int)) = false := by simp; omega
  by_cases h2 : 10 < ne
  · have e2 : (10 : Int) < (ne : Int) := by omega
    go_enter Try.func12, Try.ntmps12
    go_wp2_with fail
    go_returns
    exact ⟨ret_bool (by rw [← HV.out]; exact (decide_eq_false (fun h => by have := h.2.1; omega)).symm), by go_grown⟩
  have d2 : decide (10 < ne) = false := by simp; omega
  have e2 : decide ((10 : Int) < (ne : Int)) = false := by simp; omega
  by_cases h3 : 12 < na
  · have e3 : (12 : Int) < (na : Int) := by omega
    go_enter Try.func12, Try.ntmps12
    go_wp2_with fail
    go_returns
    exact ⟨ret_bool (by rw [← HV.out]; exact (decide_eq_false (fun h => by have := h.2.2.1; omega)).symm), by go_grown⟩
  have d3 : decide (12 < na) = false := by simp; omega
  have e3 : decide ((12 : Int) < (na : Int)) = false := by simp; omega
  go_enter Try.func12, Try.ntmps12
  go_wp2_with fail
  refine wp_named fun W hW => ?_
  obtain ⟨p1, hB⟩ := box1 hW
  clear hW
  have hB0 := Below.refl W.heap.size W
  have P1 := Lib.hid p1
  clear p1
  go_loopw [5] (fun i wr => ∃ k : Nat, k ≤ ne ∧ i = .int .i64 k ∧ Below W.heap.size W wr ∧ ∀ m, m < k → E m 3 ≤ 12) (fun i _ => ne - (intOf i).toNat)
  case atStart => exact ⟨0, by omega, rfl, hB0, fun m hm => by omega⟩
  case round =>
    obtain ⟨k, hk, rfl, hbr, hall⟩ := hrel
    have ALL := Lib.hid hall
    clear hall
    have q1 := cellsL P1.out
    by_cases hlt : k < ne
    rotate_left
    · obtain rfl : k = ne := by omega
      go_wp2_with fail
      go_returns
      exact ⟨ret_bool (by rw [← HV.out]; exact (decide_eq_true ⟨by omega, by omega, by omega, ALL.out⟩).symm), below_step hB hbr⟩
    obtain ⟨g, o, rfl, hc⟩ := HE.out.row hlt
    have c3' := cell_later (below_step hB hbr) (hc 3 (by omega))
    clear hc
    by_cases h1 : 12 < E k 3
    · go_wp2_with fail
      go_returns
      exact ⟨ret_bool (by rw [← HV.out]; exact (decide_eq_false (fun h => by have := h.2.2.2 k hlt; omega)).symm), below_step hB hbr⟩
    have d1 : decide (12 < E k 3) = false := by simp; omega
    have n1 : E k 3 ≤ 12 := by omega
    clear h1
    go_wp2_with fail
    go_roundw
    case rel => exact ⟨k + 1, by omega, by go_num, hbr, fun m hm => by
      rcases Nat.lt_or_ge m k with h | h
      · exact ALL.out m h
      · obtain rfl : m = k := by omega
        exact n1⟩
    case measure => simp [intOf]; omega
end Go.Proofs.Ytcpnkhiillgffaa
