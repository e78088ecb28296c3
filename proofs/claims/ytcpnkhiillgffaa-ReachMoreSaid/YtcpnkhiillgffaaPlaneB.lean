/- The walks of package plane's inner functions: turns, places on segments, meeting segments, squares of distances, nearness, roots. -/
import Derived.Test.YtcpnkhiillgffaaPlaneA
import Derived.Test.YtcpnkhiillgffaaRegion
import Derived.Outline
namespace Go.Proofs.Ytcpnkhiillgffaa
open Go.RowKit
attribute [local go_sem] bqOp bqAll bqUpon
attribute [local irreducible] wpQuiet wpBQ
theorem crs_bd {ax ay bx by' cx cy : Int} (ha : Vld ax ay) (hb : Vld bx by') (hc : Vld cx cy) :
    (-4000000000000 ≤ (bx - ax) * (cy - ay) ∧ (bx - ax) * (cy - ay) ≤ 4000000000000) ∧ (-4000000000000 ≤ (by' - ay) * (cx - ax) ∧ (by' - ay) * (cx - ax) ≤ 4000000000000) := by
  obtain ⟨a1, a2, a3, a4⟩ := ha
  obtain ⟨b1, b2, b3, b4⟩ := hb
  obtain ⟨c1, c2, c3, c4⟩ := hc
  exact ⟨mul_bd (A := 2000000) (B := 2000000) (by omega) (by omega) (by omega) (by omega), mul_bd (A := 2000000) (B := 2000000) (by omega) (by omega) (by omega) (by omega)⟩
theorem turn_any (ax ay bx by' cx cy : Int) (w : World) (ha : Vld ax ay) (hb : Vld bx by') (hc : Vld cx cy) {s : Int} (hs : (crs ax ay bx by' cx cy).sign = s) :
    Calls Try.prog 94 #[.agg #[.int .i64 ax, .int .i64 ay], .agg #[.int .i64 bx, .int .i64 by'], .agg #[.int .i64 cx, .int .i64 cy]] w fun e w' => e = .returned (.int .i64 s) ∧ Below w.heap.size w w' := by
  subst hs
  obtain ⟨⟨m1, m2⟩, m3, m4⟩ := crs_bd ha hb hc
  obtain ⟨a1, a2, a3, a4⟩ := ha
  obtain ⟨b1, b2, b3, b4⟩ := hb
  obtain ⟨c1, c2, c3, c4⟩ := hc
  go_enter Try.func94, Try.ntmps94
  go_wp2
  refine wp_named fun W hW => ?_
  obtain ⟨p1, p2, p3, hB⟩ := box3 hW
  clear hW
  have q1 := cellsR p1
  have q2 := cellsR p2
  have q3 := cellsR p3
  clear p1 p2 p3
  (refine wp_region_quiet_below (by kernel_rfl) (by kernel_rfl) ?_; (repeat (refine wpQuiet_step (fun K hK => ?_); replace hK := Lib.hid hK; go_simp; first | (refine hK.out _ ?_; clear hK K) | (apply Exists.intro; refine ⟨fun _ => ?_, hK.out _ ?_⟩; (first | (go_at_call 103; exact Calls.regrown_of (from_any _ _ _ _ _ (by omega) (by omega) (by omega) (by omega))) | (go_at_call 104; exact Calls.regrown_of (cross_any _ _ _ _ _ (by omega) (by omega) (by omega) (by omega) (by omega) (by omega))) | (go_at_call 102; exact Calls.regrown_of (cmp_any _ _))); clear hK K))); refine wpQuiet_nil ?_)
  intro W1 hW1
  have hB1 := regrown_below hW1
  clear hW1
  go_wp2
  go_returns
  exact ⟨rfl, below_step hB hB1⟩
theorem sign_cases (x : Int) : x.sign = -1 ∨ x.sign = 0 ∨ x.sign = 1 := by
  rcases Int.lt_trichotomy x 0 with h | h | h
  · exact .inl (Int.sign_eq_neg_one_of_neg h)
  · exact .inr (.inl (by rw [h]; rfl))
  · exact .inr (.inr (Int.sign_eq_one_of_pos h))
theorem on_any (px py ax ay bx by' : Int) (w : World) (hp : Vld px py) (ha : Vld ax ay) (hb : Vld bx by') {v : Bool} (hv : onB px py ax ay bx by' = v) :
    Calls Try.prog 76 #[.agg #[.int .i64 px, .int .i64 py], .agg #[.int .i64 ax, .int .i64 ay], .agg #[.int .i64 bx, .int .i64 by']] w fun e w' => e = .returned (.bool v) ∧ Below w.heap.size w w' := by
  have key : ∀ s, (crs ax ay bx by' px py).sign = s → s = -1 ∨ s = 0 ∨ s = 1 := fun s h => h ▸ sign_cases _
  obtain ⟨s, hs⟩ : ∃ s, (crs ax ay bx by' px py).sign = s := ⟨_, rfl⟩
  have hc := key s hs
  clear key
  have c0 : s = 0 ↔ crs ax ay bx by' px py = 0 := by rw [← hs]; exact Int.sign_eq_zero_iff_zero
  have HV : Hid (∀ u : Bool, (u = true ↔ OnS px py ax ay bx by') → u = v) := Lib.hid (fun u hu => by
    rw [← hv, onB]
    by_cases h : OnS px py ax ay bx by'
    · simp [h, hu]
    · simp [h]; cases u <;> simp_all)
  have C0 := Lib.hid c0
  have HS := Lib.hid hs
  clear c0 hv hs
  go_enter Try.func76, Try.ntmps76
  go_wp2_with fail
  refine calls_named fun W hW => ?_
  obtain ⟨p1, p2, p3, hB⟩ := box3 hW
  clear hW
  have q1 := cellsL p1
  have q2 := cellsL p2
  have q3 := cellsL p3
  clear p1 p2 p3
  refine (turn_any _ _ _ _ _ _ _ ha hb hp HS.out).mono ?_
  rintro e w1 ⟨rfl, hb1⟩
  rcases hc with rfl | rfl | rfl
  · have hz : crs ax ay bx by' px py ≠ 0 := fun h => by have := C0.out.2 h; omega
    have HZ := Lib.hid hz
    clear hz C0
    go_wp2
    go_returns
    exact ⟨ret_bool (HV.out _ ⟨fun h => by simp at h, fun h => absurd h.1 HZ.out⟩), below_step hB hb1⟩
  · have hz : crs ax ay bx by' px py = 0 := C0.out.1 rfl
    have HZ := Lib.hid hz
    clear hz C0
    go_wp2
    all_goals (go_returns; exact ⟨ret_bool (HV.out _ ⟨fun h => ⟨HZ.out, by simp at h <;> omega⟩, fun h => by have := h.2; simp <;> omega⟩), below_step hB hb1⟩)
  · have hz : crs ax ay bx by' px py ≠ 0 := fun h => by have := C0.out.2 h; omega
    have HZ := Lib.hid hz
    clear hz C0
    go_wp2
    go_returns
    exact ⟨ret_bool (HV.out _ ⟨fun h => by simp at h, fun h => absurd h.1 HZ.out⟩), below_step hB hb1⟩
end Go.Proofs.Ytcpnkhiillgffaa
