/- The walks of a station's reach. -/
import Derived.Test.YtnidacjmgekdjaaStationC
import Derived.Test.YtnidacjmgekdjaaRegion
namespace Go.Proofs.Ytnidacjmgekdjaa
open Go.RowKit
attribute [local go_sem] bqOp bqAll bqUpon
attribute [local irreducible] wpQuiet wpBQ
set_option maxHeartbeats 1000000 in
theorem reaches_all (id ax ay dr nr fi ev dn dk xl xh yl yh t : Int) (w : World) (hst : Stn id ax ay dr nr fi ev) (hs : Sn dn dk) (hx : Bx xl xh yl yh) (ht : Tm t) {v : Bool} (hv : reachB ax ay (farthI ax xl xh) (farthI ay yl yh) (farI dn dk dr nr t) = v) :
    Calls Try.prog 45 #[.agg #[.int .i64 id, .int .i64 ax, .int .i64 ay, .int .i64 dr, .int .i64 nr, .int .i64 fi, .int .i64 ev, .int .i64 dn, .int .i64 dk], .agg #[.int .i64 xl, .int .i64 xh, .int .i64 yl, .int .i64 yh], .int .i64 t, .func (.func 46) #[] #[]] w fun e w' => e = .returned (.bool v) ∧ Below w.heap.size w w' := by
  have hp := farth_vld (ax := ax) (ay := ay) hx
  obtain ⟨px, hpx⟩ : ∃ z, farthI ax xl xh = z := ⟨_, rfl⟩
  obtain ⟨py, hpy⟩ : ∃ z, farthI ay yl yh = z := ⟨_, rfl⟩
  obtain ⟨n, hn⟩ : ∃ z, farI dn dk dr nr t = z := ⟨_, rfl⟩
  have hnb : 0 ≤ n ∧ n ≤ 3000000 := by rw [← hn]; exact farI_bd ⟨hst.d1, hst.d2⟩ ⟨hst.n1, hst.n2⟩
  rw [hpx, hpy] at hp
  rw [hpx, hpy, hn, ← near_reach] at hv
  have bx := bx_iff.1 hx
  have ba := vld_iff.1 hst.at'
  have PX := Lib.hid hpx
  have PY := Lib.hid hpy
  have HN := Lib.hid hn
  have NB := Lib.hid hnb
  have HP := Lib.hid hp
  have HV := Lib.hid hv
  have HA := Lib.hid hst.at'
  have HS := Lib.hid hs
  have HT := Lib.hid ht
  clear hpx hpy hn hnb hp hv hs ht hx hst
  obtain ⟨⟨g1, g2, g3⟩, g4, g5, g6⟩ := bx
  obtain ⟨a1, a2, a3, a4⟩ := ba
  go_enter Try.func45, Try.ntmps45
  go_wp2_with fail
  refine wp_named fun W hW => ?_
  obtain ⟨p1, p2, hB⟩ := box2 hW
  clear hW
  have q1 := cellsR p1
  have q2 := cellsR p2
  have P1 := Lib.hid p1
  have P2 := Lib.hid p2
  clear p1 p2
  refine wp_region_tail 17 18 48 (fun _ => .cells #[.int .i64 0, .int .i64 0] 23) (by kernel_rfl) (by omega) (by kernel_rfl) (by kernel_rfl) (fun j o h1 h2 h3 ρ w => ?_) (by rfl) ?_
  · obtain rfl : j = 17 := by omega
    simp only [List.getElem?_cons_succ, List.getElem?_cons_zero, Option.some.injEq] at h3; subst h3; clear q1 q2; unfold ptr; go_simp
  simp only [List.take_succ_cons, List.take_zero, List.drop_succ_cons, List.drop_zero]
  (repeat (refine wpBQ_step (fun K hK => ?_); replace hK := Lib.hid hK; go_simp; first | (refine hK.out _ ?_; clear hK K) | (apply Exists.intro; refine ⟨fun _ => ?_, hK.out _ ?_⟩; (first | (go_at_call 46; first | exact farthest_any _ _ _ _ (by omega) (by omega) (by omega) PX.out | exact farthest_any _ _ _ _ (by omega) (by omega) (by omega) PY.out)); clear hK K)))
  refine wpBQ_nil ?_
  intro b9 W2 hW2 hob hne
  have o9 : W.heap.size ≤ b9 ∧ W2.heap[b9]? = some (.cells #[.int .i64 0, .int .i64 0] 23) := hob 17 (by omega) (by omega)
  clear hob hne q1 q2
  have l9 := o9.1
  have c9 := cell_block o9.2
  have f9 := free_block o9.2
  have O9 := Lib.hid o9.2
  clear o9
  simp only [ptr]
  go_wp2_with fail
  refine wp_named fun W3 hW3 => ?_
  have hB3 : Below w.heap.size w W3 := by rw [hW3]; exact ((below_step hB hW2).setCell (Nat.le_trans hB.size l9) _).setCell (Nat.le_trans hB.size l9) _
  have hWB : Below W.heap.size W W3 := by rw [hW3]; exact (hW2.setCell l9 _).setCell l9 _
  have p9 : W3.heap[b9]? = some (.cells #[.int .i64 px, .int .i64 py] 23) := by rw [hW3]; exact block_set (block_set O9.out _) _
  have p1 := block_later hWB P1.out
  have p2 := block_later hWB P2.out
  clear hW3 c9 f9 O9 hW2 P1 P2 l9 hWB hB
  have q9 := cellsR p9
  have q1 := cellsR p1
  clear p9 p1 p2
  (refine wp_region_quiet_below (by kernel_rfl) (by kernel_rfl) ?_; (repeat (refine wpQuiet_step (fun K hK => ?_); replace hK := Lib.hid hK; go_simp; first | (refine hK.out _ ?_; clear hK K) | (apply Exists.intro; refine ⟨fun _ => ?_, hK.out _ ?_⟩; (first | (go_at_call 42; exact Calls.regrown_of (far_any _ _ _ _ _ _ _ _ _ _ _ HS.out HT.out HN.out)) | (go_at_call 55; exact Calls.regrown_of (Near_yes _ _ _ _ _ _ _ _ HP.out HA.out HA.out NB.out HV.out))); clear hK K))); refine wpQuiet_nil ?_)
  intro W4 hW4
  have hB4 := regrown_below hW4
  have hB5 := below_step hB3 hB4
  clear hW4 q9 q1
  go_wp2_with fail
  go_returns
  exact ⟨rfl, hB5⟩
set_option maxHeartbeats 1000000 in
theorem reaches_some (id ax ay dr nr fi ev dn dk xl xh yl yh t : Int) (w : World) (hst : Stn id ax ay dr nr fi ev) (hs : Sn dn dk) (hx : Bx xl xh yl yh) (ht : Tm t) {v : Bool} (hv : reachB ax ay (nearI ax xl xh) (nearI ay yl yh) (farI dn dk dr nr t) = v) :
    Calls Try.prog 45 #[.agg #[.int .i64 id, .int .i64 ax, .int .i64 ay, .int .i64 dr, .int .i64 nr, .int .i64 fi, .int .i64 ev, .int .i64 dn, .int .i64 dk], .agg #[.int .i64 xl, .int .i64 xh, .int .i64 yl, .int .i64 yh], .int .i64 t, .func (.func 47) #[] #[]] w fun e w' => e = .returned (.bool v) ∧ Below w.heap.size w w' := by
  have hp := near_vld (ax := ax) (ay := ay) hx
  obtain ⟨px, hpx⟩ : ∃ z, nearI ax xl xh = z := ⟨_, rfl⟩
  obtain ⟨py, hpy⟩ : ∃ z, nearI ay yl yh = z := ⟨_, rfl⟩
  obtain ⟨n, hn⟩ : ∃ z, farI dn dk dr nr t = z := ⟨_, rfl⟩
  have hnb : 0 ≤ n ∧ n ≤ 3000000 := by rw [← hn]; exact farI_bd ⟨hst.d1, hst.d2⟩ ⟨hst.n1, hst.n2⟩
  rw [hpx, hpy] at hp
  rw [hpx, hpy, hn, ← near_reach] at hv
  have bx := bx_iff.1 hx
  have ba := vld_iff.1 hst.at'
  have PX := Lib.hid hpx
  have PY := Lib.hid hpy
  have HN := Lib.hid hn
  have NB := Lib.hid hnb
  have HP := Lib.hid hp
  have HV := Lib.hid hv
  have HA := Lib.hid hst.at'
  have HS := Lib.hid hs
  have HT := Lib.hid ht
  clear hpx hpy hn hnb hp hv hs ht hx hst
  obtain ⟨⟨g1, g2, g3⟩, g4, g5, g6⟩ := bx
  obtain ⟨a1, a2, a3, a4⟩ := ba
  go_enter Try.func45, Try.ntmps45
  go_wp2_with fail
  refine wp_named fun W hW => ?_
  obtain ⟨p1, p2, hB⟩ := box2 hW
  clear hW
  have q1 := cellsR p1
  have q2 := cellsR p2
  have P1 := Lib.hid p1
  have P2 := Lib.hid p2
  clear p1 p2
  refine wp_region_tail 17 18 48 (fun _ => .cells #[.int .i64 0, .int .i64 0] 23) (by kernel_rfl) (by omega) (by kernel_rfl) (by kernel_rfl) (fun j o h1 h2 h3 ρ w => ?_) (by rfl) ?_
  · obtain rfl : j = 17 := by omega
    simp only [List.getElem?_cons_succ, List.getElem?_cons_zero, Option.some.injEq] at h3; subst h3; clear q1 q2; unfold ptr; go_simp
  simp only [List.take_succ_cons, List.take_zero, List.drop_succ_cons, List.drop_zero]
  (repeat (refine wpBQ_step (fun K hK => ?_); replace hK := Lib.hid hK; go_simp; first | (refine hK.out _ ?_; clear hK K) | (apply Exists.intro; refine ⟨fun _ => ?_, hK.out _ ?_⟩; (first | (go_at_call 47; first | exact nearest_any _ _ _ _ PX.out | exact nearest_any _ _ _ _ PY.out)); clear hK K)))
  refine wpBQ_nil ?_
  intro b9 W2 hW2 hob hne
  have o9 : W.heap.size ≤ b9 ∧ W2.heap[b9]? = some (.cells #[.int .i64 0, .int .i64 0] 23) := hob 17 (by omega) (by omega)
  clear hob hne q1 q2
  have l9 := o9.1
  have c9 := cell_block o9.2
  have f9 := free_block o9.2
  have O9 := Lib.hid o9.2
  clear o9
  simp only [ptr]
  go_wp2_with fail
  refine wp_named fun W3 hW3 => ?_
  have hB3 : Below w.heap.size w W3 := by rw [hW3]; exact ((below_step hB hW2).setCell (Nat.le_trans hB.size l9) _).setCell (Nat.le_trans hB.size l9) _
  have hWB : Below W.heap.size W W3 := by rw [hW3]; exact (hW2.setCell l9 _).setCell l9 _
  have p9 : W3.heap[b9]? = some (.cells #[.int .i64 px, .int .i64 py] 23) := by rw [hW3]; exact block_set (block_set O9.out _) _
  have p1 := block_later hWB P1.out
  have p2 := block_later hWB P2.out
  clear hW3 c9 f9 O9 hW2 P1 P2 l9 hWB hB
  have q9 := cellsR p9
  have q1 := cellsR p1
  clear p9 p1 p2
  (refine wp_region_quiet_below (by kernel_rfl) (by kernel_rfl) ?_; (repeat (refine wpQuiet_step (fun K hK => ?_); replace hK := Lib.hid hK; go_simp; first | (refine hK.out _ ?_; clear hK K) | (apply Exists.intro; refine ⟨fun _ => ?_, hK.out _ ?_⟩; (first | (go_at_call 42; exact Calls.regrown_of (far_any _ _ _ _ _ _ _ _ _ _ _ HS.out HT.out HN.out)) | (go_at_call 55; exact Calls.regrown_of (Near_yes _ _ _ _ _ _ _ _ HP.out HA.out HA.out NB.out HV.out))); clear hK K))); refine wpQuiet_nil ?_)
  intro W4 hW4
  have hB4 := regrown_below hW4
  have hB5 := below_step hB3 hB4
  clear hW4 q9 q1
  go_wp2_with fail
  go_returns
  exact ⟨rfl, hB5⟩
end Go.Proofs.Ytnidacjmgekdjaa
