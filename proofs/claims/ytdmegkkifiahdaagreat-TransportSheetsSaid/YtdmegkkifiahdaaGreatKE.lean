/- DatA, DatB, DatC, DatD: joined. -/
import Derived.Test.YtdmegkkifiahdaaGreatSpanA
import Derived.Test.YtdmegkkifiahdaaGreatPC
import Derived.Test.YtdmegkkifiahdaaGreatShtA
/- The walks of package datum: rounding, rows, the middle of a place, the box of one place. -/
namespace Go.Proofs.YtdmegkkifiahdaaGreat
open Go.RowKit Go.Shelf
attribute [local go_sem] bqOp bqAll bqUpon sqOp sqAll sqUpon ssAll ssOp
attribute [local irreducible] wpQuiet wpBQ wpPlan wsPlan
set_option linter.unusedVariables false
theorem tdiv_floor {a b : Int} (hb : 0 < b) : (if a.tmod b < 0 then a.tdiv b - 1 else a.tdiv b) = a / b := by
  rcases Int.le_total 0 a with h | h
  · have h1 : 0 ≤ a.tmod b := Int.tmod_nonneg b h
    rw [if_neg (by omega), Int.tdiv_eq_ediv_of_nonneg h]
  · obtain ⟨n, rfl⟩ : ∃ n, a = -n := ⟨-a, by omega⟩
    have hn : 0 ≤ n := by omega
    rw [Int.neg_tmod, Int.neg_tdiv, Int.tmod_eq_emod_of_nonneg hn, Int.tdiv_eq_ediv_of_nonneg hn]
    have e1 := Int.mul_ediv_add_emod n b
    have e2 := Int.mul_ediv_add_emod (-n) b
    have e3 := Int.emod_nonneg n (Int.ne_of_gt hb)
    have e4 := Int.emod_nonneg (-n) (Int.ne_of_gt hb)
    have e5 := Int.emod_lt_of_pos n hb
    have e6 := Int.emod_lt_of_pos (-n) hb
    obtain ⟨q, hq⟩ : ∃ q, n / b = q := ⟨_, rfl⟩
    obtain ⟨q', hq'⟩ : ∃ q, (-n) / b = q := ⟨_, rfl⟩
    obtain ⟨r, hr⟩ : ∃ q, n % b = q := ⟨_, rfl⟩
    obtain ⟨r', hr'⟩ : ∃ q, (-n) % b = q := ⟨_, rfl⟩
    rw [hq, hr] at e1
    rw [hq', hr'] at e2
    rw [hr] at e3 e5
    rw [hr'] at e4 e6
    rw [hq, hr, hq']
    have hs : b * (q + q') = -(r + r') := by rw [Int.mul_add]; omega
    by_cases h0 : -r < 0
    · rw [if_pos h0]
      have : q + q' = -1 := by
        have a1 : q + q' < 0 := by
          refine Int.not_le.1 fun hc => ?_
          have := mul_nn (Int.le_of_lt hb) hc
          omega
        have a2 : -2 < q + q' := by
          refine Int.not_le.1 fun hc => ?_
          have := mul_nn (Int.le_of_lt hb) (show 0 ≤ -2 - (q + q') by omega)
          rw [Int.mul_sub] at this
          omega
        omega
      omega
    · rw [if_neg h0]
      have : q + q' = 0 := by
        have a1 : q + q' < 1 := by
          refine Int.not_le.1 fun hc => ?_
          have := mul_nn (Int.le_of_lt hb) (show 0 ≤ q + q' - 1 by omega)
          rw [Int.mul_sub] at this
          omega
        have a2 : -1 < q + q' := by
          refine Int.not_le.1 fun hc => ?_
          have := mul_nn (Int.le_of_lt hb) (show 0 ≤ -1 - (q + q') by omega)
          rw [Int.mul_sub] at this
          omega
        omega
      omega
theorem tdiv_bd {a b A : Int} (hb : 1 ≤ b) (h1 : -A ≤ a) (h2 : a ≤ A) : -A ≤ a.tdiv b ∧ a.tdiv b ≤ A := by
  rcases Int.le_total 0 a with h | h
  · rw [Int.tdiv_eq_ediv_of_nonneg h]
    have e1 := Int.ediv_nonneg h (show 0 ≤ b by omega)
    have e2 := Int.ediv_le_self b h
    omega
  · obtain ⟨n, rfl⟩ : ∃ n, a = -n := ⟨-a, by omega⟩
    have hn : 0 ≤ n := by omega
    rw [Int.neg_tdiv, Int.tdiv_eq_ediv_of_nonneg hn]
    have e1 := Int.ediv_nonneg hn (show 0 ≤ b by omega)
    have e2 := Int.ediv_le_self b hn
    omega
theorem dtdown_any (a b : Int) (w : World) (ha : -4000000000000000000 ≤ a ∧ a ≤ 4000000000000000000) (hb : 1 ≤ b ∧ b ≤ 4000000000000000000) {v : Int} (hv : a / b = v) :
    Calls Tryz.prog 395 #[.int .i64 a, .int .i64 b] w fun e w' => e = .returned (.int .i64 v) ∧ Below w.heap.size w w' := by
  have HV := Lib.hid (show (if a.tmod b < 0 then a.tdiv b - 1 else a.tdiv b) = v by rw [tdiv_floor (by omega), hv])
  obtain ⟨a1, a2⟩ := ha
  obtain ⟨b1, b2⟩ := hb
  have hb0 : b ≠ 0 := by omega
  have hb1 : b ≠ -1 := by omega
  clear hv
  obtain ⟨t1, t2⟩ := tdiv_bd b1 a1 a2
  go_enter Tryz.func395, Tryz.ntmps395
  go_wp2
  · go_returns
    exact ⟨ret_int (by rw [← HV.out, if_pos (by assumption)]), by go_grown⟩
  · go_returns
    exact ⟨ret_int (by rw [← HV.out, if_neg (by omega)]), by go_grown⟩
theorem dtup_any (a b : Int) (w : World) (ha : -4000000000000000000 ≤ a ∧ a ≤ 4000000000000000000) (hb : 1 ≤ b ∧ b ≤ 4000000000000000000) {v : Int} (hv : -((-a) / b) = v) :
    Calls Tryz.prog 355 #[.int .i64 a, .int .i64 b] w fun e w' => e = .returned (.int .i64 v) ∧ Below w.heap.size w w' := by
  obtain ⟨u, hu⟩ : ∃ u, (-a) / b = u := ⟨_, rfl⟩
  rw [hu] at hv
  have U := Lib.hid hu
  have HV := Lib.hid hv
  have hu1 : -4000000000000000001 ≤ u ∧ u ≤ 4000000000000000000 := by
    have h1 := tdiv_bd (a := -a) (b := b) (A := 4000000000000000000) hb.1 (by omega) (by omega)
    have h2 := tdiv_floor (a := -a) (b := b) (by omega)
    rw [hu] at h2
    split at h2 <;> omega
  obtain ⟨a1, a2⟩ := ha
  obtain ⟨u1, u2⟩ := hu1
  have HB := Lib.hid hb
  clear hu hv hb
  go_enter Tryz.func355, Tryz.ntmps355
  go_wp2_with fail
  (with_reducible refine (dtdown_any _ _ _ ⟨by omega, by omega⟩ HB.out U.out).mono ?_)
  rintro e w1 ⟨rfl, hb1⟩
  go_wp2_with fail
  go_returns
  exact ⟨ret_int HV.out, hb1⟩
def linR (r0 r1 r2 x y : Int) : Int := r0 * x + r1 * y + 1000000 * r2
theorem dtread_any (a b c d e f r : Int) (w : World) : Calls Tryz.prog 169 #[.agg #[.int .i64 a, .int .i64 b, .int .i64 c, .int .i64 d, .int .i64 e, .int .i64 f, .int .i64 r]] w fun z w' => z = .returned (.agg #[.int .i64 a, .int .i64 b, .int .i64 c, .int .i64 d, .int .i64 e, .int .i64 f, .int .i64 r]) ∧ Below w.heap.size w w' := by
  have HB := Lib.hid (((Below.refl w.heap.size w).alloc (Nat.le_refl _) (.cells #[.int .i64 a, .int .i64 b, .int .i64 c, .int .i64 d, .int .i64 e, .int .i64 f, .int .i64 r] 52)).alloc (by simp only [World.size_alloc]; omega) (.cells #[.int .i64 a, .int .i64 b, .int .i64 c, .int .i64 d, .int .i64 e, .int .i64 f, .int .i64 r] 227))
  go_enter Tryz.func169, Tryz.ntmps169
  go_wp2
  exact bodyPost_ret (v := .agg #[.int .i64 a, .int .i64 b, .int .i64 c, .int .i64 d, .int .i64 e, .int .i64 f, .int .i64 r]) (by simp [results, Tryz.results169, go_sem]) rfl ⟨rfl, HB.out⟩
theorem dtone_any (x y : Int) (w : World) : Calls Tryz.prog 340 #[.agg #[.int .i64 x, .int .i64 y]] w fun z w' => z = .returned (.agg #[.int .i64 x, .int .i64 x, .int .i64 y, .int .i64 y]) ∧ Below w.heap.size w w' := by
  have HB := Lib.hid (((Below.refl w.heap.size w).alloc (Nat.le_refl _) (.cells #[.int .i64 x, .int .i64 y] 28)).alloc (by simp only [World.size_alloc]; omega) (.cells #[.int .i64 x, .int .i64 x, .int .i64 y, .int .i64 y] 240))
  go_enter Tryz.func340, Tryz.ntmps340
  go_wp2
  exact bodyPost_ret (v := .agg #[.int .i64 x, .int .i64 x, .int .i64 y, .int .i64 y]) (by simp [results, Tryz.results340, go_sem]) rfl ⟨rfl, HB.out⟩
theorem dtleast_any (r0 r1 r2 x y : Int) (w : World) (h0 : -2000000 ≤ r0 ∧ r0 ≤ 2000000) (h1 : -2000000 ≤ r1 ∧ r1 ≤ 2000000) (h2 : -10000000 ≤ r2 ∧ r2 ≤ 10000000) (hx : -1000000 ≤ x ∧ x ≤ 1000000) (hy : -1000000 ≤ y ∧ y ≤ 1000000) {v : Int} (hv : linR r0 r1 r2 x y = v) :
    Calls Tryz.prog 397 #[.agg #[.int .i64 r0, .int .i64 r1, .int .i64 r2], .agg #[.int .i64 x, .int .i64 x, .int .i64 y, .int .i64 y]] w fun e w' => e = .returned (.int .i64 v) ∧ Below w.heap.size w w' := by
  have HV := Lib.hid (show r0 * x + r1 * y + 1000000 * r2 = v from hv)
  obtain ⟨a1, a2⟩ := mul_bd h0.1 h0.2 hx.1 hx.2
  obtain ⟨b1, b2⟩ := mul_bd h1.1 h1.2 hy.1 hy.2
  obtain ⟨c1, c2⟩ := h2
  clear h0 h1 hx hy hv
  go_enter Tryz.func397, Tryz.ntmps397
  go_wp2
  all_goals
    go_returns
    exact ⟨ret_int HV.out, by go_grown⟩
theorem dtmost_any (r0 r1 r2 x y : Int) (w : World) (h0 : -2000000 ≤ r0 ∧ r0 ≤ 2000000) (h1 : -2000000 ≤ r1 ∧ r1 ≤ 2000000) (h2 : -10000000 ≤ r2 ∧ r2 ≤ 10000000) (hx : -1000000 ≤ x ∧ x ≤ 1000000) (hy : -1000000 ≤ y ∧ y ≤ 1000000) {v : Int} (hv : linR r0 r1 r2 x y = v) :
    Calls Tryz.prog 398 #[.agg #[.int .i64 r0, .int .i64 r1, .int .i64 r2], .agg #[.int .i64 x, .int .i64 x, .int .i64 y, .int .i64 y]] w fun e w' => e = .returned (.int .i64 v) ∧ Below w.heap.size w w' := by
  have HV := Lib.hid (show r0 * x + r1 * y + 1000000 * r2 = v from hv)
  obtain ⟨a1, a2⟩ := mul_bd h0.1 h0.2 hx.1 hx.2
  obtain ⟨b1, b2⟩ := mul_bd h1.1 h1.2 hy.1 hy.2
  obtain ⟨c1, c2⟩ := h2
  clear h0 h1 hx hy hv
  go_enter Tryz.func398, Tryz.ntmps398
  go_wp2
  all_goals
    go_returns
    exact ⟨ret_int HV.out, by go_grown⟩
end Go.Proofs.YtdmegkkifiahdaaGreat
/- The walks of package datum: both rows, the rounding of a span. -/
namespace Go.Proofs.YtdmegkkifiahdaaGreat
open Go.RowKit Go.Shelf
attribute [local go_sem] bqOp bqAll bqUpon sqOp sqAll sqUpon ssAll ssOp
attribute [local irreducible] wpQuiet wpBQ wpPlan wsPlan
set_option linter.unusedVariables false
theorem KeepB.call {W w w2 : World} {B : Nat} {bs : List Nat} (h : KeepB W B bs w) (hb : Below w.heap.size w w2) (hB : B ≤ W.heap.size) (hin : ∀ b ∈ bs, b < W.heap.size) : KeepB W B bs w2 :=
  ⟨h.1.trans (hb.mono (Nat.le_trans hB h.1.size)), fun b hm => (hb.block b (Nat.lt_of_lt_of_le (hin b hm) h.1.size)).trans (h.2 b hm)⟩
structure RowB (r0 r1 r2 : Int) : Prop where
  r0 : -2000000 ≤ r0 ∧ r0 ≤ 2000000
  r1 : -2000000 ≤ r1 ∧ r1 ≤ 2000000
  r2 : -10000000 ≤ r2 ∧ r2 ≤ 10000000
set_option maxHeartbeats 1000000 in
theorem dtboth_dtleast (a b c d e f x y : Int) (w : World) (h1 : RowB a b c) (h2 : RowB d e f) (hx : -1000000 ≤ x ∧ x ≤ 1000000) (hy : -1000000 ≤ y ∧ y ≤ 1000000) {u v : Int} (hu : linR a b c x y = u) (hv : linR d e f x y = v) :
    Calls Tryz.prog 396 #[.agg #[.int .i64 a, .int .i64 b, .int .i64 c, .int .i64 d, .int .i64 e, .int .i64 f], .func (.func 397) #[] #[], .agg #[.int .i64 x, .int .i64 x, .int .i64 y, .int .i64 y]] w fun z w' => z = .returned (.agg #[.int .i64 u, .int .i64 v]) ∧ Below w.heap.size w w' := by
  have H1 := Lib.hid h1
  have H2 := Lib.hid h2
  have HX := Lib.hid hx
  have HY := Lib.hid hy
  have U := Lib.hid hu
  have V := Lib.hid hv
  clear h1 h2 hx hy hu hv
  go_enter Tryz.func396, Tryz.ntmps396
  go_wp2_with fail
  refine wp_named fun W hW => ?_
  obtain ⟨p1, p2, p3, hB⟩ := box3 hW
  clear hW
  have hs : w.heap.size + 2 < W.heap.size := lt_block p3
  have F1 : ∀ w', KeepB W w.heap.size [w.heap.size, w.heap.size + 1] w' → ∀ i, w'.cell? ⟨w.heap.size, i, none⟩ = #[.int .i64 a, .int .i64 b, .int .i64 c, .int .i64 d, .int .i64 e, .int .i64 f][i]? := fun w' hw i => cell_block (hw.at (by simp) p1) i
  have F2 : ∀ w', KeepB W w.heap.size [w.heap.size, w.heap.size + 1] w' → ∀ i, w'.cell? ⟨w.heap.size + 1, i, none⟩ = #[.int .i64 x, .int .i64 x, .int .i64 y, .int .i64 y][i]? := fun w' hw i => cell_block (hw.at (by simp) p2) i
  have hin : ∀ b ∈ [w.heap.size, w.heap.size + 1], b < W.heap.size := fun b hb => by
    simp only [List.mem_cons, List.not_mem_nil, or_false] at hb
    omega
  have HIN := Lib.hid hin
  clear hin
  refine wp_region_planS (KeepB W w.heap.size [w.heap.size, w.heap.size + 1]) (.take 0 (.take 0 (.take 0 (.take 0 (.take 1 (.take 1 (.take 1 (.take 1 (.only 0 (.only 0 (.take 0 (.only 0 .done)))))))))))) (by kernel_rfl) (by kernel_rfl) KeepB.refl (fun hP => ?_)
  (refine wsPlan_take rfl (fun K hK => ?_); replace hK := Lib.hid hK; go_simp; first | (refine hK.out _ ?_; clear hK K) | (apply Exists.intro; refine ⟨fun w' hw => ?_, hK.out _ ?_⟩; (first | with_reducible exact rfl | (have f1 := F1 w' hw; have f2 := F2 w' hw; go_simp; exact rfl)); clear hK K))
  (refine wsPlan_take rfl (fun K hK => ?_); replace hK := Lib.hid hK; go_simp; first | (refine hK.out _ ?_; clear hK K) | (apply Exists.intro; refine ⟨fun w' hw => ?_, hK.out _ ?_⟩; (first | with_reducible exact rfl | (have f1 := F1 w' hw; have f2 := F2 w' hw; go_simp; exact rfl)); clear hK K))
  (refine wsPlan_take rfl (fun K hK => ?_); replace hK := Lib.hid hK; go_simp; first | (refine hK.out _ ?_; clear hK K) | (apply Exists.intro; refine ⟨fun w' hw => ?_, hK.out _ ?_⟩; (first | with_reducible exact rfl | (have f1 := F1 w' hw; have f2 := F2 w' hw; go_simp; exact rfl)); clear hK K))
  (refine wsPlan_take rfl (fun K hK => ?_); replace hK := Lib.hid hK; go_simp; first | (refine hK.out _ ?_; clear hK K) | (apply Exists.intro; refine ⟨fun w' hw => ?_, hK.out _ ?_⟩; (first | with_reducible exact rfl | (have f1 := F1 w' hw; have f2 := F2 w' hw; go_simp; exact rfl)); clear hK K))
  (refine wsPlan_take rfl (fun K hK => ?_); replace hK := Lib.hid hK; go_simp; first | (refine hK.out _ ?_; clear hK K) | (apply Exists.intro; refine ⟨fun w' hw => ?_, hK.out _ ?_⟩; (first | with_reducible exact rfl | (have f1 := F1 w' hw; have f2 := F2 w' hw; go_simp; exact rfl)); clear hK K))
  (refine wsPlan_take rfl (fun K hK => ?_); replace hK := Lib.hid hK; go_simp; first | (refine hK.out _ ?_; clear hK K) | (apply Exists.intro; refine ⟨fun w' hw => ?_, hK.out _ ?_⟩; (first | with_reducible exact rfl | (have f1 := F1 w' hw; have f2 := F2 w' hw; go_simp; exact rfl)); clear hK K))
  (refine wsPlan_take rfl (fun K hK => ?_); replace hK := Lib.hid hK; go_simp; first | (refine hK.out _ ?_; clear hK K) | (apply Exists.intro; refine ⟨fun w' hw => ?_, hK.out _ ?_⟩; (first | with_reducible exact rfl | (have f1 := F1 w' hw; have f2 := F2 w' hw; go_simp; exact rfl)); clear hK K))
  (refine wsPlan_take rfl (fun K hK => ?_); replace hK := Lib.hid hK; go_simp; first | (refine hK.out _ ?_; clear hK K) | (apply Exists.intro; refine ⟨fun w' hw => ?_, hK.out _ ?_⟩; (first | with_reducible exact rfl | (have f1 := F1 w' hw; have f2 := F2 w' hw; go_simp; exact rfl)); clear hK K))
  (refine wsPlan_only rfl (fun K hK => ?_); replace hK := Lib.hid hK; go_simp; go_at_call 397; (with_reducible refine (dtleast_any _ _ _ _ _ _ H1.out.r0 H1.out.r1 H1.out.r2 HX.out HY.out U.out).mono ?_); rintro z w1 ⟨rfl, hb1⟩; have hP1 := hP.call hb1 hB.size HIN.out; have r1 := block_later hb1 (show W.drew.heap[w.heap.size + 2]? = _ from p3); refine hK.out _ _ hP1 (fun hP => ?_); clear hK K)
  (refine wsPlan_only rfl (fun K hK => ?_); replace hK := Lib.hid hK; go_simp; go_at_call 397; (with_reducible refine (dtleast_any _ _ _ _ _ _ H2.out.r0 H2.out.r1 H2.out.r2 HX.out HY.out V.out).mono ?_); rintro z w2 ⟨rfl, hb2⟩; have hP2 := hP.call hb2 hB.size HIN.out; have r2 := block_later hb2 r1; refine hK.out _ _ hP2 (fun hP => ?_); clear hK K)
  have f3 := free_block r2
  have c3 := cell_block r2
  (refine wsPlan_take rfl (fun K hK => ?_); replace hK := Lib.hid hK; go_simp; first | (refine hK.out _ ?_; clear hK K) | (apply Exists.intro; refine ⟨fun w' hw => ?_, hK.out _ ?_⟩; (first | with_reducible exact rfl | (have f1 := F1 w' hw; have f2 := F2 w' hw; go_simp; exact rfl)); clear hK K))
  (refine wsPlan_only rfl (fun K hK => ?_); replace hK := Lib.hid hK; go_simp; refine hK.out _ _ (by exact (hP.setCell (by omega) (by simp <;> omega) _).setCell (by omega) (by simp <;> omega) _) (fun hP => ?_); clear hK K)
  refine wsPlan_done ?_
  have c9 := cell_block (block_set (i := 1) (block_set (i := 0) r2 (.int .i64 u)) (.int .i64 v))
  go_wp2_with fail
  exact bodyPost_ret (v := .agg #[.int .i64 u, .int .i64 v]) (by simp [results, Tryz.results396, go_sem, c9]) rfl ⟨rfl, hB.trans hP.1⟩
set_option maxHeartbeats 1000000 in
theorem dtboth_dtmost (a b c d e f x y : Int) (w : World) (h1 : RowB a b c) (h2 : RowB d e f) (hx : -1000000 ≤ x ∧ x ≤ 1000000) (hy : -1000000 ≤ y ∧ y ≤ 1000000) {u v : Int} (hu : linR a b c x y = u) (hv : linR d e f x y = v) :
    Calls Tryz.prog 396 #[.agg #[.int .i64 a, .int .i64 b, .int .i64 c, .int .i64 d, .int .i64 e, .int .i64 f], .func (.func 398) #[] #[], .agg #[.int .i64 x, .int .i64 x, .int .i64 y, .int .i64 y]] w fun z w' => z = .returned (.agg #[.int .i64 u, .int .i64 v]) ∧ Below w.heap.size w w' := by
  have H1 := Lib.hid h1
  have H2 := Lib.hid h2
  have HX := Lib.hid hx
  have HY := Lib.hid hy
  have U := Lib.hid hu
  have V := Lib.hid hv
  clear h1 h2 hx hy hu hv
  go_enter Tryz.func396, Tryz.ntmps396
  go_wp2_with fail
  refine wp_named fun W hW => ?_
  obtain ⟨p1, p2, p3, hB⟩ := box3 hW
  clear hW
  have hs : w.heap.size + 2 < W.heap.size := lt_block p3
  have F1 : ∀ w', KeepB W w.heap.size [w.heap.size, w.heap.size + 1] w' → ∀ i, w'.cell? ⟨w.heap.size, i, none⟩ = #[.int .i64 a, .int .i64 b, .int .i64 c, .int .i64 d, .int .i64 e, .int .i64 f][i]? := fun w' hw i => cell_block (hw.at (by simp) p1) i
  have F2 : ∀ w', KeepB W w.heap.size [w.heap.size, w.heap.size + 1] w' → ∀ i, w'.cell? ⟨w.heap.size + 1, i, none⟩ = #[.int .i64 x, .int .i64 x, .int .i64 y, .int .i64 y][i]? := fun w' hw i => cell_block (hw.at (by simp) p2) i
  have hin : ∀ b ∈ [w.heap.size, w.heap.size + 1], b < W.heap.size := fun b hb => by
    simp only [List.mem_cons, List.not_mem_nil, or_false] at hb
    omega
  have HIN := Lib.hid hin
  clear hin
  refine wp_region_planS (KeepB W w.heap.size [w.heap.size, w.heap.size + 1]) (.take 0 (.take 0 (.take 0 (.take 0 (.take 1 (.take 1 (.take 1 (.take 1 (.only 0 (.only 0 (.take 0 (.only 0 .done)))))))))))) (by kernel_rfl) (by kernel_rfl) KeepB.refl (fun hP => ?_)
  (refine wsPlan_take rfl (fun K hK => ?_); replace hK := Lib.hid hK; go_simp; first | (refine hK.out _ ?_; clear hK K) | (apply Exists.intro; refine ⟨fun w' hw => ?_, hK.out _ ?_⟩; (first | with_reducible exact rfl | (have f1 := F1 w' hw; have f2 := F2 w' hw; go_simp; exact rfl)); clear hK K))
  (refine wsPlan_take rfl (fun K hK => ?_); replace hK := Lib.hid hK; go_simp; first | (refine hK.out _ ?_; clear hK K) | (apply Exists.intro; refine ⟨fun w' hw => ?_, hK.out _ ?_⟩; (first | with_reducible exact rfl | (have f1 := F1 w' hw; have f2 := F2 w' hw; go_simp; exact rfl)); clear hK K))
  (refine wsPlan_take rfl (fun K hK => ?_); replace hK := Lib.hid hK; go_simp; first | (refine hK.out _ ?_; clear hK K) | (apply Exists.intro; refine ⟨fun w' hw => ?_, hK.out _ ?_⟩; (first | with_reducible exact rfl | (have f1 := F1 w' hw; have f2 := F2 w' hw; go_simp; exact rfl)); clear hK K))
  (refine wsPlan_take rfl (fun K hK => ?_); replace hK := Lib.hid hK; go_simp; first | (refine hK.out _ ?_; clear hK K) | (apply Exists.intro; refine ⟨fun w' hw => ?_, hK.out _ ?_⟩; (first | with_reducible exact rfl | (have f1 := F1 w' hw; have f2 := F2 w' hw; go_simp; exact rfl)); clear hK K))
  (refine wsPlan_take rfl (fun K hK => ?_); replace hK := Lib.hid hK; go_simp; first | (refine hK.out _ ?_; clear hK K) | (apply Exists.intro; refine ⟨fun w' hw => ?_, hK.out _ ?_⟩; (first | with_reducible exact rfl | (have f1 := F1 w' hw; have f2 := F2 w' hw; go_simp; exact rfl)); clear hK K))
  (refine wsPlan_take rfl (fun K hK => ?_); replace hK := Lib.hid hK; go_simp; first | (refine hK.out _ ?_; clear hK K) | (apply Exists.intro; refine ⟨fun w' hw => ?_, hK.out _ ?_⟩; (first | with_reducible exact rfl | (have f1 := F1 w' hw; have f2 := F2 w' hw; go_simp; exact rfl)); clear hK K))
  (refine wsPlan_take rfl (fun K hK => ?_); replace hK := Lib.hid hK; go_simp; first | (refine hK.out _ ?_; clear hK K) | (apply Exists.intro; refine ⟨fun w' hw => ?_, hK.out _ ?_⟩; (first | with_reducible exact rfl | (have f1 := F1 w' hw; have f2 := F2 w' hw; go_simp; exact rfl)); clear hK K))
  (refine wsPlan_take rfl (fun K hK => ?_); replace hK := Lib.hid hK; go_simp; first | (refine hK.out _ ?_; clear hK K) | (apply Exists.intro; refine ⟨fun w' hw => ?_, hK.out _ ?_⟩; (first | with_reducible exact rfl | (have f1 := F1 w' hw; have f2 := F2 w' hw; go_simp; exact rfl)); clear hK K))
  (refine wsPlan_only rfl (fun K hK => ?_); replace hK := Lib.hid hK; go_simp; go_at_call 398; (with_reducible refine (dtmost_any _ _ _ _ _ _ H1.out.r0 H1.out.r1 H1.out.r2 HX.out HY.out U.out).mono ?_); rintro z w1 ⟨rfl, hb1⟩; have hP1 := hP.call hb1 hB.size HIN.out; have r1 := block_later hb1 (show W.drew.heap[w.heap.size + 2]? = _ from p3); refine hK.out _ _ hP1 (fun hP => ?_); clear hK K)
  (refine wsPlan_only rfl (fun K hK => ?_); replace hK := Lib.hid hK; go_simp; go_at_call 398; (with_reducible refine (dtmost_any _ _ _ _ _ _ H2.out.r0 H2.out.r1 H2.out.r2 HX.out HY.out V.out).mono ?_); rintro z w2 ⟨rfl, hb2⟩; have hP2 := hP.call hb2 hB.size HIN.out; have r2 := block_later hb2 r1; refine hK.out _ _ hP2 (fun hP => ?_); clear hK K)
  have f3 := free_block r2
  have c3 := cell_block r2
  (refine wsPlan_take rfl (fun K hK => ?_); replace hK := Lib.hid hK; go_simp; first | (refine hK.out _ ?_; clear hK K) | (apply Exists.intro; refine ⟨fun w' hw => ?_, hK.out _ ?_⟩; (first | with_reducible exact rfl | (have f1 := F1 w' hw; have f2 := F2 w' hw; go_simp; exact rfl)); clear hK K))
  (refine wsPlan_only rfl (fun K hK => ?_); replace hK := Lib.hid hK; go_simp; refine hK.out _ _ (by exact (hP.setCell (by omega) (by simp <;> omega) _).setCell (by omega) (by simp <;> omega) _) (fun hP => ?_); clear hK K)
  refine wsPlan_done ?_
  have c9 := cell_block (block_set (i := 1) (block_set (i := 0) r2 (.int .i64 u)) (.int .i64 v))
  go_wp2_with fail
  exact bodyPost_ret (v := .agg #[.int .i64 u, .int .i64 v]) (by simp [results, Tryz.results396, go_sem, c9]) rfl ⟨rfl, hB.trans hP.1⟩
set_option maxHeartbeats 1000000 in
theorem dtapply_any (lo hi : Int) (w : World) (h1 : -4000000000000000000 ≤ lo ∧ lo ≤ 4000000000000000000) (h2 : -4000000000000000000 ≤ hi ∧ hi ≤ 4000000000000000000) {u v : Int} (hu : lo / 1000000 = u) (hv : -((-hi) / 1000000) = v) :
    Calls Tryz.prog 399 #[.agg #[.func (.func 395) #[] #[], .func (.func 355) #[] #[]], .int .i64 lo, .int .i64 hi, .int .i64 1000000] w fun z w' => z = .returned (.agg #[.int .i64 u, .int .i64 v]) ∧ Below w.heap.size w w' := by
  have H1 := Lib.hid h1
  have H2 := Lib.hid h2
  have HM : Hid ((1 : Int) ≤ 1000000 ∧ (1000000 : Int) ≤ 4000000000000000000) := Lib.hid ⟨by omega, by omega⟩
  have U := Lib.hid hu
  have V := Lib.hid hv
  clear h1 h2 hu hv
  go_enter Tryz.func399, Tryz.ntmps399
  go_wp2_with fail
  refine wp_named fun W hW => ?_
  obtain ⟨p1, p3, hB⟩ := box2 hW
  clear hW
  have hs : w.heap.size + 1 < W.heap.size := lt_block p3
  have F1 : ∀ w', KeepB W w.heap.size [w.heap.size] w' → ∀ i, w'.cell? ⟨w.heap.size, i, none⟩ = #[.func (.func 395) #[] #[], .func (.func 355) #[] #[]][i]? := fun w' hw i => cell_block (hw.at (by simp) p1) i
  have F2 := F1
  have hin : ∀ b ∈ [w.heap.size], b < W.heap.size := fun b hb => by
    simp only [List.mem_cons, List.not_mem_nil, or_false] at hb
    omega
  have HIN := Lib.hid hin
  clear hin
  refine wp_region_planS (KeepB W w.heap.size [w.heap.size]) (.take 0 (.take 0 (.take 0 (.take 0 (.take 1 (.take 1 (.take 1 (.take 1 (.only 0 (.only 0 (.take 0 (.only 0 .done)))))))))))) (by kernel_rfl) (by kernel_rfl) KeepB.refl (fun hP => ?_)
  (refine wsPlan_take rfl (fun K hK => ?_); replace hK := Lib.hid hK; go_simp; first | (refine hK.out _ ?_; clear hK K) | (apply Exists.intro; refine ⟨fun w' hw => ?_, hK.out _ ?_⟩; (first | with_reducible exact rfl | (have f1 := F1 w' hw; have f2 := F2 w' hw; go_simp; exact rfl)); clear hK K))
  (refine wsPlan_take rfl (fun K hK => ?_); replace hK := Lib.hid hK; go_simp; first | (refine hK.out _ ?_; clear hK K) | (apply Exists.intro; refine ⟨fun w' hw => ?_, hK.out _ ?_⟩; (first | with_reducible exact rfl | (have f1 := F1 w' hw; have f2 := F2 w' hw; go_simp; exact rfl)); clear hK K))
  (refine wsPlan_take rfl (fun K hK => ?_); replace hK := Lib.hid hK; go_simp; first | (refine hK.out _ ?_; clear hK K) | (apply Exists.intro; refine ⟨fun w' hw => ?_, hK.out _ ?_⟩; (first | with_reducible exact rfl | (have f1 := F1 w' hw; have f2 := F2 w' hw; go_simp; exact rfl)); clear hK K))
  (refine wsPlan_take rfl (fun K hK => ?_); replace hK := Lib.hid hK; go_simp; first | (refine hK.out _ ?_; clear hK K) | (apply Exists.intro; refine ⟨fun w' hw => ?_, hK.out _ ?_⟩; (first | with_reducible exact rfl | (have f1 := F1 w' hw; have f2 := F2 w' hw; go_simp; exact rfl)); clear hK K))
  (refine wsPlan_take rfl (fun K hK => ?_); replace hK := Lib.hid hK; go_simp; first | (refine hK.out _ ?_; clear hK K) | (apply Exists.intro; refine ⟨fun w' hw => ?_, hK.out _ ?_⟩; (first | with_reducible exact rfl | (have f1 := F1 w' hw; have f2 := F2 w' hw; go_simp; exact rfl)); clear hK K))
  (refine wsPlan_take rfl (fun K hK => ?_); replace hK := Lib.hid hK; go_simp; first | (refine hK.out _ ?_; clear hK K) | (apply Exists.intro; refine ⟨fun w' hw => ?_, hK.out _ ?_⟩; (first | with_reducible exact rfl | (have f1 := F1 w' hw; have f2 := F2 w' hw; go_simp; exact rfl)); clear hK K))
  (refine wsPlan_take rfl (fun K hK => ?_); replace hK := Lib.hid hK; go_simp; first | (refine hK.out _ ?_; clear hK K) | (apply Exists.intro; refine ⟨fun w' hw => ?_, hK.out _ ?_⟩; (first | with_reducible exact rfl | (have f1 := F1 w' hw; have f2 := F2 w' hw; go_simp; exact rfl)); clear hK K))
  (refine wsPlan_take rfl (fun K hK => ?_); replace hK := Lib.hid hK; go_simp; first | (refine hK.out _ ?_; clear hK K) | (apply Exists.intro; refine ⟨fun w' hw => ?_, hK.out _ ?_⟩; (first | with_reducible exact rfl | (have f1 := F1 w' hw; have f2 := F2 w' hw; go_simp; exact rfl)); clear hK K))
  (refine wsPlan_only rfl (fun K hK => ?_); replace hK := Lib.hid hK; go_simp; go_at_call 395; (with_reducible refine (dtdown_any _ _ _ H1.out HM.out U.out).mono ?_); rintro z w1 ⟨rfl, hb1⟩; have hP1 := hP.call hb1 hB.size HIN.out; have r1 := block_later hb1 (show W.drew.heap[w.heap.size + 1]? = _ from p3); refine hK.out _ _ hP1 (fun hP => ?_); clear hK K)
  (refine wsPlan_only rfl (fun K hK => ?_); replace hK := Lib.hid hK; go_simp; go_at_call 355; (with_reducible refine (dtup_any _ _ _ H2.out HM.out V.out).mono ?_); rintro z w2 ⟨rfl, hb2⟩; have hP2 := hP.call hb2 hB.size HIN.out; have r2 := block_later hb2 r1; refine hK.out _ _ hP2 (fun hP => ?_); clear hK K)
  have f3 := free_block r2
  have c3 := cell_block r2
  (refine wsPlan_take rfl (fun K hK => ?_); replace hK := Lib.hid hK; go_simp; first | (refine hK.out _ ?_; clear hK K) | (apply Exists.intro; refine ⟨fun w' hw => ?_, hK.out _ ?_⟩; (first | with_reducible exact rfl | (have f1 := F1 w' hw; have f2 := F2 w' hw; go_simp; exact rfl)); clear hK K))
  (refine wsPlan_only rfl (fun K hK => ?_); replace hK := Lib.hid hK; go_simp; refine hK.out _ _ (by exact (hP.setCell (by omega) (by simp <;> omega) _).setCell (by omega) (by simp <;> omega) _) (fun hP => ?_); clear hK K)
  refine wsPlan_done ?_
  have c9 := cell_block (block_set (i := 1) (block_set (i := 0) r2 (.int .i64 u)) (.int .i64 v))
  go_wp2_with fail
  exact bodyPost_ret (v := .agg #[.int .i64 u, .int .i64 v]) (by simp [results, Tryz.results399, go_sem, c9]) rfl ⟨rfl, hB.trans hP.1⟩
end Go.Proofs.YtdmegkkifiahdaaGreat
/- The walk of datum.Carry at the box of one place, and of datum.Apply. -/
namespace Go.Proofs.YtdmegkkifiahdaaGreat
open Go.RowKit Go.Shelf
attribute [local go_sem] bqOp bqAll bqUpon sqOp sqAll sqUpon ssAll ssOp
attribute [local irreducible] wpQuiet wpBQ wpPlan wsPlan
set_option linter.unusedVariables false
theorem run_store_func {P : Program} (w : World) (a : Addr) (m : Mode) (f : Fn) (bs ls : Array Value) : (store a (.func f bs ls) m).run P w = stored P w a (.func f bs ls) m := run_store P w a _ m rfl
attribute [local go_sem] run_store_func
theorem lin_bd {a b c x y : Int} (h : RowB a b c) (hx : -1000000 ≤ x ∧ x ≤ 1000000) (hy : -1000000 ≤ y ∧ y ≤ 1000000) : -15000000000000 ≤ linR a b c x y ∧ linR a b c x y ≤ 15000000000000 := by
  obtain ⟨a1, a2⟩ := mul_bd h.r0.1 h.r0.2 hx.1 hx.2
  obtain ⟨b1, b2⟩ := mul_bd h.r1.1 h.r1.2 hy.1 hy.2
  obtain ⟨c1, c2⟩ := h.r2
  unfold linR
  omega
theorem bothS_dtleast (a b c d e f x y : Int) (w : World) (h1 : RowB a b c) (h2 : RowB d e f) (hx : -1000000 ≤ x ∧ x ≤ 1000000) (hy : -1000000 ≤ y ∧ y ≤ 1000000) {u v : Int} (hu : linR a b c x y = u) (hv : linR d e f x y = v) :
    Calls Tryz.prog 396 #[.agg #[.int .i64 a, .int .i64 b, .int .i64 c, .int .i64 d, .int .i64 e, .int .i64 f], .func (.func 397) #[] #[], .agg #[.int .i64 x, .int .i64 x, .int .i64 y, .int .i64 y]] w fun z w' => z = .returned (.agg #[.int .i64 u, .int .i64 v]) ∧ Stays w w' := dtboth_dtleast a b c d e f x y w h1 h2 hx hy hu hv
theorem bothS_dtmost (a b c d e f x y : Int) (w : World) (h1 : RowB a b c) (h2 : RowB d e f) (hx : -1000000 ≤ x ∧ x ≤ 1000000) (hy : -1000000 ≤ y ∧ y ≤ 1000000) {u v : Int} (hu : linR a b c x y = u) (hv : linR d e f x y = v) :
    Calls Tryz.prog 396 #[.agg #[.int .i64 a, .int .i64 b, .int .i64 c, .int .i64 d, .int .i64 e, .int .i64 f], .func (.func 398) #[] #[], .agg #[.int .i64 x, .int .i64 x, .int .i64 y, .int .i64 y]] w fun z w' => z = .returned (.agg #[.int .i64 u, .int .i64 v]) ∧ Stays w w' := dtboth_dtmost a b c d e f x y w h1 h2 hx hy hu hv
theorem applyS (lo hi : Int) (w : World) (h1 : -4000000000000000000 ≤ lo ∧ lo ≤ 4000000000000000000) (h2 : -4000000000000000000 ≤ hi ∧ hi ≤ 4000000000000000000) {u v : Int} (hu : lo / 1000000 = u) (hv : -((-hi) / 1000000) = v) :
    Calls Tryz.prog 399 #[.agg #[.func (.func 395) #[] #[], .func (.func 355) #[] #[]], .int .i64 lo, .int .i64 hi, .int .i64 1000000] w fun z w' => z = .returned (.agg #[.int .i64 u, .int .i64 v]) ∧ Stays w w' := dtapply_any lo hi w h1 h2 hu hv
@[reducible] def boxV (b : Bx) : Value := .agg #[.int .i64 b.lx, .int .i64 b.hx, .int .i64 b.ly, .int .i64 b.hy]
def carR (b : Bx) : Bx × Int := if BxOk b then (b, 0) else (⟨0, 0, 0, 0⟩, 3)
set_option maxRecDepth 20000 in
set_option maxHeartbeats 2000000 in
theorem dtCarry_one (m : Dat) (x y : Int) (w : World) (hm : DatOk m) (hp : Vld x y) {b : Bx} {k : Int} (hb : carR (boxOf m (x, y)) = (b, k)) :
    Calls Tryz.prog 339 #[.agg #[.int .i64 m.a, .int .i64 m.b, .int .i64 m.c, .int .i64 m.d, .int .i64 m.e, .int .i64 m.f, .int .i64 m.r], .agg #[.int .i64 x, .int .i64 x, .int .i64 y, .int .i64 y]] w fun z w' => z = .returned (.tuple #[boxV b, .int .i64 k]) ∧ Below w.heap.size w w' := by
  obtain ⟨a, bb, c, d, e, f, r⟩ := m
  have HM := Lib.hid (decide_eq_true hm)
  have hx : -1000000 ≤ x ∧ x ≤ 1000000 := ⟨hp.x1, hp.x2⟩
  have hy : -1000000 ≤ y ∧ y ≤ 1000000 := ⟨hp.y1, hp.y2⟩
  have HBX : Hid (decide (BxOk ⟨x, x, y, y⟩) = true) := Lib.hid (decide_eq_true (show (_ ∧ _ ∧ _) ∧ _ ∧ _ ∧ _ from ⟨⟨hx.1, Int.le_refl _, hx.2⟩, hy.1, Int.le_refl _, hy.2⟩))
  obtain ⟨⟨pa, pb, pd, pe⟩, _, pc, pf, rr⟩ := hm
  replace pc : -100000 ≤ c ∧ c ≤ 100000 := pc
  replace pf : -100000 ≤ f ∧ f ≤ 100000 := pf
  replace rr : 0 ≤ r ∧ r ≤ 1000 := rr
  obtain ⟨r1, r2⟩ := rr
  have R1 := Lib.hid (show RowB a bb c from ⟨pa, pb, by omega, by omega⟩)
  have R2 := Lib.hid (show RowB d e f from ⟨pd, pe, by omega, by omega⟩)
  have HX := Lib.hid hx
  have HY := Lib.hid hy
  obtain ⟨u1, u2⟩ := lin_bd R1.out hx hy
  obtain ⟨v1, v2⟩ := lin_bd R2.out hx hy
  obtain ⟨u, hu⟩ : ∃ u, linR a bb c x y = u := ⟨_, rfl⟩
  obtain ⟨v, hv⟩ : ∃ u, linR d e f x y = u := ⟨_, rfl⟩
  rw [hu] at u1 u2
  rw [hv] at v1 v2
  have U := Lib.hid hu
  have V := Lib.hid hv
  obtain ⟨lx, hlx⟩ : ∃ t, (u - 1000000 * r) / 1000000 = t := ⟨_, rfl⟩
  obtain ⟨hxx, hhx⟩ : ∃ t, -((-(u + 1000000 * r)) / 1000000) = t := ⟨_, rfl⟩
  obtain ⟨ly, hly⟩ : ∃ t, (v - 1000000 * r) / 1000000 = t := ⟨_, rfl⟩
  obtain ⟨hyy, hhy⟩ : ∃ t, -((-(v + 1000000 * r)) / 1000000) = t := ⟨_, rfl⟩
  have HR : Hid (carR ⟨lx, hxx, ly, hyy⟩ = (b, k)) := Lib.hid (by rw [← hb, ← hlx, ← hhx, ← hly, ← hhy, ← hu, ← hv]; rfl)
  have LX := Lib.hid hlx
  have UX := Lib.hid hhx
  have LY := Lib.hid hly
  have UY := Lib.hid hhy
  dsimp only
  clear hb hp hx hy pa pb pc pd pe pf hu hv hlx hhx hly hhy
  go_enter Tryz.func339, Tryz.ntmps339
  go_wp2_with fail
  refine calls_named fun W hW => ?_
  obtain ⟨p1, p2, p3, hB⟩ := box3 hW
  clear hW
  have q1 := cellsL p1
  have q2 := cellsL p2
  have P2 := Lib.hid p2
  have P3 := Lib.hid p3
  clear p1 p2 p3
  (with_reducible refine (dtValid_any ⟨a, bb, c, d, e, f, r⟩ _ HM.out).mono ?_)
  rintro z w1 ⟨rfl, hb1⟩
  go_wp2_with fail
  (with_reducible refine (spValidBox_any _ _ _ _ _ HBX.out).mono ?_)
  rintro z w2 ⟨rfl, hb2⟩
  have hW2 := below_step hb1 hb2
  go_wp2_with fail
  (with_reducible refine (dtread_any _ _ _ _ _ _ _ _).mono ?_)
  rintro z w3 ⟨rfl, hb3⟩
  have hW3 := below_step hW2 hb3
  have hB3 := below_step hB hW3
  clear hb1 hb2 hb3 hW2
  have q2 := cellsL (block_later hW3 P2.out)
  clear q1
  go_wp2_with fail
  refine wp_named fun W6 hW6 => ?_
  obtain ⟨p6, p7, hB6⟩ := box2 hW6
  clear hW6 q2
  have hX6 := below_step hW3 hB6
  have qa := cellsR p6
  have qb := cellsR (block_later hX6 P2.out)
  have P6 := Lib.hid p6
  have P7 := Lib.hid p7
  clear p6 p7
  refine wp_region_tail 8 10 61 (fun _ => .cells #[.int .i64 0, .int .i64 0] 363) (by kernel_rfl) (by omega) (by kernel_rfl) (by kernel_rfl) (fun j o h1 h2 h3 ρ w => ?_) (by kernel_rfl) ?_
  · obtain rfl | rfl : j = 8 ∨ j = 9 := by omega
    all_goals (simp only [List.getElem?_cons_succ, List.getElem?_cons_zero, Option.some.injEq] at h3; subst h3; clear qa qb; unfold ptr; go_simp)
  simp only [List.take_succ_cons, List.take_zero, List.drop_succ_cons, List.drop_zero]
  (repeat (refine wpBQ_step (fun K hK => ?_); replace hK := Lib.hid hK; go_simp; first | (refine hK.out _ ?_; clear hK K) | (apply Exists.intro; refine ⟨fun _ => ?_, hK.out _ ?_⟩; (first | (go_at_call 396; first | with_reducible exact bothS_dtleast _ _ _ _ _ _ _ _ _ R1.out R2.out HX.out HY.out U.out V.out | with_reducible exact bothS_dtmost _ _ _ _ _ _ _ _ _ R1.out R2.out HX.out HY.out U.out V.out)); clear hK K)))
  refine wpBQ_nil ?_
  intro b9 b10 W7 hW7 hob hne
  have o9 : W6.heap.size ≤ b9 ∧ W7.heap[b9]? = some (.cells #[.int .i64 0, .int .i64 0] 363) := hob 8 (by omega) (by omega)
  have o10 : W6.heap.size ≤ b10 ∧ W7.heap[b10]? = some (.cells #[.int .i64 0, .int .i64 0] 363) := hob 9 (by omega) (by omega)
  have n1 : b9 ≠ b10 := hne 8 9 (by omega) (by omega) (by omega) (by omega) (by omega)
  have n2 : b10 ≠ b9 := Ne.symm n1
  clear hob hne qa qb
  have l9 := o9.1
  have l10 := o10.1
  have c9 := cell_block o9.2
  have c10 := cell_block o10.2
  have f9 := free_block o9.2
  have f10 := free_block o10.2
  have O9 := Lib.hid o9.2
  have O10 := Lib.hid o10.2
  clear o9 o10
  simp only [ptr]
  go_wp2_with fail
  refine wp_named fun W8 hW8 => ?_
  have hB8 : Below w.heap.size w W8 := by rw [hW8]; exact (((((below_step (below_step hB3 hB6) hW7).setCell (by have := hB3.size; have := hB6.size; dsimp only; omega) _).setCell (by have := hB3.size; have := hB6.size; dsimp only; omega) _).setCell (by have := hB3.size; have := hB6.size; dsimp only; omega) _).setCell (by have := hB3.size; have := hB6.size; dsimp only; omega) _)
  have hWB : Below W6.heap.size W6 W8 := by rw [hW8]; exact ((((hW7.setCell l9 _).setCell l9 _).setCell l10 _).setCell l10 _)
  have p9 : W8.heap[b9]? = some (.cells #[.int .i64 u, .int .i64 v] 363 (0, 0)) := by rw [hW8]; exact block_far (block_far (block_set (block_set O9.out _) _) n1 _) n1 _
  have p10 : W8.heap[b10]? = some (.cells #[.int .i64 u, .int .i64 v] 363 (0, 0)) := by rw [hW8]; exact block_set (block_set (block_far (block_far O10.out n2 _) n2 _) _) _
  have p7 := block_later hWB P7.out
  have p3 := block_later hWB (block_later hX6 P3.out)
  have P3 := Lib.hid p3
  clear hW8 c9 c10 f9 f10 O9 O10 hW7 n1 n2 l9 l10 p3
  have q9 := cellsR p9
  have q10 := cellsR p10
  have q7 := cellsR p7
  clear p9 p10 p7
  have B1 := Lib.hid (show -4000000000000000000 ≤ u - 1000000 * r ∧ u - 1000000 * r ≤ 4000000000000000000 by omega)
  have B2 := Lib.hid (show -4000000000000000000 ≤ u + 1000000 * r ∧ u + 1000000 * r ≤ 4000000000000000000 by omega)
  have B3 := Lib.hid (show -4000000000000000000 ≤ v - 1000000 * r ∧ v - 1000000 * r ≤ 4000000000000000000 by omega)
  have B4 := Lib.hid (show -4000000000000000000 ≤ v + 1000000 * r ∧ v + 1000000 * r ≤ 4000000000000000000 by omega)
  have j1 : IntKind.i64.wrap (u - 1000000 * r) = u - 1000000 * r := IntWalk.i64_in _ (by omega)
  have j2 : IntKind.i64.wrap (u + 1000000 * r) = u + 1000000 * r := IntWalk.i64_in _ (by omega)
  have j3 : IntKind.i64.wrap (v - 1000000 * r) = v - 1000000 * r := IntWalk.i64_in _ (by omega)
  have j4 : IntKind.i64.wrap (v + 1000000 * r) = v + 1000000 * r := IntWalk.i64_in _ (by omega)
  refine wp_region_tail 21 22 61 (fun _ => .cells #[.int .i64 0, .int .i64 0, .int .i64 0, .int .i64 0] 240) (by kernel_rfl) (by omega) (by kernel_rfl) (by kernel_rfl) (fun j o h1 h2 h3 ρ w => ?_) (by rfl) ?_
  · obtain rfl : j = 21 := by omega
    simp only [List.getElem?_cons_succ, List.getElem?_cons_zero, Option.some.injEq] at h3; subst h3; clear q9 q10 q7 j1 j2 j3 j4; unfold ptr; go_simp
  simp only [List.take_succ_cons, List.take_zero, List.drop_succ_cons, List.drop_zero]
  (repeat (refine wpBQ_step (fun K hK => ?_); replace hK := Lib.hid hK; go_simp; first | (refine hK.out _ ?_; clear hK K) | (apply Exists.intro; refine ⟨fun _ => ?_, hK.out _ ?_⟩; (first | (go_at_call 399; first | (rw [j1, j2]; with_reducible exact applyS _ _ _ B1.out B2.out LX.out UX.out) | (rw [j3, j4]; with_reducible exact applyS _ _ _ B3.out B4.out LY.out UY.out) | with_reducible exact applyS _ _ _ B1.out B2.out LX.out UX.out | with_reducible exact applyS _ _ _ B3.out B4.out LY.out UY.out)); clear hK K)))
  refine wpBQ_nil ?_
  intro b11 W9 hW9 hob hne
  have o11 : W8.heap.size ≤ b11 ∧ W9.heap[b11]? = some (.cells #[.int .i64 0, .int .i64 0, .int .i64 0, .int .i64 0] 240) := hob 21 (by omega) (by omega)
  clear hob hne q9 q10 q7
  have l11 := o11.1
  have c11 := cell_block o11.2
  have f11 := free_block o11.2
  have O11 := Lib.hid o11.2
  clear o11
  simp only [ptr]
  obtain ⟨g, hg⟩ : ∃ g, decide (BxOk ⟨lx, hxx, ly, hyy⟩) = g := ⟨_, rfl⟩
  have G := Lib.hid hg
  clear hg
  have hl8 : w.heap.size ≤ b11 := Nat.le_trans hB8.size l11
  have hB9 := below_step hB8 hW9
  have hne3 : w.heap.size + 2 ≠ b11 := by have := lt_block P3.out; omega
  have P39 := Lib.hid (block_later hW9 P3.out)
  clear j1 j2 j3 j4 B1 B2 B3 B4
  go_wp2_with fail
  refine calls_named fun W10 hW10 => ?_
  have p11 : W10.heap[b11]? = some (.cells #[.int .i64 lx, .int .i64 hxx, .int .i64 ly, .int .i64 hyy] 240 (0, 0)) := by rw [hW10]; exact block_set (block_set (block_set (block_set O11.out _) _) _) _
  have p3 : W10.heap[w.heap.size + 2]? = some (.cells #[.int .i64 0, .int .i64 0, .int .i64 0, .int .i64 0] 240 (0, 0)) := by rw [hW10]; exact block_far (block_far (block_far (block_far P39.out hne3 _) hne3 _) hne3 _) hne3 _
  have hB10 : Below w.heap.size w W10 := by rw [hW10]; exact ((((hB9.setCell hl8 _).setCell hl8 _).setCell hl8 _).setCell hl8 _)
  clear hW10 c11 f11 O11
  (with_reducible refine (spValidBox_any _ _ _ _ _ G.out).mono ?_)
  rintro z w11 ⟨rfl, hb11⟩
  have hB11 := below_step hB10 hb11
  have r3 := block_later hb11 p3
  have f3 := free_block r3
  have c3 := cell_block r3
  have c11 := cell_block (block_later hb11 p11)
  have R3 := Lib.hid r3
  clear p3 p11 r3
  cases g
  · have HN : Hid ((⟨0, 0, 0, 0⟩ : Bx) = b ∧ (3 : Int) = k) := Lib.hid (by
      have := HR.out
      unfold carR at this
      rw [if_neg (of_decide_eq_false G.out)] at this
      exact ⟨congrArg Prod.fst this, congrArg Prod.snd this⟩)
    go_wp2_with fail
    have c9 := cell_block (block_set (i := 3) (block_set (i := 2) (block_set (i := 1) (block_set (i := 0) R3.out (.int .i64 0)) (.int .i64 0)) (.int .i64 0)) (.int .i64 0))
    exact bodyPost_ret (v := .tuple #[.agg #[.int .i64 0, .int .i64 0, .int .i64 0, .int .i64 0], .int .i64 3]) (by simp [results, Tryz.results339, go_sem, c9]) rfl ⟨by rw [← HN.out.1, ← HN.out.2], (((hB11.setCell (by dsimp only; omega) _).setCell (by dsimp only; omega) _).setCell (by dsimp only; omega) _).setCell (by dsimp only; omega) _⟩
  · have HN : Hid ((⟨lx, hxx, ly, hyy⟩ : Bx) = b ∧ (0 : Int) = k) := Lib.hid (by
      have := HR.out
      unfold carR at this
      rw [if_pos (of_decide_eq_true G.out)] at this
      exact ⟨congrArg Prod.fst this, congrArg Prod.snd this⟩)
    go_wp2_with fail
    have c9 := cell_block (block_set (i := 3) (block_set (i := 2) (block_set (i := 1) (block_set (i := 0) R3.out (.int .i64 lx)) (.int .i64 hxx)) (.int .i64 ly)) (.int .i64 hyy))
    exact bodyPost_ret (v := .tuple #[.agg #[.int .i64 lx, .int .i64 hxx, .int .i64 ly, .int .i64 hyy], .int .i64 0]) (by simp [results, Tryz.results339, go_sem, c9]) rfl ⟨by rw [← HN.out.1, ← HN.out.2], (((hB11.setCell (by dsimp only; omega) _).setCell (by dsimp only; omega) _).setCell (by dsimp only; omega) _).setCell (by dsimp only; omega) _⟩
end Go.Proofs.YtdmegkkifiahdaaGreat
/- The walk of datum.Apply. -/
namespace Go.Proofs.YtdmegkkifiahdaaGreat
open Go.RowKit Go.Shelf
attribute [local go_sem] bqOp bqAll bqUpon sqOp sqAll sqUpon ssAll ssOp
attribute [local irreducible] wpQuiet wpBQ wpPlan wsPlan
set_option linter.unusedVariables false
set_option maxHeartbeats 1000000 in
theorem dtApply_any (m : Dat) (x y : Int) (w : World) (hm : DatOk m) (hp : Vld x y) {b : Bx} {k : Int} (hb : carR (boxOf m (x, y)) = (b, k)) :
    Calls Tryz.prog 251 #[.agg #[.int .i64 m.a, .int .i64 m.b, .int .i64 m.c, .int .i64 m.d, .int .i64 m.e, .int .i64 m.f, .int .i64 m.r], .agg #[.int .i64 x, .int .i64 y]] w fun z w' => z = .returned (.tuple #[boxV b, .int .i64 k]) ∧ Below w.heap.size w w' := by
  have HM := Lib.hid hm
  have HP := Lib.hid hp
  have HR := Lib.hid hb
  clear hm hp hb
  obtain ⟨b1, b2, b3, b4⟩ := b
  go_enter Tryz.func251, Tryz.ntmps251
  go_wp2_with fail
  refine wp_named fun W hW => ?_
  obtain ⟨p1, p2, p3, hB⟩ := box3 hW
  clear hW
  have hs : w.heap.size + 2 < W.heap.size := lt_block p3
  have F1 : ∀ w', KeepB W w.heap.size [w.heap.size, w.heap.size + 1] w' → ∀ i, w'.cell? ⟨w.heap.size, i, none⟩ = #[.int .i64 m.a, .int .i64 m.b, .int .i64 m.c, .int .i64 m.d, .int .i64 m.e, .int .i64 m.f, .int .i64 m.r][i]? := fun w' hw i => cell_block (hw.at (by simp) p1) i
  have F2 : ∀ w', KeepB W w.heap.size [w.heap.size, w.heap.size + 1] w' → ∀ i, w'.cell? ⟨w.heap.size + 1, i, none⟩ = #[.int .i64 x, .int .i64 y][i]? := fun w' hw i => cell_block (hw.at (by simp) p2) i
  have hin : ∀ b ∈ [w.heap.size, w.heap.size + 1], b < W.heap.size := fun b hb => by
    simp only [List.mem_cons, List.not_mem_nil, or_false] at hb
    omega
  have HIN := Lib.hid hin
  clear hin
  refine wp_region_planS (KeepB W w.heap.size [w.heap.size, w.heap.size + 1]) (.take 0 (.take 0 (.only 0 (.only 0 (.take 0 (.take 0 (.only 0 (.take 0 .done)))))))) (by kernel_rfl) (by kernel_rfl) KeepB.refl (fun hP => ?_)
  (refine wsPlan_take rfl (fun K hK => ?_); replace hK := Lib.hid hK; go_simp; first | (refine hK.out _ ?_; clear hK K) | (apply Exists.intro; refine ⟨fun w' hw => ?_, hK.out _ ?_⟩; (first | with_reducible exact rfl | (have f1 := F1 w' hw; have f2 := F2 w' hw; go_simp; exact rfl)); clear hK K))
  (refine wsPlan_take rfl (fun K hK => ?_); replace hK := Lib.hid hK; go_simp; first | (refine hK.out _ ?_; clear hK K) | (apply Exists.intro; refine ⟨fun w' hw => ?_, hK.out _ ?_⟩; (first | with_reducible exact rfl | (have f1 := F1 w' hw; have f2 := F2 w' hw; go_simp; exact rfl)); clear hK K))
  (refine wsPlan_only rfl (fun K hK => ?_); replace hK := Lib.hid hK; go_simp; go_at_call 340; (with_reducible refine (dtone_any _ _ _).mono ?_); rintro z w1 ⟨rfl, hb1⟩; have hP1 := hP.call hb1 hB.size HIN.out; have r1 := block_later hb1 (show W.drew.heap[w.heap.size + 2]? = _ from p3); refine hK.out _ _ hP1 (fun hP => ?_); clear hK K)
  (refine wsPlan_only rfl (fun K hK => ?_); replace hK := Lib.hid hK; go_simp; go_at_call 339; (with_reducible refine (dtCarry_one m _ _ _ HM.out HP.out HR.out).mono ?_); rintro z w2 ⟨rfl, hb2⟩; have hP2 := hP.call hb2 hB.size HIN.out; have r2 := block_later hb2 r1; refine hK.out _ _ hP2 (fun hP => ?_); clear hK K)
  have f3 := free_block r2
  have c3 := cell_block r2
  dsimp only [boxV]
  (refine wsPlan_take rfl (fun K hK => ?_); replace hK := Lib.hid hK; go_simp; first | (refine hK.out _ ?_; clear hK K) | (apply Exists.intro; refine ⟨fun w' hw => ?_, hK.out _ ?_⟩; (first | with_reducible exact rfl | (go_simp; exact rfl)); clear hK K))
  (refine wsPlan_take rfl (fun K hK => ?_); replace hK := Lib.hid hK; go_simp; first | (refine hK.out _ ?_; clear hK K) | (apply Exists.intro; refine ⟨fun w' hw => ?_, hK.out _ ?_⟩; (first | with_reducible exact rfl | (go_simp; exact rfl)); clear hK K))
  (refine wsPlan_only rfl (fun K hK => ?_); replace hK := Lib.hid hK; go_simp; refine hK.out _ _ (by exact (((hP.setCell (by omega) (by simp <;> omega) _).setCell (by omega) (by simp <;> omega) _).setCell (by omega) (by simp <;> omega) _).setCell (by omega) (by simp <;> omega) _) (fun hP => ?_); clear hK K)
  (refine wsPlan_take rfl (fun K hK => ?_); replace hK := Lib.hid hK; go_simp; first | (refine hK.out _ ?_; clear hK K) | (apply Exists.intro; refine ⟨fun w' hw => ?_, hK.out _ ?_⟩; (first | with_reducible exact rfl | (go_simp; exact rfl)); clear hK K))
  refine wsPlan_done ?_
  have c9 := cell_block (block_set (i := 3) (block_set (i := 2) (block_set (i := 1) (block_set (i := 0) r2 (.int .i64 b1)) (.int .i64 b2)) (.int .i64 b3)) (.int .i64 b4))
  go_wp2_with fail
  exact bodyPost_ret (v := .tuple #[.agg #[.int .i64 b1, .int .i64 b2, .int .i64 b3, .int .i64 b4], .int .i64 k]) (by simp [results, Tryz.results251, go_sem, c9]) rfl ⟨rfl, hB.trans hP.1⟩
end Go.Proofs.YtdmegkkifiahdaaGreat
