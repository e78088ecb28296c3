/- The walk of datum.Then. -/
import Derived.Test.YtdmegkkifiahdaaGreatKF
import Derived.Deep.CutRange
namespace Go.Proofs.YtdmegkkifiahdaaGreat
open Go.RowKit Go.Shelf
attribute [local go_sem] bqOp bqAll bqUpon sqOp sqAll sqUpon ssAll ssOp
attribute [local irreducible] wpQuiet wpBQ wpPlan wsPlan
attribute [local go_sem high] run_maxW run_minW run_max4W
set_option linter.unusedVariables false
theorem setM {n₀ g i : Nat} {a w : World} (h : Below n₀ a w) (hg : n₀ ≤ g) (v : Value) : Below n₀ a (w.setCell ⟨g, i, none⟩ v) := h.setCell (p := ⟨g, i, none⟩) hg v
def roundM (n : Int) : Int := (2 * n + 1000000) / 2000000
def weighM (a b : Int) : Int := max a (-a) + max b (-b)
/-- One datum after another. -/
def thenD (m n : Dat) : Dat := ⟨roundM (n.a * m.a + n.b * m.d), roundM (n.a * m.b + n.b * m.e), roundM (n.a * m.c + n.b * m.f) + n.c, roundM (n.d * m.a + n.e * m.d), roundM (n.d * m.b + n.e * m.e), roundM (n.d * m.c + n.e * m.f) + n.f, upM (max (weighM n.a n.b) (weighM n.d n.e) * m.r) + n.r + 2⟩
def noDat : Dat := ⟨0, 0, 0, 0, 0, 0, 0⟩
def writeR (m : Dat) : Dat × Int := if DatOk m then (m, 0) else (noDat, 3)
def thenR (m n : Dat) : Dat × Int := if DatOk m ∧ DatOk n then writeR (thenD m n) else (noDat, 1)
theorem dtround_any (n : Int) (w : World) (h : -16000000000000 ≤ n ∧ n ≤ 16000000000000) {v : Int} (hv : roundM n = v) : Calls Tryz.prog 354 #[.int .i64 n, .int .i64 1000000] w fun e w' => e = .returned (.int .i64 v) ∧ Below w.heap.size w w' := by
  have j1 : IntKind.i64.wrap (2 * n) = 2 * n := IntWalk.i64_in _ (by omega)
  have j2 : IntKind.i64.wrap (2 * n + 1000000) = 2 * n + 1000000 := IntWalk.i64_in _ (by omega)
  have HN := Lib.hid h
  have HV : Hid ((2 * n + 1000000) / 2000000 = v) := Lib.hid (by rw [← hv]; rfl)
  clear h hv
  go_enter Tryz.func354, Tryz.ntmps354
  go_wp2_with fail
  (with_reducible refine (dtdown_any (2 * n + 1000000) 2000000 _ (by have := HN.out; omega) (by omega) HV.out).mono ?_)
  rintro e w1 ⟨rfl, hb1⟩
  go_wp2_with fail
  go_returns
  exact ⟨rfl, hb1⟩
theorem dtweight_any (a b c : Int) (w : World) (ha : -2000000 ≤ a ∧ a ≤ 2000000) (hb : -2000000 ≤ b ∧ b ≤ 2000000) {v : Int} (hv : weighM a b = v) : Calls Tryz.prog 356 #[.agg #[.int .i64 a, .int .i64 b, .int .i64 c]] w fun e w' => e = .returned (.int .i64 v) ∧ Below w.heap.size w w' := by
  have j1 : IntKind.i64.wrap (-a) = -a := IntWalk.i64_in _ (by omega)
  have j2 : IntKind.i64.wrap (-b) = -b := IntWalk.i64_in _ (by omega)
  have j3 : IntKind.i64.wrap (max a (-a) + max b (-b)) = v := by rw [← hv]; exact IntWalk.i64_in _ (by omega)
  clear ha hb hv
  go_enter Tryz.func356, Tryz.ntmps356
  go_wp2_with fail
  go_returns
  exact ⟨rfl, by go_grown⟩
set_option maxHeartbeats 1000000 in
theorem dtwrite_any (m : Dat) (w : World) {x : Dat} {k : Int} (hr : writeR m = (x, k)) : Calls Tryz.prog 263 #[.agg #[.int .i64 m.a, .int .i64 m.b, .int .i64 m.c, .int .i64 m.d, .int .i64 m.e, .int .i64 m.f, .int .i64 m.r]] w fun e w' => e = .returned (.tuple #[.agg #[.int .i64 x.a, .int .i64 x.b, .int .i64 x.c, .int .i64 x.d, .int .i64 x.e, .int .i64 x.f, .int .i64 x.r], .int .i64 k]) ∧ Below w.heap.size w w' := by
  obtain ⟨u, hu⟩ : ∃ v, decide (DatOk m) = v := ⟨_, rfl⟩
  have U := Lib.hid hu
  have HR := Lib.hid hr
  clear hu hr
  go_enter Tryz.func263, Tryz.ntmps263
  go_wp2_with fail
  refine calls_named fun W hW => ?_
  obtain ⟨p0, p1, p2, hB⟩ := box3 hW
  clear hW
  have P1 := Lib.hid p1
  have P2 := Lib.hid p2
  clear p0 p1 p2
  (with_reducible refine (dtValid_any m _ U.out).mono ?_)
  rintro e w1 ⟨rfl, hb1⟩
  have hB1 := below_step hB hb1
  have r1 := block_later hb1 P1.out
  have f1 := free_block r1
  have c1 := cell_block r1
  have R1 := Lib.hid r1
  clear r1
  cases u
  · have hx : writeR m = (noDat, 3) := if_neg (of_decide_eq_false U.out)
    have hxx := HR.out.symm.trans hx
    cases hxx
    go_wp2_with fail
    have c9 := cell_block (block_set (i := 6) (block_set (i := 5) (block_set (i := 4) (block_set (i := 3) (block_set (i := 2) (block_set (i := 1) (block_set (i := 0) R1.out (.int .i64 0)) (.int .i64 0)) (.int .i64 0)) (.int .i64 0)) (.int .i64 0)) (.int .i64 0)) (.int .i64 0))
    exact bodyPost_ret (v := .tuple #[.agg #[.int .i64 0, .int .i64 0, .int .i64 0, .int .i64 0, .int .i64 0, .int .i64 0, .int .i64 0], .int .i64 3]) (by simp [results, Tryz.results263, go_sem, c9]) rfl ⟨rfl, (setM (setM (setM (setM (setM (setM (setM hB1 (by omega) _) (by omega) _) (by omega) _) (by omega) _) (by omega) _) (by omega) _) (by omega) _)⟩
  · have hx : writeR m = (m, 0) := if_pos (of_decide_eq_true U.out)
    have hxx := HR.out.symm.trans hx
    cases hxx
    have c2 := cell_block (block_later hb1 P2.out)
    go_wp2_with fail
    have c9 := cell_block (block_set (i := 6) (block_set (i := 5) (block_set (i := 4) (block_set (i := 3) (block_set (i := 2) (block_set (i := 1) (block_set (i := 0) R1.out (.int .i64 m.a)) (.int .i64 m.b)) (.int .i64 m.c)) (.int .i64 m.d)) (.int .i64 m.e)) (.int .i64 m.f)) (.int .i64 m.r))
    exact bodyPost_ret (v := .tuple #[.agg #[.int .i64 m.a, .int .i64 m.b, .int .i64 m.c, .int .i64 m.d, .int .i64 m.e, .int .i64 m.f, .int .i64 m.r], .int .i64 0]) (by simp [results, Tryz.results263, go_sem, c9]) rfl ⟨rfl, (setM (setM (setM (setM (setM (setM (setM hB1 (by omega) _) (by omega) _) (by omega) _) (by omega) _) (by omega) _) (by omega) _) (by omega) _)⟩
set_option maxRecDepth 20000 in
set_option maxHeartbeats 4000000 in
theorem dtafter_any (r0 r1 r2 a b c d e f r : Int) (w : World) (h0 : -2000000 ≤ r0 ∧ r0 ≤ 2000000) (h1 : -2000000 ≤ r1 ∧ r1 ≤ 2000000) (h2 : -100000 ≤ r2 ∧ r2 ≤ 100000) (ha : -2000000 ≤ a ∧ a ≤ 2000000) (hb : -2000000 ≤ b ∧ b ≤ 2000000) (hc : -100000 ≤ c ∧ c ≤ 100000) (hd : -2000000 ≤ d ∧ d ≤ 2000000) (he : -2000000 ≤ e ∧ e ≤ 2000000) (hf : -100000 ≤ f ∧ f ≤ 100000)
    {x y z : Int} (hx : roundM (r0 * a + r1 * d) = x) (hy : roundM (r0 * b + r1 * e) = y) (hz : roundM (r0 * c + r1 * f) + r2 = z) :
    Calls Tryz.prog 261 #[.agg #[.int .i64 r0, .int .i64 r1, .int .i64 r2], .agg #[.int .i64 a, .int .i64 b, .int .i64 c, .int .i64 d, .int .i64 e, .int .i64 f, .int .i64 r]] w fun o w' => o = .returned (.agg #[.int .i64 x, .int .i64 y, .int .i64 z]) ∧ Below w.heap.size w w' := by
  obtain ⟨a1, a2⟩ := mul_bd h0.1 h0.2 ha.1 ha.2
  obtain ⟨b1, b2⟩ := mul_bd h0.1 h0.2 hb.1 hb.2
  obtain ⟨c1, c2⟩ := mul_bd h0.1 h0.2 hc.1 hc.2
  obtain ⟨d1, d2⟩ := mul_bd h1.1 h1.2 hd.1 hd.2
  obtain ⟨e1, e2⟩ := mul_bd h1.1 h1.2 he.1 he.2
  obtain ⟨f1, f2⟩ := mul_bd h1.1 h1.2 hf.1 hf.2
  have j1 : IntKind.i64.wrap (r0 * a) = r0 * a := IntWalk.i64_in _ (by omega)
  have j2 : IntKind.i64.wrap (r1 * d) = r1 * d := IntWalk.i64_in _ (by omega)
  have j3 : IntKind.i64.wrap (r0 * a + r1 * d) = r0 * a + r1 * d := IntWalk.i64_in _ (by omega)
  have j4 : IntKind.i64.wrap (r0 * b) = r0 * b := IntWalk.i64_in _ (by omega)
  have j5 : IntKind.i64.wrap (r1 * e) = r1 * e := IntWalk.i64_in _ (by omega)
  have j6 : IntKind.i64.wrap (r0 * b + r1 * e) = r0 * b + r1 * e := IntWalk.i64_in _ (by omega)
  have j7 : IntKind.i64.wrap (r0 * c) = r0 * c := IntWalk.i64_in _ (by omega)
  have j8 : IntKind.i64.wrap (r1 * f) = r1 * f := IntWalk.i64_in _ (by omega)
  have j9 : IntKind.i64.wrap (r0 * c + r1 * f) = r0 * c + r1 * f := IntWalk.i64_in _ (by omega)
  have B1 : Hid (-16000000000000 ≤ r0 * a + r1 * d ∧ r0 * a + r1 * d ≤ 16000000000000) := Lib.hid (by omega)
  have B2 : Hid (-16000000000000 ≤ r0 * b + r1 * e ∧ r0 * b + r1 * e ≤ 16000000000000) := Lib.hid (by omega)
  have B3 : Hid (-16000000000000 ≤ r0 * c + r1 * f ∧ r0 * c + r1 * f ≤ 16000000000000) := Lib.hid (by omega)
  obtain ⟨t, ht⟩ : ∃ t, roundM (r0 * c + r1 * f) = t := ⟨_, rfl⟩
  have ht2 : -16000000 ≤ t ∧ t ≤ 16000000 := by rw [← ht]; unfold roundM; omega
  have j10 : IntKind.i64.wrap (t + r2) = z := by rw [← hz, ht]; exact IntWalk.i64_in _ (by omega)
  have HX := Lib.hid hx
  have HY := Lib.hid hy
  have HT := Lib.hid ht
  clear a1 a2 b1 b2 c1 c2 d1 d2 e1 e2 f1 f2 hx hy hz ht ht2 h0 h1 h2 ha hb hc hd he hf
  go_enter Tryz.func261, Tryz.ntmps261
  go_wp2_with fail
  refine wp_named fun W hW => ?_
  obtain ⟨p0, p1, p2, hB⟩ := box3 hW
  clear hW
  have HB := Lib.hid hB
  have F1 : ∀ w', KeepB W w.heap.size [w.heap.size, w.heap.size + 1] w' → ∀ i, w'.cell? ⟨w.heap.size, i, none⟩ = #[.int .i64 r0, .int .i64 r1, .int .i64 r2][i]? := fun w' hw i => cell_block (hw.at (by simp) p0) i
  have F2 : ∀ w', KeepB W w.heap.size [w.heap.size, w.heap.size + 1] w' → ∀ i, w'.cell? ⟨w.heap.size + 1, i, none⟩ = #[.int .i64 a, .int .i64 b, .int .i64 c, .int .i64 d, .int .i64 e, .int .i64 f, .int .i64 r][i]? := fun w' hw i => cell_block (hw.at (by simp) p1) i
  have Q2 := Lib.hid p2
  have hl2 := lt_block p2
  have HIN := Lib.hid (show ∀ b ∈ [w.heap.size, w.heap.size + 1], b < W.heap.size from fun b hb => by
    simp only [List.mem_cons, List.not_mem_nil, or_false] at hb
    omega)
  clear p0 p1 p2 hB
  refine wp_region_planS (KeepB W w.heap.size [w.heap.size, w.heap.size + 1]) (.take 0 (.take 0 (.take 0 (.take 0 (.take 0 (.take 0 (.take 0 (.take 0 (.take 0 (.take 0 (.take 0 (.take 0 (.take 0 (.take 0 (.take 0 (.take 1 (.take 1 (.take 1 (.take 1 (.take 1 (.take 1 (.take 1 (.take 1 (.take 1 (.take 1 (.take 1 (.take 1 (.take 1 (.take 1 (.take 1 (.take 2 (.take 2 (.take 2 (.take 2 (.take 2 (.take 2 (.take 2 (.take 2 (.take 2 (.take 2 (.take 2 (.take 2 (.take 2 (.take 2 (.take 2 (.take 3 (.take 3 (.only 0 (.only 0 (.only 0 (.take 0 (.take 0 (.only 0 .done))))))))))))))))))))))))))))))))))))))))))))))))))))) (by kernel_rfl) (by kernel_rfl) KeepB.refl (fun hP => ?_)
  (refine wsPlan_take rfl (fun K hK => ?_); replace hK := Lib.hid hK; go_simp; first | (refine hK.out _ ?_; clear hK K) | (apply Exists.intro; refine ⟨fun w' hw => ?_, hK.out _ ?_⟩; (first | with_reducible exact rfl | (have f1 := F1 w' hw; have f2 := F2 w' hw; go_simp; exact rfl)); clear hK K))
  (refine wsPlan_take rfl (fun K hK => ?_); replace hK := Lib.hid hK; go_simp; first | (refine hK.out _ ?_; clear hK K) | (apply Exists.intro; refine ⟨fun w' hw => ?_, hK.out _ ?_⟩; (first | with_reducible exact rfl | (have f1 := F1 w' hw; have f2 := F2 w' hw; go_simp; exact rfl)); clear hK K))
  (refine wsPlan_take rfl (fun K hK => ?_); replace hK := Lib.hid hK; go_simp; first | (refine hK.out _ ?_; clear hK K) | (apply Exists.intro; refine ⟨fun w' hw => ?_, hK.out _ ?_⟩; (first | with_reducible exact rfl | (have f1 := F1 w' hw; have f2 := F2 w' hw; go_simp; exact rfl)); clear hK K))
  (refine wsPlan_take rfl (fun K hK => ?_); replace hK := Lib.hid hK; go_simp; first | (refine hK.out _ ?_; clear hK K) | (apply Exists.intro; refine ⟨fun w' hw => ?_, hK.out _ ?_⟩; (first | with_reducible exact rfl | (have f1 := F1 w' hw; have f2 := F2 w' hw; go_simp; exact rfl)); clear hK K))
  (refine wsPlan_take rfl (fun K hK => ?_); replace hK := Lib.hid hK; go_simp; first | (refine hK.out _ ?_; clear hK K) | (apply Exists.intro; refine ⟨fun w' hw => ?_, hK.out _ ?_⟩; (first | with_reducible exact rfl | (have f1 := F1 w' hw; have f2 := F2 w' hw; go_simp; exact rfl)); clear hK K))
  (refine wsPlan_take rfl (fun K hK => ?_); replace hK := Lib.hid hK; go_simp; first | (refine hK.out _ ?_; clear hK K) | (apply Exists.intro; refine ⟨fun w' hw => ?_, hK.out _ ?_⟩; (first | with_reducible exact rfl | (have f1 := F1 w' hw; have f2 := F2 w' hw; go_simp; exact rfl)); clear hK K))
  (refine wsPlan_take rfl (fun K hK => ?_); replace hK := Lib.hid hK; go_simp; first | (refine hK.out _ ?_; clear hK K) | (apply Exists.intro; refine ⟨fun w' hw => ?_, hK.out _ ?_⟩; (first | with_reducible exact rfl | (have f1 := F1 w' hw; have f2 := F2 w' hw; go_simp; exact rfl)); clear hK K))
  (refine wsPlan_take rfl (fun K hK => ?_); replace hK := Lib.hid hK; go_simp; first | (refine hK.out _ ?_; clear hK K) | (apply Exists.intro; refine ⟨fun w' hw => ?_, hK.out _ ?_⟩; (first | with_reducible exact rfl | (have f1 := F1 w' hw; have f2 := F2 w' hw; go_simp; exact rfl)); clear hK K))
  (refine wsPlan_take rfl (fun K hK => ?_); replace hK := Lib.hid hK; go_simp; first | (refine hK.out _ ?_; clear hK K) | (apply Exists.intro; refine ⟨fun w' hw => ?_, hK.out _ ?_⟩; (first | with_reducible exact rfl | (have f1 := F1 w' hw; have f2 := F2 w' hw; go_simp; exact rfl)); clear hK K))
  (refine wsPlan_take rfl (fun K hK => ?_); replace hK := Lib.hid hK; go_simp; first | (refine hK.out _ ?_; clear hK K) | (apply Exists.intro; refine ⟨fun w' hw => ?_, hK.out _ ?_⟩; (first | with_reducible exact rfl | (have f1 := F1 w' hw; have f2 := F2 w' hw; go_simp; exact rfl)); clear hK K))
  (refine wsPlan_take rfl (fun K hK => ?_); replace hK := Lib.hid hK; go_simp; first | (refine hK.out _ ?_; clear hK K) | (apply Exists.intro; refine ⟨fun w' hw => ?_, hK.out _ ?_⟩; (first | with_reducible exact rfl | (have f1 := F1 w' hw; have f2 := F2 w' hw; go_simp; exact rfl)); clear hK K))
  (refine wsPlan_take rfl (fun K hK => ?_); replace hK := Lib.hid hK; go_simp; first | (refine hK.out _ ?_; clear hK K) | (apply Exists.intro; refine ⟨fun w' hw => ?_, hK.out _ ?_⟩; (first | with_reducible exact rfl | (have f1 := F1 w' hw; have f2 := F2 w' hw; go_simp; exact rfl)); clear hK K))
  (refine wsPlan_take rfl (fun K hK => ?_); replace hK := Lib.hid hK; go_simp; first | (refine hK.out _ ?_; clear hK K) | (apply Exists.intro; refine ⟨fun w' hw => ?_, hK.out _ ?_⟩; (first | with_reducible exact rfl | (have f1 := F1 w' hw; have f2 := F2 w' hw; go_simp; exact rfl)); clear hK K))
  (refine wsPlan_take rfl (fun K hK => ?_); replace hK := Lib.hid hK; go_simp; first | (refine hK.out _ ?_; clear hK K) | (apply Exists.intro; refine ⟨fun w' hw => ?_, hK.out _ ?_⟩; (first | with_reducible exact rfl | (have f1 := F1 w' hw; have f2 := F2 w' hw; go_simp; exact rfl)); clear hK K))
  (refine wsPlan_take rfl (fun K hK => ?_); replace hK := Lib.hid hK; go_simp; first | (refine hK.out _ ?_; clear hK K) | (apply Exists.intro; refine ⟨fun w' hw => ?_, hK.out _ ?_⟩; (first | with_reducible exact rfl | (have f1 := F1 w' hw; have f2 := F2 w' hw; go_simp; exact rfl)); clear hK K))
  (refine wsPlan_take rfl (fun K hK => ?_); replace hK := Lib.hid hK; go_simp; first | (refine hK.out _ ?_; clear hK K) | (apply Exists.intro; refine ⟨fun w' hw => ?_, hK.out _ ?_⟩; (first | with_reducible exact rfl | (have f1 := F1 w' hw; have f2 := F2 w' hw; go_simp; exact rfl)); clear hK K))
  (refine wsPlan_take rfl (fun K hK => ?_); replace hK := Lib.hid hK; go_simp; first | (refine hK.out _ ?_; clear hK K) | (apply Exists.intro; refine ⟨fun w' hw => ?_, hK.out _ ?_⟩; (first | with_reducible exact rfl | (have f1 := F1 w' hw; have f2 := F2 w' hw; go_simp; exact rfl)); clear hK K))
  (refine wsPlan_take rfl (fun K hK => ?_); replace hK := Lib.hid hK; go_simp; first | (refine hK.out _ ?_; clear hK K) | (apply Exists.intro; refine ⟨fun w' hw => ?_, hK.out _ ?_⟩; (first | with_reducible exact rfl | (have f1 := F1 w' hw; have f2 := F2 w' hw; go_simp; exact rfl)); clear hK K))
  (refine wsPlan_take rfl (fun K hK => ?_); replace hK := Lib.hid hK; go_simp; first | (refine hK.out _ ?_; clear hK K) | (apply Exists.intro; refine ⟨fun w' hw => ?_, hK.out _ ?_⟩; (first | with_reducible exact rfl | (have f1 := F1 w' hw; have f2 := F2 w' hw; go_simp; exact rfl)); clear hK K))
  (refine wsPlan_take rfl (fun K hK => ?_); replace hK := Lib.hid hK; go_simp; first | (refine hK.out _ ?_; clear hK K) | (apply Exists.intro; refine ⟨fun w' hw => ?_, hK.out _ ?_⟩; (first | with_reducible exact rfl | (have f1 := F1 w' hw; have f2 := F2 w' hw; go_simp; exact rfl)); clear hK K))
  (refine wsPlan_take rfl (fun K hK => ?_); replace hK := Lib.hid hK; go_simp; first | (refine hK.out _ ?_; clear hK K) | (apply Exists.intro; refine ⟨fun w' hw => ?_, hK.out _ ?_⟩; (first | with_reducible exact rfl | (have f1 := F1 w' hw; have f2 := F2 w' hw; go_simp; exact rfl)); clear hK K))
  (refine wsPlan_take rfl (fun K hK => ?_); replace hK := Lib.hid hK; go_simp; first | (refine hK.out _ ?_; clear hK K) | (apply Exists.intro; refine ⟨fun w' hw => ?_, hK.out _ ?_⟩; (first | with_reducible exact rfl | (have f1 := F1 w' hw; have f2 := F2 w' hw; go_simp; exact rfl)); clear hK K))
  (refine wsPlan_take rfl (fun K hK => ?_); replace hK := Lib.hid hK; go_simp; first | (refine hK.out _ ?_; clear hK K) | (apply Exists.intro; refine ⟨fun w' hw => ?_, hK.out _ ?_⟩; (first | with_reducible exact rfl | (have f1 := F1 w' hw; have f2 := F2 w' hw; go_simp; exact rfl)); clear hK K))
  (refine wsPlan_take rfl (fun K hK => ?_); replace hK := Lib.hid hK; go_simp; first | (refine hK.out _ ?_; clear hK K) | (apply Exists.intro; refine ⟨fun w' hw => ?_, hK.out _ ?_⟩; (first | with_reducible exact rfl | (have f1 := F1 w' hw; have f2 := F2 w' hw; go_simp; exact rfl)); clear hK K))
  (refine wsPlan_take rfl (fun K hK => ?_); replace hK := Lib.hid hK; go_simp; first | (refine hK.out _ ?_; clear hK K) | (apply Exists.intro; refine ⟨fun w' hw => ?_, hK.out _ ?_⟩; (first | with_reducible exact rfl | (have f1 := F1 w' hw; have f2 := F2 w' hw; go_simp; exact rfl)); clear hK K))
  (refine wsPlan_take rfl (fun K hK => ?_); replace hK := Lib.hid hK; go_simp; first | (refine hK.out _ ?_; clear hK K) | (apply Exists.intro; refine ⟨fun w' hw => ?_, hK.out _ ?_⟩; (first | with_reducible exact rfl | (have f1 := F1 w' hw; have f2 := F2 w' hw; go_simp; exact rfl)); clear hK K))
  (refine wsPlan_take rfl (fun K hK => ?_); replace hK := Lib.hid hK; go_simp; first | (refine hK.out _ ?_; clear hK K) | (apply Exists.intro; refine ⟨fun w' hw => ?_, hK.out _ ?_⟩; (first | with_reducible exact rfl | (have f1 := F1 w' hw; have f2 := F2 w' hw; go_simp; exact rfl)); clear hK K))
  (refine wsPlan_take rfl (fun K hK => ?_); replace hK := Lib.hid hK; go_simp; first | (refine hK.out _ ?_; clear hK K) | (apply Exists.intro; refine ⟨fun w' hw => ?_, hK.out _ ?_⟩; (first | with_reducible exact rfl | (have f1 := F1 w' hw; have f2 := F2 w' hw; go_simp; exact rfl)); clear hK K))
  (refine wsPlan_take rfl (fun K hK => ?_); replace hK := Lib.hid hK; go_simp; first | (refine hK.out _ ?_; clear hK K) | (apply Exists.intro; refine ⟨fun w' hw => ?_, hK.out _ ?_⟩; (first | with_reducible exact rfl | (have f1 := F1 w' hw; have f2 := F2 w' hw; go_simp; exact rfl)); clear hK K))
  (refine wsPlan_take rfl (fun K hK => ?_); replace hK := Lib.hid hK; go_simp; first | (refine hK.out _ ?_; clear hK K) | (apply Exists.intro; refine ⟨fun w' hw => ?_, hK.out _ ?_⟩; (first | with_reducible exact rfl | (have f1 := F1 w' hw; have f2 := F2 w' hw; go_simp; exact rfl)); clear hK K))
  (refine wsPlan_take rfl (fun K hK => ?_); replace hK := Lib.hid hK; go_simp; first | (refine hK.out _ ?_; clear hK K) | (apply Exists.intro; refine ⟨fun w' hw => ?_, hK.out _ ?_⟩; (first | with_reducible exact rfl | (have f1 := F1 w' hw; have f2 := F2 w' hw; go_simp; exact rfl)); clear hK K))
  (refine wsPlan_take rfl (fun K hK => ?_); replace hK := Lib.hid hK; go_simp; first | (refine hK.out _ ?_; clear hK K) | (apply Exists.intro; refine ⟨fun w' hw => ?_, hK.out _ ?_⟩; (first | with_reducible exact rfl | (have f1 := F1 w' hw; have f2 := F2 w' hw; go_simp; exact rfl)); clear hK K))
  (refine wsPlan_take rfl (fun K hK => ?_); replace hK := Lib.hid hK; go_simp; first | (refine hK.out _ ?_; clear hK K) | (apply Exists.intro; refine ⟨fun w' hw => ?_, hK.out _ ?_⟩; (first | with_reducible exact rfl | (have f1 := F1 w' hw; have f2 := F2 w' hw; go_simp; exact rfl)); clear hK K))
  (refine wsPlan_take rfl (fun K hK => ?_); replace hK := Lib.hid hK; go_simp; first | (refine hK.out _ ?_; clear hK K) | (apply Exists.intro; refine ⟨fun w' hw => ?_, hK.out _ ?_⟩; (first | with_reducible exact rfl | (have f1 := F1 w' hw; have f2 := F2 w' hw; go_simp; exact rfl)); clear hK K))
  (refine wsPlan_take rfl (fun K hK => ?_); replace hK := Lib.hid hK; go_simp; first | (refine hK.out _ ?_; clear hK K) | (apply Exists.intro; refine ⟨fun w' hw => ?_, hK.out _ ?_⟩; (first | with_reducible exact rfl | (have f1 := F1 w' hw; have f2 := F2 w' hw; go_simp; exact rfl)); clear hK K))
  (refine wsPlan_take rfl (fun K hK => ?_); replace hK := Lib.hid hK; go_simp; first | (refine hK.out _ ?_; clear hK K) | (apply Exists.intro; refine ⟨fun w' hw => ?_, hK.out _ ?_⟩; (first | with_reducible exact rfl | (have f1 := F1 w' hw; have f2 := F2 w' hw; go_simp; exact rfl)); clear hK K))
  (refine wsPlan_take rfl (fun K hK => ?_); replace hK := Lib.hid hK; go_simp; first | (refine hK.out _ ?_; clear hK K) | (apply Exists.intro; refine ⟨fun w' hw => ?_, hK.out _ ?_⟩; (first | with_reducible exact rfl | (have f1 := F1 w' hw; have f2 := F2 w' hw; go_simp; exact rfl)); clear hK K))
  (refine wsPlan_take rfl (fun K hK => ?_); replace hK := Lib.hid hK; go_simp; first | (refine hK.out _ ?_; clear hK K) | (apply Exists.intro; refine ⟨fun w' hw => ?_, hK.out _ ?_⟩; (first | with_reducible exact rfl | (have f1 := F1 w' hw; have f2 := F2 w' hw; go_simp; exact rfl)); clear hK K))
  (refine wsPlan_take rfl (fun K hK => ?_); replace hK := Lib.hid hK; go_simp; first | (refine hK.out _ ?_; clear hK K) | (apply Exists.intro; refine ⟨fun w' hw => ?_, hK.out _ ?_⟩; (first | with_reducible exact rfl | (have f1 := F1 w' hw; have f2 := F2 w' hw; go_simp; exact rfl)); clear hK K))
  (refine wsPlan_take rfl (fun K hK => ?_); replace hK := Lib.hid hK; go_simp; first | (refine hK.out _ ?_; clear hK K) | (apply Exists.intro; refine ⟨fun w' hw => ?_, hK.out _ ?_⟩; (first | with_reducible exact rfl | (have f1 := F1 w' hw; have f2 := F2 w' hw; go_simp; exact rfl)); clear hK K))
  (refine wsPlan_take rfl (fun K hK => ?_); replace hK := Lib.hid hK; go_simp; first | (refine hK.out _ ?_; clear hK K) | (apply Exists.intro; refine ⟨fun w' hw => ?_, hK.out _ ?_⟩; (first | with_reducible exact rfl | (have f1 := F1 w' hw; have f2 := F2 w' hw; go_simp; exact rfl)); clear hK K))
  (refine wsPlan_take rfl (fun K hK => ?_); replace hK := Lib.hid hK; go_simp; first | (refine hK.out _ ?_; clear hK K) | (apply Exists.intro; refine ⟨fun w' hw => ?_, hK.out _ ?_⟩; (first | with_reducible exact rfl | (have f1 := F1 w' hw; have f2 := F2 w' hw; go_simp; exact rfl)); clear hK K))
  (refine wsPlan_take rfl (fun K hK => ?_); replace hK := Lib.hid hK; go_simp; first | (refine hK.out _ ?_; clear hK K) | (apply Exists.intro; refine ⟨fun w' hw => ?_, hK.out _ ?_⟩; (first | with_reducible exact rfl | (have f1 := F1 w' hw; have f2 := F2 w' hw; go_simp; exact rfl)); clear hK K))
  (refine wsPlan_take rfl (fun K hK => ?_); replace hK := Lib.hid hK; go_simp; first | (refine hK.out _ ?_; clear hK K) | (apply Exists.intro; refine ⟨fun w' hw => ?_, hK.out _ ?_⟩; (first | with_reducible exact rfl | (have f1 := F1 w' hw; have f2 := F2 w' hw; go_simp; exact rfl)); clear hK K))
  (refine wsPlan_take rfl (fun K hK => ?_); replace hK := Lib.hid hK; go_simp; first | (refine hK.out _ ?_; clear hK K) | (apply Exists.intro; refine ⟨fun w' hw => ?_, hK.out _ ?_⟩; (first | with_reducible exact rfl | (have f1 := F1 w' hw; have f2 := F2 w' hw; go_simp; exact rfl)); clear hK K))
  (refine wsPlan_take rfl (fun K hK => ?_); replace hK := Lib.hid hK; go_simp; first | (refine hK.out _ ?_; clear hK K) | (apply Exists.intro; refine ⟨fun w' hw => ?_, hK.out _ ?_⟩; (first | with_reducible exact rfl | (have f1 := F1 w' hw; have f2 := F2 w' hw; go_simp; exact rfl)); clear hK K))
  (refine wsPlan_take rfl (fun K hK => ?_); replace hK := Lib.hid hK; go_simp; first | (refine hK.out _ ?_; clear hK K) | (apply Exists.intro; refine ⟨fun w' hw => ?_, hK.out _ ?_⟩; (first | with_reducible exact rfl | (have f1 := F1 w' hw; have f2 := F2 w' hw; go_simp; exact rfl)); clear hK K))
  have q2 := (show W.drew.heap[w.heap.size + 1 + 1]? = _ from Q2.out)
  (refine wsPlan_only rfl (fun K hK => ?_); replace hK := Lib.hid hK; go_simp; go_at_call 354; (with_reducible refine (dtround_any _ _ B1.out HX.out).mono ?_); rintro o w5 ⟨rfl, hb5⟩; have hP1 := hP.call hb5 HB.out.size HIN.out; have q2 := block_later hb5 q2; refine hK.out _ _ hP1 (fun hP => ?_); clear hK K hP1)
  (refine wsPlan_only rfl (fun K hK => ?_); replace hK := Lib.hid hK; go_simp; go_at_call 354; (with_reducible refine (dtround_any _ _ B2.out HY.out).mono ?_); rintro o w6 ⟨rfl, hb6⟩; have hP1 := hP.call hb6 HB.out.size HIN.out; have q2 := block_later hb6 q2; refine hK.out _ _ hP1 (fun hP => ?_); clear hK K hP1)
  (refine wsPlan_only rfl (fun K hK => ?_); replace hK := Lib.hid hK; go_simp; go_at_call 354; (with_reducible refine (dtround_any _ _ B3.out HT.out).mono ?_); rintro o w7 ⟨rfl, hb7⟩; have hP1 := hP.call hb7 HB.out.size HIN.out; have q2 := block_later hb7 q2; refine hK.out _ _ hP1 (fun hP => ?_); clear hK K hP1)
  (refine wsPlan_take rfl (fun K hK => ?_); replace hK := Lib.hid hK; go_simp; first | (refine hK.out _ ?_; clear hK K) | (apply Exists.intro; refine ⟨fun w' hw => ?_, hK.out _ ?_⟩; (first | with_reducible exact rfl | (have f1 := F1 w' hw; have f2 := F2 w' hw; go_simp; exact rfl)); clear hK K))
  (refine wsPlan_take rfl (fun K hK => ?_); replace hK := Lib.hid hK; go_simp; first | (refine hK.out _ ?_; clear hK K) | (apply Exists.intro; refine ⟨fun w' hw => ?_, hK.out _ ?_⟩; (first | with_reducible exact rfl | (have f1 := F1 w' hw; have f2 := F2 w' hw; go_simp; exact rfl)); clear hK K))
  have f9 := free_block q2
  have c8 := cell_block q2
  (refine wsPlan_only rfl (fun K hK => ?_); replace hK := Lib.hid hK; go_simp; refine hK.out _ _ (by exact ((hP.setCell (by omega) (by simp <;> omega) _).setCell (by omega) (by simp <;> omega) _).setCell (by omega) (by simp <;> omega) _) (fun hP => ?_); clear hK K)
  refine wsPlan_done ?_
  have c9 := cell_block (block_set (i := 2) (block_set (i := 1) (block_set (i := 0) q2 (.int .i64 x)) (.int .i64 y)) (.int .i64 z))
  clear F1 F2 f9 c8
  go_wp2_with fail
  exact bodyPost_ret (v := .agg #[.int .i64 x, .int .i64 y, .int .i64 z]) (by simp [results, Tryz.results261, go_sem, c9]) rfl ⟨rfl, HB.out.trans hP.1⟩
set_option maxRecDepth 20000 in
set_option maxHeartbeats 4000000 in
theorem dtgrown_any (a b c d e f r : Int) (w : World) (ha : -2000000 ≤ a ∧ a ≤ 2000000) (hb : -2000000 ≤ b ∧ b ≤ 2000000) (hd : -2000000 ≤ d ∧ d ≤ 2000000) (he : -2000000 ≤ e ∧ e ≤ 2000000) (hr : 0 ≤ r ∧ r ≤ 1000) {v : Int} (hv : upM (max (weighM a b) (weighM d e) * r) = v) :
    Calls Tryz.prog 262 #[.agg #[.int .i64 a, .int .i64 b, .int .i64 c, .int .i64 d, .int .i64 e, .int .i64 f], .int .i64 r, .int .i64 0] w fun o w' => o = .returned (.int .i64 v) ∧ Below w.heap.size w w' := by
  obtain ⟨x, hx⟩ : ∃ x, weighM a b = x := ⟨_, rfl⟩
  obtain ⟨y, hy⟩ : ∃ y, weighM d e = y := ⟨_, rfl⟩
  have x1 : 0 ≤ x ∧ x ≤ 4000000 := by rw [← hx]; unfold weighM; omega
  have y1 : 0 ≤ y ∧ y ≤ 4000000 := by rw [← hy]; unfold weighM; omega
  rw [hx, hy] at hv
  obtain ⟨m1, m2⟩ := mul_bd (a := max x y) (b := r) (A := 4000000) (B := 1000) (by omega) (by omega) (by omega) (by omega)
  have j1 : IntKind.i64.wrap (max x y + 0) = max x y := by rw [Int.add_zero]; exact IntWalk.i64_in _ (by omega)
  have j2 : IntKind.i64.wrap (max x y) = max x y := IntWalk.i64_in _ (by omega)
  have j3 : IntKind.i64.wrap (max x y * r) = max x y * r := IntWalk.i64_in _ (by omega)
  have MB : Hid (-4000000000000000000 ≤ max x y * r ∧ max x y * r ≤ 4000000000000000000) := Lib.hid (by omega)
  have HX := Lib.hid hx
  have HY := Lib.hid hy
  have HV : Hid (-((-(max x y * r)) / 1000000) = v) := Lib.hid hv
  have A := Lib.hid (And.intro ha hb)
  have D := Lib.hid (And.intro hd he)
  clear hx hy hv x1 y1 m1 m2 ha hb hd he hr
  go_enter Tryz.func262, Tryz.ntmps262
  go_wp2_with fail
  refine wp_named fun W hW => ?_
  obtain ⟨p0, hB⟩ := box1 hW
  clear hW
  have HB := Lib.hid hB
  have F1 : ∀ w', Below W.heap.size W w' → ∀ i, w'.cell? ⟨w.heap.size, i, none⟩ = #[.int .i64 a, .int .i64 b, .int .i64 c, .int .i64 d, .int .i64 e, .int .i64 f][i]? := fun w' hw i => cell_block (block_later hw p0) i
  clear p0 hB
  refine wp_region_planS (Below W.heap.size W) (.take 0 (.take 0 (.take 1 (.take 1 (.take 3 (.take 4 (.only 0 (.only 0 (.take 0 (.take 0 (.take 0 (.only 0 (.take 0 .done))))))))))))) (by kernel_rfl) (by kernel_rfl) (Below.refl _ _).drew (fun hP => ?_)
  (refine wsPlan_take rfl (fun K hK => ?_); replace hK := Lib.hid hK; go_simp; first | (refine hK.out _ ?_; clear hK K) | (apply Exists.intro; refine ⟨fun w' hw => ?_, hK.out _ ?_⟩; (first | with_reducible exact rfl | (have f1 := F1 w' hw; go_simp; exact rfl)); clear hK K))
  (refine wsPlan_take rfl (fun K hK => ?_); replace hK := Lib.hid hK; go_simp; first | (refine hK.out _ ?_; clear hK K) | (apply Exists.intro; refine ⟨fun w' hw => ?_, hK.out _ ?_⟩; (first | with_reducible exact rfl | (have f1 := F1 w' hw; go_simp; exact rfl)); clear hK K))
  (refine wsPlan_take rfl (fun K hK => ?_); replace hK := Lib.hid hK; go_simp; first | (refine hK.out _ ?_; clear hK K) | (apply Exists.intro; refine ⟨fun w' hw => ?_, hK.out _ ?_⟩; (first | with_reducible exact rfl | (have f1 := F1 w' hw; go_simp; exact rfl)); clear hK K))
  (refine wsPlan_take rfl (fun K hK => ?_); replace hK := Lib.hid hK; go_simp; first | (refine hK.out _ ?_; clear hK K) | (apply Exists.intro; refine ⟨fun w' hw => ?_, hK.out _ ?_⟩; (first | with_reducible exact rfl | (have f1 := F1 w' hw; go_simp; exact rfl)); clear hK K))
  (refine wsPlan_take rfl (fun K hK => ?_); replace hK := Lib.hid hK; go_simp; first | (refine hK.out _ ?_; clear hK K) | (apply Exists.intro; refine ⟨fun w' hw => ?_, hK.out _ ?_⟩; (first | with_reducible exact rfl | (have f1 := F1 w' hw; go_simp; exact rfl)); clear hK K))
  (refine wsPlan_take rfl (fun K hK => ?_); replace hK := Lib.hid hK; go_simp; first | (refine hK.out _ ?_; clear hK K) | (apply Exists.intro; refine ⟨fun w' hw => ?_, hK.out _ ?_⟩; (first | with_reducible exact rfl | (have f1 := F1 w' hw; go_simp; exact rfl)); clear hK K))
  (refine wsPlan_only rfl (fun K hK => ?_); replace hK := Lib.hid hK; go_simp; go_at_call 356; (with_reducible refine (dtweight_any _ _ _ _ A.out.1 A.out.2 HX.out).mono ?_); rintro o wx ⟨rfl, hbx⟩; have hP1 := below_step hP hbx; refine hK.out _ _ hP1 (fun hP => ?_); clear hK K hP1 hbx)
  (refine wsPlan_only rfl (fun K hK => ?_); replace hK := Lib.hid hK; go_simp; go_at_call 356; (with_reducible refine (dtweight_any _ _ _ _ D.out.1 D.out.2 HY.out).mono ?_); rintro o wx ⟨rfl, hbx⟩; have hP1 := below_step hP hbx; refine hK.out _ _ hP1 (fun hP => ?_); clear hK K hP1 hbx)
  (refine wsPlan_take rfl (fun K hK => ?_); replace hK := Lib.hid hK; go_simp; first | (refine hK.out _ ?_; clear hK K) | (apply Exists.intro; refine ⟨fun w' hw => ?_, hK.out _ ?_⟩; (first | with_reducible exact rfl | (have f1 := F1 w' hw; go_simp; exact rfl)); clear hK K))
  (refine wsPlan_take rfl (fun K hK => ?_); replace hK := Lib.hid hK; go_simp; first | (refine hK.out _ ?_; clear hK K) | (apply Exists.intro; refine ⟨fun w' hw => ?_, hK.out _ ?_⟩; (first | with_reducible exact rfl | (have f1 := F1 w' hw; go_simp; exact rfl)); clear hK K))
  (refine wsPlan_take rfl (fun K hK => ?_); replace hK := Lib.hid hK; go_simp; first | (refine hK.out _ ?_; clear hK K) | (apply Exists.intro; refine ⟨fun w' hw => ?_, hK.out _ ?_⟩; (first | with_reducible exact rfl | (have f1 := F1 w' hw; go_simp; exact rfl)); clear hK K))
  (refine wsPlan_only rfl (fun K hK => ?_); replace hK := Lib.hid hK; go_simp; go_at_call 355; (with_reducible refine (dtup_any _ 1000000 _ MB.out (by omega) HV.out).mono ?_); rintro o wx ⟨rfl, hbx⟩; have hP1 := below_step hP hbx; refine hK.out _ _ hP1 (fun hP => ?_); clear hK K hP1 hbx)
  (refine wsPlan_take rfl (fun K hK => ?_); replace hK := Lib.hid hK; go_simp; first | (refine hK.out _ ?_; clear hK K) | (apply Exists.intro; refine ⟨fun w' hw => ?_, hK.out _ ?_⟩; (first | with_reducible exact rfl | (have f1 := F1 w' hw; go_simp; exact rfl)); clear hK K))
  refine wsPlan_done ?_
  have hBE := Lib.hid (below_step HB.out hP)
  clear F1 hP
  go_wp2_with fail
  go_returns
  exact ⟨rfl, hBE.out⟩
theorem thenR_cases {m n : Dat} {x : Dat} {k : Int} (h : thenR m n = (x, k)) (hm : DatOk m) (hn : DatOk n) : writeR (thenD m n) = (x, k) := by
  unfold thenR at h
  rwa [if_pos ⟨hm, hn⟩] at h
theorem datOk_parts {m : Dat} (h : DatOk m) : (-2000000 ≤ m.a ∧ m.a ≤ 2000000) ∧ (-2000000 ≤ m.b ∧ m.b ≤ 2000000) ∧ (-100000 ≤ m.c ∧ m.c ≤ 100000) ∧ (-2000000 ≤ m.d ∧ m.d ≤ 2000000) ∧ (-2000000 ≤ m.e ∧ m.e ≤ 2000000) ∧ (-100000 ≤ m.f ∧ m.f ≤ 100000) ∧ 0 ≤ m.r ∧ m.r ≤ 1000 := by
  obtain ⟨⟨a, b, d, e⟩, _, c, f, r⟩ := h
  exact ⟨a, b, c, d, e, f, r⟩
set_option maxRecDepth 100000 in
set_option maxHeartbeats 8000000 in
theorem dtThen_any (m n : Dat) (w : World) {x : Dat} {k : Int} (hr : thenR m n = (x, k)) : Calls Tryz.prog 171 #[.agg #[.int .i64 m.a, .int .i64 m.b, .int .i64 m.c, .int .i64 m.d, .int .i64 m.e, .int .i64 m.f, .int .i64 m.r], .agg #[.int .i64 n.a, .int .i64 n.b, .int .i64 n.c, .int .i64 n.d, .int .i64 n.e, .int .i64 n.f, .int .i64 n.r]] w fun e w' => e = .returned (.tuple #[.agg #[.int .i64 x.a, .int .i64 x.b, .int .i64 x.c, .int .i64 x.d, .int .i64 x.e, .int .i64 x.f, .int .i64 x.r], .int .i64 k]) ∧ Below w.heap.size w w' := by
  obtain ⟨u1, hu1⟩ : ∃ v, decide (DatOk m) = v := ⟨_, rfl⟩
  obtain ⟨u2, hu2⟩ : ∃ v, decide (DatOk n) = v := ⟨_, rfl⟩
  have U1 := Lib.hid hu1
  have U2 := Lib.hid hu2
  have HR := Lib.hid hr
  clear hu1 hu2 hr
  go_enter Tryz.func171, Tryz.ntmps171
  go_wp2_with fail
  refine calls_named fun W hW => ?_
  obtain ⟨p0, p1, p2, hB⟩ := box3 hW
  clear hW
  simp only [Nat.add_assoc, Nat.reduceAdd] at p0 p1 p2 ⊢
  have P0 := Lib.hid p0
  have P1 := Lib.hid p1
  have P2 := Lib.hid p2
  have HBW := Lib.hid hB
  clear p0 p1 p2 hB
  (with_reducible refine (dtValid_any m _ U1.out).mono ?_)
  rintro e w1 ⟨rfl, hb1⟩
  have X1 := Lib.hid hb1
  clear hb1
  cases u1
  · skip
    have hx : thenR m n = (noDat, 1) := if_neg (fun q => of_decide_eq_false U1.out q.1)
    have hxx := HR.out.symm.trans hx
    cases hxx
    have r2 := block_later X1.out P2.out
    have f2 := free_block r2
    have c2 := cell_block r2
    have R2 := Lib.hid r2
    have hBX := below_step HBW.out X1.out
    clear r2
    go_wp2_with fail
    have c9 := cell_block (block_set (i := 6) (block_set (i := 5) (block_set (i := 4) (block_set (i := 3) (block_set (i := 2) (block_set (i := 1) (block_set (i := 0) R2.out (.int .i64 0)) (.int .i64 0)) (.int .i64 0)) (.int .i64 0)) (.int .i64 0)) (.int .i64 0)) (.int .i64 0))
    exact bodyPost_ret (v := .tuple #[.agg #[.int .i64 0, .int .i64 0, .int .i64 0, .int .i64 0, .int .i64 0, .int .i64 0, .int .i64 0], .int .i64 1]) (by simp [results, Tryz.results171, go_sem, c9]) rfl ⟨rfl, (setM (setM (setM (setM (setM (setM (setM hBX (by omega) _) (by omega) _) (by omega) _) (by omega) _) (by omega) _) (by omega) _) (by omega) _)⟩
  have c1 := cell_block (block_later X1.out P1.out)
  go_wp2_with fail
  (with_reducible refine (dtValid_any n _ U2.out).mono ?_)
  rintro e w2 ⟨rfl, hb2⟩
  have X2 := Lib.hid (below_step X1.out hb2)
  clear hb2 c1
  cases u2
  · skip
    have hx : thenR m n = (noDat, 1) := if_neg (fun q => of_decide_eq_false U2.out q.2)
    have hxx := HR.out.symm.trans hx
    cases hxx
    have r2 := block_later X2.out P2.out
    have f2 := free_block r2
    have c2 := cell_block r2
    have R2 := Lib.hid r2
    have hBX := below_step HBW.out X2.out
    clear r2
    go_wp2_with fail
    have c9 := cell_block (block_set (i := 6) (block_set (i := 5) (block_set (i := 4) (block_set (i := 3) (block_set (i := 2) (block_set (i := 1) (block_set (i := 0) R2.out (.int .i64 0)) (.int .i64 0)) (.int .i64 0)) (.int .i64 0)) (.int .i64 0)) (.int .i64 0)) (.int .i64 0))
    exact bodyPost_ret (v := .tuple #[.agg #[.int .i64 0, .int .i64 0, .int .i64 0, .int .i64 0, .int .i64 0, .int .i64 0, .int .i64 0], .int .i64 1]) (by simp [results, Tryz.results171, go_sem, c9]) rfl ⟨rfl, (setM (setM (setM (setM (setM (setM (setM hBX (by omega) _) (by omega) _) (by omega) _) (by omega) _) (by omega) _) (by omega) _) (by omega) _)⟩
  have hm := of_decide_eq_true U1.out
  have hn := of_decide_eq_true U2.out
  have WR := Lib.hid (thenR_cases HR.out hm hn)
  have MP := Lib.hid (datOk_parts hm)
  have NP := Lib.hid (datOk_parts hn)
  clear hm hn U1 U2 HR
  go_wp2_with fail
  obtain ⟨W2, rfl⟩ : ∃ x, x = w2 := ⟨_, rfl⟩
  have q0 := block_later X2.out P0.out
  have q1 := block_later X2.out P1.out
  have Q2 := Lib.hid (block_later X2.out P2.out)
  have hlt2 := lt_block Q2.out
  have F1 : ∀ w', Below W2.heap.size W2 w' → ∀ i, w'.cell? ⟨w.heap.size, i, none⟩ = #[.int .i64 m.a, .int .i64 m.b, .int .i64 m.c, .int .i64 m.d, .int .i64 m.e, .int .i64 m.f, .int .i64 m.r][i]? := fun w' hw i => cell_block (block_later hw q0) i
  have F2 : ∀ w', Below W2.heap.size W2 w' → ∀ i, w'.cell? ⟨w.heap.size + 1, i, none⟩ = #[.int .i64 n.a, .int .i64 n.b, .int .i64 n.c, .int .i64 n.d, .int .i64 n.e, .int .i64 n.f, .int .i64 n.r][i]? := fun w' hw i => cell_block (block_later hw q1) i
  clear q0 q1
  go_cut [6, 7] from 18 to 21 (fun s6 s7 wx => ∃ g6 g7 : Nat, s6 = .pointer (some ⟨g6, 0, none⟩) ∧ s7 = .pointer (some ⟨g7, 0, none⟩) ∧ Below W2.heap.size W2 wx ∧ wx.heap[g6]? = some (.cells #[.int .i64 m.a, .int .i64 m.b, .int .i64 m.c, .int .i64 m.d, .int .i64 m.e, .int .i64 m.f, .int .i64 m.r] 227 (0, 0)) ∧ wx.heap[g7]? = some (.cells #[.int .i64 n.a, .int .i64 n.b, .int .i64 n.c, .int .i64 n.d, .int .i64 n.e, .int .i64 n.f, .int .i64 n.r] 227 (0, 0)))
  case first =>
    refine wp_region_planS (Below W2.heap.size W2) (.take 0 (.take 1 (.three 0 (.three 0 (.two 0 (.only 0 (.only 0 (.only 0 .done))) 1 (.only 0 (.only 0 (.only 0 .done)))) 1 (.two 0 (.only 0 (.only 0 (.only 0 .done))) 1 (.only 0 (.only 0 (.only 0 .done)))) 2 (.two 0 (.only 0 (.only 0 (.only 0 .done))) 1 (.only 0 (.only 0 (.only 0 .done))))) 2 (.two 0 (.two 0 (.only 0 (.only 0 (.only 0 .done))) 1 (.only 0 (.only 0 (.only 0 .done)))) 2 (.only 0 (.only 0 (.only 0 (.only 0 .done))))) 3 (.two 0 (.two 0 (.only 0 (.only 0 (.only 0 .done))) 1 (.only 0 (.only 0 (.only 0 .done)))) 2 (.only 0 (.only 0 (.only 0 (.only 0 .done)))))))) (by kernel_rfl) (by kernel_rfl) (Below.refl _ _).drew (fun hP => ?_)
    generalize hdr : W2.drew = v1 at hP ⊢
    clear hdr
    (refine wsPlan_take rfl (fun K hK => ?_); replace hK := Lib.hid hK; go_simp; first | (refine hK.out _ ?_; clear hK K) | (apply Exists.intro; refine ⟨fun w' hw => ?_, hK.out _ ?_⟩; (first | with_reducible exact rfl | (have f1 := F1 w' hw; have f2 := F2 w' hw; go_simp; exact rfl)); clear hK K))
    (refine wsPlan_take rfl (fun K hK => ?_); replace hK := Lib.hid hK; go_simp; first | (refine hK.out _ ?_; clear hK K) | (apply Exists.intro; refine ⟨fun w' hw => ?_, hK.out _ ?_⟩; (first | with_reducible exact rfl | (have f1 := F1 w' hw; have f2 := F2 w' hw; go_simp; exact rfl)); clear hK K))
    refine wsPlan_three ?_ ?_ ?_
    · skip
      (refine wsPlan_only rfl (fun K hK => ?_); replace hK := Lib.hid hK; go_simp; go_at_call 169; (with_reducible refine (dtread_any _ _ _ _ _ _ _ _).mono ?_); rintro z v2 ⟨rfl, hb2⟩; have hP1 := below_step hP hb2; refine hK.out _ _ hP1 (fun hP => ?_); clear hK K hP1)
      refine wsPlan_three ?_ ?_ ?_
      · skip
        (refine wsPlan_only rfl (fun K hK => ?_); replace hK := Lib.hid hK; go_simp; go_at_call 169; (with_reducible refine (dtread_any _ _ _ _ _ _ _ _).mono ?_); rintro z v3 ⟨rfl, hb3⟩; have hP1 := below_step hP hb3; refine hK.out _ _ hP1 (fun hP => ?_); clear hK K hP1)
        refine wsPlan_two ?_ ?_
        · skip
          have hxs6 : W2.heap.size ≤ v3.heap.size := hP.size
          (refine wsPlan_only rfl (fun K hK => ?_); replace hK := Lib.hid hK; go_simp; refine hK.out _ _ (hP.alloc hP.size _) (fun hP => ?_); clear hK K)
          generalize hw4 : World.alloc v3 (Obj.cells #[.int .i64 0, .int .i64 0, .int .i64 0, .int .i64 0, .int .i64 0, .int .i64 0, .int .i64 0] 227) = v4 at hP ⊢
          obtain ⟨qs6_4, hb4⟩ := box1 hw4.symm
          clear hw4
          have hzs6 := hb4.size
          have hys6 := hP.size
          have hxs7 : W2.heap.size ≤ v4.heap.size := hP.size
          (refine wsPlan_only rfl (fun K hK => ?_); replace hK := Lib.hid hK; go_simp; refine hK.out _ _ (hP.alloc hP.size _) (fun hP => ?_); clear hK K)
          generalize hw5 : World.alloc v4 (Obj.cells #[.int .i64 0, .int .i64 0, .int .i64 0, .int .i64 0, .int .i64 0, .int .i64 0, .int .i64 0] 227) = v5 at hP ⊢
          obtain ⟨qs7_5, hb5⟩ := box1 hw5.symm
          clear hw5
          have hzs7 := hb5.size
          have hys7 := hP.size
          have qs6_5 := block_later hb5 qs6_4
          have hns7s6 := lt_block qs6_4
          have f9 := free_block qs6_5
          have c9 := cell_block qs6_5
          (refine wsPlan_only rfl (fun K hK => ?_); replace hK := Lib.hid hK; go_simp; refine hK.out _ _ (by with_reducible exact (setM (setM (setM (setM (setM (setM (setM hP hxs6 _) hxs6 _) hxs6 _) hxs6 _) hxs6 _) hxs6 _) hxs6 _)) (fun hP => ?_); clear hK K f9 c9)
          have qs6_6 := (block_set (i := 6) (block_set (i := 5) (block_set (i := 4) (block_set (i := 3) (block_set (i := 2) (block_set (i := 1) (block_set (i := 0) qs6_5 (.int .i64 m.a)) (.int .i64 m.b)) (.int .i64 m.c)) (.int .i64 m.d)) (.int .i64 m.e)) (.int .i64 m.f)) (.int .i64 m.r))
          have qs7_6 := (block_far (a := ⟨v3.heap.size, 6, none⟩) (block_far (a := ⟨v3.heap.size, 5, none⟩) (block_far (a := ⟨v3.heap.size, 4, none⟩) (block_far (a := ⟨v3.heap.size, 3, none⟩) (block_far (a := ⟨v3.heap.size, 2, none⟩) (block_far (a := ⟨v3.heap.size, 1, none⟩) (block_far (a := ⟨v3.heap.size, 0, none⟩) qs7_5 (by dsimp only; omega) (.int .i64 m.a)) (by dsimp only; omega) (.int .i64 m.b)) (by dsimp only; omega) (.int .i64 m.c)) (by dsimp only; omega) (.int .i64 m.d)) (by dsimp only; omega) (.int .i64 m.e)) (by dsimp only; omega) (.int .i64 m.f)) (by dsimp only; omega) (.int .i64 m.r))
          generalize hw6 : (World.setCell (World.setCell (World.setCell (World.setCell (World.setCell (World.setCell (World.setCell v5 ⟨v3.heap.size, 0, none⟩ (.int .i64 m.a)) ⟨v3.heap.size, 1, none⟩ (.int .i64 m.b)) ⟨v3.heap.size, 2, none⟩ (.int .i64 m.c)) ⟨v3.heap.size, 3, none⟩ (.int .i64 m.d)) ⟨v3.heap.size, 4, none⟩ (.int .i64 m.e)) ⟨v3.heap.size, 5, none⟩ (.int .i64 m.f)) ⟨v3.heap.size, 6, none⟩ (.int .i64 m.r)) = v6 at hP qs6_6 qs7_6 ⊢
          clear hw6
          have f9 := free_block qs7_6
          have c9 := cell_block qs7_6
          (refine wsPlan_only rfl (fun K hK => ?_); replace hK := Lib.hid hK; go_simp; refine hK.out _ _ (by with_reducible exact (setM (setM (setM (setM (setM (setM (setM hP hxs7 _) hxs7 _) hxs7 _) hxs7 _) hxs7 _) hxs7 _) hxs7 _)) (fun hP => ?_); clear hK K f9 c9)
          have qs7_7 := (block_set (i := 6) (block_set (i := 5) (block_set (i := 4) (block_set (i := 3) (block_set (i := 2) (block_set (i := 1) (block_set (i := 0) qs7_6 (.int .i64 n.a)) (.int .i64 n.b)) (.int .i64 n.c)) (.int .i64 n.d)) (.int .i64 n.e)) (.int .i64 n.f)) (.int .i64 n.r))
          have qs6_7 := (block_far (a := ⟨v4.heap.size, 6, none⟩) (block_far (a := ⟨v4.heap.size, 5, none⟩) (block_far (a := ⟨v4.heap.size, 4, none⟩) (block_far (a := ⟨v4.heap.size, 3, none⟩) (block_far (a := ⟨v4.heap.size, 2, none⟩) (block_far (a := ⟨v4.heap.size, 1, none⟩) (block_far (a := ⟨v4.heap.size, 0, none⟩) qs6_6 (by dsimp only; omega) (.int .i64 n.a)) (by dsimp only; omega) (.int .i64 n.b)) (by dsimp only; omega) (.int .i64 n.c)) (by dsimp only; omega) (.int .i64 n.d)) (by dsimp only; omega) (.int .i64 n.e)) (by dsimp only; omega) (.int .i64 n.f)) (by dsimp only; omega) (.int .i64 n.r))
          generalize hw7 : (World.setCell (World.setCell (World.setCell (World.setCell (World.setCell (World.setCell (World.setCell v6 ⟨v4.heap.size, 0, none⟩ (.int .i64 n.a)) ⟨v4.heap.size, 1, none⟩ (.int .i64 n.b)) ⟨v4.heap.size, 2, none⟩ (.int .i64 n.c)) ⟨v4.heap.size, 3, none⟩ (.int .i64 n.d)) ⟨v4.heap.size, 4, none⟩ (.int .i64 n.e)) ⟨v4.heap.size, 5, none⟩ (.int .i64 n.f)) ⟨v4.heap.size, 6, none⟩ (.int .i64 n.r)) = v7 at hP qs7_7 qs6_7 ⊢
          clear hw7
          refine wsPlan_done ?_
          clear F1 F2
          have HA := Lib.hid qs6_7
          have HC := Lib.hid qs7_7
          have HP := Lib.hid hP
          go_wp2_with fail
          go_meet
          exact ⟨_, _, rfl, rfl, HP.out, HA.out, HC.out⟩
        · skip
          have hxs7 : W2.heap.size ≤ v3.heap.size := hP.size
          (refine wsPlan_only rfl (fun K hK => ?_); replace hK := Lib.hid hK; go_simp; refine hK.out _ _ (hP.alloc hP.size _) (fun hP => ?_); clear hK K)
          generalize hw8 : World.alloc v3 (Obj.cells #[.int .i64 0, .int .i64 0, .int .i64 0, .int .i64 0, .int .i64 0, .int .i64 0, .int .i64 0] 227) = v8 at hP ⊢
          obtain ⟨qs7_8, hb8⟩ := box1 hw8.symm
          clear hw8
          have hzs7 := hb8.size
          have hys7 := hP.size
          have hxs6 : W2.heap.size ≤ v8.heap.size := hP.size
          (refine wsPlan_only rfl (fun K hK => ?_); replace hK := Lib.hid hK; go_simp; refine hK.out _ _ (hP.alloc hP.size _) (fun hP => ?_); clear hK K)
          generalize hw9 : World.alloc v8 (Obj.cells #[.int .i64 0, .int .i64 0, .int .i64 0, .int .i64 0, .int .i64 0, .int .i64 0, .int .i64 0] 227) = v9 at hP ⊢
          obtain ⟨qs6_9, hb9⟩ := box1 hw9.symm
          clear hw9
          have hzs6 := hb9.size
          have hys6 := hP.size
          have qs7_9 := block_later hb9 qs7_8
          have hns6s7 := lt_block qs7_8
          have f9 := free_block qs6_9
          have c9 := cell_block qs6_9
          (refine wsPlan_only rfl (fun K hK => ?_); replace hK := Lib.hid hK; go_simp; refine hK.out _ _ (by with_reducible exact (setM (setM (setM (setM (setM (setM (setM hP hxs6 _) hxs6 _) hxs6 _) hxs6 _) hxs6 _) hxs6 _) hxs6 _)) (fun hP => ?_); clear hK K f9 c9)
          have qs6_10 := (block_set (i := 6) (block_set (i := 5) (block_set (i := 4) (block_set (i := 3) (block_set (i := 2) (block_set (i := 1) (block_set (i := 0) qs6_9 (.int .i64 m.a)) (.int .i64 m.b)) (.int .i64 m.c)) (.int .i64 m.d)) (.int .i64 m.e)) (.int .i64 m.f)) (.int .i64 m.r))
          have qs7_10 := (block_far (a := ⟨v8.heap.size, 6, none⟩) (block_far (a := ⟨v8.heap.size, 5, none⟩) (block_far (a := ⟨v8.heap.size, 4, none⟩) (block_far (a := ⟨v8.heap.size, 3, none⟩) (block_far (a := ⟨v8.heap.size, 2, none⟩) (block_far (a := ⟨v8.heap.size, 1, none⟩) (block_far (a := ⟨v8.heap.size, 0, none⟩) qs7_9 (by dsimp only; omega) (.int .i64 m.a)) (by dsimp only; omega) (.int .i64 m.b)) (by dsimp only; omega) (.int .i64 m.c)) (by dsimp only; omega) (.int .i64 m.d)) (by dsimp only; omega) (.int .i64 m.e)) (by dsimp only; omega) (.int .i64 m.f)) (by dsimp only; omega) (.int .i64 m.r))
          generalize hw10 : (World.setCell (World.setCell (World.setCell (World.setCell (World.setCell (World.setCell (World.setCell v9 ⟨v8.heap.size, 0, none⟩ (.int .i64 m.a)) ⟨v8.heap.size, 1, none⟩ (.int .i64 m.b)) ⟨v8.heap.size, 2, none⟩ (.int .i64 m.c)) ⟨v8.heap.size, 3, none⟩ (.int .i64 m.d)) ⟨v8.heap.size, 4, none⟩ (.int .i64 m.e)) ⟨v8.heap.size, 5, none⟩ (.int .i64 m.f)) ⟨v8.heap.size, 6, none⟩ (.int .i64 m.r)) = v10 at hP qs6_10 qs7_10 ⊢
          clear hw10
          have f9 := free_block qs7_10
          have c9 := cell_block qs7_10
          (refine wsPlan_only rfl (fun K hK => ?_); replace hK := Lib.hid hK; go_simp; refine hK.out _ _ (by with_reducible exact (setM (setM (setM (setM (setM (setM (setM hP hxs7 _) hxs7 _) hxs7 _) hxs7 _) hxs7 _) hxs7 _) hxs7 _)) (fun hP => ?_); clear hK K f9 c9)
          have qs7_11 := (block_set (i := 6) (block_set (i := 5) (block_set (i := 4) (block_set (i := 3) (block_set (i := 2) (block_set (i := 1) (block_set (i := 0) qs7_10 (.int .i64 n.a)) (.int .i64 n.b)) (.int .i64 n.c)) (.int .i64 n.d)) (.int .i64 n.e)) (.int .i64 n.f)) (.int .i64 n.r))
          have qs6_11 := (block_far (a := ⟨v3.heap.size, 6, none⟩) (block_far (a := ⟨v3.heap.size, 5, none⟩) (block_far (a := ⟨v3.heap.size, 4, none⟩) (block_far (a := ⟨v3.heap.size, 3, none⟩) (block_far (a := ⟨v3.heap.size, 2, none⟩) (block_far (a := ⟨v3.heap.size, 1, none⟩) (block_far (a := ⟨v3.heap.size, 0, none⟩) qs6_10 (by dsimp only; omega) (.int .i64 n.a)) (by dsimp only; omega) (.int .i64 n.b)) (by dsimp only; omega) (.int .i64 n.c)) (by dsimp only; omega) (.int .i64 n.d)) (by dsimp only; omega) (.int .i64 n.e)) (by dsimp only; omega) (.int .i64 n.f)) (by dsimp only; omega) (.int .i64 n.r))
          generalize hw11 : (World.setCell (World.setCell (World.setCell (World.setCell (World.setCell (World.setCell (World.setCell v10 ⟨v3.heap.size, 0, none⟩ (.int .i64 n.a)) ⟨v3.heap.size, 1, none⟩ (.int .i64 n.b)) ⟨v3.heap.size, 2, none⟩ (.int .i64 n.c)) ⟨v3.heap.size, 3, none⟩ (.int .i64 n.d)) ⟨v3.heap.size, 4, none⟩ (.int .i64 n.e)) ⟨v3.heap.size, 5, none⟩ (.int .i64 n.f)) ⟨v3.heap.size, 6, none⟩ (.int .i64 n.r)) = v11 at hP qs7_11 qs6_11 ⊢
          clear hw11
          refine wsPlan_done ?_
          clear F1 F2
          have HA := Lib.hid qs6_11
          have HC := Lib.hid qs7_11
          have HP := Lib.hid hP
          go_wp2_with fail
          go_meet
          exact ⟨_, _, rfl, rfl, HP.out, HA.out, HC.out⟩
      · skip
        have hxs6 : W2.heap.size ≤ v2.heap.size := hP.size
        (refine wsPlan_only rfl (fun K hK => ?_); replace hK := Lib.hid hK; go_simp; refine hK.out _ _ (hP.alloc hP.size _) (fun hP => ?_); clear hK K)
        generalize hw12 : World.alloc v2 (Obj.cells #[.int .i64 0, .int .i64 0, .int .i64 0, .int .i64 0, .int .i64 0, .int .i64 0, .int .i64 0] 227) = v12 at hP ⊢
        obtain ⟨qs6_12, hb12⟩ := box1 hw12.symm
        clear hw12
        have hzs6 := hb12.size
        have hys6 := hP.size
        refine wsPlan_two ?_ ?_
        · skip
          (refine wsPlan_only rfl (fun K hK => ?_); replace hK := Lib.hid hK; go_simp; go_at_call 169; (with_reducible refine (dtread_any _ _ _ _ _ _ _ _).mono ?_); rintro z v13 ⟨rfl, hb13⟩; have hP1 := below_step hP hb13; refine hK.out _ _ hP1 (fun hP => ?_); clear hK K hP1)
          have qs6_13 := block_later hb13 qs6_12
          have hxs7 : W2.heap.size ≤ v13.heap.size := hP.size
          (refine wsPlan_only rfl (fun K hK => ?_); replace hK := Lib.hid hK; go_simp; refine hK.out _ _ (hP.alloc hP.size _) (fun hP => ?_); clear hK K)
          generalize hw14 : World.alloc v13 (Obj.cells #[.int .i64 0, .int .i64 0, .int .i64 0, .int .i64 0, .int .i64 0, .int .i64 0, .int .i64 0] 227) = v14 at hP ⊢
          obtain ⟨qs7_14, hb14⟩ := box1 hw14.symm
          clear hw14
          have hzs7 := hb14.size
          have hys7 := hP.size
          have qs6_14 := block_later hb14 qs6_13
          have hns7s6 := lt_block qs6_13
          have f9 := free_block qs6_14
          have c9 := cell_block qs6_14
          (refine wsPlan_only rfl (fun K hK => ?_); replace hK := Lib.hid hK; go_simp; refine hK.out _ _ (by with_reducible exact (setM (setM (setM (setM (setM (setM (setM hP hxs6 _) hxs6 _) hxs6 _) hxs6 _) hxs6 _) hxs6 _) hxs6 _)) (fun hP => ?_); clear hK K f9 c9)
          have qs6_15 := (block_set (i := 6) (block_set (i := 5) (block_set (i := 4) (block_set (i := 3) (block_set (i := 2) (block_set (i := 1) (block_set (i := 0) qs6_14 (.int .i64 m.a)) (.int .i64 m.b)) (.int .i64 m.c)) (.int .i64 m.d)) (.int .i64 m.e)) (.int .i64 m.f)) (.int .i64 m.r))
          have qs7_15 := (block_far (a := ⟨v2.heap.size, 6, none⟩) (block_far (a := ⟨v2.heap.size, 5, none⟩) (block_far (a := ⟨v2.heap.size, 4, none⟩) (block_far (a := ⟨v2.heap.size, 3, none⟩) (block_far (a := ⟨v2.heap.size, 2, none⟩) (block_far (a := ⟨v2.heap.size, 1, none⟩) (block_far (a := ⟨v2.heap.size, 0, none⟩) qs7_14 (by dsimp only; omega) (.int .i64 m.a)) (by dsimp only; omega) (.int .i64 m.b)) (by dsimp only; omega) (.int .i64 m.c)) (by dsimp only; omega) (.int .i64 m.d)) (by dsimp only; omega) (.int .i64 m.e)) (by dsimp only; omega) (.int .i64 m.f)) (by dsimp only; omega) (.int .i64 m.r))
          generalize hw15 : (World.setCell (World.setCell (World.setCell (World.setCell (World.setCell (World.setCell (World.setCell v14 ⟨v2.heap.size, 0, none⟩ (.int .i64 m.a)) ⟨v2.heap.size, 1, none⟩ (.int .i64 m.b)) ⟨v2.heap.size, 2, none⟩ (.int .i64 m.c)) ⟨v2.heap.size, 3, none⟩ (.int .i64 m.d)) ⟨v2.heap.size, 4, none⟩ (.int .i64 m.e)) ⟨v2.heap.size, 5, none⟩ (.int .i64 m.f)) ⟨v2.heap.size, 6, none⟩ (.int .i64 m.r)) = v15 at hP qs6_15 qs7_15 ⊢
          clear hw15
          have f9 := free_block qs7_15
          have c9 := cell_block qs7_15
          (refine wsPlan_only rfl (fun K hK => ?_); replace hK := Lib.hid hK; go_simp; refine hK.out _ _ (by with_reducible exact (setM (setM (setM (setM (setM (setM (setM hP hxs7 _) hxs7 _) hxs7 _) hxs7 _) hxs7 _) hxs7 _) hxs7 _)) (fun hP => ?_); clear hK K f9 c9)
          have qs7_16 := (block_set (i := 6) (block_set (i := 5) (block_set (i := 4) (block_set (i := 3) (block_set (i := 2) (block_set (i := 1) (block_set (i := 0) qs7_15 (.int .i64 n.a)) (.int .i64 n.b)) (.int .i64 n.c)) (.int .i64 n.d)) (.int .i64 n.e)) (.int .i64 n.f)) (.int .i64 n.r))
          have qs6_16 := (block_far (a := ⟨v13.heap.size, 6, none⟩) (block_far (a := ⟨v13.heap.size, 5, none⟩) (block_far (a := ⟨v13.heap.size, 4, none⟩) (block_far (a := ⟨v13.heap.size, 3, none⟩) (block_far (a := ⟨v13.heap.size, 2, none⟩) (block_far (a := ⟨v13.heap.size, 1, none⟩) (block_far (a := ⟨v13.heap.size, 0, none⟩) qs6_15 (by dsimp only; omega) (.int .i64 n.a)) (by dsimp only; omega) (.int .i64 n.b)) (by dsimp only; omega) (.int .i64 n.c)) (by dsimp only; omega) (.int .i64 n.d)) (by dsimp only; omega) (.int .i64 n.e)) (by dsimp only; omega) (.int .i64 n.f)) (by dsimp only; omega) (.int .i64 n.r))
          generalize hw16 : (World.setCell (World.setCell (World.setCell (World.setCell (World.setCell (World.setCell (World.setCell v15 ⟨v13.heap.size, 0, none⟩ (.int .i64 n.a)) ⟨v13.heap.size, 1, none⟩ (.int .i64 n.b)) ⟨v13.heap.size, 2, none⟩ (.int .i64 n.c)) ⟨v13.heap.size, 3, none⟩ (.int .i64 n.d)) ⟨v13.heap.size, 4, none⟩ (.int .i64 n.e)) ⟨v13.heap.size, 5, none⟩ (.int .i64 n.f)) ⟨v13.heap.size, 6, none⟩ (.int .i64 n.r)) = v16 at hP qs7_16 qs6_16 ⊢
          clear hw16
          refine wsPlan_done ?_
          clear F1 F2
          have HA := Lib.hid qs6_16
          have HC := Lib.hid qs7_16
          have HP := Lib.hid hP
          go_wp2_with fail
          go_meet
          exact ⟨_, _, rfl, rfl, HP.out, HA.out, HC.out⟩
        · skip
          have hxs7 : W2.heap.size ≤ v12.heap.size := hP.size
          (refine wsPlan_only rfl (fun K hK => ?_); replace hK := Lib.hid hK; go_simp; refine hK.out _ _ (hP.alloc hP.size _) (fun hP => ?_); clear hK K)
          generalize hw17 : World.alloc v12 (Obj.cells #[.int .i64 0, .int .i64 0, .int .i64 0, .int .i64 0, .int .i64 0, .int .i64 0, .int .i64 0] 227) = v17 at hP ⊢
          obtain ⟨qs7_17, hb17⟩ := box1 hw17.symm
          clear hw17
          have hzs7 := hb17.size
          have hys7 := hP.size
          have qs6_17 := block_later hb17 qs6_12
          have hns7s6 := lt_block qs6_12
          (refine wsPlan_only rfl (fun K hK => ?_); replace hK := Lib.hid hK; go_simp; go_at_call 169; (with_reducible refine (dtread_any _ _ _ _ _ _ _ _).mono ?_); rintro z v18 ⟨rfl, hb18⟩; have hP1 := below_step hP hb18; refine hK.out _ _ hP1 (fun hP => ?_); clear hK K hP1)
          have qs6_18 := block_later hb18 qs6_17
          have qs7_18 := block_later hb18 qs7_17
          have f9 := free_block qs6_18
          have c9 := cell_block qs6_18
          (refine wsPlan_only rfl (fun K hK => ?_); replace hK := Lib.hid hK; go_simp; refine hK.out _ _ (by with_reducible exact (setM (setM (setM (setM (setM (setM (setM hP hxs6 _) hxs6 _) hxs6 _) hxs6 _) hxs6 _) hxs6 _) hxs6 _)) (fun hP => ?_); clear hK K f9 c9)
          have qs6_19 := (block_set (i := 6) (block_set (i := 5) (block_set (i := 4) (block_set (i := 3) (block_set (i := 2) (block_set (i := 1) (block_set (i := 0) qs6_18 (.int .i64 m.a)) (.int .i64 m.b)) (.int .i64 m.c)) (.int .i64 m.d)) (.int .i64 m.e)) (.int .i64 m.f)) (.int .i64 m.r))
          have qs7_19 := (block_far (a := ⟨v2.heap.size, 6, none⟩) (block_far (a := ⟨v2.heap.size, 5, none⟩) (block_far (a := ⟨v2.heap.size, 4, none⟩) (block_far (a := ⟨v2.heap.size, 3, none⟩) (block_far (a := ⟨v2.heap.size, 2, none⟩) (block_far (a := ⟨v2.heap.size, 1, none⟩) (block_far (a := ⟨v2.heap.size, 0, none⟩) qs7_18 (by dsimp only; omega) (.int .i64 m.a)) (by dsimp only; omega) (.int .i64 m.b)) (by dsimp only; omega) (.int .i64 m.c)) (by dsimp only; omega) (.int .i64 m.d)) (by dsimp only; omega) (.int .i64 m.e)) (by dsimp only; omega) (.int .i64 m.f)) (by dsimp only; omega) (.int .i64 m.r))
          generalize hw19 : (World.setCell (World.setCell (World.setCell (World.setCell (World.setCell (World.setCell (World.setCell v18 ⟨v2.heap.size, 0, none⟩ (.int .i64 m.a)) ⟨v2.heap.size, 1, none⟩ (.int .i64 m.b)) ⟨v2.heap.size, 2, none⟩ (.int .i64 m.c)) ⟨v2.heap.size, 3, none⟩ (.int .i64 m.d)) ⟨v2.heap.size, 4, none⟩ (.int .i64 m.e)) ⟨v2.heap.size, 5, none⟩ (.int .i64 m.f)) ⟨v2.heap.size, 6, none⟩ (.int .i64 m.r)) = v19 at hP qs6_19 qs7_19 ⊢
          clear hw19
          have f9 := free_block qs7_19
          have c9 := cell_block qs7_19
          (refine wsPlan_only rfl (fun K hK => ?_); replace hK := Lib.hid hK; go_simp; refine hK.out _ _ (by with_reducible exact (setM (setM (setM (setM (setM (setM (setM hP hxs7 _) hxs7 _) hxs7 _) hxs7 _) hxs7 _) hxs7 _) hxs7 _)) (fun hP => ?_); clear hK K f9 c9)
          have qs7_20 := (block_set (i := 6) (block_set (i := 5) (block_set (i := 4) (block_set (i := 3) (block_set (i := 2) (block_set (i := 1) (block_set (i := 0) qs7_19 (.int .i64 n.a)) (.int .i64 n.b)) (.int .i64 n.c)) (.int .i64 n.d)) (.int .i64 n.e)) (.int .i64 n.f)) (.int .i64 n.r))
          have qs6_20 := (block_far (a := ⟨v12.heap.size, 6, none⟩) (block_far (a := ⟨v12.heap.size, 5, none⟩) (block_far (a := ⟨v12.heap.size, 4, none⟩) (block_far (a := ⟨v12.heap.size, 3, none⟩) (block_far (a := ⟨v12.heap.size, 2, none⟩) (block_far (a := ⟨v12.heap.size, 1, none⟩) (block_far (a := ⟨v12.heap.size, 0, none⟩) qs6_19 (by dsimp only; omega) (.int .i64 n.a)) (by dsimp only; omega) (.int .i64 n.b)) (by dsimp only; omega) (.int .i64 n.c)) (by dsimp only; omega) (.int .i64 n.d)) (by dsimp only; omega) (.int .i64 n.e)) (by dsimp only; omega) (.int .i64 n.f)) (by dsimp only; omega) (.int .i64 n.r))
          generalize hw20 : (World.setCell (World.setCell (World.setCell (World.setCell (World.setCell (World.setCell (World.setCell v19 ⟨v12.heap.size, 0, none⟩ (.int .i64 n.a)) ⟨v12.heap.size, 1, none⟩ (.int .i64 n.b)) ⟨v12.heap.size, 2, none⟩ (.int .i64 n.c)) ⟨v12.heap.size, 3, none⟩ (.int .i64 n.d)) ⟨v12.heap.size, 4, none⟩ (.int .i64 n.e)) ⟨v12.heap.size, 5, none⟩ (.int .i64 n.f)) ⟨v12.heap.size, 6, none⟩ (.int .i64 n.r)) = v20 at hP qs7_20 qs6_20 ⊢
          clear hw20
          refine wsPlan_done ?_
          clear F1 F2
          have HA := Lib.hid qs6_20
          have HC := Lib.hid qs7_20
          have HP := Lib.hid hP
          go_wp2_with fail
          go_meet
          exact ⟨_, _, rfl, rfl, HP.out, HA.out, HC.out⟩
      · skip
        have hxs7 : W2.heap.size ≤ v2.heap.size := hP.size
        (refine wsPlan_only rfl (fun K hK => ?_); replace hK := Lib.hid hK; go_simp; refine hK.out _ _ (hP.alloc hP.size _) (fun hP => ?_); clear hK K)
        generalize hw21 : World.alloc v2 (Obj.cells #[.int .i64 0, .int .i64 0, .int .i64 0, .int .i64 0, .int .i64 0, .int .i64 0, .int .i64 0] 227) = v21 at hP ⊢
        obtain ⟨qs7_21, hb21⟩ := box1 hw21.symm
        clear hw21
        have hzs7 := hb21.size
        have hys7 := hP.size
        refine wsPlan_two ?_ ?_
        · skip
          (refine wsPlan_only rfl (fun K hK => ?_); replace hK := Lib.hid hK; go_simp; go_at_call 169; (with_reducible refine (dtread_any _ _ _ _ _ _ _ _).mono ?_); rintro z v22 ⟨rfl, hb22⟩; have hP1 := below_step hP hb22; refine hK.out _ _ hP1 (fun hP => ?_); clear hK K hP1)
          have qs7_22 := block_later hb22 qs7_21
          have hxs6 : W2.heap.size ≤ v22.heap.size := hP.size
          (refine wsPlan_only rfl (fun K hK => ?_); replace hK := Lib.hid hK; go_simp; refine hK.out _ _ (hP.alloc hP.size _) (fun hP => ?_); clear hK K)
          generalize hw23 : World.alloc v22 (Obj.cells #[.int .i64 0, .int .i64 0, .int .i64 0, .int .i64 0, .int .i64 0, .int .i64 0, .int .i64 0] 227) = v23 at hP ⊢
          obtain ⟨qs6_23, hb23⟩ := box1 hw23.symm
          clear hw23
          have hzs6 := hb23.size
          have hys6 := hP.size
          have qs7_23 := block_later hb23 qs7_22
          have hns6s7 := lt_block qs7_22
          have f9 := free_block qs6_23
          have c9 := cell_block qs6_23
          (refine wsPlan_only rfl (fun K hK => ?_); replace hK := Lib.hid hK; go_simp; refine hK.out _ _ (by with_reducible exact (setM (setM (setM (setM (setM (setM (setM hP hxs6 _) hxs6 _) hxs6 _) hxs6 _) hxs6 _) hxs6 _) hxs6 _)) (fun hP => ?_); clear hK K f9 c9)
          have qs6_24 := (block_set (i := 6) (block_set (i := 5) (block_set (i := 4) (block_set (i := 3) (block_set (i := 2) (block_set (i := 1) (block_set (i := 0) qs6_23 (.int .i64 m.a)) (.int .i64 m.b)) (.int .i64 m.c)) (.int .i64 m.d)) (.int .i64 m.e)) (.int .i64 m.f)) (.int .i64 m.r))
          have qs7_24 := (block_far (a := ⟨v22.heap.size, 6, none⟩) (block_far (a := ⟨v22.heap.size, 5, none⟩) (block_far (a := ⟨v22.heap.size, 4, none⟩) (block_far (a := ⟨v22.heap.size, 3, none⟩) (block_far (a := ⟨v22.heap.size, 2, none⟩) (block_far (a := ⟨v22.heap.size, 1, none⟩) (block_far (a := ⟨v22.heap.size, 0, none⟩) qs7_23 (by dsimp only; omega) (.int .i64 m.a)) (by dsimp only; omega) (.int .i64 m.b)) (by dsimp only; omega) (.int .i64 m.c)) (by dsimp only; omega) (.int .i64 m.d)) (by dsimp only; omega) (.int .i64 m.e)) (by dsimp only; omega) (.int .i64 m.f)) (by dsimp only; omega) (.int .i64 m.r))
          generalize hw24 : (World.setCell (World.setCell (World.setCell (World.setCell (World.setCell (World.setCell (World.setCell v23 ⟨v22.heap.size, 0, none⟩ (.int .i64 m.a)) ⟨v22.heap.size, 1, none⟩ (.int .i64 m.b)) ⟨v22.heap.size, 2, none⟩ (.int .i64 m.c)) ⟨v22.heap.size, 3, none⟩ (.int .i64 m.d)) ⟨v22.heap.size, 4, none⟩ (.int .i64 m.e)) ⟨v22.heap.size, 5, none⟩ (.int .i64 m.f)) ⟨v22.heap.size, 6, none⟩ (.int .i64 m.r)) = v24 at hP qs6_24 qs7_24 ⊢
          clear hw24
          have f9 := free_block qs7_24
          have c9 := cell_block qs7_24
          (refine wsPlan_only rfl (fun K hK => ?_); replace hK := Lib.hid hK; go_simp; refine hK.out _ _ (by with_reducible exact (setM (setM (setM (setM (setM (setM (setM hP hxs7 _) hxs7 _) hxs7 _) hxs7 _) hxs7 _) hxs7 _) hxs7 _)) (fun hP => ?_); clear hK K f9 c9)
          have qs7_25 := (block_set (i := 6) (block_set (i := 5) (block_set (i := 4) (block_set (i := 3) (block_set (i := 2) (block_set (i := 1) (block_set (i := 0) qs7_24 (.int .i64 n.a)) (.int .i64 n.b)) (.int .i64 n.c)) (.int .i64 n.d)) (.int .i64 n.e)) (.int .i64 n.f)) (.int .i64 n.r))
          have qs6_25 := (block_far (a := ⟨v2.heap.size, 6, none⟩) (block_far (a := ⟨v2.heap.size, 5, none⟩) (block_far (a := ⟨v2.heap.size, 4, none⟩) (block_far (a := ⟨v2.heap.size, 3, none⟩) (block_far (a := ⟨v2.heap.size, 2, none⟩) (block_far (a := ⟨v2.heap.size, 1, none⟩) (block_far (a := ⟨v2.heap.size, 0, none⟩) qs6_24 (by dsimp only; omega) (.int .i64 n.a)) (by dsimp only; omega) (.int .i64 n.b)) (by dsimp only; omega) (.int .i64 n.c)) (by dsimp only; omega) (.int .i64 n.d)) (by dsimp only; omega) (.int .i64 n.e)) (by dsimp only; omega) (.int .i64 n.f)) (by dsimp only; omega) (.int .i64 n.r))
          generalize hw25 : (World.setCell (World.setCell (World.setCell (World.setCell (World.setCell (World.setCell (World.setCell v24 ⟨v2.heap.size, 0, none⟩ (.int .i64 n.a)) ⟨v2.heap.size, 1, none⟩ (.int .i64 n.b)) ⟨v2.heap.size, 2, none⟩ (.int .i64 n.c)) ⟨v2.heap.size, 3, none⟩ (.int .i64 n.d)) ⟨v2.heap.size, 4, none⟩ (.int .i64 n.e)) ⟨v2.heap.size, 5, none⟩ (.int .i64 n.f)) ⟨v2.heap.size, 6, none⟩ (.int .i64 n.r)) = v25 at hP qs7_25 qs6_25 ⊢
          clear hw25
          refine wsPlan_done ?_
          clear F1 F2
          have HA := Lib.hid qs6_25
          have HC := Lib.hid qs7_25
          have HP := Lib.hid hP
          go_wp2_with fail
          go_meet
          exact ⟨_, _, rfl, rfl, HP.out, HA.out, HC.out⟩
        · skip
          have hxs6 : W2.heap.size ≤ v21.heap.size := hP.size
          (refine wsPlan_only rfl (fun K hK => ?_); replace hK := Lib.hid hK; go_simp; refine hK.out _ _ (hP.alloc hP.size _) (fun hP => ?_); clear hK K)
          generalize hw26 : World.alloc v21 (Obj.cells #[.int .i64 0, .int .i64 0, .int .i64 0, .int .i64 0, .int .i64 0, .int .i64 0, .int .i64 0] 227) = v26 at hP ⊢
          obtain ⟨qs6_26, hb26⟩ := box1 hw26.symm
          clear hw26
          have hzs6 := hb26.size
          have hys6 := hP.size
          have qs7_26 := block_later hb26 qs7_21
          have hns6s7 := lt_block qs7_21
          (refine wsPlan_only rfl (fun K hK => ?_); replace hK := Lib.hid hK; go_simp; go_at_call 169; (with_reducible refine (dtread_any _ _ _ _ _ _ _ _).mono ?_); rintro z v27 ⟨rfl, hb27⟩; have hP1 := below_step hP hb27; refine hK.out _ _ hP1 (fun hP => ?_); clear hK K hP1)
          have qs7_27 := block_later hb27 qs7_26
          have qs6_27 := block_later hb27 qs6_26
          have f9 := free_block qs6_27
          have c9 := cell_block qs6_27
          (refine wsPlan_only rfl (fun K hK => ?_); replace hK := Lib.hid hK; go_simp; refine hK.out _ _ (by with_reducible exact (setM (setM (setM (setM (setM (setM (setM hP hxs6 _) hxs6 _) hxs6 _) hxs6 _) hxs6 _) hxs6 _) hxs6 _)) (fun hP => ?_); clear hK K f9 c9)
          have qs6_28 := (block_set (i := 6) (block_set (i := 5) (block_set (i := 4) (block_set (i := 3) (block_set (i := 2) (block_set (i := 1) (block_set (i := 0) qs6_27 (.int .i64 m.a)) (.int .i64 m.b)) (.int .i64 m.c)) (.int .i64 m.d)) (.int .i64 m.e)) (.int .i64 m.f)) (.int .i64 m.r))
          have qs7_28 := (block_far (a := ⟨v21.heap.size, 6, none⟩) (block_far (a := ⟨v21.heap.size, 5, none⟩) (block_far (a := ⟨v21.heap.size, 4, none⟩) (block_far (a := ⟨v21.heap.size, 3, none⟩) (block_far (a := ⟨v21.heap.size, 2, none⟩) (block_far (a := ⟨v21.heap.size, 1, none⟩) (block_far (a := ⟨v21.heap.size, 0, none⟩) qs7_27 (by dsimp only; omega) (.int .i64 m.a)) (by dsimp only; omega) (.int .i64 m.b)) (by dsimp only; omega) (.int .i64 m.c)) (by dsimp only; omega) (.int .i64 m.d)) (by dsimp only; omega) (.int .i64 m.e)) (by dsimp only; omega) (.int .i64 m.f)) (by dsimp only; omega) (.int .i64 m.r))
          generalize hw28 : (World.setCell (World.setCell (World.setCell (World.setCell (World.setCell (World.setCell (World.setCell v27 ⟨v21.heap.size, 0, none⟩ (.int .i64 m.a)) ⟨v21.heap.size, 1, none⟩ (.int .i64 m.b)) ⟨v21.heap.size, 2, none⟩ (.int .i64 m.c)) ⟨v21.heap.size, 3, none⟩ (.int .i64 m.d)) ⟨v21.heap.size, 4, none⟩ (.int .i64 m.e)) ⟨v21.heap.size, 5, none⟩ (.int .i64 m.f)) ⟨v21.heap.size, 6, none⟩ (.int .i64 m.r)) = v28 at hP qs6_28 qs7_28 ⊢
          clear hw28
          have f9 := free_block qs7_28
          have c9 := cell_block qs7_28
          (refine wsPlan_only rfl (fun K hK => ?_); replace hK := Lib.hid hK; go_simp; refine hK.out _ _ (by with_reducible exact (setM (setM (setM (setM (setM (setM (setM hP hxs7 _) hxs7 _) hxs7 _) hxs7 _) hxs7 _) hxs7 _) hxs7 _)) (fun hP => ?_); clear hK K f9 c9)
          have qs7_29 := (block_set (i := 6) (block_set (i := 5) (block_set (i := 4) (block_set (i := 3) (block_set (i := 2) (block_set (i := 1) (block_set (i := 0) qs7_28 (.int .i64 n.a)) (.int .i64 n.b)) (.int .i64 n.c)) (.int .i64 n.d)) (.int .i64 n.e)) (.int .i64 n.f)) (.int .i64 n.r))
          have qs6_29 := (block_far (a := ⟨v2.heap.size, 6, none⟩) (block_far (a := ⟨v2.heap.size, 5, none⟩) (block_far (a := ⟨v2.heap.size, 4, none⟩) (block_far (a := ⟨v2.heap.size, 3, none⟩) (block_far (a := ⟨v2.heap.size, 2, none⟩) (block_far (a := ⟨v2.heap.size, 1, none⟩) (block_far (a := ⟨v2.heap.size, 0, none⟩) qs6_28 (by dsimp only; omega) (.int .i64 n.a)) (by dsimp only; omega) (.int .i64 n.b)) (by dsimp only; omega) (.int .i64 n.c)) (by dsimp only; omega) (.int .i64 n.d)) (by dsimp only; omega) (.int .i64 n.e)) (by dsimp only; omega) (.int .i64 n.f)) (by dsimp only; omega) (.int .i64 n.r))
          generalize hw29 : (World.setCell (World.setCell (World.setCell (World.setCell (World.setCell (World.setCell (World.setCell v28 ⟨v2.heap.size, 0, none⟩ (.int .i64 n.a)) ⟨v2.heap.size, 1, none⟩ (.int .i64 n.b)) ⟨v2.heap.size, 2, none⟩ (.int .i64 n.c)) ⟨v2.heap.size, 3, none⟩ (.int .i64 n.d)) ⟨v2.heap.size, 4, none⟩ (.int .i64 n.e)) ⟨v2.heap.size, 5, none⟩ (.int .i64 n.f)) ⟨v2.heap.size, 6, none⟩ (.int .i64 n.r)) = v29 at hP qs7_29 qs6_29 ⊢
          clear hw29
          refine wsPlan_done ?_
          clear F1 F2
          have HA := Lib.hid qs6_29
          have HC := Lib.hid qs7_29
          have HP := Lib.hid hP
          go_wp2_with fail
          go_meet
          exact ⟨_, _, rfl, rfl, HP.out, HA.out, HC.out⟩
    · skip
      have hxs6 : W2.heap.size ≤ v1.heap.size := hP.size
      (refine wsPlan_only rfl (fun K hK => ?_); replace hK := Lib.hid hK; go_simp; refine hK.out _ _ (hP.alloc hP.size _) (fun hP => ?_); clear hK K)
      generalize hw30 : World.alloc v1 (Obj.cells #[.int .i64 0, .int .i64 0, .int .i64 0, .int .i64 0, .int .i64 0, .int .i64 0, .int .i64 0] 227) = v30 at hP ⊢
      obtain ⟨qs6_30, hb30⟩ := box1 hw30.symm
      clear hw30
      have hzs6 := hb30.size
      have hys6 := hP.size
      refine wsPlan_two ?_ ?_
      · skip
        (refine wsPlan_only rfl (fun K hK => ?_); replace hK := Lib.hid hK; go_simp; go_at_call 169; (with_reducible refine (dtread_any _ _ _ _ _ _ _ _).mono ?_); rintro z v31 ⟨rfl, hb31⟩; have hP1 := below_step hP hb31; refine hK.out _ _ hP1 (fun hP => ?_); clear hK K hP1)
        have qs6_31 := block_later hb31 qs6_30
        refine wsPlan_two ?_ ?_
        · skip
          (refine wsPlan_only rfl (fun K hK => ?_); replace hK := Lib.hid hK; go_simp; go_at_call 169; (with_reducible refine (dtread_any _ _ _ _ _ _ _ _).mono ?_); rintro z v32 ⟨rfl, hb32⟩; have hP1 := below_step hP hb32; refine hK.out _ _ hP1 (fun hP => ?_); clear hK K hP1)
          have qs6_32 := block_later hb32 qs6_31
          have hxs7 : W2.heap.size ≤ v32.heap.size := hP.size
          (refine wsPlan_only rfl (fun K hK => ?_); replace hK := Lib.hid hK; go_simp; refine hK.out _ _ (hP.alloc hP.size _) (fun hP => ?_); clear hK K)
          generalize hw33 : World.alloc v32 (Obj.cells #[.int .i64 0, .int .i64 0, .int .i64 0, .int .i64 0, .int .i64 0, .int .i64 0, .int .i64 0] 227) = v33 at hP ⊢
          obtain ⟨qs7_33, hb33⟩ := box1 hw33.symm
          clear hw33
          have hzs7 := hb33.size
          have hys7 := hP.size
          have qs6_33 := block_later hb33 qs6_32
          have hns7s6 := lt_block qs6_32
          have f9 := free_block qs6_33
          have c9 := cell_block qs6_33
          (refine wsPlan_only rfl (fun K hK => ?_); replace hK := Lib.hid hK; go_simp; refine hK.out _ _ (by with_reducible exact (setM (setM (setM (setM (setM (setM (setM hP hxs6 _) hxs6 _) hxs6 _) hxs6 _) hxs6 _) hxs6 _) hxs6 _)) (fun hP => ?_); clear hK K f9 c9)
          have qs6_34 := (block_set (i := 6) (block_set (i := 5) (block_set (i := 4) (block_set (i := 3) (block_set (i := 2) (block_set (i := 1) (block_set (i := 0) qs6_33 (.int .i64 m.a)) (.int .i64 m.b)) (.int .i64 m.c)) (.int .i64 m.d)) (.int .i64 m.e)) (.int .i64 m.f)) (.int .i64 m.r))
          have qs7_34 := (block_far (a := ⟨v1.heap.size, 6, none⟩) (block_far (a := ⟨v1.heap.size, 5, none⟩) (block_far (a := ⟨v1.heap.size, 4, none⟩) (block_far (a := ⟨v1.heap.size, 3, none⟩) (block_far (a := ⟨v1.heap.size, 2, none⟩) (block_far (a := ⟨v1.heap.size, 1, none⟩) (block_far (a := ⟨v1.heap.size, 0, none⟩) qs7_33 (by dsimp only; omega) (.int .i64 m.a)) (by dsimp only; omega) (.int .i64 m.b)) (by dsimp only; omega) (.int .i64 m.c)) (by dsimp only; omega) (.int .i64 m.d)) (by dsimp only; omega) (.int .i64 m.e)) (by dsimp only; omega) (.int .i64 m.f)) (by dsimp only; omega) (.int .i64 m.r))
          generalize hw34 : (World.setCell (World.setCell (World.setCell (World.setCell (World.setCell (World.setCell (World.setCell v33 ⟨v1.heap.size, 0, none⟩ (.int .i64 m.a)) ⟨v1.heap.size, 1, none⟩ (.int .i64 m.b)) ⟨v1.heap.size, 2, none⟩ (.int .i64 m.c)) ⟨v1.heap.size, 3, none⟩ (.int .i64 m.d)) ⟨v1.heap.size, 4, none⟩ (.int .i64 m.e)) ⟨v1.heap.size, 5, none⟩ (.int .i64 m.f)) ⟨v1.heap.size, 6, none⟩ (.int .i64 m.r)) = v34 at hP qs6_34 qs7_34 ⊢
          clear hw34
          have f9 := free_block qs7_34
          have c9 := cell_block qs7_34
          (refine wsPlan_only rfl (fun K hK => ?_); replace hK := Lib.hid hK; go_simp; refine hK.out _ _ (by with_reducible exact (setM (setM (setM (setM (setM (setM (setM hP hxs7 _) hxs7 _) hxs7 _) hxs7 _) hxs7 _) hxs7 _) hxs7 _)) (fun hP => ?_); clear hK K f9 c9)
          have qs7_35 := (block_set (i := 6) (block_set (i := 5) (block_set (i := 4) (block_set (i := 3) (block_set (i := 2) (block_set (i := 1) (block_set (i := 0) qs7_34 (.int .i64 n.a)) (.int .i64 n.b)) (.int .i64 n.c)) (.int .i64 n.d)) (.int .i64 n.e)) (.int .i64 n.f)) (.int .i64 n.r))
          have qs6_35 := (block_far (a := ⟨v32.heap.size, 6, none⟩) (block_far (a := ⟨v32.heap.size, 5, none⟩) (block_far (a := ⟨v32.heap.size, 4, none⟩) (block_far (a := ⟨v32.heap.size, 3, none⟩) (block_far (a := ⟨v32.heap.size, 2, none⟩) (block_far (a := ⟨v32.heap.size, 1, none⟩) (block_far (a := ⟨v32.heap.size, 0, none⟩) qs6_34 (by dsimp only; omega) (.int .i64 n.a)) (by dsimp only; omega) (.int .i64 n.b)) (by dsimp only; omega) (.int .i64 n.c)) (by dsimp only; omega) (.int .i64 n.d)) (by dsimp only; omega) (.int .i64 n.e)) (by dsimp only; omega) (.int .i64 n.f)) (by dsimp only; omega) (.int .i64 n.r))
          generalize hw35 : (World.setCell (World.setCell (World.setCell (World.setCell (World.setCell (World.setCell (World.setCell v34 ⟨v32.heap.size, 0, none⟩ (.int .i64 n.a)) ⟨v32.heap.size, 1, none⟩ (.int .i64 n.b)) ⟨v32.heap.size, 2, none⟩ (.int .i64 n.c)) ⟨v32.heap.size, 3, none⟩ (.int .i64 n.d)) ⟨v32.heap.size, 4, none⟩ (.int .i64 n.e)) ⟨v32.heap.size, 5, none⟩ (.int .i64 n.f)) ⟨v32.heap.size, 6, none⟩ (.int .i64 n.r)) = v35 at hP qs7_35 qs6_35 ⊢
          clear hw35
          refine wsPlan_done ?_
          clear F1 F2
          have HA := Lib.hid qs6_35
          have HC := Lib.hid qs7_35
          have HP := Lib.hid hP
          go_wp2_with fail
          go_meet
          exact ⟨_, _, rfl, rfl, HP.out, HA.out, HC.out⟩
        · skip
          have hxs7 : W2.heap.size ≤ v31.heap.size := hP.size
          (refine wsPlan_only rfl (fun K hK => ?_); replace hK := Lib.hid hK; go_simp; refine hK.out _ _ (hP.alloc hP.size _) (fun hP => ?_); clear hK K)
          generalize hw36 : World.alloc v31 (Obj.cells #[.int .i64 0, .int .i64 0, .int .i64 0, .int .i64 0, .int .i64 0, .int .i64 0, .int .i64 0] 227) = v36 at hP ⊢
          obtain ⟨qs7_36, hb36⟩ := box1 hw36.symm
          clear hw36
          have hzs7 := hb36.size
          have hys7 := hP.size
          have qs6_36 := block_later hb36 qs6_31
          have hns7s6 := lt_block qs6_31
          (refine wsPlan_only rfl (fun K hK => ?_); replace hK := Lib.hid hK; go_simp; go_at_call 169; (with_reducible refine (dtread_any _ _ _ _ _ _ _ _).mono ?_); rintro z v37 ⟨rfl, hb37⟩; have hP1 := below_step hP hb37; refine hK.out _ _ hP1 (fun hP => ?_); clear hK K hP1)
          have qs6_37 := block_later hb37 qs6_36
          have qs7_37 := block_later hb37 qs7_36
          have f9 := free_block qs6_37
          have c9 := cell_block qs6_37
          (refine wsPlan_only rfl (fun K hK => ?_); replace hK := Lib.hid hK; go_simp; refine hK.out _ _ (by with_reducible exact (setM (setM (setM (setM (setM (setM (setM hP hxs6 _) hxs6 _) hxs6 _) hxs6 _) hxs6 _) hxs6 _) hxs6 _)) (fun hP => ?_); clear hK K f9 c9)
          have qs6_38 := (block_set (i := 6) (block_set (i := 5) (block_set (i := 4) (block_set (i := 3) (block_set (i := 2) (block_set (i := 1) (block_set (i := 0) qs6_37 (.int .i64 m.a)) (.int .i64 m.b)) (.int .i64 m.c)) (.int .i64 m.d)) (.int .i64 m.e)) (.int .i64 m.f)) (.int .i64 m.r))
          have qs7_38 := (block_far (a := ⟨v1.heap.size, 6, none⟩) (block_far (a := ⟨v1.heap.size, 5, none⟩) (block_far (a := ⟨v1.heap.size, 4, none⟩) (block_far (a := ⟨v1.heap.size, 3, none⟩) (block_far (a := ⟨v1.heap.size, 2, none⟩) (block_far (a := ⟨v1.heap.size, 1, none⟩) (block_far (a := ⟨v1.heap.size, 0, none⟩) qs7_37 (by dsimp only; omega) (.int .i64 m.a)) (by dsimp only; omega) (.int .i64 m.b)) (by dsimp only; omega) (.int .i64 m.c)) (by dsimp only; omega) (.int .i64 m.d)) (by dsimp only; omega) (.int .i64 m.e)) (by dsimp only; omega) (.int .i64 m.f)) (by dsimp only; omega) (.int .i64 m.r))
          generalize hw38 : (World.setCell (World.setCell (World.setCell (World.setCell (World.setCell (World.setCell (World.setCell v37 ⟨v1.heap.size, 0, none⟩ (.int .i64 m.a)) ⟨v1.heap.size, 1, none⟩ (.int .i64 m.b)) ⟨v1.heap.size, 2, none⟩ (.int .i64 m.c)) ⟨v1.heap.size, 3, none⟩ (.int .i64 m.d)) ⟨v1.heap.size, 4, none⟩ (.int .i64 m.e)) ⟨v1.heap.size, 5, none⟩ (.int .i64 m.f)) ⟨v1.heap.size, 6, none⟩ (.int .i64 m.r)) = v38 at hP qs6_38 qs7_38 ⊢
          clear hw38
          have f9 := free_block qs7_38
          have c9 := cell_block qs7_38
          (refine wsPlan_only rfl (fun K hK => ?_); replace hK := Lib.hid hK; go_simp; refine hK.out _ _ (by with_reducible exact (setM (setM (setM (setM (setM (setM (setM hP hxs7 _) hxs7 _) hxs7 _) hxs7 _) hxs7 _) hxs7 _) hxs7 _)) (fun hP => ?_); clear hK K f9 c9)
          have qs7_39 := (block_set (i := 6) (block_set (i := 5) (block_set (i := 4) (block_set (i := 3) (block_set (i := 2) (block_set (i := 1) (block_set (i := 0) qs7_38 (.int .i64 n.a)) (.int .i64 n.b)) (.int .i64 n.c)) (.int .i64 n.d)) (.int .i64 n.e)) (.int .i64 n.f)) (.int .i64 n.r))
          have qs6_39 := (block_far (a := ⟨v31.heap.size, 6, none⟩) (block_far (a := ⟨v31.heap.size, 5, none⟩) (block_far (a := ⟨v31.heap.size, 4, none⟩) (block_far (a := ⟨v31.heap.size, 3, none⟩) (block_far (a := ⟨v31.heap.size, 2, none⟩) (block_far (a := ⟨v31.heap.size, 1, none⟩) (block_far (a := ⟨v31.heap.size, 0, none⟩) qs6_38 (by dsimp only; omega) (.int .i64 n.a)) (by dsimp only; omega) (.int .i64 n.b)) (by dsimp only; omega) (.int .i64 n.c)) (by dsimp only; omega) (.int .i64 n.d)) (by dsimp only; omega) (.int .i64 n.e)) (by dsimp only; omega) (.int .i64 n.f)) (by dsimp only; omega) (.int .i64 n.r))
          generalize hw39 : (World.setCell (World.setCell (World.setCell (World.setCell (World.setCell (World.setCell (World.setCell v38 ⟨v31.heap.size, 0, none⟩ (.int .i64 n.a)) ⟨v31.heap.size, 1, none⟩ (.int .i64 n.b)) ⟨v31.heap.size, 2, none⟩ (.int .i64 n.c)) ⟨v31.heap.size, 3, none⟩ (.int .i64 n.d)) ⟨v31.heap.size, 4, none⟩ (.int .i64 n.e)) ⟨v31.heap.size, 5, none⟩ (.int .i64 n.f)) ⟨v31.heap.size, 6, none⟩ (.int .i64 n.r)) = v39 at hP qs7_39 qs6_39 ⊢
          clear hw39
          refine wsPlan_done ?_
          clear F1 F2
          have HA := Lib.hid qs6_39
          have HC := Lib.hid qs7_39
          have HP := Lib.hid hP
          go_wp2_with fail
          go_meet
          exact ⟨_, _, rfl, rfl, HP.out, HA.out, HC.out⟩
      · skip
        have hxs7 : W2.heap.size ≤ v30.heap.size := hP.size
        (refine wsPlan_only rfl (fun K hK => ?_); replace hK := Lib.hid hK; go_simp; refine hK.out _ _ (hP.alloc hP.size _) (fun hP => ?_); clear hK K)
        generalize hw40 : World.alloc v30 (Obj.cells #[.int .i64 0, .int .i64 0, .int .i64 0, .int .i64 0, .int .i64 0, .int .i64 0, .int .i64 0] 227) = v40 at hP ⊢
        obtain ⟨qs7_40, hb40⟩ := box1 hw40.symm
        clear hw40
        have hzs7 := hb40.size
        have hys7 := hP.size
        have qs6_40 := block_later hb40 qs6_30
        have hns7s6 := lt_block qs6_30
        (refine wsPlan_only rfl (fun K hK => ?_); replace hK := Lib.hid hK; go_simp; go_at_call 169; (with_reducible refine (dtread_any _ _ _ _ _ _ _ _).mono ?_); rintro z v41 ⟨rfl, hb41⟩; have hP1 := below_step hP hb41; refine hK.out _ _ hP1 (fun hP => ?_); clear hK K hP1)
        have qs6_41 := block_later hb41 qs6_40
        have qs7_41 := block_later hb41 qs7_40
        (refine wsPlan_only rfl (fun K hK => ?_); replace hK := Lib.hid hK; go_simp; go_at_call 169; (with_reducible refine (dtread_any _ _ _ _ _ _ _ _).mono ?_); rintro z v42 ⟨rfl, hb42⟩; have hP1 := below_step hP hb42; refine hK.out _ _ hP1 (fun hP => ?_); clear hK K hP1)
        have qs6_42 := block_later hb42 qs6_41
        have qs7_42 := block_later hb42 qs7_41
        have f9 := free_block qs6_42
        have c9 := cell_block qs6_42
        (refine wsPlan_only rfl (fun K hK => ?_); replace hK := Lib.hid hK; go_simp; refine hK.out _ _ (by with_reducible exact (setM (setM (setM (setM (setM (setM (setM hP hxs6 _) hxs6 _) hxs6 _) hxs6 _) hxs6 _) hxs6 _) hxs6 _)) (fun hP => ?_); clear hK K f9 c9)
        have qs6_43 := (block_set (i := 6) (block_set (i := 5) (block_set (i := 4) (block_set (i := 3) (block_set (i := 2) (block_set (i := 1) (block_set (i := 0) qs6_42 (.int .i64 m.a)) (.int .i64 m.b)) (.int .i64 m.c)) (.int .i64 m.d)) (.int .i64 m.e)) (.int .i64 m.f)) (.int .i64 m.r))
        have qs7_43 := (block_far (a := ⟨v1.heap.size, 6, none⟩) (block_far (a := ⟨v1.heap.size, 5, none⟩) (block_far (a := ⟨v1.heap.size, 4, none⟩) (block_far (a := ⟨v1.heap.size, 3, none⟩) (block_far (a := ⟨v1.heap.size, 2, none⟩) (block_far (a := ⟨v1.heap.size, 1, none⟩) (block_far (a := ⟨v1.heap.size, 0, none⟩) qs7_42 (by dsimp only; omega) (.int .i64 m.a)) (by dsimp only; omega) (.int .i64 m.b)) (by dsimp only; omega) (.int .i64 m.c)) (by dsimp only; omega) (.int .i64 m.d)) (by dsimp only; omega) (.int .i64 m.e)) (by dsimp only; omega) (.int .i64 m.f)) (by dsimp only; omega) (.int .i64 m.r))
        generalize hw43 : (World.setCell (World.setCell (World.setCell (World.setCell (World.setCell (World.setCell (World.setCell v42 ⟨v1.heap.size, 0, none⟩ (.int .i64 m.a)) ⟨v1.heap.size, 1, none⟩ (.int .i64 m.b)) ⟨v1.heap.size, 2, none⟩ (.int .i64 m.c)) ⟨v1.heap.size, 3, none⟩ (.int .i64 m.d)) ⟨v1.heap.size, 4, none⟩ (.int .i64 m.e)) ⟨v1.heap.size, 5, none⟩ (.int .i64 m.f)) ⟨v1.heap.size, 6, none⟩ (.int .i64 m.r)) = v43 at hP qs6_43 qs7_43 ⊢
        clear hw43
        have f9 := free_block qs7_43
        have c9 := cell_block qs7_43
        (refine wsPlan_only rfl (fun K hK => ?_); replace hK := Lib.hid hK; go_simp; refine hK.out _ _ (by with_reducible exact (setM (setM (setM (setM (setM (setM (setM hP hxs7 _) hxs7 _) hxs7 _) hxs7 _) hxs7 _) hxs7 _) hxs7 _)) (fun hP => ?_); clear hK K f9 c9)
        have qs7_44 := (block_set (i := 6) (block_set (i := 5) (block_set (i := 4) (block_set (i := 3) (block_set (i := 2) (block_set (i := 1) (block_set (i := 0) qs7_43 (.int .i64 n.a)) (.int .i64 n.b)) (.int .i64 n.c)) (.int .i64 n.d)) (.int .i64 n.e)) (.int .i64 n.f)) (.int .i64 n.r))
        have qs6_44 := (block_far (a := ⟨v30.heap.size, 6, none⟩) (block_far (a := ⟨v30.heap.size, 5, none⟩) (block_far (a := ⟨v30.heap.size, 4, none⟩) (block_far (a := ⟨v30.heap.size, 3, none⟩) (block_far (a := ⟨v30.heap.size, 2, none⟩) (block_far (a := ⟨v30.heap.size, 1, none⟩) (block_far (a := ⟨v30.heap.size, 0, none⟩) qs6_43 (by dsimp only; omega) (.int .i64 n.a)) (by dsimp only; omega) (.int .i64 n.b)) (by dsimp only; omega) (.int .i64 n.c)) (by dsimp only; omega) (.int .i64 n.d)) (by dsimp only; omega) (.int .i64 n.e)) (by dsimp only; omega) (.int .i64 n.f)) (by dsimp only; omega) (.int .i64 n.r))
        generalize hw44 : (World.setCell (World.setCell (World.setCell (World.setCell (World.setCell (World.setCell (World.setCell v43 ⟨v30.heap.size, 0, none⟩ (.int .i64 n.a)) ⟨v30.heap.size, 1, none⟩ (.int .i64 n.b)) ⟨v30.heap.size, 2, none⟩ (.int .i64 n.c)) ⟨v30.heap.size, 3, none⟩ (.int .i64 n.d)) ⟨v30.heap.size, 4, none⟩ (.int .i64 n.e)) ⟨v30.heap.size, 5, none⟩ (.int .i64 n.f)) ⟨v30.heap.size, 6, none⟩ (.int .i64 n.r)) = v44 at hP qs7_44 qs6_44 ⊢
        clear hw44
        refine wsPlan_done ?_
        clear F1 F2
        have HA := Lib.hid qs6_44
        have HC := Lib.hid qs7_44
        have HP := Lib.hid hP
        go_wp2_with fail
        go_meet
        exact ⟨_, _, rfl, rfl, HP.out, HA.out, HC.out⟩
    · skip
      have hxs7 : W2.heap.size ≤ v1.heap.size := hP.size
      (refine wsPlan_only rfl (fun K hK => ?_); replace hK := Lib.hid hK; go_simp; refine hK.out _ _ (hP.alloc hP.size _) (fun hP => ?_); clear hK K)
      generalize hw45 : World.alloc v1 (Obj.cells #[.int .i64 0, .int .i64 0, .int .i64 0, .int .i64 0, .int .i64 0, .int .i64 0, .int .i64 0] 227) = v45 at hP ⊢
      obtain ⟨qs7_45, hb45⟩ := box1 hw45.symm
      clear hw45
      have hzs7 := hb45.size
      have hys7 := hP.size
      refine wsPlan_two ?_ ?_
      · skip
        (refine wsPlan_only rfl (fun K hK => ?_); replace hK := Lib.hid hK; go_simp; go_at_call 169; (with_reducible refine (dtread_any _ _ _ _ _ _ _ _).mono ?_); rintro z v46 ⟨rfl, hb46⟩; have hP1 := below_step hP hb46; refine hK.out _ _ hP1 (fun hP => ?_); clear hK K hP1)
        have qs7_46 := block_later hb46 qs7_45
        refine wsPlan_two ?_ ?_
        · skip
          (refine wsPlan_only rfl (fun K hK => ?_); replace hK := Lib.hid hK; go_simp; go_at_call 169; (with_reducible refine (dtread_any _ _ _ _ _ _ _ _).mono ?_); rintro z v47 ⟨rfl, hb47⟩; have hP1 := below_step hP hb47; refine hK.out _ _ hP1 (fun hP => ?_); clear hK K hP1)
          have qs7_47 := block_later hb47 qs7_46
          have hxs6 : W2.heap.size ≤ v47.heap.size := hP.size
          (refine wsPlan_only rfl (fun K hK => ?_); replace hK := Lib.hid hK; go_simp; refine hK.out _ _ (hP.alloc hP.size _) (fun hP => ?_); clear hK K)
          generalize hw48 : World.alloc v47 (Obj.cells #[.int .i64 0, .int .i64 0, .int .i64 0, .int .i64 0, .int .i64 0, .int .i64 0, .int .i64 0] 227) = v48 at hP ⊢
          obtain ⟨qs6_48, hb48⟩ := box1 hw48.symm
          clear hw48
          have hzs6 := hb48.size
          have hys6 := hP.size
          have qs7_48 := block_later hb48 qs7_47
          have hns6s7 := lt_block qs7_47
          have f9 := free_block qs6_48
          have c9 := cell_block qs6_48
          (refine wsPlan_only rfl (fun K hK => ?_); replace hK := Lib.hid hK; go_simp; refine hK.out _ _ (by with_reducible exact (setM (setM (setM (setM (setM (setM (setM hP hxs6 _) hxs6 _) hxs6 _) hxs6 _) hxs6 _) hxs6 _) hxs6 _)) (fun hP => ?_); clear hK K f9 c9)
          have qs6_49 := (block_set (i := 6) (block_set (i := 5) (block_set (i := 4) (block_set (i := 3) (block_set (i := 2) (block_set (i := 1) (block_set (i := 0) qs6_48 (.int .i64 m.a)) (.int .i64 m.b)) (.int .i64 m.c)) (.int .i64 m.d)) (.int .i64 m.e)) (.int .i64 m.f)) (.int .i64 m.r))
          have qs7_49 := (block_far (a := ⟨v47.heap.size, 6, none⟩) (block_far (a := ⟨v47.heap.size, 5, none⟩) (block_far (a := ⟨v47.heap.size, 4, none⟩) (block_far (a := ⟨v47.heap.size, 3, none⟩) (block_far (a := ⟨v47.heap.size, 2, none⟩) (block_far (a := ⟨v47.heap.size, 1, none⟩) (block_far (a := ⟨v47.heap.size, 0, none⟩) qs7_48 (by dsimp only; omega) (.int .i64 m.a)) (by dsimp only; omega) (.int .i64 m.b)) (by dsimp only; omega) (.int .i64 m.c)) (by dsimp only; omega) (.int .i64 m.d)) (by dsimp only; omega) (.int .i64 m.e)) (by dsimp only; omega) (.int .i64 m.f)) (by dsimp only; omega) (.int .i64 m.r))
          generalize hw49 : (World.setCell (World.setCell (World.setCell (World.setCell (World.setCell (World.setCell (World.setCell v48 ⟨v47.heap.size, 0, none⟩ (.int .i64 m.a)) ⟨v47.heap.size, 1, none⟩ (.int .i64 m.b)) ⟨v47.heap.size, 2, none⟩ (.int .i64 m.c)) ⟨v47.heap.size, 3, none⟩ (.int .i64 m.d)) ⟨v47.heap.size, 4, none⟩ (.int .i64 m.e)) ⟨v47.heap.size, 5, none⟩ (.int .i64 m.f)) ⟨v47.heap.size, 6, none⟩ (.int .i64 m.r)) = v49 at hP qs6_49 qs7_49 ⊢
          clear hw49
          have f9 := free_block qs7_49
          have c9 := cell_block qs7_49
          (refine wsPlan_only rfl (fun K hK => ?_); replace hK := Lib.hid hK; go_simp; refine hK.out _ _ (by with_reducible exact (setM (setM (setM (setM (setM (setM (setM hP hxs7 _) hxs7 _) hxs7 _) hxs7 _) hxs7 _) hxs7 _) hxs7 _)) (fun hP => ?_); clear hK K f9 c9)
          have qs7_50 := (block_set (i := 6) (block_set (i := 5) (block_set (i := 4) (block_set (i := 3) (block_set (i := 2) (block_set (i := 1) (block_set (i := 0) qs7_49 (.int .i64 n.a)) (.int .i64 n.b)) (.int .i64 n.c)) (.int .i64 n.d)) (.int .i64 n.e)) (.int .i64 n.f)) (.int .i64 n.r))
          have qs6_50 := (block_far (a := ⟨v1.heap.size, 6, none⟩) (block_far (a := ⟨v1.heap.size, 5, none⟩) (block_far (a := ⟨v1.heap.size, 4, none⟩) (block_far (a := ⟨v1.heap.size, 3, none⟩) (block_far (a := ⟨v1.heap.size, 2, none⟩) (block_far (a := ⟨v1.heap.size, 1, none⟩) (block_far (a := ⟨v1.heap.size, 0, none⟩) qs6_49 (by dsimp only; omega) (.int .i64 n.a)) (by dsimp only; omega) (.int .i64 n.b)) (by dsimp only; omega) (.int .i64 n.c)) (by dsimp only; omega) (.int .i64 n.d)) (by dsimp only; omega) (.int .i64 n.e)) (by dsimp only; omega) (.int .i64 n.f)) (by dsimp only; omega) (.int .i64 n.r))
          generalize hw50 : (World.setCell (World.setCell (World.setCell (World.setCell (World.setCell (World.setCell (World.setCell v49 ⟨v1.heap.size, 0, none⟩ (.int .i64 n.a)) ⟨v1.heap.size, 1, none⟩ (.int .i64 n.b)) ⟨v1.heap.size, 2, none⟩ (.int .i64 n.c)) ⟨v1.heap.size, 3, none⟩ (.int .i64 n.d)) ⟨v1.heap.size, 4, none⟩ (.int .i64 n.e)) ⟨v1.heap.size, 5, none⟩ (.int .i64 n.f)) ⟨v1.heap.size, 6, none⟩ (.int .i64 n.r)) = v50 at hP qs7_50 qs6_50 ⊢
          clear hw50
          refine wsPlan_done ?_
          clear F1 F2
          have HA := Lib.hid qs6_50
          have HC := Lib.hid qs7_50
          have HP := Lib.hid hP
          go_wp2_with fail
          go_meet
          exact ⟨_, _, rfl, rfl, HP.out, HA.out, HC.out⟩
        · skip
          have hxs6 : W2.heap.size ≤ v46.heap.size := hP.size
          (refine wsPlan_only rfl (fun K hK => ?_); replace hK := Lib.hid hK; go_simp; refine hK.out _ _ (hP.alloc hP.size _) (fun hP => ?_); clear hK K)
          generalize hw51 : World.alloc v46 (Obj.cells #[.int .i64 0, .int .i64 0, .int .i64 0, .int .i64 0, .int .i64 0, .int .i64 0, .int .i64 0] 227) = v51 at hP ⊢
          obtain ⟨qs6_51, hb51⟩ := box1 hw51.symm
          clear hw51
          have hzs6 := hb51.size
          have hys6 := hP.size
          have qs7_51 := block_later hb51 qs7_46
          have hns6s7 := lt_block qs7_46
          (refine wsPlan_only rfl (fun K hK => ?_); replace hK := Lib.hid hK; go_simp; go_at_call 169; (with_reducible refine (dtread_any _ _ _ _ _ _ _ _).mono ?_); rintro z v52 ⟨rfl, hb52⟩; have hP1 := below_step hP hb52; refine hK.out _ _ hP1 (fun hP => ?_); clear hK K hP1)
          have qs7_52 := block_later hb52 qs7_51
          have qs6_52 := block_later hb52 qs6_51
          have f9 := free_block qs6_52
          have c9 := cell_block qs6_52
          (refine wsPlan_only rfl (fun K hK => ?_); replace hK := Lib.hid hK; go_simp; refine hK.out _ _ (by with_reducible exact (setM (setM (setM (setM (setM (setM (setM hP hxs6 _) hxs6 _) hxs6 _) hxs6 _) hxs6 _) hxs6 _) hxs6 _)) (fun hP => ?_); clear hK K f9 c9)
          have qs6_53 := (block_set (i := 6) (block_set (i := 5) (block_set (i := 4) (block_set (i := 3) (block_set (i := 2) (block_set (i := 1) (block_set (i := 0) qs6_52 (.int .i64 m.a)) (.int .i64 m.b)) (.int .i64 m.c)) (.int .i64 m.d)) (.int .i64 m.e)) (.int .i64 m.f)) (.int .i64 m.r))
          have qs7_53 := (block_far (a := ⟨v46.heap.size, 6, none⟩) (block_far (a := ⟨v46.heap.size, 5, none⟩) (block_far (a := ⟨v46.heap.size, 4, none⟩) (block_far (a := ⟨v46.heap.size, 3, none⟩) (block_far (a := ⟨v46.heap.size, 2, none⟩) (block_far (a := ⟨v46.heap.size, 1, none⟩) (block_far (a := ⟨v46.heap.size, 0, none⟩) qs7_52 (by dsimp only; omega) (.int .i64 m.a)) (by dsimp only; omega) (.int .i64 m.b)) (by dsimp only; omega) (.int .i64 m.c)) (by dsimp only; omega) (.int .i64 m.d)) (by dsimp only; omega) (.int .i64 m.e)) (by dsimp only; omega) (.int .i64 m.f)) (by dsimp only; omega) (.int .i64 m.r))
          generalize hw53 : (World.setCell (World.setCell (World.setCell (World.setCell (World.setCell (World.setCell (World.setCell v52 ⟨v46.heap.size, 0, none⟩ (.int .i64 m.a)) ⟨v46.heap.size, 1, none⟩ (.int .i64 m.b)) ⟨v46.heap.size, 2, none⟩ (.int .i64 m.c)) ⟨v46.heap.size, 3, none⟩ (.int .i64 m.d)) ⟨v46.heap.size, 4, none⟩ (.int .i64 m.e)) ⟨v46.heap.size, 5, none⟩ (.int .i64 m.f)) ⟨v46.heap.size, 6, none⟩ (.int .i64 m.r)) = v53 at hP qs6_53 qs7_53 ⊢
          clear hw53
          have f9 := free_block qs7_53
          have c9 := cell_block qs7_53
          (refine wsPlan_only rfl (fun K hK => ?_); replace hK := Lib.hid hK; go_simp; refine hK.out _ _ (by with_reducible exact (setM (setM (setM (setM (setM (setM (setM hP hxs7 _) hxs7 _) hxs7 _) hxs7 _) hxs7 _) hxs7 _) hxs7 _)) (fun hP => ?_); clear hK K f9 c9)
          have qs7_54 := (block_set (i := 6) (block_set (i := 5) (block_set (i := 4) (block_set (i := 3) (block_set (i := 2) (block_set (i := 1) (block_set (i := 0) qs7_53 (.int .i64 n.a)) (.int .i64 n.b)) (.int .i64 n.c)) (.int .i64 n.d)) (.int .i64 n.e)) (.int .i64 n.f)) (.int .i64 n.r))
          have qs6_54 := (block_far (a := ⟨v1.heap.size, 6, none⟩) (block_far (a := ⟨v1.heap.size, 5, none⟩) (block_far (a := ⟨v1.heap.size, 4, none⟩) (block_far (a := ⟨v1.heap.size, 3, none⟩) (block_far (a := ⟨v1.heap.size, 2, none⟩) (block_far (a := ⟨v1.heap.size, 1, none⟩) (block_far (a := ⟨v1.heap.size, 0, none⟩) qs6_53 (by dsimp only; omega) (.int .i64 n.a)) (by dsimp only; omega) (.int .i64 n.b)) (by dsimp only; omega) (.int .i64 n.c)) (by dsimp only; omega) (.int .i64 n.d)) (by dsimp only; omega) (.int .i64 n.e)) (by dsimp only; omega) (.int .i64 n.f)) (by dsimp only; omega) (.int .i64 n.r))
          generalize hw54 : (World.setCell (World.setCell (World.setCell (World.setCell (World.setCell (World.setCell (World.setCell v53 ⟨v1.heap.size, 0, none⟩ (.int .i64 n.a)) ⟨v1.heap.size, 1, none⟩ (.int .i64 n.b)) ⟨v1.heap.size, 2, none⟩ (.int .i64 n.c)) ⟨v1.heap.size, 3, none⟩ (.int .i64 n.d)) ⟨v1.heap.size, 4, none⟩ (.int .i64 n.e)) ⟨v1.heap.size, 5, none⟩ (.int .i64 n.f)) ⟨v1.heap.size, 6, none⟩ (.int .i64 n.r)) = v54 at hP qs7_54 qs6_54 ⊢
          clear hw54
          refine wsPlan_done ?_
          clear F1 F2
          have HA := Lib.hid qs6_54
          have HC := Lib.hid qs7_54
          have HP := Lib.hid hP
          go_wp2_with fail
          go_meet
          exact ⟨_, _, rfl, rfl, HP.out, HA.out, HC.out⟩
      · skip
        have hxs6 : W2.heap.size ≤ v45.heap.size := hP.size
        (refine wsPlan_only rfl (fun K hK => ?_); replace hK := Lib.hid hK; go_simp; refine hK.out _ _ (hP.alloc hP.size _) (fun hP => ?_); clear hK K)
        generalize hw55 : World.alloc v45 (Obj.cells #[.int .i64 0, .int .i64 0, .int .i64 0, .int .i64 0, .int .i64 0, .int .i64 0, .int .i64 0] 227) = v55 at hP ⊢
        obtain ⟨qs6_55, hb55⟩ := box1 hw55.symm
        clear hw55
        have hzs6 := hb55.size
        have hys6 := hP.size
        have qs7_55 := block_later hb55 qs7_45
        have hns6s7 := lt_block qs7_45
        (refine wsPlan_only rfl (fun K hK => ?_); replace hK := Lib.hid hK; go_simp; go_at_call 169; (with_reducible refine (dtread_any _ _ _ _ _ _ _ _).mono ?_); rintro z v56 ⟨rfl, hb56⟩; have hP1 := below_step hP hb56; refine hK.out _ _ hP1 (fun hP => ?_); clear hK K hP1)
        have qs7_56 := block_later hb56 qs7_55
        have qs6_56 := block_later hb56 qs6_55
        (refine wsPlan_only rfl (fun K hK => ?_); replace hK := Lib.hid hK; go_simp; go_at_call 169; (with_reducible refine (dtread_any _ _ _ _ _ _ _ _).mono ?_); rintro z v57 ⟨rfl, hb57⟩; have hP1 := below_step hP hb57; refine hK.out _ _ hP1 (fun hP => ?_); clear hK K hP1)
        have qs7_57 := block_later hb57 qs7_56
        have qs6_57 := block_later hb57 qs6_56
        have f9 := free_block qs6_57
        have c9 := cell_block qs6_57
        (refine wsPlan_only rfl (fun K hK => ?_); replace hK := Lib.hid hK; go_simp; refine hK.out _ _ (by with_reducible exact (setM (setM (setM (setM (setM (setM (setM hP hxs6 _) hxs6 _) hxs6 _) hxs6 _) hxs6 _) hxs6 _) hxs6 _)) (fun hP => ?_); clear hK K f9 c9)
        have qs6_58 := (block_set (i := 6) (block_set (i := 5) (block_set (i := 4) (block_set (i := 3) (block_set (i := 2) (block_set (i := 1) (block_set (i := 0) qs6_57 (.int .i64 m.a)) (.int .i64 m.b)) (.int .i64 m.c)) (.int .i64 m.d)) (.int .i64 m.e)) (.int .i64 m.f)) (.int .i64 m.r))
        have qs7_58 := (block_far (a := ⟨v45.heap.size, 6, none⟩) (block_far (a := ⟨v45.heap.size, 5, none⟩) (block_far (a := ⟨v45.heap.size, 4, none⟩) (block_far (a := ⟨v45.heap.size, 3, none⟩) (block_far (a := ⟨v45.heap.size, 2, none⟩) (block_far (a := ⟨v45.heap.size, 1, none⟩) (block_far (a := ⟨v45.heap.size, 0, none⟩) qs7_57 (by dsimp only; omega) (.int .i64 m.a)) (by dsimp only; omega) (.int .i64 m.b)) (by dsimp only; omega) (.int .i64 m.c)) (by dsimp only; omega) (.int .i64 m.d)) (by dsimp only; omega) (.int .i64 m.e)) (by dsimp only; omega) (.int .i64 m.f)) (by dsimp only; omega) (.int .i64 m.r))
        generalize hw58 : (World.setCell (World.setCell (World.setCell (World.setCell (World.setCell (World.setCell (World.setCell v57 ⟨v45.heap.size, 0, none⟩ (.int .i64 m.a)) ⟨v45.heap.size, 1, none⟩ (.int .i64 m.b)) ⟨v45.heap.size, 2, none⟩ (.int .i64 m.c)) ⟨v45.heap.size, 3, none⟩ (.int .i64 m.d)) ⟨v45.heap.size, 4, none⟩ (.int .i64 m.e)) ⟨v45.heap.size, 5, none⟩ (.int .i64 m.f)) ⟨v45.heap.size, 6, none⟩ (.int .i64 m.r)) = v58 at hP qs6_58 qs7_58 ⊢
        clear hw58
        have f9 := free_block qs7_58
        have c9 := cell_block qs7_58
        (refine wsPlan_only rfl (fun K hK => ?_); replace hK := Lib.hid hK; go_simp; refine hK.out _ _ (by with_reducible exact (setM (setM (setM (setM (setM (setM (setM hP hxs7 _) hxs7 _) hxs7 _) hxs7 _) hxs7 _) hxs7 _) hxs7 _)) (fun hP => ?_); clear hK K f9 c9)
        have qs7_59 := (block_set (i := 6) (block_set (i := 5) (block_set (i := 4) (block_set (i := 3) (block_set (i := 2) (block_set (i := 1) (block_set (i := 0) qs7_58 (.int .i64 n.a)) (.int .i64 n.b)) (.int .i64 n.c)) (.int .i64 n.d)) (.int .i64 n.e)) (.int .i64 n.f)) (.int .i64 n.r))
        have qs6_59 := (block_far (a := ⟨v1.heap.size, 6, none⟩) (block_far (a := ⟨v1.heap.size, 5, none⟩) (block_far (a := ⟨v1.heap.size, 4, none⟩) (block_far (a := ⟨v1.heap.size, 3, none⟩) (block_far (a := ⟨v1.heap.size, 2, none⟩) (block_far (a := ⟨v1.heap.size, 1, none⟩) (block_far (a := ⟨v1.heap.size, 0, none⟩) qs6_58 (by dsimp only; omega) (.int .i64 n.a)) (by dsimp only; omega) (.int .i64 n.b)) (by dsimp only; omega) (.int .i64 n.c)) (by dsimp only; omega) (.int .i64 n.d)) (by dsimp only; omega) (.int .i64 n.e)) (by dsimp only; omega) (.int .i64 n.f)) (by dsimp only; omega) (.int .i64 n.r))
        generalize hw59 : (World.setCell (World.setCell (World.setCell (World.setCell (World.setCell (World.setCell (World.setCell v58 ⟨v1.heap.size, 0, none⟩ (.int .i64 n.a)) ⟨v1.heap.size, 1, none⟩ (.int .i64 n.b)) ⟨v1.heap.size, 2, none⟩ (.int .i64 n.c)) ⟨v1.heap.size, 3, none⟩ (.int .i64 n.d)) ⟨v1.heap.size, 4, none⟩ (.int .i64 n.e)) ⟨v1.heap.size, 5, none⟩ (.int .i64 n.f)) ⟨v1.heap.size, 6, none⟩ (.int .i64 n.r)) = v59 at hP qs7_59 qs6_59 ⊢
        clear hw59
        refine wsPlan_done ?_
        clear F1 F2
        have HA := Lib.hid qs6_59
        have HC := Lib.hid qs7_59
        have HP := Lib.hid hP
        go_wp2_with fail
        go_meet
        exact ⟨_, _, rfl, rfl, HP.out, HA.out, HC.out⟩
  case rest =>
    obtain ⟨g6, g7, rfl, rfl, hb3, hq6, hq7⟩ := hcut
    obtain ⟨W3, rfl⟩ : ∃ x, x = wc := ⟨_, rfl⟩
    have X3 := Lib.hid (below_step X2.out hb3)
    have G6 : ∀ w', Below W3.heap.size W3 w' → ∀ i, w'.cell? ⟨g6, i, none⟩ = #[.int .i64 m.a, .int .i64 m.b, .int .i64 m.c, .int .i64 m.d, .int .i64 m.e, .int .i64 m.f, .int .i64 m.r][i]? := fun w' hw i => cell_block (block_later hw hq6) i
    have G7 : ∀ w', Below W3.heap.size W3 w' → ∀ i, w'.cell? ⟨g7, i, none⟩ = #[.int .i64 n.a, .int .i64 n.b, .int .i64 n.c, .int .i64 n.d, .int .i64 n.e, .int .i64 n.f, .int .i64 n.r][i]? := fun w' hw i => cell_block (block_later hw hq7) i
    clear hb3 F1 F2 hq6 hq7
    obtain ⟨T, hT⟩ : ∃ T, thenD m n = T := ⟨_, rfl⟩
    rw [hT] at WR
    have RX0 : Hid (roundM (n.a * m.a + n.b * m.d) = T.a) := Lib.hid (by rw [← hT]; rfl)
    have RX1 : Hid (roundM (n.a * m.b + n.b * m.e) = T.b) := Lib.hid (by rw [← hT]; rfl)
    have RX2 : Hid (roundM (n.a * m.c + n.b * m.f) + n.c = T.c) := Lib.hid (by rw [← hT]; rfl)
    have RX3 : Hid (roundM (n.d * m.a + n.e * m.d) = T.d) := Lib.hid (by rw [← hT]; rfl)
    have RX4 : Hid (roundM (n.d * m.b + n.e * m.e) = T.e) := Lib.hid (by rw [← hT]; rfl)
    have RX5 : Hid (roundM (n.d * m.c + n.e * m.f) + n.f = T.f) := Lib.hid (by rw [← hT]; rfl)
    obtain ⟨gv, hgv⟩ : ∃ v, upM (max (weighM n.a n.b) (weighM n.d n.e) * m.r) = v := ⟨_, rfl⟩
    have hTr : gv + n.r + 2 = T.r := by rw [← hT, ← hgv]; rfl
    have hgb : 0 ≤ gv ∧ gv ≤ 4000 := by
      obtain ⟨na, nb, nc, nd, ne, nf, nr⟩ := NP.out
      obtain ⟨_, _, _, _, _, _, mr⟩ := MP.out
      obtain ⟨M, hM⟩ : ∃ M, max (weighM n.a n.b) (weighM n.d n.e) = M := ⟨_, rfl⟩
      have h1 : 0 ≤ M ∧ M ≤ 4000000 := by rw [← hM]; unfold weighM; omega
      have h2 : M * m.r ≤ 4000000 * 1000 := Int.mul_le_mul h1.2 mr.2 mr.1 (by decide)
      have h3 : 0 ≤ M * m.r := Int.mul_nonneg h1.1 mr.1
      rw [← hgv, hM]
      unfold upM
      omega
    have hnr := NP.out.2.2.2.2.2.2
    have j1 : IntKind.i64.wrap (gv + n.r) = gv + n.r := IntWalk.i64_in _ (by omega)
    have j2 : IntKind.i64.wrap (gv + n.r + 2) = T.r := by rw [← hTr]; exact IntWalk.i64_in _ (by omega)
    have RG := Lib.hid hgv
    clear hgv hT hTr hgb hnr
    go_wp2_with fail
    go_cut [8] from 22 to 42 (fun s8 wx => ∃ g8 : Nat, s8 = .pointer (some ⟨g8, 0, none⟩) ∧ Below W3.heap.size W3 wx ∧ wx.heap[g8]? = some (.cells #[.int .i64 T.a, .int .i64 T.b, .int .i64 T.c, .int .i64 T.d, .int .i64 T.e, .int .i64 T.f, .int .i64 T.r] 227 (0, 0)))
    case first =>
      refine wp_region_planS (Below W3.heap.size W3) (.take 0 (.take 0 (.take 0 (.take 0 (.take 1 (.take 1 (.take 1 (.take 1 (.take 3 (.take 3 (.take 3 (.take 3 (.take 4 (.take 4 (.two 0 (.two 0 (.take 0 (.two 0 (.take 0 (.take 0 (.take 0 (.only 0 (.only 0 .done))))) 4 (.only 0 (.take 0 (.take 0 (.take 0 (.only 0 .done))))))) 6 (.only 0 (.take 0 (.only 0 (.take 0 (.take 0 (.take 0 (.only 0 .done)))))))) 7 (.only 0 (.only 0 (.take 0 (.only 0 (.take 0 (.take 0 (.take 0 (.only 0 .done))))))))))))))))))))))) (by kernel_rfl) (by kernel_rfl) (Below.refl _ _).drew (fun hP => ?_)
      generalize hdr : W3.drew = v60 at hP ⊢
      clear hdr
      (refine wsPlan_take rfl (fun K hK => ?_); replace hK := Lib.hid hK; go_simp; first | (refine hK.out _ ?_; clear hK K) | (apply Exists.intro; refine ⟨fun w' hw => ?_, hK.out _ ?_⟩; (first | with_reducible exact rfl | (have g6 := G6 w' hw; have g7 := G7 w' hw; go_simp; exact rfl)); clear hK K))
      (refine wsPlan_take rfl (fun K hK => ?_); replace hK := Lib.hid hK; go_simp; first | (refine hK.out _ ?_; clear hK K) | (apply Exists.intro; refine ⟨fun w' hw => ?_, hK.out _ ?_⟩; (first | with_reducible exact rfl | (have g6 := G6 w' hw; have g7 := G7 w' hw; go_simp; exact rfl)); clear hK K))
      (refine wsPlan_take rfl (fun K hK => ?_); replace hK := Lib.hid hK; go_simp; first | (refine hK.out _ ?_; clear hK K) | (apply Exists.intro; refine ⟨fun w' hw => ?_, hK.out _ ?_⟩; (first | with_reducible exact rfl | (have g6 := G6 w' hw; have g7 := G7 w' hw; go_simp; exact rfl)); clear hK K))
      (refine wsPlan_take rfl (fun K hK => ?_); replace hK := Lib.hid hK; go_simp; first | (refine hK.out _ ?_; clear hK K) | (apply Exists.intro; refine ⟨fun w' hw => ?_, hK.out _ ?_⟩; (first | with_reducible exact rfl | (have g6 := G6 w' hw; have g7 := G7 w' hw; go_simp; exact rfl)); clear hK K))
      (refine wsPlan_take rfl (fun K hK => ?_); replace hK := Lib.hid hK; go_simp; first | (refine hK.out _ ?_; clear hK K) | (apply Exists.intro; refine ⟨fun w' hw => ?_, hK.out _ ?_⟩; (first | with_reducible exact rfl | (have g6 := G6 w' hw; have g7 := G7 w' hw; go_simp; exact rfl)); clear hK K))
      (refine wsPlan_take rfl (fun K hK => ?_); replace hK := Lib.hid hK; go_simp; first | (refine hK.out _ ?_; clear hK K) | (apply Exists.intro; refine ⟨fun w' hw => ?_, hK.out _ ?_⟩; (first | with_reducible exact rfl | (have g6 := G6 w' hw; have g7 := G7 w' hw; go_simp; exact rfl)); clear hK K))
      (refine wsPlan_take rfl (fun K hK => ?_); replace hK := Lib.hid hK; go_simp; first | (refine hK.out _ ?_; clear hK K) | (apply Exists.intro; refine ⟨fun w' hw => ?_, hK.out _ ?_⟩; (first | with_reducible exact rfl | (have g6 := G6 w' hw; have g7 := G7 w' hw; go_simp; exact rfl)); clear hK K))
      (refine wsPlan_take rfl (fun K hK => ?_); replace hK := Lib.hid hK; go_simp; first | (refine hK.out _ ?_; clear hK K) | (apply Exists.intro; refine ⟨fun w' hw => ?_, hK.out _ ?_⟩; (first | with_reducible exact rfl | (have g6 := G6 w' hw; have g7 := G7 w' hw; go_simp; exact rfl)); clear hK K))
      (refine wsPlan_take rfl (fun K hK => ?_); replace hK := Lib.hid hK; go_simp; first | (refine hK.out _ ?_; clear hK K) | (apply Exists.intro; refine ⟨fun w' hw => ?_, hK.out _ ?_⟩; (first | with_reducible exact rfl | (have g6 := G6 w' hw; have g7 := G7 w' hw; go_simp; exact rfl)); clear hK K))
      (refine wsPlan_take rfl (fun K hK => ?_); replace hK := Lib.hid hK; go_simp; first | (refine hK.out _ ?_; clear hK K) | (apply Exists.intro; refine ⟨fun w' hw => ?_, hK.out _ ?_⟩; (first | with_reducible exact rfl | (have g6 := G6 w' hw; have g7 := G7 w' hw; go_simp; exact rfl)); clear hK K))
      (refine wsPlan_take rfl (fun K hK => ?_); replace hK := Lib.hid hK; go_simp; first | (refine hK.out _ ?_; clear hK K) | (apply Exists.intro; refine ⟨fun w' hw => ?_, hK.out _ ?_⟩; (first | with_reducible exact rfl | (have g6 := G6 w' hw; have g7 := G7 w' hw; go_simp; exact rfl)); clear hK K))
      (refine wsPlan_take rfl (fun K hK => ?_); replace hK := Lib.hid hK; go_simp; first | (refine hK.out _ ?_; clear hK K) | (apply Exists.intro; refine ⟨fun w' hw => ?_, hK.out _ ?_⟩; (first | with_reducible exact rfl | (have g6 := G6 w' hw; have g7 := G7 w' hw; go_simp; exact rfl)); clear hK K))
      (refine wsPlan_take rfl (fun K hK => ?_); replace hK := Lib.hid hK; go_simp; first | (refine hK.out _ ?_; clear hK K) | (apply Exists.intro; refine ⟨fun w' hw => ?_, hK.out _ ?_⟩; (first | with_reducible exact rfl | (have g6 := G6 w' hw; have g7 := G7 w' hw; go_simp; exact rfl)); clear hK K))
      (refine wsPlan_take rfl (fun K hK => ?_); replace hK := Lib.hid hK; go_simp; first | (refine hK.out _ ?_; clear hK K) | (apply Exists.intro; refine ⟨fun w' hw => ?_, hK.out _ ?_⟩; (first | with_reducible exact rfl | (have g6 := G6 w' hw; have g7 := G7 w' hw; go_simp; exact rfl)); clear hK K))
      refine wsPlan_two ?_ ?_
      · skip
        (refine wsPlan_only rfl (fun K hK => ?_); replace hK := Lib.hid hK; go_simp; go_at_call 261; (with_reducible refine (dtafter_any n.a n.b n.c m.a m.b m.c m.d m.e m.f m.r _ NP.out.1 NP.out.2.1 NP.out.2.2.1 MP.out.1 MP.out.2.1 MP.out.2.2.1 MP.out.2.2.2.1 MP.out.2.2.2.2.1 MP.out.2.2.2.2.2.1 RX0.out RX1.out RX2.out).mono ?_); rintro z v61 ⟨rfl, hb61⟩; have hP1 := below_step hP hb61; refine hK.out _ _ hP1 (fun hP => ?_); clear hK K hP1)
        refine wsPlan_two ?_ ?_
        · skip
          (refine wsPlan_only rfl (fun K hK => ?_); replace hK := Lib.hid hK; go_simp; go_at_call 261; (with_reducible refine (dtafter_any n.d n.e n.f m.a m.b m.c m.d m.e m.f m.r _ NP.out.2.2.2.1 NP.out.2.2.2.2.1 NP.out.2.2.2.2.2.1 MP.out.1 MP.out.2.1 MP.out.2.2.1 MP.out.2.2.2.1 MP.out.2.2.2.2.1 MP.out.2.2.2.2.2.1 RX3.out RX4.out RX5.out).mono ?_); rintro z v62 ⟨rfl, hb62⟩; have hP1 := below_step hP hb62; refine hK.out _ _ hP1 (fun hP => ?_); clear hK K hP1)
          (refine wsPlan_take rfl (fun K hK => ?_); replace hK := Lib.hid hK; go_simp; first | (refine hK.out _ ?_; clear hK K) | (apply Exists.intro; refine ⟨fun w' hw => ?_, hK.out _ ?_⟩; (first | with_reducible exact rfl | (have g6 := G6 w' hw; have g7 := G7 w' hw; go_simp; exact rfl)); clear hK K))
          refine wsPlan_two ?_ ?_
          · skip
            (refine wsPlan_only rfl (fun K hK => ?_); replace hK := Lib.hid hK; go_simp; go_at_call 262; (with_reducible refine (dtgrown_any n.a n.b n.c n.d n.e n.f m.r _ NP.out.1 NP.out.2.1 NP.out.2.2.2.1 NP.out.2.2.2.2.1 MP.out.2.2.2.2.2.2 RG.out).mono ?_); rintro z v63 ⟨rfl, hb63⟩; have hP1 := below_step hP hb63; refine hK.out _ _ hP1 (fun hP => ?_); clear hK K hP1)
            (refine wsPlan_take rfl (fun K hK => ?_); replace hK := Lib.hid hK; go_simp; first | (refine hK.out _ ?_; clear hK K) | (apply Exists.intro; refine ⟨fun w' hw => ?_, hK.out _ ?_⟩; (first | with_reducible exact rfl | (have g6 := G6 w' hw; have g7 := G7 w' hw; go_simp; exact rfl)); clear hK K))
            (refine wsPlan_take rfl (fun K hK => ?_); replace hK := Lib.hid hK; go_simp; first | (refine hK.out _ ?_; clear hK K) | (apply Exists.intro; refine ⟨fun w' hw => ?_, hK.out _ ?_⟩; (first | with_reducible exact rfl | (have g6 := G6 w' hw; have g7 := G7 w' hw; go_simp; exact rfl)); clear hK K))
            (refine wsPlan_take rfl (fun K hK => ?_); replace hK := Lib.hid hK; go_simp; first | (refine hK.out _ ?_; clear hK K) | (apply Exists.intro; refine ⟨fun w' hw => ?_, hK.out _ ?_⟩; (first | with_reducible exact rfl | (have g6 := G6 w' hw; have g7 := G7 w' hw; go_simp; exact rfl)); clear hK K))
            have hxs8 : W3.heap.size ≤ v63.heap.size := hP.size
            (refine wsPlan_only rfl (fun K hK => ?_); replace hK := Lib.hid hK; go_simp; refine hK.out _ _ (hP.alloc hP.size _) (fun hP => ?_); clear hK K)
            generalize hw64 : World.alloc v63 (Obj.cells #[.int .i64 0, .int .i64 0, .int .i64 0, .int .i64 0, .int .i64 0, .int .i64 0, .int .i64 0] 227) = v64 at hP ⊢
            obtain ⟨qs8_64, hb64⟩ := box1 hw64.symm
            clear hw64
            have hzs8 := hb64.size
            have hys8 := hP.size
            have f9 := free_block qs8_64
            have c9 := cell_block qs8_64
            (refine wsPlan_only rfl (fun K hK => ?_); replace hK := Lib.hid hK; go_simp; refine hK.out _ _ (by with_reducible exact (setM (setM (setM (setM (setM (setM (setM hP hxs8 _) hxs8 _) hxs8 _) hxs8 _) hxs8 _) hxs8 _) hxs8 _)) (fun hP => ?_); clear hK K f9 c9)
            have qs8_65 := (block_set (i := 6) (block_set (i := 5) (block_set (i := 4) (block_set (i := 3) (block_set (i := 2) (block_set (i := 1) (block_set (i := 0) qs8_64 (.int .i64 T.a)) (.int .i64 T.b)) (.int .i64 T.c)) (.int .i64 T.d)) (.int .i64 T.e)) (.int .i64 T.f)) (.int .i64 T.r))
            generalize hw65 : (World.setCell (World.setCell (World.setCell (World.setCell (World.setCell (World.setCell (World.setCell v64 ⟨v63.heap.size, 0, none⟩ (.int .i64 T.a)) ⟨v63.heap.size, 1, none⟩ (.int .i64 T.b)) ⟨v63.heap.size, 2, none⟩ (.int .i64 T.c)) ⟨v63.heap.size, 3, none⟩ (.int .i64 T.d)) ⟨v63.heap.size, 4, none⟩ (.int .i64 T.e)) ⟨v63.heap.size, 5, none⟩ (.int .i64 T.f)) ⟨v63.heap.size, 6, none⟩ (.int .i64 T.r)) = v65 at hP qs8_65  ⊢
            clear hw65
            refine wsPlan_done ?_
            clear G6 G7
            have HA := Lib.hid qs8_65
            have HP := Lib.hid hP
            go_wp2_with fail
            go_meet
            exact ⟨_, rfl, HP.out, HA.out⟩
          · skip
            have hxs8 : W3.heap.size ≤ v62.heap.size := hP.size
            (refine wsPlan_only rfl (fun K hK => ?_); replace hK := Lib.hid hK; go_simp; refine hK.out _ _ (hP.alloc hP.size _) (fun hP => ?_); clear hK K)
            generalize hw66 : World.alloc v62 (Obj.cells #[.int .i64 0, .int .i64 0, .int .i64 0, .int .i64 0, .int .i64 0, .int .i64 0, .int .i64 0] 227) = v66 at hP ⊢
            obtain ⟨qs8_66, hb66⟩ := box1 hw66.symm
            clear hw66
            have hzs8 := hb66.size
            have hys8 := hP.size
            (refine wsPlan_only rfl (fun K hK => ?_); replace hK := Lib.hid hK; go_simp; go_at_call 262; (with_reducible refine (dtgrown_any n.a n.b n.c n.d n.e n.f m.r _ NP.out.1 NP.out.2.1 NP.out.2.2.2.1 NP.out.2.2.2.2.1 MP.out.2.2.2.2.2.2 RG.out).mono ?_); rintro z v67 ⟨rfl, hb67⟩; have hP1 := below_step hP hb67; refine hK.out _ _ hP1 (fun hP => ?_); clear hK K hP1)
            have qs8_67 := block_later hb67 qs8_66
            (refine wsPlan_take rfl (fun K hK => ?_); replace hK := Lib.hid hK; go_simp; first | (refine hK.out _ ?_; clear hK K) | (apply Exists.intro; refine ⟨fun w' hw => ?_, hK.out _ ?_⟩; (first | with_reducible exact rfl | (have g6 := G6 w' hw; have g7 := G7 w' hw; go_simp; exact rfl)); clear hK K))
            (refine wsPlan_take rfl (fun K hK => ?_); replace hK := Lib.hid hK; go_simp; first | (refine hK.out _ ?_; clear hK K) | (apply Exists.intro; refine ⟨fun w' hw => ?_, hK.out _ ?_⟩; (first | with_reducible exact rfl | (have g6 := G6 w' hw; have g7 := G7 w' hw; go_simp; exact rfl)); clear hK K))
            (refine wsPlan_take rfl (fun K hK => ?_); replace hK := Lib.hid hK; go_simp; first | (refine hK.out _ ?_; clear hK K) | (apply Exists.intro; refine ⟨fun w' hw => ?_, hK.out _ ?_⟩; (first | with_reducible exact rfl | (have g6 := G6 w' hw; have g7 := G7 w' hw; go_simp; exact rfl)); clear hK K))
            have f9 := free_block qs8_67
            have c9 := cell_block qs8_67
            (refine wsPlan_only rfl (fun K hK => ?_); replace hK := Lib.hid hK; go_simp; refine hK.out _ _ (by with_reducible exact (setM (setM (setM (setM (setM (setM (setM hP hxs8 _) hxs8 _) hxs8 _) hxs8 _) hxs8 _) hxs8 _) hxs8 _)) (fun hP => ?_); clear hK K f9 c9)
            have qs8_68 := (block_set (i := 6) (block_set (i := 5) (block_set (i := 4) (block_set (i := 3) (block_set (i := 2) (block_set (i := 1) (block_set (i := 0) qs8_67 (.int .i64 T.a)) (.int .i64 T.b)) (.int .i64 T.c)) (.int .i64 T.d)) (.int .i64 T.e)) (.int .i64 T.f)) (.int .i64 T.r))
            generalize hw68 : (World.setCell (World.setCell (World.setCell (World.setCell (World.setCell (World.setCell (World.setCell v67 ⟨v62.heap.size, 0, none⟩ (.int .i64 T.a)) ⟨v62.heap.size, 1, none⟩ (.int .i64 T.b)) ⟨v62.heap.size, 2, none⟩ (.int .i64 T.c)) ⟨v62.heap.size, 3, none⟩ (.int .i64 T.d)) ⟨v62.heap.size, 4, none⟩ (.int .i64 T.e)) ⟨v62.heap.size, 5, none⟩ (.int .i64 T.f)) ⟨v62.heap.size, 6, none⟩ (.int .i64 T.r)) = v68 at hP qs8_68  ⊢
            clear hw68
            refine wsPlan_done ?_
            clear G6 G7
            have HA := Lib.hid qs8_68
            have HP := Lib.hid hP
            go_wp2_with fail
            go_meet
            exact ⟨_, rfl, HP.out, HA.out⟩
        · skip
          have hxs8 : W3.heap.size ≤ v61.heap.size := hP.size
          (refine wsPlan_only rfl (fun K hK => ?_); replace hK := Lib.hid hK; go_simp; refine hK.out _ _ (hP.alloc hP.size _) (fun hP => ?_); clear hK K)
          generalize hw69 : World.alloc v61 (Obj.cells #[.int .i64 0, .int .i64 0, .int .i64 0, .int .i64 0, .int .i64 0, .int .i64 0, .int .i64 0] 227) = v69 at hP ⊢
          obtain ⟨qs8_69, hb69⟩ := box1 hw69.symm
          clear hw69
          have hzs8 := hb69.size
          have hys8 := hP.size
          (refine wsPlan_only rfl (fun K hK => ?_); replace hK := Lib.hid hK; go_simp; go_at_call 261; (with_reducible refine (dtafter_any n.d n.e n.f m.a m.b m.c m.d m.e m.f m.r _ NP.out.2.2.2.1 NP.out.2.2.2.2.1 NP.out.2.2.2.2.2.1 MP.out.1 MP.out.2.1 MP.out.2.2.1 MP.out.2.2.2.1 MP.out.2.2.2.2.1 MP.out.2.2.2.2.2.1 RX3.out RX4.out RX5.out).mono ?_); rintro z v70 ⟨rfl, hb70⟩; have hP1 := below_step hP hb70; refine hK.out _ _ hP1 (fun hP => ?_); clear hK K hP1)
          have qs8_70 := block_later hb70 qs8_69
          (refine wsPlan_take rfl (fun K hK => ?_); replace hK := Lib.hid hK; go_simp; first | (refine hK.out _ ?_; clear hK K) | (apply Exists.intro; refine ⟨fun w' hw => ?_, hK.out _ ?_⟩; (first | with_reducible exact rfl | (have g6 := G6 w' hw; have g7 := G7 w' hw; go_simp; exact rfl)); clear hK K))
          (refine wsPlan_only rfl (fun K hK => ?_); replace hK := Lib.hid hK; go_simp; go_at_call 262; (with_reducible refine (dtgrown_any n.a n.b n.c n.d n.e n.f m.r _ NP.out.1 NP.out.2.1 NP.out.2.2.2.1 NP.out.2.2.2.2.1 MP.out.2.2.2.2.2.2 RG.out).mono ?_); rintro z v71 ⟨rfl, hb71⟩; have hP1 := below_step hP hb71; refine hK.out _ _ hP1 (fun hP => ?_); clear hK K hP1)
          have qs8_71 := block_later hb71 qs8_70
          (refine wsPlan_take rfl (fun K hK => ?_); replace hK := Lib.hid hK; go_simp; first | (refine hK.out _ ?_; clear hK K) | (apply Exists.intro; refine ⟨fun w' hw => ?_, hK.out _ ?_⟩; (first | with_reducible exact rfl | (have g6 := G6 w' hw; have g7 := G7 w' hw; go_simp; exact rfl)); clear hK K))
          (refine wsPlan_take rfl (fun K hK => ?_); replace hK := Lib.hid hK; go_simp; first | (refine hK.out _ ?_; clear hK K) | (apply Exists.intro; refine ⟨fun w' hw => ?_, hK.out _ ?_⟩; (first | with_reducible exact rfl | (have g6 := G6 w' hw; have g7 := G7 w' hw; go_simp; exact rfl)); clear hK K))
          (refine wsPlan_take rfl (fun K hK => ?_); replace hK := Lib.hid hK; go_simp; first | (refine hK.out _ ?_; clear hK K) | (apply Exists.intro; refine ⟨fun w' hw => ?_, hK.out _ ?_⟩; (first | with_reducible exact rfl | (have g6 := G6 w' hw; have g7 := G7 w' hw; go_simp; exact rfl)); clear hK K))
          have f9 := free_block qs8_71
          have c9 := cell_block qs8_71
          (refine wsPlan_only rfl (fun K hK => ?_); replace hK := Lib.hid hK; go_simp; refine hK.out _ _ (by with_reducible exact (setM (setM (setM (setM (setM (setM (setM hP hxs8 _) hxs8 _) hxs8 _) hxs8 _) hxs8 _) hxs8 _) hxs8 _)) (fun hP => ?_); clear hK K f9 c9)
          have qs8_72 := (block_set (i := 6) (block_set (i := 5) (block_set (i := 4) (block_set (i := 3) (block_set (i := 2) (block_set (i := 1) (block_set (i := 0) qs8_71 (.int .i64 T.a)) (.int .i64 T.b)) (.int .i64 T.c)) (.int .i64 T.d)) (.int .i64 T.e)) (.int .i64 T.f)) (.int .i64 T.r))
          generalize hw72 : (World.setCell (World.setCell (World.setCell (World.setCell (World.setCell (World.setCell (World.setCell v71 ⟨v61.heap.size, 0, none⟩ (.int .i64 T.a)) ⟨v61.heap.size, 1, none⟩ (.int .i64 T.b)) ⟨v61.heap.size, 2, none⟩ (.int .i64 T.c)) ⟨v61.heap.size, 3, none⟩ (.int .i64 T.d)) ⟨v61.heap.size, 4, none⟩ (.int .i64 T.e)) ⟨v61.heap.size, 5, none⟩ (.int .i64 T.f)) ⟨v61.heap.size, 6, none⟩ (.int .i64 T.r)) = v72 at hP qs8_72  ⊢
          clear hw72
          refine wsPlan_done ?_
          clear G6 G7
          have HA := Lib.hid qs8_72
          have HP := Lib.hid hP
          go_wp2_with fail
          go_meet
          exact ⟨_, rfl, HP.out, HA.out⟩
      · skip
        have hxs8 : W3.heap.size ≤ v60.heap.size := hP.size
        (refine wsPlan_only rfl (fun K hK => ?_); replace hK := Lib.hid hK; go_simp; refine hK.out _ _ (hP.alloc hP.size _) (fun hP => ?_); clear hK K)
        generalize hw73 : World.alloc v60 (Obj.cells #[.int .i64 0, .int .i64 0, .int .i64 0, .int .i64 0, .int .i64 0, .int .i64 0, .int .i64 0] 227) = v73 at hP ⊢
        obtain ⟨qs8_73, hb73⟩ := box1 hw73.symm
        clear hw73
        have hzs8 := hb73.size
        have hys8 := hP.size
        (refine wsPlan_only rfl (fun K hK => ?_); replace hK := Lib.hid hK; go_simp; go_at_call 261; (with_reducible refine (dtafter_any n.a n.b n.c m.a m.b m.c m.d m.e m.f m.r _ NP.out.1 NP.out.2.1 NP.out.2.2.1 MP.out.1 MP.out.2.1 MP.out.2.2.1 MP.out.2.2.2.1 MP.out.2.2.2.2.1 MP.out.2.2.2.2.2.1 RX0.out RX1.out RX2.out).mono ?_); rintro z v74 ⟨rfl, hb74⟩; have hP1 := below_step hP hb74; refine hK.out _ _ hP1 (fun hP => ?_); clear hK K hP1)
        have qs8_74 := block_later hb74 qs8_73
        (refine wsPlan_only rfl (fun K hK => ?_); replace hK := Lib.hid hK; go_simp; go_at_call 261; (with_reducible refine (dtafter_any n.d n.e n.f m.a m.b m.c m.d m.e m.f m.r _ NP.out.2.2.2.1 NP.out.2.2.2.2.1 NP.out.2.2.2.2.2.1 MP.out.1 MP.out.2.1 MP.out.2.2.1 MP.out.2.2.2.1 MP.out.2.2.2.2.1 MP.out.2.2.2.2.2.1 RX3.out RX4.out RX5.out).mono ?_); rintro z v75 ⟨rfl, hb75⟩; have hP1 := below_step hP hb75; refine hK.out _ _ hP1 (fun hP => ?_); clear hK K hP1)
        have qs8_75 := block_later hb75 qs8_74
        (refine wsPlan_take rfl (fun K hK => ?_); replace hK := Lib.hid hK; go_simp; first | (refine hK.out _ ?_; clear hK K) | (apply Exists.intro; refine ⟨fun w' hw => ?_, hK.out _ ?_⟩; (first | with_reducible exact rfl | (have g6 := G6 w' hw; have g7 := G7 w' hw; go_simp; exact rfl)); clear hK K))
        (refine wsPlan_only rfl (fun K hK => ?_); replace hK := Lib.hid hK; go_simp; go_at_call 262; (with_reducible refine (dtgrown_any n.a n.b n.c n.d n.e n.f m.r _ NP.out.1 NP.out.2.1 NP.out.2.2.2.1 NP.out.2.2.2.2.1 MP.out.2.2.2.2.2.2 RG.out).mono ?_); rintro z v76 ⟨rfl, hb76⟩; have hP1 := below_step hP hb76; refine hK.out _ _ hP1 (fun hP => ?_); clear hK K hP1)
        have qs8_76 := block_later hb76 qs8_75
        (refine wsPlan_take rfl (fun K hK => ?_); replace hK := Lib.hid hK; go_simp; first | (refine hK.out _ ?_; clear hK K) | (apply Exists.intro; refine ⟨fun w' hw => ?_, hK.out _ ?_⟩; (first | with_reducible exact rfl | (have g6 := G6 w' hw; have g7 := G7 w' hw; go_simp; exact rfl)); clear hK K))
        (refine wsPlan_take rfl (fun K hK => ?_); replace hK := Lib.hid hK; go_simp; first | (refine hK.out _ ?_; clear hK K) | (apply Exists.intro; refine ⟨fun w' hw => ?_, hK.out _ ?_⟩; (first | with_reducible exact rfl | (have g6 := G6 w' hw; have g7 := G7 w' hw; go_simp; exact rfl)); clear hK K))
        (refine wsPlan_take rfl (fun K hK => ?_); replace hK := Lib.hid hK; go_simp; first | (refine hK.out _ ?_; clear hK K) | (apply Exists.intro; refine ⟨fun w' hw => ?_, hK.out _ ?_⟩; (first | with_reducible exact rfl | (have g6 := G6 w' hw; have g7 := G7 w' hw; go_simp; exact rfl)); clear hK K))
        have f9 := free_block qs8_76
        have c9 := cell_block qs8_76
        (refine wsPlan_only rfl (fun K hK => ?_); replace hK := Lib.hid hK; go_simp; refine hK.out _ _ (by with_reducible exact (setM (setM (setM (setM (setM (setM (setM hP hxs8 _) hxs8 _) hxs8 _) hxs8 _) hxs8 _) hxs8 _) hxs8 _)) (fun hP => ?_); clear hK K f9 c9)
        have qs8_77 := (block_set (i := 6) (block_set (i := 5) (block_set (i := 4) (block_set (i := 3) (block_set (i := 2) (block_set (i := 1) (block_set (i := 0) qs8_76 (.int .i64 T.a)) (.int .i64 T.b)) (.int .i64 T.c)) (.int .i64 T.d)) (.int .i64 T.e)) (.int .i64 T.f)) (.int .i64 T.r))
        generalize hw77 : (World.setCell (World.setCell (World.setCell (World.setCell (World.setCell (World.setCell (World.setCell v76 ⟨v60.heap.size, 0, none⟩ (.int .i64 T.a)) ⟨v60.heap.size, 1, none⟩ (.int .i64 T.b)) ⟨v60.heap.size, 2, none⟩ (.int .i64 T.c)) ⟨v60.heap.size, 3, none⟩ (.int .i64 T.d)) ⟨v60.heap.size, 4, none⟩ (.int .i64 T.e)) ⟨v60.heap.size, 5, none⟩ (.int .i64 T.f)) ⟨v60.heap.size, 6, none⟩ (.int .i64 T.r)) = v77 at hP qs8_77  ⊢
        clear hw77
        refine wsPlan_done ?_
        clear G6 G7
        have HA := Lib.hid qs8_77
        have HP := Lib.hid hP
        go_wp2_with fail
        go_meet
        exact ⟨_, rfl, HP.out, HA.out⟩
    case rest =>
      obtain ⟨g8, rfl, hb4, hq8⟩ := hcut
      obtain ⟨W4, rfl⟩ : ∃ x, x = wc := ⟨_, rfl⟩
      have X4 := Lib.hid (below_step X3.out hb4)
      clear hb4 G6 G7 j1 j2
      have c8 := cell_block hq8
      go_wp2_with fail
      (with_reducible refine (dtwrite_any T _ WR.out).mono ?_)
      rintro e w5 ⟨rfl, hb5⟩
      have r2 := block_later (below_step X4.out hb5) P2.out
      have f2 := free_block r2
      have c2 := cell_block r2
      have R2 := Lib.hid r2
      have hBX := below_step HBW.out (below_step X4.out hb5)
      clear r2
      go_wp2_with fail
      have c9 := cell_block (block_set (i := 6) (block_set (i := 5) (block_set (i := 4) (block_set (i := 3) (block_set (i := 2) (block_set (i := 1) (block_set (i := 0) R2.out (.int .i64 x.a)) (.int .i64 x.b)) (.int .i64 x.c)) (.int .i64 x.d)) (.int .i64 x.e)) (.int .i64 x.f)) (.int .i64 x.r))
      exact bodyPost_ret (v := .tuple #[.agg #[.int .i64 x.a, .int .i64 x.b, .int .i64 x.c, .int .i64 x.d, .int .i64 x.e, .int .i64 x.f, .int .i64 x.r], .int .i64 k]) (by simp [results, Tryz.results171, go_sem, c9]) rfl ⟨rfl, (setM (setM (setM (setM (setM (setM (setM hBX (by omega) _) (by omega) _) (by omega) _) (by omega) _) (by omega) _) (by omega) _) (by omega) _)⟩
end Go.Proofs.YtdmegkkifiahdaaGreat
