import Derived.Test.YtdmegkkifiahdaaGreatPC
namespace Go.Proofs.YtdmegkkifiahdaaGreat
open Go.RowKit
attribute [local go_sem] bqOp bqAll bqUpon sqOp sqAll sqUpon ssAll
attribute [local irreducible] wpQuiet wpBQ wpPlan wsPlan
set_option linter.unusedVariables false
theorem papoly_at (f : Feat) (va vs : Value) (w : World) {v : Bool} (hv : decide (f.kind = 3 ∨ f.kind = 6) = v) (hp : ∃ a n c b m d, va = .slice a n c ∧ vs = .slice b m d) : Calls Tryz.prog 297 #[featV f va vs] w fun e w' => e = .returned (.bool v) ∧ w' = w.alloc (.cells #[.int .i64 f.id, .int .i64 f.kind, .int .i64 f.x, .int .i64 f.y, .int .i64 f.rad, va, .int .i64 f.dep, .int .i64 f.sym, vs] 32 (0, 0)) := by
 obtain ⟨id, kind, x, y, rad, area, dep, sym, secs⟩ := f
 obtain ⟨a, n, c, b, m, d, rfl, rfl⟩ := hp
 simp only at hv
 by_cases k3 : kind = 3
 · subst k3
   obtain rfl : true = v := by simpa using hv
   go_enter Tryz.func297, Tryz.ntmps297
   go_wp2_with fail
   go_returns
   exact ⟨rfl, rfl⟩
 by_cases k6 : kind = 6
 · subst k6
   obtain rfl : true = v := by simpa using hv
   go_enter Tryz.func297, Tryz.ntmps297
   go_wp2_with fail
   go_returns
   exact ⟨rfl, rfl⟩
 have d3 : (kind == 3) = false := by simpa using k3
 have d6 : (kind == 6) = false := by simpa using k6
 obtain rfl : false = v := by rw [← hv]; exact (decide_eq_false (by omega)).symm
 go_enter Tryz.func297, Tryz.ntmps297
 go_wp2_with fail
 go_returns
 exact ⟨rfl, rfl⟩
def chgR (f : Feat) (o : Opn) : Feat × Opn × Int := match chgF f o with
 | none => (f, ⟨o.kind, o.id, noFeat, 0, 0, 0, 0, 0⟩, 12)
 | some g => (g, bakF f o, 0)
abbrev nilV : Value := .slice none 0 0
set_option maxHeartbeats 4000000 in
theorem pachanged_sym4 (kind id oid okind ox oy orad odep osym x y rad dep sym fid fx fy frad fdep fsym : Int) (oarea farea : List (Int × Int)) (osecs fsecs : List Sec) (aa ab ac ae : Option Addr) (n1 n2 n3 n4 ca cb cc ce : Nat) (w : World) (k3 : ¬ kind = 3) (k4 : ¬ kind = 4) :
  Calls Tryz.prog 203 #[featV (⟨fid, 4, fx, fy, frad, farea, fdep, fsym, fsecs⟩ : Feat) (.slice aa n1 ca) (.slice ab n2 cb), opV (⟨kind, id, ⟨oid, okind, ox, oy, orad, oarea, odep, osym, osecs⟩, x, y, rad, dep, sym⟩ : Opn) (.slice ac n3 cc) (.slice ae n4 ce)] w fun e w' => e = .returned (.tuple #[featV (⟨fid, 4, fx, fy, frad, farea, fdep, sym, fsecs⟩ : Feat) (.slice aa n1 ca) (.slice ab n2 cb), opV (⟨kind, id, noFeat, 0, 0, 0, 0, fsym⟩ : Opn) nilV nilV, .int .i64 0]) ∧ Below w.heap.size w w' := by
 have dkind3 : (kind == 3) = false := by simpa using k3
 have dkind4 : (kind == 4) = false := by simpa using k4
 go_enter Tryz.func203, Tryz.ntmps203
 go_wp2_with fail
 refine wp_named fun W hW => ?_
 obtain ⟨p1, p2, p3, p4, p5, hB⟩ := box5 hW
 clear hW
 replace p3 : W.heap[w.heap.size + 1 + 1]? = _ := p3
 replace p4 : W.heap[w.heap.size + 1 + 1 + 1]? = _ := p4
 replace p5 : W.heap[w.heap.size + 1 + 1 + 1 + 1]? = _ := p5
 have F3 : ∀ w', KeepB W w.heap.size [w.heap.size + 1] w' → ∀ i, w'.cell? ⟨w.heap.size + 1, i, none⟩ = #[.int .i64 kind, .int .i64 id, .int .i64 oid, .int .i64 okind, .int .i64 ox, .int .i64 oy, .int .i64 orad, .slice ac n3 cc, .int .i64 odep, .int .i64 osym, .slice ae n4 ce, .int .i64 x, .int .i64 y, .int .i64 rad, .int .i64 dep, .int .i64 sym][i]? := fun w' hw i => cell_block (hw.at (by simp) p2) i
 have c1 := cell_block p1
 have c7 := cell_block p5
 have e1 := free_block p1
 have e7 := free_block p5
 refine wp_region_planS (KeepB W w.heap.size [w.heap.size + 1]) (.take 0 (.take 1 (.take 1 (.only 0 (.take 0 (.only 0 (.take 0 (.only 0 .done)))))))) (by kernel_rfl) (by kernel_rfl) (KeepB.refl) (fun hP => ?_)
 iterate 3 (refine wsPlan_take rfl (fun K hK => ?_); replace hK := Lib.hid hK; go_simp; first | (refine hK.out _ ?_; clear hK K) | (apply Exists.intro; refine ⟨fun w' hw => ?_, hK.out _ ?_⟩; (first | with_reducible exact rfl | (have f3 := F3 w' hw; go_simp; exact rfl)); clear hK K))
 (refine wsPlan_only rfl (fun K hK => ?_); replace hK := Lib.hid hK; go_simp; refine hK.out _ _ (by first | exact hP.setCell (by omega) (by simp <;> omega) _ | exact hP) (fun hP => ?_); clear hK K)
 (refine wsPlan_take rfl (fun K hK => ?_); replace hK := Lib.hid hK; go_simp; first | (refine hK.out _ ?_; clear hK K) | (apply Exists.intro; refine ⟨fun w' hw => ?_, hK.out _ ?_⟩; (first | with_reducible exact rfl | (have f3 := F3 w' hw; go_simp; exact rfl)); clear hK K))
 (refine wsPlan_only rfl (fun K hK => ?_); replace hK := Lib.hid hK; go_simp; refine hK.out _ _ (by first | exact hP.setCell (by omega) (by simp <;> omega) _ | exact hP) (fun hP => ?_); clear hK K)
 (refine wsPlan_take rfl (fun K hK => ?_); replace hK := Lib.hid hK; go_simp; first | (refine hK.out _ ?_; clear hK K) | (apply Exists.intro; refine ⟨fun w' hw => ?_, hK.out _ ?_⟩; (first | with_reducible exact rfl | (have f3 := F3 w' hw; go_simp; exact rfl)); clear hK K))
 (refine wsPlan_only rfl (fun K hK => ?_); replace hK := Lib.hid hK; go_simp; refine hK.out _ _ (by first | exact hP.setCell (by omega) (by simp <;> omega) _ | exact hP) (fun hP => ?_); clear hK K)
 refine wsPlan_done ?_
 go_wp2_with fail
 refine wp_named fun WZ hW => ?_
 have hBZ : Below w.heap.size w WZ := by rw [hW]; exact (hB.drew.setCell (p := ⟨_, _, none⟩) (by show w.heap.size ≤ w.heap.size + 1 + 1 + 1 + 1; omega) _).setCell (p := ⟨_, _, none⟩) (Nat.le_refl _) _
 have z1 : WZ.heap[w.heap.size]? = some (.cells #[.int .i64 fid, .int .i64 4, .int .i64 fx, .int .i64 fy, .int .i64 frad, .slice aa n1 ca, .int .i64 fdep, .int .i64 sym, .slice ab n2 cb] 32 (0, 0)) := by rw [hW]; exact block_set ((Below.heap_setCell _ _ _ _ (show w.heap.size ≠ w.heap.size + 1 + 1 + 1 + 1 by omega)).trans p1) _
 have z5 : WZ.heap[w.heap.size + 1 + 1 + 1 + 1]? = some (.cells #[.int .i64 kind, .int .i64 id, .int .i64 0, .int .i64 0, .int .i64 0, .int .i64 0, .int .i64 0, nilV, .int .i64 0, .int .i64 0, nilV, .int .i64 0, .int .i64 0, .int .i64 0, .int .i64 0, .int .i64 fsym] 34 (0, 0)) := by rw [hW]; exact (Below.heap_setCell _ _ _ _ (show w.heap.size + 1 + 1 + 1 + 1 ≠ w.heap.size by omega)).trans (block_set p5 _)
 have z3 := (congrArg (fun X : World => X.heap[w.heap.size + 1 + 1]?) hW).trans <| (Below.heap_setCell _ _ _ _ (show w.heap.size + 1 + 1 ≠ w.heap.size by omega)).trans ((Below.heap_setCell _ _ _ _ (show w.heap.size + 1 + 1 ≠ w.heap.size + 1 + 1 + 1 + 1 by omega)).trans p3)
 have z4 := (congrArg (fun X : World => X.heap[w.heap.size + 1 + 1 + 1]?) hW).trans <| (Below.heap_setCell _ _ _ _ (show w.heap.size + 1 + 1 + 1 ≠ w.heap.size by omega)).trans ((Below.heap_setCell _ _ _ _ (show w.heap.size + 1 + 1 + 1 ≠ w.heap.size + 1 + 1 + 1 + 1 by omega)).trans p4)
 replace z3 : WZ.heap[w.heap.size + 1 + 1]? = _ := z3
 replace z4 : WZ.heap[w.heap.size + 1 + 1 + 1]? = _ := z4
 clear hW c1 c7 e1 e7 F3 p1 p3 p4 p5 hB
 have p1 := z1
 have p3 := z3
 have p4 := z4
 have p5 := z5
 have hB := hBZ
 clear z1 z3 z4 z5 hBZ
 have p3d : WZ.drew.heap[w.heap.size + 1 + 1]? = _ := p3
 have p4d : ∀ cs, (WZ.drew.setRow (w.heap.size + 1 + 1) cs).heap[w.heap.size + 1 + 1 + 1]? = _ := fun cs => (setRow_other _ _ _ cs (by omega)).trans p4
 refine wp_region_planS (KeepB WZ w.heap.size [w.heap.size, w.heap.size + 1 + 1 + 1 + 1]) (.take 0 (.take 0 (.only 0 (.only 0 (.take 0 .done))))) (by kernel_rfl) (by kernel_rfl) KeepB.refl (fun hP => ?_)
 refine ws_load rfl rfl _ _ rfl _ rfl _ _ _ _ (fun w' hw => hw.at (by simp) p1) Tryz.underlying32 rfl (by kernel_rfl) ?_
 refine ws_load rfl rfl _ _ rfl _ rfl _ _ _ _ (fun w' hw => hw.at (by simp) p5) Tryz.underlying34 rfl (by kernel_rfl) ?_
 refine ws_store rfl rfl _ _ _ rfl _ (#[.int .i64 fid, .int .i64 4, .int .i64 fx, .int .i64 fy, .int .i64 frad, .slice aa n1 ca, .int .i64 fdep, .int .i64 sym, .slice ab n2 cb]) rfl rfl _ _ (p3d) (by kernel_rfl) (by kernel_rfl) (by kernel_rfl) (KeepB.setRow (by exact hP) (by omega) (by simp <;> omega) _) ?_
 refine ws_store rfl rfl _ _ _ rfl _ (#[.int .i64 kind, .int .i64 id, .int .i64 0, .int .i64 0, .int .i64 0, .int .i64 0, .int .i64 0, nilV, .int .i64 0, .int .i64 0, nilV, .int .i64 0, .int .i64 0, .int .i64 0, .int .i64 0, .int .i64 fsym]) rfl rfl _ _ (p4d _) (by kernel_rfl) (by kernel_rfl) (by kernel_rfl) (KeepB.setRow (by exact hP.setRow (by omega) (by simp <;> omega) _) (by omega) (by simp <;> omega) _) ?_
 refine ws_assign rfl rfl _ rfl _ rfl ?_
 refine wsPlan_done ?_
 simp only [Act.put, List.setIfInBounds_toArray, List.set_cons_zero, List.set_cons_succ]
 go_wp2_with fail
 refine body_named fun WR hW => ?_
 have q4 := (congrArg (fun X : World => X.heap[w.heap.size + 1 + 1]?) hW).trans ((setRow_other _ _ _ _ (by omega)).trans (setRow_heap _ _ _ _ _ _ p3d))
 replace q4 : WR.heap[w.heap.size + 1 + 1]? = _ := q4
 have q5 := (congrArg (fun X : World => X.heap[w.heap.size + 1 + 1 + 1]?) hW).trans (setRow_heap _ _ _ _ _ _ (p4d _))
 replace q5 : WR.heap[w.heap.size + 1 + 1 + 1]? = _ := q5
 have hR : Below w.heap.size w WR := by rw [hW]; exact below_setRow (below_setRow hB.drew (by omega) _) (by omega) _
 clear hW
 exact bodyPost_ret (v := .tuple #[featV (⟨fid, 4, fx, fy, frad, farea, fdep, sym, fsecs⟩ : Feat) (.slice aa n1 ca) (.slice ab n2 cb), opV (⟨kind, id, noFeat, 0, 0, 0, 0, fsym⟩ : Opn) nilV nilV, .int .i64 0]) (results_cct rfl _ _ _ _ _ _ _ _ _ _ _ _ _ rfl rfl rfl q4 q5 Tryz.underlying32 rfl (by kernel_rfl) Tryz.underlying34 rfl (by kernel_rfl)) rfl ⟨rfl, hR⟩
set_option maxHeartbeats 4000000 in
theorem pachanged_sym (kind id oid okind ox oy orad odep osym x y rad dep sym fid fk fx fy frad fdep fsym : Int) (oarea farea : List (Int × Int)) (osecs fsecs : List Sec) (aa ab ac ae : Option Addr) (n1 n2 n3 n4 ca cb cc ce : Nat) (w : World) (k3 : ¬ kind = 3) (k4 : ¬ kind = 4) (f4 : ¬ fk = 4) :
  Calls Tryz.prog 203 #[featV (⟨fid, fk, fx, fy, frad, farea, fdep, fsym, fsecs⟩ : Feat) (.slice aa n1 ca) (.slice ab n2 cb), opV (⟨kind, id, ⟨oid, okind, ox, oy, orad, oarea, odep, osym, osecs⟩, x, y, rad, dep, sym⟩ : Opn) (.slice ac n3 cc) (.slice ae n4 ce)] w fun e w' => e = .returned (.tuple #[featV (⟨fid, fk, fx, fy, frad, farea, fdep, sym, fsecs⟩ : Feat) (.slice aa n1 ca) (.slice ab n2 cb), opV (⟨kind, id, noFeat, 0, 0, 0, 0, fsym⟩ : Opn) nilV nilV, .int .i64 0]) ∧ Below w.heap.size w w' := by
 have dkind3 : (kind == 3) = false := by simpa using k3
 have dkind4 : (kind == 4) = false := by simpa using k4
 have dfk4 : (fk == 4) = false := by simpa using f4
 go_enter Tryz.func203, Tryz.ntmps203
 go_wp2_with fail
 refine wp_named fun W hW => ?_
 obtain ⟨p1, p2, p3, p4, p5, hB⟩ := box5 hW
 clear hW
 replace p3 : W.heap[w.heap.size + 1 + 1]? = _ := p3
 replace p4 : W.heap[w.heap.size + 1 + 1 + 1]? = _ := p4
 replace p5 : W.heap[w.heap.size + 1 + 1 + 1 + 1]? = _ := p5
 have F3 : ∀ w', KeepB W w.heap.size [w.heap.size + 1] w' → ∀ i, w'.cell? ⟨w.heap.size + 1, i, none⟩ = #[.int .i64 kind, .int .i64 id, .int .i64 oid, .int .i64 okind, .int .i64 ox, .int .i64 oy, .int .i64 orad, .slice ac n3 cc, .int .i64 odep, .int .i64 osym, .slice ae n4 ce, .int .i64 x, .int .i64 y, .int .i64 rad, .int .i64 dep, .int .i64 sym][i]? := fun w' hw i => cell_block (hw.at (by simp) p2) i
 have c1 := cell_block p1
 have c7 := cell_block p5
 have e1 := free_block p1
 have e7 := free_block p5
 refine wp_region_planS (KeepB W w.heap.size [w.heap.size + 1]) (.take 0 (.take 1 (.take 1 (.only 0 (.take 0 (.only 0 (.take 0 (.only 0 .done)))))))) (by kernel_rfl) (by kernel_rfl) (KeepB.refl) (fun hP => ?_)
 iterate 3 (refine wsPlan_take rfl (fun K hK => ?_); replace hK := Lib.hid hK; go_simp; first | (refine hK.out _ ?_; clear hK K) | (apply Exists.intro; refine ⟨fun w' hw => ?_, hK.out _ ?_⟩; (first | with_reducible exact rfl | (have f3 := F3 w' hw; go_simp; exact rfl)); clear hK K))
 (refine wsPlan_only rfl (fun K hK => ?_); replace hK := Lib.hid hK; go_simp; refine hK.out _ _ (by first | exact hP.setCell (by omega) (by simp <;> omega) _ | exact hP) (fun hP => ?_); clear hK K)
 (refine wsPlan_take rfl (fun K hK => ?_); replace hK := Lib.hid hK; go_simp; first | (refine hK.out _ ?_; clear hK K) | (apply Exists.intro; refine ⟨fun w' hw => ?_, hK.out _ ?_⟩; (first | with_reducible exact rfl | (have f3 := F3 w' hw; go_simp; exact rfl)); clear hK K))
 (refine wsPlan_only rfl (fun K hK => ?_); replace hK := Lib.hid hK; go_simp; refine hK.out _ _ (by first | exact hP.setCell (by omega) (by simp <;> omega) _ | exact hP) (fun hP => ?_); clear hK K)
 (refine wsPlan_take rfl (fun K hK => ?_); replace hK := Lib.hid hK; go_simp; first | (refine hK.out _ ?_; clear hK K) | (apply Exists.intro; refine ⟨fun w' hw => ?_, hK.out _ ?_⟩; (first | with_reducible exact rfl | (have f3 := F3 w' hw; go_simp; exact rfl)); clear hK K))
 (refine wsPlan_only rfl (fun K hK => ?_); replace hK := Lib.hid hK; go_simp; refine hK.out _ _ (by first | exact hP.setCell (by omega) (by simp <;> omega) _ | exact hP) (fun hP => ?_); clear hK K)
 refine wsPlan_done ?_
 go_wp2_with fail
 refine wp_named fun WZ hW => ?_
 have hBZ : Below w.heap.size w WZ := by rw [hW]; exact (hB.drew.setCell (p := ⟨_, _, none⟩) (by show w.heap.size ≤ w.heap.size + 1 + 1 + 1 + 1; omega) _).setCell (p := ⟨_, _, none⟩) (Nat.le_refl _) _
 have z1 : WZ.heap[w.heap.size]? = some (.cells #[.int .i64 fid, .int .i64 fk, .int .i64 fx, .int .i64 fy, .int .i64 frad, .slice aa n1 ca, .int .i64 fdep, .int .i64 sym, .slice ab n2 cb] 32 (0, 0)) := by rw [hW]; exact block_set ((Below.heap_setCell _ _ _ _ (show w.heap.size ≠ w.heap.size + 1 + 1 + 1 + 1 by omega)).trans p1) _
 have z5 : WZ.heap[w.heap.size + 1 + 1 + 1 + 1]? = some (.cells #[.int .i64 kind, .int .i64 id, .int .i64 0, .int .i64 0, .int .i64 0, .int .i64 0, .int .i64 0, nilV, .int .i64 0, .int .i64 0, nilV, .int .i64 0, .int .i64 0, .int .i64 0, .int .i64 0, .int .i64 fsym] 34 (0, 0)) := by rw [hW]; exact (Below.heap_setCell _ _ _ _ (show w.heap.size + 1 + 1 + 1 + 1 ≠ w.heap.size by omega)).trans (block_set p5 _)
 have z3 := (congrArg (fun X : World => X.heap[w.heap.size + 1 + 1]?) hW).trans <| (Below.heap_setCell _ _ _ _ (show w.heap.size + 1 + 1 ≠ w.heap.size by omega)).trans ((Below.heap_setCell _ _ _ _ (show w.heap.size + 1 + 1 ≠ w.heap.size + 1 + 1 + 1 + 1 by omega)).trans p3)
 have z4 := (congrArg (fun X : World => X.heap[w.heap.size + 1 + 1 + 1]?) hW).trans <| (Below.heap_setCell _ _ _ _ (show w.heap.size + 1 + 1 + 1 ≠ w.heap.size by omega)).trans ((Below.heap_setCell _ _ _ _ (show w.heap.size + 1 + 1 + 1 ≠ w.heap.size + 1 + 1 + 1 + 1 by omega)).trans p4)
 replace z3 : WZ.heap[w.heap.size + 1 + 1]? = _ := z3
 replace z4 : WZ.heap[w.heap.size + 1 + 1 + 1]? = _ := z4
 clear hW c1 c7 e1 e7 F3 p1 p3 p4 p5 hB
 have p1 := z1
 have p3 := z3
 have p4 := z4
 have p5 := z5
 have hB := hBZ
 clear z1 z3 z4 z5 hBZ
 have p3d : WZ.drew.heap[w.heap.size + 1 + 1]? = _ := p3
 have p4d : ∀ cs, (WZ.drew.setRow (w.heap.size + 1 + 1) cs).heap[w.heap.size + 1 + 1 + 1]? = _ := fun cs => (setRow_other _ _ _ cs (by omega)).trans p4
 refine wp_region_planS (KeepB WZ w.heap.size [w.heap.size, w.heap.size + 1 + 1 + 1 + 1]) (.take 0 (.take 0 (.only 0 (.only 0 (.take 0 .done))))) (by kernel_rfl) (by kernel_rfl) KeepB.refl (fun hP => ?_)
 refine ws_load rfl rfl _ _ rfl _ rfl _ _ _ _ (fun w' hw => hw.at (by simp) p1) Tryz.underlying32 rfl (by kernel_rfl) ?_
 refine ws_load rfl rfl _ _ rfl _ rfl _ _ _ _ (fun w' hw => hw.at (by simp) p5) Tryz.underlying34 rfl (by kernel_rfl) ?_
 refine ws_store rfl rfl _ _ _ rfl _ (#[.int .i64 fid, .int .i64 fk, .int .i64 fx, .int .i64 fy, .int .i64 frad, .slice aa n1 ca, .int .i64 fdep, .int .i64 sym, .slice ab n2 cb]) rfl rfl _ _ (p3d) (by kernel_rfl) (by kernel_rfl) (by kernel_rfl) (KeepB.setRow (by exact hP) (by omega) (by simp <;> omega) _) ?_
 refine ws_store rfl rfl _ _ _ rfl _ (#[.int .i64 kind, .int .i64 id, .int .i64 0, .int .i64 0, .int .i64 0, .int .i64 0, .int .i64 0, nilV, .int .i64 0, .int .i64 0, nilV, .int .i64 0, .int .i64 0, .int .i64 0, .int .i64 0, .int .i64 fsym]) rfl rfl _ _ (p4d _) (by kernel_rfl) (by kernel_rfl) (by kernel_rfl) (KeepB.setRow (by exact hP.setRow (by omega) (by simp <;> omega) _) (by omega) (by simp <;> omega) _) ?_
 refine ws_assign rfl rfl _ rfl _ rfl ?_
 refine wsPlan_done ?_
 simp only [Act.put, List.setIfInBounds_toArray, List.set_cons_zero, List.set_cons_succ]
 go_wp2_with fail
 refine body_named fun WR hW => ?_
 have q4 := (congrArg (fun X : World => X.heap[w.heap.size + 1 + 1]?) hW).trans ((setRow_other _ _ _ _ (by omega)).trans (setRow_heap _ _ _ _ _ _ p3d))
 replace q4 : WR.heap[w.heap.size + 1 + 1]? = _ := q4
 have q5 := (congrArg (fun X : World => X.heap[w.heap.size + 1 + 1 + 1]?) hW).trans (setRow_heap _ _ _ _ _ _ (p4d _))
 replace q5 : WR.heap[w.heap.size + 1 + 1 + 1]? = _ := q5
 have hR : Below w.heap.size w WR := by rw [hW]; exact below_setRow (below_setRow hB.drew (by omega) _) (by omega) _
 clear hW
 exact bodyPost_ret (v := .tuple #[featV (⟨fid, fk, fx, fy, frad, farea, fdep, sym, fsecs⟩ : Feat) (.slice aa n1 ca) (.slice ab n2 cb), opV (⟨kind, id, noFeat, 0, 0, 0, 0, fsym⟩ : Opn) nilV nilV, .int .i64 0]) (results_cct rfl _ _ _ _ _ _ _ _ _ _ _ _ _ rfl rfl rfl q4 q5 Tryz.underlying32 rfl (by kernel_rfl) Tryz.underlying34 rfl (by kernel_rfl)) rfl ⟨rfl, hR⟩
set_option maxHeartbeats 4000000 in
theorem pachanged_dep4 (id oid okind ox oy orad odep osym x y rad dep sym fid fx fy frad fdep fsym : Int) (oarea farea : List (Int × Int)) (osecs fsecs : List Sec) (aa ab ac ae : Option Addr) (n1 n2 n3 n4 ca cb cc ce : Nat) (w : World) :
  Calls Tryz.prog 203 #[featV (⟨fid, 4, fx, fy, frad, farea, fdep, fsym, fsecs⟩ : Feat) (.slice aa n1 ca) (.slice ab n2 cb), opV (⟨4, id, ⟨oid, okind, ox, oy, orad, oarea, odep, osym, osecs⟩, x, y, rad, dep, sym⟩ : Opn) (.slice ac n3 cc) (.slice ae n4 ce)] w fun e w' => e = .returned (.tuple #[featV (⟨fid, 4, fx, fy, frad, farea, fdep, fsym, fsecs⟩ : Feat) (.slice aa n1 ca) (.slice ab n2 cb), opV (⟨4, id, noFeat, 0, 0, 0, 0, 0⟩ : Opn) nilV nilV, .int .i64 12]) ∧ Below w.heap.size w w' := by
 go_enter Tryz.func203, Tryz.ntmps203
 go_wp2_with fail
 refine wp_named fun W hW => ?_
 obtain ⟨p1, p2, p3, p4, p5, hB⟩ := box5 hW
 clear hW
 replace p3 : W.heap[w.heap.size + 1 + 1]? = _ := p3
 replace p4 : W.heap[w.heap.size + 1 + 1 + 1]? = _ := p4
 replace p5 : W.heap[w.heap.size + 1 + 1 + 1 + 1]? = _ := p5
 have p3d : W.drew.heap[w.heap.size + 1 + 1]? = _ := p3
 have p4d : ∀ cs, (W.drew.setRow (w.heap.size + 1 + 1) cs).heap[w.heap.size + 1 + 1 + 1]? = _ := fun cs => (setRow_other _ _ _ cs (by omega)).trans p4
 refine wp_region_planS (KeepB W w.heap.size [w.heap.size, w.heap.size + 1 + 1 + 1 + 1]) (.take 0 (.take 0 (.only 0 (.only 0 (.take 0 .done))))) (by kernel_rfl) (by kernel_rfl) KeepB.refl (fun hP => ?_)
 refine ws_load rfl rfl _ _ rfl _ rfl _ _ _ _ (fun w' hw => hw.at (by simp) p1) Tryz.underlying32 rfl (by kernel_rfl) ?_
 refine ws_load rfl rfl _ _ rfl _ rfl _ _ _ _ (fun w' hw => hw.at (by simp) p5) Tryz.underlying34 rfl (by kernel_rfl) ?_
 refine ws_store rfl rfl _ _ _ rfl _ (#[.int .i64 fid, .int .i64 4, .int .i64 fx, .int .i64 fy, .int .i64 frad, .slice aa n1 ca, .int .i64 fdep, .int .i64 fsym, .slice ab n2 cb]) rfl rfl _ _ (p3d) (by kernel_rfl) (by kernel_rfl) (by kernel_rfl) (KeepB.setRow (by exact hP) (by omega) (by simp <;> omega) _) ?_
 refine ws_store rfl rfl _ _ _ rfl _ (#[.int .i64 4, .int .i64 id, .int .i64 0, .int .i64 0, .int .i64 0, .int .i64 0, .int .i64 0, nilV, .int .i64 0, .int .i64 0, nilV, .int .i64 0, .int .i64 0, .int .i64 0, .int .i64 0, .int .i64 0]) rfl rfl _ _ (p4d _) (by kernel_rfl) (by kernel_rfl) (by kernel_rfl) (KeepB.setRow (by exact hP.setRow (by omega) (by simp <;> omega) _) (by omega) (by simp <;> omega) _) ?_
 refine ws_assign rfl rfl _ rfl _ rfl ?_
 refine wsPlan_done ?_
 simp only [Act.put, List.setIfInBounds_toArray, List.set_cons_zero, List.set_cons_succ]
 go_wp2_with fail
 refine body_named fun WR hW => ?_
 have q4 := (congrArg (fun X : World => X.heap[w.heap.size + 1 + 1]?) hW).trans ((setRow_other _ _ _ _ (by omega)).trans (setRow_heap _ _ _ _ _ _ p3d))
 replace q4 : WR.heap[w.heap.size + 1 + 1]? = _ := q4
 have q5 := (congrArg (fun X : World => X.heap[w.heap.size + 1 + 1 + 1]?) hW).trans (setRow_heap _ _ _ _ _ _ (p4d _))
 replace q5 : WR.heap[w.heap.size + 1 + 1 + 1]? = _ := q5
 have hR : Below w.heap.size w WR := by rw [hW]; exact below_setRow (below_setRow hB.drew (by omega) _) (by omega) _
 clear hW
 exact bodyPost_ret (v := .tuple #[featV (⟨fid, 4, fx, fy, frad, farea, fdep, fsym, fsecs⟩ : Feat) (.slice aa n1 ca) (.slice ab n2 cb), opV (⟨4, id, noFeat, 0, 0, 0, 0, 0⟩ : Opn) nilV nilV, .int .i64 12]) (results_cct rfl _ _ _ _ _ _ _ _ _ _ _ _ _ rfl rfl rfl q4 q5 Tryz.underlying32 rfl (by kernel_rfl) Tryz.underlying34 rfl (by kernel_rfl)) rfl ⟨rfl, hR⟩
set_option maxHeartbeats 4000000 in
theorem pachanged_dep6 (id oid okind ox oy orad odep osym x y rad dep sym fid fx fy frad fdep fsym : Int) (oarea farea : List (Int × Int)) (osecs fsecs : List Sec) (aa ab ac ae : Option Addr) (n1 n2 n3 n4 ca cb cc ce : Nat) (w : World) :
  Calls Tryz.prog 203 #[featV (⟨fid, 6, fx, fy, frad, farea, fdep, fsym, fsecs⟩ : Feat) (.slice aa n1 ca) (.slice ab n2 cb), opV (⟨4, id, ⟨oid, okind, ox, oy, orad, oarea, odep, osym, osecs⟩, x, y, rad, dep, sym⟩ : Opn) (.slice ac n3 cc) (.slice ae n4 ce)] w fun e w' => e = .returned (.tuple #[featV (⟨fid, 6, fx, fy, frad, farea, fdep, fsym, fsecs⟩ : Feat) (.slice aa n1 ca) (.slice ab n2 cb), opV (⟨4, id, noFeat, 0, 0, 0, 0, 0⟩ : Opn) nilV nilV, .int .i64 12]) ∧ Below w.heap.size w w' := by
 go_enter Tryz.func203, Tryz.ntmps203
 go_wp2_with fail
 refine wp_named fun W hW => ?_
 obtain ⟨p1, p2, p3, p4, p5, hB⟩ := box5 hW
 clear hW
 replace p3 : W.heap[w.heap.size + 1 + 1]? = _ := p3
 replace p4 : W.heap[w.heap.size + 1 + 1 + 1]? = _ := p4
 replace p5 : W.heap[w.heap.size + 1 + 1 + 1 + 1]? = _ := p5
 have p3d : W.drew.heap[w.heap.size + 1 + 1]? = _ := p3
 have p4d : ∀ cs, (W.drew.setRow (w.heap.size + 1 + 1) cs).heap[w.heap.size + 1 + 1 + 1]? = _ := fun cs => (setRow_other _ _ _ cs (by omega)).trans p4
 refine wp_region_planS (KeepB W w.heap.size [w.heap.size, w.heap.size + 1 + 1 + 1 + 1]) (.take 0 (.take 0 (.only 0 (.only 0 (.take 0 .done))))) (by kernel_rfl) (by kernel_rfl) KeepB.refl (fun hP => ?_)
 refine ws_load rfl rfl _ _ rfl _ rfl _ _ _ _ (fun w' hw => hw.at (by simp) p1) Tryz.underlying32 rfl (by kernel_rfl) ?_
 refine ws_load rfl rfl _ _ rfl _ rfl _ _ _ _ (fun w' hw => hw.at (by simp) p5) Tryz.underlying34 rfl (by kernel_rfl) ?_
 refine ws_store rfl rfl _ _ _ rfl _ (#[.int .i64 fid, .int .i64 6, .int .i64 fx, .int .i64 fy, .int .i64 frad, .slice aa n1 ca, .int .i64 fdep, .int .i64 fsym, .slice ab n2 cb]) rfl rfl _ _ (p3d) (by kernel_rfl) (by kernel_rfl) (by kernel_rfl) (KeepB.setRow (by exact hP) (by omega) (by simp <;> omega) _) ?_
 refine ws_store rfl rfl _ _ _ rfl _ (#[.int .i64 4, .int .i64 id, .int .i64 0, .int .i64 0, .int .i64 0, .int .i64 0, .int .i64 0, nilV, .int .i64 0, .int .i64 0, nilV, .int .i64 0, .int .i64 0, .int .i64 0, .int .i64 0, .int .i64 0]) rfl rfl _ _ (p4d _) (by kernel_rfl) (by kernel_rfl) (by kernel_rfl) (KeepB.setRow (by exact hP.setRow (by omega) (by simp <;> omega) _) (by omega) (by simp <;> omega) _) ?_
 refine ws_assign rfl rfl _ rfl _ rfl ?_
 refine wsPlan_done ?_
 simp only [Act.put, List.setIfInBounds_toArray, List.set_cons_zero, List.set_cons_succ]
 go_wp2_with fail
 refine body_named fun WR hW => ?_
 have q4 := (congrArg (fun X : World => X.heap[w.heap.size + 1 + 1]?) hW).trans ((setRow_other _ _ _ _ (by omega)).trans (setRow_heap _ _ _ _ _ _ p3d))
 replace q4 : WR.heap[w.heap.size + 1 + 1]? = _ := q4
 have q5 := (congrArg (fun X : World => X.heap[w.heap.size + 1 + 1 + 1]?) hW).trans (setRow_heap _ _ _ _ _ _ (p4d _))
 replace q5 : WR.heap[w.heap.size + 1 + 1 + 1]? = _ := q5
 have hR : Below w.heap.size w WR := by rw [hW]; exact below_setRow (below_setRow hB.drew (by omega) _) (by omega) _
 clear hW
 exact bodyPost_ret (v := .tuple #[featV (⟨fid, 6, fx, fy, frad, farea, fdep, fsym, fsecs⟩ : Feat) (.slice aa n1 ca) (.slice ab n2 cb), opV (⟨4, id, noFeat, 0, 0, 0, 0, 0⟩ : Opn) nilV nilV, .int .i64 12]) (results_cct rfl _ _ _ _ _ _ _ _ _ _ _ _ _ rfl rfl rfl q4 q5 Tryz.underlying32 rfl (by kernel_rfl) Tryz.underlying34 rfl (by kernel_rfl)) rfl ⟨rfl, hR⟩
set_option maxHeartbeats 4000000 in
theorem pachanged_dep (id oid okind ox oy orad odep osym x y rad dep sym fid fk fx fy frad fdep fsym : Int) (oarea farea : List (Int × Int)) (osecs fsecs : List Sec) (aa ab ac ae : Option Addr) (n1 n2 n3 n4 ca cb cc ce : Nat) (w : World) (f4 : ¬ fk = 4) (f6 : ¬ fk = 6) :
  Calls Tryz.prog 203 #[featV (⟨fid, fk, fx, fy, frad, farea, fdep, fsym, fsecs⟩ : Feat) (.slice aa n1 ca) (.slice ab n2 cb), opV (⟨4, id, ⟨oid, okind, ox, oy, orad, oarea, odep, osym, osecs⟩, x, y, rad, dep, sym⟩ : Opn) (.slice ac n3 cc) (.slice ae n4 ce)] w fun e w' => e = .returned (.tuple #[featV (⟨fid, fk, fx, fy, frad, farea, dep, fsym, fsecs⟩ : Feat) (.slice aa n1 ca) (.slice ab n2 cb), opV (⟨4, id, noFeat, 0, 0, 0, fdep, 0⟩ : Opn) nilV nilV, .int .i64 0]) ∧ Below w.heap.size w w' := by
 have dfk4 : (fk == 4) = false := by simpa using f4
 have dfk6 : (fk == 6) = false := by simpa using f6
 go_enter Tryz.func203, Tryz.ntmps203
 go_wp2_with fail
 refine wp_named fun W hW => ?_
 obtain ⟨p1, p2, p3, p4, p5, hB⟩ := box5 hW
 clear hW
 replace p3 : W.heap[w.heap.size + 1 + 1]? = _ := p3
 replace p4 : W.heap[w.heap.size + 1 + 1 + 1]? = _ := p4
 replace p5 : W.heap[w.heap.size + 1 + 1 + 1 + 1]? = _ := p5
 have F3 : ∀ w', KeepB W w.heap.size [w.heap.size + 1] w' → ∀ i, w'.cell? ⟨w.heap.size + 1, i, none⟩ = #[.int .i64 4, .int .i64 id, .int .i64 oid, .int .i64 okind, .int .i64 ox, .int .i64 oy, .int .i64 orad, .slice ac n3 cc, .int .i64 odep, .int .i64 osym, .slice ae n4 ce, .int .i64 x, .int .i64 y, .int .i64 rad, .int .i64 dep, .int .i64 sym][i]? := fun w' hw i => cell_block (hw.at (by simp) p2) i
 have c1 := cell_block p1
 have c7 := cell_block p5
 have e1 := free_block p1
 have e7 := free_block p5
 refine wp_region_planS (KeepB W w.heap.size [w.heap.size + 1]) (.take 0 (.take 1 (.take 1 (.only 0 (.take 0 (.only 0 (.take 0 (.only 0 .done)))))))) (by kernel_rfl) (by kernel_rfl) (KeepB.refl) (fun hP => ?_)
 iterate 3 (refine wsPlan_take rfl (fun K hK => ?_); replace hK := Lib.hid hK; go_simp; first | (refine hK.out _ ?_; clear hK K) | (apply Exists.intro; refine ⟨fun w' hw => ?_, hK.out _ ?_⟩; (first | with_reducible exact rfl | (have f3 := F3 w' hw; go_simp; exact rfl)); clear hK K))
 (refine wsPlan_only rfl (fun K hK => ?_); replace hK := Lib.hid hK; go_simp; refine hK.out _ _ (by first | exact hP.setCell (by omega) (by simp <;> omega) _ | exact hP) (fun hP => ?_); clear hK K)
 (refine wsPlan_take rfl (fun K hK => ?_); replace hK := Lib.hid hK; go_simp; first | (refine hK.out _ ?_; clear hK K) | (apply Exists.intro; refine ⟨fun w' hw => ?_, hK.out _ ?_⟩; (first | with_reducible exact rfl | (have f3 := F3 w' hw; go_simp; exact rfl)); clear hK K))
 (refine wsPlan_only rfl (fun K hK => ?_); replace hK := Lib.hid hK; go_simp; refine hK.out _ _ (by first | exact hP.setCell (by omega) (by simp <;> omega) _ | exact hP) (fun hP => ?_); clear hK K)
 (refine wsPlan_take rfl (fun K hK => ?_); replace hK := Lib.hid hK; go_simp; first | (refine hK.out _ ?_; clear hK K) | (apply Exists.intro; refine ⟨fun w' hw => ?_, hK.out _ ?_⟩; (first | with_reducible exact rfl | (have f3 := F3 w' hw; go_simp; exact rfl)); clear hK K))
 (refine wsPlan_only rfl (fun K hK => ?_); replace hK := Lib.hid hK; go_simp; refine hK.out _ _ (by first | exact hP.setCell (by omega) (by simp <;> omega) _ | exact hP) (fun hP => ?_); clear hK K)
 refine wsPlan_done ?_
 go_wp2_with fail
 refine wp_named fun WZ hW => ?_
 have hBZ : Below w.heap.size w WZ := by rw [hW]; exact (hB.drew.setCell (p := ⟨_, _, none⟩) (by show w.heap.size ≤ w.heap.size + 1 + 1 + 1 + 1; omega) _).setCell (p := ⟨_, _, none⟩) (Nat.le_refl _) _
 have z1 : WZ.heap[w.heap.size]? = some (.cells #[.int .i64 fid, .int .i64 fk, .int .i64 fx, .int .i64 fy, .int .i64 frad, .slice aa n1 ca, .int .i64 dep, .int .i64 fsym, .slice ab n2 cb] 32 (0, 0)) := by rw [hW]; exact block_set ((Below.heap_setCell _ _ _ _ (show w.heap.size ≠ w.heap.size + 1 + 1 + 1 + 1 by omega)).trans p1) _
 have z5 : WZ.heap[w.heap.size + 1 + 1 + 1 + 1]? = some (.cells #[.int .i64 4, .int .i64 id, .int .i64 0, .int .i64 0, .int .i64 0, .int .i64 0, .int .i64 0, nilV, .int .i64 0, .int .i64 0, nilV, .int .i64 0, .int .i64 0, .int .i64 0, .int .i64 fdep, .int .i64 0] 34 (0, 0)) := by rw [hW]; exact (Below.heap_setCell _ _ _ _ (show w.heap.size + 1 + 1 + 1 + 1 ≠ w.heap.size by omega)).trans (block_set p5 _)
 have z3 := (congrArg (fun X : World => X.heap[w.heap.size + 1 + 1]?) hW).trans <| (Below.heap_setCell _ _ _ _ (show w.heap.size + 1 + 1 ≠ w.heap.size by omega)).trans ((Below.heap_setCell _ _ _ _ (show w.heap.size + 1 + 1 ≠ w.heap.size + 1 + 1 + 1 + 1 by omega)).trans p3)
 have z4 := (congrArg (fun X : World => X.heap[w.heap.size + 1 + 1 + 1]?) hW).trans <| (Below.heap_setCell _ _ _ _ (show w.heap.size + 1 + 1 + 1 ≠ w.heap.size by omega)).trans ((Below.heap_setCell _ _ _ _ (show w.heap.size + 1 + 1 + 1 ≠ w.heap.size + 1 + 1 + 1 + 1 by omega)).trans p4)
 replace z3 : WZ.heap[w.heap.size + 1 + 1]? = _ := z3
 replace z4 : WZ.heap[w.heap.size + 1 + 1 + 1]? = _ := z4
 clear hW c1 c7 e1 e7 F3 p1 p3 p4 p5 hB
 have p1 := z1
 have p3 := z3
 have p4 := z4
 have p5 := z5
 have hB := hBZ
 clear z1 z3 z4 z5 hBZ
 have p3d : WZ.drew.heap[w.heap.size + 1 + 1]? = _ := p3
 have p4d : ∀ cs, (WZ.drew.setRow (w.heap.size + 1 + 1) cs).heap[w.heap.size + 1 + 1 + 1]? = _ := fun cs => (setRow_other _ _ _ cs (by omega)).trans p4
 refine wp_region_planS (KeepB WZ w.heap.size [w.heap.size, w.heap.size + 1 + 1 + 1 + 1]) (.take 0 (.take 0 (.only 0 (.only 0 (.take 0 .done))))) (by kernel_rfl) (by kernel_rfl) KeepB.refl (fun hP => ?_)
 refine ws_load rfl rfl _ _ rfl _ rfl _ _ _ _ (fun w' hw => hw.at (by simp) p1) Tryz.underlying32 rfl (by kernel_rfl) ?_
 refine ws_load rfl rfl _ _ rfl _ rfl _ _ _ _ (fun w' hw => hw.at (by simp) p5) Tryz.underlying34 rfl (by kernel_rfl) ?_
 refine ws_store rfl rfl _ _ _ rfl _ (#[.int .i64 fid, .int .i64 fk, .int .i64 fx, .int .i64 fy, .int .i64 frad, .slice aa n1 ca, .int .i64 dep, .int .i64 fsym, .slice ab n2 cb]) rfl rfl _ _ (p3d) (by kernel_rfl) (by kernel_rfl) (by kernel_rfl) (KeepB.setRow (by exact hP) (by omega) (by simp <;> omega) _) ?_
 refine ws_store rfl rfl _ _ _ rfl _ (#[.int .i64 4, .int .i64 id, .int .i64 0, .int .i64 0, .int .i64 0, .int .i64 0, .int .i64 0, nilV, .int .i64 0, .int .i64 0, nilV, .int .i64 0, .int .i64 0, .int .i64 0, .int .i64 fdep, .int .i64 0]) rfl rfl _ _ (p4d _) (by kernel_rfl) (by kernel_rfl) (by kernel_rfl) (KeepB.setRow (by exact hP.setRow (by omega) (by simp <;> omega) _) (by omega) (by simp <;> omega) _) ?_
 refine ws_assign rfl rfl _ rfl _ rfl ?_
 refine wsPlan_done ?_
 simp only [Act.put, List.setIfInBounds_toArray, List.set_cons_zero, List.set_cons_succ]
 go_wp2_with fail
 refine body_named fun WR hW => ?_
 have q4 := (congrArg (fun X : World => X.heap[w.heap.size + 1 + 1]?) hW).trans ((setRow_other _ _ _ _ (by omega)).trans (setRow_heap _ _ _ _ _ _ p3d))
 replace q4 : WR.heap[w.heap.size + 1 + 1]? = _ := q4
 have q5 := (congrArg (fun X : World => X.heap[w.heap.size + 1 + 1 + 1]?) hW).trans (setRow_heap _ _ _ _ _ _ (p4d _))
 replace q5 : WR.heap[w.heap.size + 1 + 1 + 1]? = _ := q5
 have hR : Below w.heap.size w WR := by rw [hW]; exact below_setRow (below_setRow hB.drew (by omega) _) (by omega) _
 clear hW
 exact bodyPost_ret (v := .tuple #[featV (⟨fid, fk, fx, fy, frad, farea, dep, fsym, fsecs⟩ : Feat) (.slice aa n1 ca) (.slice ab n2 cb), opV (⟨4, id, noFeat, 0, 0, 0, fdep, 0⟩ : Opn) nilV nilV, .int .i64 0]) (results_cct rfl _ _ _ _ _ _ _ _ _ _ _ _ _ rfl rfl rfl q4 q5 Tryz.underlying32 rfl (by kernel_rfl) Tryz.underlying34 rfl (by kernel_rfl)) rfl ⟨rfl, hR⟩
set_option maxHeartbeats 4000000 in
theorem pachanged_mov3 (id oid okind ox oy orad odep osym x y rad dep sym fid fx fy frad fdep fsym : Int) (oarea farea : List (Int × Int)) (osecs fsecs : List Sec) (aa ab ac ae : Option Addr) (n1 n2 n3 n4 ca cb cc ce : Nat) (w : World) :
  Calls Tryz.prog 203 #[featV (⟨fid, 3, fx, fy, frad, farea, fdep, fsym, fsecs⟩ : Feat) (.slice aa n1 ca) (.slice ab n2 cb), opV (⟨3, id, ⟨oid, okind, ox, oy, orad, oarea, odep, osym, osecs⟩, x, y, rad, dep, sym⟩ : Opn) (.slice ac n3 cc) (.slice ae n4 ce)] w fun e w' => e = .returned (.tuple #[featV (⟨fid, 3, fx, fy, frad, farea, fdep, fsym, fsecs⟩ : Feat) (.slice aa n1 ca) (.slice ab n2 cb), opV (⟨3, id, noFeat, 0, 0, 0, 0, 0⟩ : Opn) nilV nilV, .int .i64 12]) ∧ Below w.heap.size w w' := by
 go_enter Tryz.func203, Tryz.ntmps203
 go_wp2_with (go_at_call 297; refine (papoly_at (⟨fid, 3, fx, fy, frad, farea, fdep, fsym, fsecs⟩ : Feat) _ _ _ (v := true) (by simp) ⟨_, _, _, _, _, _, rfl, rfl⟩).mono ?_; rintro e w1 ⟨rfl, rfl⟩)
 refine wp_named fun W hW => ?_
 obtain ⟨p1, p2, p3, p4, p5, p6, hB⟩ := box6 hW
 clear hW
 replace p3 : W.heap[w.heap.size + 1 + 1]? = _ := p3
 replace p4 : W.heap[w.heap.size + 1 + 1 + 1]? = _ := p4
 replace p5 : W.heap[w.heap.size + 1 + 1 + 1 + 1]? = _ := p5
 have p3d : W.drew.heap[w.heap.size + 1 + 1]? = _ := p3
 have p4d : ∀ cs, (W.drew.setRow (w.heap.size + 1 + 1) cs).heap[w.heap.size + 1 + 1 + 1]? = _ := fun cs => (setRow_other _ _ _ cs (by omega)).trans p4
 refine wp_region_planS (KeepB W w.heap.size [w.heap.size, w.heap.size + 1 + 1 + 1 + 1]) (.take 0 (.take 0 (.only 0 (.only 0 (.take 0 .done))))) (by kernel_rfl) (by kernel_rfl) KeepB.refl (fun hP => ?_)
 refine ws_load rfl rfl _ _ rfl _ rfl _ _ _ _ (fun w' hw => hw.at (by simp) p1) Tryz.underlying32 rfl (by kernel_rfl) ?_
 refine ws_load rfl rfl _ _ rfl _ rfl _ _ _ _ (fun w' hw => hw.at (by simp) p5) Tryz.underlying34 rfl (by kernel_rfl) ?_
 refine ws_store rfl rfl _ _ _ rfl _ (#[.int .i64 fid, .int .i64 3, .int .i64 fx, .int .i64 fy, .int .i64 frad, .slice aa n1 ca, .int .i64 fdep, .int .i64 fsym, .slice ab n2 cb]) rfl rfl _ _ (p3d) (by kernel_rfl) (by kernel_rfl) (by kernel_rfl) (KeepB.setRow (by exact hP) (by omega) (by simp <;> omega) _) ?_
 refine ws_store rfl rfl _ _ _ rfl _ (#[.int .i64 3, .int .i64 id, .int .i64 0, .int .i64 0, .int .i64 0, .int .i64 0, .int .i64 0, nilV, .int .i64 0, .int .i64 0, nilV, .int .i64 0, .int .i64 0, .int .i64 0, .int .i64 0, .int .i64 0]) rfl rfl _ _ (p4d _) (by kernel_rfl) (by kernel_rfl) (by kernel_rfl) (KeepB.setRow (by exact hP.setRow (by omega) (by simp <;> omega) _) (by omega) (by simp <;> omega) _) ?_
 refine ws_assign rfl rfl _ rfl _ rfl ?_
 refine wsPlan_done ?_
 simp only [Act.put, List.setIfInBounds_toArray, List.set_cons_zero, List.set_cons_succ]
 go_wp2_with fail
 refine body_named fun WR hW => ?_
 have q4 := (congrArg (fun X : World => X.heap[w.heap.size + 1 + 1]?) hW).trans ((setRow_other _ _ _ _ (by omega)).trans (setRow_heap _ _ _ _ _ _ p3d))
 replace q4 : WR.heap[w.heap.size + 1 + 1]? = _ := q4
 have q5 := (congrArg (fun X : World => X.heap[w.heap.size + 1 + 1 + 1]?) hW).trans (setRow_heap _ _ _ _ _ _ (p4d _))
 replace q5 : WR.heap[w.heap.size + 1 + 1 + 1]? = _ := q5
 have hR : Below w.heap.size w WR := by rw [hW]; exact below_setRow (below_setRow hB.drew (by omega) _) (by omega) _
 clear hW
 exact bodyPost_ret (v := .tuple #[featV (⟨fid, 3, fx, fy, frad, farea, fdep, fsym, fsecs⟩ : Feat) (.slice aa n1 ca) (.slice ab n2 cb), opV (⟨3, id, noFeat, 0, 0, 0, 0, 0⟩ : Opn) nilV nilV, .int .i64 12]) (results_cct rfl _ _ _ _ _ _ _ _ _ _ _ _ _ rfl rfl rfl q4 q5 Tryz.underlying32 rfl (by kernel_rfl) Tryz.underlying34 rfl (by kernel_rfl)) rfl ⟨rfl, hR⟩
set_option maxHeartbeats 4000000 in
theorem pachanged_mov6 (id oid okind ox oy orad odep osym x y rad dep sym fid fx fy frad fdep fsym : Int) (oarea farea : List (Int × Int)) (osecs fsecs : List Sec) (aa ab ac ae : Option Addr) (n1 n2 n3 n4 ca cb cc ce : Nat) (w : World) :
  Calls Tryz.prog 203 #[featV (⟨fid, 6, fx, fy, frad, farea, fdep, fsym, fsecs⟩ : Feat) (.slice aa n1 ca) (.slice ab n2 cb), opV (⟨3, id, ⟨oid, okind, ox, oy, orad, oarea, odep, osym, osecs⟩, x, y, rad, dep, sym⟩ : Opn) (.slice ac n3 cc) (.slice ae n4 ce)] w fun e w' => e = .returned (.tuple #[featV (⟨fid, 6, fx, fy, frad, farea, fdep, fsym, fsecs⟩ : Feat) (.slice aa n1 ca) (.slice ab n2 cb), opV (⟨3, id, noFeat, 0, 0, 0, 0, 0⟩ : Opn) nilV nilV, .int .i64 12]) ∧ Below w.heap.size w w' := by
 go_enter Tryz.func203, Tryz.ntmps203
 go_wp2_with (go_at_call 297; refine (papoly_at (⟨fid, 6, fx, fy, frad, farea, fdep, fsym, fsecs⟩ : Feat) _ _ _ (v := true) (by simp) ⟨_, _, _, _, _, _, rfl, rfl⟩).mono ?_; rintro e w1 ⟨rfl, rfl⟩)
 refine wp_named fun W hW => ?_
 obtain ⟨p1, p2, p3, p4, p5, p6, hB⟩ := box6 hW
 clear hW
 replace p3 : W.heap[w.heap.size + 1 + 1]? = _ := p3
 replace p4 : W.heap[w.heap.size + 1 + 1 + 1]? = _ := p4
 replace p5 : W.heap[w.heap.size + 1 + 1 + 1 + 1]? = _ := p5
 have p3d : W.drew.heap[w.heap.size + 1 + 1]? = _ := p3
 have p4d : ∀ cs, (W.drew.setRow (w.heap.size + 1 + 1) cs).heap[w.heap.size + 1 + 1 + 1]? = _ := fun cs => (setRow_other _ _ _ cs (by omega)).trans p4
 refine wp_region_planS (KeepB W w.heap.size [w.heap.size, w.heap.size + 1 + 1 + 1 + 1]) (.take 0 (.take 0 (.only 0 (.only 0 (.take 0 .done))))) (by kernel_rfl) (by kernel_rfl) KeepB.refl (fun hP => ?_)
 refine ws_load rfl rfl _ _ rfl _ rfl _ _ _ _ (fun w' hw => hw.at (by simp) p1) Tryz.underlying32 rfl (by kernel_rfl) ?_
 refine ws_load rfl rfl _ _ rfl _ rfl _ _ _ _ (fun w' hw => hw.at (by simp) p5) Tryz.underlying34 rfl (by kernel_rfl) ?_
 refine ws_store rfl rfl _ _ _ rfl _ (#[.int .i64 fid, .int .i64 6, .int .i64 fx, .int .i64 fy, .int .i64 frad, .slice aa n1 ca, .int .i64 fdep, .int .i64 fsym, .slice ab n2 cb]) rfl rfl _ _ (p3d) (by kernel_rfl) (by kernel_rfl) (by kernel_rfl) (KeepB.setRow (by exact hP) (by omega) (by simp <;> omega) _) ?_
 refine ws_store rfl rfl _ _ _ rfl _ (#[.int .i64 3, .int .i64 id, .int .i64 0, .int .i64 0, .int .i64 0, .int .i64 0, .int .i64 0, nilV, .int .i64 0, .int .i64 0, nilV, .int .i64 0, .int .i64 0, .int .i64 0, .int .i64 0, .int .i64 0]) rfl rfl _ _ (p4d _) (by kernel_rfl) (by kernel_rfl) (by kernel_rfl) (KeepB.setRow (by exact hP.setRow (by omega) (by simp <;> omega) _) (by omega) (by simp <;> omega) _) ?_
 refine ws_assign rfl rfl _ rfl _ rfl ?_
 refine wsPlan_done ?_
 simp only [Act.put, List.setIfInBounds_toArray, List.set_cons_zero, List.set_cons_succ]
 go_wp2_with fail
 refine body_named fun WR hW => ?_
 have q4 := (congrArg (fun X : World => X.heap[w.heap.size + 1 + 1]?) hW).trans ((setRow_other _ _ _ _ (by omega)).trans (setRow_heap _ _ _ _ _ _ p3d))
 replace q4 : WR.heap[w.heap.size + 1 + 1]? = _ := q4
 have q5 := (congrArg (fun X : World => X.heap[w.heap.size + 1 + 1 + 1]?) hW).trans (setRow_heap _ _ _ _ _ _ (p4d _))
 replace q5 : WR.heap[w.heap.size + 1 + 1 + 1]? = _ := q5
 have hR : Below w.heap.size w WR := by rw [hW]; exact below_setRow (below_setRow hB.drew (by omega) _) (by omega) _
 clear hW
 exact bodyPost_ret (v := .tuple #[featV (⟨fid, 6, fx, fy, frad, farea, fdep, fsym, fsecs⟩ : Feat) (.slice aa n1 ca) (.slice ab n2 cb), opV (⟨3, id, noFeat, 0, 0, 0, 0, 0⟩ : Opn) nilV nilV, .int .i64 12]) (results_cct rfl _ _ _ _ _ _ _ _ _ _ _ _ _ rfl rfl rfl q4 q5 Tryz.underlying32 rfl (by kernel_rfl) Tryz.underlying34 rfl (by kernel_rfl)) rfl ⟨rfl, hR⟩
set_option maxHeartbeats 4000000 in
theorem pachanged_mov4 (id oid okind ox oy orad odep osym x y rad dep sym fid fx fy frad fdep fsym : Int) (oarea farea : List (Int × Int)) (osecs fsecs : List Sec) (aa ab ac ae : Option Addr) (n1 n2 n3 n4 ca cb cc ce : Nat) (w : World) (hr : ¬ rad = 0) :
  Calls Tryz.prog 203 #[featV (⟨fid, 4, fx, fy, frad, farea, fdep, fsym, fsecs⟩ : Feat) (.slice aa n1 ca) (.slice ab n2 cb), opV (⟨3, id, ⟨oid, okind, ox, oy, orad, oarea, odep, osym, osecs⟩, x, y, rad, dep, sym⟩ : Opn) (.slice ac n3 cc) (.slice ae n4 ce)] w fun e w' => e = .returned (.tuple #[featV (⟨fid, 4, fx, fy, frad, farea, fdep, fsym, fsecs⟩ : Feat) (.slice aa n1 ca) (.slice ab n2 cb), opV (⟨3, id, noFeat, 0, 0, 0, 0, 0⟩ : Opn) nilV nilV, .int .i64 12]) ∧ Below w.heap.size w w' := by
 have dr : (rad == 0) = false := by simpa using hr
 have dr2 : (rad != 0) = true := by simpa using hr
 go_enter Tryz.func203, Tryz.ntmps203
 go_wp2_with (go_at_call 297; refine (papoly_at (⟨fid, 4, fx, fy, frad, farea, fdep, fsym, fsecs⟩ : Feat) _ _ _ (v := false) (by simp) ⟨_, _, _, _, _, _, rfl, rfl⟩).mono ?_; rintro e w1 ⟨rfl, rfl⟩)
 refine wp_named fun W hW => ?_
 obtain ⟨p1, p2, p3, p4, p5, p6, hB⟩ := box6 hW
 clear hW
 replace p3 : W.heap[w.heap.size + 1 + 1]? = _ := p3
 replace p4 : W.heap[w.heap.size + 1 + 1 + 1]? = _ := p4
 replace p5 : W.heap[w.heap.size + 1 + 1 + 1 + 1]? = _ := p5
 have p3d : W.drew.heap[w.heap.size + 1 + 1]? = _ := p3
 have p4d : ∀ cs, (W.drew.setRow (w.heap.size + 1 + 1) cs).heap[w.heap.size + 1 + 1 + 1]? = _ := fun cs => (setRow_other _ _ _ cs (by omega)).trans p4
 refine wp_region_planS (KeepB W w.heap.size [w.heap.size, w.heap.size + 1 + 1 + 1 + 1]) (.take 0 (.take 0 (.only 0 (.only 0 (.take 0 .done))))) (by kernel_rfl) (by kernel_rfl) KeepB.refl (fun hP => ?_)
 refine ws_load rfl rfl _ _ rfl _ rfl _ _ _ _ (fun w' hw => hw.at (by simp) p1) Tryz.underlying32 rfl (by kernel_rfl) ?_
 refine ws_load rfl rfl _ _ rfl _ rfl _ _ _ _ (fun w' hw => hw.at (by simp) p5) Tryz.underlying34 rfl (by kernel_rfl) ?_
 refine ws_store rfl rfl _ _ _ rfl _ (#[.int .i64 fid, .int .i64 4, .int .i64 fx, .int .i64 fy, .int .i64 frad, .slice aa n1 ca, .int .i64 fdep, .int .i64 fsym, .slice ab n2 cb]) rfl rfl _ _ (p3d) (by kernel_rfl) (by kernel_rfl) (by kernel_rfl) (KeepB.setRow (by exact hP) (by omega) (by simp <;> omega) _) ?_
 refine ws_store rfl rfl _ _ _ rfl _ (#[.int .i64 3, .int .i64 id, .int .i64 0, .int .i64 0, .int .i64 0, .int .i64 0, .int .i64 0, nilV, .int .i64 0, .int .i64 0, nilV, .int .i64 0, .int .i64 0, .int .i64 0, .int .i64 0, .int .i64 0]) rfl rfl _ _ (p4d _) (by kernel_rfl) (by kernel_rfl) (by kernel_rfl) (KeepB.setRow (by exact hP.setRow (by omega) (by simp <;> omega) _) (by omega) (by simp <;> omega) _) ?_
 refine ws_assign rfl rfl _ rfl _ rfl ?_
 refine wsPlan_done ?_
 simp only [Act.put, List.setIfInBounds_toArray, List.set_cons_zero, List.set_cons_succ]
 go_wp2_with fail
 refine body_named fun WR hW => ?_
 have q4 := (congrArg (fun X : World => X.heap[w.heap.size + 1 + 1]?) hW).trans ((setRow_other _ _ _ _ (by omega)).trans (setRow_heap _ _ _ _ _ _ p3d))
 replace q4 : WR.heap[w.heap.size + 1 + 1]? = _ := q4
 have q5 := (congrArg (fun X : World => X.heap[w.heap.size + 1 + 1 + 1]?) hW).trans (setRow_heap _ _ _ _ _ _ (p4d _))
 replace q5 : WR.heap[w.heap.size + 1 + 1 + 1]? = _ := q5
 have hR : Below w.heap.size w WR := by rw [hW]; exact below_setRow (below_setRow hB.drew (by omega) _) (by omega) _
 clear hW
 exact bodyPost_ret (v := .tuple #[featV (⟨fid, 4, fx, fy, frad, farea, fdep, fsym, fsecs⟩ : Feat) (.slice aa n1 ca) (.slice ab n2 cb), opV (⟨3, id, noFeat, 0, 0, 0, 0, 0⟩ : Opn) nilV nilV, .int .i64 12]) (results_cct rfl _ _ _ _ _ _ _ _ _ _ _ _ _ rfl rfl rfl q4 q5 Tryz.underlying32 rfl (by kernel_rfl) Tryz.underlying34 rfl (by kernel_rfl)) rfl ⟨rfl, hR⟩
set_option maxHeartbeats 4000000 in
theorem pachanged_mov4z (id oid okind ox oy orad odep osym x y rad dep sym fid fx fy frad fdep fsym : Int) (oarea farea : List (Int × Int)) (osecs fsecs : List Sec) (aa ab ac ae : Option Addr) (n1 n2 n3 n4 ca cb cc ce : Nat) (w : World) :
  Calls Tryz.prog 203 #[featV (⟨fid, 4, fx, fy, frad, farea, fdep, fsym, fsecs⟩ : Feat) (.slice aa n1 ca) (.slice ab n2 cb), opV (⟨3, id, ⟨oid, okind, ox, oy, orad, oarea, odep, osym, osecs⟩, x, y, 0, dep, sym⟩ : Opn) (.slice ac n3 cc) (.slice ae n4 ce)] w fun e w' => e = .returned (.tuple #[featV (⟨fid, 4, x, y, 0, farea, fdep, fsym, fsecs⟩ : Feat) (.slice aa n1 ca) (.slice ab n2 cb), opV (⟨3, id, noFeat, fx, fy, frad, 0, 0⟩ : Opn) nilV nilV, .int .i64 0]) ∧ Below w.heap.size w w' := by
 go_enter Tryz.func203, Tryz.ntmps203
 go_wp2_with (go_at_call 297; refine (papoly_at (⟨fid, 4, fx, fy, frad, farea, fdep, fsym, fsecs⟩ : Feat) _ _ _ (v := false) (by simp) ⟨_, _, _, _, _, _, rfl, rfl⟩).mono ?_; rintro e w1 ⟨rfl, rfl⟩)
 refine wp_named fun W hW => ?_
 obtain ⟨p1, p2, p3, p4, p5, p6, hB⟩ := box6 hW
 clear hW
 replace p3 : W.heap[w.heap.size + 1 + 1]? = _ := p3
 replace p4 : W.heap[w.heap.size + 1 + 1 + 1]? = _ := p4
 replace p5 : W.heap[w.heap.size + 1 + 1 + 1 + 1]? = _ := p5
 have F2 : ∀ w', KeepB W w.heap.size [w.heap.size] w' → ∀ i, w'.cell? ⟨w.heap.size, i, none⟩ = #[.int .i64 fid, .int .i64 4, .int .i64 fx, .int .i64 fy, .int .i64 frad, .slice aa n1 ca, .int .i64 fdep, .int .i64 fsym, .slice ab n2 cb][i]? := fun w' hw i => cell_block (hw.at (by simp) p1) i
 have c7 := cell_block p5
 have e7 := free_block p5
 refine wp_region_planS (KeepB W w.heap.size [w.heap.size]) (.take 0 (.take 0 (.take 0 (.take 0 (.take 0 (.only 0 (.take 0 (.only 0 .done)))))))) (by kernel_rfl) (by kernel_rfl) (KeepB.refl) (fun hP => ?_)
 iterate 5 (refine wsPlan_take rfl (fun K hK => ?_); replace hK := Lib.hid hK; go_simp; first | (refine hK.out _ ?_; clear hK K) | (apply Exists.intro; refine ⟨fun w' hw => ?_, hK.out _ ?_⟩; (first | with_reducible exact rfl | (have f2 := F2 w' hw; go_simp; exact rfl)); clear hK K))
 (refine wsPlan_only rfl (fun K hK => ?_); replace hK := Lib.hid hK; go_simp; refine hK.out _ _ (by first | exact ((hP.setCell (by omega) (by simp <;> omega) _).setCell (by omega) (by simp <;> omega) _) | exact hP.setCell (by omega) (by simp <;> omega) _ | exact hP) (fun hP => ?_); clear hK K)
 (refine wsPlan_take rfl (fun K hK => ?_); replace hK := Lib.hid hK; go_simp; first | (refine hK.out _ ?_; clear hK K) | (apply Exists.intro; refine ⟨fun w' hw => ?_, hK.out _ ?_⟩; (first | with_reducible exact rfl | (have f2 := F2 w' hw; go_simp; exact rfl)); clear hK K))
 (refine wsPlan_only rfl (fun K hK => ?_); replace hK := Lib.hid hK; go_simp; refine hK.out _ _ (by first | exact ((hP.setCell (by omega) (by simp <;> omega) _).setCell (by omega) (by simp <;> omega) _) | exact hP.setCell (by omega) (by simp <;> omega) _ | exact hP) (fun hP => ?_); clear hK K)
 refine wsPlan_done ?_
 go_wp2_with fail
 refine wp_named fun WY hW => ?_
 clear F2 c7 e7
 have hBZ : Below w.heap.size w WY := by rw [hW]; exact ((hB.drew.setCell (p := ⟨_, _, none⟩) (by show w.heap.size ≤ w.heap.size + 1 + 1 + 1 + 1; omega) _).setCell (p := ⟨_, _, none⟩) (by show w.heap.size ≤ w.heap.size + 1 + 1 + 1 + 1; omega) _).setCell (p := ⟨_, _, none⟩) (by show w.heap.size ≤ w.heap.size + 1 + 1 + 1 + 1; omega) _
 have zp1 := (congrArg (fun X : World => X.heap[w.heap.size]?) hW).trans ((Below.heap_setCell _ _ _ _ (show w.heap.size ≠ w.heap.size + 1 + 1 + 1 + 1 by omega)).trans ((Below.heap_setCell _ _ _ _ (show w.heap.size ≠ w.heap.size + 1 + 1 + 1 + 1 by omega)).trans ((Below.heap_setCell _ _ _ _ (show w.heap.size ≠ w.heap.size + 1 + 1 + 1 + 1 by omega)).trans (p1))))
 replace zp1 : WY.heap[w.heap.size]? = _ := zp1
 have zp2 := (congrArg (fun X : World => X.heap[w.heap.size + 1]?) hW).trans ((Below.heap_setCell _ _ _ _ (show w.heap.size + 1 ≠ w.heap.size + 1 + 1 + 1 + 1 by omega)).trans ((Below.heap_setCell _ _ _ _ (show w.heap.size + 1 ≠ w.heap.size + 1 + 1 + 1 + 1 by omega)).trans ((Below.heap_setCell _ _ _ _ (show w.heap.size + 1 ≠ w.heap.size + 1 + 1 + 1 + 1 by omega)).trans (p2))))
 replace zp2 : WY.heap[w.heap.size + 1]? = _ := zp2
 have zp3 := (congrArg (fun X : World => X.heap[w.heap.size + 1 + 1]?) hW).trans ((Below.heap_setCell _ _ _ _ (show w.heap.size + 1 + 1 ≠ w.heap.size + 1 + 1 + 1 + 1 by omega)).trans ((Below.heap_setCell _ _ _ _ (show w.heap.size + 1 + 1 ≠ w.heap.size + 1 + 1 + 1 + 1 by omega)).trans ((Below.heap_setCell _ _ _ _ (show w.heap.size + 1 + 1 ≠ w.heap.size + 1 + 1 + 1 + 1 by omega)).trans (p3))))
 replace zp3 : WY.heap[w.heap.size + 1 + 1]? = _ := zp3
 have zp4 := (congrArg (fun X : World => X.heap[w.heap.size + 1 + 1 + 1]?) hW).trans ((Below.heap_setCell _ _ _ _ (show w.heap.size + 1 + 1 + 1 ≠ w.heap.size + 1 + 1 + 1 + 1 by omega)).trans ((Below.heap_setCell _ _ _ _ (show w.heap.size + 1 + 1 + 1 ≠ w.heap.size + 1 + 1 + 1 + 1 by omega)).trans ((Below.heap_setCell _ _ _ _ (show w.heap.size + 1 + 1 + 1 ≠ w.heap.size + 1 + 1 + 1 + 1 by omega)).trans (p4))))
 replace zp4 : WY.heap[w.heap.size + 1 + 1 + 1]? = _ := zp4
 have zp5 : WY.heap[w.heap.size + 1 + 1 + 1 + 1]? = some (.cells #[.int .i64 3, .int .i64 id, .int .i64 0, .int .i64 0, .int .i64 0, .int .i64 0, .int .i64 0, nilV, .int .i64 0, .int .i64 0, nilV, .int .i64 fx, .int .i64 fy, .int .i64 frad, .int .i64 0, .int .i64 0] 34 (0, 0)) := by rw [hW]; exact block_set (block_set (block_set p5 _) _) _
 clear hW p1 p2 p3 p4 p5 hB
 have p1 := zp1
 have p2 := zp2
 have p3 := zp3
 have p4 := zp4
 have p5 := zp5
 have hB := hBZ
 clear zp1 zp2 zp3 zp4 zp5 hBZ
 have F3 : ∀ w', KeepB WY w.heap.size [w.heap.size + 1] w' → ∀ i, w'.cell? ⟨w.heap.size + 1, i, none⟩ = #[.int .i64 3, .int .i64 id, .int .i64 oid, .int .i64 okind, .int .i64 ox, .int .i64 oy, .int .i64 orad, .slice ac n3 cc, .int .i64 odep, .int .i64 osym, .slice ae n4 ce, .int .i64 x, .int .i64 y, .int .i64 0, .int .i64 dep, .int .i64 sym][i]? := fun w' hw i => cell_block (hw.at (by simp) p2) i
 have c1 := cell_block p1
 have e1 := free_block p1
 refine wp_region_planS (KeepB WY w.heap.size [w.heap.size + 1]) (.take 0 (.take 0 (.take 0 (.take 0 (.take 0 (.only 0 (.take 0 (.only 0 .done)))))))) (by kernel_rfl) (by kernel_rfl) (KeepB.refl) (fun hP => ?_)
 iterate 5 (refine wsPlan_take rfl (fun K hK => ?_); replace hK := Lib.hid hK; go_simp; first | (refine hK.out _ ?_; clear hK K) | (apply Exists.intro; refine ⟨fun w' hw => ?_, hK.out _ ?_⟩; (first | with_reducible exact rfl | (have f3 := F3 w' hw; go_simp; exact rfl)); clear hK K))
 (refine wsPlan_only rfl (fun K hK => ?_); replace hK := Lib.hid hK; go_simp; refine hK.out _ _ (by first | exact ((hP.setCell (by omega) (by simp <;> omega) _).setCell (by omega) (by simp <;> omega) _) | exact hP.setCell (by omega) (by simp <;> omega) _ | exact hP) (fun hP => ?_); clear hK K)
 (refine wsPlan_take rfl (fun K hK => ?_); replace hK := Lib.hid hK; go_simp; first | (refine hK.out _ ?_; clear hK K) | (apply Exists.intro; refine ⟨fun w' hw => ?_, hK.out _ ?_⟩; (first | with_reducible exact rfl | (have f3 := F3 w' hw; go_simp; exact rfl)); clear hK K))
 (refine wsPlan_only rfl (fun K hK => ?_); replace hK := Lib.hid hK; go_simp; refine hK.out _ _ (by first | exact ((hP.setCell (by omega) (by simp <;> omega) _).setCell (by omega) (by simp <;> omega) _) | exact hP.setCell (by omega) (by simp <;> omega) _ | exact hP) (fun hP => ?_); clear hK K)
 refine wsPlan_done ?_
 go_wp2_with fail
 refine wp_named fun WZ hW => ?_
 clear F3 c1 e1
 have hBZ : Below w.heap.size w WZ := by rw [hW]; exact ((hB.drew.setCell (p := ⟨_, _, none⟩) (by show w.heap.size ≤ w.heap.size; omega) _).setCell (p := ⟨_, _, none⟩) (by show w.heap.size ≤ w.heap.size; omega) _).setCell (p := ⟨_, _, none⟩) (by show w.heap.size ≤ w.heap.size; omega) _
 have zp1 : WZ.heap[w.heap.size]? = some (.cells #[.int .i64 fid, .int .i64 4, .int .i64 x, .int .i64 y, .int .i64 0, .slice aa n1 ca, .int .i64 fdep, .int .i64 fsym, .slice ab n2 cb] 32 (0, 0)) := by rw [hW]; exact block_set (block_set (block_set p1 _) _) _
 have zp2 := (congrArg (fun X : World => X.heap[w.heap.size + 1]?) hW).trans ((Below.heap_setCell _ _ _ _ (show w.heap.size + 1 ≠ w.heap.size by omega)).trans ((Below.heap_setCell _ _ _ _ (show w.heap.size + 1 ≠ w.heap.size by omega)).trans ((Below.heap_setCell _ _ _ _ (show w.heap.size + 1 ≠ w.heap.size by omega)).trans (p2))))
 replace zp2 : WZ.heap[w.heap.size + 1]? = _ := zp2
 have zp3 := (congrArg (fun X : World => X.heap[w.heap.size + 1 + 1]?) hW).trans ((Below.heap_setCell _ _ _ _ (show w.heap.size + 1 + 1 ≠ w.heap.size by omega)).trans ((Below.heap_setCell _ _ _ _ (show w.heap.size + 1 + 1 ≠ w.heap.size by omega)).trans ((Below.heap_setCell _ _ _ _ (show w.heap.size + 1 + 1 ≠ w.heap.size by omega)).trans (p3))))
 replace zp3 : WZ.heap[w.heap.size + 1 + 1]? = _ := zp3
 have zp4 := (congrArg (fun X : World => X.heap[w.heap.size + 1 + 1 + 1]?) hW).trans ((Below.heap_setCell _ _ _ _ (show w.heap.size + 1 + 1 + 1 ≠ w.heap.size by omega)).trans ((Below.heap_setCell _ _ _ _ (show w.heap.size + 1 + 1 + 1 ≠ w.heap.size by omega)).trans ((Below.heap_setCell _ _ _ _ (show w.heap.size + 1 + 1 + 1 ≠ w.heap.size by omega)).trans (p4))))
 replace zp4 : WZ.heap[w.heap.size + 1 + 1 + 1]? = _ := zp4
 have zp5 := (congrArg (fun X : World => X.heap[w.heap.size + 1 + 1 + 1 + 1]?) hW).trans ((Below.heap_setCell _ _ _ _ (show w.heap.size + 1 + 1 + 1 + 1 ≠ w.heap.size by omega)).trans ((Below.heap_setCell _ _ _ _ (show w.heap.size + 1 + 1 + 1 + 1 ≠ w.heap.size by omega)).trans ((Below.heap_setCell _ _ _ _ (show w.heap.size + 1 + 1 + 1 + 1 ≠ w.heap.size by omega)).trans (p5))))
 replace zp5 : WZ.heap[w.heap.size + 1 + 1 + 1 + 1]? = _ := zp5
 clear hW p1 p2 p3 p4 p5 hB
 have p1 := zp1
 have p2 := zp2
 have p3 := zp3
 have p4 := zp4
 have p5 := zp5
 have hB := hBZ
 clear zp1 zp2 zp3 zp4 zp5 hBZ
 have p3d : WZ.drew.heap[w.heap.size + 1 + 1]? = _ := p3
 have p4d : ∀ cs, (WZ.drew.setRow (w.heap.size + 1 + 1) cs).heap[w.heap.size + 1 + 1 + 1]? = _ := fun cs => (setRow_other _ _ _ cs (by omega)).trans p4
 refine wp_region_planS (KeepB WZ w.heap.size [w.heap.size, w.heap.size + 1 + 1 + 1 + 1]) (.take 0 (.take 0 (.only 0 (.only 0 (.take 0 .done))))) (by kernel_rfl) (by kernel_rfl) KeepB.refl (fun hP => ?_)
 refine ws_load rfl rfl _ _ rfl _ rfl _ _ _ _ (fun w' hw => hw.at (by simp) p1) Tryz.underlying32 rfl (by kernel_rfl) ?_
 refine ws_load rfl rfl _ _ rfl _ rfl _ _ _ _ (fun w' hw => hw.at (by simp) p5) Tryz.underlying34 rfl (by kernel_rfl) ?_
 refine ws_store rfl rfl _ _ _ rfl _ (#[.int .i64 fid, .int .i64 4, .int .i64 x, .int .i64 y, .int .i64 0, .slice aa n1 ca, .int .i64 fdep, .int .i64 fsym, .slice ab n2 cb]) rfl rfl _ _ (p3d) (by kernel_rfl) (by kernel_rfl) (by kernel_rfl) (KeepB.setRow (by exact hP) (by omega) (by simp <;> omega) _) ?_
 refine ws_store rfl rfl _ _ _ rfl _ (#[.int .i64 3, .int .i64 id, .int .i64 0, .int .i64 0, .int .i64 0, .int .i64 0, .int .i64 0, nilV, .int .i64 0, .int .i64 0, nilV, .int .i64 fx, .int .i64 fy, .int .i64 frad, .int .i64 0, .int .i64 0]) rfl rfl _ _ (p4d _) (by kernel_rfl) (by kernel_rfl) (by kernel_rfl) (KeepB.setRow (by exact hP.setRow (by omega) (by simp <;> omega) _) (by omega) (by simp <;> omega) _) ?_
 refine ws_assign rfl rfl _ rfl _ rfl ?_
 refine wsPlan_done ?_
 simp only [Act.put, List.setIfInBounds_toArray, List.set_cons_zero, List.set_cons_succ]
 go_wp2_with fail
 refine body_named fun WR hW => ?_
 have q4 := (congrArg (fun X : World => X.heap[w.heap.size + 1 + 1]?) hW).trans ((setRow_other _ _ _ _ (by omega)).trans (setRow_heap _ _ _ _ _ _ p3d))
 replace q4 : WR.heap[w.heap.size + 1 + 1]? = _ := q4
 have q5 := (congrArg (fun X : World => X.heap[w.heap.size + 1 + 1 + 1]?) hW).trans (setRow_heap _ _ _ _ _ _ (p4d _))
 replace q5 : WR.heap[w.heap.size + 1 + 1 + 1]? = _ := q5
 have hR : Below w.heap.size w WR := by rw [hW]; exact below_setRow (below_setRow hB.drew (by omega) _) (by omega) _
 clear hW
 exact bodyPost_ret (v := .tuple #[featV (⟨fid, 4, x, y, 0, farea, fdep, fsym, fsecs⟩ : Feat) (.slice aa n1 ca) (.slice ab n2 cb), opV (⟨3, id, noFeat, fx, fy, frad, 0, 0⟩ : Opn) nilV nilV, .int .i64 0]) (results_cct rfl _ _ _ _ _ _ _ _ _ _ _ _ _ rfl rfl rfl q4 q5 Tryz.underlying32 rfl (by kernel_rfl) Tryz.underlying34 rfl (by kernel_rfl)) rfl ⟨rfl, hR⟩
set_option maxHeartbeats 4000000 in
theorem pachanged_mov (id oid okind ox oy orad odep osym x y rad dep sym fid fk fx fy frad fdep fsym : Int) (oarea farea : List (Int × Int)) (osecs fsecs : List Sec) (aa ab ac ae : Option Addr) (n1 n2 n3 n4 ca cb cc ce : Nat) (w : World) (f3 : ¬ fk = 3) (f4 : ¬ fk = 4) (f6 : ¬ fk = 6) :
  Calls Tryz.prog 203 #[featV (⟨fid, fk, fx, fy, frad, farea, fdep, fsym, fsecs⟩ : Feat) (.slice aa n1 ca) (.slice ab n2 cb), opV (⟨3, id, ⟨oid, okind, ox, oy, orad, oarea, odep, osym, osecs⟩, x, y, rad, dep, sym⟩ : Opn) (.slice ac n3 cc) (.slice ae n4 ce)] w fun e w' => e = .returned (.tuple #[featV (⟨fid, fk, x, y, rad, farea, fdep, fsym, fsecs⟩ : Feat) (.slice aa n1 ca) (.slice ab n2 cb), opV (⟨3, id, noFeat, fx, fy, frad, 0, 0⟩ : Opn) nilV nilV, .int .i64 0]) ∧ Below w.heap.size w w' := by
 have dfk3 : (fk == 3) = false := by simpa using f3
 have dfk4 : (fk == 4) = false := by simpa using f4
 have dfk6 : (fk == 6) = false := by simpa using f6
 go_enter Tryz.func203, Tryz.ntmps203
 go_wp2_with (go_at_call 297; refine (papoly_at (⟨fid, fk, fx, fy, frad, farea, fdep, fsym, fsecs⟩ : Feat) _ _ _ (v := false) (by simp [f3, f6]) ⟨_, _, _, _, _, _, rfl, rfl⟩).mono ?_; rintro e w1 ⟨rfl, rfl⟩)
 refine wp_named fun W hW => ?_
 obtain ⟨p1, p2, p3, p4, p5, p6, hB⟩ := box6 hW
 clear hW
 replace p3 : W.heap[w.heap.size + 1 + 1]? = _ := p3
 replace p4 : W.heap[w.heap.size + 1 + 1 + 1]? = _ := p4
 replace p5 : W.heap[w.heap.size + 1 + 1 + 1 + 1]? = _ := p5
 have F2 : ∀ w', KeepB W w.heap.size [w.heap.size] w' → ∀ i, w'.cell? ⟨w.heap.size, i, none⟩ = #[.int .i64 fid, .int .i64 fk, .int .i64 fx, .int .i64 fy, .int .i64 frad, .slice aa n1 ca, .int .i64 fdep, .int .i64 fsym, .slice ab n2 cb][i]? := fun w' hw i => cell_block (hw.at (by simp) p1) i
 have c7 := cell_block p5
 have e7 := free_block p5
 refine wp_region_planS (KeepB W w.heap.size [w.heap.size]) (.take 0 (.take 0 (.take 0 (.take 0 (.take 0 (.only 0 (.take 0 (.only 0 .done)))))))) (by kernel_rfl) (by kernel_rfl) (KeepB.refl) (fun hP => ?_)
 iterate 5 (refine wsPlan_take rfl (fun K hK => ?_); replace hK := Lib.hid hK; go_simp; first | (refine hK.out _ ?_; clear hK K) | (apply Exists.intro; refine ⟨fun w' hw => ?_, hK.out _ ?_⟩; (first | with_reducible exact rfl | (have f2 := F2 w' hw; go_simp; exact rfl)); clear hK K))
 (refine wsPlan_only rfl (fun K hK => ?_); replace hK := Lib.hid hK; go_simp; refine hK.out _ _ (by first | exact ((hP.setCell (by omega) (by simp <;> omega) _).setCell (by omega) (by simp <;> omega) _) | exact hP.setCell (by omega) (by simp <;> omega) _ | exact hP) (fun hP => ?_); clear hK K)
 (refine wsPlan_take rfl (fun K hK => ?_); replace hK := Lib.hid hK; go_simp; first | (refine hK.out _ ?_; clear hK K) | (apply Exists.intro; refine ⟨fun w' hw => ?_, hK.out _ ?_⟩; (first | with_reducible exact rfl | (have f2 := F2 w' hw; go_simp; exact rfl)); clear hK K))
 (refine wsPlan_only rfl (fun K hK => ?_); replace hK := Lib.hid hK; go_simp; refine hK.out _ _ (by first | exact ((hP.setCell (by omega) (by simp <;> omega) _).setCell (by omega) (by simp <;> omega) _) | exact hP.setCell (by omega) (by simp <;> omega) _ | exact hP) (fun hP => ?_); clear hK K)
 refine wsPlan_done ?_
 go_wp2_with fail
 refine wp_named fun WY hW => ?_
 clear F2 c7 e7
 have hBZ : Below w.heap.size w WY := by rw [hW]; exact ((hB.drew.setCell (p := ⟨_, _, none⟩) (by show w.heap.size ≤ w.heap.size + 1 + 1 + 1 + 1; omega) _).setCell (p := ⟨_, _, none⟩) (by show w.heap.size ≤ w.heap.size + 1 + 1 + 1 + 1; omega) _).setCell (p := ⟨_, _, none⟩) (by show w.heap.size ≤ w.heap.size + 1 + 1 + 1 + 1; omega) _
 have zp1 := (congrArg (fun X : World => X.heap[w.heap.size]?) hW).trans ((Below.heap_setCell _ _ _ _ (show w.heap.size ≠ w.heap.size + 1 + 1 + 1 + 1 by omega)).trans ((Below.heap_setCell _ _ _ _ (show w.heap.size ≠ w.heap.size + 1 + 1 + 1 + 1 by omega)).trans ((Below.heap_setCell _ _ _ _ (show w.heap.size ≠ w.heap.size + 1 + 1 + 1 + 1 by omega)).trans (p1))))
 replace zp1 : WY.heap[w.heap.size]? = _ := zp1
 have zp2 := (congrArg (fun X : World => X.heap[w.heap.size + 1]?) hW).trans ((Below.heap_setCell _ _ _ _ (show w.heap.size + 1 ≠ w.heap.size + 1 + 1 + 1 + 1 by omega)).trans ((Below.heap_setCell _ _ _ _ (show w.heap.size + 1 ≠ w.heap.size + 1 + 1 + 1 + 1 by omega)).trans ((Below.heap_setCell _ _ _ _ (show w.heap.size + 1 ≠ w.heap.size + 1 + 1 + 1 + 1 by omega)).trans (p2))))
 replace zp2 : WY.heap[w.heap.size + 1]? = _ := zp2
 have zp3 := (congrArg (fun X : World => X.heap[w.heap.size + 1 + 1]?) hW).trans ((Below.heap_setCell _ _ _ _ (show w.heap.size + 1 + 1 ≠ w.heap.size + 1 + 1 + 1 + 1 by omega)).trans ((Below.heap_setCell _ _ _ _ (show w.heap.size + 1 + 1 ≠ w.heap.size + 1 + 1 + 1 + 1 by omega)).trans ((Below.heap_setCell _ _ _ _ (show w.heap.size + 1 + 1 ≠ w.heap.size + 1 + 1 + 1 + 1 by omega)).trans (p3))))
 replace zp3 : WY.heap[w.heap.size + 1 + 1]? = _ := zp3
 have zp4 := (congrArg (fun X : World => X.heap[w.heap.size + 1 + 1 + 1]?) hW).trans ((Below.heap_setCell _ _ _ _ (show w.heap.size + 1 + 1 + 1 ≠ w.heap.size + 1 + 1 + 1 + 1 by omega)).trans ((Below.heap_setCell _ _ _ _ (show w.heap.size + 1 + 1 + 1 ≠ w.heap.size + 1 + 1 + 1 + 1 by omega)).trans ((Below.heap_setCell _ _ _ _ (show w.heap.size + 1 + 1 + 1 ≠ w.heap.size + 1 + 1 + 1 + 1 by omega)).trans (p4))))
 replace zp4 : WY.heap[w.heap.size + 1 + 1 + 1]? = _ := zp4
 have zp5 : WY.heap[w.heap.size + 1 + 1 + 1 + 1]? = some (.cells #[.int .i64 3, .int .i64 id, .int .i64 0, .int .i64 0, .int .i64 0, .int .i64 0, .int .i64 0, nilV, .int .i64 0, .int .i64 0, nilV, .int .i64 fx, .int .i64 fy, .int .i64 frad, .int .i64 0, .int .i64 0] 34 (0, 0)) := by rw [hW]; exact block_set (block_set (block_set p5 _) _) _
 clear hW p1 p2 p3 p4 p5 hB
 have p1 := zp1
 have p2 := zp2
 have p3 := zp3
 have p4 := zp4
 have p5 := zp5
 have hB := hBZ
 clear zp1 zp2 zp3 zp4 zp5 hBZ
 have F3 : ∀ w', KeepB WY w.heap.size [w.heap.size + 1] w' → ∀ i, w'.cell? ⟨w.heap.size + 1, i, none⟩ = #[.int .i64 3, .int .i64 id, .int .i64 oid, .int .i64 okind, .int .i64 ox, .int .i64 oy, .int .i64 orad, .slice ac n3 cc, .int .i64 odep, .int .i64 osym, .slice ae n4 ce, .int .i64 x, .int .i64 y, .int .i64 rad, .int .i64 dep, .int .i64 sym][i]? := fun w' hw i => cell_block (hw.at (by simp) p2) i
 have c1 := cell_block p1
 have e1 := free_block p1
 refine wp_region_planS (KeepB WY w.heap.size [w.heap.size + 1]) (.take 0 (.take 0 (.take 0 (.take 0 (.take 0 (.only 0 (.take 0 (.only 0 .done)))))))) (by kernel_rfl) (by kernel_rfl) (KeepB.refl) (fun hP => ?_)
 iterate 5 (refine wsPlan_take rfl (fun K hK => ?_); replace hK := Lib.hid hK; go_simp; first | (refine hK.out _ ?_; clear hK K) | (apply Exists.intro; refine ⟨fun w' hw => ?_, hK.out _ ?_⟩; (first | with_reducible exact rfl | (have f3 := F3 w' hw; go_simp; exact rfl)); clear hK K))
 (refine wsPlan_only rfl (fun K hK => ?_); replace hK := Lib.hid hK; go_simp; refine hK.out _ _ (by first | exact ((hP.setCell (by omega) (by simp <;> omega) _).setCell (by omega) (by simp <;> omega) _) | exact hP.setCell (by omega) (by simp <;> omega) _ | exact hP) (fun hP => ?_); clear hK K)
 (refine wsPlan_take rfl (fun K hK => ?_); replace hK := Lib.hid hK; go_simp; first | (refine hK.out _ ?_; clear hK K) | (apply Exists.intro; refine ⟨fun w' hw => ?_, hK.out _ ?_⟩; (first | with_reducible exact rfl | (have f3 := F3 w' hw; go_simp; exact rfl)); clear hK K))
 (refine wsPlan_only rfl (fun K hK => ?_); replace hK := Lib.hid hK; go_simp; refine hK.out _ _ (by first | exact ((hP.setCell (by omega) (by simp <;> omega) _).setCell (by omega) (by simp <;> omega) _) | exact hP.setCell (by omega) (by simp <;> omega) _ | exact hP) (fun hP => ?_); clear hK K)
 refine wsPlan_done ?_
 go_wp2_with fail
 refine wp_named fun WZ hW => ?_
 clear F3 c1 e1
 have hBZ : Below w.heap.size w WZ := by rw [hW]; exact ((hB.drew.setCell (p := ⟨_, _, none⟩) (by show w.heap.size ≤ w.heap.size; omega) _).setCell (p := ⟨_, _, none⟩) (by show w.heap.size ≤ w.heap.size; omega) _).setCell (p := ⟨_, _, none⟩) (by show w.heap.size ≤ w.heap.size; omega) _
 have zp1 : WZ.heap[w.heap.size]? = some (.cells #[.int .i64 fid, .int .i64 fk, .int .i64 x, .int .i64 y, .int .i64 rad, .slice aa n1 ca, .int .i64 fdep, .int .i64 fsym, .slice ab n2 cb] 32 (0, 0)) := by rw [hW]; exact block_set (block_set (block_set p1 _) _) _
 have zp2 := (congrArg (fun X : World => X.heap[w.heap.size + 1]?) hW).trans ((Below.heap_setCell _ _ _ _ (show w.heap.size + 1 ≠ w.heap.size by omega)).trans ((Below.heap_setCell _ _ _ _ (show w.heap.size + 1 ≠ w.heap.size by omega)).trans ((Below.heap_setCell _ _ _ _ (show w.heap.size + 1 ≠ w.heap.size by omega)).trans (p2))))
 replace zp2 : WZ.heap[w.heap.size + 1]? = _ := zp2
 have zp3 := (congrArg (fun X : World => X.heap[w.heap.size + 1 + 1]?) hW).trans ((Below.heap_setCell _ _ _ _ (show w.heap.size + 1 + 1 ≠ w.heap.size by omega)).trans ((Below.heap_setCell _ _ _ _ (show w.heap.size + 1 + 1 ≠ w.heap.size by omega)).trans ((Below.heap_setCell _ _ _ _ (show w.heap.size + 1 + 1 ≠ w.heap.size by omega)).trans (p3))))
 replace zp3 : WZ.heap[w.heap.size + 1 + 1]? = _ := zp3
 have zp4 := (congrArg (fun X : World => X.heap[w.heap.size + 1 + 1 + 1]?) hW).trans ((Below.heap_setCell _ _ _ _ (show w.heap.size + 1 + 1 + 1 ≠ w.heap.size by omega)).trans ((Below.heap_setCell _ _ _ _ (show w.heap.size + 1 + 1 + 1 ≠ w.heap.size by omega)).trans ((Below.heap_setCell _ _ _ _ (show w.heap.size + 1 + 1 + 1 ≠ w.heap.size by omega)).trans (p4))))
 replace zp4 : WZ.heap[w.heap.size + 1 + 1 + 1]? = _ := zp4
 have zp5 := (congrArg (fun X : World => X.heap[w.heap.size + 1 + 1 + 1 + 1]?) hW).trans ((Below.heap_setCell _ _ _ _ (show w.heap.size + 1 + 1 + 1 + 1 ≠ w.heap.size by omega)).trans ((Below.heap_setCell _ _ _ _ (show w.heap.size + 1 + 1 + 1 + 1 ≠ w.heap.size by omega)).trans ((Below.heap_setCell _ _ _ _ (show w.heap.size + 1 + 1 + 1 + 1 ≠ w.heap.size by omega)).trans (p5))))
 replace zp5 : WZ.heap[w.heap.size + 1 + 1 + 1 + 1]? = _ := zp5
 clear hW p1 p2 p3 p4 p5 hB
 have p1 := zp1
 have p2 := zp2
 have p3 := zp3
 have p4 := zp4
 have p5 := zp5
 have hB := hBZ
 clear zp1 zp2 zp3 zp4 zp5 hBZ
 have p3d : WZ.drew.heap[w.heap.size + 1 + 1]? = _ := p3
 have p4d : ∀ cs, (WZ.drew.setRow (w.heap.size + 1 + 1) cs).heap[w.heap.size + 1 + 1 + 1]? = _ := fun cs => (setRow_other _ _ _ cs (by omega)).trans p4
 refine wp_region_planS (KeepB WZ w.heap.size [w.heap.size, w.heap.size + 1 + 1 + 1 + 1]) (.take 0 (.take 0 (.only 0 (.only 0 (.take 0 .done))))) (by kernel_rfl) (by kernel_rfl) KeepB.refl (fun hP => ?_)
 refine ws_load rfl rfl _ _ rfl _ rfl _ _ _ _ (fun w' hw => hw.at (by simp) p1) Tryz.underlying32 rfl (by kernel_rfl) ?_
 refine ws_load rfl rfl _ _ rfl _ rfl _ _ _ _ (fun w' hw => hw.at (by simp) p5) Tryz.underlying34 rfl (by kernel_rfl) ?_
 refine ws_store rfl rfl _ _ _ rfl _ (#[.int .i64 fid, .int .i64 fk, .int .i64 x, .int .i64 y, .int .i64 rad, .slice aa n1 ca, .int .i64 fdep, .int .i64 fsym, .slice ab n2 cb]) rfl rfl _ _ (p3d) (by kernel_rfl) (by kernel_rfl) (by kernel_rfl) (KeepB.setRow (by exact hP) (by omega) (by simp <;> omega) _) ?_
 refine ws_store rfl rfl _ _ _ rfl _ (#[.int .i64 3, .int .i64 id, .int .i64 0, .int .i64 0, .int .i64 0, .int .i64 0, .int .i64 0, nilV, .int .i64 0, .int .i64 0, nilV, .int .i64 fx, .int .i64 fy, .int .i64 frad, .int .i64 0, .int .i64 0]) rfl rfl _ _ (p4d _) (by kernel_rfl) (by kernel_rfl) (by kernel_rfl) (KeepB.setRow (by exact hP.setRow (by omega) (by simp <;> omega) _) (by omega) (by simp <;> omega) _) ?_
 refine ws_assign rfl rfl _ rfl _ rfl ?_
 refine wsPlan_done ?_
 simp only [Act.put, List.setIfInBounds_toArray, List.set_cons_zero, List.set_cons_succ]
 go_wp2_with fail
 refine body_named fun WR hW => ?_
 have q4 := (congrArg (fun X : World => X.heap[w.heap.size + 1 + 1]?) hW).trans ((setRow_other _ _ _ _ (by omega)).trans (setRow_heap _ _ _ _ _ _ p3d))
 replace q4 : WR.heap[w.heap.size + 1 + 1]? = _ := q4
 have q5 := (congrArg (fun X : World => X.heap[w.heap.size + 1 + 1 + 1]?) hW).trans (setRow_heap _ _ _ _ _ _ (p4d _))
 replace q5 : WR.heap[w.heap.size + 1 + 1 + 1]? = _ := q5
 have hR : Below w.heap.size w WR := by rw [hW]; exact below_setRow (below_setRow hB.drew (by omega) _) (by omega) _
 clear hW
 exact bodyPost_ret (v := .tuple #[featV (⟨fid, fk, x, y, rad, farea, fdep, fsym, fsecs⟩ : Feat) (.slice aa n1 ca) (.slice ab n2 cb), opV (⟨3, id, noFeat, fx, fy, frad, 0, 0⟩ : Opn) nilV nilV, .int .i64 0]) (results_cct rfl _ _ _ _ _ _ _ _ _ _ _ _ _ rfl rfl rfl q4 q5 Tryz.underlying32 rfl (by kernel_rfl) Tryz.underlying34 rfl (by kernel_rfl)) rfl ⟨rfl, hR⟩
end Go.Proofs.YtdmegkkifiahdaaGreat
namespace Go.Proofs.YtdmegkkifiahdaaGreat
open Go.RowKit
attribute [local go_sem] bqOp bqAll bqUpon sqOp sqAll sqUpon ssAll
attribute [local irreducible] wpQuiet wpBQ wpPlan wsPlan
set_option linter.unusedVariables false
theorem pachanged_any (f : Feat) (o : Opn) (va vs ua us : Value) (w : World) (hp : PartsAt w f va vs) (hq : PartsAt w o.feat ua us) {g : Feat} {b : Opn} {er : Int} (hv : chgR f o = (g, b, er)) :
  Calls Tryz.prog 203 #[featV f va vs, opV o ua us] w fun e w' => e = .returned (.tuple #[featV g va vs, opV b nilV nilV, .int .i64 er]) ∧ Below w.heap.size w w' := by
 obtain ⟨aa, ca, ab, cb, rfl, rfl⟩ := hp.form
 obtain ⟨ac, cc, ae, ce, rfl, rfl⟩ := hq.form
 clear hp hq
 generalize f.area.length = n1
 generalize f.secs.length = n2
 generalize o.feat.area.length = n3
 generalize o.feat.secs.length = n4
 obtain ⟨kind, id, ⟨oid, okind, ox, oy, orad, oarea, odep, osym, osecs⟩, x, y, rad, dep, sym⟩ := o
 obtain ⟨fid, fk, fx, fy, frad, farea, fdep, fsym, fsecs⟩ := f
 by_cases k3 : kind = 3
 · subst k3
   by_cases f3 : fk = 3
   · subst f3
     obtain ⟨rfl, rfl, rfl⟩ : _ ∧ _ ∧ _ := by simpa [chgR, chgF, bakF] using hv
     exact pachanged_mov3 _ _ _ _ _ _ _ _ _ _ _ _ _ _ _ _ _ _ _ _ _ _ _ _ _ _ _ _ _ _ _ _ _ _ _ _
   by_cases f6 : fk = 6
   · subst f6
     obtain ⟨rfl, rfl, rfl⟩ : _ ∧ _ ∧ _ := by simpa [chgR, chgF, bakF] using hv
     exact pachanged_mov6 _ _ _ _ _ _ _ _ _ _ _ _ _ _ _ _ _ _ _ _ _ _ _ _ _ _ _ _ _ _ _ _ _ _ _ _
   by_cases f4 : fk = 4
   · subst f4
     by_cases hr : rad = 0
     · subst hr
       obtain ⟨rfl, rfl, rfl⟩ : _ ∧ _ ∧ _ := by simpa [chgR, chgF, bakF] using hv
       exact pachanged_mov4z _ _ _ _ _ _ _ _ _ _ 0 _ _ _ _ _ _ _ _ _ _ _ _ _ _ _ _ _ _ _ _ _ _ _ _ _
     · obtain ⟨rfl, rfl, rfl⟩ : _ ∧ _ ∧ _ := by simpa [chgR, chgF, bakF, hr] using hv
       exact pachanged_mov4 _ _ _ _ _ _ _ _ _ _ _ _ _ _ _ _ _ _ _ _ _ _ _ _ _ _ _ _ _ _ _ _ _ _ _ _ hr
   · obtain ⟨rfl, rfl, rfl⟩ : _ ∧ _ ∧ _ := by simpa [chgR, chgF, bakF, f3, f4, f6] using hv
     exact pachanged_mov _ _ _ _ _ _ _ _ _ _ _ _ _ _ _ _ _ _ _ _ _ _ _ _ _ _ _ _ _ _ _ _ _ _ _ _ _ f3 f4 f6
 by_cases k4 : kind = 4
 · subst k4
   by_cases f4 : fk = 4
   · subst f4
     obtain ⟨rfl, rfl, rfl⟩ : _ ∧ _ ∧ _ := by simpa [chgR, chgF, bakF] using hv
     exact pachanged_dep4 _ _ _ _ _ _ _ _ _ _ _ _ _ _ _ _ _ _ _ _ _ _ _ _ _ _ _ _ _ _ _ _ _ _ _ _
   by_cases f6 : fk = 6
   · subst f6
     obtain ⟨rfl, rfl, rfl⟩ : _ ∧ _ ∧ _ := by simpa [chgR, chgF, bakF] using hv
     exact pachanged_dep6 _ _ _ _ _ _ _ _ _ _ _ _ _ _ _ _ _ _ _ _ _ _ _ _ _ _ _ _ _ _ _ _ _ _ _ _
   obtain ⟨rfl, rfl, rfl⟩ : _ ∧ _ ∧ _ := by simpa [chgR, chgF, bakF, f4, f6] using hv
   exact pachanged_dep _ _ _ _ _ _ _ _ _ _ _ _ _ _ _ _ _ _ _ _ _ _ _ _ _ _ _ _ _ _ _ _ _ _ _ _ _ f4 f6
 by_cases f4 : fk = 4
 · subst f4
   obtain ⟨rfl, rfl, rfl⟩ : _ ∧ _ ∧ _ := by simpa [chgR, chgF, bakF, k3, k4] using hv
   exact pachanged_sym4 _ _ _ _ _ _ _ _ _ _ _ _ _ _ _ _ _ _ _ _ _ _ _ _ _ _ _ _ _ _ _ _ _ _ _ _ _ k3 k4
 · obtain ⟨rfl, rfl, rfl⟩ : _ ∧ _ ∧ _ := by simpa [chgR, chgF, bakF, k3, k4] using hv
   exact pachanged_sym _ _ _ _ _ _ _ _ _ _ _ _ _ _ _ _ _ _ _ _ _ _ _ _ _ _ _ _ _ _ _ _ _ _ _ _ _ _ k3 k4 f4
theorem pafield_any (o : Opn) (va vs : Value) (w : World) (hp : PartsAt w o.feat va vs) {v : Bool} (hv : decide (3 ≤ o.kind ∧ o.kind ≤ 5) = v) : Calls Tryz.prog 89 #[opV o va vs] w fun e w' => e = .returned (.bool v) ∧ Below w.heap.size w w' := by
 obtain ⟨aa, ca, ab, cb, rfl, rfl⟩ := hp.form
 clear hp
 generalize o.feat.area.length = n3
 generalize o.feat.secs.length = n4
 obtain ⟨kind, id, ⟨oid, okind, ox, oy, orad, oarea, odep, osym, osecs⟩, x, y, rad, dep, sym⟩ := o
 simp only at hv
 rcases Int.lt_or_le kind 3 with h3 | h3
 · obtain rfl : false = v := by rw [← hv]; exact (decide_eq_false (by omega)).symm
   go_enter Tryz.func89, Tryz.ntmps89
   go_wp2_with fail
   go_returns
   exact ⟨rfl, by go_grown⟩
 rcases Int.lt_or_le 5 kind with h5 | h5
 · obtain rfl : false = v := by rw [← hv]; exact (decide_eq_false (by omega)).symm
   go_enter Tryz.func89, Tryz.ntmps89
   go_wp2_with fail
   go_returns
   exact ⟨ret_bool (decide_eq_false (by omega)), by go_grown⟩
 obtain rfl : true = v := by rw [← hv]; exact (decide_eq_true (by omega)).symm
 go_enter Tryz.func89, Tryz.ntmps89
 go_wp2_with fail
 go_returns
 exact ⟨rfl, by go_grown⟩
end Go.Proofs.YtdmegkkifiahdaaGreat
