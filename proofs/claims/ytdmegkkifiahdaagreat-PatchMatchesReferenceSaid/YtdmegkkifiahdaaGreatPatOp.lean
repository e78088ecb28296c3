import Derived.Test.YtdmegkkifiahdaaGreatPC
import Derived.Test.YtdmegkkifiahdaaGreatKFt
import Derived.Deep.Cut
namespace Go.Proofs.YtdmegkkifiahdaaGreat
open Go.RowKit
attribute [local go_sem] bqOp bqAll bqUpon sqOp sqAll sqUpon
attribute [local irreducible] wpQuiet wpBQ wpPlan
set_option linter.unusedVariables false
theorem parts_pts {w : World} {f : Feat} {va vs : Value} (h : PartsAt w f va vs) : PtsAt w va f.area := And.left h
theorem parts_secs {w : World} {f : Feat} {va vs : Value} (h : PartsAt w f va vs) : SecsAt w vs f.secs := And.right h
set_option maxHeartbeats 4000000 in
theorem ntbare_any (o : Opn) (va vs : Value) (w : World) (hp : PartsAt w o.feat va vs) : Calls Tryz.prog 189 #[opV o va vs] w fun e w' => ∃ ua us, e = .returned (opV (bareO o) ua us) ∧ PartsAt w (bareO o).feat ua us ∧ Below w.heap.size w w' := by
 obtain ⟨kind, id, ⟨fid, fk, fx, fy, frad, farea, fdep, fsym, fsecs⟩, x, y, rad, dep, sym⟩ := o
 obtain ⟨a, c, b, d, rfl, rfl⟩ := hp.form
 have HP := Lib.hid hp
 clear hp
 by_cases k1 : kind = 1
 · subst k1
   rw [show bareO ⟨1, id, ⟨fid, fk, fx, fy, frad, farea, fdep, fsym, fsecs⟩, x, y, rad, dep, sym⟩ = ⟨1, id, noFeat, x, y, rad, dep, sym⟩ by simp [bareO]]
   go_enter Tryz.func189, Tryz.ntmps189
   go_upto_region 10 with (fail)
   refine wp_named fun W hW => ?_
   obtain ⟨p1, p2, hB⟩ := box2 hW
   clear hW
   go_wp2_with (first
    | (refine wpList_load_row rfl _ _ rfl _ rfl _ _ _ _ p1 Tryz.underlying34 rfl (by kernel_rfl) ?_)
    | (refine wpList_store_row rfl _ _ _ rfl _ (#[.int .i64 1, .int .i64 id, .int .i64 0, .int .i64 0, .int .i64 0, .int .i64 0, .int .i64 0, .slice none 0 0, .int .i64 0, .int .i64 0, .slice none 0 0, .int .i64 x, .int .i64 y, .int .i64 rad, .int .i64 dep, .int .i64 sym]) rfl rfl _ _ p2 (by kernel_rfl) (by kernel_rfl) (by kernel_rfl) ?_))
   refine body_named fun WR hW => ?_
   have q2 := (congrArg (fun X : World => X.heap[w.heap.size + 1]?) hW).trans (setRow_heap _ _ _ _ _ _ p2)
   replace q2 : WR.heap[w.heap.size + 1]? = _ := q2
   have hR : Below w.heap.size w WR := by rw [hW]; exact below_setRow hB (by omega) _
   clear hW
   exact bodyPost_ret (results_cell_row rfl _ _ _ _ _ _ _ rfl q2 Tryz.underlying34 rfl (by kernel_rfl)) rfl ⟨_, _, rfl, PartsAt.zero w, hR⟩
 by_cases k3 : kind = 3
 · subst k3
   rw [show bareO ⟨3, id, ⟨fid, fk, fx, fy, frad, farea, fdep, fsym, fsecs⟩, x, y, rad, dep, sym⟩ = ⟨3, id, ⟨fid, fk, fx, fy, frad, farea, fdep, fsym, fsecs⟩, 0, 0, 0, dep, sym⟩ by simp [bareO]]
   go_enter Tryz.func189, Tryz.ntmps189
   go_upto_region 10 with (fail)
   refine wp_named fun W hW => ?_
   obtain ⟨p1, p2, hB⟩ := box2 hW
   clear hW
   go_wp2_with (first
    | (refine wpList_load_row rfl _ _ rfl _ rfl _ _ _ _ p1 Tryz.underlying34 rfl (by kernel_rfl) ?_)
    | (refine wpList_store_row rfl _ _ _ rfl _ (#[.int .i64 3, .int .i64 id, .int .i64 fid, .int .i64 fk, .int .i64 fx, .int .i64 fy, .int .i64 frad, .slice a farea.length c, .int .i64 fdep, .int .i64 fsym, .slice b fsecs.length d, .int .i64 0, .int .i64 0, .int .i64 0, .int .i64 dep, .int .i64 sym]) rfl rfl _ _ p2 (by kernel_rfl) (by kernel_rfl) (by kernel_rfl) ?_))
   refine body_named fun WR hW => ?_
   have q2 := (congrArg (fun X : World => X.heap[w.heap.size + 1]?) hW).trans (setRow_heap _ _ _ _ _ _ p2)
   replace q2 : WR.heap[w.heap.size + 1]? = _ := q2
   have hR : Below w.heap.size w WR := by rw [hW]; exact below_setRow hB (by omega) _
   clear hW
   exact bodyPost_ret (results_cell_row rfl _ _ _ _ _ _ _ rfl q2 Tryz.underlying34 rfl (by kernel_rfl)) rfl ⟨_, _, rfl, HP.out, hR⟩
 by_cases k4 : kind = 4
 · subst k4
   rw [show bareO ⟨4, id, ⟨fid, fk, fx, fy, frad, farea, fdep, fsym, fsecs⟩, x, y, rad, dep, sym⟩ = ⟨4, id, ⟨fid, fk, fx, fy, frad, farea, fdep, fsym, fsecs⟩, x, y, rad, 0, sym⟩ by simp [bareO]]
   go_enter Tryz.func189, Tryz.ntmps189
   go_upto_region 10 with (fail)
   refine wp_named fun W hW => ?_
   obtain ⟨p1, p2, hB⟩ := box2 hW
   clear hW
   go_wp2_with (first
    | (refine wpList_load_row rfl _ _ rfl _ rfl _ _ _ _ p1 Tryz.underlying34 rfl (by kernel_rfl) ?_)
    | (refine wpList_store_row rfl _ _ _ rfl _ (#[.int .i64 4, .int .i64 id, .int .i64 fid, .int .i64 fk, .int .i64 fx, .int .i64 fy, .int .i64 frad, .slice a farea.length c, .int .i64 fdep, .int .i64 fsym, .slice b fsecs.length d, .int .i64 x, .int .i64 y, .int .i64 rad, .int .i64 0, .int .i64 sym]) rfl rfl _ _ p2 (by kernel_rfl) (by kernel_rfl) (by kernel_rfl) ?_))
   refine body_named fun WR hW => ?_
   have q2 := (congrArg (fun X : World => X.heap[w.heap.size + 1]?) hW).trans (setRow_heap _ _ _ _ _ _ p2)
   replace q2 : WR.heap[w.heap.size + 1]? = _ := q2
   have hR : Below w.heap.size w WR := by rw [hW]; exact below_setRow hB (by omega) _
   clear hW
   exact bodyPost_ret (results_cell_row rfl _ _ _ _ _ _ _ rfl q2 Tryz.underlying34 rfl (by kernel_rfl)) rfl ⟨_, _, rfl, HP.out, hR⟩
 by_cases k5 : kind = 5
 · subst k5
   rw [show bareO ⟨5, id, ⟨fid, fk, fx, fy, frad, farea, fdep, fsym, fsecs⟩, x, y, rad, dep, sym⟩ = ⟨5, id, ⟨fid, fk, fx, fy, frad, farea, fdep, fsym, fsecs⟩, x, y, rad, dep, 0⟩ by simp [bareO]]
   go_enter Tryz.func189, Tryz.ntmps189
   go_upto_region 10 with (fail)
   refine wp_named fun W hW => ?_
   obtain ⟨p1, p2, hB⟩ := box2 hW
   clear hW
   go_wp2_with (first
    | (refine wpList_load_row rfl _ _ rfl _ rfl _ _ _ _ p1 Tryz.underlying34 rfl (by kernel_rfl) ?_)
    | (refine wpList_store_row rfl _ _ _ rfl _ (#[.int .i64 5, .int .i64 id, .int .i64 fid, .int .i64 fk, .int .i64 fx, .int .i64 fy, .int .i64 frad, .slice a farea.length c, .int .i64 fdep, .int .i64 fsym, .slice b fsecs.length d, .int .i64 x, .int .i64 y, .int .i64 rad, .int .i64 dep, .int .i64 0]) rfl rfl _ _ p2 (by kernel_rfl) (by kernel_rfl) (by kernel_rfl) ?_))
   refine body_named fun WR hW => ?_
   have q2 := (congrArg (fun X : World => X.heap[w.heap.size + 1]?) hW).trans (setRow_heap _ _ _ _ _ _ p2)
   replace q2 : WR.heap[w.heap.size + 1]? = _ := q2
   have hR : Below w.heap.size w WR := by rw [hW]; exact below_setRow hB (by omega) _
   clear hW
   exact bodyPost_ret (results_cell_row rfl _ _ _ _ _ _ _ rfl q2 Tryz.underlying34 rfl (by kernel_rfl)) rfl ⟨_, _, rfl, HP.out, hR⟩
 have d1 : (kind == 1) = false := by simpa using k1
 have d3 : (kind == 3) = false := by simpa using k3
 have d4 : (kind == 4) = false := by simpa using k4
 have d5 : (kind == 5) = false := by simpa using k5
 rw [show bareO ⟨kind, id, ⟨fid, fk, fx, fy, frad, farea, fdep, fsym, fsecs⟩, x, y, rad, dep, sym⟩ = ⟨kind, id, ⟨fid, fk, fx, fy, frad, farea, fdep, fsym, fsecs⟩, x, y, rad, dep, sym⟩ by simp [bareO, k1, k3, k4, k5]]
 go_enter Tryz.func189, Tryz.ntmps189
 go_upto_region 10 with (fail)
 refine wp_named fun W hW => ?_
 obtain ⟨p1, p2, hB⟩ := box2 hW
 clear hW
 go_wp2_with (first
  | (refine wpList_load_row rfl _ _ rfl _ rfl _ _ _ _ p1 Tryz.underlying34 rfl (by kernel_rfl) ?_)
  | (refine wpList_store_row rfl _ _ _ rfl _ (#[.int .i64 kind, .int .i64 id, .int .i64 fid, .int .i64 fk, .int .i64 fx, .int .i64 fy, .int .i64 frad, .slice a farea.length c, .int .i64 fdep, .int .i64 fsym, .slice b fsecs.length d, .int .i64 x, .int .i64 y, .int .i64 rad, .int .i64 dep, .int .i64 sym]) rfl rfl _ _ p2 (by kernel_rfl) (by kernel_rfl) (by kernel_rfl) ?_))
 refine body_named fun WR hW => ?_
 have q2 := (congrArg (fun X : World => X.heap[w.heap.size + 1]?) hW).trans (setRow_heap _ _ _ _ _ _ p2)
 replace q2 : WR.heap[w.heap.size + 1]? = _ := q2
 have hR : Below w.heap.size w WR := by rw [hW]; exact below_setRow hB (by omega) _
 clear hW
 exact bodyPost_ret (results_cell_row rfl _ _ _ _ _ _ _ rfl q2 Tryz.underlying34 rfl (by kernel_rfl)) rfl ⟨_, _, rfl, HP.out, hR⟩
theorem ntroom_any (x y n : Int) (w : World) (h : Vld x y) (h0 : 0 ≤ n) (h1 : n ≤ 100000) {v : Bool} (hv : decide (RoomOk x y n) = v) : Calls Tryz.prog 190 #[.agg #[.int .i64 x, .int .i64 y], .int .i64 n] w fun e w' => e = .returned (.bool v) ∧ Below w.heap.size w w' := by
 obtain ⟨u1, hu1⟩ : ∃ k, decide (Vld (x - n) (y - n)) = k := ⟨_, rfl⟩
 obtain ⟨u2, hu2⟩ : ∃ k, decide (Vld (x + n) (y + n)) = k := ⟨_, rfl⟩
 have HV := Lib.hid hv
 have U1 := Lib.hid hu1
 have U2 := Lib.hid hu2
 obtain ⟨a1, a2, a3, a4⟩ := h
 clear hv hu1 hu2
 go_enter Tryz.func190, Tryz.ntmps190
 go_wp2_with fail
 refine calls_named fun W hW => ?_
 obtain ⟨p1, hB⟩ := box1 hW
 clear hW
 (with_reducible refine (hpValid_any _ _ _ U1.out).mono ?_)
 rintro e w1 ⟨rfl, hb1⟩
 have hB1 := below_step hB hb1
 have r1 := block_later hb1 p1
 have c0 := cell_block r1 0
 have c1 := cell_block r1 1
 cases u1
 · go_wp2_with fail
   go_returns
   exact ⟨ret_bool (by rw [← HV.out]; exact (decide_eq_false (fun h => of_decide_eq_false U1.out h.1)).symm), hB1⟩
 go_wp2_with fail
 (with_reducible refine (hpValid_any _ _ _ U2.out).mono ?_)
 rintro e w2 ⟨rfl, hb2⟩
 go_wp2_with fail
 go_returns
 exact ⟨ret_bool (by rw [← HV.out, ← U2.out, decide_eq_decide]; exact ⟨fun h => ⟨of_decide_eq_true U1.out, h⟩, fun h => h.2⟩), below_step hB1 hb2⟩
set_option maxHeartbeats 4000000 in
theorem ntSameOp_any (o p : Opn) (va vs ua us : Value) (w : World) (ho : PartsAt w o.feat va vs) (hp : PartsAt w p.feat ua us) {v : Bool} (hv : decide (o = p) = v) :
  Calls Tryz.prog 188 #[opV o va vs, opV p ua us] w fun e w' => e = .returned (.bool v) ∧ Below w.heap.size w w' := by
 obtain ⟨kind1, id1, f, x1, y1, rad1, dep1, sym1⟩ := o
 obtain ⟨kind2, id2, g, x2, y2, rad2, dep2, sym2⟩ := p
 obtain ⟨aa, ca, ab, cb, rfl, rfl⟩ := ho.form
 obtain ⟨ac, cc, ae, ce, rfl, rfl⟩ := hp.form
 have HV : Hid (decide (kind1 = kind2 ∧ id1 = id2 ∧ f = g ∧ x1 = x2 ∧ y1 = y2 ∧ rad1 = rad2 ∧ dep1 = dep2 ∧ sym1 = sym2) = v) := Lib.hid (by rw [← hv, decide_eq_decide]; simp)
 have HO := Lib.hid ho
 have HP := Lib.hid hp
 clear hv ho hp
 by_cases gkind : kind1 = kind2
 rotate_left
 · have d : (kind1 == kind2) = false := by simpa using gkind
   have HF := Lib.hid (show false = v by rw [← HV.out]; exact (decide_eq_false (fun h => gkind h.1)).symm)
   clear gkind HV
   go_enter Tryz.func188, Tryz.ntmps188
   go_wp2_with fail
   go_returns
   exact ⟨ret_bool HF.out, by go_grown⟩
 subst gkind
 by_cases gid : id1 = id2
 rotate_left
 · have d : (id1 == id2) = false := by simpa using gid
   have HF := Lib.hid (show false = v by rw [← HV.out]; exact (decide_eq_false (fun h => gid h.2.1)).symm)
   clear gid HV
   go_enter Tryz.func188, Tryz.ntmps188
   go_wp2_with fail
   go_returns
   exact ⟨ret_bool HF.out, by go_grown⟩
 subst gid
 by_cases gx : x1 = x2
 rotate_left
 · have d : (x1 == x2) = false := by simpa using gx
   have HF := Lib.hid (show false = v by rw [← HV.out]; exact (decide_eq_false (fun h => gx h.2.2.2.1)).symm)
   clear gx HV
   go_enter Tryz.func188, Tryz.ntmps188
   go_wp2_with fail
   go_returns
   exact ⟨ret_bool HF.out, by go_grown⟩
 subst gx
 by_cases gy : y1 = y2
 rotate_left
 · have d : (y1 == y2) = false := by simpa using gy
   have HF := Lib.hid (show false = v by rw [← HV.out]; exact (decide_eq_false (fun h => gy h.2.2.2.2.1)).symm)
   clear gy HV
   go_enter Tryz.func188, Tryz.ntmps188
   go_wp2_with fail
   go_returns
   exact ⟨ret_bool HF.out, by go_grown⟩
 subst gy
 by_cases grad : rad1 = rad2
 rotate_left
 · have d : (rad1 == rad2) = false := by simpa using grad
   have HF := Lib.hid (show false = v by rw [← HV.out]; exact (decide_eq_false (fun h => grad h.2.2.2.2.2.1)).symm)
   clear grad HV
   go_enter Tryz.func188, Tryz.ntmps188
   go_wp2_with fail
   go_returns
   exact ⟨ret_bool HF.out, by go_grown⟩
 subst grad
 by_cases gdep : dep1 = dep2
 rotate_left
 · have d : (dep1 == dep2) = false := by simpa using gdep
   have HF := Lib.hid (show false = v by rw [← HV.out]; exact (decide_eq_false (fun h => gdep h.2.2.2.2.2.2.1)).symm)
   clear gdep HV
   go_enter Tryz.func188, Tryz.ntmps188
   go_wp2_with fail
   go_returns
   exact ⟨ret_bool HF.out, by go_grown⟩
 subst gdep
 by_cases gsym : sym1 = sym2
 rotate_left
 · have d : (sym1 == sym2) = false := by simpa using gsym
   have HF := Lib.hid (show false = v by rw [← HV.out]; exact (decide_eq_false (fun h => gsym h.2.2.2.2.2.2.2)).symm)
   clear gsym HV
   go_enter Tryz.func188, Tryz.ntmps188
   go_wp2_with fail
   go_returns
   exact ⟨ret_bool HF.out, by go_grown⟩
 subst gsym
 go_enter Tryz.func188, Tryz.ntmps188
 go_wp2_with fail
 refine calls_named fun W hW => ?_
 obtain ⟨p1, p2, hB⟩ := box2 hW
 clear hW
 (with_reducible refine (ftSame_any f g _ _ _ _ _ (ptsL (parts_pts HO.out) hB) (secsL (parts_secs HO.out) hB) (ptsL (parts_pts HP.out) hB) (secsL (parts_secs HP.out) hB) (v := v) (by rw [← HV.out, decide_eq_decide]; simp)).mono ?_)
 rintro e w1 ⟨rfl, hb1⟩
 go_wp2_with fail
 go_returns
 exact ⟨rfl, below_step hB hb1⟩
set_option maxHeartbeats 4000000 in
theorem ntOp_id1 (kind id fid fk fx fy frad fdep fsym x y rad dep sym : Int) (farea : List (Int × Int)) (fsecs : List Sec) (aa ab : Option Addr) (ca cb : Nat) (w : World) (h : id < 1) : Calls Tryz.prog 74 #[opV ⟨kind, id, ⟨fid, fk, fx, fy, frad, farea, fdep, fsym, fsecs⟩, x, y, rad, dep, sym⟩ (.slice aa farea.length ca) (.slice ab fsecs.length cb)] w fun e w' => e = .returned (.bool false) ∧ Below w.heap.size w w' := by
 have d1 : decide (id < 1) = true := by simpa using h
 go_enter Tryz.func74, Tryz.ntmps74
 go_wp2_with fail
 refine wp_named fun W hW => ?_
 obtain ⟨p1, hB⟩ := box1 hW
 clear hW
 have q1 := cellsR p1
 refine wp_region_plan (.take 0 (.take 0 (.take 0 (.take 0 (.take 0 (.take 0 (.take 0 (.take 0 (.take 0 (.take 0 (.take 1 (.take 1 (.take 1 (.take 1 (.take 1 (.only 0 (.only 0 (.take 0 (.take 0 .done))))))))))))))))))) (by kernel_rfl) (by kernel_rfl) (fun hP => ?_)
 iterate 15 (refine wpPlan_take rfl (fun K hK => ?_); replace hK := Lib.hid hK; go_simp; first | (refine hK.out _ ?_; clear hK K) | (apply Exists.intro; refine ⟨fun _ => ?_, hK.out _ ?_⟩; (first | with_reducible exact rfl | skip); clear hK K))
 iterate 2 (refine wpPlan_only rfl (fun K hK => ?_); replace hK := Lib.hid hK; go_simp; refine hK.out _ _ hP (fun hP => ?_); clear hK K)
 iterate 2 (refine wpPlan_take rfl (fun K hK => ?_); replace hK := Lib.hid hK; go_simp; first | (refine hK.out _ ?_; clear hK K) | (apply Exists.intro; refine ⟨fun _ => ?_, hK.out _ ?_⟩; (first | with_reducible exact rfl | skip); clear hK K))
 refine wpPlan_done ?_
 go_wp2_with fail
 go_returns
 exact ⟨rfl, below_step hB hP⟩
set_option maxHeartbeats 4000000 in
theorem ntOp_id2 (kind id fid fk fx fy frad fdep fsym x y rad dep sym : Int) (farea : List (Int × Int)) (fsecs : List Sec) (aa ab : Option Addr) (ca cb : Nat) (w : World) (h1 : 1 ≤ id) (h : 100000 < id) : Calls Tryz.prog 74 #[opV ⟨kind, id, ⟨fid, fk, fx, fy, frad, farea, fdep, fsym, fsecs⟩, x, y, rad, dep, sym⟩ (.slice aa farea.length ca) (.slice ab fsecs.length cb)] w fun e w' => e = .returned (.bool false) ∧ Below w.heap.size w w' := by
 have d1 : decide (id < 1) = false := by simpa using h1
 have d2 : decide (100000 < id) = true := by simpa using h
 go_enter Tryz.func74, Tryz.ntmps74
 go_wp2_with fail
 refine wp_named fun W hW => ?_
 obtain ⟨p1, hB⟩ := box1 hW
 clear hW
 have q1 := cellsR p1
 refine wp_region_plan (.take 0 (.take 0 (.take 0 (.take 0 (.take 0 (.take 0 (.take 0 (.take 0 (.take 0 (.take 0 (.take 1 (.take 1 (.take 1 (.take 1 (.take 1 (.only 0 (.only 0 (.take 0 (.take 0 .done))))))))))))))))))) (by kernel_rfl) (by kernel_rfl) (fun hP => ?_)
 iterate 15 (refine wpPlan_take rfl (fun K hK => ?_); replace hK := Lib.hid hK; go_simp; first | (refine hK.out _ ?_; clear hK K) | (apply Exists.intro; refine ⟨fun _ => ?_, hK.out _ ?_⟩; (first | with_reducible exact rfl | skip); clear hK K))
 iterate 2 (refine wpPlan_only rfl (fun K hK => ?_); replace hK := Lib.hid hK; go_simp; refine hK.out _ _ hP (fun hP => ?_); clear hK K)
 iterate 2 (refine wpPlan_take rfl (fun K hK => ?_); replace hK := Lib.hid hK; go_simp; first | (refine hK.out _ ?_; clear hK K) | (apply Exists.intro; refine ⟨fun _ => ?_, hK.out _ ?_⟩; (first | with_reducible exact rfl | skip); clear hK K))
 refine wpPlan_done ?_
 go_wp2_with fail
 go_returns
 exact ⟨rfl, below_step hB hP⟩
theorem opOk_eq (o : Opn) : OpOk o ↔ IdOk o.id ∧ bareO o = ⟨o.kind, o.id, ⟨0, 0, 0, 0, 0, [], 0, 0, []⟩, 0, 0, 0, 0, 0⟩ ∧ BodyOk o := Iff.rfl
set_option maxHeartbeats 4000000 in
theorem ntOp_any (o : Opn) (va vs : Value) (w : World) (hp : PartsAt w o.feat va vs) {v : Bool} (hv : decide (OpOk o) = v) :
  Calls Tryz.prog 74 #[opV o va vs] w fun e w' => e = .returned (.bool v) ∧ Below w.heap.size w w' := by
 obtain ⟨aa, ca, ab, cb, rfl, rfl⟩ := hp.form
 rcases Int.lt_or_le o.id 1 with h1 | h1
 · obtain rfl : false = v := by rw [← hv]; exact (decide_eq_false (fun h => by have := h.1.1; omega)).symm
   exact ntOp_id1 _ _ _ _ _ _ _ _ _ _ _ _ _ _ _ _ _ _ _ _ _ h1
 rcases Int.lt_or_le 100000 o.id with h2 | h2
 · obtain rfl : false = v := by rw [← hv]; exact (decide_eq_false (fun h => by have := h.1.2; omega)).symm
   exact ntOp_id2 _ _ _ _ _ _ _ _ _ _ _ _ _ _ _ _ _ _ _ _ _ h1 h2
 obtain ⟨u1, hu1⟩ : ∃ k, decide (bareO o = ⟨o.kind, o.id, ⟨0, 0, 0, 0, 0, [], 0, 0, []⟩, 0, 0, 0, 0, 0⟩) = k := ⟨_, rfl⟩
 have HV : Hid ((u1 && decide (BodyOk o)) = v) := Lib.hid (by
  rw [← hv, ← hu1]
  have hid : IdOk o.id := ⟨h1, h2⟩
  rw [← Bool.decide_and, decide_eq_decide, opOk_eq]
  exact ⟨fun h => ⟨hid, h⟩, fun h => h.2⟩)
 have U1 := Lib.hid hu1
 have HP := Lib.hid hp
 have ZP : ∀ w, PartsAt w ⟨0, 0, 0, 0, 0, [], 0, 0, []⟩ (.slice none 0 0) (.slice none 0 0) := fun w => PartsAt.zero w
 have d1 : decide (o.id < 1) = false := by simpa using h1
 have d2 : decide (100000 < o.id) = false := by simpa using h2
 clear hv hu1 hp
 go_enter Tryz.func74, Tryz.ntmps74
 go_wp2_with fail
 refine wp_named fun W hW => ?_
 obtain ⟨p1, hB⟩ := box1 hW
 clear hW
 have q1 := cellsR p1
 refine wp_region_plan (.take 0 (.take 0 (.take 0 (.take 0 (.take 0 (.take 0 (.take 0 (.take 0 (.take 0 (.take 0 (.take 1 (.take 1 (.take 1 (.take 1 (.take 1 (.only 0 (.only 0 (.take 0 (.take 0 .done))))))))))))))))))) (by kernel_rfl) (by kernel_rfl) (fun hP => ?_)
 iterate 9 (refine wpPlan_take rfl (fun K hK => ?_); replace hK := Lib.hid hK; go_simp; first | (refine hK.out _ ?_; clear hK K) | (apply Exists.intro; refine ⟨fun _ => ?_, hK.out _ ?_⟩; (first | with_reducible exact rfl | skip); clear hK K))
 refine wp_loadP rfl (by kernel_rfl) _ _ rfl _ rfl _ _ _ _ p1 Tryz.underlying34 rfl (by kernel_rfl) ?_
 iterate 5 (refine wpPlan_take rfl (fun K hK => ?_); replace hK := Lib.hid hK; go_simp; first | (refine hK.out _ ?_; clear hK K) | (apply Exists.intro; refine ⟨fun _ => ?_, hK.out _ ?_⟩; (first | with_reducible exact rfl | skip); clear hK K))
 (refine wpPlan_only rfl (fun K hK => ?_); replace hK := Lib.hid hK; go_simp; go_at_call 189; (with_reducible refine (ntbare_any o _ _ _ (HP.out.later (below_step hB hP))).mono ?_); rintro e w4 ⟨ua, us, rfl, HU, hbx⟩; replace HU := HU.later hbx; refine hK.out _ _ (below_step hP hbx) (fun hP => ?_); clear hK K)
 (refine wpPlan_only rfl (fun K hK => ?_); replace hK := Lib.hid hK; go_simp; go_at_call 188; (with_reducible refine (ntSameOp_any (bareO o) ⟨o.kind, o.id, ⟨0, 0, 0, 0, 0, [], 0, 0, []⟩, 0, 0, 0, 0, 0⟩ _ _ _ _ _ HU (ZP _) U1.out).mono ?_); rintro e w5 ⟨rfl, hby⟩; refine hK.out _ _ (below_step hP hby) (fun hP => ?_); clear hK K)
 iterate 2 (refine wpPlan_take rfl (fun K hK => ?_); replace hK := Lib.hid hK; go_simp; first | (refine hK.out _ ?_; clear hK K) | (apply Exists.intro; refine ⟨fun _ => ?_, hK.out _ ?_⟩; (first | with_reducible exact rfl | skip); clear hK K))
 refine wpPlan_done ?_
 have hB1 := below_step hB hP
 have r1 := block_later hP p1
 clear q1
 cases u1
 · go_wp2_with fail
   go_returns
   exact ⟨ret_bool (by rw [← HV.out]; rfl), hB1⟩
 have HV2 : Hid (decide (BodyOk o) = v) := Lib.hid (by rw [← HV.out]; simp)
 clear HV U1
 have BODY : Hid (BodyOk o ↔ if o.kind = 1 then o.feat.id = o.id ∧ FeatOk o.feat else if o.kind = 2 then True else if o.kind = 3 then (0 ≤ o.rad ∧ o.rad ≤ 100000) ∧ Vld o.x o.y ∧ RoomOk o.x o.y o.rad else if o.kind = 4 then 0 ≤ o.dep ∧ o.dep ≤ 100000 else if o.kind = 5 then 0 ≤ o.sym ∧ o.sym ≤ 999 else False) := Lib.hid Iff.rfl
 have c0 := cell_block r1 0
 have c1 := cell_block r1 1
 have c2 := cell_block r1 2
 have c3 := cell_block r1 3
 have c4 := cell_block r1 4
 have c5 := cell_block r1 5
 have c6 := cell_block r1 6
 have c7 := cell_block r1 7
 have c8 := cell_block r1 8
 have c9 := cell_block r1 9
 have c10 := cell_block r1 10
 have c11 := cell_block r1 11
 have c12 := cell_block r1 12
 have c13 := cell_block r1 13
 have c14 := cell_block r1 14
 have c15 := cell_block r1 15
 by_cases k1 : o.kind = 1
 · have e1 : (o.kind == 1) = true := by simpa using k1
   have B2 : Hid (BodyOk o ↔ o.feat.id = o.id ∧ FeatOk o.feat) := Lib.hid (by have h := BODY.out; rw [if_pos k1] at h; exact h)
   clear BODY k1
   by_cases gi : o.feat.id = o.id
   rotate_left
   · have e2 : (o.feat.id == o.id) = false := by simpa using gi
     have HF := Lib.hid (show false = v by rw [← HV2.out]; exact (decide_eq_false (fun h => gi (B2.out.1 h).1)).symm)
     clear gi
     go_wp2_with fail
     go_returns
     exact ⟨ret_bool HF.out, hB1⟩
   have e2 : (o.feat.id == o.id) = true := by simpa using gi
   have HF : Hid (decide (FeatOk o.feat) = v) := Lib.hid (by rw [← HV2.out, decide_eq_decide, B2.out]; exact ⟨fun h => ⟨gi, h⟩, fun h => h.2⟩)
   clear gi
   go_wp2_with fail
   (with_reducible refine (ftValid_any o.feat _ _ _ (ptsL (parts_pts HP.out) hB1) (secsL (parts_secs HP.out) hB1) HF.out).mono ?_)
   rintro e w6 ⟨rfl, hb6⟩
   go_wp2_with fail
   go_returns
   exact ⟨rfl, below_step hB1 hb6⟩
 have e1 : (o.kind == 1) = false := by simpa using k1
 by_cases k2 : o.kind = 2
 · have e2 : (o.kind == 2) = true := by simpa using k2
   have HF := Lib.hid (show true = v by rw [← HV2.out]; exact (decide_eq_true (by have h := BODY.out; rw [if_neg k1, if_pos k2] at h; exact h.2 trivial)).symm)
   clear k1 k2 BODY
   go_wp2_with fail
   go_returns
   exact ⟨ret_bool HF.out, hB1⟩
 have e2 : (o.kind == 2) = false := by simpa using k2
 by_cases k3 : o.kind = 3
 · have e3 : (o.kind == 3) = true := by simpa using k3
   have B2 : Hid (BodyOk o ↔ (0 ≤ o.rad ∧ o.rad ≤ 100000) ∧ Vld o.x o.y ∧ RoomOk o.x o.y o.rad) := Lib.hid (by have h := BODY.out; rw [if_neg k1, if_neg k2, if_pos k3] at h; exact h)
   clear BODY k1 k2 k3
   rcases Int.lt_or_le o.rad 0 with hr | hr
   · have HF := Lib.hid (show false = v by rw [← HV2.out]; exact (decide_eq_false (fun h => by have := (B2.out.1 h).1.1; omega)).symm)
     go_wp2_with fail
     go_returns
     exact ⟨ret_bool HF.out, hB1⟩
   rcases Int.lt_or_le 100000 o.rad with hs | hs
   · have HF := Lib.hid (show false = v by rw [← HV2.out]; exact (decide_eq_false (fun h => by have := (B2.out.1 h).1.2; omega)).symm)
     go_wp2_with fail
     go_returns
     exact ⟨ret_bool HF.out, hB1⟩
   obtain ⟨u2, hu2⟩ : ∃ k, decide (Vld o.x o.y) = k := ⟨_, rfl⟩
   have U2 := Lib.hid hu2
   clear hu2
   go_wp2_with fail
   (with_reducible refine (hpValid_any _ _ _ U2.out).mono ?_)
   rintro e w6 ⟨rfl, hb6⟩
   have hB6 := below_step hB1 hb6
   have r6 := block_later hb6 r1
   clear c0 c1 c2 c3 c4 c5 c6 c7 c8 c9 c10 c11 c12 c13 c14 c15
   have c11 := cell_block r6 11
   have c12 := cell_block r6 12
   have c13 := cell_block r6 13
   cases u2
   · have HF := Lib.hid (show false = v by rw [← HV2.out]; exact (decide_eq_false (fun h => of_decide_eq_false U2.out (B2.out.1 h).2.1)).symm)
     go_wp2_with fail
     go_returns
     exact ⟨ret_bool HF.out, hB6⟩
   have HF : Hid (decide (RoomOk o.x o.y o.rad) = v) := Lib.hid (by rw [← HV2.out, decide_eq_decide, B2.out]; exact ⟨fun h => ⟨⟨hr, hs⟩, of_decide_eq_true U2.out, h⟩, fun h => h.2.2⟩)
   go_wp2_with fail
   (with_reducible refine (ntroom_any _ _ _ _ (of_decide_eq_true U2.out) hr hs HF.out).mono ?_)
   rintro e w7 ⟨rfl, hb7⟩
   go_wp2_with fail
   go_returns
   exact ⟨rfl, below_step hB6 hb7⟩
 have e3 : (o.kind == 3) = false := by simpa using k3
 by_cases k4 : o.kind = 4
 · have e4 : (o.kind == 4) = true := by simpa using k4
   have B2 : Hid (BodyOk o ↔ 0 ≤ o.dep ∧ o.dep ≤ 100000) := Lib.hid (by have h := BODY.out; rw [if_neg k1, if_neg k2, if_neg k3, if_pos k4] at h; exact h)
   clear BODY k1 k2 k3 k4
   rcases Int.lt_or_le o.dep 0 with hr | hr
   · have HF := Lib.hid (show false = v by rw [← HV2.out]; exact (decide_eq_false (fun h => by have := (B2.out.1 h).1; omega)).symm)
     go_wp2_with fail
     go_returns
     exact ⟨ret_bool HF.out, hB1⟩
   rcases Int.lt_or_le 100000 o.dep with hs | hs
   · have HF := Lib.hid (show false = v by rw [← HV2.out]; exact (decide_eq_false (fun h => by have := (B2.out.1 h).2; omega)).symm)
     go_wp2_with fail
     go_returns
     exact ⟨ret_bool (by rw [← HF.out]; exact decide_eq_false (by omega)), hB1⟩
   have HF := Lib.hid (show true = v by rw [← HV2.out]; exact (decide_eq_true (B2.out.2 ⟨hr, hs⟩)).symm)
   go_wp2_with fail
   go_returns
   exact ⟨ret_bool HF.out, hB1⟩
 have e4 : (o.kind == 4) = false := by simpa using k4
 by_cases k5 : o.kind = 5
 · have e5 : (o.kind == 5) = true := by simpa using k5
   have B2 : Hid (BodyOk o ↔ 0 ≤ o.sym ∧ o.sym ≤ 999) := Lib.hid (by have h := BODY.out; rw [if_neg k1, if_neg k2, if_neg k3, if_neg k4, if_pos k5] at h; exact h)
   clear BODY k1 k2 k3 k4 k5
   rcases Int.lt_or_le o.sym 0 with hr | hr
   · have HF := Lib.hid (show false = v by rw [← HV2.out]; exact (decide_eq_false (fun h => by have := (B2.out.1 h).1; omega)).symm)
     go_wp2_with fail
     go_returns
     exact ⟨ret_bool HF.out, hB1⟩
   rcases Int.lt_or_le 999 o.sym with hs | hs
   · have HF := Lib.hid (show false = v by rw [← HV2.out]; exact (decide_eq_false (fun h => by have := (B2.out.1 h).2; omega)).symm)
     go_wp2_with fail
     go_returns
     exact ⟨ret_bool (by rw [← HF.out]; exact decide_eq_false (by omega)), hB1⟩
   have HF := Lib.hid (show true = v by rw [← HV2.out]; exact (decide_eq_true (B2.out.2 ⟨hr, hs⟩)).symm)
   go_wp2_with fail
   go_returns
   exact ⟨ret_bool HF.out, hB1⟩
 have e5 : (o.kind == 5) = false := by simpa using k5
 have HF := Lib.hid (show false = v by rw [← HV2.out]; exact (decide_eq_false (fun h => by have h2 := BODY.out.1 h; rw [if_neg k1, if_neg k2, if_neg k3, if_neg k4, if_neg k5] at h2; exact h2)).symm)
 clear k1 k2 k3 k4 k5 BODY
 go_wp2_with fail
 go_returns
 exact ⟨ret_bool HF.out, hB1⟩
end Go.Proofs.YtdmegkkifiahdaaGreat
