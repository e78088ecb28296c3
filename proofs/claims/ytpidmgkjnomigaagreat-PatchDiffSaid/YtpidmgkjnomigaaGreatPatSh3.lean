/- The walks of what operations do to a sheet: remove, change. -/
import Derived.Test.YtpidmgkjnomigaaGreatPatSh2
namespace Go.Proofs.YtpidmgkjnomigaaGreat
open Go.RowKit
attribute [local go_sem] bqOp bqAll bqUpon sqOp sqAll sqUpon
attribute [local irreducible] wpQuiet wpBQ wpPlan
set_option linter.unusedVariables false
set_option maxHeartbeats 4000000 in
theorem sremove_any (l : List Feat) (id : Int) (b : Nat) (va vs : Value) (w0 w : World) (hs : ShM w0 w b l) (hp : PartsAt w0 noFeat va vs) (hid : IdOk id) :
    Calls Tryz.prog 101 #[.map (some b), opV ⟨2, id, ⟨0, 0, 0, 0, 0, [], 0, 0, []⟩, 0, 0, 0, 0, 0⟩ va vs] w (DeedP w0 b l (delO id) w) := by
  obtain ⟨aa, ca, ab, cb, rfl, rfl⟩ := hp.form
  have SH := Lib.hid hs
  have WF := Lib.hid (wf_id (a := id) (by have := hid.1; omega) (by have := hid.2; omega))
  have hlt := SH.out.lt
  clear hs hp hid
  cases hlk : look l id with
  | none =>
    have his : (look l id).isSome = false := by rw [hlk]; rfl
    have HD : Hid (doO l (delO id) = .error 4) := Lib.hid (by rw [do_delE, hlk])
    clear hlk
    go_enter Tryz.func101, Tryz.ntmps101
    go_wp2_with (first
      | (refine wpList_shLookOk rfl _ _ _ rfl Tryz.underlying67 rfl rfl ((SH.out.alloc _).alloc _) WF.out ?_; intro ff va' vs' hp' hf'; have FP := Lib.hid hp'; have FF := Lib.hid hf'; obtain ⟨fa, fc, fb, fd, rfl, rfl⟩ := hp'.form; clear hp' hf')
      | (refine wpList_store_row rfl _ _ _ rfl _ (#[.int .i64 0, .int .i64 0, .int .i64 0, .int .i64 0, .int .i64 0, .int .i64 0, .int .i64 0, .slice none 0 0, .int .i64 0, .int .i64 0, .slice none 0 0, .int .i64 0, .int .i64 0, .int .i64 0, .int .i64 0, .int .i64 0]) rfl rfl _ _ (block_alloc (block_new_at _ (by simp only [World.size_alloc]))) (by kernel_rfl) (by kernel_rfl) (by kernel_rfl) ?_))
    refine body_named fun WR hW => ?_
    have q2 := (congrArg (fun X : World => X.heap[w.heap.size + 1]?) hW).trans (setRow_heap _ _ _ _ _ _ (block_alloc (block_new_at _ (by simp only [World.size_alloc]))))
    replace q2 : WR.heap[w.heap.size + 1]? = _ := q2
    have hWR : Wr b w WR := by rw [hW]; exact Wr.setRow ((((Wr.refl b w).alloc _).alloc _).alloc _) (by omega) _
    have hSR : ShM w0 WR b (l) := by rw [hW]; exact ShM.setRow (((SH.out.alloc _).alloc _).alloc _) (by omega) _
    clear hW
    exact bodyPost_ret (results_ct rfl _ _ _ _ _ _ _ _ rfl rfl q2 Tryz.underlying53 rfl (by kernel_rfl)) rfl ⟨hWR, noOpn, _, _, _, _, _, _, 4, _, rfl, PartsAt.zero w0, hSR, .inl ⟨HD.out, by decide, rfl⟩⟩
  | some g =>
    have his : (look l id).isSome = true := by rw [hlk]; rfl
    obtain rfl := (look_some hlk).2
    have HD : Hid (doO l (delO g.id) = .ok (delF g.id l, insO g)) := Lib.hid (by rw [do_delE, hlk])
    have HLK := Lib.hid hlk
    clear hlk
    go_enter Tryz.func101, Tryz.ntmps101
    go_wp2_with (first
      | (refine wpList_shLookOk rfl _ _ _ rfl Tryz.underlying67 rfl rfl ((SH.out.alloc _).alloc _) WF.out ?_; intro ff va' vs' hp' hf'; have FP := Lib.hid hp'; obtain rfl : g = ff := (by have := hf'; rw [HLK.out] at this; exact this.symm); clear hf'; obtain ⟨fa, fc, fb, fd, rfl, rfl⟩ := hp'.form; clear hp')
      | (refine wpList_shDrop rfl _ _ _ rfl Tryz.underlying67 rfl rfl (((SH.out.alloc _).alloc _).alloc _) WF.out ?_; intro w1 hs1 ht1; have hT : Wr b _ w1 := ht1.grown; have p3 : w1.heap[w.heap.size + 1]? = _ := hT.block_ne (block_alloc (block_new_at _ (by simp only [World.size_alloc]))) (by omega); have k6 : w1.heap[w.heap.size + 1 + 1]? = _ := hT.block_ne (block_new_at _ (by simp only [World.size_alloc])) (by omega); have k3 : w1.heap[w.heap.size]? = _ := hT.block_ne (block_alloc (block_alloc (block_new w _))) (by omega); have c31 := cell_block k3 1)
      | (refine wpList_load_row rfl 46 _ rfl _ rfl _ _ _ _ k6 Tryz.underlying46 rfl (by kernel_rfl) ?_)
      | (refine wpList_store_row rfl _ _ _ rfl _ (#[.int .i64 1, .int .i64 g.id, .int .i64 g.id, .int .i64 g.kind, .int .i64 g.x, .int .i64 g.y, .int .i64 g.rad, .slice fa g.area.length fc, .int .i64 g.dep, .int .i64 g.sym, .slice fb g.secs.length fd, .int .i64 0, .int .i64 0, .int .i64 0, .int .i64 0, .int .i64 0]) rfl rfl _ _ p3 (by kernel_rfl) (by kernel_rfl) (by kernel_rfl) ?_))
    refine body_named fun WR hW => ?_
    have q2 := (congrArg (fun X : World => X.heap[w.heap.size + 1]?) hW).trans (setRow_heap _ _ _ _ _ _ p3)
    replace q2 : WR.heap[w.heap.size + 1]? = _ := q2
    have hWR : Wr b w WR := by rw [hW]; exact Wr.setRow (((((Wr.refl b w).alloc _).alloc _).alloc _).trans hT) (by omega) _
    have hSR : ShM w0 WR b (delF g.id l) := by rw [hW]; exact ShM.setRow (hs1) (by omega) _
    clear hW
    exact bodyPost_ret (results_ct rfl _ _ _ _ _ _ _ _ rfl rfl q2 Tryz.underlying53 rfl (by kernel_rfl)) rfl ⟨hWR, insO g, _, _, _, _, _, _, 0, _, rfl, FP.out, hSR, .inr ⟨HD.out, rfl⟩⟩
set_option maxHeartbeats 4000000 in
theorem schange_any (l : List Feat) (p : Opn) (b : Nat) (va vs : Value) (w0 w : World) (hs : ShM w0 w b l) (hb0 : Below w0.heap.size w0 w) (hp : PartsAt w0 p.feat va vs) (hl : l.length ≤ 300) (hid : IdOk p.id) (h1 : p.kind ≠ 1) (h2 : p.kind ≠ 2) :
    Calls Tryz.prog 102 #[.map (some b), opV p va vs] w (DeedP w0 b l p w) := by
  obtain ⟨aa, ca, ab, cb, rfl, rfl⟩ := hp.form
  have SH := Lib.hid hs
  have PO := Lib.hid hp
  have B0 := Lib.hid hb0
  have WF := Lib.hid (wf_id (a := p.id) (by have := hid.1; omega) (by have := hid.2; omega))
  have hlt := SH.out.lt
  clear hs hp hid hb0
  cases hlk : look l p.id with
  | none =>
    have his : (look l p.id).isSome = false := by rw [hlk]; rfl
    have HD : Hid (doO l p = .error 4) := Lib.hid (by unfold doO; rw [if_neg h1, hlk])
    clear hlk
    go_enter Tryz.func102, Tryz.ntmps102
    go_wp2_with (first
      | (refine wpList_shLookOk rfl _ _ _ rfl Tryz.underlying67 rfl rfl ((SH.out.alloc _).alloc _) WF.out ?_; intro ff va' vs' hp' hf'; have FP := Lib.hid hp'; have FF := Lib.hid hf'; obtain ⟨fa, fc, fb, fd, rfl, rfl⟩ := hp'.form; clear hp' hf')
      | (refine wpList_store_row rfl _ _ _ rfl _ (#[.int .i64 0, .int .i64 0, .int .i64 0, .int .i64 0, .int .i64 0, .int .i64 0, .int .i64 0, .slice none 0 0, .int .i64 0, .int .i64 0, .slice none 0 0, .int .i64 0, .int .i64 0, .int .i64 0, .int .i64 0, .int .i64 0]) rfl rfl _ _ (block_alloc (block_new_at _ (by simp only [World.size_alloc]))) (by kernel_rfl) (by kernel_rfl) (by kernel_rfl) ?_))
    refine body_named fun WR hW => ?_
    have q2 := (congrArg (fun X : World => X.heap[w.heap.size + 1]?) hW).trans (setRow_heap _ _ _ _ _ _ (block_alloc (block_new_at _ (by simp only [World.size_alloc]))))
    replace q2 : WR.heap[w.heap.size + 1]? = _ := q2
    have hWR : Wr b w WR := by rw [hW]; exact Wr.setRow ((((Wr.refl b w).alloc _).alloc _).alloc _) (by omega) _
    have hSR : ShM w0 WR b (l) := by rw [hW]; exact ShM.setRow (((SH.out.alloc _).alloc _).alloc _) (by omega) _
    clear hW
    exact bodyPost_ret (results_ct rfl _ _ _ _ _ _ _ _ rfl rfl q2 Tryz.underlying53 rfl (by kernel_rfl)) rfl ⟨hWR, noOpn, _, _, _, _, _, _, 4, _, rfl, PartsAt.zero w0, hSR, .inl ⟨HD.out, by decide, rfl⟩⟩
  | some g =>
    have his : (look l p.id).isSome = true := by rw [hlk]; rfl
    have hgi := (look_some hlk).2
    have hlm : l.length < maxLen := by unfold maxLen; omega
    have LM := Lib.hid hlm
    have HLK := Lib.hid hlk
    have HGI := Lib.hid hgi
    clear hlm hgi
    cases hch : chgF g p with
    | none =>
      have HD : Hid (doO l p = .error 12) := Lib.hid (by unfold doO; rw [if_neg h1, hlk]; simp only []; rw [if_neg h2, hch])
      have HC : Hid (chgR g p = (g, ⟨p.kind, p.id, ⟨0, 0, 0, 0, 0, [], 0, 0, []⟩, 0, 0, 0, 0, 0⟩, 12)) := Lib.hid (by unfold chgR; rw [hch]; rfl)
      clear hlk hch h1 h2
      go_enter Tryz.func102, Tryz.ntmps102
      go_wp2_with (first
        | (refine wpList_shLookOk rfl _ _ _ rfl Tryz.underlying67 rfl rfl ((SH.out.alloc _).alloc _) WF.out ?_; intro ff va' vs' hp' hf'; have FP := Lib.hid hp'; obtain rfl : g = ff := (by have := hf'; rw [HLK.out] at this; exact this.symm); clear hf'; obtain ⟨fa, fc, fb, fd, rfl, rfl⟩ := hp'.form; clear hp')
        | (refine wpList_load_row rfl 46 _ rfl _ rfl _ _ _ _ (block_new_at _ (by simp only [World.size_alloc])) Tryz.underlying46 rfl (by kernel_rfl) ?_)
        | (refine wpList_load_row rfl 53 _ rfl _ rfl _ _ _ _ (block_alloc (block_alloc (block_new w _))) Tryz.underlying53 rfl (by kernel_rfl) ?_))
      refine calls_named fun W hW => ?_
      have SW : ShM w0 W b l := by rw [hW]; exact ((SH.out.alloc _).alloc _).alloc _
      obtain ⟨p1, p2, p3, hB⟩ := box3 hW
      clear hW
      have B1 := B0.out.trans (hB.mono B0.out.size)
      (with_reducible refine (pachanged_any g p _ _ _ _ _ (FP.out.later B1) (PO.out.later B1) HC.out).mono ?_)
      rintro e w1 ⟨rfl, hb1⟩
      have hB1 := below_step hB hb1
      have S1 := Lib.hid (SW.below hb1)
      have q1 := block_later hb1 p1
      have q2 := block_later hb1 p2
      clear p1 p2 p3 SW
      go_upto_region 5 with (fail)
      refine wp_named fun W5 hW => ?_
      have r1 := (congrArg (fun X : World => X.heap[w.heap.size]?) hW).trans (block_alloc (block_alloc q1))
      replace r1 : W5.heap[w.heap.size]? = _ := r1
      have r2 := (congrArg (fun X : World => X.heap[w.heap.size + 1]?) hW).trans (block_alloc (block_alloc q2))
      replace r2 : W5.heap[w.heap.size + 1]? = _ := r2
      have S5 := Lib.hid (show ShM w0 W5 b l by rw [hW]; exact (S1.out.alloc _).alloc _)
      obtain ⟨r3, r4, hB5⟩ := box2 hW
      clear hW q1 q2
      have WR5 : Wr b w W5 := (Wr.of_below hB1).trans (Wr.of_below hB5)
      have hsz := hB1.size
      have hsz5 := hB5.size
      have c51 := cell_block r1 1
      go_wp2_with (first
        | (refine wpList_store_row rfl _ _ _ rfl _ (#[.int .i64 0, .int .i64 0, .int .i64 0, .int .i64 0, .int .i64 0, .int .i64 0, .int .i64 0, .slice none 0 0, .int .i64 0, .int .i64 0, .slice none 0 0, .int .i64 0, .int .i64 0, .int .i64 0, .int .i64 0, .int .i64 0]) rfl rfl _ _ r2 (by kernel_rfl) (by kernel_rfl) (by kernel_rfl) ?_))
      refine body_named fun WR hW => ?_
      have q2 := (congrArg (fun X : World => X.heap[w.heap.size + 1]?) hW).trans (setRow_heap _ _ _ _ _ _ r2)
      replace q2 : WR.heap[w.heap.size + 1]? = _ := q2
      have hWR : Wr b w WR := by rw [hW]; exact Wr.setRow (WR5) (by omega) _
      have hSR : ShM w0 WR b (l) := by rw [hW]; exact ShM.setRow (S5.out) (by omega) _
      clear hW
      exact bodyPost_ret (results_ct rfl _ _ _ _ _ _ _ _ rfl rfl q2 Tryz.underlying53 rfl (by kernel_rfl)) rfl ⟨hWR, noOpn, _, _, _, _, _, _, 12, _, rfl, PartsAt.zero w0, hSR, .inl ⟨HD.out, by decide, rfl⟩⟩
    | some g' =>
      have HD : Hid (doO l p = .ok (putF g' l, bakF g p)) := Lib.hid (by unfold doO; rw [if_neg h1, hlk]; simp only []; rw [if_neg h2, hch])
      have HC : Hid (chgR g p = (g', bakF g p, 0)) := Lib.hid (by unfold chgR; rw [hch])
      have hgi' : g'.id = p.id := by rw [(chgF_id hch).1, HGI.out]
      have HAR : Hid (g'.area = g.area ∧ g'.secs = g.secs) := Lib.hid ⟨(chgF_id hch).2.2.1, (chgF_id hch).2.2.2⟩
      have HBF : Hid ((bakF g p).feat = noFeat) := Lib.hid (by unfold bakF; split; rfl; split <;> rfl)
      have HG2 := Lib.hid hgi'
      clear hlk hch h1 h2 hgi'
      go_enter Tryz.func102, Tryz.ntmps102
      go_wp2_with (first
        | (refine wpList_shLookOk rfl _ _ _ rfl Tryz.underlying67 rfl rfl ((SH.out.alloc _).alloc _) WF.out ?_; intro ff va' vs' hp' hf'; have FP := Lib.hid hp'; obtain rfl : g = ff := (by have := hf'; rw [HLK.out] at this; exact this.symm); clear hf'; obtain ⟨fa, fc, fb, fd, rfl, rfl⟩ := hp'.form; clear hp')
        | (refine wpList_load_row rfl 46 _ rfl _ rfl _ _ _ _ (block_new_at _ (by simp only [World.size_alloc])) Tryz.underlying46 rfl (by kernel_rfl) ?_)
        | (refine wpList_load_row rfl 53 _ rfl _ rfl _ _ _ _ (block_alloc (block_alloc (block_new w _))) Tryz.underlying53 rfl (by kernel_rfl) ?_))
      refine calls_named fun W hW => ?_
      have SW : ShM w0 W b l := by rw [hW]; exact ((SH.out.alloc _).alloc _).alloc _
      obtain ⟨p1, p2, p3, hB⟩ := box3 hW
      clear hW
      have B1 := B0.out.trans (hB.mono B0.out.size)
      (with_reducible refine (pachanged_any g p _ _ _ _ _ (FP.out.later B1) (PO.out.later B1) HC.out).mono ?_)
      rintro e w1 ⟨rfl, hb1⟩
      have hB1 := below_step hB hb1
      have S1 := Lib.hid (SW.below hb1)
      have q1 := block_later hb1 p1
      have q2 := block_later hb1 p2
      clear p1 p2 p3 SW
      go_upto_region 5 with (fail)
      refine wp_named fun W5 hW => ?_
      have r1 := (congrArg (fun X : World => X.heap[w.heap.size]?) hW).trans (block_alloc (block_alloc q1))
      replace r1 : W5.heap[w.heap.size]? = _ := r1
      have r2 := (congrArg (fun X : World => X.heap[w.heap.size + 1]?) hW).trans (block_alloc (block_alloc q2))
      replace r2 : W5.heap[w.heap.size + 1]? = _ := r2
      have S5 := Lib.hid (show ShM w0 W5 b l by rw [hW]; exact (S1.out.alloc _).alloc _)
      obtain ⟨r3, r4, hB5⟩ := box2 hW
      clear hW q1 q2
      have WR5 : Wr b w W5 := (Wr.of_below hB1).trans (Wr.of_below hB5)
      have hsz := hB1.size
      have hsz5 := hB5.size
      have c51 := cell_block r1 1
      have PG : Hid (PartsAt w0 g' (.slice fa g.area.length fc) (.slice fb g.secs.length fd)) := Lib.hid (by have h := FP.out; unfold PartsAt at h ⊢; rw [HAR.out.1, HAR.out.2]; exact h)
      have WG : Hid ((Lit.int .i64 g'.id).wf = true) := Lib.hid (by rw [HG2.out]; exact WF.out)
      go_wp2_with (first
        | (refine wpList_load_row rfl 46 _ rfl _ rfl _ _ _ _ r3 Tryz.underlying46 rfl (by kernel_rfl) ?_)
        | (refine wpList_shStore rfl _ _ _ _ rfl Tryz.underlying67 (f := g') rfl (by rw [HG2.out]; rfl) rfl S5.out WG.out PG.out LM.out ?_; intro w6 hs6 ht6; have hT : Wr b _ w6 := ht6.grown; have t2 : w6.heap[w.heap.size + 1]? = _ := hT.block_ne r2 (by omega); have t4 : w6.heap[w1.heap.size + 1]? = _ := hT.block_ne r4 (by omega))
        | (refine wpList_load_row rfl 53 _ rfl _ rfl _ _ _ _ t4 Tryz.underlying53 rfl (by kernel_rfl) ?_)
        | (refine wpList_store_row rfl _ _ _ rfl _ (#[.int .i64 (bakF g p).kind, .int .i64 (bakF g p).id, .int .i64 (bakF g p).feat.id, .int .i64 (bakF g p).feat.kind, .int .i64 (bakF g p).feat.x, .int .i64 (bakF g p).feat.y, .int .i64 (bakF g p).feat.rad, .slice none 0 0, .int .i64 (bakF g p).feat.dep, .int .i64 (bakF g p).feat.sym, .slice none 0 0, .int .i64 (bakF g p).x, .int .i64 (bakF g p).y, .int .i64 (bakF g p).rad, .int .i64 (bakF g p).dep, .int .i64 (bakF g p).sym]) rfl rfl _ _ t2 (by kernel_rfl) (by kernel_rfl) (by kernel_rfl) ?_))
      refine body_named fun WR hW => ?_
      have q2 := (congrArg (fun X : World => X.heap[w.heap.size + 1]?) hW).trans (setRow_heap _ _ _ _ _ _ t2)
      replace q2 : WR.heap[w.heap.size + 1]? = _ := q2
      have hWR : Wr b w WR := by rw [hW]; exact Wr.setRow (WR5.trans hT) (by omega) _
      have hSR : ShM w0 WR b (putF g' l) := by rw [hW]; exact ShM.setRow (hs6) (by omega) _
      clear hW
      exact bodyPost_ret (results_ct rfl _ _ _ _ _ _ _ _ rfl rfl q2 Tryz.underlying53 rfl (by kernel_rfl)) rfl ⟨hWR, bakF g p, _, _, _, _, _, _, 0, _, rfl, (by rw [HBF.out]; exact PartsAt.zero w0), hSR, .inr ⟨HD.out, rfl⟩⟩
end Go.Proofs.YtpidmgkjnomigaaGreat
