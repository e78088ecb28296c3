/- The walk of said.hear: a change of a feature that is known. -/
import Derived.Test.YtpidmgkjnomigaaGreatPatHear
import Derived.Deep.CutRange
namespace Go.Proofs.YtpidmgkjnomigaaGreat
open Go.RowKit
attribute [local go_sem] bqOp bqAll bqUpon sqOp sqAll sqUpon ssAll
attribute [local irreducible] wpQuiet wpBQ wpPlan wsPlan
set_option linter.unusedVariables false
theorem wp_storeP {P : Program} {ops : Array Oper} {W : World} {Q : Exit → Act → World → Prop} {b : Nat} {p : Plan} {l rest : List Oper} {o : Oper} {a : Act} {w : World} (hb : bring b l = o :: rest) (hgd : o.guard = none) (ty : TypeId) (x y : Operand) (ho : o.op = .store ty x y)
    (g : Nat) (cells : Array Value) (hx : a.eval x = .pointer (some ⟨g, 0, none⟩)) (hy : a.eval y = .agg cells)
    (t : TypeId) (old : Array Value) (hg : w.heap[g]? = some (.cells old t (0, 0))) (hi : (P.info? ty).map (·.size) = some cells.size)
    (hold : old.size = cells.size) (h1 : cells.all (·.oneCell') = true) (hS : Below W.heap.size W (w.setRow g cells))
    (h : Below W.heap.size W (w.setRow g cells) → wpPlan P ops W Q p rest (a.put o.dst undef) (w.setRow g cells)) : wpPlan P ops W Q (.only b p) l a w := by
  refine wpPlan_only hb fun K hK => ?_
  rw [if_pos (wanted_plain hgd)]
  exact wp_store_row ty x y ho g cells hx hy t old hg hi hold h1 (hK _ _ hS h)
theorem Wr2.below {B m N : Nat} {w w' : World} (h : Wr2 B m w w') (hB : N ≤ B) (hm : N ≤ m) (hw : N ≤ w.heap.size) : Below N w w' := ⟨h.os, h.tape, h.output, h.size, fun k hk => h.block k (by omega) (by omega) (by omega)⟩
set_option maxHeartbeats 8000000 in
theorem hear_chg_no (B m n : Nat) (before deleted there known : Bool) (f : Feat) (mv dp sy : Option Opn) (o : Opn) (fa fb aa ab : Option Addr) (n1 n2 m1 m2 fc fd ca cb : Nat) (w0 w : World) (g : Feat) (bk : Opn) (er : Int) (hq : w.heap[B]? = some (.cells #[.bool true, .bool before, .bool deleted, .bool there, .bool known, .int .i64 f.id, .int .i64 f.kind, .int .i64 f.x, .int .i64 f.y, .int .i64 f.rad, (.slice fa n1 fc), .int .i64 f.dep, .int .i64 f.sym, (.slice fb n2 fd), .map (some m)] 77 (0, 0))) (hf : PartsAt w0 f (.slice fa n1 fc) (.slice fb n2 fd)) (hm : FldM w0 w m n ⟨true, before, deleted, there, known, f, mv, dp, sy⟩) (hne : B ≠ m) (ho : PartsAt w0 o.feat (.slice aa m1 ca) (.slice ab m2 cb)) (hb0 : Below w0.heap.size w0 w) (hc : chgR f o = (g, bk, er)) (ne1 : ¬ o.kind = 1) (ne2 : ¬ o.kind = 2) (ht : there = true) (hkn : known = true) (hch : chgF f o = none) : Calls Tryz.prog 49 #[.pointer (some ⟨B, 0, none⟩), opV o (.slice aa m1 ca) (.slice ab m2 cb)] w (HearP w0 B m n ⟨true, before, deleted, there, known, f, mv, dp, sy⟩ o w) := by
  have HE : Hid (hearS ⟨true, before, deleted, there, known, f, mv, dp, sy⟩ o = (⟨true, before, deleted, there, known, f, mv, dp, sy⟩, false)) := Lib.hid (by unfold hearS beginS stepS; simp [ne1, ne2, ht, hkn, hch])
  have e1 : (o.kind == 1) = false := by simpa using ne1
  have e2 : (o.kind == 2) = false := by simpa using ne2
  have HC := Lib.hid hc
  have HB0 := Lib.hid hb0
  have hx : chgR f o = (f, ⟨o.kind, o.id, noFeat, 0, 0, 0, 0, 0⟩, 12) := by unfold chgR; rw [hch]
  have dE : (er == 0) = false := by rw [hx] at hc; simp only [Prod.mk.injEq] at hc; rw [← hc.2.2]; rfl
  clear hx hch
  have Q0 := Lib.hid hq
  have FM := Lib.hid hm
  have PF := Lib.hid hf
  have PO := Lib.hid ho
  have hml := hm.lt
  have hBl := lt_block hq
  clear hq hm hf ho
  subst ht hkn
  clear ne1 ne2 hc hb0
  go_enter Tryz.func49, Tryz.ntmps49
  go_upto_region 2 with (fail)
  refine wp_named fun W hW => ?_
  obtain ⟨p1, hB⟩ := box1 hW
  clear hW
  have q1 := block_later hB Q0.out
  have F1 := Lib.hid (FM.out.keep (hB.block m hml))
  have R1 : Wr2 B m w W := Wr2.of_below hB
  have k0 := cell_block q1 0
  have k1 := cell_block q1 1
  have k2 := cell_block q1 2
  have k3 := cell_block q1 3
  have k4 := cell_block q1 4
  have k5 := cell_block q1 5
  have k6 := cell_block q1 6
  have k7 := cell_block q1 7
  have k8 := cell_block q1 8
  have k9 := cell_block q1 9
  have k10 := cell_block q1 10
  have k11 := cell_block q1 11
  have k12 := cell_block q1 12
  have k13 := cell_block q1 13
  have k14 := cell_block q1 14
  have kf := free_block q1
  have c0 := cell_block p1 0
  have kq := cellsR q1
  have kp := cellsR p1
  have BW0 : Below w0.heap.size w0 W := HB0.out.trans (hB.mono HB0.out.size)
  go_upto_region 12 with (fail)
  go_cut [6, 7, 8] from 74 to 83 (fun s6 s7 s8 wx => ∃ b6 : Nat, s6 = .pointer (some ⟨b6, 0, none⟩) ∧ s8 = .int .i64 er ∧ wx.heap[b6]? = some (.cells #[.int .i64 g.id, .int .i64 g.kind, .int .i64 g.x, .int .i64 g.y, .int .i64 g.rad, (.slice fa n1 fc), .int .i64 g.dep, .int .i64 g.sym, (.slice fb n2 fd)] 46 (0, 0)) ∧ Below W.heap.size W wx)
  case first =>
    refine wp_region_plan (.take 0 (.take 0 (.take 0 (.take 0 (.take 0 (.three 0 (.take 0 (.take 0 (.take 0 (.take 0 (.two 0 (.only 0 (.only 0 (.only 0 (.take 0 .done)))) 1 (.only 0 (.only 0 (.only 0 (.take 0 .done))))))))) 5 (.two 0 (.take 0 (.take 0 (.take 0 (.take 0 (.only 0 (.only 0 (.only 0 (.take 0 .done)))))))) 5 (.only 0 (.take 0 (.take 0 (.take 0 (.take 0 (.only 0 (.only 0 (.take 0 .done))))))))) 6 (.two 0 (.take 0 (.take 0 (.take 0 (.take 0 (.only 0 (.only 0 (.only 0 (.take 0 .done)))))))) 5 (.only 0 (.take 0 (.take 0 (.take 0 (.take 0 (.only 0 (.only 0 (.take 0 .done))))))))))))))) (by kernel_rfl) (by kernel_rfl) (fun hP => ?_)
    (refine wpPlan_take rfl (fun K hK => ?_); replace hK := Lib.hid hK; go_simp; first | (refine hK.out _ ?_; clear hK K) | (apply Exists.intro; refine ⟨fun _ => ?_, hK.out _ ?_⟩; (first | with_reducible exact rfl | skip); clear hK K))
    (refine wpPlan_take rfl (fun K hK => ?_); replace hK := Lib.hid hK; go_simp; first | (refine hK.out _ ?_; clear hK K) | (apply Exists.intro; refine ⟨fun _ => ?_, hK.out _ ?_⟩; (first | with_reducible exact rfl | skip); clear hK K))
    (refine wpPlan_take rfl (fun K hK => ?_); replace hK := Lib.hid hK; go_simp; first | (refine hK.out _ ?_; clear hK K) | (apply Exists.intro; refine ⟨fun _ => ?_, hK.out _ ?_⟩; (first | with_reducible exact rfl | skip); clear hK K))
    (refine wpPlan_take rfl (fun K hK => ?_); replace hK := Lib.hid hK; go_simp; first | (refine hK.out _ ?_; clear hK K) | (apply Exists.intro; refine ⟨fun _ => ?_, hK.out _ ?_⟩; (first | with_reducible exact rfl | skip); clear hK K))
    refine wp_loadP rfl (by kernel_rfl) 53 _ rfl _ rfl _ _ _ _ p1 Tryz.underlying53 rfl (by kernel_rfl) ?_
    clear kq kp k0 k1 k2 k3 k4 k5 k6 k7 k8 k9 k10 k11 k12 k13 k14 kf c0
    refine wpPlan_three ?_ ?_ ?_
    · (refine wpPlan_only rfl (fun K hK => ?_); replace hK := Lib.hid hK; go_simp; go_at_call 79; (with_reducible refine (pachanged_any f o _ _ _ _ _ (PF.out.later (BW0.trans (hP.mono BW0.size))) (PO.out.later (BW0.trans (hP.mono BW0.size))) HC.out).mono ?_); rintro e w1 ⟨rfl, hb1⟩; refine hK.out _ _ (below_step hP hb1) (fun hP2 => ?_); clear hK K)
      have hs1 : W.heap.size + 0 ≤ w1.heap.size := Nat.le_trans (Nat.le_of_eq (by first | rfl | (simp only [World.size_alloc]; rfl) | simp)) hb1.size
      clear hP
      have hP := hP2
      clear hP2
      (refine wpPlan_take rfl (fun K hK => ?_); replace hK := Lib.hid hK; go_simp; first | (refine hK.out _ ?_; clear hK K) | (apply Exists.intro; refine ⟨fun _ => ?_, hK.out _ ?_⟩; (first | with_reducible exact rfl | skip); clear hK K))
      (refine wpPlan_take rfl (fun K hK => ?_); replace hK := Lib.hid hK; go_simp; first | (refine hK.out _ ?_; clear hK K) | (apply Exists.intro; refine ⟨fun _ => ?_, hK.out _ ?_⟩; (first | with_reducible exact rfl | skip); clear hK K))
      (refine wpPlan_take rfl (fun K hK => ?_); replace hK := Lib.hid hK; go_simp; first | (refine hK.out _ ?_; clear hK K) | (apply Exists.intro; refine ⟨fun _ => ?_, hK.out _ ?_⟩; (first | with_reducible exact rfl | skip); clear hK K))
      (refine wpPlan_take rfl (fun K hK => ?_); replace hK := Lib.hid hK; go_simp; first | (refine hK.out _ ?_; clear hK K) | (apply Exists.intro; refine ⟨fun _ => ?_, hK.out _ ?_⟩; (first | with_reducible exact rfl | skip); clear hK K))
      refine wpPlan_two ?_ ?_
      · (refine wpPlan_only rfl (fun K hK => ?_); replace hK := Lib.hid hK; go_simp; refine hK.out _ _ (hP.alloc hP.size _) (fun hP2 => ?_); clear hK K)
        have rA : ((w1).alloc (.cells #[.int .i64 0, .int .i64 0, .int .i64 0, .int .i64 0, .int .i64 0, .slice none 0 0, .int .i64 0, .int .i64 0, .slice none 0 0] 46 (0, 0))).heap[w1.heap.size]? = some (.cells #[.int .i64 0, .int .i64 0, .int .i64 0, .int .i64 0, .int .i64 0, .slice none 0 0, .int .i64 0, .int .i64 0, .slice none 0 0] 46 (0, 0)) := block_new_at _ (by first | rfl | (simp only [World.size_alloc] <;> rfl))
        clear hP
        have hP := hP2
        clear hP2
        (refine wpPlan_only rfl (fun K hK => ?_); replace hK := Lib.hid hK; go_simp; refine hK.out _ _ (hP.alloc hP.size _) (fun hP2 => ?_); clear hK K)
        replace rA := block_alloc (o' := .cells #[.int .i64 0, .int .i64 0, .int .i64 0, .int .i64 0, .int .i64 0, .int .i64 0, .int .i64 0, .slice none 0 0, .int .i64 0, .int .i64 0, .slice none 0 0, .int .i64 0, .int .i64 0, .int .i64 0, .int .i64 0, .int .i64 0] 53 (0, 0)) rA
        have rD : (((w1).alloc (.cells #[.int .i64 0, .int .i64 0, .int .i64 0, .int .i64 0, .int .i64 0, .slice none 0 0, .int .i64 0, .int .i64 0, .slice none 0 0] 46 (0, 0))).alloc (.cells #[.int .i64 0, .int .i64 0, .int .i64 0, .int .i64 0, .int .i64 0, .int .i64 0, .int .i64 0, .slice none 0 0, .int .i64 0, .int .i64 0, .slice none 0 0, .int .i64 0, .int .i64 0, .int .i64 0, .int .i64 0, .int .i64 0] 53 (0, 0))).heap[w1.heap.size + 1]? = some (.cells #[.int .i64 0, .int .i64 0, .int .i64 0, .int .i64 0, .int .i64 0, .int .i64 0, .int .i64 0, .slice none 0 0, .int .i64 0, .int .i64 0, .slice none 0 0, .int .i64 0, .int .i64 0, .int .i64 0, .int .i64 0, .int .i64 0] 53 (0, 0)) := block_new_at _ (by first | rfl | (simp only [World.size_alloc] <;> rfl))
        clear hP
        have hP := hP2
        clear hP2
        have hne2 : w1.heap.size ≠ w1.heap.size + 1 := by omega
        have hlA : W.heap.size ≤ w1.heap.size := by omega
        have hlD : W.heap.size ≤ w1.heap.size + 1 := by omega
        refine wp_storeP rfl rfl 46 _ _ rfl _ (#[.int .i64 g.id, .int .i64 g.kind, .int .i64 g.x, .int .i64 g.y, .int .i64 g.rad, (.slice fa n1 fc), .int .i64 g.dep, .int .i64 g.sym, (.slice fb n2 fd)]) rfl rfl _ _ rA (by kernel_rfl) (by kernel_rfl) (by kernel_rfl) (below_setRow hP hlA _) (fun hP => ?_)
        refine wp_storeP rfl rfl 53 _ _ rfl _ (#[.int .i64 bk.kind, .int .i64 bk.id, .int .i64 bk.feat.id, .int .i64 bk.feat.kind, .int .i64 bk.feat.x, .int .i64 bk.feat.y, .int .i64 bk.feat.rad, .slice none 0 0, .int .i64 bk.feat.dep, .int .i64 bk.feat.sym, .slice none 0 0, .int .i64 bk.x, .int .i64 bk.y, .int .i64 bk.rad, .int .i64 bk.dep, .int .i64 bk.sym]) rfl rfl _ _ ((setRow_other _ _ _ _ hne2.symm).trans rD) (by kernel_rfl) (by kernel_rfl) (by kernel_rfl) (below_setRow hP hlD _) (fun hP => ?_)
        (refine wpPlan_take rfl (fun K hK => ?_); replace hK := Lib.hid hK; go_simp; first | (refine hK.out _ ?_; clear hK K) | (apply Exists.intro; refine ⟨fun _ => ?_, hK.out _ ?_⟩; (first | with_reducible exact rfl | skip); clear hK K))
        refine wpPlan_done ?_
        go_wp2_with fail
        go_meet
        exact ⟨_, rfl, rfl, (setRow_other _ _ _ _ hne2).trans (setRow_heap _ _ _ _ _ _ rA), hP⟩
      · (refine wpPlan_only rfl (fun K hK => ?_); replace hK := Lib.hid hK; go_simp; refine hK.out _ _ (hP.alloc hP.size _) (fun hP2 => ?_); clear hK K)
        have rD : ((w1).alloc (.cells #[.int .i64 0, .int .i64 0, .int .i64 0, .int .i64 0, .int .i64 0, .int .i64 0, .int .i64 0, .slice none 0 0, .int .i64 0, .int .i64 0, .slice none 0 0, .int .i64 0, .int .i64 0, .int .i64 0, .int .i64 0, .int .i64 0] 53 (0, 0))).heap[w1.heap.size]? = some (.cells #[.int .i64 0, .int .i64 0, .int .i64 0, .int .i64 0, .int .i64 0, .int .i64 0, .int .i64 0, .slice none 0 0, .int .i64 0, .int .i64 0, .slice none 0 0, .int .i64 0, .int .i64 0, .int .i64 0, .int .i64 0, .int .i64 0] 53 (0, 0)) := block_new_at _ (by first | rfl | (simp only [World.size_alloc] <;> rfl))
        clear hP
        have hP := hP2
        clear hP2
        (refine wpPlan_only rfl (fun K hK => ?_); replace hK := Lib.hid hK; go_simp; refine hK.out _ _ (hP.alloc hP.size _) (fun hP2 => ?_); clear hK K)
        replace rD := block_alloc (o' := .cells #[.int .i64 0, .int .i64 0, .int .i64 0, .int .i64 0, .int .i64 0, .slice none 0 0, .int .i64 0, .int .i64 0, .slice none 0 0] 46 (0, 0)) rD
        have rA : (((w1).alloc (.cells #[.int .i64 0, .int .i64 0, .int .i64 0, .int .i64 0, .int .i64 0, .int .i64 0, .int .i64 0, .slice none 0 0, .int .i64 0, .int .i64 0, .slice none 0 0, .int .i64 0, .int .i64 0, .int .i64 0, .int .i64 0, .int .i64 0] 53 (0, 0))).alloc (.cells #[.int .i64 0, .int .i64 0, .int .i64 0, .int .i64 0, .int .i64 0, .slice none 0 0, .int .i64 0, .int .i64 0, .slice none 0 0] 46 (0, 0))).heap[w1.heap.size + 1]? = some (.cells #[.int .i64 0, .int .i64 0, .int .i64 0, .int .i64 0, .int .i64 0, .slice none 0 0, .int .i64 0, .int .i64 0, .slice none 0 0] 46 (0, 0)) := block_new_at _ (by first | rfl | (simp only [World.size_alloc] <;> rfl))
        clear hP
        have hP := hP2
        clear hP2
        have hne2 : w1.heap.size + 1 ≠ w1.heap.size := by omega
        have hlA : W.heap.size ≤ w1.heap.size + 1 := by omega
        have hlD : W.heap.size ≤ w1.heap.size := by omega
        refine wp_storeP rfl rfl 46 _ _ rfl _ (#[.int .i64 g.id, .int .i64 g.kind, .int .i64 g.x, .int .i64 g.y, .int .i64 g.rad, (.slice fa n1 fc), .int .i64 g.dep, .int .i64 g.sym, (.slice fb n2 fd)]) rfl rfl _ _ rA (by kernel_rfl) (by kernel_rfl) (by kernel_rfl) (below_setRow hP hlA _) (fun hP => ?_)
        refine wp_storeP rfl rfl 53 _ _ rfl _ (#[.int .i64 bk.kind, .int .i64 bk.id, .int .i64 bk.feat.id, .int .i64 bk.feat.kind, .int .i64 bk.feat.x, .int .i64 bk.feat.y, .int .i64 bk.feat.rad, .slice none 0 0, .int .i64 bk.feat.dep, .int .i64 bk.feat.sym, .slice none 0 0, .int .i64 bk.x, .int .i64 bk.y, .int .i64 bk.rad, .int .i64 bk.dep, .int .i64 bk.sym]) rfl rfl _ _ ((setRow_other _ _ _ _ hne2.symm).trans rD) (by kernel_rfl) (by kernel_rfl) (by kernel_rfl) (below_setRow hP hlD _) (fun hP => ?_)
        (refine wpPlan_take rfl (fun K hK => ?_); replace hK := Lib.hid hK; go_simp; first | (refine hK.out _ ?_; clear hK K) | (apply Exists.intro; refine ⟨fun _ => ?_, hK.out _ ?_⟩; (first | with_reducible exact rfl | skip); clear hK K))
        refine wpPlan_done ?_
        go_wp2_with fail
        go_meet
        exact ⟨_, rfl, rfl, (setRow_other _ _ _ _ hne2).trans (setRow_heap _ _ _ _ _ _ rA), hP⟩
    · (refine wpPlan_only rfl (fun K hK => ?_); replace hK := Lib.hid hK; go_simp; refine hK.out _ _ (hP.alloc hP.size _) (fun hP2 => ?_); clear hK K)
      have rA : ((W.drew).alloc (.cells #[.int .i64 0, .int .i64 0, .int .i64 0, .int .i64 0, .int .i64 0, .slice none 0 0, .int .i64 0, .int .i64 0, .slice none 0 0] 46 (0, 0))).heap[W.heap.size]? = some (.cells #[.int .i64 0, .int .i64 0, .int .i64 0, .int .i64 0, .int .i64 0, .slice none 0 0, .int .i64 0, .int .i64 0, .slice none 0 0] 46 (0, 0)) := block_new_at _ (by first | rfl | (simp only [World.size_alloc] <;> rfl))
      clear hP
      have hP := hP2
      clear hP2
      refine wpPlan_two ?_ ?_
      · (refine wpPlan_only rfl (fun K hK => ?_); replace hK := Lib.hid hK; go_simp; go_at_call 79; (with_reducible refine (pachanged_any f o _ _ _ _ _ (PF.out.later (BW0.trans (hP.mono BW0.size))) (PO.out.later (BW0.trans (hP.mono BW0.size))) HC.out).mono ?_); rintro e w1 ⟨rfl, hb1⟩; refine hK.out _ _ (below_step hP hb1) (fun hP2 => ?_); clear hK K)
        replace rA := block_later hb1 rA
        have hs1 : W.heap.size + 1 ≤ w1.heap.size := Nat.le_trans (Nat.le_of_eq (by first | rfl | (simp only [World.size_alloc]; rfl) | simp)) hb1.size
        clear hP
        have hP := hP2
        clear hP2
        (refine wpPlan_take rfl (fun K hK => ?_); replace hK := Lib.hid hK; go_simp; first | (refine hK.out _ ?_; clear hK K) | (apply Exists.intro; refine ⟨fun _ => ?_, hK.out _ ?_⟩; (first | with_reducible exact rfl | skip); clear hK K))
        (refine wpPlan_take rfl (fun K hK => ?_); replace hK := Lib.hid hK; go_simp; first | (refine hK.out _ ?_; clear hK K) | (apply Exists.intro; refine ⟨fun _ => ?_, hK.out _ ?_⟩; (first | with_reducible exact rfl | skip); clear hK K))
        (refine wpPlan_take rfl (fun K hK => ?_); replace hK := Lib.hid hK; go_simp; first | (refine hK.out _ ?_; clear hK K) | (apply Exists.intro; refine ⟨fun _ => ?_, hK.out _ ?_⟩; (first | with_reducible exact rfl | skip); clear hK K))
        (refine wpPlan_take rfl (fun K hK => ?_); replace hK := Lib.hid hK; go_simp; first | (refine hK.out _ ?_; clear hK K) | (apply Exists.intro; refine ⟨fun _ => ?_, hK.out _ ?_⟩; (first | with_reducible exact rfl | skip); clear hK K))
        (refine wpPlan_only rfl (fun K hK => ?_); replace hK := Lib.hid hK; go_simp; refine hK.out _ _ (hP.alloc hP.size _) (fun hP2 => ?_); clear hK K)
        replace rA := block_alloc (o' := .cells #[.int .i64 0, .int .i64 0, .int .i64 0, .int .i64 0, .int .i64 0, .int .i64 0, .int .i64 0, .slice none 0 0, .int .i64 0, .int .i64 0, .slice none 0 0, .int .i64 0, .int .i64 0, .int .i64 0, .int .i64 0, .int .i64 0] 53 (0, 0)) rA
        have rD : ((w1).alloc (.cells #[.int .i64 0, .int .i64 0, .int .i64 0, .int .i64 0, .int .i64 0, .int .i64 0, .int .i64 0, .slice none 0 0, .int .i64 0, .int .i64 0, .slice none 0 0, .int .i64 0, .int .i64 0, .int .i64 0, .int .i64 0, .int .i64 0] 53 (0, 0))).heap[w1.heap.size]? = some (.cells #[.int .i64 0, .int .i64 0, .int .i64 0, .int .i64 0, .int .i64 0, .int .i64 0, .int .i64 0, .slice none 0 0, .int .i64 0, .int .i64 0, .slice none 0 0, .int .i64 0, .int .i64 0, .int .i64 0, .int .i64 0, .int .i64 0] 53 (0, 0)) := block_new_at _ (by first | rfl | (simp only [World.size_alloc] <;> rfl))
        clear hP
        have hP := hP2
        clear hP2
        have hne2 : W.heap.size ≠ w1.heap.size := by omega
        have hlA : W.heap.size ≤ W.heap.size := by omega
        have hlD : W.heap.size ≤ w1.heap.size := by omega
        refine wp_storeP rfl rfl 46 _ _ rfl _ (#[.int .i64 g.id, .int .i64 g.kind, .int .i64 g.x, .int .i64 g.y, .int .i64 g.rad, (.slice fa n1 fc), .int .i64 g.dep, .int .i64 g.sym, (.slice fb n2 fd)]) rfl rfl _ _ rA (by kernel_rfl) (by kernel_rfl) (by kernel_rfl) (below_setRow hP hlA _) (fun hP => ?_)
        refine wp_storeP rfl rfl 53 _ _ rfl _ (#[.int .i64 bk.kind, .int .i64 bk.id, .int .i64 bk.feat.id, .int .i64 bk.feat.kind, .int .i64 bk.feat.x, .int .i64 bk.feat.y, .int .i64 bk.feat.rad, .slice none 0 0, .int .i64 bk.feat.dep, .int .i64 bk.feat.sym, .slice none 0 0, .int .i64 bk.x, .int .i64 bk.y, .int .i64 bk.rad, .int .i64 bk.dep, .int .i64 bk.sym]) rfl rfl _ _ ((setRow_other _ _ _ _ hne2.symm).trans rD) (by kernel_rfl) (by kernel_rfl) (by kernel_rfl) (below_setRow hP hlD _) (fun hP => ?_)
        (refine wpPlan_take rfl (fun K hK => ?_); replace hK := Lib.hid hK; go_simp; first | (refine hK.out _ ?_; clear hK K) | (apply Exists.intro; refine ⟨fun _ => ?_, hK.out _ ?_⟩; (first | with_reducible exact rfl | skip); clear hK K))
        refine wpPlan_done ?_
        go_wp2_with fail
        go_meet
        exact ⟨_, rfl, rfl, (setRow_other _ _ _ _ hne2).trans (setRow_heap _ _ _ _ _ _ rA), hP⟩
      · (refine wpPlan_only rfl (fun K hK => ?_); replace hK := Lib.hid hK; go_simp; refine hK.out _ _ (hP.alloc hP.size _) (fun hP2 => ?_); clear hK K)
        replace rA := block_alloc (o' := .cells #[.int .i64 0, .int .i64 0, .int .i64 0, .int .i64 0, .int .i64 0, .int .i64 0, .int .i64 0, .slice none 0 0, .int .i64 0, .int .i64 0, .slice none 0 0, .int .i64 0, .int .i64 0, .int .i64 0, .int .i64 0, .int .i64 0] 53 (0, 0)) rA
        have rD : (((W.drew).alloc (.cells #[.int .i64 0, .int .i64 0, .int .i64 0, .int .i64 0, .int .i64 0, .slice none 0 0, .int .i64 0, .int .i64 0, .slice none 0 0] 46 (0, 0))).alloc (.cells #[.int .i64 0, .int .i64 0, .int .i64 0, .int .i64 0, .int .i64 0, .int .i64 0, .int .i64 0, .slice none 0 0, .int .i64 0, .int .i64 0, .slice none 0 0, .int .i64 0, .int .i64 0, .int .i64 0, .int .i64 0, .int .i64 0] 53 (0, 0))).heap[W.heap.size + 1]? = some (.cells #[.int .i64 0, .int .i64 0, .int .i64 0, .int .i64 0, .int .i64 0, .int .i64 0, .int .i64 0, .slice none 0 0, .int .i64 0, .int .i64 0, .slice none 0 0, .int .i64 0, .int .i64 0, .int .i64 0, .int .i64 0, .int .i64 0] 53 (0, 0)) := block_new_at _ (by first | rfl | (simp only [World.size_alloc] <;> rfl))
        clear hP
        have hP := hP2
        clear hP2
        (refine wpPlan_only rfl (fun K hK => ?_); replace hK := Lib.hid hK; go_simp; go_at_call 79; (with_reducible refine (pachanged_any f o _ _ _ _ _ (PF.out.later (BW0.trans (hP.mono BW0.size))) (PO.out.later (BW0.trans (hP.mono BW0.size))) HC.out).mono ?_); rintro e w1 ⟨rfl, hb1⟩; refine hK.out _ _ (below_step hP hb1) (fun hP2 => ?_); clear hK K)
        replace rA := block_later hb1 rA
        replace rD := block_later hb1 rD
        have hs1 : W.heap.size + 2 ≤ w1.heap.size := Nat.le_trans (Nat.le_of_eq (by first | rfl | (simp only [World.size_alloc]; rfl) | simp)) hb1.size
        clear hP
        have hP := hP2
        clear hP2
        (refine wpPlan_take rfl (fun K hK => ?_); replace hK := Lib.hid hK; go_simp; first | (refine hK.out _ ?_; clear hK K) | (apply Exists.intro; refine ⟨fun _ => ?_, hK.out _ ?_⟩; (first | with_reducible exact rfl | skip); clear hK K))
        (refine wpPlan_take rfl (fun K hK => ?_); replace hK := Lib.hid hK; go_simp; first | (refine hK.out _ ?_; clear hK K) | (apply Exists.intro; refine ⟨fun _ => ?_, hK.out _ ?_⟩; (first | with_reducible exact rfl | skip); clear hK K))
        (refine wpPlan_take rfl (fun K hK => ?_); replace hK := Lib.hid hK; go_simp; first | (refine hK.out _ ?_; clear hK K) | (apply Exists.intro; refine ⟨fun _ => ?_, hK.out _ ?_⟩; (first | with_reducible exact rfl | skip); clear hK K))
        (refine wpPlan_take rfl (fun K hK => ?_); replace hK := Lib.hid hK; go_simp; first | (refine hK.out _ ?_; clear hK K) | (apply Exists.intro; refine ⟨fun _ => ?_, hK.out _ ?_⟩; (first | with_reducible exact rfl | skip); clear hK K))
        have hne2 : W.heap.size ≠ W.heap.size + 1 := by omega
        have hlA : W.heap.size ≤ W.heap.size := by omega
        have hlD : W.heap.size ≤ W.heap.size + 1 := by omega
        refine wp_storeP rfl rfl 46 _ _ rfl _ (#[.int .i64 g.id, .int .i64 g.kind, .int .i64 g.x, .int .i64 g.y, .int .i64 g.rad, (.slice fa n1 fc), .int .i64 g.dep, .int .i64 g.sym, (.slice fb n2 fd)]) rfl rfl _ _ rA (by kernel_rfl) (by kernel_rfl) (by kernel_rfl) (below_setRow hP hlA _) (fun hP => ?_)
        refine wp_storeP rfl rfl 53 _ _ rfl _ (#[.int .i64 bk.kind, .int .i64 bk.id, .int .i64 bk.feat.id, .int .i64 bk.feat.kind, .int .i64 bk.feat.x, .int .i64 bk.feat.y, .int .i64 bk.feat.rad, .slice none 0 0, .int .i64 bk.feat.dep, .int .i64 bk.feat.sym, .slice none 0 0, .int .i64 bk.x, .int .i64 bk.y, .int .i64 bk.rad, .int .i64 bk.dep, .int .i64 bk.sym]) rfl rfl _ _ ((setRow_other _ _ _ _ hne2.symm).trans rD) (by kernel_rfl) (by kernel_rfl) (by kernel_rfl) (below_setRow hP hlD _) (fun hP => ?_)
        (refine wpPlan_take rfl (fun K hK => ?_); replace hK := Lib.hid hK; go_simp; first | (refine hK.out _ ?_; clear hK K) | (apply Exists.intro; refine ⟨fun _ => ?_, hK.out _ ?_⟩; (first | with_reducible exact rfl | skip); clear hK K))
        refine wpPlan_done ?_
        go_wp2_with fail
        go_meet
        exact ⟨_, rfl, rfl, (setRow_other _ _ _ _ hne2).trans (setRow_heap _ _ _ _ _ _ rA), hP⟩
    · (refine wpPlan_only rfl (fun K hK => ?_); replace hK := Lib.hid hK; go_simp; refine hK.out _ _ (hP.alloc hP.size _) (fun hP2 => ?_); clear hK K)
      have rD : ((W.drew).alloc (.cells #[.int .i64 0, .int .i64 0, .int .i64 0, .int .i64 0, .int .i64 0, .int .i64 0, .int .i64 0, .slice none 0 0, .int .i64 0, .int .i64 0, .slice none 0 0, .int .i64 0, .int .i64 0, .int .i64 0, .int .i64 0, .int .i64 0] 53 (0, 0))).heap[W.heap.size]? = some (.cells #[.int .i64 0, .int .i64 0, .int .i64 0, .int .i64 0, .int .i64 0, .int .i64 0, .int .i64 0, .slice none 0 0, .int .i64 0, .int .i64 0, .slice none 0 0, .int .i64 0, .int .i64 0, .int .i64 0, .int .i64 0, .int .i64 0] 53 (0, 0)) := block_new_at _ (by first | rfl | (simp only [World.size_alloc] <;> rfl))
      clear hP
      have hP := hP2
      clear hP2
      refine wpPlan_two ?_ ?_
      · (refine wpPlan_only rfl (fun K hK => ?_); replace hK := Lib.hid hK; go_simp; go_at_call 79; (with_reducible refine (pachanged_any f o _ _ _ _ _ (PF.out.later (BW0.trans (hP.mono BW0.size))) (PO.out.later (BW0.trans (hP.mono BW0.size))) HC.out).mono ?_); rintro e w1 ⟨rfl, hb1⟩; refine hK.out _ _ (below_step hP hb1) (fun hP2 => ?_); clear hK K)
        replace rD := block_later hb1 rD
        have hs1 : W.heap.size + 1 ≤ w1.heap.size := Nat.le_trans (Nat.le_of_eq (by first | rfl | (simp only [World.size_alloc]; rfl) | simp)) hb1.size
        clear hP
        have hP := hP2
        clear hP2
        (refine wpPlan_take rfl (fun K hK => ?_); replace hK := Lib.hid hK; go_simp; first | (refine hK.out _ ?_; clear hK K) | (apply Exists.intro; refine ⟨fun _ => ?_, hK.out _ ?_⟩; (first | with_reducible exact rfl | skip); clear hK K))
        (refine wpPlan_take rfl (fun K hK => ?_); replace hK := Lib.hid hK; go_simp; first | (refine hK.out _ ?_; clear hK K) | (apply Exists.intro; refine ⟨fun _ => ?_, hK.out _ ?_⟩; (first | with_reducible exact rfl | skip); clear hK K))
        (refine wpPlan_take rfl (fun K hK => ?_); replace hK := Lib.hid hK; go_simp; first | (refine hK.out _ ?_; clear hK K) | (apply Exists.intro; refine ⟨fun _ => ?_, hK.out _ ?_⟩; (first | with_reducible exact rfl | skip); clear hK K))
        (refine wpPlan_take rfl (fun K hK => ?_); replace hK := Lib.hid hK; go_simp; first | (refine hK.out _ ?_; clear hK K) | (apply Exists.intro; refine ⟨fun _ => ?_, hK.out _ ?_⟩; (first | with_reducible exact rfl | skip); clear hK K))
        (refine wpPlan_only rfl (fun K hK => ?_); replace hK := Lib.hid hK; go_simp; refine hK.out _ _ (hP.alloc hP.size _) (fun hP2 => ?_); clear hK K)
        replace rD := block_alloc (o' := .cells #[.int .i64 0, .int .i64 0, .int .i64 0, .int .i64 0, .int .i64 0, .slice none 0 0, .int .i64 0, .int .i64 0, .slice none 0 0] 46 (0, 0)) rD
        have rA : ((w1).alloc (.cells #[.int .i64 0, .int .i64 0, .int .i64 0, .int .i64 0, .int .i64 0, .slice none 0 0, .int .i64 0, .int .i64 0, .slice none 0 0] 46 (0, 0))).heap[w1.heap.size]? = some (.cells #[.int .i64 0, .int .i64 0, .int .i64 0, .int .i64 0, .int .i64 0, .slice none 0 0, .int .i64 0, .int .i64 0, .slice none 0 0] 46 (0, 0)) := block_new_at _ (by first | rfl | (simp only [World.size_alloc] <;> rfl))
        clear hP
        have hP := hP2
        clear hP2
        have hne2 : w1.heap.size ≠ W.heap.size := by omega
        have hlA : W.heap.size ≤ w1.heap.size := by omega
        have hlD : W.heap.size ≤ W.heap.size := by omega
        refine wp_storeP rfl rfl 46 _ _ rfl _ (#[.int .i64 g.id, .int .i64 g.kind, .int .i64 g.x, .int .i64 g.y, .int .i64 g.rad, (.slice fa n1 fc), .int .i64 g.dep, .int .i64 g.sym, (.slice fb n2 fd)]) rfl rfl _ _ rA (by kernel_rfl) (by kernel_rfl) (by kernel_rfl) (below_setRow hP hlA _) (fun hP => ?_)
        refine wp_storeP rfl rfl 53 _ _ rfl _ (#[.int .i64 bk.kind, .int .i64 bk.id, .int .i64 bk.feat.id, .int .i64 bk.feat.kind, .int .i64 bk.feat.x, .int .i64 bk.feat.y, .int .i64 bk.feat.rad, .slice none 0 0, .int .i64 bk.feat.dep, .int .i64 bk.feat.sym, .slice none 0 0, .int .i64 bk.x, .int .i64 bk.y, .int .i64 bk.rad, .int .i64 bk.dep, .int .i64 bk.sym]) rfl rfl _ _ ((setRow_other _ _ _ _ hne2.symm).trans rD) (by kernel_rfl) (by kernel_rfl) (by kernel_rfl) (below_setRow hP hlD _) (fun hP => ?_)
        (refine wpPlan_take rfl (fun K hK => ?_); replace hK := Lib.hid hK; go_simp; first | (refine hK.out _ ?_; clear hK K) | (apply Exists.intro; refine ⟨fun _ => ?_, hK.out _ ?_⟩; (first | with_reducible exact rfl | skip); clear hK K))
        refine wpPlan_done ?_
        go_wp2_with fail
        go_meet
        exact ⟨_, rfl, rfl, (setRow_other _ _ _ _ hne2).trans (setRow_heap _ _ _ _ _ _ rA), hP⟩
      · (refine wpPlan_only rfl (fun K hK => ?_); replace hK := Lib.hid hK; go_simp; refine hK.out _ _ (hP.alloc hP.size _) (fun hP2 => ?_); clear hK K)
        replace rD := block_alloc (o' := .cells #[.int .i64 0, .int .i64 0, .int .i64 0, .int .i64 0, .int .i64 0, .slice none 0 0, .int .i64 0, .int .i64 0, .slice none 0 0] 46 (0, 0)) rD
        have rA : (((W.drew).alloc (.cells #[.int .i64 0, .int .i64 0, .int .i64 0, .int .i64 0, .int .i64 0, .int .i64 0, .int .i64 0, .slice none 0 0, .int .i64 0, .int .i64 0, .slice none 0 0, .int .i64 0, .int .i64 0, .int .i64 0, .int .i64 0, .int .i64 0] 53 (0, 0))).alloc (.cells #[.int .i64 0, .int .i64 0, .int .i64 0, .int .i64 0, .int .i64 0, .slice none 0 0, .int .i64 0, .int .i64 0, .slice none 0 0] 46 (0, 0))).heap[W.heap.size + 1]? = some (.cells #[.int .i64 0, .int .i64 0, .int .i64 0, .int .i64 0, .int .i64 0, .slice none 0 0, .int .i64 0, .int .i64 0, .slice none 0 0] 46 (0, 0)) := block_new_at _ (by first | rfl | (simp only [World.size_alloc] <;> rfl))
        clear hP
        have hP := hP2
        clear hP2
        (refine wpPlan_only rfl (fun K hK => ?_); replace hK := Lib.hid hK; go_simp; go_at_call 79; (with_reducible refine (pachanged_any f o _ _ _ _ _ (PF.out.later (BW0.trans (hP.mono BW0.size))) (PO.out.later (BW0.trans (hP.mono BW0.size))) HC.out).mono ?_); rintro e w1 ⟨rfl, hb1⟩; refine hK.out _ _ (below_step hP hb1) (fun hP2 => ?_); clear hK K)
        replace rD := block_later hb1 rD
        replace rA := block_later hb1 rA
        have hs1 : W.heap.size + 2 ≤ w1.heap.size := Nat.le_trans (Nat.le_of_eq (by first | rfl | (simp only [World.size_alloc]; rfl) | simp)) hb1.size
        clear hP
        have hP := hP2
        clear hP2
        (refine wpPlan_take rfl (fun K hK => ?_); replace hK := Lib.hid hK; go_simp; first | (refine hK.out _ ?_; clear hK K) | (apply Exists.intro; refine ⟨fun _ => ?_, hK.out _ ?_⟩; (first | with_reducible exact rfl | skip); clear hK K))
        (refine wpPlan_take rfl (fun K hK => ?_); replace hK := Lib.hid hK; go_simp; first | (refine hK.out _ ?_; clear hK K) | (apply Exists.intro; refine ⟨fun _ => ?_, hK.out _ ?_⟩; (first | with_reducible exact rfl | skip); clear hK K))
        (refine wpPlan_take rfl (fun K hK => ?_); replace hK := Lib.hid hK; go_simp; first | (refine hK.out _ ?_; clear hK K) | (apply Exists.intro; refine ⟨fun _ => ?_, hK.out _ ?_⟩; (first | with_reducible exact rfl | skip); clear hK K))
        (refine wpPlan_take rfl (fun K hK => ?_); replace hK := Lib.hid hK; go_simp; first | (refine hK.out _ ?_; clear hK K) | (apply Exists.intro; refine ⟨fun _ => ?_, hK.out _ ?_⟩; (first | with_reducible exact rfl | skip); clear hK K))
        have hne2 : W.heap.size + 1 ≠ W.heap.size := by omega
        have hlA : W.heap.size ≤ W.heap.size + 1 := by omega
        have hlD : W.heap.size ≤ W.heap.size := by omega
        refine wp_storeP rfl rfl 46 _ _ rfl _ (#[.int .i64 g.id, .int .i64 g.kind, .int .i64 g.x, .int .i64 g.y, .int .i64 g.rad, (.slice fa n1 fc), .int .i64 g.dep, .int .i64 g.sym, (.slice fb n2 fd)]) rfl rfl _ _ rA (by kernel_rfl) (by kernel_rfl) (by kernel_rfl) (below_setRow hP hlA _) (fun hP => ?_)
        refine wp_storeP rfl rfl 53 _ _ rfl _ (#[.int .i64 bk.kind, .int .i64 bk.id, .int .i64 bk.feat.id, .int .i64 bk.feat.kind, .int .i64 bk.feat.x, .int .i64 bk.feat.y, .int .i64 bk.feat.rad, .slice none 0 0, .int .i64 bk.feat.dep, .int .i64 bk.feat.sym, .slice none 0 0, .int .i64 bk.x, .int .i64 bk.y, .int .i64 bk.rad, .int .i64 bk.dep, .int .i64 bk.sym]) rfl rfl _ _ ((setRow_other _ _ _ _ hne2.symm).trans rD) (by kernel_rfl) (by kernel_rfl) (by kernel_rfl) (below_setRow hP hlD _) (fun hP => ?_)
        (refine wpPlan_take rfl (fun K hK => ?_); replace hK := Lib.hid hK; go_simp; first | (refine hK.out _ ?_; clear hK K) | (apply Exists.intro; refine ⟨fun _ => ?_, hK.out _ ?_⟩; (first | with_reducible exact rfl | skip); clear hK K))
        refine wpPlan_done ?_
        go_wp2_with fail
        go_meet
        exact ⟨_, rfl, rfl, (setRow_other _ _ _ _ hne2).trans (setRow_heap _ _ _ _ _ _ rA), hP⟩
  case rest =>
    obtain ⟨b6, rfl, rfl, r6, hbx⟩ := hcut
    have hBx := below_step hB hbx
    have qx := block_later hbx q1
    have FX := Lib.hid (F1.out.keep (hbx.block m (by have := hB.size; omega)))
    have RX : Wr2 B m w wc := R1.trans (Wr2.of_below hbx)
    clear kq kp k0 k1 k2 k3 k4 k5 k6 k7 k8 k9 k10 k11 k12 k13 k14 kf c0
    go_wp2_with (first
      | (with_reducible refine wpList_load_row rfl 46 (.tmp 6) rfl b6 rfl _ _ _ _ r6 Tryz.underlying46 rfl (by kernel_rfl) ?_)
      | (with_reducible refine wpList_store_mid rfl 46 (.tmp 87) (.tmp 85) rfl B 5 (#[.int .i64 g.id, .int .i64 g.kind, .int .i64 g.x, .int .i64 g.y, .int .i64 g.rad, (.slice fa n1 fc), .int .i64 g.dep, .int .i64 g.sym, (.slice fb n2 fd)]) rfl rfl (there_block qx (by simp)) (by kernel_rfl) (by kernel_rfl) ?_))
    refine body_named fun W9 hW => ?_
    obtain ⟨q9, hot, hwr, _⟩ := said_put (m := m) (hW : W9 = _) qx
    clear hW
    have F9 := Lib.hid (FX.out.keep (hot m hne.symm))
    have R9 := RX.trans hwr
    go_returns
    exact ⟨(by rw [HE.out]; first | done | rfl), fun h => (by rw [HE.out] at h; cases h), R9⟩
set_option maxHeartbeats 8000000 in
theorem hear_chg (B m n : Nat) (before deleted there known : Bool) (f : Feat) (mv dp sy : Option Opn) (o : Opn) (fa fb aa ab : Option Addr) (n1 n2 m1 m2 fc fd ca cb : Nat) (w0 w : World) (g : Feat) (bk : Opn) (er : Int) (hq : w.heap[B]? = some (.cells #[.bool true, .bool before, .bool deleted, .bool there, .bool known, .int .i64 f.id, .int .i64 f.kind, .int .i64 f.x, .int .i64 f.y, .int .i64 f.rad, (.slice fa n1 fc), .int .i64 f.dep, .int .i64 f.sym, (.slice fb n2 fd), .map (some m)] 77 (0, 0))) (hf : PartsAt w0 f (.slice fa n1 fc) (.slice fb n2 fd)) (hm : FldM w0 w m n ⟨true, before, deleted, there, known, f, mv, dp, sy⟩) (hne : B ≠ m) (ho : PartsAt w0 o.feat (.slice aa m1 ca) (.slice ab m2 cb)) (hb0 : Below w0.heap.size w0 w) (hc : chgR f o = (g, bk, er)) (ne1 : ¬ o.kind = 1) (ne2 : ¬ o.kind = 2) (ht : there = true) (hkn : known = true) (hch : chgF f o = some g) : Calls Tryz.prog 49 #[.pointer (some ⟨B, 0, none⟩), opV o (.slice aa m1 ca) (.slice ab m2 cb)] w (HearP w0 B m n ⟨true, before, deleted, there, known, f, mv, dp, sy⟩ o w) := by
  have HE : Hid (hearS ⟨true, before, deleted, there, known, f, mv, dp, sy⟩ o = (⟨true, before, deleted, there, known, g, mv, dp, sy⟩, true)) := Lib.hid (by unfold hearS beginS stepS; simp [ne1, ne2, ht, hkn, hch])
  have e1 : (o.kind == 1) = false := by simpa using ne1
  have e2 : (o.kind == 2) = false := by simpa using ne2
  have HC := Lib.hid hc
  have HB0 := Lib.hid hb0
  have hx : chgR f o = (g, bakF f o, 0) := by unfold chgR; rw [hch]
  have dE : (er == 0) = true := by rw [hx] at hc; simp only [Prod.mk.injEq] at hc; rw [← hc.2.2]; rfl
  have HAR : Hid (g.area = f.area ∧ g.secs = f.secs) := Lib.hid ⟨(chgF_id hch).2.2.1, (chgF_id hch).2.2.2⟩
  clear hx hch
  have Q0 := Lib.hid hq
  have FM := Lib.hid hm
  have PF := Lib.hid hf
  have PO := Lib.hid ho
  have hml := hm.lt
  have hBl := lt_block hq
  clear hq hm hf ho
  subst ht hkn
  clear ne1 ne2 hc hb0
  go_enter Tryz.func49, Tryz.ntmps49
  go_upto_region 2 with (fail)
  refine wp_named fun W hW => ?_
  obtain ⟨p1, hB⟩ := box1 hW
  clear hW
  have q1 := block_later hB Q0.out
  have F1 := Lib.hid (FM.out.keep (hB.block m hml))
  have R1 : Wr2 B m w W := Wr2.of_below hB
  have k0 := cell_block q1 0
  have k1 := cell_block q1 1
  have k2 := cell_block q1 2
  have k3 := cell_block q1 3
  have k4 := cell_block q1 4
  have k5 := cell_block q1 5
  have k6 := cell_block q1 6
  have k7 := cell_block q1 7
  have k8 := cell_block q1 8
  have k9 := cell_block q1 9
  have k10 := cell_block q1 10
  have k11 := cell_block q1 11
  have k12 := cell_block q1 12
  have k13 := cell_block q1 13
  have k14 := cell_block q1 14
  have kf := free_block q1
  have c0 := cell_block p1 0
  have kq := cellsR q1
  have kp := cellsR p1
  have BW0 : Below w0.heap.size w0 W := HB0.out.trans (hB.mono HB0.out.size)
  go_upto_region 12 with (fail)
  go_cut [6, 7, 8] from 74 to 83 (fun s6 s7 s8 wx => ∃ b6 : Nat, s6 = .pointer (some ⟨b6, 0, none⟩) ∧ s8 = .int .i64 er ∧ wx.heap[b6]? = some (.cells #[.int .i64 g.id, .int .i64 g.kind, .int .i64 g.x, .int .i64 g.y, .int .i64 g.rad, (.slice fa n1 fc), .int .i64 g.dep, .int .i64 g.sym, (.slice fb n2 fd)] 46 (0, 0)) ∧ Below W.heap.size W wx)
  case first =>
    refine wp_region_plan (.take 0 (.take 0 (.take 0 (.take 0 (.take 0 (.three 0 (.take 0 (.take 0 (.take 0 (.take 0 (.two 0 (.only 0 (.only 0 (.only 0 (.take 0 .done)))) 1 (.only 0 (.only 0 (.only 0 (.take 0 .done))))))))) 5 (.two 0 (.take 0 (.take 0 (.take 0 (.take 0 (.only 0 (.only 0 (.only 0 (.take 0 .done)))))))) 5 (.only 0 (.take 0 (.take 0 (.take 0 (.take 0 (.only 0 (.only 0 (.take 0 .done))))))))) 6 (.two 0 (.take 0 (.take 0 (.take 0 (.take 0 (.only 0 (.only 0 (.only 0 (.take 0 .done)))))))) 5 (.only 0 (.take 0 (.take 0 (.take 0 (.take 0 (.only 0 (.only 0 (.take 0 .done))))))))))))))) (by kernel_rfl) (by kernel_rfl) (fun hP => ?_)
    (refine wpPlan_take rfl (fun K hK => ?_); replace hK := Lib.hid hK; go_simp; first | (refine hK.out _ ?_; clear hK K) | (apply Exists.intro; refine ⟨fun _ => ?_, hK.out _ ?_⟩; (first | with_reducible exact rfl | skip); clear hK K))
    (refine wpPlan_take rfl (fun K hK => ?_); replace hK := Lib.hid hK; go_simp; first | (refine hK.out _ ?_; clear hK K) | (apply Exists.intro; refine ⟨fun _ => ?_, hK.out _ ?_⟩; (first | with_reducible exact rfl | skip); clear hK K))
    (refine wpPlan_take rfl (fun K hK => ?_); replace hK := Lib.hid hK; go_simp; first | (refine hK.out _ ?_; clear hK K) | (apply Exists.intro; refine ⟨fun _ => ?_, hK.out _ ?_⟩; (first | with_reducible exact rfl | skip); clear hK K))
    (refine wpPlan_take rfl (fun K hK => ?_); replace hK := Lib.hid hK; go_simp; first | (refine hK.out _ ?_; clear hK K) | (apply Exists.intro; refine ⟨fun _ => ?_, hK.out _ ?_⟩; (first | with_reducible exact rfl | skip); clear hK K))
    refine wp_loadP rfl (by kernel_rfl) 53 _ rfl _ rfl _ _ _ _ p1 Tryz.underlying53 rfl (by kernel_rfl) ?_
    clear kq kp k0 k1 k2 k3 k4 k5 k6 k7 k8 k9 k10 k11 k12 k13 k14 kf c0
    refine wpPlan_three ?_ ?_ ?_
    · (refine wpPlan_only rfl (fun K hK => ?_); replace hK := Lib.hid hK; go_simp; go_at_call 79; (with_reducible refine (pachanged_any f o _ _ _ _ _ (PF.out.later (BW0.trans (hP.mono BW0.size))) (PO.out.later (BW0.trans (hP.mono BW0.size))) HC.out).mono ?_); rintro e w1 ⟨rfl, hb1⟩; refine hK.out _ _ (below_step hP hb1) (fun hP2 => ?_); clear hK K)
      have hs1 : W.heap.size + 0 ≤ w1.heap.size := Nat.le_trans (Nat.le_of_eq (by first | rfl | (simp only [World.size_alloc]; rfl) | simp)) hb1.size
      clear hP
      have hP := hP2
      clear hP2
      (refine wpPlan_take rfl (fun K hK => ?_); replace hK := Lib.hid hK; go_simp; first | (refine hK.out _ ?_; clear hK K) | (apply Exists.intro; refine ⟨fun _ => ?_, hK.out _ ?_⟩; (first | with_reducible exact rfl | skip); clear hK K))
      (refine wpPlan_take rfl (fun K hK => ?_); replace hK := Lib.hid hK; go_simp; first | (refine hK.out _ ?_; clear hK K) | (apply Exists.intro; refine ⟨fun _ => ?_, hK.out _ ?_⟩; (first | with_reducible exact rfl | skip); clear hK K))
      (refine wpPlan_take rfl (fun K hK => ?_); replace hK := Lib.hid hK; go_simp; first | (refine hK.out _ ?_; clear hK K) | (apply Exists.intro; refine ⟨fun _ => ?_, hK.out _ ?_⟩; (first | with_reducible exact rfl | skip); clear hK K))
      (refine wpPlan_take rfl (fun K hK => ?_); replace hK := Lib.hid hK; go_simp; first | (refine hK.out _ ?_; clear hK K) | (apply Exists.intro; refine ⟨fun _ => ?_, hK.out _ ?_⟩; (first | with_reducible exact rfl | skip); clear hK K))
      refine wpPlan_two ?_ ?_
      · (refine wpPlan_only rfl (fun K hK => ?_); replace hK := Lib.hid hK; go_simp; refine hK.out _ _ (hP.alloc hP.size _) (fun hP2 => ?_); clear hK K)
        have rA : ((w1).alloc (.cells #[.int .i64 0, .int .i64 0, .int .i64 0, .int .i64 0, .int .i64 0, .slice none 0 0, .int .i64 0, .int .i64 0, .slice none 0 0] 46 (0, 0))).heap[w1.heap.size]? = some (.cells #[.int .i64 0, .int .i64 0, .int .i64 0, .int .i64 0, .int .i64 0, .slice none 0 0, .int .i64 0, .int .i64 0, .slice none 0 0] 46 (0, 0)) := block_new_at _ (by first | rfl | (simp only [World.size_alloc] <;> rfl))
        clear hP
        have hP := hP2
        clear hP2
        (refine wpPlan_only rfl (fun K hK => ?_); replace hK := Lib.hid hK; go_simp; refine hK.out _ _ (hP.alloc hP.size _) (fun hP2 => ?_); clear hK K)
        replace rA := block_alloc (o' := .cells #[.int .i64 0, .int .i64 0, .int .i64 0, .int .i64 0, .int .i64 0, .int .i64 0, .int .i64 0, .slice none 0 0, .int .i64 0, .int .i64 0, .slice none 0 0, .int .i64 0, .int .i64 0, .int .i64 0, .int .i64 0, .int .i64 0] 53 (0, 0)) rA
        have rD : (((w1).alloc (.cells #[.int .i64 0, .int .i64 0, .int .i64 0, .int .i64 0, .int .i64 0, .slice none 0 0, .int .i64 0, .int .i64 0, .slice none 0 0] 46 (0, 0))).alloc (.cells #[.int .i64 0, .int .i64 0, .int .i64 0, .int .i64 0, .int .i64 0, .int .i64 0, .int .i64 0, .slice none 0 0, .int .i64 0, .int .i64 0, .slice none 0 0, .int .i64 0, .int .i64 0, .int .i64 0, .int .i64 0, .int .i64 0] 53 (0, 0))).heap[w1.heap.size + 1]? = some (.cells #[.int .i64 0, .int .i64 0, .int .i64 0, .int .i64 0, .int .i64 0, .int .i64 0, .int .i64 0, .slice none 0 0, .int .i64 0, .int .i64 0, .slice none 0 0, .int .i64 0, .int .i64 0, .int .i64 0, .int .i64 0, .int .i64 0] 53 (0, 0)) := block_new_at _ (by first | rfl | (simp only [World.size_alloc] <;> rfl))
        clear hP
        have hP := hP2
        clear hP2
        have hne2 : w1.heap.size ≠ w1.heap.size + 1 := by omega
        have hlA : W.heap.size ≤ w1.heap.size := by omega
        have hlD : W.heap.size ≤ w1.heap.size + 1 := by omega
        refine wp_storeP rfl rfl 46 _ _ rfl _ (#[.int .i64 g.id, .int .i64 g.kind, .int .i64 g.x, .int .i64 g.y, .int .i64 g.rad, (.slice fa n1 fc), .int .i64 g.dep, .int .i64 g.sym, (.slice fb n2 fd)]) rfl rfl _ _ rA (by kernel_rfl) (by kernel_rfl) (by kernel_rfl) (below_setRow hP hlA _) (fun hP => ?_)
        refine wp_storeP rfl rfl 53 _ _ rfl _ (#[.int .i64 bk.kind, .int .i64 bk.id, .int .i64 bk.feat.id, .int .i64 bk.feat.kind, .int .i64 bk.feat.x, .int .i64 bk.feat.y, .int .i64 bk.feat.rad, .slice none 0 0, .int .i64 bk.feat.dep, .int .i64 bk.feat.sym, .slice none 0 0, .int .i64 bk.x, .int .i64 bk.y, .int .i64 bk.rad, .int .i64 bk.dep, .int .i64 bk.sym]) rfl rfl _ _ ((setRow_other _ _ _ _ hne2.symm).trans rD) (by kernel_rfl) (by kernel_rfl) (by kernel_rfl) (below_setRow hP hlD _) (fun hP => ?_)
        (refine wpPlan_take rfl (fun K hK => ?_); replace hK := Lib.hid hK; go_simp; first | (refine hK.out _ ?_; clear hK K) | (apply Exists.intro; refine ⟨fun _ => ?_, hK.out _ ?_⟩; (first | with_reducible exact rfl | skip); clear hK K))
        refine wpPlan_done ?_
        go_wp2_with fail
        go_meet
        exact ⟨_, rfl, rfl, (setRow_other _ _ _ _ hne2).trans (setRow_heap _ _ _ _ _ _ rA), hP⟩
      · (refine wpPlan_only rfl (fun K hK => ?_); replace hK := Lib.hid hK; go_simp; refine hK.out _ _ (hP.alloc hP.size _) (fun hP2 => ?_); clear hK K)
        have rD : ((w1).alloc (.cells #[.int .i64 0, .int .i64 0, .int .i64 0, .int .i64 0, .int .i64 0, .int .i64 0, .int .i64 0, .slice none 0 0, .int .i64 0, .int .i64 0, .slice none 0 0, .int .i64 0, .int .i64 0, .int .i64 0, .int .i64 0, .int .i64 0] 53 (0, 0))).heap[w1.heap.size]? = some (.cells #[.int .i64 0, .int .i64 0, .int .i64 0, .int .i64 0, .int .i64 0, .int .i64 0, .int .i64 0, .slice none 0 0, .int .i64 0, .int .i64 0, .slice none 0 0, .int .i64 0, .int .i64 0, .int .i64 0, .int .i64 0, .int .i64 0] 53 (0, 0)) := block_new_at _ (by first | rfl | (simp only [World.size_alloc] <;> rfl))
        clear hP
        have hP := hP2
        clear hP2
        (refine wpPlan_only rfl (fun K hK => ?_); replace hK := Lib.hid hK; go_simp; refine hK.out _ _ (hP.alloc hP.size _) (fun hP2 => ?_); clear hK K)
        replace rD := block_alloc (o' := .cells #[.int .i64 0, .int .i64 0, .int .i64 0, .int .i64 0, .int .i64 0, .slice none 0 0, .int .i64 0, .int .i64 0, .slice none 0 0] 46 (0, 0)) rD
        have rA : (((w1).alloc (.cells #[.int .i64 0, .int .i64 0, .int .i64 0, .int .i64 0, .int .i64 0, .int .i64 0, .int .i64 0, .slice none 0 0, .int .i64 0, .int .i64 0, .slice none 0 0, .int .i64 0, .int .i64 0, .int .i64 0, .int .i64 0, .int .i64 0] 53 (0, 0))).alloc (.cells #[.int .i64 0, .int .i64 0, .int .i64 0, .int .i64 0, .int .i64 0, .slice none 0 0, .int .i64 0, .int .i64 0, .slice none 0 0] 46 (0, 0))).heap[w1.heap.size + 1]? = some (.cells #[.int .i64 0, .int .i64 0, .int .i64 0, .int .i64 0, .int .i64 0, .slice none 0 0, .int .i64 0, .int .i64 0, .slice none 0 0] 46 (0, 0)) := block_new_at _ (by first | rfl | (simp only [World.size_alloc] <;> rfl))
        clear hP
        have hP := hP2
        clear hP2
        have hne2 : w1.heap.size + 1 ≠ w1.heap.size := by omega
        have hlA : W.heap.size ≤ w1.heap.size + 1 := by omega
        have hlD : W.heap.size ≤ w1.heap.size := by omega
        refine wp_storeP rfl rfl 46 _ _ rfl _ (#[.int .i64 g.id, .int .i64 g.kind, .int .i64 g.x, .int .i64 g.y, .int .i64 g.rad, (.slice fa n1 fc), .int .i64 g.dep, .int .i64 g.sym, (.slice fb n2 fd)]) rfl rfl _ _ rA (by kernel_rfl) (by kernel_rfl) (by kernel_rfl) (below_setRow hP hlA _) (fun hP => ?_)
        refine wp_storeP rfl rfl 53 _ _ rfl _ (#[.int .i64 bk.kind, .int .i64 bk.id, .int .i64 bk.feat.id, .int .i64 bk.feat.kind, .int .i64 bk.feat.x, .int .i64 bk.feat.y, .int .i64 bk.feat.rad, .slice none 0 0, .int .i64 bk.feat.dep, .int .i64 bk.feat.sym, .slice none 0 0, .int .i64 bk.x, .int .i64 bk.y, .int .i64 bk.rad, .int .i64 bk.dep, .int .i64 bk.sym]) rfl rfl _ _ ((setRow_other _ _ _ _ hne2.symm).trans rD) (by kernel_rfl) (by kernel_rfl) (by kernel_rfl) (below_setRow hP hlD _) (fun hP => ?_)
        (refine wpPlan_take rfl (fun K hK => ?_); replace hK := Lib.hid hK; go_simp; first | (refine hK.out _ ?_; clear hK K) | (apply Exists.intro; refine ⟨fun _ => ?_, hK.out _ ?_⟩; (first | with_reducible exact rfl | skip); clear hK K))
        refine wpPlan_done ?_
        go_wp2_with fail
        go_meet
        exact ⟨_, rfl, rfl, (setRow_other _ _ _ _ hne2).trans (setRow_heap _ _ _ _ _ _ rA), hP⟩
    · (refine wpPlan_only rfl (fun K hK => ?_); replace hK := Lib.hid hK; go_simp; refine hK.out _ _ (hP.alloc hP.size _) (fun hP2 => ?_); clear hK K)
      have rA : ((W.drew).alloc (.cells #[.int .i64 0, .int .i64 0, .int .i64 0, .int .i64 0, .int .i64 0, .slice none 0 0, .int .i64 0, .int .i64 0, .slice none 0 0] 46 (0, 0))).heap[W.heap.size]? = some (.cells #[.int .i64 0, .int .i64 0, .int .i64 0, .int .i64 0, .int .i64 0, .slice none 0 0, .int .i64 0, .int .i64 0, .slice none 0 0] 46 (0, 0)) := block_new_at _ (by first | rfl | (simp only [World.size_alloc] <;> rfl))
      clear hP
      have hP := hP2
      clear hP2
      refine wpPlan_two ?_ ?_
      · (refine wpPlan_only rfl (fun K hK => ?_); replace hK := Lib.hid hK; go_simp; go_at_call 79; (with_reducible refine (pachanged_any f o _ _ _ _ _ (PF.out.later (BW0.trans (hP.mono BW0.size))) (PO.out.later (BW0.trans (hP.mono BW0.size))) HC.out).mono ?_); rintro e w1 ⟨rfl, hb1⟩; refine hK.out _ _ (below_step hP hb1) (fun hP2 => ?_); clear hK K)
        replace rA := block_later hb1 rA
        have hs1 : W.heap.size + 1 ≤ w1.heap.size := Nat.le_trans (Nat.le_of_eq (by first | rfl | (simp only [World.size_alloc]; rfl) | simp)) hb1.size
        clear hP
        have hP := hP2
        clear hP2
        (refine wpPlan_take rfl (fun K hK => ?_); replace hK := Lib.hid hK; go_simp; first | (refine hK.out _ ?_; clear hK K) | (apply Exists.intro; refine ⟨fun _ => ?_, hK.out _ ?_⟩; (first | with_reducible exact rfl | skip); clear hK K))
        (refine wpPlan_take rfl (fun K hK => ?_); replace hK := Lib.hid hK; go_simp; first | (refine hK.out _ ?_; clear hK K) | (apply Exists.intro; refine ⟨fun _ => ?_, hK.out _ ?_⟩; (first | with_reducible exact rfl | skip); clear hK K))
        (refine wpPlan_take rfl (fun K hK => ?_); replace hK := Lib.hid hK; go_simp; first | (refine hK.out _ ?_; clear hK K) | (apply Exists.intro; refine ⟨fun _ => ?_, hK.out _ ?_⟩; (first | with_reducible exact rfl | skip); clear hK K))
        (refine wpPlan_take rfl (fun K hK => ?_); replace hK := Lib.hid hK; go_simp; first | (refine hK.out _ ?_; clear hK K) | (apply Exists.intro; refine ⟨fun _ => ?_, hK.out _ ?_⟩; (first | with_reducible exact rfl | skip); clear hK K))
        (refine wpPlan_only rfl (fun K hK => ?_); replace hK := Lib.hid hK; go_simp; refine hK.out _ _ (hP.alloc hP.size _) (fun hP2 => ?_); clear hK K)
        replace rA := block_alloc (o' := .cells #[.int .i64 0, .int .i64 0, .int .i64 0, .int .i64 0, .int .i64 0, .int .i64 0, .int .i64 0, .slice none 0 0, .int .i64 0, .int .i64 0, .slice none 0 0, .int .i64 0, .int .i64 0, .int .i64 0, .int .i64 0, .int .i64 0] 53 (0, 0)) rA
        have rD : ((w1).alloc (.cells #[.int .i64 0, .int .i64 0, .int .i64 0, .int .i64 0, .int .i64 0, .int .i64 0, .int .i64 0, .slice none 0 0, .int .i64 0, .int .i64 0, .slice none 0 0, .int .i64 0, .int .i64 0, .int .i64 0, .int .i64 0, .int .i64 0] 53 (0, 0))).heap[w1.heap.size]? = some (.cells #[.int .i64 0, .int .i64 0, .int .i64 0, .int .i64 0, .int .i64 0, .int .i64 0, .int .i64 0, .slice none 0 0, .int .i64 0, .int .i64 0, .slice none 0 0, .int .i64 0, .int .i64 0, .int .i64 0, .int .i64 0, .int .i64 0] 53 (0, 0)) := block_new_at _ (by first | rfl | (simp only [World.size_alloc] <;> rfl))
        clear hP
        have hP := hP2
        clear hP2
        have hne2 : W.heap.size ≠ w1.heap.size := by omega
        have hlA : W.heap.size ≤ W.heap.size := by omega
        have hlD : W.heap.size ≤ w1.heap.size := by omega
        refine wp_storeP rfl rfl 46 _ _ rfl _ (#[.int .i64 g.id, .int .i64 g.kind, .int .i64 g.x, .int .i64 g.y, .int .i64 g.rad, (.slice fa n1 fc), .int .i64 g.dep, .int .i64 g.sym, (.slice fb n2 fd)]) rfl rfl _ _ rA (by kernel_rfl) (by kernel_rfl) (by kernel_rfl) (below_setRow hP hlA _) (fun hP => ?_)
        refine wp_storeP rfl rfl 53 _ _ rfl _ (#[.int .i64 bk.kind, .int .i64 bk.id, .int .i64 bk.feat.id, .int .i64 bk.feat.kind, .int .i64 bk.feat.x, .int .i64 bk.feat.y, .int .i64 bk.feat.rad, .slice none 0 0, .int .i64 bk.feat.dep, .int .i64 bk.feat.sym, .slice none 0 0, .int .i64 bk.x, .int .i64 bk.y, .int .i64 bk.rad, .int .i64 bk.dep, .int .i64 bk.sym]) rfl rfl _ _ ((setRow_other _ _ _ _ hne2.symm).trans rD) (by kernel_rfl) (by kernel_rfl) (by kernel_rfl) (below_setRow hP hlD _) (fun hP => ?_)
        (refine wpPlan_take rfl (fun K hK => ?_); replace hK := Lib.hid hK; go_simp; first | (refine hK.out _ ?_; clear hK K) | (apply Exists.intro; refine ⟨fun _ => ?_, hK.out _ ?_⟩; (first | with_reducible exact rfl | skip); clear hK K))
        refine wpPlan_done ?_
        go_wp2_with fail
        go_meet
        exact ⟨_, rfl, rfl, (setRow_other _ _ _ _ hne2).trans (setRow_heap _ _ _ _ _ _ rA), hP⟩
      · (refine wpPlan_only rfl (fun K hK => ?_); replace hK := Lib.hid hK; go_simp; refine hK.out _ _ (hP.alloc hP.size _) (fun hP2 => ?_); clear hK K)
        replace rA := block_alloc (o' := .cells #[.int .i64 0, .int .i64 0, .int .i64 0, .int .i64 0, .int .i64 0, .int .i64 0, .int .i64 0, .slice none 0 0, .int .i64 0, .int .i64 0, .slice none 0 0, .int .i64 0, .int .i64 0, .int .i64 0, .int .i64 0, .int .i64 0] 53 (0, 0)) rA
        have rD : (((W.drew).alloc (.cells #[.int .i64 0, .int .i64 0, .int .i64 0, .int .i64 0, .int .i64 0, .slice none 0 0, .int .i64 0, .int .i64 0, .slice none 0 0] 46 (0, 0))).alloc (.cells #[.int .i64 0, .int .i64 0, .int .i64 0, .int .i64 0, .int .i64 0, .int .i64 0, .int .i64 0, .slice none 0 0, .int .i64 0, .int .i64 0, .slice none 0 0, .int .i64 0, .int .i64 0, .int .i64 0, .int .i64 0, .int .i64 0] 53 (0, 0))).heap[W.heap.size + 1]? = some (.cells #[.int .i64 0, .int .i64 0, .int .i64 0, .int .i64 0, .int .i64 0, .int .i64 0, .int .i64 0, .slice none 0 0, .int .i64 0, .int .i64 0, .slice none 0 0, .int .i64 0, .int .i64 0, .int .i64 0, .int .i64 0, .int .i64 0] 53 (0, 0)) := block_new_at _ (by first | rfl | (simp only [World.size_alloc] <;> rfl))
        clear hP
        have hP := hP2
        clear hP2
        (refine wpPlan_only rfl (fun K hK => ?_); replace hK := Lib.hid hK; go_simp; go_at_call 79; (with_reducible refine (pachanged_any f o _ _ _ _ _ (PF.out.later (BW0.trans (hP.mono BW0.size))) (PO.out.later (BW0.trans (hP.mono BW0.size))) HC.out).mono ?_); rintro e w1 ⟨rfl, hb1⟩; refine hK.out _ _ (below_step hP hb1) (fun hP2 => ?_); clear hK K)
        replace rA := block_later hb1 rA
        replace rD := block_later hb1 rD
        have hs1 : W.heap.size + 2 ≤ w1.heap.size := Nat.le_trans (Nat.le_of_eq (by first | rfl | (simp only [World.size_alloc]; rfl) | simp)) hb1.size
        clear hP
        have hP := hP2
        clear hP2
        (refine wpPlan_take rfl (fun K hK => ?_); replace hK := Lib.hid hK; go_simp; first | (refine hK.out _ ?_; clear hK K) | (apply Exists.intro; refine ⟨fun _ => ?_, hK.out _ ?_⟩; (first | with_reducible exact rfl | skip); clear hK K))
        (refine wpPlan_take rfl (fun K hK => ?_); replace hK := Lib.hid hK; go_simp; first | (refine hK.out _ ?_; clear hK K) | (apply Exists.intro; refine ⟨fun _ => ?_, hK.out _ ?_⟩; (first | with_reducible exact rfl | skip); clear hK K))
        (refine wpPlan_take rfl (fun K hK => ?_); replace hK := Lib.hid hK; go_simp; first | (refine hK.out _ ?_; clear hK K) | (apply Exists.intro; refine ⟨fun _ => ?_, hK.out _ ?_⟩; (first | with_reducible exact rfl | skip); clear hK K))
        (refine wpPlan_take rfl (fun K hK => ?_); replace hK := Lib.hid hK; go_simp; first | (refine hK.out _ ?_; clear hK K) | (apply Exists.intro; refine ⟨fun _ => ?_, hK.out _ ?_⟩; (first | with_reducible exact rfl | skip); clear hK K))
        have hne2 : W.heap.size ≠ W.heap.size + 1 := by omega
        have hlA : W.heap.size ≤ W.heap.size := by omega
        have hlD : W.heap.size ≤ W.heap.size + 1 := by omega
        refine wp_storeP rfl rfl 46 _ _ rfl _ (#[.int .i64 g.id, .int .i64 g.kind, .int .i64 g.x, .int .i64 g.y, .int .i64 g.rad, (.slice fa n1 fc), .int .i64 g.dep, .int .i64 g.sym, (.slice fb n2 fd)]) rfl rfl _ _ rA (by kernel_rfl) (by kernel_rfl) (by kernel_rfl) (below_setRow hP hlA _) (fun hP => ?_)
        refine wp_storeP rfl rfl 53 _ _ rfl _ (#[.int .i64 bk.kind, .int .i64 bk.id, .int .i64 bk.feat.id, .int .i64 bk.feat.kind, .int .i64 bk.feat.x, .int .i64 bk.feat.y, .int .i64 bk.feat.rad, .slice none 0 0, .int .i64 bk.feat.dep, .int .i64 bk.feat.sym, .slice none 0 0, .int .i64 bk.x, .int .i64 bk.y, .int .i64 bk.rad, .int .i64 bk.dep, .int .i64 bk.sym]) rfl rfl _ _ ((setRow_other _ _ _ _ hne2.symm).trans rD) (by kernel_rfl) (by kernel_rfl) (by kernel_rfl) (below_setRow hP hlD _) (fun hP => ?_)
        (refine wpPlan_take rfl (fun K hK => ?_); replace hK := Lib.hid hK; go_simp; first | (refine hK.out _ ?_; clear hK K) | (apply Exists.intro; refine ⟨fun _ => ?_, hK.out _ ?_⟩; (first | with_reducible exact rfl | skip); clear hK K))
        refine wpPlan_done ?_
        go_wp2_with fail
        go_meet
        exact ⟨_, rfl, rfl, (setRow_other _ _ _ _ hne2).trans (setRow_heap _ _ _ _ _ _ rA), hP⟩
    · (refine wpPlan_only rfl (fun K hK => ?_); replace hK := Lib.hid hK; go_simp; refine hK.out _ _ (hP.alloc hP.size _) (fun hP2 => ?_); clear hK K)
      have rD : ((W.drew).alloc (.cells #[.int .i64 0, .int .i64 0, .int .i64 0, .int .i64 0, .int .i64 0, .int .i64 0, .int .i64 0, .slice none 0 0, .int .i64 0, .int .i64 0, .slice none 0 0, .int .i64 0, .int .i64 0, .int .i64 0, .int .i64 0, .int .i64 0] 53 (0, 0))).heap[W.heap.size]? = some (.cells #[.int .i64 0, .int .i64 0, .int .i64 0, .int .i64 0, .int .i64 0, .int .i64 0, .int .i64 0, .slice none 0 0, .int .i64 0, .int .i64 0, .slice none 0 0, .int .i64 0, .int .i64 0, .int .i64 0, .int .i64 0, .int .i64 0] 53 (0, 0)) := block_new_at _ (by first | rfl | (simp only [World.size_alloc] <;> rfl))
      clear hP
      have hP := hP2
      clear hP2
      refine wpPlan_two ?_ ?_
      · (refine wpPlan_only rfl (fun K hK => ?_); replace hK := Lib.hid hK; go_simp; go_at_call 79; (with_reducible refine (pachanged_any f o _ _ _ _ _ (PF.out.later (BW0.trans (hP.mono BW0.size))) (PO.out.later (BW0.trans (hP.mono BW0.size))) HC.out).mono ?_); rintro e w1 ⟨rfl, hb1⟩; refine hK.out _ _ (below_step hP hb1) (fun hP2 => ?_); clear hK K)
        replace rD := block_later hb1 rD
        have hs1 : W.heap.size + 1 ≤ w1.heap.size := Nat.le_trans (Nat.le_of_eq (by first | rfl | (simp only [World.size_alloc]; rfl) | simp)) hb1.size
        clear hP
        have hP := hP2
        clear hP2
        (refine wpPlan_take rfl (fun K hK => ?_); replace hK := Lib.hid hK; go_simp; first | (refine hK.out _ ?_; clear hK K) | (apply Exists.intro; refine ⟨fun _ => ?_, hK.out _ ?_⟩; (first | with_reducible exact rfl | skip); clear hK K))
        (refine wpPlan_take rfl (fun K hK => ?_); replace hK := Lib.hid hK; go_simp; first | (refine hK.out _ ?_; clear hK K) | (apply Exists.intro; refine ⟨fun _ => ?_, hK.out _ ?_⟩; (first | with_reducible exact rfl | skip); clear hK K))
        (refine wpPlan_take rfl (fun K hK => ?_); replace hK := Lib.hid hK; go_simp; first | (refine hK.out _ ?_; clear hK K) | (apply Exists.intro; refine ⟨fun _ => ?_, hK.out _ ?_⟩; (first | with_reducible exact rfl | skip); clear hK K))
        (refine wpPlan_take rfl (fun K hK => ?_); replace hK := Lib.hid hK; go_simp; first | (refine hK.out _ ?_; clear hK K) | (apply Exists.intro; refine ⟨fun _ => ?_, hK.out _ ?_⟩; (first | with_reducible exact rfl | skip); clear hK K))
        (refine wpPlan_only rfl (fun K hK => ?_); replace hK := Lib.hid hK; go_simp; refine hK.out _ _ (hP.alloc hP.size _) (fun hP2 => ?_); clear hK K)
        replace rD := block_alloc (o' := .cells #[.int .i64 0, .int .i64 0, .int .i64 0, .int .i64 0, .int .i64 0, .slice none 0 0, .int .i64 0, .int .i64 0, .slice none 0 0] 46 (0, 0)) rD
        have rA : ((w1).alloc (.cells #[.int .i64 0, .int .i64 0, .int .i64 0, .int .i64 0, .int .i64 0, .slice none 0 0, .int .i64 0, .int .i64 0, .slice none 0 0] 46 (0, 0))).heap[w1.heap.size]? = some (.cells #[.int .i64 0, .int .i64 0, .int .i64 0, .int .i64 0, .int .i64 0, .slice none 0 0, .int .i64 0, .int .i64 0, .slice none 0 0] 46 (0, 0)) := block_new_at _ (by first | rfl | (simp only [World.size_alloc] <;> rfl))
        clear hP
        have hP := hP2
        clear hP2
        have hne2 : w1.heap.size ≠ W.heap.size := by omega
        have hlA : W.heap.size ≤ w1.heap.size := by omega
        have hlD : W.heap.size ≤ W.heap.size := by omega
        refine wp_storeP rfl rfl 46 _ _ rfl _ (#[.int .i64 g.id, .int .i64 g.kind, .int .i64 g.x, .int .i64 g.y, .int .i64 g.rad, (.slice fa n1 fc), .int .i64 g.dep, .int .i64 g.sym, (.slice fb n2 fd)]) rfl rfl _ _ rA (by kernel_rfl) (by kernel_rfl) (by kernel_rfl) (below_setRow hP hlA _) (fun hP => ?_)
        refine wp_storeP rfl rfl 53 _ _ rfl _ (#[.int .i64 bk.kind, .int .i64 bk.id, .int .i64 bk.feat.id, .int .i64 bk.feat.kind, .int .i64 bk.feat.x, .int .i64 bk.feat.y, .int .i64 bk.feat.rad, .slice none 0 0, .int .i64 bk.feat.dep, .int .i64 bk.feat.sym, .slice none 0 0, .int .i64 bk.x, .int .i64 bk.y, .int .i64 bk.rad, .int .i64 bk.dep, .int .i64 bk.sym]) rfl rfl _ _ ((setRow_other _ _ _ _ hne2.symm).trans rD) (by kernel_rfl) (by kernel_rfl) (by kernel_rfl) (below_setRow hP hlD _) (fun hP => ?_)
        (refine wpPlan_take rfl (fun K hK => ?_); replace hK := Lib.hid hK; go_simp; first | (refine hK.out _ ?_; clear hK K) | (apply Exists.intro; refine ⟨fun _ => ?_, hK.out _ ?_⟩; (first | with_reducible exact rfl | skip); clear hK K))
        refine wpPlan_done ?_
        go_wp2_with fail
        go_meet
        exact ⟨_, rfl, rfl, (setRow_other _ _ _ _ hne2).trans (setRow_heap _ _ _ _ _ _ rA), hP⟩
      · (refine wpPlan_only rfl (fun K hK => ?_); replace hK := Lib.hid hK; go_simp; refine hK.out _ _ (hP.alloc hP.size _) (fun hP2 => ?_); clear hK K)
        replace rD := block_alloc (o' := .cells #[.int .i64 0, .int .i64 0, .int .i64 0, .int .i64 0, .int .i64 0, .slice none 0 0, .int .i64 0, .int .i64 0, .slice none 0 0] 46 (0, 0)) rD
        have rA : (((W.drew).alloc (.cells #[.int .i64 0, .int .i64 0, .int .i64 0, .int .i64 0, .int .i64 0, .int .i64 0, .int .i64 0, .slice none 0 0, .int .i64 0, .int .i64 0, .slice none 0 0, .int .i64 0, .int .i64 0, .int .i64 0, .int .i64 0, .int .i64 0] 53 (0, 0))).alloc (.cells #[.int .i64 0, .int .i64 0, .int .i64 0, .int .i64 0, .int .i64 0, .slice none 0 0, .int .i64 0, .int .i64 0, .slice none 0 0] 46 (0, 0))).heap[W.heap.size + 1]? = some (.cells #[.int .i64 0, .int .i64 0, .int .i64 0, .int .i64 0, .int .i64 0, .slice none 0 0, .int .i64 0, .int .i64 0, .slice none 0 0] 46 (0, 0)) := block_new_at _ (by first | rfl | (simp only [World.size_alloc] <;> rfl))
        clear hP
        have hP := hP2
        clear hP2
        (refine wpPlan_only rfl (fun K hK => ?_); replace hK := Lib.hid hK; go_simp; go_at_call 79; (with_reducible refine (pachanged_any f o _ _ _ _ _ (PF.out.later (BW0.trans (hP.mono BW0.size))) (PO.out.later (BW0.trans (hP.mono BW0.size))) HC.out).mono ?_); rintro e w1 ⟨rfl, hb1⟩; refine hK.out _ _ (below_step hP hb1) (fun hP2 => ?_); clear hK K)
        replace rD := block_later hb1 rD
        replace rA := block_later hb1 rA
        have hs1 : W.heap.size + 2 ≤ w1.heap.size := Nat.le_trans (Nat.le_of_eq (by first | rfl | (simp only [World.size_alloc]; rfl) | simp)) hb1.size
        clear hP
        have hP := hP2
        clear hP2
        (refine wpPlan_take rfl (fun K hK => ?_); replace hK := Lib.hid hK; go_simp; first | (refine hK.out _ ?_; clear hK K) | (apply Exists.intro; refine ⟨fun _ => ?_, hK.out _ ?_⟩; (first | with_reducible exact rfl | skip); clear hK K))
        (refine wpPlan_take rfl (fun K hK => ?_); replace hK := Lib.hid hK; go_simp; first | (refine hK.out _ ?_; clear hK K) | (apply Exists.intro; refine ⟨fun _ => ?_, hK.out _ ?_⟩; (first | with_reducible exact rfl | skip); clear hK K))
        (refine wpPlan_take rfl (fun K hK => ?_); replace hK := Lib.hid hK; go_simp; first | (refine hK.out _ ?_; clear hK K) | (apply Exists.intro; refine ⟨fun _ => ?_, hK.out _ ?_⟩; (first | with_reducible exact rfl | skip); clear hK K))
        (refine wpPlan_take rfl (fun K hK => ?_); replace hK := Lib.hid hK; go_simp; first | (refine hK.out _ ?_; clear hK K) | (apply Exists.intro; refine ⟨fun _ => ?_, hK.out _ ?_⟩; (first | with_reducible exact rfl | skip); clear hK K))
        have hne2 : W.heap.size + 1 ≠ W.heap.size := by omega
        have hlA : W.heap.size ≤ W.heap.size + 1 := by omega
        have hlD : W.heap.size ≤ W.heap.size := by omega
        refine wp_storeP rfl rfl 46 _ _ rfl _ (#[.int .i64 g.id, .int .i64 g.kind, .int .i64 g.x, .int .i64 g.y, .int .i64 g.rad, (.slice fa n1 fc), .int .i64 g.dep, .int .i64 g.sym, (.slice fb n2 fd)]) rfl rfl _ _ rA (by kernel_rfl) (by kernel_rfl) (by kernel_rfl) (below_setRow hP hlA _) (fun hP => ?_)
        refine wp_storeP rfl rfl 53 _ _ rfl _ (#[.int .i64 bk.kind, .int .i64 bk.id, .int .i64 bk.feat.id, .int .i64 bk.feat.kind, .int .i64 bk.feat.x, .int .i64 bk.feat.y, .int .i64 bk.feat.rad, .slice none 0 0, .int .i64 bk.feat.dep, .int .i64 bk.feat.sym, .slice none 0 0, .int .i64 bk.x, .int .i64 bk.y, .int .i64 bk.rad, .int .i64 bk.dep, .int .i64 bk.sym]) rfl rfl _ _ ((setRow_other _ _ _ _ hne2.symm).trans rD) (by kernel_rfl) (by kernel_rfl) (by kernel_rfl) (below_setRow hP hlD _) (fun hP => ?_)
        (refine wpPlan_take rfl (fun K hK => ?_); replace hK := Lib.hid hK; go_simp; first | (refine hK.out _ ?_; clear hK K) | (apply Exists.intro; refine ⟨fun _ => ?_, hK.out _ ?_⟩; (first | with_reducible exact rfl | skip); clear hK K))
        refine wpPlan_done ?_
        go_wp2_with fail
        go_meet
        exact ⟨_, rfl, rfl, (setRow_other _ _ _ _ hne2).trans (setRow_heap _ _ _ _ _ _ rA), hP⟩
  case rest =>
    obtain ⟨b6, rfl, rfl, r6, hbx⟩ := hcut
    have hBx := below_step hB hbx
    have qx := block_later hbx q1
    have FX := Lib.hid (F1.out.keep (hbx.block m (by have := hB.size; omega)))
    have RX : Wr2 B m w wc := R1.trans (Wr2.of_below hbx)
    clear kq kp k0 k1 k2 k3 k4 k5 k6 k7 k8 k9 k10 k11 k12 k13 k14 kf c0
    go_wp2_with (first
      | (with_reducible refine wpList_load_row rfl 46 (.tmp 6) rfl b6 rfl _ _ _ _ r6 Tryz.underlying46 rfl (by kernel_rfl) ?_)
      | (with_reducible refine wpList_store_mid rfl 46 (.tmp 87) (.tmp 85) rfl B 5 (#[.int .i64 g.id, .int .i64 g.kind, .int .i64 g.x, .int .i64 g.y, .int .i64 g.rad, (.slice fa n1 fc), .int .i64 g.dep, .int .i64 g.sym, (.slice fb n2 fd)]) rfl rfl (there_block qx (by simp)) (by kernel_rfl) (by kernel_rfl) ?_))
    refine body_named fun W9 hW => ?_
    obtain ⟨q9, hot, hwr, _⟩ := said_put (m := m) (hW : W9 = _) qx
    clear hW
    have F9 := Lib.hid (FX.out.keep (hot m hne.symm))
    have R9 := RX.trans hwr
    go_returns
    exact ⟨(by rw [HE.out]; first | done | rfl), fun _ => (by rw [HE.out]; exact ⟨_, _, q9, (by have h := PF.out; unfold PartsAt at h ⊢; rw [HAR.out.1, HAR.out.2]; exact h), (F9.out.state rfl rfl rfl).mono (by omega)⟩), R9⟩
end Go.Proofs.YtpidmgkjnomigaaGreat
