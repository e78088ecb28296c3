/- The walk of said.hear: an operation is taken into account. -/
import Derived.Test.YtpidmgkjnomigaaGreatPatFld
import Derived.Test.YtpidmgkjnomigaaGreatPatComm
import Derived.Deep.CutRange
import Derived.Test.YtpidmgkjnomigaaGreatPatRev
namespace Go.Proofs.YtpidmgkjnomigaaGreat
open Go.RowKit
attribute [local go_sem] bqOp bqAll bqUpon sqOp sqAll sqUpon ssAll
attribute [local irreducible] wpQuiet wpBQ wpPlan wsPlan
set_option linter.unusedVariables false
/-- What has turned: blocks B and m alone. -/
structure Wr2 (B m : Nat) (w w' : World) : Prop where
  os : w'.os = w.os
  tape : w'.tape = w.tape
  output : w'.output = w.output
  size : w.heap.size ≤ w'.heap.size
  block : ∀ k, k < w.heap.size → k ≠ B → k ≠ m → w'.heap[k]? = w.heap[k]?
theorem Wr2.of_below {B m : Nat} {w w' : World} (h : Below w.heap.size w w') : Wr2 B m w w' := ⟨h.os, h.tape, h.output, h.size, fun k hk _ _ => h.block k hk⟩
theorem Wr2.trans {B m : Nat} {w1 w2 w3 : World} (h : Wr2 B m w1 w2) (k : Wr2 B m w2 w3) : Wr2 B m w1 w3 :=
  ⟨k.os.trans h.os, k.tape.trans h.tape, k.output.trans h.output, Nat.le_trans h.size k.size, fun i hi h1 h2 => (k.block i (Nat.lt_of_lt_of_le hi h.size) h1 h2).trans (h.block i hi h1 h2)⟩
theorem Wr2.setCell {B m i : Nat} {w w' : World} (h : Wr2 B m w w') (v : Value) : Wr2 B m w (w'.setCell ⟨B, i, none⟩ v) :=
  have hb := (Below.refl 0 w').setCell (p := ⟨B, i, none⟩) (Nat.zero_le _) v
  h.trans ⟨hb.os, hb.tape, hb.output, hb.size, fun k hk h1 _ => Below.heap_setCell _ _ _ _ h1⟩
theorem Wr2.drew {B m : Nat} {w w' : World} (h : Wr2 B m w w') : Wr2 B m w w'.drew := ⟨h.os, h.tape, h.output, h.size, h.block⟩
theorem Wr2.turned {B m : Nat} {w w' w2 : World} (h : Wr2 B m w w') (ht : w'.mapTurned w2 m) : Wr2 B m w w2 :=
  h.trans ⟨ht.grown.os, ht.grown.tape, ht.grown.output, ht.grown.size, fun k hk _ h2 => ht.grown.block k hk (fun e => h2 (Option.some.inj e))⟩
theorem Wr2.block_ne {B m i : Nat} {w w' : World} {o : Obj} (h : Wr2 B m w w') (hi : w.heap[i]? = some o) (h1 : i ≠ B) (h2 : i ≠ m) : w'.heap[i]? = some o := (h.block i (lt_block hi) h1 h2).trans hi
theorem there_block {w : World} {B o n : Nat} {cs : Array Value} {T : TypeId} (h : w.heap[B]? = some (.cells cs T (0, 0))) (hle : o + n ≤ cs.size) : w.there B o n := fun j hj => ⟨by
  rw [cell_block h, Array.getElem?_eq_getElem (by omega)]
  rfl, free_block h _⟩
theorem KeepB.setCells {W w : World} {g : Nat} {bs : List Nat} (h : KeepB W 0 bs w) (hb : g ∉ bs) : ∀ (vs : List Value) (o : Nat), KeepB W 0 bs (w.setCells g o vs)
  | [], o => h
  | v :: vs, o => (h.setCell (Nat.zero_le _) hb v).setCells hb vs (o + 1)
theorem said_put {w wn : World} {B m : Nat} {x0 x1 x2 x3 x4 x5 x6 x7 x8 x9 x10 x11 x12 x13 x14 y5 y6 y7 y8 y9 y10 y11 y12 y13 : Value} {T : TypeId} (h : wn = (((((((((w.setCell ⟨B, 5, none⟩ y5).setCell ⟨B, 6, none⟩ y6).setCell ⟨B, 7, none⟩ y7).setCell ⟨B, 8, none⟩ y8).setCell ⟨B, 9, none⟩ y9).setCell ⟨B, 10, none⟩ y10).setCell ⟨B, 11, none⟩ y11).setCell ⟨B, 12, none⟩ y12).setCell ⟨B, 13, none⟩ y13)) (hb : w.heap[B]? = some (.cells #[x0, x1, x2, x3, x4, x5, x6, x7, x8, x9, x10, x11, x12, x13, x14] T (0, 0))) :
    wn.heap[B]? = some (.cells #[x0, x1, x2, x3, x4, y5, y6, y7, y8, y9, y10, y11, y12, y13, x14] T (0, 0)) ∧ (∀ k, k ≠ B → wn.heap[k]? = w.heap[k]?) ∧ Wr2 B m w wn ∧ ∀ (W : World) (bs : List Nat), B ∉ bs → KeepB W 0 bs w → KeepB W 0 bs wn := by
  subst h
  refine ⟨by simpa using (block_set (i := 13) (block_set (i := 12) (block_set (i := 11) (block_set (i := 10) (block_set (i := 9) (block_set (i := 8) (block_set (i := 7) (block_set (i := 6) (block_set (i := 5) hb y5) y6) y7) y8) y9) y10) y11) y12) y13), fun k hk => (Below.heap_setCell _ _ _ _ hk).trans ((Below.heap_setCell _ _ _ _ hk).trans ((Below.heap_setCell _ _ _ _ hk).trans ((Below.heap_setCell _ _ _ _ hk).trans ((Below.heap_setCell _ _ _ _ hk).trans ((Below.heap_setCell _ _ _ _ hk).trans ((Below.heap_setCell _ _ _ _ hk).trans ((Below.heap_setCell _ _ _ _ hk).trans ((Below.heap_setCell _ _ _ _ hk).trans (rfl))))))))), ((((((((((Wr2.of_below (Below.refl _ w)).setCell _).setCell _).setCell _).setCell _).setCell _).setCell _).setCell _).setCell _).setCell _), fun W bs hB h => ?_⟩
  exact (((((((((h.setCell (Nat.zero_le _) hB _).setCell (Nat.zero_le _) hB _).setCell (Nat.zero_le _) hB _).setCell (Nat.zero_le _) hB _).setCell (Nat.zero_le _) hB _).setCell (Nat.zero_le _) hB _).setCell (Nat.zero_le _) hB _).setCell (Nat.zero_le _) hB _).setCell (Nat.zero_le _) hB _)
def saidC (s : SaidS) (va vs : Value) (m : Nat) : Array Value := #[.bool s.begun, .bool s.before, .bool s.deleted, .bool s.there, .bool s.known, .int .i64 s.feat.id, .int .i64 s.feat.kind, .int .i64 s.feat.x, .int .i64 s.feat.y, .int .i64 s.feat.rad, va, .int .i64 s.feat.dep, .int .i64 s.feat.sym, vs, .map (some m)]
/-- Block B is what a patch says of an ID, block m the map of its fields' operations. -/
def SaidAt (w0 w : World) (B m n : Nat) (s : SaidS) : Prop := ∃ va vs, w.heap[B]? = some (.cells (saidC s va vs m) 77 (0, 0)) ∧ PartsAt w0 s.feat va vs ∧ FldM w0 w m n s
def HearP (w0 : World) (B m n : Nat) (s : SaidS) (o : Opn) (w : World) (e : Ending) (w' : World) : Prop := e = .returned (.bool (hearS s o).2) ∧ ((hearS s o).2 = true → SaidAt w0 w' B m (n + 1) (hearS s o).1) ∧ Wr2 B m w w'
set_option maxHeartbeats 4000000 in
theorem hear_twice (B m n : Nat) (before deleted there known : Bool) (f : Feat) (mv dp sy : Option Opn) (o : Opn) (fa fb aa ab : Option Addr) (n1 n2 m1 m2 fc fd ca cb : Nat) (w0 w : World) (hq : w.heap[B]? = some (.cells #[.bool true, .bool before, .bool deleted, .bool there, .bool known, .int .i64 f.id, .int .i64 f.kind, .int .i64 f.x, .int .i64 f.y, .int .i64 f.rad, (.slice fa n1 fc), .int .i64 f.dep, .int .i64 f.sym, (.slice fb n2 fd), .map (some m)] 77 (0, 0))) (hf : PartsAt w0 f (.slice fa n1 fc) (.slice fb n2 fd)) (hm : FldM w0 w m n ⟨true, before, deleted, there, known, f, mv, dp, sy⟩) (hne : B ≠ m) (ho : PartsAt w0 o.feat (.slice aa m1 ca) (.slice ab m2 cb)) (k1 : o.kind = 1) (ht : there = true) : Calls Tryz.prog 49 #[.pointer (some ⟨B, 0, none⟩), opV o (.slice aa m1 ca) (.slice ab m2 cb)] w (HearP w0 B m n ⟨true, before, deleted, there, known, f, mv, dp, sy⟩ o w) := by
  have HE : Hid (hearS ⟨true, before, deleted, there, known, f, mv, dp, sy⟩ o = (⟨true, before, deleted, there, known, f, mv, dp, sy⟩, false)) := Lib.hid (by unfold hearS beginS stepS; simp [k1, ht])
  have Q0 := Lib.hid hq
  have FM := Lib.hid hm
  have PF := Lib.hid hf
  have PO := Lib.hid ho
  have hml := hm.lt
  have hBl := lt_block hq
  clear hq hm hf ho
  have d1 : (o.kind == 1) = true := by simpa using k1
  subst ht
  clear k1
  go_enter Tryz.func49, Tryz.ntmps49
  go_upto_region 2 with (fail)
  refine wp_named fun W hW => ?_
  obtain ⟨p1, hB⟩ := box1 hW
  clear hW
  have q1 := block_later hB Q0.out
  have F1 := Lib.hid (FM.out.keep (hB.block m hml))
  have R1 : Wr2 B m w W := Wr2.of_below hB
  have k0 := cell_block q1 0
  have k3 := cell_block q1 3
  have kf := free_block q1
  have c0 := cell_block p1 0
  go_wp2_with fail
  go_returns
  exact ⟨(by rw [HE.out]; first | done | rfl), fun h => (by rw [HE.out] at h; cases h), R1⟩
set_option maxHeartbeats 4000000 in
theorem hear_none (B m n : Nat) (before deleted there known : Bool) (f : Feat) (mv dp sy : Option Opn) (o : Opn) (fa fb aa ab : Option Addr) (n1 n2 m1 m2 fc fd ca cb : Nat) (w0 w : World) (hq : w.heap[B]? = some (.cells #[.bool true, .bool before, .bool deleted, .bool there, .bool known, .int .i64 f.id, .int .i64 f.kind, .int .i64 f.x, .int .i64 f.y, .int .i64 f.rad, (.slice fa n1 fc), .int .i64 f.dep, .int .i64 f.sym, (.slice fb n2 fd), .map (some m)] 77 (0, 0))) (hf : PartsAt w0 f (.slice fa n1 fc) (.slice fb n2 fd)) (hm : FldM w0 w m n ⟨true, before, deleted, there, known, f, mv, dp, sy⟩) (hne : B ≠ m) (ho : PartsAt w0 o.feat (.slice aa m1 ca) (.slice ab m2 cb)) (k1 : ¬ o.kind = 1) (ht : there = false) : Calls Tryz.prog 49 #[.pointer (some ⟨B, 0, none⟩), opV o (.slice aa m1 ca) (.slice ab m2 cb)] w (HearP w0 B m n ⟨true, before, deleted, there, known, f, mv, dp, sy⟩ o w) := by
  have HE : Hid (hearS ⟨true, before, deleted, there, known, f, mv, dp, sy⟩ o = (⟨true, before, deleted, there, known, f, mv, dp, sy⟩, false)) := Lib.hid (by unfold hearS beginS stepS; simp [k1, ht])
  have Q0 := Lib.hid hq
  have FM := Lib.hid hm
  have PF := Lib.hid hf
  have PO := Lib.hid ho
  have hml := hm.lt
  have hBl := lt_block hq
  clear hq hm hf ho
  have d1 : (o.kind == 1) = false := by simpa using k1
  subst ht
  clear k1
  go_enter Tryz.func49, Tryz.ntmps49
  go_upto_region 2 with (fail)
  refine wp_named fun W hW => ?_
  obtain ⟨p1, hB⟩ := box1 hW
  clear hW
  have q1 := block_later hB Q0.out
  have F1 := Lib.hid (FM.out.keep (hB.block m hml))
  have R1 : Wr2 B m w W := Wr2.of_below hB
  have k0 := cell_block q1 0
  have k3 := cell_block q1 3
  have kf := free_block q1
  have c0 := cell_block p1 0
  go_wp2_with fail
  go_returns
  exact ⟨(by rw [HE.out]; first | done | rfl), fun h => (by rw [HE.out] at h; cases h), R1⟩
set_option maxHeartbeats 4000000 in
theorem hear_ins (B m n : Nat) (before deleted there known : Bool) (f : Feat) (mv dp sy : Option Opn) (o : Opn) (fa fb aa ab : Option Addr) (n1 n2 m1 m2 fc fd ca cb : Nat) (w0 w : World) (hq : w.heap[B]? = some (.cells #[.bool true, .bool before, .bool deleted, .bool there, .bool known, .int .i64 f.id, .int .i64 f.kind, .int .i64 f.x, .int .i64 f.y, .int .i64 f.rad, (.slice fa n1 fc), .int .i64 f.dep, .int .i64 f.sym, (.slice fb n2 fd), .map (some m)] 77 (0, 0))) (hf : PartsAt w0 f (.slice fa n1 fc) (.slice fb n2 fd)) (hm : FldM w0 w m n ⟨true, before, deleted, there, known, f, mv, dp, sy⟩) (hne : B ≠ m) (ho : PartsAt w0 o.feat (.slice aa m1 ca) (.slice ab m2 cb)) (k1 : o.kind = 1) (ht : there = false) : Calls Tryz.prog 49 #[.pointer (some ⟨B, 0, none⟩), opV o (.slice aa m1 ca) (.slice ab m2 cb)] w (HearP w0 B m n ⟨true, before, deleted, there, known, f, mv, dp, sy⟩ o w) := by
  have HE : Hid (hearS ⟨true, before, deleted, there, known, f, mv, dp, sy⟩ o = (⟨true, before, deleted, true, true, o.feat, mv, dp, sy⟩, true)) := Lib.hid (by unfold hearS beginS stepS; simp [k1, ht])
  have Q0 := Lib.hid hq
  have FM := Lib.hid hm
  have PF := Lib.hid hf
  have PO := Lib.hid ho
  have hml := hm.lt
  have hBl := lt_block hq
  clear hq hm hf ho
  have d1 : (o.kind == 1) = true := by simpa using k1
  subst ht
  clear k1
  go_enter Tryz.func49, Tryz.ntmps49
  go_upto_region 2 with (fail)
  refine wp_named fun W hW => ?_
  obtain ⟨p1, hB⟩ := box1 hW
  clear hW
  have q1 := block_later hB Q0.out
  have F1 := Lib.hid (FM.out.keep (hB.block m hml))
  have R1 : Wr2 B m w W := Wr2.of_below hB
  have F8 : ∀ w', KeepB W 0 [w.heap.size] w' → ∀ i, w'.cell? ⟨w.heap.size, i, none⟩ = #[.int .i64 o.kind, .int .i64 o.id, .int .i64 o.feat.id, .int .i64 o.feat.kind, .int .i64 o.feat.x, .int .i64 o.feat.y, .int .i64 o.feat.rad, (.slice aa m1 ca), .int .i64 o.feat.dep, .int .i64 o.feat.sym, (.slice ab m2 cb), .int .i64 o.x, .int .i64 o.y, .int .i64 o.rad, .int .i64 o.dep, .int .i64 o.sym][i]? := fun w' hw i => cell_block (hw.at (by simp) p1) i
  have k0 := cell_block q1 0
  have k1 := cell_block q1 1
  have k2 := cell_block q1 2
  have k3 := cell_block q1 3
  have k4 := cell_block q1 4
  have k5 := cell_block q1 5
  have k6 := cell_block q1 6
  have k7 := cell_block q1 7
  have k8 := cell_block q1 8
  have k9 := cell_block q1 9
  have k10 := cell_block q1 10
  have k11 := cell_block q1 11
  have k12 := cell_block q1 12
  have k13 := cell_block q1 13
  have k14 := cell_block q1 14
  have kf := free_block q1
  have c0 := cell_block p1 0
  go_upto_region 8 with (fail)
  refine wp_region_planS (KeepB W 0 [w.heap.size]) (.take 0 (.take 0 (.take 0 (.take 0 (.take 0 (.take 0 (.take 0 (.only 0 (.take 0 (.take 0 (.only 0 (.take 0 (.take 0 (.only 0 .done)))))))))))))) (by kernel_rfl) (by kernel_rfl) (KeepB.refl) (fun hP => ?_)
  (refine wsPlan_take rfl (fun K hK => ?_); replace hK := Lib.hid hK; go_simp; first | (refine hK.out _ ?_; clear hK K) | (apply Exists.intro; refine ⟨fun w' hw => ?_, hK.out _ ?_⟩; (first | with_reducible exact rfl | (have f8 := F8 w' hw; go_simp; exact rfl)); clear hK K))
  (refine wsPlan_take rfl (fun K hK => ?_); replace hK := Lib.hid hK; go_simp; first | (refine hK.out _ ?_; clear hK K) | (apply Exists.intro; refine ⟨fun w' hw => ?_, hK.out _ ?_⟩; (first | with_reducible exact rfl | (have f8 := F8 w' hw; go_simp; exact rfl)); clear hK K))
  (refine wsPlan_take rfl (fun K hK => ?_); replace hK := Lib.hid hK; go_simp; first | (refine hK.out _ ?_; clear hK K) | (apply Exists.intro; refine ⟨fun w' hw => ?_, hK.out _ ?_⟩; (first | with_reducible exact rfl | (have f8 := F8 w' hw; go_simp; exact rfl)); clear hK K))
  (refine wsPlan_take rfl (fun K hK => ?_); replace hK := Lib.hid hK; go_simp; first | (refine hK.out _ ?_; clear hK K) | (apply Exists.intro; refine ⟨fun w' hw => ?_, hK.out _ ?_⟩; (first | with_reducible exact rfl | (have f8 := F8 w' hw; go_simp; exact rfl)); clear hK K))
  (refine wsPlan_take rfl (fun K hK => ?_); replace hK := Lib.hid hK; go_simp; first | (refine hK.out _ ?_; clear hK K) | (apply Exists.intro; refine ⟨fun w' hw => ?_, hK.out _ ?_⟩; (first | with_reducible exact rfl | (have f8 := F8 w' hw; go_simp; exact rfl)); clear hK K))
  (refine wsPlan_take rfl (fun K hK => ?_); replace hK := Lib.hid hK; go_simp; first | (refine hK.out _ ?_; clear hK K) | (apply Exists.intro; refine ⟨fun w' hw => ?_, hK.out _ ?_⟩; (first | with_reducible exact rfl | (have f8 := F8 w' hw; go_simp; exact rfl)); clear hK K))
  (refine wsPlan_take rfl (fun K hK => ?_); replace hK := Lib.hid hK; go_simp; first | (refine hK.out _ ?_; clear hK K) | (apply Exists.intro; refine ⟨fun w' hw => ?_, hK.out _ ?_⟩; (first | with_reducible exact rfl | (have f8 := F8 w' hw; go_simp; exact rfl)); clear hK K))
  (refine wsPlan_only rfl (fun K hK => ?_); replace hK := Lib.hid hK; go_simp; refine hK.out _ _ (by exact (hP.setCell (Nat.zero_le _) (by simp <;> omega) _)) (fun hP => ?_); clear hK K)
  (refine wsPlan_take rfl (fun K hK => ?_); replace hK := Lib.hid hK; go_simp; first | (refine hK.out _ ?_; clear hK K) | (apply Exists.intro; refine ⟨fun w' hw => ?_, hK.out _ ?_⟩; (first | with_reducible exact rfl | (have f8 := F8 w' hw; go_simp; exact rfl)); clear hK K))
  (refine wsPlan_take rfl (fun K hK => ?_); replace hK := Lib.hid hK; go_simp; first | (refine hK.out _ ?_; clear hK K) | (apply Exists.intro; refine ⟨fun w' hw => ?_, hK.out _ ?_⟩; (first | with_reducible exact rfl | (have f8 := F8 w' hw; go_simp; exact rfl)); clear hK K))
  (refine wsPlan_only rfl (fun K hK => ?_); replace hK := Lib.hid hK; go_simp; refine hK.out _ _ (by exact (hP.setCell (Nat.zero_le _) (by simp <;> omega) _)) (fun hP => ?_); clear hK K)
  (refine wsPlan_take rfl (fun K hK => ?_); replace hK := Lib.hid hK; go_simp; first | (refine hK.out _ ?_; clear hK K) | (apply Exists.intro; refine ⟨fun w' hw => ?_, hK.out _ ?_⟩; (first | with_reducible exact rfl | (have f8 := F8 w' hw; go_simp; exact rfl)); clear hK K))
  (refine wsPlan_take rfl (fun K hK => ?_); replace hK := Lib.hid hK; go_simp; first | (refine hK.out _ ?_; clear hK K) | (apply Exists.intro; refine ⟨fun w' hw => ?_, hK.out _ ?_⟩; (first | with_reducible exact rfl | (have f8 := F8 w' hw; go_simp; exact rfl)); clear hK K))
  refine ws_storeMid rfl rfl 46 _ _ rfl B 5 (#[.int .i64 o.feat.id, .int .i64 o.feat.kind, .int .i64 o.feat.x, .int .i64 o.feat.y, .int .i64 o.feat.rad, (.slice aa m1 ca), .int .i64 o.feat.dep, .int .i64 o.feat.sym, (.slice ab m2 cb)]) rfl rfl (there_block (block_set (block_set q1 _) _) (by simp)) (by kernel_rfl) (by kernel_rfl) (KeepB.setCells ((KeepB.refl.setCell (Nat.zero_le _) (by simp <;> omega) _).setCell (Nat.zero_le _) (by simp <;> omega) _) (by simp <;> omega) _ _) ?_
  refine wsPlan_done ?_
  simp only [Act.put, List.setIfInBounds_toArray, List.set_cons_zero, List.set_cons_succ]
  clear F8 k0 k1 k2 k3 k4 k5 k6 k7 k8 k9 k10 k11 k12 k13 k14 kf c0
  go_wp2_with fail
  refine body_named fun W9 hW => ?_
  have qa : ((W.drew.setCell ⟨B, 3, none⟩ (.bool true)).setCell ⟨B, 4, none⟩ (.bool true)).heap[B]? = some (.cells #[.bool true, .bool before, .bool deleted, .bool true, .bool true, .int .i64 f.id, .int .i64 f.kind, .int .i64 f.x, .int .i64 f.y, .int .i64 f.rad, (.slice fa n1 fc), .int .i64 f.dep, .int .i64 f.sym, (.slice fb n2 fd), .map (some m)] 77 (0, 0)) := block_set (block_set q1 _) _
  obtain ⟨q9, hot, hwr, _⟩ := said_put (m := m) (hW : W9 = _) qa
  clear hW
  have F9 := Lib.hid (F1.out.keep ((hot m hne.symm).trans ((Below.heap_setCell _ _ _ _ (show m ≠ B by omega)).trans ((Below.heap_setCell _ _ _ _ (show m ≠ B by omega)).trans (rfl)))))
  have R9 : Wr2 B m w W9 := ((R1.drew.setCell _).setCell _).trans hwr
  go_returns
  exact ⟨(by rw [HE.out]; first | done | rfl), fun _ => (by rw [HE.out]; exact ⟨_, _, q9, PO.out, (F9.out.state rfl rfl rfl).mono (by omega)⟩), R9⟩
set_option maxHeartbeats 4000000 in
theorem hear_ins0 (B m n : Nat) (before deleted there known : Bool) (f : Feat) (mv dp sy : Option Opn) (o : Opn) (fa fb aa ab : Option Addr) (n1 n2 m1 m2 fc fd ca cb : Nat) (w0 w : World) (hq : w.heap[B]? = some (.cells #[.bool false, .bool before, .bool deleted, .bool there, .bool known, .int .i64 f.id, .int .i64 f.kind, .int .i64 f.x, .int .i64 f.y, .int .i64 f.rad, (.slice fa n1 fc), .int .i64 f.dep, .int .i64 f.sym, (.slice fb n2 fd), .map (some m)] 77 (0, 0))) (hf : PartsAt w0 f (.slice fa n1 fc) (.slice fb n2 fd)) (hm : FldM w0 w m n ⟨false, before, deleted, there, known, f, mv, dp, sy⟩) (hne : B ≠ m) (ho : PartsAt w0 o.feat (.slice aa m1 ca) (.slice ab m2 cb)) (k1 : o.kind = 1) : Calls Tryz.prog 49 #[.pointer (some ⟨B, 0, none⟩), opV o (.slice aa m1 ca) (.slice ab m2 cb)] w (HearP w0 B m n ⟨false, before, deleted, there, known, f, mv, dp, sy⟩ o w) := by
  have HE : Hid (hearS ⟨false, before, deleted, there, known, f, mv, dp, sy⟩ o = (⟨true, false, deleted, true, true, o.feat, mv, dp, sy⟩, true)) := Lib.hid (by unfold hearS beginS stepS; simp [k1])
  have Q0 := Lib.hid hq
  have FM := Lib.hid hm
  have PF := Lib.hid hf
  have PO := Lib.hid ho
  have hml := hm.lt
  have hBl := lt_block hq
  clear hq hm hf ho
  have d1 : (o.kind == 1) = true := by simpa using k1
  clear k1
  go_enter Tryz.func49, Tryz.ntmps49
  go_upto_region 2 with (fail)
  refine wp_named fun W hW => ?_
  obtain ⟨p1, hB⟩ := box1 hW
  clear hW
  have q1 := block_later hB Q0.out
  have F1 := Lib.hid (FM.out.keep (hB.block m hml))
  have R1 : Wr2 B m w W := Wr2.of_below hB
  have k0 := cell_block q1 0
  have k1 := cell_block q1 1
  have k2 := cell_block q1 2
  have k3 := cell_block q1 3
  have k4 := cell_block q1 4
  have k5 := cell_block q1 5
  have k6 := cell_block q1 6
  have k7 := cell_block q1 7
  have k8 := cell_block q1 8
  have k9 := cell_block q1 9
  have k10 := cell_block q1 10
  have k11 := cell_block q1 11
  have k12 := cell_block q1 12
  have k13 := cell_block q1 13
  have k14 := cell_block q1 14
  have kf := free_block q1
  have c0 := cell_block p1 0
  go_upto_region 4 with (fail)
  refine wp_named fun W2 hW => ?_
  clear k0 k1 k2 k3 k4 k5 k6 k7 k8 k9 k10 k11 k12 k13 k14 kf c0
  have q2 : W2.heap[B]? = some (.cells #[.bool true, .bool false, .bool deleted, .bool false, .bool known, .int .i64 f.id, .int .i64 f.kind, .int .i64 f.x, .int .i64 f.y, .int .i64 f.rad, (.slice fa n1 fc), .int .i64 f.dep, .int .i64 f.sym, (.slice fb n2 fd), .map (some m)] 77 (0, 0)) := by rw [hW]; exact (block_set (block_set (block_set q1 _) _) _)
  have p2 := (congrArg (fun X : World => X.heap[w.heap.size]?) hW).trans ((Below.heap_setCell _ _ _ _ (show w.heap.size ≠ B by omega)).trans ((Below.heap_setCell _ _ _ _ (show w.heap.size ≠ B by omega)).trans ((Below.heap_setCell _ _ _ _ (show w.heap.size ≠ B by omega)).trans (p1))))
  replace p2 : W2.heap[w.heap.size]? = _ := p2
  have F2 := Lib.hid (F1.out.keep ((congrArg (fun X : World => X.heap[m]?) hW).trans ((Below.heap_setCell _ _ _ _ (show m ≠ B by omega)).trans ((Below.heap_setCell _ _ _ _ (show m ≠ B by omega)).trans ((Below.heap_setCell _ _ _ _ (show m ≠ B by omega)).trans (rfl))))))
  have R2 : Wr2 B m w W2 := by rw [hW]; exact (((R1).setCell _).setCell _).setCell _
  clear hW
  have F8 : ∀ w', KeepB W2 0 [w.heap.size] w' → ∀ i, w'.cell? ⟨w.heap.size, i, none⟩ = #[.int .i64 o.kind, .int .i64 o.id, .int .i64 o.feat.id, .int .i64 o.feat.kind, .int .i64 o.feat.x, .int .i64 o.feat.y, .int .i64 o.feat.rad, (.slice aa m1 ca), .int .i64 o.feat.dep, .int .i64 o.feat.sym, (.slice ab m2 cb), .int .i64 o.x, .int .i64 o.y, .int .i64 o.rad, .int .i64 o.dep, .int .i64 o.sym][i]? := fun w' hw i => cell_block (hw.at (by simp) p2) i
  have k0 := cell_block q2 0
  have k1 := cell_block q2 1
  have k2 := cell_block q2 2
  have k3 := cell_block q2 3
  have k4 := cell_block q2 4
  have k5 := cell_block q2 5
  have k6 := cell_block q2 6
  have k7 := cell_block q2 7
  have k8 := cell_block q2 8
  have k9 := cell_block q2 9
  have k10 := cell_block q2 10
  have k11 := cell_block q2 11
  have k12 := cell_block q2 12
  have k13 := cell_block q2 13
  have k14 := cell_block q2 14
  have kf := free_block q2
  have c0 := cell_block p2 0
  go_upto_region 8 with (fail)
  refine wp_region_planS (KeepB W2 0 [w.heap.size]) (.take 0 (.take 0 (.take 0 (.take 0 (.take 0 (.take 0 (.take 0 (.only 0 (.take 0 (.take 0 (.only 0 (.take 0 (.take 0 (.only 0 .done)))))))))))))) (by kernel_rfl) (by kernel_rfl) (KeepB.refl) (fun hP => ?_)
  (refine wsPlan_take rfl (fun K hK => ?_); replace hK := Lib.hid hK; go_simp; first | (refine hK.out _ ?_; clear hK K) | (apply Exists.intro; refine ⟨fun w' hw => ?_, hK.out _ ?_⟩; (first | with_reducible exact rfl | (have f8 := F8 w' hw; go_simp; exact rfl)); clear hK K))
  (refine wsPlan_take rfl (fun K hK => ?_); replace hK := Lib.hid hK; go_simp; first | (refine hK.out _ ?_; clear hK K) | (apply Exists.intro; refine ⟨fun w' hw => ?_, hK.out _ ?_⟩; (first | with_reducible exact rfl | (have f8 := F8 w' hw; go_simp; exact rfl)); clear hK K))
  (refine wsPlan_take rfl (fun K hK => ?_); replace hK := Lib.hid hK; go_simp; first | (refine hK.out _ ?_; clear hK K) | (apply Exists.intro; refine ⟨fun w' hw => ?_, hK.out _ ?_⟩; (first | with_reducible exact rfl | (have f8 := F8 w' hw; go_simp; exact rfl)); clear hK K))
  (refine wsPlan_take rfl (fun K hK => ?_); replace hK := Lib.hid hK; go_simp; first | (refine hK.out _ ?_; clear hK K) | (apply Exists.intro; refine ⟨fun w' hw => ?_, hK.out _ ?_⟩; (first | with_reducible exact rfl | (have f8 := F8 w' hw; go_simp; exact rfl)); clear hK K))
  (refine wsPlan_take rfl (fun K hK => ?_); replace hK := Lib.hid hK; go_simp; first | (refine hK.out _ ?_; clear hK K) | (apply Exists.intro; refine ⟨fun w' hw => ?_, hK.out _ ?_⟩; (first | with_reducible exact rfl | (have f8 := F8 w' hw; go_simp; exact rfl)); clear hK K))
  (refine wsPlan_take rfl (fun K hK => ?_); replace hK := Lib.hid hK; go_simp; first | (refine hK.out _ ?_; clear hK K) | (apply Exists.intro; refine ⟨fun w' hw => ?_, hK.out _ ?_⟩; (first | with_reducible exact rfl | (have f8 := F8 w' hw; go_simp; exact rfl)); clear hK K))
  (refine wsPlan_take rfl (fun K hK => ?_); replace hK := Lib.hid hK; go_simp; first | (refine hK.out _ ?_; clear hK K) | (apply Exists.intro; refine ⟨fun w' hw => ?_, hK.out _ ?_⟩; (first | with_reducible exact rfl | (have f8 := F8 w' hw; go_simp; exact rfl)); clear hK K))
  (refine wsPlan_only rfl (fun K hK => ?_); replace hK := Lib.hid hK; go_simp; refine hK.out _ _ (by exact (hP.setCell (Nat.zero_le _) (by simp <;> omega) _)) (fun hP => ?_); clear hK K)
  (refine wsPlan_take rfl (fun K hK => ?_); replace hK := Lib.hid hK; go_simp; first | (refine hK.out _ ?_; clear hK K) | (apply Exists.intro; refine ⟨fun w' hw => ?_, hK.out _ ?_⟩; (first | with_reducible exact rfl | (have f8 := F8 w' hw; go_simp; exact rfl)); clear hK K))
  (refine wsPlan_take rfl (fun K hK => ?_); replace hK := Lib.hid hK; go_simp; first | (refine hK.out _ ?_; clear hK K) | (apply Exists.intro; refine ⟨fun w' hw => ?_, hK.out _ ?_⟩; (first | with_reducible exact rfl | (have f8 := F8 w' hw; go_simp; exact rfl)); clear hK K))
  (refine wsPlan_only rfl (fun K hK => ?_); replace hK := Lib.hid hK; go_simp; refine hK.out _ _ (by exact (hP.setCell (Nat.zero_le _) (by simp <;> omega) _)) (fun hP => ?_); clear hK K)
  (refine wsPlan_take rfl (fun K hK => ?_); replace hK := Lib.hid hK; go_simp; first | (refine hK.out _ ?_; clear hK K) | (apply Exists.intro; refine ⟨fun w' hw => ?_, hK.out _ ?_⟩; (first | with_reducible exact rfl | (have f8 := F8 w' hw; go_simp; exact rfl)); clear hK K))
  (refine wsPlan_take rfl (fun K hK => ?_); replace hK := Lib.hid hK; go_simp; first | (refine hK.out _ ?_; clear hK K) | (apply Exists.intro; refine ⟨fun w' hw => ?_, hK.out _ ?_⟩; (first | with_reducible exact rfl | (have f8 := F8 w' hw; go_simp; exact rfl)); clear hK K))
  refine ws_storeMid rfl rfl 46 _ _ rfl B 5 (#[.int .i64 o.feat.id, .int .i64 o.feat.kind, .int .i64 o.feat.x, .int .i64 o.feat.y, .int .i64 o.feat.rad, (.slice aa m1 ca), .int .i64 o.feat.dep, .int .i64 o.feat.sym, (.slice ab m2 cb)]) rfl rfl (there_block (block_set (block_set q2 _) _) (by simp)) (by kernel_rfl) (by kernel_rfl) (KeepB.setCells ((KeepB.refl.setCell (Nat.zero_le _) (by simp <;> omega) _).setCell (Nat.zero_le _) (by simp <;> omega) _) (by simp <;> omega) _ _) ?_
  refine wsPlan_done ?_
  simp only [Act.put, List.setIfInBounds_toArray, List.set_cons_zero, List.set_cons_succ]
  clear F8 k0 k1 k2 k3 k4 k5 k6 k7 k8 k9 k10 k11 k12 k13 k14 kf c0
  go_wp2_with fail
  refine body_named fun W9 hW => ?_
  have qa : ((W2.drew.setCell ⟨B, 3, none⟩ (.bool true)).setCell ⟨B, 4, none⟩ (.bool true)).heap[B]? = some (.cells #[.bool true, .bool false, .bool deleted, .bool true, .bool true, .int .i64 f.id, .int .i64 f.kind, .int .i64 f.x, .int .i64 f.y, .int .i64 f.rad, (.slice fa n1 fc), .int .i64 f.dep, .int .i64 f.sym, (.slice fb n2 fd), .map (some m)] 77 (0, 0)) := block_set (block_set q2 _) _
  obtain ⟨q9, hot, hwr, _⟩ := said_put (m := m) (hW : W9 = _) qa
  clear hW
  have F9 := Lib.hid (F2.out.keep ((hot m hne.symm).trans ((Below.heap_setCell _ _ _ _ (show m ≠ B by omega)).trans ((Below.heap_setCell _ _ _ _ (show m ≠ B by omega)).trans (rfl)))))
  have R9 : Wr2 B m w W9 := ((R2.drew.setCell _).setCell _).trans hwr
  go_returns
  exact ⟨(by rw [HE.out]; first | done | rfl), fun _ => (by rw [HE.out]; exact ⟨_, _, q9, PO.out, (F9.out.state rfl rfl rfl).mono (by omega)⟩), R9⟩
set_option maxHeartbeats 4000000 in
theorem hear_del (B m n : Nat) (before deleted there known : Bool) (f : Feat) (mv dp sy : Option Opn) (o : Opn) (fa fb aa ab : Option Addr) (n1 n2 m1 m2 fc fd ca cb : Nat) (w0 w : World) (hq : w.heap[B]? = some (.cells #[.bool true, .bool before, .bool deleted, .bool there, .bool known, .int .i64 f.id, .int .i64 f.kind, .int .i64 f.x, .int .i64 f.y, .int .i64 f.rad, (.slice fa n1 fc), .int .i64 f.dep, .int .i64 f.sym, (.slice fb n2 fd), .map (some m)] 77 (0, 0))) (hf : PartsAt w0 f (.slice fa n1 fc) (.slice fb n2 fd)) (hm : FldM w0 w m n ⟨true, before, deleted, there, known, f, mv, dp, sy⟩) (hne : B ≠ m) (ho : PartsAt w0 o.feat (.slice aa m1 ca) (.slice ab m2 cb)) (k2 : o.kind = 2) (ht : there = true) : Calls Tryz.prog 49 #[.pointer (some ⟨B, 0, none⟩), opV o (.slice aa m1 ca) (.slice ab m2 cb)] w (HearP w0 B m n ⟨true, before, deleted, there, known, f, mv, dp, sy⟩ o w) := by
  have HE : Hid (hearS ⟨true, before, deleted, there, known, f, mv, dp, sy⟩ o = (⟨true, before, true, false, false, f, mv, dp, sy⟩, true)) := Lib.hid (by unfold hearS beginS stepS; simp [k2, ht])
  have Q0 := Lib.hid hq
  have FM := Lib.hid hm
  have PF := Lib.hid hf
  have PO := Lib.hid ho
  have hml := hm.lt
  have hBl := lt_block hq
  clear hq hm hf ho
  have e1 : (o.kind == 1) = false := by rw [k2]; rfl
  have e2 : (o.kind == 2) = true := by rw [k2]; rfl
  subst ht
  clear k2
  go_enter Tryz.func49, Tryz.ntmps49
  go_upto_region 2 with (fail)
  refine wp_named fun W hW => ?_
  obtain ⟨p1, hB⟩ := box1 hW
  clear hW
  have q1 := block_later hB Q0.out
  have F1 := Lib.hid (FM.out.keep (hB.block m hml))
  have R1 : Wr2 B m w W := Wr2.of_below hB
  have k0 := cell_block q1 0
  have k1 := cell_block q1 1
  have k2 := cell_block q1 2
  have k3 := cell_block q1 3
  have k4 := cell_block q1 4
  have k5 := cell_block q1 5
  have k6 := cell_block q1 6
  have k7 := cell_block q1 7
  have k8 := cell_block q1 8
  have k9 := cell_block q1 9
  have k10 := cell_block q1 10
  have k11 := cell_block q1 11
  have k12 := cell_block q1 12
  have k13 := cell_block q1 13
  have k14 := cell_block q1 14
  have kf := free_block q1
  have c0 := cell_block p1 0
  go_wp2_with fail
  refine body_named fun W9 hW => ?_
  have q9 : W9.heap[B]? = some (.cells #[.bool true, .bool before, .bool true, .bool false, .bool false, .int .i64 f.id, .int .i64 f.kind, .int .i64 f.x, .int .i64 f.y, .int .i64 f.rad, (.slice fa n1 fc), .int .i64 f.dep, .int .i64 f.sym, (.slice fb n2 fd), .map (some m)] 77 (0, 0)) := by rw [hW]; exact (block_set (block_set (block_set q1 _) _) _)
  have F9 := Lib.hid (F1.out.keep ((congrArg (fun X : World => X.heap[m]?) hW).trans ((Below.heap_setCell _ _ _ _ (show m ≠ B by omega)).trans ((Below.heap_setCell _ _ _ _ (show m ≠ B by omega)).trans ((Below.heap_setCell _ _ _ _ (show m ≠ B by omega)).trans (rfl))))))
  have R9 : Wr2 B m w W9 := by rw [hW]; exact ((R1.setCell _).setCell _).setCell _
  clear hW
  go_returns
  exact ⟨(by rw [HE.out]; first | done | rfl), fun _ => (by rw [HE.out]; exact ⟨_, _, q9, PF.out, (F9.out.state rfl rfl rfl).mono (by omega)⟩), R9⟩
set_option maxHeartbeats 4000000 in
theorem hear_del0 (B m n : Nat) (before deleted there known : Bool) (f : Feat) (mv dp sy : Option Opn) (o : Opn) (fa fb aa ab : Option Addr) (n1 n2 m1 m2 fc fd ca cb : Nat) (w0 w : World) (hq : w.heap[B]? = some (.cells #[.bool false, .bool before, .bool deleted, .bool there, .bool known, .int .i64 f.id, .int .i64 f.kind, .int .i64 f.x, .int .i64 f.y, .int .i64 f.rad, (.slice fa n1 fc), .int .i64 f.dep, .int .i64 f.sym, (.slice fb n2 fd), .map (some m)] 77 (0, 0))) (hf : PartsAt w0 f (.slice fa n1 fc) (.slice fb n2 fd)) (hm : FldM w0 w m n ⟨false, before, deleted, there, known, f, mv, dp, sy⟩) (hne : B ≠ m) (ho : PartsAt w0 o.feat (.slice aa m1 ca) (.slice ab m2 cb)) (k2 : o.kind = 2) : Calls Tryz.prog 49 #[.pointer (some ⟨B, 0, none⟩), opV o (.slice aa m1 ca) (.slice ab m2 cb)] w (HearP w0 B m n ⟨false, before, deleted, there, known, f, mv, dp, sy⟩ o w) := by
  have HE : Hid (hearS ⟨false, before, deleted, there, known, f, mv, dp, sy⟩ o = (⟨true, true, true, false, false, f, mv, dp, sy⟩, true)) := Lib.hid (by unfold hearS beginS stepS; simp [k2])
  have Q0 := Lib.hid hq
  have FM := Lib.hid hm
  have PF := Lib.hid hf
  have PO := Lib.hid ho
  have hml := hm.lt
  have hBl := lt_block hq
  clear hq hm hf ho
  have e1 : (o.kind == 1) = false := by rw [k2]; rfl
  have e2 : (o.kind == 2) = true := by rw [k2]; rfl
  clear k2
  go_enter Tryz.func49, Tryz.ntmps49
  go_upto_region 2 with (fail)
  refine wp_named fun W hW => ?_
  obtain ⟨p1, hB⟩ := box1 hW
  clear hW
  have q1 := block_later hB Q0.out
  have F1 := Lib.hid (FM.out.keep (hB.block m hml))
  have R1 : Wr2 B m w W := Wr2.of_below hB
  have k0 := cell_block q1 0
  have k1 := cell_block q1 1
  have k2 := cell_block q1 2
  have k3 := cell_block q1 3
  have k4 := cell_block q1 4
  have k5 := cell_block q1 5
  have k6 := cell_block q1 6
  have k7 := cell_block q1 7
  have k8 := cell_block q1 8
  have k9 := cell_block q1 9
  have k10 := cell_block q1 10
  have k11 := cell_block q1 11
  have k12 := cell_block q1 12
  have k13 := cell_block q1 13
  have k14 := cell_block q1 14
  have kf := free_block q1
  have c0 := cell_block p1 0
  go_upto_region 4 with (fail)
  refine wp_named fun W2 hW => ?_
  clear k0 k1 k2 k3 k4 k5 k6 k7 k8 k9 k10 k11 k12 k13 k14 kf c0
  have q2 : W2.heap[B]? = some (.cells #[.bool true, .bool true, .bool deleted, .bool true, .bool known, .int .i64 f.id, .int .i64 f.kind, .int .i64 f.x, .int .i64 f.y, .int .i64 f.rad, (.slice fa n1 fc), .int .i64 f.dep, .int .i64 f.sym, (.slice fb n2 fd), .map (some m)] 77 (0, 0)) := by rw [hW]; exact (block_set (block_set (block_set q1 _) _) _)
  have p2 := (congrArg (fun X : World => X.heap[w.heap.size]?) hW).trans ((Below.heap_setCell _ _ _ _ (show w.heap.size ≠ B by omega)).trans ((Below.heap_setCell _ _ _ _ (show w.heap.size ≠ B by omega)).trans ((Below.heap_setCell _ _ _ _ (show w.heap.size ≠ B by omega)).trans (p1))))
  replace p2 : W2.heap[w.heap.size]? = _ := p2
  have F2 := Lib.hid (F1.out.keep ((congrArg (fun X : World => X.heap[m]?) hW).trans ((Below.heap_setCell _ _ _ _ (show m ≠ B by omega)).trans ((Below.heap_setCell _ _ _ _ (show m ≠ B by omega)).trans ((Below.heap_setCell _ _ _ _ (show m ≠ B by omega)).trans (rfl))))))
  have R2 : Wr2 B m w W2 := by rw [hW]; exact (((R1).setCell _).setCell _).setCell _
  clear hW
  have k0 := cell_block q2 0
  have k1 := cell_block q2 1
  have k2 := cell_block q2 2
  have k3 := cell_block q2 3
  have k4 := cell_block q2 4
  have k5 := cell_block q2 5
  have k6 := cell_block q2 6
  have k7 := cell_block q2 7
  have k8 := cell_block q2 8
  have k9 := cell_block q2 9
  have k10 := cell_block q2 10
  have k11 := cell_block q2 11
  have k12 := cell_block q2 12
  have k13 := cell_block q2 13
  have k14 := cell_block q2 14
  have kf := free_block q2
  have c0 := cell_block p2 0
  go_wp2_with fail
  refine body_named fun W9 hW => ?_
  have q9 : W9.heap[B]? = some (.cells #[.bool true, .bool true, .bool true, .bool false, .bool false, .int .i64 f.id, .int .i64 f.kind, .int .i64 f.x, .int .i64 f.y, .int .i64 f.rad, (.slice fa n1 fc), .int .i64 f.dep, .int .i64 f.sym, (.slice fb n2 fd), .map (some m)] 77 (0, 0)) := by rw [hW]; exact (block_set (block_set (block_set q2 _) _) _)
  have F9 := Lib.hid (F2.out.keep ((congrArg (fun X : World => X.heap[m]?) hW).trans ((Below.heap_setCell _ _ _ _ (show m ≠ B by omega)).trans ((Below.heap_setCell _ _ _ _ (show m ≠ B by omega)).trans ((Below.heap_setCell _ _ _ _ (show m ≠ B by omega)).trans (rfl))))))
  have R9 : Wr2 B m w W9 := by rw [hW]; exact ((R2.setCell _).setCell _).setCell _
  clear hW
  go_returns
  exact ⟨(by rw [HE.out]; first | done | rfl), fun _ => (by rw [HE.out]; exact ⟨_, _, q9, PF.out, (F9.out.state rfl rfl rfl).mono (by omega)⟩), R9⟩
theorem saidC_put (s : SaidS) (p : Opn) (va vs : Value) (m : Nat) : saidC (putS s p) va vs m = saidC s va vs m ∧ (putS s p).feat = s.feat := by
  unfold putS saidC
  split
  · exact ⟨rfl, rfl⟩
  · split <;> exact ⟨rfl, rfl⟩
theorem KeepB.turned {W w w' : World} {m : Nat} {bs : List Nat} (h : KeepB W 0 bs w) (ht : w.mapTurned w' m) (hm : m ∉ bs) (hin : ∀ b ∈ bs, b < w.heap.size) : KeepB W 0 bs w' :=
  ⟨h.1.grown ht.grown (Nat.zero_le _) (fun k _ => Nat.zero_le _), fun b hb => (ht.grown.block b (hin b hb) (fun e => hm (by rw [← Option.some.inj e]; exact hb))).trans (h.2 b hb)⟩
set_option maxHeartbeats 4000000 in
theorem hear_fld (B m n : Nat) (before deleted there known : Bool) (f : Feat) (mv dp sy : Option Opn) (o : Opn) (fa fb aa ab : Option Addr) (n1 n2 m1 m2 fc fd ca cb : Nat) (w0 w : World) (hq : w.heap[B]? = some (.cells #[.bool true, .bool before, .bool deleted, .bool there, .bool known, .int .i64 f.id, .int .i64 f.kind, .int .i64 f.x, .int .i64 f.y, .int .i64 f.rad, (.slice fa n1 fc), .int .i64 f.dep, .int .i64 f.sym, (.slice fb n2 fd), .map (some m)] 77 (0, 0))) (hf : PartsAt w0 f (.slice fa n1 fc) (.slice fb n2 fd)) (hm : FldM w0 w m n ⟨true, before, deleted, there, known, f, mv, dp, sy⟩) (hne : B ≠ m) (ho : PartsAt w0 o.feat (.slice aa m1 ca) (.slice ab m2 cb)) (hk : FldK o.kind) (hn : n ≤ 1000) (ht : there = true) (hkn : known = false) : Calls Tryz.prog 49 #[.pointer (some ⟨B, 0, none⟩), opV o (.slice aa m1 ca) (.slice ab m2 cb)] w (HearP w0 B m n ⟨true, before, deleted, there, known, f, mv, dp, sy⟩ o w) := by
  have HE : Hid (hearS ⟨true, before, deleted, there, known, f, mv, dp, sy⟩ o = (putS ⟨true, before, deleted, true, false, f, mv, dp, sy⟩ o, true)) := Lib.hid (by have ne1 : ¬ o.kind = 1 := (by rcases hk with h | h | h <;> omega); have ne2 : ¬ o.kind = 2 := (by rcases hk with h | h | h <;> omega); unfold hearS beginS stepS; simp [ne1, ne2, ht, hkn])
  have Q0 := Lib.hid hq
  have FM := Lib.hid hm
  have PF := Lib.hid hf
  have PO := Lib.hid ho
  have hml := hm.lt
  have hBl := lt_block hq
  clear hq hm hf ho
  have ne1 : ¬ o.kind = 1 := by rcases hk with h | h | h <;> omega
  have ne2 : ¬ o.kind = 2 := by rcases hk with h | h | h <;> omega
  have e1 : (o.kind == 1) = false := by simpa using ne1
  have e2 : (o.kind == 2) = false := by simpa using ne2
  have KD := Lib.hid hk
  have LN : Hid (n < maxLen) := Lib.hid (by unfold maxLen; omega)
  subst ht hkn
  clear ne1 ne2 hk
  go_enter Tryz.func49, Tryz.ntmps49
  go_upto_region 2 with (fail)
  refine wp_named fun W hW => ?_
  obtain ⟨p1, hB⟩ := box1 hW
  clear hW
  have q1 := block_later hB Q0.out
  have F1 := Lib.hid (FM.out.keep (hB.block m hml))
  have R1 : Wr2 B m w W := Wr2.of_below hB
  have F8 : ∀ w', KeepB W 0 [B, w.heap.size] w' → ∀ i, w'.cell? ⟨w.heap.size, i, none⟩ = #[.int .i64 o.kind, .int .i64 o.id, .int .i64 o.feat.id, .int .i64 o.feat.kind, .int .i64 o.feat.x, .int .i64 o.feat.y, .int .i64 o.feat.rad, (.slice aa m1 ca), .int .i64 o.feat.dep, .int .i64 o.feat.sym, (.slice ab m2 cb), .int .i64 o.x, .int .i64 o.y, .int .i64 o.rad, .int .i64 o.dep, .int .i64 o.sym][i]? := fun w' hw i => cell_block (hw.at (by simp) p1) i
  have G8 : ∀ w', KeepB W 0 [B, w.heap.size] w' → ∀ i, w'.cell? ⟨B, i, none⟩ = #[.bool true, .bool before, .bool deleted, .bool true, .bool false, .int .i64 f.id, .int .i64 f.kind, .int .i64 f.x, .int .i64 f.y, .int .i64 f.rad, (.slice fa n1 fc), .int .i64 f.dep, .int .i64 f.sym, (.slice fb n2 fd), .map (some m)][i]? := fun w' hw i => cell_block (hw.at (by simp) q1) i
  have FF : Hid (FldM w0 W.drew m n ⟨true, before, deleted, true, false, f, mv, dp, sy⟩) := Lib.hid ((F1.out.keep rfl).state rfl rfl rfl)
  have k0 := cell_block q1 0
  have k1 := cell_block q1 1
  have k2 := cell_block q1 2
  have k3 := cell_block q1 3
  have k4 := cell_block q1 4
  have k5 := cell_block q1 5
  have k6 := cell_block q1 6
  have k7 := cell_block q1 7
  have k8 := cell_block q1 8
  have k9 := cell_block q1 9
  have k10 := cell_block q1 10
  have k11 := cell_block q1 11
  have k12 := cell_block q1 12
  have k13 := cell_block q1 13
  have k14 := cell_block q1 14
  have kf := free_block q1
  have c0 := cell_block p1 0
  go_upto_region 6 with (fail)
  refine wp_region_planS (KeepB W 0 [B, w.heap.size]) (.take 0 (.take 0 (.take 0 (.take 0 (.take 0 (.take 0 (.take 0 (.only 0 .done)))))))) (by kernel_rfl) (by kernel_rfl) (KeepB.refl) (fun hP => ?_)
  (refine wsPlan_take rfl (fun K hK => ?_); replace hK := Lib.hid hK; go_simp; first | (refine hK.out _ ?_; clear hK K) | (apply Exists.intro; refine ⟨fun w' hw => ?_, hK.out _ ?_⟩; (first | with_reducible exact rfl | (have f8 := F8 w' hw; have g8 := G8 w' hw; go_simp; exact rfl)); clear hK K))
  (refine wsPlan_take rfl (fun K hK => ?_); replace hK := Lib.hid hK; go_simp; first | (refine hK.out _ ?_; clear hK K) | (apply Exists.intro; refine ⟨fun w' hw => ?_, hK.out _ ?_⟩; (first | with_reducible exact rfl | (have f8 := F8 w' hw; have g8 := G8 w' hw; go_simp; exact rfl)); clear hK K))
  (refine wsPlan_take rfl (fun K hK => ?_); replace hK := Lib.hid hK; go_simp; first | (refine hK.out _ ?_; clear hK K) | (apply Exists.intro; refine ⟨fun w' hw => ?_, hK.out _ ?_⟩; (first | with_reducible exact rfl | (have f8 := F8 w' hw; have g8 := G8 w' hw; go_simp; exact rfl)); clear hK K))
  (refine wsPlan_take rfl (fun K hK => ?_); replace hK := Lib.hid hK; go_simp; first | (refine hK.out _ ?_; clear hK K) | (apply Exists.intro; refine ⟨fun w' hw => ?_, hK.out _ ?_⟩; (first | with_reducible exact rfl | (have f8 := F8 w' hw; have g8 := G8 w' hw; go_simp; exact rfl)); clear hK K))
  (refine wsPlan_take rfl (fun K hK => ?_); replace hK := Lib.hid hK; go_simp; first | (refine hK.out _ ?_; clear hK K) | (apply Exists.intro; refine ⟨fun w' hw => ?_, hK.out _ ?_⟩; (first | with_reducible exact rfl | (have f8 := F8 w' hw; have g8 := G8 w' hw; go_simp; exact rfl)); clear hK K))
  (refine wsPlan_take rfl (fun K hK => ?_); replace hK := Lib.hid hK; go_simp; first | (refine hK.out _ ?_; clear hK K) | (apply Exists.intro; refine ⟨fun w' hw => ?_, hK.out _ ?_⟩; (first | with_reducible exact rfl | (have f8 := F8 w' hw; have g8 := G8 w' hw; go_simp; exact rfl)); clear hK K))
  refine ws_load rfl rfl 53 _ rfl _ rfl _ _ _ _ (fun w' hw => hw.at (by simp) p1) Tryz.underlying53 rfl (by kernel_rfl) ?_
  refine wsPlan_only rfl (fun K hK => ?_)
  (with_reducible refine ite_of (wanted_plain rfl) ?_)
  (with_reducible refine wp_fldStore _ _ _ _ rfl Tryz.underlying75 (m := m) (n := n) (p := o) (va := (.slice aa m1 ca)) (vs := (.slice ab m2 cb)) ?_ ?_ ?_ FF.out KD.out PO.out LN.out ?_)
  · exact rfl
  · exact rfl
  · exact rfl
  intro w9 hf9 ht9
  refine hK _ _ (KeepB.refl.turned ht9 (by simp <;> omega) (fun x hx => by simp only [List.mem_cons, List.not_mem_nil, or_false] at hx; rcases hx with rfl | rfl; (exact lt_block q1); (exact lt_block p1))) (fun _ => ?_)
  clear hK K
  refine wsPlan_done ?_
  simp only [Act.put, List.setIfInBounds_toArray, List.set_cons_zero, List.set_cons_succ]
  have q9 : w9.heap[B]? = some (.cells #[.bool true, .bool before, .bool deleted, .bool true, .bool false, .int .i64 f.id, .int .i64 f.kind, .int .i64 f.x, .int .i64 f.y, .int .i64 f.rad, (.slice fa n1 fc), .int .i64 f.dep, .int .i64 f.sym, (.slice fb n2 fd), .map (some m)] 77 (0, 0)) := (ht9.grown.block B (lt_block q1) (fun e => hne (Option.some.inj e))).trans q1
  have R9 : Wr2 B m w w9 := R1.drew.turned ht9
  have F9 := Lib.hid hf9
  clear F8 G8 hf9 ht9 k0 k1 k2 k3 k4 k5 k6 k7 k8 k9 k10 k11 k12 k13 k14 kf c0
  go_wp2_with fail
  go_returns
  exact ⟨(by rw [HE.out]; first | done | rfl), fun _ => (by rw [HE.out]; exact ⟨_, _, (by rw [(saidC_put ⟨true, before, deleted, true, false, f, mv, dp, sy⟩ o _ _ m).1]; exact q9), (by rw [(saidC_put ⟨true, before, deleted, true, false, f, mv, dp, sy⟩ o .nilFunc .nilFunc m).2]; exact PF.out), F9.out⟩), R9⟩
set_option maxHeartbeats 4000000 in
theorem hear_fld0 (B m n : Nat) (before deleted there known : Bool) (f : Feat) (mv dp sy : Option Opn) (o : Opn) (fa fb aa ab : Option Addr) (n1 n2 m1 m2 fc fd ca cb : Nat) (w0 w : World) (hq : w.heap[B]? = some (.cells #[.bool false, .bool before, .bool deleted, .bool there, .bool known, .int .i64 f.id, .int .i64 f.kind, .int .i64 f.x, .int .i64 f.y, .int .i64 f.rad, (.slice fa n1 fc), .int .i64 f.dep, .int .i64 f.sym, (.slice fb n2 fd), .map (some m)] 77 (0, 0))) (hf : PartsAt w0 f (.slice fa n1 fc) (.slice fb n2 fd)) (hm : FldM w0 w m n ⟨false, before, deleted, there, known, f, mv, dp, sy⟩) (hne : B ≠ m) (ho : PartsAt w0 o.feat (.slice aa m1 ca) (.slice ab m2 cb)) (hk : FldK o.kind) (hn : n ≤ 1000) (hkn : known = false) : Calls Tryz.prog 49 #[.pointer (some ⟨B, 0, none⟩), opV o (.slice aa m1 ca) (.slice ab m2 cb)] w (HearP w0 B m n ⟨false, before, deleted, there, known, f, mv, dp, sy⟩ o w) := by
  have HE : Hid (hearS ⟨false, before, deleted, there, known, f, mv, dp, sy⟩ o = (putS ⟨true, true, deleted, true, false, f, mv, dp, sy⟩ o, true)) := Lib.hid (by have ne1 : ¬ o.kind = 1 := (by rcases hk with h | h | h <;> omega); have ne2 : ¬ o.kind = 2 := (by rcases hk with h | h | h <;> omega); unfold hearS beginS stepS; simp [ne1, ne2, hkn])
  have Q0 := Lib.hid hq
  have FM := Lib.hid hm
  have PF := Lib.hid hf
  have PO := Lib.hid ho
  have hml := hm.lt
  have hBl := lt_block hq
  clear hq hm hf ho
  have ne1 : ¬ o.kind = 1 := by rcases hk with h | h | h <;> omega
  have ne2 : ¬ o.kind = 2 := by rcases hk with h | h | h <;> omega
  have e1 : (o.kind == 1) = false := by simpa using ne1
  have e2 : (o.kind == 2) = false := by simpa using ne2
  have KD := Lib.hid hk
  have LN : Hid (n < maxLen) := Lib.hid (by unfold maxLen; omega)
  subst hkn
  clear ne1 ne2 hk
  go_enter Tryz.func49, Tryz.ntmps49
  go_upto_region 2 with (fail)
  refine wp_named fun W hW => ?_
  obtain ⟨p1, hB⟩ := box1 hW
  clear hW
  have q1 := block_later hB Q0.out
  have F1 := Lib.hid (FM.out.keep (hB.block m hml))
  have R1 : Wr2 B m w W := Wr2.of_below hB
  have k0 := cell_block q1 0
  have k1 := cell_block q1 1
  have k2 := cell_block q1 2
  have k3 := cell_block q1 3
  have k4 := cell_block q1 4
  have k5 := cell_block q1 5
  have k6 := cell_block q1 6
  have k7 := cell_block q1 7
  have k8 := cell_block q1 8
  have k9 := cell_block q1 9
  have k10 := cell_block q1 10
  have k11 := cell_block q1 11
  have k12 := cell_block q1 12
  have k13 := cell_block q1 13
  have k14 := cell_block q1 14
  have kf := free_block q1
  have c0 := cell_block p1 0
  go_upto_region 4 with (fail)
  refine wp_named fun W2 hW => ?_
  clear k0 k1 k2 k3 k4 k5 k6 k7 k8 k9 k10 k11 k12 k13 k14 kf c0
  have q2 : W2.heap[B]? = some (.cells #[.bool true, .bool true, .bool deleted, .bool true, .bool false, .int .i64 f.id, .int .i64 f.kind, .int .i64 f.x, .int .i64 f.y, .int .i64 f.rad, (.slice fa n1 fc), .int .i64 f.dep, .int .i64 f.sym, (.slice fb n2 fd), .map (some m)] 77 (0, 0)) := by rw [hW]; exact (block_set (block_set (block_set q1 _) _) _)
  have p2 := (congrArg (fun X : World => X.heap[w.heap.size]?) hW).trans ((Below.heap_setCell _ _ _ _ (show w.heap.size ≠ B by omega)).trans ((Below.heap_setCell _ _ _ _ (show w.heap.size ≠ B by omega)).trans ((Below.heap_setCell _ _ _ _ (show w.heap.size ≠ B by omega)).trans (p1))))
  replace p2 : W2.heap[w.heap.size]? = _ := p2
  have F2 := Lib.hid (F1.out.keep ((congrArg (fun X : World => X.heap[m]?) hW).trans ((Below.heap_setCell _ _ _ _ (show m ≠ B by omega)).trans ((Below.heap_setCell _ _ _ _ (show m ≠ B by omega)).trans ((Below.heap_setCell _ _ _ _ (show m ≠ B by omega)).trans (rfl))))))
  have R2 : Wr2 B m w W2 := by rw [hW]; exact (((R1).setCell _).setCell _).setCell _
  clear hW
  have F8 : ∀ w', KeepB W2 0 [B, w.heap.size] w' → ∀ i, w'.cell? ⟨w.heap.size, i, none⟩ = #[.int .i64 o.kind, .int .i64 o.id, .int .i64 o.feat.id, .int .i64 o.feat.kind, .int .i64 o.feat.x, .int .i64 o.feat.y, .int .i64 o.feat.rad, (.slice aa m1 ca), .int .i64 o.feat.dep, .int .i64 o.feat.sym, (.slice ab m2 cb), .int .i64 o.x, .int .i64 o.y, .int .i64 o.rad, .int .i64 o.dep, .int .i64 o.sym][i]? := fun w' hw i => cell_block (hw.at (by simp) p2) i
  have G8 : ∀ w', KeepB W2 0 [B, w.heap.size] w' → ∀ i, w'.cell? ⟨B, i, none⟩ = #[.bool true, .bool true, .bool deleted, .bool true, .bool false, .int .i64 f.id, .int .i64 f.kind, .int .i64 f.x, .int .i64 f.y, .int .i64 f.rad, (.slice fa n1 fc), .int .i64 f.dep, .int .i64 f.sym, (.slice fb n2 fd), .map (some m)][i]? := fun w' hw i => cell_block (hw.at (by simp) q2) i
  have FF : Hid (FldM w0 W2.drew m n ⟨true, true, deleted, true, false, f, mv, dp, sy⟩) := Lib.hid ((F2.out.keep rfl).state rfl rfl rfl)
  have k0 := cell_block q2 0
  have k1 := cell_block q2 1
  have k2 := cell_block q2 2
  have k3 := cell_block q2 3
  have k4 := cell_block q2 4
  have k5 := cell_block q2 5
  have k6 := cell_block q2 6
  have k7 := cell_block q2 7
  have k8 := cell_block q2 8
  have k9 := cell_block q2 9
  have k10 := cell_block q2 10
  have k11 := cell_block q2 11
  have k12 := cell_block q2 12
  have k13 := cell_block q2 13
  have k14 := cell_block q2 14
  have kf := free_block q2
  have c0 := cell_block p2 0
  go_upto_region 6 with (fail)
  refine wp_region_planS (KeepB W2 0 [B, w.heap.size]) (.take 0 (.take 0 (.take 0 (.take 0 (.take 0 (.take 0 (.take 0 (.only 0 .done)))))))) (by kernel_rfl) (by kernel_rfl) (KeepB.refl) (fun hP => ?_)
  (refine wsPlan_take rfl (fun K hK => ?_); replace hK := Lib.hid hK; go_simp; first | (refine hK.out _ ?_; clear hK K) | (apply Exists.intro; refine ⟨fun w' hw => ?_, hK.out _ ?_⟩; (first | with_reducible exact rfl | (have f8 := F8 w' hw; have g8 := G8 w' hw; go_simp; exact rfl)); clear hK K))
  (refine wsPlan_take rfl (fun K hK => ?_); replace hK := Lib.hid hK; go_simp; first | (refine hK.out _ ?_; clear hK K) | (apply Exists.intro; refine ⟨fun w' hw => ?_, hK.out _ ?_⟩; (first | with_reducible exact rfl | (have f8 := F8 w' hw; have g8 := G8 w' hw; go_simp; exact rfl)); clear hK K))
  (refine wsPlan_take rfl (fun K hK => ?_); replace hK := Lib.hid hK; go_simp; first | (refine hK.out _ ?_; clear hK K) | (apply Exists.intro; refine ⟨fun w' hw => ?_, hK.out _ ?_⟩; (first | with_reducible exact rfl | (have f8 := F8 w' hw; have g8 := G8 w' hw; go_simp; exact rfl)); clear hK K))
  (refine wsPlan_take rfl (fun K hK => ?_); replace hK := Lib.hid hK; go_simp; first | (refine hK.out _ ?_; clear hK K) | (apply Exists.intro; refine ⟨fun w' hw => ?_, hK.out _ ?_⟩; (first | with_reducible exact rfl | (have f8 := F8 w' hw; have g8 := G8 w' hw; go_simp; exact rfl)); clear hK K))
  (refine wsPlan_take rfl (fun K hK => ?_); replace hK := Lib.hid hK; go_simp; first | (refine hK.out _ ?_; clear hK K) | (apply Exists.intro; refine ⟨fun w' hw => ?_, hK.out _ ?_⟩; (first | with_reducible exact rfl | (have f8 := F8 w' hw; have g8 := G8 w' hw; go_simp; exact rfl)); clear hK K))
  (refine wsPlan_take rfl (fun K hK => ?_); replace hK := Lib.hid hK; go_simp; first | (refine hK.out _ ?_; clear hK K) | (apply Exists.intro; refine ⟨fun w' hw => ?_, hK.out _ ?_⟩; (first | with_reducible exact rfl | (have f8 := F8 w' hw; have g8 := G8 w' hw; go_simp; exact rfl)); clear hK K))
  refine ws_load rfl rfl 53 _ rfl _ rfl _ _ _ _ (fun w' hw => hw.at (by simp) p2) Tryz.underlying53 rfl (by kernel_rfl) ?_
  refine wsPlan_only rfl (fun K hK => ?_)
  (with_reducible refine ite_of (wanted_plain rfl) ?_)
  (with_reducible refine wp_fldStore _ _ _ _ rfl Tryz.underlying75 (m := m) (n := n) (p := o) (va := (.slice aa m1 ca)) (vs := (.slice ab m2 cb)) ?_ ?_ ?_ FF.out KD.out PO.out LN.out ?_)
  · exact rfl
  · exact rfl
  · exact rfl
  intro w9 hf9 ht9
  refine hK _ _ (KeepB.refl.turned ht9 (by simp <;> omega) (fun x hx => by simp only [List.mem_cons, List.not_mem_nil, or_false] at hx; rcases hx with rfl | rfl; (exact lt_block q2); (exact lt_block p2))) (fun _ => ?_)
  clear hK K
  refine wsPlan_done ?_
  simp only [Act.put, List.setIfInBounds_toArray, List.set_cons_zero, List.set_cons_succ]
  have q9 : w9.heap[B]? = some (.cells #[.bool true, .bool true, .bool deleted, .bool true, .bool false, .int .i64 f.id, .int .i64 f.kind, .int .i64 f.x, .int .i64 f.y, .int .i64 f.rad, (.slice fa n1 fc), .int .i64 f.dep, .int .i64 f.sym, (.slice fb n2 fd), .map (some m)] 77 (0, 0)) := (ht9.grown.block B (lt_block q2) (fun e => hne (Option.some.inj e))).trans q2
  have R9 : Wr2 B m w w9 := R2.drew.turned ht9
  have F9 := Lib.hid hf9
  clear F8 G8 hf9 ht9 k0 k1 k2 k3 k4 k5 k6 k7 k8 k9 k10 k11 k12 k13 k14 kf c0
  go_wp2_with fail
  go_returns
  exact ⟨(by rw [HE.out]; first | done | rfl), fun _ => (by rw [HE.out]; exact ⟨_, _, (by rw [(saidC_put ⟨true, true, deleted, true, false, f, mv, dp, sy⟩ o _ _ m).1]; exact q9), (by rw [(saidC_put ⟨true, true, deleted, true, false, f, mv, dp, sy⟩ o .nilFunc .nilFunc m).2]; exact PF.out), F9.out⟩), R9⟩
end Go.Proofs.YtpidmgkjnomigaaGreat
