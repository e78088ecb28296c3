import Derived.Test.YtdmegkkifiahdaaGreatSame7
import Derived.Test.YtdmegkkifiahdaaGreatPatOp
import Derived.Test.YtdmegkkifiahdaaGreatPC
import Derived.Test.YtdmegkkifiahdaaGreatPatVal
import Derived.Test.YtdmegkkifiahdaaGreatPSh
namespace Go.Proofs.YtdmegkkifiahdaaGreat
open Go.RowKit Go.Sort Go.Shelf
attribute [local go_sem] bqOp bqAll bqUpon sqOp sqAll sqUpon ssOp ssAll
attribute [local irreducible] wpQuiet wpBQ wpPlan wsPlan
set_option linter.unusedVariables false
theorem wp_loadMidP {P : Program} {ops : Array Oper} {W : World} {Q : Exit → Act → World → Prop} {b : Nat} {p : Plan} {l rest : List Oper} {o : Oper} {a : Act} {w : World} (hb : bring b l = o :: rest) (hwt : Region.wanted o (yielded ops a.tmps) = true) (ty : TypeId) (x : Operand) (ho : o.op = .load ty x)
  (g off : Nat) (hx : a.eval x = .pointer (some ⟨g, off, none⟩)) (cs : List Value) (d : TypeDesc) (hS : W.rangeAt g off cs) (hu : P.underlying ty = some d) (hd : d.isRow = true) (hi : (P.info? ty).map (·.size) = some cs.length)
  (h : wpPlan P ops W Q p rest (a.put o.dst (.agg cs.toArray)) w) : wpPlan P ops W Q (.take b p) l a w := by
 refine wpPlan_take hb fun K hK => ?_
 rw [if_pos hwt]
 refine ⟨.agg cs.toArray, fun p => ?_, hK _ h⟩
 unfold execOp
 simp only [ho, hx, Instr.loadAt, Instr.sureAddr, Sem.run_bind, Sem.run_pure, Result.andThen_ok, run_loadVar_mid _ g off ty cs d (fun j v hv => cell_later (below_regrown W p.d p.os) (hS j v hv)) hu hd hi]
 exact ⟨rfl, rfl⟩
set_option maxHeartbeats 4000000 in
theorem q16SameOp_any (o p : Opn) (va vs ua us : Value) (w : World) (ho : PartsAt w o.feat va vs) (hp : PartsAt w p.feat ua us) {v : Bool} (hv : decide (o = p) = v) :
  Calls Tryz.prog 85 #[opV o va vs, opV p ua us] w fun e w' => e = .returned (.bool v) ∧ Below w.heap.size w w' := by
 obtain ⟨kind1, id1, f, x1, y1, rad1, dep1, sym1⟩ := o
 obtain ⟨kind2, id2, g, x2, y2, rad2, dep2, sym2⟩ := p
 obtain ⟨aa, ca, ab, cb, rfl, rfl⟩ := ho.form
 obtain ⟨ac, cc, ae, ce, rfl, rfl⟩ := hp.form
 have HV : Hid (decide (kind1 = kind2 ∧ id1 = id2 ∧ f = g ∧ x1 = x2 ∧ y1 = y2 ∧ rad1 = rad2 ∧ dep1 = dep2 ∧ sym1 = sym2) = v) := Lib.hid (by rw [← hv, decide_eq_decide]; simp)
 have HO := Lib.hid ho
 have HP := Lib.hid hp
 clear hv ho hp
 by_cases gkind : kind1 = kind2
 rotate_left
 · have d : (kind1 == kind2) = false := by simpa using gkind
   have HF := Lib.hid (show false = v by rw [← HV.out]; exact (decide_eq_false (fun h => gkind h.1)).symm)
   clear gkind HV
   go_enter Tryz.func85, Tryz.ntmps85
   go_wp2_with fail
   go_returns
   exact ⟨ret_bool HF.out, by go_grown⟩
 subst gkind
 by_cases gid : id1 = id2
 rotate_left
 · have d : (id1 == id2) = false := by simpa using gid
   have HF := Lib.hid (show false = v by rw [← HV.out]; exact (decide_eq_false (fun h => gid h.2.1)).symm)
   clear gid HV
   go_enter Tryz.func85, Tryz.ntmps85
   go_wp2_with fail
   go_returns
   exact ⟨ret_bool HF.out, by go_grown⟩
 subst gid
 obtain ⟨u, hu⟩ : ∃ u, decide (f = g) = u := ⟨_, rfl⟩
 have U := Lib.hid hu
 clear hu
 by_cases gx : x1 = x2
 rotate_left
 · have d : (x1 == x2) = false := by simpa using gx
   have HF := Lib.hid (show false = v by rw [← HV.out]; exact (decide_eq_false (fun h => gx h.2.2.2.1)).symm)
   clear gx HV
   go_enter Tryz.func85, Tryz.ntmps85
   go_wp2_with fail
   refine calls_named fun W hW => ?_
   obtain ⟨p1, p2, hB⟩ := box2 hW
   clear hW
   (with_reducible refine (q07Same_any f g _ _ _ _ _ (ptsL (parts_pts HO.out) hB) (secsL (parts_secs HO.out) hB) (ptsL (parts_pts HP.out) hB) (secsL (parts_secs HP.out) hB) U.out).mono ?_)
   rintro e w1 ⟨rfl, hb1⟩
   have r1 := block_later hb1 p1
   have r2 := block_later hb1 p2
   have hB1 := below_step hB hb1
   have e11 := cell_block r1 11
   have f11 := cell_block r2 11
   have e12 := cell_block r1 12
   have f12 := cell_block r2 12
   have e13 := cell_block r1 13
   have f13 := cell_block r2 13
   have e14 := cell_block r1 14
   have f14 := cell_block r2 14
   have e15 := cell_block r1 15
   have f15 := cell_block r2 15
   clear r1 r2 p1 p2
   cases u
   all_goals
    go_wp2_with fail
    go_returns
    exact ⟨ret_bool HF.out, hB1⟩
 subst gx
 by_cases gy : y1 = y2
 rotate_left
 · have d : (y1 == y2) = false := by simpa using gy
   have HF := Lib.hid (show false = v by rw [← HV.out]; exact (decide_eq_false (fun h => gy h.2.2.2.2.1)).symm)
   clear gy HV
   go_enter Tryz.func85, Tryz.ntmps85
   go_wp2_with fail
   refine calls_named fun W hW => ?_
   obtain ⟨p1, p2, hB⟩ := box2 hW
   clear hW
   (with_reducible refine (q07Same_any f g _ _ _ _ _ (ptsL (parts_pts HO.out) hB) (secsL (parts_secs HO.out) hB) (ptsL (parts_pts HP.out) hB) (secsL (parts_secs HP.out) hB) U.out).mono ?_)
   rintro e w1 ⟨rfl, hb1⟩
   have r1 := block_later hb1 p1
   have r2 := block_later hb1 p2
   have hB1 := below_step hB hb1
   have e11 := cell_block r1 11
   have f11 := cell_block r2 11
   have e12 := cell_block r1 12
   have f12 := cell_block r2 12
   have e13 := cell_block r1 13
   have f13 := cell_block r2 13
   have e14 := cell_block r1 14
   have f14 := cell_block r2 14
   have e15 := cell_block r1 15
   have f15 := cell_block r2 15
   clear r1 r2 p1 p2
   cases u
   all_goals
    go_wp2_with fail
    go_returns
    exact ⟨ret_bool HF.out, hB1⟩
 subst gy
 by_cases grad : rad1 = rad2
 rotate_left
 · have d : (rad1 == rad2) = false := by simpa using grad
   have HF := Lib.hid (show false = v by rw [← HV.out]; exact (decide_eq_false (fun h => grad h.2.2.2.2.2.1)).symm)
   clear grad HV
   go_enter Tryz.func85, Tryz.ntmps85
   go_wp2_with fail
   refine calls_named fun W hW => ?_
   obtain ⟨p1, p2, hB⟩ := box2 hW
   clear hW
   (with_reducible refine (q07Same_any f g _ _ _ _ _ (ptsL (parts_pts HO.out) hB) (secsL (parts_secs HO.out) hB) (ptsL (parts_pts HP.out) hB) (secsL (parts_secs HP.out) hB) U.out).mono ?_)
   rintro e w1 ⟨rfl, hb1⟩
   have r1 := block_later hb1 p1
   have r2 := block_later hb1 p2
   have hB1 := below_step hB hb1
   have e11 := cell_block r1 11
   have f11 := cell_block r2 11
   have e12 := cell_block r1 12
   have f12 := cell_block r2 12
   have e13 := cell_block r1 13
   have f13 := cell_block r2 13
   have e14 := cell_block r1 14
   have f14 := cell_block r2 14
   have e15 := cell_block r1 15
   have f15 := cell_block r2 15
   clear r1 r2 p1 p2
   cases u
   all_goals
    go_wp2_with fail
    go_returns
    exact ⟨ret_bool HF.out, hB1⟩
 subst grad
 by_cases gdep : dep1 = dep2
 rotate_left
 · have d : (dep1 == dep2) = false := by simpa using gdep
   have HF := Lib.hid (show false = v by rw [← HV.out]; exact (decide_eq_false (fun h => gdep h.2.2.2.2.2.2.1)).symm)
   clear gdep HV
   go_enter Tryz.func85, Tryz.ntmps85
   go_wp2_with fail
   refine calls_named fun W hW => ?_
   obtain ⟨p1, p2, hB⟩ := box2 hW
   clear hW
   (with_reducible refine (q07Same_any f g _ _ _ _ _ (ptsL (parts_pts HO.out) hB) (secsL (parts_secs HO.out) hB) (ptsL (parts_pts HP.out) hB) (secsL (parts_secs HP.out) hB) U.out).mono ?_)
   rintro e w1 ⟨rfl, hb1⟩
   have r1 := block_later hb1 p1
   have r2 := block_later hb1 p2
   have hB1 := below_step hB hb1
   have e11 := cell_block r1 11
   have f11 := cell_block r2 11
   have e12 := cell_block r1 12
   have f12 := cell_block r2 12
   have e13 := cell_block r1 13
   have f13 := cell_block r2 13
   have e14 := cell_block r1 14
   have f14 := cell_block r2 14
   have e15 := cell_block r1 15
   have f15 := cell_block r2 15
   clear r1 r2 p1 p2
   cases u
   all_goals
    go_wp2_with fail
    go_returns
    exact ⟨ret_bool HF.out, hB1⟩
 subst gdep
 by_cases gsym : sym1 = sym2
 rotate_left
 · have d : (sym1 == sym2) = false := by simpa using gsym
   have HF := Lib.hid (show false = v by rw [← HV.out]; exact (decide_eq_false (fun h => gsym h.2.2.2.2.2.2.2)).symm)
   clear gsym HV
   go_enter Tryz.func85, Tryz.ntmps85
   go_wp2_with fail
   refine calls_named fun W hW => ?_
   obtain ⟨p1, p2, hB⟩ := box2 hW
   clear hW
   (with_reducible refine (q07Same_any f g _ _ _ _ _ (ptsL (parts_pts HO.out) hB) (secsL (parts_secs HO.out) hB) (ptsL (parts_pts HP.out) hB) (secsL (parts_secs HP.out) hB) U.out).mono ?_)
   rintro e w1 ⟨rfl, hb1⟩
   have r1 := block_later hb1 p1
   have r2 := block_later hb1 p2
   have hB1 := below_step hB hb1
   have e11 := cell_block r1 11
   have f11 := cell_block r2 11
   have e12 := cell_block r1 12
   have f12 := cell_block r2 12
   have e13 := cell_block r1 13
   have f13 := cell_block r2 13
   have e14 := cell_block r1 14
   have f14 := cell_block r2 14
   have e15 := cell_block r1 15
   have f15 := cell_block r2 15
   clear r1 r2 p1 p2
   cases u
   all_goals
    go_wp2_with fail
    go_returns
    exact ⟨ret_bool HF.out, hB1⟩
 subst gsym
 have HF := Lib.hid (show u = v by rw [← HV.out, ← U.out, decide_eq_decide]; simp)
 clear HV
 go_enter Tryz.func85, Tryz.ntmps85
 go_wp2_with fail
 refine calls_named fun W hW => ?_
 obtain ⟨p1, p2, hB⟩ := box2 hW
 clear hW
 (with_reducible refine (q07Same_any f g _ _ _ _ _ (ptsL (parts_pts HO.out) hB) (secsL (parts_secs HO.out) hB) (ptsL (parts_pts HP.out) hB) (secsL (parts_secs HP.out) hB) U.out).mono ?_)
 rintro e w1 ⟨rfl, hb1⟩
 have r1 := block_later hb1 p1
 have r2 := block_later hb1 p2
 have hB1 := below_step hB hb1
 have e11 := cell_block r1 11
 have f11 := cell_block r2 11
 have e12 := cell_block r1 12
 have f12 := cell_block r2 12
 have e13 := cell_block r1 13
 have f13 := cell_block r2 13
 have e14 := cell_block r1 14
 have f14 := cell_block r2 14
 have e15 := cell_block r1 15
 have f15 := cell_block r2 15
 clear r1 r2 p1 p2
 cases u
 all_goals
  go_wp2_with fail
  go_returns
  exact ⟨ret_bool HF.out, hB1⟩
theorem getD_extO {l m : List Opn} (hl : l.length = m.length) (h : ∀ i, i < l.length → l.getD i noOpn = m.getD i noOpn) : l = m := getD_extD noOpn hl h
set_option maxHeartbeats 4000000 in
theorem q16Ops_any (l m : List Opn) (v1 v2 : Value) (w : World) (h1 : OpsAt w v1 l) (h2 : OpsAt w v2 m) {v : Bool} (hv : decide (l = m) = v) :
  Calls Tryz.prog 19 #[v1, v2] w fun e w' => e = .returned (.bool v) ∧ Below w.heap.size w w' := by
 obtain ⟨ad, c, rfl, k1, hn, hnc⟩ := h1.form
 obtain ⟨ad', c', rfl, k2, hm, hmc⟩ := h2.form
 have HV := Lib.hid hv
 have H1 := Lib.hid k1
 have H2 := Lib.hid k2
 clear hv h1 h2 k1 k2
 obtain ⟨n, hln⟩ : ∃ n, l.length = n := ⟨_, rfl⟩
 obtain ⟨n', hlm⟩ : ∃ n, m.length = n := ⟨_, rfl⟩
 rw [hln] at H1 hn hnc
 rw [hlm] at H2 hm hmc
 rw [hln, hlm]
 have HL := Lib.hid hln
 have HM := Lib.hid hlm
 clear hln hlm
 by_cases hnm : n = n'
 rotate_left
 · have d : ((n : Int) != (n' : Int)) = true := by simp; omega
   have d2 : (n != n') = true := by simp; omega
   go_enter Tryz.func19, Tryz.ntmps19
   go_wp2_with fail
   go_returns
   exact ⟨ret_bool (by rw [← HV.out]; exact (decide_eq_false (fun h => hnm (by rw [← HL.out, ← HM.out, h]))).symm), Below.refl _ _⟩
 subst hnm
 go_enter Tryz.func19, Tryz.ntmps19
 go_wp2_with fail
 go_loopw [5] (fun i wr => ∃ k : Nat, k ≤ n ∧ i = .int .i64 k ∧ Below w.heap.size w wr ∧ ∀ i, i < k → l.getD i noOpn = m.getD i noOpn) (fun i _ => n - cntV i)
 case atStart => exact ⟨0, by omega, rfl, Below.refl _ _, fun m hm => by omega⟩
 case round =>
  obtain ⟨k, hk, rfl, hb, hall⟩ := hrel
  have ALL := Lib.hid hall
  clear hall
  rcases Nat.lt_or_ge k n with hlt | hge
  rotate_left
  · obtain rfl : k = n := by omega
    go_wp2_with fail
    go_returns
    exact ⟨ret_bool (by rw [← HV.out]; exact (decide_eq_true (getD_extO (by rw [HL.out, HM.out]) (fun i hi => ALL.out i (by have := HL.out; omega)))).symm), hb⟩
  obtain ⟨g, o, va, vs, rfl, fc⟩ := (H1.out.later hb).row hlt
  obtain ⟨g', o', va', vs', rfl, fc'⟩ := (H2.out.later hb).row hlt
  obtain ⟨f, hf⟩ : ∃ f, l.getD k noOpn = f := ⟨_, rfl⟩
  obtain ⟨f', hf'⟩ : ∃ f, m.getD k noOpn = f := ⟨_, rfl⟩
  rw [hf] at fc
  rw [hf'] at fc'
  have F1 := Lib.hid hf
  have F2 := Lib.hid hf'
  clear hf hf'
  have PA := Lib.hid fc.parts
  have PB := Lib.hid fc'.parts
  obtain ⟨aa, ca, ab, cb, rfl, rfl⟩ := fc.parts.form
  obtain ⟨ba, da, bb, db, rfl, rfl⟩ := fc'.parts.form
  have RA := Lib.hid fc.range
  have RB := Lib.hid fc'.range
  obtain ⟨u, hu⟩ : ∃ u, decide (f = f') = u := ⟨_, rfl⟩
  have HU := Lib.hid hu
  clear hu fc fc'
  go_wp2_with fail
  refine wp_region_plan (.take 0 (.take 0 (.take 0 (.take 0 (.take 0 (.take 0 (.take 0 (.take 0 (.only 0 (.take 0 .done)))))))))) (by kernel_rfl) (by kernel_rfl) (fun hP => ?_)
  iterate 3 (refine wpPlan_take rfl (fun K hK => ?_); replace hK := Lib.hid hK; go_simp; first | (refine hK.out _ ?_; clear hK K) | (apply Exists.intro; refine ⟨fun _ => ?_, hK.out _ ?_⟩; (first | with_reducible exact rfl | skip); clear hK K))
  (refine wp_loadMidP rfl rfl 34 (.tmp 19) rfl g (o + k * 16) rfl [.int .i64 f.kind, .int .i64 f.id, .int .i64 f.feat.id, .int .i64 f.feat.kind, .int .i64 f.feat.x, .int .i64 f.feat.y, .int .i64 f.feat.rad, .slice aa f.feat.area.length ca, .int .i64 f.feat.dep, .int .i64 f.feat.sym, .slice ab f.feat.secs.length cb, .int .i64 f.x, .int .i64 f.y, .int .i64 f.rad, .int .i64 f.dep, .int .i64 f.sym] _ RA.out Tryz.underlying34 rfl (by kernel_rfl) ?_)
  iterate 3 (refine wpPlan_take rfl (fun K hK => ?_); replace hK := Lib.hid hK; go_simp; first | (refine hK.out _ ?_; clear hK K) | (apply Exists.intro; refine ⟨fun _ => ?_, hK.out _ ?_⟩; (first | with_reducible exact rfl | skip); clear hK K))
  (refine wp_loadMidP rfl rfl 34 (.tmp 23) rfl g' (o' + k * 16) rfl [.int .i64 f'.kind, .int .i64 f'.id, .int .i64 f'.feat.id, .int .i64 f'.feat.kind, .int .i64 f'.feat.x, .int .i64 f'.feat.y, .int .i64 f'.feat.rad, .slice ba f'.feat.area.length da, .int .i64 f'.feat.dep, .int .i64 f'.feat.sym, .slice bb f'.feat.secs.length db, .int .i64 f'.x, .int .i64 f'.y, .int .i64 f'.rad, .int .i64 f'.dep, .int .i64 f'.sym] _ RB.out Tryz.underlying34 rfl (by kernel_rfl) ?_)
  (refine wpPlan_only rfl (fun K hK => ?_); replace hK := Lib.hid hK; go_simp; (with_reducible refine (q16SameOp_any f f' _ _ _ _ _ (PA.out.later hP) (PB.out.later hP) HU.out).mono ?_); rintro e wx ⟨rfl, hbx⟩; refine hK.out _ _ (below_step hP hbx) (fun hP => ?_); clear hK K)
  (refine wpPlan_take rfl (fun K hK => ?_); replace hK := Lib.hid hK; go_simp; first | (refine hK.out _ ?_; clear hK K) | (apply Exists.intro; refine ⟨fun _ => ?_, hK.out _ ?_⟩; (first | with_reducible exact rfl | skip); clear hK K))
  refine wpPlan_done ?_
  have hB2 := below_step hb hP
  cases u
  · go_wp2_with fail
    go_returns
    exact ⟨ret_bool (by rw [← HV.out]; exact (decide_eq_false (fun h => of_decide_eq_false HU.out (by rw [← F1.out, ← F2.out, h]))).symm), hB2⟩
  · go_wp2_with fail
    go_roundw
    case rel => exact ⟨k + 1, by omega, by go_num, hB2, fun i hi => by
     rcases Nat.lt_or_ge i k with h | h
     · exact ALL.out i h
     · obtain rfl : i = k := by omega
       rw [F1.out, F2.out]
       exact of_decide_eq_true HU.out⟩
    case measure => simp [cntV]; omega
end Go.Proofs.YtdmegkkifiahdaaGreat
namespace Go.Proofs.YtdmegkkifiahdaaGreat
open Go.RowKit Go.Sort Go.Shelf
attribute [local go_sem] bqOp bqAll bqUpon sqOp sqAll sqUpon ssOp ssAll
attribute [local irreducible] wpQuiet wpBQ wpPlan wsPlan
set_option linter.unusedVariables false
def FewO (l : List Feat) (ops : List Opn) : Prop := l.length ≤ 20 ∧ ops.length ≤ 12
instance (l : List Feat) (ops : List Opn) : Decidable (FewO l ops) := by unfold FewO; exact inferInstance
theorem q17Few_any (l : List Feat) (ops : List Opn) (v1 v2 : Value) (w : World) (h1 : FeatsAt w v1 l) (h2 : OpsAt w v2 ops) {v : Bool} (hv : decide (FewO l ops) = v) :
  Calls Tryz.prog 11 #[v1, v2] w fun e w' => e = .returned (.bool v) ∧ Below w.heap.size w w' := by
 obtain ⟨ad, c, rfl, _, hn, _⟩ := h1.form
 obtain ⟨ad', c', rfl, _, hm, _⟩ := h2.form
 obtain ⟨n, hln⟩ : ∃ n, l.length = n := ⟨_, rfl⟩
 obtain ⟨m, hlm⟩ : ∃ m, ops.length = m := ⟨_, rfl⟩
 have HV : Hid (decide (n ≤ 20 ∧ m ≤ 12) = v) := Lib.hid (by rw [← hv, ← hln, ← hlm]; exact decide_eq_decide.2 Iff.rfl)
 rw [hln] at hn
 rw [hlm] at hm
 rw [hln, hlm]
 clear hv h1 h2 hln hlm
 rcases Nat.lt_or_ge 20 n with h | h
 · have e1 : ¬ (n : Int) ≤ 20 := by omega
   go_enter Tryz.func11, Tryz.ntmps11
   go_wp2_with fail
   go_returns
   exact ⟨ret_bool (by rw [← HV.out]; exact (decide_eq_false (by omega)).symm), Below.refl _ _⟩
 · rcases Nat.lt_or_ge 12 m with k | k
   · have e1 : (n : Int) ≤ 20 := by omega
     have e2 : ¬ (m : Int) ≤ 12 := by omega
     go_enter Tryz.func11, Tryz.ntmps11
     go_wp2_with fail
     go_returns
     exact ⟨ret_bool (by rw [← HV.out]; exact (decide_eq_false (by omega)).symm), Below.refl _ _⟩
   · have e1 : (n : Int) ≤ 20 := by omega
     have e2 : (m : Int) ≤ 12 := by omega
     go_enter Tryz.func11, Tryz.ntmps11
     go_wp2_with fail
     go_returns
     exact ⟨ret_bool (by rw [← HV.out]; exact (decide_eq_true (by omega)).symm), Below.refl _ _⟩
theorem l17depth_any (id n : Int) (w : World) : Calls Tryz.prog 70 #[.int .i64 id, .int .i64 n] w fun e w' => e = .returned (opV (depO id n) (.slice none 0 0) (.slice none 0 0)) ∧ Below w.heap.size w w' := by
 go_enter Tryz.func70, Tryz.ntmps70
 go_wp2_with fail
 go_returns
 exact ⟨rfl, by go_grown⟩
theorem l17symbol_any (id n : Int) (w : World) : Calls Tryz.prog 72 #[.int .i64 id, .int .i64 n] w fun e w' => e = .returned (opV (symO id n) (.slice none 0 0) (.slice none 0 0)) ∧ Below w.heap.size w w' := by
 go_enter Tryz.func72, Tryz.ntmps72
 go_wp2_with fail
 go_returns
 exact ⟨rfl, by go_grown⟩
theorem l17remove_any (id : Int) (w : World) : Calls Tryz.prog 71 #[.int .i64 id] w fun e w' => e = .returned (opV (delO id) (.slice none 0 0) (.slice none 0 0)) ∧ Below w.heap.size w w' := by
 go_enter Tryz.func71, Tryz.ntmps71
 go_wp2_with fail
 go_returns
 exact ⟨rfl, by go_grown⟩
def wreckF (id dep : Int) : Feat := ⟨id, 2, 0, 0, 5, [], dep, 0, []⟩
def lightF (id : Int) : Feat := ⟨id, 4, 9, 9, 0, [], 0, 0, []⟩
theorem l17wreck_any (id n : Int) (w : World) : Calls Tryz.prog 68 #[.int .i64 id, .int .i64 n] w fun e w' => e = .returned (featV (wreckF id n) (.slice none 0 0) (.slice none 0 0)) ∧ Below w.heap.size w w' := by
 go_enter Tryz.func68, Tryz.ntmps68
 go_wp2_with fail
 go_returns
 exact ⟨rfl, by go_grown⟩
theorem l17light_any (id : Int) (w : World) : Calls Tryz.prog 69 #[.int .i64 id] w fun e w' => e = .returned (featV (lightF id) (.slice none 0 0) (.slice none 0 0)) ∧ Below w.heap.size w w' := by
 go_enter Tryz.func69, Tryz.ntmps69
 go_wp2_with fail
 go_returns
 exact ⟨rfl, by go_grown⟩
theorem l17insert_any (f : Feat) (va vs : Value) (w : World) (h : ∃ a n c b m d, va = .slice a n c ∧ vs = .slice b m d) : Calls Tryz.prog 73 #[featV f va vs] w fun e w' => e = .returned (opV (insO f) va vs) ∧ Below w.heap.size w w' := by
 obtain ⟨a, n, c, b, m, d, rfl, rfl⟩ := h
 go_enter Tryz.func73, Tryz.ntmps73
 go_wp2_with fail
 go_returns
 exact ⟨rfl, by go_grown⟩
theorem ops_block {w : World} {b n : Nat} {items : List OItem} {l : List Opn} {T : TypeId} {m : Nat × Nat} {cs : Array Value} (h : w.heap[b]? = some (.cells cs T m)) (hc : cs.toList = items.flatMap opCells) (hr : OReads w items) (hl : items.map Prod.fst = l) (hn : items.length = n) (hs : n ≤ 1000) : OpsAt w (.slice (some ⟨b, 0, none⟩) n n) l := by
 subst hl hn
 refine ⟨_, _, by rw [List.length_map], ⟨by rw [List.length_map]; omega, by simp⟩, fun i hi => ?_⟩
 rw [List.length_map] at hi
 refine ⟨b, 0, (items.getD i noOItem).2.1, (items.getD i noOItem).2.2, rfl, ?_⟩
 rw [fst_getD hi noOItem]
 refine opCells_at (x := items.getD i noOItem) (hr _ (getD_memD hi _)) fun j hj => ?_
 rw [cell_block h]
 have := flat_get opCells 16 opCells_len noOItem items i j hi hj
 rw [← this, ← hc, Array.getElem?_toList]
 congr 1
 omega
theorem feats_block {w : World} {b n : Nat} {items : List FItem} {l : List Feat} {T : TypeId} {m : Nat × Nat} {cs : Array Value} (h : w.heap[b]? = some (.cells cs T m)) (hc : cs.toList = items.flatMap featCells) (hr : Reads w items) (hl : items.map Prod.fst = l) (hn : items.length = n) (hs : n ≤ 1000) : FeatsAt w (.slice (some ⟨b, 0, none⟩) n n) l := by
 subst hl hn
 refine ⟨_, _, by rw [List.length_map], ⟨by rw [List.length_map]; omega, by simp⟩, fun i hi => ?_⟩
 rw [List.length_map] at hi
 refine ⟨b, 0, (items.getD i noItem).2.1, (items.getD i noItem).2.2, rfl, ?_⟩
 rw [fst_getD hi noItem]
 refine featCells_at (x := items.getD i noItem) (hr _ (getD_memD hi _)) fun j hj => ?_
 rw [cell_block h]
 have := flat_get featCells 9 featCells_len noItem items i j hi hj
 rw [← this, ← hc, Array.getElem?_toList]
 congr 1
 omega
end Go.Proofs.YtdmegkkifiahdaaGreat
