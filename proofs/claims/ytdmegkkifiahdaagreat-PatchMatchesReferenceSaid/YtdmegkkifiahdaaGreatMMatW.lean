import Derived.Test.YtdmegkkifiahdaaGreatPatHead
import Derived.Test.YtdmegkkifiahdaaGreatSame7
import Derived.Test.YtdmegkkifiahdaaGreatRpP
import Derived.Test.YtdmegkkifiahdaaGreatRpQ
namespace Go.Proofs.YtdmegkkifiahdaaGreat
open Go.ChangeShapes Go.WideShapes Go.ChangeAt Go.RowKit
attribute [local go_sem] bqOp bqAll bqUpon sqOp sqAll sqUpon ssOp ssAll
attribute [local irreducible] wpQuiet wpBQ wpPlan wsPlan
set_option linter.unusedVariables false
theorem ws_loadMidG {P : Program} {ops : Array Oper} {S : World → Prop} {Q : Exit → Act → World → Prop} {b : Nat} {p : Plan} {l rest : List Oper} {o : Oper} {a : Act} {w : World} (hb : bring b l = o :: rest) (hgd : Region.wanted o (yielded ops a.tmps) = true) (ty : TypeId) (x : Operand) (ho : o.op = .load ty x)
  (g off : Nat) (hx : a.eval x = .pointer (some ⟨g, off, none⟩)) (cs : List Value) (d : TypeDesc) (hS : ∀ w, S w → w.rangeAt g off cs)
  (hu : P.underlying ty = some d) (hd : d.isRow = true) (hi : (P.info? ty).map (·.size) = some cs.length)
  (h : wsPlan P ops S Q p rest (a.put o.dst (.agg cs.toArray)) w) : wsPlan P ops S Q (.take b p) l a w := by
 refine wsPlan_take hb fun K hK => ?_
 rw [if_pos hgd]
 refine ⟨.agg cs.toArray, fun w' hw' => ?_, hK _ h⟩
 unfold execOp
 simp only [ho, hx, Instr.loadAt, Instr.sureAddr, Sem.run_bind, Sem.run_pure, Result.andThen_ok, run_loadVar_mid w' g off ty cs d (hS w' hw') hu hd hi]
 exact ⟨rfl, rfl⟩
theorem ints_rowsM {w : World} {v : Value} {l : List Int} (h : IntsAt w v l) : Rows 1 w v l.length (fun i _ => l.getD i 0) := Lists.rows h
theorem ints_lenM {w : World} {v : Value} {l : List Int} (h : IntsAt w v l) : l.length ≤ 9223372036854775807 := by
 obtain ⟨_, _, _, _, h, _⟩ := Lists.form h
 exact h
set_option maxRecDepth 100000 in
set_option maxHeartbeats 8000000 in
theorem patchMatchesReference_walk {a : List Feat} {ada : Option Addr} {cda : Nat} {b : List Feat} {adb : Option Addr} {cdb : Nat} {p : List Opn} {adp : Option Addr} {cdp : Nat} {q : List Opn} {adq : Option Addr} {cdq : Nat} {w : World} (ha : FeatsAt w (.slice ada a.length cda) a) (hb : FeatsAt w (.slice adb b.length cdb) b) (hp : OpsAt w (.slice adp p.length cdp) p) (hq : OpsAt w (.slice adq q.length cdq) q) :
  Calls Tryz.prog 3 #[.slice ada a.length cda, .slice adb b.length cdb, .slice adp p.length cdp, .slice adq q.length cdq] w fun e w' => e = .returned (.bool true) ∧ Below w.heap.size w w' := by
 have la : a.length ≤ 9223372036854775807 := by obtain ⟨_, _, _, _, h, _⟩ := ha.form; exact h
 have ka : a.length ≤ cda := by obtain ⟨a, c, e, _, _, h⟩ := ha.form; cases e; exact h
 obtain ⟨na, ea⟩ : ∃ n, a.length = n := ⟨_, rfl⟩
 rw [ea] at ha la ka ⊢
 have Ha := Lib.hid ha
 have Na := Lib.hid ea
 clear ha ea
 have lb : b.length ≤ 9223372036854775807 := by obtain ⟨_, _, _, _, h, _⟩ := hb.form; exact h
 have kb : b.length ≤ cdb := by obtain ⟨a, c, e, _, _, h⟩ := hb.form; cases e; exact h
 obtain ⟨nb, eb⟩ : ∃ n, b.length = n := ⟨_, rfl⟩
 rw [eb] at hb lb kb ⊢
 have Hb := Lib.hid hb
 have Nb := Lib.hid eb
 clear hb eb
 have lp : p.length ≤ 9223372036854775807 := by obtain ⟨_, _, _, _, h, _⟩ := hp.form; exact h
 have kp : p.length ≤ cdp := by obtain ⟨a, c, e, _, _, h⟩ := hp.form; cases e; exact h
 obtain ⟨np, ep⟩ : ∃ n, p.length = n := ⟨_, rfl⟩
 rw [ep] at hp lp kp ⊢
 have Hp := Lib.hid hp
 have Np := Lib.hid ep
 clear hp ep
 have lq : q.length ≤ 9223372036854775807 := by obtain ⟨_, _, _, _, h, _⟩ := hq.form; exact h
 have kq : q.length ≤ cdq := by obtain ⟨a, c, e, _, _, h⟩ := hq.form; cases e; exact h
 obtain ⟨nq, eq⟩ : ∃ n, q.length = n := ⟨_, rfl⟩
 rw [eq] at hq lq kq ⊢
 have Hq := Lib.hid hq
 have Nq := Lib.hid eq
 clear hq eq
 obtain ⟨x1, i1, e1, h1⟩ : ∃ x i er, applyO a p = (x, i, er) := ⟨_, _, _, rfl⟩
 have R1 := Lib.hid h1
 obtain ⟨u2, e2, h2⟩ : ∃ u er, undoO a p = (u, er) := ⟨_, _, rfl⟩
 have R2 := Lib.hid h2
 obtain ⟨r3, s3, e3, h3⟩ : ∃ r s er, commO p q = (r, s, er) := ⟨_, _, _, rfl⟩
 have R3 := Lib.hid h3
 obtain ⟨o4, e4, h4⟩ := normal_both p
 have NB := Lib.hid h4
 obtain ⟨d5, e5, h5⟩ : ∃ d er, diffO a b = (d, er) := ⟨_, _, rfl⟩
 have R5 := Lib.hid h5
 obtain ⟨t6, e6, h6⟩ := touch_both p
 have TB := Lib.hid h6
 clear h1 h2 h3 h4 h5 h6
 have hC0 := Below.refl w.heap.size w
 obtain ⟨w0, rfl⟩ : ∃ w0 : World, w0 = w := ⟨_, rfl⟩
 go_enter Tryz.func3, Tryz.ntmps3
 go_wp2_with fail
 (with_reducible refine (head17_true _).mono ?_)
 rintro e w1 ⟨rfl, hb1⟩
 have hC1 := below_step hC0 hb1
 go_upto_region 2 with fail
 go_cut [43] from 24 to 43 (fun s wx => ∃ u : Bool, s = .bool u ∧ Below w0.heap.size w0 wx)
 case first =>
  obtain ⟨va, hva⟩ : ∃ v, decide (FewO a p) = v := ⟨_, rfl⟩
  obtain ⟨vb, hvb⟩ : ∃ v, decide (FewO b q) = v := ⟨_, rfl⟩
  have VA := Lib.hid hva
  have VB := Lib.hid hvb
  clear hva hvb
  go_wp2_with fail
  (with_reducible refine (q17Few_any a p _ _ _ (Ha.out.later hC1) (Hp.out.later hC1) VA.out).mono ?_)
  rintro e wy ⟨rfl, hywy⟩
  have hCy := below_step hC1 hywy
  cases va
  · rcases Nat.lt_or_ge 300 na with g1 | g1
    · have d1 : decide ((na : Int) ≤ 300) = false := decide_eq_false (by omega)
      clear g1
      go_wp2_with fail
      (with_reducible refine (q17Few_any b q _ _ _ (Hb.out.later hCy) (Hq.out.later hCy) VB.out).mono ?_)
      rintro e wz ⟨rfl, hywz⟩
      have hCz := below_step hCy hywz
      cases vb
      all_goals
       go_wp2_with fail
       go_meet
       exact ⟨_, rfl, hCz⟩
    · have d1 : decide ((na : Int) ≤ 300) = true := decide_eq_true (by omega)
      rcases Nat.lt_or_ge 100 np with g2 | g2
      · have d2 : decide ((np : Int) ≤ 100) = false := decide_eq_false (by omega)
        clear g1 g2
        go_wp2_with fail
        (with_reducible refine (q17Few_any b q _ _ _ (Hb.out.later hCy) (Hq.out.later hCy) VB.out).mono ?_)
        rintro e wz ⟨rfl, hywz⟩
        have hCz := below_step hCy hywz
        cases vb
        all_goals
         go_wp2_with fail
         go_meet
         exact ⟨_, rfl, hCz⟩
      · have d2 : decide ((np : Int) ≤ 100) = true := decide_eq_true (by omega)
        clear g1 g2
        go_wp2_with fail
        go_meet
        exact ⟨_, rfl, hCy⟩
  · skip
    skip
    go_wp2_with fail
    (with_reducible refine (q17Few_any b q _ _ _ (Hb.out.later hCy) (Hq.out.later hCy) VB.out).mono ?_)
    rintro e wz ⟨rfl, hywz⟩
    have hCz := below_step hCy hywz
    cases vb
    all_goals
     go_wp2_with fail
     go_meet
     exact ⟨_, rfl, hCz⟩
 case rest =>
 obtain ⟨u, rfl, hC2⟩ := hcut
 obtain ⟨w2, rfl⟩ : ∃ z : World, z = wc := ⟨_, rfl⟩
 clear hb1 hC1
 cases u
 rotate_left
 · go_wp2_with fail
   go_returns
   exact ⟨rfl, hC2⟩
 go_wp2_with fail
 go_loopw [9, 10] (fun up i wr => ∃ k : Nat, k ≤ np ∧ up = .bool true ∧ i = .int .i64 k ∧ Below w0.heap.size w0 wr) (fun _ i _ => np - cntV i)
 case atStart => exact ⟨0, Nat.zero_le _, rfl, rfl, hC2⟩
 case round =>
  clear hC2
  obtain ⟨k, hk, rfl, rfl, hb⟩ := hrel
  go_upto_region 5 with fail
  go_cut [52] from 45 to 52 (fun s wx => s = .bool (decide ((k : Int) < np) && decide ((k : Int) < 12)) ∧ wx = wr)
  case first =>
   rcases Nat.lt_or_ge k np with c1 | c1
   · have d1 : decide ((k : Int) < (np : Int)) = true := decide_eq_true (by omega)
     rcases Nat.lt_or_ge k 12 with c2 | c2
     · have d2 : decide ((k : Int) < 12) = true := decide_eq_true (by omega)
       go_wp2_with fail
       go_meet
       exact ⟨by rw [d1, d2]; rfl, rfl⟩
     · have d2 : decide ((k : Int) < 12) = false := decide_eq_false (by omega)
       go_wp2_with fail
       go_meet
       exact ⟨by rw [d1, d2]; rfl, rfl⟩
   · have d1 : decide ((k : Int) < (np : Int)) = false := decide_eq_false (by omega)
     go_wp2_with fail
     go_meet
     exact ⟨by rw [d1]; rfl, rfl⟩
  case rest =>
  obtain ⟨rfl, hwc⟩ := hcut
  subst hwc
  generalize hgo : (decide ((k : Int) < np) && decide ((k : Int) < 12)) = go
  cases go
  rotate_left
  · have hlt : k < np := by
     rw [Bool.and_eq_true, decide_eq_true_eq] at hgo
     omega
    clear hgo
    obtain ⟨g, o, va, vs, rfl, fc⟩ := Hp.out.row hlt
    obtain ⟨x, hx⟩ : ∃ x, p.getD k noOpn = x := ⟨_, rfl⟩
    rw [hx] at fc
    have XP := Lib.hid fc.parts
    obtain ⟨aa, ca, ab, cb, rfl, rfl⟩ := fc.parts.form
    have XC := Lib.hid fc
    obtain ⟨ov, hov⟩ : ∃ v, decide (OpOk x) = v := ⟨_, rfl⟩
    have OV := Lib.hid hov
    have tb : (ov == ov) = true := by cases ov <;> rfl
    clear fc hx hov
    go_wp2_with fail
    refine wp_region_planS (Below wc.heap.size wc) (.take 0 (.take 0 (.take 0 (.take 0 (.take 0 (.take 0 (.take 1 (.take 1 (.take 1 (.take 1 (.only 0 (.only 0 (.take 0 (.take 0 (.take 0 .done))))))))))))))) (by kernel_rfl) (by kernel_rfl) (Below.refl _ _).drew (fun hP => ?_)
    generalize hVe : wc.drew = V at hP ⊢
    clear hVe
    iterate 5 (refine wsPlan_take rfl (fun K hK => ?_); replace hK := Lib.hid hK; go_simp; first | (refine hK.out _ ?_; clear hK K) | (apply Exists.intro; refine ⟨fun w' hw => ?_, hK.out _ ?_⟩; (first | with_reducible exact rfl | (go_simp; exact rfl)); clear hK K))
    refine ws_loadMidG rfl (by first | rfl | kernel_rfl | (go_simp; done)) _ _ rfl g (o + k * 16) rfl [.int .i64 x.kind, .int .i64 x.id, .int .i64 x.feat.id, .int .i64 x.feat.kind, .int .i64 x.feat.x, .int .i64 x.feat.y, .int .i64 x.feat.rad, .slice aa x.feat.area.length ca, .int .i64 x.feat.dep, .int .i64 x.feat.sym, .slice ab x.feat.secs.length cb, .int .i64 x.x, .int .i64 x.y, .int .i64 x.rad, .int .i64 x.dep, .int .i64 x.sym] _ (fun w' hw => (XC.out.later (below_step hb hw)).range) Tryz.underlying34 rfl (by kernel_rfl) ?_
    iterate 3 (refine wsPlan_take rfl (fun K hK => ?_); replace hK := Lib.hid hK; go_simp; first | (refine hK.out _ ?_; clear hK K) | (apply Exists.intro; refine ⟨fun w' hw => ?_, hK.out _ ?_⟩; (first | with_reducible exact rfl | (go_simp; exact rfl)); clear hK K))
    refine ws_loadMidG rfl (by first | rfl | kernel_rfl | (go_simp; done)) _ _ rfl g (o + k * 16) rfl [.int .i64 x.kind, .int .i64 x.id, .int .i64 x.feat.id, .int .i64 x.feat.kind, .int .i64 x.feat.x, .int .i64 x.feat.y, .int .i64 x.feat.rad, .slice aa x.feat.area.length ca, .int .i64 x.feat.dep, .int .i64 x.feat.sym, .slice ab x.feat.secs.length cb, .int .i64 x.x, .int .i64 x.y, .int .i64 x.rad, .int .i64 x.dep, .int .i64 x.sym] _ (fun w' hw => (XC.out.later (below_step hb hw)).range) Tryz.underlying34 rfl (by kernel_rfl) ?_
    (refine wsPlan_only rfl (fun K hK => ?_); replace hK := Lib.hid hK; go_simp; go_at_call 12; (with_reducible refine (paValid_any x _ _ _ (XP.out.later (below_step hb hP)) OV.out).mono ?_); rintro e wx ⟨rfl, hbx⟩; refine hK.out _ _ (below_step hP hbx) (fun hP => ?_); clear hK K)
    (refine wsPlan_only rfl (fun K hK => ?_); replace hK := Lib.hid hK; go_simp; go_at_call 13; (with_reducible refine (q16Op_any x _ _ _ (XP.out.later (below_step hb hP)) OV.out).mono ?_); rintro e wx ⟨rfl, hbx⟩; refine hK.out _ _ (below_step hP hbx) (fun hP => ?_); clear hK K)
    iterate 3 (refine wsPlan_take rfl (fun K hK => ?_); replace hK := Lib.hid hK; go_simp; first | (refine hK.out _ ?_; clear hK K) | (apply Exists.intro; refine ⟨fun w' hw => ?_, hK.out _ ?_⟩; (first | with_reducible exact rfl | (go_simp; exact rfl)); clear hK K))
    refine wsPlan_done ?_
    have hbP := below_step hb hP
    go_wp2_with fail
    go_roundw
    case rel => exact ⟨k + 1, by omega, rfl, by go_num, hbP⟩
    case measure => simp [cntV]; omega
  clear hgo hk
  obtain ⟨w3, rfl⟩ : ∃ z : World, z = wc := ⟨_, rfl⟩
  have hC3 := hb
  clear hb
  have ti1 : (i1 == i1) = true := by simp
  have te1 : (e1 == e1) = true := by simp
  have te2 : (e2 == e2) = true := by simp
  have tr3 : (r3 == r3) = true := by simp
  have ts3 : (s3 == s3) = true := by simp
  have te3 : (e3 == e3) = true := by simp
  have te4 : (e4 == e4) = true := by simp
  have te5 : (e5 == e5) = true := by simp
  have te6 : (e6 == e6) = true := by simp
  go_wp2_with fail
  (with_reducible refine (paApply_any a p _ _ _ (Ha.out.later hC3) (Hp.out.later hC3) R1.out).mono ?_)
  rintro e w4 ⟨ad4, n4, c4, hl4, rfl, hf4, hb4⟩
  have hC4 := below_step hC3 hb4
  have F4 := Lib.hid hf4
  clear hf4 hl4
  go_wp2_with fail
  (with_reducible refine (q17Apply_any a p _ _ _ (Ha.out.later hC4) (Hp.out.later hC4) R1.out).mono ?_)
  rintro e w5 ⟨ad5, n5, c5, hl5, rfl, hf5, hb5⟩
  have hC5 := below_step hC4 hb5
  have F5 := Lib.hid hf5
  clear hf5 hl5
  go_wp2_with fail
  (with_reducible refine (q07SameList_any x1 x1 _ _ _ (F4.out.later hb5) (F5.out.later (Below.refl _ w5)) (decide_eq_true rfl)).mono ?_)
  rintro e w6 ⟨rfl, hb6⟩
  have hC6 := below_step hC5 hb6
  go_wp2_with fail
  (with_reducible refine (paUndo_any a p _ _ _ (Ha.out.later hC6) (Hp.out.later hC6) R2.out).mono ?_)
  rintro e w7 ⟨ad7, n7, c7, hl7, rfl, hf7, hb7⟩
  have hC7 := below_step hC6 hb7
  have F7 := Lib.hid hf7
  clear hf7 hl7
  go_wp2_with fail
  (with_reducible refine (q17Undo_any a p _ _ _ (Ha.out.later hC7) (Hp.out.later hC7) R2.out).mono ?_)
  rintro e w8 ⟨ad8, n8, c8, hl8, rfl, hf8, hb8⟩
  have hC8 := below_step hC7 hb8
  have F8 := Lib.hid hf8
  clear hf8 hl8
  go_wp2_with fail
  (with_reducible refine (q16Ops_any u2 u2 _ _ _ (F7.out.later hb8) (F8.out.later (Below.refl _ w8)) (decide_eq_true rfl)).mono ?_)
  rintro e w9 ⟨rfl, hb9⟩
  have hC9 := below_step hC8 hb9
  go_wp2_with fail
  (with_reducible refine (paCommute_any p q _ _ _ (Hp.out.later hC9) (Hq.out.later hC9) R3.out).mono ?_)
  rintro e w10 ⟨rfl, hb10⟩
  have hC10 := below_step hC9 hb10
  go_wp2_with fail
  (with_reducible refine (q17Commute_any p q _ _ _ (Hp.out.later hC10) (Hq.out.later hC10) R3.out).mono ?_)
  rintro e w11 ⟨rfl, hb11⟩
  have hC11 := below_step hC10 hb11
  go_wp2_with fail
  (with_reducible refine ((NB.out _ _ (Hp.out.later hC11)).1).mono ?_)
  rintro e w12 ⟨ad12, n12, c12, hl12, rfl, hf12, hb12⟩
  have hC12 := below_step hC11 hb12
  have F12 := Lib.hid hf12
  clear hf12 hl12
  go_wp2_with fail
  (with_reducible refine ((NB.out _ _ (Hp.out.later hC12)).2).mono ?_)
  rintro e w13 ⟨ad13, n13, c13, hl13, rfl, hf13, hb13⟩
  have hC13 := below_step hC12 hb13
  have F13 := Lib.hid hf13
  clear hf13 hl13
  go_wp2_with fail
  (with_reducible refine (q16Ops_any o4 o4 _ _ _ (F12.out.later hb13) (F13.out.later (Below.refl _ w13)) (decide_eq_true rfl)).mono ?_)
  rintro e w14 ⟨rfl, hb14⟩
  have hC14 := below_step hC13 hb14
  go_wp2_with fail
  (with_reducible refine (paDiff_any a b _ _ _ (Ha.out.later hC14) (Hb.out.later hC14) R5.out).mono ?_)
  rintro e w15 ⟨ad15, n15, c15, hl15, rfl, hf15, hb15⟩
  have hC15 := below_step hC14 hb15
  have F15 := Lib.hid hf15
  clear hf15 hl15
  go_wp2_with fail
  (with_reducible refine (q17Diff_any a b _ _ _ (Ha.out.later hC15) (Hb.out.later hC15) R5.out).mono ?_)
  rintro e w16 ⟨ad16, n16, c16, hl16, rfl, hf16, hb16⟩
  have hC16 := below_step hC15 hb16
  have F16 := Lib.hid hf16
  clear hf16 hl16
  go_wp2_with fail
  (with_reducible refine (q16Ops_any d5 d5 _ _ _ (F15.out.later hb16) (F16.out.later (Below.refl _ w16)) (decide_eq_true rfl)).mono ?_)
  rintro e w17 ⟨rfl, hb17⟩
  have hC17 := below_step hC16 hb17
  go_wp2_with fail
  (with_reducible refine ((TB.out _ _ (Hp.out.later hC17)).1).mono ?_)
  rintro e w18 ⟨ad18, n18, c18, rfl, rfl, hf18, hb18⟩
  have hC18 := below_step hC17 hb18
  have F18 := Lib.hid hf18
  clear hf18
  go_wp2_with fail
  (with_reducible refine ((TB.out _ _ (Hp.out.later hC18)).2).mono ?_)
  rintro e w19 ⟨ad19, n19, c19, rfl, rfl, hf19, hb19⟩
  have hC19 := below_step hC18 hb19
  have F19 := Lib.hid hf19
  clear hf19
  go_wp2_with fail
  (with_reducible refine (q08Ints_any _ _ _ _ _ _ _ _ _ (ints_rowsM (intsL F18.out hb19)) (ints_rowsM (intsL F19.out (Below.refl _ w19))) (ints_lenM F18.out) (ints_lenM F19.out) (decide_eq_true ((ints_eq t6 t6).2 rfl))).mono ?_)
  rintro e w20 ⟨rfl, hb20⟩
  have hC20 := below_step hC19 hb20
  go_wp2_with fail
  go_returns
  exact ⟨rfl, hC20⟩
end Go.Proofs.YtdmegkkifiahdaaGreat
