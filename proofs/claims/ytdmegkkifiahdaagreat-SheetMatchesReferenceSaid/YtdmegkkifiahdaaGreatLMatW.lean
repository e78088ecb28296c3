/- For any two sheets, any list of integers, any number and any place: the statement SheetMatchesReference of chapter 14 (all functions return what the reference returns): the law's function returns true and leaves its arguments as they were. No condition. -/
import Derived.Test.YtdmegkkifiahdaaGreatShtO
import Derived.Test.YtdmegkkifiahdaaGreatKF2
import Derived.Test.YtdmegkkifiahdaaGreatLMatA
namespace Go.Proofs.YtdmegkkifiahdaaGreat
open Go.ChangeShapes Go.WideShapes Go.ChangeAt Go.RowKit
attribute [local go_sem] bqOp bqAll bqUpon sqOp sqAll sqUpon ssOp ssAll
attribute [local irreducible] wpQuiet wpBQ wpPlan wsPlan
set_option linter.unusedVariables false
set_option maxRecDepth 100000 in
set_option maxHeartbeats 8000000 in
theorem sheetMatchesReference_walk {a : Sht} {ada afa : Option Addr} {cda cfa : Nat} {b : Sht} {adb afb : Option Addr} {cdb cfb : Nat} {l : List Int} {adl : Option Addr} {cdl : Nat} (i : Int) (px py : Int) {w : World} (hda : IntsAt w (.slice ada a.don.length cda) a.don) (hfa : FeatsAt w (.slice afa a.feats.length cfa) a.feats) (wa : I64 a.edition ∧ I64 a.cap) (hdb : IntsAt w (.slice adb b.don.length cdb) b.don) (hfb : FeatsAt w (.slice afb b.feats.length cfb) b.feats) (wb : I64 b.edition ∧ I64 b.cap) (hl : IntsAt w (.slice adl l.length cdl) l) (wi : (Lit.int .i64 i).wf = true) :
    Calls Tryz.prog 4 #[shtV a (.slice ada a.don.length cda) (.slice afa a.feats.length cfa), shtV b (.slice adb b.don.length cdb) (.slice afb b.feats.length cfb), .slice adl l.length cdl, .int .i64 i, .agg #[.int .i64 px, .int .i64 py]] w fun e w' => e = .returned (.bool true) ∧ Below w.heap.size w w' := by
  have HDa := Lib.hid hda
  have HFa := Lib.hid hfa
  have WSa := Lib.hid wa
  clear hda hfa wa
  have HDb := Lib.hid hdb
  have HFb := Lib.hid hfb
  have WSb := Lib.hid wb
  clear hdb hfb wb
  have ll : l.length ≤ 9223372036854775807 := (Lists.form hl).choose_spec.choose_spec.2.2.1
  have Hl := Lib.hid hl
  clear hl
  obtain ⟨oa, hoa⟩ : ∃ v, decide (ShtOk a) = v := ⟨_, rfl⟩
  have OA := Lib.hid hoa
  obtain ⟨sm, hsm⟩ : ∃ v, decide (a = b) = v := ⟨_, rfl⟩
  have SM := Lib.hid hsm
  obtain ⟨li, e1, h1⟩ : ∃ li er, intsR a = (li, er) := ⟨_, _, rfl⟩
  have R1 := Lib.hid h1
  obtain ⟨u, e2, h2⟩ : ∃ u er, fromR l = (u, er) := ⟨_, _, rfl⟩
  have R2 := Lib.hid h2
  obtain ⟨m, e3, h3⟩ : ∃ m er, digQ a oa = (m, er) := ⟨_, _, rfl⟩
  have R3 := Lib.hid h3
  obtain ⟨f, e4, h4⟩ : ∃ f er, findR a i = (f, er) := ⟨_, _, rfl⟩
  have R4 := Lib.hid h4
  obtain ⟨ov, hov⟩ : ∃ v, decide (ShtOk a ∧ Vld px py) = v := ⟨_, rfl⟩
  have OV := Lib.hid hov
  obtain ⟨v, e5, h5⟩ : ∃ v er, shownQ a px py ov = (v, er) := ⟨_, _, rfl⟩
  have R5 := Lib.hid h5
  obtain ⟨ld, e6, h6⟩ : ∃ ld er, diffR a b = (ld, er) := ⟨_, _, rfl⟩
  have R6 := Lib.hid h6
  clear hoa hsm h1 h2 h3 h4 hov h5 h6
  have tb1 : (oa == oa) = true := by cases oa <;> rfl
  have tb2 : (sm == sm) = true := by cases sm <;> rfl
  have te1 : (e1 == e1) = true := by simp
  have te2 : (e2 == e2) = true := by simp
  have tm : (m == m) = true := by simp
  have te3 : (e3 == e3) = true := by simp
  have te4 : (e4 == e4) = true := by simp
  have tv : (v == v) = true := by simp
  have te5 : (e5 == e5) = true := by simp
  have te6 : (e6 == e6) = true := by simp
  go_enter Tryz.func4, Tryz.ntmps4
  go_wp2_with fail
  refine calls_named fun W hW => ?_
  obtain ⟨p1, p2, p3, hB⟩ := box3 hW
  clear hW
  have P1 := Lib.hid p1
  clear p1
  have q1 := cellsL P1.out
  have P2 := Lib.hid p2
  clear p2
  have q2 := cellsL P2.out
  have P3 := Lib.hid p3
  clear p3
  have q3 := cellsL P3.out
  (with_reducible refine (head14_true _).mono ?_)
  rintro e w1 ⟨rfl, hB1⟩
  have hC1 := below_step hB hB1
  go_wp2_with fail
  obtain ⟨va, hva⟩ : ∃ v, decide (FewS a) = v := ⟨_, rfl⟩
  have HVa := Lib.hid hva
  clear hva
  (with_reducible refine (q14Few_any a _ _ _ (intsL HDa.out hC1) (HFa.out.later hC1) HVa.out).mono ?_)
  rintro e w2 ⟨rfl, hb2⟩
  have hB2 := below_step hB1 hb2
  have hC2 := below_step hB hB2
  cases va
  · go_wp2_with fail
    go_returns
    exact ⟨rfl, hC2⟩
  go_wp2_with fail
  obtain ⟨vb, hvb⟩ : ∃ v, decide (FewS b) = v := ⟨_, rfl⟩
  have HVb := Lib.hid hvb
  clear hvb
  (with_reducible refine (q14Few_any b _ _ _ (intsL HDb.out hC2) (HFb.out.later hC2) HVb.out).mono ?_)
  rintro e w3 ⟨rfl, hb3⟩
  have hB3 := below_step hB2 hb3
  have hC3 := below_step hB hB3
  cases vb
  · go_wp2_with fail
    go_returns
    exact ⟨rfl, hC3⟩
  rcases Nat.lt_or_ge 2000 l.length with big | small
  · go_wp2_with fail
    go_returns
    exact ⟨rfl, hC3⟩
  go_wp2_with fail
  have SW := Lib.hid (intsL HDa.out hC3)
  have SF := Lib.hid (HFa.out.later hC3)
  have TW := Lib.hid (intsL HDb.out hC3)
  have TF := Lib.hid (HFb.out.later hC3)
  clear q1 q2 q3
  have q1 := cellsR (block_later hB3 P1.out)
  have q2 := cellsR (block_later hB3 P2.out)
  have q3 := cellsR (block_later hB3 P3.out)
  refine wp_region_plan (.take 0 (.take 0 (.take 0 (.take 1 (.only 0 (.only 0 (.take 0 (.take 0 (.take 0 (.take 0 (.take 0 (.take 1 (.take 1 (.only 0 (.only 0 (.take 0 (.take 0 (.take 0 .done)))))))))))))))))) (by kernel_rfl) (by kernel_rfl) (fun hP => ?_)
  repeat' (first
    | (refine wpPlan_two ?_ ?_)
    | (refine wpPlan_three ?_ ?_ ?_)
    | (refine wpPlan_take rfl (fun K hK => ?_); replace hK := Lib.hid hK; go_simp; first | (refine hK.out _ ?_; clear hK K) | (apply Exists.intro; refine ⟨fun _ => ?_, hK.out _ ?_⟩; (first | with_reducible exact rfl | skip); clear hK K))
    | (refine wpPlan_only rfl (fun K hK => ?_); replace hK := Lib.hid hK; (first | (go_simp; first | (go_at_call 31; (with_reducible refine (shValid_any a _ _ _ (intsL SW.out hP) (SF.out.later hP) OA.out).mono ?_); rintro e wx ⟨rfl, hbx⟩) | (go_at_call 32; (with_reducible refine (q14Valid_any a _ _ _ (intsL SW.out hP) (SF.out.later hP) OA.out).mono ?_); rintro e wx ⟨rfl, hbx⟩) | (go_at_call 33; (with_reducible refine (shSame_any a b _ _ _ _ _ (intsL SW.out hP) (SF.out.later hP) (intsL TW.out hP) (TF.out.later hP) SM.out).mono ?_); rintro e wx ⟨rfl, hbx⟩) | (go_at_call 34; (with_reducible refine (q14Same_any a b _ _ _ _ _ (intsL SW.out hP) (SF.out.later hP) (intsL TW.out hP) (TF.out.later hP) SM.out).mono ?_); rintro e wx ⟨rfl, hbx⟩)) | (go_simp; first | skip)); refine hK.out _ _ (by first | assumption | exact below_step hP hbx | exact hP.drew | exact hP.alloc hP.size _) (fun hP => ?_); clear hK K))
  all_goals refine wpPlan_done ?_
  obtain ⟨w4, rfl⟩ : ∃ z, z = wx := ⟨_, rfl⟩
  have hb4 := hP
  have hB4 := below_step hB3 hb4
  have hC4 := below_step hB hB4
  clear q1 q2 q3 SW SF TW TF
  have q1 := cellsL P1.out
  have q2 := cellsL P2.out
  have q3 := cellsL P3.out
  go_wp2_with fail
  (with_reducible refine (shInts_u a _ _ _ (intsL HDa.out hC4) (HFa.out.later hC4) R1.out).mono ?_)
  rintro e w5 ⟨ax, cx, rfl, xx, hb5⟩
  have hB5 := below_step hB4 hb5
  have hC5 := below_step hB hB5
  have Xx := Lib.hid xx
  clear xx
  go_wp2_with fail
  (with_reducible refine (q14Ints_u a _ _ _ (intsL HDa.out hC5) (HFa.out.later hC5) R1.out).mono ?_)
  rintro e w6 ⟨bx, dx, rfl, yx, hb6⟩
  have hB6 := below_step hB5 hb6
  have hC6 := below_step hB hB6
  have Yx := Lib.hid yx
  clear yx
  go_wp2_with fail
  (with_reducible refine (q08Ints_any _ _ _ _ _ _ _ _ _ (ints_rows (intsL Xx.out hb6)) (ints_rows (intsL Yx.out (Below.refl _ w6))) Xx.out.len Yx.out.len (decide_eq_true ((ints_eq li li).2 rfl))).mono ?_)
  rintro e w7 ⟨rfl, hb7⟩
  have hB7 := below_step hB6 hb7
  have hC7 := below_step hB hB7
  go_wp2_with fail
  (with_reducible refine (shFrom_u l _ _ _ (intsL Hl.out hC7) R2.out).mono ?_)
  rintro e w8 ⟨ads, cds, afs, cfs, rfl, xs, ys, hb8⟩
  have hB8 := below_step hB7 hb8
  have hC8 := below_step hB hB8
  have a8 := fun o => hB8.alloc hB8.size o
  have Ds := Lib.hid xs
  have Fs := Lib.hid ys
  clear xs ys
  go_wp2_with fail
  refine calls_named fun w9 hw => ?_
  obtain ⟨p9_0, hb9⟩ := box1 hw
  clear hw
  have hB9 := below_step hB8 hb9
  have hC9 := below_step hB hB9
  have Q2 := Lib.hid p9_0
  clear p9_0
  have r9 := Lib.hid (Below.refl w9.heap.size w9)
  have qQ2 := cellsL Q2.out
  (with_reducible refine (q14From_u l _ _ _ (intsL Hl.out hC9) small R2.out).mono ?_)
  rintro e w10 ⟨adt, cdt, aft, cft, rfl, xt, yt, hb10⟩
  have hB10 := below_step hB9 hb10
  have hC10 := below_step hB hB10
  have a10 := fun o => hB10.alloc hB10.size o
  have g10_9 := fun o => (hb10).alloc (hb10).size o
  have Dt := Lib.hid xt
  have Ft := Lib.hid yt
  clear xt yt
  go_wp2_with fail
  refine calls_named fun w11 hw => ?_
  obtain ⟨p11_0, hb11⟩ := box1 hw
  clear hw
  have hB11 := below_step hB10 hb11
  have hC11 := below_step hB hB11
  have Q3 := Lib.hid p11_0
  clear p11_0
  have r11 := Lib.hid (Below.refl w11.heap.size w11)
  have qQ3 := cellsL Q3.out
  (with_reducible refine (q14Same_any u u _ _ _ _ _ (intsL Ds.out (below_step (below_step hb9 hb10) hb11)) (Fs.out.later (below_step (below_step hb9 hb10) hb11)) (intsL Dt.out hb11) (Ft.out.later hb11) (decide_eq_true rfl)).mono ?_)
  rintro e w12 ⟨rfl, hb12⟩
  have hB12 := below_step hB11 hb12
  have hC12 := below_step hB hB12
  go_wp2_with fail
  (with_reducible refine (shDigest_any a _ _ _ (intsL HDa.out hC12) (HFa.out.later hC12) OA.out R3.out).mono ?_)
  rintro e w13 ⟨rfl, hb13⟩
  have hB13 := below_step hB12 hb13
  have hC13 := below_step hB hB13
  go_wp2_with fail
  (with_reducible refine (q14Digest_u a _ _ _ (intsL HDa.out hC13) (HFa.out.later hC13) OA.out R3.out).mono ?_)
  rintro e w14 ⟨rfl, hb14⟩
  have hB14 := below_step hB13 hb14
  have hC14 := below_step hB hB14
  go_wp2_with fail
  (with_reducible refine (shFind_any a _ _ i _ (intsL HDa.out hC14) (HFa.out.later hC14) R4.out).mono ?_)
  rintro e w15 ⟨vas, vss, rfl, xg, yg, hb15⟩
  have hB15 := below_step hB14 hb15
  have hC15 := below_step hB hB15
  have a15 := fun o => hB15.alloc hB15.size o
  have g15_9 := fun o => ((below_step (below_step (below_step (below_step (below_step hb10 hb11) hb12) hb13) hb14) hb15)).alloc ((below_step (below_step (below_step (below_step (below_step hb10 hb11) hb12) hb13) hb14) hb15)).size o
  have g15_11 := fun o => ((below_step (below_step (below_step hb12 hb13) hb14) hb15)).alloc ((below_step (below_step (below_step hb12 hb13) hb14) hb15)).size o
  obtain ⟨ga1, gc1, rfl, _, _, _⟩ := Lists.form xg
  obtain ⟨gs1, gd1, rfl, _, _, _⟩ := Lists.form yg
  have Pg := Lib.hid xg
  have Sg := Lib.hid yg
  clear xg yg
  go_wp2_with fail
  refine calls_named fun w16 hw => ?_
  obtain ⟨p16_0, hb16⟩ := box1 hw
  clear hw
  have hB16 := below_step hB15 hb16
  have hC16 := below_step hB hB16
  have Q4 := Lib.hid p16_0
  clear p16_0
  have r16 := Lib.hid (Below.refl w16.heap.size w16)
  have qQ4 := cellsL Q4.out
  (with_reducible refine (q14Find_any a _ _ i _ (intsL HDa.out hC16) (HFa.out.later hC16) R4.out).mono ?_)
  rintro e w17 ⟨vat, vst, rfl, xh, yh, hb17⟩
  have hB17 := below_step hB16 hb17
  have hC17 := below_step hB hB17
  have a17 := fun o => hB17.alloc hB17.size o
  have g17_9 := fun o => ((below_step (below_step (below_step (below_step (below_step (below_step (below_step hb10 hb11) hb12) hb13) hb14) hb15) hb16) hb17)).alloc ((below_step (below_step (below_step (below_step (below_step (below_step (below_step hb10 hb11) hb12) hb13) hb14) hb15) hb16) hb17)).size o
  have g17_11 := fun o => ((below_step (below_step (below_step (below_step (below_step hb12 hb13) hb14) hb15) hb16) hb17)).alloc ((below_step (below_step (below_step (below_step (below_step hb12 hb13) hb14) hb15) hb16) hb17)).size o
  have g17_16 := fun o => (hb17).alloc (hb17).size o
  obtain ⟨ga2, gc2, rfl, _, _, _⟩ := Lists.form xh
  obtain ⟨gs2, gd2, rfl, _, _, _⟩ := Lists.form yh
  have Ph := Lib.hid xh
  have Sh := Lib.hid yh
  clear xh yh
  go_wp2_with fail
  refine calls_named fun w18 hw => ?_
  obtain ⟨p18_0, hb18⟩ := box1 hw
  clear hw
  have hB18 := below_step hB17 hb18
  have hC18 := below_step hB hB18
  have Q5 := Lib.hid p18_0
  clear p18_0
  have r18 := Lib.hid (Below.refl w18.heap.size w18)
  have qQ5 := cellsL Q5.out
  (with_reducible refine (q07Same_any f f _ _ _ _ _ (pts_later Pg.out (below_step (below_step hb16 hb17) hb18)) (secs_later Sg.out (below_step (below_step hb16 hb17) hb18)) (pts_later Ph.out hb18) (secs_later Sh.out hb18) (decide_eq_true rfl)).mono ?_)
  rintro e w19 ⟨rfl, hb19⟩
  have hB19 := below_step hB18 hb19
  have hC19 := below_step hB hB19
  go_wp2_with fail
  (with_reducible refine (shShown_any a _ _ px py _ (intsL HDa.out hC19) (HFa.out.later hC19) OV.out R5.out).mono ?_)
  rintro e w20 ⟨rfl, hb20⟩
  have hB20 := below_step hB19 hb20
  have hC20 := below_step hB hB20
  go_wp2_with fail
  (with_reducible refine (q14Shown_u a _ _ px py _ (intsL HDa.out hC20) (HFa.out.later hC20) OV.out R5.out).mono ?_)
  rintro e w21 ⟨rfl, hb21⟩
  have hB21 := below_step hB20 hb21
  have hC21 := below_step hB hB21
  go_wp2_with fail
  (with_reducible refine (shDiffer_u a b _ _ _ _ _ (intsL HDa.out hC21) (HFa.out.later hC21) (intsL HDb.out hC21) (HFb.out.later hC21) R6.out).mono ?_)
  rintro e w22 ⟨az, cz, rfl, xz, hb22⟩
  have hB22 := below_step hB21 hb22
  have hC22 := below_step hB hB22
  have Xz := Lib.hid xz
  clear xz
  go_wp2_with fail
  (with_reducible refine (q14Differ_u a b _ _ _ _ _ (intsL HDa.out hC22) (HFa.out.later hC22) (intsL HDb.out hC22) (HFb.out.later hC22) R6.out).mono ?_)
  rintro e w23 ⟨bz, dz, rfl, yz, hb23⟩
  have hB23 := below_step hB22 hb23
  have hC23 := below_step hB hB23
  have Yz := Lib.hid yz
  clear yz
  go_wp2_with fail
  (with_reducible refine (q08Ints_any _ _ _ _ _ _ _ _ _ (ints_rows (intsL Xz.out hb23)) (ints_rows (intsL Yz.out (Below.refl _ w23))) Xz.out.len Yz.out.len (decide_eq_true ((ints_eq ld ld).2 rfl))).mono ?_)
  rintro e w24 ⟨rfl, hb24⟩
  have hB24 := below_step hB23 hb24
  have hC24 := below_step hB hB24
  go_wp2_with fail
  go_returns
  exact ⟨rfl, hC24⟩
end Go.Proofs.YtdmegkkifiahdaaGreat
