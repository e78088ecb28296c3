import Derived.Test.YtdmegkkifiahdaaGreatPLw
import Derived.Test.YtdmegkkifiahdaaGreatPatApp
import Derived.Test.YtdmegkkifiahdaaGreatPatComm
import Derived.Test.YtdmegkkifiahdaaGreatPatNrm
namespace Go.Proofs.YtdmegkkifiahdaaGreat
open Go.RowKit
attribute [local go_sem] bqOp bqAll bqUpon sqOp sqAll sqUpon ssOp ssAll
attribute [local irreducible] wpQuiet wpBQ wpPlan wsPlan
set_option linter.unusedVariables false
structure Ex17 : Prop where
 ap1 : applyO [wreckF 1 30, lightF 2] [depO 1 20, delO 2] = ([wreckF 1 20], -1, 0)
 ap2 : applyO [wreckF 1 30, lightF 2] [delO 2, ⟨3, 2, noFeat, 0, 0, 0, 0, 0⟩] = ([], 1, 4)
 ap3 : applyO [wreckF 1 30, lightF 2] [depO 2 5] = ([], 0, 12)
 un : undoO [wreckF 1 30, lightF 2] [depO 1 20, delO 2] = ([insO (lightF 2), depO 1 30], 0)
 co : commO [depO 1 3, symO 2 3] [symO 1 3, delO 2] = (1, 1, 0)
 n1 : NormEx [symO 1 7, depO 1 20, delO 1, delO 2, insO (wreckF 1 8)] [1, 2] [delO 1, delO 2, insO (wreckF 1 8)]
 n2 : NormEx [depO 1 20, symO 1 3, depO 1 10] [1] [depO 1 10, symO 1 3]
 n3 : NormNo [delO 1, depO 1 20] [1]
theorem ex17 : Ex17 where
 ap1 := by decide +kernel
 ap2 := by decide +kernel
 ap3 := by decide +kernel
 un := by decide +kernel
 co := by decide +kernel
 n1 := ⟨by decide +kernel, by decide +kernel, by decide +kernel, by decide +kernel, by decide +kernel⟩
 n2 := ⟨by decide +kernel, by decide +kernel, by decide +kernel, by decide +kernel, by decide +kernel⟩
 n3 := ⟨by decide +kernel, by decide +kernel, by decide +kernel, by decide +kernel⟩
set_option maxRecDepth 100000 in
set_option maxHeartbeats 4000000 in
theorem head17_true (w : World) : Calls Tryz.prog 10 #[] w fun e w' => e = .returned (.bool true) ∧ Below w.heap.size w w' := by
 have EX := ex17
 go_enter Tryz.func10, Tryz.ntmps10
 have hB0 := Below.refl w.heap.size w
 obtain ⟨w0, rfl⟩ : ∃ w0 : World, w0 = w := ⟨_, rfl⟩
 go_wp2_with fail
 (with_reducible refine (l17wreck_any 1 30 _).mono ?_)
 rintro z w1 ⟨rfl, hb1⟩
 have hB1 := below_step hB0 hb1
 go_wp2_with fail
 (with_reducible refine (l17light_any 2 _).mono ?_)
 rintro z w2 ⟨rfl, hb2⟩
 have hB2 := below_step hB1 hb2
 go_wp2_with fail
 refine calls_named fun w3 hw3 => ?_
 obtain ⟨p3, hb3⟩ := box1 hw3
 clear hw3
 have hB3 := below_step hB2 hb3
 have LST : Hid (FeatsAt w3 (.slice (some ⟨w2.heap.size, 0, none⟩) 2 2) [wreckF 1 30, lightF 2]) := Lib.hid (feats_block (items := [(wreckF 1 30, (.slice none 0 0), (.slice none 0 0)), (lightF 2, (.slice none 0 0), (.slice none 0 0))]) p3 rfl (by intro x hx; simp only [List.mem_cons, List.not_mem_nil, or_false] at hx; rcases hx with rfl | rfl <;> exact PartsAt.zero _) rfl rfl (by omega))
 clear p3
 (with_reducible refine (l17depth_any 1 20 _).mono ?_)
 rintro z w4 ⟨rfl, hb4⟩
 have hB4 := below_step hB3 hb4
 go_wp2_with fail
 (with_reducible refine (l17remove_any 2 _).mono ?_)
 rintro z w5 ⟨rfl, hb5⟩
 have hB5 := below_step hB4 hb5
 go_wp2_with fail
 refine calls_named fun w6 hw6 => ?_
 obtain ⟨p6, hb6⟩ := box1 hw6
 clear hw6
 have hB6 := below_step hB5 hb6
 have OPS : Hid (OpsAt w6 (.slice (some ⟨w5.heap.size, 0, none⟩) 2 2) [depO 1 20, delO 2]) := Lib.hid (ops_block (items := [(depO 1 20, (.slice none 0 0), (.slice none 0 0)), (delO 2, (.slice none 0 0), (.slice none 0 0))]) p6 rfl (by intro x hx; simp only [List.mem_cons, List.not_mem_nil, or_false] at hx; rcases hx with rfl | rfl <;> exact PartsAt.zero _) rfl rfl (by omega))
 clear p6
 (with_reducible refine (paApply_any _ _ _ _ _ (LST.out.later (below_step (below_step hb4 hb5) hb6)) OPS.out EX.ap1).mono ?_)
 rintro z w7 ⟨ad7, n7, c7, hl7, rfl, hf7, hb7⟩
 have hB7 := below_step hB6 hb7
 obtain rfl : 1 = n7 := hl7
 have FA := Lib.hid hf7
 clear hf7
 go_wp2_with fail
 (with_reducible refine (l17remove_any 2 _).mono ?_)
 rintro z w8 ⟨rfl, hb8⟩
 have hB8 := below_step hB7 hb8
 go_wp2_with fail
 refine calls_named fun w9 hw9 => ?_
 obtain ⟨p9, hb9⟩ := box1 hw9
 clear hw9
 have hB9 := below_step hB8 hb9
 have OP2 : Hid (OpsAt w9 (.slice (some ⟨w8.heap.size, 0, none⟩) 2 2) [delO 2, ⟨3, 2, noFeat, 0, 0, 0, 0, 0⟩]) := Lib.hid (ops_block (items := [(delO 2, (.slice none 0 0), (.slice none 0 0)), (⟨3, 2, noFeat, 0, 0, 0, 0, 0⟩, (.slice none 0 0), (.slice none 0 0))]) p9 rfl (by intro x hx; simp only [List.mem_cons, List.not_mem_nil, or_false] at hx; rcases hx with rfl | rfl <;> exact PartsAt.zero _) rfl rfl (by omega))
 clear p9
 (with_reducible refine (paApply_any _ _ _ _ _ (LST.out.later (below_step (below_step (below_step (below_step (below_step hb4 hb5) hb6) hb7) hb8) hb9)) OP2.out EX.ap2).mono ?_)
 rintro z w10 ⟨ad10, n10, c10, hl10, rfl, hf10, hb10⟩
 have hB10 := below_step hB9 hb10
 obtain rfl : 0 = n10 := hl10
 clear hf10 OP2
 go_wp2_with fail
 (with_reducible refine (l17depth_any 2 5 _).mono ?_)
 rintro z w11 ⟨rfl, hb11⟩
 have hB11 := below_step hB10 hb11
 go_wp2_with fail
 refine calls_named fun w12 hw12 => ?_
 obtain ⟨p12, hb12⟩ := box1 hw12
 clear hw12
 have hB12 := below_step hB11 hb12
 have OP3 : Hid (OpsAt w12 (.slice (some ⟨w11.heap.size, 0, none⟩) 1 1) [depO 2 5]) := Lib.hid (ops_block (items := [(depO 2 5, (.slice none 0 0), (.slice none 0 0))]) p12 rfl (by intro x hx; simp only [List.mem_cons, List.not_mem_nil, or_false] at hx; rcases hx with rfl <;> exact PartsAt.zero _) rfl rfl (by omega))
 clear p12
 (with_reducible refine (paApply_any _ _ _ _ _ (LST.out.later (below_step (below_step (below_step (below_step (below_step (below_step (below_step (below_step hb4 hb5) hb6) hb7) hb8) hb9) hb10) hb11) hb12)) OP3.out EX.ap3).mono ?_)
 rintro z w13 ⟨ad13, n13, c13, hl13, rfl, hf13, hb13⟩
 have hB13 := below_step hB12 hb13
 obtain rfl : 0 = n13 := hl13
 clear hf13 OP3
 go_wp2_with fail
 (with_reducible refine (paUndo_any _ _ _ _ _ (LST.out.later (below_step (below_step (below_step (below_step (below_step (below_step (below_step (below_step (below_step hb4 hb5) hb6) hb7) hb8) hb9) hb10) hb11) hb12) hb13)) (OPS.out.later (below_step (below_step (below_step (below_step (below_step (below_step hb7 hb8) hb9) hb10) hb11) hb12) hb13)) EX.un).mono ?_)
 rintro z w14 ⟨ad14, n14, c14, hl14, rfl, hf14, hb14⟩
 have hB14 := below_step hB13 hb14
 obtain rfl : 2 = n14 := hl14
 have FU := Lib.hid hf14
 clear hf14 LST OPS
 go_wp2_with fail
 (with_reducible refine (l17depth_any 1 3 _).mono ?_)
 rintro z w15 ⟨rfl, hb15⟩
 have hB15 := below_step hB14 hb15
 go_wp2_with fail
 (with_reducible refine (l17symbol_any 2 3 _).mono ?_)
 rintro z w16 ⟨rfl, hb16⟩
 have hB16 := below_step hB15 hb16
 go_wp2_with fail
 refine calls_named fun w17 hw17 => ?_
 obtain ⟨p17, hb17⟩ := box1 hw17
 clear hw17
 have hB17 := below_step hB16 hb17
 have OP4 : Hid (OpsAt w17 (.slice (some ⟨w16.heap.size, 0, none⟩) 2 2) [depO 1 3, symO 2 3]) := Lib.hid (ops_block (items := [(depO 1 3, (.slice none 0 0), (.slice none 0 0)), (symO 2 3, (.slice none 0 0), (.slice none 0 0))]) p17 rfl (by intro x hx; simp only [List.mem_cons, List.not_mem_nil, or_false] at hx; rcases hx with rfl | rfl <;> exact PartsAt.zero _) rfl rfl (by omega))
 clear p17
 (with_reducible refine (l17symbol_any 1 3 _).mono ?_)
 rintro z w18 ⟨rfl, hb18⟩
 have hB18 := below_step hB17 hb18
 go_wp2_with fail
 (with_reducible refine (l17remove_any 2 _).mono ?_)
 rintro z w19 ⟨rfl, hb19⟩
 have hB19 := below_step hB18 hb19
 go_wp2_with fail
 refine calls_named fun w20 hw20 => ?_
 obtain ⟨p20, hb20⟩ := box1 hw20
 clear hw20
 have hB20 := below_step hB19 hb20
 have OP5 : Hid (OpsAt w20 (.slice (some ⟨w19.heap.size, 0, none⟩) 2 2) [symO 1 3, delO 2]) := Lib.hid (ops_block (items := [(symO 1 3, (.slice none 0 0), (.slice none 0 0)), (delO 2, (.slice none 0 0), (.slice none 0 0))]) p20 rfl (by intro x hx; simp only [List.mem_cons, List.not_mem_nil, or_false] at hx; rcases hx with rfl | rfl <;> exact PartsAt.zero _) rfl rfl (by omega))
 clear p20
 (with_reducible refine (paCommute_any _ _ _ _ _ (OP4.out.later (below_step (below_step hb18 hb19) hb20)) OP5.out EX.co).mono ?_)
 rintro z w21 ⟨rfl, hb21⟩
 have hB21 := below_step hB20 hb21
 clear OP4 OP5
 go_wp2_with fail
 (with_reducible refine (l17symbol_any 1 7 _).mono ?_)
 rintro z w22 ⟨rfl, hb22⟩
 have hB22 := below_step hB21 hb22
 go_wp2_with fail
 (with_reducible refine (l17depth_any 1 20 _).mono ?_)
 rintro z w23 ⟨rfl, hb23⟩
 have hB23 := below_step hB22 hb23
 go_wp2_with fail
 (with_reducible refine (l17remove_any 1 _).mono ?_)
 rintro z w24 ⟨rfl, hb24⟩
 have hB24 := below_step hB23 hb24
 go_wp2_with fail
 (with_reducible refine (l17remove_any 2 _).mono ?_)
 rintro z w25 ⟨rfl, hb25⟩
 have hB25 := below_step hB24 hb25
 go_wp2_with fail
 (with_reducible refine (l17wreck_any 1 8 _).mono ?_)
 rintro z w26 ⟨rfl, hb26⟩
 have hB26 := below_step hB25 hb26
 go_wp2_with fail
 (with_reducible refine (l17insert_any (wreckF 1 8) (.slice none 0 0) (.slice none 0 0) _ ⟨_, _, _, _, _, _, rfl, rfl⟩).mono ?_)
 rintro z w27 ⟨rfl, hb27⟩
 have hB27 := below_step hB26 hb27
 go_wp2_with fail
 refine calls_named fun w28 hw28 => ?_
 obtain ⟨p28, hb28⟩ := box1 hw28
 clear hw28
 have hB28 := below_step hB27 hb28
 have OP6 : Hid (OpsAt w28 (.slice (some ⟨w27.heap.size, 0, none⟩) 5 5) [symO 1 7, depO 1 20, delO 1, delO 2, insO (wreckF 1 8)]) := Lib.hid (ops_block (items := [(symO 1 7, (.slice none 0 0), (.slice none 0 0)), (depO 1 20, (.slice none 0 0), (.slice none 0 0)), (delO 1, (.slice none 0 0), (.slice none 0 0)), (delO 2, (.slice none 0 0), (.slice none 0 0)), (insO (wreckF 1 8), (.slice none 0 0), (.slice none 0 0))]) p28 rfl (by intro x hx; simp only [List.mem_cons, List.not_mem_nil, or_false] at hx; rcases hx with rfl | rfl | rfl | rfl | rfl <;> exact PartsAt.zero _) rfl rfl (by omega))
 clear p28
 (with_reducible refine (paNormal_ex _ _ _ _ OP6.out EX.n1).mono ?_)
 rintro z w29 ⟨ad29, n29, c29, hl29, rfl, hf29, hb29⟩
 have hB29 := below_step hB28 hb29
 obtain rfl : 3 = n29 := hl29
 have FN := Lib.hid hf29
 clear hf29 OP6
 go_wp2_with fail
 (with_reducible refine (l17depth_any 1 20 _).mono ?_)
 rintro z w30 ⟨rfl, hb30⟩
 have hB30 := below_step hB29 hb30
 go_wp2_with fail
 (with_reducible refine (l17symbol_any 1 3 _).mono ?_)
 rintro z w31 ⟨rfl, hb31⟩
 have hB31 := below_step hB30 hb31
 go_wp2_with fail
 (with_reducible refine (l17depth_any 1 10 _).mono ?_)
 rintro z w32 ⟨rfl, hb32⟩
 have hB32 := below_step hB31 hb32
 go_wp2_with fail
 refine calls_named fun w33 hw33 => ?_
 obtain ⟨p33, hb33⟩ := box1 hw33
 clear hw33
 have hB33 := below_step hB32 hb33
 have OP7 : Hid (OpsAt w33 (.slice (some ⟨w32.heap.size, 0, none⟩) 3 3) [depO 1 20, symO 1 3, depO 1 10]) := Lib.hid (ops_block (items := [(depO 1 20, (.slice none 0 0), (.slice none 0 0)), (symO 1 3, (.slice none 0 0), (.slice none 0 0)), (depO 1 10, (.slice none 0 0), (.slice none 0 0))]) p33 rfl (by intro x hx; simp only [List.mem_cons, List.not_mem_nil, or_false] at hx; rcases hx with rfl | rfl | rfl <;> exact PartsAt.zero _) rfl rfl (by omega))
 clear p33
 (with_reducible refine (paNormal_ex _ _ _ _ OP7.out EX.n2).mono ?_)
 rintro z w34 ⟨ad34, n34, c34, hl34, rfl, hf34, hb34⟩
 have hB34 := below_step hB33 hb34
 obtain rfl : 2 = n34 := hl34
 have FM := Lib.hid hf34
 clear hf34 OP7
 go_wp2_with fail
 (with_reducible refine (l17remove_any 1 _).mono ?_)
 rintro z w35 ⟨rfl, hb35⟩
 have hB35 := below_step hB34 hb35
 go_wp2_with fail
 (with_reducible refine (l17depth_any 1 20 _).mono ?_)
 rintro z w36 ⟨rfl, hb36⟩
 have hB36 := below_step hB35 hb36
 go_wp2_with fail
 refine calls_named fun w37 hw37 => ?_
 obtain ⟨p37, hb37⟩ := box1 hw37
 clear hw37
 have hB37 := below_step hB36 hb37
 have OP8 : Hid (OpsAt w37 (.slice (some ⟨w36.heap.size, 0, none⟩) 2 2) [delO 1, depO 1 20]) := Lib.hid (ops_block (items := [(delO 1, (.slice none 0 0), (.slice none 0 0)), (depO 1 20, (.slice none 0 0), (.slice none 0 0))]) p37 rfl (by intro x hx; simp only [List.mem_cons, List.not_mem_nil, or_false] at hx; rcases hx with rfl | rfl <;> exact PartsAt.zero _) rfl rfl (by omega))
 clear p37
 (with_reducible refine (paNormal_exno _ _ _ OP8.out EX.n3).mono ?_)
 rintro z w38 ⟨rfl, hb38⟩
 have hB38 := below_step hB37 hb38
 clear OP8
 go_wp2_with fail
 (with_reducible refine (l17wreck_any 1 20 _).mono ?_)
 rintro z w39 ⟨rfl, hb39⟩
 have hB39 := below_step hB38 hb39
 go_wp2_with fail
 refine calls_named fun w40 hw40 => ?_
 obtain ⟨p40, hb40⟩ := box1 hw40
 clear hw40
 have hB40 := below_step hB39 hb40
 have FX : Hid (FeatsAt w40 (.slice (some ⟨w39.heap.size, 0, none⟩) 1 1) [wreckF 1 20]) := Lib.hid (feats_block (items := [(wreckF 1 20, (.slice none 0 0), (.slice none 0 0))]) p40 rfl (by intro x hx; simp only [List.mem_cons, List.not_mem_nil, or_false] at hx; rcases hx with rfl <;> exact PartsAt.zero _) rfl rfl (by omega))
 clear p40
 (with_reducible refine (q07SameList_any _ _ _ _ _ (FA.out.later (below_step (below_step (below_step (below_step (below_step (below_step (below_step (below_step (below_step (below_step (below_step (below_step (below_step (below_step (below_step (below_step (below_step (below_step (below_step (below_step (below_step (below_step (below_step (below_step (below_step (below_step (below_step (below_step (below_step (below_step (below_step (below_step hb8 hb9) hb10) hb11) hb12) hb13) hb14) hb15) hb16) hb17) hb18) hb19) hb20) hb21) hb22) hb23) hb24) hb25) hb26) hb27) hb28) hb29) hb30) hb31) hb32) hb33) hb34) hb35) hb36) hb37) hb38) hb39) hb40)) FX.out (decide_eq_true rfl)).mono ?_)
 rintro z w41 ⟨rfl, hb41⟩
 have hB41 := below_step hB40 hb41
 clear FX FA
 go_wp2_with fail
 (with_reducible refine (l17light_any 2 _).mono ?_)
 rintro z w42 ⟨rfl, hb42⟩
 have hB42 := below_step hB41 hb42
 go_wp2_with fail
 (with_reducible refine (l17insert_any (lightF 2) (.slice none 0 0) (.slice none 0 0) _ ⟨_, _, _, _, _, _, rfl, rfl⟩).mono ?_)
 rintro z w43 ⟨rfl, hb43⟩
 have hB43 := below_step hB42 hb43
 go_wp2_with fail
 (with_reducible refine (l17depth_any 1 30 _).mono ?_)
 rintro z w44 ⟨rfl, hb44⟩
 have hB44 := below_step hB43 hb44
 go_wp2_with fail
 refine calls_named fun w45 hw45 => ?_
 obtain ⟨p45, hb45⟩ := box1 hw45
 clear hw45
 have hB45 := below_step hB44 hb45
 have OP9 : Hid (OpsAt w45 (.slice (some ⟨w44.heap.size, 0, none⟩) 2 2) [insO (lightF 2), depO 1 30]) := Lib.hid (ops_block (items := [(insO (lightF 2), (.slice none 0 0), (.slice none 0 0)), (depO 1 30, (.slice none 0 0), (.slice none 0 0))]) p45 rfl (by intro x hx; simp only [List.mem_cons, List.not_mem_nil, or_false] at hx; rcases hx with rfl | rfl <;> exact PartsAt.zero _) rfl rfl (by omega))
 clear p45
 (with_reducible refine (q16Ops_any _ _ _ _ _ (FU.out.later (below_step (below_step (below_step (below_step (below_step (below_step (below_step (below_step (below_step (below_step (below_step (below_step (below_step (below_step (below_step (below_step (below_step (below_step (below_step (below_step (below_step (below_step (below_step (below_step (below_step (below_step (below_step (below_step (below_step (below_step hb15 hb16) hb17) hb18) hb19) hb20) hb21) hb22) hb23) hb24) hb25) hb26) hb27) hb28) hb29) hb30) hb31) hb32) hb33) hb34) hb35) hb36) hb37) hb38) hb39) hb40) hb41) hb42) hb43) hb44) hb45)) OP9.out (decide_eq_true rfl)).mono ?_)
 rintro z w46 ⟨rfl, hb46⟩
 have hB46 := below_step hB45 hb46
 clear OP9 FU
 go_wp2_with fail
 (with_reducible refine (l17remove_any 1 _).mono ?_)
 rintro z w47 ⟨rfl, hb47⟩
 have hB47 := below_step hB46 hb47
 go_wp2_with fail
 (with_reducible refine (l17remove_any 2 _).mono ?_)
 rintro z w48 ⟨rfl, hb48⟩
 have hB48 := below_step hB47 hb48
 go_wp2_with fail
 (with_reducible refine (l17wreck_any 1 8 _).mono ?_)
 rintro z w49 ⟨rfl, hb49⟩
 have hB49 := below_step hB48 hb49
 go_wp2_with fail
 (with_reducible refine (l17insert_any (wreckF 1 8) (.slice none 0 0) (.slice none 0 0) _ ⟨_, _, _, _, _, _, rfl, rfl⟩).mono ?_)
 rintro z w50 ⟨rfl, hb50⟩
 have hB50 := below_step hB49 hb50
 go_wp2_with fail
 refine calls_named fun w51 hw51 => ?_
 obtain ⟨p51, hb51⟩ := box1 hw51
 clear hw51
 have hB51 := below_step hB50 hb51
 have OP10 : Hid (OpsAt w51 (.slice (some ⟨w50.heap.size, 0, none⟩) 3 3) [delO 1, delO 2, insO (wreckF 1 8)]) := Lib.hid (ops_block (items := [(delO 1, (.slice none 0 0), (.slice none 0 0)), (delO 2, (.slice none 0 0), (.slice none 0 0)), (insO (wreckF 1 8), (.slice none 0 0), (.slice none 0 0))]) p51 rfl (by intro x hx; simp only [List.mem_cons, List.not_mem_nil, or_false] at hx; rcases hx with rfl | rfl | rfl <;> exact PartsAt.zero _) rfl rfl (by omega))
 clear p51
 (with_reducible refine (q16Ops_any _ _ _ _ _ (FN.out.later (below_step (below_step (below_step (below_step (below_step (below_step (below_step (below_step (below_step (below_step (below_step (below_step (below_step (below_step (below_step (below_step (below_step (below_step (below_step (below_step (below_step hb30 hb31) hb32) hb33) hb34) hb35) hb36) hb37) hb38) hb39) hb40) hb41) hb42) hb43) hb44) hb45) hb46) hb47) hb48) hb49) hb50) hb51)) OP10.out (decide_eq_true rfl)).mono ?_)
 rintro z w52 ⟨rfl, hb52⟩
 have hB52 := below_step hB51 hb52
 clear OP10 FN
 go_wp2_with fail
 (with_reducible refine (l17depth_any 1 10 _).mono ?_)
 rintro z w53 ⟨rfl, hb53⟩
 have hB53 := below_step hB52 hb53
 go_wp2_with fail
 (with_reducible refine (l17symbol_any 1 3 _).mono ?_)
 rintro z w54 ⟨rfl, hb54⟩
 have hB54 := below_step hB53 hb54
 go_wp2_with fail
 refine calls_named fun w55 hw55 => ?_
 obtain ⟨p55, hb55⟩ := box1 hw55
 clear hw55
 have hB55 := below_step hB54 hb55
 have OP11 : Hid (OpsAt w55 (.slice (some ⟨w54.heap.size, 0, none⟩) 2 2) [depO 1 10, symO 1 3]) := Lib.hid (ops_block (items := [(depO 1 10, (.slice none 0 0), (.slice none 0 0)), (symO 1 3, (.slice none 0 0), (.slice none 0 0))]) p55 rfl (by intro x hx; simp only [List.mem_cons, List.not_mem_nil, or_false] at hx; rcases hx with rfl | rfl <;> exact PartsAt.zero _) rfl rfl (by omega))
 clear p55
 (with_reducible refine (q16Ops_any _ _ _ _ _ (FM.out.later (below_step (below_step (below_step (below_step (below_step (below_step (below_step (below_step (below_step (below_step (below_step (below_step (below_step (below_step (below_step (below_step (below_step (below_step (below_step (below_step hb35 hb36) hb37) hb38) hb39) hb40) hb41) hb42) hb43) hb44) hb45) hb46) hb47) hb48) hb49) hb50) hb51) hb52) hb53) hb54) hb55)) OP11.out (decide_eq_true rfl)).mono ?_)
 rintro z w56 ⟨rfl, hb56⟩
 have hB56 := below_step hB55 hb56
 clear OP11 FM
 go_wp2_with fail
 go_returns
 exact ⟨rfl, hB56⟩
end Go.Proofs.YtdmegkkifiahdaaGreat
