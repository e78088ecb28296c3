/- For any station, sun, box, times and number: the statement StationMatchesReference of chapter 31 (all functions return what the reference returns): the law's function returns true and leaves its arguments as they were. No condition. -/
import Derived.Test.YtnidacjmgekdjaaStationHead
import Derived.Test.YtnidacjmgekdjaaStationT
import Derived.Test.YtnidacjmgekdjaaFrameS
namespace Go.Proofs.Ytnidacjmgekdjaa
open Go.ChangeShapes Go.WideShapes Go.ChangeAt Go.RowKit
attribute [local go_sem] bqOp bqAll bqUpon
attribute [local irreducible] wpQuiet wpBQ
set_option linter.unusedVariables false
set_option maxRecDepth 100000 in
set_option maxHeartbeats 4000000 in
theorem stationMatchesReference_walk (id ax ay dr nr fi ev dn dk xl xh yl yh t t2 k : Int) (w : World) :
    Calls Try.prog 3 #[.agg #[.int .i64 id, .int .i64 ax, .int .i64 ay, .int .i64 dr, .int .i64 nr, .int .i64 fi, .int .i64 ev], .agg #[.int .i64 dn, .int .i64 dk], .agg #[.int .i64 xl, .int .i64 xh, .int .i64 yl, .int .i64 yh], .int .i64 t, .int .i64 t2, .int .i64 k] w fun e w' => e = .returned (.bool true) ∧ Below w.heap.size w w' := by
  obtain ⟨b0, h0⟩ : ∃ b0, decide (Stn id ax ay dr nr fi ev) = b0 := ⟨_, rfl⟩
  have H0 := Lib.hid h0
  clear h0
  obtain ⟨⟨a1, e1⟩, h⟩ : ∃ r, lightR dn dk t = r := ⟨_, rfl⟩
  have A1 := Lib.hid (fun w => sLight_any dn dk t w h)
  have B1 := Lib.hid (fun w => r31Light_any dn dk t w h)
  clear h
  obtain ⟨⟨a2, e2⟩, h⟩ : ∃ r, rangeR id ax ay dr nr fi ev dn dk t = r := ⟨_, rfl⟩
  have A2 := Lib.hid (fun w => sRange_any id ax ay dr nr fi ev dn dk t w h)
  have B2 := Lib.hid (fun w => r31Range_any id ax ay dr nr fi ev dn dk t w h)
  clear h
  obtain ⟨⟨a3, e3⟩, h⟩ : ∃ r, hearsR id ax ay dr nr fi ev dn dk xl xh yl yh t = r := ⟨_, rfl⟩
  have A3 := Lib.hid (fun w => sHears_any id ax ay dr nr fi ev dn dk xl xh yl yh t w h)
  have B3 := Lib.hid (fun w => r31Hears_any id ax ay dr nr fi ev dn dk xl xh yl yh t w h)
  clear h
  obtain ⟨⟨a4, e4⟩, h⟩ : ∃ r, slotR id ax ay dr nr fi ev k = r := ⟨_, rfl⟩
  have A4 := Lib.hid (fun w => sSlot_any id ax ay dr nr fi ev k w h)
  have B4 := Lib.hid (fun w => r31Slot_any id ax ay dr nr fi ev k w h)
  clear h
  obtain ⟨⟨a5, c5, e5⟩, h⟩ : ∃ r, slotsR id ax ay dr nr fi ev t t2 = r := ⟨_, rfl⟩
  have A5 := Lib.hid (fun w => sSlots_any id ax ay dr nr fi ev t t2 w h)
  have B5 := Lib.hid (fun w => r31Slots_any id ax ay dr nr fi ev t t2 w h)
  clear h
  obtain ⟨⟨L, e6⟩, h⟩ : ∃ r, sureR id ax ay dr nr fi ev dn dk xl xh yl yh t t2 = r := ⟨_, rfl⟩
  have A6 := Lib.hid (fun w => sSure_any id ax ay dr nr fi ev dn dk xl xh yl yh t t2 w h)
  have B6 := Lib.hid (fun w => r31Sure_any id ax ay dr nr fi ev dn dk xl xh yl yh t t2 w h)
  have LN := Lib.hid (sureR_len h)
  clear h
  obtain ⟨⟨a7, e7⟩, h⟩ : ∃ r, nextR id ax ay dr nr fi ev t = r := ⟨_, rfl⟩
  have A7 := Lib.hid (fun w => sNext_any id ax ay dr nr fi ev t w h)
  have B7 := Lib.hid (fun w => r31Next_any id ax ay dr nr fi ev t w h)
  clear h
  go_enter Try.func3, Try.ntmps3
  go_wp2_with fail
  refine wp_named fun W hW => ?_
  obtain ⟨p1, p2, p3, hB⟩ := box3 hW
  clear hW
  have r1 := cellsR p1
  have P1 := Lib.hid p1
  have P2 := Lib.hid p2
  have P3 := Lib.hid p3
  clear p1 p2 p3
  (refine wp_region_quiet_below (by kernel_rfl) (by kernel_rfl) ?_; (repeat (refine wpQuiet_step (fun K hK => ?_); replace hK := Lib.hid hK; go_simp; first | (refine hK.out _ ?_; clear hK K) | (apply Exists.intro; refine ⟨fun _ => ?_, hK.out _ ?_⟩; (first | (go_at_call 11; exact Calls.regrown_of (head_true _)) | (go_at_call 12; exact Calls.regrown_of (sValid_any _ _ _ _ _ _ _ _ H0.out)) | (go_at_call 13; exact Calls.regrown_of (r31Valid_any _ _ _ _ _ _ _ _ H0.out))); clear hK K))); refine wpQuiet_nil ?_)
  intro w0 hr0
  have hB0 := regrown_below hr0
  clear hr0 r1
  have q1 := cellsL P1.out
  have q2 := cellsL P2.out
  have q3 := cellsL P3.out
  go_wp2_with fail
  (with_reducible refine (A1.out _).mono ?_)
  rintro e w1 ⟨rfl, hb1⟩
  have hB1 := below_step hB0 hb1
  go_wp2_with fail
  (with_reducible refine (B1.out _).mono ?_)
  rintro e w2 ⟨rfl, hb2⟩
  have hB2 := below_step hB1 hb2
  go_wp2_with fail
  (with_reducible refine (A2.out _).mono ?_)
  rintro e w3 ⟨rfl, hb3⟩
  have hB3 := below_step hB2 hb3
  go_wp2_with fail
  (with_reducible refine (B2.out _).mono ?_)
  rintro e w4 ⟨rfl, hb4⟩
  have hB4 := below_step hB3 hb4
  go_wp2_with fail
  (with_reducible refine (A3.out _).mono ?_)
  rintro e w5 ⟨rfl, hb5⟩
  have hB5 := below_step hB4 hb5
  go_wp2_with fail
  (with_reducible refine (B3.out _).mono ?_)
  rintro e w6 ⟨rfl, hb6⟩
  have hB6 := below_step hB5 hb6
  go_wp2_with fail
  (with_reducible refine (A4.out _).mono ?_)
  rintro e w7 ⟨rfl, hb7⟩
  have hB7 := below_step hB6 hb7
  go_wp2_with fail
  (with_reducible refine (B4.out _).mono ?_)
  rintro e w8 ⟨rfl, hb8⟩
  have hB8 := below_step hB7 hb8
  go_wp2_with fail
  (with_reducible refine (A5.out _).mono ?_)
  rintro e w9 ⟨rfl, hb9⟩
  have hB9 := below_step hB8 hb9
  have hXa := fun o => hB9.alloc hB9.size o
  go_wp2_with fail
  refine calls_named fun y1 hy1 => ?_
  obtain ⟨p5, hy⟩ := box1 hy1
  have hBy := below_step hB9 hy
  clear hy1 hXa
  have P5 := Lib.hid p5
  clear p5
  (with_reducible refine (B5.out _).mono ?_)
  rintro e w10 ⟨rfl, hb10⟩
  have hB10 := below_step hBy hb10
  have hXa := fun o => hB10.alloc hB10.size o
  have p5 := block_later hb10 P5.out
  have c5' := fun o => cell_block (block_alloc (o' := o) p5)
  go_upto_region 16 with (fail)
  refine wp_named fun y2 hy2 => ?_
  obtain ⟨p6, hy'⟩ := box1 hy2
  have hBz := below_step hB10 hy'
  clear hy2 hXa c5'
  have c5' := cell_block (block_later hy' p5)
  have c6' := cell_block p6
  clear p5 p6
  have hB10 := hBz
  go_wp2_with fail
  clear c5' c6'
  (with_reducible refine (A6.out _).mono ?_)
  rintro e w11 ⟨sl1, rfl, hb11, hl1⟩
  have hB11 := below_step hB10 hb11
  have HL1 := Lib.hid hl1
  clear hl1
  go_wp2_with fail
  (with_reducible refine (B6.out _).mono ?_)
  rintro e w12 ⟨sl2, rfl, hb12, hl2⟩
  have hB12 := below_step hB11 hb12
  have HL2 := Lib.hid hl2
  clear hl2
  go_wp2_with fail
  (with_reducible refine (ints_any _ _ L L _ (by have := LN.out; omega) (HL1.out.later hb12) HL2.out (r := true) (by simp)).mono ?_)
  rintro e w13 ⟨rfl, hb13⟩
  have hB13 := below_step hB12 hb13
  go_wp2_with fail
  (with_reducible refine (A7.out _).mono ?_)
  rintro e w14 ⟨rfl, hb14⟩
  have hB14 := below_step hB13 hb14
  go_wp2_with fail
  (with_reducible refine (B7.out _).mono ?_)
  rintro e w15 ⟨rfl, hb15⟩
  have hB15 := below_step hB14 hb15
  go_wp2_with fail
  go_returns
  exact ⟨rfl, below_step hB hB15⟩
set_option maxRecDepth 100000 in
theorem stationMatchesReference_lifted (os : Os) (started : os.Started) (H : Type) (enc : TypeId × Value → H) :
    ReturnsInHanded {} Try.checked os 3 .any (Rows.stationMatchesReferenceSpec.pre6 enc Try.prog Try.f3 Rows.stationMatchesReferenceRow.domain false) (Rows.stationMatchesReferenceSpec.post enc Try.prog Try.f3 false true false false) := by
  refine returnsInHanded_of_change (C := Try.checked) own_knob started (by kernel_rfl) Try.func3
    (ChangeSpec.witness6 (enc := enc) (C := Try.checked) false ⟨#[], #[.agg #[.int .i64 0, .int .i64 0, .int .i64 0, .int .i64 0, .int .i64 0, .int .i64 0, .int .i64 0], .agg #[.int .i64 0, .int .i64 0], .agg #[.int .i64 0, .int .i64 0, .int .i64 0, .int .i64 0], .int .i64 0, .int .i64 0, .int .i64 0], []⟩ 8 (by kernel_rfl) (by kernel_rfl) (by kernel_rfl) (by kernel_rfl)) ?_
  intro W base args ds gs before hval0 hW hcnd _
  have hval : ∀ (j : Nat) t v, Try.f3.params[j]? = some t → args[j]? = some v → Value.okWide Try.prog W .any base t v := hval0
  have hW' := hW
  obtain ⟨p, q, hA0, hV, rfl, hfz, hnd⟩ := hW
  have hA : DataW.TrodAll enc Try.prog W 0 (fun _ => true) true Try.f3.params.toList args.toList ds p := hA0
  rw [Try.params3] at hA hval
  obtain ⟨v0, vs0, d0, ds0, p0, q0, hargs, rfl, rfl, h0, r0⟩ := trodAll_cons hA
  obtain ⟨v1, vs1, d1, ds1, p1, q1, rfl, rfl, rfl, h1, r1⟩ := trodAll_cons r0
  obtain ⟨v2, vs2, d2, ds2, p2, q2, rfl, rfl, rfl, h2, r2⟩ := trodAll_cons r1
  obtain ⟨v3, vs3, d3, ds3, p3, q3, rfl, rfl, rfl, h3, r3⟩ := trodAll_cons r2
  obtain ⟨v4, vs4, d4, ds4, p4, q4, rfl, rfl, rfl, h4, r4⟩ := trodAll_cons r3
  obtain ⟨v5, vs5, d5, ds5, p5, q5, rfl, rfl, rfl, h5, r5⟩ := trodAll_cons r4
  obtain ⟨rfl, rfl, rfl⟩ := trodAll_nil r5
  obtain rfl : args = #[v0, v1, v2, v3, v4, v5] := by cases args; simp_all
  obtain ⟨rfl, rfl⟩ := trodVars_none hV
  simp only [List.append_nil] at hW' hA0
  obtain ⟨id, ax, ay, dr, nr, fi, ev, e0⟩ := open_station (hval 0 25 v0 rfl rfl) h0
  subst e0
  obtain ⟨dn, dk, e1⟩ := open_sun (hval 1 27 v1 rfl rfl) h1
  subst e1
  obtain ⟨xl, xh, yl, yh, e2⟩ := open_box (hval 2 31 v2 rfl rfl) h2
  subst e2
  obtain ⟨t, e3, _, _, w3⟩ := open_int Try.underlying3 (hval 3 3 v3 rfl rfl) h3
  subst e3
  obtain ⟨t2, e4, _, _, w4⟩ := open_int Try.underlying3 (hval 4 3 v4 rfl rfl) h4
  subst e4
  obtain ⟨k, e5, _, _, w5⟩ := open_int Try.underlying3 (hval 5 3 v5 rfl rfl) h5
  subst e5
  refine (stationMatchesReference_walk id ax ay dr nr fi ev dn dk xl xh yl yh t t2 k W).mono fun e W' ⟨he, hg⟩ => ?_
  subst he
  exact ⟨_, rfl, post_law laid_out (by rw [Try.params3]; intro t ht; simp only [List.mem_cons, List.not_mem_nil, or_false] at ht; rcases ht with rfl | rfl | rfl | rfl | rfl | rfl <;> exact ⟨by kernel_rfl, of_decide_eq_true (by kernel_rfl)⟩) rfl hW' hA0 rfl rfl rfl rfl Try.underlying4 hg⟩
theorem stationMatchesReference_over : Rows.stationMatchesReferenceRow.holds Try.pinned (OpenSpec.ofChange Rows.stationMatchesReferenceSpec) :=
  OpenClaim.holds_of_wide 3 Try.f3 rfl rfl rfl rfl rfl rfl rfl ⟨rfl, rfl, rfl, rfl, rfl⟩ rfl rfl rfl rfl rfl (by kernel_rfl) Try.func3 (by kernel_rfl)
    (of_decide_eq_true (by kernel_rfl)) (by unfold Func.isWrapper; first | (rw [if_pos (by decide +kernel)]; kernel_rfl) | (rw [if_neg (by decide +kernel)]; exact ⟨rfl, rfl⟩))
    (fun os started H enc _ => stationMatchesReference_lifted os started H enc)
theorem stationMatchesReference_holds : Rows.StationMatchesReferenceSaid :=
  stationMatchesReference_over
#print axioms stationMatchesReference_holds
end Go.Proofs.Ytnidacjmgekdjaa
