/- The walk of the head of chapter 31's laws: the examples with known results. -/
import Derived.Test.YtnidacjmgekdjaaStationJ
import Derived.Deep.RegionWith
import Derived.Deep.CutRange
namespace Go.Proofs.Ytnidacjmgekdjaa
open Go.RowKit
attribute [local go_sem] bqOp bqAll bqUpon
attribute [local irreducible] wpQuiet wpBQ
theorem hS : Stn 1 0 0 50 100 30 240 := ⟨by omega, by omega, ⟨by omega, by omega, by omega, by omega⟩, by omega, by omega, by omega, by omega, by omega, by omega, by omega, by omega⟩
theorem hU : Sn 360 1080 := ⟨by omega, by omega, by omega⟩
theorem hB1 : Bx 30 60 40 40 := ⟨by omega, by omega, by omega, by omega, by omega, by omega⟩
theorem hB2 : Bx 51 60 0 0 := ⟨by omega, by omega, by omega, by omega, by omega, by omega⟩
theorem below_drew (w : World) : Below w.heap.size w w.drew := (Below.refl _ _).drew
theorem tm {t : Int} (h1 : 0 ≤ t) (h2 : t ≤ 10000000) : Tm t := ⟨h1, h2⟩
set_option maxRecDepth 100000 in
set_option maxHeartbeats 4000000 in
theorem head_true (w : World) : Calls Try.prog 11 #[] w fun e w' => e = .returned (.bool true) ∧ Below w.heap.size w w' := by
  go_enter Try.func11, Try.ntmps11
  go_wp2_with fail
  refine calls_named fun W hW => ?_
  obtain ⟨p1, p2, hB⟩ := box2 hW
  clear hW
  have q1 := cellsL p1
  have q2 := cellsL p2
  have P1 := Lib.hid p1
  have P2 := Lib.hid p2
  clear p1 p2
  (with_reducible refine (sLight_yes 360 1080 360 _ hU (tm (by omega) (by omega)) (v := true) (by decide)).mono ?_)
  rintro e w1 ⟨rfl, hb1⟩
  have hW1 := hb1
  go_wp2_with fail
  (with_reducible refine (sLight_yes 360 1080 1080 _ hU (tm (by omega) (by omega)) (v := false) (by decide)).mono ?_)
  rintro e w2 ⟨rfl, hb2⟩
  have hW2 := below_step hW1 hb2
  go_wp2_with fail
  (with_reducible refine (sLight_yes 360 1080 1799 _ hU (tm (by omega) (by omega)) (v := false) (by decide)).mono ?_)
  rintro e w3 ⟨rfl, hb3⟩
  have hW3 := below_step hW2 hb3
  go_wp2_with fail
  (with_reducible refine (sRange_yes 1 0 0 50 100 30 240 360 1080 400 _ hS hU (tm (by omega) (by omega)) (n := 50) (by decide)).mono ?_)
  rintro e w4 ⟨rfl, hb4⟩
  have hW4 := below_step hW3 hb4
  go_wp2_with fail
  (with_reducible refine (sRange_yes 1 0 0 50 100 30 240 360 1080 100 _ hS hU (tm (by omega) (by omega)) (n := 100) (by decide)).mono ?_)
  rintro e w5 ⟨rfl, hb5⟩
  have hW5 := below_step hW4 hb5
  go_wp2_with fail
  clear q1 q2
  have r1 := cellsR (block_later hW5 P1.out)
  have r2 := cellsR (block_later hW5 P2.out)
  (refine wp_region_quiet_below (by kernel_rfl) (by kernel_rfl) ?_; (repeat (refine wpQuiet_step (fun K hK => ?_); replace hK := Lib.hid hK; go_simp; first | (refine hK.out _ ?_; clear hK K) | (apply Exists.intro; refine ⟨fun _ => ?_, hK.out _ ?_⟩; (first | (go_at_call 29; exact Calls.regrown_of (box_any _ _ _ _ _)) | (go_at_call 18; exact Calls.regrown_of (sHears_yes 1 0 0 50 100 30 240 360 1080 30 60 40 40 400 _ hS hU hB1 (tm (by omega) (by omega)) (h := 0) (by decide)))); clear hK K))); refine wpQuiet_nil ?_)
  intro w6 hr6
  have hW6 := below_step hW5 (regrown_below hr6)
  clear hr6 r1 r2
  have q1 := cellsL P1.out
  have q2 := cellsL P2.out
  go_wp2_with fail
  clear q1 q2
  have r1 := cellsR (block_later hW6 P1.out)
  have r2 := cellsR (block_later hW6 P2.out)
  (refine wp_region_quiet_below (by kernel_rfl) (by kernel_rfl) ?_; (repeat (refine wpQuiet_step (fun K hK => ?_); replace hK := Lib.hid hK; go_simp; first | (refine hK.out _ ?_; clear hK K) | (apply Exists.intro; refine ⟨fun _ => ?_, hK.out _ ?_⟩; (first | (go_at_call 29; exact Calls.regrown_of (box_any _ _ _ _ _)) | (go_at_call 18; exact Calls.regrown_of (sHears_yes 1 0 0 50 100 30 240 360 1080 30 60 40 40 100 _ hS hU hB1 (tm (by omega) (by omega)) (h := 1) (by decide)))); clear hK K))); refine wpQuiet_nil ?_)
  intro w7 hr7
  have hW7 := below_step hW6 (regrown_below hr7)
  clear hr7 r1 r2
  have q1 := cellsL P1.out
  have q2 := cellsL P2.out
  go_wp2_with fail
  clear q1 q2
  have r1 := cellsR (block_later hW7 P1.out)
  have r2 := cellsR (block_later hW7 P2.out)
  (refine wp_region_quiet_below (by kernel_rfl) (by kernel_rfl) ?_; (repeat (refine wpQuiet_step (fun K hK => ?_); replace hK := Lib.hid hK; go_simp; first | (refine hK.out _ ?_; clear hK K) | (apply Exists.intro; refine ⟨fun _ => ?_, hK.out _ ?_⟩; (first | (go_at_call 29; exact Calls.regrown_of (box_any _ _ _ _ _)) | (go_at_call 18; exact Calls.regrown_of (sHears_yes 1 0 0 50 100 30 240 360 1080 51 60 0 0 400 _ hS hU hB2 (tm (by omega) (by omega)) (h := -1) (by decide)))); clear hK K))); refine wpQuiet_nil ?_)
  intro w8 hr8
  have hW8 := below_step hW7 (regrown_below hr8)
  clear hr8 r1 r2
  have q1 := cellsL P1.out
  have q2 := cellsL P2.out
  go_wp2_with fail
  (with_reducible refine (sSlot_yes 1 0 0 50 100 30 240 3 _ hS (by omega) (by omega) (z := 750) (by omega)).mono ?_)
  rintro e w9 ⟨rfl, hb9⟩
  have hW9 := below_step hW8 hb9
  go_wp2_with fail
  (with_reducible refine (sSlots_yes 1 0 0 50 100 30 240 30 511 _ hS (tm (by omega) (by omega)) (tm (by omega) (by omega)) (by omega) (a := 0) (b := 3) (c := 2) (by decide) (by decide) (by omega) (by omega)).mono ?_)
  rintro e w10 ⟨rfl, hb10⟩
  have hW10 := below_step hW9 hb10
  have hA10 := fun o => hW10.alloc hW10.size o
  go_wp2_with fail
  refine calls_named fun W11 hE11 => ?_
  obtain ⟨p21, hb11⟩ := box1 hE11
  have hW11 := below_step hW10 hb11
  clear hE11 hA10
  have P21 := Lib.hid p21
  clear p21
  (with_reducible refine (sSlots_none 1 0 0 50 100 30 240 31 270 _ hS (tm (by omega) (by omega)) (tm (by omega) (by omega)) (by omega) (a := 1) (by decide) (by decide)).mono ?_)
  rintro e w12 ⟨rfl, hb12⟩
  have hW12 := below_step hW11 hb12
  have hA12 := fun o => hW12.alloc hW12.size o
  go_wp2_with fail
  refine wp_named fun W13 hE13 => ?_
  obtain ⟨p23, hb13⟩ := box1 hE13
  have hW13 := below_step hW12 hb13
  have p21 := block_later (below_step hb12 hb13) P21.out
  have P21' := Lib.hid p21
  clear hE13 hA12 p23 p21 P21 q1 q2
  have e0 : pickL (sureB 0 0 50 100 30 240 360 1080 30 60 40 40) 0 6 = [0, 1, 5] := by decide
  have HX := Lib.hid (fun w => box_any 30 60 40 40 w)
  have HY := Lib.hid (fun w => sSure_yes 1 0 0 50 100 30 240 360 1080 30 60 40 40 0 1440 w hU hB1 hS (tm (by omega) (by omega)) (tm (by omega) (by omega)) (by omega) (a := 0) (b := 6) (N := 6) (by decide) (by decide) (by omega) (by omega) (by omega))
  rw [e0] at HY
  clear e0
  go_cut [25, 26] from 95 to 101 (fun s25 s26 wx => s26 = .int .i64 0 ∧ Below W13.heap.size W13 wx ∧ Lst wx s25 [0, 1, 5])
  case first =>
    have q1 := cellsL (block_later hW13 P1.out)
    have q2 := cellsL (block_later hW13 P2.out)
    have hW0 := Below.refl W13.heap.size W13
    have c1 := cell_block (block_later hW13 P1.out)
    have c2 := cell_block (block_later hW13 P2.out)
    go_region_with (first | (go_at_call 29; refine (HX.out _).mono ?_; rintro e wb ⟨rfl, hbb⟩; have hbW := below_step (below_drew W13) hbb) | (go_at_call 24; refine (HY.out _).mono ?_; rintro e ws ⟨sl, rfl, hbs, hown⟩; replace hown := Lib.hid (Lst.owned hown); have hsW : Below W13.heap.size W13 ws := by first | exact below_step hbW hbs | exact below_step hbW.drew hbs | exact below_step hbW.drew.drew hbs))
    all_goals (go_wp2_with fail; go_meet; exact ⟨rfl, hsW, hown.out⟩)
  case rest =>
    obtain ⟨rfl, hW14, hl⟩ := hcut
    have q1 := cellsL (block_later hW13 P1.out)
    have q21 := cellsL P21'.out
    have HL := Lib.hid hl
    clear hl HX HY
    go_wp2_with fail
    (with_reducible refine (sNext_yes 1 0 0 50 100 30 240 31 _ hS (tm (by omega) (by omega)) (a := 1) (by decide) (by omega)).mono ?_)
    rintro e w15 ⟨rfl, hb15⟩
    have hW15 := below_step hW14 hb15
    go_wp2_with fail
    refine calls_named fun W16 hE16 => ?_
    obtain ⟨p16, hb16⟩ := box1 hE16
    clear hE16
    have hW16 := below_step hW15 hb16
    refine (ints_any _ _ [0, 1, 5] [0, 1, 5] _ (by decide) ((HL.out.later hb15).later hb16) ⟨some ⟨_, 0, none⟩, 3, rfl, fun i hi => ⟨_, rfl, by rw [cell_block p16]; match i, hi with | 0, _ => rfl | 1, _ => rfl | 2, _ => rfl⟩⟩ (r := true) (by decide)).mono ?_
    rintro e w17 ⟨rfl, hb17⟩
    have hW17 := below_step hW16 hb17
    go_wp2_with fail
    (with_reducible refine (sValid_any 1 0 0 50 100 30 240 _ (decide_eq_true hS)).mono ?_)
    rintro e w18 ⟨rfl, hb18⟩
    have hW18 := below_step hW17 hb18
    go_wp2_with fail
    go_returns
    exact ⟨rfl, below_step hB (below_step hW13 hW18)⟩
end Go.Proofs.Ytnidacjmgekdjaa
