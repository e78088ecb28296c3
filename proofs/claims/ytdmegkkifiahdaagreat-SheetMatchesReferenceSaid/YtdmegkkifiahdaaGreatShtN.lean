/- The head of chapter 14's laws answers true. -/
import Derived.Test.YtdmegkkifiahdaaGreatFromL
import Derived.Test.YtdmegkkifiahdaaGreatShtM
namespace Go.Proofs.YtdmegkkifiahdaaGreat
open Go.RowKit
attribute [local go_sem] bqOp bqAll bqUpon sqOp sqAll sqUpon ssOp ssAll
attribute [local irreducible] wpQuiet wpBQ wpPlan wsPlan
set_option linter.unusedVariables false
def enc40 : List Int := [7, 2, 3, 1000000, 0, 0, 0, 1000000, 0, 0, 500, 2, 4, 9, 1, 5, 2, 6, 1, 2, 3, 40]
theorem ints_block {w : World} {b n : Nat} {l : List Int} {T : TypeId} {m : Nat × Nat} (h : w.heap[b]? = some (.cells (l.map (Value.int .i64)).toArray T m)) (hn : l.length = n) (hl : n ≤ 9223372036854775807) : IntsAt w (.slice (some ⟨b, 0, none⟩) n n) l := by
  subst hn
  refine ⟨⟨_, _, rfl, hl, fun i hi => ⟨b, 0, rfl, fun j hj => ?_⟩⟩, fun _ _ _ e => by cases e; exact Nat.le_refl _⟩
  obtain rfl : j = 0 := by omega
  rw [cell_block h]
  simp [hi]
theorem len_rows {w : World} {v : Value} {l : List Int} {n : Nat} (h : IntsAt w v l) (hn : l.length = n) : Rows 1 w v n (fun i _ => l.getD i 0) := by
  subst hn
  exact h.rows
structure Ex14 : Prop where
  v40 : ShtOk (exS 40)
  v20 : ShtOk (exS 20)
  len : (encS (exS 40)).length = 22
  p15 : Vld 1 5
  p16 : Vld 1 6
  s15 : shownS (exS 40) 1 5 = 40
  s16 : shownS (exS 40) 1 6 = 500
  find : look (exS 40).feats 4 = none
  diff : ∀ l, DiffL (exS 40).feats (exS 20).feats l → [5] = l
  from40 : fromL (encS (exS 40)) = some (exS 40)
  same22 : RowsEq 1 22 22 (fun i _ => (encS (exS 40)).getD i 0) (fun i _ => enc40.getD i 0)
  same1 : decide (RowsEq 1 1 1 (fun i _ => ([5] : List Int).getD i 0) (fun i _ => ([5] : List Int).getD i 0)) = true
  diff40 : decide (exS 40 = exS 20) = false
theorem ex14 : Ex14 where
  v40 := by decide +kernel
  v20 := by decide +kernel
  len := rfl
  p15 := by decide
  p16 := by decide
  s15 := by decide +kernel
  s16 := by decide +kernel
  find := by decide +kernel
  diff := fun l h => by
    have h1 : DiffL (exS 40).feats (exS 20).feats [5] := diffL_of (List.pairwise_singleton _ _) (List.pairwise_singleton _ _) (by rw [show diffIds (exS 40).feats (exS 20).feats = [5] by decide +kernel]) (List.pairwise_singleton _ _)
    exact rise_ext h1.1 h.1 fun x => (h1.2 x).trans (h.2 x).symm
  from40 := from_enc _ (by decide +kernel)
  same22 := by decide +kernel
  same1 := by decide +kernel
  diff40 := by decide +kernel
set_option maxRecDepth 100000 in
set_option maxHeartbeats 4000000 in
theorem head14_true (w : World) : Calls Tryz.prog 29 #[] w fun e w' => e = .returned (.bool true) ∧ Below w.heap.size w w' := by
  have EX := ex14
  go_enter Tryz.func29, Tryz.ntmps29
  have hB0 := Below.refl w.heap.size w
  go_wp2_with fail
  (with_reducible refine (l14example_any 40 _).mono ?_)
  rintro z w1 ⟨a1, c1, f1, g1, rfl, hd1, hf1, hb1⟩
  have hB1 := below_step hB0 hb1
  have D1 := Lib.hid hd1
  have F1 := Lib.hid hf1
  clear hd1 hf1
  go_wp2_with fail
  (with_reducible refine (shInts_yes (exS 40) _ _ _ D1.out F1.out EX.v40).mono ?_)
  rintro z w2 ⟨ai, ci, he, hi, hb2⟩
  have hB2 := below_step hB1 hb2
  rw [EX.len] at he hi
  subst he
  have I := Lib.hid hi
  clear hi hb1 D1 F1
  go_wp2_with fail
  (with_reducible refine (l14example_any 40 _).mono ?_)
  rintro z w3 ⟨a2, c2, f2, g2, rfl, hd2, hf2, hb3⟩
  have hB3 := below_step hB2 hb3
  have D2 := Lib.hid hd2
  have F2 := Lib.hid hf2
  clear hd2 hf2
  go_wp2_with fail
  (with_reducible refine (shShown_yes (exS 40) _ _ 1 5 _ D2.out F2.out EX.v40 EX.p15 EX.s15).mono ?_)
  rintro z w4 ⟨rfl, hb4⟩
  have hB4 := below_step hB3 hb4
  clear D2 F2
  go_wp2_with fail
  (with_reducible refine (l14example_any 40 _).mono ?_)
  rintro z w5 ⟨a3, c3, f3, g3, rfl, hd3, hf3, hb5⟩
  have hB5 := below_step hB4 hb5
  have D3 := Lib.hid hd3
  have F3 := Lib.hid hf3
  clear hd3 hf3
  go_wp2_with fail
  (with_reducible refine (shShown_yes (exS 40) _ _ 1 6 _ D3.out F3.out EX.v40 EX.p16 EX.s16).mono ?_)
  rintro z w6 ⟨rfl, hb6⟩
  have hB6 := below_step hB5 hb6
  clear D3 F3
  go_wp2_with fail
  (with_reducible refine (l14example_any 40 _).mono ?_)
  rintro z w7 ⟨a4, c4, f4, g4, rfl, hd4, hf4, hb7⟩
  have hB7 := below_step hB6 hb7
  have D4 := Lib.hid hd4
  have F4 := Lib.hid hf4
  clear hd4 hf4
  go_wp2_with fail
  (with_reducible refine (shFind_none (exS 40) _ _ 4 _ D4.out F4.out EX.v40 (by omega) (by omega) EX.find).mono ?_)
  rintro z w8 ⟨rfl, hb8⟩
  have hB8 := below_step hB7 hb8
  clear D4 F4
  go_wp2_with fail
  refine calls_named fun w9 hw9 => ?_
  obtain ⟨p7, hb9⟩ := box1 hw9
  clear hw9
  have hB9 := below_step hB8 hb9
  clear p7
  (with_reducible refine (l14example_any 40 _).mono ?_)
  rintro z w10 ⟨a5, c5, f5, g5, rfl, hd5, hf5, hb10⟩
  have hB10 := below_step hB9 hb10
  have D5 := Lib.hid hd5
  have F5 := Lib.hid hf5
  clear hd5 hf5
  go_wp2_with fail
  (with_reducible refine (l14example_any 20 _).mono ?_)
  rintro z w11 ⟨a6, c6, f6, g6, rfl, hd6, hf6, hb11⟩
  have hB11 := below_step hB10 hb11
  have D6 := Lib.hid hd6
  have F6 := Lib.hid hf6
  clear hd6 hf6
  go_wp2_with fail
  (with_reducible refine (shDiffer_yes (exS 40) (exS 20) _ _ _ _ _ (intsL D5.out hb11) (F5.out.later hb11) D6.out F6.out EX.v40 EX.v20).mono ?_)
  rintro z w12 ⟨ax, cx, lx, hdl, hlx, rfl, hx, hb12⟩
  have hB12 := below_step hB11 hb12
  obtain rfl := EX.diff _ hdl
  have X : Hid (IntsAt _ (.slice ax 1 cx) [5]) := Lib.hid hx
  clear hx hdl hlx D5 F5 D6 F6
  simp only [List.length_cons, List.length_nil, Nat.zero_add]
  go_wp2_with fail
  (with_reducible refine (shFrom_yesN EX.len ai ci _ (intsL I.out (below_step (below_step (below_step (below_step (below_step (below_step (below_step (below_step (below_step hb3 hb4) hb5) hb6) hb7) hb8) hb9) hb10) hb11) hb12)) EX.from40).mono ?_)
  rintro z w13 ⟨az, cz, ag, cg, rfl, hs, hg, hb13⟩
  have hB13 := below_step hB12 hb13
  have S := Lib.hid hs
  have G := Lib.hid hg
  clear hs hg
  go_wp2_with fail
  refine calls_named fun w14 hw14 => ?_
  obtain ⟨p11, p12, hb14⟩ := box2 hw14
  clear hw14
  have hB14 := below_step hB13 hb14
  have Q11 := Lib.hid p11
  have S11 := Lib.hid (intsL S.out hb14)
  have G11 := Lib.hid (G.out.later hb14)
  have IL := Lib.hid (intsL I.out (below_step (below_step (below_step (below_step (below_step (below_step (below_step (below_step (below_step (below_step (below_step hb3 hb4) hb5) hb6) hb7) hb8) hb9) hb10) hb11) hb12) hb13) hb14))
  have LL : Hid (IntsAt w14 (.slice (some ⟨w13.heap.size + 1, 0, none⟩) 22 22) enc40) := Lib.hid (ints_block p12 (by decide) (by decide))
  clear p11 p12
  (with_reducible refine (q08Ints_any 22 22 _ _ _ _ _ _ _ (len_rows IL.out EX.len) (len_rows LL.out rfl) (by omega) (by omega) (decide_eq_true EX.same22)).mono ?_)
  rintro z w15 ⟨rfl, hb15⟩
  have hB15 := below_step hB14 hb15
  clear IL LL
  have q11 := cellsL (block_later hb15 Q11.out)
  go_wp2_with fail
  have q11 := cellsR (block_later hb15 Q11.out)
  have XW := Lib.hid (intsL X.out (below_step (below_step hb13 hb14) hb15))
  have SW := Lib.hid (intsL S11.out hb15)
  have GW := Lib.hid (G11.out.later hb15)
  clear X S11 G11 S G
  refine wp_region_plan (.take 0 (.take 0 (.take 0 (.only 0 (.only 0 (.take 0 (.take 0 (.take 0 (.only 0 (.only 0 (.take 0 (.take 0 (.take 0 (.only 0 (.only 0 (.take 0 (.take 0 (.take 0 .done)))))))))))))))))) (by kernel_rfl) (by kernel_rfl) (fun hP => ?_)
  repeat' (first
    | (refine wpPlan_two ?_ ?_)
    | (refine wpPlan_three ?_ ?_ ?_)
    | (refine wpPlan_take rfl (fun K hK => ?_); replace hK := Lib.hid hK; go_simp; first | (refine hK.out _ ?_; clear hK K) | (apply Exists.intro; refine ⟨fun _ => ?_, hK.out _ ?_⟩; (first | with_reducible exact rfl | skip); clear hK K))
    | (refine wpPlan_only rfl (fun K hK => ?_); replace hK := Lib.hid hK; (first | (go_simp; first | (go_at_call 28; (with_reducible refine (q08Ints_any 1 1 _ _ _ _ _ _ _ (len_rows (intsL XW.out hP) rfl) (len_rows (ints_block (l := [5]) hq (by decide) (by decide)) rfl) (by omega) (by omega) EX.same1).mono ?_); rintro e wx ⟨rfl, hbx⟩; clear hq) | (go_at_call 103; (with_reducible refine (l14example_any 40 _).mono ?_); rintro e wx ⟨a7, c7, f7, g7, rfl, hd7, hf7, hbx⟩; have D7 := Lib.hid hd7; have F7 := Lib.hid hf7; clear hd7 hf7) | (go_at_call 34; (with_reducible refine (q14Same_any (exS 40) (exS 40) _ _ _ _ _ (intsL SW.out hP) (GW.out.later hP) D7.out F7.out (decide_eq_true rfl)).mono ?_); rintro e wx ⟨rfl, hbx⟩; clear D7 F7) | (go_at_call 103; (with_reducible refine (l14example_any 20 _).mono ?_); rintro e wx ⟨a8, c8, f8, g8, rfl, hd8, hf8, hbx⟩; have D8 := Lib.hid hd8; have F8 := Lib.hid hf8; clear hd8 hf8) | (go_at_call 33; (with_reducible refine (shSame_any (exS 40) (exS 20) _ _ _ _ _ (intsL SW.out hP) (GW.out.later hP) D8.out F8.out EX.diff40).mono ?_); rintro e wx ⟨rfl, hbx⟩)) | (go_simp; have hq := block_new w15 (Obj.cells #[Value.int .i64 5] 3); have hBq := ((Below.refl w15.heap.size w15).alloc (Nat.le_refl _) (Obj.cells #[Value.int .i64 5] 3)).drew; generalize hwn : World.drew (World.alloc w15 (Obj.cells #[Value.int .i64 5] 3)) = wn at hBq ⊢; replace hq : wn.heap[w15.heap.size]? = some (Obj.cells #[Value.int .i64 5] 3 (0, 0)) := (by subst hwn; exact hq); clear hwn) | (go_simp; first | skip)); refine hK.out _ _ (by first | assumption | exact below_step hP hbx | exact hP.drew | exact hP.alloc hP.size _) (fun hP => ?_); clear hK K))
  all_goals refine wpPlan_done ?_
  go_wp2_with fail
  go_returns
  exact ⟨rfl, below_step hB15 hP⟩
end Go.Proofs.YtdmegkkifiahdaaGreat
